/- The world of the witnesses: the settled one, with the eight listed tables. -/
import Derived.Test.YtfdnhkjeoeffoaaGreatDoorCards
import Derived.Test.YtfdnhkjeoeffoaaGreatDoorTie
import Derived.Test.YtfdnhkjeoeffoaaGreatDoorShelf
import Derived.WalkKit
import Derived.ProofKit
import Derived.OpenShut
import Derived.ShutString
import Derived.Deep.DeepHandedRow
import Derived.Deep.DeepLaidRun
import Derived.LaidSub
import Derived.Deep.DeepWitnessRowRef
import Derived.Lib.LaidU8
import Derived.Lib.LaidCaseMet
import Derived.Test.YtfdnhkjeoeffoaaGreatDoorZ1
namespace Go.Proofs.YtfdnhkjeoeffoaaGreatDoor
open Go.ChangeShapes Go.WideShapes Go.ChangeAt Go.RowKit Go.Lib

theorem own : ownKnob Tryz.prog.godebug = none := by kernel_rfl
/-- the numbers of a datum, one behind the other -/
def flatU (d : DataW Unit) : List Value := match d with
  | .agg l => l.flatMap fun x => match x with
    | .lit (.int k z) => [.int k z]
    | .agg m => m.filterMap fun y => match y with
      | .lit (.int k z) => some (.int k z)
      | _ => none
    | _ => []
  | _ => []
/-- the text of an error's datum -/
def textU (d : DataW Unit) : List UInt8 := match d with
  | .iface _ (.ptr (.agg [.lit (.string s)])) => s
  | _ => []
def putCells (c : Array Value) : Obj → Obj
  | .cells _ t frozen => .cells c t frozen
  | o => o
/-- the blocks that the two errors and unicode.CaseRanges lead to -/
noncomputable def leadBlocks : Array Obj := #[.cells #[.string ⟨(textU Rows.laid_strconv_ErrRange).toArray⟩] 347, .cells #[.string ⟨(textU Rows.laid_strconv_ErrSyntax).toArray⟩] 347, .cells Lib.caseCells5 (Tryz.lays262_ren.t 208)]
noncomputable def laidWorld (os : Os) : World :=
  let N := (World.settled Tryz.prog os).heap.size
  { World.holding Tryz.prog os ⟨leadBlocks, #[], []⟩ with
    heap := ((((((((World.holding Tryz.prog os ⟨leadBlocks, #[], []⟩).heap.modify 5 (putCells (flatU Rows.laid_unicode_utf8_acceptRanges).toArray)).modify 4 (putCells (flatU Rows.laid_unicode_utf8_first).toArray)).modify 8 (putCells (flatU Rows.laid_internal_strconv_uint64pow10).toArray)).modify 9 (putCells (flatU Rows.laid_math_bits_deBruijn32tab).toArray)).modify 10 (putCells (flatU Rows.laid_math_bits_deBruijn64tab).toArray)).modify 7 (putCells #[.iface 345 (.pointer (some ⟨N, 0, none⟩))])).modify 6 (putCells #[.iface 345 (.pointer (some ⟨N + 1, 0, none⟩))])).modify 3 (putCells #[.slice (some ⟨N + 2, 0, none⟩) 336 336]) }
theorem wf_u64 {n : Int} (h : (Lit.int .u64 n).wf = true) : 0 ≤ n ∧ n < 18446744073709551616 := by
  have h2 : (decide (IntKind.u64.min ≤ n) && decide (n ≤ IntKind.u64.max)) = true := h
  rw [Bool.and_eq_true, decide_eq_true_eq, decide_eq_true_eq, show IntKind.u64.min = 0 by decide, show IntKind.u64.max = 18446744073709551615 by decide] at h2
  omega
theorem wf_i64 {n : Int} (h : (Lit.int .i64 n).wf = true) : -9223372036854775808 ≤ n ∧ n ≤ 9223372036854775807 := by
  have h2 : (decide (IntKind.i64.min ≤ n) && decide (n ≤ IntKind.i64.max)) = true := h
  rw [Bool.and_eq_true, decide_eq_true_eq, decide_eq_true_eq, show IntKind.i64.min = -9223372036854775808 by decide, show IntKind.i64.max = 9223372036854775807 by decide] at h2
  omega

theorem laidVars_split {P : Program} {w : World} : ∀ {l l' : List (String × DataW Unit)} {ps : List MemPlace}, DataW.LaidVars P w (l ++ l') ps → ∃ p q, ps = p ++ q ∧ DataW.LaidVars P w l p ∧ DataW.LaidVars P w l' q
  | [], _, ps, h => ⟨[], ps, rfl, rfl, h⟩
  | (n, d) :: r, l', ps, h => by
    obtain ⟨g, t, cs, fuel, p, q, h1, h2, h3, h4, h5, rfl⟩ := h
    obtain ⟨p', q', rfl, h6, h7⟩ := laidVars_split h5
    exact ⟨_, q', (List.append_assoc ..).symm, ⟨g, t, cs, fuel, p, p', h1, h2, h3, h4, h6, rfl⟩, h7⟩
theorem laidMet_swap {P : Program} {w : World} {l a b : List (String × DataW Unit)} (h : laidMet P (l ++ a ++ b) w) : laidMet P (l ++ b ++ a) w := by
  obtain ⟨ps, h1, h2, h3⟩ := h
  obtain ⟨p, q, rfl, h4, h5⟩ := laidVars_split h1
  obtain ⟨p1, p2, rfl, h6, h7⟩ := laidVars_split h4
  have hp : (p1 ++ q ++ p2).Perm (p1 ++ p2 ++ q) := by
    rw [List.append_assoc, List.append_assoc]
    exact List.Perm.append_left p1 List.perm_append_comm
  exact ⟨p1 ++ q ++ p2, LaidVars_append (LaidVars_append h6 h5) h7, hp.nodup_iff.2 h2, fun b off hm => h3 b off (hp.mem_iff.1 hm)⟩

/-- what the rows list, unicode.CaseRanges last -/
def smallL : List (String × DataW Unit) := [("math/bits.deBruijn32tab", Rows.laid_math_bits_deBruijn32tab), ("math/bits.deBruijn64tab", Rows.laid_math_bits_deBruijn64tab), ("internal/strconv.uint64pow10", Rows.laid_internal_strconv_uint64pow10), ("unicode/utf8.acceptRanges", Rows.laid_unicode_utf8_acceptRanges), ("strconv.ErrRange", Rows.laid_strconv_ErrRange), ("strconv.ErrSyntax", Rows.laid_strconv_ErrSyntax)]
theorem case_data : Rows.laid_unicode_CaseRanges = (Lib.caseData : DataW Unit) := by kernel_rfl
theorem laid_small (os : Os) (args : Array Value) : laidMet Tryz.prog ((smallL ++ [("unicode/utf8.first", Rows.laid_unicode_utf8_first)]) ++ [("unicode.CaseRanges", Lib.caseData)]) ((laidWorld os).forCall (fun _ _ => 0) ⟨#[], args, []⟩).memory :=
  laidMet_with_case (ρ := Tryz.lays262_ren) { Tryz.lays262 with } (by kernel_rfl) ⟨by kernel_rfl, by kernel_rfl, by kernel_rfl, by kernel_rfl, by kernel_rfl, by kernel_rfl⟩
    (l := smallL ++ [("unicode/utf8.first", Rows.laid_unicode_utf8_first)])
    10 (by kernel_rfl) (by kernel_rfl) (by kernel_rfl) ((World.settled Tryz.prog default).heap.size + 2) (Tryz.lays262_ren.t 208) (of_decide_eq_true (by kernel_rfl)) (by kernel_rfl) (by kernel_rfl) (by kernel_rfl)
theorem laid_met (os : Os) (args : Array Value) : laidMet Tryz.prog (smallL ++ [("unicode.CaseRanges", Rows.laid_unicode_CaseRanges)] ++ [("unicode/utf8.first", Rows.laid_unicode_utf8_first)]) ((laidWorld os).forCall (fun _ _ => 0) ⟨#[], args, []⟩).memory := by
  rw [case_data]
  exact laidMet_swap (laid_small os args)
end Go.Proofs.YtfdnhkjeoeffoaaGreatDoor
