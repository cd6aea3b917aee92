/- PROVED: thresherlaw11.PrintfJoins: two formats, one behind the other, write what the first writes, and then what the second writes with the values that are left (where what is read is of bulk 1048576 at most). -/
import Derived.Test.YtfdnhkjeoeffoaaGreatDoorI20
import Derived.Test.YtfdnhkjeoeffoaaGreatDoorM9
import Derived.SizedLaws
import Derived.Test.YtfdnhkjeoeffoaaGreatDoorFD7
import Derived.Test.YtfdnhkjeoeffoaaGreatDoorZ3D
set_option linter.unusedVariables false
set_option linter.unusedSimpArgs false
namespace Go.Proofs.YtfdnhkjeoeffoaaGreatDoor
open Go.ChangeShapes Go.WideShapes Go.ChangeAt Go.RowKit
open Go.ChangeMaps (open_string shut_string)
set_option linter.unusedVariables false
theorem sz_card (s : ByteArray) : s.size = s.data.toList.length := by cases s; simp [ByteArray.size]
theorem printfJoins_met (os : Os) : laidMet Tryz.prog Rows.printfJoinsUptoRow.laid ((laidWorld os).forCall (fun _ _ => 0) ⟨#[], #[.string ⟨#[]⟩, .string ⟨#[]⟩, .slice none 0 0], []⟩).memory :=
 laid_met os _
theorem printfJoins_reads (os : Os) {H : Type} (enc : TypeId × Value → H) : ∃ places, DataW.whole enc Tryz.prog ((laidWorld os).forCall (fun _ _ => 0) ⟨#[], #[.string ⟨#[]⟩, .string ⟨#[]⟩, .slice none 0 0], []⟩).memory Tryz.f8.params.toList Rows.printfJoinsSpec.vars false (#[Value.string ⟨#[]⟩, .string ⟨#[]⟩, .slice none 0 0] : Array Value).toList 8 = some ([.lit (.string []), .lit (.string []), .nil], [], places) :=
 ⟨[], by kernel_rfl⟩
set_option maxRecDepth 100000 in
theorem printfJoins_lifted (os : Os) (started : os.Started) (H : Type) (enc : TypeId × Value → H) (F : Stop.Interp) :
 ReturnsInHanded {} Tryz.checked os 8 .any ((Rows.OpenSpec.upto Rows.printfJoinsSpec).preRow enc Tryz.prog Tryz.f8 Rows.printfJoinsUptoRow.domain false Rows.printfJoinsUptoRow.laid) (((Rows.OpenSpec.upto Rows.printfJoinsSpec).at F).post enc Tryz.prog Tryz.f8 false true false false) := by
 obtain ⟨places, hx⟩ := printfJoins_reads os enc
 refine returnsInHanded_of_row (C := Tryz.checked) (s := Rows.OpenSpec.upto Rows.printfJoinsSpec) own started (by kernel_rfl) Tryz.func8
  (witness_row_atRef (enc := enc) (C := Tryz.checked) false (laidWorld os) #[.string ⟨#[]⟩, .string ⟨#[]⟩, .slice none 0 0] rfl (by kernel_rfl) (by kernel_rfl) (by kernel_rfl)
   (OpenSpec.preRow_of_cond 8 hx (by kernel_rfl) (fun k hk => by cases hk; kernel_rfl) (by kernel_rfl) (printfJoins_met os))) ?_
 intro W base args ds gs before hval0 hW _ hcond hWt hL hSh _
 have hval : ∀ (j : Nat) t v, Tryz.f8.params[j]? = some t → args[j]? = some v → Value.okWide Tryz.prog W .any base t v := hval0
 have hW' := hW
 obtain ⟨p, q, hA0, hV, rfl, hfz, hnd⟩ := hW
 have hA : DataW.TrodAll enc Tryz.prog W 0 (fun _ => true) true Tryz.f8.params.toList args.toList ds p := hA0
 rw [Tryz.params8] at hA hval
 obtain ⟨v0, vs0, d0, ds0, p0, q0, hargs, rfl, rfl, h0, r0⟩ := trodAll_cons hA
 obtain ⟨v1, vs1, d1, ds1, p1, q1, rfl, rfl, rfl, h1, r1⟩ := trodAll_cons r0
 obtain ⟨v2, vs2, d2, ds2, p2, q2, rfl, rfl, rfl, h2, r2⟩ := trodAll_cons r1
 obtain ⟨rfl, rfl, rfl⟩ := trodAll_nil r2
 obtain rfl : args = #[v0, v1, v2] := by cases args; simp_all
 obtain ⟨rfl, rfl⟩ := trodVars_none hV
 obtain ⟨s0, rfl, rfl, rfl, w0⟩ := open_string Tryz.underlying9 (hval 0 9 v0 rfl rfl) h0
 obtain ⟨s1, rfl, rfl, rfl, w1⟩ := open_string Tryz.underlying9 (hval 1 9 v1 rfl rfl) h1
 obtain ⟨fa2, fn2, fc2, rfl⟩ := okWide_slice Tryz.underlying52 (hval 2 52 v2 rfl rfl)
 have lt2 : ∀ x ∈ p2, x.block < W.heap.size := by
  obtain ⟨m, hm⟩ := h2
  exact DataW.trod_lt m _ _ _ hm
 obtain ⟨L2, rs2, nc2, ok2, bk2⟩ : ∃ L : List CellT, OnesR W fa2 fn2 L ∧ fn2 ≤ fc2 ∧ (∀ e ∈ L, e.2.1 < 18446744073709551616) ∧ sizeC L + fn2 ≤ Rows.uptoBulk d2 := by
  obtain ⟨m, hm⟩ := h2
  exact open_onesR hm
 have bz2 : sizeC L2 + fn2 ≤ 1048576 := by
  have hb := bulk_joins (hcond _ rfl)
  omega
 clear hA0 hval0
 have z0 : s0.size ≤ 900000000 := by
  have hb := bulk_joins (hcond _ rfl)
  rw [sz_card]; omega
 have z1 : s1.size ≤ 900000000 := by
  have hb := bulk_joins (hcond _ rfl)
  rw [sz_card]; omega
 refine (joins11_law s0 s1 L2 W (tabs5_of hL hSh) z0 z1 rs2 nc2 ok2 bz2).mono fun e W' ⟨he, bel⟩ => ?_
 subst he
 exact ⟨_, rfl, _, _, _, [], _, [], hW', trodAll_mk1 (shut_bool Tryz.underlying4 _), (trodAll_cons_mk (shut_string Tryz.underlying9 w0) (trodAll_cons_mk (shut_string Tryz.underlying9 w1) (trodAll_cons_mk (Below.trod laidOut (by kernel_rfl) (of_decide_eq_true (by kernel_rfl)) h2 bel lt2) trodAll_mk0))), rfl, bel.frame _, fun h => by cases h⟩
theorem and_mk {a b : Bool} (ha : a = true) (hb : b = true) : (a && b) = true := by rw [ha, hb]; rfl
set_option maxHeartbeats 4000000 in
theorem printfJoins_closed : joinedFacts Tryz.pinned.checked.prog 8 Tryz.f8 (Rows.OpenSpec.upto Rows.printfJoinsSpec).bare Rows.printfJoinsUptoRow = true := by
 unfold joinedFacts
 repeat' (with_reducible refine and_mk ?_ ?_)
 all_goals (as_aux_lemma => kernel_rfl)
theorem printfJoins_said : Rows.PrintfJoinsUptoSaid :=
 OpenClaim.holds_of_cond 8 Tryz.f8 rfl rfl rfl rfl rfl rfl rfl ⟨rfl, rfl, rfl, rfl, rfl⟩ rfl rfl rfl rfl rfl (by kernel_rfl) Tryz.func8 printfJoins_closed
  (of_decide_eq_true (by kernel_rfl)) (by unfold Func.isWrapper; first | (rw [if_pos (by decide +kernel)]; kernel_rfl) | (rw [if_neg (by decide +kernel)]; exact ⟨rfl, rfl⟩))
  (fun os started H enc _ F => by rw [OpenClaim.pre_eq_preRow]; exact printfJoins_lifted os started H enc F)
theorem printfJoins_plain (f : FuncId) (fn : Func) (hf : Tryz.pinned.checked.prog.funcNamed "thresher/thresherlaw11.PrintfJoins" = some f) (hfn : Tryz.pinned.checked.prog.funcs[f]? = some fn) :
 true = Tryz.pinned.checked.prog.looks [] ∧ ∀ (j : Nat) t, fn.params[j]? = some t → Tryz.pinned.checked.prog.wantsStandIn t = false := by
 obtain rfl : f = 8 := Option.some.inj ((show Tryz.prog.funcNamed "thresher/thresherlaw11.PrintfJoins" = some 8 by kernel_rfl).symm.trans hf) |>.symm
 obtain rfl : fn = Tryz.f8 := (Option.some.inj (Tryz.func8.symm.trans hfn)).symm
 refine ⟨by kernel_rfl, fun j t ht => ?_⟩
 rw [Tryz.params8] at ht
 have hm : t ∈ ([9, 9, 52] : List TypeId) := by simpa using Array.mem_of_getElem? ht
 have hall : (([9, 9, 52] : List TypeId).all fun u => !Tryz.prog.wantsStandIn u) = true := by kernel_rfl
 exact (show Tryz.prog.wantsStandIn t = false by simpa using List.all_eq_true.1 hall t hm)
theorem printfJoins_card : Rows.PrintfJoinsUptoCardSaid :=
 Claim7.holds_tied_plain_at .later [] _ _ _ _ printfJoins_said (fun _ h => by cases h) (by kernel_rfl) (fun _ h => by cases h) printfJoinsUpto_row_tie rfl ⟨rfl, rfl⟩ (by kernel_rfl) rfl printfJoins_plain (by kernel_rfl)
end Go.Proofs.YtfdnhkjeoeffoaaGreatDoor
