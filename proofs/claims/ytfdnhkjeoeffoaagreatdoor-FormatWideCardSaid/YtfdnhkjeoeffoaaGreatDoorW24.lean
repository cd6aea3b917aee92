/- PROVED: thresherlaw05.FormatWide: what is written of any float by any flags, verb, width and precision is at least as wide as it should be, and as what is written without a width with blanks or noughts put in. -/
import Derived.Test.YtfdnhkjeoeffoaaGreatDoorW20
import Derived.Test.YtfdnhkjeoeffoaaGreatDoorFD3
import Derived.Test.YtfdnhkjeoeffoaaGreatDoorAW2
import Derived.Test.YtfdnhkjeoeffoaaGreatDoorZ1
namespace Go.Proofs.YtfdnhkjeoeffoaaGreatDoor
open Go.ChangeShapes Go.WideShapes Go.ChangeAt Go.RowKit
open Go.ChangeMaps (open_string shut_string)
set_option linter.unusedVariables false

theorem sz_card (s : ByteArray) : s.size = s.data.toList.length := by cases s; simp [ByteArray.size]
theorem formatWide_met (os : Os) : laidMet Tryz.prog Rows.formatWideRow.laid ((laidWorld os).forCall (fun _ _ => 0) ⟨#[], #[.agg #[.bool false, .bool false, .bool false, .bool false, .bool false, .int .i64 0, .int .i64 0, .int .u8 0], .int .u64 0], []⟩).memory :=
  laid_met os _
theorem formatWide_reads (os : Os) {H : Type} (enc : TypeId × Value → H) : ∃ places, DataW.whole enc Tryz.prog ((laidWorld os).forCall (fun _ _ => 0) ⟨#[], #[.agg #[.bool false, .bool false, .bool false, .bool false, .bool false, .int .i64 0, .int .i64 0, .int .u8 0], .int .u64 0], []⟩).memory Tryz.f4.params.toList Rows.formatWideSpec.vars false (#[Value.agg #[.bool false, .bool false, .bool false, .bool false, .bool false, .int .i64 0, .int .i64 0, .int .u8 0], .int .u64 0] : Array Value).toList 8 = some ([.agg [.lit (.bool false), .lit (.bool false), .lit (.bool false), .lit (.bool false), .lit (.bool false), .lit (.int .i64 0), .lit (.int .i64 0), .lit (.int .u8 0)], .lit (.int .u64 0)], [], places) :=
  ⟨[], by kernel_rfl⟩

set_option maxRecDepth 100000 in
theorem formatWide_lifted (os : Os) (started : os.Started) (H : Type) (enc : TypeId × Value → H) (F : Stop.Interp) :
    ReturnsInHanded {} Tryz.checked os 4 .any ((OpenSpec.ofChange Rows.formatWideSpec).preRow enc Tryz.prog Tryz.f4 Rows.formatWideRow.domain false Rows.formatWideRow.laid) (((OpenSpec.ofChange Rows.formatWideSpec).at F).post enc Tryz.prog Tryz.f4 false true false false) := by
  obtain ⟨places, hx⟩ := formatWide_reads os enc
  refine returnsInHanded_of_row (C := Tryz.checked) (s := OpenSpec.ofChange Rows.formatWideSpec) own started (by kernel_rfl) Tryz.func4
    (witness_row_atRef (enc := enc) (C := Tryz.checked) false (laidWorld os) #[.agg #[.bool false, .bool false, .bool false, .bool false, .bool false, .int .i64 0, .int .i64 0, .int .u8 0], .int .u64 0] rfl (by kernel_rfl) (by kernel_rfl) (by kernel_rfl)
      (OpenSpec.preRow_of_cond 8 hx (by kernel_rfl) (fun k hk => by cases hk) (by kernel_rfl) (formatWide_met os))) ?_
  intro W base args ds gs before hval0 hW _ _ hWt hL hSh _
  have hval : ∀ (j : Nat) t v, Tryz.f4.params[j]? = some t → args[j]? = some v → Value.okWide Tryz.prog W .any base t v := hval0
  have hW' := hW
  obtain ⟨p, q, hA0, hV, rfl, hfz, hnd⟩ := hW
  have hA : DataW.TrodAll enc Tryz.prog W 0 (fun _ => true) true Tryz.f4.params.toList args.toList ds p := hA0
  rw [Tryz.params4] at hA hval
  obtain ⟨v0, vs0, d0, ds0, p0, q0, hargs, rfl, rfl, h0, r0⟩ := trodAll_cons hA
  obtain ⟨v1, vs1, d1, ds1, p1, q1, rfl, rfl, rfl, h1, r1⟩ := trodAll_cons r0
  obtain ⟨rfl, rfl, rfl⟩ := trodAll_nil r1
  obtain rfl : args = #[v0, v1] := by cases args; simp_all
  obtain ⟨rfl, rfl⟩ := trodVars_none hV
  obtain ⟨m0, p0, b0, a0, z0, wd0, pr0, vb0, rfl, rfl, rfl, bw0, bp0, bv0, w0⟩ := open_spec (hval 0 35 v0 rfl rfl) h0
  obtain ⟨a1, rfl, rfl, rfl, w1⟩ := open_int Tryz.underlying22 (hval 1 22 v1 rfl rfl) h1
  clear hA0 hval0
  have cw0 := wf_i64 bw0
  have cp0 := wf_i64 bp0
  have cv0 := wf_u8 bv0
  obtain ⟨n0, rfl⟩ : ∃ n : Nat, vb0 = (n : Int) := ⟨vb0.toNat, by omega⟩
  have b1 := wf_u64 w1
  obtain ⟨n1, rfl⟩ : ∃ n : Nat, a1 = (n : Int) := ⟨a1.toNat, by omega⟩
  refine (wide5_law m0 p0 b0 a0 z0 wd0 pr0 n0 n1 W (tabs5_of hL hSh) (by omega) (by omega)).mono fun e W' ⟨he, bel⟩ => ?_
  subst he
  exact ⟨_, rfl, _, _, _, [], _, [], hW', trodAll_mk1 (shut_bool Tryz.underlying4 _), (trodAll_cons_mk (w0 _ _ _ _) (trodAll_cons_mk (shut_int Tryz.underlying22 w1) trodAll_mk0)), rfl, bel.frame _, fun h => by cases h⟩

theorem and_mk {a b : Bool} (ha : a = true) (hb : b = true) : (a && b) = true := by rw [ha, hb]; rfl
set_option maxHeartbeats 4000000 in
theorem formatWide_closed : joinedFacts Tryz.pinned.checked.prog 4 Tryz.f4 (OpenSpec.ofChange Rows.formatWideSpec).bare Rows.formatWideRow = true := by
  unfold joinedFacts
  repeat' (with_reducible refine and_mk ?_ ?_)
  all_goals (as_aux_lemma => kernel_rfl)
theorem formatWide_said : Rows.FormatWideSaid :=
  OpenClaim.holds_of_cond 4 Tryz.f4 rfl rfl rfl rfl rfl rfl rfl ⟨rfl, rfl, rfl, rfl, rfl⟩ rfl rfl rfl rfl rfl (by kernel_rfl) Tryz.func4 formatWide_closed
    (of_decide_eq_true (by kernel_rfl)) (by unfold Func.isWrapper; first | (rw [if_pos (by decide +kernel)]; kernel_rfl) | (rw [if_neg (by decide +kernel)]; exact ⟨rfl, rfl⟩))
    (fun os started H enc _ F => by rw [OpenClaim.pre_eq_preRow]; exact formatWide_lifted os started H enc F)
theorem formatWide_plain (f : FuncId) (fn : Func) (hf : Tryz.pinned.checked.prog.funcNamed "thresher/thresherlaw05.FormatWide" = some f) (hfn : Tryz.pinned.checked.prog.funcs[f]? = some fn) :
    true = Tryz.pinned.checked.prog.looks [] ∧ ∀ (j : Nat) t, fn.params[j]? = some t → Tryz.pinned.checked.prog.wantsStandIn t = false := by
  obtain rfl : f = 4 := Option.some.inj ((show Tryz.prog.funcNamed "thresher/thresherlaw05.FormatWide" = some 4 by kernel_rfl).symm.trans hf) |>.symm
  obtain rfl : fn = Tryz.f4 := (Option.some.inj (Tryz.func4.symm.trans hfn)).symm
  refine ⟨by kernel_rfl, fun j t ht => ?_⟩
  rw [Tryz.params4] at ht
  have hm : t ∈ ([35, 22] : List TypeId) := by simpa using Array.mem_of_getElem? ht
  have hall : (([35, 22] : List TypeId).all fun u => !Tryz.prog.wantsStandIn u) = true := by kernel_rfl
  exact (show Tryz.prog.wantsStandIn t = false by simpa using List.all_eq_true.1 hall t hm)
theorem formatWide_card : Rows.FormatWideCardSaid :=
  Claim7.holds_tied_plain_at .later [] _ _ _ _ formatWide_said (fun _ h => by cases h) (by kernel_rfl) (fun _ h => by cases h) formatWide_row_tie rfl ⟨rfl, rfl⟩ (by kernel_rfl) rfl formatWide_plain (by kernel_rfl)
end Go.Proofs.YtfdnhkjeoeffoaaGreatDoor
