/- PROVED: thresherlaw05.FormatTexts returns true for any spec, any string and both ways of counting, where what is handed in is of bulk at most 1048576 (the row's own bound), and leaves its arguments as they were. The card ties the listed tables. -/
import Derived.Test.YtjldeckcfdeklaaGreatDoorV8
import Derived.Test.YtjldeckcfdeklaaGreatDoorAW2
import Derived.SizedLaws
namespace Go.Proofs.YtjldeckcfdeklaaGreatDoor
open Go.ChangeShapes Go.WideShapes Go.ChangeAt Go.RowKit
open Go.ChangeMaps (open_string shut_string)
set_option linter.unusedVariables false

theorem formatTexts_met (os : Os) : laidMet Tryz.prog Rows.formatTextsUptoRow.laid ((laidWorld os).forCall (fun _ _ => 0) ⟨#[], #[.agg #[.bool false, .bool false, .bool false, .bool false, .bool false, .int .i64 0, .int .i64 0, .int .u8 0], .string ⟨#[]⟩, .bool false], []⟩).memory :=
  laid_met os _
theorem formatTexts_reads (os : Os) {H : Type} (enc : TypeId × Value → H) : ∃ places, DataW.whole enc Tryz.prog ((laidWorld os).forCall (fun _ _ => 0) ⟨#[], #[.agg #[.bool false, .bool false, .bool false, .bool false, .bool false, .int .i64 0, .int .i64 0, .int .u8 0], .string ⟨#[]⟩, .bool false], []⟩).memory Tryz.f4.params.toList Rows.formatTextsSpec.vars false (#[Value.agg #[.bool false, .bool false, .bool false, .bool false, .bool false, .int .i64 0, .int .i64 0, .int .u8 0], .string ⟨#[]⟩, .bool false] : Array Value).toList 8 = some ([.agg [.lit (.bool false), .lit (.bool false), .lit (.bool false), .lit (.bool false), .lit (.bool false), .lit (.int .i64 0), .lit (.int .i64 0), .lit (.int .u8 0)], .lit (.string []), .lit (.bool false)], [], places) :=
  ⟨[], by kernel_rfl⟩

set_option maxRecDepth 100000 in
theorem formatTexts_lifted (os : Os) (started : os.Started) (H : Type) (enc : TypeId × Value → H) (F : Stop.Interp) :
    ReturnsInHanded {} Tryz.checked os 4 .any ((Rows.OpenSpec.upto Rows.formatTextsSpec).preRow enc Tryz.prog Tryz.f4 Rows.formatTextsUptoRow.domain false Rows.formatTextsUptoRow.laid) (((Rows.OpenSpec.upto Rows.formatTextsSpec).at F).post enc Tryz.prog Tryz.f4 false true false false) := by
  obtain ⟨places, hx⟩ := formatTexts_reads os enc
  refine returnsInHanded_of_row (C := Tryz.checked) (s := Rows.OpenSpec.upto Rows.formatTextsSpec) own started (by kernel_rfl) Tryz.func4
    (witness_row_atRef (enc := enc) (C := Tryz.checked) false (laidWorld os) #[.agg #[.bool false, .bool false, .bool false, .bool false, .bool false, .int .i64 0, .int .i64 0, .int .u8 0], .string ⟨#[]⟩, .bool false] rfl (by kernel_rfl) (by kernel_rfl) (by kernel_rfl)
      (OpenSpec.preRow_of_cond 8 hx (by kernel_rfl) (fun k hk => by cases hk; kernel_rfl) (by kernel_rfl) (formatTexts_met os))) ?_
  intro W base args ds gs before hval0 hW _ hcond hWt hL hSh _
  have hval : ∀ (j : Nat) t v, Tryz.f4.params[j]? = some t → args[j]? = some v → Value.okWide Tryz.prog W .any base t v := hval0
  have hW' := hW
  obtain ⟨p, q, hA0, hV, rfl, hfz, hnd⟩ := hW
  have hA : DataW.TrodAll enc Tryz.prog W 0 (fun _ => true) true Tryz.f4.params.toList args.toList ds p := hA0
  rw [Tryz.params4] at hA hval
  obtain ⟨v0, vs0, d0, ds0, p0, q0, hargs, rfl, rfl, h0, r0⟩ := trodAll_cons hA
  obtain ⟨v1, vs1, d1, ds1, p1, q1, rfl, rfl, rfl, h1, r1⟩ := trodAll_cons r0
  obtain ⟨v2, vs2, d2, ds2, p2, q2, rfl, rfl, rfl, h2, r2⟩ := trodAll_cons r1
  obtain ⟨rfl, rfl, rfl⟩ := trodAll_nil r2
  obtain rfl : args = #[v0, v1, v2] := by cases args; simp_all
  obtain ⟨rfl, rfl⟩ := trodVars_none hV
  obtain ⟨m0, p0, b0, a0, z0, wd0, pr0, vb0, rfl, rfl, rfl, bw0, bp0, bv0, w0⟩ := open_spec (hval 0 24 v0 rfl rfl) h0
  obtain ⟨s1, rfl, rfl, rfl, w1⟩ := open_string Tryz.underlying9 (hval 1 9 v1 rfl rfl) h1
  obtain ⟨t2, rfl, rfl, rfl⟩ := open_bool Tryz.underlying4 (hval 2 4 v2 rfl rfl) h2
  clear hA0 hval0
  have cw0 := wf_i64 bw0
  have cp0 := wf_i64 bp0
  have cv0 := wf_u8 bv0
  obtain ⟨n0, rfl⟩ : ∃ n : Nat, vb0 = (n : Int) := ⟨vb0.toNat, by omega⟩
  have z1 : s1.size ≤ 900000000 := by
    have hb := bulk5 (hcond _ rfl)
    rw [sz_list]; omega
  refine (texts5_walk m0 p0 b0 a0 z0 wd0 pr0 n0 s1 t2 W (tabs5_of hL hSh) (by omega) z1).mono fun e W' ⟨he, bel⟩ => ?_
  subst he
  exact ⟨_, rfl, _, _, _, [], _, [], hW', trodAll_mk1 (shut_bool Tryz.underlying4 _), (trodAll_cons_mk (w0 _ _ _ _) (trodAll_cons_mk (shut_string Tryz.underlying9 w1) (trodAll_cons_mk (shut_bool Tryz.underlying4 _) trodAll_mk0))), rfl, bel.frame _, fun h => by cases h⟩

theorem formatTexts_said : Rows.FormatTextsUptoSaid :=
  OpenClaim.holds_of_cond 4 Tryz.f4 rfl rfl rfl rfl rfl rfl rfl ⟨rfl, rfl, rfl, rfl, rfl⟩ rfl rfl rfl rfl rfl (by kernel_rfl) Tryz.func4 (by kernel_rfl)
    (of_decide_eq_true (by kernel_rfl)) (by unfold Func.isWrapper; first | (rw [if_pos (by decide +kernel)]; kernel_rfl) | (rw [if_neg (by decide +kernel)]; exact ⟨rfl, rfl⟩))
    (fun os started H enc _ F => by rw [OpenClaim.pre_eq_preRow]; exact formatTexts_lifted os started H enc F)
theorem formatTexts_plain (f : FuncId) (fn : Func) (hf : Tryz.pinned.checked.prog.funcNamed "thresher/thresherlaw05.FormatTexts" = some f) (hfn : Tryz.pinned.checked.prog.funcs[f]? = some fn) :
    true = Tryz.pinned.checked.prog.looks [] ∧ ∀ (j : Nat) t, fn.params[j]? = some t → Tryz.pinned.checked.prog.wantsStandIn t = false := by
  obtain rfl : f = 4 := Option.some.inj ((show Tryz.prog.funcNamed "thresher/thresherlaw05.FormatTexts" = some 4 by kernel_rfl).symm.trans hf) |>.symm
  obtain rfl : fn = Tryz.f4 := (Option.some.inj (Tryz.func4.symm.trans hfn)).symm
  refine ⟨by kernel_rfl, fun j t ht => ?_⟩
  rw [Tryz.params4] at ht
  have hm : t ∈ ([24, 9, 4] : List TypeId) := by simpa using Array.mem_of_getElem? ht
  have hall : (([24, 9, 4] : List TypeId).all fun u => !Tryz.prog.wantsStandIn u) = true := by kernel_rfl
  exact (show Tryz.prog.wantsStandIn t = false by simpa using List.all_eq_true.1 hall t hm)
theorem formatTexts_card : Rows.FormatTextsUptoCardSaid :=
  Claim7.holds_tied_plain_at .later [] _ _ _ _ formatTexts_said (fun _ h => by cases h) (by kernel_rfl) (fun _ h => by cases h) formatTextsUpto_row_tie rfl ⟨rfl, rfl⟩ (by kernel_rfl) rfl formatTexts_plain (by kernel_rfl)
end Go.Proofs.YtjldeckcfdeklaaGreatDoor
