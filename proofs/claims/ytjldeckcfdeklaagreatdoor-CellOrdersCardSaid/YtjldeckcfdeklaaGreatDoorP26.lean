/- PROVED: thresherlaw06.CellOrders returns true for any three values, and leaves its arguments as they were. No condition beyond the given row's own; the card ties the listed tables. -/
import Derived.Test.YtjldeckcfdeklaaGreatDoorFD2
import Derived.Test.YtjldeckcfdeklaaGreatDoorAW2
import Derived.SizedLaws
namespace Go.Proofs.YtjldeckcfdeklaaGreatDoor
open Go.ChangeShapes Go.WideShapes Go.ChangeAt Go.RowKit
open Go.ChangeMaps (open_string shut_string)
set_option linter.unusedVariables false

theorem cellOrders_met (os : Os) : laidMet Tryz.prog Rows.cellOrdersRow.laid ((laidWorld os).forCall (fun _ _ => 0) ⟨#[], #[.agg #[.int .i64 0, .int .u64 0, .string ⟨#[]⟩], .agg #[.int .i64 0, .int .u64 0, .string ⟨#[]⟩], .agg #[.int .i64 0, .int .u64 0, .string ⟨#[]⟩]], []⟩).memory :=
  laid_met os _
theorem cellOrders_reads (os : Os) {H : Type} (enc : TypeId × Value → H) : ∃ places, DataW.whole enc Tryz.prog ((laidWorld os).forCall (fun _ _ => 0) ⟨#[], #[.agg #[.int .i64 0, .int .u64 0, .string ⟨#[]⟩], .agg #[.int .i64 0, .int .u64 0, .string ⟨#[]⟩], .agg #[.int .i64 0, .int .u64 0, .string ⟨#[]⟩]], []⟩).memory Tryz.f10.params.toList Rows.cellOrdersSpec.vars false (#[Value.agg #[.int .i64 0, .int .u64 0, .string ⟨#[]⟩], .agg #[.int .i64 0, .int .u64 0, .string ⟨#[]⟩], .agg #[.int .i64 0, .int .u64 0, .string ⟨#[]⟩]] : Array Value).toList 8 = some ([.agg [.lit (.int .i64 0), .lit (.int .u64 0), .lit (.string [])], .agg [.lit (.int .i64 0), .lit (.int .u64 0), .lit (.string [])], .agg [.lit (.int .i64 0), .lit (.int .u64 0), .lit (.string [])]], [], places) :=
  ⟨[], by kernel_rfl⟩

set_option maxRecDepth 100000 in
theorem cellOrders_lifted (os : Os) (started : os.Started) (H : Type) (enc : TypeId × Value → H) (F : Stop.Interp) :
    ReturnsInHanded {} Tryz.checked os 10 .any ((OpenSpec.ofChange Rows.cellOrdersSpec).preRow enc Tryz.prog Tryz.f10 Rows.cellOrdersRow.domain false Rows.cellOrdersRow.laid) (((OpenSpec.ofChange Rows.cellOrdersSpec).at F).post enc Tryz.prog Tryz.f10 false true false false) := by
  obtain ⟨places, hx⟩ := cellOrders_reads os enc
  refine returnsInHanded_of_row (C := Tryz.checked) (s := OpenSpec.ofChange Rows.cellOrdersSpec) own started (by kernel_rfl) Tryz.func10
    (witness_row_atRef (enc := enc) (C := Tryz.checked) false (laidWorld os) #[.agg #[.int .i64 0, .int .u64 0, .string ⟨#[]⟩], .agg #[.int .i64 0, .int .u64 0, .string ⟨#[]⟩], .agg #[.int .i64 0, .int .u64 0, .string ⟨#[]⟩]] rfl (by kernel_rfl) (by kernel_rfl) (by kernel_rfl)
      (OpenSpec.preRow_of_cond 8 hx (by kernel_rfl) (fun k hk => by cases hk) (by kernel_rfl) (cellOrders_met os))) ?_
  intro W base args ds gs before hval0 hW _ _ hWt hL hSh _
  have hval : ∀ (j : Nat) t v, Tryz.f10.params[j]? = some t → args[j]? = some v → Value.okWide Tryz.prog W .any base t v := hval0
  have hW' := hW
  obtain ⟨p, q, hA0, hV, rfl, hfz, hnd⟩ := hW
  have hA : DataW.TrodAll enc Tryz.prog W 0 (fun _ => true) true Tryz.f10.params.toList args.toList ds p := hA0
  rw [Tryz.params10] at hA hval
  obtain ⟨v0, vs0, d0, ds0, p0, q0, hargs, rfl, rfl, h0, r0⟩ := trodAll_cons hA
  obtain ⟨v1, vs1, d1, ds1, p1, q1, rfl, rfl, rfl, h1, r1⟩ := trodAll_cons r0
  obtain ⟨v2, vs2, d2, ds2, p2, q2, rfl, rfl, rfl, h2, r2⟩ := trodAll_cons r1
  obtain ⟨rfl, rfl, rfl⟩ := trodAll_nil r2
  obtain rfl : args = #[v0, v1, v2] := by cases args; simp_all
  obtain ⟨rfl, rfl⟩ := trodVars_none hV
  obtain ⟨k0, y0, s0, rfl, rfl, rfl, b0, w0⟩ := open_one (hval 0 52 v0 rfl rfl) h0
  obtain ⟨k1, y1, s1, rfl, rfl, rfl, b1, w1⟩ := open_one (hval 1 52 v1 rfl rfl) h1
  obtain ⟨k2, y2, s2, rfl, rfl, rfl, b2, w2⟩ := open_one (hval 2 52 v2 rfl rfl) h2
  clear hA0 hval0
  have c0 := wf_u64 b0
  obtain ⟨n0, rfl⟩ : ∃ n : Nat, y0 = (n : Int) := ⟨y0.toNat, by omega⟩
  have z0 : s0.size ≤ 140737488351232 := by
    rw [sz_list]; exact sized_one hWt (j := 0) (by kernel_rfl) rfl
  have c1 := wf_u64 b1
  obtain ⟨n1, rfl⟩ : ∃ n : Nat, y1 = (n : Int) := ⟨y1.toNat, by omega⟩
  have z1 : s1.size ≤ 140737488351232 := by
    rw [sz_list]; exact sized_one hWt (j := 1) (by kernel_rfl) rfl
  have c2 := wf_u64 b2
  obtain ⟨n2, rfl⟩ : ∃ n : Nat, y2 = (n : Int) := ⟨y2.toNat, by omega⟩
  have z2 : s2.size ≤ 140737488351232 := by
    rw [sz_list]; exact sized_one hWt (j := 2) (by kernel_rfl) rfl
  refine (orders6_any k0 n0 s0 k1 n1 s1 k2 n2 s2 W (tabs5_of hL hSh) (by omega) z0 (by omega) z1 (by omega) z2).mono fun e W' ⟨he, bel⟩ => ?_
  subst he
  exact ⟨_, rfl, _, _, _, [], _, [], hW', trodAll_mk1 (shut_bool Tryz.underlying4 _), (trodAll_cons_mk (w0 _ _ _ _) (trodAll_cons_mk (w1 _ _ _ _) (trodAll_cons_mk (w2 _ _ _ _) trodAll_mk0))), rfl, bel.frame _, fun h => by cases h⟩

theorem cellOrders_said : Rows.CellOrdersSaid :=
  OpenClaim.holds_of_cond 10 Tryz.f10 rfl rfl rfl rfl rfl rfl rfl ⟨rfl, rfl, rfl, rfl, rfl⟩ rfl rfl rfl rfl rfl (by kernel_rfl) Tryz.func10 (by kernel_rfl)
    (of_decide_eq_true (by kernel_rfl)) (by unfold Func.isWrapper; first | (rw [if_pos (by decide +kernel)]; kernel_rfl) | (rw [if_neg (by decide +kernel)]; exact ⟨rfl, rfl⟩))
    (fun os started H enc _ F => by rw [OpenClaim.pre_eq_preRow]; exact cellOrders_lifted os started H enc F)
theorem cellOrders_plain (f : FuncId) (fn : Func) (hf : Tryz.pinned.checked.prog.funcNamed "thresher/thresherlaw06.CellOrders" = some f) (hfn : Tryz.pinned.checked.prog.funcs[f]? = some fn) :
    true = Tryz.pinned.checked.prog.looks [] ∧ ∀ (j : Nat) t, fn.params[j]? = some t → Tryz.pinned.checked.prog.wantsStandIn t = false := by
  obtain rfl : f = 10 := Option.some.inj ((show Tryz.prog.funcNamed "thresher/thresherlaw06.CellOrders" = some 10 by kernel_rfl).symm.trans hf) |>.symm
  obtain rfl : fn = Tryz.f10 := (Option.some.inj (Tryz.func10.symm.trans hfn)).symm
  refine ⟨by kernel_rfl, fun j t ht => ?_⟩
  rw [Tryz.params10] at ht
  have hm : t ∈ ([52, 52, 52] : List TypeId) := by simpa using Array.mem_of_getElem? ht
  have hall : (([52, 52, 52] : List TypeId).all fun u => !Tryz.prog.wantsStandIn u) = true := by kernel_rfl
  exact (show Tryz.prog.wantsStandIn t = false by simpa using List.all_eq_true.1 hall t hm)
theorem cellOrders_card : Rows.CellOrdersCardSaid :=
  Claim7.holds_tied_plain_at .later [] _ _ _ _ cellOrders_said (fun _ h => by cases h) (by kernel_rfl) (fun _ h => by cases h) cellOrders_row_tie rfl ⟨rfl, rfl⟩ (by kernel_rfl) rfl cellOrders_plain (by kernel_rfl)
end Go.Proofs.YtjldeckcfdeklaaGreatDoor
