/- PROVED: thresherlaw08.AssocKeeps returns true for every list of keys, every list of values and every string, and leaves its arguments as they were. No condition beyond the given row's own; the card ties the listed tables. -/
import Derived.Test.YtflbhifdololfaaGreatDoorA17
import Derived.Test.YtflbhifdololfaaGreatDoorAW0
import Derived.SizedLaws
import Derived.Test.YtflbhifdololfaaGreatDoorFD4
namespace Go.Proofs.YtflbhifdololfaaGreatDoor
open Go.ChangeShapes Go.WideShapes Go.ChangeAt Go.RowKit
open Go.ChangeMaps (open_string shut_string)
set_option linter.unusedVariables false

theorem sz_card (s : ByteArray) : s.size = s.data.toList.length := by cases s; simp [ByteArray.size]
theorem assocKeeps_met (os : Os) : laidMet Tryz.prog Rows.assocKeepsRow.laid ((laidWorld os).forCall (fun _ _ => 0) ⟨#[], #[.slice none 0 0, .slice none 0 0, .string ⟨#[]⟩], []⟩).memory :=
  laid_met os _
theorem assocKeeps_reads (os : Os) {H : Type} (enc : TypeId × Value → H) : ∃ places, DataW.whole enc Tryz.prog ((laidWorld os).forCall (fun _ _ => 0) ⟨#[], #[.slice none 0 0, .slice none 0 0, .string ⟨#[]⟩], []⟩).memory Tryz.f11.params.toList Rows.assocKeepsSpec.vars false (#[Value.slice none 0 0, .slice none 0 0, .string ⟨#[]⟩] : Array Value).toList 8 = some ([.nil, .nil, .lit (.string [])], [], places) :=
  ⟨[], by kernel_rfl⟩

set_option maxRecDepth 100000 in
theorem assocKeeps_lifted (os : Os) (started : os.Started) (H : Type) (enc : TypeId × Value → H) (F : Stop.Interp) :
    ReturnsInHanded {} Tryz.checked os 11 .any ((OpenSpec.ofChange Rows.assocKeepsSpec).preRow enc Tryz.prog Tryz.f11 Rows.assocKeepsRow.domain false Rows.assocKeepsRow.laid) (((OpenSpec.ofChange Rows.assocKeepsSpec).at F).post enc Tryz.prog Tryz.f11 false true false false) := by
  obtain ⟨places, hx⟩ := assocKeeps_reads os enc
  refine returnsInHanded_of_row (C := Tryz.checked) (s := OpenSpec.ofChange Rows.assocKeepsSpec) own started (by kernel_rfl) Tryz.func11
    (witness_row_atRef (enc := enc) (C := Tryz.checked) false (laidWorld os) #[.slice none 0 0, .slice none 0 0, .string ⟨#[]⟩] rfl (by kernel_rfl) (by kernel_rfl) (by kernel_rfl)
      (OpenSpec.preRow_of_cond 8 hx (by kernel_rfl) (fun k hk => by cases hk) (by kernel_rfl) (assocKeeps_met os))) ?_
  intro W base args ds gs before hval0 hW _ _ hWt hL hSh _
  have hval : ∀ (j : Nat) t v, Tryz.f11.params[j]? = some t → args[j]? = some v → Value.okWide Tryz.prog W .any base t v := hval0
  have hW' := hW
  obtain ⟨p, q, hA0, hV, rfl, hfz, hnd⟩ := hW
  have hA : DataW.TrodAll enc Tryz.prog W 0 (fun _ => true) true Tryz.f11.params.toList args.toList ds p := hA0
  rw [Tryz.params11] at hA hval
  obtain ⟨v0, vs0, d0, ds0, p0, q0, hargs, rfl, rfl, h0, r0⟩ := trodAll_cons hA
  obtain ⟨v1, vs1, d1, ds1, p1, q1, rfl, rfl, rfl, h1, r1⟩ := trodAll_cons r0
  obtain ⟨v2, vs2, d2, ds2, p2, q2, rfl, rfl, rfl, h2, r2⟩ := trodAll_cons r1
  obtain ⟨rfl, rfl, rfl⟩ := trodAll_nil r2
  obtain rfl : args = #[v0, v1, v2] := by cases args; simp_all
  obtain ⟨rfl, rfl⟩ := trodVars_none hV
  obtain ⟨fa0, fn0, fc0, rfl⟩ := okWide_slice Tryz.underlying50 (hval 0 50 v0 rfl rfl)
  have lt0 : ∀ x ∈ p0, x.block < W.heap.size := by
    obtain ⟨m, hm⟩ := h0
    exact DataW.trod_lt m _ _ _ hm
  obtain ⟨L0, rs0, hm0⟩ : ∃ L, RowS W (.slice fa0 fn0 fc0) L ∧ L.length ≤ maxLen := by
    obtain ⟨m, hm⟩ := h0
    exact open_rowS hm
  obtain ⟨fa1, fn1, fc1, rfl⟩ := okWide_slice Tryz.underlying50 (hval 1 50 v1 rfl rfl)
  have lt1 : ∀ x ∈ p1, x.block < W.heap.size := by
    obtain ⟨m, hm⟩ := h1
    exact DataW.trod_lt m _ _ _ hm
  obtain ⟨L1, rs1, hm1⟩ : ∃ L, RowS W (.slice fa1 fn1 fc1) L ∧ L.length ≤ maxLen := by
    obtain ⟨m, hm⟩ := h1
    exact open_rowS hm
  obtain ⟨s2, rfl, rfl, rfl, w2⟩ := open_string Tryz.underlying9 (hval 2 9 v2 rfl rfl) h2
  clear hA0 hval0
  have z2 : s2.size ≤ 140737488351232 := by
    rw [sz_card]; exact sized_string hWt (j := 2) (t := 9) (by kernel_rfl) rfl
  refine (keeps_w L0 L1 s2 W rs0 hm0 rs1 hm1 z2).mono fun e W' ⟨he, bel⟩ => ?_
  subst he
  exact ⟨_, rfl, _, _, _, [], _, [], hW', trodAll_mk1 (shut_bool Tryz.underlying4 _), (trodAll_cons_mk (Below.trod laidOut (by kernel_rfl) (of_decide_eq_true (by kernel_rfl)) h0 bel lt0) (trodAll_cons_mk (Below.trod laidOut (by kernel_rfl) (of_decide_eq_true (by kernel_rfl)) h1 bel lt1) (trodAll_cons_mk (shut_string Tryz.underlying9 w2) trodAll_mk0))), rfl, bel.frame _, fun h => by cases h⟩

theorem and_mk {a b : Bool} (ha : a = true) (hb : b = true) : (a && b) = true := by rw [ha, hb]; rfl
set_option maxHeartbeats 4000000 in
theorem assocKeeps_closed : joinedFacts Tryz.pinned.checked.prog 11 Tryz.f11 (OpenSpec.ofChange Rows.assocKeepsSpec).bare Rows.assocKeepsRow = true := by
  unfold joinedFacts
  repeat' (with_reducible refine and_mk ?_ ?_)
  all_goals (as_aux_lemma => kernel_rfl)
theorem assocKeeps_said : Rows.AssocKeepsSaid :=
  OpenClaim.holds_of_cond 11 Tryz.f11 rfl rfl rfl rfl rfl rfl rfl ⟨rfl, rfl, rfl, rfl, rfl⟩ rfl rfl rfl rfl rfl (by kernel_rfl) Tryz.func11 assocKeeps_closed
    (of_decide_eq_true (by kernel_rfl)) (by unfold Func.isWrapper; first | (rw [if_pos (by decide +kernel)]; kernel_rfl) | (rw [if_neg (by decide +kernel)]; exact ⟨rfl, rfl⟩))
    (fun os started H enc _ F => by rw [OpenClaim.pre_eq_preRow]; exact assocKeeps_lifted os started H enc F)
theorem assocKeeps_plain (f : FuncId) (fn : Func) (hf : Tryz.pinned.checked.prog.funcNamed "thresher/thresherlaw08.AssocKeeps" = some f) (hfn : Tryz.pinned.checked.prog.funcs[f]? = some fn) :
    true = Tryz.pinned.checked.prog.looks [] ∧ ∀ (j : Nat) t, fn.params[j]? = some t → Tryz.pinned.checked.prog.wantsStandIn t = false := by
  obtain rfl : f = 11 := Option.some.inj ((show Tryz.prog.funcNamed "thresher/thresherlaw08.AssocKeeps" = some 11 by kernel_rfl).symm.trans hf) |>.symm
  obtain rfl : fn = Tryz.f11 := (Option.some.inj (Tryz.func11.symm.trans hfn)).symm
  refine ⟨by kernel_rfl, fun j t ht => ?_⟩
  rw [Tryz.params11] at ht
  have hm : t ∈ ([50, 50, 9] : List TypeId) := by simpa using Array.mem_of_getElem? ht
  have hall : (([50, 50, 9] : List TypeId).all fun u => !Tryz.prog.wantsStandIn u) = true := by kernel_rfl
  exact (show Tryz.prog.wantsStandIn t = false by simpa using List.all_eq_true.1 hall t hm)
theorem assocKeeps_card : Rows.AssocKeepsCardSaid :=
  Claim7.holds_tied_plain_at .later [] _ _ _ _ assocKeeps_said (fun _ h => by cases h) (by kernel_rfl) (fun _ h => by cases h) assocKeeps_row_tie rfl ⟨rfl, rfl⟩ (by kernel_rfl) rfl assocKeeps_plain (by kernel_rfl)
end Go.Proofs.YtflbhifdololfaaGreatDoor
