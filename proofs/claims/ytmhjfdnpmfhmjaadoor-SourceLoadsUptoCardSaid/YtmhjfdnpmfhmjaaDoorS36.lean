/- PROVED: thresherlaw19.SourceLoads returns true for every text and every list of files, where what is handed in is of bulk at most 1048576 (the row's own bound), and leaves its arguments as they were. -/
import Derived.Test.YtmhjfdnpmfhmjaaDoorS35
import Derived.Test.YtmhjfdnpmfhmjaaDoorS18
import Derived.Test.YtmhjfdnpmfhmjaaDoorLW
import Derived.SizedLaws
import Derived.ChangeOld
import Derived.SliceStrings
namespace Go.Proofs.YtmhjfdnpmfhmjaaDoor
open Go.ChangeShapes Go.WideShapes Go.ChangeAt Go.RowKit
open Go.ChangeMaps (open_string shut_string)
set_option linter.unusedVariables false

theorem sourceLoads_met (os : Os) : laidMet Tryd.prog Rows.sourceLoadsUptoRow.laid ((laidWorld os).forCall (fun _ _ => 0) ⟨#[], #[.string ⟨#[]⟩, .slice none 0 0], []⟩).memory :=
  laidMet_of_run3 8 (by kernel_rfl) (by kernel_rfl) (by kernel_rfl)
theorem sourceLoads_reads (os : Os) {H : Type} (enc : TypeId × Value → H) : ∃ places, DataW.whole enc Tryd.prog ((laidWorld os).forCall (fun _ _ => 0) ⟨#[], #[.string ⟨#[]⟩, .slice none 0 0], []⟩).memory Tryd.f3.params.toList Rows.sourceLoadsSpec.vars false (#[Value.string ⟨#[]⟩, .slice none 0 0] : Array Value).toList 8 = some ([.lit (.string []), .nil], [], places) :=
  ⟨[], by kernel_rfl⟩

set_option maxRecDepth 100000 in
theorem sourceLoads_lifted (os : Os) (started : os.Started) (H : Type) (enc : TypeId × Value → H) (F : Stop.Interp) :
    ReturnsInHanded {} Tryd.checked os 3 .any ((Rows.OpenSpec.upto Rows.sourceLoadsSpec).preRow enc Tryd.prog Tryd.f3 Rows.sourceLoadsUptoRow.domain false Rows.sourceLoadsUptoRow.laid) (((Rows.OpenSpec.upto Rows.sourceLoadsSpec).at F).post enc Tryd.prog Tryd.f3 false true false false) := by
  obtain ⟨places, hx⟩ := sourceLoads_reads os enc
  refine returnsInHanded_of_row (C := Tryd.checked) (s := Rows.OpenSpec.upto Rows.sourceLoadsSpec) own started (by kernel_rfl) Tryd.func3
    (witness_row_at (enc := enc) (C := Tryd.checked) false (laidWorld os) #[.string ⟨#[]⟩, .slice none 0 0] rfl (by kernel_rfl) (by kernel_rfl) (by kernel_rfl)
      (OpenSpec.preRow_of_cond 8 hx (by kernel_rfl) (fun k hk => by cases hk; kernel_rfl) (by kernel_rfl) (sourceLoads_met os))) ?_
  intro W base args ds gs before hval0 hW _ hcond hWt hL hSh _
  have hval : ∀ (j : Nat) t v, Tryd.f3.params[j]? = some t → args[j]? = some v → Value.okWide Tryd.prog W .any base t v := hval0
  have hW' := hW
  obtain ⟨p, q, hA0, hV, rfl, hfz, hnd⟩ := hW
  have hA : DataW.TrodAll enc Tryd.prog W 0 (fun _ => true) true Tryd.f3.params.toList args.toList ds p := hA0
  rw [Tryd.params3] at hA hval
  obtain ⟨v0, vs0, d0, ds0, p0, q0, hargs, rfl, rfl, h0, r0⟩ := trodAll_cons hA
  obtain ⟨v1, vs1, d1, ds1, p1, q1, rfl, rfl, rfl, h1, r1⟩ := trodAll_cons r0
  obtain ⟨rfl, rfl, rfl⟩ := trodAll_nil r1
  obtain rfl : args = #[v0, v1] := by cases args; simp_all
  obtain ⟨rfl, rfl⟩ := trodVars_none hV
  obtain ⟨s0, rfl, rfl, rfl, w0⟩ := open_string Tryd.underlying9 (hval 0 9 v0 rfl rfl) h0
  obtain ⟨fa1, fn1, fc1, rfl⟩ := okWide_slice Tryd.underlying22 (hval 1 22 v1 rfl rfl)
  have lt1 : ∀ x ∈ p1, x.block < W.heap.size := by
    obtain ⟨m, hm⟩ := h1
    exact DataW.trod_lt m _ _ _ hm
  clear hA0 hval0
  obtain ⟨L1, hF1, hB1⟩ : ∃ L, FilesR W (.slice fa1 fn1 fc1) L ∧ sizeF L ≤ Rows.uptoBulk d1 := by
    obtain ⟨m, hm⟩ := h1
    exact open_filesR hm
  have z0 : s0.size + sizeF L1 ≤ 1050000 := by
    have hb := bulk_lines (hcond _ rfl)
    rw [sz_list]; omega
  refine (sloads_any s0 (.slice fa1 fn1 fc1) L1 W (max_of hSh) hF1 z0).mono fun e W' ⟨he, bel⟩ => ?_
  subst he
  exact ⟨_, rfl, _, _, _, [], _, [], hW', trodAll_mk1 (shut_bool Tryd.underlying4 _), (trodAll_cons_mk (shut_string Tryd.underlying9 w0) (trodAll_cons_mk (Below.trod laidOut (by kernel_rfl) (of_decide_eq_true (by kernel_rfl)) h1 bel lt1) trodAll_mk0)), rfl, bel.frame _, fun h => by cases h⟩

theorem sourceLoads_said : Rows.SourceLoadsUptoSaid :=
  OpenClaim.holds_of_cond 3 Tryd.f3 rfl rfl rfl rfl rfl rfl rfl ⟨rfl, rfl, rfl, rfl, rfl⟩ rfl rfl rfl rfl rfl (by kernel_rfl) Tryd.func3 (by kernel_rfl)
    (of_decide_eq_true (by kernel_rfl)) (by unfold Func.isWrapper; first | (rw [if_pos (by decide +kernel)]; kernel_rfl) | (rw [if_neg (by decide +kernel)]; exact ⟨rfl, rfl⟩))
    (fun os started H enc _ F => by rw [OpenClaim.pre_eq_preRow]; exact sourceLoads_lifted os started H enc F)
theorem sourceLoads_plain (f : FuncId) (fn : Func) (hf : Tryd.pinned.checked.prog.funcNamed "thresher/thresherlaw19.SourceLoads" = some f) (hfn : Tryd.pinned.checked.prog.funcs[f]? = some fn) :
    true = Tryd.pinned.checked.prog.looks [] ∧ ∀ (j : Nat) t, fn.params[j]? = some t → Tryd.pinned.checked.prog.wantsStandIn t = false := by
  obtain rfl : f = 3 := Option.some.inj ((show Tryd.prog.funcNamed "thresher/thresherlaw19.SourceLoads" = some 3 by kernel_rfl).symm.trans hf) |>.symm
  obtain rfl : fn = Tryd.f3 := (Option.some.inj (Tryd.func3.symm.trans hfn)).symm
  refine ⟨by kernel_rfl, fun j t ht => ?_⟩
  rw [Tryd.params3] at ht
  have hm : t ∈ ([9, 22] : List TypeId) := by simpa using Array.mem_of_getElem? ht
  have hall : (([9, 22] : List TypeId).all fun u => !Tryd.prog.wantsStandIn u) = true := by kernel_rfl
  exact (show Tryd.prog.wantsStandIn t = false by simpa using List.all_eq_true.1 hall t hm)
theorem sourceLoads_card : Rows.SourceLoadsUptoCardSaid :=
  Claim7.holds_tied_plain_at .later [] _ _ _ _ sourceLoads_said (fun _ h => by cases h) (by kernel_rfl) (fun _ h => by cases h) sourceLoadsUpto_row_tie rfl ⟨rfl, rfl⟩ (by kernel_rfl) rfl sourceLoads_plain (by kernel_rfl)
end Go.Proofs.YtmhjfdnpmfhmjaaDoor
