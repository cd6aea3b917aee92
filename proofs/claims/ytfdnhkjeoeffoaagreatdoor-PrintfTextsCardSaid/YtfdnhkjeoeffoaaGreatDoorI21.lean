/- PROVED: thresherlaw11.PrintfTexts: any strings by s, one behind the other, are written as they are, or refused where they are too long. -/
import Derived.Test.YtfdnhkjeoeffoaaGreatDoorI18
import Derived.Test.YtfdnhkjeoeffoaaGreatDoorM9
import Derived.SizedLaws
import Derived.Test.YtfdnhkjeoeffoaaGreatDoorFD6
namespace Go.Proofs.YtfdnhkjeoeffoaaGreatDoor
open Go.ChangeShapes Go.WideShapes Go.ChangeAt Go.RowKit
open Go.ChangeMaps (open_string shut_string)
set_option linter.unusedVariables false
theorem sz_card (s : ByteArray) : s.size = s.data.toList.length := by cases s; simp [ByteArray.size]
theorem printfTexts_met (os : Os) : laidMet Tryz.prog Rows.printfTextsRow.laid ((laidWorld os).forCall (fun _ _ => 0) ⟨#[], #[.slice none 0 0, .string ⟨#[]⟩], []⟩).memory :=
 laid_met os _
theorem printfTexts_reads (os : Os) {H : Type} (enc : TypeId × Value → H) : ∃ places, DataW.whole enc Tryz.prog ((laidWorld os).forCall (fun _ _ => 0) ⟨#[], #[.slice none 0 0, .string ⟨#[]⟩], []⟩).memory Tryz.f10.params.toList Rows.printfTextsSpec.vars false (#[Value.slice none 0 0, .string ⟨#[]⟩] : Array Value).toList 8 = some ([.nil, .lit (.string [])], [], places) :=
 ⟨[], by kernel_rfl⟩
set_option maxRecDepth 100000 in
theorem printfTexts_lifted (os : Os) (started : os.Started) (H : Type) (enc : TypeId × Value → H) (F : Stop.Interp) :
 ReturnsInHanded {} Tryz.checked os 10 .any ((OpenSpec.ofChange Rows.printfTextsSpec).preRow enc Tryz.prog Tryz.f10 Rows.printfTextsRow.domain false Rows.printfTextsRow.laid) (((OpenSpec.ofChange Rows.printfTextsSpec).at F).post enc Tryz.prog Tryz.f10 false true false false) := by
 obtain ⟨places, hx⟩ := printfTexts_reads os enc
 refine returnsInHanded_of_row (C := Tryz.checked) (s := OpenSpec.ofChange Rows.printfTextsSpec) own started (by kernel_rfl) Tryz.func10
  (witness_row_atRef (enc := enc) (C := Tryz.checked) false (laidWorld os) #[.slice none 0 0, .string ⟨#[]⟩] rfl (by kernel_rfl) (by kernel_rfl) (by kernel_rfl)
   (OpenSpec.preRow_of_cond 8 hx (by kernel_rfl) (fun k hk => by cases hk) (by kernel_rfl) (printfTexts_met os))) ?_
 intro W base args ds gs before hval0 hW _ _ hWt hL hSh _
 have hval : ∀ (j : Nat) t v, Tryz.f10.params[j]? = some t → args[j]? = some v → Value.okWide Tryz.prog W .any base t v := hval0
 have hW' := hW
 obtain ⟨p, q, hA0, hV, rfl, hfz, hnd⟩ := hW
 have hA : DataW.TrodAll enc Tryz.prog W 0 (fun _ => true) true Tryz.f10.params.toList args.toList ds p := hA0
 rw [Tryz.params10] at hA hval
 obtain ⟨v0, vs0, d0, ds0, p0, q0, hargs, rfl, rfl, h0, r0⟩ := trodAll_cons hA
 obtain ⟨v1, vs1, d1, ds1, p1, q1, rfl, rfl, rfl, h1, r1⟩ := trodAll_cons r0
 obtain ⟨rfl, rfl, rfl⟩ := trodAll_nil r1
 obtain rfl : args = #[v0, v1] := by cases args; simp_all
 obtain ⟨rfl, rfl⟩ := trodVars_none hV
 obtain ⟨fa0, fn0, fc0, rfl⟩ := okWide_slice Tryz.underlying67 (hval 0 67 v0 rfl rfl)
 have lt0 : ∀ x ∈ p0, x.block < W.heap.size := by
  obtain ⟨m, hm⟩ := h0
  exact DataW.trod_lt m _ _ _ hm
 obtain ⟨L0, rs0, hm0, ks0⟩ : ∃ L, RowP W (.slice fa0 fn0 fc0) L ∧ L.length ≤ maxLen ∧ ∀ s ∈ L, s.size ≤ 140737488351232 := by
  obtain ⟨m, hm⟩ := h0
  exact open_rowP hm (fun n hn => of_decide_eq_true (List.all_eq_true.1 hWt n (DataW.weights_mem_each (j := 0) (t := 67) (by kernel_rfl) rfl n hn)))
 obtain ⟨s1, rfl, rfl, rfl, w1⟩ := open_string Tryz.underlying9 (hval 1 9 v1 rfl rfl) h1
 clear hA0 hval0
 have z1 : s1.size ≤ 140737488351232 := by
  rw [sz_card]; exact sized_string hWt (j := 1) (t := 9) (by kernel_rfl) rfl
 refine (texts11_law L0 s1 W (tabs5_of hL hSh) rs0 hm0 ks0 z1).mono fun e W' ⟨he, bel⟩ => ?_
 subst he
 exact ⟨_, rfl, _, _, _, [], _, [], hW', trodAll_mk1 (shut_bool Tryz.underlying4 _), (trodAll_cons_mk (Below.trod laidOut (by kernel_rfl) (of_decide_eq_true (by kernel_rfl)) h0 bel lt0) (trodAll_cons_mk (shut_string Tryz.underlying9 w1) trodAll_mk0)), rfl, bel.frame _, fun h => by cases h⟩
theorem and_mk {a b : Bool} (ha : a = true) (hb : b = true) : (a && b) = true := by rw [ha, hb]; rfl
set_option maxHeartbeats 4000000 in
theorem printfTexts_closed : joinedFacts Tryz.pinned.checked.prog 10 Tryz.f10 (OpenSpec.ofChange Rows.printfTextsSpec).bare Rows.printfTextsRow = true := by
 unfold joinedFacts
 repeat' (with_reducible refine and_mk ?_ ?_)
 all_goals (as_aux_lemma => kernel_rfl)
theorem printfTexts_said : Rows.PrintfTextsSaid :=
 OpenClaim.holds_of_cond 10 Tryz.f10 rfl rfl rfl rfl rfl rfl rfl ⟨rfl, rfl, rfl, rfl, rfl⟩ rfl rfl rfl rfl rfl (by kernel_rfl) Tryz.func10 printfTexts_closed
  (of_decide_eq_true (by kernel_rfl)) (by unfold Func.isWrapper; first | (rw [if_pos (by decide +kernel)]; kernel_rfl) | (rw [if_neg (by decide +kernel)]; exact ⟨rfl, rfl⟩))
  (fun os started H enc _ F => by rw [OpenClaim.pre_eq_preRow]; exact printfTexts_lifted os started H enc F)
theorem printfTexts_plain (f : FuncId) (fn : Func) (hf : Tryz.pinned.checked.prog.funcNamed "thresher/thresherlaw11.PrintfTexts" = some f) (hfn : Tryz.pinned.checked.prog.funcs[f]? = some fn) :
 true = Tryz.pinned.checked.prog.looks [] ∧ ∀ (j : Nat) t, fn.params[j]? = some t → Tryz.pinned.checked.prog.wantsStandIn t = false := by
 obtain rfl : f = 10 := Option.some.inj ((show Tryz.prog.funcNamed "thresher/thresherlaw11.PrintfTexts" = some 10 by kernel_rfl).symm.trans hf) |>.symm
 obtain rfl : fn = Tryz.f10 := (Option.some.inj (Tryz.func10.symm.trans hfn)).symm
 refine ⟨by kernel_rfl, fun j t ht => ?_⟩
 rw [Tryz.params10] at ht
 have hm : t ∈ ([67, 9] : List TypeId) := by simpa using Array.mem_of_getElem? ht
 have hall : (([67, 9] : List TypeId).all fun u => !Tryz.prog.wantsStandIn u) = true := by kernel_rfl
 exact (show Tryz.prog.wantsStandIn t = false by simpa using List.all_eq_true.1 hall t hm)
theorem printfTexts_card : Rows.PrintfTextsCardSaid :=
 Claim7.holds_tied_plain_at .later [] _ _ _ _ printfTexts_said (fun _ h => by cases h) (by kernel_rfl) (fun _ h => by cases h) printfTexts_row_tie rfl ⟨rfl, rfl⟩ (by kernel_rfl) rfl printfTexts_plain (by kernel_rfl)
end Go.Proofs.YtfdnhkjeoeffoaaGreatDoor
