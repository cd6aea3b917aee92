/- Several texts in one (Y4). -/
import Derived.Test.YtkaelmbgfcehhaaDoorM5
import Derived.Test.YtkaelmbgfcehhaaDoorM4
set_option linter.unusedVariables false
set_option linter.unusedSimpArgs false
section
/- Package lex: number. -/
namespace Go.Proofs.YtkaelmbgfcehhaaDoor
open Go.RowKit
set_option linter.unusedVariables false
set_option linter.unusedSimpArgs false

/-- what a fault panics with -/
def lexF (l e : Nat) : Value := .iface 38 (.agg #[.int .i64 (l : Int), .int .i64 (e : Int)])
/-- is a number tried at hand? -/
def numC (c : UInt8) : Bool := decide (48 ≤ c.toNat) && decide (c.toNat ≤ 57) || c == 46
/-- the operation at number: a number too great; a number; none -/
def NumE (D b : Nat) (s : ByteArray) (p l : Nat) (v : Value) (LT : List TokT) (w : World) (ok : Bool) (X N : Nat) (e : Ending) (w' : World) : Prop :=
  if ok = true then
    if (FloatKind.f64.format.order X 9218868437227405311 == some .gt) = true then e = .panicked [{ v := lexF l 201, recovered := false }] ∧ Below D w w'
    else e = .returned (.bool true) ∧ (∃ v', Sc w' D b s (p + N) l v' (LT ++ [(3, [], X, l)])) ∧ Below D w w'
  else e = .returned (.bool false) ∧ Below w.heap.size w w'
section
variable {D b p l X N : Nat} {s : ByteArray} {v : Value} {LT : List TokT} {w w' : World} {ok : Bool} {e : Ending}
theorem NumE.no (hk : ok = false) (h : e = .returned (.bool false) ∧ Below w.heap.size w w') : NumE D b s p l v LT w ok X N e w' := by
  subst hk
  unfold NumE
  rw [if_neg Bool.false_ne_true]
  exact h
theorem NumE.big (hk : ok = true) (hg : (FloatKind.f64.format.order X 9218868437227405311 == some .gt) = true) (h : e = .panicked [{ v := lexF l 201, recovered := false }] ∧ Below D w w') : NumE D b s p l v LT w ok X N e w' := by
  subst hk
  unfold NumE
  rw [if_pos rfl, if_pos hg]
  exact h
theorem NumE.yes (hk : ok = true) (hg : (FloatKind.f64.format.order X 9218868437227405311 == some .gt) = false) (h : e = .returned (.bool true) ∧ (∃ v', Sc w' D b s (p + N) l v' (LT ++ [(3, [], X, l)])) ∧ Below D w w') : NumE D b s p l v LT w ok X N e w' := by
  subst hk
  unfold NumE
  rw [if_pos rfl, if_neg (by rw [hg]; exact Bool.false_ne_true)]
  exact h
end
theorem numC_nat (c : UInt8) : numC c = (decide (48 ≤ c.toNat) && decide (c.toNat ≤ 57) || decide (c.toNat = 46)) := by
  unfold numC
  congr 1
  rw [Bool.eq_iff_iff, beq_iff_eq, decide_eq_true_iff]
  constructor
  · intro h; rw [h]; rfl
  · intro h; exact UInt8.toNat_inj.1 h
set_option maxRecDepth 100000 in
set_option maxHeartbeats 16000000 in
theorem number_any (D b : Nat) (s : ByteArray) (p l : Nat) (v : Value) (LT : List TokT) (w : World) (h : Sc w D b s p l v LT) (hp : p < s.size) (hs : s.size ≤ 100000) (hL : LT.length ≤ 1000000000) (hD : D ≤ w.heap.size) :
    Calls Tryd.prog 20 #[.pointer (some ⟨b, 0, none⟩)] w (NumE D b s p l v LT w (numC s[p] && decide (0 < litN (s.data.toList.drop p))) (litV (s.data.toList.drop p)) (litN (s.data.toList.drop p))) := by
  have hLit := fun W => Literal_any (s.extract p s.size) W (by rw [ByteArray.size_extract]; omega)
  simp only [ext_drop] at hLit
  have HLit := Lib.hid hLit
  have hNle : litN (s.data.toList.drop p) ≤ s.size - p := by
    have h1 : litN (s.data.toList.drop p) ≤ (s.data.toList.drop p).length := (litL_ok (s.data.toList.drop p)).1
    rw [List.length_drop, ← size_list] at h1
    exact h1
  have hnc := numC_nat s[p]
  have c0 := h.c0
  have c1 := h.c1
  have HS := Lib.hid h
  have hpI : (p : Int) < (s.size : Int) := by omega
  have hpI2 : (p : Int) ≤ (s.size : Int) := by omega
  have hpB : (p : Int) ≤ 100000 := by omega
  generalize hC : s[p] = c at *
  generalize litV (s.data.toList.drop p) = X at *
  generalize litN (s.data.toList.drop p) = N at *
  generalize numC c = nc at *
  generalize hn : c.toNat = n at *
  have HNC := Lib.hid hnc
  clear h hLit hnc
  by_cases h1 : n < 48
  · have hI : (n : Int) < 48 := by omega
    by_cases h2 : n = 46
    · subst h2
      go_enter Tryd.func20, Tryd.ntmps20
      go_wp2_with fail
      go_quiet (fail)
      go_wp2_with fail
      obtain ⟨ws, hws⟩ : ∃ ws, ws = w.drewN nq := ⟨_, rfl⟩
      have HS1 : Hid (Sc ws D b s p l v LT) := by rw [hws]; exact HS.out.drewN _
      have HB1 : Hid (Below w.heap.size w ws) := by rw [hws]; exact (Below.refl _ _).drewN _
      clear c0 c1
      rw [← hws]
      clear hws
      have c0 := HS1.out.c0
      have c1 := HS1.out.c1
      refine wp_region_guarded (by kernel_rfl) (by kernel_rfl) (fun a0 V0 L a W => ∃ u : Nat → Value, a = { tmps := (((((((((((((((a0.tmps.setIfInBounds 26 (u 0)).setIfInBounds 27 (u 1)).setIfInBounds 28 (u 2)).setIfInBounds 29 (u 3)).setIfInBounds 30 (u 4)).setIfInBounds 31 (u 5)).setIfInBounds 32 (u 6)).setIfInBounds 33 (u 7)).setIfInBounds 34 (u 8)).setIfInBounds 35 (u 9)).setIfInBounds 25 (u 10)).setIfInBounds 36 (u 11)).setIfInBounds 37 (u 12)).setIfInBounds 4 (u 13)).setIfInBounds 5 (u 14)), defers := a0.defers } ∧ Hid (Below V0.heap.size V0 W) ∧ Hid (∀ i, L i = true → u i = valAt [.pointer (some ⟨b, 0, none⟩), .pointer (some ⟨b, 0, none⟩), .pointer (some ⟨b, 0, none⟩), .string s, .pointer (some ⟨b, 0, none⟩), .pointer (some ⟨b, 0, none⟩), .pointer (some ⟨b, 1, none⟩), .int .i64 (p : Int), .string (s.extract p s.size), .tuple #[.float .f64 X, .int .i64 (N : Int)], .tuple #[.float .f64 X, .int .i64 (N : Int)], .float .f64 X, .int .i64 (N : Int), .float .f64 X, .int .i64 (N : Int)] i)) ?h0 ?hstep ?hdone
      case h0 =>
        refine ⟨valAt [undef, undef, undef, undef, undef, undef, undef, undef, undef, undef, undef, undef, undef, undef, undef], ?_, (Below.refl _ _).drew, fun _ h => (by cases h)⟩
        kernel_rfl
      case hstep =>
        refine ⟨?o0, ?o1, ?o2, ?o3, ?o4, ?o5, ?o6, ?o7, ?o8, ?o9, ?o10, ?o11, ?o12, ?o13, ?o14, trivial⟩
        case o0 =>
          rintro L a' W ⟨u, rfl, HI, E⟩ hL hd K hK
          simp only [List.setIfInBounds_toArray, List.set_cons_zero, List.set_cons_succ]
          refine ite_take rfl ?_
          clear hL hd
          go_simp
          refine hK _ _ ⟨withVal u 0 (.pointer (some ⟨b, 0, none⟩)), ?_, HI, withVal_next E 0 _ rfl⟩
          kernel_rfl
        case o1 =>
          rintro L a' W ⟨u, rfl, HI, E⟩ hL hd K hK
          have e0 : u 0 = .pointer (some ⟨b, 0, none⟩) := E.out 0 (hd 0 (List.elem_iff.1 (by kernel_rfl)))
          simp only [List.setIfInBounds_toArray, List.set_cons_zero, List.set_cons_succ, e0]
          refine ite_take rfl ?_
          clear hL hd
          go_simp
          refine hK _ _ ⟨withVal (withVal u 0 (.pointer (some ⟨b, 0, none⟩))) 1 (.pointer (some ⟨b, 0, none⟩)), ?_, HI, withVal_next (withVal_same E 0 _ rfl) 1 _ rfl⟩
          kernel_rfl
        case o2 =>
          rintro L a' W ⟨u, rfl, HI, E⟩ hL hd K hK
          have e1 : u 1 = .pointer (some ⟨b, 0, none⟩) := E.out 1 (hd 1 (List.elem_iff.1 (by kernel_rfl)))
          simp only [List.setIfInBounds_toArray, List.set_cons_zero, List.set_cons_succ, e1]
          refine ite_take rfl ?_
          clear hL hd
          go_simp
          refine hK _ _ ⟨withVal (withVal u 1 (.pointer (some ⟨b, 0, none⟩))) 2 (.pointer (some ⟨b, 0, none⟩)), ?_, HI, withVal_next (withVal_same E 1 _ rfl) 2 _ rfl⟩
          kernel_rfl
        case o3 =>
          rintro L a' W ⟨u, rfl, HI, E⟩ hL hd K hK
          have e2 : u 2 = .pointer (some ⟨b, 0, none⟩) := E.out 2 (hd 2 (List.elem_iff.1 (by kernel_rfl)))
          have kc0 := cellNext HI.out c0
          simp only [List.setIfInBounds_toArray, List.set_cons_zero, List.set_cons_succ, e2]
          refine ite_take rfl ?_
          clear hL hd
          go_simp
          refine hK _ _ ⟨withVal (withVal u 2 (.pointer (some ⟨b, 0, none⟩))) 3 (.string s), ?_, HI, withVal_next (withVal_same E 2 _ rfl) 3 _ rfl⟩
          kernel_rfl
        case o4 =>
          rintro L a' W ⟨u, rfl, HI, E⟩ hL hd K hK
          simp only [List.setIfInBounds_toArray, List.set_cons_zero, List.set_cons_succ]
          refine ite_take rfl ?_
          clear hL hd
          go_simp
          refine hK _ _ ⟨withVal u 4 (.pointer (some ⟨b, 0, none⟩)), ?_, HI, withVal_next E 4 _ rfl⟩
          kernel_rfl
        case o5 =>
          rintro L a' W ⟨u, rfl, HI, E⟩ hL hd K hK
          have e4 : u 4 = .pointer (some ⟨b, 0, none⟩) := E.out 4 (hd 4 (List.elem_iff.1 (by kernel_rfl)))
          simp only [List.setIfInBounds_toArray, List.set_cons_zero, List.set_cons_succ, e4]
          refine ite_take rfl ?_
          clear hL hd
          go_simp
          refine hK _ _ ⟨withVal (withVal u 4 (.pointer (some ⟨b, 0, none⟩))) 5 (.pointer (some ⟨b, 0, none⟩)), ?_, HI, withVal_next (withVal_same E 4 _ rfl) 5 _ rfl⟩
          kernel_rfl
        case o6 =>
          rintro L a' W ⟨u, rfl, HI, E⟩ hL hd K hK
          have e5 : u 5 = .pointer (some ⟨b, 0, none⟩) := E.out 5 (hd 5 (List.elem_iff.1 (by kernel_rfl)))
          simp only [List.setIfInBounds_toArray, List.set_cons_zero, List.set_cons_succ, e5]
          refine ite_take rfl ?_
          clear hL hd
          go_simp
          refine hK _ _ ⟨withVal (withVal u 5 (.pointer (some ⟨b, 0, none⟩))) 6 (.pointer (some ⟨b, 1, none⟩)), ?_, HI, withVal_next (withVal_same E 5 _ rfl) 6 _ rfl⟩
          kernel_rfl
        case o7 =>
          rintro L a' W ⟨u, rfl, HI, E⟩ hL hd K hK
          have e6 : u 6 = .pointer (some ⟨b, 1, none⟩) := E.out 6 (hd 6 (List.elem_iff.1 (by kernel_rfl)))
          have kc1 := cellNext HI.out c1
          simp only [List.setIfInBounds_toArray, List.set_cons_zero, List.set_cons_succ, e6]
          refine ite_take rfl ?_
          clear hL hd
          go_simp
          refine hK _ _ ⟨withVal (withVal u 6 (.pointer (some ⟨b, 1, none⟩))) 7 (.int .i64 (p : Int)), ?_, HI, withVal_next (withVal_same E 6 _ rfl) 7 _ rfl⟩
          kernel_rfl
        case o8 =>
          rintro L a' W ⟨u, rfl, HI, E⟩ hL hd K hK
          have e3 : u 3 = .string s := E.out 3 (hd 3 (List.elem_iff.1 (by kernel_rfl)))
          have e7 : u 7 = .int .i64 (p : Int) := E.out 7 (hd 7 (List.elem_iff.1 (by kernel_rfl)))
          simp only [List.setIfInBounds_toArray, List.set_cons_zero, List.set_cons_succ, e3, e7]
          refine ite_take rfl ?_
          clear hL hd
          go_simp
          refine hK _ _ ⟨withVal (withVal (withVal u 3 (.string s)) 7 (.int .i64 (p : Int))) 8 (.string (s.extract p s.size)), ?_, HI, withVal_next (withVal_same (withVal_same E 3 _ rfl) 7 _ rfl) 8 _ rfl⟩
          kernel_rfl
        case o9 =>
          rintro L a' W ⟨u, rfl, HI, E⟩ hL hd K hK
          have e8 : u 8 = .string (s.extract p s.size) := E.out 8 (hd 8 (List.elem_iff.1 (by kernel_rfl)))
          simp only [List.setIfInBounds_toArray, List.set_cons_zero, List.set_cons_succ, e8]
          refine ite_take rfl ?_
          clear hL hd
          go_simp
          refine (HLit.out _).mono ?_
          rintro e W' ⟨rfl, hb⟩
          refine hK _ _ ⟨withVal (withVal u 8 (.string (s.extract p s.size))) 9 (.tuple #[.float .f64 X, .int .i64 (N : Int)]), ?_, HI.out.trans (hb.mono HI.out.size), withVal_next (withVal_same E 8 _ rfl) 9 _ rfl⟩
          kernel_rfl
        case o10 =>
          rintro L a' W ⟨u, rfl, HI, E⟩ hL hd K hK
          have e9 : u 9 = .tuple #[.float .f64 X, .int .i64 (N : Int)] := E.out 9 (hd 9 (List.elem_iff.1 (by kernel_rfl)))
          simp only [List.setIfInBounds_toArray, List.set_cons_zero, List.set_cons_succ, e9]
          refine ite_take rfl ?_
          clear hL hd
          go_simp
          refine hK _ _ ⟨withVal (withVal u 9 (.tuple #[.float .f64 X, .int .i64 (N : Int)])) 10 (.tuple #[.float .f64 X, .int .i64 (N : Int)]), ?_, HI, withVal_next (withVal_same E 9 _ rfl) 10 _ rfl⟩
          kernel_rfl
        case o11 =>
          rintro L a' W ⟨u, rfl, HI, E⟩ hL hd K hK
          have e10 : u 10 = .tuple #[.float .f64 X, .int .i64 (N : Int)] := E.out 10 (hd 10 (List.elem_iff.1 (by kernel_rfl)))
          simp only [List.setIfInBounds_toArray, List.set_cons_zero, List.set_cons_succ, e10]
          refine ite_take rfl ?_
          clear hL hd
          go_simp
          refine hK _ _ ⟨withVal (withVal u 10 (.tuple #[.float .f64 X, .int .i64 (N : Int)])) 11 (.float .f64 X), ?_, HI, withVal_next (withVal_same E 10 _ rfl) 11 _ rfl⟩
          kernel_rfl
        case o12 =>
          rintro L a' W ⟨u, rfl, HI, E⟩ hL hd K hK
          have e10 : u 10 = .tuple #[.float .f64 X, .int .i64 (N : Int)] := E.out 10 (hd 10 (List.elem_iff.1 (by kernel_rfl)))
          simp only [List.setIfInBounds_toArray, List.set_cons_zero, List.set_cons_succ, e10]
          refine ite_take rfl ?_
          clear hL hd
          go_simp
          refine hK _ _ ⟨withVal (withVal u 10 (.tuple #[.float .f64 X, .int .i64 (N : Int)])) 12 (.int .i64 (N : Int)), ?_, HI, withVal_next (withVal_same E 10 _ rfl) 12 _ rfl⟩
          kernel_rfl
        case o13 =>
          rintro L a' W ⟨u, rfl, HI, E⟩ hL hd K hK
          have e11 : u 11 = .float .f64 X := E.out 11 (hd 11 (List.elem_iff.1 (by kernel_rfl)))
          simp only [List.setIfInBounds_toArray, List.set_cons_zero, List.set_cons_succ, e11]
          refine ite_take rfl ?_
          clear hL hd
          go_simp
          refine hK _ _ ⟨withVal (withVal u 11 (.float .f64 X)) 13 (.float .f64 X), ?_, HI, withVal_next (withVal_same E 11 _ rfl) 13 _ rfl⟩
          kernel_rfl
        case o14 =>
          rintro L a' W ⟨u, rfl, HI, E⟩ hL hd K hK
          have e12 : u 12 = .int .i64 (N : Int) := E.out 12 (hd 12 (List.elem_iff.1 (by kernel_rfl)))
          simp only [List.setIfInBounds_toArray, List.set_cons_zero, List.set_cons_succ, e12]
          refine ite_take rfl ?_
          clear hL hd
          go_simp
          refine hK _ _ ⟨withVal (withVal u 12 (.int .i64 (N : Int))) 14 (.int .i64 (N : Int)), ?_, HI, withVal_next (withVal_same E 12 _ rfl) 14 _ rfl⟩
          kernel_rfl
      case hdone =>
        rintro L a' W1 hall ⟨u, rfl, HI, E⟩
        have e0 : u 0 = .pointer (some ⟨b, 0, none⟩) := E.out 0 (hall 0 (by decide))
        have e1 : u 1 = .pointer (some ⟨b, 0, none⟩) := E.out 1 (hall 1 (by decide))
        have e2 : u 2 = .pointer (some ⟨b, 0, none⟩) := E.out 2 (hall 2 (by decide))
        have e3 : u 3 = .string s := E.out 3 (hall 3 (by decide))
        have e4 : u 4 = .pointer (some ⟨b, 0, none⟩) := E.out 4 (hall 4 (by decide))
        have e5 : u 5 = .pointer (some ⟨b, 0, none⟩) := E.out 5 (hall 5 (by decide))
        have e6 : u 6 = .pointer (some ⟨b, 1, none⟩) := E.out 6 (hall 6 (by decide))
        have e7 : u 7 = .int .i64 (p : Int) := E.out 7 (hall 7 (by decide))
        have e8 : u 8 = .string (s.extract p s.size) := E.out 8 (hall 8 (by decide))
        have e9 : u 9 = .tuple #[.float .f64 X, .int .i64 (N : Int)] := E.out 9 (hall 9 (by decide))
        have e10 : u 10 = .tuple #[.float .f64 X, .int .i64 (N : Int)] := E.out 10 (hall 10 (by decide))
        have e11 : u 11 = .float .f64 X := E.out 11 (hall 11 (by decide))
        have e12 : u 12 = .int .i64 (N : Int) := E.out 12 (hall 12 (by decide))
        have e13 : u 13 = .float .f64 X := E.out 13 (hall 13 (by decide))
        have e14 : u 14 = .int .i64 (N : Int) := E.out 14 (hall 14 (by decide))
        simp only [List.setIfInBounds_toArray, List.set_cons_zero, List.set_cons_succ, e0, e1, e2, e3, e4, e5, e6, e7, e8, e9, e10, e11, e12, e13, e14]
        have HBr : Hid (Below w.heap.size w W1) := HB1.out.trans (HI.out.mono HB1.out.size)
        have HSr : Hid (Sc W1 D b s p l v LT) := HS1.out.below HI.out
        have HBD : Hid (Below D w W1) := HBr.out.mono hD
        clear hall E HI c0 c1 HS1 HB1
        rename_i K hKK
        refine hKK _ _ ?_
        rcases Nat.eq_zero_or_pos N with hN0 | hN0
        · subst hN0
          go_wp2_with fail
          go_ret
          exact NumE.no (by simp) ⟨rfl, HBr.out⟩
        have hN1 : ((N : Int) == 0) = false := beq_eq_false_iff_ne.2 (by omega)
        have hN3 : ¬ (N : Int) = 0 := by omega
        have hN4 : ¬ N = 0 := by omega
        have HK : Hid ((nc && decide (0 < N)) = true) := by
          show _ = _
          rw [HNC.out, decide_eq_true hN0, Bool.and_true]
          simp
          try omega
        generalize hcond : (nc && decide (0 < N)) = cond at *
        obtain ⟨q, hq⟩ : ∃ q, q = p + N := ⟨_, rfl⟩
        have hqI : (p : Int) + (N : Int) = (q : Int) := by omega
        have hqW := wrapN q (by omega)
        have HQ := Lib.hid hq
        clear hq
        have hqB : (q : Int) ≤ 100000 := by omega
        have c2 := HSr.out.c2
        cases hgt : (FloatKind.f64.format.order X 9218868437227405311 == some .gt) with
        | true =>
          go_wp2_with fail
          refine (fail_any _ l 201 _).mono ?_
          rintro e w3 ⟨rfl, rfl⟩
          go_wp2_with fail
          refine ⟨rfl, ?_⟩
          exact NumE.big HK.out hgt ⟨rfl, HBD.out⟩
        | false =>
          have c1 := HSr.out.c1
          have f1 := HSr.out.f 1
          have HS2 := Lib.hid (HSr.out.setAt q)
          have HB2 := Lib.hid (HBD.out.setCell (p := ⟨b, 1, none⟩) HSr.out.lo (.int .i64 (q : Int)))
          clear c2
          have c2 := HS2.out.c2
          go_wp2_with fail
          refine (add_any D b s q l v LT 3 [] X l _ HS2.out hL).mono ?_
          rintro e w3 ⟨rfl, hs3, hb3⟩
          have HS3 := Lib.hid hs3
          have HB3 := Lib.hid (HB2.out.trans hb3)
          clear hs3 hb3
          go_wp2_with fail
          go_ret
          exact NumE.yes HK.out hgt ⟨rfl, HQ.out ▸ HS3.out, HB3.out⟩
    · have hI2 : ((n : Int) == 46) = false := beq_eq_false_iff_ne.2 (by omega)
      have hz : nc = false := by rw [HNC.out]; simp; omega
      subst hz
      rw [Bool.false_and]
      go_enter Tryd.func20, Tryd.ntmps20
      go_wp2_with fail
      go_quiet (fail)
      go_wp2_with fail
      go_ret
      exact NumE.no rfl ⟨rfl, (Below.refl _ _).drewN _⟩
  · have hI : (48 : Int) ≤ (n : Int) := by omega
    have hI1 : decide ((n : Int) < 48) = false := decide_eq_false (by omega)
    by_cases h2 : n ≤ 57
    · have hI2 : (n : Int) ≤ 57 := by omega
      go_enter Tryd.func20, Tryd.ntmps20
      go_wp2_with fail
      go_quiet (fail)
      go_wp2_with fail
      obtain ⟨ws, hws⟩ : ∃ ws, ws = w.drewN nq := ⟨_, rfl⟩
      have HS1 : Hid (Sc ws D b s p l v LT) := by rw [hws]; exact HS.out.drewN _
      have HB1 : Hid (Below w.heap.size w ws) := by rw [hws]; exact (Below.refl _ _).drewN _
      clear c0 c1
      rw [← hws]
      clear hws
      have c0 := HS1.out.c0
      have c1 := HS1.out.c1
      refine wp_region_guarded (by kernel_rfl) (by kernel_rfl) (fun a0 V0 L a W => ∃ u : Nat → Value, a = { tmps := (((((((((((((((a0.tmps.setIfInBounds 26 (u 0)).setIfInBounds 27 (u 1)).setIfInBounds 28 (u 2)).setIfInBounds 29 (u 3)).setIfInBounds 30 (u 4)).setIfInBounds 31 (u 5)).setIfInBounds 32 (u 6)).setIfInBounds 33 (u 7)).setIfInBounds 34 (u 8)).setIfInBounds 35 (u 9)).setIfInBounds 25 (u 10)).setIfInBounds 36 (u 11)).setIfInBounds 37 (u 12)).setIfInBounds 4 (u 13)).setIfInBounds 5 (u 14)), defers := a0.defers } ∧ Hid (Below V0.heap.size V0 W) ∧ Hid (∀ i, L i = true → u i = valAt [.pointer (some ⟨b, 0, none⟩), .pointer (some ⟨b, 0, none⟩), .pointer (some ⟨b, 0, none⟩), .string s, .pointer (some ⟨b, 0, none⟩), .pointer (some ⟨b, 0, none⟩), .pointer (some ⟨b, 1, none⟩), .int .i64 (p : Int), .string (s.extract p s.size), .tuple #[.float .f64 X, .int .i64 (N : Int)], .tuple #[.float .f64 X, .int .i64 (N : Int)], .float .f64 X, .int .i64 (N : Int), .float .f64 X, .int .i64 (N : Int)] i)) ?h0 ?hstep ?hdone
      case h0 =>
        refine ⟨valAt [undef, undef, undef, undef, undef, undef, undef, undef, undef, undef, undef, undef, undef, undef, undef], ?_, (Below.refl _ _).drew, fun _ h => (by cases h)⟩
        kernel_rfl
      case hstep =>
        refine ⟨?o0, ?o1, ?o2, ?o3, ?o4, ?o5, ?o6, ?o7, ?o8, ?o9, ?o10, ?o11, ?o12, ?o13, ?o14, trivial⟩
        case o0 =>
          rintro L a' W ⟨u, rfl, HI, E⟩ hL hd K hK
          simp only [List.setIfInBounds_toArray, List.set_cons_zero, List.set_cons_succ]
          refine ite_take rfl ?_
          clear hL hd
          go_simp
          refine hK _ _ ⟨withVal u 0 (.pointer (some ⟨b, 0, none⟩)), ?_, HI, withVal_next E 0 _ rfl⟩
          kernel_rfl
        case o1 =>
          rintro L a' W ⟨u, rfl, HI, E⟩ hL hd K hK
          have e0 : u 0 = .pointer (some ⟨b, 0, none⟩) := E.out 0 (hd 0 (List.elem_iff.1 (by kernel_rfl)))
          simp only [List.setIfInBounds_toArray, List.set_cons_zero, List.set_cons_succ, e0]
          refine ite_take rfl ?_
          clear hL hd
          go_simp
          refine hK _ _ ⟨withVal (withVal u 0 (.pointer (some ⟨b, 0, none⟩))) 1 (.pointer (some ⟨b, 0, none⟩)), ?_, HI, withVal_next (withVal_same E 0 _ rfl) 1 _ rfl⟩
          kernel_rfl
        case o2 =>
          rintro L a' W ⟨u, rfl, HI, E⟩ hL hd K hK
          have e1 : u 1 = .pointer (some ⟨b, 0, none⟩) := E.out 1 (hd 1 (List.elem_iff.1 (by kernel_rfl)))
          simp only [List.setIfInBounds_toArray, List.set_cons_zero, List.set_cons_succ, e1]
          refine ite_take rfl ?_
          clear hL hd
          go_simp
          refine hK _ _ ⟨withVal (withVal u 1 (.pointer (some ⟨b, 0, none⟩))) 2 (.pointer (some ⟨b, 0, none⟩)), ?_, HI, withVal_next (withVal_same E 1 _ rfl) 2 _ rfl⟩
          kernel_rfl
        case o3 =>
          rintro L a' W ⟨u, rfl, HI, E⟩ hL hd K hK
          have e2 : u 2 = .pointer (some ⟨b, 0, none⟩) := E.out 2 (hd 2 (List.elem_iff.1 (by kernel_rfl)))
          have kc0 := cellNext HI.out c0
          simp only [List.setIfInBounds_toArray, List.set_cons_zero, List.set_cons_succ, e2]
          refine ite_take rfl ?_
          clear hL hd
          go_simp
          refine hK _ _ ⟨withVal (withVal u 2 (.pointer (some ⟨b, 0, none⟩))) 3 (.string s), ?_, HI, withVal_next (withVal_same E 2 _ rfl) 3 _ rfl⟩
          kernel_rfl
        case o4 =>
          rintro L a' W ⟨u, rfl, HI, E⟩ hL hd K hK
          simp only [List.setIfInBounds_toArray, List.set_cons_zero, List.set_cons_succ]
          refine ite_take rfl ?_
          clear hL hd
          go_simp
          refine hK _ _ ⟨withVal u 4 (.pointer (some ⟨b, 0, none⟩)), ?_, HI, withVal_next E 4 _ rfl⟩
          kernel_rfl
        case o5 =>
          rintro L a' W ⟨u, rfl, HI, E⟩ hL hd K hK
          have e4 : u 4 = .pointer (some ⟨b, 0, none⟩) := E.out 4 (hd 4 (List.elem_iff.1 (by kernel_rfl)))
          simp only [List.setIfInBounds_toArray, List.set_cons_zero, List.set_cons_succ, e4]
          refine ite_take rfl ?_
          clear hL hd
          go_simp
          refine hK _ _ ⟨withVal (withVal u 4 (.pointer (some ⟨b, 0, none⟩))) 5 (.pointer (some ⟨b, 0, none⟩)), ?_, HI, withVal_next (withVal_same E 4 _ rfl) 5 _ rfl⟩
          kernel_rfl
        case o6 =>
          rintro L a' W ⟨u, rfl, HI, E⟩ hL hd K hK
          have e5 : u 5 = .pointer (some ⟨b, 0, none⟩) := E.out 5 (hd 5 (List.elem_iff.1 (by kernel_rfl)))
          simp only [List.setIfInBounds_toArray, List.set_cons_zero, List.set_cons_succ, e5]
          refine ite_take rfl ?_
          clear hL hd
          go_simp
          refine hK _ _ ⟨withVal (withVal u 5 (.pointer (some ⟨b, 0, none⟩))) 6 (.pointer (some ⟨b, 1, none⟩)), ?_, HI, withVal_next (withVal_same E 5 _ rfl) 6 _ rfl⟩
          kernel_rfl
        case o7 =>
          rintro L a' W ⟨u, rfl, HI, E⟩ hL hd K hK
          have e6 : u 6 = .pointer (some ⟨b, 1, none⟩) := E.out 6 (hd 6 (List.elem_iff.1 (by kernel_rfl)))
          have kc1 := cellNext HI.out c1
          simp only [List.setIfInBounds_toArray, List.set_cons_zero, List.set_cons_succ, e6]
          refine ite_take rfl ?_
          clear hL hd
          go_simp
          refine hK _ _ ⟨withVal (withVal u 6 (.pointer (some ⟨b, 1, none⟩))) 7 (.int .i64 (p : Int)), ?_, HI, withVal_next (withVal_same E 6 _ rfl) 7 _ rfl⟩
          kernel_rfl
        case o8 =>
          rintro L a' W ⟨u, rfl, HI, E⟩ hL hd K hK
          have e3 : u 3 = .string s := E.out 3 (hd 3 (List.elem_iff.1 (by kernel_rfl)))
          have e7 : u 7 = .int .i64 (p : Int) := E.out 7 (hd 7 (List.elem_iff.1 (by kernel_rfl)))
          simp only [List.setIfInBounds_toArray, List.set_cons_zero, List.set_cons_succ, e3, e7]
          refine ite_take rfl ?_
          clear hL hd
          go_simp
          refine hK _ _ ⟨withVal (withVal (withVal u 3 (.string s)) 7 (.int .i64 (p : Int))) 8 (.string (s.extract p s.size)), ?_, HI, withVal_next (withVal_same (withVal_same E 3 _ rfl) 7 _ rfl) 8 _ rfl⟩
          kernel_rfl
        case o9 =>
          rintro L a' W ⟨u, rfl, HI, E⟩ hL hd K hK
          have e8 : u 8 = .string (s.extract p s.size) := E.out 8 (hd 8 (List.elem_iff.1 (by kernel_rfl)))
          simp only [List.setIfInBounds_toArray, List.set_cons_zero, List.set_cons_succ, e8]
          refine ite_take rfl ?_
          clear hL hd
          go_simp
          refine (HLit.out _).mono ?_
          rintro e W' ⟨rfl, hb⟩
          refine hK _ _ ⟨withVal (withVal u 8 (.string (s.extract p s.size))) 9 (.tuple #[.float .f64 X, .int .i64 (N : Int)]), ?_, HI.out.trans (hb.mono HI.out.size), withVal_next (withVal_same E 8 _ rfl) 9 _ rfl⟩
          kernel_rfl
        case o10 =>
          rintro L a' W ⟨u, rfl, HI, E⟩ hL hd K hK
          have e9 : u 9 = .tuple #[.float .f64 X, .int .i64 (N : Int)] := E.out 9 (hd 9 (List.elem_iff.1 (by kernel_rfl)))
          simp only [List.setIfInBounds_toArray, List.set_cons_zero, List.set_cons_succ, e9]
          refine ite_take rfl ?_
          clear hL hd
          go_simp
          refine hK _ _ ⟨withVal (withVal u 9 (.tuple #[.float .f64 X, .int .i64 (N : Int)])) 10 (.tuple #[.float .f64 X, .int .i64 (N : Int)]), ?_, HI, withVal_next (withVal_same E 9 _ rfl) 10 _ rfl⟩
          kernel_rfl
        case o11 =>
          rintro L a' W ⟨u, rfl, HI, E⟩ hL hd K hK
          have e10 : u 10 = .tuple #[.float .f64 X, .int .i64 (N : Int)] := E.out 10 (hd 10 (List.elem_iff.1 (by kernel_rfl)))
          simp only [List.setIfInBounds_toArray, List.set_cons_zero, List.set_cons_succ, e10]
          refine ite_take rfl ?_
          clear hL hd
          go_simp
          refine hK _ _ ⟨withVal (withVal u 10 (.tuple #[.float .f64 X, .int .i64 (N : Int)])) 11 (.float .f64 X), ?_, HI, withVal_next (withVal_same E 10 _ rfl) 11 _ rfl⟩
          kernel_rfl
        case o12 =>
          rintro L a' W ⟨u, rfl, HI, E⟩ hL hd K hK
          have e10 : u 10 = .tuple #[.float .f64 X, .int .i64 (N : Int)] := E.out 10 (hd 10 (List.elem_iff.1 (by kernel_rfl)))
          simp only [List.setIfInBounds_toArray, List.set_cons_zero, List.set_cons_succ, e10]
          refine ite_take rfl ?_
          clear hL hd
          go_simp
          refine hK _ _ ⟨withVal (withVal u 10 (.tuple #[.float .f64 X, .int .i64 (N : Int)])) 12 (.int .i64 (N : Int)), ?_, HI, withVal_next (withVal_same E 10 _ rfl) 12 _ rfl⟩
          kernel_rfl
        case o13 =>
          rintro L a' W ⟨u, rfl, HI, E⟩ hL hd K hK
          have e11 : u 11 = .float .f64 X := E.out 11 (hd 11 (List.elem_iff.1 (by kernel_rfl)))
          simp only [List.setIfInBounds_toArray, List.set_cons_zero, List.set_cons_succ, e11]
          refine ite_take rfl ?_
          clear hL hd
          go_simp
          refine hK _ _ ⟨withVal (withVal u 11 (.float .f64 X)) 13 (.float .f64 X), ?_, HI, withVal_next (withVal_same E 11 _ rfl) 13 _ rfl⟩
          kernel_rfl
        case o14 =>
          rintro L a' W ⟨u, rfl, HI, E⟩ hL hd K hK
          have e12 : u 12 = .int .i64 (N : Int) := E.out 12 (hd 12 (List.elem_iff.1 (by kernel_rfl)))
          simp only [List.setIfInBounds_toArray, List.set_cons_zero, List.set_cons_succ, e12]
          refine ite_take rfl ?_
          clear hL hd
          go_simp
          refine hK _ _ ⟨withVal (withVal u 12 (.int .i64 (N : Int))) 14 (.int .i64 (N : Int)), ?_, HI, withVal_next (withVal_same E 12 _ rfl) 14 _ rfl⟩
          kernel_rfl
      case hdone =>
        rintro L a' W1 hall ⟨u, rfl, HI, E⟩
        have e0 : u 0 = .pointer (some ⟨b, 0, none⟩) := E.out 0 (hall 0 (by decide))
        have e1 : u 1 = .pointer (some ⟨b, 0, none⟩) := E.out 1 (hall 1 (by decide))
        have e2 : u 2 = .pointer (some ⟨b, 0, none⟩) := E.out 2 (hall 2 (by decide))
        have e3 : u 3 = .string s := E.out 3 (hall 3 (by decide))
        have e4 : u 4 = .pointer (some ⟨b, 0, none⟩) := E.out 4 (hall 4 (by decide))
        have e5 : u 5 = .pointer (some ⟨b, 0, none⟩) := E.out 5 (hall 5 (by decide))
        have e6 : u 6 = .pointer (some ⟨b, 1, none⟩) := E.out 6 (hall 6 (by decide))
        have e7 : u 7 = .int .i64 (p : Int) := E.out 7 (hall 7 (by decide))
        have e8 : u 8 = .string (s.extract p s.size) := E.out 8 (hall 8 (by decide))
        have e9 : u 9 = .tuple #[.float .f64 X, .int .i64 (N : Int)] := E.out 9 (hall 9 (by decide))
        have e10 : u 10 = .tuple #[.float .f64 X, .int .i64 (N : Int)] := E.out 10 (hall 10 (by decide))
        have e11 : u 11 = .float .f64 X := E.out 11 (hall 11 (by decide))
        have e12 : u 12 = .int .i64 (N : Int) := E.out 12 (hall 12 (by decide))
        have e13 : u 13 = .float .f64 X := E.out 13 (hall 13 (by decide))
        have e14 : u 14 = .int .i64 (N : Int) := E.out 14 (hall 14 (by decide))
        simp only [List.setIfInBounds_toArray, List.set_cons_zero, List.set_cons_succ, e0, e1, e2, e3, e4, e5, e6, e7, e8, e9, e10, e11, e12, e13, e14]
        have HBr : Hid (Below w.heap.size w W1) := HB1.out.trans (HI.out.mono HB1.out.size)
        have HSr : Hid (Sc W1 D b s p l v LT) := HS1.out.below HI.out
        have HBD : Hid (Below D w W1) := HBr.out.mono hD
        clear hall E HI c0 c1 HS1 HB1
        rename_i K hKK
        refine hKK _ _ ?_
        rcases Nat.eq_zero_or_pos N with hN0 | hN0
        · subst hN0
          go_wp2_with fail
          go_ret
          exact NumE.no (by simp) ⟨rfl, HBr.out⟩
        have hN1 : ((N : Int) == 0) = false := beq_eq_false_iff_ne.2 (by omega)
        have hN3 : ¬ (N : Int) = 0 := by omega
        have hN4 : ¬ N = 0 := by omega
        have HK : Hid ((nc && decide (0 < N)) = true) := by
          show _ = _
          rw [HNC.out, decide_eq_true hN0, Bool.and_true]
          simp
          try omega
        generalize hcond : (nc && decide (0 < N)) = cond at *
        obtain ⟨q, hq⟩ : ∃ q, q = p + N := ⟨_, rfl⟩
        have hqI : (p : Int) + (N : Int) = (q : Int) := by omega
        have hqW := wrapN q (by omega)
        have HQ := Lib.hid hq
        clear hq
        have hqB : (q : Int) ≤ 100000 := by omega
        have c2 := HSr.out.c2
        cases hgt : (FloatKind.f64.format.order X 9218868437227405311 == some .gt) with
        | true =>
          go_wp2_with fail
          refine (fail_any _ l 201 _).mono ?_
          rintro e w3 ⟨rfl, rfl⟩
          go_wp2_with fail
          refine ⟨rfl, ?_⟩
          exact NumE.big HK.out hgt ⟨rfl, HBD.out⟩
        | false =>
          have c1 := HSr.out.c1
          have f1 := HSr.out.f 1
          have HS2 := Lib.hid (HSr.out.setAt q)
          have HB2 := Lib.hid (HBD.out.setCell (p := ⟨b, 1, none⟩) HSr.out.lo (.int .i64 (q : Int)))
          clear c2
          have c2 := HS2.out.c2
          go_wp2_with fail
          refine (add_any D b s q l v LT 3 [] X l _ HS2.out hL).mono ?_
          rintro e w3 ⟨rfl, hs3, hb3⟩
          have HS3 := Lib.hid hs3
          have HB3 := Lib.hid (HB2.out.trans hb3)
          clear hs3 hb3
          go_wp2_with fail
          go_ret
          exact NumE.yes HK.out hgt ⟨rfl, HQ.out ▸ HS3.out, HB3.out⟩
    · have hI2 : (57 : Int) < (n : Int) := by omega
      have hz : nc = false := by rw [HNC.out]; simp; omega
      subst hz
      rw [Bool.false_and]
      go_enter Tryd.func20, Tryd.ntmps20
      go_wp2_with fail
      go_quiet (fail)
      go_wp2_with fail
      go_ret
      exact NumE.no rfl ⟨rfl, (Below.refl _ _).drewN _⟩
end Go.Proofs.YtkaelmbgfcehhaaDoor
end
