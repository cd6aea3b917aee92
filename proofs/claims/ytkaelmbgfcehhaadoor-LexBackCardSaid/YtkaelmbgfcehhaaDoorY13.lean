/- Package lex: token. -/
import Derived.Test.YtkaelmbgfcehhaaDoorY3
import Derived.Test.YtkaelmbgfcehhaaDoorY5
import Derived.Test.YtkaelmbgfcehhaaDoorY8
import Derived.Test.YtkaelmbgfcehhaaDoorY9
import Derived.Test.YtkaelmbgfcehhaaDoorY12
set_option linter.unusedVariables false
set_option linter.unusedSimpArgs false
namespace Go.Proofs.YtkaelmbgfcehhaaDoor
open Go.RowKit
set_option linter.unusedVariables false
set_option linter.unusedSimpArgs false

theorem Sc.to {w : World} {D b : Nat} {s : ByteArray} {p l p' l' : Nat} {v : Value} {L : List TokT} (h : Sc w D b s p l v L) (hp : p = p') (hl : l = l') : Sc w D b s p' l' v L := by subst hp hl; exact h
def moreT (LT : List TokT) (l : Nat) : Option (Nat × List UInt8 × Nat) → List TokT
  | none => LT
  | some (kd, t, x) => LT ++ [(kd, t, x, l)]
/-- what token does -/
def StepE (D b : Nat) (s : ByteArray) (p l : Nat) (LT : List TokT) (w : World) (r : StepR) (e : Ending) (w' : World) : Prop := match r with
  | .bad er => e = .panicked [{ v := lexF l er, recovered := false }] ∧ Below D w w'
  | .go k n tok => e = .returned (.tuple #[]) ∧ (∃ v', Sc w' D b s (p + k) (l + n) v' (moreT LT l tok)) ∧ Below D w w'
def textStep : Option (List UInt8 × Nat × Nat) → StepR
  | none => .bad 201
  | some (o, n, l) => if 1024 < o.length then .bad 201 else .go (1 + n) l (some (4, o, 0))
def slashStep : Option (List UInt8 × Nat) → StepR
  | none => .bad 202
  | some (o, n) => if 1024 < o.length then .bad 202 else .go (1 + n) 0 (some (5, o, 0))
def signStep : Option (List UInt8) → StepR
  | none => .bad 200
  | some p => .go p.length 0 (some (7, p, 0))
theorem textStep_eq (q : Option (List UInt8 × Nat × Nat)) : (match q with
      | none => StepR.bad 201
      | some (o, n, l) => if 1024 < o.length then .bad 201 else .go (1 + n) l (some (4, o, 0))) = textStep q := by
  cases q <;> rfl
theorem slashStep_eq (q : Option (List UInt8 × Nat)) : (match q with
      | none => StepR.bad 202
      | some (o, n) => if 1024 < o.length then .bad 202 else .go (1 + n) 0 (some (5, o, 0))) = slashStep q := by
  cases q <;> rfl
theorem signStep_eq (q : Option (List UInt8)) : (match q with
      | none => StepR.bad 200
      | some p => .go p.length 0 (some (7, p, 0))) = signStep q := by
  cases q <;> rfl
section
variable {D b p l : Nat} {s : ByteArray} {v : Value} {LT : List TokT} {w w1 w' : World} {r : StepR} {e : Ending}
theorem StepE.bad {er : Nat} (hr : r = .bad er) (h : e = .panicked [{ v := lexF l er, recovered := false }] ∧ Below D w w') : StepE D b s p l LT w r e w' := by subst hr; exact h
theorem StepE.go {k n : Nat} {tok : Option (Nat × List UInt8 × Nat)} (hr : r = .go k n tok) (h : e = .returned (.tuple #[]) ∧ (∃ v', Sc w' D b s (p + k) (l + n) v' (moreT LT l tok)) ∧ Below D w w') : StepE D b s p l LT w r e w' := by subst hr; exact h
theorem TextE.step {q : Option (List UInt8 × Nat × Nat)} (h : TextE D b s p l LT w1 q e w') (hb : Below D w w1) (hr : r = textStep q) :
    (e = .returned (.tuple #[]) ∨ ∃ ch, e = .panicked ch) ∧ StepE D b s p l LT w r e w' := by
  cases q with
  | none => exact ⟨.inr ⟨_, h.1⟩, .bad hr ⟨h.1, hb.trans h.2⟩⟩
  | some q =>
    obtain ⟨o, k, n⟩ := q
    have h' : if o.length ≤ 1024 then _ else _ := h
    by_cases ho : o.length ≤ 1024
    · rw [if_pos ho] at h'
      simp only [textStep] at hr
      rw [if_neg (by omega)] at hr
      exact ⟨.inl h'.1, .go hr ⟨h'.1, h'.2.1, hb.trans h'.2.2⟩⟩
    · rw [if_neg ho] at h'
      simp only [textStep] at hr
      rw [if_pos (by omega)] at hr
      exact ⟨.inr ⟨_, h'.1⟩, .bad hr ⟨h'.1, hb.trans h'.2⟩⟩
theorem SlashE.step {q : Option (List UInt8 × Nat)} (h : SlashE D b s p l LT w1 q e w') (hb : Below D w w1) (hr : r = slashStep q) :
    (e = .returned (.tuple #[]) ∨ ∃ ch, e = .panicked ch) ∧ StepE D b s p l LT w r e w' := by
  cases q with
  | none => exact ⟨.inr ⟨_, h.1⟩, .bad hr ⟨h.1, hb.trans h.2⟩⟩
  | some q =>
    obtain ⟨o, k⟩ := q
    have h' : if o.length ≤ 1024 then _ else _ := h
    by_cases ho : o.length ≤ 1024
    · rw [if_pos ho] at h'
      simp only [slashStep] at hr
      rw [if_neg (by omega)] at hr
      exact ⟨.inl h'.1, .go hr ⟨h'.1, h'.2.1, hb.trans h'.2.2⟩⟩
    · rw [if_neg ho] at h'
      simp only [slashStep] at hr
      rw [if_pos (by omega)] at hr
      exact ⟨.inr ⟨_, h'.1⟩, .bad hr ⟨h'.1, hb.trans h'.2⟩⟩
theorem SignE.step {q : Option (List UInt8)} (h : SignE D b s p l LT w1 q e w') (hb : Below D w w1) (hr : r = signStep q) :
    (e = .returned (.tuple #[]) ∨ ∃ ch, e = .panicked ch) ∧ StepE D b s p l LT w r e w' := by
  cases q with
  | none => exact ⟨.inr ⟨_, h.1⟩, .bad hr ⟨h.1, hb.trans h.2⟩⟩
  | some q => exact ⟨.inl h.1, .go hr ⟨h.1, h.2.1, hb.trans h.2.2⟩⟩
end
section
variable {lit : List UInt8 → Nat × Nat} {c : UInt8} {T : List UInt8} {last : Option TokT}
theorem step_blank (h : c = 32 ∨ c = 9 ∨ c = 13) : stepR lit (c :: T) last = .go 1 0 none := by simp only [stepR]; rw [if_pos h]
theorem step_nl : stepR lit (10 :: T) last = .go 1 1 (some (8, [], 0)) := rfl
theorem step_rem : stepR lit (35 :: T) last = .go ((35 :: T).takeWhile fun c => c != 10).length 0 none := rfl
theorem step_b1 (h : T.head? = some 10) : stepR lit (92 :: T) last = .go 2 1 none := by simp only [stepR]; rw [if_neg (by decide), if_neg (by decide), if_neg (by decide), if_pos ⟨trivial, h⟩]
theorem step_b2 (h0 : T.head? ≠ some 10) (h : T.take 2 = [13, 10]) : stepR lit (92 :: T) last = .go 3 1 none := by simp only [stepR]; rw [if_neg (by decide), if_neg (by decide), if_neg (by decide), if_neg (fun e => h0 e.2), if_pos ⟨trivial, h⟩]
theorem step_tok (h1 : ¬ (c = 32 ∨ c = 9 ∨ c = 13)) (h2 : c ≠ 10) (h3 : c ≠ 35) (h4 : ¬ (c = 92 ∧ T.head? = some 10)) (h5 : ¬ (c = 92 ∧ T.take 2 = [13, 10])) : stepR lit (c :: T) last = tokR lit (c :: T) last := by
  simp only [stepR]
  rw [if_neg h1, if_neg h2, if_neg h3, if_neg h4, if_neg h5]
theorem see_b1 : Lib.hasPrefix (c :: T) [92, 10] = decide (c = 92 ∧ T.head? = some 10) := by
  rw [Bool.eq_iff_iff, decide_eq_true_iff]
  cases T with
  | nil => simp [Lib.hasPrefix, List.isPrefixOf]
  | cons d T =>
    simp [Lib.hasPrefix, List.isPrefixOf]
    exact ⟨fun ⟨a, b⟩ => ⟨a.symm, b.symm⟩, fun ⟨a, b⟩ => ⟨a.symm, b.symm⟩⟩
theorem see_b2 : Lib.hasPrefix (c :: T) [92, 13, 10] = decide (c = 92 ∧ T.take 2 = [13, 10]) := by
  rw [Bool.eq_iff_iff, decide_eq_true_iff]
  cases T with
  | nil => simp [Lib.hasPrefix, List.isPrefixOf]
  | cons d T =>
    cases T with
    | nil => simp [Lib.hasPrefix, List.isPrefixOf]
    | cons f T =>
      simp [Lib.hasPrefix, List.isPrefixOf]
      exact ⟨fun ⟨a, b, c⟩ => ⟨a.symm, b.symm, c.symm⟩, fun ⟨a, b, c⟩ => ⟨a.symm, b.symm, c.symm⟩⟩
end
theorem idx_take : ∀ (R : List UInt8) (c : UInt8), (c ∈ R → Lib.indexByte R c = ((R.takeWhile fun x => x != c).length : Int)) ∧ (c ∉ R → Lib.indexByte R c = -1 ∧ (R.takeWhile fun x => x != c).length = R.length)
  | [], c => ⟨fun h => (by cases h), fun _ => ⟨rfl, rfl⟩⟩
  | b :: t, c => by
    obtain ⟨h1, h2⟩ := idx_take t c
    unfold Lib.indexByte
    rw [List.takeWhile_cons]
    by_cases hb : b = c
    · subst hb
      refine ⟨fun _ => ?_, fun h => absurd (by simp) h⟩
      rw [if_pos (by simp), if_neg (by simp)]
      rfl
    · have hb' : (b == c) = false := beq_eq_false_iff_ne.2 hb
      have hb2 : (b != c) = true := by simp [bne, hb']
      rw [if_neg (by rw [hb']; exact Bool.false_ne_true), if_pos hb2]
      constructor
      · intro h
        have ht : c ∈ t := by
          rcases List.mem_cons.1 h with e | e
          · exact absurd e.symm hb
          · exact e
        rw [h1 ht, if_neg (by intro e; have := beq_iff_eq.1 e; omega)]
        simp
      · intro h
        obtain ⟨g1, g2⟩ := h2 fun e => h (List.mem_cons_of_mem _ e)
        rw [g1, if_pos (by rfl), List.length_cons, g2]
        exact ⟨rfl, rfl⟩
set_option maxRecDepth 100000 in
set_option maxHeartbeats 32000000 in
theorem token_any (D b : Nat) (s : ByteArray) (p l : Nat) (v : Value) (LT : List TokT) (w : World) (h : Sc w D b s p l v LT) (hp : p < s.size) (hs : s.size ≤ 100000) (hl : l ≤ 200000) (hL : LT.length ≤ 1000000) (hD : D ≤ w.heap.size) (hM : MaxOk w) (hMD : 1 < D) :
    Calls Tryd.prog 13 #[.pointer (some ⟨b, 0, none⟩)] w (StepE D b s p l LT w (stepR litL (s.data.toList.drop p) LT.getLast?)) := by
  obtain ⟨res, hres⟩ : ∃ r, r = stepR litL (s.data.toList.drop p) LT.getLast? := ⟨_, rfl⟩
  rw [← hres]
  have hd := drop_byte hp
  have HRes := Lib.hid hres
  have c0 := h.c0
  have c1 := h.c1
  have HS := Lib.hid h
  have HM := Lib.hid hM
  have hpI : (p : Int) < (s.size : Int) := by omega
  have hpB : (p : Int) ≤ 100000 := by omega
  have hL9 : LT.length ≤ 1000000000 := by omega
  generalize hC : s[p] = c at *
  have HD := Lib.hid hd
  generalize hT : s.data.toList.drop (p + 1) = T at *
  have hcn := c.toNat_lt
  obtain ⟨q, hq⟩ : ∃ q, q = p + 1 := ⟨_, rfl⟩
  have HQ := Lib.hid hq
  have eq1 : (p : Int) + 1 = (q : Int) := by omega
  have eqw := wrapN q (by omega)
  have hcI : ∀ k : UInt8, c ≠ k → ((c.toNat : Int) == (k.toNat : Int)) = false := fun k hk => beq_eq_false_iff_ne.2 (fun e => hk (UInt8.toNat_inj.1 (by omega)))
  have HcI := Lib.hid hcI
  clear h hM hres hd hq hcI
  by_cases hk : c = 32
  · have HRn : Hid (res = .go 1 0 none) := by show _ = _; rw [HRes.out, HD.out]; exact step_blank (.inl hk)
    subst hk
    go_enter Tryd.func13, Tryd.ntmps13
    go_wp2_with fail
    go_quiet (fail)
    obtain ⟨ws, hws⟩ : ∃ ws, ws = w.drewN nq := ⟨_, rfl⟩
    have HS1 : Hid (Sc ws D b s p l v LT) := by rw [hws]; exact HS.out.drewN _
    have HB1 : Hid (Below w.heap.size w ws) := by rw [hws]; exact (Below.refl _ _).drewN _
    have HBD1 : Hid (Below D w ws) := by rw [hws]; exact (Below.refl _ _).drewN _
    clear c0 c1
    rw [← hws]
    clear hws HS
    have c1 := HS1.out.c1
    have f1 := HS1.out.f 1
    have HS2 := Lib.hid (HS1.out.setAt q)
    have HB2 := Lib.hid (HBD1.out.setCell (p := ⟨b, 1, none⟩) HS1.out.lo (.int .i64 (q : Int)))
    go_wp2_with fail
    go_end0
    exact .go HRn.out ⟨rfl, ⟨_, HS2.out.to HQ.out rfl⟩, HB2.out⟩
  have n32 : ((c.toNat : Int) == 32) = false := HcI.out 32 hk
  by_cases hk9 : c = 9
  · have HRn : Hid (res = .go 1 0 none) := by show _ = _; rw [HRes.out, HD.out]; exact step_blank (.inr (.inl hk9))
    subst hk9
    go_enter Tryd.func13, Tryd.ntmps13
    go_wp2_with fail
    go_quiet (fail)
    obtain ⟨ws, hws⟩ : ∃ ws, ws = w.drewN nq := ⟨_, rfl⟩
    have HS1 : Hid (Sc ws D b s p l v LT) := by rw [hws]; exact HS.out.drewN _
    have HB1 : Hid (Below w.heap.size w ws) := by rw [hws]; exact (Below.refl _ _).drewN _
    have HBD1 : Hid (Below D w ws) := by rw [hws]; exact (Below.refl _ _).drewN _
    clear c0 c1
    rw [← hws]
    clear hws HS
    have c1 := HS1.out.c1
    have f1 := HS1.out.f 1
    have HS2 := Lib.hid (HS1.out.setAt q)
    have HB2 := Lib.hid (HBD1.out.setCell (p := ⟨b, 1, none⟩) HS1.out.lo (.int .i64 (q : Int)))
    go_wp2_with fail
    go_end0
    exact .go HRn.out ⟨rfl, ⟨_, HS2.out.to HQ.out rfl⟩, HB2.out⟩
  have n9 : ((c.toNat : Int) == 9) = false := HcI.out 9 hk9
  by_cases hk13 : c = 13
  · have HRn : Hid (res = .go 1 0 none) := by show _ = _; rw [HRes.out, HD.out]; exact step_blank (.inr (.inr hk13))
    subst hk13
    go_enter Tryd.func13, Tryd.ntmps13
    go_wp2_with fail
    go_quiet (fail)
    obtain ⟨ws, hws⟩ : ∃ ws, ws = w.drewN nq := ⟨_, rfl⟩
    have HS1 : Hid (Sc ws D b s p l v LT) := by rw [hws]; exact HS.out.drewN _
    have HB1 : Hid (Below w.heap.size w ws) := by rw [hws]; exact (Below.refl _ _).drewN _
    have HBD1 : Hid (Below D w ws) := by rw [hws]; exact (Below.refl _ _).drewN _
    clear c0 c1
    rw [← hws]
    clear hws HS
    have c1 := HS1.out.c1
    have f1 := HS1.out.f 1
    have HS2 := Lib.hid (HS1.out.setAt q)
    have HB2 := Lib.hid (HBD1.out.setCell (p := ⟨b, 1, none⟩) HS1.out.lo (.int .i64 (q : Int)))
    go_wp2_with fail
    go_end0
    exact .go HRn.out ⟨rfl, ⟨_, HS2.out.to HQ.out rfl⟩, HB2.out⟩
  have n13 : ((c.toNat : Int) == 13) = false := HcI.out 13 hk13
  by_cases hk10 : c = 10
  · have HRn : Hid (res = .go 1 1 (some (8, [], 0))) := by show _ = _; rw [HRes.out, HD.out, hk10]; exact step_nl
    subst hk10
    go_enter Tryd.func13, Tryd.ntmps13
    go_wp2_with fail
    go_quiet (fail)
    obtain ⟨ws, hws⟩ : ∃ ws, ws = w.drewN nq := ⟨_, rfl⟩
    have HS1 : Hid (Sc ws D b s p l v LT) := by rw [hws]; exact HS.out.drewN _
    have HB1 : Hid (Below w.heap.size w ws) := by rw [hws]; exact (Below.refl _ _).drewN _
    have HBD1 : Hid (Below D w ws) := by rw [hws]; exact (Below.refl _ _).drewN _
    clear c0 c1
    rw [← hws]
    clear hws HS
    have c2 := HS1.out.c2
    go_wp2_with fail
    refine (add_any D b s p l v LT 8 [] 0 l _ HS1.out hL9).mono ?_
    rintro e w2 ⟨rfl, ⟨v2, hs2⟩, hb2⟩
    have HB2 := Lib.hid (HBD1.out.trans hb2)
    have HS3 := Lib.hid (hs2.setAt q)
    obtain ⟨l1, hl1⟩ : ∃ l1, l1 = l + 1 := ⟨_, rfl⟩
    have el : (l : Int) + 1 = (l1 : Int) := by omega
    have elw := wrapN l1 (by omega)
    have HS4 := Lib.hid (HS3.out.setLine l1)
    have HB4 := Lib.hid ((HB2.out.setCell (p := ⟨b, 1, none⟩) hs2.lo (.int .i64 (q : Int))).setCell (p := ⟨b, 2, none⟩) hs2.lo (.int .i64 (l1 : Int)))
    have k1 := hs2.c1
    have g1 := hs2.f 1
    have k2 := HS3.out.c2
    have g2 := HS3.out.f 2
    have HL := Lib.hid hl1
    clear hs2 hb2 hl1 c2
    go_wp2_with fail
    go_end0
    exact .go HRn.out ⟨rfl, ⟨_, HS4.out.to HQ.out HL.out⟩, HB4.out⟩
  have n10 : ((c.toNat : Int) == 10) = false := HcI.out 10 hk10
  by_cases hk35 : c = 35
  · have HRn : Hid (res = .go ((s.data.toList.drop p).takeWhile fun c => c != 10).length 0 none) := by show _ = _; rw [HRes.out, HD.out, hk35]; exact step_rem
    subst hk35
    obtain ⟨N, hN⟩ : ∃ N, N = ((s.data.toList.drop p).takeWhile fun c => c != 10).length := ⟨_, rfl⟩
    rw [← hN] at HRn
    have HIx := Lib.hid (fun W => Tryd.strings_IndexByte (s.extract p s.size) 10 W)
    rw [ext_drop] at HIx
    have hNl : N ≤ (s.data.toList.drop p).length := by rw [hN]; exact (List.takeWhile_sublist _).length_le
    have hRl : (s.data.toList.drop p).length = s.size - p := by rw [List.length_drop, ← size_list]
    obtain ⟨i1, i2⟩ := idx_take (s.data.toList.drop p) 10
    have hx1 : Lib.indexByte (s.data.toList.drop p) ((10 : Int).toNat.toUInt8) = Lib.indexByte (s.data.toList.drop p) 10 := rfl
    rw [hx1] at HIx
    rw [← hN] at i1 i2
    obtain ⟨r, hr⟩ : ∃ r, r = p + N := ⟨_, rfl⟩
    have er : (p : Int) + (N : Int) = (r : Int) := by omega
    have erw := wrapN r (by omega)
    have HR := Lib.hid hr
    have hpI2 : (p : Int) ≤ (s.size : Int) := by omega
    by_cases hmem : 10 ∈ s.data.toList.drop p
    · rw [i1 hmem] at HIx
      clear i1 i2 hx1 hmem hN hNl hRl hr
      go_enter Tryd.func13, Tryd.ntmps13
      go_wp2_with fail
      go_quiet (fail)
      obtain ⟨ws, hws⟩ : ∃ ws, ws = w.drewN nq := ⟨_, rfl⟩
      have HS1 : Hid (Sc ws D b s p l v LT) := by rw [hws]; exact HS.out.drewN _
      have HB1 : Hid (Below w.heap.size w ws) := by rw [hws]; exact (Below.refl _ _).drewN _
      have HBD1 : Hid (Below D w ws) := by rw [hws]; exact (Below.refl _ _).drewN _
      clear c0 c1
      rw [← hws]
      clear hws HS
      have c0 := HS1.out.c0
      have c1 := HS1.out.c1
      have f1 := HS1.out.f 1
      go_wp2_with fail
      go_quiet (exact Calls.quiet_of_same (HIx.out _))
      obtain ⟨wt, hwt⟩ : ∃ wt, wt = ws.drewN nq := ⟨_, rfl⟩
      have HS2 : Hid (Sc wt D b s p l v LT) := by rw [hwt]; exact HS1.out.drewN _
      have HB2 : Hid (Below D w wt) := by rw [hwt]; exact HBD1.out.drewN _
      clear c0 c1 f1
      rw [← hwt]
      clear hwt
      have c1 := HS2.out.c1
      have f1 := HS2.out.f 1
      have HS3 := Lib.hid (HS2.out.setAt r)
      have HB3 := Lib.hid (HB2.out.setCell (p := ⟨b, 1, none⟩) HS2.out.lo (.int .i64 (r : Int)))
      go_wp2_with fail
      go_end0
      exact .go HRn.out ⟨rfl, ⟨_, HS3.out.to HR.out rfl⟩, HB3.out⟩
    · obtain ⟨j1, j2⟩ := i2 hmem
      rw [j1] at HIx
      have hNe : (s.size : Int) - (p : Int) = (N : Int) := by omega
      have hNw := wrapN N (by omega)
      clear i1 i2 hx1 hmem hN hNl hRl hr j1 j2
      go_enter Tryd.func13, Tryd.ntmps13
      go_wp2_with fail
      go_quiet (fail)
      obtain ⟨ws, hws⟩ : ∃ ws, ws = w.drewN nq := ⟨_, rfl⟩
      have HS1 : Hid (Sc ws D b s p l v LT) := by rw [hws]; exact HS.out.drewN _
      have HB1 : Hid (Below w.heap.size w ws) := by rw [hws]; exact (Below.refl _ _).drewN _
      have HBD1 : Hid (Below D w ws) := by rw [hws]; exact (Below.refl _ _).drewN _
      clear c0 c1
      rw [← hws]
      clear hws HS
      have c0 := HS1.out.c0
      have c1 := HS1.out.c1
      go_wp2_with fail
      go_quiet (exact Calls.quiet_of_same (HIx.out _))
      obtain ⟨wt, hwt⟩ : ∃ wt, wt = ws.drewN nq := ⟨_, rfl⟩
      have HS2 : Hid (Sc wt D b s p l v LT) := by rw [hwt]; exact HS1.out.drewN _
      have HB2 : Hid (Below D w wt) := by rw [hwt]; exact HBD1.out.drewN _
      clear c0 c1
      rw [← hwt]
      clear hwt
      have c0 := HS2.out.c0
      have c1 := HS2.out.c1
      go_wp2_with fail
      go_quiet (fail)
      obtain ⟨wv, hwv⟩ : ∃ wv, wv = wt.drewN nq := ⟨_, rfl⟩
      have HS4 : Hid (Sc wv D b s p l v LT) := by rw [hwv]; exact HS2.out.drewN _
      have HB4 : Hid (Below D w wv) := by rw [hwv]; exact HB2.out.drewN _
      clear c0 c1
      rw [← hwv]
      clear hwv
      have c1 := HS4.out.c1
      have f1 := HS4.out.f 1
      have HS3 := Lib.hid (HS4.out.setAt r)
      have HB3 := Lib.hid (HB4.out.setCell (p := ⟨b, 1, none⟩) HS4.out.lo (.int .i64 (r : Int)))
      go_wp2_with fail
      go_end0
      exact .go HRn.out ⟨rfl, ⟨_, HS3.out.to HR.out rfl⟩, HB3.out⟩
  have n35 : ((c.toNat : Int) == 35) = false := HcI.out 35 hk35
  go_enter Tryd.func13, Tryd.ntmps13
  go_wp2_with fail
  go_quiet (fail)
  obtain ⟨ws, hws⟩ : ∃ ws, ws = w.drewN nq := ⟨_, rfl⟩
  have HS1 : Hid (Sc ws D b s p l v LT) := by rw [hws]; exact HS.out.drewN _
  have HB1 : Hid (Below w.heap.size w ws) := by rw [hws]; exact (Below.refl _ _).drewN _
  have HBD1 : Hid (Below D w ws) := by rw [hws]; exact (Below.refl _ _).drewN _
  clear c0 c1
  rw [← hws]
  clear hws HS
  go_wp2_with fail
  refine (see_any D b s ⟨#[92, 10]⟩ p l v LT _ HS1.out (by omega)).mono ?_
  rintro e w2 ⟨rfl, hb2⟩
  rw [HD.out, show (⟨#[92, 10]⟩ : ByteArray).data.toList = [92, 10] from rfl, see_b1]
  have HS2 := Lib.hid (HS1.out.below hb2)
  have HBD2 := Lib.hid (HBD1.out.trans (hb2.mono (Nat.le_trans hD HB1.out.size)))
  have hz2 : D ≤ w2.heap.size := Nat.le_trans hD (Nat.le_trans HB1.out.size hb2.size)
  clear hb2 HS1 HBD1 HB1
  by_cases hb1 : c = 92 ∧ T.head? = some 10
  · obtain ⟨hc92, hbT⟩ := hb1
    subst hc92
    have HRn : Hid (res = .go 2 1 none) := by show _ = _; rw [HRes.out, HD.out]; exact step_b1 hbT
    rw [decide_eq_true ⟨rfl, hbT⟩]
    have hKl : p + 2 ≤ s.size := by
      have h1 := congrArg List.length HD.out
      rw [List.length_drop, ← size_list, List.length_cons] at h1
      have h2 : 1 ≤ T.length := (by
        cases T with
        | nil => cases hbT
        | cons d T => simp)
      omega
    have c0 := HS2.out.c0
    have c1 := HS2.out.c1
    have f1 := HS2.out.f 1
    have HIx := Lib.hid (fun W => Tryd.strings_IndexByte (s.extract p s.size) 10 W)
    rw [ext_drop, HD.out] at HIx
    have hx1 : Lib.indexByte (92 :: T) ((10 : Int).toNat.toUInt8) = 1 := (by
      cases T with
      | nil => cases hbT
      | cons d T =>
        have e : d = 10 := by injection hbT
        subst e
        rfl)
    rw [hx1] at HIx
    obtain ⟨r, hr⟩ : ∃ r, r = p + 2 := ⟨_, rfl⟩
    have er : (p : Int) + 2 = (r : Int) := by omega
    have erw := wrapN r (by omega)
    have HR := Lib.hid hr
    obtain ⟨l1, hl1⟩ : ∃ l1, l1 = l + 1 := ⟨_, rfl⟩
    have el : (l : Int) + 1 = (l1 : Int) := by omega
    have elw := wrapN l1 (by omega)
    have HL := Lib.hid hl1
    have hpI2 : (p : Int) ≤ (s.size : Int) := by omega
    clear hx1 hr hl1
    go_wp2_with fail
    obtain ⟨WI, hWI⟩ : ∃ WI : Bool → World → Prop, WI = fun x W => (x = false → Below w2.heap.size w2 W) ∧ (x = true → Sc W D b s r l v LT ∧ Below D w2 W) := ⟨_, rfl⟩
    have HWF : Hid (∀ W, WI false W → Below w2.heap.size w2 W) := fun W hW => by rw [hWI] at hW; exact hW.1 rfl
    have HWT : Hid (∀ W, WI true W → Sc W D b s r l v LT ∧ Below D w2 W) := fun W hW => by rw [hWI] at hW; exact hW.2 rfl
    have HWN : Hid (∀ W, (Sc W D b s r l v LT ∧ Below D w2 W) → WI true W) := fun W hW => by rw [hWI]; exact ⟨fun e => (by cases e), fun _ => hW⟩
    have HW0 : Hid (WI false w2.drew) := by
      show WI false _
      rw [hWI]
      exact ⟨fun _ => (Below.refl _ _).drew, fun e => by cases e⟩
    clear hWI
    refine wp_region_guarded (by kernel_rfl) (by kernel_rfl) (fun a0 V0 L a W => ∃ u : Nat → Value, a = { tmps := ((((((((((((((((((a0.tmps.setIfInBounds 94 (u 0)).setIfInBounds 95 (u 1)).setIfInBounds 96 (u 2)).setIfInBounds 97 (u 3)).setIfInBounds 98 (u 4)).setIfInBounds 99 (u 5)).setIfInBounds 100 (u 6)).setIfInBounds 101 (u 7)).setIfInBounds 102 (u 8)).setIfInBounds 103 (u 9)).setIfInBounds 104 (u 10)).setIfInBounds 105 (u 11)).setIfInBounds 106 (u 12)).setIfInBounds 107 (u 13)).setIfInBounds 108 (u 14)).setIfInBounds 109 (u 15)).setIfInBounds 110 (u 16)).setIfInBounds 111 (u 17)), defers := a0.defers } ∧ Hid (WI (L 18) W) ∧ Hid (∀ i, L i = true → u i = valAt [.pointer (some ⟨b, 0, none⟩), .pointer (some ⟨b, 0, none⟩), .pointer (some ⟨b, 1, none⟩), .int .i64 (p : Int), .pointer (some ⟨b, 0, none⟩), .pointer (some ⟨b, 0, none⟩), .pointer (some ⟨b, 0, none⟩), .string s, .pointer (some ⟨b, 0, none⟩), .pointer (some ⟨b, 0, none⟩), .pointer (some ⟨b, 1, none⟩), .int .i64 (p : Int), .string (s.extract p s.size), .int .i64 1, .int .i64 2, .int .i64 (r : Int), .pointer (some ⟨b, 0, none⟩), .pointer (some ⟨b, 1, none⟩), undef] i) ∧ Hid (L 18 = true → L 3 = true ∧ L 7 = true ∧ L 11 = true)) ?h0 ?hstep ?hdone
    case h0 =>
      refine ⟨valAt [undef, undef, undef, undef, undef, undef, undef, undef, undef, undef, undef, undef, undef, undef, undef, undef, undef, undef, undef], ?_, HW0.out, fun _ h => (by cases h), fun h => (by cases h)⟩
      kernel_rfl
    case hstep =>
      refine ⟨?o0, ?o1, ?o2, ?o3, ?o4, ?o5, ?o6, ?o7, ?o8, ?o9, ?o10, ?o11, ?o12, ?o13, ?o14, ?o15, ?o16, ?o17, ?o18, trivial⟩
      case o0 =>
        rintro L a' W ⟨u, rfl, HI, E, HC⟩ hL hd K hK
        simp only [List.setIfInBounds_toArray, List.set_cons_zero, List.set_cons_succ]
        refine ite_take rfl ?_
        clear hL hd
        go_simp
        refine hK _ _ ⟨withVal u 0 (.pointer (some ⟨b, 0, none⟩)), ?_, (by show WI (upd L 0 18) W; rw [upd_other L (by decide)]; exact HI.out), withVal_next E 0 _ rfl, (fun h => by rw [upd_other L (by decide)] at h; exact ⟨upd_mono _ (HC.out h).1, upd_mono _ (HC.out h).2.1, upd_mono _ (HC.out h).2.2⟩)⟩
        kernel_rfl
      case o1 =>
        rintro L a' W ⟨u, rfl, HI, E, HC⟩ hL hd K hK
        have e0 : u 0 = .pointer (some ⟨b, 0, none⟩) := E.out 0 (hd 0 (List.elem_iff.1 (by kernel_rfl)))
        simp only [List.setIfInBounds_toArray, List.set_cons_zero, List.set_cons_succ, e0]
        refine ite_take rfl ?_
        clear hL hd
        go_simp
        refine hK _ _ ⟨withVal (withVal u 0 (.pointer (some ⟨b, 0, none⟩))) 1 (.pointer (some ⟨b, 0, none⟩)), ?_, (by show WI (upd L 1 18) W; rw [upd_other L (by decide)]; exact HI.out), withVal_next (withVal_same E 0 _ rfl) 1 _ rfl, (fun h => by rw [upd_other L (by decide)] at h; exact ⟨upd_mono _ (HC.out h).1, upd_mono _ (HC.out h).2.1, upd_mono _ (HC.out h).2.2⟩)⟩
        kernel_rfl
      case o2 =>
        rintro L a' W ⟨u, rfl, HI, E, HC⟩ hL hd K hK
        have e1 : u 1 = .pointer (some ⟨b, 0, none⟩) := E.out 1 (hd 1 (List.elem_iff.1 (by kernel_rfl)))
        simp only [List.setIfInBounds_toArray, List.set_cons_zero, List.set_cons_succ, e1]
        refine ite_take rfl ?_
        clear hL hd
        go_simp
        refine hK _ _ ⟨withVal (withVal u 1 (.pointer (some ⟨b, 0, none⟩))) 2 (.pointer (some ⟨b, 1, none⟩)), ?_, (by show WI (upd L 2 18) W; rw [upd_other L (by decide)]; exact HI.out), withVal_next (withVal_same E 1 _ rfl) 2 _ rfl, (fun h => by rw [upd_other L (by decide)] at h; exact ⟨upd_mono _ (HC.out h).1, upd_mono _ (HC.out h).2.1, upd_mono _ (HC.out h).2.2⟩)⟩
        kernel_rfl
      case o3 =>
        rintro L a' W ⟨u, rfl, HI, E, HC⟩ hL hd K hK
        have e2 : u 2 = .pointer (some ⟨b, 1, none⟩) := E.out 2 (hd 2 (List.elem_iff.1 (by kernel_rfl)))
        have hWL : L 18 = false := by
          cases hz : L 18 with
          | false => rfl
          | true => exact absurd (HC.out hz) (fun h => by simp [hL] at h)
        have HIF := HI.out
        rw [hWL] at HIF
        have kk : W.cell? ⟨b, 1, none⟩ = some (.int .i64 (p : Int)) := ((HWF.out W HIF).cell (p := ⟨b, 1, none⟩) HS2.out.lt).trans c1
        simp only [List.setIfInBounds_toArray, List.set_cons_zero, List.set_cons_succ, e2]
        refine ite_take rfl ?_
        clear hL hd
        go_simp
        refine hK _ _ ⟨withVal (withVal u 2 (.pointer (some ⟨b, 1, none⟩))) 3 (.int .i64 (p : Int)), ?_, (by show WI (upd L 3 18) W; rw [upd_other L (by decide)]; exact HI.out), withVal_next (withVal_same E 2 _ rfl) 3 _ rfl, (fun h => by rw [upd_other L (by decide)] at h; exact ⟨upd_mono _ (HC.out h).1, upd_mono _ (HC.out h).2.1, upd_mono _ (HC.out h).2.2⟩)⟩
        kernel_rfl
      case o4 =>
        rintro L a' W ⟨u, rfl, HI, E, HC⟩ hL hd K hK
        simp only [List.setIfInBounds_toArray, List.set_cons_zero, List.set_cons_succ]
        refine ite_take rfl ?_
        clear hL hd
        go_simp
        refine hK _ _ ⟨withVal u 4 (.pointer (some ⟨b, 0, none⟩)), ?_, (by show WI (upd L 4 18) W; rw [upd_other L (by decide)]; exact HI.out), withVal_next E 4 _ rfl, (fun h => by rw [upd_other L (by decide)] at h; exact ⟨upd_mono _ (HC.out h).1, upd_mono _ (HC.out h).2.1, upd_mono _ (HC.out h).2.2⟩)⟩
        kernel_rfl
      case o5 =>
        rintro L a' W ⟨u, rfl, HI, E, HC⟩ hL hd K hK
        have e4 : u 4 = .pointer (some ⟨b, 0, none⟩) := E.out 4 (hd 4 (List.elem_iff.1 (by kernel_rfl)))
        simp only [List.setIfInBounds_toArray, List.set_cons_zero, List.set_cons_succ, e4]
        refine ite_take rfl ?_
        clear hL hd
        go_simp
        refine hK _ _ ⟨withVal (withVal u 4 (.pointer (some ⟨b, 0, none⟩))) 5 (.pointer (some ⟨b, 0, none⟩)), ?_, (by show WI (upd L 5 18) W; rw [upd_other L (by decide)]; exact HI.out), withVal_next (withVal_same E 4 _ rfl) 5 _ rfl, (fun h => by rw [upd_other L (by decide)] at h; exact ⟨upd_mono _ (HC.out h).1, upd_mono _ (HC.out h).2.1, upd_mono _ (HC.out h).2.2⟩)⟩
        kernel_rfl
      case o6 =>
        rintro L a' W ⟨u, rfl, HI, E, HC⟩ hL hd K hK
        have e5 : u 5 = .pointer (some ⟨b, 0, none⟩) := E.out 5 (hd 5 (List.elem_iff.1 (by kernel_rfl)))
        simp only [List.setIfInBounds_toArray, List.set_cons_zero, List.set_cons_succ, e5]
        refine ite_take rfl ?_
        clear hL hd
        go_simp
        refine hK _ _ ⟨withVal (withVal u 5 (.pointer (some ⟨b, 0, none⟩))) 6 (.pointer (some ⟨b, 0, none⟩)), ?_, (by show WI (upd L 6 18) W; rw [upd_other L (by decide)]; exact HI.out), withVal_next (withVal_same E 5 _ rfl) 6 _ rfl, (fun h => by rw [upd_other L (by decide)] at h; exact ⟨upd_mono _ (HC.out h).1, upd_mono _ (HC.out h).2.1, upd_mono _ (HC.out h).2.2⟩)⟩
        kernel_rfl
      case o7 =>
        rintro L a' W ⟨u, rfl, HI, E, HC⟩ hL hd K hK
        have e6 : u 6 = .pointer (some ⟨b, 0, none⟩) := E.out 6 (hd 6 (List.elem_iff.1 (by kernel_rfl)))
        have hWL : L 18 = false := by
          cases hz : L 18 with
          | false => rfl
          | true => exact absurd (HC.out hz) (fun h => by simp [hL] at h)
        have HIF := HI.out
        rw [hWL] at HIF
        have kk : W.cell? ⟨b, 0, none⟩ = some (.string s) := ((HWF.out W HIF).cell (p := ⟨b, 0, none⟩) HS2.out.lt).trans c0
        simp only [List.setIfInBounds_toArray, List.set_cons_zero, List.set_cons_succ, e6]
        refine ite_take rfl ?_
        clear hL hd
        go_simp
        refine hK _ _ ⟨withVal (withVal u 6 (.pointer (some ⟨b, 0, none⟩))) 7 (.string s), ?_, (by show WI (upd L 7 18) W; rw [upd_other L (by decide)]; exact HI.out), withVal_next (withVal_same E 6 _ rfl) 7 _ rfl, (fun h => by rw [upd_other L (by decide)] at h; exact ⟨upd_mono _ (HC.out h).1, upd_mono _ (HC.out h).2.1, upd_mono _ (HC.out h).2.2⟩)⟩
        kernel_rfl
      case o8 =>
        rintro L a' W ⟨u, rfl, HI, E, HC⟩ hL hd K hK
        simp only [List.setIfInBounds_toArray, List.set_cons_zero, List.set_cons_succ]
        refine ite_take rfl ?_
        clear hL hd
        go_simp
        refine hK _ _ ⟨withVal u 8 (.pointer (some ⟨b, 0, none⟩)), ?_, (by show WI (upd L 8 18) W; rw [upd_other L (by decide)]; exact HI.out), withVal_next E 8 _ rfl, (fun h => by rw [upd_other L (by decide)] at h; exact ⟨upd_mono _ (HC.out h).1, upd_mono _ (HC.out h).2.1, upd_mono _ (HC.out h).2.2⟩)⟩
        kernel_rfl
      case o9 =>
        rintro L a' W ⟨u, rfl, HI, E, HC⟩ hL hd K hK
        have e8 : u 8 = .pointer (some ⟨b, 0, none⟩) := E.out 8 (hd 8 (List.elem_iff.1 (by kernel_rfl)))
        simp only [List.setIfInBounds_toArray, List.set_cons_zero, List.set_cons_succ, e8]
        refine ite_take rfl ?_
        clear hL hd
        go_simp
        refine hK _ _ ⟨withVal (withVal u 8 (.pointer (some ⟨b, 0, none⟩))) 9 (.pointer (some ⟨b, 0, none⟩)), ?_, (by show WI (upd L 9 18) W; rw [upd_other L (by decide)]; exact HI.out), withVal_next (withVal_same E 8 _ rfl) 9 _ rfl, (fun h => by rw [upd_other L (by decide)] at h; exact ⟨upd_mono _ (HC.out h).1, upd_mono _ (HC.out h).2.1, upd_mono _ (HC.out h).2.2⟩)⟩
        kernel_rfl
      case o10 =>
        rintro L a' W ⟨u, rfl, HI, E, HC⟩ hL hd K hK
        have e9 : u 9 = .pointer (some ⟨b, 0, none⟩) := E.out 9 (hd 9 (List.elem_iff.1 (by kernel_rfl)))
        simp only [List.setIfInBounds_toArray, List.set_cons_zero, List.set_cons_succ, e9]
        refine ite_take rfl ?_
        clear hL hd
        go_simp
        refine hK _ _ ⟨withVal (withVal u 9 (.pointer (some ⟨b, 0, none⟩))) 10 (.pointer (some ⟨b, 1, none⟩)), ?_, (by show WI (upd L 10 18) W; rw [upd_other L (by decide)]; exact HI.out), withVal_next (withVal_same E 9 _ rfl) 10 _ rfl, (fun h => by rw [upd_other L (by decide)] at h; exact ⟨upd_mono _ (HC.out h).1, upd_mono _ (HC.out h).2.1, upd_mono _ (HC.out h).2.2⟩)⟩
        kernel_rfl
      case o11 =>
        rintro L a' W ⟨u, rfl, HI, E, HC⟩ hL hd K hK
        have e10 : u 10 = .pointer (some ⟨b, 1, none⟩) := E.out 10 (hd 10 (List.elem_iff.1 (by kernel_rfl)))
        have hWL : L 18 = false := by
          cases hz : L 18 with
          | false => rfl
          | true => exact absurd (HC.out hz) (fun h => by simp [hL] at h)
        have HIF := HI.out
        rw [hWL] at HIF
        have kk : W.cell? ⟨b, 1, none⟩ = some (.int .i64 (p : Int)) := ((HWF.out W HIF).cell (p := ⟨b, 1, none⟩) HS2.out.lt).trans c1
        simp only [List.setIfInBounds_toArray, List.set_cons_zero, List.set_cons_succ, e10]
        refine ite_take rfl ?_
        clear hL hd
        go_simp
        refine hK _ _ ⟨withVal (withVal u 10 (.pointer (some ⟨b, 1, none⟩))) 11 (.int .i64 (p : Int)), ?_, (by show WI (upd L 11 18) W; rw [upd_other L (by decide)]; exact HI.out), withVal_next (withVal_same E 10 _ rfl) 11 _ rfl, (fun h => by rw [upd_other L (by decide)] at h; exact ⟨upd_mono _ (HC.out h).1, upd_mono _ (HC.out h).2.1, upd_mono _ (HC.out h).2.2⟩)⟩
        kernel_rfl
      case o12 =>
        rintro L a' W ⟨u, rfl, HI, E, HC⟩ hL hd K hK
        have e7 : u 7 = .string s := E.out 7 (hd 7 (List.elem_iff.1 (by kernel_rfl)))
        have e11 : u 11 = .int .i64 (p : Int) := E.out 11 (hd 11 (List.elem_iff.1 (by kernel_rfl)))
        simp only [List.setIfInBounds_toArray, List.set_cons_zero, List.set_cons_succ, e7, e11]
        refine ite_take rfl ?_
        clear hL hd
        go_simp
        refine hK _ _ ⟨withVal (withVal (withVal u 7 (.string s)) 11 (.int .i64 (p : Int))) 12 (.string (s.extract p s.size)), ?_, (by show WI (upd L 12 18) W; rw [upd_other L (by decide)]; exact HI.out), withVal_next (withVal_same (withVal_same E 7 _ rfl) 11 _ rfl) 12 _ rfl, (fun h => by rw [upd_other L (by decide)] at h; exact ⟨upd_mono _ (HC.out h).1, upd_mono _ (HC.out h).2.1, upd_mono _ (HC.out h).2.2⟩)⟩
        kernel_rfl
      case o13 =>
        rintro L a' W ⟨u, rfl, HI, E, HC⟩ hL hd K hK
        have e12 : u 12 = .string (s.extract p s.size) := E.out 12 (hd 12 (List.elem_iff.1 (by kernel_rfl)))
        simp only [List.setIfInBounds_toArray, List.set_cons_zero, List.set_cons_succ, e12]
        refine ite_take rfl ?_
        clear hL hd
        go_simp
        refine (HIx.out _).mono ?_
        rintro e W9 ⟨rfl, hW9⟩
        rw [hW9]
        refine hK _ _ ⟨withVal (withVal u 12 (.string (s.extract p s.size))) 13 (.int .i64 1), ?_, (by show WI (upd L 13 18) W; rw [upd_other L (by decide)]; exact HI.out), withVal_next (withVal_same E 12 _ rfl) 13 _ rfl, (fun h => by rw [upd_other L (by decide)] at h; exact ⟨upd_mono _ (HC.out h).1, upd_mono _ (HC.out h).2.1, upd_mono _ (HC.out h).2.2⟩)⟩
        kernel_rfl
      case o14 =>
        rintro L a' W ⟨u, rfl, HI, E, HC⟩ hL hd K hK
        have e13 : u 13 = .int .i64 1 := E.out 13 (hd 13 (List.elem_iff.1 (by kernel_rfl)))
        simp only [List.setIfInBounds_toArray, List.set_cons_zero, List.set_cons_succ, e13]
        refine ite_take rfl ?_
        clear hL hd
        go_simp
        refine hK _ _ ⟨withVal (withVal u 13 (.int .i64 1)) 14 (.int .i64 2), ?_, (by show WI (upd L 14 18) W; rw [upd_other L (by decide)]; exact HI.out), withVal_next (withVal_same E 13 _ rfl) 14 _ rfl, (fun h => by rw [upd_other L (by decide)] at h; exact ⟨upd_mono _ (HC.out h).1, upd_mono _ (HC.out h).2.1, upd_mono _ (HC.out h).2.2⟩)⟩
        kernel_rfl
      case o15 =>
        rintro L a' W ⟨u, rfl, HI, E, HC⟩ hL hd K hK
        have e3 : u 3 = .int .i64 (p : Int) := E.out 3 (hd 3 (List.elem_iff.1 (by kernel_rfl)))
        have e14 : u 14 = .int .i64 2 := E.out 14 (hd 14 (List.elem_iff.1 (by kernel_rfl)))
        simp only [List.setIfInBounds_toArray, List.set_cons_zero, List.set_cons_succ, e3, e14]
        refine ite_take rfl ?_
        clear hL hd
        go_simp
        refine hK _ _ ⟨withVal (withVal (withVal u 3 (.int .i64 (p : Int))) 14 (.int .i64 2)) 15 (.int .i64 (r : Int)), ?_, (by show WI (upd L 15 18) W; rw [upd_other L (by decide)]; exact HI.out), withVal_next (withVal_same (withVal_same E 3 _ rfl) 14 _ rfl) 15 _ rfl, (fun h => by rw [upd_other L (by decide)] at h; exact ⟨upd_mono _ (HC.out h).1, upd_mono _ (HC.out h).2.1, upd_mono _ (HC.out h).2.2⟩)⟩
        kernel_rfl
      case o16 =>
        rintro L a' W ⟨u, rfl, HI, E, HC⟩ hL hd K hK
        have e0 : u 0 = .pointer (some ⟨b, 0, none⟩) := E.out 0 (hd 0 (List.elem_iff.1 (by kernel_rfl)))
        simp only [List.setIfInBounds_toArray, List.set_cons_zero, List.set_cons_succ, e0]
        refine ite_take rfl ?_
        clear hL hd
        go_simp
        refine hK _ _ ⟨withVal (withVal u 0 (.pointer (some ⟨b, 0, none⟩))) 16 (.pointer (some ⟨b, 0, none⟩)), ?_, (by show WI (upd L 16 18) W; rw [upd_other L (by decide)]; exact HI.out), withVal_next (withVal_same E 0 _ rfl) 16 _ rfl, (fun h => by rw [upd_other L (by decide)] at h; exact ⟨upd_mono _ (HC.out h).1, upd_mono _ (HC.out h).2.1, upd_mono _ (HC.out h).2.2⟩)⟩
        kernel_rfl
      case o17 =>
        rintro L a' W ⟨u, rfl, HI, E, HC⟩ hL hd K hK
        have e16 : u 16 = .pointer (some ⟨b, 0, none⟩) := E.out 16 (hd 16 (List.elem_iff.1 (by kernel_rfl)))
        simp only [List.setIfInBounds_toArray, List.set_cons_zero, List.set_cons_succ, e16]
        refine ite_take rfl ?_
        clear hL hd
        go_simp
        refine hK _ _ ⟨withVal (withVal u 16 (.pointer (some ⟨b, 0, none⟩))) 17 (.pointer (some ⟨b, 1, none⟩)), ?_, (by show WI (upd L 17 18) W; rw [upd_other L (by decide)]; exact HI.out), withVal_next (withVal_same E 16 _ rfl) 17 _ rfl, (fun h => by rw [upd_other L (by decide)] at h; exact ⟨upd_mono _ (HC.out h).1, upd_mono _ (HC.out h).2.1, upd_mono _ (HC.out h).2.2⟩)⟩
        kernel_rfl
      case o18 =>
        rintro L a' W ⟨u, rfl, HI, E, HC⟩ hL hd K hK
        have e15 : u 15 = .int .i64 (r : Int) := E.out 15 (hd 15 (List.elem_iff.1 (by kernel_rfl)))
        have e17 : u 17 = .pointer (some ⟨b, 1, none⟩) := E.out 17 (hd 17 (List.elem_iff.1 (by kernel_rfl)))
        rw [hL] at HI
        have hp3 := hd 3 (List.elem_iff.1 (by kernel_rfl))
        have hp7 := hd 7 (List.elem_iff.1 (by kernel_rfl))
        have hp11 := hd 11 (List.elem_iff.1 (by kernel_rfl))
        have kk : W.cell? ⟨b, 1, none⟩ = some (.int .i64 (p : Int)) := ((HWF.out W HI.out).cell (p := ⟨b, 1, none⟩) HS2.out.lt).trans c1
        have kf : W.frozen? ⟨b, 1, none⟩ = false := ((HWF.out W HI.out).frozen (p := ⟨b, 1, none⟩) HS2.out.lt).trans f1
        simp only [List.setIfInBounds_toArray, List.set_cons_zero, List.set_cons_succ, e15, e17]
        refine ite_take rfl ?_
        clear hL hd
        go_simp
        obtain ⟨W', hW'⟩ : ∃ W', W' = W.setCell ⟨b, 1, none⟩ (.int .i64 (r : Int)) := ⟨_, rfl⟩
        rw [← hW']
        have hBF := HWF.out W HI.out
        have hw' := HWN.out W' (by rw [hW']; exact ⟨(HS2.out.below hBF).setAt r, (hBF.mono hz2).setCell (p := ⟨b, 1, none⟩) HS2.out.lo _⟩)
        refine hK _ _ ⟨withVal (withVal (withVal u 15 (.int .i64 (r : Int))) 17 (.pointer (some ⟨b, 1, none⟩))) 18 (undef), ?_, (by show WI (upd L 18 18) W'; rw [upd_self]; exact hw'), withVal_next (withVal_same (withVal_same E 15 _ rfl) 17 _ rfl) 18 _ rfl, (fun _ => ⟨upd_mono _ hp3, upd_mono _ hp7, upd_mono _ hp11⟩)⟩
        kernel_rfl
    case hdone =>
      rintro L a' W1 hall ⟨u, rfl, HI, E, HC⟩
      rw [hall 18 (by decide)] at HI
      have e0 : u 0 = .pointer (some ⟨b, 0, none⟩) := E.out 0 (hall 0 (by decide))
      have e1 : u 1 = .pointer (some ⟨b, 0, none⟩) := E.out 1 (hall 1 (by decide))
      have e2 : u 2 = .pointer (some ⟨b, 1, none⟩) := E.out 2 (hall 2 (by decide))
      have e3 : u 3 = .int .i64 (p : Int) := E.out 3 (hall 3 (by decide))
      have e4 : u 4 = .pointer (some ⟨b, 0, none⟩) := E.out 4 (hall 4 (by decide))
      have e5 : u 5 = .pointer (some ⟨b, 0, none⟩) := E.out 5 (hall 5 (by decide))
      have e6 : u 6 = .pointer (some ⟨b, 0, none⟩) := E.out 6 (hall 6 (by decide))
      have e7 : u 7 = .string s := E.out 7 (hall 7 (by decide))
      have e8 : u 8 = .pointer (some ⟨b, 0, none⟩) := E.out 8 (hall 8 (by decide))
      have e9 : u 9 = .pointer (some ⟨b, 0, none⟩) := E.out 9 (hall 9 (by decide))
      have e10 : u 10 = .pointer (some ⟨b, 1, none⟩) := E.out 10 (hall 10 (by decide))
      have e11 : u 11 = .int .i64 (p : Int) := E.out 11 (hall 11 (by decide))
      have e12 : u 12 = .string (s.extract p s.size) := E.out 12 (hall 12 (by decide))
      have e13 : u 13 = .int .i64 1 := E.out 13 (hall 13 (by decide))
      have e14 : u 14 = .int .i64 2 := E.out 14 (hall 14 (by decide))
      have e15 : u 15 = .int .i64 (r : Int) := E.out 15 (hall 15 (by decide))
      have e16 : u 16 = .pointer (some ⟨b, 0, none⟩) := E.out 16 (hall 16 (by decide))
      have e17 : u 17 = .pointer (some ⟨b, 1, none⟩) := E.out 17 (hall 17 (by decide))
      have e18 : u 18 = undef := E.out 18 (hall 18 (by decide))
      simp only [List.setIfInBounds_toArray, List.set_cons_zero, List.set_cons_succ, e0, e1, e2, e3, e4, e5, e6, e7, e8, e9, e10, e11, e12, e13, e14, e15, e16, e17]
      have HF := HWT.out W1 HI.out
      have HS4 := Lib.hid HF.1
      have HB4 := Lib.hid (HBD2.out.trans HF.2)
      have k2 := HS4.out.c2
      have g2 := HS4.out.f 2
      have HS5 := Lib.hid (HS4.out.setLine l1)
      have HB5 := Lib.hid (HB4.out.setCell (p := ⟨b, 2, none⟩) HS4.out.lo (.int .i64 (l1 : Int)))
      clear HF hall E HI HC c0 c1 f1
      rename_i K hKK
      refine hKK _ _ ?_
      go_wp2_with fail
      go_end0
      exact .go HRn.out ⟨rfl, ⟨_, HS5.out.to HR.out HL.out⟩, HB5.out⟩
  rw [decide_eq_false hb1]
  go_wp2_with fail
  refine (see_any D b s ⟨#[92, 13, 10]⟩ p l v LT _ HS2.out (by omega)).mono ?_
  rintro e w3 ⟨rfl, hb3⟩
  rw [HD.out, show (⟨#[92, 13, 10]⟩ : ByteArray).data.toList = [92, 13, 10] from rfl, see_b2]
  have HS3 := Lib.hid (HS2.out.below hb3)
  have HBD3 := Lib.hid (HBD2.out.trans (hb3.mono hz2))
  have hz3 : D ≤ w3.heap.size := Nat.le_trans hz2 hb3.size
  clear hb3 HS2 HBD2
  by_cases hb2 : c = 92 ∧ T.take 2 = [13, 10]
  · obtain ⟨hc92, hbT⟩ := hb2
    subst hc92
    have HRn : Hid (res = .go 3 1 none) := by show _ = _; rw [HRes.out, HD.out]; exact step_b2 (fun e => hb1 ⟨rfl, e⟩) hbT
    rw [decide_eq_true ⟨rfl, hbT⟩]
    have hKl : p + 3 ≤ s.size := by
      have h1 := congrArg List.length HD.out
      rw [List.length_drop, ← size_list, List.length_cons] at h1
      have h2 : 2 ≤ T.length := (by have h3 := congrArg List.length hbT; rw [List.length_take] at h3; simp at h3; omega)
      omega
    have c0 := HS3.out.c0
    have c1 := HS3.out.c1
    have f1 := HS3.out.f 1
    have HIx := Lib.hid (fun W => Tryd.strings_IndexByte (s.extract p s.size) 10 W)
    rw [ext_drop, HD.out] at HIx
    have hx1 : Lib.indexByte (92 :: T) ((10 : Int).toNat.toUInt8) = 2 := (by
      match T, hbT with
      | d :: f :: T, hbT =>
        have e : d = 13 ∧ f = 10 := by simpa using hbT
        obtain ⟨rfl, rfl⟩ := e
        rfl)
    rw [hx1] at HIx
    obtain ⟨r, hr⟩ : ∃ r, r = p + 3 := ⟨_, rfl⟩
    have er : (p : Int) + 3 = (r : Int) := by omega
    have erw := wrapN r (by omega)
    have HR := Lib.hid hr
    obtain ⟨l1, hl1⟩ : ∃ l1, l1 = l + 1 := ⟨_, rfl⟩
    have el : (l : Int) + 1 = (l1 : Int) := by omega
    have elw := wrapN l1 (by omega)
    have HL := Lib.hid hl1
    have hpI2 : (p : Int) ≤ (s.size : Int) := by omega
    clear hx1 hr hl1
    go_wp2_with fail
    obtain ⟨WI, hWI⟩ : ∃ WI : Bool → World → Prop, WI = fun x W => (x = false → Below w3.heap.size w3 W) ∧ (x = true → Sc W D b s r l v LT ∧ Below D w3 W) := ⟨_, rfl⟩
    have HWF : Hid (∀ W, WI false W → Below w3.heap.size w3 W) := fun W hW => by rw [hWI] at hW; exact hW.1 rfl
    have HWT : Hid (∀ W, WI true W → Sc W D b s r l v LT ∧ Below D w3 W) := fun W hW => by rw [hWI] at hW; exact hW.2 rfl
    have HWN : Hid (∀ W, (Sc W D b s r l v LT ∧ Below D w3 W) → WI true W) := fun W hW => by rw [hWI]; exact ⟨fun e => (by cases e), fun _ => hW⟩
    have HW0 : Hid (WI false w3.drew) := by
      show WI false _
      rw [hWI]
      exact ⟨fun _ => (Below.refl _ _).drew, fun e => by cases e⟩
    clear hWI
    refine wp_region_guarded (by kernel_rfl) (by kernel_rfl) (fun a0 V0 L a W => ∃ u : Nat → Value, a = { tmps := ((((((((((((((((((a0.tmps.setIfInBounds 94 (u 0)).setIfInBounds 95 (u 1)).setIfInBounds 96 (u 2)).setIfInBounds 97 (u 3)).setIfInBounds 98 (u 4)).setIfInBounds 99 (u 5)).setIfInBounds 100 (u 6)).setIfInBounds 101 (u 7)).setIfInBounds 102 (u 8)).setIfInBounds 103 (u 9)).setIfInBounds 104 (u 10)).setIfInBounds 105 (u 11)).setIfInBounds 106 (u 12)).setIfInBounds 107 (u 13)).setIfInBounds 108 (u 14)).setIfInBounds 109 (u 15)).setIfInBounds 110 (u 16)).setIfInBounds 111 (u 17)), defers := a0.defers } ∧ Hid (WI (L 18) W) ∧ Hid (∀ i, L i = true → u i = valAt [.pointer (some ⟨b, 0, none⟩), .pointer (some ⟨b, 0, none⟩), .pointer (some ⟨b, 1, none⟩), .int .i64 (p : Int), .pointer (some ⟨b, 0, none⟩), .pointer (some ⟨b, 0, none⟩), .pointer (some ⟨b, 0, none⟩), .string s, .pointer (some ⟨b, 0, none⟩), .pointer (some ⟨b, 0, none⟩), .pointer (some ⟨b, 1, none⟩), .int .i64 (p : Int), .string (s.extract p s.size), .int .i64 2, .int .i64 3, .int .i64 (r : Int), .pointer (some ⟨b, 0, none⟩), .pointer (some ⟨b, 1, none⟩), undef] i) ∧ Hid (L 18 = true → L 3 = true ∧ L 7 = true ∧ L 11 = true)) ?h0 ?hstep ?hdone
    case h0 =>
      refine ⟨valAt [undef, undef, undef, undef, undef, undef, undef, undef, undef, undef, undef, undef, undef, undef, undef, undef, undef, undef, undef], ?_, HW0.out, fun _ h => (by cases h), fun h => (by cases h)⟩
      kernel_rfl
    case hstep =>
      refine ⟨?o0, ?o1, ?o2, ?o3, ?o4, ?o5, ?o6, ?o7, ?o8, ?o9, ?o10, ?o11, ?o12, ?o13, ?o14, ?o15, ?o16, ?o17, ?o18, trivial⟩
      case o0 =>
        rintro L a' W ⟨u, rfl, HI, E, HC⟩ hL hd K hK
        simp only [List.setIfInBounds_toArray, List.set_cons_zero, List.set_cons_succ]
        refine ite_take rfl ?_
        clear hL hd
        go_simp
        refine hK _ _ ⟨withVal u 0 (.pointer (some ⟨b, 0, none⟩)), ?_, (by show WI (upd L 0 18) W; rw [upd_other L (by decide)]; exact HI.out), withVal_next E 0 _ rfl, (fun h => by rw [upd_other L (by decide)] at h; exact ⟨upd_mono _ (HC.out h).1, upd_mono _ (HC.out h).2.1, upd_mono _ (HC.out h).2.2⟩)⟩
        kernel_rfl
      case o1 =>
        rintro L a' W ⟨u, rfl, HI, E, HC⟩ hL hd K hK
        have e0 : u 0 = .pointer (some ⟨b, 0, none⟩) := E.out 0 (hd 0 (List.elem_iff.1 (by kernel_rfl)))
        simp only [List.setIfInBounds_toArray, List.set_cons_zero, List.set_cons_succ, e0]
        refine ite_take rfl ?_
        clear hL hd
        go_simp
        refine hK _ _ ⟨withVal (withVal u 0 (.pointer (some ⟨b, 0, none⟩))) 1 (.pointer (some ⟨b, 0, none⟩)), ?_, (by show WI (upd L 1 18) W; rw [upd_other L (by decide)]; exact HI.out), withVal_next (withVal_same E 0 _ rfl) 1 _ rfl, (fun h => by rw [upd_other L (by decide)] at h; exact ⟨upd_mono _ (HC.out h).1, upd_mono _ (HC.out h).2.1, upd_mono _ (HC.out h).2.2⟩)⟩
        kernel_rfl
      case o2 =>
        rintro L a' W ⟨u, rfl, HI, E, HC⟩ hL hd K hK
        have e1 : u 1 = .pointer (some ⟨b, 0, none⟩) := E.out 1 (hd 1 (List.elem_iff.1 (by kernel_rfl)))
        simp only [List.setIfInBounds_toArray, List.set_cons_zero, List.set_cons_succ, e1]
        refine ite_take rfl ?_
        clear hL hd
        go_simp
        refine hK _ _ ⟨withVal (withVal u 1 (.pointer (some ⟨b, 0, none⟩))) 2 (.pointer (some ⟨b, 1, none⟩)), ?_, (by show WI (upd L 2 18) W; rw [upd_other L (by decide)]; exact HI.out), withVal_next (withVal_same E 1 _ rfl) 2 _ rfl, (fun h => by rw [upd_other L (by decide)] at h; exact ⟨upd_mono _ (HC.out h).1, upd_mono _ (HC.out h).2.1, upd_mono _ (HC.out h).2.2⟩)⟩
        kernel_rfl
      case o3 =>
        rintro L a' W ⟨u, rfl, HI, E, HC⟩ hL hd K hK
        have e2 : u 2 = .pointer (some ⟨b, 1, none⟩) := E.out 2 (hd 2 (List.elem_iff.1 (by kernel_rfl)))
        have hWL : L 18 = false := by
          cases hz : L 18 with
          | false => rfl
          | true => exact absurd (HC.out hz) (fun h => by simp [hL] at h)
        have HIF := HI.out
        rw [hWL] at HIF
        have kk : W.cell? ⟨b, 1, none⟩ = some (.int .i64 (p : Int)) := ((HWF.out W HIF).cell (p := ⟨b, 1, none⟩) HS3.out.lt).trans c1
        simp only [List.setIfInBounds_toArray, List.set_cons_zero, List.set_cons_succ, e2]
        refine ite_take rfl ?_
        clear hL hd
        go_simp
        refine hK _ _ ⟨withVal (withVal u 2 (.pointer (some ⟨b, 1, none⟩))) 3 (.int .i64 (p : Int)), ?_, (by show WI (upd L 3 18) W; rw [upd_other L (by decide)]; exact HI.out), withVal_next (withVal_same E 2 _ rfl) 3 _ rfl, (fun h => by rw [upd_other L (by decide)] at h; exact ⟨upd_mono _ (HC.out h).1, upd_mono _ (HC.out h).2.1, upd_mono _ (HC.out h).2.2⟩)⟩
        kernel_rfl
      case o4 =>
        rintro L a' W ⟨u, rfl, HI, E, HC⟩ hL hd K hK
        simp only [List.setIfInBounds_toArray, List.set_cons_zero, List.set_cons_succ]
        refine ite_take rfl ?_
        clear hL hd
        go_simp
        refine hK _ _ ⟨withVal u 4 (.pointer (some ⟨b, 0, none⟩)), ?_, (by show WI (upd L 4 18) W; rw [upd_other L (by decide)]; exact HI.out), withVal_next E 4 _ rfl, (fun h => by rw [upd_other L (by decide)] at h; exact ⟨upd_mono _ (HC.out h).1, upd_mono _ (HC.out h).2.1, upd_mono _ (HC.out h).2.2⟩)⟩
        kernel_rfl
      case o5 =>
        rintro L a' W ⟨u, rfl, HI, E, HC⟩ hL hd K hK
        have e4 : u 4 = .pointer (some ⟨b, 0, none⟩) := E.out 4 (hd 4 (List.elem_iff.1 (by kernel_rfl)))
        simp only [List.setIfInBounds_toArray, List.set_cons_zero, List.set_cons_succ, e4]
        refine ite_take rfl ?_
        clear hL hd
        go_simp
        refine hK _ _ ⟨withVal (withVal u 4 (.pointer (some ⟨b, 0, none⟩))) 5 (.pointer (some ⟨b, 0, none⟩)), ?_, (by show WI (upd L 5 18) W; rw [upd_other L (by decide)]; exact HI.out), withVal_next (withVal_same E 4 _ rfl) 5 _ rfl, (fun h => by rw [upd_other L (by decide)] at h; exact ⟨upd_mono _ (HC.out h).1, upd_mono _ (HC.out h).2.1, upd_mono _ (HC.out h).2.2⟩)⟩
        kernel_rfl
      case o6 =>
        rintro L a' W ⟨u, rfl, HI, E, HC⟩ hL hd K hK
        have e5 : u 5 = .pointer (some ⟨b, 0, none⟩) := E.out 5 (hd 5 (List.elem_iff.1 (by kernel_rfl)))
        simp only [List.setIfInBounds_toArray, List.set_cons_zero, List.set_cons_succ, e5]
        refine ite_take rfl ?_
        clear hL hd
        go_simp
        refine hK _ _ ⟨withVal (withVal u 5 (.pointer (some ⟨b, 0, none⟩))) 6 (.pointer (some ⟨b, 0, none⟩)), ?_, (by show WI (upd L 6 18) W; rw [upd_other L (by decide)]; exact HI.out), withVal_next (withVal_same E 5 _ rfl) 6 _ rfl, (fun h => by rw [upd_other L (by decide)] at h; exact ⟨upd_mono _ (HC.out h).1, upd_mono _ (HC.out h).2.1, upd_mono _ (HC.out h).2.2⟩)⟩
        kernel_rfl
      case o7 =>
        rintro L a' W ⟨u, rfl, HI, E, HC⟩ hL hd K hK
        have e6 : u 6 = .pointer (some ⟨b, 0, none⟩) := E.out 6 (hd 6 (List.elem_iff.1 (by kernel_rfl)))
        have hWL : L 18 = false := by
          cases hz : L 18 with
          | false => rfl
          | true => exact absurd (HC.out hz) (fun h => by simp [hL] at h)
        have HIF := HI.out
        rw [hWL] at HIF
        have kk : W.cell? ⟨b, 0, none⟩ = some (.string s) := ((HWF.out W HIF).cell (p := ⟨b, 0, none⟩) HS3.out.lt).trans c0
        simp only [List.setIfInBounds_toArray, List.set_cons_zero, List.set_cons_succ, e6]
        refine ite_take rfl ?_
        clear hL hd
        go_simp
        refine hK _ _ ⟨withVal (withVal u 6 (.pointer (some ⟨b, 0, none⟩))) 7 (.string s), ?_, (by show WI (upd L 7 18) W; rw [upd_other L (by decide)]; exact HI.out), withVal_next (withVal_same E 6 _ rfl) 7 _ rfl, (fun h => by rw [upd_other L (by decide)] at h; exact ⟨upd_mono _ (HC.out h).1, upd_mono _ (HC.out h).2.1, upd_mono _ (HC.out h).2.2⟩)⟩
        kernel_rfl
      case o8 =>
        rintro L a' W ⟨u, rfl, HI, E, HC⟩ hL hd K hK
        simp only [List.setIfInBounds_toArray, List.set_cons_zero, List.set_cons_succ]
        refine ite_take rfl ?_
        clear hL hd
        go_simp
        refine hK _ _ ⟨withVal u 8 (.pointer (some ⟨b, 0, none⟩)), ?_, (by show WI (upd L 8 18) W; rw [upd_other L (by decide)]; exact HI.out), withVal_next E 8 _ rfl, (fun h => by rw [upd_other L (by decide)] at h; exact ⟨upd_mono _ (HC.out h).1, upd_mono _ (HC.out h).2.1, upd_mono _ (HC.out h).2.2⟩)⟩
        kernel_rfl
      case o9 =>
        rintro L a' W ⟨u, rfl, HI, E, HC⟩ hL hd K hK
        have e8 : u 8 = .pointer (some ⟨b, 0, none⟩) := E.out 8 (hd 8 (List.elem_iff.1 (by kernel_rfl)))
        simp only [List.setIfInBounds_toArray, List.set_cons_zero, List.set_cons_succ, e8]
        refine ite_take rfl ?_
        clear hL hd
        go_simp
        refine hK _ _ ⟨withVal (withVal u 8 (.pointer (some ⟨b, 0, none⟩))) 9 (.pointer (some ⟨b, 0, none⟩)), ?_, (by show WI (upd L 9 18) W; rw [upd_other L (by decide)]; exact HI.out), withVal_next (withVal_same E 8 _ rfl) 9 _ rfl, (fun h => by rw [upd_other L (by decide)] at h; exact ⟨upd_mono _ (HC.out h).1, upd_mono _ (HC.out h).2.1, upd_mono _ (HC.out h).2.2⟩)⟩
        kernel_rfl
      case o10 =>
        rintro L a' W ⟨u, rfl, HI, E, HC⟩ hL hd K hK
        have e9 : u 9 = .pointer (some ⟨b, 0, none⟩) := E.out 9 (hd 9 (List.elem_iff.1 (by kernel_rfl)))
        simp only [List.setIfInBounds_toArray, List.set_cons_zero, List.set_cons_succ, e9]
        refine ite_take rfl ?_
        clear hL hd
        go_simp
        refine hK _ _ ⟨withVal (withVal u 9 (.pointer (some ⟨b, 0, none⟩))) 10 (.pointer (some ⟨b, 1, none⟩)), ?_, (by show WI (upd L 10 18) W; rw [upd_other L (by decide)]; exact HI.out), withVal_next (withVal_same E 9 _ rfl) 10 _ rfl, (fun h => by rw [upd_other L (by decide)] at h; exact ⟨upd_mono _ (HC.out h).1, upd_mono _ (HC.out h).2.1, upd_mono _ (HC.out h).2.2⟩)⟩
        kernel_rfl
      case o11 =>
        rintro L a' W ⟨u, rfl, HI, E, HC⟩ hL hd K hK
        have e10 : u 10 = .pointer (some ⟨b, 1, none⟩) := E.out 10 (hd 10 (List.elem_iff.1 (by kernel_rfl)))
        have hWL : L 18 = false := by
          cases hz : L 18 with
          | false => rfl
          | true => exact absurd (HC.out hz) (fun h => by simp [hL] at h)
        have HIF := HI.out
        rw [hWL] at HIF
        have kk : W.cell? ⟨b, 1, none⟩ = some (.int .i64 (p : Int)) := ((HWF.out W HIF).cell (p := ⟨b, 1, none⟩) HS3.out.lt).trans c1
        simp only [List.setIfInBounds_toArray, List.set_cons_zero, List.set_cons_succ, e10]
        refine ite_take rfl ?_
        clear hL hd
        go_simp
        refine hK _ _ ⟨withVal (withVal u 10 (.pointer (some ⟨b, 1, none⟩))) 11 (.int .i64 (p : Int)), ?_, (by show WI (upd L 11 18) W; rw [upd_other L (by decide)]; exact HI.out), withVal_next (withVal_same E 10 _ rfl) 11 _ rfl, (fun h => by rw [upd_other L (by decide)] at h; exact ⟨upd_mono _ (HC.out h).1, upd_mono _ (HC.out h).2.1, upd_mono _ (HC.out h).2.2⟩)⟩
        kernel_rfl
      case o12 =>
        rintro L a' W ⟨u, rfl, HI, E, HC⟩ hL hd K hK
        have e7 : u 7 = .string s := E.out 7 (hd 7 (List.elem_iff.1 (by kernel_rfl)))
        have e11 : u 11 = .int .i64 (p : Int) := E.out 11 (hd 11 (List.elem_iff.1 (by kernel_rfl)))
        simp only [List.setIfInBounds_toArray, List.set_cons_zero, List.set_cons_succ, e7, e11]
        refine ite_take rfl ?_
        clear hL hd
        go_simp
        refine hK _ _ ⟨withVal (withVal (withVal u 7 (.string s)) 11 (.int .i64 (p : Int))) 12 (.string (s.extract p s.size)), ?_, (by show WI (upd L 12 18) W; rw [upd_other L (by decide)]; exact HI.out), withVal_next (withVal_same (withVal_same E 7 _ rfl) 11 _ rfl) 12 _ rfl, (fun h => by rw [upd_other L (by decide)] at h; exact ⟨upd_mono _ (HC.out h).1, upd_mono _ (HC.out h).2.1, upd_mono _ (HC.out h).2.2⟩)⟩
        kernel_rfl
      case o13 =>
        rintro L a' W ⟨u, rfl, HI, E, HC⟩ hL hd K hK
        have e12 : u 12 = .string (s.extract p s.size) := E.out 12 (hd 12 (List.elem_iff.1 (by kernel_rfl)))
        simp only [List.setIfInBounds_toArray, List.set_cons_zero, List.set_cons_succ, e12]
        refine ite_take rfl ?_
        clear hL hd
        go_simp
        refine (HIx.out _).mono ?_
        rintro e W9 ⟨rfl, hW9⟩
        rw [hW9]
        refine hK _ _ ⟨withVal (withVal u 12 (.string (s.extract p s.size))) 13 (.int .i64 2), ?_, (by show WI (upd L 13 18) W; rw [upd_other L (by decide)]; exact HI.out), withVal_next (withVal_same E 12 _ rfl) 13 _ rfl, (fun h => by rw [upd_other L (by decide)] at h; exact ⟨upd_mono _ (HC.out h).1, upd_mono _ (HC.out h).2.1, upd_mono _ (HC.out h).2.2⟩)⟩
        kernel_rfl
      case o14 =>
        rintro L a' W ⟨u, rfl, HI, E, HC⟩ hL hd K hK
        have e13 : u 13 = .int .i64 2 := E.out 13 (hd 13 (List.elem_iff.1 (by kernel_rfl)))
        simp only [List.setIfInBounds_toArray, List.set_cons_zero, List.set_cons_succ, e13]
        refine ite_take rfl ?_
        clear hL hd
        go_simp
        refine hK _ _ ⟨withVal (withVal u 13 (.int .i64 2)) 14 (.int .i64 3), ?_, (by show WI (upd L 14 18) W; rw [upd_other L (by decide)]; exact HI.out), withVal_next (withVal_same E 13 _ rfl) 14 _ rfl, (fun h => by rw [upd_other L (by decide)] at h; exact ⟨upd_mono _ (HC.out h).1, upd_mono _ (HC.out h).2.1, upd_mono _ (HC.out h).2.2⟩)⟩
        kernel_rfl
      case o15 =>
        rintro L a' W ⟨u, rfl, HI, E, HC⟩ hL hd K hK
        have e3 : u 3 = .int .i64 (p : Int) := E.out 3 (hd 3 (List.elem_iff.1 (by kernel_rfl)))
        have e14 : u 14 = .int .i64 3 := E.out 14 (hd 14 (List.elem_iff.1 (by kernel_rfl)))
        simp only [List.setIfInBounds_toArray, List.set_cons_zero, List.set_cons_succ, e3, e14]
        refine ite_take rfl ?_
        clear hL hd
        go_simp
        refine hK _ _ ⟨withVal (withVal (withVal u 3 (.int .i64 (p : Int))) 14 (.int .i64 3)) 15 (.int .i64 (r : Int)), ?_, (by show WI (upd L 15 18) W; rw [upd_other L (by decide)]; exact HI.out), withVal_next (withVal_same (withVal_same E 3 _ rfl) 14 _ rfl) 15 _ rfl, (fun h => by rw [upd_other L (by decide)] at h; exact ⟨upd_mono _ (HC.out h).1, upd_mono _ (HC.out h).2.1, upd_mono _ (HC.out h).2.2⟩)⟩
        kernel_rfl
      case o16 =>
        rintro L a' W ⟨u, rfl, HI, E, HC⟩ hL hd K hK
        have e0 : u 0 = .pointer (some ⟨b, 0, none⟩) := E.out 0 (hd 0 (List.elem_iff.1 (by kernel_rfl)))
        simp only [List.setIfInBounds_toArray, List.set_cons_zero, List.set_cons_succ, e0]
        refine ite_take rfl ?_
        clear hL hd
        go_simp
        refine hK _ _ ⟨withVal (withVal u 0 (.pointer (some ⟨b, 0, none⟩))) 16 (.pointer (some ⟨b, 0, none⟩)), ?_, (by show WI (upd L 16 18) W; rw [upd_other L (by decide)]; exact HI.out), withVal_next (withVal_same E 0 _ rfl) 16 _ rfl, (fun h => by rw [upd_other L (by decide)] at h; exact ⟨upd_mono _ (HC.out h).1, upd_mono _ (HC.out h).2.1, upd_mono _ (HC.out h).2.2⟩)⟩
        kernel_rfl
      case o17 =>
        rintro L a' W ⟨u, rfl, HI, E, HC⟩ hL hd K hK
        have e16 : u 16 = .pointer (some ⟨b, 0, none⟩) := E.out 16 (hd 16 (List.elem_iff.1 (by kernel_rfl)))
        simp only [List.setIfInBounds_toArray, List.set_cons_zero, List.set_cons_succ, e16]
        refine ite_take rfl ?_
        clear hL hd
        go_simp
        refine hK _ _ ⟨withVal (withVal u 16 (.pointer (some ⟨b, 0, none⟩))) 17 (.pointer (some ⟨b, 1, none⟩)), ?_, (by show WI (upd L 17 18) W; rw [upd_other L (by decide)]; exact HI.out), withVal_next (withVal_same E 16 _ rfl) 17 _ rfl, (fun h => by rw [upd_other L (by decide)] at h; exact ⟨upd_mono _ (HC.out h).1, upd_mono _ (HC.out h).2.1, upd_mono _ (HC.out h).2.2⟩)⟩
        kernel_rfl
      case o18 =>
        rintro L a' W ⟨u, rfl, HI, E, HC⟩ hL hd K hK
        have e15 : u 15 = .int .i64 (r : Int) := E.out 15 (hd 15 (List.elem_iff.1 (by kernel_rfl)))
        have e17 : u 17 = .pointer (some ⟨b, 1, none⟩) := E.out 17 (hd 17 (List.elem_iff.1 (by kernel_rfl)))
        rw [hL] at HI
        have hp3 := hd 3 (List.elem_iff.1 (by kernel_rfl))
        have hp7 := hd 7 (List.elem_iff.1 (by kernel_rfl))
        have hp11 := hd 11 (List.elem_iff.1 (by kernel_rfl))
        have kk : W.cell? ⟨b, 1, none⟩ = some (.int .i64 (p : Int)) := ((HWF.out W HI.out).cell (p := ⟨b, 1, none⟩) HS3.out.lt).trans c1
        have kf : W.frozen? ⟨b, 1, none⟩ = false := ((HWF.out W HI.out).frozen (p := ⟨b, 1, none⟩) HS3.out.lt).trans f1
        simp only [List.setIfInBounds_toArray, List.set_cons_zero, List.set_cons_succ, e15, e17]
        refine ite_take rfl ?_
        clear hL hd
        go_simp
        obtain ⟨W', hW'⟩ : ∃ W', W' = W.setCell ⟨b, 1, none⟩ (.int .i64 (r : Int)) := ⟨_, rfl⟩
        rw [← hW']
        have hBF := HWF.out W HI.out
        have hw' := HWN.out W' (by rw [hW']; exact ⟨(HS3.out.below hBF).setAt r, (hBF.mono hz3).setCell (p := ⟨b, 1, none⟩) HS3.out.lo _⟩)
        refine hK _ _ ⟨withVal (withVal (withVal u 15 (.int .i64 (r : Int))) 17 (.pointer (some ⟨b, 1, none⟩))) 18 (undef), ?_, (by show WI (upd L 18 18) W'; rw [upd_self]; exact hw'), withVal_next (withVal_same (withVal_same E 15 _ rfl) 17 _ rfl) 18 _ rfl, (fun _ => ⟨upd_mono _ hp3, upd_mono _ hp7, upd_mono _ hp11⟩)⟩
        kernel_rfl
    case hdone =>
      rintro L a' W1 hall ⟨u, rfl, HI, E, HC⟩
      rw [hall 18 (by decide)] at HI
      have e0 : u 0 = .pointer (some ⟨b, 0, none⟩) := E.out 0 (hall 0 (by decide))
      have e1 : u 1 = .pointer (some ⟨b, 0, none⟩) := E.out 1 (hall 1 (by decide))
      have e2 : u 2 = .pointer (some ⟨b, 1, none⟩) := E.out 2 (hall 2 (by decide))
      have e3 : u 3 = .int .i64 (p : Int) := E.out 3 (hall 3 (by decide))
      have e4 : u 4 = .pointer (some ⟨b, 0, none⟩) := E.out 4 (hall 4 (by decide))
      have e5 : u 5 = .pointer (some ⟨b, 0, none⟩) := E.out 5 (hall 5 (by decide))
      have e6 : u 6 = .pointer (some ⟨b, 0, none⟩) := E.out 6 (hall 6 (by decide))
      have e7 : u 7 = .string s := E.out 7 (hall 7 (by decide))
      have e8 : u 8 = .pointer (some ⟨b, 0, none⟩) := E.out 8 (hall 8 (by decide))
      have e9 : u 9 = .pointer (some ⟨b, 0, none⟩) := E.out 9 (hall 9 (by decide))
      have e10 : u 10 = .pointer (some ⟨b, 1, none⟩) := E.out 10 (hall 10 (by decide))
      have e11 : u 11 = .int .i64 (p : Int) := E.out 11 (hall 11 (by decide))
      have e12 : u 12 = .string (s.extract p s.size) := E.out 12 (hall 12 (by decide))
      have e13 : u 13 = .int .i64 2 := E.out 13 (hall 13 (by decide))
      have e14 : u 14 = .int .i64 3 := E.out 14 (hall 14 (by decide))
      have e15 : u 15 = .int .i64 (r : Int) := E.out 15 (hall 15 (by decide))
      have e16 : u 16 = .pointer (some ⟨b, 0, none⟩) := E.out 16 (hall 16 (by decide))
      have e17 : u 17 = .pointer (some ⟨b, 1, none⟩) := E.out 17 (hall 17 (by decide))
      have e18 : u 18 = undef := E.out 18 (hall 18 (by decide))
      simp only [List.setIfInBounds_toArray, List.set_cons_zero, List.set_cons_succ, e0, e1, e2, e3, e4, e5, e6, e7, e8, e9, e10, e11, e12, e13, e14, e15, e16, e17]
      have HF := HWT.out W1 HI.out
      have HS4 := Lib.hid HF.1
      have HB4 := Lib.hid (HBD3.out.trans HF.2)
      have k2 := HS4.out.c2
      have g2 := HS4.out.f 2
      have HS5 := Lib.hid (HS4.out.setLine l1)
      have HB5 := Lib.hid (HB4.out.setCell (p := ⟨b, 2, none⟩) HS4.out.lo (.int .i64 (l1 : Int)))
      clear HF hall E HI HC c0 c1 f1
      rename_i K hKK
      refine hKK _ _ ?_
      go_wp2_with fail
      go_end0
      exact .go HRn.out ⟨rfl, ⟨_, HS5.out.to HR.out HL.out⟩, HB5.out⟩
  rw [decide_eq_false hb2]
  have HRt : Hid (res = tokR litL (c :: T) LT.getLast?) := by show _ = _; rw [HRes.out, HD.out]; exact step_tok (fun e => e.elim hk (fun e => e.elim hk9 hk13)) hk10 hk35 hb1 hb2
  go_wp2_with fail
  refine (first_any c _).mono ?_
  rintro e w4 ⟨rfl, rfl⟩
  cases hf : firstC c with
  | true =>
    go_wp2_with fail
    refine (lexWord_any D b s p l v LT _ HS3.out hp (by omega) hL9 (HM.out.below HBD3.out hMD) hMD hz3).mono ?_
    rintro e w5 ⟨rfl, hs5, hb5⟩
    have HS5 := Lib.hid hs5
    have HB5 := Lib.hid (HBD3.out.trans hb5)
    clear hs5 hb5
    go_wp2_with fail
    go_end0
    refine .go (k := wordN (s.data.toList.drop p)) (n := 0) (tok := some ((if isWordL ((s.data.toList.drop p).take (wordN (s.data.toList.drop p))) then 6 else if ((s.data.toList.drop p).drop (wordN (s.data.toList.drop p))).head? = some 40 then 2 else 1), (s.data.toList.drop p).take (wordN (s.data.toList.drop p)), 0)) ?_ ⟨rfl, HS5.out, HB5.out⟩
    rw [HRt.out, HD.out]
    unfold tokR
    simp only []
    rw [if_pos hf]
  | false =>
    go_wp2_with fail
    refine (number_any D b s p l v LT _ HS3.out hp hs hL9 hz3).mono ?_
    rintro e w5 hN
    rw [hC] at hN
    have HRu : Hid (res = if (numC c && decide (0 < litN (s.data.toList.drop p))) = true then (if FloatKind.f64.format.order (litV (s.data.toList.drop p)) 9218868437227405311 == some .gt then .bad 201 else .go (litN (s.data.toList.drop p)) 0 (some (3, [], litV (s.data.toList.drop p))))
        else if c = 34 then (match textR (c :: T).length T with
          | none => .bad 201
          | some (o, n, l) => if 1024 < o.length then .bad 201 else .go (1 + n) l (some (4, o, 0)))
        else if c = 47 ∧ dividesT LT.getLast? = false then (match slashR (c :: T).length T with
          | none => .bad 202
          | some (o, n) => if 1024 < o.length then .bad 202 else .go (1 + n) 0 (some (5, o, 0)))
        else match signsL.find? fun p => p.isPrefixOf (c :: T) with
          | none => .bad 200
          | some p => .go p.length 0 (some (7, p, 0))) := by
      show _ = _
      rw [HRt.out, HD.out]
      unfold tokR
      simp only []
      rw [if_neg (by rw [hf]; exact Bool.false_ne_true)]
      rfl
    cases hok : (numC c && decide (0 < litN (s.data.toList.drop p))) with
    | true =>
      rw [hok] at hN
      have hRu := HRu.out
      rw [if_pos hok] at hRu
      unfold NumE at hN
      rw [if_pos rfl] at hN
      cases hgt : (FloatKind.f64.format.order (litV (s.data.toList.drop p)) 9218868437227405311 == some .gt) with
      | true =>
        rw [if_pos hgt] at hN
        rw [if_pos hgt] at hRu
        obtain ⟨rfl, hb5⟩ := hN
        have HB5 := Lib.hid (HBD3.out.trans hb5)
        have HRv := Lib.hid hRu
        clear hb5 hRu HRu HRt
        go_wp2_with fail
        refine ⟨rfl, ?_⟩
        exact .bad HRv.out ⟨rfl, HB5.out⟩
      | false =>
        rw [if_neg (by rw [hgt]; exact Bool.false_ne_true)] at hN
        rw [if_neg (by rw [hgt]; exact Bool.false_ne_true)] at hRu
        obtain ⟨rfl, hs5, hb5⟩ := hN
        have HB5 := Lib.hid (HBD3.out.trans hb5)
        have HS5 := Lib.hid hs5
        have HRv := Lib.hid hRu
        clear hb5 hs5 hRu HRu HRt
        go_wp2_with fail
        go_end0
        exact .go HRv.out ⟨rfl, HS5.out, HB5.out⟩
    | false =>
      rw [hok] at hN
      have hRu := HRu.out
      rw [if_neg (by rw [hok]; exact Bool.false_ne_true)] at hRu
      unfold NumE at hN
      rw [if_neg Bool.false_ne_true] at hN
      obtain ⟨rfl, hb5⟩ := hN
      have HS5 := Lib.hid (HS3.out.below hb5)
      have HBD5 := Lib.hid (HBD3.out.trans (hb5.mono hz3))
      have hz5 : D ≤ w5.heap.size := Nat.le_trans hz3 hb5.size
      clear hb5 HRu HRt
      by_cases h34 : c = 34
      · rw [if_pos h34] at hRu
        have HRv := Lib.hid hRu
        clear hRu
        have hTx := text_any D b s p l v LT w5 HS5.out hp hs hl hL9 hz5
        rw [hT, HD.out] at hTx
        have HTx := Lib.hid hTx
        subst h34
        clear hTx
        go_wp2_with fail
        refine HTx.out.mono ?_
        rintro e w6 hE
        obtain ⟨h1 | ⟨ch, h1⟩, h2⟩ := hE.step HBD5.out (HRv.out.trans (textStep_eq _))
        · subst h1
          have HE := Lib.hid h2
          clear h2 hE
          go_wp2_with fail
          go_end0
          exact HE.out
        · subst h1
          have HE := Lib.hid h2
          clear h2 hE
          go_wp2_with fail
          refine ⟨rfl, ?_⟩
          exact HE.out
      rw [if_neg h34] at hRu
      have n34 : ((c.toNat : Int) == 34) = false := HcI.out 34 h34
      have hSg := sign_any D b s p l v LT
      by_cases h47 : c = 47
      · have HDv := Lib.hid (divides_any D b s p l v LT w5 HS5.out hL9)
        cases hdv : dividesT LT.getLast? with
        | true =>
          rw [hdv] at HDv
          rw [if_neg (by rw [hdv]; simp)] at hRu
          have HRv := Lib.hid hRu
          subst h47
          clear hRu
          go_wp2_with fail
          refine HDv.out.mono ?_
          rintro e w6 ⟨rfl, hb6⟩
          have HSg := hSg w6 (HS5.out.below hb6) hp hs hL9 (Nat.le_trans hz5 hb6.size)
          rw [HD.out] at HSg
          have HSg := Lib.hid HSg
          have HBD6 := Lib.hid (HBD5.out.trans (hb6.mono hz5))
          clear hb6
          go_wp2_with fail
          refine HSg.out.mono ?_
          rintro e w7 hE
          obtain ⟨h1 | ⟨ch, h1⟩, h2⟩ := hE.step HBD6.out (HRv.out.trans (signStep_eq _))
          · subst h1
            have HE := Lib.hid h2
            clear h2 hE
            go_wp2_with fail
            go_end0
            exact HE.out
          · subst h1
            have HE := Lib.hid h2
            clear h2 hE
            go_wp2_with fail
            refine ⟨rfl, ?_⟩
            exact HE.out
        | false =>
          rw [hdv] at HDv
          rw [if_pos ⟨h47, hdv⟩] at hRu
          have HRv := Lib.hid hRu
          subst h47
          clear hRu
          go_wp2_with fail
          refine HDv.out.mono ?_
          rintro e w6 ⟨rfl, hb6⟩
          have hSl := slash_any D b s p l v LT w6 (HS5.out.below hb6) hp hs hL9 (Nat.le_trans hz5 hb6.size)
          rw [hT, HD.out] at hSl
          have HSl := Lib.hid hSl
          have HBD6 := Lib.hid (HBD5.out.trans (hb6.mono hz5))
          clear hb6 hSl
          go_wp2_with fail
          refine HSl.out.mono ?_
          rintro e w7 hE
          obtain ⟨h1 | ⟨ch, h1⟩, h2⟩ := hE.step HBD6.out (HRv.out.trans (slashStep_eq _))
          · subst h1
            have HE := Lib.hid h2
            clear h2 hE
            go_wp2_with fail
            go_end0
            exact HE.out
          · subst h1
            have HE := Lib.hid h2
            clear h2 hE
            go_wp2_with fail
            refine ⟨rfl, ?_⟩
            exact HE.out
      have n47 : ((c.toNat : Int) == 47) = false := HcI.out 47 h47
      rw [if_neg (fun e => h47 e.1)] at hRu
      have HRv := Lib.hid hRu
      have hSg5 := hSg w5 HS5.out hp hs hL9 hz5
      rw [HD.out] at hSg5
      have HSg := Lib.hid hSg5
      clear hRu hSg hSg5
      go_wp2_with fail
      refine HSg.out.mono ?_
      rintro e w7 hE
      obtain ⟨h1 | ⟨ch, h1⟩, h2⟩ := hE.step HBD5.out (HRv.out.trans (signStep_eq _))
      · subst h1
        have HE := Lib.hid h2
        clear h2 hE
        go_wp2_with fail
        go_end0
        exact HE.out
      · subst h1
        have HE := Lib.hid h2
        clear h2 hE
        go_wp2_with fail
        refine ⟨rfl, ?_⟩
        exact HE.out
end Go.Proofs.YtkaelmbgfcehhaaDoor
