/- Package lex: text. -/
import Derived.Test.YtkaelmbgfcehhaaDoorY7
import Derived.Test.YtkaelmbgfcehhaaDoorM6
import Derived.Test.YtkaelmbgfcehhaaDoorY0
set_option linter.unusedVariables false
set_option linter.unusedSimpArgs false
namespace Go.Proofs.YtkaelmbgfcehhaaDoor
open Go.RowKit
set_option linter.unusedVariables false
set_option linter.unusedSimpArgs false

/-- string(b) of a row of the call's own -/
theorem wpList_stringB (w : World) {ops : Array Oper} {rest : List Oper} {o : Oper} {a : Act} {Q : Exit → Act → World → Prop} (hg : o.guard = none) (x : Operand) (ho : o.op = .convert 44 9 x) (base : Nat) (v : Value) (X : List UInt8) (hx : a.eval x = v)
    (h : OwnB w base v (X.map UInt8.toNat)) (hK : wpList Tryd.prog ops Q rest (a.put o.dst (.string (bs X))) w) : wpList Tryd.prog ops Q (o :: rest) a w := by
  rcases h.slice with ⟨rfl, h0⟩ | ⟨g, cap, rfl, hb, hr⟩
  · have hX : X = [] := by simpa using h0
    subst hX
    have hr := run_convert_bytes_nil (P := Tryd.prog) (w := w) 44 5 undBytes undByte 0 0 9 undStr
    refine wpList_plain hg fun K' hK' => ?_
    unfold Oper.wp
    simp [execOp, ho, hx, hr, Result.andThen]
    exact hK' _ _ hK
  · refine wpList_string w hg x ho g cap X (by rw [hx, List.length_map]) (fun j hj => ?_) hK
    have := hr.cell j (by simpa using hj)
    simpa using this
theorem OwnB.form {w : World} {base : Nat} {v : Value} {L : List Nat} (h : OwnB w base v L) : ∃ a c, v = .slice a L.length c := by
  rcases h.slice with ⟨rfl, rfl⟩ | ⟨g, cap, rfl, _, _⟩
  · exact ⟨_, _, rfl⟩
  · exact ⟨_, _, rfl⟩
theorem OwnB.drewN {w : World} {base : Nat} {v : Value} {L : List Nat} (h : OwnB w base v L) (n : Nat) : OwnB (w.drewN n) base v L := h.belowM ((Below.refl _ _).drewN n)
/-- the place in the scanner of block b -/
def placeAt (W : World) (b : Nat) : Nat := match W.cell? ⟨b, 1, none⟩ with | some v => (intOf v).toNat | none => 0
theorem Sc.place {w : World} {D b : Nat} {s : ByteArray} {p l : Nat} {v : Value} {L : List TokT} (h : Sc w D b s p l v L) : placeAt w b = p := by
  unfold placeAt
  rw [h.c1]
  simp [intOf]
/-- what text does -/
def TextE (D b : Nat) (s : ByteArray) (p l : Nat) (LT : List TokT) (w : World) (r : Option (List UInt8 × Nat × Nat)) (e : Ending) (w' : World) : Prop := match r with
  | some (o, k, n) => if o.length ≤ 1024 then e = .returned (.tuple #[]) ∧ (∃ v', Sc w' D b s (p + (1 + k)) (l + n) v' (LT ++ [(4, o, 0, l)])) ∧ Below D w w' else e = .panicked [{ v := lexF l 201, recovered := false }] ∧ Below D w w'
  | none => e = .panicked [{ v := lexF l 201, recovered := false }] ∧ Below D w w'
section
variable {D b p l : Nat} {s : ByteArray} {LT : List TokT} {w w' : World} {r : Option (List UInt8 × Nat × Nat)} {e : Ending}
theorem TextE.bad (hr : ∀ o k n, r = some (o, k, n) → 1024 < o.length) (h : e = .panicked [{ v := lexF l 201, recovered := false }] ∧ Below D w w') : TextE D b s p l LT w r e w' := by
  cases r with
  | none => exact h
  | some q =>
    obtain ⟨o, k, n⟩ := q
    have := hr o k n rfl
    show if o.length ≤ 1024 then _ else _
    rw [if_neg (by omega)]
    exact h
theorem TextE.good {o : List UInt8} {k n : Nat} (hr : r = some (o, k, n)) (ho : o.length ≤ 1024) (h : e = .returned (.tuple #[]) ∧ (∃ v', Sc w' D b s (p + (1 + k)) (l + n) v' (LT ++ [(4, o, 0, l)])) ∧ Below D w w') : TextE D b s p l LT w r e w' := by
  subst hr
  show if o.length ≤ 1024 then _ else _
  rw [if_pos ho]
  exact h
end
theorem Mv.below {M b D : Nat} {w w' : World} (h : Mv M b w w') (hD : D ≤ M) (hb : D ≤ b) : Below D w w' := ⟨h.os, h.tape, h.output, h.size, fun k hk => h.block k (by omega) (by omega)⟩
theorem ite_len {c : Prop} [Decidable c] {x y : List UInt8 × Nat × Nat} (hx : x.1.length ≤ 1) (hy : y.1.length ≤ 1) : (if c then x else y).1.length ≤ 1 := by
  split
  · exact hx
  · exact hy
theorem esc_len (R : List UInt8) : (escR R).1.length ≤ 1 := by
  cases R with
  | nil => simp [escR]
  | cons b T =>
    simp only [escR]
    repeat' first | apply ite_len | exact Nat.le_refl _ | exact Nat.zero_le _
theorem map_map_text (r : Option (List UInt8 × Nat × Nat)) (X Y : List UInt8) (a1 b1 a2 b2 : Nat) : (r.map fun q => (Y ++ q.1, a2 + q.2.1, b2 + q.2.2)).map (fun q => (X ++ q.1, a1 + q.2.1, b1 + q.2.2)) = r.map fun q => ((X ++ Y) ++ q.1, (a1 + a2) + q.2.1, (b1 + b2) + q.2.2) := by
  cases r with
  | none => rfl
  | some q => simp [Nat.add_assoc]
set_option maxRecDepth 100000 in
set_option maxHeartbeats 32000000 in
theorem text_any (D b : Nat) (s : ByteArray) (p l : Nat) (v : Value) (LT : List TokT) (w : World) (h : Sc w D b s p l v LT) (hp : p < s.size) (hs : s.size ≤ 100000) (hl : l ≤ 200000) (hL : LT.length ≤ 1000000000) (hD : D ≤ w.heap.size) :
    Calls Tryd.prog 21 #[.pointer (some ⟨b, 0, none⟩)] w (TextE D b s p l LT w (textR (s.data.toList.drop p).length (s.data.toList.drop (p + 1)))) := by
  obtain ⟨Res, hRes⟩ : ∃ r, r = textR (s.data.toList.drop p).length (s.data.toList.drop (p + 1)) := ⟨_, rfl⟩
  rw [← hRes]
  have hf0 : (s.data.toList.drop (p + 1)).length < (s.data.toList.drop p).length := by rw [List.length_drop, List.length_drop, ← size_list]; omega
  have HR0 : Hid (Res = (textR (s.data.toList.drop p).length (s.data.toList.drop (p + 1))).map fun q => ([] ++ q.1, ((p + 1) - (p + 1)) + q.2.1, 0 + q.2.2)) := by
    show _ = _
    rw [hRes]
    cases textR (s.data.toList.drop p).length (s.data.toList.drop (p + 1)) with
    | none => rfl
    | some q => simp
  have HF0 := Lib.hid hf0
  clear hRes hf0
  obtain ⟨M, hM⟩ : ∃ M, M = w.heap.size := ⟨_, rfl⟩
  have hMw : M ≤ w.heap.size := by omega
  have hbM : b < M := by have := h.lt; omega
  have HV : Hid (∀ g, v.ownBlock = some g → g < M) := fun g hg => by have := (h.own.lt g hg).2; omega
  have hDM : D ≤ M := by omega
  have hDb : D ≤ b := h.lo
  have c1 := h.c1
  have f1 := h.f 1
  have c2 := h.c2
  obtain ⟨q, hq⟩ : ∃ q, q = p + 1 := ⟨_, rfl⟩
  have eq1 : (p : Int) + 1 = (q : Int) := by omega
  have eqw := wrapN q (by omega)
  have hqs : q ≤ s.size := by omega
  have HS0 := Lib.hid (h.setAt q)
  have HM0 : Hid (Mv M b w (w.setCell ⟨b, 1, none⟩ (.int .i64 (q : Int)))) := (Mv.refl M b w).setAt 1 _
  have HO0 : Hid (OwnB (w.setCell ⟨b, 1, none⟩ (.int .i64 (q : Int))) M (.slice none 0 0) (([] : List UInt8).map UInt8.toNat)) := OwnB.nil _ _
  rw [← hq] at HR0 HF0
  have HQ := Lib.hid hq
  clear h hq hM
  go_enter Tryd.func21, Tryd.ntmps21
  go_wp2_with fail
  apply wp_scope_straight
  go_wp2_with fail
  apply wp_label
  go_wp2_with fail
  go_loopw [3] (fun ov wr => ∃ (m f ln n : Nat) (X : List UInt8) (a0 : Option Addr) (cp : Nat), ov = .slice a0 n cp ∧ Hid (X.length = n) ∧ Hid (OwnB wr M (.slice a0 n cp) (X.map UInt8.toNat)) ∧ n ≤ 1025 ∧ q ≤ m ∧ m ≤ s.size ∧ ln + q ≤ m ∧ Hid ((s.data.toList.drop m).length < f) ∧
      Hid (Res = (textR f (s.data.toList.drop m)).map fun r => (X ++ r.1, (m - q) + r.2.1, ln + r.2.2)) ∧ Hid (Sc wr D b s m (l + ln) v LT) ∧ Hid (Mv M b w wr)) (fun _ wr => s.size - placeAt wr b)
  case atStart => exact ⟨q, _, 0, 0, [], none, 0, rfl, rfl, HO0, by decide, Nat.le_refl _, hqs, by omega, HF0, HR0, HS0, HM0⟩
  case round =>
    obtain ⟨m, f, ln, n, X, a0, cp, rfl, HX, HOr, hn, hqm, hms, hln, HF, HRr, HSr, HMr⟩ := hrel
    have c0 := HSr.out.c0
    have k1 := HSr.out.c1
    have g1 := HSr.out.f 1
    have hmI : (m : Int) ≤ (s.size : Int) := by omega
    have hBr : Hid (Below D w wr) := HMr.out.below hDM hDb
    clear c1 f1 c2
    rcases Nat.lt_or_ge m s.size with hlt | hge
    · have hltI : (m : Int) < (s.size : Int) := by omega
      have hgd : decide ((s.size : Int) ≤ (m : Int)) = false := decide_eq_false (by omega)
      have hd := drop_byte hlt
      obtain ⟨f', hf'⟩ : ∃ f', f = f' + 1 := ⟨f - 1, by have := HF.out; omega⟩
      subst hf'
      have hRr := HRr.out
      have hFr := HF.out
      rw [hd] at hRr hFr
      rw [List.length_cons] at hFr
      rw [textR] at hRr
      generalize hC : s[m] = c at *
      generalize hT : s.data.toList.drop (m + 1) = T at *
      have HD := Lib.hid hd
      by_cases hnl : c = 10
      · subst hnl
        rw [if_neg (by decide), if_pos rfl] at hRr
        have HRn := Lib.hid hRr
        clear hRr hFr hd HRr
        go_wp2_with fail
        go_quiet (fail)
        go_wp2_with fail
        refine (fail_any _ l 201 _).mono ?_
        rintro e w3 ⟨rfl, rfl⟩
        go_wp2_with fail
        refine ⟨rfl, ?_⟩
        exact TextE.bad (fun o k n e => by rw [HRn.out] at e; cases e) ⟨rfl, hBr.out.drewN _⟩
      rw [if_neg hnl] at hRr
      have hcd : ((c.toNat : Int) == 10) = false := beq_eq_false_iff_ne.2 (fun e => hnl (UInt8.toNat_inj.1 (by show c.toNat = 10; omega)))
      by_cases hbig : 1024 < n
      · have hbI : (1024 : Int) < (n : Int) := by omega
        have HRn : Hid (∀ o k n', Res = some (o, k, n') → 1024 < o.length) := fun o k n' e => by
          rw [HRr.out] at e
          obtain ⟨r, hr1, hr2⟩ := Option.map_eq_some_iff.1 e
          have : o = X ++ r.1 := (congrArg (fun x => x.1) hr2).symm
          rw [this, List.length_append, HX.out]
          omega
        clear hRr hFr hd HRr
        go_wp2_with fail
        go_quiet (fail)
        go_wp2_with fail
        refine (fail_any _ l 201 _).mono ?_
        rintro e w3 ⟨rfl, rfl⟩
        go_wp2_with fail
        refine ⟨rfl, ?_⟩
        exact TextE.bad HRn.out ⟨rfl, hBr.out.drewN _⟩
      have hbd : decide ((1024 : Int) < (n : Int)) = false := decide_eq_false (by omega)
      obtain ⟨m1, hm1⟩ : ∃ m1, m1 = m + 1 := ⟨_, rfl⟩
      have em : (m : Int) + 1 = (m1 : Int) := by omega
      have emw := wrapN m1 (by omega)
      have HM1 := Lib.hid hm1
      have hm1s : m1 ≤ s.size := by omega
      have hqm1 : q ≤ m1 := by omega
      have hT1 : s.data.toList.drop m1 = T := by rw [hm1, hT]
      have HT1 := Lib.hid hT1
      clear hm1 hd hT hT1
      go_wp2_with fail
      go_quiet (fail)
      go_wp2_with fail
      go_quiet (fail)
      generalize hws : World.drewN (World.drewN wr _) _ = ws
      have HSs : Hid (Sc ws D b s m (l + ln) v LT) := hws ▸ (HSr.out.drewN _).drewN _
      have HMs : Hid (Mv M b w ws) := hws ▸ (HMr.out.drewN _).drewN _
      have HOs : Hid (OwnB ws M (.slice a0 n cp) (X.map UInt8.toNat)) := hws ▸ (HOr.out.drewN _).drewN _
      have hMs : M ≤ ws.heap.size := Nat.le_trans hMw HMs.out.size
      clear hws c0 k1 g1
      have c0 := HSs.out.c0
      have k1 := HSs.out.c1
      have g1 := HSs.out.f 1
      have HS1 := Lib.hid (HSs.out.setAt m1)
      have HW1 := Lib.hid (HMs.out.setAt 1 (.int .i64 (m1 : Int)))
      have HO1 := Lib.hid (HOs.out.mv ((Apart.refl [b] ws).sc (q := 1) (.int .i64 (m1 : Int))) hbM)
      clear HSs HMs HOs
      by_cases hq34 : c = 34
      · subst hq34
        rw [if_pos rfl] at hRr
        have HRn : Hid (Res = some (X, m - q + 1, ln)) := by
          show _ = _
          rw [hRr]
          simp
        have HBD := Lib.hid (HW1.out.below hDM hDb)
        clear hRr HRr
        go_wp2_with (refine wpList_stringB _ rfl _ rfl M _ X rfl HO1.out ?_)
        go_wp2_with fail
        refine (add_any D b s m1 (l + ln) v LT 4 X 0 l _ HS1.out hL).mono ?_
        rintro e w3 ⟨rfl, hs3, hb3⟩
        have HS3 : Hid (∃ v', Sc w3 D b s (p + (1 + (m - q + 1))) (l + ln) v' (LT ++ [(4, X, 0, l)])) := by
          have e : p + (1 + (m - q + 1)) = m1 := by have h1 := HQ.out; have h2 := HM1.out; omega
          rw [e]
          exact hs3
        have HB3 := Lib.hid (HBD.out.trans hb3)
        clear hs3 hb3
        go_wp2_with fail
        go_end0
        exact TextE.good HRn.out (by rw [HX.out]; omega) ⟨rfl, HS3.out, HB3.out⟩
      rw [if_neg hq34] at hRr
      have hq34d : ((c.toNat : Int) == 34) = false := beq_eq_false_iff_ne.2 (fun e => hq34 (UInt8.toNat_inj.1 (by show c.toNat = 34; omega)))
      by_cases he : c = 92 ∧ T ≠ []
      · obtain ⟨he1, he2⟩ := he
        subst he1
        rw [if_pos ⟨rfl, he2⟩] at hRr
        have hmlt : m1 < s.size := by
          rcases Nat.lt_or_ge m1 s.size with h9 | h9
          · exact h9
          · exact absurd (by rw [← HT1.out]; exact List.drop_eq_nil_of_le (by rw [← size_list]; exact h9)) he2
        have hmltI : (m1 : Int) < (s.size : Int) := by omega
        obtain ⟨E1, E2, E3⟩ := esc_lines he2
        have E4 := esc_len T
        have HEsc := Lib.hid (fun W h1 h2 h3 => escape_any D b M s m1 (l + ln) v (.slice a0 n cp) LT (X.map UInt8.toNat) W h1 hmlt hs (by omega) h2 hbM HV.out h3 (by rw [List.length_map, HX.out]; omega))
        rw [HT1.out] at HEsc
        obtain ⟨o, k, n', hE⟩ : ∃ o k n', escR T = (o, k, n') := ⟨_, _, _, rfl⟩
        rw [hE] at HEsc hRr E1 E2 E3 E4
        have hTl : T.length = s.size - m1 := by rw [← HT1.out, List.length_drop, ← size_list]
        have E5 : n' ≤ k := by
          have h1 : n' = (T.take k).count 10 := E1
          have h2 : (T.take k).count 10 ≤ (T.take k).length := List.count_le_length
          rw [List.length_take] at h2
          omega
        have HRn : Hid (Res = (textR f' (s.data.toList.drop (m1 + k))).map fun r => ((X ++ o) ++ r.1, (m1 + k - q) + r.2.1, (ln + n') + r.2.2)) := by
          show _ = _
          rw [hRr, map_map_text, ← List.drop_drop, HT1.out, show m - q + (1 + k) = m1 + k - q by have h2 := HM1.out; omega]
        have HFn : Hid ((s.data.toList.drop (m1 + k)).length < f') := by
          show _ < _
          rw [← List.drop_drop, HT1.out, List.length_drop]
          omega
        have E2' : 1 ≤ k := E2
        have E3' : k ≤ T.length := E3
        have E4' : o.length ≤ 1 := E4
        clear hRr HRr hE E1 E2 E3 E4 hFr
        go_wp2_with fail
        go_quiet (fail)
        go_wp2_with fail
        refine (HEsc.out _ (HS1.out.drewN _) (by show M ≤ (ws.setCell _ _).heap.size; simpa using hMs) (HO1.out.drewN _)).mono ?_
        rintro e w3 ⟨out', rfl, hown, hsc, hmv⟩
        obtain ⟨a1, c1, rfl⟩ := hown.form
        have hlen : (X.map UInt8.toNat ++ o.map UInt8.toNat).length = n + o.length := by rw [List.length_append, List.length_map, List.length_map, HX.out]
        rw [hlen] at hown ⊢
        obtain ⟨n1, hn1⟩ : ∃ n1, n1 = n + o.length := ⟨_, rfl⟩
        rw [← hn1] at hown ⊢
        have HO3 : Hid (OwnB w3 M (.slice a1 n1 c1) ((X ++ o).map UInt8.toNat)) := by
          show OwnB _ _ _ _
          rw [List.map_append]
          exact hown
        have HX3 : Hid ((X ++ o).length = n1) := by show _ = _; rw [List.length_append, HX.out, hn1]
        have HS3 : Hid (Sc w3 D b s (m1 + k) (l + (ln + n')) v LT) := by rw [← Nat.add_assoc]; exact hsc
        have HM3 := Lib.hid ((HW1.out.drewN _).trans hmv)
        have hn1B : n1 ≤ 1025 := by omega
        have hB1 : q ≤ m1 + k := by omega
        have hB2 : m1 + k ≤ s.size := by omega
        have hB3 : ln + n' + q ≤ m1 + k := by have h2 := HM1.out; omega
        have HB4 : Hid (s.size - (m1 + k) < s.size - m) := by have h2 := HM1.out; show _ < _; omega
        clear hown hsc hmv HEsc hlen hn1
        go_wp2_with fail
        go_roundw
        case rel => exact ⟨m1 + k, f', ln + n', n1, X ++ o, a1, c1, rfl, HX3, HO3, hn1B, hB1, hB2, hB3, HFn, HRn, HS3, HM3⟩
        case measure => rw [HS3.out.place, HSr.out.place]; exact HB4.out
      rw [if_neg he] at hRr
      have HRn : Hid (Res = (textR f' (s.data.toList.drop m1)).map fun r => ((X ++ [c]) ++ r.1, (m1 - q) + r.2.1, ln + r.2.2)) := by
        show _ = _
        have e : (fun q : List UInt8 × Nat × Nat => (c :: q.1, 1 + q.2.1, q.2.2)) = fun q => ([c] ++ q.1, 1 + q.2.1, 0 + q.2.2) := by funext q; simp
        rw [hRr, e, map_map_text, HT1.out, show m - q + 1 = m1 - q by have h2 := HM1.out; omega, Nat.add_zero]
      have HFn : Hid ((s.data.toList.drop m1).length < f') := by
        show _ < _
        rw [HT1.out]
        omega
      have HX3 : Hid ((X ++ [c]).length = n + 1) := by show _ = _; rw [List.length_append, HX.out]; rfl
      have hXl : (X.map UInt8.toNat).length ≤ 1000000000 := by rw [List.length_map, HX.out]; omega
      have HXM : Hid ((X ++ [c]).map UInt8.toNat = X.map UInt8.toNat ++ [c.toNat]) := by show _ = _; rw [List.map_append]; rfl
      have hmm1 : s.size - m1 < s.size - m := by have h2 := HM1.out; omega
      have HB4 := Lib.hid hmm1
      have hB3 : ln + q ≤ m1 := by have h2 := HM1.out; omega
      have hB5 : n + 1 ≤ 1025 := by omega
      have hclt := c.toNat_lt
      have hne : (c.toNat : Int) = 92 → (s.size : Int) ≤ (m1 : Int) := fun e => by
        have h9 : c = 92 := UInt8.toNat_inj.1 (by show c.toNat = 92; omega)
        rcases Nat.lt_or_ge m1 s.size with h8 | h8
        · exfalso
          apply he
          refine ⟨h9, fun e8 => ?_⟩
          have h7 := congrArg List.length e8
          rw [← HT1.out, List.length_drop, ← size_list] at h7
          simp at h7
          omega
        · omega
      clear hRr HRr he hFr hmm1
      generalize hcn : c.toNat = cn at *
      by_cases h92 : cn = 92
      · have hge1 : (s.size : Int) ≤ (m1 : Int) := hne (by omega)
        have hged : decide ((m1 : Int) < (s.size : Int)) = false := decide_eq_false (by omega)
        subst h92
        clear hne
        go_wp2_with fail
        go_quiet (fail)
        generalize hwt : World.drewN (World.setCell ws _ _) _ = wt
        have HS2 : Hid (Sc wt D b s m1 (l + ln) v LT) := hwt ▸ HS1.out.drewN _
        have HW2 : Hid (Mv M b w wt) := hwt ▸ HW1.out.drewN _
        have HO2 : Hid (OwnB wt M (.slice a0 n cp) (X.map UInt8.toNat)) := hwt ▸ HO1.out.drewN _
        have hMt : M ≤ wt.heap.size := Nat.le_trans hMw HW2.out.size
        clear hwt
        go_wp2_with (
          at_builtin
          go_loud (refine wpList_appB _ rfl _ _ rfl M _ (X.map UInt8.toNat) rfl (OwnB.alloc HO2.out _) wt.heap.size _ rfl (by simp [go_sem]; rfl) (by omega) (by simp; omega) hXl ?_)
          intro v1 w3 hown1 hgr1
          have HOw := Lib.hid hown1
          have HG := Lib.hid hgr1
          clear hown1 hgr1)
        go_wp2_with fail
        have HS3 := Lib.hid ((HS2.out.alloc _).grownO HG.out (fun g e => (HO2.out.own.lt g e).1) hbM HV.out)
        have HM3 := Lib.hid ((HW2.out.alloc hMt _).grown (by simp; omega) HG.out (fun g e => (HO2.out.own.lt g e).1))
        obtain ⟨a1, c1, rfl⟩ := HOw.out.form
        have hlen : (X.map UInt8.toNat ++ [92]).length = n + 1 := by rw [List.length_append, List.length_map, HX.out]; rfl
        have HO3 : Hid (OwnB w3 M (.slice a1 (n + 1) c1) ((X ++ [c]).map UInt8.toNat)) := by
          show OwnB _ _ _ _
          have h1 := HOw.out
          rw [hlen] at h1
          rw [HXM.out]
          exact h1
        rw [hlen]
        clear hlen HOw HG
        go_roundw
        case rel => exact ⟨m1, f', ln, n + 1, X ++ [c], a1, c1, rfl, HX3, HO3, hB5, hqm1, hm1s, hB3, HFn, HRn, HS3, HM3⟩
        case measure => rw [HS3.out.place, HSr.out.place]; exact HB4.out
      · have h92d : ((cn : Int) == 92) = false := beq_eq_false_iff_ne.2 (by omega)
        clear hne
        go_wp2_with fail
        go_quiet (fail)
        generalize hwt : World.drewN (World.setCell ws _ _) _ = wt
        have HS2 : Hid (Sc wt D b s m1 (l + ln) v LT) := hwt ▸ HS1.out.drewN _
        have HW2 : Hid (Mv M b w wt) := hwt ▸ HW1.out.drewN _
        have HO2 : Hid (OwnB wt M (.slice a0 n cp) (X.map UInt8.toNat)) := hwt ▸ HO1.out.drewN _
        have hMt : M ≤ wt.heap.size := Nat.le_trans hMw HW2.out.size
        clear hwt
        go_wp2_with (
          at_builtin
          go_loud (refine wpList_appB _ rfl _ _ rfl M _ (X.map UInt8.toNat) rfl (OwnB.alloc HO2.out _) wt.heap.size _ rfl (by simp [go_sem]; rfl) (by omega) (by simp; omega) hXl ?_)
          intro v1 w3 hown1 hgr1
          have HOw := Lib.hid hown1
          have HG := Lib.hid hgr1
          clear hown1 hgr1)
        go_wp2_with fail
        have HS3 := Lib.hid ((HS2.out.alloc _).grownO HG.out (fun g e => (HO2.out.own.lt g e).1) hbM HV.out)
        have HM3 := Lib.hid ((HW2.out.alloc hMt _).grown (by simp; omega) HG.out (fun g e => (HO2.out.own.lt g e).1))
        obtain ⟨a1, c1, rfl⟩ := HOw.out.form
        have hlen : (X.map UInt8.toNat ++ [cn]).length = n + 1 := by rw [List.length_append, List.length_map, HX.out]; rfl
        have HO3 : Hid (OwnB w3 M (.slice a1 (n + 1) c1) ((X ++ [c]).map UInt8.toNat)) := by
          show OwnB _ _ _ _
          have h1 := HOw.out
          rw [hlen] at h1
          rw [HXM.out]
          exact h1
        rw [hlen]
        clear hlen HOw HG
        go_roundw
        case rel => exact ⟨m1, f', ln, n + 1, X ++ [c], a1, c1, rfl, HX3, HO3, hB5, hqm1, hm1s, hB3, HFn, HRn, HS3, HM3⟩
        case measure => rw [HS3.out.place, HSr.out.place]; exact HB4.out
    · have hgeI : (s.size : Int) ≤ (m : Int) := by omega
      have HRn : Hid (Res = none) := by
        have h1 := HRr.out
        rw [List.drop_eq_nil_of_le (by rw [← size_list]; exact hge)] at h1
        obtain ⟨f', hf'⟩ : ∃ f', f = f' + 1 := ⟨f - 1, by have := HF.out; omega⟩
        rw [hf'] at h1
        exact h1
      clear HRr
      go_wp2_with fail
      go_quiet (fail)
      go_wp2_with fail
      refine (fail_any _ l 201 _).mono ?_
      rintro e w3 ⟨rfl, rfl⟩
      go_wp2_with fail
      refine ⟨rfl, ?_⟩
      exact TextE.bad (fun o k n e => by rw [HRn.out] at e; cases e) ⟨rfl, hBr.out.drewN _⟩
end Go.Proofs.YtkaelmbgfcehhaaDoor
