/- What CellTexts's code computes: it answers true. -/
import Derived.Test.YtjldeckcfdeklaaGreatDoorP10
namespace Go.Proofs.YtjldeckcfdeklaaGreatDoor
open Go.RowKit
set_option linter.unusedVariables false

theorem order_self {x : Nat} (h1 : x < 18446744073709551616) (h2 : x % 9223372036854775808 ≤ 9218868437227405312) : FloatKind.f64.format.order x x = some .eq := by
  rcases Nat.lt_or_ge (x % 9223372036854775808) 9218868437227405312 with h | h
  · exact order_same h1 h
  · have h3 : x = 9218868437227405312 ∨ x = 18442240474082181120 := by omega
    rcases h3 with rfl | rfl <;> decide
theorem readN_inf (l : List UInt8) (e : Int) : readN l e ≤ 9218868437227405312 := by
  unfold readN
  split
  · omega
  · split
    · exact readB_le _ _
    · split
      · exact readB_le _ _
      · exact readB_le _ _
theorem pref_self (l : List UInt8) : FloatKind.f64.format.order (prefB l) (prefB l) = some .eq := by
  have h : prefV l ≤ 9218868437227405312 := by
    unfold prefV
    split
    · omega
    · exact readN_inf _ _
  unfold prefB
  split
  · exact order_self (by omega) (by omega)
  · exact order_self (by omega) (by omega)
theorem in_cases (s : ByteArray) : inA s = cellA 2 0 s ∨ ∃ x, inA s = cellA 3 x s ∧ FloatKind.f64.format.order x x = some .eq := by
  unfold inA
  split
  · exact .inr ⟨_, rfl, pref_self _⟩
  · exact .inl rfl

theorem less_cmp : ∀ x y : List UInt8, Lib.compareBytes x y = if Op.bytesLess x y then -1 else if x == y then 0 else 1
  | [], [] => rfl
  | [], _ :: _ => rfl
  | _ :: _, [] => rfl
  | a :: l, b :: m => by
    have ih := less_cmp l m
    show (if a < b then (-1 : Int) else if b < a then 1 else Lib.compareBytes l m) = _
    rw [ih]
    simp only [Op.bytesLess]
    by_cases h1 : a < b
    · simp [h1]
    · by_cases h2 : b < a
      · have h3 : a ≠ b := by rintro rfl; exact h1 h2
        simp [h1, h2, h3]
      · have h3 : a = b := by
          apply UInt8.toNat_inj.1
          have h3 : ¬ a.toNat < b.toNat := fun h => h1 (UInt8.lt_iff_toNat_lt.2 h)
          have h4 : ¬ b.toNat < a.toNat := fun h => h2 (UInt8.lt_iff_toNat_lt.2 h)
          omega
        subst h3
        simp [h1]
theorem cmp_cases (a b : ByteArray) : (Op.bytesLess a.toList b.toList = true ∧ Lib.compareBytes a.data.toList b.data.toList = -1) ∨
    (Op.bytesLess a.toList b.toList = false ∧ (a.toList == b.toList) = false ∧ Lib.compareBytes a.data.toList b.data.toList = 1) ∨
    (Op.bytesLess a.toList b.toList = false ∧ (a.toList == b.toList) = true ∧ Lib.compareBytes a.data.toList b.data.toList = 0) := by
  rw [← ByteArray.toList_eq, ← ByteArray.toList_eq, less_cmp]
  cases Op.bytesLess a.toList b.toList
  · cases (a.toList == b.toList)
    · exact .inr (.inl ⟨rfl, rfl, rfl⟩)
    · exact .inr (.inr ⟨rfl, rfl, rfl⟩)
  · exact .inl ⟨rfl, rfl⟩

set_option maxHeartbeats 8000000 in
set_option maxRecDepth 1000000 in
theorem texts6_any (a b c : ByteArray) (w : World) (hE : ErrOk w) (ha : a.size ≤ 140737488351232) (hb : b.size ≤ 140737488351232) (hc : c.size ≤ 140737488351232) :
    Calls Tryz.prog 11 #[.string a, .string b, .string c] w fun e w' => e = .returned (.bool true) ∧ Below w.heap.size w w' := by
  have HF := Lib.hid (fixed6_any w hE)
  have HIa := Lib.hid (fun W => Input_any a W (by omega))
  have HIb := Lib.hid (fun W => Input_any b W (by omega))
  clear hE
  have ha1 : (a.size : Int) ≤ 140737488351232 := by omega
  have hb1 : (b.size : Int) ≤ 140737488351232 := by omega
  have hc1 : (c.size : Int) ≤ 140737488351232 := by omega
  rcases Int.lt_or_le 3000 ((a.size : Int) + (b.size : Int) + (c.size : Int)) with h3 | h3
  · go_enter Tryz.func11, Tryz.ntmps11
    go_wp2_with fail
    refine HF.out.mono ?_
    rintro e w1 ⟨rfl, hb⟩
    have HB := Lib.hid hb
    clear hb
    go_wp2_with fail
    go_ret
    exact ⟨rfl, HB.out⟩
  · have T1 : Hid (∀ W, Calls Tryz.prog 30 #[.string a] W fun e w' => e = .returned (.agg (cellA 2 0 a)) ∧ Below W.heap.size W w') := fun W => CText_any a W
    have T2 : Hid (∀ W, Calls Tryz.prog 30 #[.string b] W fun e w' => e = .returned (.agg (cellA 2 0 b)) ∧ Below W.heap.size W w') := fun W => CText_any b W
    have T3 : Hid (∀ W, Calls Tryz.prog 30 #[.string a] W fun e w' => e = .returned (.agg (cellA 2 0 a)) ∧ Below W.heap.size W w') := fun W => CText_any a W
    have T4 : Hid (∀ W, Calls Tryz.prog 30 #[.string b] W fun e w' => e = .returned (.agg (cellA 2 0 b)) ∧ Below W.heap.size W w') := fun W => CText_any b W
    rcases in_cases a with hA | ⟨xa, hA, ox⟩
    · rcases in_cases b with hB | ⟨xb, hB, oy⟩
      · rcases cmp_cases a b with ⟨hL, hcmp⟩ | ⟨hL, hQ, hcmp⟩ | ⟨hL, hQ, hcmp⟩
        · rw [hA] at HIa
          rw [hB] at HIb
          have C1 : Hid (∀ W, Calls Tryz.prog 27 #[.agg (cellA 2 0 a), .agg (cellA 2 0 b), .string c] W fun e w' => e = .returned (.int .i64 (-1)) ∧ Below W.heap.size W w') := fun W => hcmp ▸ Compare_strs 2 2 0 0 a b c a b W (.inl rfl) (fun W' _ => Str_str 2 _ _ _ W' (.inl rfl)) (fun W' _ => Str_str 2 _ _ _ W' (.inl rfl))
          have C2 : Hid (∀ W, Calls Tryz.prog 27 #[.agg (cellA 2 0 a), .agg (cellA 2 0 b), .string c] W fun e w' => e = .returned (.int .i64 (-1)) ∧ Below W.heap.size W w') := fun W => hcmp ▸ Compare_strs 2 2 0 0 a b c a b W (.inl rfl) (fun W' _ => Str_str 2 _ _ _ W' (.inl rfl)) (fun W' _ => Str_str 2 _ _ _ W' (.inl rfl))
          have C3 : Hid (∀ W, Calls Tryz.prog 27 #[.agg (cellA 2 0 a), .agg (cellA 2 0 b), .string c] W fun e w' => e = .returned (.int .i64 (-1)) ∧ Below W.heap.size W w') := fun W => hcmp ▸ Compare_strs 2 2 0 0 a b c a b W (.inl rfl) (fun W' _ => Str_str 2 _ _ _ W' (.inl rfl)) (fun W' _ => Str_str 2 _ _ _ W' (.inl rfl))
          have C4 : Hid (∀ W, Calls Tryz.prog 27 #[.agg (cellA 2 0 a), .agg (cellA 2 0 b), .string c] W fun e w' => e = .returned (.int .i64 (-1)) ∧ Below W.heap.size W w') := fun W => hcmp ▸ Compare_strs 2 2 0 0 a b c a b W (.inl rfl) (fun W' _ => Str_str 2 _ _ _ W' (.inl rfl)) (fun W' _ => Str_str 2 _ _ _ W' (.inl rfl))
          unfold cellA at HIa HIb T1 T2 T3 T4 C1 C2 C3 C4
          clear hcmp hA hB
          go_enter Tryz.func11, Tryz.ntmps11
          go_wp2_with fail
          refine HF.out.mono ?_
          rintro e v1 ⟨rfl, hb⟩
          have HV1 := Lib.hid hb
          clear hb
          go_wp2_with fail
          refine (HIa.out _).mono ?_
          rintro e v2 ⟨rfl, hb⟩
          have HV2 := Lib.hid (HV1.out.trans (hb.mono HV1.out.size))
          clear hb
          go_wp2_with fail
          refine (HIb.out _).mono ?_
          rintro e v3 ⟨rfl, hb⟩
          have HV3 := Lib.hid (HV2.out.trans (hb.mono HV2.out.size))
          clear hb
          have hz3 := HV3.out.size
          have g0 : ((v3.alloc (.cells #[.int .i64 2, .float .f64 0, .string a] 55)).alloc (.cells #[.int .i64 2, .float .f64 0, .string b] 55)).cell? ⟨v3.heap.size, 0, none⟩ = some (.int .i64 2) := by simp [go_sem]
          have g1 : ((v3.alloc (.cells #[.int .i64 2, .float .f64 0, .string a] 55)).alloc (.cells #[.int .i64 2, .float .f64 0, .string b] 55)).cell? ⟨v3.heap.size, 1, none⟩ = some (.float .f64 0) := by simp [go_sem]
          have g2 : ((v3.alloc (.cells #[.int .i64 2, .float .f64 0, .string a] 55)).alloc (.cells #[.int .i64 2, .float .f64 0, .string b] 55)).cell? ⟨v3.heap.size, 2, none⟩ = some (.string a) := by simp [go_sem]
          have n0 : ((v3.alloc (.cells #[.int .i64 2, .float .f64 0, .string a] 55)).alloc (.cells #[.int .i64 2, .float .f64 0, .string b] 55)).cell? ⟨v3.heap.size + 1, 0, none⟩ = some (.int .i64 2) := by simp [go_sem]
          have n1 : ((v3.alloc (.cells #[.int .i64 2, .float .f64 0, .string a] 55)).alloc (.cells #[.int .i64 2, .float .f64 0, .string b] 55)).cell? ⟨v3.heap.size + 1, 1, none⟩ = some (.float .f64 0) := by simp [go_sem]
          have n2 : ((v3.alloc (.cells #[.int .i64 2, .float .f64 0, .string a] 55)).alloc (.cells #[.int .i64 2, .float .f64 0, .string b] 55)).cell? ⟨v3.heap.size + 1, 2, none⟩ = some (.string b) := by simp [go_sem]
          have HB10 := Lib.hid (show Below w.heap.size w ((v3.alloc (.cells #[.int .i64 2, .float .f64 0, .string a] 55)).alloc (.cells #[.int .i64 2, .float .f64 0, .string b] 55)) from (HV3.out.alloc hz3 _).alloc (by simp; omega) _)
          go_wp2_with fail
          generalize (v3.alloc (.cells #[.int .i64 2, .float .f64 0, .string a] 55)).alloc (.cells #[.int .i64 2, .float .f64 0, .string b] 55) = W at *
          go_region_held3 (fun w' => w'.cell? ⟨v3.heap.size, 0, none⟩ = some (.int .i64 2) ∧ w'.cell? ⟨v3.heap.size, 1, none⟩ = some (.float .f64 0) ∧ w'.cell? ⟨v3.heap.size, 2, none⟩ = some (.string a) ∧ w'.cell? ⟨v3.heap.size + 1, 0, none⟩ = some (.int .i64 2) ∧ w'.cell? ⟨v3.heap.size + 1, 1, none⟩ = some (.float .f64 0) ∧ w'.cell? ⟨v3.heap.size + 1, 2, none⟩ = some (.string b)) (first | exact ⟨g0, g1, g2, n0, n1, n2⟩ | exact ⟨p0, p1, p2, q0, q1, q2⟩)
            (first
              | (go_at_call 30; refine (T1.out _).mono ?_; clear T1; rintro e w11 ⟨rfl, hb11⟩; have p0 := cell_next hb11 g0; have p1 := cell_next hb11 g1; have p2 := cell_next hb11 g2; have q0 := cell_next hb11 n0; have q1 := cell_next hb11 n1; have q2 := cell_next hb11 n2; have HB11 := Lib.hid (below_next (Nat.le_refl _) HB10.out hb11 (by first | exact .inl rfl | exact .inr rfl)))
              | (go_at_call 30; refine (T2.out _).mono ?_; clear T2; rintro e w12 ⟨rfl, hb12⟩; have p0 := cell_next hb12 p0; have p1 := cell_next hb12 p1; have p2 := cell_next hb12 p2; have q0 := cell_next hb12 q0; have q1 := cell_next hb12 q1; have q2 := cell_next hb12 q2; have HB12 := Lib.hid (below_next (Nat.le_refl _) HB11.out hb12 (by first | exact .inl rfl | exact .inr rfl)))
              | (go_at_call 27; refine (C1.out _).mono ?_; clear C1; rintro e w13 ⟨rfl, hb13⟩; have p0 := cell_next hb13 p0; have p1 := cell_next hb13 p1; have p2 := cell_next hb13 p2; have q0 := cell_next hb13 q0; have q1 := cell_next hb13 q1; have q2 := cell_next hb13 q2; have HB13 := Lib.hid (below_next (Nat.le_refl _) HB12.out hb13 (by first | exact .inl rfl | exact .inr rfl)))
              | (go_at_call 30; refine (T3.out _).mono ?_; clear T3; rintro e w14 ⟨rfl, hb14⟩; have p0 := cell_next hb14 p0; have p1 := cell_next hb14 p1; have p2 := cell_next hb14 p2; have q0 := cell_next hb14 q0; have q1 := cell_next hb14 q1; have q2 := cell_next hb14 q2; have HB14 := Lib.hid (below_next (Nat.le_refl _) HB13.out hb14 (by first | exact .inl rfl | exact .inr rfl)))
              | (go_at_call 27; refine (C2.out _).mono ?_; clear C2; rintro e w15 ⟨rfl, hb15⟩; have p0 := cell_next hb15 p0; have p1 := cell_next hb15 p1; have p2 := cell_next hb15 p2; have q0 := cell_next hb15 q0; have q1 := cell_next hb15 q1; have q2 := cell_next hb15 q2; have HB15 := Lib.hid (below_next (Nat.le_refl _) HB14.out hb15 (by first | exact .inl rfl | exact .inr rfl)))
              | (go_at_call 30; refine (T4.out _).mono ?_; clear T4; rintro e w16 ⟨rfl, hb16⟩; have p0 := cell_next hb16 p0; have p1 := cell_next hb16 p1; have p2 := cell_next hb16 p2; have q0 := cell_next hb16 q0; have q1 := cell_next hb16 q1; have q2 := cell_next hb16 q2; have HB16 := Lib.hid (below_next (Nat.le_refl _) HB15.out hb16 (by first | exact .inl rfl | exact .inr rfl)))
              | (go_at_call 27; refine (C3.out _).mono ?_; clear C3; rintro e w17 ⟨rfl, hb17⟩; have p0 := cell_next hb17 p0; have p1 := cell_next hb17 p1; have p2 := cell_next hb17 p2; have q0 := cell_next hb17 q0; have q1 := cell_next hb17 q1; have q2 := cell_next hb17 q2; have HB17 := Lib.hid (below_next (Nat.le_refl _) HB16.out hb17 (by first | exact .inl rfl | exact .inr rfl))))
          go_wp2_with fail
          refine (C4.out _).mono ?_
          rintro e w18 ⟨rfl, hb18⟩
          have p0 := cell_next hb18 p0
          have q0 := cell_next hb18 q0
          have p1 := cell_next hb18 p1
          have q1 := cell_next hb18 q1
          have p2 := cell_next hb18 p2
          have q2 := cell_next hb18 q2
          have HB18 := Lib.hid (below_next (Nat.le_refl _) HB17.out hb18 (by first | exact .inl rfl | exact .inr rfl))
          go_wp2_with fail
          go_ret
          exact ⟨rfl, HB18.out⟩
        · rw [hA] at HIa
          rw [hB] at HIb
          have C1 : Hid (∀ W, Calls Tryz.prog 27 #[.agg (cellA 2 0 a), .agg (cellA 2 0 b), .string c] W fun e w' => e = .returned (.int .i64 (1)) ∧ Below W.heap.size W w') := fun W => hcmp ▸ Compare_strs 2 2 0 0 a b c a b W (.inl rfl) (fun W' _ => Str_str 2 _ _ _ W' (.inl rfl)) (fun W' _ => Str_str 2 _ _ _ W' (.inl rfl))
          have C2 : Hid (∀ W, Calls Tryz.prog 27 #[.agg (cellA 2 0 a), .agg (cellA 2 0 b), .string c] W fun e w' => e = .returned (.int .i64 (1)) ∧ Below W.heap.size W w') := fun W => hcmp ▸ Compare_strs 2 2 0 0 a b c a b W (.inl rfl) (fun W' _ => Str_str 2 _ _ _ W' (.inl rfl)) (fun W' _ => Str_str 2 _ _ _ W' (.inl rfl))
          have C3 : Hid (∀ W, Calls Tryz.prog 27 #[.agg (cellA 2 0 a), .agg (cellA 2 0 b), .string c] W fun e w' => e = .returned (.int .i64 (1)) ∧ Below W.heap.size W w') := fun W => hcmp ▸ Compare_strs 2 2 0 0 a b c a b W (.inl rfl) (fun W' _ => Str_str 2 _ _ _ W' (.inl rfl)) (fun W' _ => Str_str 2 _ _ _ W' (.inl rfl))
          have C4 : Hid (∀ W, Calls Tryz.prog 27 #[.agg (cellA 2 0 a), .agg (cellA 2 0 b), .string c] W fun e w' => e = .returned (.int .i64 (1)) ∧ Below W.heap.size W w') := fun W => hcmp ▸ Compare_strs 2 2 0 0 a b c a b W (.inl rfl) (fun W' _ => Str_str 2 _ _ _ W' (.inl rfl)) (fun W' _ => Str_str 2 _ _ _ W' (.inl rfl))
          unfold cellA at HIa HIb T1 T2 T3 T4 C1 C2 C3 C4
          clear hcmp hA hB
          go_enter Tryz.func11, Tryz.ntmps11
          go_wp2_with fail
          refine HF.out.mono ?_
          rintro e v1 ⟨rfl, hb⟩
          have HV1 := Lib.hid hb
          clear hb
          go_wp2_with fail
          refine (HIa.out _).mono ?_
          rintro e v2 ⟨rfl, hb⟩
          have HV2 := Lib.hid (HV1.out.trans (hb.mono HV1.out.size))
          clear hb
          go_wp2_with fail
          refine (HIb.out _).mono ?_
          rintro e v3 ⟨rfl, hb⟩
          have HV3 := Lib.hid (HV2.out.trans (hb.mono HV2.out.size))
          clear hb
          have hz3 := HV3.out.size
          have g0 : ((v3.alloc (.cells #[.int .i64 2, .float .f64 0, .string a] 55)).alloc (.cells #[.int .i64 2, .float .f64 0, .string b] 55)).cell? ⟨v3.heap.size, 0, none⟩ = some (.int .i64 2) := by simp [go_sem]
          have g1 : ((v3.alloc (.cells #[.int .i64 2, .float .f64 0, .string a] 55)).alloc (.cells #[.int .i64 2, .float .f64 0, .string b] 55)).cell? ⟨v3.heap.size, 1, none⟩ = some (.float .f64 0) := by simp [go_sem]
          have g2 : ((v3.alloc (.cells #[.int .i64 2, .float .f64 0, .string a] 55)).alloc (.cells #[.int .i64 2, .float .f64 0, .string b] 55)).cell? ⟨v3.heap.size, 2, none⟩ = some (.string a) := by simp [go_sem]
          have n0 : ((v3.alloc (.cells #[.int .i64 2, .float .f64 0, .string a] 55)).alloc (.cells #[.int .i64 2, .float .f64 0, .string b] 55)).cell? ⟨v3.heap.size + 1, 0, none⟩ = some (.int .i64 2) := by simp [go_sem]
          have n1 : ((v3.alloc (.cells #[.int .i64 2, .float .f64 0, .string a] 55)).alloc (.cells #[.int .i64 2, .float .f64 0, .string b] 55)).cell? ⟨v3.heap.size + 1, 1, none⟩ = some (.float .f64 0) := by simp [go_sem]
          have n2 : ((v3.alloc (.cells #[.int .i64 2, .float .f64 0, .string a] 55)).alloc (.cells #[.int .i64 2, .float .f64 0, .string b] 55)).cell? ⟨v3.heap.size + 1, 2, none⟩ = some (.string b) := by simp [go_sem]
          have HB10 := Lib.hid (show Below w.heap.size w ((v3.alloc (.cells #[.int .i64 2, .float .f64 0, .string a] 55)).alloc (.cells #[.int .i64 2, .float .f64 0, .string b] 55)) from (HV3.out.alloc hz3 _).alloc (by simp; omega) _)
          go_wp2_with fail
          generalize (v3.alloc (.cells #[.int .i64 2, .float .f64 0, .string a] 55)).alloc (.cells #[.int .i64 2, .float .f64 0, .string b] 55) = W at *
          go_region_held3 (fun w' => w'.cell? ⟨v3.heap.size, 0, none⟩ = some (.int .i64 2) ∧ w'.cell? ⟨v3.heap.size, 1, none⟩ = some (.float .f64 0) ∧ w'.cell? ⟨v3.heap.size, 2, none⟩ = some (.string a) ∧ w'.cell? ⟨v3.heap.size + 1, 0, none⟩ = some (.int .i64 2) ∧ w'.cell? ⟨v3.heap.size + 1, 1, none⟩ = some (.float .f64 0) ∧ w'.cell? ⟨v3.heap.size + 1, 2, none⟩ = some (.string b)) (first | exact ⟨g0, g1, g2, n0, n1, n2⟩ | exact ⟨p0, p1, p2, q0, q1, q2⟩)
            (first
              | (go_at_call 30; refine (T1.out _).mono ?_; clear T1; rintro e w11 ⟨rfl, hb11⟩; have p0 := cell_next hb11 g0; have p1 := cell_next hb11 g1; have p2 := cell_next hb11 g2; have q0 := cell_next hb11 n0; have q1 := cell_next hb11 n1; have q2 := cell_next hb11 n2; have HB11 := Lib.hid (below_next (Nat.le_refl _) HB10.out hb11 (by first | exact .inl rfl | exact .inr rfl)))
              | (go_at_call 30; refine (T2.out _).mono ?_; clear T2; rintro e w12 ⟨rfl, hb12⟩; have p0 := cell_next hb12 p0; have p1 := cell_next hb12 p1; have p2 := cell_next hb12 p2; have q0 := cell_next hb12 q0; have q1 := cell_next hb12 q1; have q2 := cell_next hb12 q2; have HB12 := Lib.hid (below_next (Nat.le_refl _) HB11.out hb12 (by first | exact .inl rfl | exact .inr rfl)))
              | (go_at_call 27; refine (C1.out _).mono ?_; clear C1; rintro e w13 ⟨rfl, hb13⟩; have p0 := cell_next hb13 p0; have p1 := cell_next hb13 p1; have p2 := cell_next hb13 p2; have q0 := cell_next hb13 q0; have q1 := cell_next hb13 q1; have q2 := cell_next hb13 q2; have HB13 := Lib.hid (below_next (Nat.le_refl _) HB12.out hb13 (by first | exact .inl rfl | exact .inr rfl)))
              | (go_at_call 30; refine (T3.out _).mono ?_; clear T3; rintro e w14 ⟨rfl, hb14⟩; have p0 := cell_next hb14 p0; have p1 := cell_next hb14 p1; have p2 := cell_next hb14 p2; have q0 := cell_next hb14 q0; have q1 := cell_next hb14 q1; have q2 := cell_next hb14 q2; have HB14 := Lib.hid (below_next (Nat.le_refl _) HB13.out hb14 (by first | exact .inl rfl | exact .inr rfl)))
              | (go_at_call 27; refine (C2.out _).mono ?_; clear C2; rintro e w15 ⟨rfl, hb15⟩; have p0 := cell_next hb15 p0; have p1 := cell_next hb15 p1; have p2 := cell_next hb15 p2; have q0 := cell_next hb15 q0; have q1 := cell_next hb15 q1; have q2 := cell_next hb15 q2; have HB15 := Lib.hid (below_next (Nat.le_refl _) HB14.out hb15 (by first | exact .inl rfl | exact .inr rfl)))
              | (go_at_call 30; refine (T4.out _).mono ?_; clear T4; rintro e w16 ⟨rfl, hb16⟩; have p0 := cell_next hb16 p0; have p1 := cell_next hb16 p1; have p2 := cell_next hb16 p2; have q0 := cell_next hb16 q0; have q1 := cell_next hb16 q1; have q2 := cell_next hb16 q2; have HB16 := Lib.hid (below_next (Nat.le_refl _) HB15.out hb16 (by first | exact .inl rfl | exact .inr rfl)))
              | (go_at_call 27; refine (C3.out _).mono ?_; clear C3; rintro e w17 ⟨rfl, hb17⟩; have p0 := cell_next hb17 p0; have p1 := cell_next hb17 p1; have p2 := cell_next hb17 p2; have q0 := cell_next hb17 q0; have q1 := cell_next hb17 q1; have q2 := cell_next hb17 q2; have HB17 := Lib.hid (below_next (Nat.le_refl _) HB16.out hb17 (by first | exact .inl rfl | exact .inr rfl))))
          go_wp2_with fail
          refine (C4.out _).mono ?_
          rintro e w18 ⟨rfl, hb18⟩
          have p0 := cell_next hb18 p0
          have q0 := cell_next hb18 q0
          have p1 := cell_next hb18 p1
          have q1 := cell_next hb18 q1
          have p2 := cell_next hb18 p2
          have q2 := cell_next hb18 q2
          have HB18 := Lib.hid (below_next (Nat.le_refl _) HB17.out hb18 (by first | exact .inl rfl | exact .inr rfl))
          go_wp2_with fail
          go_ret
          exact ⟨rfl, HB18.out⟩
        · rw [hA] at HIa
          rw [hB] at HIb
          have C1 : Hid (∀ W, Calls Tryz.prog 27 #[.agg (cellA 2 0 a), .agg (cellA 2 0 b), .string c] W fun e w' => e = .returned (.int .i64 (0)) ∧ Below W.heap.size W w') := fun W => hcmp ▸ Compare_strs 2 2 0 0 a b c a b W (.inl rfl) (fun W' _ => Str_str 2 _ _ _ W' (.inl rfl)) (fun W' _ => Str_str 2 _ _ _ W' (.inl rfl))
          have C2 : Hid (∀ W, Calls Tryz.prog 27 #[.agg (cellA 2 0 a), .agg (cellA 2 0 b), .string c] W fun e w' => e = .returned (.int .i64 (0)) ∧ Below W.heap.size W w') := fun W => hcmp ▸ Compare_strs 2 2 0 0 a b c a b W (.inl rfl) (fun W' _ => Str_str 2 _ _ _ W' (.inl rfl)) (fun W' _ => Str_str 2 _ _ _ W' (.inl rfl))
          have C3 : Hid (∀ W, Calls Tryz.prog 27 #[.agg (cellA 2 0 a), .agg (cellA 2 0 b), .string c] W fun e w' => e = .returned (.int .i64 (0)) ∧ Below W.heap.size W w') := fun W => hcmp ▸ Compare_strs 2 2 0 0 a b c a b W (.inl rfl) (fun W' _ => Str_str 2 _ _ _ W' (.inl rfl)) (fun W' _ => Str_str 2 _ _ _ W' (.inl rfl))
          have C4 : Hid (∀ W, Calls Tryz.prog 27 #[.agg (cellA 2 0 a), .agg (cellA 2 0 b), .string c] W fun e w' => e = .returned (.int .i64 (0)) ∧ Below W.heap.size W w') := fun W => hcmp ▸ Compare_strs 2 2 0 0 a b c a b W (.inl rfl) (fun W' _ => Str_str 2 _ _ _ W' (.inl rfl)) (fun W' _ => Str_str 2 _ _ _ W' (.inl rfl))
          unfold cellA at HIa HIb T1 T2 T3 T4 C1 C2 C3 C4
          clear hcmp hA hB
          go_enter Tryz.func11, Tryz.ntmps11
          go_wp2_with fail
          refine HF.out.mono ?_
          rintro e v1 ⟨rfl, hb⟩
          have HV1 := Lib.hid hb
          clear hb
          go_wp2_with fail
          refine (HIa.out _).mono ?_
          rintro e v2 ⟨rfl, hb⟩
          have HV2 := Lib.hid (HV1.out.trans (hb.mono HV1.out.size))
          clear hb
          go_wp2_with fail
          refine (HIb.out _).mono ?_
          rintro e v3 ⟨rfl, hb⟩
          have HV3 := Lib.hid (HV2.out.trans (hb.mono HV2.out.size))
          clear hb
          have hz3 := HV3.out.size
          have g0 : ((v3.alloc (.cells #[.int .i64 2, .float .f64 0, .string a] 55)).alloc (.cells #[.int .i64 2, .float .f64 0, .string b] 55)).cell? ⟨v3.heap.size, 0, none⟩ = some (.int .i64 2) := by simp [go_sem]
          have g1 : ((v3.alloc (.cells #[.int .i64 2, .float .f64 0, .string a] 55)).alloc (.cells #[.int .i64 2, .float .f64 0, .string b] 55)).cell? ⟨v3.heap.size, 1, none⟩ = some (.float .f64 0) := by simp [go_sem]
          have g2 : ((v3.alloc (.cells #[.int .i64 2, .float .f64 0, .string a] 55)).alloc (.cells #[.int .i64 2, .float .f64 0, .string b] 55)).cell? ⟨v3.heap.size, 2, none⟩ = some (.string a) := by simp [go_sem]
          have n0 : ((v3.alloc (.cells #[.int .i64 2, .float .f64 0, .string a] 55)).alloc (.cells #[.int .i64 2, .float .f64 0, .string b] 55)).cell? ⟨v3.heap.size + 1, 0, none⟩ = some (.int .i64 2) := by simp [go_sem]
          have n1 : ((v3.alloc (.cells #[.int .i64 2, .float .f64 0, .string a] 55)).alloc (.cells #[.int .i64 2, .float .f64 0, .string b] 55)).cell? ⟨v3.heap.size + 1, 1, none⟩ = some (.float .f64 0) := by simp [go_sem]
          have n2 : ((v3.alloc (.cells #[.int .i64 2, .float .f64 0, .string a] 55)).alloc (.cells #[.int .i64 2, .float .f64 0, .string b] 55)).cell? ⟨v3.heap.size + 1, 2, none⟩ = some (.string b) := by simp [go_sem]
          have HB10 := Lib.hid (show Below w.heap.size w ((v3.alloc (.cells #[.int .i64 2, .float .f64 0, .string a] 55)).alloc (.cells #[.int .i64 2, .float .f64 0, .string b] 55)) from (HV3.out.alloc hz3 _).alloc (by simp; omega) _)
          go_wp2_with fail
          generalize (v3.alloc (.cells #[.int .i64 2, .float .f64 0, .string a] 55)).alloc (.cells #[.int .i64 2, .float .f64 0, .string b] 55) = W at *
          go_region_held3 (fun w' => w'.cell? ⟨v3.heap.size, 0, none⟩ = some (.int .i64 2) ∧ w'.cell? ⟨v3.heap.size, 1, none⟩ = some (.float .f64 0) ∧ w'.cell? ⟨v3.heap.size, 2, none⟩ = some (.string a) ∧ w'.cell? ⟨v3.heap.size + 1, 0, none⟩ = some (.int .i64 2) ∧ w'.cell? ⟨v3.heap.size + 1, 1, none⟩ = some (.float .f64 0) ∧ w'.cell? ⟨v3.heap.size + 1, 2, none⟩ = some (.string b)) (first | exact ⟨g0, g1, g2, n0, n1, n2⟩ | exact ⟨p0, p1, p2, q0, q1, q2⟩)
            (first
              | (go_at_call 30; refine (T1.out _).mono ?_; clear T1; rintro e w11 ⟨rfl, hb11⟩; have p0 := cell_next hb11 g0; have p1 := cell_next hb11 g1; have p2 := cell_next hb11 g2; have q0 := cell_next hb11 n0; have q1 := cell_next hb11 n1; have q2 := cell_next hb11 n2; have HB11 := Lib.hid (below_next (Nat.le_refl _) HB10.out hb11 (by first | exact .inl rfl | exact .inr rfl)))
              | (go_at_call 30; refine (T2.out _).mono ?_; clear T2; rintro e w12 ⟨rfl, hb12⟩; have p0 := cell_next hb12 p0; have p1 := cell_next hb12 p1; have p2 := cell_next hb12 p2; have q0 := cell_next hb12 q0; have q1 := cell_next hb12 q1; have q2 := cell_next hb12 q2; have HB12 := Lib.hid (below_next (Nat.le_refl _) HB11.out hb12 (by first | exact .inl rfl | exact .inr rfl)))
              | (go_at_call 27; refine (C1.out _).mono ?_; clear C1; rintro e w13 ⟨rfl, hb13⟩; have p0 := cell_next hb13 p0; have p1 := cell_next hb13 p1; have p2 := cell_next hb13 p2; have q0 := cell_next hb13 q0; have q1 := cell_next hb13 q1; have q2 := cell_next hb13 q2; have HB13 := Lib.hid (below_next (Nat.le_refl _) HB12.out hb13 (by first | exact .inl rfl | exact .inr rfl)))
              | (go_at_call 30; refine (T3.out _).mono ?_; clear T3; rintro e w14 ⟨rfl, hb14⟩; have p0 := cell_next hb14 p0; have p1 := cell_next hb14 p1; have p2 := cell_next hb14 p2; have q0 := cell_next hb14 q0; have q1 := cell_next hb14 q1; have q2 := cell_next hb14 q2; have HB14 := Lib.hid (below_next (Nat.le_refl _) HB13.out hb14 (by first | exact .inl rfl | exact .inr rfl)))
              | (go_at_call 27; refine (C2.out _).mono ?_; clear C2; rintro e w15 ⟨rfl, hb15⟩; have p0 := cell_next hb15 p0; have p1 := cell_next hb15 p1; have p2 := cell_next hb15 p2; have q0 := cell_next hb15 q0; have q1 := cell_next hb15 q1; have q2 := cell_next hb15 q2; have HB15 := Lib.hid (below_next (Nat.le_refl _) HB14.out hb15 (by first | exact .inl rfl | exact .inr rfl)))
              | (go_at_call 30; refine (T4.out _).mono ?_; clear T4; rintro e w16 ⟨rfl, hb16⟩; have p0 := cell_next hb16 p0; have p1 := cell_next hb16 p1; have p2 := cell_next hb16 p2; have q0 := cell_next hb16 q0; have q1 := cell_next hb16 q1; have q2 := cell_next hb16 q2; have HB16 := Lib.hid (below_next (Nat.le_refl _) HB15.out hb16 (by first | exact .inl rfl | exact .inr rfl)))
              | (go_at_call 27; refine (C3.out _).mono ?_; clear C3; rintro e w17 ⟨rfl, hb17⟩; have p0 := cell_next hb17 p0; have p1 := cell_next hb17 p1; have p2 := cell_next hb17 p2; have q0 := cell_next hb17 q0; have q1 := cell_next hb17 q1; have q2 := cell_next hb17 q2; have HB17 := Lib.hid (below_next (Nat.le_refl _) HB16.out hb17 (by first | exact .inl rfl | exact .inr rfl))))
          go_wp2_with fail
          refine (C4.out _).mono ?_
          rintro e w18 ⟨rfl, hb18⟩
          have p0 := cell_next hb18 p0
          have q0 := cell_next hb18 q0
          have p1 := cell_next hb18 p1
          have q1 := cell_next hb18 q1
          have p2 := cell_next hb18 p2
          have q2 := cell_next hb18 q2
          have HB18 := Lib.hid (below_next (Nat.le_refl _) HB17.out hb18 (by first | exact .inl rfl | exact .inr rfl))
          go_wp2_with fail
          go_ret
          exact ⟨rfl, HB18.out⟩
      · rcases cmp_cases a b with ⟨hL, hcmp⟩ | ⟨hL, hQ, hcmp⟩ | ⟨hL, hQ, hcmp⟩
        · rw [hA] at HIa
          rw [hB] at HIb
          have C1 : Hid (∀ W, Calls Tryz.prog 27 #[.agg (cellA 2 0 a), .agg (cellA 2 0 b), .string c] W fun e w' => e = .returned (.int .i64 (-1)) ∧ Below W.heap.size W w') := fun W => hcmp ▸ Compare_strs 2 2 0 0 a b c a b W (.inl rfl) (fun W' _ => Str_str 2 _ _ _ W' (.inl rfl)) (fun W' _ => Str_str 2 _ _ _ W' (.inl rfl))
          have C2 : Hid (∀ W, Calls Tryz.prog 27 #[.agg (cellA 2 0 a), .agg (cellA 3 xb b), .string c] W fun e w' => e = .returned (.int .i64 (-1)) ∧ Below W.heap.size W w') := fun W => hcmp ▸ Compare_strs 2 3 0 xb a b c a b W (.inl rfl) (fun W' _ => Str_str 2 _ _ _ W' (.inl rfl)) (fun W' _ => Str_str 3 _ _ _ W' (.inr rfl))
          have C3 : Hid (∀ W, Calls Tryz.prog 27 #[.agg (cellA 2 0 a), .agg (cellA 2 0 b), .string c] W fun e w' => e = .returned (.int .i64 (-1)) ∧ Below W.heap.size W w') := fun W => hcmp ▸ Compare_strs 2 2 0 0 a b c a b W (.inl rfl) (fun W' _ => Str_str 2 _ _ _ W' (.inl rfl)) (fun W' _ => Str_str 2 _ _ _ W' (.inl rfl))
          have C4 : Hid (∀ W, Calls Tryz.prog 27 #[.agg (cellA 2 0 a), .agg (cellA 3 xb b), .string c] W fun e w' => e = .returned (.int .i64 (-1)) ∧ Below W.heap.size W w') := fun W => hcmp ▸ Compare_strs 2 3 0 xb a b c a b W (.inl rfl) (fun W' _ => Str_str 2 _ _ _ W' (.inl rfl)) (fun W' _ => Str_str 3 _ _ _ W' (.inr rfl))
          unfold cellA at HIa HIb T1 T2 T3 T4 C1 C2 C3 C4
          clear hcmp hA hB oy
          go_enter Tryz.func11, Tryz.ntmps11
          go_wp2_with fail
          refine HF.out.mono ?_
          rintro e v1 ⟨rfl, hb⟩
          have HV1 := Lib.hid hb
          clear hb
          go_wp2_with fail
          refine (HIa.out _).mono ?_
          rintro e v2 ⟨rfl, hb⟩
          have HV2 := Lib.hid (HV1.out.trans (hb.mono HV1.out.size))
          clear hb
          go_wp2_with fail
          refine (HIb.out _).mono ?_
          rintro e v3 ⟨rfl, hb⟩
          have HV3 := Lib.hid (HV2.out.trans (hb.mono HV2.out.size))
          clear hb
          have hz3 := HV3.out.size
          have g0 : ((v3.alloc (.cells #[.int .i64 2, .float .f64 0, .string a] 55)).alloc (.cells #[.int .i64 3, .float .f64 xb, .string b] 55)).cell? ⟨v3.heap.size, 0, none⟩ = some (.int .i64 2) := by simp [go_sem]
          have g1 : ((v3.alloc (.cells #[.int .i64 2, .float .f64 0, .string a] 55)).alloc (.cells #[.int .i64 3, .float .f64 xb, .string b] 55)).cell? ⟨v3.heap.size, 1, none⟩ = some (.float .f64 0) := by simp [go_sem]
          have g2 : ((v3.alloc (.cells #[.int .i64 2, .float .f64 0, .string a] 55)).alloc (.cells #[.int .i64 3, .float .f64 xb, .string b] 55)).cell? ⟨v3.heap.size, 2, none⟩ = some (.string a) := by simp [go_sem]
          have n0 : ((v3.alloc (.cells #[.int .i64 2, .float .f64 0, .string a] 55)).alloc (.cells #[.int .i64 3, .float .f64 xb, .string b] 55)).cell? ⟨v3.heap.size + 1, 0, none⟩ = some (.int .i64 3) := by simp [go_sem]
          have n1 : ((v3.alloc (.cells #[.int .i64 2, .float .f64 0, .string a] 55)).alloc (.cells #[.int .i64 3, .float .f64 xb, .string b] 55)).cell? ⟨v3.heap.size + 1, 1, none⟩ = some (.float .f64 xb) := by simp [go_sem]
          have n2 : ((v3.alloc (.cells #[.int .i64 2, .float .f64 0, .string a] 55)).alloc (.cells #[.int .i64 3, .float .f64 xb, .string b] 55)).cell? ⟨v3.heap.size + 1, 2, none⟩ = some (.string b) := by simp [go_sem]
          have HB10 := Lib.hid (show Below w.heap.size w ((v3.alloc (.cells #[.int .i64 2, .float .f64 0, .string a] 55)).alloc (.cells #[.int .i64 3, .float .f64 xb, .string b] 55)) from (HV3.out.alloc hz3 _).alloc (by simp; omega) _)
          go_wp2_with fail
          generalize (v3.alloc (.cells #[.int .i64 2, .float .f64 0, .string a] 55)).alloc (.cells #[.int .i64 3, .float .f64 xb, .string b] 55) = W at *
          go_region_held3 (fun w' => w'.cell? ⟨v3.heap.size, 0, none⟩ = some (.int .i64 2) ∧ w'.cell? ⟨v3.heap.size, 1, none⟩ = some (.float .f64 0) ∧ w'.cell? ⟨v3.heap.size, 2, none⟩ = some (.string a) ∧ w'.cell? ⟨v3.heap.size + 1, 0, none⟩ = some (.int .i64 3) ∧ w'.cell? ⟨v3.heap.size + 1, 1, none⟩ = some (.float .f64 xb) ∧ w'.cell? ⟨v3.heap.size + 1, 2, none⟩ = some (.string b)) (first | exact ⟨g0, g1, g2, n0, n1, n2⟩ | exact ⟨p0, p1, p2, q0, q1, q2⟩)
            (first
              | (go_at_call 30; refine (T1.out _).mono ?_; clear T1; rintro e w11 ⟨rfl, hb11⟩; have p0 := cell_next hb11 g0; have p1 := cell_next hb11 g1; have p2 := cell_next hb11 g2; have q0 := cell_next hb11 n0; have q1 := cell_next hb11 n1; have q2 := cell_next hb11 n2; have HB11 := Lib.hid (below_next (Nat.le_refl _) HB10.out hb11 (by first | exact .inl rfl | exact .inr rfl)))
              | (go_at_call 30; refine (T2.out _).mono ?_; clear T2; rintro e w12 ⟨rfl, hb12⟩; have p0 := cell_next hb12 p0; have p1 := cell_next hb12 p1; have p2 := cell_next hb12 p2; have q0 := cell_next hb12 q0; have q1 := cell_next hb12 q1; have q2 := cell_next hb12 q2; have HB12 := Lib.hid (below_next (Nat.le_refl _) HB11.out hb12 (by first | exact .inl rfl | exact .inr rfl)))
              | (go_at_call 27; refine (C1.out _).mono ?_; clear C1; rintro e w13 ⟨rfl, hb13⟩; have p0 := cell_next hb13 p0; have p1 := cell_next hb13 p1; have p2 := cell_next hb13 p2; have q0 := cell_next hb13 q0; have q1 := cell_next hb13 q1; have q2 := cell_next hb13 q2; have HB13 := Lib.hid (below_next (Nat.le_refl _) HB12.out hb13 (by first | exact .inl rfl | exact .inr rfl)))
              | (go_at_call 30; refine (T3.out _).mono ?_; clear T3; rintro e w14 ⟨rfl, hb14⟩; have p0 := cell_next hb14 p0; have p1 := cell_next hb14 p1; have p2 := cell_next hb14 p2; have q0 := cell_next hb14 q0; have q1 := cell_next hb14 q1; have q2 := cell_next hb14 q2; have HB14 := Lib.hid (below_next (Nat.le_refl _) HB13.out hb14 (by first | exact .inl rfl | exact .inr rfl)))
              | (go_at_call 27; refine (C2.out _).mono ?_; clear C2; rintro e w15 ⟨rfl, hb15⟩; have p0 := cell_next hb15 p0; have p1 := cell_next hb15 p1; have p2 := cell_next hb15 p2; have q0 := cell_next hb15 q0; have q1 := cell_next hb15 q1; have q2 := cell_next hb15 q2; have HB15 := Lib.hid (below_next (Nat.le_refl _) HB14.out hb15 (by first | exact .inl rfl | exact .inr rfl)))
              | (go_at_call 30; refine (T4.out _).mono ?_; clear T4; rintro e w16 ⟨rfl, hb16⟩; have p0 := cell_next hb16 p0; have p1 := cell_next hb16 p1; have p2 := cell_next hb16 p2; have q0 := cell_next hb16 q0; have q1 := cell_next hb16 q1; have q2 := cell_next hb16 q2; have HB16 := Lib.hid (below_next (Nat.le_refl _) HB15.out hb16 (by first | exact .inl rfl | exact .inr rfl)))
              | (go_at_call 27; refine (C3.out _).mono ?_; clear C3; rintro e w17 ⟨rfl, hb17⟩; have p0 := cell_next hb17 p0; have p1 := cell_next hb17 p1; have p2 := cell_next hb17 p2; have q0 := cell_next hb17 q0; have q1 := cell_next hb17 q1; have q2 := cell_next hb17 q2; have HB17 := Lib.hid (below_next (Nat.le_refl _) HB16.out hb17 (by first | exact .inl rfl | exact .inr rfl))))
          go_wp2_with fail
          refine (C4.out _).mono ?_
          rintro e w18 ⟨rfl, hb18⟩
          have p0 := cell_next hb18 p0
          have q0 := cell_next hb18 q0
          have p1 := cell_next hb18 p1
          have q1 := cell_next hb18 q1
          have p2 := cell_next hb18 p2
          have q2 := cell_next hb18 q2
          have HB18 := Lib.hid (below_next (Nat.le_refl _) HB17.out hb18 (by first | exact .inl rfl | exact .inr rfl))
          go_wp2_with fail
          go_ret
          exact ⟨rfl, HB18.out⟩
        · rw [hA] at HIa
          rw [hB] at HIb
          have C1 : Hid (∀ W, Calls Tryz.prog 27 #[.agg (cellA 2 0 a), .agg (cellA 2 0 b), .string c] W fun e w' => e = .returned (.int .i64 (1)) ∧ Below W.heap.size W w') := fun W => hcmp ▸ Compare_strs 2 2 0 0 a b c a b W (.inl rfl) (fun W' _ => Str_str 2 _ _ _ W' (.inl rfl)) (fun W' _ => Str_str 2 _ _ _ W' (.inl rfl))
          have C2 : Hid (∀ W, Calls Tryz.prog 27 #[.agg (cellA 2 0 a), .agg (cellA 3 xb b), .string c] W fun e w' => e = .returned (.int .i64 (1)) ∧ Below W.heap.size W w') := fun W => hcmp ▸ Compare_strs 2 3 0 xb a b c a b W (.inl rfl) (fun W' _ => Str_str 2 _ _ _ W' (.inl rfl)) (fun W' _ => Str_str 3 _ _ _ W' (.inr rfl))
          have C3 : Hid (∀ W, Calls Tryz.prog 27 #[.agg (cellA 2 0 a), .agg (cellA 2 0 b), .string c] W fun e w' => e = .returned (.int .i64 (1)) ∧ Below W.heap.size W w') := fun W => hcmp ▸ Compare_strs 2 2 0 0 a b c a b W (.inl rfl) (fun W' _ => Str_str 2 _ _ _ W' (.inl rfl)) (fun W' _ => Str_str 2 _ _ _ W' (.inl rfl))
          have C4 : Hid (∀ W, Calls Tryz.prog 27 #[.agg (cellA 2 0 a), .agg (cellA 3 xb b), .string c] W fun e w' => e = .returned (.int .i64 (1)) ∧ Below W.heap.size W w') := fun W => hcmp ▸ Compare_strs 2 3 0 xb a b c a b W (.inl rfl) (fun W' _ => Str_str 2 _ _ _ W' (.inl rfl)) (fun W' _ => Str_str 3 _ _ _ W' (.inr rfl))
          unfold cellA at HIa HIb T1 T2 T3 T4 C1 C2 C3 C4
          clear hcmp hA hB oy
          go_enter Tryz.func11, Tryz.ntmps11
          go_wp2_with fail
          refine HF.out.mono ?_
          rintro e v1 ⟨rfl, hb⟩
          have HV1 := Lib.hid hb
          clear hb
          go_wp2_with fail
          refine (HIa.out _).mono ?_
          rintro e v2 ⟨rfl, hb⟩
          have HV2 := Lib.hid (HV1.out.trans (hb.mono HV1.out.size))
          clear hb
          go_wp2_with fail
          refine (HIb.out _).mono ?_
          rintro e v3 ⟨rfl, hb⟩
          have HV3 := Lib.hid (HV2.out.trans (hb.mono HV2.out.size))
          clear hb
          have hz3 := HV3.out.size
          have g0 : ((v3.alloc (.cells #[.int .i64 2, .float .f64 0, .string a] 55)).alloc (.cells #[.int .i64 3, .float .f64 xb, .string b] 55)).cell? ⟨v3.heap.size, 0, none⟩ = some (.int .i64 2) := by simp [go_sem]
          have g1 : ((v3.alloc (.cells #[.int .i64 2, .float .f64 0, .string a] 55)).alloc (.cells #[.int .i64 3, .float .f64 xb, .string b] 55)).cell? ⟨v3.heap.size, 1, none⟩ = some (.float .f64 0) := by simp [go_sem]
          have g2 : ((v3.alloc (.cells #[.int .i64 2, .float .f64 0, .string a] 55)).alloc (.cells #[.int .i64 3, .float .f64 xb, .string b] 55)).cell? ⟨v3.heap.size, 2, none⟩ = some (.string a) := by simp [go_sem]
          have n0 : ((v3.alloc (.cells #[.int .i64 2, .float .f64 0, .string a] 55)).alloc (.cells #[.int .i64 3, .float .f64 xb, .string b] 55)).cell? ⟨v3.heap.size + 1, 0, none⟩ = some (.int .i64 3) := by simp [go_sem]
          have n1 : ((v3.alloc (.cells #[.int .i64 2, .float .f64 0, .string a] 55)).alloc (.cells #[.int .i64 3, .float .f64 xb, .string b] 55)).cell? ⟨v3.heap.size + 1, 1, none⟩ = some (.float .f64 xb) := by simp [go_sem]
          have n2 : ((v3.alloc (.cells #[.int .i64 2, .float .f64 0, .string a] 55)).alloc (.cells #[.int .i64 3, .float .f64 xb, .string b] 55)).cell? ⟨v3.heap.size + 1, 2, none⟩ = some (.string b) := by simp [go_sem]
          have HB10 := Lib.hid (show Below w.heap.size w ((v3.alloc (.cells #[.int .i64 2, .float .f64 0, .string a] 55)).alloc (.cells #[.int .i64 3, .float .f64 xb, .string b] 55)) from (HV3.out.alloc hz3 _).alloc (by simp; omega) _)
          go_wp2_with fail
          generalize (v3.alloc (.cells #[.int .i64 2, .float .f64 0, .string a] 55)).alloc (.cells #[.int .i64 3, .float .f64 xb, .string b] 55) = W at *
          go_region_held3 (fun w' => w'.cell? ⟨v3.heap.size, 0, none⟩ = some (.int .i64 2) ∧ w'.cell? ⟨v3.heap.size, 1, none⟩ = some (.float .f64 0) ∧ w'.cell? ⟨v3.heap.size, 2, none⟩ = some (.string a) ∧ w'.cell? ⟨v3.heap.size + 1, 0, none⟩ = some (.int .i64 3) ∧ w'.cell? ⟨v3.heap.size + 1, 1, none⟩ = some (.float .f64 xb) ∧ w'.cell? ⟨v3.heap.size + 1, 2, none⟩ = some (.string b)) (first | exact ⟨g0, g1, g2, n0, n1, n2⟩ | exact ⟨p0, p1, p2, q0, q1, q2⟩)
            (first
              | (go_at_call 30; refine (T1.out _).mono ?_; clear T1; rintro e w11 ⟨rfl, hb11⟩; have p0 := cell_next hb11 g0; have p1 := cell_next hb11 g1; have p2 := cell_next hb11 g2; have q0 := cell_next hb11 n0; have q1 := cell_next hb11 n1; have q2 := cell_next hb11 n2; have HB11 := Lib.hid (below_next (Nat.le_refl _) HB10.out hb11 (by first | exact .inl rfl | exact .inr rfl)))
              | (go_at_call 30; refine (T2.out _).mono ?_; clear T2; rintro e w12 ⟨rfl, hb12⟩; have p0 := cell_next hb12 p0; have p1 := cell_next hb12 p1; have p2 := cell_next hb12 p2; have q0 := cell_next hb12 q0; have q1 := cell_next hb12 q1; have q2 := cell_next hb12 q2; have HB12 := Lib.hid (below_next (Nat.le_refl _) HB11.out hb12 (by first | exact .inl rfl | exact .inr rfl)))
              | (go_at_call 27; refine (C1.out _).mono ?_; clear C1; rintro e w13 ⟨rfl, hb13⟩; have p0 := cell_next hb13 p0; have p1 := cell_next hb13 p1; have p2 := cell_next hb13 p2; have q0 := cell_next hb13 q0; have q1 := cell_next hb13 q1; have q2 := cell_next hb13 q2; have HB13 := Lib.hid (below_next (Nat.le_refl _) HB12.out hb13 (by first | exact .inl rfl | exact .inr rfl)))
              | (go_at_call 30; refine (T3.out _).mono ?_; clear T3; rintro e w14 ⟨rfl, hb14⟩; have p0 := cell_next hb14 p0; have p1 := cell_next hb14 p1; have p2 := cell_next hb14 p2; have q0 := cell_next hb14 q0; have q1 := cell_next hb14 q1; have q2 := cell_next hb14 q2; have HB14 := Lib.hid (below_next (Nat.le_refl _) HB13.out hb14 (by first | exact .inl rfl | exact .inr rfl)))
              | (go_at_call 27; refine (C2.out _).mono ?_; clear C2; rintro e w15 ⟨rfl, hb15⟩; have p0 := cell_next hb15 p0; have p1 := cell_next hb15 p1; have p2 := cell_next hb15 p2; have q0 := cell_next hb15 q0; have q1 := cell_next hb15 q1; have q2 := cell_next hb15 q2; have HB15 := Lib.hid (below_next (Nat.le_refl _) HB14.out hb15 (by first | exact .inl rfl | exact .inr rfl)))
              | (go_at_call 30; refine (T4.out _).mono ?_; clear T4; rintro e w16 ⟨rfl, hb16⟩; have p0 := cell_next hb16 p0; have p1 := cell_next hb16 p1; have p2 := cell_next hb16 p2; have q0 := cell_next hb16 q0; have q1 := cell_next hb16 q1; have q2 := cell_next hb16 q2; have HB16 := Lib.hid (below_next (Nat.le_refl _) HB15.out hb16 (by first | exact .inl rfl | exact .inr rfl)))
              | (go_at_call 27; refine (C3.out _).mono ?_; clear C3; rintro e w17 ⟨rfl, hb17⟩; have p0 := cell_next hb17 p0; have p1 := cell_next hb17 p1; have p2 := cell_next hb17 p2; have q0 := cell_next hb17 q0; have q1 := cell_next hb17 q1; have q2 := cell_next hb17 q2; have HB17 := Lib.hid (below_next (Nat.le_refl _) HB16.out hb17 (by first | exact .inl rfl | exact .inr rfl))))
          go_wp2_with fail
          refine (C4.out _).mono ?_
          rintro e w18 ⟨rfl, hb18⟩
          have p0 := cell_next hb18 p0
          have q0 := cell_next hb18 q0
          have p1 := cell_next hb18 p1
          have q1 := cell_next hb18 q1
          have p2 := cell_next hb18 p2
          have q2 := cell_next hb18 q2
          have HB18 := Lib.hid (below_next (Nat.le_refl _) HB17.out hb18 (by first | exact .inl rfl | exact .inr rfl))
          go_wp2_with fail
          go_ret
          exact ⟨rfl, HB18.out⟩
        · rw [hA] at HIa
          rw [hB] at HIb
          have C1 : Hid (∀ W, Calls Tryz.prog 27 #[.agg (cellA 2 0 a), .agg (cellA 2 0 b), .string c] W fun e w' => e = .returned (.int .i64 (0)) ∧ Below W.heap.size W w') := fun W => hcmp ▸ Compare_strs 2 2 0 0 a b c a b W (.inl rfl) (fun W' _ => Str_str 2 _ _ _ W' (.inl rfl)) (fun W' _ => Str_str 2 _ _ _ W' (.inl rfl))
          have C2 : Hid (∀ W, Calls Tryz.prog 27 #[.agg (cellA 2 0 a), .agg (cellA 3 xb b), .string c] W fun e w' => e = .returned (.int .i64 (0)) ∧ Below W.heap.size W w') := fun W => hcmp ▸ Compare_strs 2 3 0 xb a b c a b W (.inl rfl) (fun W' _ => Str_str 2 _ _ _ W' (.inl rfl)) (fun W' _ => Str_str 3 _ _ _ W' (.inr rfl))
          have C3 : Hid (∀ W, Calls Tryz.prog 27 #[.agg (cellA 2 0 a), .agg (cellA 2 0 b), .string c] W fun e w' => e = .returned (.int .i64 (0)) ∧ Below W.heap.size W w') := fun W => hcmp ▸ Compare_strs 2 2 0 0 a b c a b W (.inl rfl) (fun W' _ => Str_str 2 _ _ _ W' (.inl rfl)) (fun W' _ => Str_str 2 _ _ _ W' (.inl rfl))
          have C4 : Hid (∀ W, Calls Tryz.prog 27 #[.agg (cellA 2 0 a), .agg (cellA 3 xb b), .string c] W fun e w' => e = .returned (.int .i64 (0)) ∧ Below W.heap.size W w') := fun W => hcmp ▸ Compare_strs 2 3 0 xb a b c a b W (.inl rfl) (fun W' _ => Str_str 2 _ _ _ W' (.inl rfl)) (fun W' _ => Str_str 3 _ _ _ W' (.inr rfl))
          unfold cellA at HIa HIb T1 T2 T3 T4 C1 C2 C3 C4
          clear hcmp hA hB oy
          go_enter Tryz.func11, Tryz.ntmps11
          go_wp2_with fail
          refine HF.out.mono ?_
          rintro e v1 ⟨rfl, hb⟩
          have HV1 := Lib.hid hb
          clear hb
          go_wp2_with fail
          refine (HIa.out _).mono ?_
          rintro e v2 ⟨rfl, hb⟩
          have HV2 := Lib.hid (HV1.out.trans (hb.mono HV1.out.size))
          clear hb
          go_wp2_with fail
          refine (HIb.out _).mono ?_
          rintro e v3 ⟨rfl, hb⟩
          have HV3 := Lib.hid (HV2.out.trans (hb.mono HV2.out.size))
          clear hb
          have hz3 := HV3.out.size
          have g0 : ((v3.alloc (.cells #[.int .i64 2, .float .f64 0, .string a] 55)).alloc (.cells #[.int .i64 3, .float .f64 xb, .string b] 55)).cell? ⟨v3.heap.size, 0, none⟩ = some (.int .i64 2) := by simp [go_sem]
          have g1 : ((v3.alloc (.cells #[.int .i64 2, .float .f64 0, .string a] 55)).alloc (.cells #[.int .i64 3, .float .f64 xb, .string b] 55)).cell? ⟨v3.heap.size, 1, none⟩ = some (.float .f64 0) := by simp [go_sem]
          have g2 : ((v3.alloc (.cells #[.int .i64 2, .float .f64 0, .string a] 55)).alloc (.cells #[.int .i64 3, .float .f64 xb, .string b] 55)).cell? ⟨v3.heap.size, 2, none⟩ = some (.string a) := by simp [go_sem]
          have n0 : ((v3.alloc (.cells #[.int .i64 2, .float .f64 0, .string a] 55)).alloc (.cells #[.int .i64 3, .float .f64 xb, .string b] 55)).cell? ⟨v3.heap.size + 1, 0, none⟩ = some (.int .i64 3) := by simp [go_sem]
          have n1 : ((v3.alloc (.cells #[.int .i64 2, .float .f64 0, .string a] 55)).alloc (.cells #[.int .i64 3, .float .f64 xb, .string b] 55)).cell? ⟨v3.heap.size + 1, 1, none⟩ = some (.float .f64 xb) := by simp [go_sem]
          have n2 : ((v3.alloc (.cells #[.int .i64 2, .float .f64 0, .string a] 55)).alloc (.cells #[.int .i64 3, .float .f64 xb, .string b] 55)).cell? ⟨v3.heap.size + 1, 2, none⟩ = some (.string b) := by simp [go_sem]
          have HB10 := Lib.hid (show Below w.heap.size w ((v3.alloc (.cells #[.int .i64 2, .float .f64 0, .string a] 55)).alloc (.cells #[.int .i64 3, .float .f64 xb, .string b] 55)) from (HV3.out.alloc hz3 _).alloc (by simp; omega) _)
          go_wp2_with fail
          generalize (v3.alloc (.cells #[.int .i64 2, .float .f64 0, .string a] 55)).alloc (.cells #[.int .i64 3, .float .f64 xb, .string b] 55) = W at *
          go_region_held3 (fun w' => w'.cell? ⟨v3.heap.size, 0, none⟩ = some (.int .i64 2) ∧ w'.cell? ⟨v3.heap.size, 1, none⟩ = some (.float .f64 0) ∧ w'.cell? ⟨v3.heap.size, 2, none⟩ = some (.string a) ∧ w'.cell? ⟨v3.heap.size + 1, 0, none⟩ = some (.int .i64 3) ∧ w'.cell? ⟨v3.heap.size + 1, 1, none⟩ = some (.float .f64 xb) ∧ w'.cell? ⟨v3.heap.size + 1, 2, none⟩ = some (.string b)) (first | exact ⟨g0, g1, g2, n0, n1, n2⟩ | exact ⟨p0, p1, p2, q0, q1, q2⟩)
            (first
              | (go_at_call 30; refine (T1.out _).mono ?_; clear T1; rintro e w11 ⟨rfl, hb11⟩; have p0 := cell_next hb11 g0; have p1 := cell_next hb11 g1; have p2 := cell_next hb11 g2; have q0 := cell_next hb11 n0; have q1 := cell_next hb11 n1; have q2 := cell_next hb11 n2; have HB11 := Lib.hid (below_next (Nat.le_refl _) HB10.out hb11 (by first | exact .inl rfl | exact .inr rfl)))
              | (go_at_call 30; refine (T2.out _).mono ?_; clear T2; rintro e w12 ⟨rfl, hb12⟩; have p0 := cell_next hb12 p0; have p1 := cell_next hb12 p1; have p2 := cell_next hb12 p2; have q0 := cell_next hb12 q0; have q1 := cell_next hb12 q1; have q2 := cell_next hb12 q2; have HB12 := Lib.hid (below_next (Nat.le_refl _) HB11.out hb12 (by first | exact .inl rfl | exact .inr rfl)))
              | (go_at_call 27; refine (C1.out _).mono ?_; clear C1; rintro e w13 ⟨rfl, hb13⟩; have p0 := cell_next hb13 p0; have p1 := cell_next hb13 p1; have p2 := cell_next hb13 p2; have q0 := cell_next hb13 q0; have q1 := cell_next hb13 q1; have q2 := cell_next hb13 q2; have HB13 := Lib.hid (below_next (Nat.le_refl _) HB12.out hb13 (by first | exact .inl rfl | exact .inr rfl)))
              | (go_at_call 30; refine (T3.out _).mono ?_; clear T3; rintro e w14 ⟨rfl, hb14⟩; have p0 := cell_next hb14 p0; have p1 := cell_next hb14 p1; have p2 := cell_next hb14 p2; have q0 := cell_next hb14 q0; have q1 := cell_next hb14 q1; have q2 := cell_next hb14 q2; have HB14 := Lib.hid (below_next (Nat.le_refl _) HB13.out hb14 (by first | exact .inl rfl | exact .inr rfl)))
              | (go_at_call 27; refine (C2.out _).mono ?_; clear C2; rintro e w15 ⟨rfl, hb15⟩; have p0 := cell_next hb15 p0; have p1 := cell_next hb15 p1; have p2 := cell_next hb15 p2; have q0 := cell_next hb15 q0; have q1 := cell_next hb15 q1; have q2 := cell_next hb15 q2; have HB15 := Lib.hid (below_next (Nat.le_refl _) HB14.out hb15 (by first | exact .inl rfl | exact .inr rfl)))
              | (go_at_call 30; refine (T4.out _).mono ?_; clear T4; rintro e w16 ⟨rfl, hb16⟩; have p0 := cell_next hb16 p0; have p1 := cell_next hb16 p1; have p2 := cell_next hb16 p2; have q0 := cell_next hb16 q0; have q1 := cell_next hb16 q1; have q2 := cell_next hb16 q2; have HB16 := Lib.hid (below_next (Nat.le_refl _) HB15.out hb16 (by first | exact .inl rfl | exact .inr rfl)))
              | (go_at_call 27; refine (C3.out _).mono ?_; clear C3; rintro e w17 ⟨rfl, hb17⟩; have p0 := cell_next hb17 p0; have p1 := cell_next hb17 p1; have p2 := cell_next hb17 p2; have q0 := cell_next hb17 q0; have q1 := cell_next hb17 q1; have q2 := cell_next hb17 q2; have HB17 := Lib.hid (below_next (Nat.le_refl _) HB16.out hb17 (by first | exact .inl rfl | exact .inr rfl))))
          go_wp2_with fail
          refine (C4.out _).mono ?_
          rintro e w18 ⟨rfl, hb18⟩
          have p0 := cell_next hb18 p0
          have q0 := cell_next hb18 q0
          have p1 := cell_next hb18 p1
          have q1 := cell_next hb18 q1
          have p2 := cell_next hb18 p2
          have q2 := cell_next hb18 q2
          have HB18 := Lib.hid (below_next (Nat.le_refl _) HB17.out hb18 (by first | exact .inl rfl | exact .inr rfl))
          go_wp2_with fail
          go_ret
          exact ⟨rfl, HB18.out⟩
    · rcases in_cases b with hB | ⟨xb, hB, oy⟩
      · rcases cmp_cases a b with ⟨hL, hcmp⟩ | ⟨hL, hQ, hcmp⟩ | ⟨hL, hQ, hcmp⟩
        · rw [hA] at HIa
          rw [hB] at HIb
          have C1 : Hid (∀ W, Calls Tryz.prog 27 #[.agg (cellA 2 0 a), .agg (cellA 2 0 b), .string c] W fun e w' => e = .returned (.int .i64 (-1)) ∧ Below W.heap.size W w') := fun W => hcmp ▸ Compare_strs 2 2 0 0 a b c a b W (.inl rfl) (fun W' _ => Str_str 2 _ _ _ W' (.inl rfl)) (fun W' _ => Str_str 2 _ _ _ W' (.inl rfl))
          have C2 : Hid (∀ W, Calls Tryz.prog 27 #[.agg (cellA 2 0 a), .agg (cellA 2 0 b), .string c] W fun e w' => e = .returned (.int .i64 (-1)) ∧ Below W.heap.size W w') := fun W => hcmp ▸ Compare_strs 2 2 0 0 a b c a b W (.inl rfl) (fun W' _ => Str_str 2 _ _ _ W' (.inl rfl)) (fun W' _ => Str_str 2 _ _ _ W' (.inl rfl))
          have C3 : Hid (∀ W, Calls Tryz.prog 27 #[.agg (cellA 3 xa a), .agg (cellA 2 0 b), .string c] W fun e w' => e = .returned (.int .i64 (-1)) ∧ Below W.heap.size W w') := fun W => hcmp ▸ Compare_strs 3 2 xa 0 a b c a b W (.inr ⟨by decide, rfl⟩) (fun W' _ => Str_str 3 _ _ _ W' (.inr rfl)) (fun W' _ => Str_str 2 _ _ _ W' (.inl rfl))
          have C4 : Hid (∀ W, Calls Tryz.prog 27 #[.agg (cellA 3 xa a), .agg (cellA 2 0 b), .string c] W fun e w' => e = .returned (.int .i64 (-1)) ∧ Below W.heap.size W w') := fun W => hcmp ▸ Compare_strs 3 2 xa 0 a b c a b W (.inr ⟨by decide, rfl⟩) (fun W' _ => Str_str 3 _ _ _ W' (.inr rfl)) (fun W' _ => Str_str 2 _ _ _ W' (.inl rfl))
          unfold cellA at HIa HIb T1 T2 T3 T4 C1 C2 C3 C4
          clear hcmp hA hB ox
          go_enter Tryz.func11, Tryz.ntmps11
          go_wp2_with fail
          refine HF.out.mono ?_
          rintro e v1 ⟨rfl, hb⟩
          have HV1 := Lib.hid hb
          clear hb
          go_wp2_with fail
          refine (HIa.out _).mono ?_
          rintro e v2 ⟨rfl, hb⟩
          have HV2 := Lib.hid (HV1.out.trans (hb.mono HV1.out.size))
          clear hb
          go_wp2_with fail
          refine (HIb.out _).mono ?_
          rintro e v3 ⟨rfl, hb⟩
          have HV3 := Lib.hid (HV2.out.trans (hb.mono HV2.out.size))
          clear hb
          have hz3 := HV3.out.size
          have g0 : ((v3.alloc (.cells #[.int .i64 3, .float .f64 xa, .string a] 55)).alloc (.cells #[.int .i64 2, .float .f64 0, .string b] 55)).cell? ⟨v3.heap.size, 0, none⟩ = some (.int .i64 3) := by simp [go_sem]
          have g1 : ((v3.alloc (.cells #[.int .i64 3, .float .f64 xa, .string a] 55)).alloc (.cells #[.int .i64 2, .float .f64 0, .string b] 55)).cell? ⟨v3.heap.size, 1, none⟩ = some (.float .f64 xa) := by simp [go_sem]
          have g2 : ((v3.alloc (.cells #[.int .i64 3, .float .f64 xa, .string a] 55)).alloc (.cells #[.int .i64 2, .float .f64 0, .string b] 55)).cell? ⟨v3.heap.size, 2, none⟩ = some (.string a) := by simp [go_sem]
          have n0 : ((v3.alloc (.cells #[.int .i64 3, .float .f64 xa, .string a] 55)).alloc (.cells #[.int .i64 2, .float .f64 0, .string b] 55)).cell? ⟨v3.heap.size + 1, 0, none⟩ = some (.int .i64 2) := by simp [go_sem]
          have n1 : ((v3.alloc (.cells #[.int .i64 3, .float .f64 xa, .string a] 55)).alloc (.cells #[.int .i64 2, .float .f64 0, .string b] 55)).cell? ⟨v3.heap.size + 1, 1, none⟩ = some (.float .f64 0) := by simp [go_sem]
          have n2 : ((v3.alloc (.cells #[.int .i64 3, .float .f64 xa, .string a] 55)).alloc (.cells #[.int .i64 2, .float .f64 0, .string b] 55)).cell? ⟨v3.heap.size + 1, 2, none⟩ = some (.string b) := by simp [go_sem]
          have HB10 := Lib.hid (show Below w.heap.size w ((v3.alloc (.cells #[.int .i64 3, .float .f64 xa, .string a] 55)).alloc (.cells #[.int .i64 2, .float .f64 0, .string b] 55)) from (HV3.out.alloc hz3 _).alloc (by simp; omega) _)
          go_wp2_with fail
          generalize (v3.alloc (.cells #[.int .i64 3, .float .f64 xa, .string a] 55)).alloc (.cells #[.int .i64 2, .float .f64 0, .string b] 55) = W at *
          go_region_held3 (fun w' => w'.cell? ⟨v3.heap.size, 0, none⟩ = some (.int .i64 3) ∧ w'.cell? ⟨v3.heap.size, 1, none⟩ = some (.float .f64 xa) ∧ w'.cell? ⟨v3.heap.size, 2, none⟩ = some (.string a) ∧ w'.cell? ⟨v3.heap.size + 1, 0, none⟩ = some (.int .i64 2) ∧ w'.cell? ⟨v3.heap.size + 1, 1, none⟩ = some (.float .f64 0) ∧ w'.cell? ⟨v3.heap.size + 1, 2, none⟩ = some (.string b)) (first | exact ⟨g0, g1, g2, n0, n1, n2⟩ | exact ⟨p0, p1, p2, q0, q1, q2⟩)
            (first
              | (go_at_call 30; refine (T1.out _).mono ?_; clear T1; rintro e w11 ⟨rfl, hb11⟩; have p0 := cell_next hb11 g0; have p1 := cell_next hb11 g1; have p2 := cell_next hb11 g2; have q0 := cell_next hb11 n0; have q1 := cell_next hb11 n1; have q2 := cell_next hb11 n2; have HB11 := Lib.hid (below_next (Nat.le_refl _) HB10.out hb11 (by first | exact .inl rfl | exact .inr rfl)))
              | (go_at_call 30; refine (T2.out _).mono ?_; clear T2; rintro e w12 ⟨rfl, hb12⟩; have p0 := cell_next hb12 p0; have p1 := cell_next hb12 p1; have p2 := cell_next hb12 p2; have q0 := cell_next hb12 q0; have q1 := cell_next hb12 q1; have q2 := cell_next hb12 q2; have HB12 := Lib.hid (below_next (Nat.le_refl _) HB11.out hb12 (by first | exact .inl rfl | exact .inr rfl)))
              | (go_at_call 27; refine (C1.out _).mono ?_; clear C1; rintro e w13 ⟨rfl, hb13⟩; have p0 := cell_next hb13 p0; have p1 := cell_next hb13 p1; have p2 := cell_next hb13 p2; have q0 := cell_next hb13 q0; have q1 := cell_next hb13 q1; have q2 := cell_next hb13 q2; have HB13 := Lib.hid (below_next (Nat.le_refl _) HB12.out hb13 (by first | exact .inl rfl | exact .inr rfl)))
              | (go_at_call 30; refine (T3.out _).mono ?_; clear T3; rintro e w14 ⟨rfl, hb14⟩; have p0 := cell_next hb14 p0; have p1 := cell_next hb14 p1; have p2 := cell_next hb14 p2; have q0 := cell_next hb14 q0; have q1 := cell_next hb14 q1; have q2 := cell_next hb14 q2; have HB14 := Lib.hid (below_next (Nat.le_refl _) HB13.out hb14 (by first | exact .inl rfl | exact .inr rfl)))
              | (go_at_call 27; refine (C2.out _).mono ?_; clear C2; rintro e w15 ⟨rfl, hb15⟩; have p0 := cell_next hb15 p0; have p1 := cell_next hb15 p1; have p2 := cell_next hb15 p2; have q0 := cell_next hb15 q0; have q1 := cell_next hb15 q1; have q2 := cell_next hb15 q2; have HB15 := Lib.hid (below_next (Nat.le_refl _) HB14.out hb15 (by first | exact .inl rfl | exact .inr rfl)))
              | (go_at_call 30; refine (T4.out _).mono ?_; clear T4; rintro e w16 ⟨rfl, hb16⟩; have p0 := cell_next hb16 p0; have p1 := cell_next hb16 p1; have p2 := cell_next hb16 p2; have q0 := cell_next hb16 q0; have q1 := cell_next hb16 q1; have q2 := cell_next hb16 q2; have HB16 := Lib.hid (below_next (Nat.le_refl _) HB15.out hb16 (by first | exact .inl rfl | exact .inr rfl)))
              | (go_at_call 27; refine (C3.out _).mono ?_; clear C3; rintro e w17 ⟨rfl, hb17⟩; have p0 := cell_next hb17 p0; have p1 := cell_next hb17 p1; have p2 := cell_next hb17 p2; have q0 := cell_next hb17 q0; have q1 := cell_next hb17 q1; have q2 := cell_next hb17 q2; have HB17 := Lib.hid (below_next (Nat.le_refl _) HB16.out hb17 (by first | exact .inl rfl | exact .inr rfl))))
          go_wp2_with fail
          refine (C4.out _).mono ?_
          rintro e w18 ⟨rfl, hb18⟩
          have p0 := cell_next hb18 p0
          have q0 := cell_next hb18 q0
          have p1 := cell_next hb18 p1
          have q1 := cell_next hb18 q1
          have p2 := cell_next hb18 p2
          have q2 := cell_next hb18 q2
          have HB18 := Lib.hid (below_next (Nat.le_refl _) HB17.out hb18 (by first | exact .inl rfl | exact .inr rfl))
          go_wp2_with fail
          go_ret
          exact ⟨rfl, HB18.out⟩
        · rw [hA] at HIa
          rw [hB] at HIb
          have C1 : Hid (∀ W, Calls Tryz.prog 27 #[.agg (cellA 2 0 a), .agg (cellA 2 0 b), .string c] W fun e w' => e = .returned (.int .i64 (1)) ∧ Below W.heap.size W w') := fun W => hcmp ▸ Compare_strs 2 2 0 0 a b c a b W (.inl rfl) (fun W' _ => Str_str 2 _ _ _ W' (.inl rfl)) (fun W' _ => Str_str 2 _ _ _ W' (.inl rfl))
          have C2 : Hid (∀ W, Calls Tryz.prog 27 #[.agg (cellA 2 0 a), .agg (cellA 2 0 b), .string c] W fun e w' => e = .returned (.int .i64 (1)) ∧ Below W.heap.size W w') := fun W => hcmp ▸ Compare_strs 2 2 0 0 a b c a b W (.inl rfl) (fun W' _ => Str_str 2 _ _ _ W' (.inl rfl)) (fun W' _ => Str_str 2 _ _ _ W' (.inl rfl))
          have C3 : Hid (∀ W, Calls Tryz.prog 27 #[.agg (cellA 3 xa a), .agg (cellA 2 0 b), .string c] W fun e w' => e = .returned (.int .i64 (1)) ∧ Below W.heap.size W w') := fun W => hcmp ▸ Compare_strs 3 2 xa 0 a b c a b W (.inr ⟨by decide, rfl⟩) (fun W' _ => Str_str 3 _ _ _ W' (.inr rfl)) (fun W' _ => Str_str 2 _ _ _ W' (.inl rfl))
          have C4 : Hid (∀ W, Calls Tryz.prog 27 #[.agg (cellA 3 xa a), .agg (cellA 2 0 b), .string c] W fun e w' => e = .returned (.int .i64 (1)) ∧ Below W.heap.size W w') := fun W => hcmp ▸ Compare_strs 3 2 xa 0 a b c a b W (.inr ⟨by decide, rfl⟩) (fun W' _ => Str_str 3 _ _ _ W' (.inr rfl)) (fun W' _ => Str_str 2 _ _ _ W' (.inl rfl))
          unfold cellA at HIa HIb T1 T2 T3 T4 C1 C2 C3 C4
          clear hcmp hA hB ox
          go_enter Tryz.func11, Tryz.ntmps11
          go_wp2_with fail
          refine HF.out.mono ?_
          rintro e v1 ⟨rfl, hb⟩
          have HV1 := Lib.hid hb
          clear hb
          go_wp2_with fail
          refine (HIa.out _).mono ?_
          rintro e v2 ⟨rfl, hb⟩
          have HV2 := Lib.hid (HV1.out.trans (hb.mono HV1.out.size))
          clear hb
          go_wp2_with fail
          refine (HIb.out _).mono ?_
          rintro e v3 ⟨rfl, hb⟩
          have HV3 := Lib.hid (HV2.out.trans (hb.mono HV2.out.size))
          clear hb
          have hz3 := HV3.out.size
          have g0 : ((v3.alloc (.cells #[.int .i64 3, .float .f64 xa, .string a] 55)).alloc (.cells #[.int .i64 2, .float .f64 0, .string b] 55)).cell? ⟨v3.heap.size, 0, none⟩ = some (.int .i64 3) := by simp [go_sem]
          have g1 : ((v3.alloc (.cells #[.int .i64 3, .float .f64 xa, .string a] 55)).alloc (.cells #[.int .i64 2, .float .f64 0, .string b] 55)).cell? ⟨v3.heap.size, 1, none⟩ = some (.float .f64 xa) := by simp [go_sem]
          have g2 : ((v3.alloc (.cells #[.int .i64 3, .float .f64 xa, .string a] 55)).alloc (.cells #[.int .i64 2, .float .f64 0, .string b] 55)).cell? ⟨v3.heap.size, 2, none⟩ = some (.string a) := by simp [go_sem]
          have n0 : ((v3.alloc (.cells #[.int .i64 3, .float .f64 xa, .string a] 55)).alloc (.cells #[.int .i64 2, .float .f64 0, .string b] 55)).cell? ⟨v3.heap.size + 1, 0, none⟩ = some (.int .i64 2) := by simp [go_sem]
          have n1 : ((v3.alloc (.cells #[.int .i64 3, .float .f64 xa, .string a] 55)).alloc (.cells #[.int .i64 2, .float .f64 0, .string b] 55)).cell? ⟨v3.heap.size + 1, 1, none⟩ = some (.float .f64 0) := by simp [go_sem]
          have n2 : ((v3.alloc (.cells #[.int .i64 3, .float .f64 xa, .string a] 55)).alloc (.cells #[.int .i64 2, .float .f64 0, .string b] 55)).cell? ⟨v3.heap.size + 1, 2, none⟩ = some (.string b) := by simp [go_sem]
          have HB10 := Lib.hid (show Below w.heap.size w ((v3.alloc (.cells #[.int .i64 3, .float .f64 xa, .string a] 55)).alloc (.cells #[.int .i64 2, .float .f64 0, .string b] 55)) from (HV3.out.alloc hz3 _).alloc (by simp; omega) _)
          go_wp2_with fail
          generalize (v3.alloc (.cells #[.int .i64 3, .float .f64 xa, .string a] 55)).alloc (.cells #[.int .i64 2, .float .f64 0, .string b] 55) = W at *
          go_region_held3 (fun w' => w'.cell? ⟨v3.heap.size, 0, none⟩ = some (.int .i64 3) ∧ w'.cell? ⟨v3.heap.size, 1, none⟩ = some (.float .f64 xa) ∧ w'.cell? ⟨v3.heap.size, 2, none⟩ = some (.string a) ∧ w'.cell? ⟨v3.heap.size + 1, 0, none⟩ = some (.int .i64 2) ∧ w'.cell? ⟨v3.heap.size + 1, 1, none⟩ = some (.float .f64 0) ∧ w'.cell? ⟨v3.heap.size + 1, 2, none⟩ = some (.string b)) (first | exact ⟨g0, g1, g2, n0, n1, n2⟩ | exact ⟨p0, p1, p2, q0, q1, q2⟩)
            (first
              | (go_at_call 30; refine (T1.out _).mono ?_; clear T1; rintro e w11 ⟨rfl, hb11⟩; have p0 := cell_next hb11 g0; have p1 := cell_next hb11 g1; have p2 := cell_next hb11 g2; have q0 := cell_next hb11 n0; have q1 := cell_next hb11 n1; have q2 := cell_next hb11 n2; have HB11 := Lib.hid (below_next (Nat.le_refl _) HB10.out hb11 (by first | exact .inl rfl | exact .inr rfl)))
              | (go_at_call 30; refine (T2.out _).mono ?_; clear T2; rintro e w12 ⟨rfl, hb12⟩; have p0 := cell_next hb12 p0; have p1 := cell_next hb12 p1; have p2 := cell_next hb12 p2; have q0 := cell_next hb12 q0; have q1 := cell_next hb12 q1; have q2 := cell_next hb12 q2; have HB12 := Lib.hid (below_next (Nat.le_refl _) HB11.out hb12 (by first | exact .inl rfl | exact .inr rfl)))
              | (go_at_call 27; refine (C1.out _).mono ?_; clear C1; rintro e w13 ⟨rfl, hb13⟩; have p0 := cell_next hb13 p0; have p1 := cell_next hb13 p1; have p2 := cell_next hb13 p2; have q0 := cell_next hb13 q0; have q1 := cell_next hb13 q1; have q2 := cell_next hb13 q2; have HB13 := Lib.hid (below_next (Nat.le_refl _) HB12.out hb13 (by first | exact .inl rfl | exact .inr rfl)))
              | (go_at_call 30; refine (T3.out _).mono ?_; clear T3; rintro e w14 ⟨rfl, hb14⟩; have p0 := cell_next hb14 p0; have p1 := cell_next hb14 p1; have p2 := cell_next hb14 p2; have q0 := cell_next hb14 q0; have q1 := cell_next hb14 q1; have q2 := cell_next hb14 q2; have HB14 := Lib.hid (below_next (Nat.le_refl _) HB13.out hb14 (by first | exact .inl rfl | exact .inr rfl)))
              | (go_at_call 27; refine (C2.out _).mono ?_; clear C2; rintro e w15 ⟨rfl, hb15⟩; have p0 := cell_next hb15 p0; have p1 := cell_next hb15 p1; have p2 := cell_next hb15 p2; have q0 := cell_next hb15 q0; have q1 := cell_next hb15 q1; have q2 := cell_next hb15 q2; have HB15 := Lib.hid (below_next (Nat.le_refl _) HB14.out hb15 (by first | exact .inl rfl | exact .inr rfl)))
              | (go_at_call 30; refine (T4.out _).mono ?_; clear T4; rintro e w16 ⟨rfl, hb16⟩; have p0 := cell_next hb16 p0; have p1 := cell_next hb16 p1; have p2 := cell_next hb16 p2; have q0 := cell_next hb16 q0; have q1 := cell_next hb16 q1; have q2 := cell_next hb16 q2; have HB16 := Lib.hid (below_next (Nat.le_refl _) HB15.out hb16 (by first | exact .inl rfl | exact .inr rfl)))
              | (go_at_call 27; refine (C3.out _).mono ?_; clear C3; rintro e w17 ⟨rfl, hb17⟩; have p0 := cell_next hb17 p0; have p1 := cell_next hb17 p1; have p2 := cell_next hb17 p2; have q0 := cell_next hb17 q0; have q1 := cell_next hb17 q1; have q2 := cell_next hb17 q2; have HB17 := Lib.hid (below_next (Nat.le_refl _) HB16.out hb17 (by first | exact .inl rfl | exact .inr rfl))))
          go_wp2_with fail
          refine (C4.out _).mono ?_
          rintro e w18 ⟨rfl, hb18⟩
          have p0 := cell_next hb18 p0
          have q0 := cell_next hb18 q0
          have p1 := cell_next hb18 p1
          have q1 := cell_next hb18 q1
          have p2 := cell_next hb18 p2
          have q2 := cell_next hb18 q2
          have HB18 := Lib.hid (below_next (Nat.le_refl _) HB17.out hb18 (by first | exact .inl rfl | exact .inr rfl))
          go_wp2_with fail
          go_ret
          exact ⟨rfl, HB18.out⟩
        · rw [hA] at HIa
          rw [hB] at HIb
          have C1 : Hid (∀ W, Calls Tryz.prog 27 #[.agg (cellA 2 0 a), .agg (cellA 2 0 b), .string c] W fun e w' => e = .returned (.int .i64 (0)) ∧ Below W.heap.size W w') := fun W => hcmp ▸ Compare_strs 2 2 0 0 a b c a b W (.inl rfl) (fun W' _ => Str_str 2 _ _ _ W' (.inl rfl)) (fun W' _ => Str_str 2 _ _ _ W' (.inl rfl))
          have C2 : Hid (∀ W, Calls Tryz.prog 27 #[.agg (cellA 2 0 a), .agg (cellA 2 0 b), .string c] W fun e w' => e = .returned (.int .i64 (0)) ∧ Below W.heap.size W w') := fun W => hcmp ▸ Compare_strs 2 2 0 0 a b c a b W (.inl rfl) (fun W' _ => Str_str 2 _ _ _ W' (.inl rfl)) (fun W' _ => Str_str 2 _ _ _ W' (.inl rfl))
          have C3 : Hid (∀ W, Calls Tryz.prog 27 #[.agg (cellA 3 xa a), .agg (cellA 2 0 b), .string c] W fun e w' => e = .returned (.int .i64 (0)) ∧ Below W.heap.size W w') := fun W => hcmp ▸ Compare_strs 3 2 xa 0 a b c a b W (.inr ⟨by decide, rfl⟩) (fun W' _ => Str_str 3 _ _ _ W' (.inr rfl)) (fun W' _ => Str_str 2 _ _ _ W' (.inl rfl))
          have C4 : Hid (∀ W, Calls Tryz.prog 27 #[.agg (cellA 3 xa a), .agg (cellA 2 0 b), .string c] W fun e w' => e = .returned (.int .i64 (0)) ∧ Below W.heap.size W w') := fun W => hcmp ▸ Compare_strs 3 2 xa 0 a b c a b W (.inr ⟨by decide, rfl⟩) (fun W' _ => Str_str 3 _ _ _ W' (.inr rfl)) (fun W' _ => Str_str 2 _ _ _ W' (.inl rfl))
          unfold cellA at HIa HIb T1 T2 T3 T4 C1 C2 C3 C4
          clear hcmp hA hB ox
          go_enter Tryz.func11, Tryz.ntmps11
          go_wp2_with fail
          refine HF.out.mono ?_
          rintro e v1 ⟨rfl, hb⟩
          have HV1 := Lib.hid hb
          clear hb
          go_wp2_with fail
          refine (HIa.out _).mono ?_
          rintro e v2 ⟨rfl, hb⟩
          have HV2 := Lib.hid (HV1.out.trans (hb.mono HV1.out.size))
          clear hb
          go_wp2_with fail
          refine (HIb.out _).mono ?_
          rintro e v3 ⟨rfl, hb⟩
          have HV3 := Lib.hid (HV2.out.trans (hb.mono HV2.out.size))
          clear hb
          have hz3 := HV3.out.size
          have g0 : ((v3.alloc (.cells #[.int .i64 3, .float .f64 xa, .string a] 55)).alloc (.cells #[.int .i64 2, .float .f64 0, .string b] 55)).cell? ⟨v3.heap.size, 0, none⟩ = some (.int .i64 3) := by simp [go_sem]
          have g1 : ((v3.alloc (.cells #[.int .i64 3, .float .f64 xa, .string a] 55)).alloc (.cells #[.int .i64 2, .float .f64 0, .string b] 55)).cell? ⟨v3.heap.size, 1, none⟩ = some (.float .f64 xa) := by simp [go_sem]
          have g2 : ((v3.alloc (.cells #[.int .i64 3, .float .f64 xa, .string a] 55)).alloc (.cells #[.int .i64 2, .float .f64 0, .string b] 55)).cell? ⟨v3.heap.size, 2, none⟩ = some (.string a) := by simp [go_sem]
          have n0 : ((v3.alloc (.cells #[.int .i64 3, .float .f64 xa, .string a] 55)).alloc (.cells #[.int .i64 2, .float .f64 0, .string b] 55)).cell? ⟨v3.heap.size + 1, 0, none⟩ = some (.int .i64 2) := by simp [go_sem]
          have n1 : ((v3.alloc (.cells #[.int .i64 3, .float .f64 xa, .string a] 55)).alloc (.cells #[.int .i64 2, .float .f64 0, .string b] 55)).cell? ⟨v3.heap.size + 1, 1, none⟩ = some (.float .f64 0) := by simp [go_sem]
          have n2 : ((v3.alloc (.cells #[.int .i64 3, .float .f64 xa, .string a] 55)).alloc (.cells #[.int .i64 2, .float .f64 0, .string b] 55)).cell? ⟨v3.heap.size + 1, 2, none⟩ = some (.string b) := by simp [go_sem]
          have HB10 := Lib.hid (show Below w.heap.size w ((v3.alloc (.cells #[.int .i64 3, .float .f64 xa, .string a] 55)).alloc (.cells #[.int .i64 2, .float .f64 0, .string b] 55)) from (HV3.out.alloc hz3 _).alloc (by simp; omega) _)
          go_wp2_with fail
          generalize (v3.alloc (.cells #[.int .i64 3, .float .f64 xa, .string a] 55)).alloc (.cells #[.int .i64 2, .float .f64 0, .string b] 55) = W at *
          go_region_held3 (fun w' => w'.cell? ⟨v3.heap.size, 0, none⟩ = some (.int .i64 3) ∧ w'.cell? ⟨v3.heap.size, 1, none⟩ = some (.float .f64 xa) ∧ w'.cell? ⟨v3.heap.size, 2, none⟩ = some (.string a) ∧ w'.cell? ⟨v3.heap.size + 1, 0, none⟩ = some (.int .i64 2) ∧ w'.cell? ⟨v3.heap.size + 1, 1, none⟩ = some (.float .f64 0) ∧ w'.cell? ⟨v3.heap.size + 1, 2, none⟩ = some (.string b)) (first | exact ⟨g0, g1, g2, n0, n1, n2⟩ | exact ⟨p0, p1, p2, q0, q1, q2⟩)
            (first
              | (go_at_call 30; refine (T1.out _).mono ?_; clear T1; rintro e w11 ⟨rfl, hb11⟩; have p0 := cell_next hb11 g0; have p1 := cell_next hb11 g1; have p2 := cell_next hb11 g2; have q0 := cell_next hb11 n0; have q1 := cell_next hb11 n1; have q2 := cell_next hb11 n2; have HB11 := Lib.hid (below_next (Nat.le_refl _) HB10.out hb11 (by first | exact .inl rfl | exact .inr rfl)))
              | (go_at_call 30; refine (T2.out _).mono ?_; clear T2; rintro e w12 ⟨rfl, hb12⟩; have p0 := cell_next hb12 p0; have p1 := cell_next hb12 p1; have p2 := cell_next hb12 p2; have q0 := cell_next hb12 q0; have q1 := cell_next hb12 q1; have q2 := cell_next hb12 q2; have HB12 := Lib.hid (below_next (Nat.le_refl _) HB11.out hb12 (by first | exact .inl rfl | exact .inr rfl)))
              | (go_at_call 27; refine (C1.out _).mono ?_; clear C1; rintro e w13 ⟨rfl, hb13⟩; have p0 := cell_next hb13 p0; have p1 := cell_next hb13 p1; have p2 := cell_next hb13 p2; have q0 := cell_next hb13 q0; have q1 := cell_next hb13 q1; have q2 := cell_next hb13 q2; have HB13 := Lib.hid (below_next (Nat.le_refl _) HB12.out hb13 (by first | exact .inl rfl | exact .inr rfl)))
              | (go_at_call 30; refine (T3.out _).mono ?_; clear T3; rintro e w14 ⟨rfl, hb14⟩; have p0 := cell_next hb14 p0; have p1 := cell_next hb14 p1; have p2 := cell_next hb14 p2; have q0 := cell_next hb14 q0; have q1 := cell_next hb14 q1; have q2 := cell_next hb14 q2; have HB14 := Lib.hid (below_next (Nat.le_refl _) HB13.out hb14 (by first | exact .inl rfl | exact .inr rfl)))
              | (go_at_call 27; refine (C2.out _).mono ?_; clear C2; rintro e w15 ⟨rfl, hb15⟩; have p0 := cell_next hb15 p0; have p1 := cell_next hb15 p1; have p2 := cell_next hb15 p2; have q0 := cell_next hb15 q0; have q1 := cell_next hb15 q1; have q2 := cell_next hb15 q2; have HB15 := Lib.hid (below_next (Nat.le_refl _) HB14.out hb15 (by first | exact .inl rfl | exact .inr rfl)))
              | (go_at_call 30; refine (T4.out _).mono ?_; clear T4; rintro e w16 ⟨rfl, hb16⟩; have p0 := cell_next hb16 p0; have p1 := cell_next hb16 p1; have p2 := cell_next hb16 p2; have q0 := cell_next hb16 q0; have q1 := cell_next hb16 q1; have q2 := cell_next hb16 q2; have HB16 := Lib.hid (below_next (Nat.le_refl _) HB15.out hb16 (by first | exact .inl rfl | exact .inr rfl)))
              | (go_at_call 27; refine (C3.out _).mono ?_; clear C3; rintro e w17 ⟨rfl, hb17⟩; have p0 := cell_next hb17 p0; have p1 := cell_next hb17 p1; have p2 := cell_next hb17 p2; have q0 := cell_next hb17 q0; have q1 := cell_next hb17 q1; have q2 := cell_next hb17 q2; have HB17 := Lib.hid (below_next (Nat.le_refl _) HB16.out hb17 (by first | exact .inl rfl | exact .inr rfl))))
          go_wp2_with fail
          refine (C4.out _).mono ?_
          rintro e w18 ⟨rfl, hb18⟩
          have p0 := cell_next hb18 p0
          have q0 := cell_next hb18 q0
          have p1 := cell_next hb18 p1
          have q1 := cell_next hb18 q1
          have p2 := cell_next hb18 p2
          have q2 := cell_next hb18 q2
          have HB18 := Lib.hid (below_next (Nat.le_refl _) HB17.out hb18 (by first | exact .inl rfl | exact .inr rfl))
          go_wp2_with fail
          go_ret
          exact ⟨rfl, HB18.out⟩
      · rcases cmp_cases a b with ⟨hL, hcmp⟩ | ⟨hL, hQ, hcmp⟩ | ⟨hL, hQ, hcmp⟩
        · rw [hA] at HIa
          rw [hB] at HIb
          have C1 : Hid (∀ W, Calls Tryz.prog 27 #[.agg (cellA 2 0 a), .agg (cellA 2 0 b), .string c] W fun e w' => e = .returned (.int .i64 (-1)) ∧ Below W.heap.size W w') := fun W => hcmp ▸ Compare_strs 2 2 0 0 a b c a b W (.inl rfl) (fun W' _ => Str_str 2 _ _ _ W' (.inl rfl)) (fun W' _ => Str_str 2 _ _ _ W' (.inl rfl))
          have C2 : Hid (∀ W, Calls Tryz.prog 27 #[.agg (cellA 2 0 a), .agg (cellA 3 xb b), .string c] W fun e w' => e = .returned (.int .i64 (-1)) ∧ Below W.heap.size W w') := fun W => hcmp ▸ Compare_strs 2 3 0 xb a b c a b W (.inl rfl) (fun W' _ => Str_str 2 _ _ _ W' (.inl rfl)) (fun W' _ => Str_str 3 _ _ _ W' (.inr rfl))
          have C3 : Hid (∀ W, Calls Tryz.prog 27 #[.agg (cellA 3 xa a), .agg (cellA 2 0 b), .string c] W fun e w' => e = .returned (.int .i64 (-1)) ∧ Below W.heap.size W w') := fun W => hcmp ▸ Compare_strs 3 2 xa 0 a b c a b W (.inr ⟨by decide, rfl⟩) (fun W' _ => Str_str 3 _ _ _ W' (.inr rfl)) (fun W' _ => Str_str 2 _ _ _ W' (.inl rfl))
          have C4 : Hid (∀ W, Calls Tryz.prog 27 #[.agg (cellA 3 xa a), .agg (cellA 3 xb b), .string c] W fun e w' => e = .returned (.int .i64 (ordF xa xb)) ∧ Below W.heap.size W w') := fun W => Compare_nums 3 3 xa xb a b c W (.inr rfl) (.inr rfl) ox oy
          unfold cellA at HIa HIb T1 T2 T3 T4 C1 C2 C3 C4
          clear hcmp hA hB ox oy
          go_enter Tryz.func11, Tryz.ntmps11
          go_wp2_with fail
          refine HF.out.mono ?_
          rintro e v1 ⟨rfl, hb⟩
          have HV1 := Lib.hid hb
          clear hb
          go_wp2_with fail
          refine (HIa.out _).mono ?_
          rintro e v2 ⟨rfl, hb⟩
          have HV2 := Lib.hid (HV1.out.trans (hb.mono HV1.out.size))
          clear hb
          go_wp2_with fail
          refine (HIb.out _).mono ?_
          rintro e v3 ⟨rfl, hb⟩
          have HV3 := Lib.hid (HV2.out.trans (hb.mono HV2.out.size))
          clear hb
          have hz3 := HV3.out.size
          have g0 : ((v3.alloc (.cells #[.int .i64 3, .float .f64 xa, .string a] 55)).alloc (.cells #[.int .i64 3, .float .f64 xb, .string b] 55)).cell? ⟨v3.heap.size, 0, none⟩ = some (.int .i64 3) := by simp [go_sem]
          have g1 : ((v3.alloc (.cells #[.int .i64 3, .float .f64 xa, .string a] 55)).alloc (.cells #[.int .i64 3, .float .f64 xb, .string b] 55)).cell? ⟨v3.heap.size, 1, none⟩ = some (.float .f64 xa) := by simp [go_sem]
          have g2 : ((v3.alloc (.cells #[.int .i64 3, .float .f64 xa, .string a] 55)).alloc (.cells #[.int .i64 3, .float .f64 xb, .string b] 55)).cell? ⟨v3.heap.size, 2, none⟩ = some (.string a) := by simp [go_sem]
          have n0 : ((v3.alloc (.cells #[.int .i64 3, .float .f64 xa, .string a] 55)).alloc (.cells #[.int .i64 3, .float .f64 xb, .string b] 55)).cell? ⟨v3.heap.size + 1, 0, none⟩ = some (.int .i64 3) := by simp [go_sem]
          have n1 : ((v3.alloc (.cells #[.int .i64 3, .float .f64 xa, .string a] 55)).alloc (.cells #[.int .i64 3, .float .f64 xb, .string b] 55)).cell? ⟨v3.heap.size + 1, 1, none⟩ = some (.float .f64 xb) := by simp [go_sem]
          have n2 : ((v3.alloc (.cells #[.int .i64 3, .float .f64 xa, .string a] 55)).alloc (.cells #[.int .i64 3, .float .f64 xb, .string b] 55)).cell? ⟨v3.heap.size + 1, 2, none⟩ = some (.string b) := by simp [go_sem]
          have HB10 := Lib.hid (show Below w.heap.size w ((v3.alloc (.cells #[.int .i64 3, .float .f64 xa, .string a] 55)).alloc (.cells #[.int .i64 3, .float .f64 xb, .string b] 55)) from (HV3.out.alloc hz3 _).alloc (by simp; omega) _)
          go_wp2_with fail
          generalize (v3.alloc (.cells #[.int .i64 3, .float .f64 xa, .string a] 55)).alloc (.cells #[.int .i64 3, .float .f64 xb, .string b] 55) = W at *
          go_region_held3 (fun w' => w'.cell? ⟨v3.heap.size, 0, none⟩ = some (.int .i64 3) ∧ w'.cell? ⟨v3.heap.size, 1, none⟩ = some (.float .f64 xa) ∧ w'.cell? ⟨v3.heap.size, 2, none⟩ = some (.string a) ∧ w'.cell? ⟨v3.heap.size + 1, 0, none⟩ = some (.int .i64 3) ∧ w'.cell? ⟨v3.heap.size + 1, 1, none⟩ = some (.float .f64 xb) ∧ w'.cell? ⟨v3.heap.size + 1, 2, none⟩ = some (.string b)) (first | exact ⟨g0, g1, g2, n0, n1, n2⟩ | exact ⟨p0, p1, p2, q0, q1, q2⟩)
            (first
              | (go_at_call 30; refine (T1.out _).mono ?_; clear T1; rintro e w11 ⟨rfl, hb11⟩; have p0 := cell_next hb11 g0; have p1 := cell_next hb11 g1; have p2 := cell_next hb11 g2; have q0 := cell_next hb11 n0; have q1 := cell_next hb11 n1; have q2 := cell_next hb11 n2; have HB11 := Lib.hid (below_next (Nat.le_refl _) HB10.out hb11 (by first | exact .inl rfl | exact .inr rfl)))
              | (go_at_call 30; refine (T2.out _).mono ?_; clear T2; rintro e w12 ⟨rfl, hb12⟩; have p0 := cell_next hb12 p0; have p1 := cell_next hb12 p1; have p2 := cell_next hb12 p2; have q0 := cell_next hb12 q0; have q1 := cell_next hb12 q1; have q2 := cell_next hb12 q2; have HB12 := Lib.hid (below_next (Nat.le_refl _) HB11.out hb12 (by first | exact .inl rfl | exact .inr rfl)))
              | (go_at_call 27; refine (C1.out _).mono ?_; clear C1; rintro e w13 ⟨rfl, hb13⟩; have p0 := cell_next hb13 p0; have p1 := cell_next hb13 p1; have p2 := cell_next hb13 p2; have q0 := cell_next hb13 q0; have q1 := cell_next hb13 q1; have q2 := cell_next hb13 q2; have HB13 := Lib.hid (below_next (Nat.le_refl _) HB12.out hb13 (by first | exact .inl rfl | exact .inr rfl)))
              | (go_at_call 30; refine (T3.out _).mono ?_; clear T3; rintro e w14 ⟨rfl, hb14⟩; have p0 := cell_next hb14 p0; have p1 := cell_next hb14 p1; have p2 := cell_next hb14 p2; have q0 := cell_next hb14 q0; have q1 := cell_next hb14 q1; have q2 := cell_next hb14 q2; have HB14 := Lib.hid (below_next (Nat.le_refl _) HB13.out hb14 (by first | exact .inl rfl | exact .inr rfl)))
              | (go_at_call 27; refine (C2.out _).mono ?_; clear C2; rintro e w15 ⟨rfl, hb15⟩; have p0 := cell_next hb15 p0; have p1 := cell_next hb15 p1; have p2 := cell_next hb15 p2; have q0 := cell_next hb15 q0; have q1 := cell_next hb15 q1; have q2 := cell_next hb15 q2; have HB15 := Lib.hid (below_next (Nat.le_refl _) HB14.out hb15 (by first | exact .inl rfl | exact .inr rfl)))
              | (go_at_call 30; refine (T4.out _).mono ?_; clear T4; rintro e w16 ⟨rfl, hb16⟩; have p0 := cell_next hb16 p0; have p1 := cell_next hb16 p1; have p2 := cell_next hb16 p2; have q0 := cell_next hb16 q0; have q1 := cell_next hb16 q1; have q2 := cell_next hb16 q2; have HB16 := Lib.hid (below_next (Nat.le_refl _) HB15.out hb16 (by first | exact .inl rfl | exact .inr rfl)))
              | (go_at_call 27; refine (C3.out _).mono ?_; clear C3; rintro e w17 ⟨rfl, hb17⟩; have p0 := cell_next hb17 p0; have p1 := cell_next hb17 p1; have p2 := cell_next hb17 p2; have q0 := cell_next hb17 q0; have q1 := cell_next hb17 q1; have q2 := cell_next hb17 q2; have HB17 := Lib.hid (below_next (Nat.le_refl _) HB16.out hb17 (by first | exact .inl rfl | exact .inr rfl))))
          go_wp2_with fail
          refine (C4.out _).mono ?_
          rintro e w18 ⟨rfl, hb18⟩
          have p0 := cell_next hb18 p0
          have q0 := cell_next hb18 q0
          have p1 := cell_next hb18 p1
          have q1 := cell_next hb18 q1
          have p2 := cell_next hb18 p2
          have q2 := cell_next hb18 q2
          have HB18 := Lib.hid (below_next (Nat.le_refl _) HB17.out hb18 (by first | exact .inl rfl | exact .inr rfl))
          cases h1 : (FloatKind.f64.format.order xa xb == some .lt)
          · cases h2 : (FloatKind.f64.format.order xa xb == some .gt)
            · have hd : ordF xa xb = 0 := by unfold ordF; rw [h1, h2]; rfl
              rw [hd]
              go_wp2_with fail
              go_ret
              exact ⟨rfl, HB18.out⟩
            · have hd : ordF xa xb = 1 := by unfold ordF; rw [h1, h2]; rfl
              rw [hd]
              go_wp2_with fail
              go_ret
              exact ⟨rfl, HB18.out⟩
          · have h2 : (FloatKind.f64.format.order xa xb == some .gt) = false := by
              have h3 : FloatKind.f64.format.order xa xb = some .lt := by simpa using h1
              rw [h3]; rfl
            have hd : ordF xa xb = -1 := by unfold ordF; rw [h1]; rfl
            rw [hd]
            go_wp2_with fail
            go_ret
            exact ⟨rfl, HB18.out⟩
        · rw [hA] at HIa
          rw [hB] at HIb
          have C1 : Hid (∀ W, Calls Tryz.prog 27 #[.agg (cellA 2 0 a), .agg (cellA 2 0 b), .string c] W fun e w' => e = .returned (.int .i64 (1)) ∧ Below W.heap.size W w') := fun W => hcmp ▸ Compare_strs 2 2 0 0 a b c a b W (.inl rfl) (fun W' _ => Str_str 2 _ _ _ W' (.inl rfl)) (fun W' _ => Str_str 2 _ _ _ W' (.inl rfl))
          have C2 : Hid (∀ W, Calls Tryz.prog 27 #[.agg (cellA 2 0 a), .agg (cellA 3 xb b), .string c] W fun e w' => e = .returned (.int .i64 (1)) ∧ Below W.heap.size W w') := fun W => hcmp ▸ Compare_strs 2 3 0 xb a b c a b W (.inl rfl) (fun W' _ => Str_str 2 _ _ _ W' (.inl rfl)) (fun W' _ => Str_str 3 _ _ _ W' (.inr rfl))
          have C3 : Hid (∀ W, Calls Tryz.prog 27 #[.agg (cellA 3 xa a), .agg (cellA 2 0 b), .string c] W fun e w' => e = .returned (.int .i64 (1)) ∧ Below W.heap.size W w') := fun W => hcmp ▸ Compare_strs 3 2 xa 0 a b c a b W (.inr ⟨by decide, rfl⟩) (fun W' _ => Str_str 3 _ _ _ W' (.inr rfl)) (fun W' _ => Str_str 2 _ _ _ W' (.inl rfl))
          have C4 : Hid (∀ W, Calls Tryz.prog 27 #[.agg (cellA 3 xa a), .agg (cellA 3 xb b), .string c] W fun e w' => e = .returned (.int .i64 (ordF xa xb)) ∧ Below W.heap.size W w') := fun W => Compare_nums 3 3 xa xb a b c W (.inr rfl) (.inr rfl) ox oy
          unfold cellA at HIa HIb T1 T2 T3 T4 C1 C2 C3 C4
          clear hcmp hA hB ox oy
          go_enter Tryz.func11, Tryz.ntmps11
          go_wp2_with fail
          refine HF.out.mono ?_
          rintro e v1 ⟨rfl, hb⟩
          have HV1 := Lib.hid hb
          clear hb
          go_wp2_with fail
          refine (HIa.out _).mono ?_
          rintro e v2 ⟨rfl, hb⟩
          have HV2 := Lib.hid (HV1.out.trans (hb.mono HV1.out.size))
          clear hb
          go_wp2_with fail
          refine (HIb.out _).mono ?_
          rintro e v3 ⟨rfl, hb⟩
          have HV3 := Lib.hid (HV2.out.trans (hb.mono HV2.out.size))
          clear hb
          have hz3 := HV3.out.size
          have g0 : ((v3.alloc (.cells #[.int .i64 3, .float .f64 xa, .string a] 55)).alloc (.cells #[.int .i64 3, .float .f64 xb, .string b] 55)).cell? ⟨v3.heap.size, 0, none⟩ = some (.int .i64 3) := by simp [go_sem]
          have g1 : ((v3.alloc (.cells #[.int .i64 3, .float .f64 xa, .string a] 55)).alloc (.cells #[.int .i64 3, .float .f64 xb, .string b] 55)).cell? ⟨v3.heap.size, 1, none⟩ = some (.float .f64 xa) := by simp [go_sem]
          have g2 : ((v3.alloc (.cells #[.int .i64 3, .float .f64 xa, .string a] 55)).alloc (.cells #[.int .i64 3, .float .f64 xb, .string b] 55)).cell? ⟨v3.heap.size, 2, none⟩ = some (.string a) := by simp [go_sem]
          have n0 : ((v3.alloc (.cells #[.int .i64 3, .float .f64 xa, .string a] 55)).alloc (.cells #[.int .i64 3, .float .f64 xb, .string b] 55)).cell? ⟨v3.heap.size + 1, 0, none⟩ = some (.int .i64 3) := by simp [go_sem]
          have n1 : ((v3.alloc (.cells #[.int .i64 3, .float .f64 xa, .string a] 55)).alloc (.cells #[.int .i64 3, .float .f64 xb, .string b] 55)).cell? ⟨v3.heap.size + 1, 1, none⟩ = some (.float .f64 xb) := by simp [go_sem]
          have n2 : ((v3.alloc (.cells #[.int .i64 3, .float .f64 xa, .string a] 55)).alloc (.cells #[.int .i64 3, .float .f64 xb, .string b] 55)).cell? ⟨v3.heap.size + 1, 2, none⟩ = some (.string b) := by simp [go_sem]
          have HB10 := Lib.hid (show Below w.heap.size w ((v3.alloc (.cells #[.int .i64 3, .float .f64 xa, .string a] 55)).alloc (.cells #[.int .i64 3, .float .f64 xb, .string b] 55)) from (HV3.out.alloc hz3 _).alloc (by simp; omega) _)
          go_wp2_with fail
          generalize (v3.alloc (.cells #[.int .i64 3, .float .f64 xa, .string a] 55)).alloc (.cells #[.int .i64 3, .float .f64 xb, .string b] 55) = W at *
          go_region_held3 (fun w' => w'.cell? ⟨v3.heap.size, 0, none⟩ = some (.int .i64 3) ∧ w'.cell? ⟨v3.heap.size, 1, none⟩ = some (.float .f64 xa) ∧ w'.cell? ⟨v3.heap.size, 2, none⟩ = some (.string a) ∧ w'.cell? ⟨v3.heap.size + 1, 0, none⟩ = some (.int .i64 3) ∧ w'.cell? ⟨v3.heap.size + 1, 1, none⟩ = some (.float .f64 xb) ∧ w'.cell? ⟨v3.heap.size + 1, 2, none⟩ = some (.string b)) (first | exact ⟨g0, g1, g2, n0, n1, n2⟩ | exact ⟨p0, p1, p2, q0, q1, q2⟩)
            (first
              | (go_at_call 30; refine (T1.out _).mono ?_; clear T1; rintro e w11 ⟨rfl, hb11⟩; have p0 := cell_next hb11 g0; have p1 := cell_next hb11 g1; have p2 := cell_next hb11 g2; have q0 := cell_next hb11 n0; have q1 := cell_next hb11 n1; have q2 := cell_next hb11 n2; have HB11 := Lib.hid (below_next (Nat.le_refl _) HB10.out hb11 (by first | exact .inl rfl | exact .inr rfl)))
              | (go_at_call 30; refine (T2.out _).mono ?_; clear T2; rintro e w12 ⟨rfl, hb12⟩; have p0 := cell_next hb12 p0; have p1 := cell_next hb12 p1; have p2 := cell_next hb12 p2; have q0 := cell_next hb12 q0; have q1 := cell_next hb12 q1; have q2 := cell_next hb12 q2; have HB12 := Lib.hid (below_next (Nat.le_refl _) HB11.out hb12 (by first | exact .inl rfl | exact .inr rfl)))
              | (go_at_call 27; refine (C1.out _).mono ?_; clear C1; rintro e w13 ⟨rfl, hb13⟩; have p0 := cell_next hb13 p0; have p1 := cell_next hb13 p1; have p2 := cell_next hb13 p2; have q0 := cell_next hb13 q0; have q1 := cell_next hb13 q1; have q2 := cell_next hb13 q2; have HB13 := Lib.hid (below_next (Nat.le_refl _) HB12.out hb13 (by first | exact .inl rfl | exact .inr rfl)))
              | (go_at_call 30; refine (T3.out _).mono ?_; clear T3; rintro e w14 ⟨rfl, hb14⟩; have p0 := cell_next hb14 p0; have p1 := cell_next hb14 p1; have p2 := cell_next hb14 p2; have q0 := cell_next hb14 q0; have q1 := cell_next hb14 q1; have q2 := cell_next hb14 q2; have HB14 := Lib.hid (below_next (Nat.le_refl _) HB13.out hb14 (by first | exact .inl rfl | exact .inr rfl)))
              | (go_at_call 27; refine (C2.out _).mono ?_; clear C2; rintro e w15 ⟨rfl, hb15⟩; have p0 := cell_next hb15 p0; have p1 := cell_next hb15 p1; have p2 := cell_next hb15 p2; have q0 := cell_next hb15 q0; have q1 := cell_next hb15 q1; have q2 := cell_next hb15 q2; have HB15 := Lib.hid (below_next (Nat.le_refl _) HB14.out hb15 (by first | exact .inl rfl | exact .inr rfl)))
              | (go_at_call 30; refine (T4.out _).mono ?_; clear T4; rintro e w16 ⟨rfl, hb16⟩; have p0 := cell_next hb16 p0; have p1 := cell_next hb16 p1; have p2 := cell_next hb16 p2; have q0 := cell_next hb16 q0; have q1 := cell_next hb16 q1; have q2 := cell_next hb16 q2; have HB16 := Lib.hid (below_next (Nat.le_refl _) HB15.out hb16 (by first | exact .inl rfl | exact .inr rfl)))
              | (go_at_call 27; refine (C3.out _).mono ?_; clear C3; rintro e w17 ⟨rfl, hb17⟩; have p0 := cell_next hb17 p0; have p1 := cell_next hb17 p1; have p2 := cell_next hb17 p2; have q0 := cell_next hb17 q0; have q1 := cell_next hb17 q1; have q2 := cell_next hb17 q2; have HB17 := Lib.hid (below_next (Nat.le_refl _) HB16.out hb17 (by first | exact .inl rfl | exact .inr rfl))))
          go_wp2_with fail
          refine (C4.out _).mono ?_
          rintro e w18 ⟨rfl, hb18⟩
          have p0 := cell_next hb18 p0
          have q0 := cell_next hb18 q0
          have p1 := cell_next hb18 p1
          have q1 := cell_next hb18 q1
          have p2 := cell_next hb18 p2
          have q2 := cell_next hb18 q2
          have HB18 := Lib.hid (below_next (Nat.le_refl _) HB17.out hb18 (by first | exact .inl rfl | exact .inr rfl))
          cases h1 : (FloatKind.f64.format.order xa xb == some .lt)
          · cases h2 : (FloatKind.f64.format.order xa xb == some .gt)
            · have hd : ordF xa xb = 0 := by unfold ordF; rw [h1, h2]; rfl
              rw [hd]
              go_wp2_with fail
              go_ret
              exact ⟨rfl, HB18.out⟩
            · have hd : ordF xa xb = 1 := by unfold ordF; rw [h1, h2]; rfl
              rw [hd]
              go_wp2_with fail
              go_ret
              exact ⟨rfl, HB18.out⟩
          · have h2 : (FloatKind.f64.format.order xa xb == some .gt) = false := by
              have h3 : FloatKind.f64.format.order xa xb = some .lt := by simpa using h1
              rw [h3]; rfl
            have hd : ordF xa xb = -1 := by unfold ordF; rw [h1]; rfl
            rw [hd]
            go_wp2_with fail
            go_ret
            exact ⟨rfl, HB18.out⟩
        · rw [hA] at HIa
          rw [hB] at HIb
          have C1 : Hid (∀ W, Calls Tryz.prog 27 #[.agg (cellA 2 0 a), .agg (cellA 2 0 b), .string c] W fun e w' => e = .returned (.int .i64 (0)) ∧ Below W.heap.size W w') := fun W => hcmp ▸ Compare_strs 2 2 0 0 a b c a b W (.inl rfl) (fun W' _ => Str_str 2 _ _ _ W' (.inl rfl)) (fun W' _ => Str_str 2 _ _ _ W' (.inl rfl))
          have C2 : Hid (∀ W, Calls Tryz.prog 27 #[.agg (cellA 2 0 a), .agg (cellA 3 xb b), .string c] W fun e w' => e = .returned (.int .i64 (0)) ∧ Below W.heap.size W w') := fun W => hcmp ▸ Compare_strs 2 3 0 xb a b c a b W (.inl rfl) (fun W' _ => Str_str 2 _ _ _ W' (.inl rfl)) (fun W' _ => Str_str 3 _ _ _ W' (.inr rfl))
          have C3 : Hid (∀ W, Calls Tryz.prog 27 #[.agg (cellA 3 xa a), .agg (cellA 2 0 b), .string c] W fun e w' => e = .returned (.int .i64 (0)) ∧ Below W.heap.size W w') := fun W => hcmp ▸ Compare_strs 3 2 xa 0 a b c a b W (.inr ⟨by decide, rfl⟩) (fun W' _ => Str_str 3 _ _ _ W' (.inr rfl)) (fun W' _ => Str_str 2 _ _ _ W' (.inl rfl))
          have C4 : Hid (∀ W, Calls Tryz.prog 27 #[.agg (cellA 3 xa a), .agg (cellA 3 xb b), .string c] W fun e w' => e = .returned (.int .i64 (ordF xa xb)) ∧ Below W.heap.size W w') := fun W => Compare_nums 3 3 xa xb a b c W (.inr rfl) (.inr rfl) ox oy
          unfold cellA at HIa HIb T1 T2 T3 T4 C1 C2 C3 C4
          clear hcmp hA hB ox oy
          go_enter Tryz.func11, Tryz.ntmps11
          go_wp2_with fail
          refine HF.out.mono ?_
          rintro e v1 ⟨rfl, hb⟩
          have HV1 := Lib.hid hb
          clear hb
          go_wp2_with fail
          refine (HIa.out _).mono ?_
          rintro e v2 ⟨rfl, hb⟩
          have HV2 := Lib.hid (HV1.out.trans (hb.mono HV1.out.size))
          clear hb
          go_wp2_with fail
          refine (HIb.out _).mono ?_
          rintro e v3 ⟨rfl, hb⟩
          have HV3 := Lib.hid (HV2.out.trans (hb.mono HV2.out.size))
          clear hb
          have hz3 := HV3.out.size
          have g0 : ((v3.alloc (.cells #[.int .i64 3, .float .f64 xa, .string a] 55)).alloc (.cells #[.int .i64 3, .float .f64 xb, .string b] 55)).cell? ⟨v3.heap.size, 0, none⟩ = some (.int .i64 3) := by simp [go_sem]
          have g1 : ((v3.alloc (.cells #[.int .i64 3, .float .f64 xa, .string a] 55)).alloc (.cells #[.int .i64 3, .float .f64 xb, .string b] 55)).cell? ⟨v3.heap.size, 1, none⟩ = some (.float .f64 xa) := by simp [go_sem]
          have g2 : ((v3.alloc (.cells #[.int .i64 3, .float .f64 xa, .string a] 55)).alloc (.cells #[.int .i64 3, .float .f64 xb, .string b] 55)).cell? ⟨v3.heap.size, 2, none⟩ = some (.string a) := by simp [go_sem]
          have n0 : ((v3.alloc (.cells #[.int .i64 3, .float .f64 xa, .string a] 55)).alloc (.cells #[.int .i64 3, .float .f64 xb, .string b] 55)).cell? ⟨v3.heap.size + 1, 0, none⟩ = some (.int .i64 3) := by simp [go_sem]
          have n1 : ((v3.alloc (.cells #[.int .i64 3, .float .f64 xa, .string a] 55)).alloc (.cells #[.int .i64 3, .float .f64 xb, .string b] 55)).cell? ⟨v3.heap.size + 1, 1, none⟩ = some (.float .f64 xb) := by simp [go_sem]
          have n2 : ((v3.alloc (.cells #[.int .i64 3, .float .f64 xa, .string a] 55)).alloc (.cells #[.int .i64 3, .float .f64 xb, .string b] 55)).cell? ⟨v3.heap.size + 1, 2, none⟩ = some (.string b) := by simp [go_sem]
          have HB10 := Lib.hid (show Below w.heap.size w ((v3.alloc (.cells #[.int .i64 3, .float .f64 xa, .string a] 55)).alloc (.cells #[.int .i64 3, .float .f64 xb, .string b] 55)) from (HV3.out.alloc hz3 _).alloc (by simp; omega) _)
          go_wp2_with fail
          generalize (v3.alloc (.cells #[.int .i64 3, .float .f64 xa, .string a] 55)).alloc (.cells #[.int .i64 3, .float .f64 xb, .string b] 55) = W at *
          go_region_held3 (fun w' => w'.cell? ⟨v3.heap.size, 0, none⟩ = some (.int .i64 3) ∧ w'.cell? ⟨v3.heap.size, 1, none⟩ = some (.float .f64 xa) ∧ w'.cell? ⟨v3.heap.size, 2, none⟩ = some (.string a) ∧ w'.cell? ⟨v3.heap.size + 1, 0, none⟩ = some (.int .i64 3) ∧ w'.cell? ⟨v3.heap.size + 1, 1, none⟩ = some (.float .f64 xb) ∧ w'.cell? ⟨v3.heap.size + 1, 2, none⟩ = some (.string b)) (first | exact ⟨g0, g1, g2, n0, n1, n2⟩ | exact ⟨p0, p1, p2, q0, q1, q2⟩)
            (first
              | (go_at_call 30; refine (T1.out _).mono ?_; clear T1; rintro e w11 ⟨rfl, hb11⟩; have p0 := cell_next hb11 g0; have p1 := cell_next hb11 g1; have p2 := cell_next hb11 g2; have q0 := cell_next hb11 n0; have q1 := cell_next hb11 n1; have q2 := cell_next hb11 n2; have HB11 := Lib.hid (below_next (Nat.le_refl _) HB10.out hb11 (by first | exact .inl rfl | exact .inr rfl)))
              | (go_at_call 30; refine (T2.out _).mono ?_; clear T2; rintro e w12 ⟨rfl, hb12⟩; have p0 := cell_next hb12 p0; have p1 := cell_next hb12 p1; have p2 := cell_next hb12 p2; have q0 := cell_next hb12 q0; have q1 := cell_next hb12 q1; have q2 := cell_next hb12 q2; have HB12 := Lib.hid (below_next (Nat.le_refl _) HB11.out hb12 (by first | exact .inl rfl | exact .inr rfl)))
              | (go_at_call 27; refine (C1.out _).mono ?_; clear C1; rintro e w13 ⟨rfl, hb13⟩; have p0 := cell_next hb13 p0; have p1 := cell_next hb13 p1; have p2 := cell_next hb13 p2; have q0 := cell_next hb13 q0; have q1 := cell_next hb13 q1; have q2 := cell_next hb13 q2; have HB13 := Lib.hid (below_next (Nat.le_refl _) HB12.out hb13 (by first | exact .inl rfl | exact .inr rfl)))
              | (go_at_call 30; refine (T3.out _).mono ?_; clear T3; rintro e w14 ⟨rfl, hb14⟩; have p0 := cell_next hb14 p0; have p1 := cell_next hb14 p1; have p2 := cell_next hb14 p2; have q0 := cell_next hb14 q0; have q1 := cell_next hb14 q1; have q2 := cell_next hb14 q2; have HB14 := Lib.hid (below_next (Nat.le_refl _) HB13.out hb14 (by first | exact .inl rfl | exact .inr rfl)))
              | (go_at_call 27; refine (C2.out _).mono ?_; clear C2; rintro e w15 ⟨rfl, hb15⟩; have p0 := cell_next hb15 p0; have p1 := cell_next hb15 p1; have p2 := cell_next hb15 p2; have q0 := cell_next hb15 q0; have q1 := cell_next hb15 q1; have q2 := cell_next hb15 q2; have HB15 := Lib.hid (below_next (Nat.le_refl _) HB14.out hb15 (by first | exact .inl rfl | exact .inr rfl)))
              | (go_at_call 30; refine (T4.out _).mono ?_; clear T4; rintro e w16 ⟨rfl, hb16⟩; have p0 := cell_next hb16 p0; have p1 := cell_next hb16 p1; have p2 := cell_next hb16 p2; have q0 := cell_next hb16 q0; have q1 := cell_next hb16 q1; have q2 := cell_next hb16 q2; have HB16 := Lib.hid (below_next (Nat.le_refl _) HB15.out hb16 (by first | exact .inl rfl | exact .inr rfl)))
              | (go_at_call 27; refine (C3.out _).mono ?_; clear C3; rintro e w17 ⟨rfl, hb17⟩; have p0 := cell_next hb17 p0; have p1 := cell_next hb17 p1; have p2 := cell_next hb17 p2; have q0 := cell_next hb17 q0; have q1 := cell_next hb17 q1; have q2 := cell_next hb17 q2; have HB17 := Lib.hid (below_next (Nat.le_refl _) HB16.out hb17 (by first | exact .inl rfl | exact .inr rfl))))
          go_wp2_with fail
          refine (C4.out _).mono ?_
          rintro e w18 ⟨rfl, hb18⟩
          have p0 := cell_next hb18 p0
          have q0 := cell_next hb18 q0
          have p1 := cell_next hb18 p1
          have q1 := cell_next hb18 q1
          have p2 := cell_next hb18 p2
          have q2 := cell_next hb18 q2
          have HB18 := Lib.hid (below_next (Nat.le_refl _) HB17.out hb18 (by first | exact .inl rfl | exact .inr rfl))
          cases h1 : (FloatKind.f64.format.order xa xb == some .lt)
          · cases h2 : (FloatKind.f64.format.order xa xb == some .gt)
            · have hd : ordF xa xb = 0 := by unfold ordF; rw [h1, h2]; rfl
              rw [hd]
              go_wp2_with fail
              go_ret
              exact ⟨rfl, HB18.out⟩
            · have hd : ordF xa xb = 1 := by unfold ordF; rw [h1, h2]; rfl
              rw [hd]
              go_wp2_with fail
              go_ret
              exact ⟨rfl, HB18.out⟩
          · have h2 : (FloatKind.f64.format.order xa xb == some .gt) = false := by
              have h3 : FloatKind.f64.format.order xa xb = some .lt := by simpa using h1
              rw [h3]; rfl
            have hd : ordF xa xb = -1 := by unfold ordF; rw [h1]; rfl
            rw [hd]
            go_wp2_with fail
            go_ret
            exact ⟨rfl, HB18.out⟩
end Go.Proofs.YtjldeckcfdeklaaGreatDoor
