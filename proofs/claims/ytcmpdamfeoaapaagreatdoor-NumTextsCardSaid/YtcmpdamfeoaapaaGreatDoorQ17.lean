/- The document's answer of package num (thresherref04): value. -/
import Derived.Test.YtcmpdamfeoaapaaGreatDoorQ14
import Derived.Test.YtcmpdamfeoaapaaGreatDoorQ9
import Derived.Test.YtcmpdamfeoaapaaGreatDoorR18
namespace Go.Proofs.YtcmpdamfeoaapaaGreatDoor
open Go.RowKit
set_option linter.unusedVariables false

/-- bytes in a row, from a place on -/
structure BytesAt (w : World) (g off n c : Nat) (L : List UInt8) : Prop where
  len : L.length = n
  le : n ≤ c
  max : c ≤ 9223372036854775807
  cell : ∀ j (h : j < L.length), w.cell? ⟨g, off + j, none⟩ = some (.int .u8 (L[j].toNat : Nat))
theorem BytesAt.drop {w : World} {g off n c : Nat} {L : List UInt8} (h : BytesAt w g off n c L) (k : Nat) (hk : k ≤ n) : BytesAt w g (off + k) (n - k) (c - k) (L.drop k) := by
  refine ⟨by simp [h.len], by have := h.le; omega, by have := h.max; omega, fun j hj => ?_⟩
  have hl := h.len
  have hj2 : k + j < L.length := by simp at hj; omega
  rw [List.getElem_drop, show off + k + j = off + (k + j) by omega]
  exact h.cell (k + j) hj2
theorem BytesAt.take {w : World} {g off n c : Nat} {L : List UInt8} (h : BytesAt w g off n c L) (k : Nat) (hk : k ≤ n) : BytesAt w g off k c (L.take k) := by
  refine ⟨by simp [h.len, hk], by have := h.le; omega, h.max, fun j hj => ?_⟩
  rw [List.getElem_take]
  exact h.cell j (by simp at hj; omega)
theorem BytesAt.below {w w' : World} {g off n c B : Nat} {L : List UInt8} (h : BytesAt w g off n c L) (hb : Below B w w') (hg : g < B) : BytesAt w' g off n c L :=
  ⟨h.len, h.le, h.max, fun j hj => (hb.cell hg).trans (h.cell j hj)⟩

/-- append of a row of bytes -/
theorem wpList_appBn (w : World) {ops : Array Oper} {rest : List Oper} {o : Oper} {a : Act} {Q : Exit → Act → World → Prop} (hg : o.guard = none) (s x : Operand) (ho : o.op = .call { callee := .builtin .append, args := #[s, x], argTypes := #[93, 93] })
    (base : Nat) (v : Value) (L : List Nat) (hs : a.eval s = v) (hown : OwnB w base v L) (g off n c : Nat) (K : List UInt8) (hx : a.eval x = .slice (some ⟨g, off, none⟩) n c) (hc : BytesAt w g off n c K)
    (hbase : base ≤ w.heap.size) (hlen : L.length + n ≤ 1000000000)
    (hK : ∀ v' w', OwnB w' base v' (L ++ K.map (·.toNat)) → w.grownBy w' v.ownBlock → wpList Tryz.prog ops Q rest (a.put o.dst v') w') : wpList Tryz.prog ops Q (o :: rest) a w := by
  obtain ⟨i0, hi, hz0, hz1, hz2⟩ := info_parts infoB
  have hl := hc.len
  refine wpList_append_own w hg s x 93 ho base 5 i0 (.int .u8 0) 1 1 undB hi hz0 hz1 hz2 rfl (by decide) v L.length (cellsB L) hs hown.own ⟨g, off, none⟩ n c (cellsB (K.map (·.toNat))) hx (by simp [cellsB, hl]) ?_ ?_ ?_ ?_ hbase ?_
  · intro j u hj
    rw [add_plain']
    have hjl : j < K.length := by
      have := (List.getElem?_eq_some_iff.1 hj).1; simpa [cellsB] using this
    rw [hc.cell j hjl, ← hj]
    simp [cellsB, hjl]
  · intro u hu
    unfold cellsB at hu
    obtain ⟨_, _, rfl⟩ := List.mem_map.1 hu
    rfl
  · simp [maxLen]; omega
  · omega
  · intro v' w' ho hgr _
    refine hK v' w' ⟨?_, ?_⟩ hgr
    · intro z hz
      rcases List.mem_append.1 hz with hz | hz
      · exact hown.lt z hz
      · obtain ⟨b, _, rfl⟩ := List.mem_map.1 hz; exact UInt8.toNat_lt _
    · have e : cellsB (L ++ K.map (·.toNat)) = cellsB L ++ cellsB (K.map (·.toNat)) := by simp [cellsB]
      rw [e]; simpa [hl] using ho
theorem ownB_empty (w : World) : OwnB (w.alloc (.cells #[] 5)) w.heap.size (.slice (some ⟨w.heap.size, 0, none⟩) 0 0) [] :=
  ⟨by simp, rfl, .inr ⟨w.heap.size, 0, #[], rfl, Nat.le_refl _, heap_alloc_at w _, Nat.le_refl _, Nat.zero_le _, rfl, rfl⟩⟩

theorem value_fin (L : List UInt8) (e : Int) (hd : Digits L) (hl : L.length ≤ 3600) (k : Nat) (hz : ∀ c ∈ L.take k, c = 48) (hk : k < L.length) (hne : (L.drop k).head? ≠ some 48) : bare L = L.drop k := by
  have e1 : L = L.take k ++ L.drop k := (List.take_append_drop k L).symm
  have h1 : bare (L.take k ++ L.drop k) = bare (L.drop k) := by
    unfold bare
    rw [List.dropWhile_append_of_pos]
    intro a ha; simp [hz a ha]
  rw [← e1] at h1
  rw [h1]
  cases hdr : L.drop k with
  | nil => rfl
  | cons c r =>
    rw [hdr] at hne
    exact bare_self (fun h => hne (by simp [h]))

set_option maxRecDepth 100000 in
set_option maxHeartbeats 8000000 in
theorem value_any (g off n c : Nat) (L : List UInt8) (x : Int) (w : World) (h : BytesAt w g off n c L) (hd : Digits L) (hn : n ≤ 3600) (hn0 : 0 < n) (hg : g < w.heap.size) (hx1 : -1000000000 ≤ x) (hx2 : x ≤ 1000000000) :
    Calls Tryz.prog 70 #[.slice (some ⟨g, off, none⟩) n c, .int .i64 x] w fun e w' => e = .returned (.float .f64 (numV L x)) ∧ Below w.heap.size w w' := by
  have hle := h.le
  have hmx := h.max
  have hlen := h.len
  have HV : Hid (valR L x = numV L x) := valR_val hd (by omega)
  have HZ0 : Hid ((∀ b ∈ L, b = 48) → numV L x = 0) := by
    intro hz
    unfold numV
    rw [if_pos]
    rw [List.eq_replicate_iff.2 ⟨rfl, hz⟩, digVal_noughts]
  generalize numV L x = R at *
  have HLn := Lib.hid hlen
  have H := Lib.hid h
  have HD := Lib.hid hd
  clear h hd hlen
  go_enter Tryz.func70, Tryz.ntmps70
  go_wp2_with fail
  go_loop [5] (fun v => ∃ k : Nat, v = .int .i64 (k : Int) ∧ k ≤ n ∧ Hid (∀ b ∈ L.take k, b = 48)) (fun v => n - (intOf v).toNat)
  case atStart => exact ⟨0, rfl, Nat.zero_le _, fun b hb => by simp at hb⟩
  case round =>
    obtain ⟨k, rfl, hk, HZ⟩ := hrel
    by_cases hkn : k = n
    · -- all noughts
      have hv0 : R = 0 := HZ0.out fun b hb => HZ.out b (by rw [List.take_of_length_le (by rw [HLn.out]; omega)]; exact hb)
      have HV0 := Lib.hid hv0
      subst hkn
      clear HZ hv0 HV HZ0
      by_cases hkc : k = c
      · subst hkc
        go_wp2_with fail
        go_ret
        exact ⟨by rw [HV0.out]; rfl, Below.refl _ _⟩
      · have hkc2 : (k : Int) < (c : Int) := by omega
        go_wp2_with fail
        go_ret
        exact ⟨by rw [HV0.out]; rfl, Below.refl _ _⟩
    have hkl : k < n := by omega
    have hkL : k < L.length := by rw [HLn.out]; exact hkl
    have hck := H.out.cell k hkL
    have hkI : (k : Int) < (n : Int) := by omega
    by_cases h48 : L[k] = 48
    · rw [h48] at hck
      have hck' : w.cell? ⟨g, off + k, none⟩ = some (.int .u8 48) := hck
      have HZ1 : Hid (∀ b ∈ L.take (k + 1), b = 48) := by
        intro b hb
        rw [List.take_succ_eq_append_getElem hkL] at hb
        rcases List.mem_append.1 hb with h | h
        · exact HZ.out b h
        · obtain rfl := List.mem_singleton.1 h; exact h48
      clear HZ h48 hck
      go_wp2_with fail
      go_round
      case rel => exact ⟨k + 1, by go_num, by omega, HZ1⟩
      case measure => simp only [intOf]; omega
    · have hbr : bare L = L.drop k := value_fin L x HD.out (by rw [HLn.out]; exact hn) k HZ.out hkL (by rw [List.drop_eq_getElem_cons hkL]; intro h; exact h48 (Option.some.inj h))
      have hbb : ((L[k].toNat : Int) == 48) = false := beq_eq_false_iff_ne.2 (by
        intro hh
        exact h48 (UInt8.toNat_inj.1 (by show _ = 48; omega)))
      have HB : Hid (BytesAt w g (off + k) (n - k) (c - k) (L.drop k)) := H.out.drop k (by omega)
      have HDd : Hid (Digits (L.drop k)) := digits_drop HD.out k
      have hvv := HV.out
      unfold valR at hvv
      rw [hbr, if_neg (by intro h0; have := congrArg List.length h0; simp [HLn.out] at this; omega)] at hvv
      have HLd : Hid ((L.drop k).length = n - k) := by show _ = _; simp [HLn.out]
      rw [HLd.out] at hvv
      dsimp only at hvv
      generalize L[k].toNat = ck at *
      generalize L.drop k = M at *
      obtain ⟨m, hm⟩ : ∃ m, m = n - k := ⟨_, rfl⟩
      obtain ⟨d, hdd⟩ : ∃ d, d = c - k := ⟨_, rfl⟩
      obtain ⟨o, ho⟩ : ∃ o, o = off + k := ⟨_, rfl⟩
      rw [← hm] at HB HLd hvv
      rw [← hdd, ← ho] at HB
      rw [← ho] at hck
      have hmI : (n : Int) - (k : Int) = (m : Int) := by omega
      have hdI : (c : Int) - (k : Int) = (d : Int) := by omega
      have hm1 : 0 < m := by omega
      have hm2 : m ≤ 3600 := by omega
      have hmd : m ≤ d := by omega
      have hkc2 : (k : Int) < (c : Int) := by omega
      have e1 : n - k = m := hm.symm
      have e2 : c - k = d := hdd.symm
      have e3 : off + k = o := ho.symm
      have HVV := Lib.hid hvv
      clear hvv hbr h48 HZ H HD HV HLn hkL hm hdd ho HZ0
      by_cases h1000 : m ≤ 1000
      · have hmI2 : (m : Int) ≤ 1000 := by omega
        have hvv := HVV.out
        rw [if_pos h1000, if_pos h1000] at hvv
        have HV2 := Lib.hid hvv
        clear hvv HVV
        by_cases hlo : x + (m : Int) < -400
        · have HR0 : Hid (R = 0) := by have := HV2.out; rw [if_pos (by rw [HLd.out]; exact hlo)] at this; exact this.symm
          go_wp2_with fail
          go_ret
          exact ⟨by rw [HR0.out]; rfl, Below.refl _ _⟩
        have hloJ : decide (x + (m : Int) < -400) = false := by simp; omega
        by_cases hhi : 400 < x + (m : Int)
        · have HR0 : Hid (R = 9218868437227405312) := by have := HV2.out; rw [if_neg (by rw [HLd.out]; exact hlo), if_pos (by rw [HLd.out]; exact hhi)] at this; exact this.symm
          clear hlo
          go_wp2_with fail
          go_ret
          exact ⟨by rw [HR0.out]; rfl, Below.refl _ _⟩
        have HR0 : Hid (R = readB M x) := by have := HV2.out; rw [if_neg (by rw [HLd.out]; exact hlo), if_neg (by rw [HLd.out]; exact hhi)] at this; exact this.symm
        have hhiJ : decide (400 < x + (m : Int)) = false := by simp; omega
        have HRd := Lib.hid (fun W => Read3_ok ⟨M.toArray⟩ x W (by intro h0; have := HLd.out; have h0' : M = [] := by simpa using h0
                                                                   rw [h0'] at this; simp at this; omega) (by simpa using HDd.out) (by have := HLd.out; simp; omega))
        simp only [List.toList_toArray] at HRd
        rw [← HR0.out] at HRd
        clear hlo hhi HV2
        go_wp2_with (refine wpList_stringAt _ rfl _ rfl g o m d M (by simp [go_sem]) HLd.out.symm HB.out.cell ?_)
        go_wp2_with fail
        refine (HRd.out _).mono ?_
        rintro e w1 ⟨rfl, hb1⟩
        have HB1 := Lib.hid hb1
        clear hb1
        go_wp2_with fail
        go_ret
        exact ⟨rfl, HB1.out⟩
      · have hmI2 : (1000 : Int) < (m : Int) := by omega
        have hvv := HVV.out
        rw [if_neg h1000, if_neg h1000] at hvv
        have HV2 := Lib.hid hvv
        clear hvv HVV
        go_wp2_with fail
        go_loop [6, 7] (fun rv jv => ∃ (r j : Nat), rv = .int .u8 (r : Int) ∧ jv = .int .i64 (j : Int) ∧ 1000 ≤ j ∧ j ≤ m ∧ (r = 48 ∨ r = 49) ∧ Hid (r = 48 ↔ ∀ b ∈ (M.take j).drop 1000, b = 48)) (fun _ jv => m - (intOf jv).toNat)
        case atStart => exact ⟨48, 1000, rfl, rfl, Nat.le_refl _, by omega, .inl rfl, by
          show _ ↔ _
          refine ⟨fun _ b hb => ?_, fun _ => rfl⟩
          rw [List.drop_of_length_le (by rw [List.length_take]; omega)] at hb
          cases hb⟩
        case round =>
          obtain ⟨r, j, rfl, rfl, hj1, hj2, hr, HR⟩ := hrel
          by_cases hjm : j < m
          · have hjM : j < M.length := by rw [HLd.out]; exact hjm
            have hcj := HB.out.cell j hjM
            have hjI : (j : Int) < (m : Int) := by omega
            have htk : (M.take (j + 1)).drop 1000 = (M.take j).drop 1000 ++ [M[j]] := by
              rw [List.take_succ_eq_append_getElem hjM, List.drop_append_of_le_length (by rw [List.length_take]; omega)]
            by_cases h48 : M[j] = 48
            · rw [h48] at hcj htk
              have hcj' : w.cell? ⟨g, o + j, none⟩ = some (.int .u8 48) := hcj
              have HR1 : Hid (r = 48 ↔ ∀ b ∈ (M.take (j + 1)).drop 1000, b = 48) := by
                show _ ↔ _
                rw [HR.out, htk]
                constructor
                · intro h b hb
                  rcases List.mem_append.1 hb with hb | hb
                  · exact h b hb
                  · exact List.mem_singleton.1 hb
                · intro h b hb
                  exact h b (List.mem_append.2 (.inl hb))
              clear HR h48 hcj htk hjM
              go_wp2_with fail
              go_round
              case rel => exact ⟨r, j + 1, rfl, by go_num, by omega, by omega, hr, HR1⟩
              case measure => simp only [intOf]; omega
            · have hcb : ((M[j].toNat : Int) != 48) = true := by
                rw [bne_iff_ne]
                intro hh
                exact h48 (UInt8.toNat_inj.1 (by show _ = 48; omega))
              have HR1 : Hid (49 = 48 ↔ ∀ b ∈ (M.take (j + 1)).drop 1000, b = 48) := by
                show _ ↔ _
                refine ⟨fun h => by omega, fun h => absurd (h M[j] ?_) h48⟩
                rw [htk]; exact List.mem_append.2 (.inr (List.mem_singleton.2 rfl))
              generalize M[j].toNat = cj at *
              clear HR h48 htk hjM
              go_wp2_with fail
              go_round
              case rel => exact ⟨49, j + 1, rfl, by go_num, by omega, by omega, .inr rfl, HR1⟩
              case measure => simp only [intOf]; omega
          · obtain rfl : j = m := by omega
            have hjI : (j : Int) ≤ (j : Int) := Int.le_refl _
            have hr1 : r < 256 := by omega
            have HVr : Hid (R = if (x + (j : Int) - 1001) + 1001 < -400 then 0 else if 400 < (x + (j : Int) - 1001) + 1001 then 9218868437227405312 else readB (M.take 1000 ++ [UInt8.ofNat r]) (x + (j : Int) - 1001)) := by
              show _ = _
              rw [← HV2.out]
              have hrr := HR.out
              rw [List.take_of_length_le (by rw [HLd.out]; exact Nat.le_refl _)] at hrr
              have e9 : (if ∀ c ∈ M.drop 1000, c = 48 then (48 : UInt8) else 49) = UInt8.ofNat r := by
                rcases hr with rfl | rfl
                · rw [if_pos (hrr.1 rfl)]; rfl
                · rw [if_neg (fun h => by have := hrr.2 h; omega)]; rfl
              rw [e9, List.length_append, List.length_take, HLd.out, Nat.min_eq_left (by omega)]
              rfl
            have hdR : Digits (M.take 1000 ++ [UInt8.ofNat r]) := digits_append (digits_take HDd.out _) (fun b hb => by
              rcases List.mem_singleton.1 hb with rfl
              rcases hr with rfl | rfl <;> exact ⟨by decide, by decide⟩)
            have HTk := Lib.hid (HB.out.take 1000 (by omega))
            have hl1 : (M.take 1000 ++ [UInt8.ofNat r]).length = 1001 := by rw [List.length_append, List.length_take, HLd.out]; simp; omega
            have eK : (M.take 1000).map (·.toNat) ++ [r] = (M.take 1000 ++ [UInt8.ofNat r]).map (·.toNat) := by
              rw [List.map_append]; simp; omega
            generalize hK0 : M.take 1000 ++ [UInt8.ofNat r] = K at *
            have HDR := Lib.hid hdR; have HL1 := Lib.hid hl1; have HEK := Lib.hid eK
            obtain ⟨X, hX⟩ : ∃ X : Int, X = x + (j : Int) - 1001 := ⟨_, rfl⟩
            rw [← hX] at HVr
            have hXe : x + (j : Int) - 1001 = X := hX.symm
            have hX1 : -1000000000 ≤ X + 1001 := by omega
            have hX2 : X ≤ 1000003600 := by omega
            clear HV2 HR hdR hl1 eK hr hK0 hX HLd HDd
            by_cases hlo : X + 1001 < -400
            · have HR0 : Hid (R = 0) := by have := HVr.out; rw [if_pos hlo] at this; exact this
              have hlo2 : X < -1401 := by omega
              go_wp2_with (first
                | (at_builtin
                   refine wpList_appBn _ rfl _ _ rfl w.heap.size _ [] rfl (ownB_empty w) g o 1000 d (M.take 1000) rfl (HTk.out.below ((Below.refl _ _).alloc (Nat.le_refl _) _) hg) (by simp) (by simp) ?_
                   intro v1 w1 hown1 hgr1
                   have HO1 := Lib.hid hown1
                   have HB1 : Hid (Below w.heap.size w w1) := ((Below.refl w.heap.size w).alloc (Nat.le_refl _) _).grown hgr1 (by simp) (fun y hy => by cases hy; exact Nat.le_refl _)
                   have hs1 : w.heap.size ≤ w1.heap.size := HB1.out.size
                   clear hown1 hgr1)
                | (at_builtin
                   go_loud (refine wpList_appB _ rfl _ _ rfl w.heap.size _ _ rfl (OwnB.alloc HO1.out _) w1.heap.size r rfl (by simp [go_sem]) hr1 (by simp; omega) (by simp; omega) ?_)
                   intro v2 w2 hown2 hgr2
                   have HB2 : Hid (Below w.heap.size w w2) := (HB1.out.alloc hs1 _).grown hgr2 (by simp; omega) (fun y hy => (HO1.out.own.lt y hy).1)
                   obtain ⟨g2, cap2, rfl, hrow⟩ : ∃ g2 cap2, v2 = .slice (some ⟨g2, 0, none⟩) 1001 cap2 ∧ RowB w2 g2 cap2 (K.map (·.toNat)) := by
                     rw [List.nil_append, HEK.out] at hown2
                     rcases hown2.slice with ⟨_, h0⟩ | ⟨g2, cap2, h1, _, h2⟩
                     · have := congrArg List.length h0
                       rw [List.length_map, HL1.out] at this; simp at this
                     · rw [List.length_map, HL1.out] at h1
                       exact ⟨g2, cap2, h1, h2⟩
                   have HRw := Lib.hid hrow
                   clear hown2 hgr2 hrow))
              go_wp2_with fail
              go_ret
              exact ⟨by rw [HR0.out]; rfl, HB2.out⟩
            have hloJ : decide (X + 1001 < -400) = false := by simp; omega
            by_cases hhi : 400 < X + 1001
            · have HR0 : Hid (R = 9218868437227405312) := by have := HVr.out; rw [if_neg hlo, if_pos hhi] at this; exact this
              clear hlo
              go_wp2_with (first
                | (at_builtin
                   refine wpList_appBn _ rfl _ _ rfl w.heap.size _ [] rfl (ownB_empty w) g o 1000 d (M.take 1000) rfl (HTk.out.below ((Below.refl _ _).alloc (Nat.le_refl _) _) hg) (by simp) (by simp) ?_
                   intro v1 w1 hown1 hgr1
                   have HO1 := Lib.hid hown1
                   have HB1 : Hid (Below w.heap.size w w1) := ((Below.refl w.heap.size w).alloc (Nat.le_refl _) _).grown hgr1 (by simp) (fun y hy => by cases hy; exact Nat.le_refl _)
                   have hs1 : w.heap.size ≤ w1.heap.size := HB1.out.size
                   clear hown1 hgr1)
                | (at_builtin
                   go_loud (refine wpList_appB _ rfl _ _ rfl w.heap.size _ _ rfl (OwnB.alloc HO1.out _) w1.heap.size r rfl (by simp [go_sem]) hr1 (by simp; omega) (by simp; omega) ?_)
                   intro v2 w2 hown2 hgr2
                   have HB2 : Hid (Below w.heap.size w w2) := (HB1.out.alloc hs1 _).grown hgr2 (by simp; omega) (fun y hy => (HO1.out.own.lt y hy).1)
                   obtain ⟨g2, cap2, rfl, hrow⟩ : ∃ g2 cap2, v2 = .slice (some ⟨g2, 0, none⟩) 1001 cap2 ∧ RowB w2 g2 cap2 (K.map (·.toNat)) := by
                     rw [List.nil_append, HEK.out] at hown2
                     rcases hown2.slice with ⟨_, h0⟩ | ⟨g2, cap2, h1, _, h2⟩
                     · have := congrArg List.length h0
                       rw [List.length_map, HL1.out] at this; simp at this
                     · rw [List.length_map, HL1.out] at h1
                       exact ⟨g2, cap2, h1, h2⟩
                   have HRw := Lib.hid hrow
                   clear hown2 hgr2 hrow))
              go_wp2_with fail
              go_ret
              exact ⟨by rw [HR0.out]; rfl, HB2.out⟩
            have HR0 : Hid (R = readB K X) := by have := HVr.out; rw [if_neg hlo, if_neg hhi] at this; exact this
            have hhiJ : decide (400 < X + 1001) = false := by simp; omega
            have HRd := Lib.hid (fun W => Read3_ok ⟨K.toArray⟩ X W (by intro h0; have := HL1.out; have h0' : K = [] := by simpa using h0
                                                                       rw [h0'] at this; simp at this) (by simpa using HDR.out) (by have := HL1.out; simp; omega))
            simp only [List.toList_toArray] at HRd
            rw [← HR0.out] at HRd
            clear hlo hhi HVr
            go_wp2_with (first
              | (at_builtin
                 refine wpList_appBn _ rfl _ _ rfl w.heap.size _ [] rfl (ownB_empty w) g o 1000 d (M.take 1000) rfl (HTk.out.below ((Below.refl _ _).alloc (Nat.le_refl _) _) hg) (by simp) (by simp) ?_
                 intro v1 w1 hown1 hgr1
                 have HO1 := Lib.hid hown1
                 have HB1 : Hid (Below w.heap.size w w1) := ((Below.refl w.heap.size w).alloc (Nat.le_refl _) _).grown hgr1 (by simp) (fun y hy => by cases hy; exact Nat.le_refl _)
                 have hs1 : w.heap.size ≤ w1.heap.size := HB1.out.size
                 clear hown1 hgr1)
              | (at_builtin
                 go_loud (refine wpList_appB _ rfl _ _ rfl w.heap.size _ _ rfl (OwnB.alloc HO1.out _) w1.heap.size r rfl (by simp [go_sem]) hr1 (by simp; omega) (by simp; omega) ?_)
                 intro v2 w2 hown2 hgr2
                 have HB2 : Hid (Below w.heap.size w w2) := (HB1.out.alloc hs1 _).grown hgr2 (by simp; omega) (fun y hy => (HO1.out.own.lt y hy).1)
                 obtain ⟨g2, cap2, rfl, hrow⟩ : ∃ g2 cap2, v2 = .slice (some ⟨g2, 0, none⟩) 1001 cap2 ∧ RowB w2 g2 cap2 (K.map (·.toNat)) := by
                   rw [List.nil_append, HEK.out] at hown2
                   rcases hown2.slice with ⟨_, h0⟩ | ⟨g2, cap2, h1, _, h2⟩
                   · have := congrArg List.length h0
                     rw [List.length_map, HL1.out] at this; simp at this
                   · rw [List.length_map, HL1.out] at h1
                     exact ⟨g2, cap2, h1, h2⟩
                 have HRw := Lib.hid hrow
                 have HCl : Hid (∀ j (hj : j < K.length), w2.cell? ⟨g2, 0 + j, none⟩ = some (.int .u8 (K[j].toNat : Nat))) := fun j hj => by
                   have := HRw.out.cell j (by simpa using hj)
                   rw [Nat.zero_add, this]; simp
                 clear hown2 hgr2 hrow)
              | (refine wpList_stringAt _ rfl _ rfl g2 0 1001 cap2 K (by simp [go_sem]) HL1.out.symm HCl.out ?_))
            have hs2 := HB2.out.size
            go_wp2_with fail
            refine (HRd.out _).mono ?_
            rintro e w3 ⟨rfl, hb3⟩
            have HB3 := Lib.hid (HB2.out.trans (hb3.mono hs2))
            clear hb3
            go_wp2_with fail
            go_ret
            exact ⟨rfl, HB3.out⟩
end Go.Proofs.YtcmpdamfeoaapaaGreatDoor
