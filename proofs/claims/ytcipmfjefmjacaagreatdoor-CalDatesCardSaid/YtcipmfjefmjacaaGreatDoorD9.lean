/- Package dec: Read. -/
import Derived.Test.YtcipmfjefmjacaaGreatDoorR8
import Derived.Test.YtcipmfjefmjacaaGreatDoorD3
import Derived.Shelf.Strings.SlTrimAscii
namespace Go.Proofs.YtcipmfjefmjacaaGreatDoor
open Go.RowKit
set_option linter.unusedVariables false

theorem Trim_digs (s : ByteArray) (w : World) (hs : s.size ≤ 9223372036854775807) :
    Calls Tryz.prog 28 #[.string s, .string ⟨#[48, 49, 50, 51, 52, 53, 54, 55, 56, 57]⟩] w fun e w' => e = .returned (.string ⟨(Lib.trimS s.data.toList digs).toArray⟩) ∧ Below w.heap.size w w' :=
  Any.strings_Trim_laid Tryz.lays160 (by kernel_rfl) s ⟨#[48, 49, 50, 51, 52, 53, 54, 55, 56, 57]⟩ w hs (by decide) (ascii_of_all (by decide))

theorem Inf_pos (w : World) : Calls Tryz.prog 89 #[.int .i64 1] w fun e w' => e = .returned (.float .f64 9218868437227405312) ∧ w' = w := by
  go_enter Tryz.func89, Tryz.ntmps89
  go_wp2_with fail
  go_ret
  exact ⟨rfl, rfl⟩

set_option maxRecDepth 100000 in
set_option maxHeartbeats 2000000 in
theorem Read_bad (s : ByteArray) (x : Int) (w : World) (hs : s.size ≤ 9223372036854775807) (h : s.data.toList = [] ∨ ¬ Digits s.data.toList) :
    Calls Tryz.prog 77 #[.string s, .int .i64 x] w fun e w' => e = .returned (.tuple #[.float .f64 0, .int .i64 30]) ∧ Below w.heap.size w w' := by
  have HT := Lib.hid (Trim_digs s w hs)
  go_enter Tryz.func77, Tryz.ntmps77
  rcases h with h | h
  · have h0 : s.toList.isEmpty = true := by rw [ByteArray.toList_eq, h]; rfl
    clear h
    go_wp2_with fail
    go_ret2
    exact ⟨rfl, Below.refl _ _⟩
  · by_cases he : s.data.toList = []
    · exact absurd (by rw [he]; intro c hc; simp at hc) h
    have h0 : s.toList.isEmpty = false := by rw [ByteArray.toList_eq]; simpa using he
    clear he
    obtain ⟨T, hT⟩ : ∃ T : ByteArray, T = ⟨(Lib.trimS s.data.toList digs).toArray⟩ := ⟨_, rfl⟩
    have h1 : T.toList.isEmpty = false := by
      rw [ByteArray.toList_eq, hT]
      cases h2 : Lib.trimS s.data.toList digs with
      | nil => exact absurd (trimS_bad h2) h
      | cons _ _ => rfl
    rw [← hT] at HT
    clear hT h
    go_wp2_with fail
    refine HT.out.mono ?_
    rintro e w1 ⟨rfl, hb⟩
    have HB := Lib.hid hb
    clear hb HT
    go_wp2_with fail
    go_ret2
    exact ⟨rfl, HB.out⟩

theorem Trim_ok (s : ByteArray) (w : World) (hs : s.size ≤ 9223372036854775807) (h : Digits s.data.toList) :
    Calls Tryz.prog 28 #[.string s, .string ⟨#[48, 49, 50, 51, 52, 53, 54, 55, 56, 57]⟩] w fun e w' => e = .returned (.string ⟨#[]⟩) ∧ Below w.heap.size w w' := by
  have h1 := Trim_digs s w hs
  rw [trimS_digits h] at h1
  exact h1

set_option maxRecDepth 100000 in
set_option maxHeartbeats 2000000 in
theorem Read_long (s : ByteArray) (x : Int) (w : World) (hs : s.size ≤ 9223372036854775807) (hd : Digits s.data.toList) (hl : 1024 < s.data.toList.length) :
    Calls Tryz.prog 77 #[.string s, .int .i64 x] w fun e w' => e = .returned (.tuple #[.float .f64 0, .int .i64 3]) ∧ Below w.heap.size w w' := by
  have HT := Lib.hid (Trim_ok s w hs hd)
  have h0 : s.toList.isEmpty = false := by
    rw [ByteArray.toList_eq]
    cases h : s.data.toList with
    | nil => rw [h] at hl; simp at hl
    | cons _ _ => rfl
  have hl2 : 1024 < (s.size : Int) := by
    have hsz : s.size = s.data.toList.length := by simp
    omega
  clear hd hl
  go_enter Tryz.func77, Tryz.ntmps77
  go_wp2_with fail
  refine HT.out.mono ?_
  rintro e w1 ⟨rfl, hb⟩
  have HB := Lib.hid hb
  clear hb HT
  go_wp2_with fail
  go_ret2
  exact ⟨rfl, HB.out⟩

set_option maxRecDepth 100000 in
set_option maxHeartbeats 4000000 in
theorem Read_ok (s : ByteArray) (x : Int) (w : World) (hn : s.data.toList ≠ []) (hd : Digits s.data.toList) (hl : s.data.toList.length ≤ 1024) (hx1 : -9223372036854775808 ≤ x) (hx2 : x ≤ 9223372036854775807) :
    Calls Tryz.prog 77 #[.string s, .int .i64 x] w fun e w' => e = .returned (.tuple #[.float .f64 (readB s.data.toList x), .int .i64 0]) ∧ Below w.heap.size w w' := by
  have hsz : s.size = s.data.toList.length := by simp
  have HT := Lib.hid (Trim_ok s w (by omega) hd)
  have h0 : s.toList.isEmpty = false := by
    rw [ByteArray.toList_eq]
    simpa using hn
  have hTL : Hid (∀ W, Calls Tryz.prog 29 #[.string s, .string ⟨#[48]⟩] W fun e w' => e = .returned (.string ⟨(bare s.data.toList).toArray⟩) ∧ w' = W) := fun W => Tryz.strings_TrimLeft_one s 48 (by decide) W
  obtain ⟨t, ht⟩ : ∃ t : ByteArray, t = ⟨(bare s.data.toList).toArray⟩ := ⟨_, rfl⟩
  rw [← ht] at hTL
  have htl : t.data.toList = bare s.data.toList := by rw [ht]
  obtain ⟨n, hn0⟩ : ∃ n, n = t.size := ⟨_, rfl⟩
  have hn1 : t.size = n := hn0.symm
  have hn2 : (bare s.data.toList).length = n := by rw [← htl, hn0]; simp
  have hn3 : n ≤ 1024 := by have := bare_length s.data.toList; omega
  have hdt : Digits t.data.toList := by rw [htl]; exact bare_digits hd
  have hR : Hid (readB s.data.toList x = if n = 0 ∨ x < -4000 then 0 else if 2000 < x ∨ 310 < (n : Int) + x then 9218868437227405312 else if (n : Int) + x < -330 then 0 else near (digVal t.data.toList * 10 ^ x.toNat) (10 ^ (-x).toNat)) := by
    show _ = _
    unfold readB
    rw [hn2, htl]
  have HD0 : Hid (n ≠ 0 → 0 < digVal t.data.toList) := fun h => by rw [htl]; exact bare_pos hd (by rw [hn2]; exact h)
  generalize readB s.data.toList x = R at *
  have HDT := Lib.hid hdt
  have hlt : t.data.toList.length = n := by rw [htl, hn2]
  have HLT := Lib.hid hlt
  generalize hLe : s.data.toList = L at *
  have HLe := Lib.hid hLe
  have HD := Lib.hid hd
  clear hd hn hLe ht htl hn0 hn2 hdt hlt
  go_enter Tryz.func77, Tryz.ntmps77
  go_wp2_with fail
  refine HT.out.mono ?_
  rintro e w1 ⟨rfl, hb⟩
  have HB := Lib.hid hb
  have hs1 := hb.size
  clear hb HT
  have hls : (s.size : Int) ≤ 1024 := by omega
  go_wp2_with (refine wpList_bytes _ rfl _ rfl s rfl ?_; rw [HLe.out, hsz]; intro cap1 w2 hl2 hb2 hs2)
  have HB2 := Lib.hid (HB.out.trans (hb2.mono hs1))
  generalize hg1 : w1.heap.size = g1 at *
  have HL1 := Lib.hid hl2
  clear hg1 hl2 hb2 HB hls
  go_wp2_with fail
  go_loop [28] (fun i => ∃ k : Nat, k ≤ L.length ∧ i = .int .i64 k) (fun i => L.length - (intOf i).toNat)
  case atStart => exact ⟨0, Nat.zero_le _, rfl⟩
  case round =>
    obtain ⟨k, hk, rfl⟩ := hrel
    by_cases hlt : k < L.length
    · have hc := HL1.out k hlt
      rw [Nat.zero_add] at hc
      have hdd := HD.out _ (List.getElem_mem hlt)
      generalize L[k].toNat = c at *
      go_wp2_with fail
      go_round
      case rel => exact ⟨k + 1, by omega, by go_num⟩
      case measure => simp [intOf]; omega
    · obtain rfl : k = L.length := by omega
      clear HL1
      go_wp2_with fail
      refine (hTL.out w2).mono ?_
      rintro e w3 ⟨rfl, rfl⟩
      clear hTL
      have HB3 := Lib.hid (HB2.out)
      have hs3 := hs2
      have hbs := HB2.out.size
      clear HB2 hs2 HLe hsz h0 hk hlt HD hl
      by_cases hc0 : n = 0 ∨ x < -4000
      · obtain rfl : R = 0 := by rw [hR.out, if_pos hc0]
        rcases hc0 with h | h
        · clear hn3
          subst h
          go_wp2_with fail
          go_ret2
          exact ⟨rfl, HB3.out⟩
        · by_cases h2 : n = 0
          · subst h2
            go_wp2_with fail
            go_ret2
            exact ⟨rfl, HB3.out⟩
          · have h3 : (n : Int) ≠ 0 := by omega
            go_wp2_with fail
            go_ret2
            exact ⟨rfl, HB3.out⟩
      · have h3 : (n : Int) ≠ 0 := by omega
        have h4 : -4000 ≤ x := by omega
        have hD0 := HD0.out (by omega)
        have hno : ¬ (((n : Int) == 0) = true ∨ x < -4000) := by rw [beq_iff_eq]; omega
        by_cases hc1 : 2000 < x ∨ 310 < (n : Int) + x
        · obtain rfl : R = 9218868437227405312 := by rw [hR.out, if_neg hc0, if_pos hc1]
          clear hR hc0
          by_cases h5 : 2000 < x
          · clear hc1
            go_wp2_with fail
            refine (Inf_pos w3).mono ?_
            rintro e w4 ⟨rfl, rfl⟩
            go_wp2_with fail
            go_ret2
            exact ⟨rfl, HB3.out⟩
          · have h6 : 310 < (n : Int) + x := by omega
            clear hc1
            go_wp2_with fail
            refine (Inf_pos w3).mono ?_
            rintro e w4 ⟨rfl, rfl⟩
            go_wp2_with fail
            go_ret2
            exact ⟨rfl, HB3.out⟩
        · have h5 : x ≤ 2000 := by omega
          have h6 : (n : Int) + x ≤ 310 := by omega
          by_cases hc2 : (n : Int) + x < -330
          · obtain rfl : R = 0 := by rw [hR.out, if_neg hc0, if_neg hc1, if_pos hc2]
            clear hR hc0
            go_wp2_with fail
            go_ret2
            exact ⟨rfl, HB3.out⟩
          · have hR2 : R = near (digVal t.data.toList * 10 ^ x.toNat) (10 ^ (-x).toNat) := by rw [hR.out, if_neg hc0, if_neg hc1, if_neg hc2]
            have HRR := Lib.hid hR2
            have h7 : -330 ≤ (n : Int) + x := by omega
            clear hR hc0 hc1 hc2 hR2
            have hDl : digVal t.data.toList < 10 ^ n := by rw [← HLT.out]; exact digVal_lt HDT.out
            have hB1 : nbits (digVal t.data.toList) ≤ 4100 := read_d hDl hn3
            have hB2 := read_x hDl hn3 h6
            have hB3 := read_v hDl h6
            have hB4 : nbits (10 ^ x.toNat) ≤ 5700 := read_pow (by omega)
            have hB5 : nbits (10 ^ (-x).toNat) ≤ 5700 := read_pow (by omega)
            have hne : t.data.toList ≠ [] := by intro h; have := HLT.out; rw [h] at this; simp at this; omega
            have HPA := Lib.hid (fun W => Parse_any t W hne HDT.out (limbs_of_bits (by omega)) (by have := HLT.out; omega))
            have hp1 : 0 < (10 : Nat) ^ (-x).toNat := Nat.pow_pos (by decide)
            generalize digVal t.data.toList = D at *
            have P1 := Lib.hid (fun W => pow10_any x.toNat W (limbs_of_bits (by omega)) (by omega))
            have P2 := Lib.hid (fun W => pow10_any (-x).toNat W (limbs_of_bits (by omega)) (by omega))
            have M1 := Lib.hid (fun W va vb h1 h2 => Mul_any va vb D (10 ^ x.toNat) W h1 h2 (limbs_of_bits (by omega)) (limbs_of_bits (by omega)) (limbs_of_bits (by omega)))
            have hNE : Hid (∀ (W : World) (va vb : Value), NatV W va (D * 10 ^ x.toNat) → NatV W vb (10 ^ (-x).toNat) → Calls Tryz.prog 93 #[va, vb] W fun e W' => e = .returned (.float .f64 R) ∧ Below W.heap.size W W') := by
              intro W va vb h1 h2
              refine (nearest_any va vb _ _ W h1 h2 hp1 (by omega) (by omega) hB3).mono ?_
              rintro e W' ⟨E, hE, rfl, hb⟩
              rw [nearBits_near (Nat.mul_pos hD0 (Nat.pow_pos (by decide))) hp1 hE]
              exact ⟨by rw [HRR.out], hb⟩
            obtain ⟨k1, hk1⟩ : ∃ k : Nat, k = x.toNat := ⟨_, rfl⟩
            obtain ⟨k2, hk2⟩ : ∃ k : Nat, k = (-x).toNat := ⟨_, rfl⟩
            have e1 : max x 0 = (k1 : Int) := by omega
            have e2 : max (-x) 0 = (k2 : Int) := by omega
            rw [← hk1] at P1 M1 hNE
            rw [← hk2] at P2 hNE
            generalize 10 ^ k1 = p1 at *
            generalize 10 ^ k2 = p2 at *
            clear hDl hB1 hB2 hB3 hB4 hB5 hne hp1 HRR hk1 hk2
            go_wp2_with fail
            refine (HPA.out w3).mono ?_
            rintro e w4 ⟨v4, rfl, hv4, hb4⟩
            have HV4 := Lib.hid hv4
            have HB4 := Lib.hid (HB3.out.trans (hb4.mono hbs))
            have hs4 := hb4.size
            clear hv4 hb4 HB3 HPA
            go_wp2_with fail
            refine (P1.out w4).mono ?_
            rintro e w5 ⟨v5, rfl, hv5, hb5⟩
            have HM := Lib.hid (M1.out w5 v4 v5 (HV4.out.below hb5) hv5)
            have HB5 := Lib.hid (HB4.out.trans (hb5.mono (by omega)))
            have hs5 := hb5.size
            clear hv5 hb5 HB4 HV4 P1 M1
            go_wp2_with fail
            refine HM.out.mono ?_
            rintro e w6 ⟨v6, rfl, hv6, hb6⟩
            have HV6 := Lib.hid hv6
            have HB6 := Lib.hid (HB5.out.trans (hb6.mono (by omega)))
            have hs6 := hb6.size
            clear hv6 hb6 HB5 HM
            go_wp2_with fail
            refine (P2.out w6).mono ?_
            rintro e w7 ⟨v7, rfl, hv7, hb7⟩
            have HN := Lib.hid (hNE.out w7 v6 v7 (HV6.out.below hb7) hv7)
            have HB7 := Lib.hid (HB6.out.trans (hb7.mono (by omega)))
            have hs7 := hb7.size
            clear hv7 hb7 HB6 HV6 P2 hNE
            go_wp2_with fail
            refine HN.out.mono ?_
            rintro e w8 ⟨rfl, hb8⟩
            have HB8 := Lib.hid (HB7.out.trans (hb8.mono (by omega)))
            clear hb8 HN HB7
            go_wp2_with fail
            go_ret2
            exact ⟨rfl, HB8.out⟩
end Go.Proofs.YtcipmfjefmjacaaGreatDoor
