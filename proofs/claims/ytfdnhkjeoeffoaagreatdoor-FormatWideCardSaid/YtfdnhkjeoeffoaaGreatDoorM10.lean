/- Several texts in one (W14). -/
import Derived.Test.YtfdnhkjeoeffoaaGreatDoorM9
import Derived.Test.YtfdnhkjeoeffoaaGreatDoorM8
import Derived.Test.YtfdnhkjeoeffoaaGreatDoorM5
section
/- Package format: whole at any spec. -/
namespace Go.Proofs.YtfdnhkjeoeffoaaGreatDoor
open Go.RowKit
set_option linter.unusedVariables false

/-- what stands ahead of the point, as a natural -/
def wholeN (b : Nat) : Nat := scaledN (truncB b) 0
/-- is it below nought? -/
def wholeS (b : Nat) : Bool := FloatKind.f64.format.order (truncB b) 0 == some .lt
/-- the sign and what marks the base -/
def headW (p bl al : Bool) (vb : Nat) (S : Bool) (n : Nat) : List UInt8 :=
  if vb = 100 ∨ vb = 105 then signL p bl S else if (vb = 120 ∨ vb = 88) ∧ al = true ∧ n ≠ 0 then signL false false S ++ [48, 120] else if vb = 111 ∧ al = true ∧ n = 0 then [] else signL false false S
def baseD (B n : Nat) : List UInt8 := (baseN B n).map UInt8.ofNat
/-- the digits in a verb's base; none: nought -/
noncomputable def baseW (al : Bool) (vb n : Nat) : List UInt8 :=
  if vb = 111 then (if al = true then 48 :: baseD 8 n else baseD 8 n) else if vb = 120 ∨ vb = 88 then baseD 16 n else dl n
/-- the digits, as many as there should be -/
noncomputable def numW (al : Bool) (pr : Int) (vb n : Nat) : List UInt8 :=
  if n = 0 then (if vb = 111 ∧ al = true then List.replicate (max pr 1).toNat 48 else if pr = 0 then [] else List.replicate (pr - 1).toNat 48 ++ [48])
  else List.replicate (pr - (baseW al vb n).length).toNat 48 ++ baseW al vb n
noncomputable def padW (m p bl al z : Bool) (wd pr : Int) (vb b : Nat) : List UInt8 :=
  padL m (z && decide (pr < 0)) wd (headW p bl al vb (wholeS b) (wholeN b)) (numW al pr vb (wholeN b))
/-- what whole answers -/
noncomputable def wholeO (m p bl al z : Bool) (wd pr : Int) (vb b : Nat) : ByteArray :=
  if vb = 88 then ⟨(Lib.toUpperA (padW m p bl al z wd pr vb b)).toArray⟩ else ⟨(padW m p bl al z wd pr vb b).toArray⟩

theorem trunc_fin {b : Nat} (hb : b < 18446744073709551616) (hf : fin b = true) : truncB b < 18446744073709551616 ∧ fin (truncB b) = true := by
  unfold truncB
  split
  · exact ⟨hb, hf⟩
  · have hm := mant_lt b
    have e : (2 : Nat) ^ 53 = 9007199254740992 := by decide
    have h1 : mant b / 2 ^ (-(expo b)).toNat < 9007199254740992 := Nat.lt_of_le_of_lt (Nat.div_le_self _ _) (by omega)
    obtain ⟨h2, _⟩ := whole_bits h1
    generalize FloatKind.f64.nearest ((mant b / 2 ^ (-(expo b)).toNat : Nat) : Int) = B at *
    refine ⟨by omega, ?_⟩
    rw [← (mant_mod _).2.2, Nat.add_mul_mod_self_right, Nat.mod_eq_of_lt (show B < 9223372036854775808 by omega)]
    exact (fin_lt_inf (by omega)).2 h2
theorem whole_text {b : Nat} (hb : b < 18446744073709551616) (hf : fin b = true) : ∃ l, Canon l (wholeN b) ∧ l.length ≤ 4001 ∧ fixT (truncB b) 0 = l ∧ dl (wholeN b) = l := by
  obtain ⟨h1, h2⟩ := trunc_fin hb hf
  obtain ⟨l, hc, hl, e⟩ := fix_ok (truncB b) 0 h1 h2 (by decide)
  refine ⟨l, hc, hl, ?_, dl_eq hc⟩
  rw [e, fixedL_zero hc.ne]
theorem whole_bits5 (b : Nat) : nbits (wholeN b) ≤ 4001 := scaledN_lt (by decide) (by decide)
theorem hexB_zero : ((List.range 16).all fun k => (ch hexB k != 48) || (k == 0)) = true := by kernel_rfl
theorem hexB_asc : ((List.range 16).all fun k => decide (ch hexB k < 128)) = true := by kernel_rfl
theorem baseN_ne {B n : Nat} (hB : 2 ≤ B) (h : n ≠ 0) : baseN B n ≠ [] := by
  rw [baseN_step hB h]; simp
theorem baseN_one {B n : Nat} (hB : 2 ≤ B) (hB2 : B ≤ 16) (h : n ≠ 0) : baseN B n ≠ [48] := by
  rw [baseN_step hB h]
  intro h2
  have h3 := congrArg List.length h2
  simp at h3
  rw [h3] at h2
  simp at h2
  have h4 : n / B = 0 := Classical.byContradiction fun hne => baseN_ne hB hne h3
  have h5 : n % B < 16 := Nat.lt_of_lt_of_le (Nat.mod_lt _ (by omega)) hB2
  have h6 := List.all_eq_true.1 hexB_zero (n % B) (List.mem_range.2 h5)
  rw [h2] at h6
  have h7 : n % B = 0 := by simpa using h6
  have h8 := Nat.div_add_mod n B
  rw [h4, h7, Nat.mul_zero] at h8
  omega
theorem baseN_asc {B : Nat} (hB : 2 ≤ B) (hB2 : B ≤ 16) : ∀ (f n : Nat), n ≤ f → ∀ c ∈ baseN B n, c < 128 := by
  intro f
  induction f with
  | zero => intro n h c hc; obtain rfl : n = 0 := by omega
            rw [baseN_zero] at hc; cases hc
  | succ f ih =>
    intro n h c hc
    by_cases h0 : n = 0
    · subst h0; rw [baseN_zero] at hc; cases hc
    · have hlt : n / B < n := Nat.div_lt_self (by omega) (by omega)
      rw [baseN_step hB h0] at hc
      rcases List.mem_append.1 hc with hc | hc
      · exact ih (n / B) (by omega) c hc
      · rw [List.mem_singleton] at hc
        subst hc
        have h5 : n % B < 16 := Nat.lt_of_lt_of_le (Nat.mod_lt _ (by omega)) hB2
        exact of_decide_eq_true (List.all_eq_true.1 hexB_asc (n % B) (List.mem_range.2 h5))
theorem baseD_asc {B : Nat} (n : Nat) (hB : 2 ≤ B) (hB2 : B ≤ 16) : Asc (baseD B n) := by
  intro c hc
  obtain ⟨k, hk, rfl⟩ := List.mem_map.1 hc
  have := baseN_asc hB hB2 n n (Nat.le_refl _) k hk
  simp; omega
theorem baseD_ne {B n : Nat} (hB : 2 ≤ B) (h : n ≠ 0) : baseD B n ≠ [] := fun h2 => baseN_ne hB h (List.map_eq_nil_iff.1 h2)
theorem baseD_one {B n : Nat} (hB : 2 ≤ B) (hB2 : B ≤ 16) (h : n ≠ 0) : baseD B n ≠ [48] := by
  intro h2
  unfold baseD at h2
  obtain ⟨k, hk⟩ : ∃ k, baseN B n = [k] := by
    have := congrArg List.length h2
    rw [List.length_map] at this
    exact List.length_eq_one_iff.1 this
  have h3 := baseN_lt hB n n (Nat.le_refl _) k (by rw [hk]; simp)
  rw [hk] at h2
  simp at h2
  have h4 : k = 48 := by
    have := congrArg UInt8.toNat h2
    simp at this
    omega
  exact baseN_one hB hB2 h (by rw [hk, h4])
theorem baseD_len {B n : Nat} (hB : 2 ≤ B) (hn : nbits n ≤ 4001) : (baseD B n).length ≤ 4001 := by
  unfold baseD
  rw [List.length_map]
  exact baseN_len (B := B) hB (k := 4001) (n := n) ((nbits_le (n := n) (k := 4001)).1 hn)
theorem not_48 {F : ByteArray} (h : F.data.toList ≠ [48]) : (F.toList == [48]) = false := by
  rw [ByteArray.toList_eq]
  exact beq_eq_false_iff_ne.2 h
theorem isEmpty_no {l : List UInt8} (h : ¬ l = []) : l.isEmpty = false := by cases l; exact absurd rfl h; rfl
theorem canon_ne0 {l : List UInt8} {n : Nat} (h : Canon l n) (hn : n ≠ 0) : l ≠ [48] := fun h2 => hn (by rw [← h.val, h2]; decide)
theorem canon_0 {l : List UInt8} (h : Canon l 0) : l = [48] := canon_unique h ⟨by simp, fun c hc => by simp at hc; subst hc; decide, by decide, fun c r e hc => by cases e; rfl⟩

set_option maxHeartbeats 16000000 in
set_option maxRecDepth 1000000 in
theorem whole_100 (m p bl al z : Bool) (wd pr : Int) (b : Nat) (w : World) (hb : b < 18446744073709551616) (hf : fin b = true) (hp1 : -1 ≤ pr) (hp2 : pr ≤ 190) (hw : 0 ≤ wd) (hw2 : wd ≤ 1024) :
    Calls Tryz.prog 72 #[.agg (specA m p bl al z wd pr 100), .float .f64 b] w fun e w' => e = .returned (.string (wholeO m p bl al z wd pr 100 b)) ∧ Below w.heap.size w w' := by
  have HTr := Lib.hid (fun W => Trunc_any b W hb)
  obtain ⟨ht1, ht2⟩ := trunc_fin hb hf
  obtain ⟨l, hc, hl, hfx, hdl⟩ := whole_text hb hf
  have HFx := Lib.hid (fun W => Fixed_det (truncB b) 0 W ht1 ht2 (by decide))
  rw [hfx] at HFx
  have hnb := whole_bits5 b
  have hS : (FloatKind.f64.format.order (truncB b) 0 == some .lt) = wholeS b := rfl
  have hO : wholeO m p bl al z wd pr 100 b = ⟨(padW m p bl al z wd pr 100 b).toArray⟩ := rfl
  rw [hO]
  clear hO
  unfold padW
  generalize truncB b = T at *
  generalize wholeN b = N at *
  generalize wholeS b = S at *
  clear ht1 ht2 hfx hb hf
  have HSg := Lib.hid (fun W => sign_any m p bl al z S wd pr 100 W)
  obtain ⟨sg, hsg⟩ : ∃ sg : ByteArray, sg = ⟨(signL p bl S).toArray⟩ := ⟨_, rfl⟩
  have hsl := signL_size5 p bl S
  have hsa := signL_asc p bl S
  rw [← hsg] at HSg
  have hsgl : signL p bl S = sg.data.toList := by rw [hsg]
  rw [hsgl] at hsl hsa
  have hsgz : sg.size ≤ 1 := by rw [sz_list]; exact hsl
  clear hsg
  unfold specA at *
  by_cases hN : N = 0
  · subst hN
    have hl48 : l = [48] := canon_0 hc
    subst hl48
    clear hc hl hdl
    by_cases hpz : pr = 0
    · subst hpz
      cases z
      · obtain ⟨R, hR⟩ : ∃ R : ByteArray, R = ⟨(List.replicate 0 48).toArray⟩ := ⟨_, rfl⟩
        have HRp : Hid (∀ W, Calls Tryz.prog 114 #[.string ⟨#[48]⟩, .int .i64 0] W fun e w' => e = .returned (.string R) ∧ Below W.heap.size W w') := fun W => by rw [hR]; exact Repeat_one 48 0 W (by decide)
        have hRl : List.replicate 0 48 = R.data.toList := by rw [hR]
        have hK : True := trivial
        have hRs : R.size ≤ 190 := by rw [sz_list, ← hRl, List.length_replicate]; omega
        have hn : numW al 0 100 0 = (R ++ ⟨#[]⟩).data.toList := by unfold numW; rw [if_pos rfl, if_neg (fun h => by cases h.1), if_pos rfl, ByteArray.data_append, Array.toList_append, ← hRl]; rfl
        have hh : headW p bl al 100 S 0 = sg.data.toList := by unfold headW; rw [if_pos (by decide)]; exact hsgl
        have HPd := Lib.hid (fun W => padded_any m p bl al false (false) wd 0 100 sg (R ++ ⟨#[]⟩) W hw hw2 (by rw [sz_list]; omega) (by rw [ByteArray.size_append]; show R.size + 0 ≤ _; omega))
        unfold specA at HPd
        have hzz : (false && decide ((0 : Int) < 0)) = (false) := by simp
        rw [hn, hh, hzz]
        generalize (⟨(padL m (false) wd sg.data.toList (R ++ ⟨#[]⟩).data.toList).toArray⟩ : ByteArray) = out at *
        clear hn hh hR hRl hzz hK hsgl hsl hsa hnb
        go_enter Tryz.func72, Tryz.ntmps72
        go_wp2_with fail
        refine (HTr.out _).mono ?_
        rintro e _ ⟨rfl, rfl⟩
        go_wp2_with fail
        refine (HFx.out _).mono ?_
        rintro e w1 ⟨rfl, hb1⟩
        have HB1 := Lib.hid (((Below.refl w.heap.size w).alloc (Nat.le_refl _) (.cells #[.bool m, .bool p, .bool bl, .bool al, .bool false, .int .i64 wd, .int .i64 0, .int .u8 100] 35)).trans (hb1.mono (by simp)))
        have hsp : SpAt w1 w.heap.size #[.bool m, .bool p, .bool bl, .bool al, .bool false, .int .i64 wd, .int .i64 0, .int .u8 100] := SpAt.next (heap_alloc_at w _) hb1
        have k0 : w1.cell? ⟨w.heap.size, 0, none⟩ = some (.bool m) := hsp.cell 0
        have k1 : w1.cell? ⟨w.heap.size, 1, none⟩ = some (.bool p) := hsp.cell 1
        have k2 : w1.cell? ⟨w.heap.size, 2, none⟩ = some (.bool bl) := hsp.cell 2
        have k3 : w1.cell? ⟨w.heap.size, 3, none⟩ = some (.bool al) := hsp.cell 3
        have k4 : w1.cell? ⟨w.heap.size, 4, none⟩ = some (.bool false) := hsp.cell 4
        have k5 : w1.cell? ⟨w.heap.size, 5, none⟩ = some (.int .i64 wd) := hsp.cell 5
        have k6 : w1.cell? ⟨w.heap.size, 6, none⟩ = some (.int .i64 0) := hsp.cell 6
        have k7 : w1.cell? ⟨w.heap.size, 7, none⟩ = some (.int .u8 100) := hsp.cell 7
        clear hb1 hsp
        go_wp2_with fail
        refine (HSg.out _).mono ?_
        rintro e w2 ⟨rfl, hb2⟩
        replace k0 := cell_next hb2 k0
        replace k1 := cell_next hb2 k1
        replace k2 := cell_next hb2 k2
        replace k3 := cell_next hb2 k3
        replace k4 := cell_next hb2 k4
        replace k5 := cell_next hb2 k5
        replace k6 := cell_next hb2 k6
        replace k7 := cell_next hb2 k7
        have HB2 := Lib.hid (HB1.out.trans (hb2.mono HB1.out.size))
        clear hb2 HB1
        go_wp2_with fail
        refine (HRp.out _).mono ?_
        rintro e w3 ⟨rfl, hb3⟩
        replace k0 := cell_next hb3 k0
        replace k1 := cell_next hb3 k1
        replace k2 := cell_next hb3 k2
        replace k3 := cell_next hb3 k3
        replace k4 := cell_next hb3 k4
        replace k5 := cell_next hb3 k5
        replace k6 := cell_next hb3 k6
        replace k7 := cell_next hb3 k7
        have HB3 := Lib.hid (HB2.out.trans (hb3.mono HB2.out.size))
        clear hb3 HB2
        go_wp2_with fail
        refine (HPd.out _).mono ?_
        rintro e w4 ⟨rfl, hb4⟩
        replace k0 := cell_next hb4 k0
        replace k1 := cell_next hb4 k1
        replace k2 := cell_next hb4 k2
        replace k3 := cell_next hb4 k3
        replace k4 := cell_next hb4 k4
        replace k5 := cell_next hb4 k5
        replace k6 := cell_next hb4 k6
        replace k7 := cell_next hb4 k7
        have HB4 := Lib.hid (HB3.out.trans (hb4.mono HB3.out.size))
        clear hb4 HB3
        go_wp2_with fail
        go_ret
        exact ⟨rfl, HB4.out⟩
      · obtain ⟨R, hR⟩ : ∃ R : ByteArray, R = ⟨(List.replicate 0 48).toArray⟩ := ⟨_, rfl⟩
        have HRp : Hid (∀ W, Calls Tryz.prog 114 #[.string ⟨#[48]⟩, .int .i64 0] W fun e w' => e = .returned (.string R) ∧ Below W.heap.size W w') := fun W => by rw [hR]; exact Repeat_one 48 0 W (by decide)
        have hRl : List.replicate 0 48 = R.data.toList := by rw [hR]
        have hK : True := trivial
        have hRs : R.size ≤ 190 := by rw [sz_list, ← hRl, List.length_replicate]; omega
        have hn : numW al 0 100 0 = (R ++ ⟨#[]⟩).data.toList := by unfold numW; rw [if_pos rfl, if_neg (fun h => by cases h.1), if_pos rfl, ByteArray.data_append, Array.toList_append, ← hRl]; rfl
        have hh : headW p bl al 100 S 0 = sg.data.toList := by unfold headW; rw [if_pos (by decide)]; exact hsgl
        have HPd := Lib.hid (fun W => padded_any m p bl al true (false) wd 0 100 sg (R ++ ⟨#[]⟩) W hw hw2 (by rw [sz_list]; omega) (by rw [ByteArray.size_append]; show R.size + 0 ≤ _; omega))
        unfold specA at HPd
        have hzz : (true && decide ((0 : Int) < 0)) = (false) := by simp
        rw [hn, hh, hzz]
        generalize (⟨(padL m (false) wd sg.data.toList (R ++ ⟨#[]⟩).data.toList).toArray⟩ : ByteArray) = out at *
        clear hn hh hR hRl hzz hK hsgl hsl hsa hnb
        go_enter Tryz.func72, Tryz.ntmps72
        go_wp2_with fail
        refine (HTr.out _).mono ?_
        rintro e _ ⟨rfl, rfl⟩
        go_wp2_with fail
        refine (HFx.out _).mono ?_
        rintro e w1 ⟨rfl, hb1⟩
        have HB1 := Lib.hid (((Below.refl w.heap.size w).alloc (Nat.le_refl _) (.cells #[.bool m, .bool p, .bool bl, .bool al, .bool true, .int .i64 wd, .int .i64 0, .int .u8 100] 35)).trans (hb1.mono (by simp)))
        have hsp : SpAt w1 w.heap.size #[.bool m, .bool p, .bool bl, .bool al, .bool true, .int .i64 wd, .int .i64 0, .int .u8 100] := SpAt.next (heap_alloc_at w _) hb1
        have k0 : w1.cell? ⟨w.heap.size, 0, none⟩ = some (.bool m) := hsp.cell 0
        have k1 : w1.cell? ⟨w.heap.size, 1, none⟩ = some (.bool p) := hsp.cell 1
        have k2 : w1.cell? ⟨w.heap.size, 2, none⟩ = some (.bool bl) := hsp.cell 2
        have k3 : w1.cell? ⟨w.heap.size, 3, none⟩ = some (.bool al) := hsp.cell 3
        have k4 : w1.cell? ⟨w.heap.size, 4, none⟩ = some (.bool true) := hsp.cell 4
        have k5 : w1.cell? ⟨w.heap.size, 5, none⟩ = some (.int .i64 wd) := hsp.cell 5
        have k6 : w1.cell? ⟨w.heap.size, 6, none⟩ = some (.int .i64 0) := hsp.cell 6
        have k7 : w1.cell? ⟨w.heap.size, 7, none⟩ = some (.int .u8 100) := hsp.cell 7
        clear hb1 hsp
        go_wp2_with fail
        refine (HSg.out _).mono ?_
        rintro e w2 ⟨rfl, hb2⟩
        replace k0 := cell_next hb2 k0
        replace k1 := cell_next hb2 k1
        replace k2 := cell_next hb2 k2
        replace k3 := cell_next hb2 k3
        replace k4 := cell_next hb2 k4
        replace k5 := cell_next hb2 k5
        replace k6 := cell_next hb2 k6
        replace k7 := cell_next hb2 k7
        have HB2 := Lib.hid (HB1.out.trans (hb2.mono HB1.out.size))
        clear hb2 HB1
        go_wp2_with fail
        refine (HRp.out _).mono ?_
        rintro e w3 ⟨rfl, hb3⟩
        replace k0 := cell_next hb3 k0
        replace k1 := cell_next hb3 k1
        replace k2 := cell_next hb3 k2
        replace k3 := cell_next hb3 k3
        replace k4 := cell_next hb3 k4
        replace k5 := cell_next hb3 k5
        replace k6 := cell_next hb3 k6
        replace k7 := cell_next hb3 k7
        have HB3 := Lib.hid (HB2.out.trans (hb3.mono HB2.out.size))
        clear hb3 HB2
        go_wp2_with fail
        refine (HPd.out _).mono ?_
        rintro e w4 ⟨rfl, hb4⟩
        replace k0 := cell_next hb4 k0
        replace k1 := cell_next hb4 k1
        replace k2 := cell_next hb4 k2
        replace k3 := cell_next hb4 k3
        replace k4 := cell_next hb4 k4
        replace k5 := cell_next hb4 k5
        replace k6 := cell_next hb4 k6
        replace k7 := cell_next hb4 k7
        have HB4 := Lib.hid (HB3.out.trans (hb4.mono HB3.out.size))
        clear hb4 HB3
        go_wp2_with fail
        go_ret
        exact ⟨rfl, HB4.out⟩
    · have hpz2 : (pr == 0) = false := beq_eq_false_iff_ne.2 hpz
      cases z
      · obtain ⟨K, hK⟩ : ∃ K, K = (pr - 1 : Int).toNat := ⟨_, rfl⟩
        have HK := Lib.hid (show max 0 ((pr : Int) - 1) = (K : Int) from by omega)
        have hK2 : K ≤ 190 := by omega
        obtain ⟨R, hR⟩ : ∃ R : ByteArray, R = ⟨(List.replicate K 48).toArray⟩ := ⟨_, rfl⟩
        have HRp := Lib.hid (fun W => Repeat_one 48 K W (by omega))
        rw [← hR] at HRp
        have hRl : List.replicate K 48 = R.data.toList := by rw [hR]
        have hRs : R.size ≤ 190 := by rw [sz_list, ← hRl, List.length_replicate]; omega
        have hn : numW al pr 100 0 = (R ++ ⟨#[48]⟩).data.toList := by unfold numW; rw [if_pos rfl, if_neg (fun h => by cases h.1), if_neg hpz, ByteArray.data_append, Array.toList_append, ← hRl, hK]
        have hh : headW p bl al 100 S 0 = sg.data.toList := by unfold headW; rw [if_pos (by decide)]; exact hsgl
        have HPd := Lib.hid (fun W => padded_any m p bl al false (false) wd pr 100 sg (R ++ ⟨#[48]⟩) W hw hw2 (by rw [sz_list]; omega) (by rw [ByteArray.size_append]; show R.size + 1 ≤ _; omega))
        unfold specA at HPd
        have hzz : (false && decide ((pr : Int) < 0)) = (false) := by simp
        rw [hn, hh, hzz]
        generalize (⟨(padL m (false) wd sg.data.toList (R ++ ⟨#[48]⟩).data.toList).toArray⟩ : ByteArray) = out at *
        clear hn hh hR hRl hzz hK hsgl hsl hsa hnb hpz
        go_enter Tryz.func72, Tryz.ntmps72
        go_wp2_with fail
        refine (HTr.out _).mono ?_
        rintro e _ ⟨rfl, rfl⟩
        go_wp2_with fail
        refine (HFx.out _).mono ?_
        rintro e w1 ⟨rfl, hb1⟩
        have HB1 := Lib.hid (((Below.refl w.heap.size w).alloc (Nat.le_refl _) (.cells #[.bool m, .bool p, .bool bl, .bool al, .bool false, .int .i64 wd, .int .i64 pr, .int .u8 100] 35)).trans (hb1.mono (by simp)))
        have hsp : SpAt w1 w.heap.size #[.bool m, .bool p, .bool bl, .bool al, .bool false, .int .i64 wd, .int .i64 pr, .int .u8 100] := SpAt.next (heap_alloc_at w _) hb1
        have k0 : w1.cell? ⟨w.heap.size, 0, none⟩ = some (.bool m) := hsp.cell 0
        have k1 : w1.cell? ⟨w.heap.size, 1, none⟩ = some (.bool p) := hsp.cell 1
        have k2 : w1.cell? ⟨w.heap.size, 2, none⟩ = some (.bool bl) := hsp.cell 2
        have k3 : w1.cell? ⟨w.heap.size, 3, none⟩ = some (.bool al) := hsp.cell 3
        have k4 : w1.cell? ⟨w.heap.size, 4, none⟩ = some (.bool false) := hsp.cell 4
        have k5 : w1.cell? ⟨w.heap.size, 5, none⟩ = some (.int .i64 wd) := hsp.cell 5
        have k6 : w1.cell? ⟨w.heap.size, 6, none⟩ = some (.int .i64 pr) := hsp.cell 6
        have k7 : w1.cell? ⟨w.heap.size, 7, none⟩ = some (.int .u8 100) := hsp.cell 7
        clear hb1 hsp
        go_wp2_with fail
        refine (HSg.out _).mono ?_
        rintro e w2 ⟨rfl, hb2⟩
        replace k0 := cell_next hb2 k0
        replace k1 := cell_next hb2 k1
        replace k2 := cell_next hb2 k2
        replace k3 := cell_next hb2 k3
        replace k4 := cell_next hb2 k4
        replace k5 := cell_next hb2 k5
        replace k6 := cell_next hb2 k6
        replace k7 := cell_next hb2 k7
        have HB2 := Lib.hid (HB1.out.trans (hb2.mono HB1.out.size))
        clear hb2 HB1
        go_wp2_with fail
        rw [HK.out]
        refine (HRp.out _).mono ?_
        rintro e w3 ⟨rfl, hb3⟩
        replace k0 := cell_next hb3 k0
        replace k1 := cell_next hb3 k1
        replace k2 := cell_next hb3 k2
        replace k3 := cell_next hb3 k3
        replace k4 := cell_next hb3 k4
        replace k5 := cell_next hb3 k5
        replace k6 := cell_next hb3 k6
        replace k7 := cell_next hb3 k7
        have HB3 := Lib.hid (HB2.out.trans (hb3.mono HB2.out.size))
        clear hb3 HB2
        go_wp2_with fail
        refine (HPd.out _).mono ?_
        rintro e w4 ⟨rfl, hb4⟩
        replace k0 := cell_next hb4 k0
        replace k1 := cell_next hb4 k1
        replace k2 := cell_next hb4 k2
        replace k3 := cell_next hb4 k3
        replace k4 := cell_next hb4 k4
        replace k5 := cell_next hb4 k5
        replace k6 := cell_next hb4 k6
        replace k7 := cell_next hb4 k7
        have HB4 := Lib.hid (HB3.out.trans (hb4.mono HB3.out.size))
        clear hb4 HB3
        go_wp2_with fail
        go_ret
        exact ⟨rfl, HB4.out⟩
      · obtain ⟨K, hK⟩ : ∃ K, K = (pr - 1 : Int).toNat := ⟨_, rfl⟩
        have HK := Lib.hid (show max 0 ((pr : Int) - 1) = (K : Int) from by omega)
        have hK2 : K ≤ 190 := by omega
        obtain ⟨R, hR⟩ : ∃ R : ByteArray, R = ⟨(List.replicate K 48).toArray⟩ := ⟨_, rfl⟩
        have HRp := Lib.hid (fun W => Repeat_one 48 K W (by omega))
        rw [← hR] at HRp
        have hRl : List.replicate K 48 = R.data.toList := by rw [hR]
        have hRs : R.size ≤ 190 := by rw [sz_list, ← hRl, List.length_replicate]; omega
        have hn : numW al pr 100 0 = (R ++ ⟨#[48]⟩).data.toList := by unfold numW; rw [if_pos rfl, if_neg (fun h => by cases h.1), if_neg hpz, ByteArray.data_append, Array.toList_append, ← hRl, hK]
        have hh : headW p bl al 100 S 0 = sg.data.toList := by unfold headW; rw [if_pos (by decide)]; exact hsgl
        have HPd := Lib.hid (fun W => padded_any m p bl al true (decide (pr < 0)) wd pr 100 sg (R ++ ⟨#[48]⟩) W hw hw2 (by rw [sz_list]; omega) (by rw [ByteArray.size_append]; show R.size + 1 ≤ _; omega))
        unfold specA at HPd
        have hzz : (true && decide ((pr : Int) < 0)) = (decide (pr < 0)) := by simp
        rw [hn, hh, hzz]
        generalize (⟨(padL m (decide (pr < 0)) wd sg.data.toList (R ++ ⟨#[48]⟩).data.toList).toArray⟩ : ByteArray) = out at *
        clear hn hh hR hRl hzz hK hsgl hsl hsa hnb hpz
        go_enter Tryz.func72, Tryz.ntmps72
        go_wp2_with fail
        refine (HTr.out _).mono ?_
        rintro e _ ⟨rfl, rfl⟩
        go_wp2_with fail
        refine (HFx.out _).mono ?_
        rintro e w1 ⟨rfl, hb1⟩
        have HB1 := Lib.hid (((Below.refl w.heap.size w).alloc (Nat.le_refl _) (.cells #[.bool m, .bool p, .bool bl, .bool al, .bool true, .int .i64 wd, .int .i64 pr, .int .u8 100] 35)).trans (hb1.mono (by simp)))
        have hsp : SpAt w1 w.heap.size #[.bool m, .bool p, .bool bl, .bool al, .bool true, .int .i64 wd, .int .i64 pr, .int .u8 100] := SpAt.next (heap_alloc_at w _) hb1
        have k0 : w1.cell? ⟨w.heap.size, 0, none⟩ = some (.bool m) := hsp.cell 0
        have k1 : w1.cell? ⟨w.heap.size, 1, none⟩ = some (.bool p) := hsp.cell 1
        have k2 : w1.cell? ⟨w.heap.size, 2, none⟩ = some (.bool bl) := hsp.cell 2
        have k3 : w1.cell? ⟨w.heap.size, 3, none⟩ = some (.bool al) := hsp.cell 3
        have k4 : w1.cell? ⟨w.heap.size, 4, none⟩ = some (.bool true) := hsp.cell 4
        have k5 : w1.cell? ⟨w.heap.size, 5, none⟩ = some (.int .i64 wd) := hsp.cell 5
        have k6 : w1.cell? ⟨w.heap.size, 6, none⟩ = some (.int .i64 pr) := hsp.cell 6
        have k7 : w1.cell? ⟨w.heap.size, 7, none⟩ = some (.int .u8 100) := hsp.cell 7
        clear hb1 hsp
        go_wp2_with fail
        refine (HSg.out _).mono ?_
        rintro e w2 ⟨rfl, hb2⟩
        replace k0 := cell_next hb2 k0
        replace k1 := cell_next hb2 k1
        replace k2 := cell_next hb2 k2
        replace k3 := cell_next hb2 k3
        replace k4 := cell_next hb2 k4
        replace k5 := cell_next hb2 k5
        replace k6 := cell_next hb2 k6
        replace k7 := cell_next hb2 k7
        have HB2 := Lib.hid (HB1.out.trans (hb2.mono HB1.out.size))
        clear hb2 HB1
        go_wp2_with fail
        rw [HK.out]
        refine (HRp.out _).mono ?_
        rintro e w3 ⟨rfl, hb3⟩
        replace k0 := cell_next hb3 k0
        replace k1 := cell_next hb3 k1
        replace k2 := cell_next hb3 k2
        replace k3 := cell_next hb3 k3
        replace k4 := cell_next hb3 k4
        replace k5 := cell_next hb3 k5
        replace k6 := cell_next hb3 k6
        replace k7 := cell_next hb3 k7
        have HB3 := Lib.hid (HB2.out.trans (hb3.mono HB2.out.size))
        clear hb3 HB2
        go_wp2_with fail
        refine (HPd.out _).mono ?_
        rintro e w4 ⟨rfl, hb4⟩
        replace k0 := cell_next hb4 k0
        replace k1 := cell_next hb4 k1
        replace k2 := cell_next hb4 k2
        replace k3 := cell_next hb4 k3
        replace k4 := cell_next hb4 k4
        replace k5 := cell_next hb4 k5
        replace k6 := cell_next hb4 k6
        replace k7 := cell_next hb4 k7
        have HB4 := Lib.hid (HB3.out.trans (hb4.mono HB3.out.size))
        clear hb4 HB3
        go_wp2_with fail
        go_ret
        exact ⟨rfl, HB4.out⟩
  · have hl48 := canon_ne0 hc hN
    have hl0 := hc.ne
    obtain ⟨F, hF⟩ : ∃ F : ByteArray, F = ⟨l.toArray⟩ := ⟨_, rfl⟩
    rw [← hF] at HFx
    have hFl : F.data.toList = l := by rw [hF]
    have hF48 : (F.toList == [48]) = false := not_48 (by rw [hFl]; exact hl48)
    have hF49 : ¬ F.toList = [48] := beq_eq_false_iff_ne.1 hF48
    have hF0 : ¬ F.toList = [] := by rw [ByteArray.toList_eq, hFl]; exact hl0
    have hF2 : F.toList.isEmpty = false := isEmpty_no hF0
    have hbw : baseW al 100 N = F.data.toList := by unfold baseW; rw [if_neg (by decide), if_neg (by decide), hdl, hFl]
    have hDs : F.size ≤ 4100 := by rw [sz_list, hFl]; omega
    clear hl48 hl0 hc hdl hF hFl hl
    cases z
    · obtain ⟨K, hK⟩ : ∃ K, K = (pr - (F.size : Int)).toNat := ⟨_, rfl⟩
      have HK := Lib.hid (show max 0 (pr - (F.size : Int)) = (K : Int) from by omega)
      have hK2 : K ≤ 190 := by omega
      obtain ⟨R, hR⟩ : ∃ R : ByteArray, R = ⟨(List.replicate K 48).toArray⟩ := ⟨_, rfl⟩
      have HRp := Lib.hid (fun W => Repeat_one 48 K W (by omega))
      rw [← hR] at HRp
      have hRl : List.replicate K 48 = R.data.toList := by rw [hR]
      have hRs : R.size ≤ 190 := by rw [sz_list, ← hRl, List.length_replicate]; omega
      have hn : numW al pr 100 N = (R ++ F).data.toList := by unfold numW; rw [if_neg hN, hbw, ← sz_list, ← hK, hRl, ByteArray.data_append, Array.toList_append] <;> simp [ByteArray.data_append]
      have hh : headW p bl al 100 S N = sg.data.toList := by unfold headW; rw [if_pos (by decide)]; exact hsgl
      have HPd := Lib.hid (fun W => padded_any m p bl al false (false) wd pr 100 sg (R ++ F) W hw hw2 (by rw [sz_list]; omega) (by rw [ByteArray.size_append]; omega))
      unfold specA at HPd
      have hzz : (false && decide (pr < 0)) = (false) := by simp
      rw [hn, hh, hzz]
      generalize (⟨(padL m (false) wd sg.data.toList (R ++ F).data.toList).toArray⟩ : ByteArray) = out at *
      clear hn hh hR hRl hzz hK hsgl hsl hsa hnb hbw hN
      go_enter Tryz.func72, Tryz.ntmps72
      go_wp2_with fail
      refine (HTr.out _).mono ?_
      rintro e _ ⟨rfl, rfl⟩
      go_wp2_with fail
      refine (HFx.out _).mono ?_
      rintro e w1 ⟨rfl, hb1⟩
      have HB1 := Lib.hid (((Below.refl w.heap.size w).alloc (Nat.le_refl _) (.cells #[.bool m, .bool p, .bool bl, .bool al, .bool false, .int .i64 wd, .int .i64 pr, .int .u8 100] 35)).trans (hb1.mono (by simp)))
      have hsp : SpAt w1 w.heap.size #[.bool m, .bool p, .bool bl, .bool al, .bool false, .int .i64 wd, .int .i64 pr, .int .u8 100] := SpAt.next (heap_alloc_at w _) hb1
      have k0 : w1.cell? ⟨w.heap.size, 0, none⟩ = some (.bool m) := hsp.cell 0
      have k1 : w1.cell? ⟨w.heap.size, 1, none⟩ = some (.bool p) := hsp.cell 1
      have k2 : w1.cell? ⟨w.heap.size, 2, none⟩ = some (.bool bl) := hsp.cell 2
      have k3 : w1.cell? ⟨w.heap.size, 3, none⟩ = some (.bool al) := hsp.cell 3
      have k4 : w1.cell? ⟨w.heap.size, 4, none⟩ = some (.bool false) := hsp.cell 4
      have k5 : w1.cell? ⟨w.heap.size, 5, none⟩ = some (.int .i64 wd) := hsp.cell 5
      have k6 : w1.cell? ⟨w.heap.size, 6, none⟩ = some (.int .i64 pr) := hsp.cell 6
      have k7 : w1.cell? ⟨w.heap.size, 7, none⟩ = some (.int .u8 100) := hsp.cell 7
      clear hb1 hsp
      go_wp2_with fail
      refine (HSg.out _).mono ?_
      rintro e w2 ⟨rfl, hb2⟩
      replace k0 := cell_next hb2 k0
      replace k1 := cell_next hb2 k1
      replace k2 := cell_next hb2 k2
      replace k3 := cell_next hb2 k3
      replace k4 := cell_next hb2 k4
      replace k5 := cell_next hb2 k5
      replace k6 := cell_next hb2 k6
      replace k7 := cell_next hb2 k7
      have HB2 := Lib.hid (HB1.out.trans (hb2.mono HB1.out.size))
      clear hb2 HB1
      go_wp2_with fail
      rw [HK.out]
      refine (HRp.out _).mono ?_
      rintro e w3 ⟨rfl, hb3⟩
      replace k0 := cell_next hb3 k0
      replace k1 := cell_next hb3 k1
      replace k2 := cell_next hb3 k2
      replace k3 := cell_next hb3 k3
      replace k4 := cell_next hb3 k4
      replace k5 := cell_next hb3 k5
      replace k6 := cell_next hb3 k6
      replace k7 := cell_next hb3 k7
      have HB3 := Lib.hid (HB2.out.trans (hb3.mono HB2.out.size))
      clear hb3 HB2
      go_wp2_with fail
      refine (HPd.out _).mono ?_
      rintro e w4 ⟨rfl, hb4⟩
      replace k0 := cell_next hb4 k0
      replace k1 := cell_next hb4 k1
      replace k2 := cell_next hb4 k2
      replace k3 := cell_next hb4 k3
      replace k4 := cell_next hb4 k4
      replace k5 := cell_next hb4 k5
      replace k6 := cell_next hb4 k6
      replace k7 := cell_next hb4 k7
      have HB4 := Lib.hid (HB3.out.trans (hb4.mono HB3.out.size))
      clear hb4 HB3
      go_wp2_with fail
      go_ret
      exact ⟨rfl, HB4.out⟩
    · obtain ⟨K, hK⟩ : ∃ K, K = (pr - (F.size : Int)).toNat := ⟨_, rfl⟩
      have HK := Lib.hid (show max 0 (pr - (F.size : Int)) = (K : Int) from by omega)
      have hK2 : K ≤ 190 := by omega
      obtain ⟨R, hR⟩ : ∃ R : ByteArray, R = ⟨(List.replicate K 48).toArray⟩ := ⟨_, rfl⟩
      have HRp := Lib.hid (fun W => Repeat_one 48 K W (by omega))
      rw [← hR] at HRp
      have hRl : List.replicate K 48 = R.data.toList := by rw [hR]
      have hRs : R.size ≤ 190 := by rw [sz_list, ← hRl, List.length_replicate]; omega
      have hn : numW al pr 100 N = (R ++ F).data.toList := by unfold numW; rw [if_neg hN, hbw, ← sz_list, ← hK, hRl, ByteArray.data_append, Array.toList_append] <;> simp [ByteArray.data_append]
      have hh : headW p bl al 100 S N = sg.data.toList := by unfold headW; rw [if_pos (by decide)]; exact hsgl
      have HPd := Lib.hid (fun W => padded_any m p bl al true (decide (pr < 0)) wd pr 100 sg (R ++ F) W hw hw2 (by rw [sz_list]; omega) (by rw [ByteArray.size_append]; omega))
      unfold specA at HPd
      have hzz : (true && decide (pr < 0)) = (decide (pr < 0)) := by simp
      rw [hn, hh, hzz]
      generalize (⟨(padL m (decide (pr < 0)) wd sg.data.toList (R ++ F).data.toList).toArray⟩ : ByteArray) = out at *
      clear hn hh hR hRl hzz hK hsgl hsl hsa hnb hbw hN
      go_enter Tryz.func72, Tryz.ntmps72
      go_wp2_with fail
      refine (HTr.out _).mono ?_
      rintro e _ ⟨rfl, rfl⟩
      go_wp2_with fail
      refine (HFx.out _).mono ?_
      rintro e w1 ⟨rfl, hb1⟩
      have HB1 := Lib.hid (((Below.refl w.heap.size w).alloc (Nat.le_refl _) (.cells #[.bool m, .bool p, .bool bl, .bool al, .bool true, .int .i64 wd, .int .i64 pr, .int .u8 100] 35)).trans (hb1.mono (by simp)))
      have hsp : SpAt w1 w.heap.size #[.bool m, .bool p, .bool bl, .bool al, .bool true, .int .i64 wd, .int .i64 pr, .int .u8 100] := SpAt.next (heap_alloc_at w _) hb1
      have k0 : w1.cell? ⟨w.heap.size, 0, none⟩ = some (.bool m) := hsp.cell 0
      have k1 : w1.cell? ⟨w.heap.size, 1, none⟩ = some (.bool p) := hsp.cell 1
      have k2 : w1.cell? ⟨w.heap.size, 2, none⟩ = some (.bool bl) := hsp.cell 2
      have k3 : w1.cell? ⟨w.heap.size, 3, none⟩ = some (.bool al) := hsp.cell 3
      have k4 : w1.cell? ⟨w.heap.size, 4, none⟩ = some (.bool true) := hsp.cell 4
      have k5 : w1.cell? ⟨w.heap.size, 5, none⟩ = some (.int .i64 wd) := hsp.cell 5
      have k6 : w1.cell? ⟨w.heap.size, 6, none⟩ = some (.int .i64 pr) := hsp.cell 6
      have k7 : w1.cell? ⟨w.heap.size, 7, none⟩ = some (.int .u8 100) := hsp.cell 7
      clear hb1 hsp
      go_wp2_with fail
      refine (HSg.out _).mono ?_
      rintro e w2 ⟨rfl, hb2⟩
      replace k0 := cell_next hb2 k0
      replace k1 := cell_next hb2 k1
      replace k2 := cell_next hb2 k2
      replace k3 := cell_next hb2 k3
      replace k4 := cell_next hb2 k4
      replace k5 := cell_next hb2 k5
      replace k6 := cell_next hb2 k6
      replace k7 := cell_next hb2 k7
      have HB2 := Lib.hid (HB1.out.trans (hb2.mono HB1.out.size))
      clear hb2 HB1
      go_wp2_with fail
      rw [HK.out]
      refine (HRp.out _).mono ?_
      rintro e w3 ⟨rfl, hb3⟩
      replace k0 := cell_next hb3 k0
      replace k1 := cell_next hb3 k1
      replace k2 := cell_next hb3 k2
      replace k3 := cell_next hb3 k3
      replace k4 := cell_next hb3 k4
      replace k5 := cell_next hb3 k5
      replace k6 := cell_next hb3 k6
      replace k7 := cell_next hb3 k7
      have HB3 := Lib.hid (HB2.out.trans (hb3.mono HB2.out.size))
      clear hb3 HB2
      go_wp2_with fail
      refine (HPd.out _).mono ?_
      rintro e w4 ⟨rfl, hb4⟩
      replace k0 := cell_next hb4 k0
      replace k1 := cell_next hb4 k1
      replace k2 := cell_next hb4 k2
      replace k3 := cell_next hb4 k3
      replace k4 := cell_next hb4 k4
      replace k5 := cell_next hb4 k5
      replace k6 := cell_next hb4 k6
      replace k7 := cell_next hb4 k7
      have HB4 := Lib.hid (HB3.out.trans (hb4.mono HB3.out.size))
      clear hb4 HB3
      go_wp2_with fail
      go_ret
      exact ⟨rfl, HB4.out⟩

set_option maxHeartbeats 16000000 in
set_option maxRecDepth 1000000 in
theorem whole_105 (m p bl al z : Bool) (wd pr : Int) (b : Nat) (w : World) (hb : b < 18446744073709551616) (hf : fin b = true) (hp1 : -1 ≤ pr) (hp2 : pr ≤ 190) (hw : 0 ≤ wd) (hw2 : wd ≤ 1024) :
    Calls Tryz.prog 72 #[.agg (specA m p bl al z wd pr 105), .float .f64 b] w fun e w' => e = .returned (.string (wholeO m p bl al z wd pr 105 b)) ∧ Below w.heap.size w w' := by
  have HTr := Lib.hid (fun W => Trunc_any b W hb)
  obtain ⟨ht1, ht2⟩ := trunc_fin hb hf
  obtain ⟨l, hc, hl, hfx, hdl⟩ := whole_text hb hf
  have HFx := Lib.hid (fun W => Fixed_det (truncB b) 0 W ht1 ht2 (by decide))
  rw [hfx] at HFx
  have hnb := whole_bits5 b
  have hS : (FloatKind.f64.format.order (truncB b) 0 == some .lt) = wholeS b := rfl
  have hO : wholeO m p bl al z wd pr 105 b = ⟨(padW m p bl al z wd pr 105 b).toArray⟩ := rfl
  rw [hO]
  clear hO
  unfold padW
  generalize truncB b = T at *
  generalize wholeN b = N at *
  generalize wholeS b = S at *
  clear ht1 ht2 hfx hb hf
  have HSg := Lib.hid (fun W => sign_any m p bl al z S wd pr 105 W)
  obtain ⟨sg, hsg⟩ : ∃ sg : ByteArray, sg = ⟨(signL p bl S).toArray⟩ := ⟨_, rfl⟩
  have hsl := signL_size5 p bl S
  have hsa := signL_asc p bl S
  rw [← hsg] at HSg
  have hsgl : signL p bl S = sg.data.toList := by rw [hsg]
  rw [hsgl] at hsl hsa
  have hsgz : sg.size ≤ 1 := by rw [sz_list]; exact hsl
  clear hsg
  unfold specA at *
  by_cases hN : N = 0
  · subst hN
    have hl48 : l = [48] := canon_0 hc
    subst hl48
    clear hc hl hdl
    by_cases hpz : pr = 0
    · subst hpz
      cases z
      · obtain ⟨R, hR⟩ : ∃ R : ByteArray, R = ⟨(List.replicate 0 48).toArray⟩ := ⟨_, rfl⟩
        have HRp : Hid (∀ W, Calls Tryz.prog 114 #[.string ⟨#[48]⟩, .int .i64 0] W fun e w' => e = .returned (.string R) ∧ Below W.heap.size W w') := fun W => by rw [hR]; exact Repeat_one 48 0 W (by decide)
        have hRl : List.replicate 0 48 = R.data.toList := by rw [hR]
        have hK : True := trivial
        have hRs : R.size ≤ 190 := by rw [sz_list, ← hRl, List.length_replicate]; omega
        have hn : numW al 0 105 0 = (R ++ ⟨#[]⟩).data.toList := by unfold numW; rw [if_pos rfl, if_neg (fun h => by cases h.1), if_pos rfl, ByteArray.data_append, Array.toList_append, ← hRl]; rfl
        have hh : headW p bl al 105 S 0 = sg.data.toList := by unfold headW; rw [if_pos (by decide)]; exact hsgl
        have HPd := Lib.hid (fun W => padded_any m p bl al false (false) wd 0 105 sg (R ++ ⟨#[]⟩) W hw hw2 (by rw [sz_list]; omega) (by rw [ByteArray.size_append]; show R.size + 0 ≤ _; omega))
        unfold specA at HPd
        have hzz : (false && decide ((0 : Int) < 0)) = (false) := by simp
        rw [hn, hh, hzz]
        generalize (⟨(padL m (false) wd sg.data.toList (R ++ ⟨#[]⟩).data.toList).toArray⟩ : ByteArray) = out at *
        clear hn hh hR hRl hzz hK hsgl hsl hsa hnb
        go_enter Tryz.func72, Tryz.ntmps72
        go_wp2_with fail
        refine (HTr.out _).mono ?_
        rintro e _ ⟨rfl, rfl⟩
        go_wp2_with fail
        refine (HFx.out _).mono ?_
        rintro e w1 ⟨rfl, hb1⟩
        have HB1 := Lib.hid (((Below.refl w.heap.size w).alloc (Nat.le_refl _) (.cells #[.bool m, .bool p, .bool bl, .bool al, .bool false, .int .i64 wd, .int .i64 0, .int .u8 105] 35)).trans (hb1.mono (by simp)))
        have hsp : SpAt w1 w.heap.size #[.bool m, .bool p, .bool bl, .bool al, .bool false, .int .i64 wd, .int .i64 0, .int .u8 105] := SpAt.next (heap_alloc_at w _) hb1
        have k0 : w1.cell? ⟨w.heap.size, 0, none⟩ = some (.bool m) := hsp.cell 0
        have k1 : w1.cell? ⟨w.heap.size, 1, none⟩ = some (.bool p) := hsp.cell 1
        have k2 : w1.cell? ⟨w.heap.size, 2, none⟩ = some (.bool bl) := hsp.cell 2
        have k3 : w1.cell? ⟨w.heap.size, 3, none⟩ = some (.bool al) := hsp.cell 3
        have k4 : w1.cell? ⟨w.heap.size, 4, none⟩ = some (.bool false) := hsp.cell 4
        have k5 : w1.cell? ⟨w.heap.size, 5, none⟩ = some (.int .i64 wd) := hsp.cell 5
        have k6 : w1.cell? ⟨w.heap.size, 6, none⟩ = some (.int .i64 0) := hsp.cell 6
        have k7 : w1.cell? ⟨w.heap.size, 7, none⟩ = some (.int .u8 105) := hsp.cell 7
        clear hb1 hsp
        go_wp2_with fail
        refine (HSg.out _).mono ?_
        rintro e w2 ⟨rfl, hb2⟩
        replace k0 := cell_next hb2 k0
        replace k1 := cell_next hb2 k1
        replace k2 := cell_next hb2 k2
        replace k3 := cell_next hb2 k3
        replace k4 := cell_next hb2 k4
        replace k5 := cell_next hb2 k5
        replace k6 := cell_next hb2 k6
        replace k7 := cell_next hb2 k7
        have HB2 := Lib.hid (HB1.out.trans (hb2.mono HB1.out.size))
        clear hb2 HB1
        go_wp2_with fail
        refine (HRp.out _).mono ?_
        rintro e w3 ⟨rfl, hb3⟩
        replace k0 := cell_next hb3 k0
        replace k1 := cell_next hb3 k1
        replace k2 := cell_next hb3 k2
        replace k3 := cell_next hb3 k3
        replace k4 := cell_next hb3 k4
        replace k5 := cell_next hb3 k5
        replace k6 := cell_next hb3 k6
        replace k7 := cell_next hb3 k7
        have HB3 := Lib.hid (HB2.out.trans (hb3.mono HB2.out.size))
        clear hb3 HB2
        go_wp2_with fail
        refine (HPd.out _).mono ?_
        rintro e w4 ⟨rfl, hb4⟩
        replace k0 := cell_next hb4 k0
        replace k1 := cell_next hb4 k1
        replace k2 := cell_next hb4 k2
        replace k3 := cell_next hb4 k3
        replace k4 := cell_next hb4 k4
        replace k5 := cell_next hb4 k5
        replace k6 := cell_next hb4 k6
        replace k7 := cell_next hb4 k7
        have HB4 := Lib.hid (HB3.out.trans (hb4.mono HB3.out.size))
        clear hb4 HB3
        go_wp2_with fail
        go_ret
        exact ⟨rfl, HB4.out⟩
      · obtain ⟨R, hR⟩ : ∃ R : ByteArray, R = ⟨(List.replicate 0 48).toArray⟩ := ⟨_, rfl⟩
        have HRp : Hid (∀ W, Calls Tryz.prog 114 #[.string ⟨#[48]⟩, .int .i64 0] W fun e w' => e = .returned (.string R) ∧ Below W.heap.size W w') := fun W => by rw [hR]; exact Repeat_one 48 0 W (by decide)
        have hRl : List.replicate 0 48 = R.data.toList := by rw [hR]
        have hK : True := trivial
        have hRs : R.size ≤ 190 := by rw [sz_list, ← hRl, List.length_replicate]; omega
        have hn : numW al 0 105 0 = (R ++ ⟨#[]⟩).data.toList := by unfold numW; rw [if_pos rfl, if_neg (fun h => by cases h.1), if_pos rfl, ByteArray.data_append, Array.toList_append, ← hRl]; rfl
        have hh : headW p bl al 105 S 0 = sg.data.toList := by unfold headW; rw [if_pos (by decide)]; exact hsgl
        have HPd := Lib.hid (fun W => padded_any m p bl al true (false) wd 0 105 sg (R ++ ⟨#[]⟩) W hw hw2 (by rw [sz_list]; omega) (by rw [ByteArray.size_append]; show R.size + 0 ≤ _; omega))
        unfold specA at HPd
        have hzz : (true && decide ((0 : Int) < 0)) = (false) := by simp
        rw [hn, hh, hzz]
        generalize (⟨(padL m (false) wd sg.data.toList (R ++ ⟨#[]⟩).data.toList).toArray⟩ : ByteArray) = out at *
        clear hn hh hR hRl hzz hK hsgl hsl hsa hnb
        go_enter Tryz.func72, Tryz.ntmps72
        go_wp2_with fail
        refine (HTr.out _).mono ?_
        rintro e _ ⟨rfl, rfl⟩
        go_wp2_with fail
        refine (HFx.out _).mono ?_
        rintro e w1 ⟨rfl, hb1⟩
        have HB1 := Lib.hid (((Below.refl w.heap.size w).alloc (Nat.le_refl _) (.cells #[.bool m, .bool p, .bool bl, .bool al, .bool true, .int .i64 wd, .int .i64 0, .int .u8 105] 35)).trans (hb1.mono (by simp)))
        have hsp : SpAt w1 w.heap.size #[.bool m, .bool p, .bool bl, .bool al, .bool true, .int .i64 wd, .int .i64 0, .int .u8 105] := SpAt.next (heap_alloc_at w _) hb1
        have k0 : w1.cell? ⟨w.heap.size, 0, none⟩ = some (.bool m) := hsp.cell 0
        have k1 : w1.cell? ⟨w.heap.size, 1, none⟩ = some (.bool p) := hsp.cell 1
        have k2 : w1.cell? ⟨w.heap.size, 2, none⟩ = some (.bool bl) := hsp.cell 2
        have k3 : w1.cell? ⟨w.heap.size, 3, none⟩ = some (.bool al) := hsp.cell 3
        have k4 : w1.cell? ⟨w.heap.size, 4, none⟩ = some (.bool true) := hsp.cell 4
        have k5 : w1.cell? ⟨w.heap.size, 5, none⟩ = some (.int .i64 wd) := hsp.cell 5
        have k6 : w1.cell? ⟨w.heap.size, 6, none⟩ = some (.int .i64 0) := hsp.cell 6
        have k7 : w1.cell? ⟨w.heap.size, 7, none⟩ = some (.int .u8 105) := hsp.cell 7
        clear hb1 hsp
        go_wp2_with fail
        refine (HSg.out _).mono ?_
        rintro e w2 ⟨rfl, hb2⟩
        replace k0 := cell_next hb2 k0
        replace k1 := cell_next hb2 k1
        replace k2 := cell_next hb2 k2
        replace k3 := cell_next hb2 k3
        replace k4 := cell_next hb2 k4
        replace k5 := cell_next hb2 k5
        replace k6 := cell_next hb2 k6
        replace k7 := cell_next hb2 k7
        have HB2 := Lib.hid (HB1.out.trans (hb2.mono HB1.out.size))
        clear hb2 HB1
        go_wp2_with fail
        refine (HRp.out _).mono ?_
        rintro e w3 ⟨rfl, hb3⟩
        replace k0 := cell_next hb3 k0
        replace k1 := cell_next hb3 k1
        replace k2 := cell_next hb3 k2
        replace k3 := cell_next hb3 k3
        replace k4 := cell_next hb3 k4
        replace k5 := cell_next hb3 k5
        replace k6 := cell_next hb3 k6
        replace k7 := cell_next hb3 k7
        have HB3 := Lib.hid (HB2.out.trans (hb3.mono HB2.out.size))
        clear hb3 HB2
        go_wp2_with fail
        refine (HPd.out _).mono ?_
        rintro e w4 ⟨rfl, hb4⟩
        replace k0 := cell_next hb4 k0
        replace k1 := cell_next hb4 k1
        replace k2 := cell_next hb4 k2
        replace k3 := cell_next hb4 k3
        replace k4 := cell_next hb4 k4
        replace k5 := cell_next hb4 k5
        replace k6 := cell_next hb4 k6
        replace k7 := cell_next hb4 k7
        have HB4 := Lib.hid (HB3.out.trans (hb4.mono HB3.out.size))
        clear hb4 HB3
        go_wp2_with fail
        go_ret
        exact ⟨rfl, HB4.out⟩
    · have hpz2 : (pr == 0) = false := beq_eq_false_iff_ne.2 hpz
      cases z
      · obtain ⟨K, hK⟩ : ∃ K, K = (pr - 1 : Int).toNat := ⟨_, rfl⟩
        have HK := Lib.hid (show max 0 ((pr : Int) - 1) = (K : Int) from by omega)
        have hK2 : K ≤ 190 := by omega
        obtain ⟨R, hR⟩ : ∃ R : ByteArray, R = ⟨(List.replicate K 48).toArray⟩ := ⟨_, rfl⟩
        have HRp := Lib.hid (fun W => Repeat_one 48 K W (by omega))
        rw [← hR] at HRp
        have hRl : List.replicate K 48 = R.data.toList := by rw [hR]
        have hRs : R.size ≤ 190 := by rw [sz_list, ← hRl, List.length_replicate]; omega
        have hn : numW al pr 105 0 = (R ++ ⟨#[48]⟩).data.toList := by unfold numW; rw [if_pos rfl, if_neg (fun h => by cases h.1), if_neg hpz, ByteArray.data_append, Array.toList_append, ← hRl, hK]
        have hh : headW p bl al 105 S 0 = sg.data.toList := by unfold headW; rw [if_pos (by decide)]; exact hsgl
        have HPd := Lib.hid (fun W => padded_any m p bl al false (false) wd pr 105 sg (R ++ ⟨#[48]⟩) W hw hw2 (by rw [sz_list]; omega) (by rw [ByteArray.size_append]; show R.size + 1 ≤ _; omega))
        unfold specA at HPd
        have hzz : (false && decide ((pr : Int) < 0)) = (false) := by simp
        rw [hn, hh, hzz]
        generalize (⟨(padL m (false) wd sg.data.toList (R ++ ⟨#[48]⟩).data.toList).toArray⟩ : ByteArray) = out at *
        clear hn hh hR hRl hzz hK hsgl hsl hsa hnb hpz
        go_enter Tryz.func72, Tryz.ntmps72
        go_wp2_with fail
        refine (HTr.out _).mono ?_
        rintro e _ ⟨rfl, rfl⟩
        go_wp2_with fail
        refine (HFx.out _).mono ?_
        rintro e w1 ⟨rfl, hb1⟩
        have HB1 := Lib.hid (((Below.refl w.heap.size w).alloc (Nat.le_refl _) (.cells #[.bool m, .bool p, .bool bl, .bool al, .bool false, .int .i64 wd, .int .i64 pr, .int .u8 105] 35)).trans (hb1.mono (by simp)))
        have hsp : SpAt w1 w.heap.size #[.bool m, .bool p, .bool bl, .bool al, .bool false, .int .i64 wd, .int .i64 pr, .int .u8 105] := SpAt.next (heap_alloc_at w _) hb1
        have k0 : w1.cell? ⟨w.heap.size, 0, none⟩ = some (.bool m) := hsp.cell 0
        have k1 : w1.cell? ⟨w.heap.size, 1, none⟩ = some (.bool p) := hsp.cell 1
        have k2 : w1.cell? ⟨w.heap.size, 2, none⟩ = some (.bool bl) := hsp.cell 2
        have k3 : w1.cell? ⟨w.heap.size, 3, none⟩ = some (.bool al) := hsp.cell 3
        have k4 : w1.cell? ⟨w.heap.size, 4, none⟩ = some (.bool false) := hsp.cell 4
        have k5 : w1.cell? ⟨w.heap.size, 5, none⟩ = some (.int .i64 wd) := hsp.cell 5
        have k6 : w1.cell? ⟨w.heap.size, 6, none⟩ = some (.int .i64 pr) := hsp.cell 6
        have k7 : w1.cell? ⟨w.heap.size, 7, none⟩ = some (.int .u8 105) := hsp.cell 7
        clear hb1 hsp
        go_wp2_with fail
        refine (HSg.out _).mono ?_
        rintro e w2 ⟨rfl, hb2⟩
        replace k0 := cell_next hb2 k0
        replace k1 := cell_next hb2 k1
        replace k2 := cell_next hb2 k2
        replace k3 := cell_next hb2 k3
        replace k4 := cell_next hb2 k4
        replace k5 := cell_next hb2 k5
        replace k6 := cell_next hb2 k6
        replace k7 := cell_next hb2 k7
        have HB2 := Lib.hid (HB1.out.trans (hb2.mono HB1.out.size))
        clear hb2 HB1
        go_wp2_with fail
        rw [HK.out]
        refine (HRp.out _).mono ?_
        rintro e w3 ⟨rfl, hb3⟩
        replace k0 := cell_next hb3 k0
        replace k1 := cell_next hb3 k1
        replace k2 := cell_next hb3 k2
        replace k3 := cell_next hb3 k3
        replace k4 := cell_next hb3 k4
        replace k5 := cell_next hb3 k5
        replace k6 := cell_next hb3 k6
        replace k7 := cell_next hb3 k7
        have HB3 := Lib.hid (HB2.out.trans (hb3.mono HB2.out.size))
        clear hb3 HB2
        go_wp2_with fail
        refine (HPd.out _).mono ?_
        rintro e w4 ⟨rfl, hb4⟩
        replace k0 := cell_next hb4 k0
        replace k1 := cell_next hb4 k1
        replace k2 := cell_next hb4 k2
        replace k3 := cell_next hb4 k3
        replace k4 := cell_next hb4 k4
        replace k5 := cell_next hb4 k5
        replace k6 := cell_next hb4 k6
        replace k7 := cell_next hb4 k7
        have HB4 := Lib.hid (HB3.out.trans (hb4.mono HB3.out.size))
        clear hb4 HB3
        go_wp2_with fail
        go_ret
        exact ⟨rfl, HB4.out⟩
      · obtain ⟨K, hK⟩ : ∃ K, K = (pr - 1 : Int).toNat := ⟨_, rfl⟩
        have HK := Lib.hid (show max 0 ((pr : Int) - 1) = (K : Int) from by omega)
        have hK2 : K ≤ 190 := by omega
        obtain ⟨R, hR⟩ : ∃ R : ByteArray, R = ⟨(List.replicate K 48).toArray⟩ := ⟨_, rfl⟩
        have HRp := Lib.hid (fun W => Repeat_one 48 K W (by omega))
        rw [← hR] at HRp
        have hRl : List.replicate K 48 = R.data.toList := by rw [hR]
        have hRs : R.size ≤ 190 := by rw [sz_list, ← hRl, List.length_replicate]; omega
        have hn : numW al pr 105 0 = (R ++ ⟨#[48]⟩).data.toList := by unfold numW; rw [if_pos rfl, if_neg (fun h => by cases h.1), if_neg hpz, ByteArray.data_append, Array.toList_append, ← hRl, hK]
        have hh : headW p bl al 105 S 0 = sg.data.toList := by unfold headW; rw [if_pos (by decide)]; exact hsgl
        have HPd := Lib.hid (fun W => padded_any m p bl al true (decide (pr < 0)) wd pr 105 sg (R ++ ⟨#[48]⟩) W hw hw2 (by rw [sz_list]; omega) (by rw [ByteArray.size_append]; show R.size + 1 ≤ _; omega))
        unfold specA at HPd
        have hzz : (true && decide ((pr : Int) < 0)) = (decide (pr < 0)) := by simp
        rw [hn, hh, hzz]
        generalize (⟨(padL m (decide (pr < 0)) wd sg.data.toList (R ++ ⟨#[48]⟩).data.toList).toArray⟩ : ByteArray) = out at *
        clear hn hh hR hRl hzz hK hsgl hsl hsa hnb hpz
        go_enter Tryz.func72, Tryz.ntmps72
        go_wp2_with fail
        refine (HTr.out _).mono ?_
        rintro e _ ⟨rfl, rfl⟩
        go_wp2_with fail
        refine (HFx.out _).mono ?_
        rintro e w1 ⟨rfl, hb1⟩
        have HB1 := Lib.hid (((Below.refl w.heap.size w).alloc (Nat.le_refl _) (.cells #[.bool m, .bool p, .bool bl, .bool al, .bool true, .int .i64 wd, .int .i64 pr, .int .u8 105] 35)).trans (hb1.mono (by simp)))
        have hsp : SpAt w1 w.heap.size #[.bool m, .bool p, .bool bl, .bool al, .bool true, .int .i64 wd, .int .i64 pr, .int .u8 105] := SpAt.next (heap_alloc_at w _) hb1
        have k0 : w1.cell? ⟨w.heap.size, 0, none⟩ = some (.bool m) := hsp.cell 0
        have k1 : w1.cell? ⟨w.heap.size, 1, none⟩ = some (.bool p) := hsp.cell 1
        have k2 : w1.cell? ⟨w.heap.size, 2, none⟩ = some (.bool bl) := hsp.cell 2
        have k3 : w1.cell? ⟨w.heap.size, 3, none⟩ = some (.bool al) := hsp.cell 3
        have k4 : w1.cell? ⟨w.heap.size, 4, none⟩ = some (.bool true) := hsp.cell 4
        have k5 : w1.cell? ⟨w.heap.size, 5, none⟩ = some (.int .i64 wd) := hsp.cell 5
        have k6 : w1.cell? ⟨w.heap.size, 6, none⟩ = some (.int .i64 pr) := hsp.cell 6
        have k7 : w1.cell? ⟨w.heap.size, 7, none⟩ = some (.int .u8 105) := hsp.cell 7
        clear hb1 hsp
        go_wp2_with fail
        refine (HSg.out _).mono ?_
        rintro e w2 ⟨rfl, hb2⟩
        replace k0 := cell_next hb2 k0
        replace k1 := cell_next hb2 k1
        replace k2 := cell_next hb2 k2
        replace k3 := cell_next hb2 k3
        replace k4 := cell_next hb2 k4
        replace k5 := cell_next hb2 k5
        replace k6 := cell_next hb2 k6
        replace k7 := cell_next hb2 k7
        have HB2 := Lib.hid (HB1.out.trans (hb2.mono HB1.out.size))
        clear hb2 HB1
        go_wp2_with fail
        rw [HK.out]
        refine (HRp.out _).mono ?_
        rintro e w3 ⟨rfl, hb3⟩
        replace k0 := cell_next hb3 k0
        replace k1 := cell_next hb3 k1
        replace k2 := cell_next hb3 k2
        replace k3 := cell_next hb3 k3
        replace k4 := cell_next hb3 k4
        replace k5 := cell_next hb3 k5
        replace k6 := cell_next hb3 k6
        replace k7 := cell_next hb3 k7
        have HB3 := Lib.hid (HB2.out.trans (hb3.mono HB2.out.size))
        clear hb3 HB2
        go_wp2_with fail
        refine (HPd.out _).mono ?_
        rintro e w4 ⟨rfl, hb4⟩
        replace k0 := cell_next hb4 k0
        replace k1 := cell_next hb4 k1
        replace k2 := cell_next hb4 k2
        replace k3 := cell_next hb4 k3
        replace k4 := cell_next hb4 k4
        replace k5 := cell_next hb4 k5
        replace k6 := cell_next hb4 k6
        replace k7 := cell_next hb4 k7
        have HB4 := Lib.hid (HB3.out.trans (hb4.mono HB3.out.size))
        clear hb4 HB3
        go_wp2_with fail
        go_ret
        exact ⟨rfl, HB4.out⟩
  · have hl48 := canon_ne0 hc hN
    have hl0 := hc.ne
    obtain ⟨F, hF⟩ : ∃ F : ByteArray, F = ⟨l.toArray⟩ := ⟨_, rfl⟩
    rw [← hF] at HFx
    have hFl : F.data.toList = l := by rw [hF]
    have hF48 : (F.toList == [48]) = false := not_48 (by rw [hFl]; exact hl48)
    have hF49 : ¬ F.toList = [48] := beq_eq_false_iff_ne.1 hF48
    have hF0 : ¬ F.toList = [] := by rw [ByteArray.toList_eq, hFl]; exact hl0
    have hF2 : F.toList.isEmpty = false := isEmpty_no hF0
    have hbw : baseW al 105 N = F.data.toList := by unfold baseW; rw [if_neg (by decide), if_neg (by decide), hdl, hFl]
    have hDs : F.size ≤ 4100 := by rw [sz_list, hFl]; omega
    clear hl48 hl0 hc hdl hF hFl hl
    cases z
    · obtain ⟨K, hK⟩ : ∃ K, K = (pr - (F.size : Int)).toNat := ⟨_, rfl⟩
      have HK := Lib.hid (show max 0 (pr - (F.size : Int)) = (K : Int) from by omega)
      have hK2 : K ≤ 190 := by omega
      obtain ⟨R, hR⟩ : ∃ R : ByteArray, R = ⟨(List.replicate K 48).toArray⟩ := ⟨_, rfl⟩
      have HRp := Lib.hid (fun W => Repeat_one 48 K W (by omega))
      rw [← hR] at HRp
      have hRl : List.replicate K 48 = R.data.toList := by rw [hR]
      have hRs : R.size ≤ 190 := by rw [sz_list, ← hRl, List.length_replicate]; omega
      have hn : numW al pr 105 N = (R ++ F).data.toList := by unfold numW; rw [if_neg hN, hbw, ← sz_list, ← hK, hRl, ByteArray.data_append, Array.toList_append] <;> simp [ByteArray.data_append]
      have hh : headW p bl al 105 S N = sg.data.toList := by unfold headW; rw [if_pos (by decide)]; exact hsgl
      have HPd := Lib.hid (fun W => padded_any m p bl al false (false) wd pr 105 sg (R ++ F) W hw hw2 (by rw [sz_list]; omega) (by rw [ByteArray.size_append]; omega))
      unfold specA at HPd
      have hzz : (false && decide (pr < 0)) = (false) := by simp
      rw [hn, hh, hzz]
      generalize (⟨(padL m (false) wd sg.data.toList (R ++ F).data.toList).toArray⟩ : ByteArray) = out at *
      clear hn hh hR hRl hzz hK hsgl hsl hsa hnb hbw hN
      go_enter Tryz.func72, Tryz.ntmps72
      go_wp2_with fail
      refine (HTr.out _).mono ?_
      rintro e _ ⟨rfl, rfl⟩
      go_wp2_with fail
      refine (HFx.out _).mono ?_
      rintro e w1 ⟨rfl, hb1⟩
      have HB1 := Lib.hid (((Below.refl w.heap.size w).alloc (Nat.le_refl _) (.cells #[.bool m, .bool p, .bool bl, .bool al, .bool false, .int .i64 wd, .int .i64 pr, .int .u8 105] 35)).trans (hb1.mono (by simp)))
      have hsp : SpAt w1 w.heap.size #[.bool m, .bool p, .bool bl, .bool al, .bool false, .int .i64 wd, .int .i64 pr, .int .u8 105] := SpAt.next (heap_alloc_at w _) hb1
      have k0 : w1.cell? ⟨w.heap.size, 0, none⟩ = some (.bool m) := hsp.cell 0
      have k1 : w1.cell? ⟨w.heap.size, 1, none⟩ = some (.bool p) := hsp.cell 1
      have k2 : w1.cell? ⟨w.heap.size, 2, none⟩ = some (.bool bl) := hsp.cell 2
      have k3 : w1.cell? ⟨w.heap.size, 3, none⟩ = some (.bool al) := hsp.cell 3
      have k4 : w1.cell? ⟨w.heap.size, 4, none⟩ = some (.bool false) := hsp.cell 4
      have k5 : w1.cell? ⟨w.heap.size, 5, none⟩ = some (.int .i64 wd) := hsp.cell 5
      have k6 : w1.cell? ⟨w.heap.size, 6, none⟩ = some (.int .i64 pr) := hsp.cell 6
      have k7 : w1.cell? ⟨w.heap.size, 7, none⟩ = some (.int .u8 105) := hsp.cell 7
      clear hb1 hsp
      go_wp2_with fail
      refine (HSg.out _).mono ?_
      rintro e w2 ⟨rfl, hb2⟩
      replace k0 := cell_next hb2 k0
      replace k1 := cell_next hb2 k1
      replace k2 := cell_next hb2 k2
      replace k3 := cell_next hb2 k3
      replace k4 := cell_next hb2 k4
      replace k5 := cell_next hb2 k5
      replace k6 := cell_next hb2 k6
      replace k7 := cell_next hb2 k7
      have HB2 := Lib.hid (HB1.out.trans (hb2.mono HB1.out.size))
      clear hb2 HB1
      go_wp2_with fail
      rw [HK.out]
      refine (HRp.out _).mono ?_
      rintro e w3 ⟨rfl, hb3⟩
      replace k0 := cell_next hb3 k0
      replace k1 := cell_next hb3 k1
      replace k2 := cell_next hb3 k2
      replace k3 := cell_next hb3 k3
      replace k4 := cell_next hb3 k4
      replace k5 := cell_next hb3 k5
      replace k6 := cell_next hb3 k6
      replace k7 := cell_next hb3 k7
      have HB3 := Lib.hid (HB2.out.trans (hb3.mono HB2.out.size))
      clear hb3 HB2
      go_wp2_with fail
      refine (HPd.out _).mono ?_
      rintro e w4 ⟨rfl, hb4⟩
      replace k0 := cell_next hb4 k0
      replace k1 := cell_next hb4 k1
      replace k2 := cell_next hb4 k2
      replace k3 := cell_next hb4 k3
      replace k4 := cell_next hb4 k4
      replace k5 := cell_next hb4 k5
      replace k6 := cell_next hb4 k6
      replace k7 := cell_next hb4 k7
      have HB4 := Lib.hid (HB3.out.trans (hb4.mono HB3.out.size))
      clear hb4 HB3
      go_wp2_with fail
      go_ret
      exact ⟨rfl, HB4.out⟩
    · obtain ⟨K, hK⟩ : ∃ K, K = (pr - (F.size : Int)).toNat := ⟨_, rfl⟩
      have HK := Lib.hid (show max 0 (pr - (F.size : Int)) = (K : Int) from by omega)
      have hK2 : K ≤ 190 := by omega
      obtain ⟨R, hR⟩ : ∃ R : ByteArray, R = ⟨(List.replicate K 48).toArray⟩ := ⟨_, rfl⟩
      have HRp := Lib.hid (fun W => Repeat_one 48 K W (by omega))
      rw [← hR] at HRp
      have hRl : List.replicate K 48 = R.data.toList := by rw [hR]
      have hRs : R.size ≤ 190 := by rw [sz_list, ← hRl, List.length_replicate]; omega
      have hn : numW al pr 105 N = (R ++ F).data.toList := by unfold numW; rw [if_neg hN, hbw, ← sz_list, ← hK, hRl, ByteArray.data_append, Array.toList_append] <;> simp [ByteArray.data_append]
      have hh : headW p bl al 105 S N = sg.data.toList := by unfold headW; rw [if_pos (by decide)]; exact hsgl
      have HPd := Lib.hid (fun W => padded_any m p bl al true (decide (pr < 0)) wd pr 105 sg (R ++ F) W hw hw2 (by rw [sz_list]; omega) (by rw [ByteArray.size_append]; omega))
      unfold specA at HPd
      have hzz : (true && decide (pr < 0)) = (decide (pr < 0)) := by simp
      rw [hn, hh, hzz]
      generalize (⟨(padL m (decide (pr < 0)) wd sg.data.toList (R ++ F).data.toList).toArray⟩ : ByteArray) = out at *
      clear hn hh hR hRl hzz hK hsgl hsl hsa hnb hbw hN
      go_enter Tryz.func72, Tryz.ntmps72
      go_wp2_with fail
      refine (HTr.out _).mono ?_
      rintro e _ ⟨rfl, rfl⟩
      go_wp2_with fail
      refine (HFx.out _).mono ?_
      rintro e w1 ⟨rfl, hb1⟩
      have HB1 := Lib.hid (((Below.refl w.heap.size w).alloc (Nat.le_refl _) (.cells #[.bool m, .bool p, .bool bl, .bool al, .bool true, .int .i64 wd, .int .i64 pr, .int .u8 105] 35)).trans (hb1.mono (by simp)))
      have hsp : SpAt w1 w.heap.size #[.bool m, .bool p, .bool bl, .bool al, .bool true, .int .i64 wd, .int .i64 pr, .int .u8 105] := SpAt.next (heap_alloc_at w _) hb1
      have k0 : w1.cell? ⟨w.heap.size, 0, none⟩ = some (.bool m) := hsp.cell 0
      have k1 : w1.cell? ⟨w.heap.size, 1, none⟩ = some (.bool p) := hsp.cell 1
      have k2 : w1.cell? ⟨w.heap.size, 2, none⟩ = some (.bool bl) := hsp.cell 2
      have k3 : w1.cell? ⟨w.heap.size, 3, none⟩ = some (.bool al) := hsp.cell 3
      have k4 : w1.cell? ⟨w.heap.size, 4, none⟩ = some (.bool true) := hsp.cell 4
      have k5 : w1.cell? ⟨w.heap.size, 5, none⟩ = some (.int .i64 wd) := hsp.cell 5
      have k6 : w1.cell? ⟨w.heap.size, 6, none⟩ = some (.int .i64 pr) := hsp.cell 6
      have k7 : w1.cell? ⟨w.heap.size, 7, none⟩ = some (.int .u8 105) := hsp.cell 7
      clear hb1 hsp
      go_wp2_with fail
      refine (HSg.out _).mono ?_
      rintro e w2 ⟨rfl, hb2⟩
      replace k0 := cell_next hb2 k0
      replace k1 := cell_next hb2 k1
      replace k2 := cell_next hb2 k2
      replace k3 := cell_next hb2 k3
      replace k4 := cell_next hb2 k4
      replace k5 := cell_next hb2 k5
      replace k6 := cell_next hb2 k6
      replace k7 := cell_next hb2 k7
      have HB2 := Lib.hid (HB1.out.trans (hb2.mono HB1.out.size))
      clear hb2 HB1
      go_wp2_with fail
      rw [HK.out]
      refine (HRp.out _).mono ?_
      rintro e w3 ⟨rfl, hb3⟩
      replace k0 := cell_next hb3 k0
      replace k1 := cell_next hb3 k1
      replace k2 := cell_next hb3 k2
      replace k3 := cell_next hb3 k3
      replace k4 := cell_next hb3 k4
      replace k5 := cell_next hb3 k5
      replace k6 := cell_next hb3 k6
      replace k7 := cell_next hb3 k7
      have HB3 := Lib.hid (HB2.out.trans (hb3.mono HB2.out.size))
      clear hb3 HB2
      go_wp2_with fail
      refine (HPd.out _).mono ?_
      rintro e w4 ⟨rfl, hb4⟩
      replace k0 := cell_next hb4 k0
      replace k1 := cell_next hb4 k1
      replace k2 := cell_next hb4 k2
      replace k3 := cell_next hb4 k3
      replace k4 := cell_next hb4 k4
      replace k5 := cell_next hb4 k5
      replace k6 := cell_next hb4 k6
      replace k7 := cell_next hb4 k7
      have HB4 := Lib.hid (HB3.out.trans (hb4.mono HB3.out.size))
      clear hb4 HB3
      go_wp2_with fail
      go_ret
      exact ⟨rfl, HB4.out⟩

set_option maxHeartbeats 16000000 in
set_option maxRecDepth 1000000 in
theorem whole_117 (m p bl al z : Bool) (wd pr : Int) (b : Nat) (w : World) (hb : b < 18446744073709551616) (hf : fin b = true) (hp1 : -1 ≤ pr) (hp2 : pr ≤ 190) (hw : 0 ≤ wd) (hw2 : wd ≤ 1024) :
    Calls Tryz.prog 72 #[.agg (specA m p bl al z wd pr 117), .float .f64 b] w fun e w' => e = .returned (.string (wholeO m p bl al z wd pr 117 b)) ∧ Below w.heap.size w w' := by
  have HTr := Lib.hid (fun W => Trunc_any b W hb)
  obtain ⟨ht1, ht2⟩ := trunc_fin hb hf
  obtain ⟨l, hc, hl, hfx, hdl⟩ := whole_text hb hf
  have HFx := Lib.hid (fun W => Fixed_det (truncB b) 0 W ht1 ht2 (by decide))
  rw [hfx] at HFx
  have hnb := whole_bits5 b
  have hS : (FloatKind.f64.format.order (truncB b) 0 == some .lt) = wholeS b := rfl
  have hO : wholeO m p bl al z wd pr 117 b = ⟨(padW m p bl al z wd pr 117 b).toArray⟩ := rfl
  rw [hO]
  clear hO
  unfold padW
  generalize truncB b = T at *
  generalize wholeN b = N at *
  generalize wholeS b = S at *
  clear ht1 ht2 hfx hb hf
  have HSg := Lib.hid (fun W => sign_any false false false false false S 0 0 0 W)
  obtain ⟨sg, hsg⟩ : ∃ sg : ByteArray, sg = ⟨(signL false false S).toArray⟩ := ⟨_, rfl⟩
  have hsl := signL_size5 false false S
  have hsa := signL_asc false false S
  rw [← hsg] at HSg
  have hsgl : signL false false S = sg.data.toList := by rw [hsg]
  rw [hsgl] at hsl hsa
  have hsgz : sg.size ≤ 1 := by rw [sz_list]; exact hsl
  clear hsg
  unfold specA at *
  by_cases hN : N = 0
  · subst hN
    have hl48 : l = [48] := canon_0 hc
    subst hl48
    clear hc hl hdl
    by_cases hpz : pr = 0
    · subst hpz
      cases z
      · obtain ⟨R, hR⟩ : ∃ R : ByteArray, R = ⟨(List.replicate 0 48).toArray⟩ := ⟨_, rfl⟩
        have HRp : Hid (∀ W, Calls Tryz.prog 114 #[.string ⟨#[48]⟩, .int .i64 0] W fun e w' => e = .returned (.string R) ∧ Below W.heap.size W w') := fun W => by rw [hR]; exact Repeat_one 48 0 W (by decide)
        have hRl : List.replicate 0 48 = R.data.toList := by rw [hR]
        have hK : True := trivial
        have hRs : R.size ≤ 190 := by rw [sz_list, ← hRl, List.length_replicate]; omega
        have hn : numW al 0 117 0 = (R ++ ⟨#[]⟩).data.toList := by unfold numW; rw [if_pos rfl, if_neg (fun h => by cases h.1), if_pos rfl, ByteArray.data_append, Array.toList_append, ← hRl]; rfl
        have hh : headW p bl al 117 S 0 = sg.data.toList := by unfold headW; rw [if_neg (by decide), if_neg (fun h => h.2.2 rfl), if_neg (fun h => by cases h.1)]; exact hsgl
        have HPd := Lib.hid (fun W => padded_any m p bl al false (false) wd 0 117 sg (R ++ ⟨#[]⟩) W hw hw2 (by rw [sz_list]; omega) (by rw [ByteArray.size_append]; show R.size + 0 ≤ _; omega))
        unfold specA at HPd
        have hzz : (false && decide ((0 : Int) < 0)) = (false) := by simp
        rw [hn, hh, hzz]
        generalize (⟨(padL m (false) wd sg.data.toList (R ++ ⟨#[]⟩).data.toList).toArray⟩ : ByteArray) = out at *
        clear hn hh hR hRl hzz hK hsgl hsl hsa hnb
        go_enter Tryz.func72, Tryz.ntmps72
        go_wp2_with fail
        refine (HTr.out _).mono ?_
        rintro e _ ⟨rfl, rfl⟩
        go_wp2_with fail
        refine (HFx.out _).mono ?_
        rintro e w1 ⟨rfl, hb1⟩
        have HB1 := Lib.hid (((Below.refl w.heap.size w).alloc (Nat.le_refl _) (.cells #[.bool m, .bool p, .bool bl, .bool al, .bool false, .int .i64 wd, .int .i64 0, .int .u8 117] 35)).trans (hb1.mono (by simp)))
        have hsp : SpAt w1 w.heap.size #[.bool m, .bool p, .bool bl, .bool al, .bool false, .int .i64 wd, .int .i64 0, .int .u8 117] := SpAt.next (heap_alloc_at w _) hb1
        have k0 : w1.cell? ⟨w.heap.size, 0, none⟩ = some (.bool m) := hsp.cell 0
        have k1 : w1.cell? ⟨w.heap.size, 1, none⟩ = some (.bool p) := hsp.cell 1
        have k2 : w1.cell? ⟨w.heap.size, 2, none⟩ = some (.bool bl) := hsp.cell 2
        have k3 : w1.cell? ⟨w.heap.size, 3, none⟩ = some (.bool al) := hsp.cell 3
        have k4 : w1.cell? ⟨w.heap.size, 4, none⟩ = some (.bool false) := hsp.cell 4
        have k5 : w1.cell? ⟨w.heap.size, 5, none⟩ = some (.int .i64 wd) := hsp.cell 5
        have k6 : w1.cell? ⟨w.heap.size, 6, none⟩ = some (.int .i64 0) := hsp.cell 6
        have k7 : w1.cell? ⟨w.heap.size, 7, none⟩ = some (.int .u8 117) := hsp.cell 7
        clear hb1 hsp
        go_wp2_with fail
        refine (HSg.out _).mono ?_
        rintro e w2 ⟨rfl, hb2⟩
        replace k0 := cell_next hb2 k0
        replace k1 := cell_next hb2 k1
        replace k2 := cell_next hb2 k2
        replace k3 := cell_next hb2 k3
        replace k4 := cell_next hb2 k4
        replace k5 := cell_next hb2 k5
        replace k6 := cell_next hb2 k6
        replace k7 := cell_next hb2 k7
        have HB2 := Lib.hid (HB1.out.trans (hb2.mono HB1.out.size))
        clear hb2 HB1
        go_wp2_with fail
        refine (HRp.out _).mono ?_
        rintro e w3 ⟨rfl, hb3⟩
        replace k0 := cell_next hb3 k0
        replace k1 := cell_next hb3 k1
        replace k2 := cell_next hb3 k2
        replace k3 := cell_next hb3 k3
        replace k4 := cell_next hb3 k4
        replace k5 := cell_next hb3 k5
        replace k6 := cell_next hb3 k6
        replace k7 := cell_next hb3 k7
        have HB3 := Lib.hid (HB2.out.trans (hb3.mono HB2.out.size))
        clear hb3 HB2
        go_wp2_with fail
        refine (HPd.out _).mono ?_
        rintro e w4 ⟨rfl, hb4⟩
        replace k0 := cell_next hb4 k0
        replace k1 := cell_next hb4 k1
        replace k2 := cell_next hb4 k2
        replace k3 := cell_next hb4 k3
        replace k4 := cell_next hb4 k4
        replace k5 := cell_next hb4 k5
        replace k6 := cell_next hb4 k6
        replace k7 := cell_next hb4 k7
        have HB4 := Lib.hid (HB3.out.trans (hb4.mono HB3.out.size))
        clear hb4 HB3
        go_wp2_with fail
        go_ret
        exact ⟨rfl, HB4.out⟩
      · obtain ⟨R, hR⟩ : ∃ R : ByteArray, R = ⟨(List.replicate 0 48).toArray⟩ := ⟨_, rfl⟩
        have HRp : Hid (∀ W, Calls Tryz.prog 114 #[.string ⟨#[48]⟩, .int .i64 0] W fun e w' => e = .returned (.string R) ∧ Below W.heap.size W w') := fun W => by rw [hR]; exact Repeat_one 48 0 W (by decide)
        have hRl : List.replicate 0 48 = R.data.toList := by rw [hR]
        have hK : True := trivial
        have hRs : R.size ≤ 190 := by rw [sz_list, ← hRl, List.length_replicate]; omega
        have hn : numW al 0 117 0 = (R ++ ⟨#[]⟩).data.toList := by unfold numW; rw [if_pos rfl, if_neg (fun h => by cases h.1), if_pos rfl, ByteArray.data_append, Array.toList_append, ← hRl]; rfl
        have hh : headW p bl al 117 S 0 = sg.data.toList := by unfold headW; rw [if_neg (by decide), if_neg (fun h => h.2.2 rfl), if_neg (fun h => by cases h.1)]; exact hsgl
        have HPd := Lib.hid (fun W => padded_any m p bl al true (false) wd 0 117 sg (R ++ ⟨#[]⟩) W hw hw2 (by rw [sz_list]; omega) (by rw [ByteArray.size_append]; show R.size + 0 ≤ _; omega))
        unfold specA at HPd
        have hzz : (true && decide ((0 : Int) < 0)) = (false) := by simp
        rw [hn, hh, hzz]
        generalize (⟨(padL m (false) wd sg.data.toList (R ++ ⟨#[]⟩).data.toList).toArray⟩ : ByteArray) = out at *
        clear hn hh hR hRl hzz hK hsgl hsl hsa hnb
        go_enter Tryz.func72, Tryz.ntmps72
        go_wp2_with fail
        refine (HTr.out _).mono ?_
        rintro e _ ⟨rfl, rfl⟩
        go_wp2_with fail
        refine (HFx.out _).mono ?_
        rintro e w1 ⟨rfl, hb1⟩
        have HB1 := Lib.hid (((Below.refl w.heap.size w).alloc (Nat.le_refl _) (.cells #[.bool m, .bool p, .bool bl, .bool al, .bool true, .int .i64 wd, .int .i64 0, .int .u8 117] 35)).trans (hb1.mono (by simp)))
        have hsp : SpAt w1 w.heap.size #[.bool m, .bool p, .bool bl, .bool al, .bool true, .int .i64 wd, .int .i64 0, .int .u8 117] := SpAt.next (heap_alloc_at w _) hb1
        have k0 : w1.cell? ⟨w.heap.size, 0, none⟩ = some (.bool m) := hsp.cell 0
        have k1 : w1.cell? ⟨w.heap.size, 1, none⟩ = some (.bool p) := hsp.cell 1
        have k2 : w1.cell? ⟨w.heap.size, 2, none⟩ = some (.bool bl) := hsp.cell 2
        have k3 : w1.cell? ⟨w.heap.size, 3, none⟩ = some (.bool al) := hsp.cell 3
        have k4 : w1.cell? ⟨w.heap.size, 4, none⟩ = some (.bool true) := hsp.cell 4
        have k5 : w1.cell? ⟨w.heap.size, 5, none⟩ = some (.int .i64 wd) := hsp.cell 5
        have k6 : w1.cell? ⟨w.heap.size, 6, none⟩ = some (.int .i64 0) := hsp.cell 6
        have k7 : w1.cell? ⟨w.heap.size, 7, none⟩ = some (.int .u8 117) := hsp.cell 7
        clear hb1 hsp
        go_wp2_with fail
        refine (HSg.out _).mono ?_
        rintro e w2 ⟨rfl, hb2⟩
        replace k0 := cell_next hb2 k0
        replace k1 := cell_next hb2 k1
        replace k2 := cell_next hb2 k2
        replace k3 := cell_next hb2 k3
        replace k4 := cell_next hb2 k4
        replace k5 := cell_next hb2 k5
        replace k6 := cell_next hb2 k6
        replace k7 := cell_next hb2 k7
        have HB2 := Lib.hid (HB1.out.trans (hb2.mono HB1.out.size))
        clear hb2 HB1
        go_wp2_with fail
        refine (HRp.out _).mono ?_
        rintro e w3 ⟨rfl, hb3⟩
        replace k0 := cell_next hb3 k0
        replace k1 := cell_next hb3 k1
        replace k2 := cell_next hb3 k2
        replace k3 := cell_next hb3 k3
        replace k4 := cell_next hb3 k4
        replace k5 := cell_next hb3 k5
        replace k6 := cell_next hb3 k6
        replace k7 := cell_next hb3 k7
        have HB3 := Lib.hid (HB2.out.trans (hb3.mono HB2.out.size))
        clear hb3 HB2
        go_wp2_with fail
        refine (HPd.out _).mono ?_
        rintro e w4 ⟨rfl, hb4⟩
        replace k0 := cell_next hb4 k0
        replace k1 := cell_next hb4 k1
        replace k2 := cell_next hb4 k2
        replace k3 := cell_next hb4 k3
        replace k4 := cell_next hb4 k4
        replace k5 := cell_next hb4 k5
        replace k6 := cell_next hb4 k6
        replace k7 := cell_next hb4 k7
        have HB4 := Lib.hid (HB3.out.trans (hb4.mono HB3.out.size))
        clear hb4 HB3
        go_wp2_with fail
        go_ret
        exact ⟨rfl, HB4.out⟩
    · have hpz2 : (pr == 0) = false := beq_eq_false_iff_ne.2 hpz
      cases z
      · obtain ⟨K, hK⟩ : ∃ K, K = (pr - 1 : Int).toNat := ⟨_, rfl⟩
        have HK := Lib.hid (show max 0 ((pr : Int) - 1) = (K : Int) from by omega)
        have hK2 : K ≤ 190 := by omega
        obtain ⟨R, hR⟩ : ∃ R : ByteArray, R = ⟨(List.replicate K 48).toArray⟩ := ⟨_, rfl⟩
        have HRp := Lib.hid (fun W => Repeat_one 48 K W (by omega))
        rw [← hR] at HRp
        have hRl : List.replicate K 48 = R.data.toList := by rw [hR]
        have hRs : R.size ≤ 190 := by rw [sz_list, ← hRl, List.length_replicate]; omega
        have hn : numW al pr 117 0 = (R ++ ⟨#[48]⟩).data.toList := by unfold numW; rw [if_pos rfl, if_neg (fun h => by cases h.1), if_neg hpz, ByteArray.data_append, Array.toList_append, ← hRl, hK]
        have hh : headW p bl al 117 S 0 = sg.data.toList := by unfold headW; rw [if_neg (by decide), if_neg (fun h => h.2.2 rfl), if_neg (fun h => by cases h.1)]; exact hsgl
        have HPd := Lib.hid (fun W => padded_any m p bl al false (false) wd pr 117 sg (R ++ ⟨#[48]⟩) W hw hw2 (by rw [sz_list]; omega) (by rw [ByteArray.size_append]; show R.size + 1 ≤ _; omega))
        unfold specA at HPd
        have hzz : (false && decide ((pr : Int) < 0)) = (false) := by simp
        rw [hn, hh, hzz]
        generalize (⟨(padL m (false) wd sg.data.toList (R ++ ⟨#[48]⟩).data.toList).toArray⟩ : ByteArray) = out at *
        clear hn hh hR hRl hzz hK hsgl hsl hsa hnb hpz
        go_enter Tryz.func72, Tryz.ntmps72
        go_wp2_with fail
        refine (HTr.out _).mono ?_
        rintro e _ ⟨rfl, rfl⟩
        go_wp2_with fail
        refine (HFx.out _).mono ?_
        rintro e w1 ⟨rfl, hb1⟩
        have HB1 := Lib.hid (((Below.refl w.heap.size w).alloc (Nat.le_refl _) (.cells #[.bool m, .bool p, .bool bl, .bool al, .bool false, .int .i64 wd, .int .i64 pr, .int .u8 117] 35)).trans (hb1.mono (by simp)))
        have hsp : SpAt w1 w.heap.size #[.bool m, .bool p, .bool bl, .bool al, .bool false, .int .i64 wd, .int .i64 pr, .int .u8 117] := SpAt.next (heap_alloc_at w _) hb1
        have k0 : w1.cell? ⟨w.heap.size, 0, none⟩ = some (.bool m) := hsp.cell 0
        have k1 : w1.cell? ⟨w.heap.size, 1, none⟩ = some (.bool p) := hsp.cell 1
        have k2 : w1.cell? ⟨w.heap.size, 2, none⟩ = some (.bool bl) := hsp.cell 2
        have k3 : w1.cell? ⟨w.heap.size, 3, none⟩ = some (.bool al) := hsp.cell 3
        have k4 : w1.cell? ⟨w.heap.size, 4, none⟩ = some (.bool false) := hsp.cell 4
        have k5 : w1.cell? ⟨w.heap.size, 5, none⟩ = some (.int .i64 wd) := hsp.cell 5
        have k6 : w1.cell? ⟨w.heap.size, 6, none⟩ = some (.int .i64 pr) := hsp.cell 6
        have k7 : w1.cell? ⟨w.heap.size, 7, none⟩ = some (.int .u8 117) := hsp.cell 7
        clear hb1 hsp
        go_wp2_with fail
        refine (HSg.out _).mono ?_
        rintro e w2 ⟨rfl, hb2⟩
        replace k0 := cell_next hb2 k0
        replace k1 := cell_next hb2 k1
        replace k2 := cell_next hb2 k2
        replace k3 := cell_next hb2 k3
        replace k4 := cell_next hb2 k4
        replace k5 := cell_next hb2 k5
        replace k6 := cell_next hb2 k6
        replace k7 := cell_next hb2 k7
        have HB2 := Lib.hid (HB1.out.trans (hb2.mono HB1.out.size))
        clear hb2 HB1
        go_wp2_with fail
        rw [HK.out]
        refine (HRp.out _).mono ?_
        rintro e w3 ⟨rfl, hb3⟩
        replace k0 := cell_next hb3 k0
        replace k1 := cell_next hb3 k1
        replace k2 := cell_next hb3 k2
        replace k3 := cell_next hb3 k3
        replace k4 := cell_next hb3 k4
        replace k5 := cell_next hb3 k5
        replace k6 := cell_next hb3 k6
        replace k7 := cell_next hb3 k7
        have HB3 := Lib.hid (HB2.out.trans (hb3.mono HB2.out.size))
        clear hb3 HB2
        go_wp2_with fail
        refine (HPd.out _).mono ?_
        rintro e w4 ⟨rfl, hb4⟩
        replace k0 := cell_next hb4 k0
        replace k1 := cell_next hb4 k1
        replace k2 := cell_next hb4 k2
        replace k3 := cell_next hb4 k3
        replace k4 := cell_next hb4 k4
        replace k5 := cell_next hb4 k5
        replace k6 := cell_next hb4 k6
        replace k7 := cell_next hb4 k7
        have HB4 := Lib.hid (HB3.out.trans (hb4.mono HB3.out.size))
        clear hb4 HB3
        go_wp2_with fail
        go_ret
        exact ⟨rfl, HB4.out⟩
      · obtain ⟨K, hK⟩ : ∃ K, K = (pr - 1 : Int).toNat := ⟨_, rfl⟩
        have HK := Lib.hid (show max 0 ((pr : Int) - 1) = (K : Int) from by omega)
        have hK2 : K ≤ 190 := by omega
        obtain ⟨R, hR⟩ : ∃ R : ByteArray, R = ⟨(List.replicate K 48).toArray⟩ := ⟨_, rfl⟩
        have HRp := Lib.hid (fun W => Repeat_one 48 K W (by omega))
        rw [← hR] at HRp
        have hRl : List.replicate K 48 = R.data.toList := by rw [hR]
        have hRs : R.size ≤ 190 := by rw [sz_list, ← hRl, List.length_replicate]; omega
        have hn : numW al pr 117 0 = (R ++ ⟨#[48]⟩).data.toList := by unfold numW; rw [if_pos rfl, if_neg (fun h => by cases h.1), if_neg hpz, ByteArray.data_append, Array.toList_append, ← hRl, hK]
        have hh : headW p bl al 117 S 0 = sg.data.toList := by unfold headW; rw [if_neg (by decide), if_neg (fun h => h.2.2 rfl), if_neg (fun h => by cases h.1)]; exact hsgl
        have HPd := Lib.hid (fun W => padded_any m p bl al true (decide (pr < 0)) wd pr 117 sg (R ++ ⟨#[48]⟩) W hw hw2 (by rw [sz_list]; omega) (by rw [ByteArray.size_append]; show R.size + 1 ≤ _; omega))
        unfold specA at HPd
        have hzz : (true && decide ((pr : Int) < 0)) = (decide (pr < 0)) := by simp
        rw [hn, hh, hzz]
        generalize (⟨(padL m (decide (pr < 0)) wd sg.data.toList (R ++ ⟨#[48]⟩).data.toList).toArray⟩ : ByteArray) = out at *
        clear hn hh hR hRl hzz hK hsgl hsl hsa hnb hpz
        go_enter Tryz.func72, Tryz.ntmps72
        go_wp2_with fail
        refine (HTr.out _).mono ?_
        rintro e _ ⟨rfl, rfl⟩
        go_wp2_with fail
        refine (HFx.out _).mono ?_
        rintro e w1 ⟨rfl, hb1⟩
        have HB1 := Lib.hid (((Below.refl w.heap.size w).alloc (Nat.le_refl _) (.cells #[.bool m, .bool p, .bool bl, .bool al, .bool true, .int .i64 wd, .int .i64 pr, .int .u8 117] 35)).trans (hb1.mono (by simp)))
        have hsp : SpAt w1 w.heap.size #[.bool m, .bool p, .bool bl, .bool al, .bool true, .int .i64 wd, .int .i64 pr, .int .u8 117] := SpAt.next (heap_alloc_at w _) hb1
        have k0 : w1.cell? ⟨w.heap.size, 0, none⟩ = some (.bool m) := hsp.cell 0
        have k1 : w1.cell? ⟨w.heap.size, 1, none⟩ = some (.bool p) := hsp.cell 1
        have k2 : w1.cell? ⟨w.heap.size, 2, none⟩ = some (.bool bl) := hsp.cell 2
        have k3 : w1.cell? ⟨w.heap.size, 3, none⟩ = some (.bool al) := hsp.cell 3
        have k4 : w1.cell? ⟨w.heap.size, 4, none⟩ = some (.bool true) := hsp.cell 4
        have k5 : w1.cell? ⟨w.heap.size, 5, none⟩ = some (.int .i64 wd) := hsp.cell 5
        have k6 : w1.cell? ⟨w.heap.size, 6, none⟩ = some (.int .i64 pr) := hsp.cell 6
        have k7 : w1.cell? ⟨w.heap.size, 7, none⟩ = some (.int .u8 117) := hsp.cell 7
        clear hb1 hsp
        go_wp2_with fail
        refine (HSg.out _).mono ?_
        rintro e w2 ⟨rfl, hb2⟩
        replace k0 := cell_next hb2 k0
        replace k1 := cell_next hb2 k1
        replace k2 := cell_next hb2 k2
        replace k3 := cell_next hb2 k3
        replace k4 := cell_next hb2 k4
        replace k5 := cell_next hb2 k5
        replace k6 := cell_next hb2 k6
        replace k7 := cell_next hb2 k7
        have HB2 := Lib.hid (HB1.out.trans (hb2.mono HB1.out.size))
        clear hb2 HB1
        go_wp2_with fail
        rw [HK.out]
        refine (HRp.out _).mono ?_
        rintro e w3 ⟨rfl, hb3⟩
        replace k0 := cell_next hb3 k0
        replace k1 := cell_next hb3 k1
        replace k2 := cell_next hb3 k2
        replace k3 := cell_next hb3 k3
        replace k4 := cell_next hb3 k4
        replace k5 := cell_next hb3 k5
        replace k6 := cell_next hb3 k6
        replace k7 := cell_next hb3 k7
        have HB3 := Lib.hid (HB2.out.trans (hb3.mono HB2.out.size))
        clear hb3 HB2
        go_wp2_with fail
        refine (HPd.out _).mono ?_
        rintro e w4 ⟨rfl, hb4⟩
        replace k0 := cell_next hb4 k0
        replace k1 := cell_next hb4 k1
        replace k2 := cell_next hb4 k2
        replace k3 := cell_next hb4 k3
        replace k4 := cell_next hb4 k4
        replace k5 := cell_next hb4 k5
        replace k6 := cell_next hb4 k6
        replace k7 := cell_next hb4 k7
        have HB4 := Lib.hid (HB3.out.trans (hb4.mono HB3.out.size))
        clear hb4 HB3
        go_wp2_with fail
        go_ret
        exact ⟨rfl, HB4.out⟩
  · have hl48 := canon_ne0 hc hN
    have hl0 := hc.ne
    obtain ⟨F, hF⟩ : ∃ F : ByteArray, F = ⟨l.toArray⟩ := ⟨_, rfl⟩
    rw [← hF] at HFx
    have hFl : F.data.toList = l := by rw [hF]
    have hF48 : (F.toList == [48]) = false := not_48 (by rw [hFl]; exact hl48)
    have hF49 : ¬ F.toList = [48] := beq_eq_false_iff_ne.1 hF48
    have hF0 : ¬ F.toList = [] := by rw [ByteArray.toList_eq, hFl]; exact hl0
    have hF2 : F.toList.isEmpty = false := isEmpty_no hF0
    have hbw : baseW al 117 N = F.data.toList := by unfold baseW; rw [if_neg (by decide), if_neg (by decide), hdl, hFl]
    have hDs : F.size ≤ 4100 := by rw [sz_list, hFl]; omega
    clear hl48 hl0 hc hdl hF hFl hl
    cases z
    · obtain ⟨K, hK⟩ : ∃ K, K = (pr - (F.size : Int)).toNat := ⟨_, rfl⟩
      have HK := Lib.hid (show max 0 (pr - (F.size : Int)) = (K : Int) from by omega)
      have hK2 : K ≤ 190 := by omega
      obtain ⟨R, hR⟩ : ∃ R : ByteArray, R = ⟨(List.replicate K 48).toArray⟩ := ⟨_, rfl⟩
      have HRp := Lib.hid (fun W => Repeat_one 48 K W (by omega))
      rw [← hR] at HRp
      have hRl : List.replicate K 48 = R.data.toList := by rw [hR]
      have hRs : R.size ≤ 190 := by rw [sz_list, ← hRl, List.length_replicate]; omega
      have hn : numW al pr 117 N = (R ++ F).data.toList := by unfold numW; rw [if_neg hN, hbw, ← sz_list, ← hK, hRl, ByteArray.data_append, Array.toList_append] <;> simp [ByteArray.data_append]
      have hh : headW p bl al 117 S N = sg.data.toList := by unfold headW; rw [if_neg (by decide), if_neg (fun h => by rcases h.1 with h | h <;> cases h), if_neg (fun h => hN h.2.2)]; exact hsgl
      have HPd := Lib.hid (fun W => padded_any m p bl al false (false) wd pr 117 sg (R ++ F) W hw hw2 (by rw [sz_list]; omega) (by rw [ByteArray.size_append]; omega))
      unfold specA at HPd
      have hzz : (false && decide (pr < 0)) = (false) := by simp
      rw [hn, hh, hzz]
      generalize (⟨(padL m (false) wd sg.data.toList (R ++ F).data.toList).toArray⟩ : ByteArray) = out at *
      clear hn hh hR hRl hzz hK hsgl hsl hsa hnb hbw hN
      go_enter Tryz.func72, Tryz.ntmps72
      go_wp2_with fail
      refine (HTr.out _).mono ?_
      rintro e _ ⟨rfl, rfl⟩
      go_wp2_with fail
      refine (HFx.out _).mono ?_
      rintro e w1 ⟨rfl, hb1⟩
      have HB1 := Lib.hid (((Below.refl w.heap.size w).alloc (Nat.le_refl _) (.cells #[.bool m, .bool p, .bool bl, .bool al, .bool false, .int .i64 wd, .int .i64 pr, .int .u8 117] 35)).trans (hb1.mono (by simp)))
      have hsp : SpAt w1 w.heap.size #[.bool m, .bool p, .bool bl, .bool al, .bool false, .int .i64 wd, .int .i64 pr, .int .u8 117] := SpAt.next (heap_alloc_at w _) hb1
      have k0 : w1.cell? ⟨w.heap.size, 0, none⟩ = some (.bool m) := hsp.cell 0
      have k1 : w1.cell? ⟨w.heap.size, 1, none⟩ = some (.bool p) := hsp.cell 1
      have k2 : w1.cell? ⟨w.heap.size, 2, none⟩ = some (.bool bl) := hsp.cell 2
      have k3 : w1.cell? ⟨w.heap.size, 3, none⟩ = some (.bool al) := hsp.cell 3
      have k4 : w1.cell? ⟨w.heap.size, 4, none⟩ = some (.bool false) := hsp.cell 4
      have k5 : w1.cell? ⟨w.heap.size, 5, none⟩ = some (.int .i64 wd) := hsp.cell 5
      have k6 : w1.cell? ⟨w.heap.size, 6, none⟩ = some (.int .i64 pr) := hsp.cell 6
      have k7 : w1.cell? ⟨w.heap.size, 7, none⟩ = some (.int .u8 117) := hsp.cell 7
      clear hb1 hsp
      go_wp2_with fail
      refine (HSg.out _).mono ?_
      rintro e w2 ⟨rfl, hb2⟩
      replace k0 := cell_next hb2 k0
      replace k1 := cell_next hb2 k1
      replace k2 := cell_next hb2 k2
      replace k3 := cell_next hb2 k3
      replace k4 := cell_next hb2 k4
      replace k5 := cell_next hb2 k5
      replace k6 := cell_next hb2 k6
      replace k7 := cell_next hb2 k7
      have HB2 := Lib.hid (HB1.out.trans (hb2.mono HB1.out.size))
      clear hb2 HB1
      go_wp2_with fail
      rw [HK.out]
      refine (HRp.out _).mono ?_
      rintro e w3 ⟨rfl, hb3⟩
      replace k0 := cell_next hb3 k0
      replace k1 := cell_next hb3 k1
      replace k2 := cell_next hb3 k2
      replace k3 := cell_next hb3 k3
      replace k4 := cell_next hb3 k4
      replace k5 := cell_next hb3 k5
      replace k6 := cell_next hb3 k6
      replace k7 := cell_next hb3 k7
      have HB3 := Lib.hid (HB2.out.trans (hb3.mono HB2.out.size))
      clear hb3 HB2
      go_wp2_with fail
      refine (HPd.out _).mono ?_
      rintro e w4 ⟨rfl, hb4⟩
      replace k0 := cell_next hb4 k0
      replace k1 := cell_next hb4 k1
      replace k2 := cell_next hb4 k2
      replace k3 := cell_next hb4 k3
      replace k4 := cell_next hb4 k4
      replace k5 := cell_next hb4 k5
      replace k6 := cell_next hb4 k6
      replace k7 := cell_next hb4 k7
      have HB4 := Lib.hid (HB3.out.trans (hb4.mono HB3.out.size))
      clear hb4 HB3
      go_wp2_with fail
      go_ret
      exact ⟨rfl, HB4.out⟩
    · obtain ⟨K, hK⟩ : ∃ K, K = (pr - (F.size : Int)).toNat := ⟨_, rfl⟩
      have HK := Lib.hid (show max 0 (pr - (F.size : Int)) = (K : Int) from by omega)
      have hK2 : K ≤ 190 := by omega
      obtain ⟨R, hR⟩ : ∃ R : ByteArray, R = ⟨(List.replicate K 48).toArray⟩ := ⟨_, rfl⟩
      have HRp := Lib.hid (fun W => Repeat_one 48 K W (by omega))
      rw [← hR] at HRp
      have hRl : List.replicate K 48 = R.data.toList := by rw [hR]
      have hRs : R.size ≤ 190 := by rw [sz_list, ← hRl, List.length_replicate]; omega
      have hn : numW al pr 117 N = (R ++ F).data.toList := by unfold numW; rw [if_neg hN, hbw, ← sz_list, ← hK, hRl, ByteArray.data_append, Array.toList_append] <;> simp [ByteArray.data_append]
      have hh : headW p bl al 117 S N = sg.data.toList := by unfold headW; rw [if_neg (by decide), if_neg (fun h => by rcases h.1 with h | h <;> cases h), if_neg (fun h => hN h.2.2)]; exact hsgl
      have HPd := Lib.hid (fun W => padded_any m p bl al true (decide (pr < 0)) wd pr 117 sg (R ++ F) W hw hw2 (by rw [sz_list]; omega) (by rw [ByteArray.size_append]; omega))
      unfold specA at HPd
      have hzz : (true && decide (pr < 0)) = (decide (pr < 0)) := by simp
      rw [hn, hh, hzz]
      generalize (⟨(padL m (decide (pr < 0)) wd sg.data.toList (R ++ F).data.toList).toArray⟩ : ByteArray) = out at *
      clear hn hh hR hRl hzz hK hsgl hsl hsa hnb hbw hN
      go_enter Tryz.func72, Tryz.ntmps72
      go_wp2_with fail
      refine (HTr.out _).mono ?_
      rintro e _ ⟨rfl, rfl⟩
      go_wp2_with fail
      refine (HFx.out _).mono ?_
      rintro e w1 ⟨rfl, hb1⟩
      have HB1 := Lib.hid (((Below.refl w.heap.size w).alloc (Nat.le_refl _) (.cells #[.bool m, .bool p, .bool bl, .bool al, .bool true, .int .i64 wd, .int .i64 pr, .int .u8 117] 35)).trans (hb1.mono (by simp)))
      have hsp : SpAt w1 w.heap.size #[.bool m, .bool p, .bool bl, .bool al, .bool true, .int .i64 wd, .int .i64 pr, .int .u8 117] := SpAt.next (heap_alloc_at w _) hb1
      have k0 : w1.cell? ⟨w.heap.size, 0, none⟩ = some (.bool m) := hsp.cell 0
      have k1 : w1.cell? ⟨w.heap.size, 1, none⟩ = some (.bool p) := hsp.cell 1
      have k2 : w1.cell? ⟨w.heap.size, 2, none⟩ = some (.bool bl) := hsp.cell 2
      have k3 : w1.cell? ⟨w.heap.size, 3, none⟩ = some (.bool al) := hsp.cell 3
      have k4 : w1.cell? ⟨w.heap.size, 4, none⟩ = some (.bool true) := hsp.cell 4
      have k5 : w1.cell? ⟨w.heap.size, 5, none⟩ = some (.int .i64 wd) := hsp.cell 5
      have k6 : w1.cell? ⟨w.heap.size, 6, none⟩ = some (.int .i64 pr) := hsp.cell 6
      have k7 : w1.cell? ⟨w.heap.size, 7, none⟩ = some (.int .u8 117) := hsp.cell 7
      clear hb1 hsp
      go_wp2_with fail
      refine (HSg.out _).mono ?_
      rintro e w2 ⟨rfl, hb2⟩
      replace k0 := cell_next hb2 k0
      replace k1 := cell_next hb2 k1
      replace k2 := cell_next hb2 k2
      replace k3 := cell_next hb2 k3
      replace k4 := cell_next hb2 k4
      replace k5 := cell_next hb2 k5
      replace k6 := cell_next hb2 k6
      replace k7 := cell_next hb2 k7
      have HB2 := Lib.hid (HB1.out.trans (hb2.mono HB1.out.size))
      clear hb2 HB1
      go_wp2_with fail
      rw [HK.out]
      refine (HRp.out _).mono ?_
      rintro e w3 ⟨rfl, hb3⟩
      replace k0 := cell_next hb3 k0
      replace k1 := cell_next hb3 k1
      replace k2 := cell_next hb3 k2
      replace k3 := cell_next hb3 k3
      replace k4 := cell_next hb3 k4
      replace k5 := cell_next hb3 k5
      replace k6 := cell_next hb3 k6
      replace k7 := cell_next hb3 k7
      have HB3 := Lib.hid (HB2.out.trans (hb3.mono HB2.out.size))
      clear hb3 HB2
      go_wp2_with fail
      refine (HPd.out _).mono ?_
      rintro e w4 ⟨rfl, hb4⟩
      replace k0 := cell_next hb4 k0
      replace k1 := cell_next hb4 k1
      replace k2 := cell_next hb4 k2
      replace k3 := cell_next hb4 k3
      replace k4 := cell_next hb4 k4
      replace k5 := cell_next hb4 k5
      replace k6 := cell_next hb4 k6
      replace k7 := cell_next hb4 k7
      have HB4 := Lib.hid (HB3.out.trans (hb4.mono HB3.out.size))
      clear hb4 HB3
      go_wp2_with fail
      go_ret
      exact ⟨rfl, HB4.out⟩

set_option maxHeartbeats 16000000 in
set_option maxRecDepth 1000000 in
theorem whole_111 (m p bl al z : Bool) (wd pr : Int) (b : Nat) (w : World) (hb : b < 18446744073709551616) (hf : fin b = true) (hp1 : -1 ≤ pr) (hp2 : pr ≤ 190) (hw : 0 ≤ wd) (hw2 : wd ≤ 1024) :
    Calls Tryz.prog 72 #[.agg (specA m p bl al z wd pr 111), .float .f64 b] w fun e w' => e = .returned (.string (wholeO m p bl al z wd pr 111 b)) ∧ Below w.heap.size w w' := by
  have HTr := Lib.hid (fun W => Trunc_any b W hb)
  obtain ⟨ht1, ht2⟩ := trunc_fin hb hf
  obtain ⟨l, hc, hl, hfx, hdl⟩ := whole_text hb hf
  have HFx := Lib.hid (fun W => Fixed_det (truncB b) 0 W ht1 ht2 (by decide))
  rw [hfx] at HFx
  have hnb := whole_bits5 b
  have hS : (FloatKind.f64.format.order (truncB b) 0 == some .lt) = wholeS b := rfl
  have hO : wholeO m p bl al z wd pr 111 b = ⟨(padW m p bl al z wd pr 111 b).toArray⟩ := rfl
  rw [hO]
  clear hO
  unfold padW
  generalize truncB b = T at *
  generalize wholeN b = N at *
  generalize wholeS b = S at *
  clear ht1 ht2 hfx hb hf
  have HSg := Lib.hid (fun W => sign_any false false false false false S 0 0 0 W)
  obtain ⟨sg, hsg⟩ : ∃ sg : ByteArray, sg = ⟨(signL false false S).toArray⟩ := ⟨_, rfl⟩
  have hsl := signL_size5 false false S
  have hsa := signL_asc false false S
  rw [← hsg] at HSg
  have hsgl : signL false false S = sg.data.toList := by rw [hsg]
  rw [hsgl] at hsl hsa
  have hsgz : sg.size ≤ 1 := by rw [sz_list]; exact hsl
  clear hsg
  unfold specA at *
  cases al
  · by_cases hN : N = 0
    · subst hN
      have hl48 : l = [48] := canon_0 hc
      subst hl48
      clear hc hl hdl
      have HIb : Hid (∀ W, Calls Tryz.prog 129 #[.string ⟨#[48]⟩, .int .u64 8] W fun e w' => e = .returned (.string ⟨#[]⟩) ∧ Below W.heap.size W w') := fun W => inBase_any ⟨#[48]⟩ 0 8 W ⟨by simp, fun c hc => by (simp at hc; subst hc; decide), by decide, fun c r e hc => by (cases e; rfl)⟩ (by decide) (by decide) (by decide) (by decide)
      by_cases hpz : pr = 0
      · subst hpz
        cases z
        · obtain ⟨R, hR⟩ : ∃ R : ByteArray, R = ⟨(List.replicate 0 48).toArray⟩ := ⟨_, rfl⟩
          have HRp : Hid (∀ W, Calls Tryz.prog 114 #[.string ⟨#[48]⟩, .int .i64 0] W fun e w' => e = .returned (.string R) ∧ Below W.heap.size W w') := fun W => by rw [hR]; exact Repeat_one 48 0 W (by decide)
          have hRl : List.replicate 0 48 = R.data.toList := by rw [hR]
          have hK : True := trivial
          have hRs : R.size ≤ 190 := by rw [sz_list, ← hRl, List.length_replicate]; omega
          have hn : numW false 0 111 0 = (R ++ ⟨#[]⟩).data.toList := by unfold numW; rw [if_pos rfl, if_neg (fun h => by cases h.2), if_pos rfl, ByteArray.data_append, Array.toList_append, ← hRl]; rfl
          have hh : headW p bl false 111 S 0 = sg.data.toList := by unfold headW; rw [if_neg (by decide), if_neg (fun h => h.2.2 rfl), if_neg (fun h => by cases h.2.1)]; exact hsgl
          have HPd := Lib.hid (fun W => padded_any m p bl false false (false) wd 0 111 sg (R ++ ⟨#[]⟩) W hw hw2 (by rw [sz_list]; omega) (by rw [ByteArray.size_append]; show R.size + 0 ≤ _; omega))
          unfold specA at HPd
          have hzz : (false && decide ((0 : Int) < 0)) = (false) := by simp
          rw [hn, hh, hzz]
          generalize (⟨(padL m (false) wd sg.data.toList (R ++ ⟨#[]⟩).data.toList).toArray⟩ : ByteArray) = out at *
          clear hn hh hR hRl hzz hK hsgl hsl hsa hnb
          go_enter Tryz.func72, Tryz.ntmps72
          go_wp2_with fail
          refine (HTr.out _).mono ?_
          rintro e _ ⟨rfl, rfl⟩
          go_wp2_with fail
          refine (HFx.out _).mono ?_
          rintro e w1 ⟨rfl, hb1⟩
          have HB1 := Lib.hid (((Below.refl w.heap.size w).alloc (Nat.le_refl _) (.cells #[.bool m, .bool p, .bool bl, .bool false, .bool false, .int .i64 wd, .int .i64 0, .int .u8 111] 35)).trans (hb1.mono (by simp)))
          have hsp : SpAt w1 w.heap.size #[.bool m, .bool p, .bool bl, .bool false, .bool false, .int .i64 wd, .int .i64 0, .int .u8 111] := SpAt.next (heap_alloc_at w _) hb1
          have k0 : w1.cell? ⟨w.heap.size, 0, none⟩ = some (.bool m) := hsp.cell 0
          have k1 : w1.cell? ⟨w.heap.size, 1, none⟩ = some (.bool p) := hsp.cell 1
          have k2 : w1.cell? ⟨w.heap.size, 2, none⟩ = some (.bool bl) := hsp.cell 2
          have k3 : w1.cell? ⟨w.heap.size, 3, none⟩ = some (.bool false) := hsp.cell 3
          have k4 : w1.cell? ⟨w.heap.size, 4, none⟩ = some (.bool false) := hsp.cell 4
          have k5 : w1.cell? ⟨w.heap.size, 5, none⟩ = some (.int .i64 wd) := hsp.cell 5
          have k6 : w1.cell? ⟨w.heap.size, 6, none⟩ = some (.int .i64 0) := hsp.cell 6
          have k7 : w1.cell? ⟨w.heap.size, 7, none⟩ = some (.int .u8 111) := hsp.cell 7
          clear hb1 hsp
          go_wp2_with fail
          refine (HSg.out _).mono ?_
          rintro e w2 ⟨rfl, hb2⟩
          replace k0 := cell_next hb2 k0
          replace k1 := cell_next hb2 k1
          replace k2 := cell_next hb2 k2
          replace k3 := cell_next hb2 k3
          replace k4 := cell_next hb2 k4
          replace k5 := cell_next hb2 k5
          replace k6 := cell_next hb2 k6
          replace k7 := cell_next hb2 k7
          have HB2 := Lib.hid (HB1.out.trans (hb2.mono HB1.out.size))
          clear hb2 HB1
          go_wp2_with fail
          refine (HIb.out _).mono ?_
          rintro e w3 ⟨rfl, hb3⟩
          replace k0 := cell_next hb3 k0
          replace k1 := cell_next hb3 k1
          replace k2 := cell_next hb3 k2
          replace k3 := cell_next hb3 k3
          replace k4 := cell_next hb3 k4
          replace k5 := cell_next hb3 k5
          replace k6 := cell_next hb3 k6
          replace k7 := cell_next hb3 k7
          have HB3 := Lib.hid (HB2.out.trans (hb3.mono HB2.out.size))
          clear hb3 HB2
          go_wp2_with fail
          refine (HRp.out _).mono ?_
          rintro e w4 ⟨rfl, hb4⟩
          replace k0 := cell_next hb4 k0
          replace k1 := cell_next hb4 k1
          replace k2 := cell_next hb4 k2
          replace k3 := cell_next hb4 k3
          replace k4 := cell_next hb4 k4
          replace k5 := cell_next hb4 k5
          replace k6 := cell_next hb4 k6
          replace k7 := cell_next hb4 k7
          have HB4 := Lib.hid (HB3.out.trans (hb4.mono HB3.out.size))
          clear hb4 HB3
          go_wp2_with fail
          refine (HPd.out _).mono ?_
          rintro e w5 ⟨rfl, hb5⟩
          replace k0 := cell_next hb5 k0
          replace k1 := cell_next hb5 k1
          replace k2 := cell_next hb5 k2
          replace k3 := cell_next hb5 k3
          replace k4 := cell_next hb5 k4
          replace k5 := cell_next hb5 k5
          replace k6 := cell_next hb5 k6
          replace k7 := cell_next hb5 k7
          have HB5 := Lib.hid (HB4.out.trans (hb5.mono HB4.out.size))
          clear hb5 HB4
          go_wp2_with fail
          go_ret
          exact ⟨rfl, HB5.out⟩
        · obtain ⟨R, hR⟩ : ∃ R : ByteArray, R = ⟨(List.replicate 0 48).toArray⟩ := ⟨_, rfl⟩
          have HRp : Hid (∀ W, Calls Tryz.prog 114 #[.string ⟨#[48]⟩, .int .i64 0] W fun e w' => e = .returned (.string R) ∧ Below W.heap.size W w') := fun W => by rw [hR]; exact Repeat_one 48 0 W (by decide)
          have hRl : List.replicate 0 48 = R.data.toList := by rw [hR]
          have hK : True := trivial
          have hRs : R.size ≤ 190 := by rw [sz_list, ← hRl, List.length_replicate]; omega
          have hn : numW false 0 111 0 = (R ++ ⟨#[]⟩).data.toList := by unfold numW; rw [if_pos rfl, if_neg (fun h => by cases h.2), if_pos rfl, ByteArray.data_append, Array.toList_append, ← hRl]; rfl
          have hh : headW p bl false 111 S 0 = sg.data.toList := by unfold headW; rw [if_neg (by decide), if_neg (fun h => h.2.2 rfl), if_neg (fun h => by cases h.2.1)]; exact hsgl
          have HPd := Lib.hid (fun W => padded_any m p bl false true (false) wd 0 111 sg (R ++ ⟨#[]⟩) W hw hw2 (by rw [sz_list]; omega) (by rw [ByteArray.size_append]; show R.size + 0 ≤ _; omega))
          unfold specA at HPd
          have hzz : (true && decide ((0 : Int) < 0)) = (false) := by simp
          rw [hn, hh, hzz]
          generalize (⟨(padL m (false) wd sg.data.toList (R ++ ⟨#[]⟩).data.toList).toArray⟩ : ByteArray) = out at *
          clear hn hh hR hRl hzz hK hsgl hsl hsa hnb
          go_enter Tryz.func72, Tryz.ntmps72
          go_wp2_with fail
          refine (HTr.out _).mono ?_
          rintro e _ ⟨rfl, rfl⟩
          go_wp2_with fail
          refine (HFx.out _).mono ?_
          rintro e w1 ⟨rfl, hb1⟩
          have HB1 := Lib.hid (((Below.refl w.heap.size w).alloc (Nat.le_refl _) (.cells #[.bool m, .bool p, .bool bl, .bool false, .bool true, .int .i64 wd, .int .i64 0, .int .u8 111] 35)).trans (hb1.mono (by simp)))
          have hsp : SpAt w1 w.heap.size #[.bool m, .bool p, .bool bl, .bool false, .bool true, .int .i64 wd, .int .i64 0, .int .u8 111] := SpAt.next (heap_alloc_at w _) hb1
          have k0 : w1.cell? ⟨w.heap.size, 0, none⟩ = some (.bool m) := hsp.cell 0
          have k1 : w1.cell? ⟨w.heap.size, 1, none⟩ = some (.bool p) := hsp.cell 1
          have k2 : w1.cell? ⟨w.heap.size, 2, none⟩ = some (.bool bl) := hsp.cell 2
          have k3 : w1.cell? ⟨w.heap.size, 3, none⟩ = some (.bool false) := hsp.cell 3
          have k4 : w1.cell? ⟨w.heap.size, 4, none⟩ = some (.bool true) := hsp.cell 4
          have k5 : w1.cell? ⟨w.heap.size, 5, none⟩ = some (.int .i64 wd) := hsp.cell 5
          have k6 : w1.cell? ⟨w.heap.size, 6, none⟩ = some (.int .i64 0) := hsp.cell 6
          have k7 : w1.cell? ⟨w.heap.size, 7, none⟩ = some (.int .u8 111) := hsp.cell 7
          clear hb1 hsp
          go_wp2_with fail
          refine (HSg.out _).mono ?_
          rintro e w2 ⟨rfl, hb2⟩
          replace k0 := cell_next hb2 k0
          replace k1 := cell_next hb2 k1
          replace k2 := cell_next hb2 k2
          replace k3 := cell_next hb2 k3
          replace k4 := cell_next hb2 k4
          replace k5 := cell_next hb2 k5
          replace k6 := cell_next hb2 k6
          replace k7 := cell_next hb2 k7
          have HB2 := Lib.hid (HB1.out.trans (hb2.mono HB1.out.size))
          clear hb2 HB1
          go_wp2_with fail
          refine (HIb.out _).mono ?_
          rintro e w3 ⟨rfl, hb3⟩
          replace k0 := cell_next hb3 k0
          replace k1 := cell_next hb3 k1
          replace k2 := cell_next hb3 k2
          replace k3 := cell_next hb3 k3
          replace k4 := cell_next hb3 k4
          replace k5 := cell_next hb3 k5
          replace k6 := cell_next hb3 k6
          replace k7 := cell_next hb3 k7
          have HB3 := Lib.hid (HB2.out.trans (hb3.mono HB2.out.size))
          clear hb3 HB2
          go_wp2_with fail
          refine (HRp.out _).mono ?_
          rintro e w4 ⟨rfl, hb4⟩
          replace k0 := cell_next hb4 k0
          replace k1 := cell_next hb4 k1
          replace k2 := cell_next hb4 k2
          replace k3 := cell_next hb4 k3
          replace k4 := cell_next hb4 k4
          replace k5 := cell_next hb4 k5
          replace k6 := cell_next hb4 k6
          replace k7 := cell_next hb4 k7
          have HB4 := Lib.hid (HB3.out.trans (hb4.mono HB3.out.size))
          clear hb4 HB3
          go_wp2_with fail
          refine (HPd.out _).mono ?_
          rintro e w5 ⟨rfl, hb5⟩
          replace k0 := cell_next hb5 k0
          replace k1 := cell_next hb5 k1
          replace k2 := cell_next hb5 k2
          replace k3 := cell_next hb5 k3
          replace k4 := cell_next hb5 k4
          replace k5 := cell_next hb5 k5
          replace k6 := cell_next hb5 k6
          replace k7 := cell_next hb5 k7
          have HB5 := Lib.hid (HB4.out.trans (hb5.mono HB4.out.size))
          clear hb5 HB4
          go_wp2_with fail
          go_ret
          exact ⟨rfl, HB5.out⟩
      · have hpz2 : (pr == 0) = false := beq_eq_false_iff_ne.2 hpz
        cases z
        · obtain ⟨K, hK⟩ : ∃ K, K = (pr - 1 : Int).toNat := ⟨_, rfl⟩
          have HK := Lib.hid (show max 0 ((pr : Int) - 1) = (K : Int) from by omega)
          have hK2 : K ≤ 190 := by omega
          obtain ⟨R, hR⟩ : ∃ R : ByteArray, R = ⟨(List.replicate K 48).toArray⟩ := ⟨_, rfl⟩
          have HRp := Lib.hid (fun W => Repeat_one 48 K W (by omega))
          rw [← hR] at HRp
          have hRl : List.replicate K 48 = R.data.toList := by rw [hR]
          have hRs : R.size ≤ 190 := by rw [sz_list, ← hRl, List.length_replicate]; omega
          have hn : numW false pr 111 0 = (R ++ ⟨#[48]⟩).data.toList := by unfold numW; rw [if_pos rfl, if_neg (fun h => by cases h.2), if_neg hpz, ByteArray.data_append, Array.toList_append, ← hRl, hK]
          have hh : headW p bl false 111 S 0 = sg.data.toList := by unfold headW; rw [if_neg (by decide), if_neg (fun h => h.2.2 rfl), if_neg (fun h => by cases h.2.1)]; exact hsgl
          have HPd := Lib.hid (fun W => padded_any m p bl false false (false) wd pr 111 sg (R ++ ⟨#[48]⟩) W hw hw2 (by rw [sz_list]; omega) (by rw [ByteArray.size_append]; show R.size + 1 ≤ _; omega))
          unfold specA at HPd
          have hzz : (false && decide ((pr : Int) < 0)) = (false) := by simp
          rw [hn, hh, hzz]
          generalize (⟨(padL m (false) wd sg.data.toList (R ++ ⟨#[48]⟩).data.toList).toArray⟩ : ByteArray) = out at *
          clear hn hh hR hRl hzz hK hsgl hsl hsa hnb hpz
          go_enter Tryz.func72, Tryz.ntmps72
          go_wp2_with fail
          refine (HTr.out _).mono ?_
          rintro e _ ⟨rfl, rfl⟩
          go_wp2_with fail
          refine (HFx.out _).mono ?_
          rintro e w1 ⟨rfl, hb1⟩
          have HB1 := Lib.hid (((Below.refl w.heap.size w).alloc (Nat.le_refl _) (.cells #[.bool m, .bool p, .bool bl, .bool false, .bool false, .int .i64 wd, .int .i64 pr, .int .u8 111] 35)).trans (hb1.mono (by simp)))
          have hsp : SpAt w1 w.heap.size #[.bool m, .bool p, .bool bl, .bool false, .bool false, .int .i64 wd, .int .i64 pr, .int .u8 111] := SpAt.next (heap_alloc_at w _) hb1
          have k0 : w1.cell? ⟨w.heap.size, 0, none⟩ = some (.bool m) := hsp.cell 0
          have k1 : w1.cell? ⟨w.heap.size, 1, none⟩ = some (.bool p) := hsp.cell 1
          have k2 : w1.cell? ⟨w.heap.size, 2, none⟩ = some (.bool bl) := hsp.cell 2
          have k3 : w1.cell? ⟨w.heap.size, 3, none⟩ = some (.bool false) := hsp.cell 3
          have k4 : w1.cell? ⟨w.heap.size, 4, none⟩ = some (.bool false) := hsp.cell 4
          have k5 : w1.cell? ⟨w.heap.size, 5, none⟩ = some (.int .i64 wd) := hsp.cell 5
          have k6 : w1.cell? ⟨w.heap.size, 6, none⟩ = some (.int .i64 pr) := hsp.cell 6
          have k7 : w1.cell? ⟨w.heap.size, 7, none⟩ = some (.int .u8 111) := hsp.cell 7
          clear hb1 hsp
          go_wp2_with fail
          refine (HSg.out _).mono ?_
          rintro e w2 ⟨rfl, hb2⟩
          replace k0 := cell_next hb2 k0
          replace k1 := cell_next hb2 k1
          replace k2 := cell_next hb2 k2
          replace k3 := cell_next hb2 k3
          replace k4 := cell_next hb2 k4
          replace k5 := cell_next hb2 k5
          replace k6 := cell_next hb2 k6
          replace k7 := cell_next hb2 k7
          have HB2 := Lib.hid (HB1.out.trans (hb2.mono HB1.out.size))
          clear hb2 HB1
          go_wp2_with fail
          refine (HIb.out _).mono ?_
          rintro e w3 ⟨rfl, hb3⟩
          replace k0 := cell_next hb3 k0
          replace k1 := cell_next hb3 k1
          replace k2 := cell_next hb3 k2
          replace k3 := cell_next hb3 k3
          replace k4 := cell_next hb3 k4
          replace k5 := cell_next hb3 k5
          replace k6 := cell_next hb3 k6
          replace k7 := cell_next hb3 k7
          have HB3 := Lib.hid (HB2.out.trans (hb3.mono HB2.out.size))
          clear hb3 HB2
          go_wp2_with fail
          rw [HK.out]
          refine (HRp.out _).mono ?_
          rintro e w4 ⟨rfl, hb4⟩
          replace k0 := cell_next hb4 k0
          replace k1 := cell_next hb4 k1
          replace k2 := cell_next hb4 k2
          replace k3 := cell_next hb4 k3
          replace k4 := cell_next hb4 k4
          replace k5 := cell_next hb4 k5
          replace k6 := cell_next hb4 k6
          replace k7 := cell_next hb4 k7
          have HB4 := Lib.hid (HB3.out.trans (hb4.mono HB3.out.size))
          clear hb4 HB3
          go_wp2_with fail
          refine (HPd.out _).mono ?_
          rintro e w5 ⟨rfl, hb5⟩
          replace k0 := cell_next hb5 k0
          replace k1 := cell_next hb5 k1
          replace k2 := cell_next hb5 k2
          replace k3 := cell_next hb5 k3
          replace k4 := cell_next hb5 k4
          replace k5 := cell_next hb5 k5
          replace k6 := cell_next hb5 k6
          replace k7 := cell_next hb5 k7
          have HB5 := Lib.hid (HB4.out.trans (hb5.mono HB4.out.size))
          clear hb5 HB4
          go_wp2_with fail
          go_ret
          exact ⟨rfl, HB5.out⟩
        · obtain ⟨K, hK⟩ : ∃ K, K = (pr - 1 : Int).toNat := ⟨_, rfl⟩
          have HK := Lib.hid (show max 0 ((pr : Int) - 1) = (K : Int) from by omega)
          have hK2 : K ≤ 190 := by omega
          obtain ⟨R, hR⟩ : ∃ R : ByteArray, R = ⟨(List.replicate K 48).toArray⟩ := ⟨_, rfl⟩
          have HRp := Lib.hid (fun W => Repeat_one 48 K W (by omega))
          rw [← hR] at HRp
          have hRl : List.replicate K 48 = R.data.toList := by rw [hR]
          have hRs : R.size ≤ 190 := by rw [sz_list, ← hRl, List.length_replicate]; omega
          have hn : numW false pr 111 0 = (R ++ ⟨#[48]⟩).data.toList := by unfold numW; rw [if_pos rfl, if_neg (fun h => by cases h.2), if_neg hpz, ByteArray.data_append, Array.toList_append, ← hRl, hK]
          have hh : headW p bl false 111 S 0 = sg.data.toList := by unfold headW; rw [if_neg (by decide), if_neg (fun h => h.2.2 rfl), if_neg (fun h => by cases h.2.1)]; exact hsgl
          have HPd := Lib.hid (fun W => padded_any m p bl false true (decide (pr < 0)) wd pr 111 sg (R ++ ⟨#[48]⟩) W hw hw2 (by rw [sz_list]; omega) (by rw [ByteArray.size_append]; show R.size + 1 ≤ _; omega))
          unfold specA at HPd
          have hzz : (true && decide ((pr : Int) < 0)) = (decide (pr < 0)) := by simp
          rw [hn, hh, hzz]
          generalize (⟨(padL m (decide (pr < 0)) wd sg.data.toList (R ++ ⟨#[48]⟩).data.toList).toArray⟩ : ByteArray) = out at *
          clear hn hh hR hRl hzz hK hsgl hsl hsa hnb hpz
          go_enter Tryz.func72, Tryz.ntmps72
          go_wp2_with fail
          refine (HTr.out _).mono ?_
          rintro e _ ⟨rfl, rfl⟩
          go_wp2_with fail
          refine (HFx.out _).mono ?_
          rintro e w1 ⟨rfl, hb1⟩
          have HB1 := Lib.hid (((Below.refl w.heap.size w).alloc (Nat.le_refl _) (.cells #[.bool m, .bool p, .bool bl, .bool false, .bool true, .int .i64 wd, .int .i64 pr, .int .u8 111] 35)).trans (hb1.mono (by simp)))
          have hsp : SpAt w1 w.heap.size #[.bool m, .bool p, .bool bl, .bool false, .bool true, .int .i64 wd, .int .i64 pr, .int .u8 111] := SpAt.next (heap_alloc_at w _) hb1
          have k0 : w1.cell? ⟨w.heap.size, 0, none⟩ = some (.bool m) := hsp.cell 0
          have k1 : w1.cell? ⟨w.heap.size, 1, none⟩ = some (.bool p) := hsp.cell 1
          have k2 : w1.cell? ⟨w.heap.size, 2, none⟩ = some (.bool bl) := hsp.cell 2
          have k3 : w1.cell? ⟨w.heap.size, 3, none⟩ = some (.bool false) := hsp.cell 3
          have k4 : w1.cell? ⟨w.heap.size, 4, none⟩ = some (.bool true) := hsp.cell 4
          have k5 : w1.cell? ⟨w.heap.size, 5, none⟩ = some (.int .i64 wd) := hsp.cell 5
          have k6 : w1.cell? ⟨w.heap.size, 6, none⟩ = some (.int .i64 pr) := hsp.cell 6
          have k7 : w1.cell? ⟨w.heap.size, 7, none⟩ = some (.int .u8 111) := hsp.cell 7
          clear hb1 hsp
          go_wp2_with fail
          refine (HSg.out _).mono ?_
          rintro e w2 ⟨rfl, hb2⟩
          replace k0 := cell_next hb2 k0
          replace k1 := cell_next hb2 k1
          replace k2 := cell_next hb2 k2
          replace k3 := cell_next hb2 k3
          replace k4 := cell_next hb2 k4
          replace k5 := cell_next hb2 k5
          replace k6 := cell_next hb2 k6
          replace k7 := cell_next hb2 k7
          have HB2 := Lib.hid (HB1.out.trans (hb2.mono HB1.out.size))
          clear hb2 HB1
          go_wp2_with fail
          refine (HIb.out _).mono ?_
          rintro e w3 ⟨rfl, hb3⟩
          replace k0 := cell_next hb3 k0
          replace k1 := cell_next hb3 k1
          replace k2 := cell_next hb3 k2
          replace k3 := cell_next hb3 k3
          replace k4 := cell_next hb3 k4
          replace k5 := cell_next hb3 k5
          replace k6 := cell_next hb3 k6
          replace k7 := cell_next hb3 k7
          have HB3 := Lib.hid (HB2.out.trans (hb3.mono HB2.out.size))
          clear hb3 HB2
          go_wp2_with fail
          rw [HK.out]
          refine (HRp.out _).mono ?_
          rintro e w4 ⟨rfl, hb4⟩
          replace k0 := cell_next hb4 k0
          replace k1 := cell_next hb4 k1
          replace k2 := cell_next hb4 k2
          replace k3 := cell_next hb4 k3
          replace k4 := cell_next hb4 k4
          replace k5 := cell_next hb4 k5
          replace k6 := cell_next hb4 k6
          replace k7 := cell_next hb4 k7
          have HB4 := Lib.hid (HB3.out.trans (hb4.mono HB3.out.size))
          clear hb4 HB3
          go_wp2_with fail
          refine (HPd.out _).mono ?_
          rintro e w5 ⟨rfl, hb5⟩
          replace k0 := cell_next hb5 k0
          replace k1 := cell_next hb5 k1
          replace k2 := cell_next hb5 k2
          replace k3 := cell_next hb5 k3
          replace k4 := cell_next hb5 k4
          replace k5 := cell_next hb5 k5
          replace k6 := cell_next hb5 k6
          replace k7 := cell_next hb5 k7
          have HB5 := Lib.hid (HB4.out.trans (hb5.mono HB4.out.size))
          clear hb5 HB4
          go_wp2_with fail
          go_ret
          exact ⟨rfl, HB5.out⟩
    · have hl48 := canon_ne0 hc hN
      have hl0 := hc.ne
      obtain ⟨F, hF⟩ : ∃ F : ByteArray, F = ⟨l.toArray⟩ := ⟨_, rfl⟩
      rw [← hF] at HFx
      have hFl : F.data.toList = l := by rw [hF]
      have hF48 : (F.toList == [48]) = false := not_48 (by rw [hFl]; exact hl48)
      have hF49 : ¬ F.toList = [48] := beq_eq_false_iff_ne.1 hF48
      have HIb := Lib.hid (fun W => inBase_any F N 8 W (by rw [hFl]; exact hc) (by rw [hFl]; exact hl) hnb (by decide) (by decide))
      obtain ⟨E, hE⟩ : ∃ E : ByteArray, E = bytesN (baseN 8 N) := ⟨_, rfl⟩
      have hEl : E.data.toList = baseD 8 N := by rw [hE]; rfl
      have hE0 : ¬ E.toList = [] := by rw [ByteArray.toList_eq, hEl]; exact baseD_ne (by decide) hN
      have hE2 : E.toList.isEmpty = false := isEmpty_no hE0
      have hE48 : (E.toList == [48]) = false := not_48 (by rw [hEl]; exact baseD_one (by decide) (by decide) hN)
      have hE49 : ¬ E.toList = [48] := beq_eq_false_iff_ne.1 hE48
      have hEs : E.size ≤ 4001 := by rw [sz_list, hEl]; exact baseD_len (by decide) hnb
      have hEa : Asc E.data.toList := by rw [hEl]; exact baseD_asc N (by decide) (by decide)
      rw [← hE] at HIb
      have hbw : baseW false 111 N = E.data.toList := by unfold baseW; rw [if_pos rfl, if_neg Bool.false_ne_true, hEl]
      have hDs : E.size ≤ 4100 := by omega
      clear hl48 hl0 hc hdl hF hFl hl hE
      cases z
      · obtain ⟨K, hK⟩ : ∃ K, K = (pr - (E.size : Int)).toNat := ⟨_, rfl⟩
        have HK := Lib.hid (show max 0 (pr - (E.size : Int)) = (K : Int) from by omega)
        have hK2 : K ≤ 190 := by omega
        obtain ⟨R, hR⟩ : ∃ R : ByteArray, R = ⟨(List.replicate K 48).toArray⟩ := ⟨_, rfl⟩
        have HRp := Lib.hid (fun W => Repeat_one 48 K W (by omega))
        rw [← hR] at HRp
        have hRl : List.replicate K 48 = R.data.toList := by rw [hR]
        have hRs : R.size ≤ 190 := by rw [sz_list, ← hRl, List.length_replicate]; omega
        have hn : numW false pr 111 N = (R ++ E).data.toList := by unfold numW; rw [if_neg hN, hbw, ← sz_list, ← hK, hRl, ByteArray.data_append, Array.toList_append] <;> simp [ByteArray.data_append]
        have hh : headW p bl false 111 S N = sg.data.toList := by unfold headW; rw [if_neg (by decide), if_neg (fun h => by rcases h.1 with h | h <;> cases h), if_neg (fun h => hN h.2.2)]; exact hsgl
        have HPd := Lib.hid (fun W => padded_any m p bl false false (false) wd pr 111 sg (R ++ E) W hw hw2 (by rw [sz_list]; omega) (by rw [ByteArray.size_append]; omega))
        unfold specA at HPd
        have hzz : (false && decide (pr < 0)) = (false) := by simp
        rw [hn, hh, hzz]
        generalize (⟨(padL m (false) wd sg.data.toList (R ++ E).data.toList).toArray⟩ : ByteArray) = out at *
        clear hn hh hR hRl hzz hK hsgl hsl hsa hnb hbw hN hEa
        go_enter Tryz.func72, Tryz.ntmps72
        go_wp2_with fail
        refine (HTr.out _).mono ?_
        rintro e _ ⟨rfl, rfl⟩
        go_wp2_with fail
        refine (HFx.out _).mono ?_
        rintro e w1 ⟨rfl, hb1⟩
        have HB1 := Lib.hid (((Below.refl w.heap.size w).alloc (Nat.le_refl _) (.cells #[.bool m, .bool p, .bool bl, .bool false, .bool false, .int .i64 wd, .int .i64 pr, .int .u8 111] 35)).trans (hb1.mono (by simp)))
        have hsp : SpAt w1 w.heap.size #[.bool m, .bool p, .bool bl, .bool false, .bool false, .int .i64 wd, .int .i64 pr, .int .u8 111] := SpAt.next (heap_alloc_at w _) hb1
        have k0 : w1.cell? ⟨w.heap.size, 0, none⟩ = some (.bool m) := hsp.cell 0
        have k1 : w1.cell? ⟨w.heap.size, 1, none⟩ = some (.bool p) := hsp.cell 1
        have k2 : w1.cell? ⟨w.heap.size, 2, none⟩ = some (.bool bl) := hsp.cell 2
        have k3 : w1.cell? ⟨w.heap.size, 3, none⟩ = some (.bool false) := hsp.cell 3
        have k4 : w1.cell? ⟨w.heap.size, 4, none⟩ = some (.bool false) := hsp.cell 4
        have k5 : w1.cell? ⟨w.heap.size, 5, none⟩ = some (.int .i64 wd) := hsp.cell 5
        have k6 : w1.cell? ⟨w.heap.size, 6, none⟩ = some (.int .i64 pr) := hsp.cell 6
        have k7 : w1.cell? ⟨w.heap.size, 7, none⟩ = some (.int .u8 111) := hsp.cell 7
        clear hb1 hsp
        go_wp2_with fail
        refine (HSg.out _).mono ?_
        rintro e w2 ⟨rfl, hb2⟩
        replace k0 := cell_next hb2 k0
        replace k1 := cell_next hb2 k1
        replace k2 := cell_next hb2 k2
        replace k3 := cell_next hb2 k3
        replace k4 := cell_next hb2 k4
        replace k5 := cell_next hb2 k5
        replace k6 := cell_next hb2 k6
        replace k7 := cell_next hb2 k7
        have HB2 := Lib.hid (HB1.out.trans (hb2.mono HB1.out.size))
        clear hb2 HB1
        go_wp2_with fail
        refine (HIb.out _).mono ?_
        rintro e w3 ⟨rfl, hb3⟩
        replace k0 := cell_next hb3 k0
        replace k1 := cell_next hb3 k1
        replace k2 := cell_next hb3 k2
        replace k3 := cell_next hb3 k3
        replace k4 := cell_next hb3 k4
        replace k5 := cell_next hb3 k5
        replace k6 := cell_next hb3 k6
        replace k7 := cell_next hb3 k7
        have HB3 := Lib.hid (HB2.out.trans (hb3.mono HB2.out.size))
        clear hb3 HB2
        go_wp2_with fail
        rw [HK.out]
        refine (HRp.out _).mono ?_
        rintro e w4 ⟨rfl, hb4⟩
        replace k0 := cell_next hb4 k0
        replace k1 := cell_next hb4 k1
        replace k2 := cell_next hb4 k2
        replace k3 := cell_next hb4 k3
        replace k4 := cell_next hb4 k4
        replace k5 := cell_next hb4 k5
        replace k6 := cell_next hb4 k6
        replace k7 := cell_next hb4 k7
        have HB4 := Lib.hid (HB3.out.trans (hb4.mono HB3.out.size))
        clear hb4 HB3
        go_wp2_with fail
        refine (HPd.out _).mono ?_
        rintro e w5 ⟨rfl, hb5⟩
        replace k0 := cell_next hb5 k0
        replace k1 := cell_next hb5 k1
        replace k2 := cell_next hb5 k2
        replace k3 := cell_next hb5 k3
        replace k4 := cell_next hb5 k4
        replace k5 := cell_next hb5 k5
        replace k6 := cell_next hb5 k6
        replace k7 := cell_next hb5 k7
        have HB5 := Lib.hid (HB4.out.trans (hb5.mono HB4.out.size))
        clear hb5 HB4
        go_wp2_with fail
        go_ret
        exact ⟨rfl, HB5.out⟩
      · obtain ⟨K, hK⟩ : ∃ K, K = (pr - (E.size : Int)).toNat := ⟨_, rfl⟩
        have HK := Lib.hid (show max 0 (pr - (E.size : Int)) = (K : Int) from by omega)
        have hK2 : K ≤ 190 := by omega
        obtain ⟨R, hR⟩ : ∃ R : ByteArray, R = ⟨(List.replicate K 48).toArray⟩ := ⟨_, rfl⟩
        have HRp := Lib.hid (fun W => Repeat_one 48 K W (by omega))
        rw [← hR] at HRp
        have hRl : List.replicate K 48 = R.data.toList := by rw [hR]
        have hRs : R.size ≤ 190 := by rw [sz_list, ← hRl, List.length_replicate]; omega
        have hn : numW false pr 111 N = (R ++ E).data.toList := by unfold numW; rw [if_neg hN, hbw, ← sz_list, ← hK, hRl, ByteArray.data_append, Array.toList_append] <;> simp [ByteArray.data_append]
        have hh : headW p bl false 111 S N = sg.data.toList := by unfold headW; rw [if_neg (by decide), if_neg (fun h => by rcases h.1 with h | h <;> cases h), if_neg (fun h => hN h.2.2)]; exact hsgl
        have HPd := Lib.hid (fun W => padded_any m p bl false true (decide (pr < 0)) wd pr 111 sg (R ++ E) W hw hw2 (by rw [sz_list]; omega) (by rw [ByteArray.size_append]; omega))
        unfold specA at HPd
        have hzz : (true && decide (pr < 0)) = (decide (pr < 0)) := by simp
        rw [hn, hh, hzz]
        generalize (⟨(padL m (decide (pr < 0)) wd sg.data.toList (R ++ E).data.toList).toArray⟩ : ByteArray) = out at *
        clear hn hh hR hRl hzz hK hsgl hsl hsa hnb hbw hN hEa
        go_enter Tryz.func72, Tryz.ntmps72
        go_wp2_with fail
        refine (HTr.out _).mono ?_
        rintro e _ ⟨rfl, rfl⟩
        go_wp2_with fail
        refine (HFx.out _).mono ?_
        rintro e w1 ⟨rfl, hb1⟩
        have HB1 := Lib.hid (((Below.refl w.heap.size w).alloc (Nat.le_refl _) (.cells #[.bool m, .bool p, .bool bl, .bool false, .bool true, .int .i64 wd, .int .i64 pr, .int .u8 111] 35)).trans (hb1.mono (by simp)))
        have hsp : SpAt w1 w.heap.size #[.bool m, .bool p, .bool bl, .bool false, .bool true, .int .i64 wd, .int .i64 pr, .int .u8 111] := SpAt.next (heap_alloc_at w _) hb1
        have k0 : w1.cell? ⟨w.heap.size, 0, none⟩ = some (.bool m) := hsp.cell 0
        have k1 : w1.cell? ⟨w.heap.size, 1, none⟩ = some (.bool p) := hsp.cell 1
        have k2 : w1.cell? ⟨w.heap.size, 2, none⟩ = some (.bool bl) := hsp.cell 2
        have k3 : w1.cell? ⟨w.heap.size, 3, none⟩ = some (.bool false) := hsp.cell 3
        have k4 : w1.cell? ⟨w.heap.size, 4, none⟩ = some (.bool true) := hsp.cell 4
        have k5 : w1.cell? ⟨w.heap.size, 5, none⟩ = some (.int .i64 wd) := hsp.cell 5
        have k6 : w1.cell? ⟨w.heap.size, 6, none⟩ = some (.int .i64 pr) := hsp.cell 6
        have k7 : w1.cell? ⟨w.heap.size, 7, none⟩ = some (.int .u8 111) := hsp.cell 7
        clear hb1 hsp
        go_wp2_with fail
        refine (HSg.out _).mono ?_
        rintro e w2 ⟨rfl, hb2⟩
        replace k0 := cell_next hb2 k0
        replace k1 := cell_next hb2 k1
        replace k2 := cell_next hb2 k2
        replace k3 := cell_next hb2 k3
        replace k4 := cell_next hb2 k4
        replace k5 := cell_next hb2 k5
        replace k6 := cell_next hb2 k6
        replace k7 := cell_next hb2 k7
        have HB2 := Lib.hid (HB1.out.trans (hb2.mono HB1.out.size))
        clear hb2 HB1
        go_wp2_with fail
        refine (HIb.out _).mono ?_
        rintro e w3 ⟨rfl, hb3⟩
        replace k0 := cell_next hb3 k0
        replace k1 := cell_next hb3 k1
        replace k2 := cell_next hb3 k2
        replace k3 := cell_next hb3 k3
        replace k4 := cell_next hb3 k4
        replace k5 := cell_next hb3 k5
        replace k6 := cell_next hb3 k6
        replace k7 := cell_next hb3 k7
        have HB3 := Lib.hid (HB2.out.trans (hb3.mono HB2.out.size))
        clear hb3 HB2
        go_wp2_with fail
        rw [HK.out]
        refine (HRp.out _).mono ?_
        rintro e w4 ⟨rfl, hb4⟩
        replace k0 := cell_next hb4 k0
        replace k1 := cell_next hb4 k1
        replace k2 := cell_next hb4 k2
        replace k3 := cell_next hb4 k3
        replace k4 := cell_next hb4 k4
        replace k5 := cell_next hb4 k5
        replace k6 := cell_next hb4 k6
        replace k7 := cell_next hb4 k7
        have HB4 := Lib.hid (HB3.out.trans (hb4.mono HB3.out.size))
        clear hb4 HB3
        go_wp2_with fail
        refine (HPd.out _).mono ?_
        rintro e w5 ⟨rfl, hb5⟩
        replace k0 := cell_next hb5 k0
        replace k1 := cell_next hb5 k1
        replace k2 := cell_next hb5 k2
        replace k3 := cell_next hb5 k3
        replace k4 := cell_next hb5 k4
        replace k5 := cell_next hb5 k5
        replace k6 := cell_next hb5 k6
        replace k7 := cell_next hb5 k7
        have HB5 := Lib.hid (HB4.out.trans (hb5.mono HB4.out.size))
        clear hb5 HB4
        go_wp2_with fail
        go_ret
        exact ⟨rfl, HB5.out⟩
  · by_cases hN : N = 0
    · subst hN
      have hl48 : l = [48] := canon_0 hc
      subst hl48
      clear hc hl hdl
      have HIb : Hid (∀ W, Calls Tryz.prog 129 #[.string ⟨#[48]⟩, .int .u64 8] W fun e w' => e = .returned (.string ⟨#[]⟩) ∧ Below W.heap.size W w') := fun W => inBase_any ⟨#[48]⟩ 0 8 W ⟨by simp, fun c hc => by (simp at hc; subst hc; decide), by decide, fun c r e hc => by (cases e; rfl)⟩ (by decide) (by decide) (by decide) (by decide)
      cases z
      · obtain ⟨q, hq⟩ : ∃ q, q = (max pr 1).toNat := ⟨_, rfl⟩
        have HQ := Lib.hid (show max pr 1 = (q : Int) from by omega)
        have hq2 : q ≤ 190 := by omega
        obtain ⟨R, hR⟩ : ∃ R : ByteArray, R = ⟨(List.replicate q 48).toArray⟩ := ⟨_, rfl⟩
        have HRp := Lib.hid (fun W => Repeat_one 48 q W (by omega))
        rw [← hR] at HRp
        have hRl : List.replicate q 48 = R.data.toList := by rw [hR]
        have hRs : R.size ≤ 190 := by rw [sz_list, ← hRl, List.length_replicate]; omega
        have hn : numW true pr 111 0 = R.data.toList := by unfold numW; rw [if_pos rfl, if_pos ⟨rfl, rfl⟩, ← hq, hRl]
        have hh : headW p bl true 111 S 0 = (⟨#[]⟩ : ByteArray).data.toList := by unfold headW; rw [if_neg (by decide), if_neg (by decide), if_pos (by decide)]
        have HPd := Lib.hid (fun W => padded_any m p bl true false (false) wd pr 111 ⟨#[]⟩ R W hw hw2 (by decide) (by omega))
        unfold specA at HPd
        have hzz : (false && decide (pr < 0)) = (false) := by simp
        rw [hn, hh, hzz]
        generalize (⟨(padL m (false) wd (⟨#[]⟩ : ByteArray).data.toList R.data.toList).toArray⟩ : ByteArray) = out at *
        clear hn hh hR hRl hzz hq hsgl hsl hsa hnb hRs
        go_enter Tryz.func72, Tryz.ntmps72
        go_wp2_with fail
        refine (HTr.out _).mono ?_
        rintro e _ ⟨rfl, rfl⟩
        go_wp2_with fail
        refine (HFx.out _).mono ?_
        rintro e w1 ⟨rfl, hb1⟩
        have HB1 := Lib.hid (((Below.refl w.heap.size w).alloc (Nat.le_refl _) (.cells #[.bool m, .bool p, .bool bl, .bool true, .bool false, .int .i64 wd, .int .i64 pr, .int .u8 111] 35)).trans (hb1.mono (by simp)))
        have hsp : SpAt w1 w.heap.size #[.bool m, .bool p, .bool bl, .bool true, .bool false, .int .i64 wd, .int .i64 pr, .int .u8 111] := SpAt.next (heap_alloc_at w _) hb1
        have k0 : w1.cell? ⟨w.heap.size, 0, none⟩ = some (.bool m) := hsp.cell 0
        have k1 : w1.cell? ⟨w.heap.size, 1, none⟩ = some (.bool p) := hsp.cell 1
        have k2 : w1.cell? ⟨w.heap.size, 2, none⟩ = some (.bool bl) := hsp.cell 2
        have k3 : w1.cell? ⟨w.heap.size, 3, none⟩ = some (.bool true) := hsp.cell 3
        have k4 : w1.cell? ⟨w.heap.size, 4, none⟩ = some (.bool false) := hsp.cell 4
        have k5 : w1.cell? ⟨w.heap.size, 5, none⟩ = some (.int .i64 wd) := hsp.cell 5
        have k6 : w1.cell? ⟨w.heap.size, 6, none⟩ = some (.int .i64 pr) := hsp.cell 6
        have k7 : w1.cell? ⟨w.heap.size, 7, none⟩ = some (.int .u8 111) := hsp.cell 7
        clear hb1 hsp
        go_wp2_with fail
        refine (HSg.out _).mono ?_
        rintro e w2 ⟨rfl, hb2⟩
        replace k0 := cell_next hb2 k0
        replace k1 := cell_next hb2 k1
        replace k2 := cell_next hb2 k2
        replace k3 := cell_next hb2 k3
        replace k4 := cell_next hb2 k4
        replace k5 := cell_next hb2 k5
        replace k6 := cell_next hb2 k6
        replace k7 := cell_next hb2 k7
        have HB2 := Lib.hid (HB1.out.trans (hb2.mono HB1.out.size))
        clear hb2 HB1
        go_wp2_with fail
        refine (HIb.out _).mono ?_
        rintro e w3 ⟨rfl, hb3⟩
        replace k0 := cell_next hb3 k0
        replace k1 := cell_next hb3 k1
        replace k2 := cell_next hb3 k2
        replace k3 := cell_next hb3 k3
        replace k4 := cell_next hb3 k4
        replace k5 := cell_next hb3 k5
        replace k6 := cell_next hb3 k6
        replace k7 := cell_next hb3 k7
        have HB3 := Lib.hid (HB2.out.trans (hb3.mono HB2.out.size))
        clear hb3 HB2
        go_wp2_with fail
        refine wp_region_guarded (by kernel_rfl) (by kernel_rfl) (fun a0 V0 L a W => ∃ u : Nat → Value, a = { tmps := ((((((((((((((a0.tmps.setIfInBounds 61 (u 0)).setIfInBounds 62 (u 1)).setIfInBounds 63 (u 2)).setIfInBounds 64 (u 3)).setIfInBounds 65 (u 4)).setIfInBounds 66 (u 5)).setIfInBounds 67 (u 6)).setIfInBounds 68 (u 7)).setIfInBounds 69 (u 8)).setIfInBounds 70 (u 9)).setIfInBounds 71 (u 10)).setIfInBounds 72 (u 11)).setIfInBounds 73 (u 12)).setIfInBounds 4 (u 13)), defers := a0.defers } ∧ Hid (Below V0.heap.size V0 W) ∧ Hid (∀ i, L i = true → u i = valAt [.agg #[.bool m, .bool p, .bool bl, .bool true, .bool false, .int .i64 wd, .int .i64 pr, .int .u8 111], .pointer (some ⟨w.heap.size, 6, none⟩), .int .i64 pr, .int .i64 (q : Nat), .string R, .pointer (some ⟨w.heap.size, 4, none⟩), .bool false, .bool false, undef, undef, undef, .bool false, .string out, .string out] i)) ?h0 ?hstep ?hdone
        case h0 =>
          refine ⟨valAt [undef, undef, undef, undef, undef, undef, undef, undef, undef, undef, undef, undef, undef, .string ⟨#[]⟩], ?_, (Below.refl _ _).drew, fun _ h => (by cases h)⟩
          kernel_rfl
        case hstep =>
          refine ⟨?o0, ?o1, ?o2, ?o3, ?o4, ?o5, ?o6, ?o7, ?o8, ?o9, ?o10, ?o11, ?o12, ?o13, trivial⟩
          case o0 =>
            rintro L a' W ⟨u, rfl, HI, E⟩ hL hd K hK
            have kk0 := cellNext HI.out k0
            have kk1 := cellNext HI.out k1
            have kk2 := cellNext HI.out k2
            have kk3 := cellNext HI.out k3
            have kk4 := cellNext HI.out k4
            have kk5 := cellNext HI.out k5
            have kk6 := cellNext HI.out k6
            have kk7 := cellNext HI.out k7
            simp only [List.setIfInBounds_toArray, List.set_cons_zero, List.set_cons_succ]
            refine ite_take rfl ?_
            clear hL hd
            go_simp
            refine hK _ _ ⟨withVal u 0 (.agg #[.bool m, .bool p, .bool bl, .bool true, .bool false, .int .i64 wd, .int .i64 pr, .int .u8 111]), ?_, HI, withVal_next E 0 _ rfl⟩
            kernel_rfl
          case o1 =>
            rintro L a' W ⟨u, rfl, HI, E⟩ hL hd K hK
            simp only [List.setIfInBounds_toArray, List.set_cons_zero, List.set_cons_succ]
            refine ite_take rfl ?_
            clear hL hd
            go_simp
            refine hK _ _ ⟨withVal u 1 (.pointer (some ⟨w.heap.size, 6, none⟩)), ?_, HI, withVal_next E 1 _ rfl⟩
            kernel_rfl
          case o2 =>
            rintro L a' W ⟨u, rfl, HI, E⟩ hL hd K hK
            have e1 : u 1 = .pointer (some ⟨w.heap.size, 6, none⟩) := E.out 1 (hd 1 (List.elem_iff.1 (by kernel_rfl)))
            have kk6 := cellNext HI.out k6
            simp only [List.setIfInBounds_toArray, List.set_cons_zero, List.set_cons_succ, e1]
            refine ite_take rfl ?_
            clear hL hd
            go_simp
            refine hK _ _ ⟨withVal (withVal u 1 (.pointer (some ⟨w.heap.size, 6, none⟩))) 2 (.int .i64 pr), ?_, HI, withVal_next (withVal_same E 1 _ rfl) 2 _ rfl⟩
            kernel_rfl
          case o3 =>
            rintro L a' W ⟨u, rfl, HI, E⟩ hL hd K hK
            have e2 : u 2 = .int .i64 pr := E.out 2 (hd 2 (List.elem_iff.1 (by kernel_rfl)))
            have hq0 := HQ.out
            simp only [List.setIfInBounds_toArray, List.set_cons_zero, List.set_cons_succ, e2]
            refine ite_take rfl ?_
            clear hL hd
            go_simp
            refine hK _ _ ⟨withVal (withVal u 2 (.int .i64 pr)) 3 (.int .i64 (q : Nat)), ?_, HI, withVal_next (withVal_same E 2 _ rfl) 3 _ rfl⟩
            kernel_rfl
          case o4 =>
            rintro L a' W ⟨u, rfl, HI, E⟩ hL hd K hK
            have e3 : u 3 = .int .i64 (q : Nat) := E.out 3 (hd 3 (List.elem_iff.1 (by kernel_rfl)))
            simp only [List.setIfInBounds_toArray, List.set_cons_zero, List.set_cons_succ, e3]
            refine ite_take rfl ?_
            clear hL hd
            go_simp
            refine (HRp.out W).mono ?_
            rintro e W' ⟨rfl, hb⟩
            refine hK _ _ ⟨withVal (withVal u 3 (.int .i64 (q : Nat))) 4 (.string R), ?_, HI.out.trans (hb.mono HI.out.size), withVal_next (withVal_same E 3 _ rfl) 4 _ rfl⟩
            kernel_rfl
          case o5 =>
            rintro L a' W ⟨u, rfl, HI, E⟩ hL hd K hK
            simp only [List.setIfInBounds_toArray, List.set_cons_zero, List.set_cons_succ]
            refine ite_take rfl ?_
            clear hL hd
            go_simp
            refine hK _ _ ⟨withVal u 5 (.pointer (some ⟨w.heap.size, 4, none⟩)), ?_, HI, withVal_next E 5 _ rfl⟩
            kernel_rfl
          case o6 =>
            rintro L a' W ⟨u, rfl, HI, E⟩ hL hd K hK
            have e5 : u 5 = .pointer (some ⟨w.heap.size, 4, none⟩) := E.out 5 (hd 5 (List.elem_iff.1 (by kernel_rfl)))
            have kk4 := cellNext HI.out k4
            simp only [List.setIfInBounds_toArray, List.set_cons_zero, List.set_cons_succ, e5]
            refine ite_take rfl ?_
            clear hL hd
            go_simp
            refine hK _ _ ⟨withVal (withVal u 5 (.pointer (some ⟨w.heap.size, 4, none⟩))) 6 (.bool false), ?_, HI, withVal_next (withVal_same E 5 _ rfl) 6 _ rfl⟩
            kernel_rfl
          case o7 =>
            rintro L a' W ⟨u, rfl, HI, E⟩ hL hd K hK
            have e6 : u 6 = .bool false := E.out 6 (hd 6 (List.elem_iff.1 (by kernel_rfl)))
            simp only [List.setIfInBounds_toArray, List.set_cons_zero, List.set_cons_succ, e6]
            refine ite_take rfl ?_
            clear hL hd
            go_simp
            refine hK _ _ ⟨withVal (withVal u 6 (.bool false)) 7 (.bool false), ?_, HI, withVal_next (withVal_same E 6 _ rfl) 7 _ rfl⟩
            kernel_rfl
          case o8 =>
            rintro L a' W ⟨u, rfl, HI, E⟩ hL hd K hK
            have e7 : u 7 = .bool false := E.out 7 (hd 7 (List.elem_iff.1 (by kernel_rfl)))
            simp only [List.setIfInBounds_toArray, List.set_cons_zero, List.set_cons_succ, e7]
            refine ite_skip (fun h => Bool.false_ne_true h) ?_
            clear hL hd
            go_simp
            refine hK _ _ ⟨withVal (withVal u 7 (.bool false)) 8 (undef), ?_, HI, withVal_next (withVal_same E 7 _ rfl) 8 _ rfl⟩
            kernel_rfl
          case o9 =>
            rintro L a' W ⟨u, rfl, HI, E⟩ hL hd K hK
            have e7 : u 7 = .bool false := E.out 7 (hd 7 (List.elem_iff.1 (by kernel_rfl)))
            simp only [List.setIfInBounds_toArray, List.set_cons_zero, List.set_cons_succ, e7]
            refine ite_skip (fun h => Bool.false_ne_true h) ?_
            clear hL hd
            go_simp
            refine hK _ _ ⟨withVal (withVal u 7 (.bool false)) 9 (undef), ?_, HI, withVal_next (withVal_same E 7 _ rfl) 9 _ rfl⟩
            kernel_rfl
          case o10 =>
            rintro L a' W ⟨u, rfl, HI, E⟩ hL hd K hK
            have e7 : u 7 = .bool false := E.out 7 (hd 7 (List.elem_iff.1 (by kernel_rfl)))
            simp only [List.setIfInBounds_toArray, List.set_cons_zero, List.set_cons_succ, e7]
            refine ite_skip (fun h => Bool.false_ne_true h) ?_
            clear hL hd
            go_simp
            refine hK _ _ ⟨withVal (withVal u 7 (.bool false)) 10 (undef), ?_, HI, withVal_next (withVal_same E 7 _ rfl) 10 _ rfl⟩
            kernel_rfl
          case o11 =>
            rintro L a' W ⟨u, rfl, HI, E⟩ hL hd K hK
            have e7 : u 7 = .bool false := E.out 7 (hd 7 (List.elem_iff.1 (by kernel_rfl)))
            have e10 : u 10 = undef := E.out 10 (hd 10 (List.elem_iff.1 (by kernel_rfl)))
            simp only [List.setIfInBounds_toArray, List.set_cons_zero, List.set_cons_succ, e7, e10]
            refine ite_take rfl ?_
            clear hL hd
            go_simp
            refine hK _ _ ⟨withVal (withVal (withVal u 7 (.bool false)) 10 (undef)) 11 (.bool false), ?_, HI, withVal_next (withVal_same (withVal_same E 7 _ rfl) 10 _ rfl) 11 _ rfl⟩
            kernel_rfl
          case o12 =>
            rintro L a' W ⟨u, rfl, HI, E⟩ hL hd K hK
            have e0 : u 0 = .agg #[.bool m, .bool p, .bool bl, .bool true, .bool false, .int .i64 wd, .int .i64 pr, .int .u8 111] := E.out 0 (hd 0 (List.elem_iff.1 (by kernel_rfl)))
            have e4 : u 4 = .string R := E.out 4 (hd 4 (List.elem_iff.1 (by kernel_rfl)))
            have e11 : u 11 = .bool false := E.out 11 (hd 11 (List.elem_iff.1 (by kernel_rfl)))
            simp only [List.setIfInBounds_toArray, List.set_cons_zero, List.set_cons_succ, e0, e4, e11]
            refine ite_take rfl ?_
            clear hL hd
            go_simp
            refine (HPd.out W).mono ?_
            rintro e W' ⟨rfl, hb⟩
            refine hK _ _ ⟨withVal (withVal (withVal (withVal u 0 (.agg #[.bool m, .bool p, .bool bl, .bool true, .bool false, .int .i64 wd, .int .i64 pr, .int .u8 111])) 4 (.string R)) 11 (.bool false)) 12 (.string out), ?_, HI.out.trans (hb.mono HI.out.size), withVal_next (withVal_same (withVal_same (withVal_same E 0 _ rfl) 4 _ rfl) 11 _ rfl) 12 _ rfl⟩
            kernel_rfl
          case o13 =>
            rintro L a' W ⟨u, rfl, HI, E⟩ hL hd K hK
            have e12 : u 12 = .string out := E.out 12 (hd 12 (List.elem_iff.1 (by kernel_rfl)))
            simp only [List.setIfInBounds_toArray, List.set_cons_zero, List.set_cons_succ, e12]
            refine ite_take rfl ?_
            clear hL hd
            go_simp
            refine hK _ _ ⟨withVal (withVal u 12 (.string out)) 13 (.string out), ?_, HI, withVal_next (withVal_same E 12 _ rfl) 13 _ rfl⟩
            kernel_rfl
        case hdone =>
          rintro L a' W1 hall ⟨u, rfl, HI, E⟩
          have e0 : u 0 = .agg #[.bool m, .bool p, .bool bl, .bool true, .bool false, .int .i64 wd, .int .i64 pr, .int .u8 111] := E.out 0 (hall 0 (by decide))
          have e1 : u 1 = .pointer (some ⟨w.heap.size, 6, none⟩) := E.out 1 (hall 1 (by decide))
          have e2 : u 2 = .int .i64 pr := E.out 2 (hall 2 (by decide))
          have e3 : u 3 = .int .i64 (q : Nat) := E.out 3 (hall 3 (by decide))
          have e4 : u 4 = .string R := E.out 4 (hall 4 (by decide))
          have e5 : u 5 = .pointer (some ⟨w.heap.size, 4, none⟩) := E.out 5 (hall 5 (by decide))
          have e6 : u 6 = .bool false := E.out 6 (hall 6 (by decide))
          have e7 : u 7 = .bool false := E.out 7 (hall 7 (by decide))
          have e8 : u 8 = undef := E.out 8 (hall 8 (by decide))
          have e9 : u 9 = undef := E.out 9 (hall 9 (by decide))
          have e10 : u 10 = undef := E.out 10 (hall 10 (by decide))
          have e11 : u 11 = .bool false := E.out 11 (hall 11 (by decide))
          have e12 : u 12 = .string out := E.out 12 (hall 12 (by decide))
          have e13 : u 13 = .string out := E.out 13 (hall 13 (by decide))
          simp only [List.setIfInBounds_toArray, List.set_cons_zero, List.set_cons_succ, e0, e1, e2, e3, e4, e5, e6, e7, e8, e9, e10, e11, e12, e13]
          clear hall E
          go_wp2_with fail
          go_ret
          exact ⟨rfl, HB3.out.trans (HI.out.mono HB3.out.size)⟩
      · obtain ⟨q, hq⟩ : ∃ q, q = (max pr 1).toNat := ⟨_, rfl⟩
        have HQ := Lib.hid (show max pr 1 = (q : Int) from by omega)
        have hq2 : q ≤ 190 := by omega
        obtain ⟨R, hR⟩ : ∃ R : ByteArray, R = ⟨(List.replicate q 48).toArray⟩ := ⟨_, rfl⟩
        have HRp := Lib.hid (fun W => Repeat_one 48 q W (by omega))
        rw [← hR] at HRp
        have hRl : List.replicate q 48 = R.data.toList := by rw [hR]
        have hRs : R.size ≤ 190 := by rw [sz_list, ← hRl, List.length_replicate]; omega
        have hn : numW true pr 111 0 = R.data.toList := by unfold numW; rw [if_pos rfl, if_pos ⟨rfl, rfl⟩, ← hq, hRl]
        have hh : headW p bl true 111 S 0 = (⟨#[]⟩ : ByteArray).data.toList := by unfold headW; rw [if_neg (by decide), if_neg (by decide), if_pos (by decide)]
        have HPd := Lib.hid (fun W => padded_any m p bl true true (decide (pr < 0)) wd pr 111 ⟨#[]⟩ R W hw hw2 (by decide) (by omega))
        unfold specA at HPd
        have hzz : (true && decide (pr < 0)) = (decide (pr < 0)) := by simp
        rw [hn, hh, hzz]
        generalize (⟨(padL m (decide (pr < 0)) wd (⟨#[]⟩ : ByteArray).data.toList R.data.toList).toArray⟩ : ByteArray) = out at *
        clear hn hh hR hRl hzz hq hsgl hsl hsa hnb hRs
        go_enter Tryz.func72, Tryz.ntmps72
        go_wp2_with fail
        refine (HTr.out _).mono ?_
        rintro e _ ⟨rfl, rfl⟩
        go_wp2_with fail
        refine (HFx.out _).mono ?_
        rintro e w1 ⟨rfl, hb1⟩
        have HB1 := Lib.hid (((Below.refl w.heap.size w).alloc (Nat.le_refl _) (.cells #[.bool m, .bool p, .bool bl, .bool true, .bool true, .int .i64 wd, .int .i64 pr, .int .u8 111] 35)).trans (hb1.mono (by simp)))
        have hsp : SpAt w1 w.heap.size #[.bool m, .bool p, .bool bl, .bool true, .bool true, .int .i64 wd, .int .i64 pr, .int .u8 111] := SpAt.next (heap_alloc_at w _) hb1
        have k0 : w1.cell? ⟨w.heap.size, 0, none⟩ = some (.bool m) := hsp.cell 0
        have k1 : w1.cell? ⟨w.heap.size, 1, none⟩ = some (.bool p) := hsp.cell 1
        have k2 : w1.cell? ⟨w.heap.size, 2, none⟩ = some (.bool bl) := hsp.cell 2
        have k3 : w1.cell? ⟨w.heap.size, 3, none⟩ = some (.bool true) := hsp.cell 3
        have k4 : w1.cell? ⟨w.heap.size, 4, none⟩ = some (.bool true) := hsp.cell 4
        have k5 : w1.cell? ⟨w.heap.size, 5, none⟩ = some (.int .i64 wd) := hsp.cell 5
        have k6 : w1.cell? ⟨w.heap.size, 6, none⟩ = some (.int .i64 pr) := hsp.cell 6
        have k7 : w1.cell? ⟨w.heap.size, 7, none⟩ = some (.int .u8 111) := hsp.cell 7
        clear hb1 hsp
        go_wp2_with fail
        refine (HSg.out _).mono ?_
        rintro e w2 ⟨rfl, hb2⟩
        replace k0 := cell_next hb2 k0
        replace k1 := cell_next hb2 k1
        replace k2 := cell_next hb2 k2
        replace k3 := cell_next hb2 k3
        replace k4 := cell_next hb2 k4
        replace k5 := cell_next hb2 k5
        replace k6 := cell_next hb2 k6
        replace k7 := cell_next hb2 k7
        have HB2 := Lib.hid (HB1.out.trans (hb2.mono HB1.out.size))
        clear hb2 HB1
        go_wp2_with fail
        refine (HIb.out _).mono ?_
        rintro e w3 ⟨rfl, hb3⟩
        replace k0 := cell_next hb3 k0
        replace k1 := cell_next hb3 k1
        replace k2 := cell_next hb3 k2
        replace k3 := cell_next hb3 k3
        replace k4 := cell_next hb3 k4
        replace k5 := cell_next hb3 k5
        replace k6 := cell_next hb3 k6
        replace k7 := cell_next hb3 k7
        have HB3 := Lib.hid (HB2.out.trans (hb3.mono HB2.out.size))
        clear hb3 HB2
        go_wp2_with fail
        refine wp_region_guarded (by kernel_rfl) (by kernel_rfl) (fun a0 V0 L a W => ∃ u : Nat → Value, a = { tmps := ((((((((((((((a0.tmps.setIfInBounds 61 (u 0)).setIfInBounds 62 (u 1)).setIfInBounds 63 (u 2)).setIfInBounds 64 (u 3)).setIfInBounds 65 (u 4)).setIfInBounds 66 (u 5)).setIfInBounds 67 (u 6)).setIfInBounds 68 (u 7)).setIfInBounds 69 (u 8)).setIfInBounds 70 (u 9)).setIfInBounds 71 (u 10)).setIfInBounds 72 (u 11)).setIfInBounds 73 (u 12)).setIfInBounds 4 (u 13)), defers := a0.defers } ∧ Hid (Below V0.heap.size V0 W) ∧ Hid (∀ i, L i = true → u i = valAt [.agg #[.bool m, .bool p, .bool bl, .bool true, .bool true, .int .i64 wd, .int .i64 pr, .int .u8 111], .pointer (some ⟨w.heap.size, 6, none⟩), .int .i64 pr, .int .i64 (q : Nat), .string R, .pointer (some ⟨w.heap.size, 4, none⟩), .bool true, .bool true, .pointer (some ⟨w.heap.size, 6, none⟩), .int .i64 pr, .bool (decide (pr < 0)), .bool (decide (pr < 0)), .string out, .string out] i)) ?h0 ?hstep ?hdone
        case h0 =>
          refine ⟨valAt [undef, undef, undef, undef, undef, undef, undef, undef, undef, undef, undef, undef, undef, .string ⟨#[]⟩], ?_, (Below.refl _ _).drew, fun _ h => (by cases h)⟩
          kernel_rfl
        case hstep =>
          refine ⟨?o0, ?o1, ?o2, ?o3, ?o4, ?o5, ?o6, ?o7, ?o8, ?o9, ?o10, ?o11, ?o12, ?o13, trivial⟩
          case o0 =>
            rintro L a' W ⟨u, rfl, HI, E⟩ hL hd K hK
            have kk0 := cellNext HI.out k0
            have kk1 := cellNext HI.out k1
            have kk2 := cellNext HI.out k2
            have kk3 := cellNext HI.out k3
            have kk4 := cellNext HI.out k4
            have kk5 := cellNext HI.out k5
            have kk6 := cellNext HI.out k6
            have kk7 := cellNext HI.out k7
            simp only [List.setIfInBounds_toArray, List.set_cons_zero, List.set_cons_succ]
            refine ite_take rfl ?_
            clear hL hd
            go_simp
            refine hK _ _ ⟨withVal u 0 (.agg #[.bool m, .bool p, .bool bl, .bool true, .bool true, .int .i64 wd, .int .i64 pr, .int .u8 111]), ?_, HI, withVal_next E 0 _ rfl⟩
            kernel_rfl
          case o1 =>
            rintro L a' W ⟨u, rfl, HI, E⟩ hL hd K hK
            simp only [List.setIfInBounds_toArray, List.set_cons_zero, List.set_cons_succ]
            refine ite_take rfl ?_
            clear hL hd
            go_simp
            refine hK _ _ ⟨withVal u 1 (.pointer (some ⟨w.heap.size, 6, none⟩)), ?_, HI, withVal_next E 1 _ rfl⟩
            kernel_rfl
          case o2 =>
            rintro L a' W ⟨u, rfl, HI, E⟩ hL hd K hK
            have e1 : u 1 = .pointer (some ⟨w.heap.size, 6, none⟩) := E.out 1 (hd 1 (List.elem_iff.1 (by kernel_rfl)))
            have kk6 := cellNext HI.out k6
            simp only [List.setIfInBounds_toArray, List.set_cons_zero, List.set_cons_succ, e1]
            refine ite_take rfl ?_
            clear hL hd
            go_simp
            refine hK _ _ ⟨withVal (withVal u 1 (.pointer (some ⟨w.heap.size, 6, none⟩))) 2 (.int .i64 pr), ?_, HI, withVal_next (withVal_same E 1 _ rfl) 2 _ rfl⟩
            kernel_rfl
          case o3 =>
            rintro L a' W ⟨u, rfl, HI, E⟩ hL hd K hK
            have e2 : u 2 = .int .i64 pr := E.out 2 (hd 2 (List.elem_iff.1 (by kernel_rfl)))
            have hq0 := HQ.out
            simp only [List.setIfInBounds_toArray, List.set_cons_zero, List.set_cons_succ, e2]
            refine ite_take rfl ?_
            clear hL hd
            go_simp
            refine hK _ _ ⟨withVal (withVal u 2 (.int .i64 pr)) 3 (.int .i64 (q : Nat)), ?_, HI, withVal_next (withVal_same E 2 _ rfl) 3 _ rfl⟩
            kernel_rfl
          case o4 =>
            rintro L a' W ⟨u, rfl, HI, E⟩ hL hd K hK
            have e3 : u 3 = .int .i64 (q : Nat) := E.out 3 (hd 3 (List.elem_iff.1 (by kernel_rfl)))
            simp only [List.setIfInBounds_toArray, List.set_cons_zero, List.set_cons_succ, e3]
            refine ite_take rfl ?_
            clear hL hd
            go_simp
            refine (HRp.out W).mono ?_
            rintro e W' ⟨rfl, hb⟩
            refine hK _ _ ⟨withVal (withVal u 3 (.int .i64 (q : Nat))) 4 (.string R), ?_, HI.out.trans (hb.mono HI.out.size), withVal_next (withVal_same E 3 _ rfl) 4 _ rfl⟩
            kernel_rfl
          case o5 =>
            rintro L a' W ⟨u, rfl, HI, E⟩ hL hd K hK
            simp only [List.setIfInBounds_toArray, List.set_cons_zero, List.set_cons_succ]
            refine ite_take rfl ?_
            clear hL hd
            go_simp
            refine hK _ _ ⟨withVal u 5 (.pointer (some ⟨w.heap.size, 4, none⟩)), ?_, HI, withVal_next E 5 _ rfl⟩
            kernel_rfl
          case o6 =>
            rintro L a' W ⟨u, rfl, HI, E⟩ hL hd K hK
            have e5 : u 5 = .pointer (some ⟨w.heap.size, 4, none⟩) := E.out 5 (hd 5 (List.elem_iff.1 (by kernel_rfl)))
            have kk4 := cellNext HI.out k4
            simp only [List.setIfInBounds_toArray, List.set_cons_zero, List.set_cons_succ, e5]
            refine ite_take rfl ?_
            clear hL hd
            go_simp
            refine hK _ _ ⟨withVal (withVal u 5 (.pointer (some ⟨w.heap.size, 4, none⟩))) 6 (.bool true), ?_, HI, withVal_next (withVal_same E 5 _ rfl) 6 _ rfl⟩
            kernel_rfl
          case o7 =>
            rintro L a' W ⟨u, rfl, HI, E⟩ hL hd K hK
            have e6 : u 6 = .bool true := E.out 6 (hd 6 (List.elem_iff.1 (by kernel_rfl)))
            simp only [List.setIfInBounds_toArray, List.set_cons_zero, List.set_cons_succ, e6]
            refine ite_take rfl ?_
            clear hL hd
            go_simp
            refine hK _ _ ⟨withVal (withVal u 6 (.bool true)) 7 (.bool true), ?_, HI, withVal_next (withVal_same E 6 _ rfl) 7 _ rfl⟩
            kernel_rfl
          case o8 =>
            rintro L a' W ⟨u, rfl, HI, E⟩ hL hd K hK
            have e7 : u 7 = .bool true := E.out 7 (hd 7 (List.elem_iff.1 (by kernel_rfl)))
            simp only [List.setIfInBounds_toArray, List.set_cons_zero, List.set_cons_succ, e7]
            refine ite_take rfl ?_
            clear hL hd
            go_simp
            refine hK _ _ ⟨withVal (withVal u 7 (.bool true)) 8 (.pointer (some ⟨w.heap.size, 6, none⟩)), ?_, HI, withVal_next (withVal_same E 7 _ rfl) 8 _ rfl⟩
            kernel_rfl
          case o9 =>
            rintro L a' W ⟨u, rfl, HI, E⟩ hL hd K hK
            have e7 : u 7 = .bool true := E.out 7 (hd 7 (List.elem_iff.1 (by kernel_rfl)))
            have e8 : u 8 = .pointer (some ⟨w.heap.size, 6, none⟩) := E.out 8 (hd 8 (List.elem_iff.1 (by kernel_rfl)))
            have kk6 := cellNext HI.out k6
            simp only [List.setIfInBounds_toArray, List.set_cons_zero, List.set_cons_succ, e7, e8]
            refine ite_take rfl ?_
            clear hL hd
            go_simp
            refine hK _ _ ⟨withVal (withVal (withVal u 7 (.bool true)) 8 (.pointer (some ⟨w.heap.size, 6, none⟩))) 9 (.int .i64 pr), ?_, HI, withVal_next (withVal_same (withVal_same E 7 _ rfl) 8 _ rfl) 9 _ rfl⟩
            kernel_rfl
          case o10 =>
            rintro L a' W ⟨u, rfl, HI, E⟩ hL hd K hK
            have e7 : u 7 = .bool true := E.out 7 (hd 7 (List.elem_iff.1 (by kernel_rfl)))
            have e9 : u 9 = .int .i64 pr := E.out 9 (hd 9 (List.elem_iff.1 (by kernel_rfl)))
            simp only [List.setIfInBounds_toArray, List.set_cons_zero, List.set_cons_succ, e7, e9]
            refine ite_take rfl ?_
            clear hL hd
            go_simp
            refine hK _ _ ⟨withVal (withVal (withVal u 7 (.bool true)) 9 (.int .i64 pr)) 10 (.bool (decide (pr < 0))), ?_, HI, withVal_next (withVal_same (withVal_same E 7 _ rfl) 9 _ rfl) 10 _ rfl⟩
            kernel_rfl
          case o11 =>
            rintro L a' W ⟨u, rfl, HI, E⟩ hL hd K hK
            have e7 : u 7 = .bool true := E.out 7 (hd 7 (List.elem_iff.1 (by kernel_rfl)))
            have e10 : u 10 = .bool (decide (pr < 0)) := E.out 10 (hd 10 (List.elem_iff.1 (by kernel_rfl)))
            simp only [List.setIfInBounds_toArray, List.set_cons_zero, List.set_cons_succ, e7, e10]
            refine ite_take rfl ?_
            clear hL hd
            go_simp
            refine hK _ _ ⟨withVal (withVal (withVal u 7 (.bool true)) 10 (.bool (decide (pr < 0)))) 11 (.bool (decide (pr < 0))), ?_, HI, withVal_next (withVal_same (withVal_same E 7 _ rfl) 10 _ rfl) 11 _ rfl⟩
            kernel_rfl
          case o12 =>
            rintro L a' W ⟨u, rfl, HI, E⟩ hL hd K hK
            have e0 : u 0 = .agg #[.bool m, .bool p, .bool bl, .bool true, .bool true, .int .i64 wd, .int .i64 pr, .int .u8 111] := E.out 0 (hd 0 (List.elem_iff.1 (by kernel_rfl)))
            have e4 : u 4 = .string R := E.out 4 (hd 4 (List.elem_iff.1 (by kernel_rfl)))
            have e11 : u 11 = .bool (decide (pr < 0)) := E.out 11 (hd 11 (List.elem_iff.1 (by kernel_rfl)))
            simp only [List.setIfInBounds_toArray, List.set_cons_zero, List.set_cons_succ, e0, e4, e11]
            refine ite_take rfl ?_
            clear hL hd
            go_simp
            refine (HPd.out W).mono ?_
            rintro e W' ⟨rfl, hb⟩
            refine hK _ _ ⟨withVal (withVal (withVal (withVal u 0 (.agg #[.bool m, .bool p, .bool bl, .bool true, .bool true, .int .i64 wd, .int .i64 pr, .int .u8 111])) 4 (.string R)) 11 (.bool (decide (pr < 0)))) 12 (.string out), ?_, HI.out.trans (hb.mono HI.out.size), withVal_next (withVal_same (withVal_same (withVal_same E 0 _ rfl) 4 _ rfl) 11 _ rfl) 12 _ rfl⟩
            kernel_rfl
          case o13 =>
            rintro L a' W ⟨u, rfl, HI, E⟩ hL hd K hK
            have e12 : u 12 = .string out := E.out 12 (hd 12 (List.elem_iff.1 (by kernel_rfl)))
            simp only [List.setIfInBounds_toArray, List.set_cons_zero, List.set_cons_succ, e12]
            refine ite_take rfl ?_
            clear hL hd
            go_simp
            refine hK _ _ ⟨withVal (withVal u 12 (.string out)) 13 (.string out), ?_, HI, withVal_next (withVal_same E 12 _ rfl) 13 _ rfl⟩
            kernel_rfl
        case hdone =>
          rintro L a' W1 hall ⟨u, rfl, HI, E⟩
          have e0 : u 0 = .agg #[.bool m, .bool p, .bool bl, .bool true, .bool true, .int .i64 wd, .int .i64 pr, .int .u8 111] := E.out 0 (hall 0 (by decide))
          have e1 : u 1 = .pointer (some ⟨w.heap.size, 6, none⟩) := E.out 1 (hall 1 (by decide))
          have e2 : u 2 = .int .i64 pr := E.out 2 (hall 2 (by decide))
          have e3 : u 3 = .int .i64 (q : Nat) := E.out 3 (hall 3 (by decide))
          have e4 : u 4 = .string R := E.out 4 (hall 4 (by decide))
          have e5 : u 5 = .pointer (some ⟨w.heap.size, 4, none⟩) := E.out 5 (hall 5 (by decide))
          have e6 : u 6 = .bool true := E.out 6 (hall 6 (by decide))
          have e7 : u 7 = .bool true := E.out 7 (hall 7 (by decide))
          have e8 : u 8 = .pointer (some ⟨w.heap.size, 6, none⟩) := E.out 8 (hall 8 (by decide))
          have e9 : u 9 = .int .i64 pr := E.out 9 (hall 9 (by decide))
          have e10 : u 10 = .bool (decide (pr < 0)) := E.out 10 (hall 10 (by decide))
          have e11 : u 11 = .bool (decide (pr < 0)) := E.out 11 (hall 11 (by decide))
          have e12 : u 12 = .string out := E.out 12 (hall 12 (by decide))
          have e13 : u 13 = .string out := E.out 13 (hall 13 (by decide))
          simp only [List.setIfInBounds_toArray, List.set_cons_zero, List.set_cons_succ, e0, e1, e2, e3, e4, e5, e6, e7, e8, e9, e10, e11, e12, e13]
          clear hall E
          go_wp2_with fail
          go_ret
          exact ⟨rfl, HB3.out.trans (HI.out.mono HB3.out.size)⟩
    · have hl48 := canon_ne0 hc hN
      have hl0 := hc.ne
      obtain ⟨F, hF⟩ : ∃ F : ByteArray, F = ⟨l.toArray⟩ := ⟨_, rfl⟩
      rw [← hF] at HFx
      have hFl : F.data.toList = l := by rw [hF]
      have hF48 : (F.toList == [48]) = false := not_48 (by rw [hFl]; exact hl48)
      have hF49 : ¬ F.toList = [48] := beq_eq_false_iff_ne.1 hF48
      have HIb := Lib.hid (fun W => inBase_any F N 8 W (by rw [hFl]; exact hc) (by rw [hFl]; exact hl) hnb (by decide) (by decide))
      obtain ⟨E, hE⟩ : ∃ E : ByteArray, E = bytesN (baseN 8 N) := ⟨_, rfl⟩
      have hEl : E.data.toList = baseD 8 N := by rw [hE]; rfl
      have hE0 : ¬ E.toList = [] := by rw [ByteArray.toList_eq, hEl]; exact baseD_ne (by decide) hN
      have hE2 : E.toList.isEmpty = false := isEmpty_no hE0
      have hE48 : (E.toList == [48]) = false := not_48 (by rw [hEl]; exact baseD_one (by decide) (by decide) hN)
      have hE49 : ¬ E.toList = [48] := beq_eq_false_iff_ne.1 hE48
      have hEs : E.size ≤ 4001 := by rw [sz_list, hEl]; exact baseD_len (by decide) hnb
      have hEa : Asc E.data.toList := by rw [hEl]; exact baseD_asc N (by decide) (by decide)
      rw [← hE] at HIb
      have hbw : baseW true 111 N = (⟨#[48]⟩ ++ E : ByteArray).data.toList := by unfold baseW; rw [if_pos rfl, if_pos rfl, ByteArray.data_append, Array.toList_append, hEl]; rfl
      have hDs : (⟨#[48]⟩ ++ E : ByteArray).size ≤ 4100 := by rw [ByteArray.size_append]; show 1 + E.size ≤ _; omega
      have hDz : (⟨#[48]⟩ ++ E : ByteArray).size = 1 + E.size := by rw [ByteArray.size_append]; rfl
      have hE1 : 0 < E.size := Nat.pos_of_ne_zero fun h => baseD_ne (B := 8) (by decide) hN (by rw [← hEl]; exact List.length_eq_zero_iff.1 (by rw [← sz_list]; exact h))
      have hD0 : ¬ (⟨#[48]⟩ ++ E : ByteArray).toList = [] := by rw [ByteArray.toList_eq]; intro h; have h9 := sz_list (⟨#[48]⟩ ++ E : ByteArray); rw [h] at h9; change _ = 0 at h9; omega
      have hD2 : (⟨#[48]⟩ ++ E : ByteArray).toList.isEmpty = false := isEmpty_no hD0
      have hD48 : ((⟨#[48]⟩ ++ E : ByteArray).toList == [48]) = false := not_48 (by intro h; have h9 := sz_list (⟨#[48]⟩ ++ E : ByteArray); rw [h] at h9; change _ = 1 at h9; omega)
      have hD49 : ¬ (⟨#[48]⟩ ++ E : ByteArray).toList = [48] := beq_eq_false_iff_ne.1 hD48
      clear hl48 hl0 hc hdl hF hFl hl hE
      cases z
      · obtain ⟨K, hK⟩ : ∃ K, K = (pr - ((⟨#[48]⟩ ++ E : ByteArray).size : Int)).toNat := ⟨_, rfl⟩
        have HK := Lib.hid (show max 0 (pr - (1 + (E.size : Int))) = (K : Int) from by omega)
        have hK2 : K ≤ 190 := by omega
        obtain ⟨R, hR⟩ : ∃ R : ByteArray, R = ⟨(List.replicate K 48).toArray⟩ := ⟨_, rfl⟩
        have HRp := Lib.hid (fun W => Repeat_one 48 K W (by omega))
        rw [← hR] at HRp
        have hRl : List.replicate K 48 = R.data.toList := by rw [hR]
        have hRs : R.size ≤ 190 := by rw [sz_list, ← hRl, List.length_replicate]; omega
        have hn : numW true pr 111 N = (R ++ (⟨#[48]⟩ ++ E : ByteArray)).data.toList := by unfold numW; rw [if_neg hN, hbw, ← sz_list, ← hK, hRl, ByteArray.data_append, Array.toList_append] <;> simp [ByteArray.data_append]
        have hh : headW p bl true 111 S N = sg.data.toList := by unfold headW; rw [if_neg (by decide), if_neg (fun h => by rcases h.1 with h | h <;> cases h), if_neg (fun h => hN h.2.2)]; exact hsgl
        have HPd := Lib.hid (fun W => padded_any m p bl true false (false) wd pr 111 sg (R ++ (⟨#[48]⟩ ++ E : ByteArray)) W hw hw2 (by rw [sz_list]; omega) (by rw [ByteArray.size_append]; omega))
        unfold specA at HPd
        have hzz : (false && decide (pr < 0)) = (false) := by simp
        rw [hn, hh, hzz]
        generalize (⟨(padL m (false) wd sg.data.toList (R ++ (⟨#[48]⟩ ++ E : ByteArray)).data.toList).toArray⟩ : ByteArray) = out at *
        clear hn hh hR hRl hzz hK hsgl hsl hsa hnb hbw hN hDz hE1 hEa
        go_enter Tryz.func72, Tryz.ntmps72
        go_wp2_with fail
        refine (HTr.out _).mono ?_
        rintro e _ ⟨rfl, rfl⟩
        go_wp2_with fail
        refine (HFx.out _).mono ?_
        rintro e w1 ⟨rfl, hb1⟩
        have HB1 := Lib.hid (((Below.refl w.heap.size w).alloc (Nat.le_refl _) (.cells #[.bool m, .bool p, .bool bl, .bool true, .bool false, .int .i64 wd, .int .i64 pr, .int .u8 111] 35)).trans (hb1.mono (by simp)))
        have hsp : SpAt w1 w.heap.size #[.bool m, .bool p, .bool bl, .bool true, .bool false, .int .i64 wd, .int .i64 pr, .int .u8 111] := SpAt.next (heap_alloc_at w _) hb1
        have k0 : w1.cell? ⟨w.heap.size, 0, none⟩ = some (.bool m) := hsp.cell 0
        have k1 : w1.cell? ⟨w.heap.size, 1, none⟩ = some (.bool p) := hsp.cell 1
        have k2 : w1.cell? ⟨w.heap.size, 2, none⟩ = some (.bool bl) := hsp.cell 2
        have k3 : w1.cell? ⟨w.heap.size, 3, none⟩ = some (.bool true) := hsp.cell 3
        have k4 : w1.cell? ⟨w.heap.size, 4, none⟩ = some (.bool false) := hsp.cell 4
        have k5 : w1.cell? ⟨w.heap.size, 5, none⟩ = some (.int .i64 wd) := hsp.cell 5
        have k6 : w1.cell? ⟨w.heap.size, 6, none⟩ = some (.int .i64 pr) := hsp.cell 6
        have k7 : w1.cell? ⟨w.heap.size, 7, none⟩ = some (.int .u8 111) := hsp.cell 7
        clear hb1 hsp
        go_wp2_with fail
        refine (HSg.out _).mono ?_
        rintro e w2 ⟨rfl, hb2⟩
        replace k0 := cell_next hb2 k0
        replace k1 := cell_next hb2 k1
        replace k2 := cell_next hb2 k2
        replace k3 := cell_next hb2 k3
        replace k4 := cell_next hb2 k4
        replace k5 := cell_next hb2 k5
        replace k6 := cell_next hb2 k6
        replace k7 := cell_next hb2 k7
        have HB2 := Lib.hid (HB1.out.trans (hb2.mono HB1.out.size))
        clear hb2 HB1
        go_wp2_with fail
        refine (HIb.out _).mono ?_
        rintro e w3 ⟨rfl, hb3⟩
        replace k0 := cell_next hb3 k0
        replace k1 := cell_next hb3 k1
        replace k2 := cell_next hb3 k2
        replace k3 := cell_next hb3 k3
        replace k4 := cell_next hb3 k4
        replace k5 := cell_next hb3 k5
        replace k6 := cell_next hb3 k6
        replace k7 := cell_next hb3 k7
        have HB3 := Lib.hid (HB2.out.trans (hb3.mono HB2.out.size))
        clear hb3 HB2
        go_wp2_with fail
        rw [HK.out]
        refine (HRp.out _).mono ?_
        rintro e w4 ⟨rfl, hb4⟩
        replace k0 := cell_next hb4 k0
        replace k1 := cell_next hb4 k1
        replace k2 := cell_next hb4 k2
        replace k3 := cell_next hb4 k3
        replace k4 := cell_next hb4 k4
        replace k5 := cell_next hb4 k5
        replace k6 := cell_next hb4 k6
        replace k7 := cell_next hb4 k7
        have HB4 := Lib.hid (HB3.out.trans (hb4.mono HB3.out.size))
        clear hb4 HB3
        go_wp2_with fail
        refine (HPd.out _).mono ?_
        rintro e w5 ⟨rfl, hb5⟩
        replace k0 := cell_next hb5 k0
        replace k1 := cell_next hb5 k1
        replace k2 := cell_next hb5 k2
        replace k3 := cell_next hb5 k3
        replace k4 := cell_next hb5 k4
        replace k5 := cell_next hb5 k5
        replace k6 := cell_next hb5 k6
        replace k7 := cell_next hb5 k7
        have HB5 := Lib.hid (HB4.out.trans (hb5.mono HB4.out.size))
        clear hb5 HB4
        go_wp2_with fail
        go_ret
        exact ⟨rfl, HB5.out⟩
      · obtain ⟨K, hK⟩ : ∃ K, K = (pr - ((⟨#[48]⟩ ++ E : ByteArray).size : Int)).toNat := ⟨_, rfl⟩
        have HK := Lib.hid (show max 0 (pr - (1 + (E.size : Int))) = (K : Int) from by omega)
        have hK2 : K ≤ 190 := by omega
        obtain ⟨R, hR⟩ : ∃ R : ByteArray, R = ⟨(List.replicate K 48).toArray⟩ := ⟨_, rfl⟩
        have HRp := Lib.hid (fun W => Repeat_one 48 K W (by omega))
        rw [← hR] at HRp
        have hRl : List.replicate K 48 = R.data.toList := by rw [hR]
        have hRs : R.size ≤ 190 := by rw [sz_list, ← hRl, List.length_replicate]; omega
        have hn : numW true pr 111 N = (R ++ (⟨#[48]⟩ ++ E : ByteArray)).data.toList := by unfold numW; rw [if_neg hN, hbw, ← sz_list, ← hK, hRl, ByteArray.data_append, Array.toList_append] <;> simp [ByteArray.data_append]
        have hh : headW p bl true 111 S N = sg.data.toList := by unfold headW; rw [if_neg (by decide), if_neg (fun h => by rcases h.1 with h | h <;> cases h), if_neg (fun h => hN h.2.2)]; exact hsgl
        have HPd := Lib.hid (fun W => padded_any m p bl true true (decide (pr < 0)) wd pr 111 sg (R ++ (⟨#[48]⟩ ++ E : ByteArray)) W hw hw2 (by rw [sz_list]; omega) (by rw [ByteArray.size_append]; omega))
        unfold specA at HPd
        have hzz : (true && decide (pr < 0)) = (decide (pr < 0)) := by simp
        rw [hn, hh, hzz]
        generalize (⟨(padL m (decide (pr < 0)) wd sg.data.toList (R ++ (⟨#[48]⟩ ++ E : ByteArray)).data.toList).toArray⟩ : ByteArray) = out at *
        clear hn hh hR hRl hzz hK hsgl hsl hsa hnb hbw hN hDz hE1 hEa
        go_enter Tryz.func72, Tryz.ntmps72
        go_wp2_with fail
        refine (HTr.out _).mono ?_
        rintro e _ ⟨rfl, rfl⟩
        go_wp2_with fail
        refine (HFx.out _).mono ?_
        rintro e w1 ⟨rfl, hb1⟩
        have HB1 := Lib.hid (((Below.refl w.heap.size w).alloc (Nat.le_refl _) (.cells #[.bool m, .bool p, .bool bl, .bool true, .bool true, .int .i64 wd, .int .i64 pr, .int .u8 111] 35)).trans (hb1.mono (by simp)))
        have hsp : SpAt w1 w.heap.size #[.bool m, .bool p, .bool bl, .bool true, .bool true, .int .i64 wd, .int .i64 pr, .int .u8 111] := SpAt.next (heap_alloc_at w _) hb1
        have k0 : w1.cell? ⟨w.heap.size, 0, none⟩ = some (.bool m) := hsp.cell 0
        have k1 : w1.cell? ⟨w.heap.size, 1, none⟩ = some (.bool p) := hsp.cell 1
        have k2 : w1.cell? ⟨w.heap.size, 2, none⟩ = some (.bool bl) := hsp.cell 2
        have k3 : w1.cell? ⟨w.heap.size, 3, none⟩ = some (.bool true) := hsp.cell 3
        have k4 : w1.cell? ⟨w.heap.size, 4, none⟩ = some (.bool true) := hsp.cell 4
        have k5 : w1.cell? ⟨w.heap.size, 5, none⟩ = some (.int .i64 wd) := hsp.cell 5
        have k6 : w1.cell? ⟨w.heap.size, 6, none⟩ = some (.int .i64 pr) := hsp.cell 6
        have k7 : w1.cell? ⟨w.heap.size, 7, none⟩ = some (.int .u8 111) := hsp.cell 7
        clear hb1 hsp
        go_wp2_with fail
        refine (HSg.out _).mono ?_
        rintro e w2 ⟨rfl, hb2⟩
        replace k0 := cell_next hb2 k0
        replace k1 := cell_next hb2 k1
        replace k2 := cell_next hb2 k2
        replace k3 := cell_next hb2 k3
        replace k4 := cell_next hb2 k4
        replace k5 := cell_next hb2 k5
        replace k6 := cell_next hb2 k6
        replace k7 := cell_next hb2 k7
        have HB2 := Lib.hid (HB1.out.trans (hb2.mono HB1.out.size))
        clear hb2 HB1
        go_wp2_with fail
        refine (HIb.out _).mono ?_
        rintro e w3 ⟨rfl, hb3⟩
        replace k0 := cell_next hb3 k0
        replace k1 := cell_next hb3 k1
        replace k2 := cell_next hb3 k2
        replace k3 := cell_next hb3 k3
        replace k4 := cell_next hb3 k4
        replace k5 := cell_next hb3 k5
        replace k6 := cell_next hb3 k6
        replace k7 := cell_next hb3 k7
        have HB3 := Lib.hid (HB2.out.trans (hb3.mono HB2.out.size))
        clear hb3 HB2
        go_wp2_with fail
        rw [HK.out]
        refine (HRp.out _).mono ?_
        rintro e w4 ⟨rfl, hb4⟩
        replace k0 := cell_next hb4 k0
        replace k1 := cell_next hb4 k1
        replace k2 := cell_next hb4 k2
        replace k3 := cell_next hb4 k3
        replace k4 := cell_next hb4 k4
        replace k5 := cell_next hb4 k5
        replace k6 := cell_next hb4 k6
        replace k7 := cell_next hb4 k7
        have HB4 := Lib.hid (HB3.out.trans (hb4.mono HB3.out.size))
        clear hb4 HB3
        go_wp2_with fail
        refine (HPd.out _).mono ?_
        rintro e w5 ⟨rfl, hb5⟩
        replace k0 := cell_next hb5 k0
        replace k1 := cell_next hb5 k1
        replace k2 := cell_next hb5 k2
        replace k3 := cell_next hb5 k3
        replace k4 := cell_next hb5 k4
        replace k5 := cell_next hb5 k5
        replace k6 := cell_next hb5 k6
        replace k7 := cell_next hb5 k7
        have HB5 := Lib.hid (HB4.out.trans (hb5.mono HB4.out.size))
        clear hb5 HB4
        go_wp2_with fail
        go_ret
        exact ⟨rfl, HB5.out⟩
end Go.Proofs.YtfdnhkjeoeffoaaGreatDoor
end
