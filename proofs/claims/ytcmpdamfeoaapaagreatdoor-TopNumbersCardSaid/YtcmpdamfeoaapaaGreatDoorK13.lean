/- Package num: base, and Literal of a base of sixteen. -/
import Derived.Test.YtcmpdamfeoaapaaGreatDoorK11
import Derived.Test.YtcmpdamfeoaapaaGreatDoorM8
namespace Go.Proofs.YtcmpdamfeoaapaaGreatDoor
open Go.RowKit
set_option linter.unusedVariables false

/-- the digits of base sixteen -/
def hexS : ByteArray := ⟨#[48, 49, 50, 51, 52, 53, 54, 55, 56, 57, 97, 98, 99, 100, 101, 102]⟩
/-- the digit that a byte is, or less than 0 -/
def hexD (c : UInt8) : Int := Lib.indexByte hexS.data.toList (c.toNat ||| 32).toUInt8
/-- the number of digits of base sixteen, and how many they are; none: an operation is not valid -/
def baseO : List UInt8 → Nat → Nat → Option (Nat × Nat)
  | [], x, n => some (x, n)
  | c :: l, x, n => if hexD c < 0 ∨ c.toNat < 48 then some (x, n) else
    (FloatKind.f64.format.mul x 4625196817309499392).bind fun y => (FloatKind.f64.format.add y (floatOfInt FloatKind.f64 (hexD c))).bind fun z => baseO l z (n + 1)

theorem indexByte_lt (l : List UInt8) (c : UInt8) : Lib.indexByte l c ≤ (l.length : Int) := by
  induction l with
  | nil => simp [Lib.indexByte]
  | cons b l ih =>
    unfold Lib.indexByte
    rw [List.length_cons]
    split
    · omega
    · split <;> omega
set_option maxRecDepth 100000 in
set_option maxHeartbeats 4000000 in
theorem base_any (s : ByteArray) (X N : Nat) (w : World) (hs : s.size ≤ 1000) (h : baseO s.data.toList 0 0 = some (X, N)) :
    Calls Tryz.prog 52 #[.string s, .string hexS, .int .i64 4] w fun e w' => e = .returned (.tuple #[.float .f64 X, .int .i64 N]) ∧ w = w' := by
  have HI := Lib.hid (fun c => Tryz.strings_IndexByte hexS c w)
  have e16 : floatOfInt FloatKind.f64 16 = 4625196817309499392 := by kernel_rfl
  generalize hS : hexS = S at *
  have HS := Lib.hid hS
  clear hS
  have H := Lib.hid h
  clear h
  go_enter Tryz.func52, Tryz.ntmps52
  go_wp2_with fail
  go_loop [8, 9] (fun xv nv => ∃ (x n : Nat), xv = .float .f64 x ∧ nv = .int .i64 n ∧ n ≤ s.size ∧ baseO (s.data.toList.drop n) x n = some (X, N)) (fun _ nv => s.size - (intOf nv).toNat)
  case atStart => exact ⟨0, 0, rfl, rfl, Nat.zero_le _, H.out⟩
  case round =>
    obtain ⟨x, n, rfl, rfl, h1, h2⟩ := hrel
    obtain ⟨sz, hsz⟩ : ∃ sz, sz = s.size := ⟨_, rfl⟩
    have hl : s.data.toList.length = s.size := (size_list s).symm
    rcases Nat.lt_or_ge n s.size with hn | hn
    · have hd : s.data.toList.drop n = s.data.toList[n]'(by omega) :: s.data.toList.drop (n + 1) := List.drop_eq_getElem_cons (by omega)
      have hc : s[n] = s.data.toList[n]'(by omega) := by
        apply at_list
        rw [List.getElem?_eq_getElem]
      rw [hd, ← hc] at h2
      generalize hC : s[n] = c at *
      have hcl : c.toNat < 256 := c.toNat_lt
      have b1 := u8_or_nat c.toNat 32 hcl (by decide)
      obtain ⟨o, ho⟩ : ∃ o, o = c.toNat ||| 32 := ⟨_, rfl⟩
      have b2 : bits .or .u8 (c.toNat : Int) 32 = (o : Int) := by rw [ho]; exact b1
      have HC := Lib.hid (HI.out (o : Int))
      have hx : Lib.indexByte S.data.toList ((o : Int).toNat.toUInt8) = hexD c := by
        unfold hexD; rw [HS.out, ho]; rfl
      rw [hx] at HC
      rw [baseO] at h2
      have hdb : -1 ≤ hexD c ∧ hexD c ≤ 16 := ⟨Lib.indexByte_ge _ _, indexByte_lt _ _⟩
      have hnI : (n : Int) < (s.size : Int) := by omega
      generalize hexD c = d at *
      clear hd hc b1 ho hx hl HI
      by_cases hb : d < 0 ∨ c.toNat < 48
      · rw [if_pos hb] at h2
        have h4 := Option.some.inj h2
        obtain ⟨rfl, rfl⟩ := Prod.mk.inj h4
        clear h2 h4
        rcases Int.lt_or_le d 0 with hd0 | hd0
        · go_wp2_with fail
          refine HC.out.mono ?_
          rintro e w1 ⟨rfl, rfl⟩
          go_wp2_with fail
          go_ret2
          exact ⟨rfl, rfl⟩
        · have hc48 : (c.toNat : Int) < 48 := by omega
          go_wp2_with fail
          refine HC.out.mono ?_
          rintro e w1 ⟨rfl, rfl⟩
          go_wp2_with fail
          go_ret2
          exact ⟨rfl, rfl⟩
      · rw [if_neg hb] at h2
        rw [Option.bind_eq_some_iff] at h2
        obtain ⟨y, h4, h5⟩ := h2
        rw [Option.bind_eq_some_iff] at h5
        obtain ⟨z, h6, h7⟩ := h5
        have H7 := Lib.hid h7
        have m1 : ∀ t w, (binOp .mul t (.float .f64 x) (.float .f64 4625196817309499392)).run Tryz.prog w = .ok (.float .f64 y) w := fun t w => run_float_arith w .mul t .f64 x _ y h4
        have m2 : ∀ t w, (binOp .add t (.float .f64 y) (.float .f64 (floatOfInt FloatKind.f64 d))).run Tryz.prog w = .ok (.float .f64 z) w := fun t w => run_float_arith w .add t .f64 y _ z h6
        have hd0 : 0 ≤ d := by omega
        have hc48 : 48 ≤ (c.toNat : Int) := by omega
        clear h4 h6 h7 hb
        go_wp2_with fail
        refine HC.out.mono ?_
        rintro e w1 ⟨rfl, rfl⟩
        go_wp2_with fail
        go_round
        case rel => exact ⟨z, n + 1, rfl, rfl, by omega, H7.out⟩
        case measure => simp only [intOf]; omega
    · have h3 : baseO (s.data.toList.drop n) x n = some (x, n) := by rw [List.drop_eq_nil_of_le (by omega)]; rfl
      rw [h3] at h2
      have h4 := Option.some.inj h2
      obtain ⟨rfl, rfl⟩ := Prod.mk.inj h4
      have hn2 : (s.size : Int) ≤ (n : Int) := by omega
      clear h2 h3 h4 hl
      go_wp2_with fail
      go_ret2
      exact ⟨rfl, rfl⟩

set_option maxRecDepth 100000 in
set_option maxHeartbeats 4000000 in
theorem Literal_hex (s : ByteArray) (X N : Nat) (w : World) (hs : s.size ≤ 1000000) (hp : Lib.hasPrefix s.data.toList [48, 120] = true) (h : baseO ((s.data.toList.take 15).drop 2) 0 0 = some (X, N)) (hN : 0 < N) (hN2 : N ≤ 1000) :
    Calls Tryz.prog 12 #[.string s] w fun e w' => e = .returned (.tuple #[.float .f64 X, .int .i64 (2 + (N : Int))]) ∧ w = w' := by
  have hP1 := Lib.hid (fun W => Tryz.strings_HasPrefix s ⟨#[48, 120]⟩ W)
  have hl : s.data.toList.length = s.size := (size_list s).symm
  have h2 : 2 ≤ s.size := by
    rw [← hl]
    unfold Lib.hasPrefix at hp
    have := (List.isPrefixOf_iff_prefix.1 hp).length_le
    simpa using this
  obtain ⟨z, hz⟩ : ∃ z, z = min s.size 15 := ⟨_, rfl⟩
  have hz2 : min (s.size : Int) 15 = (z : Int) := by omega
  have hs2 : 2 ≤ z := by omega
  have hs3 : z ≤ s.size := by omega
  have hd : (s.extract 2 z).data.toList = (s.data.toList.take 15).drop 2 := by
    rw [ByteArray.data_extract, Array.toList_extract, List.extract_eq_take_drop, hz, List.drop_take]
    rcases Nat.lt_or_ge s.size 15 with h5 | h5
    · rw [Nat.min_eq_left (by omega), List.take_of_length_le (by rw [List.length_drop]; omega), List.take_of_length_le (by rw [List.length_drop]; omega)]
    · rw [Nat.min_eq_right h5]
  rw [← hd] at h
  have HB := Lib.hid (base_any (s.extract 2 z) X N w (by rw [ByteArray.size_extract]; omega) h)
  rw [show hexS = ⟨#[48, 49, 50, 51, 52, 53, 54, 55, 56, 57, 97, 98, 99, 100, 101, 102]⟩ from rfl] at HB
  have hNi : 0 < (N : Int) := by omega
  clear h hd hl hN hz
  go_enter Tryz.func12, Tryz.ntmps12
  go_wp2_with fail
  refine (hP1.out _).mono ?_
  rintro e w1 ⟨rfl, rfl⟩
  rw [hp]
  clear hp hP1
  go_wp2_with fail
  refine HB.out.mono ?_
  rintro e w1 ⟨rfl, rfl⟩
  go_wp2_with fail
  go_ret2
  exact ⟨rfl, rfl⟩
end Go.Proofs.YtcmpdamfeoaapaaGreatDoor
