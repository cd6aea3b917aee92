/- Several texts in one (K13, K10, K12, K14). -/
import Derived.Test.YtcmpdamfeoaapaaGreatDoorM5
import Derived.Test.YtcmpdamfeoaapaaGreatDoorM4
section
/- Package num: base, and Literal of a base of sixteen. -/
namespace Go.Proofs.YtcmpdamfeoaapaaGreatDoor
open Go.RowKit
set_option linter.unusedVariables false

/-- the digits of base sixteen -/
def hexS : ByteArray := ⟨#[48, 49, 50, 51, 52, 53, 54, 55, 56, 57, 97, 98, 99, 100, 101, 102]⟩
/-- the digit that a byte is, or less than 0 -/
def hexD (c : UInt8) : Int := Lib.indexByte hexS.data.toList (c.toNat ||| 32).toUInt8
/-- the number of digits of base sixteen, and how many they are; none: an operation is not valid -/
def baseO : List UInt8 → Nat → Nat → Option (Nat × Nat)
  | [], x, n => some (x, n)
  | c :: l, x, n => if hexD c < 0 ∨ c.toNat < 48 then some (x, n) else
    (FloatKind.f64.format.mul x 4625196817309499392).bind fun y => (FloatKind.f64.format.add y (floatOfInt FloatKind.f64 (hexD c))).bind fun z => baseO l z (n + 1)

theorem indexByte_lt (l : List UInt8) (c : UInt8) : Lib.indexByte l c ≤ (l.length : Int) := by
  induction l with
  | nil => simp [Lib.indexByte]
  | cons b l ih =>
    unfold Lib.indexByte
    rw [List.length_cons]
    split
    · omega
    · split <;> omega
set_option maxRecDepth 100000 in
set_option maxHeartbeats 4000000 in
theorem base_any (s : ByteArray) (X N : Nat) (w : World) (hs : s.size ≤ 1000) (h : baseO s.data.toList 0 0 = some (X, N)) :
    Calls Tryz.prog 52 #[.string s, .string hexS, .int .i64 4] w fun e w' => e = .returned (.tuple #[.float .f64 X, .int .i64 N]) ∧ w = w' := by
  have HI := Lib.hid (fun c => Tryz.strings_IndexByte hexS c w)
  have e16 : floatOfInt FloatKind.f64 16 = 4625196817309499392 := by kernel_rfl
  generalize hS : hexS = S at *
  have HS := Lib.hid hS
  clear hS
  have H := Lib.hid h
  clear h
  go_enter Tryz.func52, Tryz.ntmps52
  go_wp2_with fail
  go_loop [8, 9] (fun xv nv => ∃ (x n : Nat), xv = .float .f64 x ∧ nv = .int .i64 n ∧ n ≤ s.size ∧ baseO (s.data.toList.drop n) x n = some (X, N)) (fun _ nv => s.size - (intOf nv).toNat)
  case atStart => exact ⟨0, 0, rfl, rfl, Nat.zero_le _, H.out⟩
  case round =>
    obtain ⟨x, n, rfl, rfl, h1, h2⟩ := hrel
    obtain ⟨sz, hsz⟩ : ∃ sz, sz = s.size := ⟨_, rfl⟩
    have hl : s.data.toList.length = s.size := (size_list s).symm
    rcases Nat.lt_or_ge n s.size with hn | hn
    · have hd : s.data.toList.drop n = s.data.toList[n]'(by omega) :: s.data.toList.drop (n + 1) := List.drop_eq_getElem_cons (by omega)
      have hc : s[n] = s.data.toList[n]'(by omega) := by
        apply at_list
        rw [List.getElem?_eq_getElem]
      rw [hd, ← hc] at h2
      generalize hC : s[n] = c at *
      have hcl : c.toNat < 256 := c.toNat_lt
      have b1 := u8_or_nat c.toNat 32 hcl (by decide)
      obtain ⟨o, ho⟩ : ∃ o, o = c.toNat ||| 32 := ⟨_, rfl⟩
      have b2 : bits .or .u8 (c.toNat : Int) 32 = (o : Int) := by rw [ho]; exact b1
      have HC := Lib.hid (HI.out (o : Int))
      have hx : Lib.indexByte S.data.toList ((o : Int).toNat.toUInt8) = hexD c := by
        unfold hexD; rw [HS.out, ho]; rfl
      rw [hx] at HC
      rw [baseO] at h2
      have hdb : -1 ≤ hexD c ∧ hexD c ≤ 16 := ⟨Lib.indexByte_ge _ _, indexByte_lt _ _⟩
      have hnI : (n : Int) < (s.size : Int) := by omega
      generalize hexD c = d at *
      clear hd hc b1 ho hx hl HI
      by_cases hb : d < 0 ∨ c.toNat < 48
      · rw [if_pos hb] at h2
        have h4 := Option.some.inj h2
        obtain ⟨rfl, rfl⟩ := Prod.mk.inj h4
        clear h2 h4
        rcases Int.lt_or_le d 0 with hd0 | hd0
        · go_wp2_with fail
          refine HC.out.mono ?_
          rintro e w1 ⟨rfl, rfl⟩
          go_wp2_with fail
          go_ret2
          exact ⟨rfl, rfl⟩
        · have hc48 : (c.toNat : Int) < 48 := by omega
          go_wp2_with fail
          refine HC.out.mono ?_
          rintro e w1 ⟨rfl, rfl⟩
          go_wp2_with fail
          go_ret2
          exact ⟨rfl, rfl⟩
      · rw [if_neg hb] at h2
        rw [Option.bind_eq_some_iff] at h2
        obtain ⟨y, h4, h5⟩ := h2
        rw [Option.bind_eq_some_iff] at h5
        obtain ⟨z, h6, h7⟩ := h5
        have H7 := Lib.hid h7
        have m1 : ∀ t w, (binOp .mul t (.float .f64 x) (.float .f64 4625196817309499392)).run Tryz.prog w = .ok (.float .f64 y) w := fun t w => run_float_arith w .mul t .f64 x _ y h4
        have m2 : ∀ t w, (binOp .add t (.float .f64 y) (.float .f64 (floatOfInt FloatKind.f64 d))).run Tryz.prog w = .ok (.float .f64 z) w := fun t w => run_float_arith w .add t .f64 y _ z h6
        have hd0 : 0 ≤ d := by omega
        have hc48 : 48 ≤ (c.toNat : Int) := by omega
        clear h4 h6 h7 hb
        go_wp2_with fail
        refine HC.out.mono ?_
        rintro e w1 ⟨rfl, rfl⟩
        go_wp2_with fail
        go_round
        case rel => exact ⟨z, n + 1, rfl, rfl, by omega, H7.out⟩
        case measure => simp only [intOf]; omega
    · have h3 : baseO (s.data.toList.drop n) x n = some (x, n) := by rw [List.drop_eq_nil_of_le (by omega)]; rfl
      rw [h3] at h2
      have h4 := Option.some.inj h2
      obtain ⟨rfl, rfl⟩ := Prod.mk.inj h4
      have hn2 : (s.size : Int) ≤ (n : Int) := by omega
      clear h2 h3 h4 hl
      go_wp2_with fail
      go_ret2
      exact ⟨rfl, rfl⟩

set_option maxRecDepth 100000 in
set_option maxHeartbeats 4000000 in
theorem Literal_hex (s : ByteArray) (X N : Nat) (w : World) (hs : s.size ≤ 1000000) (hp : Lib.hasPrefix s.data.toList [48, 120] = true) (h : baseO ((s.data.toList.take 15).drop 2) 0 0 = some (X, N)) (hN : 0 < N) (hN2 : N ≤ 1000) :
    Calls Tryz.prog 12 #[.string s] w fun e w' => e = .returned (.tuple #[.float .f64 X, .int .i64 (2 + (N : Int))]) ∧ w = w' := by
  have hP1 := Lib.hid (fun W => Tryz.strings_HasPrefix s ⟨#[48, 120]⟩ W)
  have hl : s.data.toList.length = s.size := (size_list s).symm
  have h2 : 2 ≤ s.size := by
    rw [← hl]
    unfold Lib.hasPrefix at hp
    have := (List.isPrefixOf_iff_prefix.1 hp).length_le
    simpa using this
  obtain ⟨z, hz⟩ : ∃ z, z = min s.size 15 := ⟨_, rfl⟩
  have hz2 : min (s.size : Int) 15 = (z : Int) := by omega
  have hs2 : 2 ≤ z := by omega
  have hs3 : z ≤ s.size := by omega
  have hd : (s.extract 2 z).data.toList = (s.data.toList.take 15).drop 2 := by
    rw [ByteArray.data_extract, Array.toList_extract, List.extract_eq_take_drop, hz, List.drop_take]
    rcases Nat.lt_or_ge s.size 15 with h5 | h5
    · rw [Nat.min_eq_left (by omega), List.take_of_length_le (by rw [List.length_drop]; omega), List.take_of_length_le (by rw [List.length_drop]; omega)]
    · rw [Nat.min_eq_right h5]
  rw [← hd] at h
  have HB := Lib.hid (base_any (s.extract 2 z) X N w (by rw [ByteArray.size_extract]; omega) h)
  rw [show hexS = ⟨#[48, 49, 50, 51, 52, 53, 54, 55, 56, 57, 97, 98, 99, 100, 101, 102]⟩ from rfl] at HB
  have hNi : 0 < (N : Int) := by omega
  clear h hd hl hN hz
  go_enter Tryz.func12, Tryz.ntmps12
  go_wp2_with fail
  refine (hP1.out _).mono ?_
  rintro e w1 ⟨rfl, rfl⟩
  rw [hp]
  clear hp hP1
  go_wp2_with fail
  refine HB.out.mono ?_
  rintro e w1 ⟨rfl, rfl⟩
  go_wp2_with fail
  go_ret2
  exact ⟨rfl, rfl⟩
end Go.Proofs.YtcmpdamfeoaapaaGreatDoor
end

section
/- Package num: Mod of finite floats. -/
namespace Go.Proofs.YtcmpdamfeoaapaaGreatDoor
open Go.RowKit
set_option linter.unusedVariables false

theorem ModR_self {x y : Nat} (hf : fin x = true) (h : vl (x % 9223372036854775808) < vl (y % 9223372036854775808)) : ModR x y x := by
  rw [← (mant_mod x).2.2] at hf
  have h2 := (fin_lt_inf (Nat.mod_lt _ (by decide))).1 hf
  exact ⟨x % 9223372036854775808, h2, by omega, by rw [Nat.mod_eq_of_lt h]⟩

set_option maxRecDepth 100000 in
set_option maxHeartbeats 4000000 in
theorem Mod_fin (x y : Nat) (w : World) (hx : x < 18446744073709551616) (hy : y < 18446744073709551616) (fx : fin x = true) (fy : fin y = true) (hn : mant y ≠ 0) :
    Calls Tryz.prog 32 #[.float .f64 x, .float .f64 y] w fun e w' => (∃ r, e = .returned (.float .f64 r) ∧ ModR x y r) ∧ w = w' := by
  have hP := Parts_any x w hx
  have hQ := Parts_any y w hy
  have fy2 := fy
  rw [← (mant_mod y).2.2] at fy2
  have hord : FloatKind.f64.format.order y y = some .eq := order_same hy ((fin_lt_inf (Nat.mod_lt _ (by decide))).1 fy2)
  have hordb : (FloatKind.f64.format.order y y != some .eq) = false := by rw [hord]; rfl
  obtain ⟨vx, px⟩ := vl_parts fx
  obtain ⟨vy, py⟩ := vl_parts fy
  have VX := Lib.hid vx
  have VY := Lib.hid vy
  have am := mant_lt x
  have bm := mant_lt y
  have ebx := expo_bounds (b := x)
  have eby := expo_bounds (b := y)
  have HS := Lib.hid (fun z hz => signed_any z x w hz hx)
  have HF := Lib.hid fx
  rw [fx] at hP
  rw [fy] at hQ
  clear vx vy fx fy fy2
  generalize mant x = a at *
  generalize mant y = b at *
  generalize expo x = p at *
  generalize expo y = q at *
  have HP := Lib.hid hP
  have HQ := Lib.hid hQ
  have hb0 : 0 < b := by omega
  have HX := Lib.hid hx
  have HY := Lib.hid hy
  clear hP hQ hn hx hy
  obtain ⟨A, hA⟩ : ∃ A : Int, A = (a : Int) := ⟨_, rfl⟩
  obtain ⟨Bi, hBi⟩ : ∃ Bi : Int, Bi = (b : Int) := ⟨_, rfl⟩
  have HA := Lib.hid hA
  have HBi := Lib.hid hBi
  rw [← hA] at HP
  rw [← hBi] at HQ
  have hB1 : 0 < Bi := by omega
  have hB2 : Bi < 9007199254740992 := by omega
  have hA1 : 0 ≤ A := by omega
  have hA2 : A < 9007199254740992 := by omega
  clear hA hBi
  have hB3 : (Bi == 0) = false := beq_eq_false_iff_ne.2 (by omega)
  go_enter Tryz.func32, Tryz.ntmps32
  go_wp2_with fail
  refine HP.out.mono ?_
  rintro e w1 ⟨rfl, rfl⟩
  go_wp2_with fail
  refine HQ.out.mono ?_
  rintro e w1 ⟨rfl, rfl⟩
  clear HP HQ
  have HB0 := Lib.hid hb0
  have HAM := Lib.hid am
  have HBM := Lib.hid bm
  clear hb0 am bm
  rcases Int.lt_or_le 0 A with h0 | h0
  · have h0b : (A == 0) = false := beq_eq_false_iff_ne.2 (by omega)
    go_wp2_with fail
    go_loop [8, 9] (fun bv qv => ∃ (b' : Nat) (q' : Int), bv = .int .u64 b' ∧ qv = .int .i64 q' ∧ 0 < b' ∧ b' < 18014398509481984 ∧ -1074 ≤ q' ∧ q' ≤ q ∧ (b' < 9007199254740992 ∨ p ≤ q') ∧ b' * 2 ^ (q' + 1074).toNat = b * 2 ^ (q + 1074).toNat) (fun _ qv => (intOf qv + 1074).toNat)
    case atStart => exact ⟨b, q, by rw [HBi.out], rfl, HB0.out, by have := HBM.out; omega, py, Int.le_refl _, .inl HBM.out, rfl⟩
    case round =>
      obtain ⟨b', q', rfl, rfl, h1, h2, h3, h4, h5, h6⟩ := hrel
      have H6 := Lib.hid h6
      have H1 := Lib.hid h1
      have H5 := Lib.hid h5
      clear h6
      obtain ⟨C, hC⟩ : ∃ C : Int, C = (b' : Int) := ⟨_, rfl⟩
      rw [← hC]
      have HC := Lib.hid hC
      have hC1 : 0 < C := by omega
      have hC2 : C < 18014398509481984 := by omega
      rcases Int.lt_or_le p q' with hq | hq
      · clear h1 h2 h5 hC
        rcases Int.lt_or_le A C with hg | hg
        · go_wp2_with fail
          go_ret
          refine ⟨⟨x, rfl, ModR_self HF.out ?_⟩, rfl⟩
          rw [← VX.out, ← VY.out, ← H6.out]
          have e1 := HA.out
          have e2 := HC.out
          have h7 : a < b' := by omega
          calc a * 2 ^ (p + 1074).toNat ≤ a * 2 ^ (q' + 1074).toNat := Nat.mul_le_mul_left _ (Nat.pow_le_pow_right (by decide) (by omega))
            _ < b' * 2 ^ (q' + 1074).toNat := Nat.mul_lt_mul_of_pos_right h7 (pow2_pos _)
        · have ek : IntKind.wrap .u64 (C * 2) = ((2 * b' : Nat) : Int) := by rw [IntKind.wrap_u64, HC.out]; have := HC.out; omega
          go_wp2_with fail
          go_round
          case rel =>
            refine ⟨2 * b', q' - 1, rfl, rfl, by have := H1.out; omega, by have := HC.out; omega, by omega, by omega, .inr (by omega), ?_⟩
            · rw [← H6.out, show (q' + 1074).toNat = (q' - 1 + 1074).toNat + 1 by omega, Nat.pow_succ 2]
              ac_rfl
          case measure => simp only [intOf]; omega
      · obtain ⟨a1, ha1⟩ : ∃ a1, a1 = a % b' := ⟨_, rfl⟩
        have eA : A % C = (a1 : Int) := by rw [HA.out, HC.out, ha1]; rfl
        have ha1l : a1 < b' := by rw [ha1]; exact Nat.mod_lt _ h1
        have ha1m : a1 ≤ a := by rw [ha1]; exact Nat.mod_le _ _
        have hrel1 : a1 % b' = a % b' := by rw [ha1, Nat.mod_mod]
        have HL := Lib.hid ha1l
        have HM := Lib.hid ha1m
        have HA1 := Lib.hid ha1
        obtain ⟨A1, hA1⟩ : ∃ A1 : Int, A1 = (a1 : Int) := ⟨_, rfl⟩
        have HAA := Lib.hid hA1
        rw [← hA1] at eA
        clear h1 h2 h5 hC hrel1 ha1l ha1m ha1 hA1
        go_wp2_with fail
        go_loop [5, 6] (fun av pv => ∃ (a' : Nat) (p' : Int), av = .int .u64 a' ∧ pv = .int .i64 p' ∧ a' < b' ∧ a' ≤ 9007199254740991 ∧ q' ≤ p' ∧ p' ≤ p ∧ (b' < 9007199254740992 ∨ p' ≤ q') ∧ (a' * 2 ^ (p' - q').toNat) % b' = (a * 2 ^ (p - q').toNat) % b') (fun _ pv => (intOf pv - q').toNat)
        case atStart =>
          have e1 := HM.out; have e2 := HAM.out; have e3 := H5.out
          refine ⟨a1, p, by rw [HAA.out], rfl, HL.out, by omega, hq, Int.le_refl _, ?_, ?_⟩
          · rcases e3 with e3 | e3
            · exact .inl e3
            · exact .inr e3
          · rw [HA1.out, Nat.mod_mul_mod]
        case round =>
          obtain ⟨a2, p2, rfl, rfl, g1, g2, g3, g4, g5, g6⟩ := hrel
          have G1 := Lib.hid g1
          have G6 := Lib.hid g6
          have G5 := Lib.hid g5
          obtain ⟨A2, hA2⟩ : ∃ A2 : Int, A2 = (a2 : Int) := ⟨_, rfl⟩
          have HA2 := Lib.hid hA2
          have k1 : 0 ≤ A2 := by omega
          have k2 : A2 ≤ 9007199254740991 := by omega
          rw [← hA2]
          rcases Int.lt_or_le q' p2 with hp | hp
          · obtain ⟨a3, ha3⟩ : ∃ a3, a3 = 2 * a2 % b' := ⟨_, rfl⟩
            have g5' : b' < 9007199254740992 := by omega
            have eR : A2 * 2 % C = (a3 : Int) := by rw [HA2.out, HC.out, ha3, Int.natCast_emod, Int.natCast_mul, Int.mul_comm]; rfl
            have hl3 : a3 < b' := by rw [ha3]; exact Nat.mod_lt _ (by omega)
            have HA3 := Lib.hid ha3
            have HL3 := Lib.hid hl3
            have HG5 := Lib.hid g5'
            have HR := Lib.hid eR
            clear g1 g5 g6 hA2 ha3 hl3 g5' eR
            go_wp2_with fail
            go_round
            case rel =>
              refine ⟨a3, p2 - 1, by rw [HR.out], rfl, HL3.out, ?_, by omega, by omega, .inl HG5.out, ?_⟩
              · have e1 := HL3.out; have e2 := HG5.out; omega
              · rw [HA3.out, Nat.mod_mul_mod, ← G6.out, show (p2 - q').toNat = (p2 - 1 - q').toNat + 1 by omega, Nat.pow_succ 2]
                congr 1
                ac_rfl
            case measure => simp only [intOf]; omega
          · have hpe : p2 = q' := by omega
            have g6' : a2 = a * 2 ^ (p - q').toNat % b' := by rw [← g6, hpe, Int.sub_self]; simp [Nat.mod_eq_of_lt g1]
            have HBd := Lib.hid (build_any a2 q' w (by omega) (by omega) (by omega))
            rw [← hA2] at HBd
            have HG := Lib.hid g6'
            clear g1 g5 g6 hA2 g6'
            go_wp2_with fail
            refine HBd.out.mono ?_
            rintro e w1 ⟨⟨B, rfl, hB, hv⟩, rfl⟩
            have HB := Lib.hid hB
            have HV := Lib.hid hv
            have HSB := Lib.hid (HS.out B (by omega))
            clear hB hv
            go_wp2_with fail
            refine HSB.out.mono ?_
            rintro e w1 ⟨rfl, rfl⟩
            go_wp2_with fail
            go_ret
            refine ⟨⟨_, rfl, B, HB.out, rfl, ?_⟩, rfl⟩
            rw [HV.out, HG.out, ← VX.out, ← VY.out, ← H6.out, ← Nat.mul_mod_mul_right, Nat.mul_assoc, ← Nat.pow_add]
            congr 4
            omega
  · have h0b : A = 0 := by omega
    subst h0b
    go_wp2_with fail
    go_ret
    refine ⟨⟨x, rfl, ModR_self HF.out ?_⟩, rfl⟩
    have h1 := HA.out
    have h2 : a = 0 := by omega
    rw [← VX.out, ← VY.out, h2, Nat.zero_mul]
    exact Nat.mul_pos HB0.out (pow2_pos _)
end Go.Proofs.YtcmpdamfeoaapaaGreatDoor
end

section
/- Package num: Mod where there is none, and of an infinite divisor. -/
namespace Go.Proofs.YtcmpdamfeoaapaaGreatDoor
open Go.RowKit
set_option linter.unusedVariables false

/-- is there no rest? -/
def modBad (x y : Nat) : Bool := !(fin x) || (FloatKind.f64.format.order y y != some .eq || (fin y && (mant y == 0)))

theorem NaN_any (w : World) : Calls Tryz.prog 71 #[] w fun e w' => e = .returned (.float .f64 9221120237041090561) ∧ w = w' := by
  go_enter Tryz.func71, Tryz.ntmps71
  go_wp2_with fail
  go_ret
  exact ⟨rfl, rfl⟩

set_option maxRecDepth 100000 in
set_option maxHeartbeats 4000000 in
theorem Mod_bad (x y : Nat) (w : World) (hx : x < 18446744073709551616) (hy : y < 18446744073709551616) (h : modBad x y = true) :
    Calls Tryz.prog 32 #[.float .f64 x, .float .f64 y] w fun e w' => e = .returned (.float .f64 9221120237041090561) ∧ w = w' := by
  have HP := Lib.hid (Parts_any x w hx)
  have HQ := Lib.hid (Parts_any y w hy)
  have HN := Lib.hid (NaN_any w)
  unfold modBad at h
  have eb : ((mant y : Int) == 0) = (mant y == 0) := by
    by_cases hm : mant y = 0
    · rw [hm]; rfl
    · rw [beq_eq_false_iff_ne.2 hm, beq_eq_false_iff_ne.2 (by omega)]
  clear hx hy
  generalize mant x = a at *
  generalize mant y = b at *
  generalize expo x = p at *
  generalize expo y = q at *
  generalize fin x = f at *
  generalize fin y = g at *
  obtain ⟨Bi, hBi⟩ : ∃ Bi : Int, Bi = (b : Int) := ⟨_, rfl⟩
  rw [← hBi] at HQ eb
  clear hBi
  cases f
  · clear h
    go_enter Tryz.func32, Tryz.ntmps32
    go_wp2_with fail
    refine HP.out.mono ?_
    rintro e w1 ⟨rfl, rfl⟩
    go_wp2_with fail
    refine HQ.out.mono ?_
    rintro e w1 ⟨rfl, rfl⟩
    go_wp2_with fail
    refine HN.out.mono ?_
    rintro e w1 ⟨rfl, rfl⟩
    go_wp2_with fail
    go_ret
    exact ⟨rfl, rfl⟩
  · rcases ho : (FloatKind.f64.format.order y y != some .eq) with _ | _
    · rw [ho] at h
      have ho2 : FloatKind.f64.format.order y y = some .eq := by simpa using ho
      have h2 : g = true ∧ (Bi == 0) = true := by rw [eb]; simpa using h
      obtain ⟨rfl, h3⟩ := h2
      have h4 : Bi = 0 := by simpa using h3
      subst h4
      clear h eb h3
      go_enter Tryz.func32, Tryz.ntmps32
      go_wp2_with fail
      refine HP.out.mono ?_
      rintro e w1 ⟨rfl, rfl⟩
      go_wp2_with fail
      refine HQ.out.mono ?_
      rintro e w1 ⟨rfl, rfl⟩
      go_wp2_with fail
      refine HN.out.mono ?_
      rintro e w1 ⟨rfl, rfl⟩
      go_wp2_with fail
      go_ret
      exact ⟨rfl, rfl⟩
    · clear h eb
      go_enter Tryz.func32, Tryz.ntmps32
      go_wp2_with fail
      refine HP.out.mono ?_
      rintro e w1 ⟨rfl, rfl⟩
      go_wp2_with fail
      refine HQ.out.mono ?_
      rintro e w1 ⟨rfl, rfl⟩
      go_wp2_with fail
      refine HN.out.mono ?_
      rintro e w1 ⟨rfl, rfl⟩
      go_wp2_with fail
      go_ret
      exact ⟨rfl, rfl⟩
end Go.Proofs.YtcmpdamfeoaapaaGreatDoor
end

section
/- The document's example of package num. -/
namespace Go.Proofs.YtcmpdamfeoaapaaGreatDoor
open Go.RowKit
set_option linter.unusedVariables false

theorem ex_prefB : prefB [32, 32, 45, 49, 50, 46, 53, 101, 49, 107, 103] = 13861868546813853696 := by kernel_rfl
theorem ex_prefN : prefN [32, 32, 45, 49, 50, 46, 53, 101, 49, 107, 103] = 9 := by kernel_rfl
theorem ex_base : baseO [49, 70, 103] 0 0 = some (4629418941960159232, 2) := by kernel_rfl
theorem ex_looks1 : looksL [32, 51, 32] = true := by kernel_rfl
theorem ex_looks2 : looksL [51, 120] = false := by kernel_rfl
theorem ex_whole : wholeOk 14054727237768577024 = true := by kernel_rfl
theorem ex_digits : scaledN 14054727237768577024 0 = 1000000000000000 := by kernel_rfl
theorem ex_rest : vl 4619567317775286272 % vl 4613937818241073152 = vl 4607182418800017408 := Nat.eq_of_beq_eq_true (by kernel_rfl)

theorem Prefix_ex (w : World) : Calls Tryz.prog 10 #[.string ⟨#[32, 32, 45, 49, 50, 46, 53, 101, 49, 107, 103]⟩] w fun e w' => e = .returned (.tuple #[.float .f64 13861868546813853696, .int .i64 9]) ∧ Below w.heap.size w w' := by
  have h := Prefix_any ⟨#[32, 32, 45, 49, 50, 46, 53, 101, 49, 107, 103]⟩ w (by decide)
  rw [show (⟨#[32, 32, 45, 49, 50, 46, 53, 101, 49, 107, 103]⟩ : ByteArray).data.toList = [32, 32, 45, 49, 50, 46, 53, 101, 49, 107, 103] from rfl, ex_prefB, ex_prefN] at h
  exact h
theorem Looks_ex1 (w : World) : Calls Tryz.prog 15 #[.string ⟨#[32, 51, 32]⟩] w fun e w' => e = .returned (.bool true) ∧ Below w.heap.size w w' := by
  have h := Looks_any ⟨#[32, 51, 32]⟩ w (by decide)
  rw [show (⟨#[32, 51, 32]⟩ : ByteArray).data.toList = [32, 51, 32] from rfl, ex_looks1] at h
  exact h
theorem Looks_ex2 (w : World) : Calls Tryz.prog 15 #[.string ⟨#[51, 120]⟩] w fun e w' => e = .returned (.bool false) ∧ Below w.heap.size w w' := by
  have h := Looks_any ⟨#[51, 120]⟩ w (by decide)
  rw [show (⟨#[51, 120]⟩ : ByteArray).data.toList = [51, 120] from rfl, ex_looks2] at h
  exact h
theorem Literal_ex (w : World) : Calls Tryz.prog 12 #[.string ⟨#[48, 120, 49, 70, 103]⟩] w fun e w' => e = .returned (.tuple #[.float .f64 4629418941960159232, .int .i64 4]) ∧ w = w' :=
  Literal_hex ⟨#[48, 120, 49, 70, 103]⟩ 4629418941960159232 2 w (by decide) (by decide) ex_base (by decide) (by decide)
theorem Whole_ex (w : World) : Calls Tryz.prog 26 #[.float .f64 14054727237768577024] w fun e w' => e = .returned (.tuple #[.string ⟨#[45, 49, 48, 48, 48, 48, 48, 48, 48, 48, 48, 48, 48, 48, 48, 48, 48]⟩, .bool true]) ∧ Below w.heap.size w w' := by
  refine (Whole_yes 14054727237768577024 w (by decide) ex_whole).mono ?_
  rintro e w' ⟨s, rfl, ⟨l, hc, hs⟩, hb⟩
  rw [ex_digits] at hc
  have hl := canon_unique hc (canon_mk (l := [49, 48, 48, 48, 48, 48, 48, 48, 48, 48, 48, 48, 48, 48, 48, 48]) (by decide) (by simp) (by decide) (.inr (by decide)))
  rw [if_pos (by kernel_rfl), hl] at hs
  rw [toBytes hs]
  exact ⟨rfl, hb⟩
theorem Mod_ex (w : World) : Calls Tryz.prog 32 #[.float .f64 13842939354630062080, .float .f64 4613937818241073152] w fun e w' => e = .returned (.float .f64 13830554455654793216) ∧ w = w' := by
  refine (Mod_fin 13842939354630062080 4613937818241073152 w (by decide) (by decide) (by decide) (by decide) (by decide)).mono ?_
  rintro e w' ⟨⟨r, rfl, B, hB, hr, hv⟩, rfl⟩
  have h1 : 13842939354630062080 % 9223372036854775808 = 4619567317775286272 := by decide
  have h2 : 4613937818241073152 % 9223372036854775808 = 4613937818241073152 := by decide
  have h3 : 13842939354630062080 / 9223372036854775808 = 1 := by decide
  rw [h1, h2, ex_rest] at hv
  rw [h3, vl_inj hv] at hr
  rw [hr]
  exact ⟨rfl, rfl⟩

set_option maxRecDepth 100000 in
set_option maxHeartbeats 2000000 in
theorem fixed4_any (w : World) : Calls Tryz.prog 9 #[] w fun e w' => e = .returned (.bool true) ∧ Below w.heap.size w w' := by
  have o1 : FloatKind.f64.format.order 13861868546813853696 13861868546813853696 = some .eq := by kernel_rfl
  have o2 : FloatKind.f64.format.order 4629418941960159232 4629418941960159232 = some .eq := by kernel_rfl
  have o3 : FloatKind.f64.format.order 13830554455654793216 13830554455654793216 = some .eq := by kernel_rfl
  go_enter Tryz.func9, Tryz.ntmps9
  go_wp2_with fail
  refine (Prefix_ex w).mono ?_
  rintro e w1 ⟨rfl, hb1⟩
  have HB1 := Lib.hid hb1
  have hs1 := hb1.size
  clear hb1
  go_wp2_with fail
  refine (Literal_ex _).mono ?_
  rintro e w2 ⟨rfl, rfl⟩
  go_wp2_with fail
  refine (Whole_ex _).mono ?_
  rintro e w2 ⟨rfl, hb2⟩
  have HB2 := Lib.hid (HB1.out.trans (hb2.mono hs1))
  have hs2 := hb2.size
  clear hb2 HB1
  go_wp2_with fail
  refine (Mod_ex _).mono ?_
  rintro e w3 ⟨rfl, rfl⟩
  go_wp2_with fail
  refine (Looks_ex1 _).mono ?_
  rintro e w3 ⟨rfl, hb3⟩
  have HB3 := Lib.hid (HB2.out.trans (hb3.mono (by omega)))
  have hs3 := hb3.size
  clear hb3 HB2
  go_wp2_with fail
  refine (Looks_ex2 _).mono ?_
  rintro e w4 ⟨rfl, hb4⟩
  have HB4 := Lib.hid (HB3.out.trans (hb4.mono (by omega)))
  clear hb4 HB3
  go_wp2_with fail
  go_ret
  exact ⟨rfl, HB4.out⟩
end Go.Proofs.YtcmpdamfeoaapaaGreatDoor
end
