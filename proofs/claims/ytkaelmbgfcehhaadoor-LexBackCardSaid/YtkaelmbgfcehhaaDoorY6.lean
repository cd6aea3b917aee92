/- Package lex: digits. -/
import Derived.Test.YtkaelmbgfcehhaaDoorM4
import Derived.Test.YtkaelmbgfcehhaaDoorM5
set_option linter.unusedVariables false
set_option linter.unusedSimpArgs false
namespace Go.Proofs.YtkaelmbgfcehhaaDoor
open Go.RowKit
set_option linter.unusedVariables false
set_option linter.unusedSimpArgs false

/-- is it a digit of a base? -/
def digOk (base : Nat) (c : UInt8) : Bool := decide (48 ≤ c.toNat) && decide (0 ≤ hexD c) && decide (hexD c < (base : Int))
/-- the digits of a base that stand at hand, so many at most -/
def digsR (base : Nat) : Nat → List UInt8 → List Nat
  | 0, _ => []
  | _, [] => []
  | n + 1, c :: T => if digOk base c then (hexD c).toNat :: digsR base n T else []
theorem digsR_nil (base n : Nat) : digsR base n [] = [] := by cases n <;> rfl
theorem dig_table : ∀ n : Fin 256, digOk 8 (UInt8.ofNat n.val) = (decide (48 ≤ n.val) && decide (n.val ≤ 55)) ∧ (digOk 8 (UInt8.ofNat n.val) = true → hexD (UInt8.ofNat n.val) = (n.val : Int) - 48) ∧
    (hexC (UInt8.ofNat n.val) = if digOk 16 (UInt8.ofNat n.val) then some (hexD (UInt8.ofNat n.val)).toNat else none) := by decide +kernel
theorem dig_tab (c : UInt8) : digOk 8 c = (decide (48 ≤ c.toNat) && decide (c.toNat ≤ 55)) ∧ (digOk 8 c = true → hexD c = (c.toNat : Int) - 48) ∧ (hexC c = if digOk 16 c then some (hexD c).toNat else none) := by
  have h := dig_table ⟨c.toNat, c.toNat_lt⟩
  simpa using h
theorem digsR_len (base : Nat) : ∀ (n : Nat) (R : List UInt8), (digsR base n R).length ≤ n ∧ (digsR base n R).length ≤ R.length
  | 0, R => by simp [digsR]
  | n + 1, [] => by simp [digsR]
  | n + 1, c :: T => by
    have := digsR_len base n T
    unfold digsR
    split
    · simp only [List.length_cons]; omega
    · simp
theorem octs_digs (n : Nat) : ∀ (k : Nat) (R : List UInt8) (v : Nat), ((R.take k).takeWhile fun c => decide (48 ≤ c.toNat) && decide (c.toNat ≤ 55)).length = (digsR 8 k R).length ∧
    ((R.take k).takeWhile fun c => decide (48 ≤ c.toNat) && decide (c.toNat ≤ 55)).foldl (fun v c => 8 * v + (c.toNat - 48)) v = (digsR 8 k R).foldl (fun v d => 8 * v + d) v
  | 0, R, v => by simp [digsR]
  | k + 1, [], v => by simp [digsR]
  | k + 1, c :: T, v => by
    rw [List.take_succ_cons, List.takeWhile_cons, ← (dig_tab c).1]
    unfold digsR
    cases hc : digOk 8 c with
    | false => exact ⟨rfl, rfl⟩
    | true =>
      have h1 := (dig_tab c).2.1 hc
      have h2 := octs_digs n k T (8 * v + (c.toNat - 48))
      have e : (hexD c).toNat = c.toNat - 48 := by rw [h1]; omega
      rw [if_pos rfl, if_pos rfl, List.length_cons, List.length_cons, List.foldl_cons, List.foldl_cons, e]
      exact ⟨by rw [h2.1], h2.2⟩
theorem hexs_digs : ∀ (k : Nat) (R : List UInt8), (((R.take k).map hexC).takeWhile Option.isSome |>.filterMap id) = digsR 16 k R
  | 0, R => by simp [digsR]
  | k + 1, [] => by simp [digsR]
  | k + 1, c :: T => by
    have ih := hexs_digs k T
    rw [List.take_succ_cons, List.map_cons, List.takeWhile_cons, (dig_tab c).2.2]
    unfold digsR
    cases hc : digOk 16 c with
    | false => rfl
    | true =>
      rw [if_pos rfl, if_pos rfl, if_pos (by rfl)]
      simpa using ih
theorem digsR_lt (base : Nat) : ∀ (n : Nat) (R : List UInt8), ∀ d ∈ digsR base n R, d < base
  | 0, R, d, h => by cases h
  | n + 1, [], d, h => by cases h
  | n + 1, c :: T, d, h => by
    unfold digsR at h
    cases hc : digOk base c with
    | false => rw [hc] at h; cases h
    | true =>
      rw [hc, if_pos rfl] at h
      rcases List.mem_cons.1 h with rfl | h
      · simp [digOk] at hc; omega
      · exact digsR_lt base n T d h
theorem Apart.sc {w w' : World} {b q : Nat} (h : Apart [b] w w') (v : Value) : Apart [b] w (w'.setCell ⟨b, q, none⟩ v) := h.setCell ⟨b, q, none⟩ (.inl (by simp)) v
theorem Apart.drewN {S : List Nat} {a w : World} (h : Apart S a w) (n : Nat) : Apart S a (w.drewN n) := ⟨h.os, h.tape, h.output, h.size, h.block⟩
theorem Below.drew3 (w : World) (i j k : Nat) : Below w.heap.size w (((w.drewN i).drewN j).drewN k) := (((Below.refl _ w).drewN i).drewN j).drewN k
theorem Apart.d3 {S : List Nat} {a w : World} (h : Apart S a w) (i j k : Nat) : Apart S a (((w.drewN i).drewN j).drewN k) := ((h.drewN i).drewN j).drewN k
set_option maxRecDepth 100000 in
set_option maxHeartbeats 16000000 in
theorem lexDigits_any (D b : Nat) (s : ByteArray) (p l : Nat) (v : Value) (LT : List TokT) (most base : Nat) (w : World) (h : Sc w D b s p l v LT) (hp : p ≤ s.size) (hs : s.size ≤ 100000) (hmost : most ≤ 3) (hbase : base ≤ 16) (hbase1 : 1 ≤ base) :
    Calls Tryd.prog 43 #[.pointer (some ⟨b, 0, none⟩), .int .i64 (most : Int), .int .i64 (base : Int)] w fun e w' =>
      e = .returned (.tuple #[.int .i64 (((digsR base most (s.data.toList.drop p)).foldl (fun v d => base * v + d) 0 : Nat) : Int), .int .i64 ((digsR base most (s.data.toList.drop p)).length : Nat)]) ∧
      Sc w' D b s (p + (digsR base most (s.data.toList.drop p)).length) l v LT ∧ Apart [b] w w' := by
  have HIx := Lib.hid (fun c W => Tryd.strings_IndexByte hexS c W)
  have hmI : (most : Int) ≤ 3 := by omega
  have hbI : (base : Int) ≤ 16 := by omega
  have H0 := Lib.hid h
  obtain ⟨V, hV⟩ : ∃ V, V = (digsR base most (s.data.toList.drop p)).foldl (fun v d => base * v + d) 0 := ⟨_, rfl⟩
  obtain ⟨N, hN⟩ : ∃ N, N = (digsR base most (s.data.toList.drop p)).length := ⟨_, rfl⟩
  have HV : Hid (V = (digsR base most (s.data.toList.drop p)).foldl (fun v d => base * v + d) 0) := hV
  have HN : Hid (N = (digsR base most (s.data.toList.drop p)).length) := hN
  rw [← hV, ← hN]
  clear hV hN h
  go_enter Tryd.func43, Tryd.ntmps43
  go_wp2_with fail
  go_loopw [8, 9] (fun xv nv wr => ∃ (x n : Nat), xv = .int .i64 (x : Int) ∧ nv = .int .i64 (n : Int) ∧ n ≤ most ∧ x < 16 ^ n ∧ Hid (V = (digsR base (most - n) (s.data.toList.drop (p + n))).foldl (fun v d => base * v + d) x) ∧ Hid (N = n + (digsR base (most - n) (s.data.toList.drop (p + n))).length) ∧ p + n ≤ s.size ∧ Hid (Sc wr D b s (p + n) l v LT) ∧ Hid (Apart [b] w wr))
    (fun _ nv _ => most - (intOf nv).toNat)
  case atStart => exact ⟨0, 0, rfl, rfl, Nat.zero_le _, by decide, HV.out, by show _ = _; rw [HN.out]; simp, hp, H0.out, Apart.refl _ _⟩
  case round =>
    obtain ⟨x, n, rfl, rfl, hn, hx, HVr, HNr, hpn, HSr, HAr⟩ := hrel
    obtain ⟨q, hq⟩ : ∃ q, q = p + n := ⟨_, rfl⟩
    have HQ := Lib.hid hq
    rw [← hq] at hpn HVr HNr HSr
    clear hq
    have c0 := HSr.out.c0
    have c1 := HSr.out.c1
    have f1 := HSr.out.f 1
    by_cases hlt : n < most
    · have hI1 : (n : Int) < (most : Int) := by omega
      have hnI : (n : Int) ≤ 2 := by omega
      by_cases hqs : q < s.size
      · have hI2 : (q : Int) < (s.size : Int) := by omega
        have hd := drop_byte hqs
        obtain ⟨k, hk⟩ : ∃ k, most - n = k + 1 := ⟨most - n - 1, by omega⟩
        have hVr := HVr.out
        have hNr := HNr.out
        rw [hk, hd] at hVr hNr
        unfold digsR at hVr hNr
        generalize hC : s[q] = c at *
        have hcl : c.toNat < 256 := c.toNat_lt
        have b1 := u8_or_nat c.toNat 32 hcl (by decide)
        obtain ⟨o, ho⟩ : ∃ o, o = c.toNat ||| 32 := ⟨_, rfl⟩
        have b2 : bits .or .u8 (c.toNat : Int) 32 = (o : Int) := by rw [ho]; exact b1
        have hC1 := fun W => HIx.out (o : Int) W
        have hx1 : Lib.indexByte hexS.data.toList ((o : Int).toNat.toUInt8) = hexD c := by unfold hexD; rw [ho]; rfl
        simp only [hx1] at hC1
        have HC := Lib.hid hC1
        have hdb : -1 ≤ hexD c ∧ hexD c ≤ 16 := ⟨Lib.indexByte_ge _ _, indexByte_lt _ _⟩
        have hok : digOk base c = (decide (48 ≤ c.toNat) && decide (0 ≤ hexD c) && decide (hexD c < (base : Int))) := rfl
        generalize hexD c = d at *
        generalize hcn : c.toNat = cn at *
        generalize digOk base c = ok at *
        have hqI : (q : Int) ≤ 100000 := by omega
        clear b1 ho hx1 hC1 hd HIx
        by_cases h48 : cn < 48
        · have g1 : (cn : Int) < 48 := by omega
          have hz : ok = false := by rw [hok, decide_eq_false (by omega)]; rfl
          rw [hz, if_neg Bool.false_ne_true] at hVr hNr
          obtain rfl : V = x := hVr
          obtain rfl : N = n := hNr
          clear hok HVr HNr
          go_wp2_with fail
          go_quiet (fail)
          go_wp2_with fail
          go_quiet (exact quiet_add (HC.out _))
          go_wp2_with fail
          go_quiet (fail)
          go_wp2_with fail
          go_ret2
          exact ⟨rfl, HQ.out ▸ HSr.out.below (Below.drew3 _ _ _ _), HAr.out.d3 _ _ _⟩
        have g1 : (48 : Int) ≤ (cn : Int) := by omega
        have g1d : decide ((cn : Int) < 48) = false := decide_eq_false (by omega)
        by_cases hd0 : d < 0
        · have hz : ok = false := by rw [hok, decide_eq_false (by omega : ¬ 0 ≤ d)]; simp
          rw [hz, if_neg Bool.false_ne_true] at hVr hNr
          obtain rfl : V = x := hVr
          obtain rfl : N = n := hNr
          clear hok HVr HNr
          go_wp2_with fail
          go_quiet (fail)
          go_wp2_with fail
          go_quiet (exact quiet_add (HC.out _))
          go_wp2_with fail
          go_quiet (fail)
          go_wp2_with fail
          go_ret2
          exact ⟨rfl, HQ.out ▸ HSr.out.below (Below.drew3 _ _ _ _), HAr.out.d3 _ _ _⟩
        have g2d : decide (d < 0) = false := decide_eq_false hd0
        obtain ⟨dn, rfl⟩ : ∃ dn : Nat, d = (dn : Int) := ⟨d.toNat, by omega⟩
        by_cases hdb2 : base ≤ dn
        · have g3 : (base : Int) ≤ (dn : Int) := by omega
          have hz : ok = false := by rw [hok, decide_eq_false (by omega : ¬ (dn : Int) < (base : Int))]; simp
          rw [hz, if_neg Bool.false_ne_true] at hVr hNr
          obtain rfl : V = x := hVr
          obtain rfl : N = n := hNr
          clear hok HVr HNr
          go_wp2_with fail
          go_quiet (fail)
          go_wp2_with fail
          go_quiet (exact quiet_add (HC.out _))
          go_wp2_with fail
          go_quiet (fail)
          go_wp2_with fail
          go_ret2
          exact ⟨rfl, HQ.out ▸ HSr.out.below (Below.drew3 _ _ _ _), HAr.out.d3 _ _ _⟩
        have g3 : (dn : Int) < (base : Int) := by omega
        have g3d : decide ((base : Int) ≤ (dn : Int)) = false := decide_eq_false (by omega)
        have hz : ok = true := by rw [hok, decide_eq_true (by omega : 48 ≤ cn), decide_eq_true (by omega : 0 ≤ (dn : Int)), decide_eq_true g3]; rfl
        rw [hz, if_pos rfl] at hVr hNr
        have hp16 : 16 ^ n ≤ 256 := Nat.pow_le_pow_right (n := 16) (by decide) (by omega : n ≤ 2)
        have hxB : base * x ≤ 4096 := Nat.le_trans (Nat.mul_le_mul hbase (by omega : x ≤ 256)) (by decide)
        have hnx : base * x + dn < 16 ^ (n + 1) := by
          have h1 : base * x + base ≤ 16 * (x + 1) := by have := Nat.mul_le_mul hbase (Nat.le_refl (x + 1)); rw [Nat.mul_add] at this; simpa using this
          have h2 : 16 * (x + 1) ≤ 16 * 16 ^ n := Nat.mul_le_mul_left _ (by omega)
          rw [Nat.pow_succ]
          omega
        have HVn : Hid (V = (digsR base (most - (n + 1)) (s.data.toList.drop (q + 1))).foldl (fun v d => base * v + d) (base * x + dn)) := by
          show _ = _
          rw [hVr, List.foldl_cons, show most - (n + 1) = k by omega]
          rfl
        have HNn : Hid (N = n + 1 + (digsR base (most - (n + 1)) (s.data.toList.drop (q + 1))).length) := by
          show _ = _
          rw [hNr, List.length_cons, show most - (n + 1) = k by omega]
          omega
        have hkz : n + 1 ≤ most := by omega
        clear hVr hNr HVr HNr hok hk hz
        obtain ⟨m, hm⟩ : ∃ m, m = base * x := ⟨_, rfl⟩
        have em : (base : Int) * (x : Int) = (m : Int) := by rw [hm]; simp
        have ew := wrapN m (by omega)
        rw [← hm] at hnx HVn hxB
        obtain ⟨y, hy⟩ : ∃ y, y = m + dn := ⟨_, rfl⟩
        have ey : (m : Int) + (dn : Int) = (y : Int) := by omega
        have eyw := wrapN y (by omega)
        rw [← hy] at hnx HVn
        have HQ1 : Hid (q + 1 = p + (n + 1)) := by have := HQ.out; show _ = _; omega
        obtain ⟨n1, hn1⟩ : ∃ n1, n1 = n + 1 := ⟨_, rfl⟩
        have en : (n : Int) + 1 = (n1 : Int) := by omega
        have enw := wrapN n1 (by omega)
        obtain ⟨q1, hq1⟩ : ∃ q1, q1 = q + 1 := ⟨_, rfl⟩
        have eq1 : (q : Int) + 1 = (q1 : Int) := by omega
        have eqw := wrapN q1 (by omega)
        rw [← hn1] at hnx HVn HNn HQ1 hkz
        rw [← hq1] at HVn HNn HQ1
        have hms : most - n1 < most - n := by omega
        have HMS := Lib.hid hms
        have hqz : q1 ≤ s.size := by omega
        clear hm hy hn1 hq1 hms hx hxB hp16
        go_wp2_with fail
        go_quiet (fail)
        go_wp2_with fail
        go_quiet (exact quiet_add (HC.out _))
        go_wp2_with fail
        go_quiet (fail)
        go_wp2_with fail
        go_roundw
        case rel =>
          rw [HQ1.out] at HVn HNn
          exact ⟨y, n1, rfl, rfl, hkz, hnx, HVn, HNn, by have := HQ1.out; omega, HQ1.out ▸ (HSr.out.drewN _).setAt q1, (HAr.out.drewN _).sc _⟩
        case measure => simp only [intOf]; have := HMS.out; omega
      · have hge : s.size ≤ q := by omega
        have hI2 : (s.size : Int) ≤ (q : Int) := by omega
        have hI3 : decide ((q : Int) < (s.size : Int)) = false := decide_eq_false (by omega)
        have hnil : s.data.toList.drop q = [] := List.drop_eq_nil_of_le (by rw [← size_list]; exact hge)
        have hVr := HVr.out
        have hNr := HNr.out
        rw [hnil, digsR_nil] at hVr hNr
        obtain rfl : V = x := hVr
        obtain rfl : N = n := hNr
        clear hnil HVr HNr
        go_wp2_with fail
        go_quiet (fail)
        go_wp2_with fail
        go_ret2
        exact ⟨rfl, HQ.out ▸ HSr.out.drewN _, HAr.out.drewN _⟩
    · have hge : (most : Int) ≤ (n : Int) := by omega
      have hI1 : decide ((n : Int) < (most : Int)) = false := decide_eq_false (by omega)
      have hVr := HVr.out
      have hNr := HNr.out
      rw [show most - n = 0 by omega] at hVr hNr
      obtain rfl : V = x := hVr
      obtain rfl : N = n := hNr
      clear HVr HNr
      go_wp2_with fail
      go_quiet (fail)
      go_wp2_with fail
      go_ret2
      exact ⟨rfl, HQ.out ▸ HSr.out.drewN _, HAr.out.drewN _⟩
end Go.Proofs.YtkaelmbgfcehhaaDoor
