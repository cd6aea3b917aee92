/- The document's numbers (thresherref02): Small, Add. -/
import Derived.Test.YtcmpdamfeoaapaaGreatDoorQ1
namespace Go.Proofs.YtcmpdamfeoaapaaGreatDoor
open Go.RowKit
set_option linter.unusedVariables false

theorem Own4.numV {w : World} {base : Nat} {v : Value} {n : Nat} (h : Own4 w base v (lim4 n)) : NumV w v n := h.li4
/-- the noughts at the top struck off -/
theorem Own4.trimmed {w : World} {n : Nat} {a : Option Addr} {c : Nat} {L : List Nat} (h : Li4 w a c L) (hv : val4 L = n) : NumV w (.slice a (trimL L).length c) n := by
  have e : trimL L = lim4 n := by rw [trimL_lim4 _ h.lt, hv]
  have h1 := h.take (trimL L).length
  rw [← trimL_prefix, e] at h1
  rw [e]
  exact ⟨a, c, rfl, h1⟩

set_option maxRecDepth 100000 in
set_option maxHeartbeats 2000000 in
theorem Small_any (n : Nat) (w : World) (hn : n < 9223372036854775808) :
    Calls Tryz.prog 74 #[.int .i64 (n : Int)] w fun e w' => ∃ v, e = .returned v ∧ NumV w' v n ∧ Below w.heap.size w w' := by
  have hl5 : (lim4 n).length ≤ 5 := lim4_length_le (Nat.lt_trans hn (by decide))
  have hn2 : (n : Int) < 9223372036854775808 := by omega
  go_enter Tryz.func74, Tryz.ntmps74
  go_wp2_with fail
  go_loopw [0, 3] (fun x o wr => ∃ (r : Nat) (L : List Nat), x = .int .i64 (r : Int) ∧ r < 9223372036854775808 ∧ L.length ≤ 5 ∧ Hid (L ++ lim4 r = lim4 n) ∧ Hid (Own4 wr w.heap.size o L) ∧ Hid (Below w.heap.size w wr)) (fun x _ _ => (intOf x).toNat)
  case atStart => exact ⟨n, [], rfl, hn, Nat.zero_le _, rfl, Own4.nil _ _, Below.refl _ _⟩
  case round =>
    obtain ⟨r, L, rfl, hr, hL, HE, HO, HB⟩ := hrel
    by_cases hr0 : r = 0
    · subst hr0
      have HE1 : Hid (L = lim4 n) := by
        have := HE.out
        rw [lim4_zero, List.append_nil] at this
        exact this
      go_wp2_with fail
      go_ret
      exact ⟨_, rfl, (HE1.out ▸ HO.out).numV, HB.out⟩
    · have hI : (0 : Int) < (r : Int) := by omega
      obtain ⟨y, hy⟩ : ∃ y : Nat, y = r % B4 := ⟨_, rfl⟩
      obtain ⟨q, hq⟩ : ∃ q : Nat, q = r / B4 := ⟨_, rfl⟩
      have hyl : y < B4 := by rw [hy]; exact Nat.mod_lt _ (by decide)
      have HE1 : Hid ((L ++ [y]) ++ lim4 q = lim4 n) := by
        show _ = _
        rw [← HE.out, lim4_pos hr0, hy, hq]; simp
      have hL1 : L.length + 1 ≤ 5 := by
        have := congrArg List.length HE1.out
        simp at this; omega
      have hql : q < r := by rw [hq, B4]; omega
      obtain ⟨R, hR⟩ : ∃ R : Int, R = (r : Int) := ⟨_, rfl⟩
      have ey : R % 10000 = (y : Int) := by rw [hR, hy, B4]; omega
      have eqq : R / 10000 = (q : Int) := by rw [hR, hq, B4]; omega
      have hR1 : 0 < R := by omega
      have hR2 : R < 9223372036854775808 := by omega
      rw [← hR]
      have Hyl := Lib.hid hyl
      have HR := Lib.hid hR
      clear hy hq hyl HE hR hI hr0 hr hn2 hl5
      have hgs := HB.out.size
      go_wp2_with (
        at_builtin
        go_loud (refine wpList_app4 _ rfl _ _ rfl w.heap.size _ L rfl (Own4.alloc HO.out _) wr.heap.size y rfl (by simp [go_sem]) Hyl.out (by simp; omega) (by omega) ?_)
        intro v1 w1 hown1 hgr1
        have HO1 := Lib.hid hown1
        have HB1 := Lib.hid ((HB.out.alloc hgs _).grown hgr1 (by simp; omega) (fun x hx => (HO.out.own.lt x hx).1))
        clear hown1 hgr1)
      go_wp2_with fail
      go_roundw
      case rel => exact ⟨q, L ++ [y], congrArg (Value.int .i64) eqq, by have := HR.out; omega, by simp; omega, HE1, HO1, HB1⟩
      case measure => have := HR.out; simp only [intOf]; omega

/-- a piece, or nought past the top -/
def pc (L : List Nat) (k : Nat) : Nat := L[k]?.getD 0
theorem pc_lt {L : List Nat} {k : Nat} (h : k < L.length) : pc L k = L[k] := by simp [pc, h]
theorem pc_ge {L : List Nat} {k : Nat} (h : ¬ k < L.length) : pc L k = 0 := by simp [pc, Nat.not_lt.1 h]
theorem val4_pc (L : List Nat) (k : Nat) : val4 (L.take (k + 1)) = val4 (L.take k) + B4 ^ k * pc L k := by
  by_cases h : k < L.length
  · rw [pc_lt h, List.take_succ_eq_append_getElem h, val4_append]
    simp only [val4, List.length_take, Nat.min_eq_left (Nat.le_of_lt h), Nat.mul_zero, Nat.add_zero]
  · rw [pc_ge h, List.take_of_length_le (by omega), List.take_of_length_le (by omega)]; simp
/-- one step of a sum by pieces -/
theorem piece_step {out : List Nat} {k cr s A A' : Nat} (ho : out.length = k) (hv : val4 out + cr * B4 ^ k = A) (hA : A' = A + B4 ^ k * s) :
    val4 (out ++ [(cr + s) % B4]) + (cr + s) / B4 * B4 ^ (k + 1) = A' := by
  rw [val4_append]
  simp only [val4, ho, Nat.pow_succ]
  have e := Nat.div_add_mod (cr + s) B4
  generalize (cr + s) / B4 = q at *
  generalize (cr + s) % B4 = r at *
  have e2 : B4 ^ k * (B4 * q + r) = B4 ^ k * (cr + s) := by rw [e]
  simp only [Nat.mul_add, Nat.mul_zero, Nat.add_zero] at e2 ⊢
  rw [Nat.mul_comm cr] at hv
  rw [show q * (B4 ^ k * B4) = B4 ^ k * (B4 * q) by rw [Nat.mul_comm q, Nat.mul_assoc]]
  omega

set_option maxRecDepth 100000 in
set_option maxHeartbeats 4000000 in
theorem Add4_any (va vb : Value) (x y : Nat) (w : World) (hx : NumV w va x) (hy : NumV w vb y) (hX : (lim4 x).length ≤ 100000) (hY : (lim4 y).length ≤ 100000) :
    Calls Tryz.prog 215 #[va, vb] w fun e w' => ∃ v, e = .returned v ∧ NumV w' v (x + y) ∧ Below w.heap.size w w' := by
  obtain ⟨a, ca, rfl, ha⟩ := hx
  obtain ⟨b, cb, rfl, hb⟩ := hy
  have vx : Hid (val4 (lim4 x) = x) := val4_lim4 x
  have vy : Hid (val4 (lim4 y) = y) := val4_lim4 y
  have h1 := ha.le; have h2 := hb.le
  have HA := Lib.hid ha; have HB := Lib.hid hb
  clear ha hb
  generalize lim4 x = P at *
  generalize lim4 y = Q at *
  obtain ⟨n, hn⟩ : ∃ n, n = P.length := ⟨_, rfl⟩
  obtain ⟨m, hm⟩ : ∃ m, m = Q.length := ⟨_, rfl⟩
  rw [← hn] at hX h1 ⊢
  rw [← hm] at hY h2 ⊢
  have HN := Lib.hid hn
  have HM := Lib.hid hm
  clear hn hm
  go_enter Tryz.func215, Tryz.ntmps215
  go_wp2_with fail
  go_loopw [5, 6, 7] (fun o c i wr => ∃ (k : Nat) (out : List Nat) (cr : Nat), i = .int .i64 (k : Int) ∧ c = .int .i64 (cr : Int) ∧ cr ≤ 1 ∧ (k ≤ n ∨ k ≤ m ∨ cr = 0 ∧ k ≤ n + m + 1) ∧ Hid (out.length = k) ∧ Hid (val4 out + cr * B4 ^ k = val4 (P.take k) + val4 (Q.take k)) ∧ Hid (Own4 wr w.heap.size o out) ∧ Hid (Below w.heap.size w wr))
    (fun _ _ i _ => n + m + 2 - (intOf i).toNat)
  case atStart => exact ⟨0, [], 0, rfl, rfl, by omega, by omega, rfl, (by show val4 [] + 0 * _ = val4 [] + val4 []; simp [val4]), Own4.nil _ _, Below.refl _ _⟩
  case round =>
    obtain ⟨k, out, cr, rfl, rfl, hcr, hkb, HOL, HV, HO, HB0⟩ := hrel
    have hgs := HB0.out.size
    have hkk : k ≤ 200001 := by omega
    have HS := Lib.hid (piece_step (s := pc P k + pc Q k) (A' := val4 (P.take (k + 1)) + val4 (Q.take (k + 1))) HOL.out HV.out (by rw [val4_pc, val4_pc, Nat.mul_add]; omega))
    obtain ⟨N, hN⟩ : ∃ N : Int, N = (n : Int) := ⟨_, rfl⟩
    obtain ⟨M, hM⟩ : ∃ M : Int, M = (m : Int) := ⟨_, rfl⟩
    by_cases hA : k < n
    · by_cases hB : k < m
      · obtain ⟨bp, op, rfl, hcp⟩ := HA.out.at_ k (by rw [← HN.out]; exact hA)
        have hcp' := (HB0.out.cell (World.block_lt_of_cell? w _ hcp)).trans hcp
        have hpl : P[k]'(by rw [← HN.out]; exact hA) < 10000 := HA.out.lt _ (List.getElem_mem _)
        have hpe : pc P k = P[k]'(by rw [← HN.out]; exact hA) := pc_lt _
        clear hcp
        obtain ⟨bq, oq, rfl, hcq⟩ := HB.out.at_ k (by rw [← HM.out]; exact hB)
        have hcq' := (HB0.out.cell (World.block_lt_of_cell? w _ hcq)).trans hcq
        have hql : Q[k]'(by rw [← HM.out]; exact hB) < 10000 := HB.out.lt _ (List.getElem_mem _)
        have hqe : pc Q k = Q[k]'(by rw [← HM.out]; exact hB) := pc_lt _
        clear hcq
        rw [hpe, hqe] at HS
        generalize P[k]'(by rw [← HN.out]; exact hA) = p at *
        generalize Q[k]'(by rw [← HM.out]; exact hB) = q at *
        obtain ⟨y, hy⟩ : ∃ y : Nat, y = (cr + (p + q)) % B4 := ⟨_, rfl⟩
        obtain ⟨c2, hc2⟩ : ∃ c2 : Nat, c2 = (cr + (p + q)) / B4 := ⟨_, rfl⟩
        rw [← hy, ← hc2] at HS
        obtain ⟨S, hS⟩ : ∃ S : Int, S = (cr : Int) + (p : Int) + (q : Int) := ⟨_, rfl⟩
        have ey : ((cr : Int) + (p : Int) + (q : Int)) % 10000 = (y : Int) := by rw [hy, B4]; omega
        have ec : ((cr : Int) + (p : Int) + (q : Int)) / 10000 = (c2 : Int) := by rw [hc2, B4]; omega
        have hyl : y < B4 := by rw [hy]; exact Nat.mod_lt _ (by decide)
        have hc2l : c2 ≤ 1 := by rw [hc2, B4]; omega
        have hc20 : True := by trivial
        have hA1 : (k : Int) < (n : Int) := by omega
        have hB1 : (k : Int) < (m : Int) := by omega
        have Hyl := Lib.hid hyl; have Hc2 := Lib.hid hc2l; have Hc0 := Lib.hid hc20
        clear hy hc2 hyl hc2l hc20 hpe hqe HV hS hN hM
        go_wp2_with (
          at_builtin
          go_loud (refine wpList_app4 _ rfl _ _ rfl w.heap.size _ out rfl (Own4.alloc HO.out _) wr.heap.size y rfl (by simp [go_sem]) Hyl.out (by simp; omega) (by rw [HOL.out]; omega) ?_)
          intro v1 w1 hown1 hgr1
          have HO1 := Lib.hid hown1
          have HB1 := Lib.hid ((HB0.out.alloc hgs _).grown hgr1 (by simp; omega) (fun x hx => (HO.out.own.lt x hx).1))
          clear hown1 hgr1)
        go_wp2_with fail
        go_roundw
        case rel => exact ⟨k + 1, out ++ [y], c2, by go_num, by first | rfl | exact congrArg (Value.int .i64) ec, Hc2.out, by have := Hc0.out; omega, by show (out ++ [y]).length = _; simp [HOL.out], HS, HO1, HB1⟩
        case measure => simp only [intOf]; omega
      · obtain ⟨bp, op, rfl, hcp⟩ := HA.out.at_ k (by rw [← HN.out]; exact hA)
        have hcp' := (HB0.out.cell (World.block_lt_of_cell? w _ hcp)).trans hcp
        have hpl : P[k]'(by rw [← HN.out]; exact hA) < 10000 := HA.out.lt _ (List.getElem_mem _)
        have hpe : pc P k = P[k]'(by rw [← HN.out]; exact hA) := pc_lt _
        clear hcp
        have hqe : pc Q k = 0 := pc_ge (by rw [← HM.out]; exact hB)
        rw [hpe, hqe] at HS
        generalize P[k]'(by rw [← HN.out]; exact hA) = p at *
        obtain ⟨y, hy⟩ : ∃ y : Nat, y = (cr + (p + 0)) % B4 := ⟨_, rfl⟩
        obtain ⟨c2, hc2⟩ : ∃ c2 : Nat, c2 = (cr + (p + 0)) / B4 := ⟨_, rfl⟩
        rw [← hy, ← hc2] at HS
        obtain ⟨S, hS⟩ : ∃ S : Int, S = (cr : Int) + (p : Int) := ⟨_, rfl⟩
        have ey : ((cr : Int) + (p : Int)) % 10000 = (y : Int) := by rw [hy, B4]; omega
        have ec : ((cr : Int) + (p : Int)) / 10000 = (c2 : Int) := by rw [hc2, B4]; omega
        have hyl : y < B4 := by rw [hy]; exact Nat.mod_lt _ (by decide)
        have hc2l : c2 ≤ 1 := by rw [hc2, B4]; omega
        have hc20 : True := by trivial
        have hA1 : (k : Int) < (n : Int) := by omega
        have hB1 : (m : Int) ≤ (k : Int) := by omega
        have Hyl := Lib.hid hyl; have Hc2 := Lib.hid hc2l; have Hc0 := Lib.hid hc20
        clear hy hc2 hyl hc2l hc20 hpe hqe HV hS hN hM
        go_wp2_with (
          at_builtin
          go_loud (refine wpList_app4 _ rfl _ _ rfl w.heap.size _ out rfl (Own4.alloc HO.out _) wr.heap.size y rfl (by simp [go_sem]) Hyl.out (by simp; omega) (by rw [HOL.out]; omega) ?_)
          intro v1 w1 hown1 hgr1
          have HO1 := Lib.hid hown1
          have HB1 := Lib.hid ((HB0.out.alloc hgs _).grown hgr1 (by simp; omega) (fun x hx => (HO.out.own.lt x hx).1))
          clear hown1 hgr1)
        go_wp2_with fail
        go_roundw
        case rel => exact ⟨k + 1, out ++ [y], c2, by go_num, by first | rfl | exact congrArg (Value.int .i64) ec, Hc2.out, by have := Hc0.out; omega, by show (out ++ [y]).length = _; simp [HOL.out], HS, HO1, HB1⟩
        case measure => simp only [intOf]; omega
    · by_cases hB : k < m
      · have hpe : pc P k = 0 := pc_ge (by rw [← HN.out]; exact hA)
        obtain ⟨bq, oq, rfl, hcq⟩ := HB.out.at_ k (by rw [← HM.out]; exact hB)
        have hcq' := (HB0.out.cell (World.block_lt_of_cell? w _ hcq)).trans hcq
        have hql : Q[k]'(by rw [← HM.out]; exact hB) < 10000 := HB.out.lt _ (List.getElem_mem _)
        have hqe : pc Q k = Q[k]'(by rw [← HM.out]; exact hB) := pc_lt _
        clear hcq
        rw [hpe, hqe] at HS
        generalize Q[k]'(by rw [← HM.out]; exact hB) = q at *
        obtain ⟨y, hy⟩ : ∃ y : Nat, y = (cr + (0 + q)) % B4 := ⟨_, rfl⟩
        obtain ⟨c2, hc2⟩ : ∃ c2 : Nat, c2 = (cr + (0 + q)) / B4 := ⟨_, rfl⟩
        rw [← hy, ← hc2] at HS
        obtain ⟨S, hS⟩ : ∃ S : Int, S = (cr : Int) + (q : Int) := ⟨_, rfl⟩
        have ey : ((cr : Int) + (q : Int)) % 10000 = (y : Int) := by rw [hy, B4]; omega
        have ec : ((cr : Int) + (q : Int)) / 10000 = (c2 : Int) := by rw [hc2, B4]; omega
        have hyl : y < B4 := by rw [hy]; exact Nat.mod_lt _ (by decide)
        have hc2l : c2 ≤ 1 := by rw [hc2, B4]; omega
        have hc20 : True := by trivial
        have hA1 : (n : Int) ≤ (k : Int) := by omega
        have hB1 : (k : Int) < (m : Int) := by omega
        have Hyl := Lib.hid hyl; have Hc2 := Lib.hid hc2l; have Hc0 := Lib.hid hc20
        clear hy hc2 hyl hc2l hc20 hpe hqe HV hS hN hM
        go_wp2_with (
          at_builtin
          go_loud (refine wpList_app4 _ rfl _ _ rfl w.heap.size _ out rfl (Own4.alloc HO.out _) wr.heap.size y rfl (by simp [go_sem]) Hyl.out (by simp; omega) (by rw [HOL.out]; omega) ?_)
          intro v1 w1 hown1 hgr1
          have HO1 := Lib.hid hown1
          have HB1 := Lib.hid ((HB0.out.alloc hgs _).grown hgr1 (by simp; omega) (fun x hx => (HO.out.own.lt x hx).1))
          clear hown1 hgr1)
        go_wp2_with fail
        go_roundw
        case rel => exact ⟨k + 1, out ++ [y], c2, by go_num, by first | rfl | exact congrArg (Value.int .i64) ec, Hc2.out, by have := Hc0.out; omega, by show (out ++ [y]).length = _; simp [HOL.out], HS, HO1, HB1⟩
        case measure => simp only [intOf]; omega
      · by_cases hc0 : cr = 0
        · subst hc0
          have hA1 : (n : Int) ≤ (k : Int) := by omega
          have hB1 : (m : Int) ≤ (k : Int) := by omega
          have hvv : val4 out = x + y := by
            have := HV.out
            rw [List.take_of_length_le (by rw [← HN.out]; omega), List.take_of_length_le (by rw [← HM.out]; omega), vx.out, vy.out] at this
            simpa using this
          obtain ⟨ao, co, rfl, hli⟩ := HO.out.li4
          have HT := Lib.hid (trim4_any ao co out wr hli)
          have HR := Lib.hid (Own4.trimmed hli hvv)
          obtain ⟨ln, hln⟩ : ∃ ln, ln = out.length := ⟨_, rfl⟩
          rw [← hln] at HT
          rw [← hln]
          clear hli hvv hln HS hN hM hkk hkb
          go_wp2_with fail
          refine HT.out.mono ?_
          rintro e _ ⟨rfl, rfl⟩
          go_wp2_with fail
          go_ret
          exact ⟨_, rfl, HR.out, HB0.out⟩
        · have hpe : pc P k = 0 := pc_ge (by rw [← HN.out]; exact hA)
          have hqe : pc Q k = 0 := pc_ge (by rw [← HM.out]; exact hB)
          rw [hpe, hqe] at HS
          obtain ⟨y, hy⟩ : ∃ y : Nat, y = (cr + (0 + 0)) % B4 := ⟨_, rfl⟩
          obtain ⟨c2, hc2⟩ : ∃ c2 : Nat, c2 = (cr + (0 + 0)) / B4 := ⟨_, rfl⟩
          rw [← hy, ← hc2] at HS
          obtain ⟨S, hS⟩ : ∃ S : Int, S = (cr : Int) := ⟨_, rfl⟩
          have ey : ((cr : Int)) % 10000 = (y : Int) := by rw [hy, B4]; omega
          have ec : ((cr : Int)) / 10000 = (c2 : Int) := by rw [hc2, B4]; omega
          have hyl : y < B4 := by rw [hy]; exact Nat.mod_lt _ (by decide)
          have hc2l : c2 ≤ 1 := by rw [hc2, B4]; omega
          have hc20 : c2 = 0 := by rw [hc2, B4]; omega
          have hA1 : (n : Int) ≤ (k : Int) := by omega
          have hB1 : (m : Int) ≤ (k : Int) := by omega
          have hcr1 : (0 : Int) < (cr : Int) := by omega
          have Hyl := Lib.hid hyl; have Hc2 := Lib.hid hc2l; have Hc0 := Lib.hid hc20
          clear hy hc2 hyl hc2l hc20 hpe hqe HV hS hN hM
          go_wp2_with (
            at_builtin
            go_loud (refine wpList_app4 _ rfl _ _ rfl w.heap.size _ out rfl (Own4.alloc HO.out _) wr.heap.size y rfl (by simp [go_sem]) Hyl.out (by simp; omega) (by rw [HOL.out]; omega) ?_)
            intro v1 w1 hown1 hgr1
            have HO1 := Lib.hid hown1
            have HB1 := Lib.hid ((HB0.out.alloc hgs _).grown hgr1 (by simp; omega) (fun x hx => (HO.out.own.lt x hx).1))
            clear hown1 hgr1)
          go_wp2_with fail
          go_roundw
          case rel => exact ⟨k + 1, out ++ [y], c2, by go_num, by first | rfl | exact congrArg (Value.int .i64) ec, Hc2.out, by have := Hc0.out; omega, by show (out ++ [y]).length = _; simp [HOL.out], HS, HO1, HB1⟩
          case measure => simp only [intOf]; omega
end Go.Proofs.YtcmpdamfeoaapaaGreatDoor
