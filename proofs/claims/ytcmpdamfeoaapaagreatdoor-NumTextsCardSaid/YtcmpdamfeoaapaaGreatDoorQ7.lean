/- The document's numbers (thresherref02): Text. -/
import Derived.Test.YtcmpdamfeoaapaaGreatDoorQ6
namespace Go.Proofs.YtcmpdamfeoaapaaGreatDoor
open Go.RowKit
set_option linter.unusedVariables false

/-- append of four bytes -/
theorem wpList_appB4 (w : World) {ops : Array Oper} {rest : List Oper} {o : Oper} {a : Act} {Q : Exit → Act → World → Prop} (hg : o.guard = none) (s x : Operand) (ho : o.op = .call { callee := .builtin .append, args := #[s, x], argTypes := #[93, 93] })
    (base : Nat) (v : Value) (L : List Nat) (hs : a.eval s = v) (hown : OwnB w base v L) (p y1 y2 y3 y4 : Nat) (hx : a.eval x = .slice (some ⟨p, 0, none⟩) 4 4)
    (hc : w.cell? ⟨p, 0, none⟩ = some (.int .u8 (y1 : Nat)) ∧ w.cell? ⟨p, 1, none⟩ = some (.int .u8 (y2 : Nat)) ∧ w.cell? ⟨p, 2, none⟩ = some (.int .u8 (y3 : Nat)) ∧ w.cell? ⟨p, 3, none⟩ = some (.int .u8 (y4 : Nat))) (hy : y1 < 256 ∧ y2 < 256 ∧ y3 < 256 ∧ y4 < 256)
    (hbase : base ≤ w.heap.size) (hlen : L.length ≤ 1000000000)
    (hK : ∀ v' w', OwnB w' base v' (L ++ [y1, y2, y3, y4]) → w.grownBy w' v.ownBlock → wpList Tryz.prog ops Q rest (a.put o.dst v') w') : wpList Tryz.prog ops Q (o :: rest) a w := by
  obtain ⟨i0, hi, hz0, hz1, hz2⟩ := info_parts infoB
  obtain ⟨c1, c2, c3, c4⟩ := hc
  obtain ⟨l1, l2, l3, l4⟩ := hy
  refine wpList_append_own w hg s x 93 ho base 5 i0 (.int .u8 0) 1 1 undB hi hz0 hz1 hz2 rfl (by decide) v L.length (cellsB L) hs hown.own ⟨p, 0, none⟩ 4 4 [.int .u8 (y1 : Nat), .int .u8 (y2 : Nat), .int .u8 (y3 : Nat), .int .u8 (y4 : Nat)] hx rfl ?_ ?_ ?_ ?_ hbase ?_
  · intro j u hj
    rw [add_plain', Nat.zero_add]
    match j, hj with
    | 0, hj => simp at hj; subst hj; exact c1
    | 1, hj => simp at hj; subst hj; exact c2
    | 2, hj => simp at hj; subst hj; exact c3
    | 3, hj => simp at hj; subst hj; exact c4
    | j + 4, hj => simp at hj
  · intro u hu; simp at hu; rcases hu with rfl | rfl | rfl | rfl <;> rfl
  · simp [maxLen]; omega
  · omega
  · intro v' w' ho hgr _
    refine hK v' w' ⟨?_, ?_⟩ hgr
    · intro z hz
      rcases List.mem_append.1 hz with hz | hz
      · exact hown.lt z hz
      · simp at hz; omega
    · have e : cellsB (L ++ [y1, y2, y3, y4]) = cellsB L ++ [.int .u8 (y1 : Nat), .int .u8 (y2 : Nat), .int .u8 (y3 : Nat), .int .u8 (y4 : Nat)] := by simp [cellsB]
      rw [e]; simpa using ho
/-- bytes from a place on as a string -/
theorem wpList_stringAt (w : World) {ops : Array Oper} {rest : List Oper} {o : Oper} {a : Act} {Q : Exit → Act → World → Prop} (hg : o.guard = none) (x : Operand) (ho : o.op = .convert 93 9 x) (g off n cap : Nat) (l : List UInt8) (hx : a.eval x = .slice (some ⟨g, off, none⟩) n cap) (hn : n = l.length)
    (hc : ∀ j (hj : j < l.length), w.cell? ⟨g, off + j, none⟩ = some (.int .u8 (l[j].toNat : Nat)))
    (hK : wpList Tryz.prog ops Q rest (a.put o.dst (.string ⟨l.toArray⟩)) w) : wpList Tryz.prog ops Q (o :: rest) a w := by
  subst hn
  have hr := run_convert_bytes_back (P := Tryz.prog) w 93 9 5 ⟨g, off, none⟩ cap l undBytes undByte undStr (fun j hj => by rw [add_plain']; exact hc j hj)
  refine wpList_plain hg fun K' hK' => ?_
  unfold Oper.wp
  simp [execOp, ho, hx, hr, Result.andThen]
  exact hK' _ _ hK

/-- digits as numbers, read -/
def dvN (L : List Nat) : Nat := L.foldl (fun n c => 10 * n + (c - 48)) 0
theorem dvN_four (L : List Nat) (a b c d : Nat) : dvN (L ++ [a, b, c, d]) = dvN L * 10000 + (1000 * (a - 48) + 100 * (b - 48) + 10 * (c - 48) + (d - 48)) := by
  unfold dvN; simp [List.foldl_append]; omega
theorem digVal_map (L : List Nat) (h : ∀ c ∈ L, c < 256) : digVal (L.map UInt8.ofNat) = dvN L := by
  unfold digVal dvN
  rw [List.foldl_map]
  generalize 0 = n
  induction L generalizing n with
  | nil => rfl
  | cons c L ih =>
    have h1 := h c (by simp)
    simp only [List.foldl_cons]
    rw [show (UInt8.ofNat c).toNat = c by simp; omega]
    exact ih (fun x hx => h x (by simp [hx])) _
theorem dvN_zeros (L : List Nat) (h : ∀ c ∈ L, c = 48) : dvN L = 0 := by
  unfold dvN
  induction L with
  | nil => rfl
  | cons c L ih =>
    have h1 := h c (by simp)
    subst h1
    exact ih (fun x hx => h x (by simp [hx]))
theorem dvN_drop (L : List Nat) (k : Nat) (h : ∀ c ∈ L.take k, c = 48) : dvN (L.drop k) = dvN L := by
  have e : L = L.take k ++ L.drop k := (List.take_append_drop k L).symm
  have h0 : dvN (L.take k) = 0 := dvN_zeros _ h
  have : dvN L = (L.drop k).foldl (fun n c => 10 * n + (c - 48)) (dvN (L.take k)) := by
    rw [show dvN L = dvN (L.take k ++ L.drop k) by rw [← e]]
    unfold dvN; rw [List.foldl_append]
  rw [this, h0]; rfl

set_option maxRecDepth 100000 in
set_option maxHeartbeats 8000000 in
theorem Text4_any (va : Value) (x : Nat) (w : World) (hx : NumV w va x) (hX : (lim4 x).length ≤ 100000) :
    Calls Tryz.prog 120 #[va] w fun e w' => ∃ s : ByteArray, e = .returned (.string s) ∧ Canon s.data.toList x ∧ Below w.heap.size w w' := by
  obtain ⟨a, ca, rfl, ha⟩ := hx
  by_cases hx0 : x = 0
  · subst hx0
    have e0 : (lim4 0).length = 0 := by rw [lim4_zero]; rfl
    rw [e0]
    clear ha hX e0
    go_enter Tryz.func120, Tryz.ntmps120
    go_wp2_with fail
    go_ret
    exact ⟨⟨#[48]⟩, rfl, canon_mk (by decide) (by simp) (by decide) (.inl rfl), Below.refl _ _⟩
  have vx : Hid (val4 (lim4 x) = x) := val4_lim4 x
  have h1 := ha.le
  have HA := Lib.hid ha
  have hpos : 0 < (lim4 x).length := by
    rcases Nat.eq_zero_or_pos (lim4 x).length with h | h
    · exact absurd (lim4_eq_nil.1 (List.eq_nil_of_length_eq_zero h)) hx0
    · exact h
  have HX0 := Lib.hid hx0
  clear ha hx0
  generalize lim4 x = P at *
  obtain ⟨n, hn⟩ : ∃ n, n = P.length := ⟨_, rfl⟩
  rw [← hn] at hX h1 hpos ⊢
  have HN := Lib.hid hn
  have hnb : ((n : Int) == 0) = false := by simp; omega
  clear hn
  go_enter Tryz.func120, Tryz.ntmps120
  go_wp2_with fail
  go_loopw [3, 4] (fun o i wr => ∃ (k : Nat) (L : List Nat), i = .int .i64 ((k : Int) - 1) ∧ k ≤ n ∧ Hid (L.length + 4 * k = 4 * n) ∧ Hid (∀ c ∈ L, 48 ≤ c ∧ c ≤ 57) ∧ Hid (dvN L * B4 ^ k + val4 (P.take k) = x) ∧ Hid (OwnB wr w.heap.size o L) ∧ Hid (Below w.heap.size w wr)) (fun _ i _ => (intOf i + 1).toNat)
  case atStart => exact ⟨n, [], rfl, Nat.le_refl _, by show _ = _; simp, (fun c h => by cases h), by (show _ = _; rw [List.take_of_length_le (by rw [← HN.out]; omega), vx.out]; simp [dvN]), OwnB.nil _ _, Below.refl _ _⟩
  case round =>
    obtain ⟨k, L, rfl, hk, HL, HD, HV, HO, HB⟩ := hrel
    have hgs := HB.out.size
    cases k with
    | zero =>
      have hdv : dvN L = x := by have := HV.out; simpa [val4] using this
      have hLl : L.length = 4 * n := by have := HL.out; omega
      rcases HO.out.slice with ⟨rfl, rfl⟩ | ⟨g, cap, rfl, hgb, hrow⟩
      · simp at hLl; omega
      have HR := Lib.hid hrow
      have hex : ∃ m, m < 4 * n ∧ L[m]?.getD 48 ≠ 48 := by
        refine Classical.byContradiction fun hc => HX0.out ?_
        rw [← hdv]
        refine dvN_zeros L fun c hcm => ?_
        obtain ⟨i, hi, rfl⟩ := List.mem_iff_getElem.1 hcm
        refine Classical.byContradiction fun h => hc ⟨i, by omega, by rw [List.getElem?_eq_getElem hi]; exact h⟩
      have HEx := Lib.hid hex
      have HDv := Lib.hid hdv
      have HLl := Lib.hid hLl
      rw [hLl]
      have hcapI : 4 * n ≤ cap := by rw [← hLl]; exact hrow.le
      have hcapM := hrow.max
      clear hex hdv hLl hrow HO
      obtain ⟨N, hNN⟩ : ∃ N, N = 4 * n := ⟨_, rfl⟩
      rw [← hNN] at HEx HLl hcapI ⊢
      have hN2 : N ≤ 400000 := by omega
      clear hNN
      go_wp2_with fail
      go_loop [6] (fun i => ∃ j : Nat, i = .int .i64 (j : Int) ∧ Hid (∀ c ∈ L.take j, c = 48) ∧ Hid (∃ m, j ≤ m ∧ m < N ∧ L[m]?.getD 48 ≠ 48)) (fun i => N - (intOf i).toNat)
      case atStart =>
        obtain ⟨m, h1, h2⟩ := HEx.out
        exact ⟨0, rfl, (fun c h => by simp at h), ⟨m, Nat.zero_le _, h1, h2⟩⟩
      case round =>
        obtain ⟨j, rfl, HZ, HM⟩ := hrel
        have hjl : j < N := by obtain ⟨m, h1, h2, _⟩ := HM.out; omega
        have hjL : j < L.length := by rw [HLl.out]; exact hjl
        have hcj := HR.out.cell j hjL
        have hI : (j : Int) < (N : Int) := by omega
        by_cases h48 : L[j] = 48
        · rw [h48] at hcj
          have HZ1 : Hid (∀ c ∈ L.take (j + 1), c = 48) := by
            intro c hc
            rw [List.take_succ_eq_append_getElem hjL] at hc
            rcases List.mem_append.1 hc with h | h
            · exact HZ.out c h
            · simp at h; rw [h]; exact h48
          have HM1 : Hid (∃ m, j + 1 ≤ m ∧ m < N ∧ L[m]?.getD 48 ≠ 48) := by
            obtain ⟨m, h1, h2, h3⟩ := HM.out
            refine ⟨m, ?_, h2, h3⟩
            rcases Nat.lt_or_ge j m with h | h
            · exact h
            · obtain rfl : m = j := by omega
              rw [List.getElem?_eq_getElem hjL] at h3
              exact absurd h48 h3
          clear HZ HM h48 hjL
          have hcj' : wr.cell? ⟨g, j, none⟩ = some (.int .u8 48) := hcj
          clear hcj
          go_wp2_with fail
          go_round
          case rel => exact ⟨j + 1, by go_num, HZ1, HM1⟩
          case measure => simp only [intOf]; omega
        · have hdl : ((L.drop j).map UInt8.ofNat).length = N - j := by simp [HLl.out]
          have hcells : ∀ i (hi : i < ((L.drop j).map UInt8.ofNat).length), wr.cell? ⟨g, j + i, none⟩ = some (.int .u8 ((((L.drop j).map UInt8.ofNat)[i]).toNat : Nat)) := by
            intro i hi
            have hi2 : j + i < L.length := by rw [hdl] at hi; rw [HLl.out]; omega
            have h1 := HR.out.cell (j + i) hi2
            have h2 := HR.out.lt _ (List.getElem_mem hi2)
            rw [h1]
            simp only [List.getElem_map, List.getElem_drop]
            rw [show (UInt8.ofNat (L[j + i])).toNat = L[j + i] by simp; omega]
          have hcan : Canon ((L.drop j).map UInt8.ofNat) x := by
            have hmem : ∀ c ∈ L.drop j, 48 ≤ c ∧ c ≤ 57 := fun c hc => HD.out c (List.mem_of_mem_drop hc)
            refine ⟨?_, ?_, ?_, ?_⟩
            · intro h0; have := congrArg List.length h0; rw [hdl] at this; simp at this; omega
            · intro c hc
              obtain ⟨d, hd, rfl⟩ := List.mem_map.1 hc
              have := hmem d hd
              rw [show (UInt8.ofNat d).toNat = d by simp; omega]; exact this
            · rw [digVal_map _ (fun c hc => by have := hmem c hc; omega), dvN_drop _ _ HZ.out]; exact HDv.out
            · intro c r e hc
              rw [List.drop_eq_getElem_cons hjL, List.map_cons] at e
              injection e with e1 e2
              have h3 := HD.out _ (List.getElem_mem hjL)
              rw [← e1, show (UInt8.ofNat L[j]).toNat = L[j] by simp; omega] at hc
              exact absurd hc h48
          generalize hy : L[j] = y at *
          have hyb : ((y : Int) == 48) = false := by simp; omega
          have HC := Lib.hid hcells
          have HCan := Lib.hid hcan
          have HDl := Lib.hid hdl
          clear hcells hcan hdl hy h48 hjL
          go_wp2_with (refine wpList_stringAt _ rfl _ rfl g j (N - j) (cap - j) ((L.drop j).map UInt8.ofNat) (by simp [go_sem]) HDl.out.symm HC.out ?_)
          go_wp2_with fail
          go_ret
          exact ⟨_, rfl, by have := HCan.out; rw [List.map_drop] at this; exact this, HB.out⟩
    | succ k =>
      obtain ⟨bp, op, rfl, hcp⟩ := HA.out.at_ k (by rw [← HN.out]; omega)
      have hcp' := (HB.out.cell (World.block_lt_of_cell? w _ hcp)).trans hcp
      have hpl : P[k]'(by rw [← HN.out]; omega) < 10000 := HA.out.lt _ (List.getElem_mem _)
      have hpe : val4 (P.take (k + 1)) = val4 (P.take k) + B4 ^ k * P[k]'(by rw [← HN.out]; omega) := by rw [val4_pc, pc_lt]
      clear hcp
      generalize P[k]'(by rw [← HN.out]; omega) = p at *
      obtain ⟨y1, e1⟩ : ∃ y : Nat, y = 48 + p / 1000 := ⟨_, rfl⟩
      obtain ⟨y2, e2⟩ : ∃ y : Nat, y = 48 + p / 100 % 10 := ⟨_, rfl⟩
      obtain ⟨y3, e3⟩ : ∃ y : Nat, y = 48 + p / 10 % 10 := ⟨_, rfl⟩
      obtain ⟨y4, e4⟩ : ∃ y : Nat, y = 48 + p % 10 := ⟨_, rfl⟩
      have HV1 : Hid (dvN (L ++ [y1, y2, y3, y4]) * B4 ^ k + val4 (P.take k) = x) := by
        show _ = _
        rw [← HV.out, dvN_four, hpe, Nat.pow_succ, show 1000 * (y1 - 48) + 100 * (y2 - 48) + 10 * (y3 - 48) + (y4 - 48) = p by omega, Nat.add_mul]
        rw [show dvN L * (B4 ^ k * B4) = dvN L * 10000 * B4 ^ k by rw [show (10000 : Nat) = B4 from rfl]; ac_rfl, Nat.mul_comm p]
        omega
      have HD1 : Hid (∀ c ∈ L ++ [y1, y2, y3, y4], 48 ≤ c ∧ c ≤ 57) := by
        intro c hc
        rcases List.mem_append.1 hc with h | h
        · exact HD.out c h
        · simp at h; omega
      have HL1 : Hid ((L ++ [y1, y2, y3, y4]).length + 4 * k = 4 * n) := by
        have h9 := HL.out
        show _ = _
        simp; omega
      have f1 : 48 + (p : Int) / 1000 = (y1 : Int) := by omega
      have f2 : 48 + (p : Int) / 100 % 10 = (y2 : Int) := by omega
      have f3 : 48 + (p : Int) / 10 % 10 = (y3 : Int) := by omega
      have f4 : 48 + (p : Int) % 10 = (y4 : Int) := by omega
      have g1 : y1 < 256 := by omega
      have g2 : y2 < 256 := by omega
      have g3 : y3 < 256 := by omega
      have g4 : y4 < 256 := by omega
      have hLb : L.length ≤ 1000000 := by have := HL.out; omega
      have hkI : (0 : Int) ≤ (k : Int) := Int.natCast_nonneg _
      have hkn : (k : Int) < (n : Int) := by omega
      clear hpe e1 e2 e3 e4 HV HD HL
      go_wp2_with (
        at_builtin
        go_loud (refine wpList_appB4 _ rfl _ _ rfl w.heap.size _ L rfl (OwnB.alloc HO.out _) wr.heap.size y1 y2 y3 y4 rfl (by simp [go_sem]) ⟨g1, g2, g3, g4⟩ (by simp; omega) (by omega) ?_)
        intro v1 w1 hown1 hgr1
        have HO1 := Lib.hid hown1
        have HB1 := Lib.hid ((HB.out.alloc hgs _).grown hgr1 (by simp; omega) (fun x hx => (HO.out.own.lt x hx).1))
        clear hown1 hgr1)
      go_wp2_with fail
      go_roundw
      case rel => exact ⟨k, L ++ [y1, y2, y3, y4], rfl, by omega, HL1, HD1, HV1, HO1, HB1⟩
      case measure => simp only [intOf]; omega
end Go.Proofs.YtcmpdamfeoaapaaGreatDoor
