/- Package nat: Parse. -/
import Derived.Test.YtcipmfjefmjacaaGreatDoorN11
import Derived.Lib.ConvBytes
import Derived.Lib.SmallJoins
namespace Go.Proofs.YtcipmfjefmjacaaGreatDoor
open Go.RowKit
set_option linter.unusedVariables false

/-- what digits write -/
def digVal (l : List UInt8) : Nat := l.foldl (fun n c => 10 * n + (c.toNat - 48)) 0
def Digits (l : List UInt8) : Prop := ∀ c ∈ l, 48 ≤ c.toNat ∧ c.toNat ≤ 57
theorem digVal_snoc (l : List UInt8) (c : UInt8) : digVal (l ++ [c]) = 10 * digVal l + (c.toNat - 48) := by simp [digVal]
theorem digVal_append (l m : List UInt8) : digVal l ≤ digVal (l ++ m) := by
  induction m generalizing l with
  | nil => simp
  | cons c m ih =>
    have := ih (l ++ [c])
    rw [digVal_snoc] at this
    rw [show l ++ c :: m = l ++ [c] ++ m by simp]
    omega
theorem digVal_take (l : List UInt8) (k : Nat) : digVal (l.take k) ≤ digVal l := by
  have := digVal_append (l.take k) (l.drop k)
  rwa [List.take_append_drop] at this

/-- bytes that lie in a row -/
def LiesB (w : World) (g off : Nat) (L : List UInt8) : Prop := ∀ i (h : i < L.length), w.cell? ⟨g, off + i, none⟩ = some (.int .u8 (L[i].toNat : Nat))
theorem LiesB.below {w w' : World} {g off B : Nat} {L : List UInt8} (h : LiesB w g off L) (hb : Below B w w') (hg : g < B) : LiesB w' g off L := fun i hi => by
  have e := h i hi
  unfold World.cell? at e ⊢
  rw [hb.block g hg]; exact e

theorem undStr : Tryz.prog.underlying 9 = some .string := by kernel_rfl
theorem undBytes : Tryz.prog.underlying 61 = some (.slice 5) := by kernel_rfl
theorem undByte : Tryz.prog.underlying 5 = some (.int .u8) := by kernel_rfl

/-- a string as bytes -/
theorem wpList_bytes (w : World) {ops : Array Oper} {rest : List Oper} {o : Oper} {a : Act} {Q : Exit → Act → World → Prop} (hg : o.guard = none) (x : Operand) (ho : o.op = .convert 9 61 x) (s : ByteArray) (hx : a.eval x = .string s)
    (hK : ∀ cap w', LiesB w' w.heap.size 0 s.data.toList → Below w.heap.size w w' → w'.heap.size = w.heap.size + 1 → wpList Tryz.prog ops Q rest (a.put o.dst (.slice (some ⟨w.heap.size, 0, none⟩) s.size cap)) w') : wpList Tryz.prog ops Q (o :: rest) a w := by
  have hr := Lib.run_convert_string_bytes (P := Tryz.prog) w 9 61 5 s undStr undBytes undByte
  refine wpList_plain hg fun K' hK' => ?_
  unfold Oper.wp
  simp [execOp, ho, hx, hr, Result.andThen]
  refine hK' _ _ (hK _ _ ?_ (Go.Joins.below_bytesWorld _ _ _ _ (Nat.le_refl _)) (Lib.bytesWorld_size _ _ _))
  intro i hi
  have := Lib.bytesWorld_cell w 5 s i (by simpa using hi)
  rw [Nat.zero_add, this]
  have h2 : i < s.data.size := by simpa using hi
  simp [List.getD, Array.getElem?_eq_getElem h2]

theorem OwnU.row {w : World} {base n cap : Nat} {a : Option Addr} {L : List Nat} (h : OwnU w base (.slice a n cap) L) (hne : 0 < L.length) : ∃ g, a = some ⟨g, 0, none⟩ ∧ n = L.length ∧ base ≤ g ∧ RowU w g cap L := by
  rcases h.at_ with ⟨_, rfl⟩ | ⟨g, cap', cur, e, hb, hg, hl, hm, hs, ht⟩
  · simp at hne
  · cases e
    exact ⟨g, rfl, rfl, hb, h.lt, hl, hm, cur, hg, hs, ht⟩
theorem OwnU.keep {w w' : World} {base B : Nat} {v : Value} {L : List Nat} (h : OwnU w base v L) (hb : Below B w w') (hB : w.heap.size ≤ B) : OwnU w' base v L := by
  rcases h.at_ with ⟨rfl, rfl⟩ | ⟨g, cap, cur, rfl, hbg, hg, hl, hm, hs, ht⟩
  · exact OwnU.nil _ _
  · exact (RowU.keep ⟨h.lt, hl, hm, cur, hg, hs, ht⟩ (hb.block g (Nat.lt_of_lt_of_le (lt_of_heap hg) hB))).own hbg

theorem parse_step {X X' : List Nat} {j cr : Nat} (hj : j < X.length) (hl : X'.length = X.length) (hd : X'.drop j = X.drop j) {d : Nat} (hv : val (X'.take j) + cr * B32 ^ j = 10 * val (X.take j) + d) :
    val ((X'.set j ((cr + X[j] * 10) % B32)).take (j + 1)) + (cr + X[j] * 10) / B32 * B32 ^ (j + 1) = 10 * val (X.take (j + 1)) + d := by
  have hj' : j < X'.length := by omega
  have e1 : (X'.set j ((cr + X[j] * 10) % B32)).take (j + 1) = X'.take j ++ [(cr + X[j] * 10) % B32] := by
    rw [List.take_succ_eq_append_getElem (by simpa using hj')]
    simp [List.take_set_of_le]
  rw [e1, List.take_succ_eq_append_getElem hj, val_append, val_append]
  simp only [val, List.length_take, Nat.min_eq_left (Nat.le_of_lt hj), Nat.min_eq_left (Nat.le_of_lt hj'), Nat.mul_zero, Nat.add_zero]
  have e := Nat.div_add_mod (cr + X[j] * 10) B32
  generalize (cr + X[j] * 10) / B32 = q at *
  generalize (cr + X[j] * 10) % B32 = r at *
  rw [Nat.pow_succ]
  generalize B32 ^ j = P at *
  have e2 : P * (B32 * q) + P * r = P * cr + 10 * (P * X[j]) := by
    rw [← Nat.mul_add, e, Nat.mul_add]; congr 1; ac_rfl
  rw [show q * (P * B32) = P * (B32 * q) by ac_rfl]
  rw [Nat.mul_comm cr] at hv
  omega

theorem parse_done0 {n n' : Nat} {X' : List Nat} (hX : ∀ x ∈ X', x < B32) (hl : X'.length = (limbs n).length) (hv : val X' = n') (hn : n ≤ n') : X' = limbs n' := by
  have h1 := trimL_limbs X' hX
  rw [hv] at h1
  have h2 : (limbs n).length ≤ (limbs n').length := by
    rcases Nat.lt_or_ge (limbs n').length (limbs n).length with h | h
    · have := limbs_len_lt h; omega
    · exact h
  have h3 := trimL_prefix X'
  rw [h1] at h3
  rw [h3, List.take_of_length_le (by omega)]
theorem parse_done1 {n' cr : Nat} {X' : List Nat} (hX : ∀ x ∈ X', x < B32) (hc : cr ≠ 0) (hcl : cr < B32) (hv : val X' + cr * B32 ^ X'.length = n') : X' ++ [cr] = limbs n' := by
  have h1 := trimL_snoc_pos cr hc X'
  rw [← h1, trimL_limbs _ (by intro x hx; rcases List.mem_append.1 hx with h | h; exact hX x h; simp at h; omega), val_append]
  congr 1
  simp only [val, Nat.mul_zero, Nat.add_zero]
  rw [← hv, Nat.mul_comm cr]

set_option maxRecDepth 100000 in
set_option maxHeartbeats 4000000 in
theorem Parse_any (s : ByteArray) (w : World) (hn : s.data.toList ≠ []) (hd : Digits s.data.toList) (hf : (limbs (digVal s.data.toList)).length ≤ 256) (hl : s.data.toList.length ≤ 1000000) :
    Calls Tryz.prog 90 #[.string s] w fun e w' => ∃ v, e = .returned (.tuple #[v, .int .i64 0]) ∧ NatV w' v (digVal s.data.toList) ∧ Below w.heap.size w w' := by
  have hne : s.toList.isEmpty = false := by
    rw [ByteArray.toList_eq]
    simpa using hn
  have hsz : s.size = s.data.toList.length := by simp
  generalize hLe : s.data.toList = L at *
  have HLe := Lib.hid hLe
  have HD := Lib.hid hd
  have HF := Lib.hid hf
  clear hd hf hn hLe
  go_enter Tryz.func90, Tryz.ntmps90
  go_wp2_with (refine wpList_bytes _ rfl _ rfl s rfl ?_; rw [HLe.out, hsz]; intro cap1 w1 hl1 hb1 hs1)
  generalize hg1 : w.heap.size = g1 at *
  have HG1 := Lib.hid hg1
  have HL1 := Lib.hid hl1
  have HB1 := Lib.hid hb1
  clear hg1 hl1 hb1
  go_wp2_with fail
  go_loop [16] (fun i => ∃ k : Nat, k ≤ L.length ∧ i = .int .i64 k) (fun i => L.length - (intOf i).toNat)
  case atStart => exact ⟨0, Nat.zero_le _, rfl⟩
  case round =>
    obtain ⟨k, hk, rfl⟩ := hrel
    by_cases hlt : k < L.length
    · have hc := HL1.out k hlt
      rw [Nat.zero_add] at hc
      have hdd := HD.out _ (List.getElem_mem hlt)
      generalize L[k].toNat = c at *
      go_wp2_with fail
      go_round
      case rel => exact ⟨k + 1, by omega, by go_num⟩
      case measure => simp [intOf]; omega
    · obtain rfl : k = L.length := by omega
      go_wp2_with (refine wpList_bytes _ rfl _ rfl s rfl ?_; rw [HLe.out, hsz]; intro cap2 w2 hl2 hb2 hs2)
      have HB2 := Lib.hid (HB1.out.trans (hb2.mono (by omega)))
      rw [hs1] at hl2 hs2
      have HL2 := Lib.hid hl2
      have hg2 : g1 + 1 < w2.heap.size := by omega
      clear hl2 hb2 HL1 HB1
      go_wp2_with fail
      go_loopw [4, 30] (fun o i wr => ∃ k : Nat, k ≤ L.length ∧ i = .int .i64 k ∧ OwnU wr w2.heap.size o (limbs (digVal (L.take k))) ∧ Below w2.heap.size w2 wr) (fun _ i _ => L.length - (intOf i).toNat)
      case atStart => exact ⟨0, Nat.zero_le _, rfl, by rw [show limbs (digVal (L.take 0)) = [] by simp [digVal, limbs_zero]]; exact OwnU.nil _ _, Below.refl _ _⟩
      case round =>
        obtain ⟨k, hk, rfl, hown, hbw⟩ := hrel
        have BW := Lib.hid hbw
        have hBs := hbw.size
        clear hbw
        have hsub := digVal_take L k
        have hlen0 : (limbs (digVal (L.take k))).length ≤ 256 := limbs_length_le (Nat.lt_of_le_of_lt hsub (lt_of_limbs_length HF.out))
        obtain ⟨a, cap, rfl, hlies⟩ := hown.lies
        by_cases hlt : k < L.length
        · have hc := (HL2.out.below BW.out hg2) k hlt
          rw [Nat.zero_add] at hc
          have hdd := HD.out _ (List.getElem_mem hlt)
          have hsub1 := digVal_take L (k + 1)
          rw [List.take_succ_eq_append_getElem hlt, digVal_snoc] at hsub1
          have htk : Hid (digVal (L.take (k + 1)) = 10 * digVal (L.take k) + (L[k].toNat - 48)) := by
            show digVal (L.take (k + 1)) = _
            rw [List.take_succ_eq_append_getElem hlt, digVal_snoc]
          have hlen1 : (limbs (10 * digVal (L.take k) + (L[k].toNat - 48))).length ≤ 256 := limbs_length_le (Nat.lt_of_le_of_lt hsub1 (lt_of_limbs_length HF.out))
          have hvl := val_limbs (digVal (L.take k))
          have HVL := Lib.hid hvl
          have HO := Lib.hid hown
          have HLEN1 := Lib.hid hlen1
          clear hsub hsub1 hvl hown hlies hlen1
          generalize L[k].toNat = c at *
          generalize digVal (L.take k) = n at *
          generalize hXe : limbs n = X at *
          have HXE := Lib.hid hXe
          clear hXe
          obtain ⟨d, hd⟩ : ∃ d, d = c - 48 := ⟨_, rfl⟩
          rw [← hd] at htk HLEN1
          have ed : IntKind.wrap .u8 ((c : Int) - 48) = (d : Int) := by rw [IntKind.wrap_u8]; omega
          have ed2 : ((c : Int) - 48) % 256 = (d : Int) := by omega
          have hd9 : d ≤ 9 := by omega
          clear hd
          go_wp2_with fail
          clear hc hdd ed ed2
          obtain ⟨wo, rfl⟩ : ∃ wo : World, wo = wr := ⟨_, rfl⟩
          go_loopw [9, 39] (fun c i wr => ∃ (j : Nat) (X' : List Nat) (cr : Nat), j ≤ X.length ∧ i = .int .i64 j ∧ c = .int .u64 cr ∧ cr ≤ 9 ∧ X'.length = X.length ∧ val (X'.take j) + cr * B32 ^ j = 10 * val (X.take j) + d ∧ X'.drop j = X.drop j ∧ OwnU wr w2.heap.size (.slice a X.length cap) X' ∧ Below w2.heap.size w2 wr) (fun _ i _ => X.length - (intOf i).toNat)
          case atStart => exact ⟨0, X, d, Nat.zero_le _, rfl, rfl, hd9, rfl, by simp [val], rfl, HO.out, BW.out⟩
          case round =>
            obtain ⟨j, X', cr, hj, rfl, rfl, hcr, hxl, hv, hdr, hown', hbw'⟩ := hrel
            have HV := Lib.hid hv; have HXL := Lib.hid hxl; have HDR := Lib.hid hdr; have HO' := Lib.hid hown'; have BW' := Lib.hid hbw'
            have hBs' := hbw'.size
            clear hv hxl hdr hbw'
            by_cases hjl : j < X.length
            · have hjX : j < X'.length := by rw [HXL.out]; exact hjl
              obtain ⟨gx, rfl, _, hgb, hrow⟩ := hown'.row (by omega)
              have hxj : X'[j] = X[j] := by
                have h1 := List.drop_eq_getElem_cons hjX
                have h2 := List.drop_eq_getElem_cons hjl
                rw [HDR.out, h2] at h1; exact (List.cons.inj h1).1.symm
              have hcx := hrow.cell j hjX
              have hfx := hrow.frozen j
              have hltg := hrow.ltg
              have hxl4 : X'[j] < 4294967296 := hrow.lt _ (List.getElem_mem hjX)
              obtain ⟨y, hy⟩ : ∃ y, y = (cr + X[j] * 10) % B32 := ⟨_, rfl⟩
              obtain ⟨c2, hc2⟩ : ∃ c2, c2 = (cr + X[j] * 10) / B32 := ⟨_, rfl⟩
              have HST := parse_step hjl HXL.out HDR.out HV.out
              rw [← hy, ← hc2] at HST
              have HST := Lib.hid HST
              have hyl : y < B32 := by rw [hy]; exact Nat.mod_lt _ (by decide)
              have ey : ((cr : Int) + X'[j] * 10) % 4294967296 = (y : Int) := by rw [hy, hxj, B32]; omega
              have ec : ((cr : Int) + X'[j] * 10) / 4294967296 = (c2 : Int) := by rw [hc2, hxj, B32]; omega
              have hc29 : c2 ≤ 9 := by rw [hc2, ← hxj, B32]; omega
              have HRS := Lib.hid (hrow.set j y hjX hyl)
              have HDS : Hid ((X'.set j y).drop (j + 1) = X.drop (j + 1)) := by
                show (X'.set j y).drop (j + 1) = X.drop (j + 1)
                rw [List.drop_set_of_lt (by omega)]
                have := congrArg (List.drop 1) HDR.out
                simpa [List.drop_drop] using this
              have HYL := Lib.hid hyl
              clear hy hc2 hxj hyl hrow hown'
              generalize X'[j] = xj at *
              clear hjX
              go_wp2_with fail
              go_roundw
              case rel => exact ⟨j + 1, X'.set j y, c2, by omega, by go_num, rfl, hc29, by simp [HXL.out], HST.out, HDS.out, by have h5 := HRS.out.own hgb; rw [List.length_set, HXL.out] at h5; exact h5, BW'.out.setCell hgb _⟩
              case measure => simp [intOf]; omega
            · obtain rfl : j = X.length := by omega
              have hv' := HV.out
              rw [List.take_length, List.take_of_length_le (by rw [HXL.out]; exact Nat.le_refl _), HVL.out] at hv'
              have hlt' := hown'.lt
              by_cases hc0 : cr = 0
              · subst hc0
                have hX' : X' = limbs (10 * n + d) := parse_done0 hlt' (by rw [HXE.out]; exact HXL.out) (by rw [← hv']; simp) (by omega)
                have hown2 := hown'
                rw [hX', ← htk.out] at hown2
                have HO2 := Lib.hid hown2
                clear hv' hlt' hX' hown' hown2
                go_wp2_with fail
                go_roundw
                case rel => exact ⟨k + 1, by omega, by go_num, HO2.out, BW'.out⟩
                case measure => simp [intOf]; omega
              · have hX' : X' ++ [cr] = limbs (10 * n + d) := parse_done1 hlt' hc0 (by unfold B32; omega) (by rw [HXL.out]; exact hv')
                have hcr0 : 0 < cr := by omega
                have hcr1 : (cr : Int) % 4294967296 = cr := by omega
                have HO' := Lib.hid hown'
                have HX' := Lib.hid hX'
                have hxl : X'.length = X.length := HXL.out
                have hll : X.length + 1 ≤ 256 := by
                  have := congrArg List.length hX'
                  simp at this
                  have := HLEN1.out
                  omega
                clear hv' hlt' hX' hown' hc0
                have hdl2 := HLEN1.out
                rw [← htk.out] at hdl2
                go_wp2_with (
                  at_builtin
                  refine wpList_app1 _ rfl _ _ rfl w2.heap.size _ X' rfl (OwnU.alloc HO'.out _) wr.heap.size cr rfl (by simp [go_sem]) (by unfold B32; omega) (by simp; omega) (by omega) ?_
                  intro v1 w3 hown1 hgr1
                  rw [HX'.out, ← htk.out] at hown1
                  have HO1 := Lib.hid hown1
                  have HB1 := Lib.hid ((BW'.out.alloc hBs' _).grown hgr1 (by simp; omega) (fun x hx => (HO'.out.own.lt x hx).1))
                  obtain ⟨a1, cap1, rfl, hlies1⟩ := hown1.lies
                  clear hown1 hgr1 hlies1
                  generalize hZ : limbs (digVal (L.take (k + 1))) = Z at *
                  have HZ := Lib.hid hZ
                  clear hZ)
                go_roundw
                case rel => exact ⟨k + 1, by omega, by go_num, by rw [HZ.out]; exact HO1.out, HB1.out⟩
                case measure => simp [intOf]; omega
        · obtain rfl : k = L.length := by omega
          rw [List.take_length] at *
          have HL := Lib.hid hlies
          have hle := hlies.le
          clear hlies hown hsub
          go_wp2_with fail
          refine (clip_any _ _ cap _ hle).mono ?_
          rintro e w3 ⟨rfl, rfl⟩
          go_wp2_with fail
          go_ret2
          exact ⟨_, rfl, ⟨_, _, rfl, HL.out.clip⟩, by rw [HG1.out]; exact HB2.out.trans (BW.out.mono (by omega))⟩
end Go.Proofs.YtcipmfjefmjacaaGreatDoor
