/- Several texts in one (L7, R12, L10, K4, K5, K1, K6, K7, K8). -/
import Derived.Test.YtkpikkeblogdcaaDoorM5
section
/- thresherlaw03: below. -/
namespace Go.Proofs.YtkpikkeblogdcaaDoor
open Go.RowKit
set_option linter.unusedVariables false

/-- the block of a string's bytes -/
structure RowM (w : World) (g : Nat) (L : List UInt8) : Prop where
  row : ∃ cur, w.heap[g]? = some (.cells cur 5 (cur.size, cur.size + 1)) ∧ ∀ i (h : i < L.length), cur[i]? = some (.int .u8 (L[i].toNat : Nat))
theorem RowM.ltg {w : World} {g : Nat} {L : List UInt8} (h : RowM w g L) : g < w.heap.size := by
  obtain ⟨cur, hg, ht⟩ := h.row
  exact lt_of_heap hg
theorem RowM.cell {w : World} {g : Nat} {L : List UInt8} (h : RowM w g L) (i : Nat) (hi : i < L.length) : w.cell? ⟨g, i, none⟩ = some (.int .u8 (L[i].toNat : Nat)) := by
  obtain ⟨cur, hg, ht⟩ := h.row
  simp [World.cell?, hg, ht i hi]
theorem RowM.frozen {w : World} {g : Nat} {L : List UInt8} (h : RowM w g L) (i : Nat) (hi : i < L.length) : w.frozen? ⟨g, i, none⟩ = false := by
  obtain ⟨cur, hg, ht⟩ := h.row
  have h1 : i < cur.size := by
    rcases Nat.lt_or_ge i cur.size with h | h
    · exact h
    · have := ht i hi
      rw [Array.getElem?_eq_none (by omega)] at this; cases this
  simp [World.frozen?, hg]
  omega
theorem RowM.set {w : World} {g : Nat} {L : List UInt8} (h : RowM w g L) (i y : Nat) (hi : i < L.length) (hy : y < 256) : RowM (w.setCell ⟨g, i, none⟩ (.int .u8 (y : Nat))) g (L.set i (UInt8.ofNat y)) := by
  obtain ⟨cur, hg, ht⟩ := h.row
  refine ⟨cur.setIfInBounds i (.int .u8 (y : Nat)), by rw [setCell_heap_same hg i _]; simp, fun j hj => ?_⟩
  rw [List.length_set] at hj
  rw [List.getElem_set, Array.getElem?_setIfInBounds]
  have h1 : i < cur.size := by
    rcases Nat.lt_or_ge i cur.size with h | h
    · exact h
    · have := ht i hi
      rw [Array.getElem?_eq_none (by omega)] at this; cases this
  by_cases hij : i = j
  · subst hij
    rw [if_pos rfl, if_pos h1, if_pos rfl, UInt8.toNat_ofNat', Nat.mod_eq_of_lt hy]
  · rw [if_neg hij, if_neg hij]
    exact ht j hj

theorem wpList_bytesM (w : World) {ops : Array Oper} {rest : List Oper} {o : Oper} {a : Act} {Q : Exit → Act → World → Prop} (hg : o.guard = none) (x : Operand) (ho : o.op = .convert 9 57 x) (s : ByteArray) (hx : a.eval x = .string s)
    (hK : ∀ cap w', RowM w' w.heap.size s.data.toList → Below w.heap.size w w' → w'.heap.size = w.heap.size + 1 → wpList Tryd.prog ops Q rest (a.put o.dst (.slice (some ⟨w.heap.size, 0, none⟩) s.size cap)) w') : wpList Tryd.prog ops Q (o :: rest) a w := by
  have hr := Lib.run_convert_string_bytes (P := Tryd.prog) w 9 57 5 s undStr undBytes undByte
  refine wpList_plain hg fun K' hK' => ?_
  unfold Oper.wp
  simp [execOp, ho, hx, hr, Result.andThen]
  refine hK' _ _ (hK _ _ ?_ (Go.Joins.below_bytesWorld _ _ _ _ (Nat.le_refl _)) (Lib.bytesWorld_size _ _ _))
  refine ⟨_, Lib.bytesWorld_at_new w 5 s, fun i hi => ?_⟩
  have h1 := Lib.bytesWorld_cell w 5 s i (by simpa using hi)
  have h2 := Lib.bytesWorld_at_new w 5 s
  have h3 : (Lib.bytesCells w 5 s)[i]? = some (.int .u8 (s.data.toList.getD i 0).toNat) := by
    unfold World.cell? at h1
    rw [h2] at h1
    simpa using h1
  rw [h3]
  have h4 : i < s.data.size := by simpa using hi
  simp [List.getD, Array.getElem?_eq_getElem h4]

theorem digVal_app (a b : List UInt8) : digVal (a ++ b) = digVal a * 10 ^ b.length + digVal b := by
  unfold digVal
  rw [List.foldl_append]
  exact digVal_from b _
theorem digVal_nines : ∀ m : Nat, digVal (List.replicate m 57) + 1 = 10 ^ m
  | 0 => rfl
  | m + 1 => by
    rw [List.replicate_succ, digVal_cons, List.length_replicate]
    have h := digVal_nines m
    have e : (UInt8.toNat 57 - 48 : Nat) = 9 := by decide
    rw [e, Nat.pow_succ]
    omega
theorem digVal_noughts : ∀ m : Nat, digVal (List.replicate m 48) = 0
  | 0 => rfl
  | m + 1 => by
    rw [List.replicate_succ, digVal_cons, digVal_noughts m]
    have e : (UInt8.toNat 48 - 48 : Nat) = 0 := by decide
    rw [e, Nat.zero_mul]

/-- the row while the noughts at its end are made nines -/
def bel (l : List UInt8) (k : Nat) : List UInt8 := l.take k ++ List.replicate (l.length - k) 57
theorem bel_length (l : List UInt8) (k : Nat) (h : k ≤ l.length) : (bel l k).length = l.length := by simp [bel]; omega
theorem bel_full (l : List UInt8) : bel l l.length = l := by simp [bel]
theorem bel_at (l : List UInt8) (k : Nat) (h : k < l.length) : (bel l (k + 1))[k]'(by rw [bel_length _ _ h]; exact h) = l[k] := by
  unfold bel
  rw [List.getElem_append_left (by simp; omega)]
  simp
theorem bel_set (l : List UInt8) (k : Nat) (y : UInt8) (h : k < l.length) : (bel l (k + 1)).set k y = l.take k ++ y :: List.replicate (l.length - (k + 1)) 57 := by
  unfold bel
  rw [List.take_succ_eq_append_getElem h, List.append_assoc, List.set_append_right _ _ (by simp; omega)]
  congr 1
  simp [Nat.min_eq_left (Nat.le_of_lt h)]
theorem bel_nine (l : List UInt8) (k : Nat) (h : k < l.length) : (bel l (k + 1)).set k 57 = bel l k := by
  rw [bel_set l k 57 h]
  unfold bel
  rw [show l.length - k = l.length - (k + 1) + 1 by omega, List.replicate_succ]
theorem noughts_at {l : List UInt8} {k : Nat} (h : ∀ c ∈ l.drop k, c = 48) : l.drop k = List.replicate (l.length - k) 48 := by
  rw [List.eq_replicate_iff]
  exact ⟨by simp, h⟩
theorem bel_value (l : List UInt8) (k c : Nat) (h : k < l.length) (hc : l[k].toNat = c + 1) (h48 : 48 ≤ c) (hd : ∀ x ∈ l.drop (k + 1), x = 48) : digVal ((bel l (k + 1)).set k (UInt8.ofNat c)) + 1 = digVal l := by
  have hlt := l[k].toNat_lt
  have e1 : l = l.take k ++ l[k] :: l.drop (k + 1) := by rw [← List.drop_eq_getElem_cons h, List.take_append_drop]
  have e2 : digVal l = digVal (l.take k ++ l[k] :: l.drop (k + 1)) := by rw [← e1]
  rw [bel_set l k _ h, e2, digVal_app, digVal_app, digVal_cons, digVal_cons, noughts_at hd, digVal_noughts, hc, UInt8.toNat_ofNat', Nat.mod_eq_of_lt (by omega)]
  simp only [List.length_cons, List.length_replicate]
  have h9 := digVal_nines (l.length - (k + 1))
  obtain ⟨q, hq⟩ : ∃ q, c = 48 + q := ⟨c - 48, by omega⟩
  subst hq
  rw [show 48 + q - 48 = q by omega, show 48 + q + 1 - 48 = q + 1 by omega, Nat.add_mul]
  omega
theorem bel_digits {l : List UInt8} (h : Digits l) (k c : Nat) (hk : k < l.length) (hc : 48 ≤ c ∧ c ≤ 57) : Digits ((bel l (k + 1)).set k (UInt8.ofNat c)) := by
  rw [bel_set l k _ hk]
  intro x hx
  rcases List.mem_append.1 hx with h1 | h1
  · exact h x (List.mem_of_mem_take h1)
  · rcases List.mem_cons.1 h1 with rfl | h2
    · rw [UInt8.toNat_ofNat', Nat.mod_eq_of_lt (by omega)]; exact hc
    · rw [(List.mem_replicate.1 h2).2]; decide

set_option maxRecDepth 100000 in
set_option maxHeartbeats 4000000 in
theorem below_any (s : ByteArray) (w : World) (hd : Digits s.data.toList) (hl : s.data.toList.length ≤ 1000) :
    Calls Tryd.prog 25 #[.string s] w fun e w' => ∃ t : ByteArray, e = .returned (.string t) ∧ Digits t.data.toList ∧ t.data.toList.length ≤ max 1 s.data.toList.length ∧ t.data.toList ≠ [] ∧ digVal t.data.toList = digVal s.data.toList - 1 ∧ Below w.heap.size w w' := by
  have hsz : s.size = s.data.toList.length := by simp
  generalize hLe : s.data.toList = L at *
  have HLe := Lib.hid hLe
  have HD := Lib.hid hd
  clear hd hLe
  go_enter Tryd.func25, Tryd.ntmps25
  go_wp2_with (refine wpList_bytesM _ rfl _ rfl s rfl ?_; rw [HLe.out, hsz]; intro cap1 w1 hl1 hb1 hs1)
  generalize hg1 : w.heap.size = g at *
  have HL1 := Lib.hid hl1
  have HB1 := Lib.hid hb1
  clear hl1 hb1
  go_wp2_with fail
  go_loopw [4] (fun i wr => ∃ k : Nat, k ≤ L.length ∧ i = .int .i64 ((k : Int) - 1) ∧ RowM wr g (bel L k) ∧ (∀ c ∈ L.drop k, c = 48) ∧ Below g w wr) (fun i _ => (intOf i + 1).toNat)
  case atStart => exact ⟨L.length, Nat.le_refl _, rfl, by rw [bel_full]; exact HL1.out, by simp, HB1.out⟩
  case round =>
    obtain ⟨k, hk, rfl, hr, hz, hb⟩ := hrel
    rcases Nat.eq_zero_or_pos k with h0 | h0
    · subst h0
      have HZ := Lib.hid hz
      have HB := Lib.hid hb
      clear hz hb hr HL1 HB1
      go_wp2_with fail
      go_ret
      refine ⟨⟨#[48]⟩, rfl, digits_mk (by decide), by show 1 ≤ _; omega, by simp, ?_, by rw [hg1]; exact HB.out⟩
      have hz2 := noughts_at HZ.out
      rw [List.drop_zero] at hz2
      rw [hz2, digVal_noughts]
      decide
    · obtain ⟨j, rfl⟩ : ∃ j, k = j + 1 := ⟨k - 1, by omega⟩
      have hjl : j < L.length := by omega
      have hjb : j < (bel L (j + 1)).length := by rw [bel_length _ _ hk]; exact hjl
      have hc := hr.cell j hjb
      have hf := hr.frozen j hjb
      have hg := hr.ltg
      rw [bel_at L j hjl] at hc
      have hdd := HD.out _ (List.getElem_mem hjl)
      have ej : (((j + 1 : Nat) : Int) - 1) = (j : Int) := by omega
      rw [ej]
      have HR := Lib.hid hr
      have HZ := Lib.hid hz
      have HB := Lib.hid hb
      have hrl : RowM wr g (bel L (j + 1)) := hr
      clear hz hb hr HL1 HB1
      by_cases h48 : L[j].toNat = 48
      · rw [h48] at hc
        have hc' : wr.cell? ⟨g, j, none⟩ = some (.int .u8 48) := hc
        have HS : Hid (RowM (wr.setCell ⟨g, j, none⟩ (.int .u8 57)) g (bel L j)) := by
          have h := hrl.set j 57 hjb (by decide)
          rw [show UInt8.ofNat 57 = 57 by decide, bel_nine L j hjl] at h
          exact h
        have HZ2 : Hid (∀ c ∈ L.drop j, c = 48) := by
          intro c hc2
          rw [List.drop_eq_getElem_cons hjl] at hc2
          rcases List.mem_cons.1 hc2 with h | h
          · rw [h]; exact UInt8.toNat_inj.1 h48
          · exact HZ.out c h
        clear hc h48 hdd hrl
        go_wp2_with fail
        go_roundw
        case rel => exact ⟨j, by omega, by go_num, HS.out, HZ2.out, HB.out.setCell (Nat.le_refl _) _⟩
        case measure => simp [intOf]
      · obtain ⟨c, hcc⟩ : ∃ c, L[j].toNat = c + 1 := ⟨L[j].toNat - 1, by omega⟩
        rw [hcc] at hc
        have hc' : wr.cell? ⟨g, j, none⟩ = some (.int .u8 ((c : Int) + 1)) := hc
        have hcb : 48 ≤ c ∧ c ≤ 57 := by omega
        have HS := Lib.hid (hrl.set j c hjb (by omega))
        have HV := Lib.hid (bel_value L j c hjl hcc hcb.1 HZ.out)
        have HDD := Lib.hid (bel_digits HD.out j c hjl hcb)
        have hlen : ((bel L (j + 1)).set j (UInt8.ofNat c)).length = L.length := by rw [List.length_set, bel_length _ _ hk]
        generalize (bel L (j + 1)).set j (UInt8.ofNat c) = M at *
        clear hc h48 hdd hcc hrl
        go_wp2_with
          (refine wpList_string _ rfl _ rfl g cap1 M (by rw [hlen]; rfl) HS.out.cell ?_)

        go_ret
        refine ⟨⟨M.toArray⟩, rfl, HDD.out, by simp; omega, ?_, ?_, ?_⟩
        · intro h
          have h2 : M = [] := by simpa using h
          rw [h2] at hlen; simp at hlen; omega
        · have := HV.out
          show digVal M = _
          omega
        · rw [hg1]; exact HB.out.setCell (Nat.le_refl _) _
end Go.Proofs.YtkpikkeblogdcaaDoor
end

section
/- Plain: whole numbers below 2^53 as floats. -/
namespace Go.Proofs.YtkpikkeblogdcaaDoor
open Go

theorem kk_pos : 0 < kk := by unfold kk; exact pow2_pos _
theorem places {k : Nat} (h : k ≤ 52) : 52 - k + (k + 1022) = bias := by
  obtain ⟨d, hd⟩ : ∃ d, d = 52 - k := ⟨_, rfl⟩
  rw [← hd]
  have h2 : d + k = 52 := by omega
  rw [← Nat.add_assoc, h2]
  rfl
theorem whole_bits {n : Nat} (h : n < 9007199254740992) : FloatKind.f64.nearest (n : Int) < 9218868437227405312 ∧ mof (FloatKind.f64.nearest (n : Int)) * 2 ^ jof (FloatKind.f64.nearest (n : Int)) = n * kk := by
  have e2 : FloatKind.f64.format.binade = 4503599627370496 := by decide
  have e3 : FloatKind.f64.format.infRung = 9218868437227405312 := by decide
  have e4 : FloatKind.f64.format.leastPlace = -1074 := by decide
  have e5 : FloatKind.f64.format.fractionBits = 52 := by decide
  have e6 : FloatKind.f64.nearest (n : Int) = FloatKind.f64.format.nearest false n 0 := by
    unfold FloatKind.nearest FloatKind.encode Ieee.Format.write
    simp
    rw [decide_eq_false (by omega)]
  rw [e6]
  unfold Ieee.Format.nearest
  by_cases h0 : n = 0
  · subst h0
    rw [if_pos rfl]
    have e7 : FloatKind.f64.format.word false 0 = 0 := by decide
    rw [e7]
    refine ⟨by decide, ?_⟩
    rw [show mof 0 = 0 by decide, Nat.zero_mul, Nat.zero_mul]
  · rw [if_neg h0]
    have hlog := Nat.log2_lt h0 (k := 53)
    have hl1 : n.log2 < 53 := hlog.2 h
    have hl2 : 2 ^ n.log2 ≤ n := Nat.log2_self_le h0
    have hl3 : n < 2 ^ (n.log2 + 1) := Nat.lt_log2_self
    generalize n.log2 = k at *
    simp only [e2, e3, e4, e5]
    have e8 : max ((0 : Int) + (k : Int) - (52 : Nat)) (-1074) = (k : Int) - 52 := by omega
    rw [e8]
    have e9 : ((0 : Int) - ((k : Int) - 52)).toNat = 52 - k := by omega
    have e10 : ((k : Int) - 52 - 0).toNat = 0 := by omega
    have e11 : ((k : Int) - 52 - -1074).toNat = k + 1022 := by omega
    rw [e9, e10, e11]
    obtain ⟨m, hm⟩ : ∃ m, m = n * 2 ^ (52 - k) := ⟨_, rfl⟩
    have ecut : Ieee.Toward.even.cut false (n <<< (52 - k)) 0 = m := by
      rw [Nat.shiftLeft_eq, ← hm]
      unfold Ieee.Toward.cut
      simp [Nat.mod_one]
    rw [ecut]
    have hm1 : 2 ^ 52 ≤ m := by
      have h1 : 2 ^ k * 2 ^ (52 - k) ≤ n * 2 ^ (52 - k) := Nat.mul_le_mul_right _ hl2
      rw [← Nat.pow_add, show k + (52 - k) = 52 by omega] at h1
      omega
    have hm2 : m < 2 ^ 53 := by
      have h1 : n * 2 ^ (52 - k) < 2 ^ (k + 1) * 2 ^ (52 - k) := Nat.mul_lt_mul_of_pos_right hl3 (pow2_pos _)
      rw [← Nat.pow_add, show k + 1 + (52 - k) = 53 by omega] at h1
      omega
    have e7 : (2 : Nat) ^ 52 = 4503599627370496 := by decide
    have e7b : (2 : Nat) ^ 53 = 9007199254740992 := by decide
    rw [e7] at hm1
    rw [e7b] at hm2
    have hlt : (k + 1022) * 4503599627370496 + m < 9218868437227405312 := by omega
    have ew : FloatKind.f64.format.word false (min ((k + 1022) * 4503599627370496 + m) 9218868437227405312) = (k + 1022) * 4503599627370496 + m := by
      unfold Ieee.Format.word
      rw [Nat.min_eq_left (Nat.le_of_lt hlt)]
      rfl
    rw [ew]
    refine ⟨hlt, ?_⟩
    have hj : jof ((k + 1022) * 4503599627370496 + m) = k + 1022 := by unfold jof; rw [e7]; omega
    have hmm : mof ((k + 1022) * 4503599627370496 + m) = m := by unfold mof; rw [e7, if_neg (by omega)]; omega
    rw [hj, hmm, hm, Nat.mul_assoc, ← Nat.pow_add]
    have eb := places (show k ≤ 52 by omega)
    exact congrArg (fun z => n * 2 ^ z) eb
theorem scaledN_whole {B n : Nat} (k : Nat) (hB : B < 9218868437227405312) (hv : mof B * 2 ^ jof B = n * kk) : scaledN B (k : Int) = n * 10 ^ k := by
  have h1 := value_P hB (k : Int)
  have e1 : ((k : Int)).toNat = k := rfl
  have hQ : denQ B (k : Int) = 2 ^ (-(expo B)).toNat := by
    unfold denQ
    rw [show (-(k : Int)).toNat = 0 by omega, Nat.pow_zero, Nat.one_mul]
  have hk : 0 < kk := kk_pos
  have h2 : numP B (k : Int) = n * 10 ^ k * denQ B (k : Int) := by
    rw [← Nat.mul_assoc, hv, e1] at h1
    rw [hQ]
    refine Nat.eq_of_mul_eq_mul_right hk ?_
    rw [← h1]
    generalize kk = K
    ac_rfl
  have h3 : scaledN B (k : Int) = rnd (numP B (k : Int)) (denQ B (k : Int)) := rfl
  rw [h3, h2]
  have hQ0 := denQ_pos B (k : Int)
  exact rnd_close (by omega) (by omega)
theorem canon_shift {l : List UInt8} {n : Nat} (h : Canon l n) (hn : 0 < n) (k : Nat) : Canon (l ++ List.replicate k 48) (n * 10 ^ k) := by
  obtain ⟨c, r, rfl, hc⟩ := canon_pos_text h hn
  refine ⟨by simp, ?_, ?_, ?_⟩
  · intro x hx
    rcases List.mem_append.1 hx with h1 | h1
    · exact h.dig x h1
    · rw [(List.mem_replicate.1 h1).2]; decide
  · rw [digVal_app, digVal_noughts, h.val, List.length_replicate, Nat.add_zero]
  · intro c' r' he h48
    rw [List.cons_append] at he
    injection he with h1 h2
    exact absurd (UInt8.toNat_inj.1 (h1 ▸ h48)) hc
theorem fixedL_zero {l : List UInt8} (h : l ≠ []) : fixedL l 0 = l := by
  have h1 : ¬ l.length ≤ 0 := by have := List.length_pos_iff.2 h; omega
  simp [fixedL, h1]
theorem fixedL_whole {l l2 : List UInt8} {n k : Nat} (h : Canon l n) (h2 : Canon l2 (n * 10 ^ k)) (hk : 0 < k) : fixedL l2 k = l ++ 46 :: List.replicate k 48 := by
  rcases Nat.eq_zero_or_pos n with hn | hn
  · subst hn
    rw [Nat.zero_mul] at h2
    rw [canon_zero_text h, canon_zero_text h2]
    unfold fixedL
    simp only [List.length_singleton]
    rw [if_pos (show 1 ≤ k by omega), if_pos hk]
    have e : List.replicate (k + 1 - 1) 48 ++ [48] = (48 : UInt8) :: List.replicate k 48 := by
      rw [Nat.add_sub_cancel, ← List.replicate_succ', List.replicate_succ]
    rw [e]
    simp only [List.length_cons, List.length_replicate]
    rw [Nat.add_sub_cancel_left]
    rfl
  · have e := canon_unique h2 (canon_shift h hn k)
    subst e
    have hl := List.length_pos_iff.2 h.ne
    unfold fixedL
    simp only
    have hle : ¬ (l ++ List.replicate k 48).length ≤ k := by rw [List.length_append, List.length_replicate]; omega
    rw [if_pos hk, if_neg hle]
    simp
theorem readB_whole {l : List UInt8} {n k B : Nat} (h : Canon l n) (hl : l.length ≤ 20) (hk : k ≤ 20) (hB : B < 9218868437227405312) (hv : mof B * 2 ^ jof B = n * kk) : readB (List.replicate k 48 ++ l ++ List.replicate k 48) (-(k : Int)) = B := by
  have e0 : bare (List.replicate k 48 ++ l ++ List.replicate k 48) = bare (l ++ List.replicate k 48) := by
    rw [List.append_assoc, bare_zeros]
  rcases Nat.eq_zero_or_pos n with hn | hn
  · subst hn
    have hb : bare (l ++ List.replicate k 48) = [] := by
      rw [canon_zero_text h, List.singleton_append, bare_nought, bare_all]
    rw [readB_nil (e0.trans hb)]
    rw [Nat.zero_mul] at hv
    have hm0 : mof B = 0 := by
      rcases Nat.mul_eq_zero.1 hv with h | h
      · exact h
      · have := pow2_pos (jof B); omega
    have hp := bits_parts B
    have hg := mof_ge B
    rcases hg with hg | hg
    · rw [hm0, hg] at hp; omega
    · omega
  · have hc := canon_shift h hn k
    have hb : bare (l ++ List.replicate k 48) = l ++ List.replicate k 48 := bare_pos_text hc (Nat.mul_pos hn (Nat.pow_pos (by decide)))
    have hbl : (bare (List.replicate k 48 ++ l ++ List.replicate k 48)).length = l.length + k := by rw [e0, hb]; simp
    have hl0 := List.length_pos_iff.2 h.ne
    rw [readB_near (by omega) (by omega) (by omega) (by omega) (by omega), e0, hb, hc.val]
    have e1 : (-(k : Int)).toNat = 0 := by omega
    have e2 : (- -(k : Int)).toNat = k := by omega
    rw [e1, e2, Nat.pow_zero, Nat.mul_one]
    refine near_exact (Nat.pow_pos (by decide)) ?_ (Nat.le_of_lt hB)
    rw [← Nat.mul_assoc, hv]
    generalize kk = K
    ac_rfl
end Go.Proofs.YtkpikkeblogdcaaDoor
end

section
/- thresherlaw03: DecWhole. -/
namespace Go.Proofs.YtkpikkeblogdcaaDoor
open Go.RowKit
set_option linter.unusedVariables false

theorem bytes_ext {s t : ByteArray} (h : s.data.toList = t.data.toList) : s = t := by
  cases s; cases t
  simp only at h
  rw [Array.toList_inj.1 h]

/-- so many noughts -/
def zb (j : Nat) : ByteArray := ⟨(List.replicate j 48).toArray⟩
theorem zb_list (j : Nat) : (zb j).data.toList = List.replicate j 48 := by simp [zb]
theorem zb_size (j : Nat) : (zb j).size = j := by
  have h := congrArg List.length (zb_list j)
  simpa using h
theorem zb_succ (j : Nat) : zb j ++ ⟨#[48]⟩ = zb (j + 1) := bytes_ext (by simp [zb_list, List.replicate_succ'])

set_option maxRecDepth 100000 in
set_option maxHeartbeats 4000000 in
theorem whole_any (n0 : Nat) (k0 : Int) (w : World) (hn : n0 < 18446744073709551616) (hk1 : -9223372036854775808 ≤ k0) (hk2 : k0 ≤ 9223372036854775807) :
    Calls Tryd.prog 7 #[.int .u64 n0, .int .i64 k0] w fun e w' => e = .returned (.bool true) ∧ Below w.heap.size w w' := by
  obtain ⟨n, hn1⟩ : ∃ n, n = n0 % 9007199254740992 := ⟨_, rfl⟩
  have en : (n0 : Int) % 9007199254740992 = (n : Int) := by omega
  have hnl : n < 9007199254740992 := by omega
  obtain ⟨k, hk⟩ : ∃ k : Nat, (k : Int) = min (max k0 0) 20 := ⟨(min (max k0 0) 20).toNat, by omega⟩
  have ek : min (max k0 0) 20 = (k : Int) := hk.symm
  have hkl : k ≤ 20 := by omega
  clear hk hk1 hk2 hn1
  obtain ⟨hB, hV⟩ := whole_bits hnl
  obtain ⟨B, hBe⟩ : ∃ B, B = FloatKind.f64.nearest (n : Int) := ⟨_, rfl⟩
  have eB : floatOfInt FloatKind.f64 (n : Int) = B := hBe.symm
  rw [← hBe] at hB hV
  have hfin : fin B = true := (fin_lt_inf (by omega)).2 hB
  have HF0 := Lib.hid (fun W => Fixed_ok B 0 W (by omega) hfin (by omega))
  have HFk := Lib.hid (fun W => Fixed_ok B k W (by omega) hfin (by omega))
  have hS0 : scaledN B ((0 : Nat) : Int) = n := by rw [scaledN_whole 0 hB hV, Nat.pow_zero, Nat.mul_one]
  have hSk := scaledN_whole k hB hV
  have HV := Lib.hid hV
  have HT := Lib.hid (fun W => text_any n W (by omega))
  have ho := order_eq (Nat.le_of_lt hB)
  clear hV hBe hfin
  go_enter Tryd.func7, Tryd.ntmps7
  go_wp2_with fail
  refine (fixed_any w).mono ?_
  rintro e w1 ⟨rfl, hb1⟩
  have HB1 := Lib.hid hb1
  have hs1 := hb1.size
  clear hb1
  go_wp2_with fail
  refine (HF0.out w1).mono ?_
  rintro e w2 ⟨s, l0, rfl, hc0, hs0, hb2⟩
  rw [hS0] at hc0
  rw [fixedL_zero hc0.ne] at hs0
  rw [← hs0] at hc0
  have HC := Lib.hid hc0
  have HB2 := Lib.hid (HB1.out.trans (hb2.mono hs1))
  have hs2 := hb2.size
  clear hb2 HB1 hc0 hs0 HF0
  go_wp2_with fail
  refine (HFk.out w2).mono ?_
  rintro e w3 ⟨t, l2, rfl, hc2, ht2, hb3⟩
  have HB3 := Lib.hid (HB2.out.trans (hb3.mono (by omega)))
  have hs3 := hb3.size
  rw [hSk] at hc2
  have HT2 : Hid ((k = 0 → t = s) ∧ (0 < k → t = s ++ ⟨#[46]⟩ ++ (zb k))) := by
    refine ⟨fun h => ?_, fun h => ?_⟩
    · subst h
      rw [Nat.pow_zero, Nat.mul_one] at hc2
      rw [fixedL_zero hc2.ne] at ht2
      exact bytes_ext (by rw [ht2, canon_unique hc2 HC.out])
    · rw [fixedL_whole HC.out hc2 h] at ht2
      exact bytes_ext (by rw [ht2]; simp [zb])
  clear hb3 HB2 hc2 ht2 HFk hSk hS0
  go_wp2_with fail
  go_loop [9, 10] (fun z i => ∃ j : Nat, j ≤ k ∧ i = .int .i64 j ∧ z = .string (zb j)) (fun _ i => k - (intOf i).toNat)
  case atStart => exact ⟨0, Nat.zero_le _, rfl, rfl⟩
  case round =>
    obtain ⟨j, hj, rfl, rfl⟩ := hrel
    by_cases hlt : j < k
    · have hji : (j : Int) < (k : Int) := by omega
      have hzs : (zb j).size ≤ 20 := by rw [zb_size]; omega
      go_wp2_with fail
      go_round
      case rel => exact ⟨j + 1, by omega, by go_num, by rw [zb_succ]⟩
      case measure => simp [intOf]; omega
    · obtain rfl : j = k := by omega
      go_wp2_with fail
      refine (HT.out w3).mono ?_
      rintro e w4 ⟨s', rfl, hc4, hl4, hb4⟩
      obtain rfl : s' = s := bytes_ext (canon_unique hc4 HC.out)
      have HB4 := Lib.hid (HB3.out.trans (hb4.mono (by omega)))
      have hs4 := hb4.size
      have hsl : s'.size ≤ 20 := by simpa using hl4
      have hzs : (zb j).size ≤ 20 := by rw [zb_size]; omega
      have hR : Hid (∀ W, Calls Tryd.prog 14 #[.string (zb j ++ s' ++ zb j), .int .i64 (-(j : Int))] W fun e w' => e = .returned (.tuple #[.float .f64 B, .int .i64 0]) ∧ Below W.heap.size W w') := by
        intro W
        have hd : (zb j ++ s' ++ zb j : ByteArray).data.toList = List.replicate j 48 ++ s'.data.toList ++ List.replicate j 48 := by simp [zb_list]
        have h := Read_ok (zb j ++ s' ++ zb j) (-(j : Int)) W (by rw [hd]; intro h; have h3 := List.length_pos_iff.2 hc4.ne; have h2 := congrArg List.length h; rw [List.length_append, List.length_append, List.length_nil] at h2; omega) (by
          rw [hd]; intro c hc
          rcases List.mem_append.1 hc with h | h
          · rcases List.mem_append.1 h with h | h
            · exact zeros_digits _ c h
            · exact hc4.dig c h
          · exact zeros_digits _ c h) (by rw [hd, List.length_append, List.length_append, List.length_replicate]; omega) (by omega) (by omega)
        rw [hd, readB_whole hc4 hl4 hkl hB HV.out] at h
        exact h
      clear hb4 HB3 hc4 hl4 HC HT HV
      rcases Nat.eq_zero_or_pos j with h0 | h0
      · have htt := HT2.out.1 h0
        subst h0 htt
        clear HT2
        have hR0 := hR.out w4
        rw [show (-((0 : Nat) : Int)) = 0 by rfl] at hR0
        clear hR
        go_wp2_with fail
        refine hR0.mono ?_
        rintro e w5 ⟨rfl, hb5⟩
        have HB5 := Lib.hid (HB4.out.trans (hb5.mono (by omega)))
        clear hb5 HB4 hR0
        go_wp2_with fail
        go_ret
        exact ⟨rfl, HB5.out⟩
      · have htt := HT2.out.2 h0
        subst htt
        have h0' : 0 < (j : Int) := by omega
        clear HT2
        go_wp2_with fail
        refine (hR.out w4).mono ?_
        rintro e w5 ⟨rfl, hb5⟩
        have HB5 := Lib.hid (HB4.out.trans (hb5.mono (by omega)))
        clear hb5 HB4 hR
        go_wp2_with fail
        go_ret
        exact ⟨rfl, HB5.out⟩
end Go.Proofs.YtkpikkeblogdcaaDoor
end

section
/- Package num: signed, Trunc. -/
namespace Go.Proofs.YtkpikkeblogdcaaDoor
open Go.RowKit
set_option linter.unusedVariables false

theorem top_bit {b : Nat} (h : b < 18446744073709551616) : b &&& 2 ^ 63 = b / 9223372036854775808 * 9223372036854775808 := by
  have e63 : (2 : Nat) ^ 63 = 9223372036854775808 := by decide
  refine Nat.eq_of_testBit_eq fun i => ?_
  rw [Nat.testBit_and, Nat.testBit_two_pow]
  rcases Nat.lt_or_ge b 9223372036854775808 with h1 | h1
  · rw [Nat.div_eq_of_lt h1, Nat.zero_mul, Nat.zero_testBit]
    by_cases hi : 63 = i
    · subst hi
      rw [Nat.testBit_lt_two_pow (by omega)]; rfl
    · rw [decide_eq_false hi, Bool.and_false]
  · have h2 : b / 9223372036854775808 = 1 := by omega
    rw [h2, Nat.one_mul, ← e63, Nat.testBit_two_pow]
    by_cases hi : 63 = i
    · subst hi
      obtain ⟨r, hr⟩ : ∃ r, b = 2 ^ 63 + r := ⟨b - 2 ^ 63, by omega⟩
      rw [hr, Nat.testBit_two_pow_add_eq, Nat.testBit_lt_two_pow (by omega)]; rfl
    · rw [decide_eq_false hi, Bool.and_false]
theorem and63 (b : Nat) (h : b < 18446744073709551616) : bits .and .u64 (b : Int) 9223372036854775808 = ((b / 9223372036854775808 * 9223372036854775808 : Nat) : Int) := by
  have h1 := u64_and_nat b 9223372036854775808 h (by decide)
  rw [show b &&& 9223372036854775808 = b / 9223372036854775808 * 9223372036854775808 from top_bit h] at h1
  exact h1
theorem or63 (x s : Nat) (h : x < 9223372036854775808) (hs : s < 2) : bits .or .u64 (x : Int) ((s * 9223372036854775808 : Nat) : Int) = ((x + s * 9223372036854775808 : Nat) : Int) := by
  have h1 := u64_or_nat x (s * 9223372036854775808) (by omega) (by omega)
  rw [h1]
  congr 1
  rw [Nat.or_comm, Nat.add_comm, Nat.mul_comm, show (9223372036854775808 : Nat) = 2 ^ 63 by decide]
  exact (Nat.two_pow_add_eq_or_of_lt h s).symm

theorem Abs_any (b : Nat) (w : World) (h : b < 18446744073709551616) : Calls Tryd.prog 52 #[.float .f64 b] w fun e w' => e = .returned (.float .f64 (b % 9223372036854775808)) ∧ w = w' := by
  have hm := mask63 b h
  generalize b % 9223372036854775808 = c at *
  clear h
  go_enter Tryd.func52, Tryd.ntmps52
  go_wp2_with fail
  go_ret
  exact ⟨rfl, rfl⟩
theorem signed_any (x like : Nat) (w : World) (hx : x < 9223372036854775808) (hl : like < 18446744073709551616) :
    Calls Tryd.prog 54 #[.float .f64 x, .float .f64 like] w fun e w' => e = .returned (.float .f64 (x + like / 9223372036854775808 * 9223372036854775808)) ∧ w = w' := by
  have h1 := and63 like hl
  have h2 := or63 x (like / 9223372036854775808) hx (by omega)
  generalize like / 9223372036854775808 * 9223372036854775808 = c at *
  generalize x + c = d at *
  clear hx hl
  go_enter Tryd.func54, Tryd.ntmps54
  go_wp2_with fail
  go_ret
  exact ⟨rfl, rfl⟩

/-- what stands ahead of the point -/
def truncB (b : Nat) : Nat :=
  if fin b = false ∨ 0 ≤ expo b then b
  else FloatKind.f64.nearest ((mant b / 2 ^ (-(expo b)).toNat : Nat) : Int) + b / 9223372036854775808 * 9223372036854775808
theorem shr_min {m k : Nat} (h : m < 9007199254740992) : m / 2 ^ (min k 63) = m / 2 ^ k := by
  rcases Nat.lt_or_ge k 64 with h1 | h1
  · rw [Nat.min_eq_left (by omega)]
  · rw [Nat.min_eq_right (by omega)]
    have h2 := p2_le (a := 53) (b := 63) (by omega)
    have h3 := p2_le (a := 53) (b := k) (by omega)
    have h4 : (2 : Nat) ^ 53 = 9007199254740992 := by decide
    rw [Nat.div_eq_of_lt (by omega), Nat.div_eq_of_lt (by omega)]

set_option maxRecDepth 100000 in
set_option maxHeartbeats 4000000 in
theorem Trunc_any (b : Nat) (w : World) (hb : b < 18446744073709551616) :
    Calls Tryd.prog 30 #[.float .f64 b] w fun e w' => e = .returned (.float .f64 (truncB b)) ∧ w = w' := by
  have HP := Lib.hid (Parts_any b w hb)
  have hm := mant_lt b
  have hx := expo_bounds (b := b)
  have hT : Hid (truncB b = if fin b = false ∨ 0 ≤ expo b then b else FloatKind.f64.nearest ((mant b / 2 ^ (-(expo b)).toNat : Nat) : Int) + b / 9223372036854775808 * 9223372036854775808) := rfl
  generalize truncB b = T at *
  generalize mant b = m at *
  generalize expo b = x at *
  generalize fin b = f at *
  go_enter Tryd.func30, Tryd.ntmps30
  go_wp2_with fail
  refine HP.out.mono ?_
  rintro e w1 ⟨rfl, rfl⟩
  clear HP
  cases f
  · have hT2 : Hid (T = b) := by show _ = _; rw [hT.out, if_pos (.inl rfl)]
    clear hT
    go_wp2_with fail
    go_ret
    exact ⟨by rw [hT2.out]; rfl, rfl⟩
  · rcases Int.lt_or_le x 0 with h0 | h0
    · obtain ⟨q, hq⟩ : ∃ q, q = m / 2 ^ (-x).toNat := ⟨_, rfl⟩
      have hT2 : Hid (T = FloatKind.f64.nearest (q : Int) + b / 9223372036854775808 * 9223372036854775808) := by
        show _ = _; rw [hT.out, if_neg (by simp; omega), hq]
      obtain ⟨k, hk⟩ : ∃ k : Nat, k = (-x).toNat := ⟨_, rfl⟩
      have ek : -x = (k : Int) := by omega
      obtain ⟨k2, hk2⟩ : ∃ k2 : Nat, k2 = min k 63 := ⟨_, rfl⟩
      have ek2 : min (k : Int) 63 = (k2 : Int) := by omega
      have hq2 : m / 2 ^ k2 = q := by rw [hk2, shr_min hm, hq, hk]
      have eF : (m : Int) / 2 ^ k2 = (q : Int) := by rw [← hq2, Int.natCast_ediv, Int.natCast_pow]; rfl
      have hqm : q < 9007199254740992 := by rw [← hq2]; exact Nat.lt_of_le_of_lt (Nat.div_le_self _ _) hm
      obtain ⟨F, hF⟩ : ∃ F, F = floatOfInt FloatKind.f64 (q : Int) := ⟨_, rfl⟩
      have eF2 : floatOfInt FloatKind.f64 (q : Int) = F := hF.symm
      have hFl : F < 9223372036854775808 := by
        have h := (whole_bits hqm).1
        rw [hF]
        exact Nat.lt_trans h (by decide)
      have HS := Lib.hid (signed_any F b w hFl hb)
      have hT3 : Hid (T = F + b / 9223372036854775808 * 9223372036854775808) := by show _ = _; rw [hT2.out, hF]; rfl
      clear hT hq hk hk2 hq2 hT2 hF
      go_wp2_with fail
      refine HS.out.mono ?_
      rintro e w1 ⟨rfl, rfl⟩
      go_wp2_with fail
      go_ret
      exact ⟨by rw [hT3.out]; rfl, rfl⟩
    · have hT2 : Hid (T = b) := by show _ = _; rw [hT.out, if_pos (.inr h0)]
      clear hT
      go_wp2_with fail
      go_ret
      exact ⟨by rw [hT2.out]; rfl, rfl⟩
end Go.Proofs.YtkpikkeblogdcaaDoor
end

section
/- Package num: Whole; floats with a sign compared. -/
namespace Go.Proofs.YtkpikkeblogdcaaDoor
open Go.RowKit
set_option linter.unusedVariables false

theorem read_neg {a : Nat} (h : a < 9218868437227405312) : FloatKind.f64.format.read (a + 9223372036854775808) = .number true (mof a) ((jof a : Int) - 1074) := by
  have e1 : FloatKind.f64.format.signWeight = 9223372036854775808 := by decide
  have e2 : FloatKind.f64.format.binade = 4503599627370496 := by decide
  have e3 : FloatKind.f64.format.infRung = 9218868437227405312 := by decide
  have e4 : FloatKind.f64.format.leastPlace = -1074 := by decide
  have e5 : ((a + 9223372036854775808) / 9223372036854775808 % 2 == 1) = true := by
    rw [Nat.add_div_right _ (by decide), Nat.div_eq_of_lt (by omega)]; rfl
  have e6 : (a + 9223372036854775808) % 9223372036854775808 = a := by rw [Nat.add_mod_right]; exact Nat.mod_eq_of_lt (by omega)
  unfold Ieee.Format.read
  simp only [e1, e2, e3, e4, e5, e6]
  have e7 : (2 : Nat) ^ 52 = 4503599627370496 := by decide
  unfold mof jof
  rw [e7]
  clear e5 e6
  by_cases hs : a < 4503599627370496
  · rw [if_pos hs, if_pos (Nat.div_eq_of_lt hs), Nat.div_eq_of_lt hs]
    rfl
  · have h8 : 4503599627370496 + a % 4503599627370496 = a % 4503599627370496 + 4503599627370496 := Nat.add_comm _ _
    have h9 : -1074 + ((a / 4503599627370496 - 1 : Nat) : Int) = ((a / 4503599627370496 - 1 : Nat) : Int) - 1074 := by omega
    have h10 : a / 4503599627370496 ≠ 0 := by omega
    rw [if_neg hs, if_pos h, if_neg h10, h8, h9]
/-- how a datum's number compares: the values over the least step -/
theorem order_num (s t : Bool) (a c : Nat) : Ieee.Datum.order (.number s (mof a) ((jof a : Int) - 1074)) (.number t (mof c) ((jof c : Int) - 1074)) = some (compare (if s then -(vl a : Int) else (vl a : Int)) (if t then -(vl c : Int) else (vl c : Int))) := by
  unfold Ieee.Datum.order
  simp only
  congr 1
  obtain ⟨d, hd⟩ : ∃ d, d = min (jof a) (jof c) := ⟨_, rfl⟩
  have e1 : ((jof a : Int) - 1074 - min ((jof a : Int) - 1074) ((jof c : Int) - 1074)).toNat = jof a - d := by omega
  have e2 : ((jof c : Int) - 1074 - min ((jof a : Int) - 1074) ((jof c : Int) - 1074)).toNat = jof c - d := by omega
  rw [e1, e2]
  unfold Ieee.signed
  rw [Nat.shiftLeft_eq, Nat.shiftLeft_eq]
  have h1 : mof a * 2 ^ (jof a - d) * 2 ^ d = vl a := by unfold vl; rw [Nat.mul_assoc, ← Nat.pow_add, Nat.sub_add_cancel (by omega)]
  have h2 : mof c * 2 ^ (jof c - d) * 2 ^ d = vl c := by unfold vl; rw [Nat.mul_assoc, ← Nat.pow_add, Nat.sub_add_cancel (by omega)]
  have hp := pow2_pos d
  generalize mof a * 2 ^ (jof a - d) = x at *
  generalize mof c * 2 ^ (jof c - d) = y at *
  generalize 2 ^ d = P at *
  have key : ∀ u v : Int, compare (u * P) (v * P) = compare u v := by
    intro u v
    have hP : (0 : Int) < (P : Int) := by omega
    rcases Int.lt_trichotomy u v with h | h | h
    · rw [Int.compare_eq_lt.2 h, Int.compare_eq_lt.2 (Int.mul_lt_mul_of_pos_right h hP)]
    · rw [h, Int.compare_eq_eq.2 rfl, Int.compare_eq_eq.2 rfl]
    · rw [Int.compare_eq_gt.2 h, Int.compare_eq_gt.2 (Int.mul_lt_mul_of_pos_right h hP)]
  rw [← key, ← h1, ← h2]
  congr 1
  · cases s
    · simp
    · simp [Int.neg_mul]
  · cases t
    · simp
    · simp [Int.neg_mul]
theorem order_eq_sign {a c s : Nat} (ha : a < 9218868437227405312) (hc : c < 9218868437227405312) (hs : s < 2) (h : FloatKind.f64.format.order (a + s * 9223372036854775808) (c + s * 9223372036854775808) = some .eq) : vl a = vl c := by
  unfold Ieee.Format.order at h
  have h01 : s = 0 ∨ s = 1 := by omega
  rcases h01 with rfl | rfl
  · rw [Nat.zero_mul, Nat.add_zero, Nat.add_zero, read_fin ha, read_fin hc, order_num] at h
    have h2 := Int.compare_eq_eq.1 (Option.some.inj h)
    simp at h2
    omega
  · rw [Nat.one_mul, read_neg ha, read_neg hc, order_num] at h
    have h2 := Int.compare_eq_eq.1 (Option.some.inj h)
    simp at h2
    omega
theorem order_same {b : Nat} (hb : b < 18446744073709551616) (hf : b % 9223372036854775808 < 9218868437227405312) : FloatKind.f64.format.order b b = some .eq := by
  unfold Ieee.Format.order
  rcases Nat.lt_or_ge b 9223372036854775808 with h | h
  · rw [Nat.mod_eq_of_lt h] at hf
    rw [read_fin hf, order_num, Int.compare_eq_eq.2 rfl]
  · obtain ⟨a, rfl⟩ : ∃ a, b = a + 9223372036854775808 := ⟨b - 9223372036854775808, by omega⟩
    rw [Nat.add_mod_right, Nat.mod_eq_of_lt (by omega)] at hf
    rw [read_neg hf, order_num, Int.compare_eq_eq.2 rfl]

theorem mant_mod (b : Nat) : mant (b % 9223372036854775808) = mant b ∧ expo (b % 9223372036854775808) = expo b ∧ fin (b % 9223372036854775808) = fin b := by
  refine ⟨?_, ?_, ?_⟩
  · unfold mant; rw [Nat.mod_mod]
    have e : b % 9223372036854775808 % 4503599627370496 = b % 4503599627370496 := Nat.mod_mod_of_dvd _ (by decide)
    rw [e]
  · unfold expo; rw [Nat.mod_mod]
  · unfold fin; rw [Nat.mod_mod]
end Go.Proofs.YtkpikkeblogdcaaDoor
end

section
/- Package num: digits, power, read. -/
namespace Go.Proofs.YtkpikkeblogdcaaDoor
open Go.RowKit
set_option linter.unusedVariables false

/-- the digits ahead -/
def lead (l : List UInt8) : List UInt8 := l.takeWhile (digs.contains ·)
theorem lead_drop (l : List UInt8) : l.dropWhile (digs.contains ·) = l.drop (lead l).length := by
  have h := List.takeWhile_append_dropWhile (p := (digs.contains ·)) (l := l)
  have h2 : l.drop (lead l).length = (lead l ++ l.dropWhile (digs.contains ·)).drop (lead l).length := by
    show _ = (l.takeWhile (digs.contains ·) ++ _).drop _
    rw [h]
  rw [h2, List.drop_left]
theorem lead_take (l : List UInt8) : l.take (lead l).length = lead l := by
  have h := List.takeWhile_append_dropWhile (p := (digs.contains ·)) (l := l)
  have h2 : l.take (lead l).length = (lead l ++ l.dropWhile (digs.contains ·)).take (lead l).length := by
    show _ = (l.takeWhile (digs.contains ·) ++ _).take _
    rw [h]
  rw [h2, List.take_left]
theorem lead_le (l : List UInt8) : (lead l).length ≤ l.length := (List.takeWhile_sublist _).length_le
theorem tw_all (p : UInt8 → Bool) : ∀ (l : List UInt8) (x : UInt8), x ∈ l.takeWhile p → p x = true
  | [], x, h => by simp at h
  | c :: l, x, h => by
    rw [List.takeWhile_cons] at h
    by_cases hc : p c = true
    · rw [if_pos hc] at h
      rcases List.mem_cons.1 h with rfl | h2
      · exact hc
      · exact tw_all p l x h2
    · rw [if_neg hc] at h; simp at h
theorem lead_digits (l : List UInt8) : Digits (lead l) := by
  intro c hc
  exact (digs_iff c).1 (tw_all _ l c hc)

theorem TrimLeft_digs (s : ByteArray) (w : World) :
    Calls Tryd.prog 36 #[.string s, .string ⟨#[48, 49, 50, 51, 52, 53, 54, 55, 56, 57]⟩] w fun e w' => e = .returned (.string ⟨(s.data.toList.drop (lead s.data.toList).length).toArray⟩) ∧ Below w.heap.size w w' := by
  have h := Any.strings_TrimLeft_laid Tryd.lays161 (by kernel_rfl) s ⟨#[48, 49, 50, 51, 52, 53, 54, 55, 56, 57]⟩ w (by decide) (ascii_of_all (by decide))
  have e : Lib.trimLeftS s.data.toList (⟨#[48, 49, 50, 51, 52, 53, 54, 55, 56, 57]⟩ : ByteArray).data.toList = s.data.toList.drop (lead s.data.toList).length := lead_drop _
  rw [e] at h
  exact h
theorem digits_any (s : ByteArray) (w : World) (hs : s.size ≤ 140737488355328) :
    Calls Tryd.prog 93 #[.string s] w fun e w' => e = .returned (.int .i64 ((lead s.data.toList).length : Nat)) ∧ Below w.heap.size w w' := by
  have HT := Lib.hid (TrimLeft_digs s w)
  have hle := lead_le s.data.toList
  have hsz : s.size = s.data.toList.length := by simp
  obtain ⟨T, hT⟩ : ∃ T : ByteArray, T = ⟨(s.data.toList.drop (lead s.data.toList).length).toArray⟩ := ⟨_, rfl⟩
  rw [← hT] at HT
  have hTs : T.size + (lead s.data.toList).length = s.size := by
    have h1 : T.size = T.data.toList.length := by simp
    rw [h1, hT, hsz]
    simp
    omega
  generalize (lead s.data.toList).length = n at *
  have e1 : (s.size : Int) - (T.size : Int) = (n : Int) := by omega
  clear hT hle hsz
  go_enter Tryd.func93, Tryd.ntmps93
  go_wp2_with fail
  refine HT.out.mono ?_
  rintro e w1 ⟨rfl, hb⟩
  have HB := Lib.hid hb
  clear hb HT
  go_wp2_with fail
  go_ret
  exact ⟨rfl, HB.out⟩

/-- the number of digits, no greater than 100000 -/
def powN (l : List UInt8) : Nat := l.foldl (fun n c => min (10 * n + (c.toNat - 48)) 100000) 0
theorem powN_snoc (l : List UInt8) (c : UInt8) : powN (l ++ [c]) = min (10 * powN l + (c.toNat - 48)) 100000 := by simp [powN]
theorem powN_le : ∀ l : List UInt8, powN l ≤ 100000 := by
  intro l
  rcases List.eq_nil_or_concat l with rfl | ⟨r, c, rfl⟩
  · decide
  · rw [List.concat_eq_append, powN_snoc]; omega
def powL (l : List UInt8) (minus : Bool) : Int := if minus then -(powN l : Int) else (powN l : Int)

set_option maxRecDepth 100000 in
set_option maxHeartbeats 2000000 in
theorem power_any (s : ByteArray) (minus : Bool) (w : World) (hd : Digits s.data.toList) (hs : s.size ≤ 140737488355328) :
    Calls Tryd.prog 94 #[.string s, .bool minus] w fun e w' => e = .returned (.int .i64 (powL s.data.toList minus)) ∧ Below w.heap.size w w' := by
  have hsz : s.size = s.data.toList.length := by simp
  generalize hLe : s.data.toList = L at *
  have HLe := Lib.hid hLe
  have HD := Lib.hid hd
  have HPL : Hid (powL L minus = if minus then -(powN L : Int) else (powN L : Int)) := rfl
  generalize powL L minus = R at *
  clear hd hLe
  go_enter Tryd.func94, Tryd.ntmps94
  go_wp2_with (refine wpList_bytes _ rfl _ rfl s rfl ?_; rw [HLe.out, hsz]; intro cap1 w1 hl1 hb1 hs1)
  generalize hg1 : w.heap.size = g at *
  have HL1 := Lib.hid hl1
  have HB1 := Lib.hid hb1
  have HG := Lib.hid hg1
  clear hl1 hb1 hg1
  go_wp2_with fail
  go_loop [5, 11] (fun n i => ∃ k : Nat, k ≤ L.length ∧ i = .int .i64 k ∧ n = .int .i64 ((powN (L.take k) : Nat) : Int)) (fun _ i => L.length - (intOf i).toNat)
  case atStart => exact ⟨0, Nat.zero_le _, rfl, rfl⟩
  case round =>
    obtain ⟨k, hk, rfl, rfl⟩ := hrel
    by_cases hlt : k < L.length
    · have hc := HL1.out k hlt
      rw [Nat.zero_add] at hc
      have hdd := HD.out _ (List.getElem_mem hlt)
      have hst : Hid (powN (L.take (k + 1)) = min (10 * powN (L.take k) + (L[k].toNat - 48)) 100000) := by
        show _ = _
        rw [List.take_succ_eq_append_getElem hlt, powN_snoc]
      have hpl := powN_le (L.take k)
      generalize L[k].toNat = c at *
      generalize powN (L.take k) = p at *
      obtain ⟨d, hdv⟩ : ∃ d, d = c - 48 := ⟨_, rfl⟩
      rw [← hdv] at hst
      have ed2 : ((c : Int) - 48) % 256 = (d : Int) := by omega
      have ed3 : (c : Int) - 48 = (d : Int) := by omega
      have hd9 : d ≤ 9 := by omega
      obtain ⟨q, hq⟩ : ∃ q, q = min (10 * p + d) 100000 := ⟨_, rfl⟩
      rw [← hq] at hst
      have eq1 : min ((10 : Int) * p + d) 100000 = (q : Int) := by omega
      clear hdv hq
      go_wp2_with fail
      go_round
      case rel => exact ⟨k + 1, by omega, by go_num, by rw [hst.out]⟩
      case measure => simp [intOf]; omega
    · obtain rfl : k = L.length := by omega
      have hpl := powN_le (L.take L.length)
      have hp2 : Hid (powN (L.take L.length) = powN L) := by show _ = _; rw [List.take_length]
      generalize powN (L.take L.length) = p at *
      cases minus
      · go_wp2_with fail
        go_ret
        exact ⟨by rw [HPL.out, ← hp2.out]; rfl, by rw [HG.out]; exact HB1.out⟩
      · go_wp2_with fail
        go_ret
        exact ⟨by rw [HPL.out, ← hp2.out]; rfl, by rw [HG.out]; exact HB1.out⟩

theorem ext_list (s : ByteArray) (i j : Nat) : (s.extract i j).data.toList = (s.data.toList.drop i).take (j - i) := by
  simp [ByteArray.data_extract, List.extract_eq_take_drop]
theorem size_list (s : ByteArray) : s.size = s.data.toList.length := by simp
theorem Trim_nought (s : ByteArray) (w : World) (hs : s.size ≤ 9223372036854775807) :
    Calls Tryd.prog 35 #[.string s, .string ⟨#[48]⟩] w fun e w' => e = .returned (.string ⟨(Lib.trimB s.data.toList 48).toArray⟩) ∧ Below w.heap.size w w' := by
  refine (Tryd.strings_Trim_one s 48 (by decide) w hs).mono ?_
  rintro e w' ⟨rfl, h | h⟩
  · rw [h]; exact ⟨rfl, Below.refl _ _⟩
  · rw [h]; exact ⟨rfl, (Below.refl _ _).drew⟩

/-- what read answers: of very many digits the first 900 count, and one behind them, if any that follows is no nought -/
def readN (l : List UInt8) (e : Int) : Nat :=
  if bare l = [] then 0
  else if (bare l).length ≤ 900 then readB (bare l) e
  else if Lib.trimB ((bare l).drop 900) 48 = [] then readB ((bare l).take 900) (e + (bare l).length - 900)
  else readB ((bare l).take 900 ++ [49]) (e + (bare l).length - 900 - 1)

set_option maxRecDepth 100000 in
set_option maxHeartbeats 2000000 in
theorem read_any (s : ByteArray) (x : Int) (w : World) (hd : Digits s.data.toList) (hs : s.size ≤ 140737488355328) (hx1 : -1000000000000000 ≤ x) (hx2 : x ≤ 1000000000000000) :
    Calls Tryd.prog 57 #[.string s, .int .i64 x] w fun e w' => e = .returned (.float .f64 (readN s.data.toList x)) ∧ Below w.heap.size w w' := by
  have hTL : Hid (∀ W, Calls Tryd.prog 36 #[.string s, .string ⟨#[48]⟩] W fun e w' => e = .returned (.string ⟨(bare s.data.toList).toArray⟩) ∧ w' = W) := fun W => Tryd.strings_TrimLeft_one s 48 (by decide) W
  obtain ⟨t, ht⟩ : ∃ t : ByteArray, t = ⟨(bare s.data.toList).toArray⟩ := ⟨_, rfl⟩
  rw [← ht] at hTL
  have htl : bare s.data.toList = t.data.toList := by rw [ht]
  have hdt : Digits t.data.toList := by rw [← htl]; exact bare_digits hd
  have hR : Hid (readN s.data.toList x = if t.data.toList = [] then 0 else if t.data.toList.length ≤ 900 then readB t.data.toList x else if Lib.trimB (t.data.toList.drop 900) 48 = [] then readB (t.data.toList.take 900) (x + t.data.toList.length - 900) else readB (t.data.toList.take 900 ++ [49]) (x + t.data.toList.length - 900 - 1)) := by
    show _ = _
    unfold readN
    rw [htl]
  obtain ⟨n, hn0⟩ : ∃ n, n = t.size := ⟨_, rfl⟩
  have hn1 : t.size = n := hn0.symm
  have HLT : Hid (t.data.toList.length = n) := by show _ = _; rw [hn0]; simp
  have hnl : n ≤ 140737488355328 := by
    have hbl := bare_length s.data.toList
    rw [htl, HLT.out] at hbl
    have hsz : s.size = s.data.toList.length := by simp
    omega
  rw [HLT.out] at hR
  generalize readN s.data.toList x = R at *
  have HDT := Lib.hid hdt
  clear ht htl hdt hd hn0
  by_cases h0 : t.data.toList = []
  · have he : t.toList.isEmpty = true := by rw [ByteArray.toList_eq, h0]; rfl
    obtain rfl : R = 0 := by rw [hR.out, if_pos h0]
    clear hR h0
    go_enter Tryd.func57, Tryd.ntmps57
    go_wp2_with fail
    refine (hTL.out w).mono ?_
    rintro e w1 ⟨rfl, rfl⟩
    go_wp2_with fail
    go_ret
    exact ⟨rfl, Below.refl _ _⟩
  · have he : t.toList.isEmpty = false := by rw [ByteArray.toList_eq]; simpa using h0
    by_cases h9 : n ≤ 900
    · have HR : Hid (R = readB t.data.toList x) := by show _ = _; rw [hR.out, if_neg h0, if_pos h9]
      have hts2 : (n : Int) ≤ 900 := by omega
      have hRD := Lib.hid (fun W => Read_ok t x W h0 HDT.out (by rw [HLT.out]; omega) (by omega) (by omega))
      rw [← HR.out] at hRD
      clear hR h0
      go_enter Tryd.func57, Tryd.ntmps57
      go_wp2_with fail
      refine (hTL.out w).mono ?_
      rintro e w1 ⟨rfl, rfl⟩
      go_wp2_with fail
      refine (hRD.out w1).mono ?_
      rintro e w2 ⟨rfl, hb2⟩
      have HB2 := Lib.hid hb2
      clear hb2 hRD
      go_wp2_with fail
      go_ret
      exact ⟨rfl, HB2.out⟩
    · have hts2 : 900 < (n : Int) := by omega
      have hh0 := Lib.hid h0
      clear h0
      go_enter Tryd.func57, Tryd.ntmps57
      go_wp2_with fail
      refine (hTL.out w).mono ?_
      rintro e w1 ⟨rfl, rfl⟩
      go_wp2_with fail
      have hE1 : (t.extract 900 n).data.toList = t.data.toList.drop 900 := by
        rw [ext_list]
        exact List.take_of_length_le (by rw [List.length_drop, HLT.out]; omega)
      have hE2 : (t.extract 0 900).data.toList = t.data.toList.take 900 := by rw [ext_list]; rfl
      have hx1s : (t.extract 900 n).size ≤ 9223372036854775807 := by
        have h1 := size_list (t.extract 900 n)
        rw [h1, hE1, List.length_drop, HLT.out]; omega
      have hl2 : (t.data.toList.take 900).length = 900 := by rw [List.length_take, HLT.out]; omega
      have hx2s : (t.extract 0 900).size = 900 := by
        have h1 := size_list (t.extract 0 900)
        rw [h1, hE2, hl2]
      have hTR := Lib.hid (Trim_nought (t.extract 900 n) w1 hx1s)
      rw [hE1] at hTR
      have hd2 : Digits (t.data.toList.take 900) := fun c hc => HDT.out c (List.mem_of_mem_take hc)
      by_cases hz : Lib.trimB (t.data.toList.drop 900) 48 = []
      · rw [hz] at hTR
        have HR : Hid (R = readB (t.data.toList.take 900) (x + n - 900)) := by show _ = _; rw [hR.out, if_neg hh0.out, if_neg h9, if_pos hz]
        have hRD := Lib.hid (fun W => Read_ok (t.extract 0 900) (x + n - 900) W (by rw [hE2]; intro h; rw [h] at hl2; simp at hl2) (by rw [hE2]; exact hd2) (by rw [hE2, hl2]; decide) (by omega) (by omega))
        rw [hE2, ← HR.out] at hRD
        clear hE1 hE2 hl2 hd2 hz hR HR hx1s
        refine hTR.out.mono ?_
        rintro e w2 ⟨rfl, hb2⟩
        have HB2 := Lib.hid hb2
        have hs2 := hb2.size
        clear hb2 hTR
        go_wp2_with fail
        refine (hRD.out w2).mono ?_
        rintro e w3 ⟨rfl, hb3⟩
        have HB3 := Lib.hid (HB2.out.trans (hb3.mono hs2))
        clear hb3 hRD HB2
        go_wp2_with fail
        go_ret
        exact ⟨rfl, HB3.out⟩
      · have HR : Hid (R = readB (t.data.toList.take 900 ++ [49]) (x + n - 900 - 1)) := by show _ = _; rw [hR.out, if_neg hh0.out, if_neg h9, if_neg hz]
        have hE3 : (t.extract 0 900 ++ ⟨#[49]⟩ : ByteArray).data.toList = t.data.toList.take 900 ++ [49] := by rw [ByteArray.data_append, Array.toList_append, hE2]
        have hRD := Lib.hid (fun W => Read_ok (t.extract 0 900 ++ ⟨#[49]⟩) (x + n - 900 - 1) W (by rw [hE3]; simp) (by
          rw [hE3]; intro c hc
          rcases List.mem_append.1 hc with h | h
          · exact hd2 c h
          · simp at h; subst h; decide) (by rw [hE3, List.length_append, hl2]; decide) (by omega) (by omega))
        rw [hE3, ← HR.out] at hRD
        obtain ⟨T, hT⟩ : ∃ T : ByteArray, T = ⟨(Lib.trimB (t.data.toList.drop 900) 48).toArray⟩ := ⟨_, rfl⟩
        rw [← hT] at hTR
        have hTe : T.toList.isEmpty = false := by
          rw [ByteArray.toList_eq, hT]
          simpa using hz
        clear hE1 hE2 hl2 hd2 hz hR HR hx1s hE3 hT
        refine hTR.out.mono ?_
        rintro e w2 ⟨rfl, hb2⟩
        have HB2 := Lib.hid hb2
        have hs2 := hb2.size
        clear hb2 hTR
        go_wp2_with fail
        refine (hRD.out w2).mono ?_
        rintro e w3 ⟨rfl, hb3⟩
        have HB3 := Lib.hid (HB2.out.trans (hb3.mono hs2))
        clear hb3 hRD HB2
        go_wp2_with fail
        go_ret
        exact ⟨rfl, HB3.out⟩
end Go.Proofs.YtkpikkeblogdcaaDoor
end

section
/- Package num: Whole. -/
namespace Go.Proofs.YtkpikkeblogdcaaDoor
open Go.RowKit
set_option linter.unusedVariables false

/-- is the float whole, and below 10^16 -/
def wholeOk (b : Nat) : Bool := decide (b % 9223372036854775808 < 4846369599423283200) && (FloatKind.f64.format.order (truncB b) b == some .eq)

/-- the text of a whole number -/
def WholeT (t : List UInt8) (b : Nat) (S : Bool) : Prop := ∃ l, Canon l (scaledN b 0) ∧ t = if S = true then 45 :: l else l

set_option maxRecDepth 100000 in
set_option maxHeartbeats 4000000 in
theorem Whole_no (b : Nat) (w : World) (hb : b < 18446744073709551616) (h : wholeOk b = false) :
    Calls Tryd.prog 29 #[.float .f64 b] w fun e w' => e = .returned (.tuple #[.string ⟨#[]⟩, .bool false]) ∧ w = w' := by
  have HA := Lib.hid (Abs_any b w hb)
  have HT := Lib.hid (Trunc_any b w hb)
  have hal : b % 9223372036854775808 < 9223372036854775808 := Nat.mod_lt _ (by decide)
  unfold wholeOk at h
  generalize truncB b = T at *
  generalize b % 9223372036854775808 = a at *
  by_cases h1 : a < 4846369599423283200
  · have ho := order_lt (x := a) (y := 4846369599423283200) (by omega) (by decide) h1
    have ho2 : (FloatKind.f64.format.order T b == some .eq) = false := by rw [decide_eq_true h1] at h; simpa using h
    have ho3 : (FloatKind.f64.format.order T b != some .eq) = true := by unfold bne; rw [ho2]; rfl
    clear h h1 hal hb
    go_enter Tryd.func29, Tryd.ntmps29
    go_wp2_with fail
    refine HA.out.mono ?_
    rintro e w1 ⟨rfl, rfl⟩
    go_wp2_with fail
    refine HT.out.mono ?_
    rintro e w1 ⟨rfl, rfl⟩
    go_wp2_with fail
    go_ret2
    exact ⟨rfl, rfl⟩
  · have ho : (FloatKind.f64.format.order a 4846369599423283200 == some .lt) = false := by
      rcases Nat.lt_or_ge 9218868437227405312 a with h2 | h2
      · rw [order_nan _ h2 hal]; rfl
      · rcases Nat.eq_or_lt_of_le (Nat.le_of_not_lt h1) with h3 | h3
        · rw [← h3, order_eq (by decide)]; rfl
        · rw [order_gt h2 (by decide) h3]; rfl
    clear h h1 hal hb HT
    go_enter Tryd.func29, Tryd.ntmps29
    go_wp2_with fail
    refine HA.out.mono ?_
    rintro e w1 ⟨rfl, rfl⟩
    go_wp2_with fail
    go_ret2
    exact ⟨rfl, rfl⟩

set_option maxRecDepth 100000 in
set_option maxHeartbeats 4000000 in
theorem Whole_yes (b : Nat) (w : World) (hb : b < 18446744073709551616) (h : wholeOk b = true) :
    Calls Tryd.prog 29 #[.float .f64 b] w fun e w' => ∃ s : ByteArray, e = .returned (.tuple #[.string s, .bool true]) ∧ WholeT s.data.toList b (FloatKind.f64.format.order b 0 == some .lt) ∧ Below w.heap.size w w' := by
  have HA := Lib.hid (Abs_any b w hb)
  have HT := Lib.hid (Trunc_any b w hb)
  unfold wholeOk at h
  rw [Bool.and_eq_true, decide_eq_true_eq] at h
  obtain ⟨h1, ho2⟩ := h
  have hfin : fin b = true := by
    rw [← (mant_mod b).2.2]
    exact (fin_lt_inf (Nat.mod_lt _ (by decide))).2 (by omega)
  have HF := Lib.hid (Fixed_ok b 0 w hb hfin (by decide))
  have ho := order_lt (x := b % 9223372036854775808) (y := 4846369599423283200) (by omega) (by decide) h1
  have ho3 : (FloatKind.f64.format.order (truncB b) b != some .eq) = false := by unfold bne; rw [ho2]; rfl
  obtain ⟨S, hS⟩ : ∃ S : Bool, S = (FloatKind.f64.format.order b 0 == some .lt) := ⟨_, rfl⟩
  have hS2 : (FloatKind.f64.format.order b 0 == some .lt) = S := hS.symm
  rw [hS2]
  have ho2' : FloatKind.f64.format.order (truncB b) b = some .eq := by simpa using ho2
  generalize truncB b = T at *
  generalize b % 9223372036854775808 = a at *
  clear h1 hb hfin hS ho2
  cases S
  · go_enter Tryd.func29, Tryd.ntmps29
    go_wp2_with fail
    refine HA.out.mono ?_
    rintro e w1 ⟨rfl, rfl⟩
    go_wp2_with fail
    refine HT.out.mono ?_
    rintro e w1 ⟨rfl, rfl⟩
    go_wp2_with fail
    refine HF.out.mono ?_
    rintro e w1 ⟨s, l, rfl, hc, hs, hb⟩
    have HC := Lib.hid hc
    have HS : Hid (s.data.toList = l) := by show _ = _; rw [hs]; exact fixedL_zero hc.ne
    have HB := Lib.hid hb
    clear hc hs hb
    go_wp2_with fail
    go_ret2
    exact ⟨s, rfl, ⟨l, HC.out, HS.out⟩, HB.out⟩
  · go_enter Tryd.func29, Tryd.ntmps29
    go_wp2_with fail
    refine HA.out.mono ?_
    rintro e w1 ⟨rfl, rfl⟩
    go_wp2_with fail
    refine HT.out.mono ?_
    rintro e w1 ⟨rfl, rfl⟩
    go_wp2_with fail
    refine HF.out.mono ?_
    rintro e w1 ⟨s, l, rfl, hc, hs, hb⟩
    have HC := Lib.hid hc
    have HS : Hid ((⟨#[45]⟩ ++ s : ByteArray).data.toList = 45 :: l) := by show _ = _; rw [ByteArray.data_append, Array.toList_append, hs, fixedL_zero hc.ne]; rfl
    have HB := Lib.hid hb
    have hsz : s.size ≤ 5000 := by
      rw [size_list, hs, fixedL_zero hc.ne]
      have h2 := canon_len (k := 4001) hc (Nat.lt_of_lt_of_le (nbits_le.1 (scaledN_lt (b := b) (k := 0) (by decide) (by decide))) (two_ten 4001)) (by decide)
      omega
    clear hc hs hb
    go_wp2_with fail
    go_ret2
    exact ⟨_, rfl, ⟨l, HC.out, HS.out⟩, HB.out⟩
end Go.Proofs.YtkpikkeblogdcaaDoor
end

section
/- Package num: build. -/
namespace Go.Proofs.YtkpikkeblogdcaaDoor
open Go.RowKit
set_option linter.unusedVariables false

/-- the bits of m steps of the place j -/
theorem vl_bits {m j : Nat} (hm : m < 9007199254740992) (hj : j ≤ 2045) (hn : 4503599627370496 ≤ m ∨ j = 0) : j * 4503599627370496 + m < 9218868437227405312 ∧ vl (j * 4503599627370496 + m) = m * 2 ^ j := by
  have e7 : (2 : Nat) ^ 52 = 4503599627370496 := by decide
  refine ⟨by omega, ?_⟩
  unfold vl
  rcases Nat.lt_or_ge m 4503599627370496 with h | h
  · have h0 : j = 0 := by omega
    subst h0
    have e1 : jof (0 * 4503599627370496 + m) = 0 := by unfold jof; rw [e7, Nat.zero_mul, Nat.zero_add, Nat.div_eq_of_lt h]
    have e2 : mof (0 * 4503599627370496 + m) = m := by unfold mof; rw [e7, Nat.zero_mul, Nat.zero_add, if_pos (Nat.div_eq_of_lt h)]
    rw [e1, e2]
  · have hd : (j * 4503599627370496 + m) / 4503599627370496 = j + 1 := by omega
    have e1 : jof (j * 4503599627370496 + m) = j := by unfold jof; rw [e7, hd]; omega
    have e2 : mof (j * 4503599627370496 + m) = m := by unfold mof; rw [e7, hd, if_neg (by omega)]; omega
    rw [e1, e2]

set_option maxRecDepth 100000 in
set_option maxHeartbeats 4000000 in
theorem build_any (m : Nat) (e : Int) (w : World) (hm : m < 9007199254740992) (he1 : -1074 ≤ e) (he2 : e ≤ 971) :
    Calls Tryd.prog 59 #[.int .u64 m, .int .i64 e] w fun r w' => (∃ B, r = .returned (.float .f64 B) ∧ B < 9218868437227405312 ∧ vl B = m * 2 ^ (e + 1074).toNat) ∧ w = w' := by
  go_enter Tryd.func59, Tryd.ntmps59
  go_wp2_with fail
  go_loop [0, 1] (fun mv ev => ∃ (m' : Nat) (e' : Int), mv = .int .u64 m' ∧ ev = .int .i64 e' ∧ m' < 9007199254740992 ∧ -1074 ≤ e' ∧ e' ≤ e ∧ m' * 2 ^ (e' + 1074).toNat = m * 2 ^ (e + 1074).toNat) (fun _ ev => (intOf ev + 1074).toNat)
  case atStart => exact ⟨m, e, rfl, rfl, hm, he1, Int.le_refl _, rfl⟩
  case round =>
    obtain ⟨m', e', rfl, rfl, h1, h2, h3, h4⟩ := hrel
    have H4 := Lib.hid h4
    clear h4
    by_cases hc : 0 < m' ∧ m' < 4503599627370496 ∧ -1074 < e'
    · obtain ⟨c1, c2, c3⟩ := hc
      have c1' : 0 < (m' : Int) := by omega
      have c2' : (m' : Int) < 4503599627370496 := by omega
      obtain ⟨k, hk⟩ : ∃ k, k = m' * 2 := ⟨_, rfl⟩
      have ek : IntKind.wrap .u64 ((m' : Int) * 2) = (k : Int) := by rw [IntKind.wrap_u64]; omega
      have hk2 : k < 9007199254740992 := by omega
      have H5 : Hid (k * 2 ^ (e' - 1 + 1074).toNat = m * 2 ^ (e + 1074).toNat) := by
        show _ = _
        rw [← H4.out, hk, show (e' + 1074).toNat = (e' - 1 + 1074).toNat + 1 by omega, Nat.pow_succ 2]
        ac_rfl
      clear hk
      go_wp2_with fail
      go_round
      case rel => exact ⟨k, e' - 1, rfl, rfl, hk2, by omega, by omega, H5.out⟩
      case measure => simp only [intOf]; omega
    · rcases Nat.eq_zero_or_pos m' with c1 | c1
      · subst c1
        go_wp2_with fail
        go_ret
        refine ⟨⟨0, rfl, by decide, ?_⟩, rfl⟩
        rw [← H4.out, Nat.zero_mul]; rfl
      · obtain ⟨j, hj⟩ : ∃ j : Nat, j = (e' + 1074).toNat := ⟨_, rfl⟩
        have hj1 : e' + 1074 = (j : Int) := by omega
        have hjl : j ≤ 2045 := by omega
        have hor : 4503599627370496 ≤ m' ∨ j = 0 := by omega
        obtain ⟨b1, b2⟩ := vl_bits h1 hjl hor
        rw [← hj] at H4
        have HV : Hid (vl (j * 4503599627370496 + m') = m * 2 ^ (e + 1074).toNat) := by show _ = _; rw [b2, H4.out]
        obtain ⟨B, hB⟩ : ∃ B, B = j * 4503599627370496 + m' := ⟨_, rfl⟩
        rw [← hB] at b1 HV
        have c1' : 0 < (m' : Int) := by omega
        have em0 : (m' : Int) ≠ 0 := by omega
        obtain ⟨S, hS⟩ : ∃ S, S = j * 4503599627370496 := ⟨_, rfl⟩
        have eS : (j : Int) * 4503599627370496 = (S : Int) := by omega
        have hSl : S < 18446744073709551616 := by omega
        have eB : (S : Int) + (m' : Int) = (B : Int) := by omega
        have hBl : B < 18446744073709551616 := by omega
        have HB1 := Lib.hid b1
        obtain ⟨M, hM⟩ : ∃ M : Int, M = (m' : Int) := ⟨_, rfl⟩
        rw [← hM] at eB ⊢
        have hM1 : 0 < M := by omega
        have hM2 : M < 9007199254740992 := by omega
        have hsplit : 4503599627370496 ≤ M ∨ M < 4503599627370496 ∧ e' = -1074 := by omega
        clear b2 hor H4 hj hc hS hB b1 c1 c1' em0 hM h1
        rcases hsplit with h52 | ⟨h52, hee⟩
        · go_wp2_with fail
          go_ret
          exact ⟨⟨B, rfl, HB1.out, HV.out⟩, rfl⟩
        · subst hee
          go_wp2_with fail
          go_ret
          exact ⟨⟨B, rfl, HB1.out, HV.out⟩, rfl⟩
end Go.Proofs.YtkpikkeblogdcaaDoor
end

section
/- Plain: floats by their values with a sign; a whole number as a float. -/
namespace Go.Proofs.YtkpikkeblogdcaaDoor
open Go.RowKit
set_option linter.unusedVariables false

/-- a float's value over the least step, with its sign -/
def sv (b : Nat) : Int := if b / 9223372036854775808 = 0 then (vl (b % 9223372036854775808) : Int) else -(vl (b % 9223372036854775808) : Int)

theorem read_sv {b : Nat} (hb : b < 18446744073709551616) (hf : b % 9223372036854775808 < 9218868437227405312) :
    ∃ s : Bool, FloatKind.f64.format.read b = .number s (mof (b % 9223372036854775808)) ((jof (b % 9223372036854775808) : Int) - 1074) ∧ sv b = if s then -(vl (b % 9223372036854775808) : Int) else (vl (b % 9223372036854775808) : Int) := by
  rcases Nat.lt_or_ge b 9223372036854775808 with h | h
  · have e := Nat.mod_eq_of_lt h
    refine ⟨false, ?_, ?_⟩
    · rw [e] at hf ⊢; exact read_fin hf
    · unfold sv; rw [if_pos (Nat.div_eq_of_lt h)]; exact (if_neg (by decide)).symm
  · obtain ⟨a, rfl⟩ : ∃ a, b = a + 9223372036854775808 := ⟨b - 9223372036854775808, by omega⟩
    have e : (a + 9223372036854775808) % 9223372036854775808 = a := by omega
    refine ⟨true, ?_, ?_⟩
    · rw [e] at hf ⊢; exact read_neg hf
    · unfold sv; rw [if_neg (by omega)]; exact (if_pos (by decide)).symm
theorem order_sv {a c : Nat} (ha : a < 18446744073709551616) (hc : c < 18446744073709551616) (fa : a % 9223372036854775808 < 9218868437227405312) (fc : c % 9223372036854775808 < 9218868437227405312) :
    FloatKind.f64.format.order a c = some (compare (sv a) (sv c)) := by
  obtain ⟨s, h1, h2⟩ := read_sv ha fa
  obtain ⟨t, h3, h4⟩ := read_sv hc fc
  unfold Ieee.Format.order
  rw [h1, h3, order_num, h2, h4]
theorem order_sv_eq {a c : Nat} (ha : a < 18446744073709551616) (hc : c < 18446744073709551616) (fa : a % 9223372036854775808 < 9218868437227405312) (fc : c % 9223372036854775808 < 9218868437227405312) (h : sv a = sv c) :
    FloatKind.f64.format.order a c = some .eq := by
  rw [order_sv ha hc fa fc, h, Int.compare_eq_eq.2 rfl]

theorem nearest_neg (m : Nat) (p : Int) : FloatKind.f64.format.nearest true m p = FloatKind.f64.format.nearest false m p + 9223372036854775808 := by
  have e1 : FloatKind.f64.format.signWeight = 9223372036854775808 := by decide
  have hc : ∀ n d, Ieee.Toward.even.cut true n d = Ieee.Toward.even.cut false n d := fun _ _ => rfl
  unfold Ieee.Format.nearest
  unfold Ieee.Format.word
  rw [e1]
  by_cases hm : m = 0
  · rw [if_pos hm, if_pos hm]; rfl
  · rw [if_neg hm, if_neg hm]
    simp only [hc]
    simp [Nat.add_comm]
theorem nearest_int (n : Int) : FloatKind.f64.nearest n = FloatKind.f64.nearest (n.natAbs : Int) + if n < 0 then 9223372036854775808 else 0 := by
  have e : ∀ k : Int, FloatKind.f64.nearest k = FloatKind.f64.format.nearest (decide (k < 0)) k.natAbs 0 := fun _ => rfl
  rw [e, e]
  have h2 : (decide ((n.natAbs : Int) < 0)) = false := decide_eq_false (by omega)
  rw [h2, Int.natAbs_natCast]
  by_cases h : n < 0
  · rw [decide_eq_true h, nearest_neg, if_pos h]
  · rw [decide_eq_false h, if_neg h]; rfl
theorem nearest_sv {n : Int} (h : n.natAbs < 9007199254740992) : FloatKind.f64.nearest n < 18446744073709551616 ∧ FloatKind.f64.nearest n % 9223372036854775808 < 9218868437227405312 ∧ sv (FloatKind.f64.nearest n) = n * (kk : Int) := by
  obtain ⟨h1, h2⟩ := whole_bits h
  rw [nearest_int]
  change vl _ = _ at h2
  generalize FloatKind.f64.nearest (n.natAbs : Int) = B at *
  by_cases hn : n < 0
  · rw [if_pos hn]
    refine ⟨by omega, by omega, ?_⟩
    unfold sv
    rw [if_neg (by omega), Nat.add_mod_right, Nat.mod_eq_of_lt (by omega), h2, Int.natCast_mul, ← Int.neg_mul]
    congr 1
    omega
  · rw [if_neg hn, Nat.add_zero]
    refine ⟨by omega, by omega, ?_⟩
    unfold sv
    rw [if_pos (by omega), Nat.mod_eq_of_lt (by omega), h2, Int.natCast_mul]
    congr 1
    omega

/-- what is left of a division of floats -/
def ModR (x y r : Nat) : Prop := ∃ B, B < 9218868437227405312 ∧ r = B + x / 9223372036854775808 * 9223372036854775808 ∧ vl B = vl (x % 9223372036854775808) % vl (y % 9223372036854775808)

theorem ModR_sv {x y r : Nat} (hx : x < 18446744073709551616) (h : ModR x y r) : r < 18446744073709551616 ∧ r % 9223372036854775808 < 9218868437227405312 ∧ sv r = (sv x).tmod (sv y) := by
  obtain ⟨B, h1, rfl, h3⟩ := h
  have hd : x / 9223372036854775808 = 0 ∨ x / 9223372036854775808 = 1 := by omega
  have hy : ∀ v : Int, v.tmod (sv y) = v.tmod (vl (y % 9223372036854775808) : Int) := by
    intro v; unfold sv; split
    · rfl
    · rw [Int.tmod_neg]
  rw [hy]
  unfold sv
  rcases hd with h4 | h4
  · rw [h4]
    refine ⟨by omega, by omega, ?_⟩
    rw [if_pos (by omega), if_pos rfl, Nat.zero_mul, Nat.add_zero, Nat.mod_eq_of_lt (by omega), h3]
    rfl
  · rw [h4]
    refine ⟨by omega, by omega, ?_⟩
    rw [if_neg (by omega), if_neg (by omega), Nat.one_mul, Nat.add_mod_right, Nat.mod_eq_of_lt (by omega), h3, Int.neg_tmod]
    rfl
theorem vl_inj {a b : Nat} (h : vl a = vl b) : a = b := by
  rcases Nat.lt_trichotomy a b with h1 | h1 | h1
  · exact absurd h (Nat.ne_of_lt (vl_lt h1))
  · exact h1
  · exact absurd h.symm (Nat.ne_of_lt (vl_lt h1))
theorem vl_parts {b : Nat} (hf : fin b = true) : mant b * 2 ^ (expo b + 1074).toNat = vl (b % 9223372036854775808) ∧ -1074 ≤ expo b := by
  rw [← (mant_mod b).2.2] at hf
  have h := (fin_lt_inf (Nat.mod_lt _ (by decide))).1 hf
  obtain ⟨h1, h2, h3⟩ := mant_mof h
  rw [(mant_mod b).1] at h1
  rw [(mant_mod b).2.1] at h2 h3
  exact ⟨by unfold vl; rw [h1, h2], h3⟩
end Go.Proofs.YtkpikkeblogdcaaDoor
end
