/- thresherlaw03: below. -/
import Derived.Test.YtkpikkeblogdcaaDoorL3
namespace Go.Proofs.YtkpikkeblogdcaaDoor
open Go.RowKit
set_option linter.unusedVariables false

/-- the block of a string's bytes -/
structure RowM (w : World) (g : Nat) (L : List UInt8) : Prop where
  row : ∃ cur, w.heap[g]? = some (.cells cur 5 (cur.size, cur.size + 1)) ∧ ∀ i (h : i < L.length), cur[i]? = some (.int .u8 (L[i].toNat : Nat))
theorem RowM.ltg {w : World} {g : Nat} {L : List UInt8} (h : RowM w g L) : g < w.heap.size := by
  obtain ⟨cur, hg, ht⟩ := h.row
  exact lt_of_heap hg
theorem RowM.cell {w : World} {g : Nat} {L : List UInt8} (h : RowM w g L) (i : Nat) (hi : i < L.length) : w.cell? ⟨g, i, none⟩ = some (.int .u8 (L[i].toNat : Nat)) := by
  obtain ⟨cur, hg, ht⟩ := h.row
  simp [World.cell?, hg, ht i hi]
theorem RowM.frozen {w : World} {g : Nat} {L : List UInt8} (h : RowM w g L) (i : Nat) (hi : i < L.length) : w.frozen? ⟨g, i, none⟩ = false := by
  obtain ⟨cur, hg, ht⟩ := h.row
  have h1 : i < cur.size := by
    rcases Nat.lt_or_ge i cur.size with h | h
    · exact h
    · have := ht i hi
      rw [Array.getElem?_eq_none (by omega)] at this; cases this
  simp [World.frozen?, hg]
  omega
theorem RowM.set {w : World} {g : Nat} {L : List UInt8} (h : RowM w g L) (i y : Nat) (hi : i < L.length) (hy : y < 256) : RowM (w.setCell ⟨g, i, none⟩ (.int .u8 (y : Nat))) g (L.set i (UInt8.ofNat y)) := by
  obtain ⟨cur, hg, ht⟩ := h.row
  refine ⟨cur.setIfInBounds i (.int .u8 (y : Nat)), by rw [setCell_heap_same hg i _]; simp, fun j hj => ?_⟩
  rw [List.length_set] at hj
  rw [List.getElem_set, Array.getElem?_setIfInBounds]
  have h1 : i < cur.size := by
    rcases Nat.lt_or_ge i cur.size with h | h
    · exact h
    · have := ht i hi
      rw [Array.getElem?_eq_none (by omega)] at this; cases this
  by_cases hij : i = j
  · subst hij
    rw [if_pos rfl, if_pos h1, if_pos rfl, UInt8.toNat_ofNat', Nat.mod_eq_of_lt hy]
  · rw [if_neg hij, if_neg hij]
    exact ht j hj

theorem wpList_bytesM (w : World) {ops : Array Oper} {rest : List Oper} {o : Oper} {a : Act} {Q : Exit → Act → World → Prop} (hg : o.guard = none) (x : Operand) (ho : o.op = .convert 9 57 x) (s : ByteArray) (hx : a.eval x = .string s)
    (hK : ∀ cap w', RowM w' w.heap.size s.data.toList → Below w.heap.size w w' → w'.heap.size = w.heap.size + 1 → wpList Tryd.prog ops Q rest (a.put o.dst (.slice (some ⟨w.heap.size, 0, none⟩) s.size cap)) w') : wpList Tryd.prog ops Q (o :: rest) a w := by
  have hr := Lib.run_convert_string_bytes (P := Tryd.prog) w 9 57 5 s undStr undBytes undByte
  refine wpList_plain hg fun K' hK' => ?_
  unfold Oper.wp
  simp [execOp, ho, hx, hr, Result.andThen]
  refine hK' _ _ (hK _ _ ?_ (Go.Joins.below_bytesWorld _ _ _ _ (Nat.le_refl _)) (Lib.bytesWorld_size _ _ _))
  refine ⟨_, Lib.bytesWorld_at_new w 5 s, fun i hi => ?_⟩
  have h1 := Lib.bytesWorld_cell w 5 s i (by simpa using hi)
  have h2 := Lib.bytesWorld_at_new w 5 s
  have h3 : (Lib.bytesCells w 5 s)[i]? = some (.int .u8 (s.data.toList.getD i 0).toNat) := by
    unfold World.cell? at h1
    rw [h2] at h1
    simpa using h1
  rw [h3]
  have h4 : i < s.data.size := by simpa using hi
  simp [List.getD, Array.getElem?_eq_getElem h4]

theorem digVal_app (a b : List UInt8) : digVal (a ++ b) = digVal a * 10 ^ b.length + digVal b := by
  unfold digVal
  rw [List.foldl_append]
  exact digVal_from b _
theorem digVal_nines : ∀ m : Nat, digVal (List.replicate m 57) + 1 = 10 ^ m
  | 0 => rfl
  | m + 1 => by
    rw [List.replicate_succ, digVal_cons, List.length_replicate]
    have h := digVal_nines m
    have e : (UInt8.toNat 57 - 48 : Nat) = 9 := by decide
    rw [e, Nat.pow_succ]
    omega
theorem digVal_noughts : ∀ m : Nat, digVal (List.replicate m 48) = 0
  | 0 => rfl
  | m + 1 => by
    rw [List.replicate_succ, digVal_cons, digVal_noughts m]
    have e : (UInt8.toNat 48 - 48 : Nat) = 0 := by decide
    rw [e, Nat.zero_mul]

/-- the row while the noughts at its end are made nines -/
def bel (l : List UInt8) (k : Nat) : List UInt8 := l.take k ++ List.replicate (l.length - k) 57
theorem bel_length (l : List UInt8) (k : Nat) (h : k ≤ l.length) : (bel l k).length = l.length := by simp [bel]; omega
theorem bel_full (l : List UInt8) : bel l l.length = l := by simp [bel]
theorem bel_at (l : List UInt8) (k : Nat) (h : k < l.length) : (bel l (k + 1))[k]'(by rw [bel_length _ _ h]; exact h) = l[k] := by
  unfold bel
  rw [List.getElem_append_left (by simp; omega)]
  simp
theorem bel_set (l : List UInt8) (k : Nat) (y : UInt8) (h : k < l.length) : (bel l (k + 1)).set k y = l.take k ++ y :: List.replicate (l.length - (k + 1)) 57 := by
  unfold bel
  rw [List.take_succ_eq_append_getElem h, List.append_assoc, List.set_append_right _ _ (by simp; omega)]
  congr 1
  simp [Nat.min_eq_left (Nat.le_of_lt h)]
theorem bel_nine (l : List UInt8) (k : Nat) (h : k < l.length) : (bel l (k + 1)).set k 57 = bel l k := by
  rw [bel_set l k 57 h]
  unfold bel
  rw [show l.length - k = l.length - (k + 1) + 1 by omega, List.replicate_succ]
theorem noughts_at {l : List UInt8} {k : Nat} (h : ∀ c ∈ l.drop k, c = 48) : l.drop k = List.replicate (l.length - k) 48 := by
  rw [List.eq_replicate_iff]
  exact ⟨by simp, h⟩
theorem bel_value (l : List UInt8) (k c : Nat) (h : k < l.length) (hc : l[k].toNat = c + 1) (h48 : 48 ≤ c) (hd : ∀ x ∈ l.drop (k + 1), x = 48) : digVal ((bel l (k + 1)).set k (UInt8.ofNat c)) + 1 = digVal l := by
  have hlt := l[k].toNat_lt
  have e1 : l = l.take k ++ l[k] :: l.drop (k + 1) := by rw [← List.drop_eq_getElem_cons h, List.take_append_drop]
  have e2 : digVal l = digVal (l.take k ++ l[k] :: l.drop (k + 1)) := by rw [← e1]
  rw [bel_set l k _ h, e2, digVal_app, digVal_app, digVal_cons, digVal_cons, noughts_at hd, digVal_noughts, hc, UInt8.toNat_ofNat', Nat.mod_eq_of_lt (by omega)]
  simp only [List.length_cons, List.length_replicate]
  have h9 := digVal_nines (l.length - (k + 1))
  obtain ⟨q, hq⟩ : ∃ q, c = 48 + q := ⟨c - 48, by omega⟩
  subst hq
  rw [show 48 + q - 48 = q by omega, show 48 + q + 1 - 48 = q + 1 by omega, Nat.add_mul]
  omega
theorem bel_digits {l : List UInt8} (h : Digits l) (k c : Nat) (hk : k < l.length) (hc : 48 ≤ c ∧ c ≤ 57) : Digits ((bel l (k + 1)).set k (UInt8.ofNat c)) := by
  rw [bel_set l k _ hk]
  intro x hx
  rcases List.mem_append.1 hx with h1 | h1
  · exact h x (List.mem_of_mem_take h1)
  · rcases List.mem_cons.1 h1 with rfl | h2
    · rw [UInt8.toNat_ofNat', Nat.mod_eq_of_lt (by omega)]; exact hc
    · rw [(List.mem_replicate.1 h2).2]; decide

set_option maxRecDepth 100000 in
set_option maxHeartbeats 4000000 in
theorem below_any (s : ByteArray) (w : World) (hd : Digits s.data.toList) (hl : s.data.toList.length ≤ 1000) :
    Calls Tryd.prog 25 #[.string s] w fun e w' => ∃ t : ByteArray, e = .returned (.string t) ∧ Digits t.data.toList ∧ t.data.toList.length ≤ max 1 s.data.toList.length ∧ t.data.toList ≠ [] ∧ digVal t.data.toList = digVal s.data.toList - 1 ∧ Below w.heap.size w w' := by
  have hsz : s.size = s.data.toList.length := by simp
  generalize hLe : s.data.toList = L at *
  have HLe := Lib.hid hLe
  have HD := Lib.hid hd
  clear hd hLe
  go_enter Tryd.func25, Tryd.ntmps25
  go_wp2_with (refine wpList_bytesM _ rfl _ rfl s rfl ?_; rw [HLe.out, hsz]; intro cap1 w1 hl1 hb1 hs1)
  generalize hg1 : w.heap.size = g at *
  have HL1 := Lib.hid hl1
  have HB1 := Lib.hid hb1
  clear hl1 hb1
  go_wp2_with fail
  go_loopw [4] (fun i wr => ∃ k : Nat, k ≤ L.length ∧ i = .int .i64 ((k : Int) - 1) ∧ RowM wr g (bel L k) ∧ (∀ c ∈ L.drop k, c = 48) ∧ Below g w wr) (fun i _ => (intOf i + 1).toNat)
  case atStart => exact ⟨L.length, Nat.le_refl _, rfl, by rw [bel_full]; exact HL1.out, by simp, HB1.out⟩
  case round =>
    obtain ⟨k, hk, rfl, hr, hz, hb⟩ := hrel
    rcases Nat.eq_zero_or_pos k with h0 | h0
    · subst h0
      have HZ := Lib.hid hz
      have HB := Lib.hid hb
      clear hz hb hr HL1 HB1
      go_wp2_with fail
      go_ret
      refine ⟨⟨#[48]⟩, rfl, digits_mk (by decide), by show 1 ≤ _; omega, by simp, ?_, by rw [hg1]; exact HB.out⟩
      have hz2 := noughts_at HZ.out
      rw [List.drop_zero] at hz2
      rw [hz2, digVal_noughts]
      decide
    · obtain ⟨j, rfl⟩ : ∃ j, k = j + 1 := ⟨k - 1, by omega⟩
      have hjl : j < L.length := by omega
      have hjb : j < (bel L (j + 1)).length := by rw [bel_length _ _ hk]; exact hjl
      have hc := hr.cell j hjb
      have hf := hr.frozen j hjb
      have hg := hr.ltg
      rw [bel_at L j hjl] at hc
      have hdd := HD.out _ (List.getElem_mem hjl)
      have ej : (((j + 1 : Nat) : Int) - 1) = (j : Int) := by omega
      rw [ej]
      have HR := Lib.hid hr
      have HZ := Lib.hid hz
      have HB := Lib.hid hb
      have hrl : RowM wr g (bel L (j + 1)) := hr
      clear hz hb hr HL1 HB1
      by_cases h48 : L[j].toNat = 48
      · rw [h48] at hc
        have hc' : wr.cell? ⟨g, j, none⟩ = some (.int .u8 48) := hc
        have HS : Hid (RowM (wr.setCell ⟨g, j, none⟩ (.int .u8 57)) g (bel L j)) := by
          have h := hrl.set j 57 hjb (by decide)
          rw [show UInt8.ofNat 57 = 57 by decide, bel_nine L j hjl] at h
          exact h
        have HZ2 : Hid (∀ c ∈ L.drop j, c = 48) := by
          intro c hc2
          rw [List.drop_eq_getElem_cons hjl] at hc2
          rcases List.mem_cons.1 hc2 with h | h
          · rw [h]; exact UInt8.toNat_inj.1 h48
          · exact HZ.out c h
        clear hc h48 hdd hrl
        go_wp2_with fail
        go_roundw
        case rel => exact ⟨j, by omega, by go_num, HS.out, HZ2.out, HB.out.setCell (Nat.le_refl _) _⟩
        case measure => simp [intOf]
      · obtain ⟨c, hcc⟩ : ∃ c, L[j].toNat = c + 1 := ⟨L[j].toNat - 1, by omega⟩
        rw [hcc] at hc
        have hc' : wr.cell? ⟨g, j, none⟩ = some (.int .u8 ((c : Int) + 1)) := hc
        have hcb : 48 ≤ c ∧ c ≤ 57 := by omega
        have HS := Lib.hid (hrl.set j c hjb (by omega))
        have HV := Lib.hid (bel_value L j c hjl hcc hcb.1 HZ.out)
        have HDD := Lib.hid (bel_digits HD.out j c hjl hcb)
        have hlen : ((bel L (j + 1)).set j (UInt8.ofNat c)).length = L.length := by rw [List.length_set, bel_length _ _ hk]
        generalize (bel L (j + 1)).set j (UInt8.ofNat c) = M at *
        clear hc h48 hdd hcc hrl
        go_wp2_with
          (refine wpList_string _ rfl _ rfl g cap1 M (by rw [hlen]; rfl) HS.out.cell ?_)

        go_ret
        refine ⟨⟨M.toArray⟩, rfl, HDD.out, by simp; omega, ?_, ?_, ?_⟩
        · intro h
          have h2 : M = [] := by simpa using h
          rw [h2] at hlen; simp at hlen; omega
        · have := HV.out
          show digVal M = _
          omega
        · rw [hg1]; exact HB.out.setCell (Nat.le_refl _) _
end Go.Proofs.YtkpikkeblogdcaaDoor
