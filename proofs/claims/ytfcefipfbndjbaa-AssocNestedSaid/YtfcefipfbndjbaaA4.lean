/- Arrays within one another: the walk of the law. -/
import Derived.Test.YtfcefipfbndjbaaA3
namespace Go.Proofs.Ytfcefipfbndjbaa
open Go.RowKit
set_option linter.unusedVariables false

/-- arrays one within the other, by these keys, from p to q -/
def Chain (w : World) : List ByteArray → Nat → Nat → Prop
  | [], p, q => p = q
  | k :: ks, p, q => ∃ m r, ArrAt w p m 1 #[⟨.string k, sv 1 0 0 ⟨#[]⟩ (some ⟨r, 0, none⟩), 0⟩] 1 ∧ Chain w ks r q

theorem Chain.below {w w' : World} : ∀ {ks : List ByteArray} {p q : Nat}, Chain w ks p q → Below w.heap.size w w' → Chain w' ks p q
  | [], _, _, h, _ => h
  | _ :: _, _, _, ⟨m, r, hA, h⟩, hb => ⟨m, r, hA.below hb, Chain.below h hb⟩

theorem Chain.leaf {w w' : World} {q mq : Nat} (hq : ArrAt w q mq 0 #[] 0) (ha : Apart [q, mq] w w') : ∀ {ks : List ByteArray} {p : Nat}, Chain w ks p q → Chain w' ks p q
  | [], _, h => h
  | k :: _, p, ⟨m, r, hA, h⟩ => ⟨m, r, hA.keep ha
      (by
        intro hx; simp at hx
        rcases hx with rfl | rfl
        · have h1 := hA.cells; have h2 := hq.cells; rw [h1] at h2; cases h2
        · have h1 := hA.cells; have h2 := hq.map; rw [h1] at h2; cases h2)
      (by
        intro hx; simp at hx
        rcases hx with rfl | rfl
        · have h1 := hA.map; have h2 := hq.cells; rw [h1] at h2; cases h2
        · have h1 := hA.map; have h2 := hq.map; rw [h1] at h2; cases h2), Chain.leaf hq ha h⟩

theorem Chain.snoc {w : World} {q m r : Nat} {k : ByteArray} (hq : ArrAt w q m 1 #[⟨.string k, sv 1 0 0 ⟨#[]⟩ (some ⟨r, 0, none⟩), 0⟩] 1) : ∀ {ks : List ByteArray} {p : Nat}, Chain w ks p q → Chain w (ks ++ [k]) p r
  | [], p, h => by cases h; exact ⟨m, r, hq, rfl⟩
  | k' :: _, p, ⟨m', r', hA, h⟩ => ⟨m', r', hA, Chain.snoc hq h⟩

theorem Chain.tot {w : World} {q : Nat} {n : Int} {d : Nat} (hq : Tot d w q n) : ∀ {ks : List ByteArray} {p : Nat}, Chain w ks p q → Tot (ks.length + d) w p n
  | [], p, h => by cases h; simpa using hq
  | k :: ks, p, ⟨m, r, hA, h⟩ => by
    have ih := Chain.tot hq h
    rw [show (k :: ks).length + d = (ks.length + d) + 1 by simp; omega]
    refine ⟨m, _, _, _, fun _ => n, hA, by simp, by simp [sumAll], ?_⟩
    intro e he
    simp at he
    subst he
    exact ⟨by simp, ih.nonneg, _, _, _, _, _, rfl, .inr ⟨r, rfl, ih⟩⟩

theorem Tot.empty {w : World} {p m c : Nat} {clk : Int} (h : ArrAt w p m clk #[] c) : Tot 1 w p 0 :=
  ⟨m, clk, #[], c, fun _ => 0, h, by simp, by simp [sumAll], by simp⟩

theorem fnd_one (k : ByteArray) (v : Value) : fnd k ((#[] : Array MapEntry).push ⟨.string k, v, 0⟩).toList = some (some ((#[] : Array MapEntry).size, v)) := by
  simp [fnd, Instr.findNow, Instr.sameNow, ba_beq]
theorem fnd_one' (k : ByteArray) (v : Value) : fnd k (#[⟨.string k, v, 0⟩] : Array MapEntry).toList = some (some (0, v)) := by
  simp [fnd, Instr.findNow, Instr.sameNow, ba_beq]

theorem take_snoc' {α : Type} (l : List α) (i : Nat) (h : i < l.length) : l.take (i + 1) = l.take i ++ [l[i]] := by
  rw [List.take_succ_eq_append_getElem h]

set_option maxHeartbeats 2000000 in
theorem nested_long (a0 : Option Addr) (len cap : Nat) (v : ByteArray) (w : World) (hlen : 200 < len) (hm : len ≤ maxLen) :
    Calls Try.prog 3 #[.slice a0 len cap, .string v] w fun e w' => e = .returned (.bool true) ∧ Below w.heap.size w w' := by
  unfold maxLen at hm
  go_enter Try.func3, Try.ntmps3
  go_wp2_with fail
  refine (fixed_any _).mono ?_
  rintro e w1 ⟨rfl, hb⟩
  have HB := Lib.hid hb
  clear hb
  go_wp2_with fail
  go_ret
  exact ⟨rfl, HB.out⟩

set_option maxHeartbeats 2000000 in
theorem nested_any (a0 : Option Addr) (L : List ByteArray) (cap : Nat) (v : ByteArray) (w : World) (hlen : L.length ≤ 200)
    (hk : ∀ (i : Nat) (hi : i < L.length), ∃ kb off, a0 = some ⟨kb, off, none⟩ ∧ w.cell? ⟨kb, off + i, none⟩ = some (.string L[i])) :
    Calls Try.prog 3 #[.slice a0 L.length cap, .string v] w fun e w' => e = .returned (.bool true) ∧ Below w.heap.size w w' := by
  have HK := Lib.hid hk
  clear hk
  go_enter Try.func3, Try.ntmps3
  go_wp2_with fail
  refine (fixed_any _).mono ?_
  rintro e w1 ⟨rfl, hb⟩
  have HB := Lib.hid hb
  clear hb
  go_wp2_with fail
  refine (new_any _).mono ?_
  rintro e w2 ⟨rfl, hw2⟩
  have HA := Lib.hid (show ArrAt w2 (w1.heap.size + 1) w1.heap.size 0 #[] 0 by rw [hw2]; exact new_arr w1)
  have HB2 := Lib.hid (show Below w.heap.size w w2 by rw [hw2]; exact (HB.out.alloc HB.out.size _).alloc (by have := HB.out.size; simp; omega) _)
  have hs1 := HB.out.size
  clear hw2 HB
  have hrt : w.heap.size ≤ w1.heap.size + 1 := by omega
  generalize w1.heap.size + 1 = root at *
  go_wp2_with fail
  go_loopw [6, 25] (fun a i wr => ∃ (k q m : Nat), k ≤ L.length ∧ i = .int .i64 k ∧ a = .pointer (some ⟨q, 0, none⟩) ∧ Chain wr (L.take k) root q ∧ ArrAt wr q m 0 #[] 0 ∧ Below w.heap.size w wr ∧ w.heap.size ≤ q ∧ w.heap.size ≤ m) (fun _ i _ => L.length - (intOf i).toNat)
  case atStart => exact ⟨0, root, w1.heap.size, Nat.zero_le _, rfl, rfl, rfl, HA.out, HB2.out, by omega, hs1⟩
  case round =>
    obtain ⟨k, q, m, hkL, rfl, rfl, hch, hq, hbw, hq1, hm1⟩ := hrel
    have CH := Lib.hid hch
    have HQ := Lib.hid hq
    have BW := Lib.hid hbw
    clear hch hq hbw HA HB2
    by_cases hlt : k < L.length
    · obtain ⟨kb, off, rfl, hcell⟩ := HK.out k hlt
      have hkb : kb < w.heap.size := World.block_lt_of_cell? w _ hcell
      have hc : wr.cell? ⟨kb, off + k, none⟩ = some (.string L[k]) := (BW.out.cell hkb).trans hcell
      have hkbr : kb < wr.heap.size := Nat.lt_of_lt_of_le hkb BW.out.size
      generalize hkey : L[k] = key at *
      have HKey := Lib.hid hkey
      clear hkey hcell
      go_wp2_with fail
      refine (sub_new _ _ _ _ _ _ _ HQ.out rfl (fun v => fnd_one _ v) (by omega) (by omega)).mono ?_
      rintro e w4 ⟨r, m', rfl, hA, hR, hr, hm', hap⟩
      simp only [Int.zero_add, Nat.zero_add] at hA
      have CH4 := Lib.hid (CH.out.leaf HQ.out hap)
      have BW4 := Lib.hid (BW.out.trans (hap.below BW.out.size (by simp; omega)))
      have hs4 := BW.out.size
      have HQ4 := Lib.hid hA
      have HR4 := Lib.hid hR
      clear hA hR hap HQ CH BW hc hkbr
      go_wp2_with fail
      refine (kind_any _ _ _ _ _ _ (some (0, sv 1 0 0 ⟨#[]⟩ (some ⟨r, 0, none⟩))) _ _ _ _ _ _ HQ4.out (fnd_one' _ _) rfl).mono ?_
      rintro e w5 ⟨rfl, hb⟩
      rw [show kindOf (some (0, _)) (some _) = 2 from rfl]
      have CH5 := Lib.hid (CH4.out.below hb)
      have HQ5 := Lib.hid (HQ4.out.below hb)
      have HR5 := Lib.hid (HR4.out.below hb)
      have BW5 := Lib.hid (BW4.out.trans (hb.mono BW4.out.size))
      clear hb CH4 HQ4 HR4 BW4
      go_wp2_with fail
      refine (len_any _ _ _ _ _ _ HQ5.out).mono ?_
      rintro e w6 ⟨rfl, rfl⟩
      go_wp2_with fail
      refine (Total_any _ _ 0 _ (Chain.tot (Tot.empty HR5.out) (CH5.out.snoc HQ5.out)) (by omega)).mono ?_
      rintro e w7 ⟨rfl, hb⟩
      have CH7 := Lib.hid ((CH5.out.below hb).snoc (HQ5.out.below hb))
      have HR7 := Lib.hid (HR5.out.below hb)
      have BW7 := Lib.hid (BW5.out.trans (hb.mono BW5.out.size))
      clear hb CH5 HQ5 HR5 BW5
      go_wp2_with fail
      go_roundw
      case rel => exact ⟨k + 1, r, m', by omega, by go_num, rfl, by rw [take_snoc' _ _ hlt, HKey.out]; exact CH7.out, HR7.out, BW7.out, by omega, by omega⟩
      case measure => simp [intOf]; omega
    · obtain rfl : k = L.length := by omega
      have CH1 : Hid (Chain wr L root q) := by have := CH.out; rw [List.take_length] at this; exact this
      clear CH
      go_wp2_with fail
      refine (text_any _ _).mono ?_
      rintro e w5 ⟨rfl, hb⟩
      have CH5 := Lib.hid (CH1.out.below hb)
      have HQ5 := Lib.hid (HQ.out.below hb)
      have BW5 := Lib.hid (BW.out.trans (hb.mono BW.out.size))
      clear hb CH1 HQ BW
      go_wp2_with fail
      refine (set_new _ _ _ _ _ _ _ _ _ _ HQ5.out rfl (by omega) (by omega)).mono ?_
      rintro e w6 ⟨rfl, hQ, hap⟩
      simp only [Int.zero_add, Nat.zero_add] at hQ
      have CH6 := Lib.hid (CH5.out.leaf HQ5.out hap)
      have BW6 := Lib.hid (BW5.out.trans (hap.below BW5.out.size (by simp; omega)))
      have HQ6 := Lib.hid hQ
      clear hap hQ HQ5 BW5 CH5
      have hT : Hid (Tot (L.length + 1) w6 root 1) := by
        refine Chain.tot (d := 1) (q := q) (show Tot 1 w6 q 1 from ⟨_, _, _, _, fun _ => 1, HQ6.out, by simp, by simp [sumAll], ?_⟩) CH6.out
        intro e he
        simp at he
        subst he
        exact ⟨by simp, by simp, _, _, _, _, _, rfl, .inl ⟨rfl, rfl⟩⟩
      go_wp2_with fail
      refine (Total_any _ _ 1 _ hT.out (by omega)).mono ?_
      rintro e w7 ⟨rfl, hb⟩
      have CH7 := Lib.hid (CH6.out.below hb)
      have HQ7 := Lib.hid (HQ6.out.below hb)
      have HT7 := Lib.hid (Tot.keep (S := []) _ hT.out hb)
      have BW7 := Lib.hid (BW6.out.trans (hb.mono BW6.out.size))
      clear hb CH6 HQ6 BW6 hT
      go_wp2_with fail
      go_loopw [11, 72] (fun a i wr => ∃ (k p : Nat), k ≤ L.length ∧ i = .int .i64 k ∧ a = .pointer (some ⟨p, 0, none⟩) ∧ Chain wr (L.drop k) p q ∧ ArrAt wr q m 1 #[⟨.string ⟨#[118]⟩, sv 1 2 0 v none, 0⟩] 1 ∧ Tot (L.length + 1) wr root 1 ∧ Below w.heap.size w wr) (fun _ i _ => L.length - (intOf i).toNat)
      case atStart => exact ⟨0, root, Nat.zero_le _, rfl, rfl, CH7.out, HQ7.out, HT7.out, BW7.out⟩
      case round =>
        obtain ⟨k, p, hkL, rfl, rfl, hch, hq, ht, hbw⟩ := hrel
        clear CH7 HQ7 HT7 BW7
        have CH := Lib.hid hch
        have HQ := Lib.hid hq
        have HT := Lib.hid ht
        have BW := Lib.hid hbw
        clear hch hq ht hbw
        by_cases hlt : k < L.length
        · obtain ⟨kb, off, rfl, hcell⟩ := HK.out k hlt
          have hkb : kb < w.heap.size := World.block_lt_of_cell? w _ hcell
          have hc : wr.cell? ⟨kb, off + k, none⟩ = some (.string L[k]) := (BW.out.cell hkb).trans hcell
          have hdr : Hid (Chain wr (L[k] :: L.drop (k + 1)) p q) := by rw [← List.drop_eq_getElem_cons hlt]; exact CH.out
          clear CH hcell
          generalize hkey : L[k] = key at *
          clear hkey
          obtain ⟨mp, r, hP, hrest⟩ := hdr.out
          have HP := Lib.hid hP
          have HR := Lib.hid hrest
          clear hP hrest hdr
          go_wp2_with fail
          refine (sub_arr _ _ _ 0 _ _ _ 1 0 _ _ ⟨r, 0, none⟩ _ HP.out (fnd_one' _ _)).mono ?_
          rintro e w8 ⟨rfl, hb⟩
          have CH8 := Lib.hid (HR.out.below hb)
          have HQ8 := Lib.hid (HQ.out.below hb)
          have HT8 := Lib.hid (Tot.keep (S := []) _ HT.out hb)
          have BW8 := Lib.hid (BW.out.trans (hb.mono BW.out.size))
          clear hb HP HR HQ BW HT hc
          go_wp2_with fail
          go_roundw
          case rel => exact ⟨k + 1, r, by omega, by go_num, rfl, CH8.out, HQ8.out, HT8.out, BW8.out⟩
          case measure => simp [intOf]; omega
        · obtain rfl : k = L.length := by omega
          obtain rfl : p = q := by have := CH.out; rw [List.drop_length] at this; exact this
          clear CH
          go_wp2_with fail
          refine (Get_any _ _ _ _ _ _ (some (0, sv 1 2 0 v none)) _ _ _ _ _ _ HQ.out (fnd_one' _ _) rfl).mono ?_
          rintro e w8 ⟨rfl, hb⟩
          rw [show (kindOf (some (0, _)) none == 1) = true from rfl]
          have HT8 := Lib.hid (Tot.keep (S := []) _ HT.out hb)
          have BW8 := Lib.hid (BW.out.trans (hb.mono BW.out.size))
          clear hb HQ HT BW
          go_wp2_with fail
          refine (Total_any _ _ 1 _ (Tot.keep (S := []) _ HT8.out (((Below.refl _ _).alloc (by simp) _))) (by omega)).mono ?_
          rintro e w9 ⟨rfl, hb⟩
          go_wp2_with fail
          go_ret
          exact ⟨rfl, (BW8.out.alloc BW8.out.size _).trans (hb.mono (by have := BW8.out.size; simp; omega))⟩
end Go.Proofs.Ytfcefipfbndjbaa
