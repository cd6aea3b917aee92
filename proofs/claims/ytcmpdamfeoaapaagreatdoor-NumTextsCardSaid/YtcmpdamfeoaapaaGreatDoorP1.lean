/- Package format: the reader: next and flags. -/
import Derived.Test.YtcmpdamfeoaapaaGreatDoorM1
import Derived.StillTailTactics
import Derived.Deep.RegionHeld3
import Derived.BigRegion
namespace Go.Proofs.YtcmpdamfeoaapaaGreatDoor
open Go.RowKit
set_option linter.unusedVariables false

theorem sz_list (s : ByteArray) : s.size = s.data.toList.length := by cases s; simp [ByteArray.size]
/-- the byte at a place; nought where there is none -/
def ch (s : ByteArray) (i : Nat) : Nat := (s.data.toList.getD i 0).toNat
def chr (s : ByteArray) (i : Int) : Nat := if i < 0 then 0 else ch s i.toNat
theorem chr_nat (s : ByteArray) (i : Nat) : chr s (i : Int) = ch s i := by
  unfold chr
  rw [if_neg (by omega)]
  rfl
theorem ch_out {s : ByteArray} {i : Nat} (h : s.size ≤ i) : ch s i = 0 := by
  unfold ch
  rw [List.getD_eq_getElem?_getD, List.getElem?_eq_none (by rw [← sz_list]; exact h)]
  rfl
theorem ch_lt (s : ByteArray) (i : Nat) : ch s i < 256 := by
  unfold ch
  exact UInt8.toNat_lt _
theorem ch_in {s : ByteArray} {i : Nat} (h : i < s.size) : s[i].toNat = ch s i := by
  unfold ch
  have hl : i < s.data.toList.length := by rw [← sz_list]; exact h
  rw [List.getD_eq_getElem?_getD, List.getElem?_eq_getElem hl]
  rfl

/-- the reader's block -/
def RdAt (w : World) (r : Nat) (s : ByteArray) (i : Int) : Prop := w.heap[r]? = some (.cells #[.string s, .int .i64 i] 157 (0, 0))
theorem RdAt.c0 {w : World} {r : Nat} {s : ByteArray} {i : Int} (h : RdAt w r s i) : w.cell? ⟨r, 0, none⟩ = some (.string s) := by rw [Lib.cell_of_heap h]; rfl
theorem RdAt.c1 {w : World} {r : Nat} {s : ByteArray} {i : Int} (h : RdAt w r s i) : w.cell? ⟨r, 1, none⟩ = some (.int .i64 i) := by rw [Lib.cell_of_heap h]; rfl
theorem RdAt.f1 {w : World} {r : Nat} {s : ByteArray} {i : Int} (h : RdAt w r s i) : w.frozen? ⟨r, 1, none⟩ = false := Lib.frozen_of_heap h 1
theorem RdAt.lt {w : World} {r : Nat} {s : ByteArray} {i : Int} (h : RdAt w r s i) : r < w.heap.size := lt_of_heap h
theorem RdAt.keep {w w' : World} {r : Nat} {s : ByteArray} {i : Int} {S : List Nat} (h : RdAt w r s i) (ha : Apart S w w') (hS : r ∉ S) : RdAt w' r s i := (ha.block r h.lt hS).trans h
theorem RdAt.below {w w' : World} {r : Nat} {s : ByteArray} {i : Int} (h : RdAt w r s i) (hb : Below w.heap.size w w') : RdAt w' r s i := (hb.block r h.lt).trans h
theorem RdAt.step {w : World} {r : Nat} {s : ByteArray} {i : Int} (h : RdAt w r s i) (j : Int) : RdAt (w.setCell ⟨r, 1, none⟩ (.int .i64 j)) r s j := setCell_heap_same h 1 _

set_option maxHeartbeats 8000000 in
set_option maxRecDepth 100000 in
theorem next_any (s : ByteArray) (i : Int) (r : Nat) (w : World) (hr : RdAt w r s i) :
    Calls Tryz.prog 128 #[.pointer (some ⟨r, 0, none⟩)] w fun e w' => e = .returned (.int .u8 (chr s i)) ∧ Below w.heap.size w w' := by
  have c0 := hr.c0
  have c1 := hr.c1
  obtain ⟨c, hc⟩ : ∃ c, c = chr s i := ⟨_, rfl⟩
  rw [← hc]
  have HC := Lib.hid hc
  clear hc hr
  rcases Int.lt_or_le i 0 with h | h
  · have h0 : c = 0 := by rw [HC.out]; unfold chr; rw [if_pos h]
    subst h0
    clear HC
    go_enter Tryz.func128, Tryz.ntmps128
    go_wp2_with fail
    go_region
    go_wp2_with fail
    go_ret
    exact ⟨rfl, (Below.refl _ _).drew⟩
  · obtain ⟨k, rfl⟩ : ∃ k : Nat, i = (k : Int) := ⟨i.toNat, by omega⟩
    rw [chr_nat] at HC
    have hneg : ¬ ((k : Int) < 0) := by omega
    rcases Nat.lt_or_ge k s.size with hk | hk
    · have hI : (k : Int) < (s.size : Int) := by omega
      have hcc : s[k].toNat = c := by rw [HC.out]; exact ch_in hk
      go_enter Tryz.func128, Tryz.ntmps128
      go_wp2_with fail
      go_region
      all_goals go_wp2_with fail
      all_goals go_region
      all_goals go_wp2_with fail
      all_goals go_ret
      all_goals exact ⟨rfl, (Below.refl _ _).drew.drew⟩
    · have h0 : c = 0 := by rw [HC.out]; exact ch_out hk
      have hI : (s.size : Int) ≤ (k : Int) := by omega
      subst h0
      clear HC
      go_enter Tryz.func128, Tryz.ntmps128
      go_wp2_with fail
      go_region
      all_goals go_wp2_with fail
      all_goals go_ret
      all_goals exact ⟨rfl, (Below.refl _ _).drew⟩
def isFlag (c : UInt8) : Bool := c == 45 || c == 43 || c == 32 || c == 35 || c == 48
/-- how many signs of flags stand there -/
def flagN (s : ByteArray) (i : Nat) : Nat := ((s.data.toList.drop i).takeWhile isFlag).length
def hasF (c : UInt8) (s : ByteArray) (i n : Nat) : Bool := ((s.data.toList.drop i).take n).contains c

theorem takeWhile_at {α : Type} (p : α → Bool) : ∀ (l : List α) (k : Nat), k < (l.takeWhile p).length → ∃ x, l[k]? = some x ∧ p x = true
  | [], k, h => by simp at h
  | a :: l, k, h => by
    rw [List.takeWhile_cons] at h
    split at h
    · rename_i ha
      cases k with
      | zero => exact ⟨a, rfl, ha⟩
      | succ k =>
        obtain ⟨x, h1, h2⟩ := takeWhile_at p l k (by simpa using h)
        exact ⟨x, by simpa using h1, h2⟩
    · simp at h
theorem takeWhile_stop {α : Type} (p : α → Bool) : ∀ (l : List α) (x : α), l[(l.takeWhile p).length]? = some x → p x = false
  | [], x, h => by simp at h
  | a :: l, x, h => by
    rw [List.takeWhile_cons] at h
    split at h
    · rename_i ha
      exact takeWhile_stop p l x (by simpa using h)
    · rename_i ha
      simp at h
      subst h
      simpa using ha
theorem ch_get {s : ByteArray} {i k : Nat} {x : UInt8} (h : (s.data.toList.drop i)[k]? = some x) : ch s (i + k) = x.toNat := by
  rw [List.getElem?_drop] at h
  unfold ch
  rw [List.getD_eq_getElem?_getD, h]
  rfl
theorem ch_none {s : ByteArray} {i k : Nat} (h : (s.data.toList.drop i)[k]? = none) : ch s (i + k) = 0 := by
  rw [List.getElem?_drop] at h
  unfold ch
  rw [List.getD_eq_getElem?_getD, h]
  rfl
theorem hasF_zero (c : UInt8) (s : ByteArray) (i : Nat) : hasF c s i 0 = false := by simp [hasF]
theorem hasF_step (c : UInt8) (s : ByteArray) (i n : Nat) (x : UInt8) (h : (s.data.toList.drop i)[n]? = some x) : hasF c s i (n + 1) = (hasF c s i n || c == x) := by
  unfold hasF
  rw [List.take_add_one, h]
  simp
  rfl
/-- the byte behind the flags is none -/
theorem flag_stop (s : ByteArray) (i : Nat) : ch s (i + flagN s i) ≠ 45 ∧ ch s (i + flagN s i) ≠ 43 ∧ ch s (i + flagN s i) ≠ 32 ∧ ch s (i + flagN s i) ≠ 35 ∧ ch s (i + flagN s i) ≠ 48 := by
  cases h : (s.data.toList.drop i)[flagN s i]? with
  | none => rw [ch_none h]; decide
  | some x =>
    have := takeWhile_stop isFlag _ x h
    rw [ch_get h]
    unfold isFlag at this
    simp only [Bool.or_eq_false_iff, beq_eq_false_iff_ne] at this
    obtain ⟨⟨⟨⟨h1, h2⟩, h3⟩, h4⟩, h5⟩ := this
    refine ⟨fun e => h1 ?_, fun e => h2 ?_, fun e => h3 ?_, fun e => h4 ?_, fun e => h5 ?_⟩ <;> exact UInt8.toNat_inj.1 e
theorem flag_at {s : ByteArray} {i k : Nat} (h : k < flagN s i) : ∃ x : UInt8, (s.data.toList.drop i)[k]? = some x ∧ ch s (i + k) = x.toNat ∧ (x = 45 ∨ x = 43 ∨ x = 32 ∨ x = 35 ∨ x = 48) := by
  obtain ⟨x, h1, h2⟩ := takeWhile_at isFlag _ k h
  refine ⟨x, h1, ch_get h1, ?_⟩
  unfold isFlag at h2
  simp only [Bool.or_eq_true, beq_iff_eq] at h2
  rcases h2 with (((h | h) | h) | h) | h
  · exact .inl h
  · exact .inr (.inl h)
  · exact .inr (.inr (.inl h))
  · exact .inr (.inr (.inr (.inl h)))
  · exact .inr (.inr (.inr (.inr h)))

/-- a piece's cells -/
def pieceA (m p b a z : Bool) (wd pr : Int) (vb : Int) (sw sp : Bool) (nx : Int) : Array Value := #[.bool m, .bool p, .bool b, .bool a, .bool z, .int .i64 wd, .int .i64 pr, .int .u8 vb, .bool sw, .bool sp, .int .i64 nx]
def PcAt (w : World) (r : Nat) (A : Array Value) : Prop := w.heap[r]? = some (.cells A 114 (0, 0))
theorem PcAt.lt {w : World} {r : Nat} {A : Array Value} (h : PcAt w r A) : r < w.heap.size := lt_of_heap h
theorem PcAt.cell {w : World} {r : Nat} {A : Array Value} (h : PcAt w r A) (i : Nat) : w.cell? ⟨r, i, none⟩ = A[i]? := by rw [Lib.cell_of_heap h]
theorem PcAt.frozen {w : World} {r : Nat} {A : Array Value} (h : PcAt w r A) (i : Nat) : w.frozen? ⟨r, i, none⟩ = false := Lib.frozen_of_heap h i
theorem PcAt.keep {w w' : World} {r : Nat} {A : Array Value} {S : List Nat} (h : PcAt w r A) (ha : Apart S w w') (hS : r ∉ S) : PcAt w' r A := (ha.block r h.lt hS).trans h
theorem PcAt.below {w w' : World} {r : Nat} {A : Array Value} (h : PcAt w r A) (hb : Below w.heap.size w w') : PcAt w' r A := (hb.block r h.lt).trans h
theorem PcAt.set {w : World} {r : Nat} {A : Array Value} (h : PcAt w r A) (i : Nat) (v : Value) : PcAt (w.setCell ⟨r, i, none⟩ v) r (A.setIfInBounds i v) := setCell_heap_same h i v
theorem PcAt.other {w : World} {r q : Nat} {A : Array Value} (h : PcAt w r A) (i : Nat) (v : Value) (hq : r ≠ q) : PcAt (w.setCell ⟨q, i, none⟩ v) r A := (Below.heap_setCell _ _ _ _ hq).trans h
theorem RdAt.other {w : World} {r q : Nat} {s : ByteArray} {j : Int} (h : RdAt w r s j) (i : Nat) (v : Value) (hq : r ≠ q) : RdAt (w.setCell ⟨q, i, none⟩ v) r s j := (Below.heap_setCell _ _ _ _ hq).trans h

end Go.Proofs.YtcmpdamfeoaapaaGreatDoor
