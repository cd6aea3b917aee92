/- The document's answer of package ustr, plain: the size of an encoding is what the decoder says. -/
import Derived.Test.YtjldeckcfdeklaaGreatDoorU2
import Derived.Lib.DecodeN
namespace Go.Proofs.YtjldeckcfdeklaaGreatDoor
open Go.RowKit
set_option linter.unusedVariables false

def endR (n least r : Nat) : Nat × Nat := if r < least then (0, 0) else if 1114111 < r then (0, 0) else if 55296 ≤ r ∧ r ≤ 57343 then (0, 0) else (n, r)
/-- what size answers at a string of n bytes that begins so -/
def sizeN (n b0 b1 b2 b3 : Nat) : Nat × Nat :=
  if b0 < 128 then (1, b0)
  else if 194 ≤ b0 ∧ b0 ≤ 223 then
    (if n < 2 then (0, 0) else if b1 < 128 ∨ 191 < b1 then (0, 0) else endR 2 128 (64 * (b0 % 32) + b1 - 128))
  else if 224 ≤ b0 ∧ b0 ≤ 239 then
    (if n < 3 then (0, 0) else if b1 < 128 ∨ 191 < b1 then (0, 0) else if b2 < 128 ∨ 191 < b2 then (0, 0) else endR 3 2048 (64 * (64 * (b0 % 16) + b1 - 128) + b2 - 128))
  else if 240 ≤ b0 ∧ b0 ≤ 244 then
    (if n < 4 then (0, 0) else if b1 < 128 ∨ 191 < b1 then (0, 0) else if b2 < 128 ∨ 191 < b2 then (0, 0) else if b3 < 128 ∨ 191 < b3 then (0, 0)
      else endR 4 65536 (64 * (64 * (64 * (b0 % 8) + b1 - 128) + b2 - 128) + b3 - 128))
  else (0, 0)
def sizeR (s : ByteArray) : Nat × Nat := sizeN s.size (ch s 0) (ch s 1) (ch s 2) (ch s 3)
/-- the code and the width, as the document says -/
def nxtR (s : ByteArray) : Nat × Nat := if (sizeR s).1 = 0 then (1114112 + ch s 0, 1) else ((sizeR s).2, (sizeR s).1)

theorem get_ch (s : ByteArray) (k : Nat) : (s.get! k).toNat = ch s k := by
  unfold ch
  congr 1
  show s.data[k]! = _
  rw [List.getD_eq_getElem?_getD, getElem!_def]
  simp only [Array.getElem?_toList]
  cases s.data[k]? <;> rfl
def odd1 (d : Nat × Nat) (c : Nat) : Nat × Nat := if d.1 = 65533 ∧ d.2 = 1 then (1114112 + c, 1) else d
def nxtN (n b0 b1 b2 b3 : Nat) : Nat × Nat := if (sizeN n b0 b1 b2 b3).1 = 0 then (1114112 + b0, 1) else ((sizeN n b0 b1 b2 b3).2, (sizeN n b0 b1 b2 b3).1)
set_option maxHeartbeats 4000000 in
theorem size_decN (n b0 b1 b2 b3 : Nat) (h0 : 0 < n) (c0 : b0 < 256) (c1 : b1 < 256) (c2 : b2 < 256) (c3 : b3 < 256) : odd1 (Lib.decodeN n b0 b1 b2 b3) b0 = nxtN n b0 b1 b2 b3 := by
  unfold Lib.decodeN nxtN sizeN endR
  by_cases g0 : b0 < 128
  · simp [g0, odd1]
    omega
  by_cases g1 : 194 ≤ b0 ∧ b0 ≤ 223
  · rw [if_neg g0, if_neg g0, if_pos g1]
    repeat' split
    all_goals (simp_all [odd1] <;> omega)
  by_cases g2 : 224 ≤ b0 ∧ b0 ≤ 239
  · rw [if_neg g0, if_neg g0, if_neg g1, if_pos g2, if_neg (show ¬ (b0 / 32 = 6 ∧ 1 < n ∧ b1 / 64 = 2) from by omega)]
    repeat' split
    all_goals (simp_all [odd1] <;> omega)
  by_cases g3 : 240 ≤ b0 ∧ b0 ≤ 244
  · rw [if_neg g0, if_neg g0, if_neg g1, if_neg g2, if_pos g3, if_neg (show ¬ (b0 / 32 = 6 ∧ 1 < n ∧ b1 / 64 = 2) from by omega), if_neg (show ¬ (b0 / 16 = 14 ∧ (1 < n ∧ b1 / 64 = 2) ∧ 2 < n ∧ b2 / 64 = 2) from by omega)]
    repeat' split
    all_goals (simp_all [odd1] <;> omega)
  rw [if_neg g0, if_neg g0, if_neg g1, if_neg g2, if_neg g3, if_neg (show ¬ (b0 / 16 = 14 ∧ (1 < n ∧ b1 / 64 = 2) ∧ 2 < n ∧ b2 / 64 = 2) from by omega)]
  simp only [if_true]
  repeat' split
  all_goals (simp_all [odd1] <;> omega)
theorem nxtN_le (n b0 b1 b2 b3 : Nat) (h0 : 0 < n) : (nxtN n b0 b1 b2 b3).2 ≤ n := by
  have he : ∀ k l r, k ≤ n → (endR k l r).1 = 0 ∨ (endR k l r).1 ≤ n := fun k l r hk => by
    unfold endR
    repeat' split
    all_goals first | exact .inl rfl | exact .inr hk
  have hs : (sizeN n b0 b1 b2 b3).1 = 0 ∨ (sizeN n b0 b1 b2 b3).1 ≤ n := by
    unfold sizeN
    repeat' split
    all_goals first | exact he _ _ _ (by omega) | exact .inr h0 | exact .inl rfl
  unfold nxtN
  split
  · exact h0
  · rcases hs with h | h
    · contradiction
    · exact h
theorem size_decode (s : ByteArray) (h : 0 < s.size) : odd1 (Utf8.decode s 0) (ch s 0) = nxtR s := by
  rw [Lib.decode_at, get_ch, get_ch, get_ch, get_ch]
  exact size_decN s.size _ _ _ _ h (ch_lt _ _) (ch_lt _ _) (ch_lt _ _) (ch_lt _ _)
theorem ch_extract (s : ByteArray) (m : Nat) : ch (s.extract m s.size) 0 = ch s m := by
  unfold ch
  rw [show (s.extract m s.size).data = s.data.extract m s.size from ByteArray.data_extract]
  rw [List.getD_eq_getElem?_getD, List.getD_eq_getElem?_getD]
  simp only [Array.getElem?_toList, Array.getElem?_extract]
  have hz : s.size = s.data.size := rfl
  rcases Nat.lt_or_ge m s.size with h | h
  · rw [if_pos (by omega)]
    rfl
  · rw [if_neg (by omega), Array.getElem?_eq_none (by omega)]
theorem nxt_ref (s : ByteArray) (m : Nat) (h : m < s.size) : nxt s m false = nxtR (s.extract m s.size) := by
  have hz : 0 < (s.extract m s.size).size := by rw [ByteArray.size_extract]; omega
  have e := size_decode _ hz
  rw [← e, ch_extract]
  unfold nxt odd1 dgo Lib.decodeGo
  rw [if_neg (Nat.ne_of_gt hz)]
  rfl
theorem nxt_in (s : ByteArray) (m : Nat) (b : Bool) (h : m < s.size) : m + (nxt s m b).2 ≤ s.size := by
  cases b
  · rw [nxt_ref s m h]
    have hz : (s.extract m s.size).size = s.size - m := by rw [ByteArray.size_extract]; omega
    have := nxtN_le (s.extract m s.size).size (ch (s.extract m s.size) 0) (ch (s.extract m s.size) 1) (ch (s.extract m s.size) 2) (ch (s.extract m s.size) 3) (by omega)
    have e : nxtR (s.extract m s.size) = nxtN (s.extract m s.size).size (ch (s.extract m s.size) 0) (ch (s.extract m s.size) 1) (ch (s.extract m s.size) 2) (ch (s.extract m s.size) 3) := rfl
    rw [e]
    omega
  · show m + 1 ≤ _
    omega
/-- the places of the characters from a place on, and the end -/
def startsL (s : ByteArray) (b : Bool) (m : Nat) : List Nat := (chars s b m).map (·.1) ++ [s.size]
theorem starts_step {s : ByteArray} {b : Bool} {m : Nat} (h : m < s.size) : startsL s b m = m :: startsL s b (m + (nxt s m b).2) := by
  unfold startsL
  rw [chars_step h]
  rfl
theorem starts_end (s : ByteArray) (b : Bool) : startsL s b s.size = [s.size] := by
  unfold startsL
  rw [chars_end (Nat.le_refl _)]
  rfl
theorem starts_len (s : ByteArray) (b : Bool) (m : Nat) : (startsL s b m).length = (chars s b m).length + 1 := by
  unfold startsL
  simp
end Go.Proofs.YtjldeckcfdeklaaGreatDoor
