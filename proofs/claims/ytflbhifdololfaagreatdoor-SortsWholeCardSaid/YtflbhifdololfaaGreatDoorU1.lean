/- Package ustr: Next, All; the characters of a string. -/
import Derived.Test.YtflbhifdololfaaGreatDoorP1
import Derived.Test.YtflbhifdololfaaGreatDoorShelf
import Derived.Shelf.Unicode.DecodeSlow
namespace Go.Proofs.YtflbhifdololfaaGreatDoor
open Go.RowKit
set_option linter.unusedVariables false

/-- the tables of unicode/utf8 -/
def U8Ok (w : World) : Prop := Lib.Utf8Tabs 6 7 w
theorem U8Ok.below {w w' : World} (h : U8Ok w) (hb : Below w.heap.size w w') : U8Ok w' := by
  have old : ∀ {p : Addr} {v : Value}, w.cell? p = some v → w'.cell? p = some v := fun {p v} h => by
    refine (hb.cell ?_).trans h
    rcases Nat.lt_or_ge p.block w.heap.size with h' | h'
    · exact h'
    · exfalso
      unfold World.cell? at h
      rw [Array.getElem?_eq_none h'] at h
      cases h
  exact ⟨fun c hc => old (h.1 c hc), fun i hi => ⟨old (h.2 i hi).1, old (h.2 i hi).2⟩⟩

/-- the rune at a place, and its width -/
def dgo (s : ByteArray) (m : Nat) : Nat × Nat := Lib.decodeGo (s.extract m s.size)
/-- the character at a place: its code and its width -/
def nxt (s : ByteArray) (m : Nat) (b : Bool) : Nat × Nat :=
  if b = true then (ch s m, 1) else if (dgo s m).1 = 65533 ∧ (dgo s m).2 = 1 then (1114112 + ch s m, 1) else dgo s m

theorem decode_width (s : ByteArray) (i : Nat) : 1 ≤ (Utf8.decode s i).2 ∧ (Utf8.decode s i).2 ≤ 4 ∧ (Utf8.decode s i).1 ≤ 4194304 := by
  have hb : ∀ k, (s.get! k).toNat < 256 := fun k => UInt8.toNat_lt _
  have h0 := hb (i + 0)
  have h1 := hb (i + 1)
  have h2 := hb (i + 2)
  have h3 := hb (i + 3)
  unfold Utf8.decode
  simp only [Utf8.runeError]
  repeat' split
  all_goals refine ⟨?_, ?_, ?_⟩ <;> first | omega | (simp only []; omega)
theorem dgo_width {s : ByteArray} {m : Nat} (h : m < s.size) : 1 ≤ (dgo s m).2 ∧ (dgo s m).2 ≤ 4 ∧ (dgo s m).1 ≤ 4194304 := by
  unfold dgo Lib.decodeGo
  rw [if_neg (by rw [ByteArray.size_extract]; omega)]
  exact decode_width _ 0
theorem nxt_width {s : ByteArray} {m : Nat} (b : Bool) (h : m < s.size) : 1 ≤ (nxt s m b).2 ∧ (nxt s m b).2 ≤ 4 ∧ (nxt s m b).1 ≤ 4194304 := by
  have h1 := dgo_width h
  have h2 := ch_lt s m
  unfold nxt
  split
  · exact ⟨Nat.le_refl _, by simp only []; omega, by simp only []; omega⟩
  · split
    · exact ⟨Nat.le_refl _, by simp only []; omega, by simp only []; omega⟩
    · exact h1

set_option maxHeartbeats 4000000 in
set_option maxRecDepth 100000 in
theorem UNext_any (s : ByteArray) (m : Nat) (b : Bool) (w : World) (hm : m < s.size) (hs : s.size ≤ 140737488351232) (hU : U8Ok w) :
    Calls Tryz.prog 141 #[.string s, .int .i64 (m : Int), .bool b] w fun e w' => e = .returned (.tuple #[.int .i64 ((nxt s m b).1 : Nat), .int .i64 ((nxt s m b).2 : Nat)]) ∧ Below w.heap.size w w' := by
  have hcc : s[m].toNat = ch s m := ch_in hm
  have hI : (m : Int) < (s.size : Int) := by omega
  have hS : (s.size : Int) ≤ 140737488351232 := by omega
  have hneg : decide ((m : Int) < 0) = false := by simp
  have hch := ch_lt s m
  obtain ⟨N, hN⟩ : ∃ N, N = nxt s m b := ⟨_, rfl⟩
  rw [← hN]
  unfold nxt at hN
  have HD := Lib.hid (Tryz.utf8_DecodeRuneInString (s.extract m s.size) w hU)
  rw [show Lib.decodeGo (s.extract m s.size) = dgo s m from rfl] at HD
  have hdw := dgo_width hm
  obtain ⟨⟨R, K⟩, hd⟩ : ∃ x, x = dgo s m := ⟨_, rfl⟩
  rw [← hd] at hN HD hdw
  clear hd
  dsimp only at hN HD hdw
  generalize ch s m = c at *
  cases b
  · have HN := Lib.hid hN
    clear hN
    go_enter Tryz.func141, Tryz.ntmps141
    go_wp2_with fail
    refine HD.out.mono ?_
    rintro e w1 ⟨rfl, hb⟩
    have HB := Lib.hid hb
    clear hb
    by_cases hR : R = 65533
    · subst hR
      by_cases hK : K = 1
      · subst hK
        obtain rfl : N = (1114112 + c, 1) := by rw [HN.out]; simp
        clear HN HD
        go_wp2_with fail
        go_ret2
        exact ⟨by simp, HB.out⟩
      · have hKb : ((K : Int) == 1) = false := by simp; omega
        obtain rfl : N = (65533, K) := by rw [HN.out]; simp [hK]
        clear HN HD hK
        go_wp2_with fail
        go_ret2
        exact ⟨rfl, HB.out⟩
    · have hRb : ((R : Int) == 65533) = false := by simp; omega
      obtain rfl : N = (R, K) := by rw [HN.out]; simp [hR]
      clear HN HD hR
      go_wp2_with fail
      go_ret2
      exact ⟨rfl, HB.out⟩
  · rw [if_pos rfl] at hN
    subst hN
    clear HD
    go_enter Tryz.func141, Tryz.ntmps141
    go_wp2_with fail
    go_ret2
    exact ⟨rfl, Below.refl _ _⟩

theorem UAll_any (s : ByteArray) (b : Bool) (w : World) :
    Calls Tryz.prog 106 #[.string s, .bool b] w fun e w' => e = .returned (.func (.func 140) #[] #[.pointer (some ⟨w.heap.size, 0, none⟩), .pointer (some ⟨w.heap.size + 1, 0, none⟩)]) ∧ w' = (w.alloc (.cells #[.string s] 9)).alloc (.cells #[.bool b] 4) := by
  go_enter Tryz.func106, Tryz.ntmps106
  go_wp2_with fail
  go_ret
  exact ⟨rfl, rfl⟩
end Go.Proofs.YtflbhifdololfaaGreatDoor
