/- The document's answer of package ustr: Sub. -/
import Derived.Test.YtjldeckcfdeklaaGreatDoorV4
import Derived.StillTailTactics
import Derived.Deep.RegionHeld3
namespace Go.Proofs.YtjldeckcfdeklaaGreatDoor
open Go.RowKit
set_option linter.unusedVariables false

theorem starts_get (s : ByteArray) (b : Bool) (j : Nat) (h : j ≤ (chars s b 0).length) : (startsL s b 0)[j]? = some (placeC s b j) := by
  unfold startsL placeC
  rcases Nat.lt_or_ge j (chars s b 0).length with h' | h'
  · rw [List.getElem?_append_left (by simpa using h'), List.getElem?_map, List.getElem?_eq_getElem h']
    rfl
  · have e : j = (chars s b 0).length := by omega
    subst e
    rw [List.getElem?_append_right (by simp), List.getElem?_eq_none (Nat.le_refl _)]
    simp
theorem placeC_zero (s : ByteArray) (b : Bool) : placeC s b 0 = 0 := by
  unfold placeC
  rcases Nat.eq_zero_or_pos s.size with h | h
  · rw [chars_end (by omega)]; exact h
  · rw [chars_step h]; rfl
theorem placeC_le (s : ByteArray) (b : Bool) (q : Nat) : placeC s b q ≤ s.size := by
  unfold placeC
  cases h : (chars s b 0)[q]? with
  | none => exact Nat.le_refl _
  | some x => exact Nat.le_of_lt (chars_at s b _ 0 (Nat.le_refl _) _ (List.mem_of_getElem? h)).2
theorem placeC_out (s : ByteArray) (b : Bool) (q : Nat) (h : (chars s b 0).length ≤ q) : placeC s b q = s.size := by
  unfold placeC
  rw [List.getElem?_eq_none h]
theorem extract_zero (s : ByteArray) : s.extract 0 0 = ⟨#[]⟩ := by
  have : (s.extract 0 0).size = 0 := by rw [ByteArray.size_extract]; omega
  cases h : s.extract 0 0 with
  | mk d =>
    rw [h] at this
    congr 1
    exact Array.eq_empty_of_size_eq_zero this

set_option maxHeartbeats 8000000 in
set_option maxRecDepth 1000000 in
theorem Sub1_any (s : ByteArray) (q : Nat) (b : Bool) (w : World) (hq : q ≤ 1000000) (hs : s.size ≤ 900000000) :
    Calls Tryz.prog 20 #[.string s, .int .i64 1, .int .i64 ((q : Int) + 1), .bool b] w fun e w' => e = .returned (.string (s.extract 0 (placeC s b q))) ∧ Below w.heap.size w w' := by
  have HS := Lib.hid (Starts_any s b w hs)
  have hl := starts_len s b 0
  have hcl := chars_len s b s.size 0 (by omega)
  obtain ⟨n, hn⟩ : ∃ n, n = (chars s b 0).length := ⟨_, rfl⟩
  rw [← hn] at hl hcl
  have hm1 : max (1 : Int) 1 = 1 := by omega
  obtain ⟨h, hh⟩ : ∃ h, h = min q n := ⟨_, rfl⟩
  obtain ⟨N, hN⟩ : ∃ N, N = n + 1 := ⟨_, rfl⟩
  have hm2 : min ((q : Int) + 1) (N : Int) = (h : Int) + 1 := by omega
  have hpl : placeC s b q = placeC s b h := by
    rcases Nat.lt_or_ge n q with h' | h'
    · rw [placeC_out s b q (by omega), placeC_out s b h (by omega)]
    · rw [show h = q by omega]
  have hg0 := starts_get s b 0 (Nat.zero_le _)
  rw [placeC_zero] at hg0
  have hgh := starts_get s b h (by omega)
  have hle := placeC_le s b h
  have HP : Hid (s.extract 0 (placeC s b q) = s.extract 0 (placeC s b h)) := by show _ = _; rw [hpl]
  have HP0 : Hid (h = 0 → s.extract 0 (placeC s b q) = ⟨#[]⟩) := by
    intro h0
    rw [hpl, h0, placeC_zero, extract_zero]
  generalize placeC s b h = H at *
  have hHI : (H : Int) ≤ (s.size : Int) := by omega
  have hnI : (n : Int) ≤ 900000000 := by omega
  have hhI : (h : Int) ≤ (n : Int) := by omega
  have i0 : (0 : Int) < (N : Int) := by omega
  have ih : (h : Int) < (N : Int) := by omega
  have hw1 : IntKind.i64.wrap ((h : Int) + 1 - 1) = (h : Int) := by rw [IntKind.wrap_i64]; omega
  have hNI : (N : Int) ≤ 900000001 := by omega
  have i0n : 0 < N := by omega
  have ihn : h < N := by omega
  have HN := Lib.hid hn
  have HH := Lib.hid hh
  clear hn hpl hh
  have HNN := Lib.hid hN
  go_enter Tryz.func20, Tryz.ntmps20
  go_wp2_with fail
  refine HS.out.mono ?_
  rintro e w1 ⟨v, rfl, hown, hb⟩
  have HB := Lib.hid hb
  obtain ⟨g, cap, rfl, hrow⟩ : ∃ g cap, v = .slice (some ⟨g, 0, none⟩) N cap ∧ RowI w1 g cap (startsL s b 0) := by
    rcases hown.slice with ⟨_, h⟩ | ⟨g, cap, h, _, hr⟩
    · rw [h] at hl; cases hl
    · exact ⟨g, cap, by rw [h, hl, hN], hr⟩
  have hc0 : w1.cell? ⟨g, 0, none⟩ = some (.int .i64 0) := by
    have h1 : 0 < (startsL s b 0).length := by omega
    have e := hrow.cell 0 h1
    rw [List.getElem?_eq_getElem h1] at hg0
    rw [Option.some.inj hg0] at e
    exact e
  have hch : w1.cell? ⟨g, h, none⟩ = some (.int .i64 (H : Nat)) := by
    have h1 : h < (startsL s b 0).length := by omega
    have e := hrow.cell h h1
    rw [List.getElem?_eq_getElem h1] at hgh
    rw [Option.some.inj hgh] at e
    exact e
  clear hb hown hl hcl hrow hg0 hgh hle hN
  rcases Nat.eq_zero_or_pos h with h0 | h0
  · subst h0
    have HR := Lib.hid (HP0.out rfl)
    clear HP HP0 hch
    go_wp2_with fail
    go_ret
    exact ⟨by rw [HR.out]; rfl, HB.out⟩
  · have hd : decide ((h : Int) + 1 ≤ 1) = false := by simp; omega
    clear HP0 h0
    go_wp2_with fail
    go_region
    all_goals go_wp2_with fail
    all_goals go_ret
    all_goals exact ⟨by rw [HP.out]; simp, by first | exact HB.out | exact HB.out.drew⟩
end Go.Proofs.YtjldeckcfdeklaaGreatDoor
