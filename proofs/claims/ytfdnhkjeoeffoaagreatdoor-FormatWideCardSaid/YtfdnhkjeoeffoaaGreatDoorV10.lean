/- The document's answer of package ustr: Sub of bytes, from any place. -/
import Derived.Test.YtfdnhkjeoeffoaaGreatDoorM9
import Derived.Test.YtfdnhkjeoeffoaaGreatDoorZ1
namespace Go.Proofs.YtfdnhkjeoeffoaaGreatDoor
open Go.RowKit
set_option linter.unusedVariables false

theorem chars_true (s : ByteArray) : ∀ (n m : Nat), s.size - m ≤ n → (chars s true m).length = s.size - m ∧ ∀ j, m + j < s.size → (chars s true m)[j]? = some (m + j, ch s (m + j)) := by
  intro n
  induction n with
  | zero =>
    intro m h
    rw [chars_end (by omega)]
    exact ⟨by simp; omega, fun j hj => by omega⟩
  | succ n ih =>
    intro m h
    rcases Nat.lt_or_ge m s.size with hm | hm
    · have h1 : nxt s m true = (ch s m, 1) := by unfold nxt; rw [if_pos rfl]
      rw [chars_step hm, h1]
      obtain ⟨i1, i2⟩ := ih (m + 1) (by omega)
      refine ⟨by rw [List.length_cons, i1]; omega, fun j hj => ?_⟩
      cases j with
      | zero => rfl
      | succ j =>
        rw [List.getElem?_cons_succ, i2 j (by omega), show m + 1 + j = m + (j + 1) by omega]
    · rw [chars_end hm]
      exact ⟨by simp; omega, fun j hj => by omega⟩
theorem placeC_true (s : ByteArray) {q : Nat} (h : q ≤ s.size) : placeC s true q = q := by
  obtain ⟨h1, h2⟩ := chars_true s s.size 0 (by omega)
  unfold placeC
  rcases Nat.lt_or_ge q s.size with hq | hq
  · rw [h2 q (by omega)]
    simp
  · rw [List.getElem?_eq_none (by omega)]
    simp; omega
set_option maxHeartbeats 8000000 in
set_option maxRecDepth 1000000 in
theorem Sub2_any (s : ByteArray) (p q : Nat) (w : World) (hpq : p ≤ q) (hq : q ≤ s.size) (hs : s.size ≤ 1000000) :
    Calls Tryz.prog 25 #[.string s, .int .i64 ((p : Int) + 1), .int .i64 ((q : Int) + 1), .bool true] w fun e w' => e = .returned (.string (s.extract p q)) ∧ Below w.heap.size w w' := by
  have HS := Lib.hid (Starts_any s true w (by omega))
  have hl := starts_len s true 0
  have hcl := (chars_true s s.size 0 (by omega)).1
  have hm1 : max ((p : Int) + 1) 1 = (p : Int) + 1 := by omega
  obtain ⟨N, hN⟩ : ∃ N, N = s.size + 1 := ⟨_, rfl⟩
  have hm2 : min ((q : Int) + 1) (N : Int) = (q : Int) + 1 := by omega
  have hgp := starts_get s true p (by omega)
  rw [placeC_true s (by omega)] at hgp
  have hgq := starts_get s true q (by omega)
  rw [placeC_true s hq] at hgq
  have hw1 : IntKind.i64.wrap ((p : Int) + 1 - 1) = (p : Int) := by rw [IntKind.wrap_i64]; omega
  have hw2 : IntKind.i64.wrap ((q : Int) + 1 - 1) = (q : Int) := by rw [IntKind.wrap_i64]; omega
  have hNI : (N : Int) ≤ 1000001 := by omega
  have ipn : p < N := by omega
  have iqn : q < N := by omega
  have ipI : (p : Int) < (N : Int) := by omega
  have iqI : (q : Int) < (N : Int) := by omega
  have hpqI : (p : Int) ≤ (q : Int) := by omega
  have hqsI : (q : Int) ≤ (s.size : Int) := by omega
  have hp1 : IntKind.i64.wrap ((p : Int) + 1) = (p : Int) + 1 := by rw [IntKind.wrap_i64]; omega
  have hq1 : IntKind.i64.wrap ((q : Int) + 1) = (q : Int) + 1 := by rw [IntKind.wrap_i64]; omega
  have HSz := Lib.hid hs
  clear hs
  go_enter Tryz.func25, Tryz.ntmps25
  go_wp2_with fail
  refine HS.out.mono ?_
  rintro e w1 ⟨v, rfl, hown, hb⟩
  have HB := Lib.hid hb
  obtain ⟨g, cap, rfl, hrow⟩ : ∃ g cap, v = .slice (some ⟨g, 0, none⟩) N cap ∧ RowI w1 g cap (startsL s true 0) := by
    rcases hown.slice with ⟨_, h⟩ | ⟨g, cap, h, _, hr⟩
    · rw [h] at hl; cases hl
    · exact ⟨g, cap, by rw [h, hl, hN]; congr 1; omega, hr⟩
  have hcp : w1.cell? ⟨g, p, none⟩ = some (.int .i64 (p : Nat)) := by
    have h1 : p < (startsL s true 0).length := by omega
    have e := hrow.cell p h1
    rw [List.getElem?_eq_getElem h1] at hgp
    rw [Option.some.inj hgp] at e
    exact e
  have hcq : w1.cell? ⟨g, q, none⟩ = some (.int .i64 (q : Nat)) := by
    have h1 : q < (startsL s true 0).length := by omega
    have e := hrow.cell q h1
    rw [List.getElem?_eq_getElem h1] at hgq
    rw [Option.some.inj hgq] at e
    exact e
  clear hb hown hl hcl hrow hgp hgq hN
  rcases Nat.lt_or_ge p q with h0 | h0
  · have hd : decide ((q : Int) + 1 ≤ (p : Int) + 1) = false := by simp; omega
    have hd2 : ¬ ((q : Int) + 1 ≤ (p : Int) + 1) := by omega
    clear h0
    go_wp2_with fail
    go_region
    all_goals go_wp2_with fail
    all_goals go_ret
    all_goals exact ⟨by simp, by first | exact HB.out | exact HB.out.drew⟩
  · obtain rfl : p = q := by omega
    have HR : Hid ((⟨#[]⟩ : ByteArray) = s.extract p p) := by
      have : (s.extract p p).size = 0 := by rw [ByteArray.size_extract]; omega
      cases h : s.extract p p with
      | mk d =>
        rw [h] at this
        show _ = _
        congr 1
        exact (Array.eq_empty_of_size_eq_zero this).symm
    clear hcp hcq
    go_wp2_with fail
    go_ret
    exact ⟨by rw [← HR.out]; rfl, HB.out⟩
end Go.Proofs.YtfdnhkjeoeffoaaGreatDoor
