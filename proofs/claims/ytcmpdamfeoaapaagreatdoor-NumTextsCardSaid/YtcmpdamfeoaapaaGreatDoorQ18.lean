/- The document's answer of package num (thresherref04): isDigit; how digits are gone through. -/
import Derived.Test.YtcmpdamfeoaapaaGreatDoorQ6
import Derived.Test.YtcmpdamfeoaapaaGreatDoorM5
namespace Go.Proofs.YtcmpdamfeoaapaaGreatDoor
open Go.RowKit
set_option linter.unusedVariables false

/-- is there a digit? -/
def digB (s : ByteArray) (i : Nat) : Bool := decide (i < s.size) && (decide (48 ≤ byt s i) && decide (byt s i ≤ 57))
theorem digB_true {s : ByteArray} {i : Nat} : digB s i = true ↔ i < s.size ∧ 48 ≤ byt s i ∧ byt s i ≤ 57 := by
  unfold digB; simp
theorem isDigit_any (s : ByteArray) (i : Nat) (w : World) (hs : s.size ≤ 100000) (hi : i ≤ 200000) :
    Calls Tryz.prog 103 #[.string s, .int .i64 (i : Int)] w fun e w' => e = .returned (.bool (digB s i)) ∧ w = w' := by
  obtain ⟨n, hn⟩ : ∃ n, n = s.size := ⟨_, rfl⟩
  have hnI : (s.size : Int) = (n : Int) := by omega
  by_cases hlt : i < n
  · have his : i < s.size := by omega
    have hcc := byt_in his
    have hI : (i : Int) < (n : Int) := by omega
    have hD : Hid (digB s i = (decide (48 ≤ byt s i) && decide (byt s i ≤ 57))) := by
      show _ = _
      unfold digB; rw [decide_eq_true his]; rfl
    generalize byt s i = c at *
    generalize digB s i = R at *
    clear hn
    by_cases h1 : 48 ≤ c
    · have h1I : (48 : Int) ≤ (c : Int) := by omega
      by_cases h2 : c ≤ 57
      · have h2I : (c : Int) ≤ 57 := by omega
        have HR : Hid (R = true) := by have := hD.out; rw [decide_eq_true h1, decide_eq_true h2] at this; exact this
        go_enter Tryz.func103, Tryz.ntmps103
        go_wp2_with fail
        go_ret
        exact ⟨by rw [HR.out]; rfl, rfl⟩
      · have h2I : (57 : Int) < (c : Int) := by omega
        have HR : Hid (R = false) := by have := hD.out; rw [decide_eq_true h1, decide_eq_false h2] at this; exact this
        have h2J : decide ((c : Int) ≤ 57) = false := by simp; omega
        clear h2
        go_enter Tryz.func103, Tryz.ntmps103
        go_wp2_with fail
        go_ret
        exact ⟨by rw [HR.out]; rfl, rfl⟩
    · have h1I : (c : Int) < 48 := by omega
      have HR : Hid (R = false) := by have := hD.out; rw [decide_eq_false h1] at this; exact this
      clear h1
      go_enter Tryz.func103, Tryz.ntmps103
      go_wp2_with fail
      go_ret
      exact ⟨by rw [HR.out]; rfl, rfl⟩
  · have hI : (n : Int) ≤ (i : Int) := by omega
    have HR : Hid (digB s i = false) := by show _ = _; unfold digB; rw [decide_eq_false (by omega)]; rfl
    generalize digB s i = R at *
    clear hn
    go_enter Tryz.func103, Tryz.ntmps103
    go_wp2_with fail
    go_ret
    exact ⟨by rw [HR.out]; rfl, rfl⟩

theorem lead_le4 (l : List UInt8) : (lead l).length ≤ l.length := (List.takeWhile_sublist _).length_le
theorem lead_at {l : List UInt8} {k : Nat} (h : k < (lead l).length) : ∃ h2 : k < l.length, (lead l)[k] = l[k] := by
  have hl := lead_le4 l
  refine ⟨by omega, ?_⟩
  have e : l = lead l ++ l.dropWhile (digs.contains ·) := (List.takeWhile_append_dropWhile).symm
  have : l[k]? = (lead l)[k]? := by
    have e2 : l[k]? = (lead l ++ l.dropWhile (digs.contains ·))[k]? := by rw [← e]
    rw [e2, List.getElem?_append_left h]
  rw [List.getElem?_eq_getElem (by omega), List.getElem?_eq_getElem h] at this
  exact (Option.some.inj this).symm
theorem lead_not : ∀ l : List UInt8, ∀ h : (lead l).length < l.length, ¬ (48 ≤ (l[(lead l).length]'h).toNat ∧ (l[(lead l).length]'h).toNat ≤ 57)
  | [], h => by simp at h
  | c :: r, h => by
    by_cases hc : digs.contains c = true
    · have e : lead (c :: r) = c :: lead r := by unfold lead; rw [List.takeWhile_cons, if_pos hc]
      have h' : (lead r).length < r.length := by rw [e] at h; simpa using h
      have := lead_not r h'
      simp only [e, List.length_cons, List.getElem_cons_succ]
      exact this
    · have e : lead (c :: r) = [] := by unfold lead; rw [List.takeWhile_cons, if_neg hc]
      simp only [e, List.length_nil, List.getElem_cons_zero]
      exact fun hh => hc ((digs_iff c).2 hh)
/-- a digit within the run -/
theorem scan_in {s : ByteArray} {p k : Nat} (h : k < (lead (s.data.toList.drop p)).length) :
    p + k < s.size ∧ digB s (p + k) = true ∧ 48 ≤ byt s (p + k) ∧ byt s (p + k) ≤ 57 ∧ ((lead (s.data.toList.drop p))[k]).toNat = byt s (p + k) := by
  obtain ⟨h2, h3⟩ := lead_at h
  have hd := lead_digits (s.data.toList.drop p) _ (List.getElem_mem h)
  have hs : s.size = s.data.toList.length := by simp
  rw [List.length_drop] at h2
  rw [List.getElem_drop] at h3
  have hb : byt s (p + k) = ((lead (s.data.toList.drop p))[k]).toNat := by rw [byt_list (by omega), h3]
  refine ⟨by omega, digB_true.2 ⟨by omega, by omega, by omega⟩, by omega, by omega, hb.symm⟩
/-- none behind it -/
theorem scan_out (s : ByteArray) (p : Nat) : digB s (p + (lead (s.data.toList.drop p)).length) = false := by
  have hs : s.size = s.data.toList.length := by simp
  refine Bool.eq_false_iff.2 fun h => ?_
  obtain ⟨h1, h2, h3⟩ := digB_true.1 h
  have hl : (lead (s.data.toList.drop p)).length < (s.data.toList.drop p).length := by rw [List.length_drop]; omega
  refine lead_not _ hl ?_
  rw [List.getElem_drop, ← byt_list (by omega)]
  exact ⟨h2, h3⟩
theorem scan_le (s : ByteArray) (p : Nat) (hp : p ≤ s.size) : p + (lead (s.data.toList.drop p)).length ≤ s.size := by
  have := lead_le4 (s.data.toList.drop p)
  have hs : s.size = s.data.toList.length := by simp
  rw [List.length_drop] at this; omega
theorem take_succ_nat {l : List UInt8} {k : Nat} (h : k < l.length) : (l.take (k + 1)).map (·.toNat) = (l.take k).map (·.toNat) ++ [l[k].toNat] := by
  rw [List.take_succ_eq_append_getElem h, List.map_append]; rfl
end Go.Proofs.YtcmpdamfeoaapaaGreatDoor
