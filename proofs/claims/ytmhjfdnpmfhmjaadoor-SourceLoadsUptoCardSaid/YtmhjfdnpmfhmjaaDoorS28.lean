/- thresherref19.directive, plain: by places in the line. -/
import Derived.Test.YtmhjfdnpmfhmjaaDoorS26
import Derived.Test.YtmhjfdnpmfhmjaaDoorS27
namespace Go.Proofs.YtmhjfdnpmfhmjaaDoor
set_option linter.unusedVariables false

def isBl (c : UInt8) : Bool := c == 32 || c == 9
/-- the first place from i on where p fails -/
def skipP (p : UInt8 → Bool) (s : Str) (i : Nat) : Nat := i + ((s.drop i).takeWhile p).length
theorem skipP_hit {p : UInt8 → Bool} {s : Str} {i : Nat} {c : UInt8} (h : s[i]? = some c) (hp : p c = true) : skipP p s i = skipP p s (i + 1) := by
  obtain ⟨h1, h2⟩ := List.getElem?_eq_some_iff.1 h
  unfold skipP
  rw [List.drop_eq_getElem_cons h1, h2, List.takeWhile_cons, if_pos hp, List.length_cons]; omega
theorem skipP_stop {p : UInt8 → Bool} {s : Str} {i : Nat} {c : UInt8} (h : s[i]? = some c) (hp : p c = false) : skipP p s i = i := by
  obtain ⟨h1, h2⟩ := List.getElem?_eq_some_iff.1 h
  unfold skipP
  rw [List.drop_eq_getElem_cons h1, h2, List.takeWhile_cons, if_neg (by rw [hp]; decide)]; rfl
theorem skipP_end {p : UInt8 → Bool} {s : Str} {i : Nat} (h : s.length ≤ i) : skipP p s i = i := by
  unfold skipP
  rw [List.drop_eq_nil_of_le h]; rfl
theorem skipP_le {p : UInt8 → Bool} {s : Str} {i : Nat} (h : i ≤ s.length) : i ≤ skipP p s i ∧ skipP p s i ≤ s.length := by
  unfold skipP
  have := (List.takeWhile_sublist p (l := s.drop i)).length_le
  rw [List.length_drop] at this
  omega
theorem drop_tw (p : UInt8 → Bool) (t : Str) : t.drop (t.takeWhile p).length = t.dropWhile p := by
  induction t with
  | nil => rfl
  | cons c t ih =>
    cases hc : p c with
    | true => rw [List.takeWhile_cons, if_pos hc, List.dropWhile_cons, if_pos hc]; exact ih
    | false => rw [List.takeWhile_cons, if_neg (by rw [hc]; decide), List.dropWhile_cons, if_neg (by rw [hc]; decide)]; rfl
theorem skipP_drop (p : UInt8 → Bool) (s : Str) (i : Nat) : s.drop (skipP p s i) = (s.drop i).dropWhile p := by
  unfold skipP
  rw [← List.drop_drop]
  exact drop_tw p _
/-- what the reference says of a line: 0 none, 1 wrong, 2 right, and the name -/
def refD (s : Str) : Nat × Str :=
  let i := skipP isBl s 0
  if s.length - i < 8 ∨ seg s i (i + 8) ≠ incW ∨ (8 < s.length - i ∧ letterB ((s[i + 8]?.getD 0).toNat) = true) then (0, [])
  else
    let f := i + 8
    let k := skipP isBl s f
    if k = f ∨ s.length ≤ k ∨ s[k]? ≠ some 34 then (1, [])
    else
      let e := skipP (fun c => c != 34) s (k + 1)
      if (s.drop (e + 1)).all isBl = false ∨ s.length ≤ e then (1, [])
      else (2, seg s (k + 1) e)
end Go.Proofs.YtmhjfdnpmfhmjaaDoor
