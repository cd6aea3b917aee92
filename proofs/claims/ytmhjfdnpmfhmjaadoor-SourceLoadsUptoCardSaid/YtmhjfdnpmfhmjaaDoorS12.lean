/- Package source, plain: what is included once (SourceOnce). -/
import Derived.Test.YtmhjfdnpmfhmjaaDoorS1
namespace Go.Proofs.YtmhjfdnpmfhmjaaDoor
set_option linter.unusedVariables false

theorem cutNl_app {x : Str} (h : 10 ∉ x) (y : Str) : cutNl (x ++ 10 :: y) = x :: cutNl y := by
  induction x with
  | nil => simp [cutNl]
  | cons c x ih =>
    have hc : ¬ c = 10 := fun e => h (by simp [e])
    have hx : 10 ∉ x := fun e => h (by simp [e])
    show cutNl (c :: (x ++ 10 :: y)) = _
    conv => lhs; unfold cutNl
    rw [if_neg hc, ih hx]
    rfl
theorem cutNl_one {x : Str} (h : 10 ∉ x) : cutNl x = [x] := by
  induction x with
  | nil => rfl
  | cons c x ih =>
    have hc : ¬ c = 10 := fun e => h (by simp [e])
    have hx : 10 ∉ x := fun e => h (by simp [e])
    unfold cutNl
    rw [if_neg hc, ih hx]
    rfl
def gL : Str := [64, 105, 110, 99, 108, 117, 100, 101, 32, 34, 103, 34]
theorem lines_f {a b : Str} (ha : 10 ∉ a) (hb : 10 ∉ b) : linesL (a ++ ([10] ++ gL ++ [10]) ++ b) = [a, gL] ++ (if b = [] then [] else [b]) := by
  have e : a ++ ([10] ++ gL ++ [10]) ++ b = a ++ 10 :: (gL ++ 10 :: b) := by simp
  have hc : cutNl (a ++ ([10] ++ gL ++ [10]) ++ b) = [a, gL, b] := by
    rw [e, cutNl_app ha, cutNl_app (by decide), cutNl_one hb]
  unfold linesL
  rw [hc]
  by_cases h : b = []
  · subst h; rfl
  · simp [h]
theorem lines_c {c : Str} (hc : 10 ∉ c) : linesL c = if c = [] then [] else [c] := by
  unfold linesL
  rw [cutNl_one hc]
  by_cases h : c = []
  · subst h; rfl
  · simp [h]
theorem dir_plain {l : Str} (h : 64 ∉ l) : (dirL l).2.1 = false := by
  unfold dirL
  split
  · rename_i hp
    exfalso
    have hsub : ∀ x ∈ trimBl l, x ∈ l := fun x hx => (List.dropWhile_sublist _).subset hx
    cases ht : trimBl l with
    | nil => rw [ht] at hp; simp [incW] at hp
    | cons c r =>
      rw [ht] at hp
      simp [incW, List.isPrefixOf] at hp
      exact h (hsub 64 (by rw [ht, ← hp.1]; simp))
  · rfl

section
variable {inc : LS → Str → Str → Nat → R} {F : Str → Option Str} {file name : Str} {s s' : LS} {n k : Nat} {l t : Str} {ls : List Str}
theorem textF_line (h : (dirL l).2.1 = false) (hl : s.out.length + l.length + 1 ≤ 8192) : textF inc file s n (l :: ls) = textF inc file { s with out := s.out ++ (l ++ [10]), lines := s.lines ++ [(file, n)] } (n + 1) ls := by
  conv => lhs; unfold textF
  rw [if_neg (by rw [h]; decide), if_neg (by omega)]
theorem textF_inc (h1 : (dirL l).2.1 = true) (h2 : (dirL l).2.2 = true) (h : inc s (dirL l).1 file n = .ok s') : textF inc file s n (l :: ls) = textF inc file s' (n + 1) ls := by
  conv => lhs; unfold textF
  rw [if_pos h1, if_pos h2, h]
  rfl
theorem incF_new (h1 : name ∉ s.opn) (h2 : name ∉ s.dn) (hF : F name = some t) (h : textF (incF F k) name { s with opn := s.opn ++ [name] } 1 (linesL t) = .ok s') : incF F (k + 1) s name file n = .ok { s' with opn := s'.opn.dropLast, dn := s'.dn ++ [name] } := by
  unfold incF
  rw [if_neg h1, if_neg h2, hF]
  show bindR (textF _ _ _ _ _) _ = _
  rw [h]
  rfl
theorem incF_done (h1 : name ∉ s.opn) (h2 : name ∈ s.dn) : incF F (k + 1) s name file n = .ok s := by
  unfold incF
  rw [if_neg h1, if_pos h2]
end
/-- what follows a line -/
def lineE (c : Str) : Str := if c = [] then [] else c ++ [10]
theorem lineE_len (c : Str) : (lineE c).length ≤ c.length + 1 := by unfold lineE; split <;> simp
theorem text_opt {inc : LS → Str → Str → Nat → R} {file : Str} {c : Str} (hc : 64 ∉ c) (s : LS) (n : Nat) (hl : s.out.length + c.length + 1 ≤ 8192) :
    ∃ L, textF inc file s n (if c = [] then [] else [c]) = .ok { s with out := s.out ++ lineE c, lines := s.lines ++ L } := by
  by_cases h : c = []
  · refine ⟨[], ?_⟩
    rw [if_pos h]
    unfold lineE
    rw [if_pos h]
    cases s
    simp [textF]
  · refine ⟨[(file, n)], ?_⟩
    rw [if_neg h, textF_line (dir_plain hc) hl]
    unfold lineE
    rw [if_neg h]
    rfl
theorem inc_g {F : Str → Option Str} {c file : Str} {k n : Nat} {s : LS} (hF : F [103] = some c) (hc : 64 ∉ c) (hc2 : 10 ∉ c) (h1 : [103] ∉ s.opn) (h2 : [103] ∉ s.dn) (hl : s.out.length + c.length + 1 ≤ 8192) :
    ∃ L, incF F (k + 1) s [103] file n = .ok { out := s.out ++ lineE c, lines := s.lines ++ L, opn := s.opn, dn := s.dn ++ [[103]] } := by
  obtain ⟨L, h⟩ := text_opt (inc := incF F k) (file := [103]) hc { s with opn := s.opn ++ [[103]] } 1 hl
  refine ⟨L, ?_⟩
  rw [incF_new h1 h2 hF (s' := _) (by rw [lines_c hc2]; exact h)]
  simp
theorem inc_f {F : Str → Option Str} {a b c file : Str} {k n : Nat} {s : LS} (hF : F [102] = some (a ++ ([10] ++ gL ++ [10]) ++ b)) (hG : F [103] = some c) (ha : 64 ∉ a) (ha2 : 10 ∉ a) (hb : 64 ∉ b) (hb2 : 10 ∉ b) (hc : 64 ∉ c) (hc2 : 10 ∉ c)
    (h1 : [102] ∉ s.opn) (h2 : [102] ∉ s.dn) (h3 : [103] ∉ s.opn) (hl : s.out.length + a.length + b.length + 3 ≤ 8192) :
    ([103] ∉ s.dn → s.out.length + a.length + b.length + c.length + 3 ≤ 8192 → ∃ L, incF F (k + 1 + 1) s [102] file n = .ok { out := s.out ++ (a ++ [10]) ++ lineE c ++ lineE b, lines := s.lines ++ L, opn := s.opn, dn := s.dn ++ [[103]] ++ [[102]] }) ∧
    ([103] ∈ s.dn → ∃ L, incF F (k + 1 + 1) s [102] file n = .ok { out := s.out ++ (a ++ [10]) ++ lineE b, lines := s.lines ++ L, opn := s.opn, dn := s.dn ++ [[102]] }) := by
  have hlc := lineE_len c
  constructor
  · intro h4 hl2
    obtain ⟨L1, e1⟩ := inc_g (F := F) (file := [102]) (k := k) (n := 2) (s := { out := s.out ++ (a ++ [10]), lines := s.lines ++ [([102], 1)], opn := s.opn ++ [[102]], dn := s.dn }) hG hc hc2 (by simpa using h3) h4 (by simp; omega)
    obtain ⟨L2, e2⟩ := text_opt (inc := incF F (k + 1)) (file := [102]) hb { out := s.out ++ (a ++ [10]) ++ lineE c, lines := s.lines ++ [([102], 1)] ++ L1, opn := s.opn ++ [[102]], dn := s.dn ++ [[103]] } 3 (by simp; omega)
    refine ⟨[([102], 1)] ++ L1 ++ L2, ?_⟩
    rw [incF_new h1 h2 hF (s' := _) (by
      rw [lines_f ha2 hb2]
      show textF _ _ _ _ (a :: gL :: (if b = [] then [] else [b])) = _
      rw [textF_line (dir_plain ha) (by simp; omega), textF_inc (l := gL) (by kernel_rfl) (by kernel_rfl) e1]
      exact e2)]
    simp
  · intro h4
    have e1 : incF F (k + 1) { out := s.out ++ (a ++ [10]), lines := s.lines ++ [([102], 1)], opn := s.opn ++ [[102]], dn := s.dn } [103] [102] 2 = .ok { out := s.out ++ (a ++ [10]), lines := s.lines ++ [([102], 1)], opn := s.opn ++ [[102]], dn := s.dn } := incF_done (by simpa using h3) h4
    obtain ⟨L2, e2⟩ := text_opt (inc := incF F (k + 1)) (file := [102]) hb { out := s.out ++ (a ++ [10]), lines := s.lines ++ [([102], 1)], opn := s.opn ++ [[102]], dn := s.dn } 3 (by simp; omega)
    refine ⟨[([102], 1)] ++ L2, ?_⟩
    rw [incF_new h1 h2 hF (s' := _) (by
      rw [lines_f ha2 hb2]
      show textF _ _ _ _ (a :: gL :: (if b = [] then [] else [b])) = _
      rw [textF_line (dir_plain ha) (by simp; omega), textF_inc (l := gL) (by kernel_rfl) (by kernel_rfl) e1]
      exact e2)]
    simp

def fs3 (a b c : Str) : List (Str × Str) := [([102], a ++ ([10] ++ gL ++ [10]) ++ b), ([103], c)]
def fs4 (a b c : Str) : List (Str × Str) := [([102], a ++ ([10] ++ gL ++ [10]) ++ b), ([103], c), ([104], [10, 10, 64, 105, 110, 99, 108, 117, 100, 101, 32, 34, 104, 34])]
def fL : Str := [64, 105, 110, 99, 108, 117, 100, 101, 32, 34, 102, 34]
def fL2 : Str := [64, 105, 110, 99, 108, 117, 100, 101, 9, 34, 102, 34, 32]
def t1 : Str := fL ++ [10] ++ gL ++ [10] ++ fL2 ++ [10]
def t2 : Str := gL ++ [10] ++ fL ++ [10]
def t3 : Str := [64, 105, 110, 99, 108, 117, 100, 101, 32, 34, 104, 34]
theorem once1 {a b c : Str} (ha : 64 ∉ a) (ha2 : 10 ∉ a) (hb : 64 ∉ b) (hb2 : 10 ∉ b) (hc : 64 ∉ c) (hc2 : 10 ∉ c) (hl : a.length + b.length + c.length ≤ 6000) :
    ∃ L d, loadF (look (fs3 a b c)) 3 t1 = .ok ⟨a ++ [10] ++ lineE c ++ lineE b, L, [], d⟩ := by
  obtain ⟨L1, e1⟩ := (inc_f (F := look (fs3 a b c)) (file := []) (k := 1) (n := 1) (s := ⟨[], [], [], []⟩) (a := a) (b := b) (c := c) rfl rfl ha ha2 hb hb2 hc hc2 (by simp) (by simp) (by simp) (by simp; omega)).1 (by simp) (by simp; omega)
  refine ⟨[] ++ L1, [] ++ [[103]] ++ [[102]], ?_⟩
  unfold loadF
  rw [show linesL t1 = [fL, gL, fL2] by kernel_rfl]
  rw [textF_inc (l := fL) (by kernel_rfl) (by kernel_rfl) e1]
  rw [textF_inc (l := gL) (by kernel_rfl) (by kernel_rfl) (incF_done (by simp) (by rw [show (dirL gL).1 = [103] by kernel_rfl]; simp))]
  rw [textF_inc (l := fL2) (by kernel_rfl) (by kernel_rfl) (incF_done (by simp) (by rw [show (dirL fL2).1 = [102] by kernel_rfl]; simp))]
  simp [textF]
theorem once2 {a b c : Str} (ha : 64 ∉ a) (ha2 : 10 ∉ a) (hb : 64 ∉ b) (hb2 : 10 ∉ b) (hc : 64 ∉ c) (hc2 : 10 ∉ c) (hl : a.length + b.length + c.length ≤ 6000) :
    ∃ L d, loadF (look (fs3 a b c)) 3 t2 = .ok ⟨lineE c ++ (a ++ [10]) ++ lineE b, L, [], d⟩ := by
  have hlc := lineE_len c
  obtain ⟨L1, e1⟩ := inc_g (F := look (fs3 a b c)) (file := []) (k := 2) (n := 1) (s := ⟨[], [], [], []⟩) (c := c) rfl hc hc2 (by simp) (by simp) (by simp; omega)
  obtain ⟨L2, e2⟩ := (inc_f (F := look (fs3 a b c)) (file := []) (k := 1) (n := 2) (s := ⟨[] ++ lineE c, [] ++ L1, [], [] ++ [[103]]⟩) (a := a) (b := b) (c := c) rfl rfl ha ha2 hb hb2 hc hc2 (by simp) (by simp) (by simp) (by simp; omega)).2 (by simp)
  refine ⟨[] ++ L1 ++ L2, [] ++ [[103]] ++ [[102]], ?_⟩
  unfold loadF
  rw [show linesL t2 = [gL, fL] by kernel_rfl]
  rw [textF_inc (l := gL) (by kernel_rfl) (by kernel_rfl) e1]
  rw [textF_inc (l := fL) (by kernel_rfl) (by kernel_rfl) e2]
  simp [textF]
theorem once3 (a b c : Str) : loadF (look (fs4 a b c)) 4 t3 = .bad [104] 3 191 := by kernel_rfl
end Go.Proofs.YtmhjfdnpmfhmjaaDoor
