/- sorts.Order over entries, by a comparison that is an order. -/
import Derived.Test.YtflbhifdololfaaGreatDoorH8
namespace Go.Proofs.YtflbhifdololfaaGreatDoor
open Go.RowKit
set_option linter.unusedVariables false

/-- a comparison that is an order of these entries, equals left alone -/
structure CmpOrd (cmp : En → En → Int) (L : List En) : Prop where
  lo : ∀ x ∈ L, ∀ y ∈ L, -1 ≤ cmp x y
  hi : ∀ x ∈ L, ∀ y ∈ L, cmp x y ≤ 1
  anti : ∀ x ∈ L, ∀ y ∈ L, cmp y x = - cmp x y
  trans : ∀ x ∈ L, ∀ y ∈ L, ∀ z ∈ L, cmp x y ≤ 0 → cmp y z ≤ 0 → cmp x z ≤ 0
def ltL (cmp : En → En → Int) (fl : Bool) (L : List En) (i j : Nat) : Bool := match L[i]?, L[j]? with
  | some x, some y => ltC (cmp x y) fl i j
  | _, _ => false
theorem ltL_at {cmp : En → En → Int} {fl : Bool} {L : List En} {i j : Nat} {x y : En} (hi : L[i]? = some x) (hj : L[j]? = some y) : ltL cmp fl L i j = ltC (cmp x y) fl i j := by
  unfold ltL; rw [hi, hj]
theorem ltC_false {c : Int} {fl : Bool} {i j : Nat} : ltC c fl i j = false ↔ (if fl then c ≤ 0 else 0 ≤ c) ∧ (c = 0 → j ≤ i) := by
  unfold ltC
  cases fl
  · by_cases h1 : c < 0
    · simp [h1]; omega
    · by_cases h2 : c = 0
      · subst h2; simp
      · simp [h1, h2]; omega
  · by_cases h1 : 0 < c
    · simp [h1]; omega
    · by_cases h2 : c = 0
      · subst h2; simp
      · simp [h1, h2]; omega
theorem ltC_true {c : Int} {fl : Bool} {i j : Nat} : ltC c fl i j = true ↔ (if fl then 0 < c else c < 0) ∨ (c = 0 ∧ i < j) := by
  unfold ltC
  cases fl
  · by_cases h1 : c < 0
    · simp [h1]
    · by_cases h2 : c = 0
      · subst h2; simp
      · simp [h1, h2]
  · by_cases h1 : 0 < c
    · simp [h1]
    · by_cases h2 : c = 0
      · subst h2; simp
      · simp [h1, h2]
theorem le_iff {cmp : En → En → Int} {fl : Bool} {L : List En} (hO : CmpOrd cmp L) {i j : Nat} {x y : En} (hi : L[i]? = some x) (hj : L[j]? = some y) : H.le (ltL cmp fl L) i j ↔ (if fl then 0 ≤ cmp x y else cmp x y ≤ 0) ∧ (cmp x y = 0 → i ≤ j) := by
  unfold H.le
  rw [ltL_at hj hi, ltC_false]
  have ha := hO.anti x (List.mem_of_getElem? hi) y (List.mem_of_getElem? hj)
  cases fl
  · simp only [Bool.false_eq_true, if_false]
    constructor <;> (rintro ⟨h1, h2⟩; exact ⟨by omega, fun h => h2 (by omega)⟩)
  · simp only [if_true]
    constructor <;> (rintro ⟨h1, h2⟩; exact ⟨by omega, fun h => h2 (by omega)⟩)
theorem ord_of {cmp : En → En → Int} {fl : Bool} {L : List En} (hO : CmpOrd cmp L) {n : Nat} (hn : n = L.length) : H.Ord (ltL cmp fl L) (· < n) := by
  have get : ∀ i, i < n → ∃ x, L[i]? = some x := fun i hi => ⟨_, List.getElem?_eq_getElem (by omega)⟩
  refine ⟨fun a b ha hb h => ?_, fun a b c ha hb hc h1 h2 => ?_, fun a ha => ?_⟩
  · obtain ⟨x, hx⟩ := get a ha
    obtain ⟨y, hy⟩ := get b hb
    rw [ltL_at hx hy, ltC_true] at h
    rw [le_iff hO hx hy]
    cases fl
    · simp only [Bool.false_eq_true, if_false] at h ⊢
      exact ⟨by omega, fun h' => by omega⟩
    · simp only [if_true] at h ⊢
      exact ⟨by omega, fun h' => by omega⟩
  · obtain ⟨x, hx⟩ := get a ha
    obtain ⟨y, hy⟩ := get b hb
    obtain ⟨z, hz⟩ := get c hc
    have mx := List.mem_of_getElem? hx
    have my := List.mem_of_getElem? hy
    have mz := List.mem_of_getElem? hz
    rw [le_iff hO hx hy] at h1
    rw [le_iff hO hy hz] at h2
    rw [le_iff hO hx hz]
    have t1 := hO.trans x mx y my z mz
    have t2 := hO.trans z mz y my x mx
    have t3 := hO.trans y my z mz x mx
    have t4 := hO.trans z mz x mx y my
    have a1 := hO.anti x mx y my
    have a2 := hO.anti y my z mz
    have a3 := hO.anti x mx z mz
    have t5 := hO.trans y my x mx z mz
    have t6 := hO.trans x mx z mz y my
    cases fl
    · simp only [Bool.false_eq_true, if_false] at h1 h2 ⊢
      refine ⟨by omega, fun h => ?_⟩
      have e1 : cmp x y = 0 := by omega
      have e2 : cmp y z = 0 := by omega
      have := h1.2 e1
      have := h2.2 e2
      omega
    · simp only [if_true] at h1 h2 ⊢
      refine ⟨by omega, fun h => ?_⟩
      have e1 : cmp x y = 0 := by omega
      have e2 : cmp y z = 0 := by omega
      have := h1.2 e1
      have := h2.2 e2
      omega
  · obtain ⟨x, hx⟩ := get a ha
    rw [le_iff hO hx hx]
    have := hO.anti x (List.mem_of_getElem? hx) x (List.mem_of_getElem? hx)
    cases fl
    · simp only [Bool.false_eq_true, if_false]; exact ⟨by omega, fun _ => Nat.le_refl _⟩
    · simp only [if_true]; exact ⟨by omega, fun _ => Nat.le_refl _⟩
theorem cell_lt0 {W : World} {p : Nat} {v : Value} (h : W.cell? ⟨p, 0, none⟩ = some v) : p < W.heap.size := by
  rcases Nat.lt_or_ge p W.heap.size with h' | h'
  · exact h'
  · unfold World.cell? at h; rw [Array.getElem?_eq_none h'] at h; cases h
/-- what a comparison answers about these entries, in every world behind w -/
def CmpAt (w : World) (q : Cmp5) (conv : ByteArray) (cmp : En → En → Int) (L : List En) : Prop := ∀ x ∈ L, ∀ y ∈ L, ∀ W, Below w.heap.size w W →
  Calls Tryz.prog q.num #[.agg #[.string conv], x.val, y.val] W fun e w' => e = .returned (.int .i64 (cmp x y)) ∧ Below W.heap.size W w'
set_option maxRecDepth 100000 in
theorem Order_by (hCut : CutOk) {a : Option Addr} {n c : Nat} {L : List En} {how conv : ByteArray} {q : Cmp5} {fl : Bool} {cmp : En → En → Int} {w : World} (hL : EntsR w a n L) (hn : n ≤ 800000)
    (hs : how.size ≤ 9223372036854775807) (hq : byO how = (some q, fl)) (hO : CmpOrd cmp L) (hC : CmpAt w q conv cmp L) :
    Calls Tryz.prog 27 #[.slice a n c, .string how, .string conv] w fun e w' => (∃ v, e = .returned (.tuple #[v, .int .i64 0]) ∧ w'.ownsRow w.heap.size 3 1 v n (cellsH (H.order (ltL cmp fl L) n))) ∧ Below w.heap.size w w' := by
  have hby : ∀ W, Calls Tryz.prog 58 #[.string how] W fun e w' => e = .returned (.tuple #[.func (.func q.num) #[] #[], .bool fl]) ∧ Below W.heap.size W w' := by
    intro W
    have h := by_any hCut how W hs
    rw [hq] at h
    exact h
  refine Order_fn a n c how conv q fl (ltL cmp fl L) w hn hby (ord_of hO hL.1) ?_
  intro w4 pf pb b hb4 h8 hc hl hb hpf hpb hw hbw W hW x y hx hy
  have hWw : Below w.heap.size w W := hb4.trans (hW.mono (by omega))
  obtain ⟨ex, hex⟩ : ∃ e, L[x]? = some e := ⟨_, List.getElem?_eq_getElem (by have := hL.1; omega)⟩
  obtain ⟨ey, hey⟩ : ∃ e, L[y]? = some e := ⟨_, List.getElem?_eq_getElem (by have := hL.1; omega)⟩
  have mx := List.mem_of_getElem? hex
  have my := List.mem_of_getElem? hey
  have k8 : W.cell? ⟨pf, 0, none⟩ = some (.func (.func q.num) #[] #[]) := by rw [Lib.cell_of_heap ((hW.block pf hpf).trans h8)]; rfl
  have kc : W.cell? ⟨w.heap.size + 1, 0, none⟩ = some (.string conv) := by rw [Lib.cell_of_heap ((hW.block _ (by omega)).trans hc)]; rfl
  have kl : W.cell? ⟨w.heap.size, 0, none⟩ = some (.slice a n c) := by rw [Lib.cell_of_heap ((hW.block _ (by omega)).trans hl)]; rfl
  have kb : W.cell? ⟨pb, 0, none⟩ = some (.bool fl) := by rw [Lib.cell_of_heap ((hW.block pb hpb).trans hb)]; rfl
  rw [ltL_at hex hey]
  exact hless_any hn k8 kc kl kb (hL.below hWw (Nat.le_refl _)) hex hey (hO.lo ex mx ey my) (hO.hi ex mx ey my) (fun w => by cases q <;> kernel_rfl)
    (by cases q <;> first | exact enters_of Tryz.func94 (by kernel_rfl) rfl | exact enters_of Tryz.func95 (by kernel_rfl) rfl | exact enters_of Tryz.func96 (by kernel_rfl) rfl | exact enters_of Tryz.func97 (by kernel_rfl) rfl | exact enters_of Tryz.func98 (by kernel_rfl) rfl)
    (fun W' hW' => hC ex mx ey my W' (hWw.trans (hW'.mono hWw.size)))
end Go.Proofs.YtflbhifdololfaaGreatDoor
