/- Go's container/heap, plain: numbers in a row, up, down, pushes and pops: an order. -/
import Derived.Test.YtflbhifdololfaaGreatDoorM1
namespace Go.Proofs.YtflbhifdololfaaGreatDoor
namespace H
set_option linter.unusedVariables false
abbrev Row := Nat → Nat
def swp (f : Row) (i j : Nat) : Row := fun k => if k = i then f j else if k = j then f i else f k
theorem swp_l (f : Row) (i j : Nat) : swp f i j i = f j := by simp [swp]
theorem swp_r (f : Row) (i j : Nat) : swp f i j j = f i := by by_cases h : j = i <;> simp [swp, h]
theorem swp_o (f : Row) (i j k : Nat) (h1 : k ≠ i) (h2 : k ≠ j) : swp f i j k = f k := by simp [swp, h1, h2]
def par (k : Nat) : Nat := (k - 1) / 2
/-- up from j -/
def up (lt : Nat → Nat → Bool) (f : Row) (j : Nat) : Row :=
  if h : j = 0 then f else if lt (f j) (f (par j)) = true then up lt (swp f (par j) j) (par j) else f
termination_by j
decreasing_by unfold par; omega
/-- down from i among n (g: fuel) -/
def child (lt : Nat → Nat → Bool) (f : Row) (i n : Nat) : Nat := if 2 * i + 2 < n ∧ lt (f (2 * i + 2)) (f (2 * i + 1)) = true then 2 * i + 2 else 2 * i + 1
theorem child_gt (lt : Nat → Nat → Bool) (f : Row) (i n : Nat) : i < child lt f i n := by unfold child; split <;> omega
def down (lt : Nat → Nat → Bool) (f : Row) (i n : Nat) : Row :=
  if h : 2 * i + 1 < n then if lt (f (child lt f i n)) (f i) = true then down lt (swp f i (child lt f i n)) (child lt f i n) n else f else f
termination_by n - i
decreasing_by have := child_gt lt f i n; omega

section
variable {lt : Nat → Nat → Bool}
/-- no greater than -/
def le (lt : Nat → Nat → Bool) (a b : Nat) : Prop := lt b a = false
structure Ord (lt : Nat → Nat → Bool) (P : Nat → Prop) : Prop where
  asym : ∀ a b, P a → P b → lt a b = true → le lt a b
  trans : ∀ a b c, P a → P b → P c → le lt a b → le lt b c → le lt a c
  refl : ∀ a, P a → le lt a a
def All (P : Nat → Prop) (f : Row) (n : Nat) : Prop := ∀ k, k < n → P (f k)
theorem All.swp {P : Nat → Prop} {f : Row} {n i j : Nat} (h : All P f n) (hi : i < n) (hj : j < n) : All P (swp f i j) n := by
  intro k hk
  unfold H.swp
  split
  · exact h j hj
  · split
    · exact h i hi
    · exact h k hk
def Heap (lt : Nat → Nat → Bool) (f : Row) (n : Nat) : Prop := ∀ k, 0 < k → k < n → le lt (f (par k)) (f k)
/-- a heap but at j, which may be too small -/
def HeapU (lt : Nat → Nat → Bool) (f : Row) (n j : Nat) : Prop := (∀ k, 0 < k → k < n → k ≠ j → le lt (f (par k)) (f k)) ∧ (∀ k, 0 < k → k < n → par k = j → 0 < j → le lt (f (par j)) (f k))
theorem par_lt {k : Nat} (h : 0 < k) : par k < k := by unfold par; omega
theorem up_heap {P : Nat → Prop} (ho : Ord lt P) {n : Nat} : ∀ (j : Nat) (f : Row), j < n → All P f n → HeapU lt f n j → Heap lt (up lt f j) n := by
  intro j
  induction j using Nat.strongRecOn with
  | ind j ih =>
    intro f hj hP hU
    rw [up]
    split
    · rename_i h0
      intro k hk hkn
      by_cases e : k = j
      · omega
      · exact hU.1 k hk hkn e
    · rename_i h0
      have hpj := par_lt (Nat.pos_of_ne_zero h0)
      split
      · rename_i hlt
        have hpn : par j < n := by omega
        refine ih (par j) hpj _ hpn (hP.swp hpn hj) ⟨?_, ?_⟩
        · intro k hk hkn hne
          by_cases e1 : k = j
          · subst e1
            rw [swp_r, swp_l]
            exact ho.asym _ _ (hP _ hj) (hP _ hpn) hlt
          · rw [swp_o _ _ _ k hne e1]
            by_cases e2 : par k = par j
            · rw [e2, swp_l]
              have h3 := hU.1 k hk hkn e1
              rw [e2] at h3
              exact ho.trans _ _ _ (hP _ hj) (hP _ hpn) (hP _ hkn) (ho.asym _ _ (hP _ hj) (hP _ hpn) hlt) h3
            · by_cases e3 : par k = j
              · rw [e3, swp_r]
                exact hU.2 k hk hkn e3 (Nat.pos_of_ne_zero h0)
              · rw [swp_o _ _ _ _ e2 e3]
                exact hU.1 k hk hkn e1
        · intro k hk hkn he hp0
          have hpp := par_lt hp0
          have hppn : par (par j) < n := by omega
          rw [swp_o _ _ _ (par (par j)) (by omega) (by omega)]
          have h2 := hU.1 (par j) hp0 hpn (by omega)
          by_cases e1 : k = j
          · subst e1; rw [swp_r]; exact h2
          · have hk2 : k ≠ par j := fun e => by rw [← e] at he; have := par_lt hk; omega
            rw [swp_o _ _ _ k hk2 e1]
            have h3 := hU.1 k hk hkn e1
            rw [he] at h3
            exact ho.trans _ _ _ (hP _ hppn) (hP _ hpn) (hP _ hkn) h2 h3
      · rename_i hlt
        intro k hk hkn
        by_cases e : k = j
        · subst e; show lt _ _ = false; simpa using hlt
        · exact hU.1 k hk hkn e
/-- a heap but at i, which may be too great -/
def HeapD (lt : Nat → Nat → Bool) (f : Row) (n i : Nat) : Prop := (∀ k, 0 < k → k < n → par k ≠ i → le lt (f (par k)) (f k)) ∧ (∀ k, 0 < k → k < n → par k = i → 0 < i → le lt (f (par i)) (f k))
theorem child_le {P : Nat → Prop} (ho : Ord lt P) {f : Row} {n i : Nat} (hP : All P f n) (h : 2 * i + 1 < n) : child lt f i n < n ∧ par (child lt f i n) = i ∧ ∀ k, 0 < k → k < n → par k = i → le lt (f (child lt f i n)) (f k) := by
  unfold child
  split
  · rename_i hc
    refine ⟨hc.1, by unfold par; omega, fun k hk hkn he => ?_⟩
    have : k = 2 * i + 1 ∨ k = 2 * i + 2 := by unfold par at he; omega
    rcases this with rfl | rfl
    · exact ho.asym _ _ (hP _ hc.1) (hP _ h) hc.2
    · exact ho.refl _ (hP _ hc.1)
  · rename_i hc
    refine ⟨h, by unfold par; omega, fun k hk hkn he => ?_⟩
    have : k = 2 * i + 1 ∨ k = 2 * i + 2 := by unfold par at he; omega
    rcases this with rfl | rfl
    · exact ho.refl _ (hP _ h)
    · show lt _ _ = false
      cases hq : lt (f (2 * i + 2)) (f (2 * i + 1)) with
      | false => rfl
      | true => exact absurd ⟨hkn, hq⟩ hc
theorem down_heap {P : Nat → Prop} (ho : Ord lt P) {n : Nat} : ∀ (m i : Nat) (f : Row), n - i = m → All P f n → HeapD lt f n i → Heap lt (down lt f i n) n := by
  intro m
  induction m using Nat.strongRecOn with
  | ind m ih =>
    intro i f hm hP hD
    rw [down]
    split
    · rename_i h1
      obtain ⟨c1, c2, c3⟩ := child_le ho hP h1
      have cgt := child_gt lt f i n
      obtain ⟨c, hc⟩ : ∃ c, c = child lt f i n := ⟨_, rfl⟩
      rw [← hc] at c1 c2 c3 cgt ⊢
      have hin : i < n := by omega
      split
      · rename_i hlt
        refine ih (n - c) (by omega) c _ rfl (hP.swp hin c1) ⟨?_, ?_⟩
        · intro k hk hkn hne
          by_cases e1 : k = i
          · subst e1
            rw [swp_l]
            have hp := par_lt hk
            rw [swp_o _ _ _ _ (by omega) (by omega)]
            exact hD.2 c (by omega) c1 c2 hk
          · by_cases e2 : par k = i
            · rw [e2, swp_l]
              by_cases e3 : k = c
              · subst e3; rw [swp_r]; exact ho.asym _ _ (hP _ c1) (hP _ hin) hlt
              · rw [swp_o _ _ _ _ e1 e3]; exact c3 k hk hkn e2
            · rw [swp_o _ _ _ (par k) e2 hne]
              by_cases e3 : k = c
              · subst e3; exact absurd c2 e2
              · rw [swp_o _ _ _ _ e1 e3]; exact hD.1 k hk hkn e2
        · intro k hk hkn he hc0
          rw [c2, swp_l]
          have hpk := par_lt hk
          rw [swp_o _ _ _ _ (by omega) (by omega)]
          have := hD.1 k hk hkn (by omega)
          rw [he] at this; exact this
      · rename_i hlt
        intro k hk hkn
        by_cases e2 : par k = i
        · rw [e2]
          have h3 : le lt (f i) (f c) := by show lt _ _ = false; simpa using hlt
          exact ho.trans _ _ _ (hP _ hin) (hP _ c1) (hP _ hkn) h3 (c3 k hk hkn e2)
        · exact hD.1 k hk hkn e2
    · rename_i h1
      intro k hk hkn
      by_cases e2 : par k = i
      · unfold par at e2; omega
      · exact hD.1 k hk hkn e2
theorem heap_min {P : Nat → Prop} (ho : Ord lt P) {f : Row} {n : Nat} (hP : All P f n) (h : Heap lt f n) : ∀ k, k < n → le lt (f 0) (f k) := by
  intro k
  induction k using Nat.strongRecOn with
  | ind k ih =>
    intro hk
    rcases Nat.eq_zero_or_pos k with rfl | h0
    · exact ho.refl _ (hP _ hk)
    · have hp := par_lt h0
      exact ho.trans _ _ _ (hP _ (by omega)) (hP _ (by omega)) (hP _ hk) (ih _ hp (by omega)) (h k h0 hk)

/-- the first n as a list -/
def lst (f : Row) (n : Nat) : List Nat := (List.range n).map f
theorem lst_succ (f : Row) (n : Nat) : lst f (n + 1) = lst f n ++ [f n] := by simp [lst, List.range_succ]
theorem lst_congr {f g : Row} {n : Nat} (h : ∀ k, k < n → f k = g k) : lst f n = lst g n := by
  unfold lst
  apply List.map_congr_left
  intro a ha
  exact h a (List.mem_range.1 ha)
theorem lst_get (f : Row) (n k : Nat) (h : k < n) : (lst f n)[k]? = some (f k) := by simp [lst, h]
theorem lst_len (f : Row) (n : Nat) : (lst f n).length = n := by simp [lst]
theorem perm_set {l : List Nat} {i j a b : Nat} (hij : i < j) (hi : l[i]? = some a) (hj : l[j]? = some b) : ((l.set i b).set j a).Perm l := by
  obtain ⟨h1, h2⟩ := List.getElem?_eq_some_iff.1 hi
  obtain ⟨h3, h4⟩ := List.getElem?_eq_some_iff.1 hj
  have e : l = l.take i ++ a :: ((l.drop (i + 1)).take (j - i - 1) ++ b :: l.drop (j + 1)) := by
    have e1 : l.drop i = a :: l.drop (i + 1) := by rw [List.drop_eq_getElem_cons h1, h2]
    have e2 : (l.drop (i + 1)).drop (j - i - 1) = b :: l.drop (j + 1) := by rw [List.drop_drop, show i + 1 + (j - i - 1) = j by omega, List.drop_eq_getElem_cons h3, h4]
    conv => lhs; rw [← List.take_append_drop i l, e1, ← List.take_append_drop (j - i - 1) (l.drop (i + 1)), e2]
  obtain ⟨A, hA⟩ : ∃ A, A = l.take i := ⟨_, rfl⟩
  obtain ⟨Bm, hB⟩ : ∃ Bm, Bm = (l.drop (i + 1)).take (j - i - 1) := ⟨_, rfl⟩
  obtain ⟨C, hC⟩ : ∃ C, C = l.drop (j + 1) := ⟨_, rfl⟩
  have lA : A.length = i := by rw [hA, List.length_take]; omega
  have lB : Bm.length = j - i - 1 := by rw [hB, List.length_take, List.length_drop]; omega
  rw [← hA, ← hB, ← hC] at e
  have e5 : (l.set i b).set j a = A ++ b :: (Bm ++ a :: C) := by
    rw [e, List.set_append_right _ _ (by omega), show i - A.length = 0 by omega, List.set_cons_zero, List.set_append_right _ _ (by omega), show j - A.length = (Bm.length) + 1 by omega, List.set_cons_succ, List.set_append_right _ _ (by omega), Nat.sub_self, List.set_cons_zero]
  rw [e5]
  conv => rhs; rw [e]
  refine List.Perm.append_left A ?_
  refine List.Perm.trans ?_ (List.perm_middle.symm.cons a |>.trans (List.Perm.refl _))
  refine List.Perm.trans (List.perm_middle.cons b) ?_
  refine List.Perm.trans (List.Perm.swap a b _) ?_
  exact (List.Perm.refl _)
theorem lst_swp {f : Row} {n i j : Nat} (hi : i < n) (hj : j < n) (hij : i < j) : (lst (swp f i j) n).Perm (lst f n) := by
  have e : lst (swp f i j) n = ((lst f n).set i (f j)).set j (f i) := by
    apply List.ext_getElem?
    intro k
    rw [List.getElem?_set, List.getElem?_set]
    by_cases hk : k < n
    · rw [lst_get _ _ _ hk, lst_get _ _ _ hk]
      simp only [List.length_set, lst_len]
      unfold swp
      by_cases e1 : k = i
      · subst e1; rw [if_pos rfl, if_neg (by omega), if_pos rfl, if_pos hk]
      · rw [if_neg e1]
        by_cases e2 : k = j
        · subst e2; rw [if_pos rfl, if_pos rfl, if_pos hk]
        · rw [if_neg e2, if_neg (by omega), if_neg (by omega)]
    · rw [List.getElem?_eq_none (by rw [lst_len]; omega)]
      simp only [List.length_set, lst_len]
      rw [List.getElem?_eq_none (by rw [lst_len]; omega)]
      split
      · omega
      · split
        · omega
        · rfl
  rw [e]
  exact perm_set hij (lst_get _ _ _ hi) (lst_get _ _ _ hj)
theorem up_perm {n : Nat} : ∀ (j : Nat) (f : Row), j < n → (lst (up lt f j) n).Perm (lst f n) ∧ ∀ k, n ≤ k → up lt f j k = f k := by
  intro j
  induction j using Nat.strongRecOn with
  | ind j ih =>
    intro f hj
    rw [up]
    split
    · exact ⟨.refl _, fun _ _ => rfl⟩
    · rename_i h0
      have hpj := par_lt (Nat.pos_of_ne_zero h0)
      split
      · obtain ⟨h1, h2⟩ := ih (par j) hpj (swp f (par j) j) (by omega)
        exact ⟨h1.trans (lst_swp (by omega) hj hpj), fun k hk => (h2 k hk).trans (swp_o _ _ _ k (by omega) (by omega))⟩
      · exact ⟨.refl _, fun _ _ => rfl⟩
theorem down_perm {n : Nat} : ∀ (m i : Nat) (f : Row), n - i = m → (lst (down lt f i n) n).Perm (lst f n) ∧ ∀ k, n ≤ k → down lt f i n k = f k := by
  intro m
  induction m using Nat.strongRecOn with
  | ind m ih =>
    intro i f hm
    rw [down]
    split
    · rename_i h1
      have hc : child lt f i n < n := by unfold child; split <;> omega
      have cgt := child_gt lt f i n
      split
      · obtain ⟨h2, h3⟩ := ih (n - child lt f i n) (by omega) (child lt f i n) (swp f i (child lt f i n)) rfl
        exact ⟨h2.trans (lst_swp (by omega) hc cgt), fun k hk => (h3 k hk).trans (swp_o _ _ _ k (by omega) (by omega))⟩
      · exact ⟨.refl _, fun _ _ => rfl⟩
    · exact ⟨.refl _, fun _ _ => rfl⟩
theorem All.of_perm {P : Nat → Prop} {f g : Row} {n : Nat} (h : All P g n) (hp : (lst f n).Perm (lst g n)) : All P f n := by
  intro k hk
  have h1 : f k ∈ lst f n := List.mem_of_getElem? (lst_get f n k hk)
  obtain ⟨i, hi⟩ := List.mem_iff_getElem?.1 (hp.mem_iff.1 h1)
  have hin : i < n := by
    rcases Nat.lt_or_ge i n with h | h
    · exact h
    · rw [List.getElem?_eq_none (by rw [lst_len]; exact h)] at hi; cases hi
  rw [lst_get _ _ _ hin] at hi
  injection hi with hi
  rw [← hi]; exact h i hin
/-- Push: x at the end, then up -/
def push (lt : Nat → Nat → Bool) (f : Row) (n x : Nat) : Row := up lt (fun k => if k = n then x else f k) n
theorem push_ok {P : Nat → Prop} (ho : Ord lt P) {f : Row} {n x : Nat} (hP : All P f n) (hx : P x) (h : Heap lt f n) :
    Heap lt (push lt f n x) (n + 1) ∧ (lst (push lt f n x) (n + 1)).Perm (lst f n ++ [x]) ∧ All P (push lt f n x) (n + 1) := by
  have hP2 : All P (fun k => if k = n then x else f k) (n + 1) := by
    intro k hk
    by_cases e : k = n
    · simp only [e, if_true]; exact hx
    · simp only [e, if_false]; exact hP k (by omega)
  have hl : lst (fun k => if k = n then x else f k) (n + 1) = lst f n ++ [x] := by
    rw [lst_succ]
    congr 1
    · exact lst_congr fun k hk => by rw [if_neg (by omega)]
    · simp
  have hp := (up_perm (lt := lt) n (fun k => if k = n then x else f k) (Nat.lt_succ_self n)).1
  refine ⟨up_heap ho n _ (Nat.lt_succ_self n) hP2 ⟨?_, ?_⟩, hl ▸ hp, hP2.of_perm hp⟩
  · intro k hk hkn hne
    have := par_lt hk
    simp only [hne, if_false, show par k ≠ n by omega]
    exact h k hk (by omega)
  · intro k hk hkn he hn
    have := par_lt hk; omega
/-- Pop: the first one goes; the rest -/
def pop (lt : Nat → Nat → Bool) (f : Row) (n : Nat) : Row := down lt (swp f 0 n) 0 n
theorem pop_ok {P : Nat → Prop} (ho : Ord lt P) {f : Row} {n : Nat} (hP : All P f (n + 1)) (h : Heap lt f (n + 1)) :
    Heap lt (pop lt f n) n ∧ (lst f (n + 1)).Perm (f 0 :: lst (pop lt f n) n) ∧ All P (pop lt f n) n ∧ pop lt f n n = f 0 ∧ ∀ k, k < n → le lt (f 0) (pop lt f n k) := by
  obtain ⟨hp, hk⟩ := down_perm (lt := lt) (n := n) (n - 0) 0 (swp f 0 n) rfl
  have hlast : pop lt f n n = f 0 := (hk n (Nat.le_refl n)).trans (swp_r _ _ _)
  have hP2 : All P (swp f 0 n) (n + 1) := hP.swp (by omega) (by omega)
  have hP3 : All P (swp f 0 n) n := fun k hk => hP2 k (by omega)
  have hperm : (lst f (n + 1)).Perm (f 0 :: lst (pop lt f n) n) := by
    have h1 : (lst (swp f 0 n) (n + 1)).Perm (lst f (n + 1)) := by
      rcases Nat.eq_zero_or_pos n with rfl | h0
      · rw [show swp f 0 0 = f by funext k; unfold swp; split <;> simp_all]
      · exact lst_swp (by omega) (by omega) h0
    rw [lst_succ (swp f 0 n), swp_r] at h1
    refine h1.symm.trans ((List.perm_append_comm).trans ?_)
    exact (hp.symm).cons _
  have hall := hP3.of_perm hp
  refine ⟨down_heap ho (n - 0) 0 _ rfl hP3 ⟨?_, ?_⟩, hperm, hall, hlast, ?_⟩
  · intro k hk hkn hne
    have hpk := par_lt hk
    rw [swp_o _ _ _ _ (by omega) (by omega), swp_o _ _ _ _ (by omega) (by omega)]
    exact h k hk (by omega)
  · intro k hk hkn he h0; omega
  · intro k hk
    have hm : pop lt f n k ∈ lst f (n + 1) := hperm.mem_iff.2 (List.mem_cons_of_mem _ (List.mem_of_getElem? (lst_get _ _ _ hk)))
    obtain ⟨i, hi⟩ := List.mem_iff_getElem?.1 hm
    have hin : i < n + 1 := by
      rcases Nat.lt_or_ge i (n + 1) with h | h
      · exact h
      · rw [List.getElem?_eq_none (by rw [lst_len]; exact h)] at hi; cases hi
    rw [lst_get _ _ _ hin] at hi
    injection hi with hi
    rw [← hi]
    exact heap_min ho hP h i hin
end

section
variable {lt : Nat → Nat → Bool}
/-- 0 up to n - 1 pushed -/
def fill (lt : Nat → Nat → Bool) : Nat → Row
  | 0 => fun _ => 0
  | n + 1 => push lt (fill lt n) n n
def drain (lt : Nat → Nat → Bool) : Nat → Row → List Nat
  | 0, _ => []
  | n + 1, f => f 0 :: drain lt n (pop lt f n)
def order (lt : Nat → Nat → Bool) (n : Nat) : List Nat := drain lt n (fill lt n)
theorem fill_ok {N : Nat} (ho : Ord lt (· < N)) : ∀ n, n ≤ N → Heap lt (fill lt n) n ∧ (lst (fill lt n) n).Perm (List.range n) ∧ All (· < N) (fill lt n) n := by
  intro n
  induction n with
  | zero => intro _; exact ⟨fun k _ h => absurd h (by omega), .refl _, fun k h => absurd h (by omega)⟩
  | succ n ih =>
    intro hn
    obtain ⟨h1, h2, h3⟩ := ih (by omega)
    obtain ⟨a, b, c⟩ := push_ok (x := n) ho h3 (show n < N by omega) h1
    refine ⟨a, b.trans ?_, c⟩
    rw [List.range_succ]
    exact h2.append_right [n]
theorem drain_ok {P : Nat → Prop} (ho : Ord lt P) : ∀ n (f : Row), Heap lt f n → All P f n → (drain lt n f).Perm (lst f n) ∧ (drain lt n f).Pairwise (le lt) := by
  intro n
  induction n with
  | zero => intro f _ _; exact ⟨.refl _, .nil⟩
  | succ n ih =>
    intro f h hP
    obtain ⟨h1, h2, h3, _, h5⟩ := pop_ok ho hP h
    obtain ⟨a, b⟩ := ih _ h1 h3
    refine ⟨(a.cons _).trans h2.symm, List.pairwise_cons.2 ⟨fun x hx => ?_, b⟩⟩
    obtain ⟨i, hi⟩ := List.mem_iff_getElem?.1 (a.mem_iff.1 hx)
    have hin : i < n := by
      rcases Nat.lt_or_ge i n with h | h
      · exact h
      · rw [List.getElem?_eq_none (by rw [lst_len]; exact h)] at hi; cases hi
    rw [lst_get _ _ _ hin] at hi
    injection hi with hi
    rw [← hi]; exact h5 i hin
theorem order_ok {N : Nat} (ho : Ord lt (· < N)) : (order lt N).Perm (List.range N) ∧ (order lt N).Pairwise (le lt) := by
  obtain ⟨h1, h2, h3⟩ := fill_ok ho N (Nat.le_refl N)
  obtain ⟨a, b⟩ := drain_ok ho N _ h1 h3
  exact ⟨a.trans h2, b⟩
theorem order_len {N : Nat} (ho : Ord lt (· < N)) : (order lt N).length = N := by rw [(order_ok ho).1.length_eq, List.length_range]
/-- two rows in order, of the same numbers, are one -/
theorem sorted_unique {a b : List Nat} (hp : a.Perm b) (ha : a.Pairwise (le lt)) (hb : b.Pairwise (le lt)) (hs : ∀ x y, x ∈ a → y ∈ a → le lt x y → le lt y x → x = y) : a = b :=
  hp.eq_of_pairwise (fun x y hx hy h1 h2 => hs x y hx (hp.mem_iff.2 hy) h1 h2) ha hb
end
end H
end Go.Proofs.YtflbhifdololfaaGreatDoor
