/- slices.SortFunc over dated elements: they stand by when they came. -/
import Derived.Test.YtflbhifdololfaaGreatDoorA13
import Derived.Test.YtflbhifdololfaaGreatDoorShelfT
import Derived.Shelf.SlSortCmp.WholeK
import Derived.Shelf.SlSortCmp.NoneTotal
namespace Go.Proofs.YtflbhifdololfaaGreatDoor
open Go.RowKit Go.Shelf
set_option linter.unusedVariables false

/-- the sort that entries leans on -/
def Sorts : Prop := ∀ (M : List Ent) (D : Nat), M.length ≤ 100000 → M.Pairwise (fun a b => a.when < b.when) → SortOk M D
instance : Inhabited Ent := ⟨⟨⟨#[]⟩, 0, 0, ⟨#[]⟩, 0⟩⟩
def cfD (x y : Ent) : Int := Lib.compareInt (x.when : Int) (y.when : Int)
theorem ltD (x y : Ent) : ltOf cfD x y = decide (x.when < y.when) := by
  unfold ltOf cfD Lib.compareInt
  by_cases h1 : x.when < y.when
  · simp [h1]
  · by_cases h2 : y.when < x.when <;> simp [h1, h2]
theorem swoD : Go.Sort.SWO (ltOf cfD) where
  irrefl x := by rw [ltD]; simp
  trans x y z h1 h2 := by rw [ltD] at *; simp at *; omega
  ntrans x y z h1 h2 := by rw [ltD] at *; simp at *; omega
theorem isnan_any (x : Int) (w : World) : Calls Tryz.prog 137 #[.int .i64 x] w fun e w' => e = .returned (.bool false) ∧ w' = w := by
  go_enter Tryz.func137, Tryz.ntmps137
  go_wp2
  go_ret
  exact ⟨rfl, rfl⟩
theorem cmpi_any (x y : Int) (w : World) : Calls Tryz.prog 103 #[.int .i64 x, .int .i64 y] w fun e w' => e = .returned (.int .i64 (Lib.compareInt x y)) ∧ w' = w := by
  unfold Lib.compareInt
  by_cases h1 : x < y
  · rw [if_pos h1]
    go_enter Tryz.func103, Tryz.ntmps103
    go_wp2_with (go_at_call 137; refine (isnan_any _ _).mono ?_; rintro e w' ⟨rfl, rfl⟩)
    go_ret
    exact ⟨rfl, rfl⟩
  · rw [if_neg h1]
    by_cases h2 : y < x
    · rw [if_pos h2]
      go_enter Tryz.func103, Tryz.ntmps103
      go_wp2_with (go_at_call 137; refine (isnan_any _ _).mono ?_; rintro e w' ⟨rfl, rfl⟩)
      go_ret
      exact ⟨rfl, rfl⟩
    · rw [if_neg h2]
      go_enter Tryz.func103, Tryz.ntmps103
      go_wp2_with (go_at_call 137; refine (isnan_any _ _).mono ?_; rintro e w' ⟨rfl, rfl⟩)
      go_ret
      exact ⟨rfl, rfl⟩
set_option maxHeartbeats 1000000 in
theorem cmpD_any (x y : Ent) (W : World) : Calls Tryz.prog 102 #[.agg (encD x).toArray, .agg (encD y).toArray] W fun e w' => e = .returned (.int .i64 (cfD x y)) ∧ ∃ q os', w' = Go.Sort.grow (W.drewN q) os' := by
  have hcon := fun W' => cmpi_any (x.when : Int) (y.when : Int) W'
  unfold cfD
  generalize Lib.compareInt (x.when : Int) (y.when : Int) = r at hcon ⊢
  have HC := Lib.hid hcon
  clear hcon
  show Calls Tryz.prog 102 #[.agg #[.int .i64 (x.when : Int), .string x.key, .int .i64 x.kind, .float .f64 0, .string x.str, .bool false], .agg #[.int .i64 (y.when : Int), .string y.key, .int .i64 y.kind, .float .f64 0, .string y.str, .bool false]] W _
  go_enter Tryz.func102, Tryz.ntmps102
  go_wp2_with fail
  refine (HC.out _).mono ?_
  rintro e w' ⟨rfl, rfl⟩
  go_wp2_with fail
  go_ret
  exact ⟨rfl, 0, _, by rw [Go.Sort.alloc_eq_grow, Go.Sort.alloc_eq_grow, Go.Sort.grow_grow]; rfl⟩
theorem apart_sorted {α : Type} [Inhabited α] (enc : α → List Value) (k : Nat) (W : World) (g n : Nat) (d : Array α) (os : Array Obj) : Apart [g] W (sortWorldK enc k W g 0 n d os) := by
  refine ⟨rfl, rfl, rfl, size_sortWorldK_c enc k W g 0 n d os, fun j hj hn => ?_⟩
  have hne : g ≠ j := fun e => hn (by simp [e])
  have hs : j < (Go.Sort.putRowK enc k (Go.Sort.ahead W n) g 0 d).heap.size := by rw [Go.Sort.size_putRowK]; exact hj
  unfold sortWorldK Go.Sort.grow
  rw [Array.getElem?_append_left hs]
  unfold Go.Sort.putRowK Go.Sort.putRow Go.Sort.mapBlock Go.Sort.ahead
  simp [Array.getElem?_modify, hne]
theorem cellsD_at {M : List Ent} {j : Nat} {e : Ent} (h : M[j]? = some e) (i : Nat) (hi : i < 6) : (cellsD M)[j * 6 + i]? = (encD e)[i]? := by
  induction M generalizing j with
  | nil => cases h
  | cons a M ih =>
    have e6 : (encD a).length = 6 := rfl
    show (encD a ++ cellsD M)[j * 6 + i]? = _
    cases j with
    | zero =>
      simp only [List.getElem?_cons_zero, Option.some.injEq] at h
      subst h
      rw [List.getElem?_append_left (by omega)]; simp
    | succ j =>
      rw [List.getElem?_append_right (by omega), e6, ← ih (j := j) (by simpa using h)]
      congr 1; omega
theorem own_holdsD {W : World} {g D cap : Nat} {E : List Ent} {cur : Array Value} (hg : W.heap[g]? = some (.cells cur 177 (0, 0))) (ht : cur.toList.take (E.length * 6) = cellsD E) : Go.Sort.HoldsK encD 6 W g 0 E.toArray := by
  intro t ht2
  rw [Go.Sort.size_flatK] at ht2
  have ht3 : t < E.length * 6 := by simpa using ht2
  have hj : t / 6 < E.length := by omega
  have he : E[t / 6]? = some E[t / 6] := List.getElem?_eq_getElem hj
  have hc := cellsD_at he (t % 6) (by omega)
  rw [show t / 6 * 6 + t % 6 = t by omega] at hc
  have h6 : t % 6 < (encD E[t / 6]).length := by show t % 6 < 6; omega
  rw [List.getElem?_eq_getElem h6, ← ht, List.getElem?_take, if_pos ht3] at hc
  refine ⟨?_, ?_⟩
  · rw [Lib.cell_of_heap hg, Nat.zero_add]
    rw [Go.Sort.get_flatK _ _ _ _ ht2]
    have e1 : E.toArray[t / 6]! = E[t / 6] := by rw [getElem!_pos _ _ (by simpa using hj)]; simp
    rw [e1, getElem!_pos (encD E[t / 6]) (t % 6) h6]
    simpa using hc
  · unfold World.frozen?
    simp [hg]
set_option maxHeartbeats 1000000 in
theorem sorts_any : Sorts := by
  intro M D hlen hpw W v E hown hperm
  have hEl : E.length = M.length := hperm.length_eq
  rcases hown.2 with ⟨rfl, h0⟩ | ⟨g, cap, cur, rfl, hb, hg, hcap, hmax, hcs, ht⟩
  · have hM : M.length = 0 := by omega
    have h := AnyF.slices_SortFunc_none Tryz.laysSort none 0 (.func (.func 102) #[] #[]) W
    change Calls Tryz.prog 101 _ _ _ at h
    refine h.mono ?_
    rintro e w' ⟨rfl, rfl⟩
    exact ⟨rfl, ⟨none, 0, 0, rfl, hM.symm, fun h => by omega⟩, Apart.refl _ _⟩
  · have hgl : g < W.heap.size := (Array.getElem?_eq_some_iff.1 hg).1
    have hH := own_holdsD (D := D) (cap := cap) hg ht
    have eg : ∀ args w, (callFunc 102 args).run Tryz.prog w = .ok (.enter 102 args) w := enters_of Tryz.func102 (by kernel_rfl) rfl
    have h := AnyQ.slices_SortFunc Tryz.laysSort 6 Tryz.isAgg177 Tryz.sizeOf177 encD (fun _ => rfl) (fun x v hv => by
      simp only [encD, List.mem_cons, List.not_mem_nil, or_false] at hv
      rcases hv with rfl | rfl | rfl | rfl | rfl | rfl <;> rfl) cfD swoD 102 #[] g 0 cap E.toArray W eg (fun m os dk hs x y => cmpD_any x y _) hH hgl (by simp; omega)
    change Calls Tryz.prog 101 _ _ _ at h
    rw [show E.toArray.size = E.length by simp] at h
    refine h.mono ?_
    rintro e w' ⟨rfl, d', n, os, hp, hs, rfl⟩
    obtain ⟨hp1, hp2, hp3⟩ := hp
    have hsz : d'.size = E.length := by rw [hp1]; simp
    have hd : d'.toList = M := by
      have hperm2 : d'.toList.Perm M := by
        have e1 : (d'.extract 0 E.length).toList = d'.toList := by rw [← hsz]; simp
        have e2 : (E.toArray.extract 0 E.length).toList = E := by simp
        rw [e1, e2] at hp3
        exact hp3.trans hperm
      have hsort : d'.toList.Pairwise (fun a b => a.when ≤ b.when) := by
        rw [List.pairwise_iff_getElem]
        intro i j hi hj hij
        have h1 := hs i j (Nat.zero_le _) hij (by rw [← hsz]; simpa using hj)
        rw [ltD, getElem!_pos d' j (by simpa using hj), getElem!_pos d' i (by simpa using hi)] at h1
        simp at h1
        simpa using h1
      refine hperm2.eq_of_pairwise (le := fun a b : Ent => a.when ≤ b.when) ?_ hsort (hpw.imp fun h => Nat.le_of_lt h)
      intro a b ha hb h1 h2
      have hb' : b ∈ M := hb
      have ha' : a ∈ M := hperm2.mem_iff.1 ha
      obtain ⟨i, hi, hia⟩ := List.mem_iff_getElem.1 ha'
      obtain ⟨j, hj, hjb⟩ := List.mem_iff_getElem.1 hb'
      rcases Nat.lt_trichotomy i j with h | h | h
      · have := List.pairwise_iff_getElem.1 hpw i j hi hj h
        rw [hia, hjb] at this; omega
      · subst h; rw [← hia, ← hjb]
      · have := List.pairwise_iff_getElem.1 hpw j i hj hi h
        rw [hia, hjb] at this; omega
    have hK := holdsK_sortWorldK_c encD 6 W g 0 E.toArray d' n os hH hgl (by rw [hp1])
    refine ⟨rfl, ⟨_, _, _, rfl, hEl, fun _ => ⟨g, rfl, ?_, ?_⟩⟩, ?_⟩
    · exact Nat.lt_of_lt_of_le hgl (size_sortWorldK_c encD 6 W g 0 n d' os)
    · intro j x hj i u hu
      have hj2 : j < d'.size := by
        have := (List.getElem?_eq_some_iff.1 hj).1
        omega
      have hi6 : i < 6 := by
        have := (List.getElem?_eq_some_iff.1 hu).1
        exact this
      have hc := (hK.cell hj2 hi6).1
      have e1 : d'[j]! = x := by
        rw [getElem!_pos d' j hj2]
        have : d'.toList[j]? = some x := by rw [hd]; exact hj
        simpa [hj2] using this
      rw [e1, Nat.zero_add] at hc
      rw [hc]
      rw [getElem!_pos (encD x) i (show i < (encD x).length from hi6)]
      exact hu ▸ (List.getElem?_eq_getElem (show i < (encD x).length from hi6)).symm
    · exact apart_sorted encD 6 W g n d' os
end Go.Proofs.YtflbhifdololfaaGreatDoor
