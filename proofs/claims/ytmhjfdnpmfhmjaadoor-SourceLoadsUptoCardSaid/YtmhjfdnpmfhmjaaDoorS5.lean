/- Package source: find. -/
import Derived.Test.YtmhjfdnpmfhmjaaDoorS2
import Derived.Test.YtmhjfdnpmfhmjaaDoorShelf
namespace Go.Proofs.YtmhjfdnpmfhmjaaDoor
open Go.RowKit
set_option linter.unusedVariables false

/-- the chunks of a file, and what they are together -/
def Chunks (w : World) (v : Value) (t : Str) : Prop := (∃ a c, v = .slice a 0 c ∧ t = []) ∨
  ∃ (bk o c : Nat) (xs : List ByteArray), v = .slice (some ⟨bk, o, none⟩) xs.length c ∧ (∀ (j : Nat) x, xs[j]? = some x → w.cell? ⟨bk, o + j, none⟩ = some (.string x)) ∧ bk < w.heap.size ∧ xs.length ≤ 140737488355328 ∧ xs.length ≤ c ∧
    t = (xs.map (·.data.toList)).flatten ∧ t.length ≤ 1000000
/-- the files -/
structure Files (w : World) (bk o : Nat) (L : List (Str × Str)) : Prop where
  lt : bk < w.heap.size
  len : L.length ≤ 1000000
  at_ : ∀ (j : Nat) p, L[j]? = some p → ∃ v, w.cell? ⟨bk, o + j * 2, none⟩ = some (.string (B p.1)) ∧ w.cell? ⟨bk, o + j * 2 + 1, none⟩ = some v ∧ Chunks w v p.2
def FilesV (w : World) (fv : Value) (L : List (Str × Str)) : Prop := (∃ a c, fv = .slice a 0 c ∧ L = []) ∨ ∃ bk o c, fv = .slice (some ⟨bk, o, none⟩) L.length c ∧ L.length ≤ c ∧ Files w bk o L

theorem Chunks.below {w w' : World} {v : Value} {t : Str} (h : Chunks w v t) (hb : Below w.heap.size w w') : Chunks w' v t := by
  rcases h with h | ⟨bk, o, c, xs, h1, h2, h3, h4⟩
  · exact .inl h
  · exact .inr ⟨bk, o, c, xs, h1, fun j x hj => (hb.cell (p := ⟨bk, o + j, none⟩) h3).trans (h2 j x hj), Nat.lt_of_lt_of_le h3 hb.size, h4⟩
theorem FilesV.below {w w' : World} {fv : Value} {L : List (Str × Str)} (h : FilesV w fv L) (hb : Below w.heap.size w w') : FilesV w' fv L := by
  rcases h with h | ⟨bk, o, c, h1, h0, h2⟩
  · exact .inl h
  · refine .inr ⟨bk, o, c, h1, h0, Nat.lt_of_lt_of_le h2.lt hb.size, h2.len, fun j p hj => ?_⟩
    obtain ⟨v, h3, h4, h5⟩ := h2.at_ j p hj
    exact ⟨v, (hb.cell (p := ⟨bk, o + j * 2, none⟩) h2.lt).trans h3, (hb.cell (p := ⟨bk, o + j * 2 + 1, none⟩) h2.lt).trans h4, h5.below hb⟩

theorem inter_nil : ∀ xs : List Str, Lib.join xs [] = xs.flatten := by
  intro xs
  unfold Lib.join
  induction xs with
  | nil => rfl
  | cons a l ih =>
    cases l with
    | nil => simp [List.intercalate]
    | cons b l =>
      simp [List.intercalate] at ih ⊢
      exact ih
theorem Join_any (v : Value) (t : Str) (w : World) (h : Chunks w v t) :
    Calls Tryd.prog 57 #[v, .string ⟨#[]⟩] w fun e w' => e = .returned (.string (B t)) ∧ Below w.heap.size w w' := by
  rcases h with ⟨a, c, rfl, rfl⟩ | ⟨bk, o, c, xs, rfl, h2, h3, h4, h5, rfl, h6⟩
  · refine (Tryd.strings_Join_none a c ⟨#[]⟩ w).mono ?_
    rintro e w' ⟨rfl, rfl⟩
    exact ⟨rfl, Below.refl _ _⟩
  · have e := inter_nil (xs.map (·.data.toList))
    have hj := Tryd.strings_Join bk o c xs ⟨#[]⟩ w h2 h3 h4 h5 (by show (Lib.join _ []).length ≤ _; rw [e]; omega)
    rw [show (⟨#[]⟩ : ByteArray).data.toList = [] from rfl, e] at hj
    exact hj

set_option maxRecDepth 100000 in
theorem find1_any (nm name : Str) (cv : Value) (p : Nat) (W : World) (hp : W.cell? ⟨p, 0, none⟩ = some (.string (B name))) (hl : p < W.heap.size) (hs : ∃ a n c, cv = .slice a n c) :
    Calls Tryd.prog 56 #[.agg #[.string (B nm), cv], .pointer (some ⟨p, 0, none⟩)] W fun e w' => e = .returned (.bool (nm == name)) ∧ Below W.heap.size W w' := by
  obtain ⟨a, n, c, rfl⟩ := hs
  have h2 := cell_old (w := W) (o := .cells #[.string (B nm), .slice a n c] 40) (a := ⟨p, 0, none⟩) hl
  rw [hp] at h2
  go_enter Tryd.func56, Tryd.ntmps56
  go_wp2_with fail
  go_ret
  exact ⟨by show Ending.returned (.bool ((B nm).toList == (B name).toList)) = _; rw [B_beq], (Below.refl _ _).alloc (Nat.le_refl _) _⟩

theorem look_none {L : List (Str × Str)} {name : Str} (h : look L name = none) : ∀ p ∈ L, (p.1 == name) = false := by
  intro p hp
  unfold look at h
  rw [Option.map_eq_none_iff] at h
  exact by simpa using List.find?_eq_none.1 h p hp
theorem look_some {L : List (Str × Str)} {name t : Str} (h : look L name = some t) : ∃ (k : Nat) (p : Str × Str), L[k]? = some p ∧ p.1 = name ∧ p.2 = t ∧ ∀ j, j < k → ∀ q, L[j]? = some q → (q.1 == name) = false := by
  induction L with
  | nil => cases h
  | cons a L ih =>
    unfold look at h
    by_cases ha : (a.1 == name) = true
    · rw [List.find?_cons_of_pos (p := fun p : Str × Str => p.1 == name) ha] at h
      simp at h
      exact ⟨0, a, rfl, by simpa using ha, h, fun j hj => absurd hj (by omega)⟩
    · rw [List.find?_cons_of_neg (p := fun p : Str × Str => p.1 == name) ha] at h
      obtain ⟨k, p, h1, h2, h3, h4⟩ := ih h
      refine ⟨k + 1, p, by simpa using h1, h2, h3, fun j hj q hq => ?_⟩
      cases j with
      | zero => simp at hq; subst hq; simpa using ha
      | succ j => exact h4 j (by omega) q (by simpa using hq)

/-- the place of a name -/
def ixF (L : List (Str × Str)) (name : Str) : Int := match L.findIdx? (fun p => p.1 == name) with | some k => (k : Int) | none => -1
theorem ixF_hit {L : List (Str × Str)} {name : Str} {k : Nat} {p : Str × Str} (hp : L[k]? = some p) (hn : (p.1 == name) = true) (hb : ∀ j, j < k → ∀ q, L[j]? = some q → (q.1 == name) = false) : ixF L name = (k : Int) := by
  unfold ixF
  have : L.findIdx? (fun p => p.1 == name) = some k := by
    rw [List.findIdx?_eq_some_iff_getElem]
    obtain ⟨h1, h2⟩ := List.getElem?_eq_some_iff.1 hp
    refine ⟨h1, by rw [h2]; exact hn, fun j hj => ?_⟩
    have := hb j hj L[j] (List.getElem?_eq_getElem (by omega))
    simpa using this
  rw [this]
theorem ixF_miss {L : List (Str × Str)} {name : Str} (hb : ∀ j, j < L.length → ∀ q, L[j]? = some q → (q.1 == name) = false) : ixF L name = -1 := by
  unfold ixF
  have : L.findIdx? (fun p => p.1 == name) = none := by
    rw [List.findIdx?_eq_none_iff]
    intro x hx
    obtain ⟨j, hj, rfl⟩ := List.mem_iff_getElem.1 hx
    exact hb j hj _ (List.getElem?_eq_getElem hj)
  rw [this]
theorem Chunks.isSlice {w : World} {v : Value} {t : Str} (h : Chunks w v t) : ∃ a n c, v = .slice a n c := by
  rcases h with ⟨a, c, rfl, _⟩ | ⟨bk, o, c, xs, rfl, _⟩
  · exact ⟨_, _, _, rfl⟩
  · exact ⟨_, _, _, rfl⟩
def natOf : Value → Nat
  | .int _ n => n.toNat
  | _ => 0

set_option maxHeartbeats 4000000 in
set_option maxRecDepth 100000 in
theorem IndexFunc_any (bk o c : Nat) (L : List (Str × Str)) (name : Str) (pn : Nat) (w : World) (hF : Files w bk o L) (hp : w.cell? ⟨pn, 0, none⟩ = some (.string (B name))) (hpl : pn < w.heap.size) :
    Calls Tryd.prog 55 #[.slice (some ⟨bk, o, none⟩) L.length c, .func (.func 56) #[] #[.pointer (some ⟨pn, 0, none⟩)]] w fun e w' => e = .returned (.int .i64 (ixF L name)) ∧ Below w.heap.size w w' := by
  have hn := hF.len
  have HF := Lib.hid hF
  have HP := Lib.hid hp
  have HPL := Lib.hid hpl
  obtain ⟨n, hn2⟩ : ∃ n, n = L.length := ⟨_, rfl⟩
  rw [← hn2] at hn ⊢
  have HN := Lib.hid hn2
  clear hF hp hpl hn2
  go_enter Tryd.func55, Tryd.ntmps55
  go_wp2_with fail
  go_loopw [8] (fun v8 wr => ∃ (k : Nat), v8 = .int .i64 (k : Int) ∧ k ≤ n ∧ Hid (Below w.heap.size w wr) ∧ Hid (∀ j, j < k → ∀ q, L[j]? = some q → (q.1 == name) = false)) (fun v8 _ => n - natOf v8)
  case atStart => exact ⟨0, rfl, Nat.zero_le _, Below.refl _ _, fun j hj => absurd hj (by omega)⟩
  case round =>
    obtain ⟨k, rfl, hkn, HB, HM⟩ := hrel
    by_cases hlt : k < n
    · have hltI : (k : Int) < (n : Int) := by omega
      obtain ⟨p, hpk⟩ : ∃ p, L[k]? = some p := ⟨L[k]'(by rw [← HN.out]; exact hlt), List.getElem?_eq_getElem _⟩
      obtain ⟨cv, h1, h2, h3⟩ := HF.out.at_ k p hpk
      have c1 : wr.cell? ⟨bk, o + k * 2, none⟩ = some (.string (B p.1)) := (HB.out.cell (p := ⟨bk, o + k * 2, none⟩) HF.out.lt).trans h1
      have c2 : wr.cell? ⟨bk, o + k * 2 + 1, none⟩ = some cv := (HB.out.cell (p := ⟨bk, o + k * 2 + 1, none⟩) HF.out.lt).trans h2
      obtain ⟨ca, cn, cc, rfl⟩ := h3.isSlice
      have HC := Lib.hid (find1_any p.1 name (.slice ca cn cc) pn wr ((HB.out.cell (p := ⟨pn, 0, none⟩) HPL.out).trans HP.out) (Nat.lt_of_lt_of_le HPL.out HB.out.size) ⟨_, _, _, rfl⟩)
      have HPK := Lib.hid hpk
      clear h1 h2 h3 hpk
      cases hq : (p.1 == name) with
      | true =>
        rw [hq] at HC
        go_wp2_with fail
        refine HC.out.mono ?_
        rintro e w' ⟨rfl, hb'⟩
        have HB' := Lib.hid (HB.out.trans (hb'.mono HB.out.size))
        clear hb'
        go_wp2_with fail
        go_ret
        exact ⟨by rw [ixF_hit HPK.out hq HM.out]; rfl, HB'.out⟩
      | false =>
        rw [hq] at HC
        go_wp2_with fail
        refine HC.out.mono ?_
        rintro e w' ⟨rfl, hb'⟩
        have HB' := Lib.hid (HB.out.trans (hb'.mono HB.out.size))
        clear hb'
        go_wp2_with fail
        go_roundw
        case rel =>
          refine ⟨k + 1, rfl, by omega, HB', fun j hj q hj2 => ?_⟩
          by_cases e : j = k
          · subst e; rw [HPK.out] at hj2; cases hj2; exact hq
          · exact HM.out j (by omega) q hj2
        case measure => simp only [natOf]; omega
    · have hltI : ¬ (k : Int) < (n : Int) := by omega
      have : k = n := by omega
      subst this
      go_wp2_with fail
      go_ret
      exact ⟨by rw [ixF_miss (HN.out ▸ HM.out)]; rfl, HB.out⟩

set_option maxHeartbeats 4000000 in
set_option maxRecDepth 100000 in
theorem IndexFunc_nil (a : Option Addr) (c : Nat) (fv : Value) (w : World) :
    Calls Tryd.prog 55 #[.slice a 0 c, fv] w fun e w' => e = .returned (.int .i64 (-1)) ∧ w = w' := by
  go_enter Tryd.func55, Tryd.ntmps55
  go_wp2_with fail
  go_loopw [8] (fun v8 wr => v8 = .int .i64 0 ∧ wr = w) (fun _ _ => 0)
  case atStart => exact ⟨rfl, rfl⟩
  case round =>
    obtain ⟨rfl, rfl⟩ := hrel
    go_wp2_with fail
    go_ret
    exact ⟨rfl, rfl⟩
set_option maxHeartbeats 4000000 in
set_option maxRecDepth 100000 in
theorem find_any {w : World} {D b : Nat} {fv ap bv lv ov dv : Value} {s : LS} (name : Str) (L : List (Str × Str)) (h : St w D b fv ap bv lv ov dv s) (hF : FilesV w fv L) :
    Calls Tryd.prog 39 #[.pointer (some ⟨b, 0, none⟩), .string (B name)] w fun e w' => e = .returned (.tuple #[.string (B ((look L name).getD [])), .bool (look L name).isSome]) ∧ Below w.heap.size w w' := by
  have c0 : w.cell? ⟨b, 0, none⟩ = some fv := h.cell 0
  have hlt := h.lt
  clear h
  have hmf : ∀ (fn : Fn) (first cap : Array Value) (w : World), (Instr.makeFunc fn first cap).run Tryd.prog w = .ok (.func fn first cap) w := fun _ _ _ _ => rfl
  obtain ⟨w1, hw1⟩ : ∃ w1, w1 = w.alloc (.cells #[.string (B name)] 9) := ⟨_, rfl⟩
  have hb1 : Below w.heap.size w w1 := hw1 ▸ (Below.refl _ _).alloc (Nat.le_refl _) _
  have hcn : w1.cell? ⟨w.heap.size, 0, none⟩ = some (.string (B name)) := by
    have : w1.heap[w.heap.size]? = _ := hw1 ▸ heap_alloc_at w _
    rw [Lib.cell_of_heap this]; rfl
  have hs1 : w.heap.size < w1.heap.size := by rw [hw1]; simp
  rcases hF with ⟨a, c, rfl, rfl⟩ | ⟨bk, o, c, rfl, hlc, hF⟩
  · have hI := Lib.hid (fun W => IndexFunc_nil a c (.func (.func 56) #[] #[.pointer (some ⟨w.heap.size, 0, none⟩)]) W)
    have k0 := cell_old (w := w) (o := .cells #[.string (B name)] 9) (a := ⟨b, 0, none⟩) hlt
    rw [c0] at k0
    have HB1 := Lib.hid hb1
    clear hcn hs1 hb1
    go_enter Tryd.func39, Tryd.ntmps39
    go_wp2_with fail
    refine (hI.out _).mono ?_
    rintro e _ ⟨rfl, rfl⟩
    go_wp2_with fail
    go_ret2
    exact ⟨rfl, hw1 ▸ HB1.out⟩
  · have hF1 : Files w1 bk o L := by
      rcases FilesV.below (.inr ⟨bk, o, c, rfl, hlc, hF⟩) hb1 with ⟨a, c, h, rfl⟩ | ⟨bk', o', c', h, _, h2⟩
      · injection h with h1 h2 h3
        cases h1
        exact ⟨Nat.lt_of_lt_of_le hF.lt hb1.size, by simp, fun j p hj => by cases hj⟩
      · injection h with h1 h3 h4
        injection h1 with h1
        injection h1 with h5 h6 h7
        subst h5; subst h6
        exact h2
    have hI := Lib.hid (IndexFunc_any bk o c L name w.heap.size w1 hF1 hcn hs1)
    have hLn := hF1.len
    have HB1 := Lib.hid hb1
    have hbk : (⟨b, 0, none⟩ : Addr).block < w.heap.size := hlt
    have k1 : w1.cell? ⟨b, 0, none⟩ = some (.slice (some ⟨bk, o, none⟩) L.length c) := (hb1.cell (p := ⟨b, 0, none⟩) hlt).trans c0
    cases hl : look L name with
    | none =>
      have hx : ixF L name = -1 := ixF_miss fun j hj q hq => look_none hl q (List.mem_of_getElem? hq)
      rw [hx] at hI
      subst hw1
      clear hcn hs1 hF hF1 hl hb1 hx
      go_enter Tryd.func39, Tryd.ntmps39
      go_wp2_with fail
      refine hI.out.mono ?_
      rintro e w2 ⟨rfl, hb2⟩
      have HB2 := Lib.hid (HB1.out.trans (hb2.mono HB1.out.size))
      clear hb2
      go_wp2_with fail
      go_ret2
      exact ⟨rfl, HB2.out⟩
    | some t =>
      obtain ⟨k, p, h1, h2, h3, h4⟩ := look_some hl
      have hx : ixF L name = (k : Int) := ixF_hit h1 (by rw [h2]; simp) h4
      rw [hx] at hI
      obtain ⟨cv, h5, h6, h7⟩ := hF1.at_ k p h1
      rw [h3] at h7
      have hk1 := (List.getElem?_eq_some_iff.1 h1).1
      obtain ⟨ca, cn, cc, rfl⟩ := h7.isSlice
      have HJ := Lib.hid (fun W h => Join_any (.slice ca cn cc) t W h)
      have HCh := Lib.hid h7
      have hkL : (k : Int) < (L.length : Int) := by omega
      have hbk1 := hF1.lt
      have H6 := Lib.hid h6
      have K1 := Lib.hid k1
      have hlt1 : b < w1.heap.size := Nat.lt_trans hlt hs1
      generalize L.length = n at *
      clear hcn hF hF1 hl hx h1 h2 h3 h4 h5 h6 h7 k1
      have hs2 := hs1
      subst hw1
      go_enter Tryd.func39, Tryd.ntmps39
      go_wp2_with fail
      refine hI.out.mono ?_
      rintro e w2 ⟨rfl, hb2⟩
      have HB2 := Lib.hid (HB1.out.trans (hb2.mono HB1.out.size))
      have j1 := (hb2.cell (p := ⟨b, 0, none⟩) hlt1).trans K1.out
      have j2 := (hb2.cell (p := ⟨bk, o + k * 2 + 1, none⟩) hbk1).trans H6.out
      have HCh2 := Lib.hid (HCh.out.below hb2)
      clear hb2
      go_wp2_with fail
      refine (HJ.out _ HCh2.out).mono ?_
      rintro e w3 ⟨rfl, hb3⟩
      have HB3 := Lib.hid (HB2.out.trans (hb3.mono HB2.out.size))
      clear hb3
      go_wp2_with fail
      go_ret2
      exact ⟨rfl, HB3.out⟩
end Go.Proofs.YtmhjfdnpmfhmjaaDoor
