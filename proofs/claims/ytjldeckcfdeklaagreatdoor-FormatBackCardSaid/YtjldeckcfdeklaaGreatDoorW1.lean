/- What Fixed, Sci and general write, plain: sizes, and that it is ASCII. -/
import Derived.Test.YtjldeckcfdeklaaGreatDoorW0
import Derived.Test.YtjldeckcfdeklaaGreatDoorP17
namespace Go.Proofs.YtjldeckcfdeklaaGreatDoor
open Go.RowKit
set_option linter.unusedVariables false

/-- a contract's fact that no world matters to -/
theorem Calls.fact {P : Program} {f : FuncId} {args : Array Value} {w : World} {R : Ending → World → Prop} {p : Prop} (h : Calls P f args w R) (hp : ∀ e w', R e w' → p) : p := by
  obtain ⟨e, w', fr, hr, _⟩ := h []
  exact hp e w' hr
theorem sci_ok (b p : Nat) (hb : b < 18446744073709551616) (hf : fin b = true) (hp : p ≤ 200) : SciOk b p := Calls.fact (Sci_det b p default hb hf hp) fun _ _ h => h.2.1
theorem fix_ok (b p : Nat) (hb : b < 18446744073709551616) (hf : fin b = true) (hp : p ≤ 200) : ∃ l, Canon l (scaledN b p) ∧ l.length ≤ 4001 ∧ fixT b p = fixedL l p := by
  refine Calls.fact (Fixed_ok b p default hb hf hp) fun _ _ h => ?_
  obtain ⟨s, l, _, hc, _, _⟩ := h
  refine ⟨l, hc, canon_len (k := 4001) hc (Nat.lt_of_lt_of_le (nbits_le.1 (scaledN_lt (by omega) (by omega))) (two_ten 4001)) (by decide), ?_⟩
  unfold fixT
  rw [dl_eq hc]

def Asc (l : List UInt8) : Prop := ∀ c ∈ l, c.toNat < 128
theorem Asc.app {l m : List UInt8} (h : Asc l) (k : Asc m) : Asc (l ++ m) := fun c hc => (List.mem_append.1 hc).elim (h c) (k c)
theorem Asc.sub {l m : List UInt8} (h : Asc m) (k : ∀ c ∈ l, c ∈ m) : Asc l := fun c hc => h c (k c hc)
theorem Asc.rep (n : Nat) {c : UInt8} (h : c.toNat < 128) : Asc (List.replicate n c) := fun x hx => by rw [List.eq_of_mem_replicate hx]; exact h
theorem Asc.digits {l : List UInt8} (h : Digits l) : Asc l := fun c hc => by have := h c hc; omega
theorem Asc.cons {l : List UInt8} {c : UInt8} (h : c.toNat < 128) (k : Asc l) : Asc (c :: l) := fun x hx => by
  rcases List.mem_cons.1 hx with rfl | hx
  · exact h
  · exact k x hx
theorem Asc.nil : Asc [] := fun c hc => by cases hc
theorem fixedL_asc {l : List UInt8} (h : Asc l) (p : Nat) : Asc (fixedL l p) := by
  have hq : Asc (if l.length ≤ p then List.replicate (p + 1 - l.length) 48 ++ l else l) := by
    split
    · exact (Asc.rep _ (by decide)).app h
    · exact h
  unfold fixedL
  dsimp only
  generalize (if l.length ≤ p then List.replicate (p + 1 - l.length) 48 ++ l else l) = q at *
  split
  · exact (hq.sub fun c hc => List.mem_of_mem_take hc).app ((hq.sub fun c hc => List.mem_of_mem_drop hc).cons (by decide))
  · exact hq
theorem fixedL_len5 (l : List UInt8) (p : Nat) : (fixedL l p).length ≤ l.length + p + 2 := by
  have hq : (if l.length ≤ p then List.replicate (p + 1 - l.length) (48 : UInt8) ++ l else l).length ≤ l.length + p + 1 := by
    split
    · simp; omega
    · omega
  unfold fixedL
  dsimp only
  generalize (if l.length ≤ p then List.replicate (p + 1 - l.length) (48 : UInt8) ++ l else l) = q at *
  split
  · simp; omega
  · omega
theorem fix_asc {b p : Nat} (hb : b < 18446744073709551616) (hf : fin b = true) (hp : p ≤ 200) : Asc (fixT b p) ∧ (fixT b p).length ≤ 5000 := by
  obtain ⟨l, hc, hl, he⟩ := fix_ok b p hb hf hp
  rw [he]
  have := fixedL_len5 l p
  exact ⟨fixedL_asc (Asc.digits hc.dig) p, by omega⟩
theorem itoa_asc : ((List.range 326).all fun n => (Lib.itoa (n : Int)).all fun c => decide (c.toNat < 128)) = true := by kernel_rfl
theorem itoa_asc' {n : Nat} (h : n ≤ 325) : Asc (Lib.itoa (n : Int)) := by
  have h1 := List.all_eq_true.1 itoa_asc n (List.mem_range.2 (by omega))
  intro c hc
  exact of_decide_eq_true (List.all_eq_true.1 h1 c hc)
theorem ext_mem {s : ByteArray} {i j : Nat} {c : UInt8} (h : c ∈ (s.extract i j).data.toList) : c ∈ s.data.toList := by
  rw [show (s.extract i j).data = s.data.extract i j from ByteArray.data_extract] at h
  simp only [Array.toList_extract, List.extract_eq_take_drop] at h
  exact List.mem_of_mem_drop (List.mem_of_mem_take h)
theorem Asc.appB {s t : ByteArray} (h : Asc s.data.toList) (k : Asc t.data.toList) : Asc (s ++ t).data.toList := by
  rw [ByteArray.data_append, Array.toList_append]
  exact h.app k
theorem sciO_asc {b p : Nat} (alt : Bool) (hb : b < 18446744073709551616) (hf : fin b = true) (hp : p ≤ 200) : Asc (sciO b p alt).data.toList ∧ (sciO b p alt).size ≤ 1000 := by
  have hok := sci_ok b p hb hf hp
  refine ⟨?_, (sciO_facts (alt := alt) hok hp).1⟩
  have h1 := hok.lo
  have h2 := hok.hi
  have hD : Asc (⟨(sciD b p).toArray⟩ : ByteArray).data.toList := Asc.digits hok.dig
  have hT : Asc (⟨(Lib.itoa ((sciE b p).natAbs : Int)).toArray⟩ : ByteArray).data.toList := itoa_asc' (by omega)
  have hd : ∀ i j, Asc ((⟨(sciD b p).toArray⟩ : ByteArray).extract i j).data.toList := fun i j => hD.sub fun c hc => ext_mem hc
  have l1 : ∀ c : UInt8, c.toNat < 128 → Asc (⟨#[c]⟩ : ByteArray).data.toList := fun c hc => Asc.nil.cons hc
  unfold sciO
  dsimp only
  refine Asc.appB ?_ hT
  have hs1 : Asc (if 0 < p ∨ alt = true then (⟨(sciD b p).toArray⟩ : ByteArray).extract 0 1 ++ ⟨#[46]⟩ else (⟨(sciD b p).toArray⟩ : ByteArray).extract 0 1).data.toList := by
    split
    · exact (hd _ _).appB (l1 46 (by decide))
    · exact hd _ _
  generalize (if 0 < p ∨ alt = true then (⟨(sciD b p).toArray⟩ : ByteArray).extract 0 1 ++ ⟨#[46]⟩ else (⟨(sciD b p).toArray⟩ : ByteArray).extract 0 1) = S1 at *
  have hs2 : Asc (S1 ++ ((⟨(sciD b p).toArray⟩ : ByteArray).extract 1 (⟨(sciD b p).toArray⟩ : ByteArray).size ++ ⟨#[101]⟩)).data.toList := hs1.appB ((hd _ _).appB (l1 101 (by decide)))
  generalize S1 ++ ((⟨(sciD b p).toArray⟩ : ByteArray).extract 1 (⟨(sciD b p).toArray⟩ : ByteArray).size ++ ⟨#[101]⟩) = S2 at *
  split <;> split
  · exact (hs2.appB (l1 45 (by decide))).appB (l1 48 (by decide))
  · exact (hs2.appB (l1 43 (by decide))).appB (l1 48 (by decide))
  · exact hs2.appB (l1 45 (by decide))
  · exact hs2.appB (l1 43 (by decide))
theorem bare_mem {s : ByteArray} {c : UInt8} (h : c ∈ (bareS s).data.toList) : c ∈ s.data.toList := by
  have h : c ∈ Lib.trimSuffix (Lib.trimRightB s.data.toList 48) [46] := h
  have h1 : c ∈ Lib.trimRightB s.data.toList 48 := by
    unfold Lib.trimSuffix at h
    split at h
    · exact List.mem_of_mem_take h
    · exact h
  unfold Lib.trimRightB at h1
  have h2 := (List.dropWhile_suffix _).subset (List.mem_reverse.1 h1)
  exact List.mem_reverse.1 h2
theorem genO_asc {b p : Nat} (alt : Bool) (hb : b < 18446744073709551616) (hf : fin b = true) (hp : p ≤ 190) : Asc (genO b p alt).data.toList := by
  have hok := sci_ok b p hb hf (by omega)
  have hX := (sciO_asc (p := p) true hb hf (by omega)).1
  have hT : Asc (genT b p).data.toList := by
    unfold genT
    split
    · exact hX.sub fun c hc => ext_mem hc
    · exact Asc.nil
  have hH : Asc (genH b p).data.toList := by
    unfold genH
    by_cases hB : genB b p = true
    · rw [if_pos hB]
      exact hX.sub fun c hc => ext_mem hc
    · rw [if_neg hB]
      have hF : Asc (genF b p).data.toList := by
        unfold genF
        have h1 : ¬ (sciE b p < -4) ∧ ¬ ((p : Int) + 1 ≤ sciE b p) := by
          unfold genB at hB
          simp only [Bool.or_eq_true, decide_eq_true_eq, not_or] at hB
          exact hB
        exact (fix_asc hb hf (by omega)).1
      split
      · exact hF
      · exact hF.appB (Asc.nil.cons (by decide))
  unfold genO
  refine Asc.appB ?_ hT
  split
  · exact hH
  · exact hH.sub fun c hc => bare_mem hc
end Go.Proofs.YtjldeckcfdeklaaGreatDoor
