/- Several texts in one (W1, U1, U2, G3, U3, P7, K2, K3, P8). -/
import Derived.Test.YtfdnhkjeoeffoaaGreatDoorM5
import Derived.Test.YtfdnhkjeoeffoaaGreatDoorM3
import Derived.Test.YtfdnhkjeoeffoaaGreatDoorShelf
import Derived.Shelf.Unicode.DecodeSlow
import Derived.RangeFuncNested
import Derived.RangeFuncBound
import Derived.RangeFuncCalls
import Derived.RangeFuncLeaves
import Derived.OwnWalkIn
import Derived.TacticsInMore
import Derived.LoopNIn
import Derived.LoopIn
import Derived.WalkKit
import Derived.Shelf.Abstract
import Derived.Test.YtfdnhkjeoeffoaaGreatDoorM1
import Derived.BigRegion
section
/- What Fixed, Sci and general write, plain: sizes, and that it is ASCII. -/
namespace Go.Proofs.YtfdnhkjeoeffoaaGreatDoor
open Go.RowKit
set_option linter.unusedVariables false

/-- a contract's fact that no world matters to -/
theorem Calls.fact {P : Program} {f : FuncId} {args : Array Value} {w : World} {R : Ending → World → Prop} {p : Prop} (h : Calls P f args w R) (hp : ∀ e w', R e w' → p) : p := by
  obtain ⟨e, w', fr, hr, _⟩ := h []
  exact hp e w' hr
theorem sci_ok (b p : Nat) (hb : b < 18446744073709551616) (hf : fin b = true) (hp : p ≤ 200) : SciOk b p := Calls.fact (Sci_det b p default hb hf hp) fun _ _ h => h.2.1
theorem fix_ok (b p : Nat) (hb : b < 18446744073709551616) (hf : fin b = true) (hp : p ≤ 200) : ∃ l, Canon l (scaledN b p) ∧ l.length ≤ 4001 ∧ fixT b p = fixedL l p := by
  refine Calls.fact (Fixed_ok b p default hb hf hp) fun _ _ h => ?_
  obtain ⟨s, l, _, hc, _, _⟩ := h
  refine ⟨l, hc, canon_len (k := 4001) hc (Nat.lt_of_lt_of_le (nbits_le.1 (scaledN_lt (by omega) (by omega))) (two_ten 4001)) (by decide), ?_⟩
  unfold fixT
  rw [dl_eq hc]

def Asc (l : List UInt8) : Prop := ∀ c ∈ l, c.toNat < 128
theorem Asc.app {l m : List UInt8} (h : Asc l) (k : Asc m) : Asc (l ++ m) := fun c hc => (List.mem_append.1 hc).elim (h c) (k c)
theorem Asc.sub {l m : List UInt8} (h : Asc m) (k : ∀ c ∈ l, c ∈ m) : Asc l := fun c hc => h c (k c hc)
theorem Asc.rep (n : Nat) {c : UInt8} (h : c.toNat < 128) : Asc (List.replicate n c) := fun x hx => by rw [List.eq_of_mem_replicate hx]; exact h
theorem Asc.digits {l : List UInt8} (h : Digits l) : Asc l := fun c hc => by have := h c hc; omega
theorem Asc.cons {l : List UInt8} {c : UInt8} (h : c.toNat < 128) (k : Asc l) : Asc (c :: l) := fun x hx => by
  rcases List.mem_cons.1 hx with rfl | hx
  · exact h
  · exact k x hx
theorem Asc.nil : Asc [] := fun c hc => by cases hc
theorem fixedL_asc {l : List UInt8} (h : Asc l) (p : Nat) : Asc (fixedL l p) := by
  have hq : Asc (if l.length ≤ p then List.replicate (p + 1 - l.length) 48 ++ l else l) := by
    split
    · exact (Asc.rep _ (by decide)).app h
    · exact h
  unfold fixedL
  dsimp only
  generalize (if l.length ≤ p then List.replicate (p + 1 - l.length) 48 ++ l else l) = q at *
  split
  · exact (hq.sub fun c hc => List.mem_of_mem_take hc).app ((hq.sub fun c hc => List.mem_of_mem_drop hc).cons (by decide))
  · exact hq
theorem fixedL_len5 (l : List UInt8) (p : Nat) : (fixedL l p).length ≤ l.length + p + 2 := by
  have hq : (if l.length ≤ p then List.replicate (p + 1 - l.length) (48 : UInt8) ++ l else l).length ≤ l.length + p + 1 := by
    split
    · simp; omega
    · omega
  unfold fixedL
  dsimp only
  generalize (if l.length ≤ p then List.replicate (p + 1 - l.length) (48 : UInt8) ++ l else l) = q at *
  split
  · simp; omega
  · omega
theorem fix_asc {b p : Nat} (hb : b < 18446744073709551616) (hf : fin b = true) (hp : p ≤ 200) : Asc (fixT b p) ∧ (fixT b p).length ≤ 5000 := by
  obtain ⟨l, hc, hl, he⟩ := fix_ok b p hb hf hp
  rw [he]
  have := fixedL_len5 l p
  exact ⟨fixedL_asc (Asc.digits hc.dig) p, by omega⟩
theorem itoa_asc : ((List.range 326).all fun n => (Lib.itoa (n : Int)).all fun c => decide (c.toNat < 128)) = true := by kernel_rfl
theorem itoa_asc' {n : Nat} (h : n ≤ 325) : Asc (Lib.itoa (n : Int)) := by
  have h1 := List.all_eq_true.1 itoa_asc n (List.mem_range.2 (by omega))
  intro c hc
  exact of_decide_eq_true (List.all_eq_true.1 h1 c hc)
theorem ext_mem {s : ByteArray} {i j : Nat} {c : UInt8} (h : c ∈ (s.extract i j).data.toList) : c ∈ s.data.toList := by
  rw [show (s.extract i j).data = s.data.extract i j from ByteArray.data_extract] at h
  simp only [Array.toList_extract, List.extract_eq_take_drop] at h
  exact List.mem_of_mem_drop (List.mem_of_mem_take h)
theorem Asc.appB {s t : ByteArray} (h : Asc s.data.toList) (k : Asc t.data.toList) : Asc (s ++ t).data.toList := by
  rw [ByteArray.data_append, Array.toList_append]
  exact h.app k
theorem sciO_asc {b p : Nat} (alt : Bool) (hb : b < 18446744073709551616) (hf : fin b = true) (hp : p ≤ 200) : Asc (sciO b p alt).data.toList ∧ (sciO b p alt).size ≤ 1000 := by
  have hok := sci_ok b p hb hf hp
  refine ⟨?_, (sciO_facts (alt := alt) hok hp).1⟩
  have h1 := hok.lo
  have h2 := hok.hi
  have hD : Asc (⟨(sciD b p).toArray⟩ : ByteArray).data.toList := Asc.digits hok.dig
  have hT : Asc (⟨(Lib.itoa ((sciE b p).natAbs : Int)).toArray⟩ : ByteArray).data.toList := itoa_asc' (by omega)
  have hd : ∀ i j, Asc ((⟨(sciD b p).toArray⟩ : ByteArray).extract i j).data.toList := fun i j => hD.sub fun c hc => ext_mem hc
  have l1 : ∀ c : UInt8, c.toNat < 128 → Asc (⟨#[c]⟩ : ByteArray).data.toList := fun c hc => Asc.nil.cons hc
  unfold sciO
  dsimp only
  refine Asc.appB ?_ hT
  have hs1 : Asc (if 0 < p ∨ alt = true then (⟨(sciD b p).toArray⟩ : ByteArray).extract 0 1 ++ ⟨#[46]⟩ else (⟨(sciD b p).toArray⟩ : ByteArray).extract 0 1).data.toList := by
    split
    · exact (hd _ _).appB (l1 46 (by decide))
    · exact hd _ _
  generalize (if 0 < p ∨ alt = true then (⟨(sciD b p).toArray⟩ : ByteArray).extract 0 1 ++ ⟨#[46]⟩ else (⟨(sciD b p).toArray⟩ : ByteArray).extract 0 1) = S1 at *
  have hs2 : Asc (S1 ++ ((⟨(sciD b p).toArray⟩ : ByteArray).extract 1 (⟨(sciD b p).toArray⟩ : ByteArray).size ++ ⟨#[101]⟩)).data.toList := hs1.appB ((hd _ _).appB (l1 101 (by decide)))
  generalize S1 ++ ((⟨(sciD b p).toArray⟩ : ByteArray).extract 1 (⟨(sciD b p).toArray⟩ : ByteArray).size ++ ⟨#[101]⟩) = S2 at *
  split <;> split
  · exact (hs2.appB (l1 45 (by decide))).appB (l1 48 (by decide))
  · exact (hs2.appB (l1 43 (by decide))).appB (l1 48 (by decide))
  · exact hs2.appB (l1 45 (by decide))
  · exact hs2.appB (l1 43 (by decide))
theorem bare_mem {s : ByteArray} {c : UInt8} (h : c ∈ (bareS s).data.toList) : c ∈ s.data.toList := by
  have h : c ∈ Lib.trimSuffix (Lib.trimRightB s.data.toList 48) [46] := h
  have h1 : c ∈ Lib.trimRightB s.data.toList 48 := by
    unfold Lib.trimSuffix at h
    split at h
    · exact List.mem_of_mem_take h
    · exact h
  unfold Lib.trimRightB at h1
  have h2 := (List.dropWhile_suffix _).subset (List.mem_reverse.1 h1)
  exact List.mem_reverse.1 h2
theorem genO_asc {b p : Nat} (alt : Bool) (hb : b < 18446744073709551616) (hf : fin b = true) (hp : p ≤ 190) : Asc (genO b p alt).data.toList := by
  have hok := sci_ok b p hb hf (by omega)
  have hX := (sciO_asc (p := p) true hb hf (by omega)).1
  have hT : Asc (genT b p).data.toList := by
    unfold genT
    split
    · exact hX.sub fun c hc => ext_mem hc
    · exact Asc.nil
  have hH : Asc (genH b p).data.toList := by
    unfold genH
    by_cases hB : genB b p = true
    · rw [if_pos hB]
      exact hX.sub fun c hc => ext_mem hc
    · rw [if_neg hB]
      have hF : Asc (genF b p).data.toList := by
        unfold genF
        have h1 : ¬ (sciE b p < -4) ∧ ¬ ((p : Int) + 1 ≤ sciE b p) := by
          unfold genB at hB
          simp only [Bool.or_eq_true, decide_eq_true_eq, not_or] at hB
          exact hB
        exact (fix_asc hb hf (by omega)).1
      split
      · exact hF
      · exact hF.appB (Asc.nil.cons (by decide))
  unfold genO
  refine Asc.appB ?_ hT
  split
  · exact hH
  · exact hH.sub fun c hc => bare_mem hc
end Go.Proofs.YtfdnhkjeoeffoaaGreatDoor
end

section
/- Package ustr: Next, All; the characters of a string. -/
namespace Go.Proofs.YtfdnhkjeoeffoaaGreatDoor
open Go.RowKit
set_option linter.unusedVariables false

/-- the tables of unicode/utf8 -/
def U8Ok (w : World) : Prop := Lib.Utf8Tabs 4 5 w
theorem U8Ok.below {w w' : World} (h : U8Ok w) (hb : Below w.heap.size w w') : U8Ok w' := by
  have old : ∀ {p : Addr} {v : Value}, w.cell? p = some v → w'.cell? p = some v := fun {p v} h => by
    refine (hb.cell ?_).trans h
    rcases Nat.lt_or_ge p.block w.heap.size with h' | h'
    · exact h'
    · exfalso
      unfold World.cell? at h
      rw [Array.getElem?_eq_none h'] at h
      cases h
  exact ⟨fun c hc => old (h.1 c hc), fun i hi => ⟨old (h.2 i hi).1, old (h.2 i hi).2⟩⟩

/-- the rune at a place, and its width -/
def dgo (s : ByteArray) (m : Nat) : Nat × Nat := Lib.decodeGo (s.extract m s.size)
/-- the character at a place: its code and its width -/
def nxt (s : ByteArray) (m : Nat) (b : Bool) : Nat × Nat :=
  if b = true then (ch s m, 1) else if (dgo s m).1 = 65533 ∧ (dgo s m).2 = 1 then (1114112 + ch s m, 1) else dgo s m

theorem decode_width (s : ByteArray) (i : Nat) : 1 ≤ (Utf8.decode s i).2 ∧ (Utf8.decode s i).2 ≤ 4 ∧ (Utf8.decode s i).1 ≤ 4194304 := by
  have hb : ∀ k, (s.get! k).toNat < 256 := fun k => UInt8.toNat_lt _
  have h0 := hb (i + 0)
  have h1 := hb (i + 1)
  have h2 := hb (i + 2)
  have h3 := hb (i + 3)
  unfold Utf8.decode
  simp only [Utf8.runeError]
  repeat' split
  all_goals refine ⟨?_, ?_, ?_⟩ <;> first | omega | (simp only []; omega)
theorem dgo_width {s : ByteArray} {m : Nat} (h : m < s.size) : 1 ≤ (dgo s m).2 ∧ (dgo s m).2 ≤ 4 ∧ (dgo s m).1 ≤ 4194304 := by
  unfold dgo Lib.decodeGo
  rw [if_neg (by rw [ByteArray.size_extract]; omega)]
  exact decode_width _ 0
theorem nxt_width {s : ByteArray} {m : Nat} (b : Bool) (h : m < s.size) : 1 ≤ (nxt s m b).2 ∧ (nxt s m b).2 ≤ 4 ∧ (nxt s m b).1 ≤ 4194304 := by
  have h1 := dgo_width h
  have h2 := ch_lt s m
  unfold nxt
  split
  · exact ⟨Nat.le_refl _, by simp only []; omega, by simp only []; omega⟩
  · split
    · exact ⟨Nat.le_refl _, by simp only []; omega, by simp only []; omega⟩
    · exact h1

set_option maxHeartbeats 4000000 in
set_option maxRecDepth 100000 in
theorem UNext_any (s : ByteArray) (m : Nat) (b : Bool) (w : World) (hm : m < s.size) (hs : s.size ≤ 140737488351232) (hU : U8Ok w) :
    Calls Tryz.prog 242 #[.string s, .int .i64 (m : Int), .bool b] w fun e w' => e = .returned (.tuple #[.int .i64 ((nxt s m b).1 : Nat), .int .i64 ((nxt s m b).2 : Nat)]) ∧ Below w.heap.size w w' := by
  have hcc : s[m].toNat = ch s m := ch_in hm
  have hI : (m : Int) < (s.size : Int) := by omega
  have hS : (s.size : Int) ≤ 140737488351232 := by omega
  have hneg : decide ((m : Int) < 0) = false := by simp
  have hch := ch_lt s m
  obtain ⟨N, hN⟩ : ∃ N, N = nxt s m b := ⟨_, rfl⟩
  rw [← hN]
  unfold nxt at hN
  have HD := Lib.hid (Tryz.utf8_DecodeRuneInString (s.extract m s.size) w hU)
  rw [show Lib.decodeGo (s.extract m s.size) = dgo s m from rfl] at HD
  have hdw := dgo_width hm
  obtain ⟨⟨R, K⟩, hd⟩ : ∃ x, x = dgo s m := ⟨_, rfl⟩
  rw [← hd] at hN HD hdw
  clear hd
  dsimp only at hN HD hdw
  generalize ch s m = c at *
  cases b
  · have HN := Lib.hid hN
    clear hN
    go_enter Tryz.func242, Tryz.ntmps242
    go_wp2_with fail
    refine HD.out.mono ?_
    rintro e w1 ⟨rfl, hb⟩
    have HB := Lib.hid hb
    clear hb
    by_cases hR : R = 65533
    · subst hR
      by_cases hK : K = 1
      · subst hK
        obtain rfl : N = (1114112 + c, 1) := by rw [HN.out]; simp
        clear HN HD
        go_wp2_with fail
        go_ret2
        exact ⟨by simp, HB.out⟩
      · have hKb : ((K : Int) == 1) = false := by simp; omega
        obtain rfl : N = (65533, K) := by rw [HN.out]; simp [hK]
        clear HN HD hK
        go_wp2_with fail
        go_ret2
        exact ⟨rfl, HB.out⟩
    · have hRb : ((R : Int) == 65533) = false := by simp; omega
      obtain rfl : N = (R, K) := by rw [HN.out]; simp [hR]
      clear HN HD hR
      go_wp2_with fail
      go_ret2
      exact ⟨rfl, HB.out⟩
  · rw [if_pos rfl] at hN
    subst hN
    clear HD
    go_enter Tryz.func242, Tryz.ntmps242
    go_wp2_with fail
    go_ret2
    exact ⟨rfl, Below.refl _ _⟩

theorem UAll_any (s : ByteArray) (b : Bool) (w : World) :
    Calls Tryz.prog 189 #[.string s, .bool b] w fun e w' => e = .returned (.func (.func 241) #[] #[.pointer (some ⟨w.heap.size, 0, none⟩), .pointer (some ⟨w.heap.size + 1, 0, none⟩)]) ∧ w' = (w.alloc (.cells #[.string s] 9)).alloc (.cells #[.bool b] 4) := by
  go_enter Tryz.func189, Tryz.ntmps189
  go_wp2_with fail
  go_ret
  exact ⟨rfl, rfl⟩
end Go.Proofs.YtfdnhkjeoeffoaaGreatDoor
end

section
/- Package ustr: the iterator over a string's characters. -/
namespace Go.Proofs.YtfdnhkjeoeffoaaGreatDoor
open Go.RowKit Go.Shelf
set_option linter.unusedVariables false
attribute [local go_sem] Oper.semAt_some

/-- the characters from a place on: places and codes -/
def charsF (s : ByteArray) (b : Bool) : Nat → Nat → List (Nat × Nat)
  | 0, _ => []
  | n + 1, m => if m < s.size then (m, (nxt s m b).1) :: charsF s b n (m + (nxt s m b).2) else []
def chars (s : ByteArray) (b : Bool) (m : Nat) : List (Nat × Nat) := charsF s b (s.size - m) m
theorem charsF_end {s : ByteArray} {b : Bool} {n m : Nat} (h : s.size ≤ m) : charsF s b n m = [] := by
  cases n with
  | zero => rfl
  | succ n => unfold charsF; rw [if_neg (by omega)]
theorem charsF_more (s : ByteArray) (b : Bool) : ∀ (n k m : Nat), s.size - m ≤ n → s.size - m ≤ k → charsF s b n m = charsF s b k m := by
  intro n
  induction n with
  | zero => intro k m h1 h2; rw [charsF_end (by omega), charsF_end (by omega)]
  | succ n ih =>
    intro k m h1 h2
    rcases Nat.lt_or_ge m s.size with h | h
    · have hw := nxt_width b h
      cases k with
      | zero => omega
      | succ k =>
        show (if m < s.size then _ else _) = (if m < s.size then _ else _)
        rw [if_pos h, if_pos h, ih k (m + (nxt s m b).2) (by omega) (by omega)]
    · rw [charsF_end h, charsF_end h]
theorem chars_step {s : ByteArray} {b : Bool} {m : Nat} (h : m < s.size) : chars s b m = (m, (nxt s m b).1) :: chars s b (m + (nxt s m b).2) := by
  have hw := nxt_width b h
  unfold chars
  obtain ⟨k, hk⟩ : ∃ k, s.size - m = k + 1 := ⟨s.size - m - 1, by omega⟩
  rw [hk]
  show (if m < s.size then _ else _) = _
  rw [if_pos h, charsF_more s b k (s.size - (m + (nxt s m b).2)) _ (by omega) (by omega)]
theorem chars_end {s : ByteArray} {b : Bool} {m : Nat} (h : s.size ≤ m) : chars s b m = [] := charsF_end h
theorem chars_len (s : ByteArray) (b : Bool) : ∀ (n m : Nat), s.size - m ≤ n → (chars s b m).length ≤ s.size - m := by
  intro n
  induction n with
  | zero => intro m h; rw [chars_end (by omega)]; simp
  | succ n ih =>
    intro m h
    rcases Nat.lt_or_ge m s.size with h' | h'
    · have hw := nxt_width b h'
      have := ih (m + (nxt s m b).2) (by omega)
      rw [chars_step h', List.length_cons]
      omega
    · rw [chars_end h']; simp

theorem U8Ok.lt1 {w : World} (h : U8Ok w) : 4 < w.heap.size := by
  have h0 := h.1 0 (by decide)
  rcases Nat.lt_or_ge 4 w.heap.size with h' | h'
  · exact h'
  · exfalso
    unfold World.cell? at h0
    rw [Array.getElem?_eq_none h'] at h0
    cases h0
theorem U8Ok.lt2 {w : World} (h : U8Ok w) : 5 < w.heap.size := by
  have h0 := (h.2 0 (by decide)).1
  rcases Nat.lt_or_ge 5 w.heap.size with h' | h'
  · exact h'
  · exfalso
    unfold World.cell? at h0
    rw [Array.getElem?_eq_none h'] at h0
    cases h0
theorem U8Ok.keep {n : Nat} {w w' : World} (h : U8Ok w) (hb : Below n w w') (h1 : 4 < n) (h2 : 5 < n) : U8Ok w' :=
  ⟨fun c hc => (hb.cell (p := ⟨4, c, none⟩) h1).trans (h.1 c hc), fun i hi => ⟨(hb.cell (p := ⟨5, 2 * i, none⟩) h2).trans (h.2 i hi).1, (hb.cell (p := ⟨5, 2 * i + 1, none⟩) h2).trans (h.2 i hi).2⟩⟩

/-- what a round keeps -/
def KpU (n₀ Bs Bb : Nat) (W W' : World) : Prop := Below n₀ W W' ∧ W'.heap[Bs]? = W.heap[Bs]? ∧ W'.heap[Bb]? = W.heap[Bb]?
theorem KpU.refl (n₀ Bs Bb : Nat) (W : World) : KpU n₀ Bs Bb W W := ⟨Below.refl _ _, rfl, rfl⟩
theorem KpU.trans {n₀ Bs Bb : Nat} {A B C : World} (h : KpU n₀ Bs Bb A B) (k : KpU n₀ Bs Bb B C) : KpU n₀ Bs Bb A C := ⟨h.1.trans k.1, k.2.1.trans h.2.1, k.2.2.trans h.2.2⟩
theorem KpU.below {n₀ Bs Bb : Nat} {A B : World} (h : Below A.heap.size A B) (h0 : n₀ ≤ A.heap.size) (h1 : Bs < A.heap.size) (h2 : Bb < A.heap.size) : KpU n₀ Bs Bb A B := ⟨h.mono h0, h.block _ h1, h.block _ h2⟩
theorem cell_same {W W' : World} {B i : Nat} (h : W'.heap[B]? = W.heap[B]?) : W'.cell? ⟨B, i, none⟩ = W.cell? ⟨B, i, none⟩ := by
  unfold World.cell?
  rw [h]
theorem KpU.put {n₀ Bs Bb : Nat} {w : World} (h0 : n₀ ≤ w.heap.size) (h1 : Bs < w.heap.size) (h2 : Bb < w.heap.size) (W : World) (l : Nat) (o o' : Obj) (hl : w.heap.size ≤ l) (h : W.heap[l]? = some o) (hc : o.isCells = false) (hw : o.isWalk = false) : KpU n₀ Bs Bb W (W.putObj l o') := by
  have hg := grownBy_putObj' W l o'
  have hlt := (Array.getElem?_eq_some_iff.1 h).1
  exact ⟨belowK_b h0 W l o o' hl h hc hw, hg.block Bs (by omega) (fun e => by cases e; omega), hg.block Bb (by omega) (fun e => by cases e; omega)⟩
theorem KpU.set {n₀ Bs Bb : Nat} {A B : World} (h : KpU n₀ Bs Bb A B) {p : Addr} (hp : n₀ ≤ p.block) (h1 : Bs ≠ p.block) (h2 : Bb ≠ p.block) (u : Value) : KpU n₀ Bs Bb A (B.setCell p u) :=
  ⟨h.1.setCell hp u, (Below.heap_setCell _ _ _ _ h1).trans h.2.1, (Below.heap_setCell _ _ _ _ h2).trans h.2.2⟩

set_option maxHeartbeats 4000000 in
set_option maxRecDepth 100000 in
theorem all1_any (n l Bs Bb n₀ : Nat) (s : ByteArray) (b : Bool) (hn : 1 ≤ n) (hs : s.size ≤ 140737488351232) (hU1 : 4 < n₀) (hU2 : 5 < n₀) (J Jx : List (Nat × Nat) → World → Prop)
    (W : World) (hn₀ : n₀ ≤ W.heap.size) (hB1 : Bs < W.heap.size) (hB2 : Bb < W.heap.size) (hJ : AbidesFrom W.heap.size J)
    (hY : ∀ pre (x : Nat × Nat) W1, J pre W1 → pre.length < s.size → YieldAt Fence.wide (n - 1) Tryz.prog l #[.int .i64 (x.1 : Int), .int .i64 (x.2 : Int)] W1 fun e W' =>
      (e = .returned (.bool true) ∧ J (pre ++ [x]) W' ∧ KpU n₀ Bs Bb W1 W') ∨ (e = .returned (.bool false) ∧ Jx (pre ++ [x]) W'))
    (hBs : W.cell? ⟨Bs, 0, none⟩ = some (.string s)) (hBb : W.cell? ⟨Bb, 0, none⟩ = some (.bool b)) (hU : U8Ok W) (h0 : J [] W) :
    CallsIn Fence.wide n Tryz.prog 241 #[.func (.yield l) #[] #[], .pointer (some ⟨Bs, 0, none⟩), .pointer (some ⟨Bb, 0, none⟩)] W fun e W' => (∃ v, e = .returned v) ∧
      ((∃ ys, ys = chars s b 0 ∧ J ys W') ∨ (∃ pre, pre <+: chars s b 0 ∧ Jx pre W')) := by
  refine callsIn_of_wp Tryz.func241 rfl trivial ?_ rfl
  simp only [Tryz.ntmps241, List.size_toArray, List.length_cons, List.length_nil, Nat.reduceAdd, Nat.reduceSub, Array.replicate_succ, Array.replicate_zero, List.push_toArray, List.append_toArray, List.nil_append, List.cons_append]
  have HY := Lib.hid hY
  have HJ := Lib.hid hJ
  have HU := Lib.hid hU
  have H0 := Lib.hid h0
  clear hY hJ hU h0
  gi_wp2
  gi_loopw [4] (fun p wr => ∃ (m : Nat) (pre : List (Nat × Nat)), p = .int .i64 (m : Int) ∧ Hid (pre ++ chars s b m = chars s b 0) ∧ pre.length ≤ m ∧ m ≤ s.size + 4 ∧ Hid (J pre wr) ∧ Hid (KpU n₀ Bs Bb W wr))
    (fun p _ => s.size - (intOf p).toNat)
  case atStart => exact ⟨0, [], rfl, rfl, Nat.zero_le _, Nat.zero_le _, H0.out, KpU.refl _ _ _ _⟩
  case round =>
    obtain ⟨m, pre, rfl, HE, hpm, hm4, HJs, HB⟩ := hrel
    have c1 : wr.cell? ⟨Bs, 0, none⟩ = some (.string s) := (cell_same HB.out.2.1).trans hBs
    have c2 : wr.cell? ⟨Bb, 0, none⟩ = some (.bool b) := (cell_same HB.out.2.2).trans hBb
    rcases Nat.lt_or_ge m s.size with hlt | hge
    · have hI : (m : Int) < (s.size : Int) := by omega
      have hUr : U8Ok wr := HU.out.keep HB.out.1 hU1 hU2
      have HN := Lib.hid (UNext_any s m b wr hlt hs hUr)
      have hw := nxt_width b hlt
      have HE1 : Hid ((pre ++ [(m, (nxt s m b).1)]) ++ chars s b (m + (nxt s m b).2) = chars s b 0) := by
        show _ = _
        rw [← HE.out, chars_step hlt]
        simp
      obtain ⟨⟨c, k⟩, hnx⟩ : ∃ x, x = nxt s m b := ⟨_, rfl⟩
      rw [← hnx] at HN hw HE1
      clear hnx hUr
      dsimp only at HN hw HE1
      gi_wp2_with fail
      refine ⟨trivial, ?_⟩
      refine (callsIn_wide.2 HN.out).mono ?_
      rintro e w1 ⟨rfl, hb1⟩
      have hzz := HB.out.1.size
      have HB1 : Hid (KpU n₀ Bs Bb W w1) := HB.out.trans (KpU.below hb1 (by omega) (by omega) (by omega))
      have HJ1 : Hid (J pre w1) := HJ.out _ _ _ none HJs.out ⟨hb1.os, hb1.tape, hb1.output, hb1.size, fun k hk _ => hb1.block k hk⟩ (fun r e => by cases e)
      obtain ⟨fn, tmps, assign, body, hy, hR⟩ := HY.out pre (m, c) w1 HJ1.out (by omega)
      dsimp only at hy
      clear hb1 c1 c2 HJs HB
      gi_wp2_with fail
      refine hR.mono ?_
      rintro e W3 (⟨rfl, hJ3, hk3⟩ | ⟨rfl, hJx3⟩)
      · have HJ3 := Lib.hid hJ3
        have HB3 : Hid (KpU n₀ Bs Bb W W3) := HB1.out.trans hk3
        clear hJ3 hk3 hR hy
        gi_wp2_with fail
        go_roundw
        case rel => exact ⟨m + k, pre ++ [(m, c)], by simp, HE1, by simp; omega, by omega, HJ3, HB3⟩
        case measure => simp only [intOf]; omega
      · have HJx3 := Lib.hid hJx3
        clear hJx3 hR hy
        gi_wp2_with fail
        refine bodyPost_ret (results_none rfl _ _ _) rfl ?_
        exact ⟨⟨_, rfl⟩, .inr ⟨_, ⟨_, HE1.out⟩, HJx3.out⟩⟩
    · have hI : (s.size : Int) ≤ (m : Int) := by omega
      have HE1 : Hid (pre = chars s b 0) := by
        have := HE.out
        rw [chars_end hge, List.append_nil] at this
        exact this
      gi_wp2_with fail
      go_end0
      exact ⟨⟨_, rfl⟩, .inl ⟨_, HE1.out, HJs.out⟩⟩

theorem all_stops (n Bs Bb n₀ : Nat) (s : ByteArray) (b : Bool) (hn : 1 ≤ n) (hs : s.size ≤ 140737488351232) (w : World) (hB1 : Bs < w.heap.size) (hB2 : Bb < w.heap.size) (hU1 : 4 < n₀) (hU2 : 5 < n₀) (hn₀ : n₀ ≤ w.heap.size)
    (hBs : w.cell? ⟨Bs, 0, none⟩ = some (.string s)) (hBb : w.cell? ⟨Bb, 0, none⟩ = some (.bool b)) (hU : U8Ok w) :
    SeqStopsK Fence.wide n Tryz.prog 241 #[.pointer (some ⟨Bs, 0, none⟩), .pointer (some ⟨Bb, 0, none⟩)] (fun x : Nat × Nat => #[Value.int .i64 (x.1 : Int), Value.int .i64 (x.2 : Int)]) (KpU n₀ Bs Bb) (fun ys => ys = chars s b 0)
      (fun pre => pre <+: chars s b 0) s.size w := fun l J Jx W hW hJ _ hY h0 =>
  all1_any n l Bs Bb n₀ s b hn hs hU1 hU2 J Jx W (Nat.le_trans hn₀ hW.size) (Nat.lt_of_lt_of_le hB1 hW.size) (Nat.lt_of_lt_of_le hB2 hW.size) hJ hY ((hW.cell (p := ⟨Bs, 0, none⟩) hB1).trans hBs) ((hW.cell (p := ⟨Bb, 0, none⟩) hB2).trans hBb) (hU.below hW) h0
end Go.Proofs.YtfdnhkjeoeffoaaGreatDoor
end

section
/- A region that draws its order, by an invariant over what has come up: each operation is walked once. -/
namespace Go.Proofs.YtfdnhkjeoeffoaaGreatDoor
open Go.RowKit

/-- i has come up too. -/
def upd (L : Nat → Bool) (i : Nat) : Nat → Bool := fun j => if j = i then true else L j
theorem upd_self (L : Nat → Bool) (i : Nat) : upd L i i = true := by simp [upd]
theorem upd_other (L : Nat → Bool) {i j : Nat} (h : j ≠ i) : upd L i j = L j := by simp [upd, h]

/-- Each operation waits for earlier ones alone, but for the edges that don't bind. -/
def orderedOps (ops : Array Oper) : Bool := (List.range ops.size).all fun i => ((ops[i]?).map fun o => o.after.all fun e => decide (e.on < i) || !(Region.binds .any e)).getD false

theorem all_listed {ops : Array Oper} {listed : Array Bool} (hord : orderedOps ops = true) (hs : listed.size = ops.size) (hr : Region.ready .any ops listed = []) :
    ∀ i, i < ops.size → listed.getD i false = true := by
  intro i
  induction i using Nat.strongRecOn with
  | ind i ih =>
    intro hi
    cases hl : listed.getD i false with
    | true => rfl
    | false =>
      exfalso
      have hm : i ∈ Region.ready .any ops listed := by
        rw [mem_ready]
        refine ⟨?_, ops[i], Array.getElem?_eq_getElem hi, ?_⟩
        · have hi' : i < listed.size := by omega
          simp [hi'] at hl ⊢
          exact hl
        · intro e he hbind
          have h1 := List.all_eq_true.1 hord i (List.mem_range.2 hi)
          rw [Array.getElem?_eq_getElem hi] at h1
          simp only [Option.map_some, Option.getD_some, Array.all_eq_true_iff_forall_mem] at h1
          have h2 := h1 e he
          rw [hbind, Bool.not_true, Bool.or_false] at h2
          replace h2 := of_decide_eq_true h2
          exact ih e.on h2 (by omega)
      rw [hr] at hm
      cases hm

theorem count_set : ∀ (l : List Bool) (i : Nat), l[i]? = some false → (l.set i true).count false + 1 = l.count false
  | [], i, h => by simp at h
  | b :: l, 0, h => by simp at h; subst h; simp
  | b :: l, i + 1, h => by
    have := count_set l i (by simpa using h)
    cases b <;> simp <;> omega

theorem wpAny_inv {P : Program} {ops : Array Oper} {Q : Exit → Act → World → Prop} (I : (Nat → Bool) → Act → World → Prop) (hord : orderedOps ops = true)
    (hstep : ∀ (L : Nat → Bool) (a : Act) (w : World) (i : Nat) (o : Oper), ops[i]? = some o → I L a w → L i = false → (∀ e ∈ o.after, Region.binds .any e = true → L e.on = true) → wpOp P ops Q i (I (upd L i)) a w)
    (hdone : ∀ (L : Nat → Bool) (a : Act) (w : World), (∀ i, i < ops.size → L i = true) → I L a w → Q .normal a w) :
    ∀ (fuel : Nat) (listed : Array Bool) (a : Act) (w : World), listed.size = ops.size → listed.toList.count false = fuel → I (fun j => listed.getD j false) a w → wpAny P .any ops Q fuel listed a w := by
  intro fuel
  induction fuel with
  | zero =>
    intro listed a w hs hc hI
    have hall : ∀ i, i < ops.size → listed.getD i false = true := by
      intro i hi
      have hi' : i < listed.size := by omega
      cases hl : listed.getD i false with
      | true => rfl
      | false =>
        exfalso
        have h0 : false ∉ listed.toList := List.count_eq_zero.1 hc
        apply h0
        simp [hi'] at hl
        rw [← hl]
        simp
    refine ⟨?_, hdone _ _ _ hall hI⟩
    cases hr : Region.ready .any ops listed with
    | nil => rfl
    | cons i rs =>
      exfalso
      have hm : i ∈ Region.ready .any ops listed := by rw [hr]; exact List.mem_cons_self
      obtain ⟨h1, o, ho, _⟩ := mem_ready.1 hm
      have hi : i < ops.size := (Array.getElem?_eq_some_iff.1 ho).1
      have hi' : i < listed.size := by omega
      have h2 := hall i hi
      simp [hi'] at h1 h2
      rw [h1] at h2
      cases h2
  | succ fuel ih =>
    intro listed a w hs hc hI
    refine ⟨fun hr => hdone _ _ _ (all_listed hord hs hr) hI, fun i hi => ?_⟩
    obtain ⟨h1, o, ho, hall⟩ := mem_ready.1 hi
    have hi0 : i < ops.size := (Array.getElem?_eq_some_iff.1 ho).1
    have hi' : i < listed.size := by omega
    have hlf : listed.getD i false = false := by simp [hi'] at h1 ⊢; exact h1
    refine wpOp_mono (fun a' w' hK => ih (listed.setIfInBounds i true) a' w' (by simp [hs]) ?_ ?_) (hstep _ a w i o ho hI hlf hall)
    · have h3 : listed.toList[i]? = some false := by
        simp [hi'] at h1 ⊢
        exact h1
      have := count_set listed.toList i h3
      rw [Array.toList_setIfInBounds]
      omega
    · have e : (fun j => (listed.setIfInBounds i true).getD j false) = upd (fun j => listed.getD j false) i := by
        funext j
        by_cases hj : j = i
        · subst hj
          rw [upd_self]
          simp [hi']
        · rw [upd_other _ hj]
          simp [Array.getElem?_setIfInBounds_ne (Ne.symm hj)]
      rw [e]
      exact hK

/-- A region that draws its order, by an invariant. -/
theorem wp_region_inv {P : Program} {ops : Array Oper} {Q : Exit → Act → World → Prop} {id : Nat} {a : Act} {w : World} (hm : P.follows .mixedOrders = true) (hord : orderedOps ops = true)
    (I : (Nat → Bool) → Act → World → Prop) (h0 : I (fun _ => false) a w.drew)
    (hstep : ∀ (L : Nat → Bool) (a : Act) (w : World) (i : Nat) (o : Oper), ops[i]? = some o → I L a w → L i = false → (∀ e ∈ o.after, Region.binds .any e = true → L e.on = true) → wpOp P ops Q i (I (upd L i)) a w)
    (hdone : ∀ (L : Nat → Bool) (a : Act) (w : World), (∀ i, i < ops.size → L i = true) → I L a w → Q .normal a w) : (Code.region id ops true).wp P Q a w := by
  refine wp_region_any hm (wpAny_inv I hord hstep hdone ops.size _ _ _ (by simp) (by simp) ?_)
  have e : (fun j => (Array.replicate ops.size false).getD j false) = fun _ => false := by
    funext j
    by_cases hj : j < ops.size
    · simp [hj]
    · simp [hj]
  rw [e]
  exact h0

/-- each operation of a list, with its number -/
def AllOps (p : Nat → Oper → Prop) : List Oper → Nat → Prop
  | [], _ => True
  | o :: r, i => p i o ∧ AllOps p r (i + 1)
theorem AllOps.get {p : Nat → Oper → Prop} : ∀ (l : List Oper) (k i : Nat) (o : Oper), AllOps p l k → l[i]? = some o → p (k + i) o
  | [], _, i, o, _, h => by simp at h
  | x :: l, k, 0, o, hp, h => by
    simp at h
    subst h
    exact hp.1
  | x :: l, k, i + 1, o, hp, h => by
    have := AllOps.get l (k + 1) i o hp.2 (by simpa using h)
    rw [show k + (i + 1) = k + 1 + i by omega]
    exact this
/-- the operations that one waits for -/
def depsOf (o : Oper) : List Nat := (o.after.toList.filter fun e => Region.binds .any e).map (·.on)
theorem wp_region_steps {P : Program} {ops : Array Oper} {Q : Exit → Act → World → Prop} {id : Nat} {a : Act} {w : World} (hm : P.follows .mixedOrders = true) (hord : orderedOps ops = true) (hng : (ops.toList.all fun o => o.guard.isNone) = true)
    (I : Act → World → (Nat → Bool) → Act → World → Prop) (h0 : I a w (fun _ => false) a w.drew)
    (hstep : AllOps (fun i o => ∀ (L : Nat → Bool) (a' : Act) (W : World), I a w L a' W → L i = false → (∀ j ∈ depsOf o, L j = true) → ∀ K : Act → World → Prop, (∀ a'' W', I a w (upd L i) a'' W' → K a'' W') → Oper.wp P o a' W K Q) ops.toList 0)
    (hdone : ∀ (L : Nat → Bool) (a' : Act) (W : World), (∀ i, i < ops.size → L i = true) → I a w L a' W → Q .normal a' W) : (Code.region id ops true).wp P Q a w := by
  refine wp_region_inv hm hord (I a w) h0 ?_ hdone
  intro L a' W i o ho hI hL hd
  refine wpOp_step ho (fun K hK => ?_)
  have ho' : ops.toList[i]? = some o := by simpa using ho
  have hg := List.all_eq_true.1 hng o (List.mem_of_getElem? ho')
  have hw : Region.wanted o (yielded ops a'.tmps) = true := by
    unfold Region.wanted
    cases h : o.guard with
    | none => rfl
    | some g => rw [h] at hg; cases hg
  rw [if_pos hw]
  have h := AllOps.get _ 0 i o hstep ho'
  rw [Nat.zero_add] at h
  refine h L a' W hI hL ?_ K hK
  intro j hj
  obtain ⟨e, he, rfl⟩ := List.mem_map.1 hj
  obtain ⟨he1, he2⟩ := List.mem_filter.1 he
  exact hd e (by simpa using he1) he2

/-- a block that the region makes: m: it is made, st: it is written -/
def Blk (n1 : Nat) (W : World) (T : TypeId) (m st : Bool) (u : Value) (B : Nat) (z v : Array Value) : Prop :=
  m = true → u = .pointer (some ⟨B, 0, none⟩) ∧ n1 ≤ B ∧ W.heap[B]? = some (.cells (if st = true then v else z) T (0, 0))
theorem Blk.lt {n1 : Nat} {W : World} {T : TypeId} {st : Bool} {u : Value} {B : Nat} {z v : Array Value} (h : Blk n1 W T true st u B z v) : B < W.heap.size := (Array.getElem?_eq_some_iff.1 (h rfl).2.2).1
theorem Blk.keep {n1 : Nat} {W W' : World} {T : TypeId} {m st : Bool} {u : Value} {B : Nat} {z v : Array Value} (h : Blk n1 W T m st u B z v) (hb : m = true → B < W.heap.size → W'.heap[B]? = W.heap[B]?) : Blk n1 W' T m st u B z v := by
  intro hm
  subst hm
  exact ⟨(h rfl).1, (h rfl).2.1, (hb rfl h.lt).trans (h rfl).2.2⟩
theorem Blk.raw {n1 : Nat} {W : World} {T : TypeId} {u : Value} {B : Nat} {z v : Array Value} (h : Blk n1 W T true false u B z v) : u = .pointer (some ⟨B, 0, none⟩) ∧ n1 ≤ B ∧ W.heap[B]? = some (.cells z T (0, 0)) := h rfl
theorem Blk.full {n1 : Nat} {W : World} {T : TypeId} {u : Value} {B : Nat} {z v : Array Value} (h : Blk n1 W T true true u B z v) : u = .pointer (some ⟨B, 0, none⟩) ∧ n1 ≤ B ∧ W.heap[B]? = some (.cells v T (0, 0)) := h rfl
/-- three blocks that a region makes and writes in whatever order -/
structure Inv3 (W0 W : World) (T : TypeId) (m1 m2 m3 t1 t2 t3 : Bool) (u1 u2 u3 : Value) (z v1 v2 v3 : Array Value) (B1 B2 B3 : Nat) : Prop where
  below : Below W0.heap.size W0 W
  b1 : Blk W0.heap.size W T m1 t1 u1 B1 z v1
  b2 : Blk W0.heap.size W T m2 t2 u2 B2 z v2
  b3 : Blk W0.heap.size W T m3 t3 u3 B3 z v3
  d12 : m1 = true → m2 = true → B1 ≠ B2
  d13 : m1 = true → m3 = true → B1 ≠ B3
  d23 : m2 = true → m3 = true → B2 ≠ B3
  s1 : t1 = true → m1 = true
  s2 : t2 = true → m2 = true
  s3 : t3 = true → m3 = true
section
variable {W0 W W' : World} {T : TypeId} {m1 m2 m3 t1 t2 t3 : Bool} {u1 u2 u3 : Value} {z v1 v2 v3 : Array Value} {B1 B2 B3 : Nat}
theorem Inv3.start (W0 : World) (T : TypeId) (u1 u2 u3 : Value) (z v1 v2 v3 : Array Value) : Inv3 W0 W0.drew T false false false false false false u1 u2 u3 z v1 v2 v3 0 0 0 :=
  ⟨(Below.refl _ _).drew, fun h => (by cases h), fun h => (by cases h), fun h => (by cases h), fun h => (by cases h), fun h => (by cases h), fun h => (by cases h), fun h => (by cases h), fun h => (by cases h), fun h => (by cases h)⟩
theorem Inv3.keep (h : Inv3 W0 W T m1 m2 m3 t1 t2 t3 u1 u2 u3 z v1 v2 v3 B1 B2 B3) (hb : Below W.heap.size W W') : Inv3 W0 W' T m1 m2 m3 t1 t2 t3 u1 u2 u3 z v1 v2 v3 B1 B2 B3 :=
  ⟨h.below.trans (hb.mono h.below.size), h.b1.keep (fun _ hl => hb.block _ hl), h.b2.keep (fun _ hl => hb.block _ hl), h.b3.keep (fun _ hl => hb.block _ hl), h.d12, h.d13, h.d23, h.s1, h.s2, h.s3⟩
theorem blk_new (h : Below W0.heap.size W0 W) (T : TypeId) (t : Bool) (z v : Array Value) (ht : t = false) : Blk W0.heap.size (W.alloc (.cells z T)) T true t (.pointer (some ⟨W.heap.size, 0, none⟩)) W.heap.size z v := by
  subst ht
  exact fun _ => ⟨rfl, h.size, heap_alloc_at W _⟩
theorem Inv3.alloc1 (h : Inv3 W0 W T false m2 m3 t1 t2 t3 u1 u2 u3 z v1 v2 v3 B1 B2 B3) : Inv3 W0 (W.alloc (.cells z T)) T true m2 m3 t1 t2 t3 (.pointer (some ⟨W.heap.size, 0, none⟩)) u2 u3 z v1 v2 v3 W.heap.size B2 B3 := by
  have hk := h.keep ((Below.refl W.heap.size W).alloc (Nat.le_refl _) (.cells z T))
  exact ⟨hk.below, blk_new h.below T t1 z v1 (by cases t1 with | false => rfl | true => exact absurd (h.s1 rfl) (by decide)), hk.b2, hk.b3, fun _ e => by subst e; have := h.b2.lt; omega, fun _ e => by subst e; have := h.b3.lt; omega, h.d23, fun _ => rfl, h.s2, h.s3⟩
theorem Inv3.alloc2 (h : Inv3 W0 W T m1 false m3 t1 t2 t3 u1 u2 u3 z v1 v2 v3 B1 B2 B3) : Inv3 W0 (W.alloc (.cells z T)) T m1 true m3 t1 t2 t3 u1 (.pointer (some ⟨W.heap.size, 0, none⟩)) u3 z v1 v2 v3 B1 W.heap.size B3 := by
  have hk := h.keep ((Below.refl W.heap.size W).alloc (Nat.le_refl _) (.cells z T))
  exact ⟨hk.below, hk.b1, blk_new h.below T t2 z v2 (by cases t2 with | false => rfl | true => exact absurd (h.s2 rfl) (by decide)), hk.b3, fun e _ => by subst e; have := h.b1.lt; omega, h.d13, fun _ e => by subst e; have := h.b3.lt; omega, h.s1, fun _ => rfl, h.s3⟩
theorem Inv3.alloc3 (h : Inv3 W0 W T m1 m2 false t1 t2 t3 u1 u2 u3 z v1 v2 v3 B1 B2 B3) : Inv3 W0 (W.alloc (.cells z T)) T m1 m2 true t1 t2 t3 u1 u2 (.pointer (some ⟨W.heap.size, 0, none⟩)) z v1 v2 v3 B1 B2 W.heap.size := by
  have hk := h.keep ((Below.refl W.heap.size W).alloc (Nat.le_refl _) (.cells z T))
  exact ⟨hk.below, hk.b1, hk.b2, blk_new h.below T t3 z v3 (by cases t3 with | false => rfl | true => exact absurd (h.s3 rfl) (by decide)), h.d12, fun e _ => by subst e; have := h.b1.lt; omega, fun e _ => by subst e; have := h.b2.lt; omega, h.s1, h.s2, fun _ => rfl⟩
/-- a world whose one block is turned -/
structure OneTurned (W W' : World) (B : Nat) (o : Obj) : Prop where
  os : W'.os = W.os
  tape : W'.tape = W.tape
  output : W'.output = W.output
  size : W'.heap.size = W.heap.size
  at_ : W'.heap[B]? = some o
  other : ∀ k, k ≠ B → W'.heap[k]? = W.heap[k]?
theorem OneTurned.below {B n : Nat} {o : Obj} (h : OneTurned W W' B o) (hn : n ≤ B) : Below n W W' := ⟨h.os, h.tape, h.output, Nat.le_of_eq h.size.symm, fun k hk => h.other k (by omega)⟩
theorem Inv3.store1 (h : Inv3 W0 W T true true true t1 t2 t3 u1 u2 u3 z v1 v2 v3 B1 B2 B3) (ht : OneTurned W W' B1 (.cells v1 T (0, 0))) : Inv3 W0 W' T true true true true t2 t3 u1 u2 u3 z v1 v2 v3 B1 B2 B3 :=
  ⟨h.below.trans (ht.below (h.b1 rfl).2.1), fun _ => ⟨(h.b1 rfl).1, (h.b1 rfl).2.1, ht.at_⟩, h.b2.keep (fun _ _ => ht.other _ (h.d12 rfl rfl).symm), h.b3.keep (fun _ _ => ht.other _ (h.d13 rfl rfl).symm), h.d12, h.d13, h.d23, fun _ => rfl, h.s2, h.s3⟩
theorem Inv3.store2 (h : Inv3 W0 W T true true true t1 t2 t3 u1 u2 u3 z v1 v2 v3 B1 B2 B3) (ht : OneTurned W W' B2 (.cells v2 T (0, 0))) : Inv3 W0 W' T true true true t1 true t3 u1 u2 u3 z v1 v2 v3 B1 B2 B3 :=
  ⟨h.below.trans (ht.below (h.b2 rfl).2.1), h.b1.keep (fun _ _ => ht.other _ (h.d12 rfl rfl)), fun _ => ⟨(h.b2 rfl).1, (h.b2 rfl).2.1, ht.at_⟩, h.b3.keep (fun _ _ => ht.other _ (h.d23 rfl rfl).symm), h.d12, h.d13, h.d23, h.s1, fun _ => rfl, h.s3⟩
theorem Inv3.store3 (h : Inv3 W0 W T true true true t1 t2 t3 u1 u2 u3 z v1 v2 v3 B1 B2 B3) (ht : OneTurned W W' B3 (.cells v3 T (0, 0))) : Inv3 W0 W' T true true true t1 t2 true u1 u2 u3 z v1 v2 v3 B1 B2 B3 :=
  ⟨h.below.trans (ht.below (h.b3 rfl).2.1), h.b1.keep (fun _ _ => ht.other _ (h.d13 rfl rfl)), h.b2.keep (fun _ _ => ht.other _ (h.d23 rfl rfl)), fun _ => ⟨(h.b3 rfl).1, (h.b3 rfl).2.1, ht.at_⟩, h.d12, h.d13, h.d23, h.s1, h.s2, fun _ => rfl⟩
theorem turned_set {W : World} {B : Nat} {A : Array Value} {T : TypeId} (h : W.heap[B]? = some (.cells A T (0, 0))) (i : Nat) (v : Value) : OneTurned W (W.setCell ⟨B, i, none⟩ v) B (.cells (A.setIfInBounds i v) T (0, 0)) :=
  ⟨rfl, rfl, rfl, by simp [World.setCell], setCell_heap_same h i v, fun k hk => Below.heap_setCell _ _ _ _ hk⟩
theorem turned_one {W : World} {B : Nat} {z : Value} {T : TypeId} (h : W.heap[B]? = some (.cells #[z] T (0, 0))) (v : Value) : OneTurned W (W.setCell ⟨B, 0, none⟩ v) B (.cells #[v] T (0, 0)) := turned_set h 0 v
theorem OneTurned.set {W W' : World} {B : Nat} {A : Array Value} {T : TypeId} (h : OneTurned W W' B (.cells A T (0, 0))) (i : Nat) (v : Value) : OneTurned W (W'.setCell ⟨B, i, none⟩ v) B (.cells (A.setIfInBounds i v) T (0, 0)) := by
  have k := turned_set h.at_ i v
  exact ⟨k.os.trans h.os, k.tape.trans h.tape, k.output.trans h.output, k.size.trans h.size, k.at_, fun j hj => (k.other j hj).trans (h.other j hj)⟩
end
theorem cellNext {w w' : World} (hb : Below w.heap.size w w') {p : Addr} {v : Value} (h : w.cell? p = some v) : w'.cell? p = some v := by
  refine (hb.cell ?_).trans h
  rcases Nat.lt_or_ge p.block w.heap.size with h' | h'
  · exact h'
  · exfalso
    unfold World.cell? at h
    rw [Array.getElem?_eq_none h'] at h
    cases h
end Go.Proofs.YtfdnhkjeoeffoaaGreatDoor
end

section
/- Package ustr: Len and Sub. -/
namespace Go.Proofs.YtfdnhkjeoeffoaaGreatDoor
open Go.RowKit Go.Shelf
set_option linter.unusedVariables false
attribute [local go_sem] Oper.semAt_some

set_option maxHeartbeats 4000000 in
set_option maxRecDepth 100000 in
theorem ULen_any (s : ByteArray) (b : Bool) (w : World) (hs : s.size ≤ 140737488351232) (hU : U8Ok w) :
    Calls Tryz.prog 125 #[.string s, .bool b] w fun e w' => e = .returned (.int .i64 ((chars s b 0).length : Nat)) ∧ Below w.heap.size w w' := by
  have HU := Lib.hid hU
  have hL : Hid ((chars s b 0).length ≤ s.size) := chars_len s b s.size 0 (by omega)
  have hu1 := hU.lt1
  have hu2 := hU.lt2
  clear hU
  refine (callsIn_wide (n := 9)).1 ?_
  refine callsIn_of_wp_marks Tryz.func125 rfl trivial ?_ rfl
  simp only [Tryz.ntmps125, List.size_toArray, List.length_cons, List.length_nil, Nat.reduceAdd, Nat.reduceSub, Array.replicate_succ, Array.replicate_zero, List.push_toArray, List.append_toArray, List.nil_append, List.cons_append]
  refine wpIn_wide.2 ?_
  go_wp2_with fail
  refine (UAll_any s b _).mono ?_
  rintro e w1 ⟨rfl, hw1⟩
  have b0 := Boxed.new w 3 (.int .i64 0)
  have e1 : w1.heap.size = w.heap.size + 3 := by rw [hw1]; simp
  have hb1 : Below w.heap.size w w1 := by rw [hw1]; exact (((Below.refl _ w).alloc (Nat.le_refl _) _).alloc (by simp) _).alloc (by simp; omega) _
  have c1 : w1.cell? ⟨w.heap.size + 1, 0, none⟩ = some (.string s) := by rw [hw1]; simp [go_sem]
  have c2 : w1.cell? ⟨w.heap.size + 2, 0, none⟩ = some (.bool b) := by rw [hw1]; simp [go_sem]
  have k0 : w1.cell? ⟨w.heap.size, 0, none⟩ = some (.int .i64 0) := by rw [hw1]; simp [go_sem]
  have f0 : w1.frozen? ⟨w.heap.size, 0, none⟩ = false := by rw [hw1]; simp [go_sem]
  have hU1 : U8Ok w1 := HU.out.below hb1
  clear hw1 b0
  rw [World.size_alloc]
  go_wp2_with fail
  refine (wpIn_wide (n := 9)).1 ?_
  refine wpIn_rangeFunc_ownF (α := Nat × Nat) (encs := fun x => #[Value.int .i64 (x.1 : Int), Value.int .i64 (x.2 : Int)]) rfl (by decide) (gf := 241) (lb := #[.pointer (some ⟨w.heap.size + 1, 0, none⟩), .pointer (some ⟨w.heap.size + 1 + 1, 0, none⟩)]) rfl trivial (enters_of Tryz.func241 (by kernel_rfl) rfl)
    (all_stops 8 (w.heap.size + 1) (w.heap.size + 1 + 1) w.heap.size s b (by decide) hs w1 (by omega) (by omega) (by omega) (by omega) (by omega) c1 c2 hU1)
    (fun h k => KpU.trans h k) (fun W l o o' => KpU.put (by omega) (by omega) (by omega) W l o o') (Below.refl _ _) (fun _ => rfl)
    (fun pre W => (W.cell? ⟨w.heap.size, 0, none⟩ = some (.int .i64 (pre.length : Nat)) ∧ W.frozen? ⟨w.heap.size, 0, none⟩ = false) ∧ Below w.heap.size w W)
    (fun _ _ _ => False)
    (OwnFrom.and (Own.from (fun s A B row hs hg hr => ⟨cell_kept hs.1 hg hr, (frozen_kept hs.1 hg hr).trans hs.2⟩) _) (ownFrom_below (Nat.le_refl _) (by omega)))
    (fun _ _ _ _ _ hs _ _ => hs)
    ⟨⟨k0, f0⟩, hb1⟩
    (fun x => { tmps := #[.string s, .bool b, undef, undef, .int .i64 0, .pointer (some ⟨w.heap.size, 0, none⟩), .string s, .bool b, .func (.func 241) #[] #[.pointer (some ⟨w.heap.size + 1, 0, none⟩), .pointer (some ⟨w.heap.size + 1 + 1, 0, none⟩)], .int .i64 (x.1 : Int), .int .i64 (x.2 : Int), undef, undef, undef], defers := [] }) ?assign ?body ?done (fun _ _ _ _ _ _ h => h.elim)
  case assign =>
    intro l x W K hK
    gi_wp2
    simpa using hK
  case body =>
    rintro l pre x W ⟨⟨hc, hf⟩, hB⟩ hlt
    have hlt' : (pre.length : Int) ≤ 140737488351232 := by omega
    have HB := Lib.hid hB
    clear hB k0 f0 c1 c2
    gi_wp2
    refine ⟨(KeepsOthers.setCell _ _ _), KpU.set (KpU.refl _ _ _ _) (p := ⟨w.heap.size, 0, none⟩) (Nat.le_refl _) (by simp) (by simp only []; omega) _, ⟨?_, by rw [World.frozen?_setCell]; exact hf⟩, HB.out.setCell (p := ⟨w.heap.size, 0, none⟩) (Nat.le_refl _) _⟩
    rw [World.cell?_setCell_same' _ _ _ (by rw [hc]; rfl)]
    simp
  case done =>
    rintro D ys W hD rfl ⟨⟨hc, hf⟩, hB⟩ hK
    have HB := Lib.hid hB
    clear hB k0 f0 c1 c2
    go_wp2_with fail
    refine ⟨by simp, .inl ⟨_, _, rfl, run_takeDeferred hK, ?_⟩⟩
    exact ⟨_, results_tmp rfl _ _ _, rfl, HB.out.trans (belowK_b (w := w1) (by omega) W D _ _ hD hK rfl rfl)⟩

/-- where a character of a number begins -/
def placeC (s : ByteArray) (b : Bool) (q : Nat) : Nat := match (chars s b 0)[q]? with
  | some x => x.1
  | none => s.size
/-- the place at which Sub begins -/
def loF (n : Nat) : List (Nat × Nat) → Nat := List.foldl (fun lo x => if lo = n then x.1 else lo) n
theorem loF_snoc (n : Nat) (pre : List (Nat × Nat)) (x : Nat × Nat) : loF n (pre ++ [x]) = if loF n pre = n then x.1 else loF n pre := by
  unfold loF
  rw [List.foldl_append]
  rfl
theorem loF_cons (n a c : Nat) (l : List (Nat × Nat)) (h : a ≠ n) : loF n ((a, c) :: l) = a := by
  have : ∀ l : List (Nat × Nat), List.foldl (fun lo (x : Nat × Nat) => if lo = n then x.1 else lo) a l = a := by
    intro l
    induction l with
    | nil => rfl
    | cons x l ih => simp only [List.foldl_cons, if_neg h]; exact ih
  show List.foldl _ (if n = n then a else n) l = a
  rw [if_pos rfl]
  exact this l
theorem chars_at (s : ByteArray) (b : Bool) : ∀ (n m : Nat), s.size - m ≤ n → ∀ x ∈ chars s b m, m ≤ x.1 ∧ x.1 < s.size := by
  intro n
  induction n with
  | zero => intro m h x hx; rw [chars_end (by omega)] at hx; cases hx
  | succ n ih =>
    intro m h x hx
    rcases Nat.lt_or_ge m s.size with h' | h'
    · have hw := nxt_width b h'
      rw [chars_step h'] at hx
      rcases List.mem_cons.1 hx with rfl | hx
      · exact ⟨Nat.le_refl _, h'⟩
      · have := ih (m + (nxt s m b).2) (by omega) x hx
        omega
    · rw [chars_end h'] at hx; cases hx

/-- the cells that Sub reads and writes -/
structure SubC (p0 p1 p2 B1 B2 B3 : Nat) (s : ByteArray) (q lo hi k : Nat) (W : World) : Prop where
  c0 : W.cell? ⟨p0, 0, none⟩ = some (.string s)
  c1 : W.cell? ⟨p1, 0, none⟩ = some (.int .i64 1)
  c2 : W.cell? ⟨p2, 0, none⟩ = some (.int .i64 ((q : Int) + 1))
  d1 : W.cell? ⟨B1, 0, none⟩ = some (.int .i64 (lo : Nat))
  d2 : W.cell? ⟨B2, 0, none⟩ = some (.int .i64 (hi : Nat))
  d3 : W.cell? ⟨B3, 0, none⟩ = some (.int .i64 (k : Nat))
  f1 : W.frozen? ⟨B1, 0, none⟩ = false
  f2 : W.frozen? ⟨B2, 0, none⟩ = false
  f3 : W.frozen? ⟨B3, 0, none⟩ = false
section
variable {p0 p1 p2 B1 B2 B3 : Nat} {s : ByteArray} {q lo hi k : Nat} {W : World}
theorem cell_far {W : World} {B C : Nat} {u v : Value} (h : W.cell? ⟨B, 0, none⟩ = some v) (hne : B ≠ C) : (W.setCell ⟨C, 0, none⟩ u).cell? ⟨B, 0, none⟩ = some v := (World.cell?_setCell_far _ ⟨C, 0, none⟩ ⟨B, 0, none⟩ _ (by first | exact hne | exact hne.symm)).trans h
theorem cell_near {W : World} {B : Nat} {u v : Value} (h : W.cell? ⟨B, 0, none⟩ = some v) : (W.setCell ⟨B, 0, none⟩ u).cell? ⟨B, 0, none⟩ = some u := World.cell?_setCell_same' _ _ _ (by rw [h]; rfl)
theorem SubC.set1 (h : SubC p0 p1 p2 B1 B2 B3 s q lo hi k W) (a0 : p0 ≠ B1) (a1 : p1 ≠ B1) (a2 : p2 ≠ B1) (a3 : B2 ≠ B1) (a4 : B3 ≠ B1) (v : Nat) : SubC p0 p1 p2 B1 B2 B3 s q v hi k (W.setCell ⟨B1, 0, none⟩ (.int .i64 (v : Nat))) :=
  ⟨cell_far h.c0 a0, cell_far h.c1 a1, cell_far h.c2 a2, cell_near h.d1, cell_far h.d2 a3, cell_far h.d3 a4, by rw [World.frozen?_setCell]; exact h.f1, by rw [World.frozen?_setCell]; exact h.f2, by rw [World.frozen?_setCell]; exact h.f3⟩
theorem SubC.set2 (h : SubC p0 p1 p2 B1 B2 B3 s q lo hi k W) (a0 : p0 ≠ B2) (a1 : p1 ≠ B2) (a2 : p2 ≠ B2) (a3 : B1 ≠ B2) (a4 : B3 ≠ B2) (v : Nat) : SubC p0 p1 p2 B1 B2 B3 s q lo v k (W.setCell ⟨B2, 0, none⟩ (.int .i64 (v : Nat))) :=
  ⟨cell_far h.c0 a0, cell_far h.c1 a1, cell_far h.c2 a2, cell_far h.d1 a3, cell_near h.d2, cell_far h.d3 a4, by rw [World.frozen?_setCell]; exact h.f1, by rw [World.frozen?_setCell]; exact h.f2, by rw [World.frozen?_setCell]; exact h.f3⟩
theorem SubC.set3 (h : SubC p0 p1 p2 B1 B2 B3 s q lo hi k W) (a0 : p0 ≠ B3) (a1 : p1 ≠ B3) (a2 : p2 ≠ B3) (a3 : B1 ≠ B3) (a4 : B2 ≠ B3) (v : Nat) (x : Int) (hx : x = (v : Int)) : SubC p0 p1 p2 B1 B2 B3 s q lo hi v (W.setCell ⟨B3, 0, none⟩ (.int .i64 x)) := by
  subst hx
  exact ⟨cell_far h.c0 a0, cell_far h.c1 a1, cell_far h.c2 a2, cell_far h.d1 a3, cell_far h.d2 a4, cell_near h.d3, by rw [World.frozen?_setCell]; exact h.f1, by rw [World.frozen?_setCell]; exact h.f2, by rw [World.frozen?_setCell]; exact h.f3⟩
theorem SubC.own {α : Type} (lo hi k : α → Nat) : Own (fun (x : α) W => SubC p0 p1 p2 B1 B2 B3 s q (lo x) (hi x) (k x) W) := fun x A B row hs hg hr =>
  ⟨cell_kept hs.c0 hg hr, cell_kept hs.c1 hg hr, cell_kept hs.c2 hg hr, cell_kept hs.d1 hg hr, cell_kept hs.d2 hg hr, cell_kept hs.d3 hg hr, (frozen_kept hs.d1 hg hr).trans hs.f1, (frozen_kept hs.d2 hg hr).trans hs.f2, (frozen_kept hs.d3 hg hr).trans hs.f3⟩
end
theorem chars_lo (s : ByteArray) (b : Bool) {pre : List (Nat × Nat)} (hp : pre <+: chars s b 0) (h : pre ≠ [] ∨ chars s b 0 = []) : loF s.size pre = 0 ∨ (pre = [] ∧ s.size = 0) := by
  cases pre with
  | nil =>
    refine .inr ⟨rfl, ?_⟩
    rcases h with h | h
    · exact absurd rfl h
    · rcases Nat.eq_zero_or_pos s.size with h' | h'
      · exact h'
      · rw [chars_step h'] at h; cases h
  | cons x l =>
    obtain ⟨r, hr⟩ := hp
    have hs : 0 < s.size := by
      rcases Nat.eq_zero_or_pos s.size with h' | h'
      · rw [chars_end (by omega)] at hr; cases hr
      · exact h'
    rw [chars_step hs] at hr
    obtain ⟨x1, x2⟩ := x
    have e : x1 = 0 := by
      have := (List.cons.inj hr).1
      exact congrArg Prod.fst this
    subst e
    exact .inl (loF_cons _ _ _ _ (by omega))
theorem loF_zero (s : ByteArray) (b : Bool) {pre : List (Nat × Nat)} (hp : pre <+: chars s b 0) (h : pre ≠ [] ∨ chars s b 0 = []) : loF s.size pre = 0 := by
  rcases chars_lo s b hp h with h1 | ⟨rfl, h1⟩
  · exact h1
  · exact h1

set_option maxHeartbeats 4000000 in
set_option maxRecDepth 100000 in
theorem USub_any (s : ByteArray) (q : Nat) (b : Bool) (w : World) (hq : q ≤ 1000000) (hs : s.size ≤ 140737488351232) (hU : U8Ok w) :
    Calls Tryz.prog 124 #[.string s, .int .i64 1, .int .i64 ((q : Int) + 1), .bool b] w fun e w' => e = .returned (.string (s.extract 0 (placeC s b q))) ∧ Below w.heap.size w w' := by
  have HU := Lib.hid hU
  have hu1 := hU.lt1
  have hu2 := hU.lt2
  clear hU
  refine (callsIn_wide (n := 9)).1 ?_
  refine callsIn_of_wp_marks Tryz.func124 rfl trivial ?_ rfl
  simp only [Tryz.ntmps124, List.size_toArray, List.length_cons, List.length_nil, Nat.reduceAdd, Nat.reduceSub, Array.replicate_succ, Array.replicate_zero, List.push_toArray, List.append_toArray, List.nil_append, List.cons_append]
  refine wpIn_wide.2 ?_
  go_wp2_with fail
  have g0 : (((w.alloc (.cells #[.string s] 9)).alloc (.cells #[.int .i64 1] 3)).alloc (.cells #[.int .i64 ((q : Int) + 1)] 3)).cell? ⟨w.heap.size, 0, none⟩ = some (.string s) := by simp [go_sem]
  have g1 : (((w.alloc (.cells #[.string s] 9)).alloc (.cells #[.int .i64 1] 3)).alloc (.cells #[.int .i64 ((q : Int) + 1)] 3)).cell? ⟨w.heap.size + 1, 0, none⟩ = some (.int .i64 1) := by simp [go_sem]
  have g2 : (((w.alloc (.cells #[.string s] 9)).alloc (.cells #[.int .i64 1] 3)).alloc (.cells #[.int .i64 ((q : Int) + 1)] 3)).cell? ⟨w.heap.size + 2, 0, none⟩ = some (.int .i64 ((q : Int) + 1)) := by simp [go_sem]
  have hb0 : Below w.heap.size w (((w.alloc (.cells #[.string s] 9)).alloc (.cells #[.int .i64 1] 3)).alloc (.cells #[.int .i64 ((q : Int) + 1)] 3)) := (((Below.refl _ w).alloc (Nat.le_refl _) _).alloc (by simp) _).alloc (by simp; omega) _
  have hz0 : (((w.alloc (.cells #[.string s] 9)).alloc (.cells #[.int .i64 1] 3)).alloc (.cells #[.int .i64 ((q : Int) + 1)] 3)).heap.size = w.heap.size + 3 := by simp
  generalize hW0 : World.alloc _ _ = W0 at *
  have HB0 := Lib.hid hb0
  clear hW0 hb0
  refine wp_region_steps (by kernel_rfl) (by kernel_rfl) (by kernel_rfl) (fun a0 V0 L a W => ∃ (u9 u10 u11 u13 u14 u15 u16 : Value) (B1 B2 B3 : Nat), a = { tmps := (((((((a0.tmps.setIfInBounds 9 u9).setIfInBounds 10 u10).setIfInBounds 11 u11).setIfInBounds 13 u13).setIfInBounds 14 u14).setIfInBounds 15 u15).setIfInBounds 16 u16), defers := a0.defers } ∧
    Hid (Inv3 V0 W 3 (L 4) (L 5) (L 6) (L 7) (L 8) (L 9) u9 u10 u11 #[.int .i64 0] #[.int .i64 (s.size : Nat)] #[.int .i64 (s.size : Nat)] #[.int .i64 1] B1 B2 B3) ∧
    Hid (L 0 = true → u13 = .string s) ∧ Hid (L 1 = true → u14 = .int .i64 (s.size : Nat)) ∧ Hid (L 2 = true → u15 = .string s) ∧ Hid (L 3 = true → u16 = .int .i64 (s.size : Nat))) ?h0 ?hstep ?hdone
  case h0 =>
    refine ⟨undef, undef, undef, undef, undef, undef, undef, 0, 0, 0, ?_, Inv3.start _ _ _ _ _ _ _ _ _, fun h => (by cases h), fun h => (by cases h), fun h => (by cases h), fun h => (by cases h)⟩
    simp only [List.setIfInBounds_toArray, List.set_cons_zero, List.set_cons_succ]
  case hstep =>
    refine ⟨?o0, ?o1, ?o2, ?o3, ?o4, ?o5, ?o6, ?o7, ?o8, ?o9, trivial⟩
    case o0 =>
      rintro L a' W ⟨u9, u10, u11, u13, u14, u15, u16, B1, B2, B3, rfl, HI, E0, E1, E2, E3⟩ hL hd K hK
      have k0 : W.cell? ⟨w.heap.size, 0, none⟩ = some (.string s) := cellNext HI.out.below g0
      simp only [List.setIfInBounds_toArray, List.set_cons_zero, List.set_cons_succ]
      go_simp
      refine hK _ _ ⟨u9, u10, u11, .string s, u14, u15, u16, B1, B2, B3, ?_, HI, fun _ => rfl, E1.out, E2.out, E3.out⟩
      simp only [List.setIfInBounds_toArray, List.set_cons_zero, List.set_cons_succ]
    case o1 =>
      rintro L a' W ⟨u9, u10, u11, u13, u14, u15, u16, B1, B2, B3, rfl, HI, E0, E1, E2, E3⟩ hL hd K hK
      have d0 : L 0 = true := hd 0 (List.elem_iff.1 (by kernel_rfl))
      obtain rfl := E0.out d0
      simp only [List.setIfInBounds_toArray, List.set_cons_zero, List.set_cons_succ]
      go_simp
      refine hK _ _ ⟨u9, u10, u11, .string s, .int .i64 (s.size : Nat), u15, u16, B1, B2, B3, ?_, HI, E0.out, fun _ => rfl, E2.out, E3.out⟩
      simp only [List.setIfInBounds_toArray, List.set_cons_zero, List.set_cons_succ]
    case o2 =>
      rintro L a' W ⟨u9, u10, u11, u13, u14, u15, u16, B1, B2, B3, rfl, HI, E0, E1, E2, E3⟩ hL hd K hK
      have k0 : W.cell? ⟨w.heap.size, 0, none⟩ = some (.string s) := cellNext HI.out.below g0
      simp only [List.setIfInBounds_toArray, List.set_cons_zero, List.set_cons_succ]
      go_simp
      refine hK _ _ ⟨u9, u10, u11, u13, u14, .string s, u16, B1, B2, B3, ?_, HI, E0.out, E1.out, fun _ => rfl, E3.out⟩
      simp only [List.setIfInBounds_toArray, List.set_cons_zero, List.set_cons_succ]
    case o3 =>
      rintro L a' W ⟨u9, u10, u11, u13, u14, u15, u16, B1, B2, B3, rfl, HI, E0, E1, E2, E3⟩ hL hd K hK
      have d2 : L 2 = true := hd 2 (List.elem_iff.1 (by kernel_rfl))
      obtain rfl := E2.out d2
      simp only [List.setIfInBounds_toArray, List.set_cons_zero, List.set_cons_succ]
      go_simp
      refine hK _ _ ⟨u9, u10, u11, u13, u14, .string s, .int .i64 (s.size : Nat), B1, B2, B3, ?_, HI, E0.out, E1.out, E2.out, fun _ => rfl⟩
      simp only [List.setIfInBounds_toArray, List.set_cons_zero, List.set_cons_succ]
    case o4 =>
      rintro L a' W ⟨u9, u10, u11, u13, u14, u15, u16, B1, B2, B3, rfl, HI, E0, E1, E2, E3⟩ hL hd K hK
      rw [hL] at HI
      simp only [List.setIfInBounds_toArray, List.set_cons_zero, List.set_cons_succ]
      go_simp
      refine hK _ _ ⟨.pointer (some ⟨W.heap.size, 0, none⟩), u10, u11, u13, u14, u15, u16, W.heap.size, B2, B3, ?_, HI.out.alloc1, E0.out, E1.out, E2.out, E3.out⟩
      simp only [List.setIfInBounds_toArray, List.set_cons_zero, List.set_cons_succ]
    case o5 =>
      rintro L a' W ⟨u9, u10, u11, u13, u14, u15, u16, B1, B2, B3, rfl, HI, E0, E1, E2, E3⟩ hL hd K hK
      rw [hL] at HI
      simp only [List.setIfInBounds_toArray, List.set_cons_zero, List.set_cons_succ]
      go_simp
      refine hK _ _ ⟨u9, .pointer (some ⟨W.heap.size, 0, none⟩), u11, u13, u14, u15, u16, B1, W.heap.size, B3, ?_, HI.out.alloc2, E0.out, E1.out, E2.out, E3.out⟩
      simp only [List.setIfInBounds_toArray, List.set_cons_zero, List.set_cons_succ]
    case o6 =>
      rintro L a' W ⟨u9, u10, u11, u13, u14, u15, u16, B1, B2, B3, rfl, HI, E0, E1, E2, E3⟩ hL hd K hK
      rw [hL] at HI
      simp only [List.setIfInBounds_toArray, List.set_cons_zero, List.set_cons_succ]
      go_simp
      refine hK _ _ ⟨u9, u10, .pointer (some ⟨W.heap.size, 0, none⟩), u13, u14, u15, u16, B1, B2, W.heap.size, ?_, HI.out.alloc3, E0.out, E1.out, E2.out, E3.out⟩
      simp only [List.setIfInBounds_toArray, List.set_cons_zero, List.set_cons_succ]
    case o7 =>
      rintro L a' W ⟨u9, u10, u11, u13, u14, u15, u16, B1, B2, B3, rfl, HI, E0, E1, E2, E3⟩ hL hd K hK
      have d4 : L 4 = true := hd 4 (List.elem_iff.1 (by kernel_rfl))
      have d5 : L 5 = true := hd 5 (List.elem_iff.1 (by kernel_rfl))
      have d6 : L 6 = true := hd 6 (List.elem_iff.1 (by kernel_rfl))
      have d1 : L 1 = true := hd 1 (List.elem_iff.1 (by kernel_rfl))
      obtain rfl := E1.out d1
      rw [d4, d5, d6, hL] at HI
      have h1 := Blk.raw HI.out.b1
      have hu := h1.1
      have hB := h1.2.1
      have hh := h1.2.2
      clear h1
      subst hu
      have kc : W.cell? ⟨B1, 0, none⟩ = some (.int .i64 0) := by rw [Lib.cell_of_heap hh]; rfl
      have kf : W.frozen? ⟨B1, 0, none⟩ = false := Lib.frozen_of_heap hh 0
      simp only [List.setIfInBounds_toArray, List.set_cons_zero, List.set_cons_succ]
      go_simp
      refine hK _ _ ⟨.pointer (some ⟨B1, 0, none⟩), u10, u11, u13, .int .i64 (s.size : Nat), u15, u16, B1, B2, B3, ?_, ?_, E0.out, E1.out, E2.out, E3.out⟩
      · simp only [List.setIfInBounds_toArray, List.set_cons_zero, List.set_cons_succ]
      have h := HI.out.store1 (turned_one hh _)
      show Inv3 _ _ _ (L 4) (L 5) (L 6) _ _ _ _ _ _ _ _ _ _ _ _ _
      rw [d4, d5, d6]
      exact h
    case o8 =>
      rintro L a' W ⟨u9, u10, u11, u13, u14, u15, u16, B1, B2, B3, rfl, HI, E0, E1, E2, E3⟩ hL hd K hK
      have d4 : L 4 = true := hd 4 (List.elem_iff.1 (by kernel_rfl))
      have d5 : L 5 = true := hd 5 (List.elem_iff.1 (by kernel_rfl))
      have d6 : L 6 = true := hd 6 (List.elem_iff.1 (by kernel_rfl))
      have d3 : L 3 = true := hd 3 (List.elem_iff.1 (by kernel_rfl))
      obtain rfl := E3.out d3
      rw [d4, d5, d6, hL] at HI
      have h1 := Blk.raw HI.out.b2
      have hu := h1.1
      have hB := h1.2.1
      have hh := h1.2.2
      clear h1
      subst hu
      have kc : W.cell? ⟨B2, 0, none⟩ = some (.int .i64 0) := by rw [Lib.cell_of_heap hh]; rfl
      have kf : W.frozen? ⟨B2, 0, none⟩ = false := Lib.frozen_of_heap hh 0
      simp only [List.setIfInBounds_toArray, List.set_cons_zero, List.set_cons_succ]
      go_simp
      refine hK _ _ ⟨u9, .pointer (some ⟨B2, 0, none⟩), u11, u13, u14, u15, .int .i64 (s.size : Nat), B1, B2, B3, ?_, ?_, E0.out, E1.out, E2.out, E3.out⟩
      · simp only [List.setIfInBounds_toArray, List.set_cons_zero, List.set_cons_succ]
      have h := HI.out.store2 (turned_one hh _)
      show Inv3 _ _ _ (L 4) (L 5) (L 6) _ _ _ _ _ _ _ _ _ _ _ _ _
      rw [d4, d5, d6]
      exact h
    case o9 =>
      rintro L a' W ⟨u9, u10, u11, u13, u14, u15, u16, B1, B2, B3, rfl, HI, E0, E1, E2, E3⟩ hL hd K hK
      have d4 : L 4 = true := hd 4 (List.elem_iff.1 (by kernel_rfl))
      have d5 : L 5 = true := hd 5 (List.elem_iff.1 (by kernel_rfl))
      have d6 : L 6 = true := hd 6 (List.elem_iff.1 (by kernel_rfl))
      rw [d4, d5, d6, hL] at HI
      have h1 := Blk.raw HI.out.b3
      have hu := h1.1
      have hB := h1.2.1
      have hh := h1.2.2
      clear h1
      subst hu
      have kc : W.cell? ⟨B3, 0, none⟩ = some (.int .i64 0) := by rw [Lib.cell_of_heap hh]; rfl
      have kf : W.frozen? ⟨B3, 0, none⟩ = false := Lib.frozen_of_heap hh 0
      simp only [List.setIfInBounds_toArray, List.set_cons_zero, List.set_cons_succ]
      go_simp
      refine hK _ _ ⟨u9, u10, .pointer (some ⟨B3, 0, none⟩), u13, u14, u15, u16, B1, B2, B3, ?_, ?_, E0.out, E1.out, E2.out, E3.out⟩
      · simp only [List.setIfInBounds_toArray, List.set_cons_zero, List.set_cons_succ]
      have h := HI.out.store3 (turned_one hh _)
      show Inv3 _ _ _ (L 4) (L 5) (L 6) _ _ _ _ _ _ _ _ _ _ _ _ _
      rw [d4, d5, d6]
      exact h
  case hdone =>
    rintro L a' W1 hall ⟨u9, u10, u11, u13, u14, u15, u16, B1, B2, B3, rfl, HI, E0, E1, E2, E3⟩
    rw [hall 4 (by decide), hall 5 (by decide), hall 6 (by decide), hall 7 (by decide), hall 8 (by decide), hall 9 (by decide)] at HI
    obtain ⟨rfl, hB1, hh1⟩ := HI.out.b1.full
    obtain ⟨rfl, hB2, hh2⟩ := HI.out.b2.full
    obtain ⟨rfl, hB3, hh3⟩ := HI.out.b3.full
    have d12 := HI.out.d12 rfl rfl
    have d13 := HI.out.d13 rfl rfl
    have d23 := HI.out.d23 rfl rfl
    simp only [List.setIfInBounds_toArray, List.set_cons_zero, List.set_cons_succ]
    rename_i Q' K hKK
    have HBw : Hid (Below w.heap.size w W1) := HB0.out.trans (HI.out.below.mono (by omega))
    have hbz := HI.out.below.size
    have k0 : W1.cell? ⟨w.heap.size, 0, none⟩ = some (.string s) := cellNext HI.out.below g0
    have k1 : W1.cell? ⟨w.heap.size + 1, 0, none⟩ = some (.int .i64 1) := cellNext HI.out.below g1
    have k2 : W1.cell? ⟨w.heap.size + 2, 0, none⟩ = some (.int .i64 ((q : Int) + 1)) := cellNext HI.out.below g2
    have HS : Hid (SubC w.heap.size (w.heap.size + 1) (w.heap.size + 2) B1 B2 B3 s q s.size s.size 1 W1) :=
      ⟨k0, k1, k2, by rw [Lib.cell_of_heap hh1]; rfl, by rw [Lib.cell_of_heap hh2]; rfl, by rw [Lib.cell_of_heap hh3]; rfl, Lib.frozen_of_heap hh1 0, Lib.frozen_of_heap hh2 0, Lib.frozen_of_heap hh3 0⟩
    have hl1 := lt_of_heap hh1
    have hl2 := lt_of_heap hh2
    have hl3 := lt_of_heap hh3
    refine hKK _ _ ?_
    clear hKK hall HI E0 E1 E2 E3 g0 g1 g2 hh1 hh2 hh3 HB0 k1 k2
    go_wp2_with fail
    refine (UAll_any s b _).mono ?_
    rintro e w1 ⟨rfl, hw1⟩
    have e1 : w1.heap.size = W1.heap.size + 2 := by rw [hw1]; simp
    have hb1 : Below W1.heap.size W1 w1 := by rw [hw1]; exact ((Below.refl _ W1).alloc (Nat.le_refl _) _).alloc (by simp) _
    have c1 : w1.cell? ⟨W1.heap.size, 0, none⟩ = some (.string s) := by rw [hw1]; simp [go_sem]
    have c2 : w1.cell? ⟨W1.heap.size + 1, 0, none⟩ = some (.bool b) := by rw [hw1]; simp [go_sem]
    have HS1 : Hid (SubC w.heap.size (w.heap.size + 1) (w.heap.size + 2) B1 B2 B3 s q s.size s.size 1 w1) := by
      have h := HS.out
      exact ⟨cellNext hb1 h.c0, cellNext hb1 h.c1, cellNext hb1 h.c2, cellNext hb1 h.d1, cellNext hb1 h.d2, cellNext hb1 h.d3, (hb1.frozen (p := ⟨B1, 0, none⟩) hl1).trans h.f1, (hb1.frozen (p := ⟨B2, 0, none⟩) hl2).trans h.f2, (hb1.frozen (p := ⟨B3, 0, none⟩) hl3).trans h.f3⟩
    have HBw1 : Hid (Below w.heap.size w w1) := HBw.out.trans (hb1.mono (by omega))
    have hU1 : U8Ok w1 := HU.out.below HBw1.out
    clear hw1 HS HBw k0
    go_wp2_with fail
    refine (wpIn_wide (n := 9)).1 ?_
    refine wpIn_rangeFunc_ownF (α := Nat × Nat) (encs := fun x => #[Value.int .i64 (x.1 : Int), Value.int .i64 (x.2 : Int)]) rfl (by decide) (gf := 241) (lb := #[.pointer (some ⟨W1.heap.size, 0, none⟩), .pointer (some ⟨W1.heap.size + 1, 0, none⟩)]) rfl trivial (enters_of Tryz.func241 (by kernel_rfl) rfl)
      (all_stops 8 W1.heap.size (W1.heap.size + 1) w.heap.size s b (by decide) hs w1 (by omega) (by omega) (by omega) (by omega) (by omega) c1 c2 hU1)
      (fun h k => KpU.trans h k) (fun W l o o' => KpU.put (by omega) (by omega) (by omega) W l o o') (Below.refl _ _) (fun _ => rfl)
      (fun pre W => SubC w.heap.size (w.heap.size + 1) (w.heap.size + 2) B1 B2 B3 s q (loF s.size pre) s.size (pre.length + 1) W ∧ Below w.heap.size w W ∧ pre.length ≤ q)
      (fun c pre W => SubC w.heap.size (w.heap.size + 1) (w.heap.size + 2) B1 B2 B3 s q (loF s.size pre) ((pre.getLast?.map (·.1)).getD 0) pre.length W ∧ Below w.heap.size w W ∧ (pre.length = q + 1 ∧ c = .exit 0))
      (OwnFrom.and (Own.from (SubC.own _ _ _) _) (OwnFrom.and (ownFrom_below (Nat.le_refl _) (by omega)) (fun _ _ _ _ h _ _ => h)))
      (fun c => OwnFrom.and (Own.from (SubC.own _ _ _) _) (OwnFrom.and (ownFrom_below (Nat.le_refl _) (by omega)) (fun _ _ _ _ h _ _ => h)))
      ⟨HS1.out, HBw1.out, Nat.zero_le _⟩
      (fun x => { tmps := #[.string s, .int .i64 1, .int .i64 ((q : Int) + 1), .bool b, .pointer (some ⟨w.heap.size, 0, none⟩), .pointer (some ⟨w.heap.size + 1, 0, none⟩), .pointer (some ⟨w.heap.size + 1 + 1, 0, none⟩), undef, .string ⟨#[]⟩, .pointer (some ⟨B1, 0, none⟩), .pointer (some ⟨B2, 0, none⟩), .pointer (some ⟨B3, 0, none⟩), .int .i64 (x.1 : Int), u13, u14, u15, u16, .string s, .bool b, .func (.func 241) #[] #[.pointer (some ⟨W1.heap.size, 0, none⟩), .pointer (some ⟨W1.heap.size + 1, 0, none⟩)], .int .i64 (x.1 : Int), .int .i64 (x.2 : Int), undef, undef, undef, undef, undef, undef, undef, undef, undef, undef, undef, undef, undef, undef, undef, undef, undef, undef, undef, undef, undef, undef], defers := [] }) ?assign ?body ?done ?stop
    case assign =>
      intro l x W K hK
      gi_wp2
      simpa using hK
    case body =>
      rintro l pre x W ⟨hS, hB, hq1⟩ hlt
      obtain ⟨n, hn⟩ : ∃ n, n = s.size := ⟨_, rfl⟩
      have hlast : ((pre ++ [x]).getLast?.map (·.1)).getD 0 = x.1 := by simp
      have hlen : (pre ++ [x]).length = pre.length + 1 := by simp
      have HSn := loF_snoc s.size pre x
      have a1 : w.heap.size ≠ B1 := by omega
      have a2 : w.heap.size ≠ B2 := by omega
      have a3 : w.heap.size ≠ B3 := by omega
      have b1 : w.heap.size + 1 ≠ B1 := by omega
      have b2 : w.heap.size + 1 ≠ B2 := by omega
      have b3 : w.heap.size + 1 ≠ B3 := by omega
      have e1' : w.heap.size + 2 ≠ B1 := by omega
      have e2' : w.heap.size + 2 ≠ B2 := by omega
      have e3' : w.heap.size + 2 ≠ B3 := by omega
      have m1 : B1 ≠ W1.heap.size := by omega
      have m2 : B2 ≠ W1.heap.size := by omega
      have m3 : B3 ≠ W1.heap.size := by omega
      have n1 : B1 ≠ W1.heap.size + 1 := by omega
      have n2 : B2 ≠ W1.heap.size + 1 := by omega
      have n3 : B3 ≠ W1.heap.size + 1 := by omega
      obtain ⟨lo, hlo⟩ : ∃ lo, lo = loF s.size pre := ⟨_, rfl⟩
      obtain ⟨k, hk⟩ : ∃ k, k = pre.length + 1 := ⟨_, rfl⟩
      rw [← hlo, ← hk] at hS
      rw [← hlo] at HSn
      have hk1 : (1 : Int) ≤ (k : Nat) := by omega
      have hkq : (k : Int) ≤ 1000002 := by omega
      have HB := Lib.hid hB
      have HKL := Lib.hid hk
      have HQ1 := Lib.hid hq1
      have HL2 := Lib.hid hlast
      have HL3 := Lib.hid hlen
      have s0 := hS.c0
      have s1 := hS.c1
      have s2 := hS.c2
      have t1 := hS.d1
      have t2 := hS.d2
      have t3 := hS.d3
      have r1 := hS.f1
      have r2 := hS.f2
      have r3 := hS.f3
      have HS := Lib.hid hS
      have hn1 : w.heap.size ≤ B1 := by omega
      have hn2 : w.heap.size ≤ B2 := by omega
      have hn3 : w.heap.size ≤ B3 := by omega
      clear hB hlo hk hq1 hlast hlen hS c1 c2 HS1 HBw1 hlt
      by_cases hl : lo = s.size
      · have hlb : ((lo : Int) == (s.size : Int)) = true := by simp [hl]
        rw [if_pos hl] at HSn
        have HSN := Lib.hid HSn
        have HT : Hid (SubC w.heap.size (w.heap.size + 1) (w.heap.size + 2) B1 B2 B3 s q x.1 s.size k (W.setCell ⟨B1, 0, none⟩ (.int .i64 (x.1 : Nat)))) := HS.out.set1 a1 b1 e1' (Ne.symm d12) (Ne.symm d13) x.1
        have v0 := HT.out.c2
        have v3 := HT.out.d3
        have v5 := HT.out.d2
        have v2 := HT.out.f2
        have v4 := HT.out.f3
        clear hl HSn
        by_cases hkk : (q : Int) + 1 ≤ (k : Int)
        · gi_wp2
          refine ⟨?_, ?_, ?_, ?_, rfl⟩
          · exact (KeepsOthers.setCell _ _ _).trans (KeepsOthers.setCell _ _ _)
          · rw [HSN.out, HL2.out, HL3.out, ← HKL.out]
            exact HT.out.set2 a2 b2 e2' d12 (Ne.symm d23) x.1
          · exact (HB.out.setCell (p := ⟨B1, 0, none⟩) hn1 _).setCell (p := ⟨B2, 0, none⟩) hn2 _
          · rw [HL3.out]; have := HKL.out; have := HQ1.out; omega
        · have hkk' : (k : Int) < (q : Int) + 1 := by omega
          gi_wp2
          refine ⟨(KeepsOthers.setCell _ _ _).trans (KeepsOthers.setCell _ _ _), KpU.set (KpU.set (KpU.refl _ _ _ _) (p := ⟨B1, 0, none⟩) hn1 (Ne.symm m1) (Ne.symm n1) _) (p := ⟨B3, 0, none⟩) hn3 (Ne.symm m3) (Ne.symm n3) _, ?_, ?_, ?_⟩
          · rw [HSN.out, HL3.out, ← HKL.out]
            exact HT.out.set3 a3 b3 e3' d13 d23 (k + 1) _ (by omega)
          · exact (HB.out.setCell (p := ⟨B1, 0, none⟩) hn1 _).setCell (p := ⟨B3, 0, none⟩) hn3 _
          · rw [HL3.out]; have := HKL.out; omega
      · have hlb : ((lo : Int) == (s.size : Int)) = false := by simp; omega
        rw [if_neg hl] at HSn
        have HSN := Lib.hid HSn
        clear hl HSn
        by_cases hkk : (q : Int) + 1 ≤ (k : Int)
        · gi_wp2
          refine ⟨?_, ?_, ?_, ?_, rfl⟩
          · exact KeepsOthers.setCell _ _ _
          · rw [HSN.out, HL2.out, HL3.out, ← HKL.out]
            exact HS.out.set2 a2 b2 e2' d12 (Ne.symm d23) x.1
          · exact HB.out.setCell (p := ⟨B2, 0, none⟩) hn2 _
          · rw [HL3.out]; have := HKL.out; have := HQ1.out; omega
        · have hkk' : (k : Int) < (q : Int) + 1 := by omega
          gi_wp2
          refine ⟨KeepsOthers.setCell _ _ _, KpU.set (KpU.refl _ _ _ _) (p := ⟨B3, 0, none⟩) hn3 (Ne.symm m3) (Ne.symm n3) _, ?_, ?_, ?_⟩
          · rw [HSN.out, HL3.out, ← HKL.out]
            exact HS.out.set3 a3 b3 e3' d13 d23 (k + 1) _ (by omega)
          · exact HB.out.setCell (p := ⟨B3, 0, none⟩) hn3 _
          · rw [HL3.out]; have := HKL.out; omega
    case done =>
      rintro D ys W hD rfl ⟨hS, hB, hq1⟩ hK
      rw [loF_zero s b (List.prefix_refl _) (by by_cases h : chars s b 0 = []; exact .inr h; exact .inl h)] at hS
      have HP : Hid (s.extract 0 (placeC s b q) = s) := by
        show _ = _
        unfold placeC
        rw [List.getElem?_eq_none hq1]
        simp
      have s0 := hS.c0
      have t1 := hS.d1
      have t2 := hS.d2
      have HB := Lib.hid hB
      have hmin : min (0 : Int) (s.size : Int) = 0 := by omega
      clear hB hS hq1 c1 c2 HS1 HBw1
      go_wp2_with fail
      refine ⟨by simp, .inl ⟨_, _, rfl, run_takeDeferred hK, ?_⟩⟩
      rw [HP.out]
      exact ⟨_, results_tmp rfl _ _ _, rfl, HB.out.trans (belowK_b (w := w1) (by omega) W D _ _ hD hK rfl rfl)⟩
    case stop =>
      rintro D c pre W hD hpre ⟨hS, hB, hq1, rfl⟩ hK
      rw [loF_zero s b hpre (.inl (by rintro rfl; simp at hq1))] at hS
      obtain ⟨h, hh⟩ : ∃ h, h = (pre.getLast?.map (·.1)).getD 0 := ⟨_, rfl⟩
      rw [← hh] at hS
      have hpl : placeC s b q = h ∧ h ≤ s.size := by
        obtain ⟨r, hr⟩ := hpre
        have hg : pre.getLast? = pre[q]? := by rw [List.getLast?_eq_getElem?]; congr 1; omega
        have hx : pre[q]? = some pre[q] := List.getElem?_eq_getElem (by omega)
        have hc : (chars s b 0)[q]? = some pre[q] := by rw [← hr, List.getElem?_append_left (by omega)]; exact hx
        have hm := chars_at s b _ 0 (Nat.le_refl _) _ (List.mem_of_getElem? hc)
        unfold placeC
        rw [hc, hh, hg, hx]
        exact ⟨rfl, Nat.le_of_lt hm.2⟩
      have HP : Hid (s.extract 0 (placeC s b q) = s.extract 0 h) := by show _ = _; rw [hpl.1]
      have hle := hpl.2
      have s0 := hS.c0
      have t1 := hS.d1
      have t2 := hS.d2
      have HB := Lib.hid hB
      have hmin : min (0 : Int) (h : Int) = 0 := by omega
      have hhI : (h : Int) ≤ (s.size : Int) := by omega
      clear hB hS hq1 c1 c2 HS1 HBw1 hpl hh
      refine wpIn_wide.2 ?_
      go_wp2_with fail
      refine ⟨by simp, .inl ⟨_, _, rfl, run_takeDeferred hK, ?_⟩⟩
      rw [HP.out]
      exact ⟨_, results_tmp rfl _ _ _, rfl, HB.out.trans (belowK_b (w := w1) (by omega) W D _ _ hD hK rfl rfl)⟩
end Go.Proofs.YtfdnhkjeoeffoaaGreatDoor
end

section
/- Package format: by, of a pattern that is one part. -/
namespace Go.Proofs.YtfdnhkjeoeffoaaGreatDoor
open Go.RowKit
set_option linter.unusedVariables false

theorem owns_below {B : Nat} {e : TypeId} {k n : Nat} {v : Value} {xs : List Value} {w w' : World} (h : w.ownsRow B e k v n xs) (hb : Below w.heap.size w w') : w'.ownsRow B e k v n xs := by
  refine ⟨h.1, ?_⟩
  rcases h.2 with hn | ⟨g, cap, cur, rfl, hbg, hgg, rest⟩
  · exact .inl hn
  · refine .inr ⟨g, cap, cur, rfl, hbg, ?_, rest⟩
    rw [hb.block g (Array.getElem?_eq_some_iff.1 hgg).1]
    exact hgg
theorem builder_below {T e : TypeId} {B b : Nat} {p : Value} {bs : List Value} {w w' : World} (h : Lib.BuilderAt T e B b p bs w) (hb : Below w.heap.size w w') : Lib.BuilderAt T e B b p bs w' := by
  have hlt := h.lt
  obtain ⟨hB, v, hbk, hown, hne⟩ := h
  exact ⟨hB, v, (hb.block b hlt).trans hbk, owns_below hown hb, hne⟩
theorem isBuilder_below {T e : TypeId} {B b : Nat} {bs : List Value} {w w' : World} (h : Lib.IsBuilder T e B b bs w) (hb : Below w.heap.size w w') : Lib.IsBuilder T e B b bs w' := by
  rcases h with h | h
  · exact .inl (builder_below h hb)
  · exact .inr (builder_below h hb)


end Go.Proofs.YtfdnhkjeoeffoaaGreatDoor
end

section
/- Package num: numeral. -/
namespace Go.Proofs.YtfdnhkjeoeffoaaGreatDoor
open Go.RowKit
set_option linter.unusedVariables false

/-- the digits, the power and the bytes of what stands ahead of the exponent -/
def mantL (l : List UInt8) : List UInt8 × Int × Nat :=
  match l.drop (lead l).length with
  | 46 :: r => if 0 < (lead l).length + (lead r).length then (lead l ++ lead r, -((lead r).length : Int), (lead l).length + 1 + (lead r).length) else (lead l, 0, (lead l).length)
  | _ => (lead l, 0, (lead l).length)
/-- how many bytes the letter and its sign take, and whether the sign is a minus -/
def signK : List UInt8 → Nat × Bool
  | _ :: 43 :: _ => (2, false)
  | _ :: 45 :: _ => (2, true)
  | _ => (1, false)
/-- the exponent and its bytes -/
def expL (q : List UInt8) : Int × Nat :=
  match q with
  | c :: _ => if c = 101 ∨ c = 69 then (if 0 < (lead (q.drop (signK q).1)).length then (powL (lead (q.drop (signK q).1)) (signK q).2, (signK q).1 + (lead (q.drop (signK q).1)).length) else (0, 0)) else (0, 0)
  | [] => (0, 0)
def numeralL (l : List UInt8) : List UInt8 × Int × Nat :=
  if (mantL l).1 = [] then ([], 0, 0) else ((mantL l).1, (mantL l).2.1 + (expL (l.drop (mantL l).2.2)).1, (mantL l).2.2 + (expL (l.drop (mantL l).2.2)).2)

end Go.Proofs.YtfdnhkjeoeffoaaGreatDoor
end

section
/- Package num: Prefix, Looks. -/
namespace Go.Proofs.YtfdnhkjeoeffoaaGreatDoor
open Go.RowKit
set_option linter.unusedVariables false

/-- blanks -/
def wsL : List UInt8 := [32, 9, 10]
def unblank (l : List UInt8) : List UInt8 := l.dropWhile (wsL.contains ·)
/-- how many bytes a sign takes, and whether it is a minus -/
def signB : List UInt8 → Nat × Bool
  | 45 :: _ => (1, true)
  | 43 :: _ => (1, false)
  | _ => (0, false)
@[go_sem] theorem run_neg64 (R : Nat) (w : World) : (Op.unary UnOp.neg (Value.float FloatKind.f64 R)).run Tryz.prog w = .ok (.float .f64 (Op.negFloat .f64 R)) w := rfl
theorem negF {R : Nat} (h : R < 9223372036854775808) : Op.negFloat .f64 R = R + 9223372036854775808 := by
  have e : Op.negFloat .f64 R = R ^^^ 2 ^ 63 := rfl
  rw [e, show (9223372036854775808 : Nat) = 2 ^ 63 by decide, Nat.add_comm]
  have h63 : R < 2 ^ 63 := h
  refine Nat.eq_of_testBit_eq fun i => ?_
  rw [Nat.testBit_xor, Nat.testBit_two_pow]
  rcases Nat.lt_trichotomy i 63 with hi | hi | hi
  · rw [Nat.testBit_two_pow_add_gt hi, decide_eq_false (by omega), Bool.xor_false]
  · subst hi
    rw [Nat.testBit_two_pow_add_eq, decide_eq_true rfl, Bool.xor_true]
  · rw [Nat.testBit_lt_two_pow (Nat.lt_of_lt_of_le h63 (p2_le (a := 63) (b := i) (by omega))), decide_eq_false (by omega), Nat.testBit_lt_two_pow (x := 2 ^ 63 + R) (i := i)]
    · rfl
    · have h2 := p2_le (a := 64) (b := i) (by omega)
      have h3 : (2 : Nat) ^ 64 = 2 ^ 63 + 2 ^ 63 := by decide
      omega
/-- what is read behind blanks and a sign -/
def coreL (l : List UInt8) : List UInt8 × Int × Nat := numeralL ((unblank l).drop (signB (unblank l)).1)
/-- how many bytes Prefix takes -/
def prefN (l : List UInt8) : Nat := if (coreL l).2.2 = 0 then 0 else l.length - (unblank l).length + (signB (unblank l)).1 + (coreL l).2.2
/-- the float of what is read, without its sign -/
def prefV (l : List UInt8) : Nat := if (coreL l).2.2 = 0 then 0 else readN (coreL l).1 (coreL l).2.1
/-- is it below nought -/
def prefM (l : List UInt8) : Bool := if (coreL l).2.2 = 0 then false else (signB (unblank l)).2

/-- the bits of what Prefix reads -/
def prefB (l : List UInt8) : Nat := if prefM l then prefV l + 9223372036854775808 else prefV l
/-- does the whole text look like a number -/
def looksL (l : List UInt8) : Bool := decide (0 < prefN l) && (Lib.trimS (l.drop (prefN l)) wsL).isEmpty
end Go.Proofs.YtfdnhkjeoeffoaaGreatDoor
end

section
/- Package format: Conv at one pattern; package cell: its small functions. -/
namespace Go.Proofs.YtfdnhkjeoeffoaaGreatDoor
open Go.RowKit
set_option linter.unusedVariables false

/-! 0.1 by "%.3f" -/
theorem c01_whole : wholeOk 4591870180066957722 = false := by kernel_rfl
/-- a value -/
def cellA (k : Int) (x : Nat) (s : ByteArray) : Array Value := #[.int .i64 k, .float .f64 x, .string s]
/-- what came in, as a value -/
def inA (s : ByteArray) : Array Value := if looksL s.data.toList then cellA 3 (prefB s.data.toList) s else cellA 2 0 s
/-- the order of two floats that are numbers -/
def ordF (x y : Nat) : Int := if FloatKind.f64.format.order x y == some .lt then -1 else if FloatKind.f64.format.order x y == some .gt then 1 else 0
end Go.Proofs.YtfdnhkjeoeffoaaGreatDoor
end
