/- Digits, lowest first; Reverse of bytes; bytes as a string. -/
import Derived.Test.YtkpikkeblogdcaaDoorN13
import Derived.Test.YtkpikkeblogdcaaDoorShelfR
import Derived.Laws.IdiomStrings
import Derived.Lib.OwnBridge
namespace Go.Proofs.YtkpikkeblogdcaaDoor
open Go.RowKit
set_option linter.unusedVariables false

def valD : List Nat → Nat | [] => 0 | c :: l => (c - 48) + 10 * valD l
def DigN (L : List Nat) : Prop := ∀ c ∈ L, 48 ≤ c ∧ c ≤ 57
theorem valD_append : ∀ (l m : List Nat), valD (l ++ m) = valD l + 10 ^ l.length * valD m
  | [], m => by simp [valD]
  | c :: l, m => by
    simp only [List.cons_append, valD, valD_append l m, List.length_cons, Nat.pow_succ]
    rw [Nat.mul_add, ← Nat.mul_assoc, Nat.mul_comm 10 (10 ^ l.length)]; omega
theorem valD_48 : ∀ (l : List Nat), (∀ c ∈ l, c = 48) → valD l = 0
  | [], _ => rfl
  | c :: l, h => by simp [valD, h c (by simp), valD_48 l (fun x hx => h x (by simp [hx]))]
theorem valD_strip {L : List Nat} {k : Nat} (h : ∀ c ∈ L.drop k, c = 48) : valD (L.take k) = valD L := by
  conv => rhs; rw [← List.take_append_drop k L]
  rw [valD_append, valD_48 _ h]; simp
theorem valD_pos {L : List Nat} (hd : DigN L) (h : valD L = 0) : ∀ c ∈ L, c = 48 := by
  induction L with
  | nil => simp
  | cons c l ih =>
    simp only [valD] at h
    have := hd c (by simp)
    intro x hx
    rcases List.mem_cons.1 hx with rfl | hx
    · omega
    · exact ih (fun y hy => hd y (by simp [hy])) (by omega) x hx

/-- the text of a natural: digits, no nought ahead but of 0 itself -/
structure Canon (l : List UInt8) (x : Nat) : Prop where
  ne : l ≠ []
  dig : Digits l
  val : digVal l = x
  top : ∀ c r, l = c :: r → c.toNat = 48 → r = []

/-- the string that a row of digits is, turned round -/
def turned (L : List Nat) : List UInt8 := L.reverse.map UInt8.ofNat
theorem turned_length (L : List Nat) : (turned L).length = L.length := by simp [turned]
theorem toNat_ofNat_dig {c : Nat} (h : c ≤ 57) : (UInt8.ofNat c).toNat = c := by
  rw [UInt8.toNat_ofNat']; exact Nat.mod_eq_of_lt (by omega)
theorem turned_digits {L : List Nat} (hd : DigN L) : Digits (turned L) := by
  intro c hc
  simp only [turned, List.mem_map, List.mem_reverse] at hc
  obtain ⟨n, hn, rfl⟩ := hc
  have := hd n hn
  rw [toNat_ofNat_dig this.2]; exact this
theorem digVal_turned : ∀ (L : List Nat), DigN L → digVal (turned L) = valD L
  | [], _ => rfl
  | c :: l, h => by
    have hc := h c (by simp)
    have ih := digVal_turned l (fun x hx => h x (by simp [hx]))
    have e : turned (c :: l) = turned l ++ [UInt8.ofNat c] := by simp [turned]
    rw [e, digVal_snoc, ih, toNat_ofNat_dig hc.2, valD]; omega
theorem canon_turned {L : List Nat} {k : Nat} (hd : DigN L) (hk : k ≠ 0) (hkl : k ≤ L.length) (hs : ∀ c ∈ L.drop k, c = 48) (ht : ∀ h : k - 1 < L.length, L[k - 1] ≠ 48) : Canon (turned (L.take k)) (valD L) := by
  have hdk : DigN (L.take k) := fun c hc => hd c (List.mem_of_mem_take hc)
  have hsn : L.take k = L.take (k - 1) ++ [L[k - 1]'(by omega)] := by
    rw [← List.take_succ_eq_append_getElem (by omega)]; congr 1; omega
  have e : turned (L.take k) = UInt8.ofNat (L[k - 1]'(by omega)) :: turned (L.take (k - 1)) := by
    rw [hsn]; simp only [turned, List.reverse_append, List.map_append, List.reverse_singleton, List.map_cons, List.map_nil, List.singleton_append]
  refine ⟨by rw [e]; simp, turned_digits hdk, by rw [digVal_turned _ hdk, valD_strip hs], ?_⟩
  intro c r h hc
  rw [e] at h
  cases h
  have h1 := hd (L[k - 1]'(by omega)) (List.getElem_mem _)
  rw [toNat_ofNat_dig h1.2] at hc
  exact absurd hc (ht (by omega))
theorem canon_zero : Canon (turned [48]) 0 := by
  refine ⟨by simp [turned], turned_digits (by intro c hc; simp at hc; omega), by decide, ?_⟩
  intro c r h hc
  simp [turned] at h
  exact h.2

/-- slices.Reverse of a row of bytes -/
theorem Reverse_any (g cap : Nat) (L : List Nat) (w : World) (h : RowB w g cap L) : Calls Tryd.prog 83 #[.slice (some ⟨g, 0, none⟩) L.length cap] w fun e w' => e = .returned (.tuple #[]) ∧ RowB w' g cap L.reverse ∧ ∀ B v, Below B v w → B ≤ g → Below B v w' := by
  have hH : Go.Sort.Holds (fun n : Nat => Value.int .u8 (n : Int)) w g 0 L.toArray := by
    intro j hj
    have hj' : j < L.length := by simpa using hj
    refine ⟨?_, h.frozen _⟩
    have := h.cell j hj'
    rw [Nat.zero_add, this]
    simp [hj']
  refine (Tryd.slices_Reverse (fun n : Nat => Value.int .u8 (n : Int)) (fun _ => rfl) g 0 cap L w hH (by have := h.le; have := h.max; omega)).mono ?_
  rintro e w' ⟨rfl, n, rfl⟩
  refine ⟨rfl, ?_, fun B v hb hB => Go.Lib.below_putRow hb hB⟩
  have ho := h.own (Nat.le_refl g)
  have h2 := Go.Lib.ownsRow_putRow (q := n) (k := L.length) (ys := L.reverse) (zs := L) (enc := fun n : Nat => Value.int .u8 (n : Int)) ho.own (by simp) (Nat.le_refl _)
  rw [List.take_of_length_le (by simp)] at h2
  rcases Nat.eq_zero_or_pos L.length with h0 | h0
  · have : L = [] := List.eq_nil_of_length_eq_zero h0
    subst this
    refine ⟨by simp, by simp, h.max, ?_⟩
    obtain ⟨cur, hg, hs, ht⟩ := h.row
    exact ⟨Go.Sort.putCells (fun n : Nat => Value.int .u8 (n : Int)) 0 #[] cur, by simp [Go.Sort.putRow, Go.Sort.mapBlock, Go.Sort.ahead, Array.getElem?_modify, hg, Go.Sort.onCells], by simpa [Go.Sort.putCells] using hs, by simp [cellsB]⟩
  · have h3 : OwnB (Go.Sort.putRow (fun n : Nat => Value.int .u8 (n : Int)) (Go.Sort.ahead w n) g 0 L.reverse.toArray) g (.slice (some ⟨g, 0, none⟩) L.length cap) L.reverse :=
      ⟨fun x hx => h.lt x (List.mem_reverse.1 hx), by rw [List.length_reverse]; exact h2⟩
    obtain ⟨g', e1, e2, _, h4⟩ := h3.row (by simpa using h0)
    cases e1
    exact h4
theorem add_plain' (b o i : Nat) : (⟨b, o, none⟩ : Addr).add i = ⟨b, o + i, none⟩ := by unfold Addr.add; split <;> simp_all
/-- string(b) -/
theorem wpList_string (w : World) {ops : Array Oper} {rest : List Oper} {o : Oper} {a : Act} {Q : Exit → Act → World → Prop} (hg : o.guard = none) (x : Operand) (ho : o.op = .convert 57 9 x) (g cap : Nat) (l : List UInt8) (hx : a.eval x = .slice (some ⟨g, 0, none⟩) l.length cap)
    (hc : ∀ j (hj : j < l.length), w.cell? ⟨g, j, none⟩ = some (.int .u8 (l[j].toNat : Nat)))
    (hK : wpList Tryd.prog ops Q rest (a.put o.dst (.string ⟨l.toArray⟩)) w) : wpList Tryd.prog ops Q (o :: rest) a w := by
  have hr := run_convert_bytes_back (P := Tryd.prog) w 57 9 5 ⟨g, 0, none⟩ cap l undBytes undByte undStr (fun j hj => by rw [add_plain', Nat.zero_add]; exact hc j hj)
  refine wpList_plain hg fun K' hK' => ?_
  unfold Oper.wp
  simp [execOp, ho, hx, hr, Result.andThen]
  exact hK' _ _ hK
end Go.Proofs.YtkpikkeblogdcaaDoor
