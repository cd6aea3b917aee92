/- sorts.by: which comparison, and whether it falls. -/
import Derived.Test.YtflbhifdololfaaGreatDoorH5
import Derived.Lib.Strings
namespace Go.Proofs.YtflbhifdololfaaGreatDoor
open Go.RowKit
set_option linter.unusedVariables false

def kn0 : ByteArray := ⟨#[64, 105, 110, 100, 95, 115, 116, 114]⟩
def kn1 : ByteArray := ⟨#[64, 105, 110, 100, 95, 110, 117, 109]⟩
def kn2 : ByteArray := ⟨#[64, 118, 97, 108, 95, 115, 116, 114]⟩
def kn3 : ByteArray := ⟨#[64, 118, 97, 108, 95, 110, 117, 109]⟩
def kn4 : ByteArray := ⟨#[64, 118, 97, 108, 95, 116, 121, 112, 101]⟩
def fv (n : Nat) : Value := .func (.func n) #[] #[]
/-- which of the five comparisons a name means -/
inductive Cmp5 where | keys | numbers | texts | amounts | types
def Cmp5.num : Cmp5 → Nat
  | .keys => 94
  | .numbers => 95
  | .texts => 96
  | .amounts => 97
  | .types => 98
def cmpOf (nm : ByteArray) : Option Cmp5 := if nm = kn0 then some .keys else if nm = kn1 then some .numbers else if nm = kn2 then some .texts else if nm = kn3 then some .amounts else if nm = kn4 then some .types else none
def cmpV : Option Cmp5 → Value
  | some c => fv c.num
  | none => .nilFunc
def fents : List (ByteArray × Nat) := [(kn0, 94), (kn1, 95), (kn2, 96), (kn3, 97), (kn4, 98)]
def fes (n : Nat) : Array MapEntry := ((fents.take n).zipIdx.map fun p => (⟨.string p.1.1, fv p.1.2, p.2⟩ : MapEntry)).toArray
theorem undFmap : Tryz.prog.underlying 167 = some (.map 9 112) := by kernel_rfl
theorem undStrH : Tryz.prog.underlying 9 = some .string := by kernel_rfl
theorem checkKeyH (b : Bool) (n : Nat) (k : ByteArray) (w : World) : (Instr.checkKey b (n + 1) 9 (.string k)).run Tryz.prog w = .ok () w := by
  simp [Instr.checkKey, run_underlying undStrH]
theorem setObj_alloc (w : World) (o o' : Obj) : (w.alloc o).setObj' w.heap.size o' = w.alloc o' := by
  unfold World.setObj' World.alloc
  congr 1
  apply Array.ext'
  simp [Array.setIfInBounds]
theorem run_ins0 (W : World) (m : Nat) (es : Array MapEntry) (c : Nat) (k : ByteArray) (v : Value) (hm : W.heap[m]? = some (.map es c)) (hf : Instr.findNow .string (.string k) es.toList 0 = some none) :
    (Instr.mapUpdate 167 (.map (some m)) (.string k) v).run Tryz.prog W = .ok () (W.setObj' m (.map (es.push ⟨.string k, v, c⟩) (c + 1))) := by
  unfold Instr.mapUpdate
  have hc := checkKeyH false 9999 k W
  simp only [show (9999 + 1) = 10000 from rfl] at hc
  simp [run_underlying undFmap, getObj, setObj, Sem.run, hm, hc, run_underlying undStrH, Instr.findKey, hf, World.setObj']
theorem run_ins (w : World) (es : Array MapEntry) (c : Nat) (k : ByteArray) (v : Value) (hf : Instr.findNow .string (.string k) es.toList 0 = some none) :
    (Instr.mapUpdate 167 (.map (some w.heap.size)) (.string k) v).run Tryz.prog (w.alloc (.map es c)) = .ok () (w.alloc (.map (es.push ⟨.string k, v, c⟩) (c + 1))) := by
  rw [run_ins0 (w.alloc (.map es c)) w.heap.size es c k v (heap_alloc_at w (.map es c)) hf, setObj_alloc]
theorem ins_all (w : World) : ∀ (i : Nat) k f, fents[i]? = some (k, f) → (Instr.mapUpdate 167 (.map (some w.heap.size)) (.string k) (fv f)).run Tryz.prog (w.alloc (.map (fes i) i)) = .ok () (w.alloc (.map (fes (i + 1)) (i + 1))) := by
  intro i k f h
  have h5 : i < 5 := (List.getElem?_eq_some_iff.1 h).1
  have e : (Instr.findNow .string (.string k) (fes i).toList 0 = some none) ∧ fes (i + 1) = (fes i).push ⟨.string k, fv f, i⟩ := by
    match i, h5, h with
    | 0, _, h => cases h; exact ⟨by kernel_rfl, by kernel_rfl⟩
    | 1, _, h => cases h; exact ⟨by kernel_rfl, by kernel_rfl⟩
    | 2, _, h => cases h; exact ⟨by kernel_rfl, by kernel_rfl⟩
    | 3, _, h => cases h; exact ⟨by kernel_rfl, by kernel_rfl⟩
    | 4, _, h => cases h; exact ⟨by kernel_rfl, by kernel_rfl⟩
  rw [e.2]
  exact run_ins w (fes i) i k (fv f) e.1
theorem ba_eq {a b : ByteArray} (h : (a == b) = true) : a = b := by
  obtain ⟨x⟩ := a
  obtain ⟨y⟩ := b
  have h2 : (x == y) = true := h
  rw [eq_of_beq h2]
/-- what the map tells of a name -/
theorem find_f (nm : ByteArray) : ∃ r, Instr.findNow .string (.string nm) (fes 5).toList 0 = some r ∧ ((cmpOf nm = none ∧ r = none) ∨ ∃ j, r = some (j, cmpV (cmpOf nm))) := by
  have e : ∀ (k : ByteArray) v n L i, Instr.findNow .string (.string nm) ((⟨.string k, v, n⟩ : MapEntry) :: L) i = if nm = k then some (some (i, v)) else Instr.findNow .string (.string nm) L (i + 1) := by
    intro k v n L i
    show (match Instr.sameNow .string (.string nm) (.string k) with | some true => some (some (i, v)) | some false => Instr.findNow .string (.string nm) L (i + 1) | none => none) = _
    have hs : Instr.sameNow .string (.string nm) (.string k) = some (nm == k) := rfl
    rw [hs]
    by_cases h : nm = k
    · subst h; rw [if_pos rfl, ba_beq]
    · rw [if_neg h]
      have : (nm == k) = false := by
        cases hb : nm == k with
        | false => rfl
        | true => exact absurd (ba_eq hb) h
      rw [this]
  have h5 : (fes 5).toList = [⟨.string kn0, fv 94, 0⟩, ⟨.string kn1, fv 95, 1⟩, ⟨.string kn2, fv 96, 2⟩, ⟨.string kn3, fv 97, 3⟩, ⟨.string kn4, fv 98, 4⟩] := rfl
  rw [h5, e, e, e, e, e]
  unfold cmpOf
  by_cases h0 : nm = kn0
  · rw [if_pos h0, if_pos h0]; exact ⟨_, rfl, .inr ⟨0, rfl⟩⟩
  rw [if_neg h0, if_neg h0]
  by_cases h1 : nm = kn1
  · rw [if_pos h1, if_pos h1]; exact ⟨_, rfl, .inr ⟨_, rfl⟩⟩
  rw [if_neg h1, if_neg h1]
  by_cases h2 : nm = kn2
  · rw [if_pos h2, if_pos h2]; exact ⟨_, rfl, .inr ⟨_, rfl⟩⟩
  rw [if_neg h2, if_neg h2]
  by_cases h3 : nm = kn3
  · rw [if_pos h3, if_pos h3]; exact ⟨_, rfl, .inr ⟨_, rfl⟩⟩
  rw [if_neg h3, if_neg h3]
  by_cases h4 : nm = kn4
  · rw [if_pos h4, if_pos h4]; exact ⟨_, rfl, .inr ⟨_, rfl⟩⟩
  rw [if_neg h4, if_neg h4]
  exact ⟨_, rfl, .inl ⟨rfl, rfl⟩⟩
theorem look_all0 (W : World) (m : Nat) (nm : ByteArray) (hm : W.heap[m]? = some (.map (fes 5) 5)) : (Instr.lookup 167 (.map (some m)) (.string nm) false).run Tryz.prog W = .ok (cmpV (cmpOf nm)) W := by
  obtain ⟨r, hf, hr⟩ := find_f nm
  unfold Instr.lookup
  have hc := checkKeyH (fes 5).isEmpty 9999 nm W
  simp only [show (9999 + 1) = 10000 from rfl] at hc
  rcases hr with ⟨h1, rfl⟩ | ⟨j, rfl⟩
  · simp [run_underlying undFmap, getObj, Sem.run, hm, hc, run_underlying undStrH, Instr.findKey, hf, h1, cmpV]
  · simp [run_underlying undFmap, getObj, Sem.run, hm, hc, run_underlying undStrH, Instr.findKey, hf]
theorem look_all (w : World) (nm : ByteArray) : (Instr.lookup 167 (.map (some w.heap.size)) (.string nm) false).run Tryz.prog (w.alloc (.map (fes 5) 5)) = .ok (cmpV (cmpOf nm)) (w.alloc (.map (fes 5) 5)) :=
  look_all0 _ _ nm (heap_alloc_at w (.map (fes 5) 5))
/-- what by answers -/
def byO (how : ByteArray) : Option Cmp5 × Bool := if Lib.hasSuffix how.data.toList desc.data.toList then (cmpOf ⟨(Lib.trimSuffix how.data.toList desc.data.toList).toArray⟩, true)
  else if Lib.hasSuffix how.data.toList asc.data.toList then (cmpOf ⟨(Lib.trimSuffix how.data.toList asc.data.toList).toArray⟩, false) else (none, false)
/-- what strings.CutSuffix answers -/
def CutOk : Prop := ∀ (s p : ByteArray) (w : World), s.size ≤ 9223372036854775807 →
  Calls Tryz.prog 93 #[.string s, .string p] w fun e w' => e = .returned (.tuple #[.string ⟨(Lib.trimSuffix s.data.toList p.data.toList).toArray⟩, .bool (Lib.hasSuffix s.data.toList p.data.toList)]) ∧ w' = w
set_option maxRecDepth 100000 in
theorem by_tail (how nm0 nm : ByteArray) (b : Bool) (w : World) (h1 : ∀ W, Calls Tryz.prog 93 #[.string how, .string desc] W fun e w' => e = .returned (.tuple #[.string nm0, .bool b]) ∧ w' = W) (hb : b = true → nm0 = nm)
    (h2 : b = false → ∀ W, Calls Tryz.prog 93 #[.string how, .string asc] W fun e w' => e = .returned (.tuple #[.string nm, .bool true]) ∧ w' = W) :
    Calls Tryz.prog 58 #[.string how] w fun e w' => e = .returned (.tuple #[cmpV (cmpOf nm), .bool b]) ∧ Below w.heap.size w w' := by
  have H1 := Lib.hid h1
  have H2 := Lib.hid h2
  unfold desc at H1
  unfold asc at H2
  have hmm := @run_makeMap Tryz.prog
  have i0 := fun w => ins_all w 0 kn0 94 rfl
  have i1 := fun w => ins_all w 1 kn1 95 rfl
  have i2 := fun w => ins_all w 2 kn2 96 rfl
  have i3 := fun w => ins_all w 3 kn3 97 rfl
  have i4 := fun w => ins_all w 4 kn4 98 rfl
  have lk := fun w => look_all w nm
  simp only [show fes 0 = #[] from rfl] at i0
  simp only [Nat.reduceAdd] at i0 i1 i2 i3 i4
  generalize fes 1 = m1 at *
  generalize fes 2 = m2 at *
  generalize fes 3 = m3 at *
  generalize fes 4 = m4 at *
  generalize fes 5 = m5 at *
  generalize cmpV (cmpOf nm) = V at *
  unfold kn0 at i0
  unfold kn1 at i1
  unfold kn2 at i2
  unfold kn3 at i3
  unfold kn4 at i4
  unfold fv at i0 i1 i2 i3 i4
  clear h1 h2
  cases b
  · clear hb
    go_enter Tryz.func58, Tryz.ntmps58
    go_wp2_with fail
    refine (H1.out _).mono ?_
    rintro e w1 ⟨rfl, rfl⟩
    go_wp2_with fail
    refine (H2.out trivial _).mono ?_
    rintro e w2 ⟨rfl, rfl⟩
    go_wp2_with fail
    go_ret2
    exact ⟨rfl, (Below.refl _ _).alloc (Nat.le_refl _) _⟩
  · obtain rfl := hb rfl
    go_enter Tryz.func58, Tryz.ntmps58
    go_wp2_with fail
    refine (H1.out _).mono ?_
    rintro e w1 ⟨rfl, rfl⟩
    go_wp2_with fail
    go_ret2
    exact ⟨rfl, (Below.refl _ _).alloc (Nat.le_refl _) _⟩
set_option maxRecDepth 100000 in
theorem by_none (how n1 n2 : ByteArray) (w : World) (h1 : ∀ W, Calls Tryz.prog 93 #[.string how, .string desc] W fun e w' => e = .returned (.tuple #[.string n1, .bool false]) ∧ w' = W)
    (h2 : ∀ W, Calls Tryz.prog 93 #[.string how, .string asc] W fun e w' => e = .returned (.tuple #[.string n2, .bool false]) ∧ w' = W) :
    Calls Tryz.prog 58 #[.string how] w fun e w' => e = .returned (.tuple #[.nilFunc, .bool false]) ∧ Below w.heap.size w w' := by
  have H1 := Lib.hid h1
  have H2 := Lib.hid h2
  unfold desc at H1
  unfold asc at H2
  clear h1 h2
  go_enter Tryz.func58, Tryz.ntmps58
  go_wp2_with fail
  refine (H1.out _).mono ?_
  rintro e w1 ⟨rfl, rfl⟩
  go_wp2_with fail
  refine (H2.out _).mono ?_
  rintro e w2 ⟨rfl, rfl⟩
  go_wp2_with fail
  go_ret2
  exact ⟨rfl, Below.refl _ _⟩
theorem by_any (hC : CutOk) (how : ByteArray) (w : World) (hs : how.size ≤ 9223372036854775807) :
    Calls Tryz.prog 58 #[.string how] w fun e w' => e = .returned (.tuple #[cmpV (byO how).1, .bool (byO how).2]) ∧ Below w.heap.size w w' := by
  have h1 := fun W => hC how desc W hs
  have h2 := fun W => hC how asc W hs
  unfold byO
  cases hd : Lib.hasSuffix how.data.toList desc.data.toList with
  | true =>
    rw [if_pos rfl]
    rw [hd] at h1
    exact by_tail how _ _ true w h1 (fun _ => rfl) (fun h => by cases h)
  | false =>
    rw [if_neg (by decide)]
    rw [hd] at h1
    cases ha : Lib.hasSuffix how.data.toList asc.data.toList with
    | true =>
      rw [if_pos rfl]
      rw [ha] at h2
      exact by_tail how _ _ false w h1 (fun h => by cases h) (fun _ => h2)
    | false =>
      rw [if_neg (by decide)]
      rw [ha] at h2
      exact by_none how _ _ w h1 h2
end Go.Proofs.YtflbhifdololfaaGreatDoor
