/- Plain: a text cut at its blanks; the words and signs of package lex. -/
import Derived.Test.YtkaelmbgfcehhaaDoorM2
import Derived.Test.YtkaelmbgfcehhaaDoorM4
import Derived.Test.YtkaelmbgfcehhaaDoorShelf
set_option linter.unusedVariables false
set_option linter.unusedSimpArgs false
namespace Go.Proofs.YtkaelmbgfcehhaaDoor
open Go.RowKit
set_option linter.unusedVariables false
set_option linter.unusedSimpArgs false

def cutSp : List UInt8 → List (List UInt8)
  | [] => [[]]
  | c :: t => if c = 32 then [] :: cutSp t else (c :: (cutSp t).headD []) :: (cutSp t).tail
def cutA : List UInt8 → List UInt8 → List (List UInt8)
  | acc, [] => [acc]
  | acc, c :: t => if c = 32 then acc :: cutA [] t else cutA (acc ++ [c]) t
theorem cutSp_ne (s : List UInt8) : cutSp s ≠ [] := by
  cases s with
  | nil => simp [cutSp]
  | cons c t => unfold cutSp; split <;> simp
theorem cutA_eq : ∀ (s acc : List UInt8), cutA acc s = (acc ++ (cutSp s).headD []) :: (cutSp s).tail
  | [], acc => by simp [cutA, cutSp]
  | c :: t, acc => by
    unfold cutA cutSp
    by_cases hc : c = 32
    · rw [if_pos hc, if_pos hc, cutA_eq t []]
      obtain ⟨a, l, e⟩ : ∃ a l, cutSp t = a :: l := by
        cases h : cutSp t with
        | nil => exact absurd h (cutSp_ne t)
        | cons a l => exact ⟨a, l, rfl⟩
      rw [e]
      simp
    · rw [if_neg hc, if_neg hc, cutA_eq t (acc ++ [c])]
      simp
theorem cutA_nil (s : List UInt8) : cutA [] s = cutSp s := by
  rw [cutA_eq]
  cases h : cutSp s with
  | nil => exact absurd h (cutSp_ne s)
  | cons a l => simp
theorem index_sp (s : List UInt8) : (32 ∈ s → ∃ i : Nat, Lib.index s [32] = (i : Int)) ∧ (32 ∉ s → Lib.index s [32] = -1) := by
  rw [Lib.index_one]
  induction s with
  | nil => exact ⟨fun h => (by cases h), fun _ => rfl⟩
  | cons c t ih =>
    unfold Lib.indexByte
    by_cases hc : c = 32
    · subst hc
      rw [if_pos (by rfl)]
      exact ⟨fun _ => ⟨0, rfl⟩, fun h => absurd (by simp) h⟩
    · rw [if_neg (by simpa using hc)]
      have hc' : ¬ (32 : UInt8) = c := fun e => hc e.symm
      constructor
      · intro h
        have h' : 32 ∈ t := by simpa [hc'] using h
        obtain ⟨i, hi⟩ := ih.1 h'
        refine ⟨i + 1, ?_⟩
        rw [if_neg (by rw [hi]; intro h; have := beq_iff_eq.1 h; omega), hi]
        rfl
      · intro h
        have h' : 32 ∉ t := by simpa [hc'] using h
        rw [if_pos (by rw [ih.2 h']; rfl)]
theorem splitK_sp (s : List UInt8) : Lib.splitK [32] 0 (s.count 32) s = cutSp s := by
  induction s with
  | nil => rfl
  | cons c t ih =>
    unfold cutSp
    by_cases hc : c = 32
    · subst hc
      rw [if_pos rfl, List.count_cons_self]
      have h0 : Lib.index (32 :: t) [32] = 0 := by rw [Lib.index_one]; rfl
      unfold Lib.splitK
      rw [h0, if_neg (by decide)]
      simpa using ih
    · rw [if_neg hc, List.count_cons_of_ne (by simpa using hc), ← ih]
      rcases hk : t.count 32 with _ | k
      · rfl
      · have hm : 32 ∈ t := List.count_pos_iff.1 (by omega)
        obtain ⟨i, hi⟩ := (index_sp t).1 hm
        have hi2 : Lib.index (c :: t) [32] = ((i + 1 : Nat) : Int) := by
          rw [Lib.index_one] at hi ⊢
          unfold Lib.indexByte
          rw [if_neg (by simpa using hc), if_neg (by rw [hi]; intro h; have := beq_iff_eq.1 h; omega), hi]
          rfl
        unfold Lib.splitK
        rw [hi, hi2, if_neg (by intro h; have := beq_iff_eq.1 h; omega), if_neg (by intro h; have := beq_iff_eq.1 h; omega)]
        simp
theorem bs_list (s : ByteArray) : bs s.data.toList = s := by
  apply ByteArray.ext
  simp [bs]
theorem bs_data (l : List UInt8) : (bs l).data.toList = l := by simp [bs]
theorem bs_app (a b : List UInt8) : bs a ++ bs b = bs (a ++ b) := by
  apply ByteArray.ext
  simp [bs]
theorem bs_size (a : List UInt8) : (bs a).size = a.length := by
  rw [size_list]
  simp [bs]
theorem split_sp (s : ByteArray) : Lib.splitB ⟨#[32]⟩ 0 (Lib.countB s ⟨#[32]⟩) s = (cutSp s.data.toList).map bs := by
  have h := Lib.splitB_data ⟨#[32]⟩ 0 (Lib.countB s ⟨#[32]⟩) s
  have hc : Lib.countB s ⟨#[32]⟩ = s.data.toList.count 32 := Lib.count_one 32 s.data.toList
  rw [hc] at h ⊢
  rw [show (⟨#[32]⟩ : ByteArray).data.toList = [32] from rfl, splitK_sp] at h
  rw [← h, List.map_map]
  have : (bs ∘ fun x : ByteArray => x.data.toList) = id := by funext x; exact bs_list x
  rw [this, List.map_id]
theorem count_sp (s : ByteArray) : Lib.countB s ⟨#[32]⟩ = s.data.toList.count 32 := Lib.count_one 32 s.data.toList

def builtinsS : ByteArray := ⟨#[97, 110, 100, 32, 97, 115, 111, 114, 116, 32, 97, 115, 111, 114, 116, 105, 32, 99, 108, 111, 115, 101, 32, 99, 111, 109, 112, 108, 32, 102, 102, 108, 117, 115, 104, 32, 103, 101, 110, 115, 117, 98, 32, 103, 115, 117, 98, 32, 105, 110, 100, 101, 120, 32, 105, 110, 116, 32, 105, 115, 97, 114, 114, 97, 121, 32, 108, 101, 110, 103, 116, 104, 32, 108, 115, 104, 105, 102, 116, 32, 109, 97, 116, 99, 104, 32, 109, 107, 116, 105, 109, 101, 32, 111, 114, 32, 112, 97, 116, 115, 112, 108, 105, 116, 32, 114, 97, 110, 100, 32, 114, 115, 104, 105, 102, 116, 32, 115, 112, 108, 105, 116, 32, 115, 112, 114, 105, 110, 116, 102, 32, 115, 114, 97, 110, 100, 32, 115, 116, 114, 102, 116, 105, 109, 101, 32, 115, 117, 98, 32, 115, 117, 98, 115, 116, 114, 32, 115, 121, 115, 116, 101, 109, 32, 115, 121, 115, 116, 105, 109, 101, 32, 116, 111, 108, 111, 119, 101, 114, 32, 116, 111, 117, 112, 112, 101, 114, 32, 116, 121, 112, 101, 111, 102, 32, 120, 111, 114]⟩
def wordsS : ByteArray := ⟨#[66, 69, 71, 73, 78, 32, 66, 69, 71, 73, 78, 70, 73, 76, 69, 32, 69, 78, 68, 32, 69, 78, 68, 70, 73, 76, 69, 32, 98, 114, 101, 97, 107, 32, 99, 97, 115, 101, 32, 99, 111, 110, 116, 105, 110, 117, 101, 32, 100, 101, 102, 97, 117, 108, 116, 32, 100, 101, 108, 101, 116, 101, 32, 100, 111, 32, 101, 108, 115, 101, 32, 101, 120, 105, 116, 32, 102, 111, 114, 32, 102, 117, 110, 99, 32, 102, 117, 110, 99, 116, 105, 111, 110, 32, 103, 101, 116, 108, 105, 110, 101, 32, 105, 102, 32, 105, 110, 32, 110, 101, 120, 116, 32, 110, 101, 120, 116, 102, 105, 108, 101, 32, 112, 114, 105, 110, 116, 32, 112, 114, 105, 110, 116, 102, 32, 114, 101, 116, 117, 114, 110, 32, 115, 119, 105, 116, 99, 104, 32, 119, 104, 105, 108, 101]⟩
def signsS : ByteArray := ⟨#[38, 38, 32, 124, 124, 32, 43, 43, 32, 45, 45, 32, 43, 61, 32, 45, 61, 32, 42, 61, 32, 47, 61, 32, 37, 61, 32, 94, 61, 32, 61, 61, 32, 60, 61, 32, 62, 61, 32, 33, 61, 32, 62, 62, 32, 33, 126, 32, 123, 32, 125, 32, 40, 32, 41, 32, 91, 32, 93, 32, 59, 32, 44, 32, 43, 32, 45, 32, 42, 32, 47, 32, 37, 32, 94, 32, 33, 32, 62, 32, 60, 32, 124, 32, 63, 32, 58, 32, 126, 32, 36, 32, 61, 32, 64]⟩
set_option maxRecDepth 100000 in
theorem cut_builtins : Lib.countB builtinsS ⟨#[32]⟩ = 30 ∧ Lib.splitB ⟨#[32]⟩ 0 30 builtinsS = builtinsL.map bs := by
  have h1 : Lib.countB builtinsS ⟨#[32]⟩ = 30 := by rw [count_sp]; decide +kernel
  have h2 := split_sp builtinsS
  rw [h1, ← cutA_nil, show cutA [] builtinsS.data.toList = builtinsL from by decide +kernel] at h2
  exact ⟨h1, h2⟩
set_option maxRecDepth 100000 in
theorem cut_words : Lib.countB wordsS ⟨#[32]⟩ = 24 ∧ Lib.splitB ⟨#[32]⟩ 0 24 wordsS = wordsL.map bs := by
  have h1 : Lib.countB wordsS ⟨#[32]⟩ = 24 := by rw [count_sp]; decide +kernel
  have h2 := split_sp wordsS
  rw [h1, ← cutA_nil, show cutA [] wordsS.data.toList = wordsL from by decide +kernel] at h2
  exact ⟨h1, h2⟩
set_option maxRecDepth 100000 in
theorem cut_signs : cutSp signsS.data.toList = signsL := by rw [← cutA_nil]; decide +kernel
end Go.Proofs.YtkaelmbgfcehhaaDoor
