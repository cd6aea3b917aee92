/- thresherref15.Joined, and the law's size of all files. -/
import Derived.Test.YtmhjfdnpmfhmjaaDoorS20
namespace Go.Proofs.YtmhjfdnpmfhmjaaDoor
open Go.RowKit
set_option linter.unusedVariables false

theorem joinB_take {xs : List ByteArray} {k : Nat} {x : ByteArray} (h : xs[k]? = some x) : joinB (xs.take (k + 1)) = joinB (xs.take k) ++ x.data.toList := by
  obtain ⟨h1, h2⟩ := List.getElem?_eq_some_iff.1 h
  rw [List.take_add_one, h]
  simp [joinB]
theorem joinB_le (xs : List ByteArray) (k : Nat) : (joinB (xs.take k)).length ≤ (joinB xs).length := by
  have : joinB xs = joinB (xs.take k) ++ joinB (xs.drop k) := by
    unfold joinB; rw [← List.flatten_append, ← List.map_append, List.take_append_drop]
  rw [this, List.length_append]; omega
theorem B_app2 (t : Str) (x : ByteArray) : B t ++ x = B (t ++ x.data.toList) := by
  apply ByteArray.ext
  rw [ByteArray.data_append]
  show t.toArray ++ x.data = (t ++ x.data.toList).toArray
  simp

set_option maxHeartbeats 4000000 in
set_option maxRecDepth 100000 in
theorem Joined_any (v : Value) (xs : List ByteArray) (w : World) (h : ChunksR w v xs) (hs0 : sizeC xs ≤ 1100000) :
    Calls Tryd.prog 14 #[v] w fun e w' => e = .returned (.string (B (joinB xs))) ∧ w' = w := by
  have hs : (joinB xs).length ≤ 1100000 := by unfold sizeC at hs0; omega
  have hxl : xs.length ≤ 1100000 := by unfold sizeC at hs0; omega
  clear hs0
  rcases h with ⟨a, c, rfl, rfl⟩ | ⟨bk, o, c, rfl, hc, hlt, hlc⟩
  · go_enter Tryd.func14, Tryd.ntmps14
    go_wp2_with fail
    go_loop [3, 4] (fun v3 v4 => v3 = .string ⟨#[]⟩ ∧ v4 = .int .i64 0) (fun _ _ => 0)
    case atStart => exact ⟨rfl, rfl⟩
    case round =>
      obtain ⟨rfl, rfl⟩ := hrel
      go_wp2_with fail
      go_ret
      exact ⟨rfl, rfl⟩
  · obtain ⟨n, hn⟩ : ∃ n, n = xs.length := ⟨_, rfl⟩
    rw [← hn] at hlc hxl ⊢
    have HC := Lib.hid hc
    have HN := Lib.hid hn
    have HS := Lib.hid hs
    clear hc hn hs
    go_enter Tryd.func14, Tryd.ntmps14
    go_wp2_with fail
    go_loop [3, 4] (fun v3 v4 => ∃ (k : Nat) (t : ByteArray), v3 = .string t ∧ v4 = .int .i64 (k : Int) ∧ k ≤ n ∧ Hid (t = B (joinB (xs.take k)))) (fun _ v4 => n - natOf v4)
    case atStart => exact ⟨0, _, rfl, rfl, Nat.zero_le _, rfl⟩
    case round =>
      obtain ⟨k, t, rfl, rfl, hk, HT⟩ := hrel
      have hts : t.size ≤ 1100000 := by
        rw [HT.out, B_size]; have := joinB_le xs k; have := HS.out; omega
      by_cases hlt2 : k < n
      · have hltI : (k : Int) < (n : Int) := by omega
        obtain ⟨x, hx⟩ : ∃ x, xs[k]? = some x := ⟨xs[k]'(by rw [← HN.out]; exact hlt2), List.getElem?_eq_getElem _⟩
        have c1 := HC.out k x hx
        have hxs : t.size + x.size ≤ 1100000 := by
          rw [HT.out, B_size]
          have h1 := joinB_le xs (k + 1)
          rw [joinB_take hx, List.length_append] at h1
          have h2 := HS.out
          have h3 : x.size = x.data.toList.length := by simp
          omega
        have HX := Lib.hid hx
        clear hx
        go_wp2_with fail
        go_round
        case rel => exact ⟨k + 1, _, rfl, rfl, by omega, by rw [joinB_take HX.out, ← B_app2, HT.out]; exact rfl⟩
        case measure => simp only [natOf]; omega
      · have hltI : (n : Int) ≤ (k : Int) := by omega
        have hkn : k = n := by omega
        subst hkn
        go_wp2_with fail
        go_ret
        refine ⟨?_, rfl⟩
        rw [HT.out, HN.out, List.take_length]; rfl

def sizeL : List (ByteArray × List ByteArray) → Nat
  | [] => 0
  | p :: L => (joinB p.2).length + sizeL L
theorem sizeL_le : ∀ L : List (ByteArray × List ByteArray), sizeL L + L.length ≤ sizeF L
  | [] => Nat.le_refl _
  | p :: L => by have := sizeL_le L; simp only [sizeL, sizeF, sizeC, List.length_cons]; omega
theorem sizeC_le {L : List (ByteArray × List ByteArray)} {k : Nat} {p : ByteArray × List ByteArray} (h : L[k]? = some p) : sizeC p.2 ≤ sizeF L := by
  induction L generalizing k with
  | nil => cases h
  | cons a L ih =>
    cases k with
    | zero => simp at h; subst h; simp only [sizeF]; omega
    | succ k => have := ih (k := k) (by simpa using h); simp only [sizeF]; omega
theorem sizeL_append (L M : List (ByteArray × List ByteArray)) : sizeL (L ++ M) = sizeL L + sizeL M := by
  induction L with
  | nil => simp [sizeL]
  | cons p L ih => simp [sizeL, ih]; omega
theorem sizeL_take {L : List (ByteArray × List ByteArray)} {k : Nat} {p : ByteArray × List ByteArray} (h : L[k]? = some p) : sizeL (L.take (k + 1)) = sizeL (L.take k) + (joinB p.2).length := by
  rw [List.take_add_one, h, sizeL_append]; rfl
theorem sizeL_mono (L : List (ByteArray × List ByteArray)) (k : Nat) : sizeL (L.take k) ≤ sizeL L := by
  have : sizeL L = sizeL (L.take k ++ L.drop k) := by rw [List.take_append_drop]
  rw [this, sizeL_append]; omega
theorem ChunksR.below {w w' : World} {v : Value} {xs : List ByteArray} (h : ChunksR w v xs) (hb : Below w.heap.size w w') : ChunksR w' v xs := by
  rcases h with h | ⟨bk, o, c, h1, h2, h3, h4⟩
  · exact .inl h
  · exact .inr ⟨bk, o, c, h1, fun j x hj => (hb.cell (p := ⟨bk, o + j, none⟩) h3).trans (h2 j x hj), Nat.lt_of_lt_of_le h3 hb.size, h4⟩
theorem FilesR.below {w w' : World} {fv : Value} {L : List (ByteArray × List ByteArray)} (h : FilesR w fv L) (hb : Below w.heap.size w w') : FilesR w' fv L := by
  rcases h with h | ⟨bk, o, c, h1, h0, h2, h3⟩
  · exact .inl h
  · refine .inr ⟨bk, o, c, h1, h0, Nat.lt_of_lt_of_le h2 hb.size, fun j p hj => ?_⟩
    obtain ⟨v, a1, a2, a3⟩ := h3 j p hj
    exact ⟨v, (hb.cell (p := ⟨bk, o + j * 2, none⟩) h2).trans a1, (hb.cell (p := ⟨bk, o + j * 2 + 1, none⟩) h2).trans a2, a3.below hb⟩
theorem ChunksR.isSlice {w : World} {v : Value} {xs : List ByteArray} (h : ChunksR w v xs) : ∃ a n c, v = .slice a n c := by
  rcases h with ⟨a, c, rfl, _⟩ | ⟨bk, o, c, rfl, _⟩
  · exact ⟨_, _, _, rfl⟩
  · exact ⟨_, _, _, rfl⟩

set_option maxHeartbeats 4000000 in
set_option maxRecDepth 100000 in
theorem size_any (fv : Value) (L : List (ByteArray × List ByteArray)) (w : World) (h : FilesR w fv L) (hs0 : sizeF L ≤ 1100000) :
    Calls Tryd.prog 8 #[fv] w fun e w' => e = .returned (.int .i64 (sizeL L : Int)) ∧ Below w.heap.size w w' := by
  have hs : sizeL L ≤ 1100000 := by have := sizeL_le L; omega
  have hll : L.length ≤ 1100000 := by have := sizeL_le L; omega
  rcases h with ⟨a, c, rfl, rfl⟩ | ⟨bk, o, c, rfl, hlc, hlt, hc⟩
  · go_enter Tryd.func8, Tryd.ntmps8
    go_wp2_with fail
    go_loop [3, 8] (fun v3 v8 => v3 = .int .i64 0 ∧ v8 = .int .i64 0) (fun _ _ => 0)
    case atStart => exact ⟨rfl, rfl⟩
    case round =>
      obtain ⟨rfl, rfl⟩ := hrel
      go_wp2_with fail
      go_ret
      exact ⟨rfl, Below.refl _ _⟩
  · obtain ⟨n, hn⟩ : ∃ n, n = L.length := ⟨_, rfl⟩
    rw [← hn] at hlc hll ⊢
    have HF := Lib.hid (show FilesR w (.slice (some ⟨bk, o, none⟩) n c) L from .inr ⟨bk, o, c, by rw [hn], by rw [← hn]; exact hlc, hlt, hc⟩)
    have HC := Lib.hid hc
    have HN := Lib.hid hn
    have HS := Lib.hid hs
    have HL := Lib.hid hlt
    have HS0 := Lib.hid hs0
    clear hc hn hs hlt hs0
    go_enter Tryd.func8, Tryd.ntmps8
    go_wp2_with fail
    go_loopw [3, 8] (fun v3 v8 wr => ∃ (k m : Nat), v3 = .int .i64 (m : Int) ∧ v8 = .int .i64 (k : Int) ∧ k ≤ n ∧ m ≤ 1100000 ∧ Hid (m = sizeL (L.take k)) ∧ Hid (Below w.heap.size w wr)) (fun _ v8 _ => n - natOf v8)
    case atStart => exact ⟨0, 0, rfl, rfl, Nat.zero_le _, by omega, rfl, Below.refl _ _⟩
    case round =>
      obtain ⟨k, m, rfl, rfl, hk, hm, HT, HB⟩ := hrel
      by_cases hlt2 : k < n
      · have hltI : (k : Int) < (n : Int) := by omega
        obtain ⟨p, hp⟩ : ∃ p, L[k]? = some p := ⟨L[k]'(by rw [← HN.out]; exact hlt2), List.getElem?_eq_getElem _⟩
        obtain ⟨cv, h1, h2, h3⟩ := HC.out k p hp
        have c1 : wr.cell? ⟨bk, o + k * 2, none⟩ = some (.string p.1) := (HB.out.cell (p := ⟨bk, o + k * 2, none⟩) HL.out).trans h1
        have c2 : wr.cell? ⟨bk, o + k * 2 + 1, none⟩ = some cv := (HB.out.cell (p := ⟨bk, o + k * 2 + 1, none⟩) HL.out).trans h2
        obtain ⟨j, hj⟩ : ∃ j, j = (joinB p.2).length := ⟨_, rfl⟩
        have hjm : m + j ≤ 1100000 := by
          have h1 := sizeL_mono L (k + 1)
          rw [sizeL_take hp] at h1
          have h2 := HS.out
          have h3 := HT.out
          omega
        have h3w := h3.below HB.out
        have HJ := Lib.hid (fun W (hb : Below wr.heap.size wr W) => Joined_any cv p.2 W (h3w.below hb) (by have := sizeC_le hp; have := HS0.out; omega))
        obtain ⟨ca, cn, cc, rfl⟩ := h3.isSlice
        have hsz : (B (joinB p.2)).size = j := by rw [B_size, hj]
        obtain ⟨bj, hbj⟩ : ∃ b, b = B (joinB p.2) := ⟨_, rfl⟩
        rw [← hbj] at HJ hsz
        have HP := Lib.hid hp
        have HJj := Lib.hid hj
        clear h1 h2 h3 h3w hp hj hbj
        go_wp2_with fail
        refine (HJ.out _ ((Below.refl _ _).alloc (Nat.le_refl _) _)).mono ?_
        rintro e w' ⟨rfl, rfl⟩
        clear HJ
        go_wp2_with fail
        go_roundw
        case rel => exact ⟨k + 1, m + j, rfl, rfl, by omega, hjm, by rw [sizeL_take HP.out, ← HT.out, ← HJj.out]; exact rfl, HB.out.alloc HB.out.size _⟩
        case measure => simp only [natOf]; omega
      · have hltI : (n : Int) ≤ (k : Int) := by omega
        have hkn : k = n := by omega
        subst hkn
        go_wp2_with fail
        go_ret
        refine ⟨?_, HB.out⟩
        rw [HT.out, HN.out, List.take_length]; rfl
end Go.Proofs.YtmhjfdnpmfhmjaaDoor
