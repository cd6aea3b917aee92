/- A list of strings that came in, opened, with the strings' sizes. -/
import Derived.Test.YtfdnhkjeoeffoaaGreatDoorI18
import Derived.Test.YtfdnhkjeoeffoaaGreatDoorM9
import Derived.ProofKit
import Derived.OpenShut
import Derived.ShutString
import Derived.ChangeOld
import Derived.SizedLaws
import Derived.SliceStrings
namespace Go.Proofs.YtfdnhkjeoeffoaaGreatDoor
open Go.ChangeShapes Go.WideShapes Go.ChangeAt Go.RowKit
set_option linter.unusedVariables false
theorem laidOut : laidOutB Tryz.prog = true := by kernel_rfl
theorem cellsStr : Tryz.prog.cellsOf 9 = 1 := by kernel_rfl
theorem lt_of_cell {W : World} {p : Addr} {v : Value} (h : W.cell? p = some v) : p.block < W.heap.size := by
 rcases Nat.lt_or_ge p.block W.heap.size with h' | h'
 ·exact h'
 ·unfold World.cell? at h
  rw [Array.getElem?_eq_none h'] at h
  cases h
theorem weights_all6 {H : Type} {P : Program} {e : TypeId} : ∀ {l : List (DataW H)} {d : DataW H}, d ∈ l → ∀ n ∈ DataW.weights P e d, n ∈ DataW.weightsAll P e l
 | d' :: l, d, hd, n, hn => by
   show n ∈ DataW.weights P e d' ++ DataW.weightsAll P e l
   rcases List.mem_cons.1 hd with rfl | hd
   ·exact List.mem_append_left _ hn
   ·exact List.mem_append_right _ (weights_all6 hd n hn)
theorem open_rowP {H : Type} {enc : TypeId × Value → H} {W : World} {a0 : Option Addr} {len cap fuel : Nat} {x : DataW H × List MemPlace}
 (hf : DataW.trod enc Tryz.prog W 0 (fun _ => true) true fuel 67 [.slice a0 len cap] = some x) (hw : ∀ n ∈ DataW.weights Tryz.prog 67 x.1, n ≤ reachBytes) : ∃ L : List ByteArray, RowP W (.slice a0 len cap) L ∧ L.length ≤ maxLen ∧ ∀ s ∈ L, s.size ≤ 140737488351232 := by
 rcases open_strings Tryz.underlying67 Tryz.underlying9 cellsStr hf with ⟨hcs, hx⟩ | ⟨a, len', cap', ss, hcs, _, hl, hm, hz, hx, hcell, _⟩
 ·simp at hcs
  obtain ⟨rfl, rfl, rfl⟩ := hcs
  exact ⟨[], ⟨none, 0, rfl, fun h => absurd h (by simp)⟩, Nat.zero_le _, fun s hs => by cases hs⟩
 ·simp at hcs
  obtain ⟨rfl, rfl, rfl⟩ := hcs
  simp only [if_true] at hz
  obtain ⟨b, off, spot⟩ := a
  have hlen : (ss.take len).length = len := by simp; omega
  refine ⟨ss.take len, ⟨_, cap, by rw [hlen], fun h0 => ?_⟩, by rw [hlen]; omega, fun s hs => ?_⟩
  ·rw [hlen] at h0
   have hspot : spot = none := by simpa [Addr.add] using World.cell?_spot (hcell 0 (by omega))
   subst hspot
   have hc : ∀ i, i < ss.length → W.cell? ⟨b, off + i, none⟩ = some (.string (ss.getD i ByteArray.empty)) := by
    intro i hi
    have := hcell i hi
    rw [Addr.add_lit] at this
    exact this
   refine ⟨b, off, rfl, lt_of_cell (hc 0 (by omega)), fun j s hj => ?_⟩
   rw [List.getElem?_take] at hj
   split at hj
   ·have hj2 : j < ss.length := (List.getElem?_eq_some_iff.1 hj).1
    rw [hc j hj2]
    simp [List.getD, hj]
   ·cases hj
  ·have h1 : s.data.toList.length ≤ reachBytes := by
    refine hw _ ?_
    rw [hx]
    simp only [DataW.weights, Tryz.underlying67]
    refine List.mem_cons_of_mem _ (List.mem_append_left _ ?_)
    refine weights_all6 (d := .lit (.string s.data.toList)) ?_ _ ?_
    ·exact List.mem_map.2 ⟨s, hs, rfl⟩
    ·simp [DataW.weights, Tryz.underlying9]
   have h2 : s.size = s.data.toList.length := sz_list s
   have h3 : reachBytes = 140737488351232 := rfl
   omega
end Go.Proofs.YtfdnhkjeoeffoaaGreatDoor
