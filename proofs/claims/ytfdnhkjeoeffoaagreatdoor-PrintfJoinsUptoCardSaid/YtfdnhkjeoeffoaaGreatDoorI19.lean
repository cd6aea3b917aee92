/- PrintfPlain, walked. -/
import Derived.Test.YtfdnhkjeoeffoaaGreatDoorI18
import Derived.Test.YtfdnhkjeoeffoaaGreatDoorM7
import Derived.Test.YtfdnhkjeoeffoaaGreatDoorZ3D
set_option linter.unusedVariables false
set_option linter.unusedSimpArgs false
namespace Go.Proofs.YtfdnhkjeoeffoaaGreatDoor
open Go.RowKit
set_option linter.unusedVariables false

theorem CellsAt.step {w w' : World} {v : Value} {L : List CellT} (h : CellsAt w w.heap.size v L) (hb : Below w.heap.size w w') : CellsAt w' w'.heap.size v L := by
  obtain ⟨a, cap, e, h1, h2, h3⟩ := h.below (Nat.le_refl _) hb
  refine ⟨a, cap, e, h1, h2, fun i hi => ?_⟩
  obtain ⟨b0, off, x1, x2, x3⟩ := h3 i hi
  exact ⟨b0, off, x1, Nat.lt_of_lt_of_le x2 hb.size, x3⟩
theorem made_at {w : World} {a : Option Addr} {n c : Nat} {L0 : List CellT} (hL : OnesR w a n L0) (hn : n ≤ 4000000000000) (hOk : ∀ e ∈ L0, e.2.1 < 18446744073709551616) (W : World) (hW : Below w.heap.size w W) :
    Calls Tryz.prog 34 #[.slice a n c] W fun e w' => (∃ v, e = .returned v ∧ CellsAt w' w'.heap.size v L0) ∧ Below W.heap.size W w' := by
  have hL2 := hL.below hW (Nat.le_refl _)
  refine (made11_any hL2 hn hOk).mono ?_
  rintro e w' ⟨⟨v, rfl, ho⟩, hb⟩
  exact ⟨⟨v, rfl, CellsAt.ofOwn ho hL.1 (by omega)⟩, hb⟩
end Go.Proofs.YtfdnhkjeoeffoaaGreatDoor
