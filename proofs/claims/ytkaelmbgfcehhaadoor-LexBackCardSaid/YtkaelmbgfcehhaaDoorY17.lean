/- internal/bytealg.MaxLen holds some int. -/
import Derived.Test.YtkaelmbgfcehhaaDoorY3
set_option linter.unusedVariables false
set_option linter.unusedSimpArgs false
namespace Go.Proofs.YtkaelmbgfcehhaaDoor
open Go.RowKit
theorem max_of {W : World} (h : W.ShapedOpen Tryd.prog) : MaxOk W := by
  obtain ⟨m, hm⟩ := Tryd.laysM146.s1_3 W h
  exact ⟨m, hm⟩
end Go.Proofs.YtkaelmbgfcehhaaDoor
