/- What the second form's bound says; the program's types lie as they are laid out. -/
import Derived.Test.YtmhjfdnpmfhmjaaDoorS15
import Derived.Test.YtmhjfdnpmfhmjaaDoorRows
import Derived.ChangeOld
namespace Go.Proofs.YtmhjfdnpmfhmjaaDoor
theorem laidOut : laidOutB Tryd.prog = true := by kernel_rfl
theorem bulk_sf {H : Type} {bs : List UInt8} {d : DataW H} (h : Rows.uptoSmall H [.lit (.string bs), d] = true) : bs.length ≤ 1048576 := by
  have h := of_decide_eq_true h
  simp only [Rows.uptoBulkAll, Rows.uptoBulk] at h
  omega
end Go.Proofs.YtmhjfdnpmfhmjaaDoor
