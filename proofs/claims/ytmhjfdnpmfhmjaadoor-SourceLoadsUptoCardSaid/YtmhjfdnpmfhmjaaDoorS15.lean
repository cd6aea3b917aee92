/- Package source: what the row's shape says of internal/bytealg.MaxLen. -/
import Derived.Test.YtmhjfdnpmfhmjaaDoorS3
namespace Go.Proofs.YtmhjfdnpmfhmjaaDoor
theorem sz_list (s : ByteArray) : s.size = s.data.toList.length := by simp
theorem max_of {W : World} (h : W.ShapedOpen Tryd.prog) : MaxOk W := by
  obtain ⟨m, hm⟩ := Tryd.laysM144.s1_3 W h
  exact ⟨m, hm⟩
end Go.Proofs.YtmhjfdnpmfhmjaaDoor
