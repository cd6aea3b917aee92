/- Plain: the first power of ten that Sci tries is low enough. -/
import Derived.Test.YtkpikkeblogdcaaDoorR2
import Derived.KernelRfl
namespace Go.Proofs.YtkpikkeblogdcaaDoor
open Go

def exp0 (t : Int) : Int := (t * 30103).tdiv 100000 - 2
def lowOk (i : Nat) : Bool := decide (10 ^ (exp0 ((i : Int) - 1074)).toNat * 2 ^ (-((i : Int) - 1074)).toNat ≤ 2 ^ ((i : Int) - 1074).toNat * 10 ^ (-(exp0 ((i : Int) - 1074))).toNat)
theorem lowAll : (List.range 2100).all lowOk = true := by kernel_rfl
theorem low_ok {t : Int} (h1 : -1074 ≤ t) (h2 : t ≤ 1023) : 10 ^ (exp0 t).toNat * 2 ^ (-t).toNat ≤ 2 ^ t.toNat * 10 ^ (-(exp0 t)).toNat := by
  have h := List.all_eq_true.1 lowAll (t + 1074).toNat (List.mem_range.2 (by omega))
  have e : (((t + 1074).toNat : Nat) : Int) - 1074 = t := by omega
  unfold lowOk at h
  rw [e] at h
  exact of_decide_eq_true h
end Go.Proofs.YtkpikkeblogdcaaDoor
