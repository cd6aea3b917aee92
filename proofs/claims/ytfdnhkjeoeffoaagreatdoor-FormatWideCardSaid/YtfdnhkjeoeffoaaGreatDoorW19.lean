/- FormatWide's helpers. -/
import Derived.Test.YtfdnhkjeoeffoaaGreatDoorW16
import Derived.Test.YtfdnhkjeoeffoaaGreatDoorM9
import Derived.Test.YtfdnhkjeoeffoaaGreatDoorV10
import Derived.Test.YtfdnhkjeoeffoaaGreatDoorZ1
namespace Go.Proofs.YtfdnhkjeoeffoaaGreatDoor
open Go.RowKit
set_option linter.unusedVariables false

set_option maxHeartbeats 8000000 in
set_option maxRecDepth 1000000 in
theorem blanks_any (m : Nat) (w : World) (hm : m ≤ 1000000) :
    Calls Tryz.prog 26 #[.int .i64 (m : Int)] w fun e w' => e = .returned (.string (blanksB m)) ∧ Below w.heap.size w w' := by
  rcases Nat.eq_zero_or_pos m with h0 | h0
  · subst h0
    go_enter Tryz.func26, Tryz.ntmps26
    go_wp2_with fail
    refine wp_loop_rounds 1 ?_
    rw [rounds_succ]
    go_wp2_with (refine wpList_string_nil _ rfl _ rfl rfl ?_)
    go_ret
    exact ⟨rfl, Below.refl _ _⟩
  · have HM := Lib.hid h0
    clear h0
    go_enter Tryz.func26, Tryz.ntmps26
    go_wp2_with fail
    go_loopw [3, 4] (fun o i wr => ∃ j : Nat, i = .int .i64 (j : Nat) ∧ j ≤ m ∧ Hid (OwnB wr w.heap.size o (List.replicate j 32)) ∧ Hid (Below w.heap.size w wr)) (fun _ i _ => m - (intOf i).toNat)
    case atStart => exact ⟨0, rfl, Nat.zero_le _, OwnB.nil _ _, Below.refl _ _⟩
    case round =>
      obtain ⟨j, rfl, hj, HO, HB⟩ := hrel
      have hgs := HB.out.size
      rcases Nat.lt_or_ge j m with hlt | hge
      · have hI : (j : Int) < (m : Int) := by omega
        go_wp2_with (
          at_builtin
          go_loud (refine wpList_appB _ rfl _ _ rfl w.heap.size _ (List.replicate j 32) rfl (OwnB.alloc HO.out _) wr.heap.size 32 rfl (by simp [go_sem]) (by omega) (by simp; omega) (by simp; omega) ?_)
          intro v1 w3 hown1 hgr1
          rw [replicate_snoc] at hown1
          have HO1 := Lib.hid hown1
          have HB3 := Lib.hid ((HB.out.alloc hgs _).grown hgr1 (by simp; omega) (fun x hx => (HO.out.own.lt x hx).1))
          clear hown1 hgr1)
        go_wp2_with fail
        go_roundw
        case rel => exact ⟨j + 1, by simp, by omega, HO1, HB3⟩
        case measure => simp only [intOf]; omega
      · obtain rfl : j = m := by omega
        rcases HO.out.slice with ⟨rfl, hnil⟩ | ⟨g, cap, rfl, hbg, hrow⟩
        · exfalso
          have := congrArg List.length hnil
          have := HM.out
          simp at *
          omega
        have hT : ∀ k (hk : k < (List.replicate j (32 : UInt8)).length), wr.cell? ⟨g, k, none⟩ = some (.int .u8 ((List.replicate j (32 : UInt8))[k].toNat : Nat)) := by
          intro k hk
          have h1 := hrow.cell k (by simpa using hk)
          rw [h1]
          simp
        have HTT := Lib.hid hT
        have hlen : (List.replicate j (32 : UInt8)).length = j := by simp
        clear hT hrow HO
        rw [List.length_replicate]
        have HB2 := HB
        go_wp2_with (refine wpList_string _ rfl _ rfl g cap (List.replicate j 32) (by rw [hlen]; rfl) HTT.out ?_)
        go_ret
        exact ⟨rfl, HB2.out⟩
end Go.Proofs.YtfdnhkjeoeffoaaGreatDoor
