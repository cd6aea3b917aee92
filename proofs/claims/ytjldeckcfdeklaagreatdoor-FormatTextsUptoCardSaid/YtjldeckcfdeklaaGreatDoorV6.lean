/- The document's answer of package format: many, Check. -/
import Derived.Test.YtjldeckcfdeklaaGreatDoorV5
import Derived.Test.YtjldeckcfdeklaaGreatDoorU4
import Derived.Test.YtjldeckcfdeklaaGreatDoorP24
import Derived.Test.YtjldeckcfdeklaaGreatDoorM2
namespace Go.Proofs.YtjldeckcfdeklaaGreatDoor
open Go.RowKit
set_option linter.unusedVariables false

/-- string(b) of no bytes -/
theorem wpList_string_nil (w : World) {ops : Array Oper} {rest : List Oper} {o : Oper} {a : Act} {Q : Exit → Act → World → Prop} (hg : o.guard = none) (x : Operand) (ho : o.op = .convert 93 9 x) (hx : a.eval x = .slice none 0 0)
    (hK : wpList Tryz.prog ops Q rest (a.put o.dst (.string ⟨#[]⟩)) w) : wpList Tryz.prog ops Q (o :: rest) a w := by
  have hr := run_convert_bytes_nil (P := Tryz.prog) (w := w) 93 5 undBytes undByte 0 0 9 undStr
  refine wpList_plain hg fun K' hK' => ?_
  unfold Oper.wp
  simp [execOp, ho, hx, hr, Result.andThen]
  exact hK' _ _ hK
theorem replicate_snoc {α : Type} (j : Nat) (c : α) : List.replicate j c ++ [c] = List.replicate (j + 1) c := by
  rw [← List.replicate_succ']
set_option maxHeartbeats 8000000 in
set_option maxRecDepth 1000000 in
theorem many_any (n : Int) (w : World) (hn : n ≤ 1000000) :
    Calls Tryz.prog 50 #[.int .u8 32, .int .i64 n] w fun e w' => e = .returned (.string (blanksB n.toNat)) ∧ Below w.heap.size w w' := by
  rcases Int.lt_or_le 0 n with h0 | h0
  · obtain ⟨m, rfl⟩ : ∃ m : Nat, n = (m : Int) := ⟨n.toNat, by omega⟩
    rw [Int.toNat_natCast]
    have hm : m ≤ 1000000 := by omega
    clear hn
    go_enter Tryz.func50, Tryz.ntmps50
    go_wp2_with fail
    go_loopw [5, 6] (fun o i wr => ∃ j : Nat, i = .int .i64 (j : Nat) ∧ j ≤ m ∧ Hid (OwnB wr w.heap.size o (List.replicate j 32)) ∧ Hid (Below w.heap.size w wr)) (fun _ i _ => m - (intOf i).toNat)
    case atStart => exact ⟨0, rfl, Nat.zero_le _, OwnB.nil _ _, Below.refl _ _⟩
    case round =>
      obtain ⟨j, rfl, hj, HO, HB⟩ := hrel
      have hgs := HB.out.size
      rcases Nat.lt_or_ge j m with hlt | hge
      · have hI : (j : Int) < (m : Int) := by omega
        go_wp2_with (
          at_builtin
          go_loud (refine wpList_appB _ rfl _ _ rfl w.heap.size _ (List.replicate j 32) rfl (OwnB.alloc HO.out _) wr.heap.size 32 rfl (by simp [go_sem]) (by omega) (by simp; omega) (by simp; omega) ?_)
          intro v1 w3 hown1 hgr1
          rw [replicate_snoc] at hown1
          have HO1 := Lib.hid hown1
          have HB3 := Lib.hid ((HB.out.alloc hgs _).grown hgr1 (by simp; omega) (fun x hx => (HO.out.own.lt x hx).1))
          clear hown1 hgr1)
        go_wp2_with fail
        go_roundw
        case rel => exact ⟨j + 1, by simp, by omega, HO1, HB3⟩
        case measure => simp only [intOf]; omega
      · obtain rfl : j = m := by omega
        rcases HO.out.slice with ⟨rfl, hnil⟩ | ⟨g, cap, rfl, hbg, hrow⟩
        · exfalso
          have := congrArg List.length hnil
          simp at this
          omega
        have hT : ∀ k (hk : k < (List.replicate j (32 : UInt8)).length), wr.cell? ⟨g, k, none⟩ = some (.int .u8 ((List.replicate j (32 : UInt8))[k].toNat : Nat)) := by
          intro k hk
          have h1 := hrow.cell k (by simpa using hk)
          rw [h1]
          simp
        have HTT := Lib.hid hT
        have hlen : (List.replicate j (32 : UInt8)).length = j := by simp
        clear hT hrow HO
        rw [List.length_replicate]
        have HB2 := HB
        go_wp2_with (refine wpList_string _ rfl _ rfl g cap (List.replicate j 32) (by rw [hlen]; rfl) HTT.out ?_)
        go_ret
        exact ⟨rfl, HB2.out⟩
  · have hz : n.toNat = 0 := by omega
    rw [hz]
    have hd : decide (0 < n) = false := by simp; omega
    clear hz
    go_enter Tryz.func50, Tryz.ntmps50
    go_wp2_with fail
    refine wp_loop_rounds 1 ?_
    rw [rounds_succ]
    go_wp2_with (refine wpList_string_nil _ rfl _ rfl rfl ?_)
    go_ret
    exact ⟨rfl, Below.refl _ _⟩
end Go.Proofs.YtjldeckcfdeklaaGreatDoor
