/- FormatParses, walked. -/
import Derived.Test.YtjldeckcfdeklaaGreatDoorP25
import Derived.Test.YtjldeckcfdeklaaGreatDoorU5
import Derived.Test.YtjldeckcfdeklaaGreatDoorAW2
namespace Go.Proofs.YtjldeckcfdeklaaGreatDoor
open Go.RowKit
set_option linter.unusedVariables false

theorem cell_more5 {w : World} {o : Obj} {p : Addr} {v : Value} (h : w.cell? p = some v) : (w.alloc o).cell? p = some v := (World.cell?_alloc_old _ _ _ (Nat.ne_of_lt (cell_lt h))).trans h
set_option maxHeartbeats 8000000 in
set_option maxRecDepth 1000000 in
theorem parses5_walk (s : ByteArray) (i : Int) (w : World) (hT : Tabs5 w) (hs : s.size ≤ 140737488351232) (hi1 : -9223372036854775808 ≤ i) (hi2 : i ≤ 9223372036854775807) :
    Calls Tryz.prog 3 #[.string s, .int .i64 i] w fun e w' => e = .returned (.bool true) ∧ Below w.heap.size w w' := by
  have HF := Lib.hid (fixed5_any w hT.err hT.pow hT.utf)
  have HA := Lib.hid (fun W h => FParse_any s i W (by omega) h)
  have HR := Lib.hid (fun W => Parse5_any s i W (by omega))
  have HE := Lib.hid hT.err
  clear hT
  obtain ⟨b0, b1, b2, b3, b4, n0, n1, n2, c0, c1, n3, hA⟩ : ∃ (b0 b1 b2 b3 b4 : Bool) (n0 n1 n2 : Int) (c0 c1 : Bool) (n3 : Int), parseA s i = #[.bool b0, .bool b1, .bool b2, .bool b3, .bool b4, .int .i64 n0, .int .i64 n1, .int .u8 n2, .bool c0, .bool c1, .int .i64 n3] := by
    unfold parseA
    split
    · exact ⟨_, _, _, _, _, _, _, _, _, _, _, rfl⟩
    · exact ⟨_, _, _, _, _, _, _, _, _, _, _, rfl⟩
  rw [hA] at HA HR
  clear hA
  generalize parseE s i = E at *
  go_enter Tryz.func3, Tryz.ntmps3
  go_wp2_with fail
  refine HF.out.mono ?_
  rintro e w1 ⟨rfl, hb⟩
  have HB1 := Lib.hid hb
  clear hb
  go_wp2_with fail
  refine (HA.out _ (HE.out.below HB1.out)).mono ?_
  rintro e w2 ⟨rfl, hb⟩
  have HB2 := Lib.hid (HB1.out.trans (hb.mono HB1.out.size))
  clear hb
  go_wp2_with fail
  generalize hW : World.alloc _ _ = W
  have hp : PcAt W w2.heap.size #[.bool b0, .bool b1, .bool b2, .bool b3, .bool b4, .int .i64 n0, .int .i64 n1, .int .u8 n2, .bool c0, .bool c1, .int .i64 n3] := by rw [← hW]; exact heap_alloc_at w2 _
  have HBW : Hid (Below w.heap.size w W) := by rw [← hW]; exact HB2.out.alloc HB2.out.size _
  have HW := Lib.hid hW
  clear hW
  refine (HR.out _).mono ?_
  rintro e w3 ⟨rfl, hb⟩
  have hp3 := hp.below hb
  have HB3 := Lib.hid (HBW.out.trans (hb.mono HBW.out.size))
  have hlt := lt_of_heap hp3
  clear hb hp
  have x0 : w3.cell? ⟨w2.heap.size, 0, none⟩ = some (.bool b0) := hp3.cell 0
  have x1 : w3.cell? ⟨w2.heap.size, 1, none⟩ = some (.bool b1) := hp3.cell 1
  have x2 : w3.cell? ⟨w2.heap.size, 2, none⟩ = some (.bool b2) := hp3.cell 2
  have x3 : w3.cell? ⟨w2.heap.size, 3, none⟩ = some (.bool b3) := hp3.cell 3
  have x4 : w3.cell? ⟨w2.heap.size, 4, none⟩ = some (.bool b4) := hp3.cell 4
  have x5 : w3.cell? ⟨w2.heap.size, 5, none⟩ = some (.int .i64 n0) := hp3.cell 5
  have x6 : w3.cell? ⟨w2.heap.size, 6, none⟩ = some (.int .i64 n1) := hp3.cell 6
  have x7 : w3.cell? ⟨w2.heap.size, 7, none⟩ = some (.int .u8 n2) := hp3.cell 7
  have x8 : w3.cell? ⟨w2.heap.size, 8, none⟩ = some (.bool c0) := hp3.cell 8
  have x9 : w3.cell? ⟨w2.heap.size, 9, none⟩ = some (.bool c1) := hp3.cell 9
  have x10 : w3.cell? ⟨w2.heap.size, 10, none⟩ = some (.int .i64 n3) := hp3.cell 10
  have y0 : (w3.alloc (.cells #[.bool b0, .bool b1, .bool b2, .bool b3, .bool b4, .int .i64 n0, .int .i64 n1, .int .u8 n2, .bool c0, .bool c1, .int .i64 n3] 26)).cell? ⟨w2.heap.size, 0, none⟩ = some (.bool b0) := cell_more5 x0
  have y1 : (w3.alloc (.cells #[.bool b0, .bool b1, .bool b2, .bool b3, .bool b4, .int .i64 n0, .int .i64 n1, .int .u8 n2, .bool c0, .bool c1, .int .i64 n3] 26)).cell? ⟨w2.heap.size, 1, none⟩ = some (.bool b1) := cell_more5 x1
  have y2 : (w3.alloc (.cells #[.bool b0, .bool b1, .bool b2, .bool b3, .bool b4, .int .i64 n0, .int .i64 n1, .int .u8 n2, .bool c0, .bool c1, .int .i64 n3] 26)).cell? ⟨w2.heap.size, 2, none⟩ = some (.bool b2) := cell_more5 x2
  have y3 : (w3.alloc (.cells #[.bool b0, .bool b1, .bool b2, .bool b3, .bool b4, .int .i64 n0, .int .i64 n1, .int .u8 n2, .bool c0, .bool c1, .int .i64 n3] 26)).cell? ⟨w2.heap.size, 3, none⟩ = some (.bool b3) := cell_more5 x3
  have y4 : (w3.alloc (.cells #[.bool b0, .bool b1, .bool b2, .bool b3, .bool b4, .int .i64 n0, .int .i64 n1, .int .u8 n2, .bool c0, .bool c1, .int .i64 n3] 26)).cell? ⟨w2.heap.size, 4, none⟩ = some (.bool b4) := cell_more5 x4
  have y5 : (w3.alloc (.cells #[.bool b0, .bool b1, .bool b2, .bool b3, .bool b4, .int .i64 n0, .int .i64 n1, .int .u8 n2, .bool c0, .bool c1, .int .i64 n3] 26)).cell? ⟨w2.heap.size, 5, none⟩ = some (.int .i64 n0) := cell_more5 x5
  have y6 : (w3.alloc (.cells #[.bool b0, .bool b1, .bool b2, .bool b3, .bool b4, .int .i64 n0, .int .i64 n1, .int .u8 n2, .bool c0, .bool c1, .int .i64 n3] 26)).cell? ⟨w2.heap.size, 6, none⟩ = some (.int .i64 n1) := cell_more5 x6
  have y7 : (w3.alloc (.cells #[.bool b0, .bool b1, .bool b2, .bool b3, .bool b4, .int .i64 n0, .int .i64 n1, .int .u8 n2, .bool c0, .bool c1, .int .i64 n3] 26)).cell? ⟨w2.heap.size, 7, none⟩ = some (.int .u8 n2) := cell_more5 x7
  have y8 : (w3.alloc (.cells #[.bool b0, .bool b1, .bool b2, .bool b3, .bool b4, .int .i64 n0, .int .i64 n1, .int .u8 n2, .bool c0, .bool c1, .int .i64 n3] 26)).cell? ⟨w2.heap.size, 8, none⟩ = some (.bool c0) := cell_more5 x8
  have y9 : (w3.alloc (.cells #[.bool b0, .bool b1, .bool b2, .bool b3, .bool b4, .int .i64 n0, .int .i64 n1, .int .u8 n2, .bool c0, .bool c1, .int .i64 n3] 26)).cell? ⟨w2.heap.size, 9, none⟩ = some (.bool c1) := cell_more5 x9
  have y10 : (w3.alloc (.cells #[.bool b0, .bool b1, .bool b2, .bool b3, .bool b4, .int .i64 n0, .int .i64 n1, .int .u8 n2, .bool c0, .bool c1, .int .i64 n3] 26)).cell? ⟨w2.heap.size, 10, none⟩ = some (.int .i64 n3) := cell_more5 x10
  have HB4 : Hid (Below w.heap.size w (w3.alloc (.cells #[.bool b0, .bool b1, .bool b2, .bool b3, .bool b4, .int .i64 n0, .int .i64 n1, .int .u8 n2, .bool c0, .bool c1, .int .i64 n3] 26))) := HB3.out.alloc HB3.out.size _
  clear hp3
  go_wp2_with fail
  go_ret
  exact ⟨by simp, HB4.out⟩
end Go.Proofs.YtjldeckcfdeklaaGreatDoor
