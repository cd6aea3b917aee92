/- The document's example of arrays: it holds. -/
import Derived.Test.YtflbhifdololfaaGreatDoorA2
namespace Go.Proofs.YtflbhifdololfaaGreatDoor
open Go.RowKit
set_option linter.unusedVariables false

theorem new_arr (w : World) : ArrAt ((w.alloc (.map #[] 0)).alloc (.cells #[.map (some w.heap.size), .int .i64 0] 127)) (w.heap.size + 1) w.heap.size 0 #[] 0 :=
  ⟨by rw [show w.heap.size + 1 = (w.alloc (.map #[] 0)).heap.size by simp, heap_alloc_at], by rw [heap_alloc_lt _ _ _ (by simp), heap_alloc_at]⟩

abbrev sv (t k : Int) (n : Nat) (s : ByteArray) (x : Option Addr) : Value := .agg #[.int .i64 t, .int .i64 k, .float .f64 n, .string s, .pointer x]

set_option maxHeartbeats 1000000 in
theorem fixed_any (w : World) : Calls Tryz.prog 29 #[] w fun e w' => e = .returned (.bool true) ∧ Below w.heap.size w w' := by
  go_enter Tryz.func29, Tryz.ntmps29
  go_wp2_with fail
  refine (new_any _).mono ?_
  rintro e w1 ⟨rfl, hw1⟩
  have HA := Lib.hid (show ArrAt w1 (w.heap.size + 1) w.heap.size 0 #[] 0 by rw [hw1]; exact new_arr w)
  have HB := Lib.hid (show Below w.heap.size w w1 by rw [hw1]; exact ((Below.refl _ _).alloc (Nat.le_refl _) _).alloc (by simp) _)
  clear hw1
  go_wp2_with fail
  refine (of_any _ _).mono ?_
  rintro e w2 ⟨rfl, hb⟩
  have HA2 := Lib.hid (HA.out.below hb)
  have HB2 := Lib.hid (HB.out.trans (hb.mono HB.out.size))
  clear hb HA HB
  go_wp2_with fail
  refine (set_new _ _ _ _ _ _ _ _ _ _ HA2.out rfl (by omega) (by omega)).mono ?_
  rintro e w3 ⟨rfl, hA, hap⟩
  simp only [Int.zero_add, Nat.zero_add] at hA
  have HB3 := Lib.hid (HB2.out.trans (hap.below HB2.out.size (by simp)))
  have HA3 := Lib.hid hA
  clear hA hap HA2 HB2
  go_wp2_with fail
  refine (sub_new _ _ _ _ _ _ _ HA3.out (by rfl) (by intro v; rfl) (by omega) (by omega)).mono ?_
  rintro e w4 ⟨q, m', rfl, hA, hQ, hq, hm', hap⟩
  have hs3 := HB3.out.size
  have hl3 := HA3.out.ltp
  have HB4 := Lib.hid (HB3.out.trans (hap.below HB3.out.size (by simp)))
  have HA4 := Lib.hid hA
  have HQ4 := Lib.hid hQ
  clear hA hap HA3 HB3 hQ
  go_wp2_with fail
  refine (text_any _ _).mono ?_
  rintro e w5 ⟨rfl, hb⟩
  have HA5 := Lib.hid (HA4.out.below hb)
  have HQ5 := Lib.hid (HQ4.out.below hb)
  have HB5 := Lib.hid (HB4.out.trans (hb.mono HB4.out.size))
  clear hb HA4 HB4 HQ4
  go_wp2_with fail
  refine (set_new _ _ _ _ _ _ _ _ _ _ HQ5.out rfl (by omega) (by omega)).mono ?_
  rintro e w6 ⟨rfl, hQ, hap⟩
  have HB6 := Lib.hid (HB5.out.trans (hap.below HB5.out.size (by simp; omega)))
  have HA6 := Lib.hid (HA5.out.keep hap (by simp; omega) (by simp; omega))
  have HQ6 := Lib.hid hQ
  clear hap hQ HA5 HB5 HQ5
  go_wp2_with fail
  refine (sub_val _ _ _ 0 _ _ _ 1 1 _ _ _ HA6.out (by rfl)).mono ?_
  rintro e w7 ⟨rfl, hb⟩
  have HA7 := Lib.hid (HA6.out.below hb)
  have HQ7 := Lib.hid (HQ6.out.below hb)
  have HB7 := Lib.hid (HB6.out.trans (hb.mono HB6.out.size))
  clear hb HA6 HB6 HQ6
  go_wp2_with fail
  refine (set_arr _ _ _ 1 _ _ _ 2 0 _ _ _ _ _ _ _ HA7.out (by rfl)).mono ?_
  rintro e w8 ⟨rfl, hb⟩
  have HA8 := Lib.hid (HA7.out.below hb)
  have HQ8 := Lib.hid (HQ7.out.below hb)
  have HB8 := Lib.hid (HB7.out.trans (hb.mono HB7.out.size))
  clear hb HA7 HB7 HQ7
  go_wp2_with fail
  refine (len_any _ _ _ _ _ _ HA8.out).mono ?_
  rintro e w9 ⟨rfl, rfl⟩
  go_wp2_with fail
  have hT : Tot 2 w8 (w.heap.size + 1) 2 := by
    refine ⟨_, _, _, _, fun _ => 1, HA8.out, by simp, by simp [sumAll], ?_⟩
    intro e he
    simp at he
    rcases he with rfl | rfl
    · exact ⟨by simp, by simp, _, _, _, _, _, rfl, .inl ⟨rfl, rfl⟩⟩
    · refine ⟨by simp, by simp, _, _, _, _, _, rfl, .inr ⟨_, rfl, _, _, _, _, fun _ => 1, HQ8.out, by simp, by simp [sumAll], ?_⟩⟩
      intro e he
      simp at he
      subst he
      exact ⟨by simp, by simp, _, _, _, _, _, rfl, .inl ⟨rfl, rfl⟩⟩
  refine (Total_any 2 _ 2 _ hT (by omega)).mono ?_
  rintro e w10 ⟨rfl, hb⟩
  have HA10 := Lib.hid (HA8.out.below hb)
  have HB10 := Lib.hid (HB8.out.trans (hb.mono HB8.out.size))
  clear hb HA8 HB8 HQ8 hT
  go_wp2_with fail
  refine (kind_any _ _ _ _ _ _ (some (1, sv 2 0 0 ⟨#[]⟩ (some ⟨q, 0, none⟩))) _ _ _ _ _ _ HA10.out (by rfl) rfl).mono ?_
  rintro e w11 ⟨rfl, hb⟩
  rw [show kindOf (some (1, _)) (some _) = 2 from rfl]
  have HB11 := Lib.hid (HB10.out.trans (hb.mono HB10.out.size))
  clear hb HA10 HB10
  go_wp2_with fail
  go_ret
  exact ⟨rfl, HB11.out⟩
end Go.Proofs.YtflbhifdololfaaGreatDoor
