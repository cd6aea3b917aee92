/- thresherlaw03.DecReads, walked. -/
import Derived.Test.YtcmpdamfeoaapaaDoorQ9
import Derived.Test.YtcmpdamfeoaapaaDoorM4
namespace Go.Proofs.YtcmpdamfeoaapaaDoor
open Go.RowKit
set_option linter.unusedVariables false

theorem reads_gen (s : ByteArray) (x : Int) (X E : Nat) (w : World) (hl : s.size ≤ 1100)
    (h1 : ∀ W, Calls Tryd.prog 6 #[.string s, .int .i64 x] W fun e w' => e = .returned (.tuple #[.float .f64 X, .int .i64 (E : Int)]) ∧ Below W.heap.size W w')
    (h2 : ∀ W, Calls Tryd.prog 7 #[.string s, .int .i64 x] W fun e w' => e = .returned (.tuple #[.float .f64 X, .int .i64 (E : Int)]) ∧ Below W.heap.size W w') :
    Calls Tryd.prog 3 #[.string s, .int .i64 x] w fun e w' => e = .returned (.bool true) ∧ Below w.heap.size w w' := by
  have hI : (s.size : Int) ≤ 1100 := by omega
  have H1 := Lib.hid h1; have H2 := Lib.hid h2
  clear h1 h2
  go_enter Tryd.func3, Tryd.ntmps3
  go_wp2_with fail
  refine (fixed_any w).mono ?_
  rintro e w1 ⟨rfl, hb1⟩
  have HB1 := Lib.hid hb1
  have hs1 := hb1.size
  clear hb1
  go_wp2_with fail
  refine (H1.out w1).mono ?_
  rintro e w2 ⟨rfl, hb2⟩
  have HB2 := Lib.hid (HB1.out.trans (hb2.mono hs1))
  have hs2 := HB2.out.size
  clear hb2 HB1 H1
  go_wp2_with fail
  refine (H2.out w2).mono ?_
  rintro e w3 ⟨rfl, hb3⟩
  have HB3 := Lib.hid (HB2.out.trans (hb3.mono hs2))
  clear hb3 HB2 H2
  go_wp2_with fail
  refine (same_any X X _).mono ?_
  rintro e w4 ⟨rfl, hw4⟩
  have HB4 : Hid (Below w.heap.size w w4) := by rw [hw4]; exact HB3.out
  clear hw4
  have hx : (X == X) = true := beq_self_eq_true X
  go_wp2_with fail
  go_ret
  exact ⟨by simp, HB4.out⟩
theorem reads_any (s : ByteArray) (x : Int) (w : World) (hs : s.size ≤ 140737488351232) (hx1 : -9223372036854775808 ≤ x) (hx2 : x ≤ 9223372036854775807) :
    Calls Tryd.prog 3 #[.string s, .int .i64 x] w fun e w' => e = .returned (.bool true) ∧ Below w.heap.size w w' := by
  have hsz : s.size = s.data.toList.length := by simp
  by_cases hbig : 1100 < s.size
  · have hI : (1100 : Int) < (s.size : Int) := by omega
    clear hsz
    go_enter Tryd.func3, Tryd.ntmps3
    go_wp2_with fail
    refine (fixed_any w).mono ?_
    rintro e w1 ⟨rfl, hb1⟩
    have HB1 := Lib.hid hb1
    clear hb1
    go_wp2_with fail
    go_ret
    exact ⟨rfl, HB1.out⟩
  by_cases hbad : s.data.toList = [] ∨ ¬ Digits s.data.toList
  · refine reads_gen s x 0 30 w (by omega) (fun W => Read_bad s x W (by omega) hbad) fun W => (Read3_bad s x W hbad (by omega)).mono ?_
    rintro e w' ⟨rfl, rfl⟩
    exact ⟨rfl, Below.refl _ _⟩
  have hne : s.data.toList ≠ [] := fun h => hbad (.inl h)
  have hd : Digits s.data.toList := Classical.byContradiction fun h => hbad (.inr h)
  by_cases hlong : 1024 < s.data.toList.length
  · exact reads_gen s x 0 3 w (by omega) (fun W => Read_long s x W (by omega) hd hlong) (fun W => Read3_long s x W hd (by omega) hlong)
  · exact reads_gen s x (readB s.data.toList x) 0 w (by omega) (fun W => Read_ok s x W hne hd (by omega) hx1 hx2) (fun W => Read3_ok s x W hne hd (by omega))
end Go.Proofs.YtcmpdamfeoaapaaDoor
