/- thresherlaw03.DecWrites, walked. -/
import Derived.Test.YtcmpdamfeoaapaaDoorQ14
import Derived.Test.YtcmpdamfeoaapaaDoorP14
import Derived.Test.YtcmpdamfeoaapaaDoorM4
namespace Go.Proofs.YtcmpdamfeoaapaaDoor
open Go.RowKit
set_option linter.unusedVariables false

set_option maxRecDepth 100000 in
set_option maxHeartbeats 4000000 in
theorem writes_gen (b : Nat) (p : Int) (S D : ByteArray) (E X G : Int) (w : World) (hb : b < 18446744073709551616)
    (h1 : ∀ W, Calls Tryd.prog 10 #[.float .f64 b, .int .i64 p] W fun e w' => e = .returned (.tuple #[.string S, .int .i64 E]) ∧ Below W.heap.size W w')
    (h2 : ∀ W, Calls Tryd.prog 11 #[.float .f64 b, .int .i64 p] W fun e w' => e = .returned (.tuple #[.string S, .int .i64 E]) ∧ Below W.heap.size W w')
    (h3 : ∀ W, Calls Tryd.prog 12 #[.float .f64 b, .int .i64 p] W fun e w' => e = .returned (.tuple #[.string D, .int .i64 X, .int .i64 G]) ∧ Below W.heap.size W w')
    (h4 : ∀ W, Calls Tryd.prog 13 #[.float .f64 b, .int .i64 p] W fun e w' => e = .returned (.tuple #[.string D, .int .i64 X, .int .i64 G]) ∧ Below W.heap.size W w') :
    Calls Tryd.prog 4 #[.int .u64 (b : Nat), .int .i64 p] w fun e w' => e = .returned (.bool true) ∧ Below w.heap.size w w' := by
  have H1 := Lib.hid h1; have H2 := Lib.hid h2; have H3 := Lib.hid h3; have H4 := Lib.hid h4
  have H5 := Lib.hid (fun W => Parts_any b W hb)
  have H6 := Lib.hid (fun W => Parts3_any b W hb)
  generalize mant b = m at *
  generalize expo b = x at *
  generalize fin b = F at *
  clear h1 h2 h3 h4
  go_enter Tryd.func4, Tryd.ntmps4
  go_wp2_with fail
  refine (fixed_any w).mono ?_
  rintro e w1 ⟨rfl, hb1⟩
  have HB1 := Lib.hid hb1
  have hs1 := hb1.size
  clear hb1
  go_wp2_with fail
  refine (H1.out w1).mono ?_
  rintro e w2 ⟨rfl, hb2⟩
  have HB2 := Lib.hid (HB1.out.trans (hb2.mono hs1))
  have hs2 := HB2.out.size
  clear hb2 HB1 H1
  go_wp2_with fail
  refine (H2.out w2).mono ?_
  rintro e w3 ⟨rfl, hb3⟩
  have HB3 := Lib.hid (HB2.out.trans (hb3.mono hs2))
  have hs3 := HB3.out.size
  clear hb3 HB2 H2
  go_wp2_with fail
  refine (H3.out w3).mono ?_
  rintro e w4 ⟨rfl, hb4⟩
  have HB4 := Lib.hid (HB3.out.trans (hb4.mono hs3))
  have hs4 := HB4.out.size
  clear hb4 HB3 H3
  go_wp2_with fail
  refine (H4.out w4).mono ?_
  rintro e w5 ⟨rfl, hb5⟩
  have HB5 := Lib.hid (HB4.out.trans (hb5.mono hs4))
  clear hb5 HB4 H4
  go_wp2_with fail
  refine (H5.out _).mono ?_
  rintro e _ ⟨rfl, rfl⟩
  go_wp2_with fail
  refine (H6.out _).mono ?_
  rintro e _ ⟨rfl, rfl⟩
  go_wp2_with fail
  go_ret
  exact ⟨by simp, HB5.out⟩
theorem writes_any (b : Nat) (p : Int) (w : World) (hb : b < 18446744073709551616) (hp1 : -9223372036854775808 ≤ p) (hp2 : p ≤ 9223372036854775807) :
    Calls Tryd.prog 4 #[.int .u64 (b : Nat), .int .i64 p] w fun e w' => e = .returned (.bool true) ∧ Below w.heap.size w w' := by
  by_cases hbad : fin b = false ∨ p < 0 ∨ 200 < p
  · refine writes_gen b p ⟨#[]⟩ ⟨#[]⟩ 1 0 1 w hb (fun W => (Fixed_bad b p W hb hbad).mono ?_) (fun W => (Fixed3_bad b p W hb hbad).mono ?_) (fun W => (Sci_bad b p W hb hbad).mono ?_) (fun W => (Sci3_bad b p W hb hbad).mono ?_)
    all_goals (rintro e w' ⟨rfl, rfl⟩; exact ⟨rfl, Below.refl _ _⟩)
  · have hf : fin b = true := by cases h : fin b; exact absurd (.inl h) hbad; rfl
    obtain ⟨n, rfl⟩ : ∃ n : Nat, p = (n : Int) := ⟨p.toNat, by omega⟩
    have hn : n ≤ 200 := by omega
    refine writes_gen b n ⟨(fixT b n).toArray⟩ ⟨(sciD b n).toArray⟩ 0 (sciE b n) 0 w hb (fun W => Fixed_det b n W hb hf hn) (fun W => Fixed3_ok b n W hb hf hn) (fun W => (Sci_det b n W hb hf hn).mono ?_) (fun W => Sci3_ok b n W hb hf hn)
    rintro e w' ⟨rfl, _, h⟩; exact ⟨rfl, h⟩
end Go.Proofs.YtcmpdamfeoaapaaDoor
