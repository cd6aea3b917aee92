/- Package nat: Div. -/
import Derived.Test.YtcipmfjefmjacaaGreatDoorN7
import Derived.Laws.ShiftsVarLaws
namespace Go.Proofs.YtcipmfjefmjacaaGreatDoor
open Go.RowKit
set_option linter.unusedVariables false

theorem NatV.of_trim {w : World} {a : Option Addr} {cap n : Nat} {L : List Nat} (h : Lies w a cap L) (hv : val L = n) : NatV w (.slice a (trimL L).length (trimL L).length) n ∧ trimL L = limbs n := by
  have e : trimL L = limbs n := by rw [trimL_limbs _ h.lt, hv]
  refine ⟨?_, e⟩
  have h1 := h.take (trimL L).length
  rw [← trimL_prefix, e] at h1
  rw [e]
  exact ⟨a, _, rfl, h1.clip⟩

set_option maxRecDepth 100000 in
set_option maxHeartbeats 2000000 in
theorem Div_small (va vb : Value) (x y : Nat) (w : World) (hx : NatV w va x) (hy : NatV w vb y) (hX : (limbs x).length ≤ 256) (hY : (limbs y).length = 1) :
    Calls Tryz.prog 105 #[va, vb] w fun e w' => ∃ q r, e = .returned (.tuple #[q, r, .int .i64 0]) ∧ NatV w' q (x / y) ∧ NatV w' r (x % y) ∧ Below w.heap.size w w' := by
  obtain ⟨a, ca, rfl, ha⟩ := hx
  obtain ⟨b, cb, rfl, hb⟩ := hy
  have V1 := Lib.hid (valid_any a ca x w ha hX)
  have V2 := Lib.hid (valid_any b cb y w hb (by omega))
  obtain ⟨d, hd⟩ : ∃ d, limbs y = [d] := by
    rcases h : limbs y with _ | ⟨d, l⟩
    · rw [h] at hY; simp at hY
    · rw [h] at hY
      simp at hY
      exact ⟨d, by rw [hY]⟩
  have hyd : y = d := by have := val_limbs y; rw [hd] at this; simp [val] at this; exact this.symm
  have hd0 : d ≠ 0 := by
    intro h0; have := limbs_zero; rw [← h0, ← hyd, hd] at this; simp at this
  have hdl : d < 4294967296 := limbs_lt y d (by rw [hd]; simp)
  rw [hd] at hb V2 ⊢
  obtain ⟨bb, ob, rfl, hcb⟩ := hb.at_ 0 (by simp)
  have hcb' : w.cell? ⟨bb, ob, none⟩ = some (.int .u32 d) := by simpa using hcb
  have vx : Hid (val (limbs x) = x) := val_limbs x
  have h1 := ha.le
  have hcb1 : 1 ≤ cb := by have := hb.le; simpa using this
  have HA := Lib.hid ha
  clear ha hb hcb hd hY
  subst hyd
  generalize limbs x = X at *
  simp only [List.length_cons, List.length_nil] at V2 ⊢
  have hbw : bb < w.heap.size := World.block_lt_of_cell? w _ hcb'
  go_enter Tryz.func105, Tryz.ntmps105
  go_wp2_with fail
  refine V1.out.mono ?_
  rintro e w1 ⟨rfl, rfl⟩
  go_wp2_with fail
  refine V2.out.mono ?_
  rintro e w1 ⟨rfl, rfl⟩
  clear V1 V2
  go_wp2_with fail
  refine (Clone_any a ca X w HA.out (by omega)).mono ?_
  rintro e w1 ⟨v, rfl, hown, hb1⟩
  have hcb2 := (hb1.cell (p := ⟨bb, ob, none⟩) hbw).trans hcb'
  have hbw1 : bb < w1.heap.size := Nat.lt_of_lt_of_le hbw hb1.size
  have HB1 := Lib.hid hb1
  clear hb1 hcb'
  rcases hown.at_ with ⟨rfl, rfl⟩ | ⟨g, cap, cur, rfl, hbg, hg, hl, hm, hs, ht⟩
  · have hx0 : x = 0 := by rw [← vx.out]; rfl
    subst hx0
    clear hown
    go_wp2_with fail
    refine (small_nil y w1).mono ?_
    rintro e w2 ⟨rfl, rfl⟩
    go_wp2_with fail
    refine (trim_any none 0 [] w1 (Lies.nil _ _ _ (by omega) (by simp))).mono ?_
    rintro e w3 ⟨rfl, rfl⟩
    go_wp2_with fail
    refine (clip_any none 0 0 _ (by omega)).mono ?_
    rintro e w3 ⟨rfl, rfl⟩
    go_wp2_with fail
    refine (From_any 0 (by omega) _).mono ?_
    rintro e w4 ⟨a4, c4, rfl, hl4, hb4⟩
    have HB4 := Lib.hid (HB1.out.trans (hb4.mono HB1.out.size))
    have HR4 : Hid (NatV w4 (.slice a4 (limbs 0).length c4) 0) := ⟨a4, c4, rfl, hl4⟩
    have HQ4 : Hid (NatV w4 (.slice none 0 0) 0) := ⟨none, 0, by rw [limbs_zero]; rfl, by rw [limbs_zero]; exact Lies.nil _ _ _ (by omega) (by simp)⟩
    clear hl4 hb4
    go_wp2_with fail
    go_ret3
    exact ⟨_, _, rfl, by rw [Nat.zero_div]; exact HQ4.out, by rw [Nat.zero_mod]; exact HR4.out, HB4.out⟩
  · have hrow : RowU w1 g cap X := ⟨hown.lt, hl, hm, cur, hg, hs, ht⟩
    have HR := Lib.hid hrow
    clear hown hg hs ht hrow
    go_wp2_with fail
    have hsm := small_any g cap X y w1 HR.out (by omega) hdl (by omega)
    have hml : val X % y < 4294967296 := Nat.lt_trans (Nat.mod_lt _ (by omega)) hdl
    rw [vx.out] at hml
    obtain ⟨m, hm'⟩ : ∃ m, m = x % y := ⟨_, rfl⟩
    rw [vx.out, ← hm'] at hsm
    rw [← hm'] at hml
    have HM := Lib.hid hm'
    clear hm'
    refine hsm.mono ?_
    rintro e w2 ⟨rfl, ⟨A', hal, hav, hr2⟩, hap⟩
    have HB2 := Lib.hid (HB1.out.trans (hap.below HB1.out.size (by simpa using hbg)))
    have HT := Lib.hid (trim_any (some ⟨g, 0, none⟩) cap A' w2 hr2.lies)
    have HQ := Lib.hid (NatV.of_trim hr2.lies (show val A' = x / y by rw [hav])).1
    have htl := trimL_length_le A'
    rw [hal] at HT htl
    clear hav hr2 hap HB1
    go_wp2_with fail
    refine HT.out.mono ?_
    rintro e w3 ⟨rfl, rfl⟩
    go_wp2_with fail
    refine (clip_any _ _ cap _ (by omega)).mono ?_
    rintro e w3 ⟨rfl, rfl⟩
    go_wp2_with fail
    refine (From_any m (by omega) _).mono ?_
    rintro e w4 ⟨a4, c4, rfl, hl4, hb4⟩
    have HB4 := Lib.hid (HB2.out.trans (hb4.mono HB2.out.size))
    have HQ4 := Lib.hid (HQ.out.below hb4)
    have HR4 : Hid (NatV w4 (.slice a4 (limbs m).length c4) m) := ⟨a4, c4, rfl, hl4⟩
    clear hl4 hb4
    go_wp2_with fail
    go_ret3
    exact ⟨_, _, rfl, HQ4.out, by rw [← HM.out]; exact HR4.out, HB4.out⟩
end Go.Proofs.YtcipmfjefmjacaaGreatDoor
