/- container/heap over sorts.line: Push, Pop. -/
import Derived.Test.YtflbhifdololfaaGreatDoorH3
namespace Go.Proofs.YtflbhifdololfaaGreatDoor
open Go.RowKit
set_option linter.unusedVariables false

theorem Apart.more {S S' : List Nat} {w w' : World} (h : Apart S w w') (hs : ∀ x ∈ S, x ∈ S') : Apart S' w w' := ⟨h.os, h.tape, h.output, h.size, fun k hk hn => h.block k hk (fun hm => hn (hs k hm))⟩
theorem H.pop_last {lt : Nat → Nat → Bool} (f : H.Row) (n : Nat) : H.pop lt f n n = f 0 := ((H.down_perm (lt := lt) (n := n) (n - 0) 0 (H.swp f 0 n) rfl).2 n (Nat.le_refl n)).trans (H.swp_r _ _ _)
theorem upd_all {N n x : Nat} {f : H.Row} (hP : H.All (· < N) f n) (hx : x < N) : H.All (· < N) (fun k => if k = n then x else f k) (n + 1) := by
  intro k hk
  by_cases e : k = n
  · simp only [e, if_true]; exact hx
  · simp only [e, if_false]; exact hP k (by omega)
set_option maxHeartbeats 4000000 in
set_option maxRecDepth 100000 in
theorem hpPush_any {w0 w : World} {b n x N gf : Nat} {lv c0 c1 c2 c3 : Value} {lt : Nat → Nat → Bool} {f : H.Row} (hC : HCtx w0 b gf c0 c1 c2 c3 lt N) (hb0 : Below b w0 w) (h : HAt w b lv (.func (.func gf) #[] #[c0, c1, c2, c3]) f n) (hP : H.All (· < N) f n) (hx : x < N) (hn : n ≤ 900000) :
    Calls Tryz.prog 60 #[.iface 115 (.pointer (some ⟨b, 0, none⟩)), .iface 3 (.int .i64 (x : Int))] w fun e w' => e = .returned (.tuple #[]) ∧ (∃ g cap, HAt w' b (.slice (some ⟨g, 0, none⟩) (n + 1) cap) (.func (.func gf) #[] #[c0, c1, c2, c3]) (H.push lt f n x) (n + 1)) ∧ Below b w w' := by
  have HC := Lib.hid hC
  have HB0 := Lib.hid hb0
  have HPu := Lib.hid (hPush_any (x := x) h (by omega))
  have HH := Lib.hid h
  have HP := Lib.hid hP
  clear hC hb0 h hP
  go_enter Tryz.func60, Tryz.ntmps60
  go_wp2_with fail
  refine HPu.out.mono ?_
  rintro e w1 ⟨rfl, g, cap, hh1, ha1, hat⟩
  have hbel : Below b w w1 := ha1.below (by have := HH.out.lt; omega) (fun y hy => by
    rcases List.mem_cons.1 hy with h | h
    · omega
    · have := (HH.out.row.lt y (by simpa using h)).1; omega)
  have HH1 := Lib.hid hh1
  have HB1 := Lib.hid hbel
  have HU := Lib.hid (up_any (j := n) HC.out (HB0.out.trans hbel) hh1 (upd_all HP.out hx) (by omega) (by omega))
  clear hh1 ha1 hat hbel HPu
  go_wp2_with fail
  refine (hLen_any HH1.out).mono ?_
  rintro e w2 ⟨rfl, rfl⟩
  go_wp2_with fail
  refine HU.out.mono ?_
  rintro e w3 ⟨rfl, hh3, ha3⟩
  have HH3 := Lib.hid hh3
  have HA3 := Lib.hid ha3
  clear hh3 ha3 HU
  go_wp2_with fail
  go_end0
  exact ⟨rfl, ⟨g, cap, HH3.out⟩, HB1.out.trans (HA3.out.below (by have := HH1.out.lt; omega) (fun y hy => by simp at hy; subst hy; have := (HH1.out.row.lt y rfl).1; omega))⟩
set_option maxHeartbeats 4000000 in
set_option maxRecDepth 100000 in
theorem hpPop_any {w0 w : World} {b n N gf : Nat} {lv c0 c1 c2 c3 : Value} {lt : Nat → Nat → Bool} {f : H.Row} (hC : HCtx w0 b gf c0 c1 c2 c3 lt N) (hb0 : Below b w0 w) (h : HAt w b lv (.func (.func gf) #[] #[c0, c1, c2, c3]) f (n + 1)) (hP : H.All (· < N) f (n + 1)) (hn : n ≤ 900000) :
    Calls Tryz.prog 62 #[.iface 115 (.pointer (some ⟨b, 0, none⟩))] w fun e w' => e = .returned (.iface 3 (.int .i64 (f 0 : Int))) ∧ (∃ lv', HAt w' b lv' (.func (.func gf) #[] #[c0, c1, c2, c3]) (H.pop lt f n) n ∧ lv'.ownBlock = lv.ownBlock) ∧ Apart (b :: lv.ownBlock.toList) w w' := by
  obtain ⟨g, cap, rfl, hbg, _, _, _, _⟩ := h.form (by omega)
  have HC := Lib.hid hC
  have HB0 := Lib.hid hb0
  have HL := Lib.hid (hLen_any h)
  have HS := Lib.hid (hSwap_any (i := 0) (j := n) h (by omega) (by omega) (by omega))
  have HH := Lib.hid h
  have HP := Lib.hid hP
  have hgB := Lib.hid hbg
  clear hC hb0 h hP hbg
  go_enter Tryz.func62, Tryz.ntmps62
  go_wp2_with fail
  refine HL.out.mono ?_
  rintro e w1 ⟨rfl, rfl⟩
  clear HL
  go_wp2_with fail
  refine HS.out.mono ?_
  rintro e w2 ⟨rfl, hh2, ha2⟩
  have HH2 := Lib.hid hh2
  have HA2 := Lib.hid ha2
  have hb2 := ha2.below (B := b) (by have := HH.out.lt; omega) (fun y hy => by simp at hy; subst hy; have := hgB.out; omega)
  have HD := Lib.hid (down_any (i0 := 0) (n := n) HC.out (HB0.out.trans hb2) hh2 (HP.out.swp (by omega) (by omega)) (by omega) (by omega) (by omega))
  clear hh2 ha2 hb2 HS
  go_wp2_with fail
  refine HD.out.mono ?_
  rintro e w3 ⟨⟨r, rfl⟩, hh3, ha3⟩
  have HA3 := Lib.hid ha3
  have HPo := Lib.hid (hPop_any hh3 (by omega))
  have hl : H.down lt (H.swp f 0 n) 0 n n = f 0 := H.pop_last f n
  rw [hl] at HPo
  clear hh3 ha3 HD hl
  go_wp2_with fail
  refine HPo.out.mono ?_
  rintro e w4 ⟨rfl, hh4, ha4⟩
  have HH4 := Lib.hid hh4
  have HA4 := Lib.hid ha4
  clear hh4 ha4 HPo
  go_wp2_with fail
  go_ret
  refine ⟨rfl, ⟨_, HH4.out, rfl⟩, ?_⟩
  have a1 : Apart (b :: (Value.slice (some ⟨g, 0, none⟩) (n + 1) cap).ownBlock.toList) _ w2 := HA2.out.more (fun y hy => by simp at hy; subst hy; simp [Value.ownBlock])
  exact (a1.trans HA3.out (fun y hy => .inl (by simp at hy; subst hy; simp [Value.ownBlock]))).trans HA4.out (fun y hy => .inl (by simp at hy; subst hy; simp))
end Go.Proofs.YtflbhifdololfaaGreatDoor
