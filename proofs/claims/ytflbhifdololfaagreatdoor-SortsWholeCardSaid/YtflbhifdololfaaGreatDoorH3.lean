/- container/heap over sorts.line: up, down, Push, Pop. -/
import Derived.Test.YtflbhifdololfaaGreatDoorH2
import Derived.LoopTactic
namespace Go.Proofs.YtflbhifdololfaaGreatDoor
open Go.RowKit
set_option linter.unusedVariables false

@[go_sem] theorem metLess (n : Nat) (a : Addr) (w : World) : (method (n + 1) 115 (.pointer (some a)) "Less").run Tryz.prog w = .ok (266, .pointer (some a)) w := by kernel_rfl
@[go_sem] theorem metSwap (n : Nat) (a : Addr) (w : World) : (method (n + 1) 115 (.pointer (some a)) "Swap").run Tryz.prog w = .ok (269, .pointer (some a)) w := by kernel_rfl
@[go_sem] theorem metLen (n : Nat) (a : Addr) (w : World) : (method (n + 1) 115 (.pointer (some a)) "Len").run Tryz.prog w = .ok (61, .pointer (some a)) w := by kernel_rfl
@[go_sem] theorem metPush (n : Nat) (a : Addr) (w : World) : (method (n + 1) 115 (.pointer (some a)) "Push").run Tryz.prog w = .ok (268, .pointer (some a)) w := by kernel_rfl
@[go_sem] theorem metPop (n : Nat) (a : Addr) (w : World) : (method (n + 1) 115 (.pointer (some a)) "Pop").run Tryz.prog w = .ok (267, .pointer (some a)) w := by kernel_rfl
def natI : Value → Nat
  | .int _ n => n.toNat
  | _ => 0
/-- what the walk of a heap wants: the order's function, and what it answers -/
structure HCtx (w0 : World) (b gf : Nat) (c0 c1 c2 c3 : Value) (lt : Nat → Nat → Bool) (N : Nat) : Prop where
  less : LtOk w0 b gf #[c0, c1, c2, c3] lt N
  enters : ∀ args w, (callFunc gf args).run Tryz.prog w = .ok (.enter gf args) w
set_option maxHeartbeats 4000000 in
set_option maxRecDepth 100000 in
theorem up_any {w0 w : World} {b g n cap j N gf : Nat} {c0 c1 c2 c3 : Value} {lt : Nat → Nat → Bool} {f : H.Row} (hC : HCtx w0 b gf c0 c1 c2 c3 lt N) (hb0 : Below b w0 w) (h : HAt w b (.slice (some ⟨g, 0, none⟩) n cap) (.func (.func gf) #[] #[c0, c1, c2, c3]) f n) (hP : H.All (· < N) f n) (hj : j < n) (hn : n ≤ 1000000) :
    Calls Tryz.prog 99 #[.iface 115 (.pointer (some ⟨b, 0, none⟩)), .int .i64 (j : Int)] w fun e w' => e = .returned (.tuple #[]) ∧ HAt w' b (.slice (some ⟨g, 0, none⟩) n cap) (.func (.func gf) #[] #[c0, c1, c2, c3]) (H.up lt f j) n ∧ Apart [g] w w' := by
  have HC := Lib.hid hC
  have HB0 := Lib.hid hb0
  have HH := Lib.hid h
  have HP := Lib.hid hP
  clear hC hb0 h hP
  go_enter Tryz.func99, Tryz.ntmps99
  go_wp2_with fail
  go_loopw [1] (fun v1 wr => ∃ (f' : H.Row) (k : Nat), v1 = .int .i64 (k : Int) ∧ k < n ∧ Hid (HAt wr b (.slice (some ⟨g, 0, none⟩) n cap) (.func (.func gf) #[] #[c0, c1, c2, c3]) f' n) ∧ Hid (H.All (· < N) f' n) ∧ Hid (H.up lt f j = H.up lt f' k) ∧ Hid (Apart [g] w wr)) (fun v1 _ => natI v1)
  case atStart => exact ⟨f, j, rfl, hj, HH, HP, rfl, Apart.refl _ _⟩
  case round =>
    obtain ⟨f', k, rfl, hkn, HHr, HPr, HUr, HAr⟩ := hrel
    by_cases hk0 : k = 0
    · subst hk0
      have hq : ((0 : Int) - 1).tdiv 2 = 0 := by decide
      go_wp2_with fail
      go_end0
      refine ⟨rfl, ?_, HAr.out⟩
      rw [HUr.out, H.up, dif_pos rfl]; exact HHr.out
    · obtain ⟨i, hi⟩ : ∃ i, i = H.par k := ⟨_, rfl⟩
      have hik : i < k := by rw [hi]; exact H.par_lt (by omega)
      have hin : i < n := by omega
      have hk1 : 1 ≤ (k : Int) := by omega
      have hq : ((k : Int) - 1) / 2 = (i : Int) := by rw [hi]; unfold H.par; omega
      have hq2 : ((k : Int) - 1).tdiv 2 = (i : Int) := by rw [Int.tdiv_eq_ediv_of_nonneg (by omega)]; exact hq
      have hne : ((i : Int) == (k : Int)) = false := beq_eq_false_iff_ne.2 (by omega)
      have HI := Lib.hid hi
      clear hi
      have HLe := Lib.hid (hLess_any (i := k) (j := i) HC.out.less (HB0.out.trans (HAr.out.below (B := b) (by have := HH.out.lt; omega) (fun x hx => by simp at hx; subst hx; have := (HH.out.row.lt x rfl).1; omega))) HHr.out HPr.out hkn hin hn HC.out.enters)
      obtain ⟨r, hr⟩ : ∃ r, r = lt (f' k) (f' i) := ⟨_, rfl⟩
      rw [← hr] at HLe
      have HR := Lib.hid hr
      clear hr
      go_wp2_with fail
      refine HLe.out.mono ?_
      rintro e w1 ⟨rfl, hb1⟩
      clear HLe
      have HH1 := Lib.hid (HHr.out.below hb1)
      have HA1 := Lib.hid (HAr.out.trans (Apart.of_below hb1 []) (fun x hx => by cases hx))
      clear hb1
      cases r with
      | false =>
        go_wp2_with fail
        go_end0
        refine ⟨rfl, ?_, HA1.out⟩
        rw [HUr.out, H.up, dif_neg hk0, ← HI.out, ← HR.out, if_neg (by decide)]; exact HH1.out
      | true =>
        have HSw := Lib.hid (hSwap_any HH1.out hin hkn hn)
        go_wp2_with fail
        refine HSw.out.mono ?_
        rintro e w2 ⟨rfl, hh2, ha2⟩
        have HH2 := Lib.hid hh2
        have HA2 := Lib.hid (HA1.out.trans ha2 (fun x hx => .inl hx))
        clear hh2 ha2 HSw
        go_wp2_with fail
        go_roundw
        case rel =>
          refine ⟨H.swp f' i k, i, rfl, hin, HH2.out, HPr.out.swp hin hkn, ?_, HA2.out⟩
          show _ = _
          rw [HUr.out, H.up, dif_neg hk0, ← HI.out, ← HR.out, if_pos rfl]
        case measure => simp only [natI]; omega

set_option maxHeartbeats 8000000 in
set_option maxRecDepth 100000 in
theorem down_any {w0 w : World} {b g m cap i0 n N gf : Nat} {c0 c1 c2 c3 : Value} {lt : Nat → Nat → Bool} {f : H.Row} (hC : HCtx w0 b gf c0 c1 c2 c3 lt N) (hb0 : Below b w0 w) (h : HAt w b (.slice (some ⟨g, 0, none⟩) m cap) (.func (.func gf) #[] #[c0, c1, c2, c3]) f m) (hP : H.All (· < N) f m) (hi : i0 ≤ n) (hnm : n ≤ m) (hn : m ≤ 1000000) :
    Calls Tryz.prog 100 #[.iface 115 (.pointer (some ⟨b, 0, none⟩)), .int .i64 (i0 : Int), .int .i64 (n : Int)] w fun e w' => (∃ r, e = .returned (.bool r)) ∧ HAt w' b (.slice (some ⟨g, 0, none⟩) m cap) (.func (.func gf) #[] #[c0, c1, c2, c3]) (H.down lt f i0 n) m ∧ Apart [g] w w' := by
  have HC := Lib.hid hC
  have HB0 := Lib.hid hb0
  have HH := Lib.hid h
  have HP := Lib.hid hP
  clear hC hb0 h hP
  go_enter Tryz.func100, Tryz.ntmps100
  go_wp2_with fail
  go_loopw [7] (fun v7 wr => ∃ (f' : H.Row) (i : Nat), v7 = .int .i64 (i : Int) ∧ i ≤ n ∧ Hid (HAt wr b (.slice (some ⟨g, 0, none⟩) m cap) (.func (.func gf) #[] #[c0, c1, c2, c3]) f' m) ∧ Hid (H.All (· < N) f' m) ∧ Hid (H.down lt f i0 n = H.down lt f' i n) ∧ Hid (Apart [g] w wr)) (fun v7 _ => n - natI v7)
  case atStart => exact ⟨f, i0, rfl, hi, HH, HP, rfl, Apart.refl _ _⟩
  case round =>
    obtain ⟨f', i, rfl, hin, HHr, HPr, HUr, HAr⟩ := hrel
    obtain ⟨j1, hj⟩ : ∃ j1, j1 = 2 * i + 1 := ⟨_, rfl⟩
    have hjI : 2 * (i : Int) + 1 = (j1 : Int) := by omega
    by_cases hlt : j1 < n
    · have hj1 : 2 * i + 1 < n := by omega
      have hltI : (j1 : Int) < (n : Int) := by omega
      have hnn : 0 ≤ (j1 : Int) := by omega
      obtain ⟨j2, hj2⟩ : ∃ j2, j2 = j1 + 1 := ⟨_, rfl⟩
      have hj2I : (j1 : Int) + 1 = (j2 : Int) := by omega
      have HJ := Lib.hid hj
      have HJ2 := Lib.hid hj2
      have hiB : i ≤ 1000000 := by omega
      have hij : i < j1 := by omega
      have hij2 : i < j2 := by omega
      clear hj hj2
      by_cases hl2 : j2 < n
      · have hl2I : (j2 : Int) < (n : Int) := by omega
        have hb0r := HB0.out.trans (HAr.out.below (B := b) (by have := HH.out.lt; omega) (fun x hx => by simp at hx; subst hx; have := (HH.out.row.lt x rfl).1; omega))
        have HLe := Lib.hid (hLess_any (i := j2) (j := j1) HC.out.less hb0r HHr.out HPr.out (by omega) (by omega) hn HC.out.enters)
        obtain ⟨r, hr⟩ : ∃ r, r = lt (f' j2) (f' j1) := ⟨_, rfl⟩
        rw [← hr] at HLe
        have HR := Lib.hid hr
        clear hr hb0r
        go_wp2_with fail
        refine HLe.out.mono ?_
        rintro e w1 ⟨rfl, hb1⟩
        clear HLe
        have HH1 := Lib.hid (HHr.out.below hb1)
        have HA1 := Lib.hid (HAr.out.trans (Apart.of_below hb1 []) (fun x hx => by cases hx))
        clear hb1
        cases r with
        | true =>
          obtain ⟨c, hc⟩ : ∃ c, c = j2 := ⟨_, rfl⟩
          have HCh : Hid (c = H.child lt f' i n) := by
            show _ = _
            unfold H.child
            have e1 : j1 = 2 * i + 1 := HJ.out
            have e2 : j2 = 2 * i + 2 := by have := HJ2.out; omega
            rw [← e1, ← e2, if_pos ⟨hl2, HR.out.symm⟩, hc]
          have hcm : c < m := by omega
          have hic : i < c := by omega
          have hcn : c < n := by omega
          subst hc
          have HLc := Lib.hid (hLess_any (i := c) (j := i) HC.out.less (HB0.out.trans (HA1.out.below (B := b) (by have := HH.out.lt; omega) (fun x hx => by simp at hx; subst hx; have := (HH.out.row.lt x rfl).1; omega))) HH1.out HPr.out hcm (by omega) hn HC.out.enters)
          obtain ⟨r2, hr2⟩ : ∃ r2, r2 = lt (f' c) (f' i) := ⟨_, rfl⟩
          rw [← hr2] at HLc
          have HR2 := Lib.hid hr2
          clear hr2
          go_wp2_with fail
          refine HLc.out.mono ?_
          rintro e w2 ⟨rfl, hb2⟩
          clear HLc
          have HH2 := Lib.hid (HH1.out.below hb2)
          have HA2 := Lib.hid (HA1.out.trans (Apart.of_below hb2 []) (fun x hx => by cases hx))
          clear hb2
          cases r2 with
          | false =>
            go_wp2_with fail
            go_ret
            refine ⟨⟨_, rfl⟩, ?_, HA2.out⟩
            rw [HUr.out, H.down, dif_pos hj1, ← HCh.out, ← HR2.out, if_neg (by decide)]; exact HH2.out
          | true =>
            have HSw := Lib.hid (hSwap_any (i := i) (j := c) HH2.out (by omega) hcm hn)
            go_wp2_with fail
            refine HSw.out.mono ?_
            rintro e w3 ⟨rfl, hh3, ha3⟩
            have HH3 := Lib.hid hh3
            have HA3 := Lib.hid (HA2.out.trans ha3 (fun x hx => .inl hx))
            clear hh3 ha3 HSw
            go_wp2_with fail
            go_roundw
            case rel =>
              refine ⟨H.swp f' i c, c, rfl, by omega, HH3.out, HPr.out.swp (by omega) hcm, ?_, HA3.out⟩
              show _ = _
              rw [HUr.out, H.down, dif_pos hj1, ← HCh.out, ← HR2.out, if_pos rfl]
            case measure => simp only [natI]; omega
        | false =>
          obtain ⟨c, hc⟩ : ∃ c, c = j1 := ⟨_, rfl⟩
          have HCh : Hid (c = H.child lt f' i n) := by
            show _ = _
            unfold H.child
            have e1 : j1 = 2 * i + 1 := HJ.out
            have e2 : j2 = 2 * i + 2 := by have := HJ2.out; omega
            rw [← e1, ← e2, if_neg (by rw [← HR.out]; intro h; cases h.2), hc]
          have hcm : c < m := by omega
          have hic : i < c := by omega
          have hcn : c < n := by omega
          subst hc
          have HLc := Lib.hid (hLess_any (i := c) (j := i) HC.out.less (HB0.out.trans (HA1.out.below (B := b) (by have := HH.out.lt; omega) (fun x hx => by simp at hx; subst hx; have := (HH.out.row.lt x rfl).1; omega))) HH1.out HPr.out hcm (by omega) hn HC.out.enters)
          obtain ⟨r2, hr2⟩ : ∃ r2, r2 = lt (f' c) (f' i) := ⟨_, rfl⟩
          rw [← hr2] at HLc
          have HR2 := Lib.hid hr2
          clear hr2
          go_wp2_with fail
          refine HLc.out.mono ?_
          rintro e w2 ⟨rfl, hb2⟩
          clear HLc
          have HH2 := Lib.hid (HH1.out.below hb2)
          have HA2 := Lib.hid (HA1.out.trans (Apart.of_below hb2 []) (fun x hx => by cases hx))
          clear hb2
          cases r2 with
          | false =>
            go_wp2_with fail
            go_ret
            refine ⟨⟨_, rfl⟩, ?_, HA2.out⟩
            rw [HUr.out, H.down, dif_pos hj1, ← HCh.out, ← HR2.out, if_neg (by decide)]; exact HH2.out
          | true =>
            have HSw := Lib.hid (hSwap_any (i := i) (j := c) HH2.out (by omega) hcm hn)
            go_wp2_with fail
            refine HSw.out.mono ?_
            rintro e w3 ⟨rfl, hh3, ha3⟩
            have HH3 := Lib.hid hh3
            have HA3 := Lib.hid (HA2.out.trans ha3 (fun x hx => .inl hx))
            clear hh3 ha3 HSw
            go_wp2_with fail
            go_roundw
            case rel =>
              refine ⟨H.swp f' i c, c, rfl, by omega, HH3.out, HPr.out.swp (by omega) hcm, ?_, HA3.out⟩
              show _ = _
              rw [HUr.out, H.down, dif_pos hj1, ← HCh.out, ← HR2.out, if_pos rfl]
            case measure => simp only [natI]; omega
      · have hl2I : (n : Int) ≤ (j2 : Int) := by omega
        have HH1 := HHr
        have HA1 := HAr
        obtain ⟨c, hc⟩ : ∃ c, c = j1 := ⟨_, rfl⟩
        have HCh : Hid (c = H.child lt f' i n) := by
          show _ = _
          unfold H.child
          have e1 : j1 = 2 * i + 1 := HJ.out
          have e2 : j2 = 2 * i + 2 := by have := HJ2.out; omega
          rw [← e1, ← e2, if_neg (fun h => hl2 h.1), hc]
        have hcm : c < m := by omega
        have hic : i < c := by omega
        have hcn : c < n := by omega
        subst hc
        have HLc := Lib.hid (hLess_any (i := c) (j := i) HC.out.less (HB0.out.trans (HA1.out.below (B := b) (by have := HH.out.lt; omega) (fun x hx => by simp at hx; subst hx; have := (HH.out.row.lt x rfl).1; omega))) HH1.out HPr.out hcm (by omega) hn HC.out.enters)
        obtain ⟨r2, hr2⟩ : ∃ r2, r2 = lt (f' c) (f' i) := ⟨_, rfl⟩
        rw [← hr2] at HLc
        have HR2 := Lib.hid hr2
        clear hr2
        go_wp2_with fail
        refine HLc.out.mono ?_
        rintro e w2 ⟨rfl, hb2⟩
        clear HLc
        have HH2 := Lib.hid (HH1.out.below hb2)
        have HA2 := Lib.hid (HA1.out.trans (Apart.of_below hb2 []) (fun x hx => by cases hx))
        clear hb2
        cases r2 with
        | false =>
          go_wp2_with fail
          go_ret
          refine ⟨⟨_, rfl⟩, ?_, HA2.out⟩
          rw [HUr.out, H.down, dif_pos hj1, ← HCh.out, ← HR2.out, if_neg (by decide)]; exact HH2.out
        | true =>
          have HSw := Lib.hid (hSwap_any (i := i) (j := c) HH2.out (by omega) hcm hn)
          go_wp2_with fail
          refine HSw.out.mono ?_
          rintro e w3 ⟨rfl, hh3, ha3⟩
          have HH3 := Lib.hid hh3
          have HA3 := Lib.hid (HA2.out.trans ha3 (fun x hx => .inl hx))
          clear hh3 ha3 HSw
          go_wp2_with fail
          go_roundw
          case rel =>
            refine ⟨H.swp f' i c, c, rfl, by omega, HH3.out, HPr.out.swp (by omega) hcm, ?_, HA3.out⟩
            show _ = _
            rw [HUr.out, H.down, dif_pos hj1, ← HCh.out, ← HR2.out, if_pos rfl]
          case measure => simp only [natI]; omega
    · have hltI : (n : Int) ≤ (j1 : Int) := by omega
      have HJ := Lib.hid hj
      have hiB : i ≤ 1000000 := by omega
      clear hj
      go_wp2_with fail
      go_ret
      refine ⟨⟨_, rfl⟩, ?_, HAr.out⟩
      rw [HUr.out, H.down, dif_neg (by have := HJ.out; omega)]; exact HHr.out
end Go.Proofs.YtflbhifdololfaaGreatDoor
