/- The document's answer of package format: Parse. -/
import Derived.Test.YtjldeckcfdeklaaGreatDoorP24
namespace Go.Proofs.YtjldeckcfdeklaaGreatDoor
open Go.RowKit
set_option linter.unusedVariables false

set_option maxHeartbeats 20000000 in
set_option maxRecDepth 1000000 in
theorem Parse5_any (s : ByteArray) (i : Int) (w : World) (hs : s.size ≤ 200000000000000) :
    Calls Tryz.prog 15 #[.string s, .int .i64 i] w fun e w' => e = .returned (.tuple #[.agg (parseA s i), .int .i64 (parseE s i)]) ∧ Below w.heap.size w w' := by
  have HQA : Hid (parseA s i = if chr s i = 37 ∧ okP s i.toNat = true then pieceP s i.toNat else zeroA) := rfl
  have HQE : Hid (parseE s i = if chr s i = 37 ∧ okP s i.toNat = true then 0 else 50) := rfl
  generalize parseA s i = QA at *
  generalize parseE s i = QE at *
  have HX := Lib.hid (fun W => at_any s i W)
  by_cases h37 : chr s i = 37
  · obtain ⟨k, rfl, hk⟩ := chr_in (s := s) (i := i) (by rw [h37]; decide)
    rw [Int.toNat_natCast, h37] at HQA HQE
    rw [h37] at HX
    have HQA1 : Hid (QA = if okP s k = true then pieceP s k else zeroA) := by show _ = _; simpa using HQA.out
    have HQE1 : Hid (QE = if okP s k = true then 0 else 50) := by show _ = _; simpa using HQE.out
    have HA := Lib.hid (fun (j : Nat) W => at_any s (j : Int) W)
    have hfn := flagN_le s (k + 1)
    obtain ⟨n, hn⟩ : ∃ n, n = flagN s (k + 1) := ⟨_, rfl⟩
    rw [← hn] at hfn
    have HN := Lib.hid hn
    have hk1 : (k : Int) + 1 ≤ 200000000000000 := by omega
    clear HQA HQE h37 hn
    go_enter Tryz.func15, Tryz.ntmps15
    go_wp2_with fail
    refine (HX.out _).mono ?_
    rintro e _ ⟨rfl, rfl⟩
    go_wp2_with fail
    go_loopw [1] (fun iv wr => ∃ j m : Nat, j ≤ n ∧ iv = .int .i64 (m : Nat) ∧ Hid (m = k + 1 + j) ∧ Hid (PcAt wr (w.heap.size + 1) (pieceA (hasF 45 s (k + 1) j) (hasF 43 s (k + 1) j) (hasF 32 s (k + 1) j) (hasF 35 s (k + 1) j) (hasF 48 s (k + 1) j) 0 (-1) 0 false false 0)) ∧ Hid (PcAt wr w.heap.size zeroA) ∧ Hid (Below w.heap.size w wr))
      (fun iv _ => k + 1 + n - (intOf iv).toNat)
    case atStart =>
      refine ⟨0, k + 1, Nat.zero_le _, by simp, by show _ = _; omega, ?_, ?_, ?_⟩
      · show PcAt _ _ _
        rw [hasF_zero, hasF_zero, hasF_zero, hasF_zero, hasF_zero]
        have h := heap_alloc_at (w.alloc (.cells #[.bool false, .bool false, .bool false, .bool false, .bool false, .int .i64 0, .int .i64 0, .int .u8 0, .bool false, .bool false, .int .i64 0] 26)) (.cells #[.bool false, .bool false, .bool false, .bool false, .bool false, .int .i64 0, .int .i64 (-1), .int .u8 0, .bool false, .bool false, .int .i64 0] 26)
        rw [World.size_alloc] at h
        exact h
      · show PcAt _ _ _
        exact (heap_alloc_lt _ _ _ (by simp)).trans (heap_alloc_at w _)
      · show Below _ _ _
        exact ((Below.refl _ _).alloc (Nat.le_refl _) _).alloc (by simp) _
    case round =>
      obtain ⟨j, m, hj, rfl, HM, HP, HZ, HB⟩ := hrel
      have HY := Lib.hid (HA.out m wr)
      rw [chr_nat] at HY
      have hm0 := HM.out
      have hj1 : (m : Int) ≤ 200000000000000 := by omega
      clear hm0
      have HIn : Hid (∀ (c : Nat) (W : World), Calls Tryz.prog 43 #[.int .u8 (c : Int), .string ⟨#[45, 43, 32, 35, 48]⟩] W fun e w' => e = .returned (.bool (inL c ⟨#[45, 43, 32, 35, 48]⟩)) ∧ W = w') := fun c W => in_any c _ W (by decide)
      rcases Nat.lt_or_ge j n with hlt | hge
      · have hin : m < s.size := by have := HM.out; omega
        have hinI : (m : Int) < (s.size : Int) := by omega
        have hcc : s[m].toNat = ch s m := ch_in hin
        have hfm := flag_more (s := s) (i := k + 1) (k := j) (by rw [← HN.out]; exact hlt)
        rw [← HM.out] at hfm
        have F45 := Lib.hid (hasF_or 45 s (k + 1) j (by rw [← HN.out]; exact hlt))
        rw [← HM.out] at F45
        have F43 := Lib.hid (hasF_or 43 s (k + 1) j (by rw [← HN.out]; exact hlt))
        rw [← HM.out] at F43
        have F32 := Lib.hid (hasF_or 32 s (k + 1) j (by rw [← HN.out]; exact hlt))
        rw [← HM.out] at F32
        have F35 := Lib.hid (hasF_or 35 s (k + 1) j (by rw [← HN.out]; exact hlt))
        rw [← HM.out] at F35
        have F48 := Lib.hid (hasF_or 48 s (k + 1) j (by rw [← HN.out]; exact hlt))
        rw [← HM.out] at F48
        have HIx := Lib.hid (HIn.out (ch s m))
        rw [hfm] at HIx
        clear hfm
        generalize ch s m = x at *
        generalize hasF 45 s (k + 1) j = b0 at *
        generalize hasF 43 s (k + 1) j = b1 at *
        generalize hasF 32 s (k + 1) j = b2 at *
        generalize hasF 35 s (k + 1) j = b3 at *
        generalize hasF 48 s (k + 1) j = b4 at *
        have c0 : wr.cell? ⟨w.heap.size + 1, 0, none⟩ = some (.bool b0) := PcAt.cell (HP.out) 0
        have c1 : ∀ (v0 : Value), (wr.setCell ⟨w.heap.size + 1, 0, none⟩ v0).cell? ⟨w.heap.size + 1, 1, none⟩ = some (.bool b1) := fun v0 => PcAt.cell ((PcAt.set (HP.out) 0 v0)) 1
        have c2 : ∀ (v0 v1 : Value), ((wr.setCell ⟨w.heap.size + 1, 0, none⟩ v0).setCell ⟨w.heap.size + 1, 1, none⟩ v1).cell? ⟨w.heap.size + 1, 2, none⟩ = some (.bool b2) := fun v0 v1 => PcAt.cell ((PcAt.set ((PcAt.set (HP.out) 0 v0)) 1 v1)) 2
        have c3 : ∀ (v0 v1 v2 : Value), (((wr.setCell ⟨w.heap.size + 1, 0, none⟩ v0).setCell ⟨w.heap.size + 1, 1, none⟩ v1).setCell ⟨w.heap.size + 1, 2, none⟩ v2).cell? ⟨w.heap.size + 1, 3, none⟩ = some (.bool b3) := fun v0 v1 v2 => PcAt.cell ((PcAt.set ((PcAt.set ((PcAt.set (HP.out) 0 v0)) 1 v1)) 2 v2)) 3
        have c4 : ∀ (v0 v1 v2 v3 : Value), ((((wr.setCell ⟨w.heap.size + 1, 0, none⟩ v0).setCell ⟨w.heap.size + 1, 1, none⟩ v1).setCell ⟨w.heap.size + 1, 2, none⟩ v2).setCell ⟨w.heap.size + 1, 3, none⟩ v3).cell? ⟨w.heap.size + 1, 4, none⟩ = some (.bool b4) := fun v0 v1 v2 v3 => PcAt.cell ((PcAt.set ((PcAt.set ((PcAt.set ((PcAt.set (HP.out) 0 v0)) 1 v1)) 2 v2)) 3 v3)) 4
        have kf : ∀ z, wr.frozen? ⟨w.heap.size + 1, z, none⟩ = false := HP.out.frozen
        go_wp2_with fail
        refine HY.out.mono ?_
        rintro e _ ⟨rfl, rfl⟩
        go_wp2_with fail
        refine (HIx.out _).mono ?_
        rintro e _ ⟨rfl, rfl⟩
        cases b0 <;> cases b1 <;> cases b2 <;> cases b3 <;> cases b4
        all_goals go_wp2_with fail
        all_goals
          refine ⟨⟨j + 1, m + 1, hlt, by simp, by show _ = _; have := HM.out; omega, ?_, ?_, ?_⟩, ?_⟩
          · show PcAt _ _ _
            rw [F45.out, F43.out, F32.out, F35.out, F48.out]
            exact PcAt.set (PcAt.set (PcAt.set (PcAt.set (PcAt.set HP.out 0 _) 1 _) 2 _) 3 _) 4 _
          · show PcAt _ _ zeroA
            exact PcAt.other (PcAt.other (PcAt.other (PcAt.other (PcAt.other HZ.out _ _ (by omega)) _ _ (by omega)) _ _ (by omega)) _ _ (by omega)) _ _ (by omega)
          · show Below _ _ _
            exact Below.setCell (Below.setCell (Below.setCell (Below.setCell (Below.setCell HB.out (p := ⟨w.heap.size + 1, 0, none⟩) (by simp) _) (p := ⟨w.heap.size + 1, 1, none⟩) (by simp) _) (p := ⟨w.heap.size + 1, 2, none⟩) (by simp) _) (p := ⟨w.heap.size + 1, 3, none⟩) (by simp) _) (p := ⟨w.heap.size + 1, 4, none⟩) (by simp) _
          · have := HM.out
            simp only [intOf]
            omega
      · obtain rfl : j = n := by omega
        have hno := flag_none s (k + 1)
        rw [← HN.out, ← HM.out] at hno
        have HIx := Lib.hid (HIn.out (ch s m))
        rw [hno] at HIx
        clear hno
        have hmw : m = pw s k := by rw [HM.out, HN.out]; rfl
        have hmle : m ≤ s.size := by have := HM.out; omega
        have HDP : Hid (dotP s k = (ch s (pd s k) == 46 && (fw s k).2.2.1)) := rfl
        have HFPd : Hid (fp s k = if dotP s k then figV s (pd s k + 1) else (-1, false, (fw s k).2.2.1, 0)) := rfl
        have HPVd : Hid (pv s k = if dotP s k then pd s k + 1 + (fp s k).2.2.2 else pd s k) := rfl
        have HFg := Lib.hid (fun W => figure_any s m W hmle hs)
        have hle1 := figV_le s m
        have hF : fw s k = figV s m := by rw [hmw]; rfl
        have hpd : pd s k = m + (figV s m).2.2.2 := by rw [hmw]; rfl
        rw [hF] at HDP HFPd
        rw [hpd] at HDP HFPd HPVd
        clear hmw hpd
        have HFW : Hid (fw s k = figV s m) := hF
        clear hF
        obtain ⟨⟨n1, st1, ok1, l1⟩, hfv⟩ : ∃ x, x = figV s m := ⟨_, rfl⟩
        rw [← hfv] at HFg HDP HFPd HPVd HFW hle1
        clear hfv
        obtain ⟨fm, hfm⟩ : ∃ x, x = hasF 45 s (k + 1) j := ⟨_, rfl⟩
        obtain ⟨fp1, hfp1⟩ : ∃ x, x = hasF 43 s (k + 1) j := ⟨_, rfl⟩
        obtain ⟨fb, hfb⟩ : ∃ x, x = hasF 32 s (k + 1) j := ⟨_, rfl⟩
        obtain ⟨fa, hfa⟩ : ∃ x, x = hasF 35 s (k + 1) j := ⟨_, rfl⟩
        obtain ⟨fz, hfz⟩ : ∃ x, x = hasF 48 s (k + 1) j := ⟨_, rfl⟩
        rw [← hfm, ← hfp1, ← hfb, ← hfa, ← hfz] at HP
        have Hfm := Lib.hid hfm
        have Hfp1 := Lib.hid hfp1
        have Hfb := Lib.hid hfb
        have Hfa := Lib.hid hfa
        have Hfz := Lib.hid hfz
        clear hfm hfp1 hfb hfa hfz
        dsimp only at HFg HDP HFPd HPVd hle1
        generalize hx : ch s m = x at *
        clear hx
        have HP0 := HP
        cases ok1
        · have hfe : figEnd (n1, st1, false, l1) m = -1 := rfl
          rw [hfe] at HFg
          have Hok : Hid (okP s k = false) := by
            show _ = _
            unfold okP
            rw [HFPd.out, HDP.out]
            simp
          clear hfe HDP HFPd HPVd HFW
          go_wp2_with fail
          refine HY.out.mono ?_
          rintro e _ ⟨rfl, rfl⟩
          go_wp2_with fail
          refine (HIx.out _).mono ?_
          rintro e _ ⟨rfl, rfl⟩
          go_wp2_with fail
          refine (HFg.out _).mono ?_
          rintro e _ ⟨rfl, rfl⟩
          have z0 : wr.cell? ⟨w.heap.size, 0, none⟩ = some (.bool false) := HZ.out.cell 0
          have z1 : wr.cell? ⟨w.heap.size, 1, none⟩ = some (.bool false) := HZ.out.cell 1
          have z2 : wr.cell? ⟨w.heap.size, 2, none⟩ = some (.bool false) := HZ.out.cell 2
          have z3 : wr.cell? ⟨w.heap.size, 3, none⟩ = some (.bool false) := HZ.out.cell 3
          have z4 : wr.cell? ⟨w.heap.size, 4, none⟩ = some (.bool false) := HZ.out.cell 4
          have z5 : wr.cell? ⟨w.heap.size, 5, none⟩ = some (.int .i64 0) := HZ.out.cell 5
          have z6 : wr.cell? ⟨w.heap.size, 6, none⟩ = some (.int .i64 0) := HZ.out.cell 6
          have z7 : wr.cell? ⟨w.heap.size, 7, none⟩ = some (.int .u8 0) := HZ.out.cell 7
          have z8 : wr.cell? ⟨w.heap.size, 8, none⟩ = some (.bool false) := HZ.out.cell 8
          have z9 : wr.cell? ⟨w.heap.size, 9, none⟩ = some (.bool false) := HZ.out.cell 9
          have z10 : wr.cell? ⟨w.heap.size, 10, none⟩ = some (.int .i64 0) := HZ.out.cell 10
          have zf : ∀ j, wr.frozen? ⟨w.heap.size, j, none⟩ = false := fun j => HZ.out.frozen j
          go_wp2_with fail
          generalize hW : World.setCell _ _ _ = W
          have hp : PcAt W w.heap.size zeroA := by rw [← hW]; exact PcAt.all (show PcAt wr w.heap.size _ from HZ.out) _ _ _ _ _ _ _ _ _ _ _
          have hb : Below w.heap.size w W := by rw [← hW]; exact below_all HB.out (Nat.le_refl _) _ _ _ _ _ _ _ _ _ _ _
          have hok : okP s k = false := by exact Hok.out
          rw [HQA1.out, HQE1.out, hok]
          clear hW z0 z1 z2 z3 z4 z5 z6 z7 z8 z9 z10 zf
          have k0 : W.cell? ⟨w.heap.size, 0, none⟩ = some (.bool false) := hp.cell 0
          have k1 : W.cell? ⟨w.heap.size, 1, none⟩ = some (.bool false) := hp.cell 1
          have k2 : W.cell? ⟨w.heap.size, 2, none⟩ = some (.bool false) := hp.cell 2
          have k3 : W.cell? ⟨w.heap.size, 3, none⟩ = some (.bool false) := hp.cell 3
          have k4 : W.cell? ⟨w.heap.size, 4, none⟩ = some (.bool false) := hp.cell 4
          have k5 : W.cell? ⟨w.heap.size, 5, none⟩ = some (.int .i64 0) := hp.cell 5
          have k6 : W.cell? ⟨w.heap.size, 6, none⟩ = some (.int .i64 0) := hp.cell 6
          have k7 : W.cell? ⟨w.heap.size, 7, none⟩ = some (.int .u8 0) := hp.cell 7
          have k8 : W.cell? ⟨w.heap.size, 8, none⟩ = some (.bool false) := hp.cell 8
          have k9 : W.cell? ⟨w.heap.size, 9, none⟩ = some (.bool false) := hp.cell 9
          have k10 : W.cell? ⟨w.heap.size, 10, none⟩ = some (.int .i64 0) := hp.cell 10
          clear hp
          exact bodyPost_ret (v := .tuple #[.agg #[.bool false, .bool false, .bool false, .bool false, .bool false, .int .i64 0, .int .i64 0, .int .u8 0, .bool false, .bool false, .int .i64 0], .int .i64 50]) (by simp [results, Tryz.results15, go_sem, *]) rfl ⟨rfl, hb⟩
        · have hfe : figEnd (n1, st1, true, l1) m = ((m + l1 : Nat) : Int) := rfl
          rw [hfe] at HFg
          clear hfe
          have HD1 := Lib.hid (fun (h : ch s (m + l1) = 46) => show m + l1 + 1 ≤ s.size from by
            rcases Nat.lt_or_ge (m + l1) s.size with h' | h'
            · exact h'
            · rw [ch_out h'] at h; cases (h : (0 : Nat) = 46))
          have HF2 := Lib.hid (fun W h => figure_any s (m + l1 + 1) W h hs)
          have hle2 := figV_le s (m + l1 + 1)
          have HAd := Lib.hid (HA.out (m + l1))
          generalize hD : m + l1 = D at *
          have hDle : D ≤ 500000000000000 := by omega
          clear hD hle1
          rw [show chr s ((D : Nat) : Int) = ch s D from chr_nat _ _] at HAd
          have q5 : wr.cell? ⟨w.heap.size + 1, 5, none⟩ = some (.int .i64 0) := HP.out.cell 5
          have q8 : wr.cell? ⟨w.heap.size + 1, 8, none⟩ = some (.bool false) := HP.out.cell 8
          have qf : ∀ j, wr.frozen? ⟨w.heap.size + 1, j, none⟩ = false := fun j => HP.out.frozen j
          have hD0 : decide (((D : Nat) : Int) < 0) = false := by simp
          go_wp2_with fail
          refine HY.out.mono ?_
          rintro e _ ⟨rfl, rfl⟩
          go_wp2_with fail
          refine (HIx.out _).mono ?_
          rintro e _ ⟨rfl, rfl⟩
          go_wp2_with fail
          refine (HFg.out _).mono ?_
          rintro e _ ⟨rfl, rfl⟩
          go_wp2_with fail
          generalize hW3 : World.setCell _ _ _ = W3
          have HPt : Hid (PcAt W3 (w.heap.size + 1) (pieceA fm fp1 fb fa fz n1 (-1) 0 st1 false 0)) := by rw [← hW3]; exact (HP.out.set 5 _).set 8 _
          have HZt : Hid (PcAt W3 w.heap.size zeroA) := by rw [← hW3]; exact (HZ.out.other 5 _ (by omega)).other 8 _ (by omega)
          have HBt : Hid (Below w.heap.size w W3) := by rw [← hW3]; exact (HB.out.setCell (p := ⟨w.heap.size + 1, 5, none⟩) (by simp) _).setCell (p := ⟨w.heap.size + 1, 8, none⟩) (by simp) _
          clear hW3 q5 q8 qf HP0 HP HZ HB HY HIx HFg
          refine (HAd.out _).mono ?_
          rintro e _ ⟨rfl, rfl⟩
          by_cases hC : ch s D = 46
          · rw [hC] at HDP ⊢
            have hD1 := HD1.out hC
            have hDI : ((D : Nat) : Int) + 1 ≤ 900000000000000 := by omega
            have HG := Lib.hid (fun W => HF2.out W hD1)
            have HDt : Hid (dotP s k = true) := by show _ = _; rw [HDP.out]; rfl
            rw [HDt.out, if_pos rfl] at HFPd HPVd
            clear HDP HD1 HF2 hC
            rw [show ((D + 1 : Nat) : Int) = (D : Int) + 1 from by omega] at HG
            obtain ⟨⟨n2, st2, ok2, l2⟩, hfv⟩ : ∃ x, x = figV s (D + 1) := ⟨_, rfl⟩
            rw [← hfv] at HG HFPd hle2
            clear hfv
            dsimp only at HG hle2
            cases ok2
            · have hfe : figEnd (n2, st2, false, l2) (D + 1) = -1 := rfl
              rw [hfe] at HG
              have Hok : Hid (okP s k = false) := by
                show _ = _
                unfold okP
                rw [HFPd.out]
                rfl
              clear hfe HFPd HPVd HFW
              go_wp2_with fail
              refine (HG.out _).mono ?_
              rintro e _ ⟨rfl, rfl⟩
              have z0 : W3.cell? ⟨w.heap.size, 0, none⟩ = some (.bool false) := HZt.out.cell 0
              have z1 : W3.cell? ⟨w.heap.size, 1, none⟩ = some (.bool false) := HZt.out.cell 1
              have z2 : W3.cell? ⟨w.heap.size, 2, none⟩ = some (.bool false) := HZt.out.cell 2
              have z3 : W3.cell? ⟨w.heap.size, 3, none⟩ = some (.bool false) := HZt.out.cell 3
              have z4 : W3.cell? ⟨w.heap.size, 4, none⟩ = some (.bool false) := HZt.out.cell 4
              have z5 : W3.cell? ⟨w.heap.size, 5, none⟩ = some (.int .i64 0) := HZt.out.cell 5
              have z6 : W3.cell? ⟨w.heap.size, 6, none⟩ = some (.int .i64 0) := HZt.out.cell 6
              have z7 : W3.cell? ⟨w.heap.size, 7, none⟩ = some (.int .u8 0) := HZt.out.cell 7
              have z8 : W3.cell? ⟨w.heap.size, 8, none⟩ = some (.bool false) := HZt.out.cell 8
              have z9 : W3.cell? ⟨w.heap.size, 9, none⟩ = some (.bool false) := HZt.out.cell 9
              have z10 : W3.cell? ⟨w.heap.size, 10, none⟩ = some (.int .i64 0) := HZt.out.cell 10
              have zf : ∀ j, W3.frozen? ⟨w.heap.size, j, none⟩ = false := fun j => HZt.out.frozen j
              go_wp2_with fail
              generalize hW : World.setCell _ _ _ = W
              have hp : PcAt W w.heap.size zeroA := by rw [← hW]; exact PcAt.all (show PcAt W3 w.heap.size _ from HZt.out) _ _ _ _ _ _ _ _ _ _ _
              have hb : Below w.heap.size w W := by rw [← hW]; exact below_all HBt.out (Nat.le_refl _) _ _ _ _ _ _ _ _ _ _ _
              have hok : okP s k = false := by exact Hok.out
              rw [HQA1.out, HQE1.out, hok]
              clear hW z0 z1 z2 z3 z4 z5 z6 z7 z8 z9 z10 zf
              have k0 : W.cell? ⟨w.heap.size, 0, none⟩ = some (.bool false) := hp.cell 0
              have k1 : W.cell? ⟨w.heap.size, 1, none⟩ = some (.bool false) := hp.cell 1
              have k2 : W.cell? ⟨w.heap.size, 2, none⟩ = some (.bool false) := hp.cell 2
              have k3 : W.cell? ⟨w.heap.size, 3, none⟩ = some (.bool false) := hp.cell 3
              have k4 : W.cell? ⟨w.heap.size, 4, none⟩ = some (.bool false) := hp.cell 4
              have k5 : W.cell? ⟨w.heap.size, 5, none⟩ = some (.int .i64 0) := hp.cell 5
              have k6 : W.cell? ⟨w.heap.size, 6, none⟩ = some (.int .i64 0) := hp.cell 6
              have k7 : W.cell? ⟨w.heap.size, 7, none⟩ = some (.int .u8 0) := hp.cell 7
              have k8 : W.cell? ⟨w.heap.size, 8, none⟩ = some (.bool false) := hp.cell 8
              have k9 : W.cell? ⟨w.heap.size, 9, none⟩ = some (.bool false) := hp.cell 9
              have k10 : W.cell? ⟨w.heap.size, 10, none⟩ = some (.int .i64 0) := hp.cell 10
              clear hp
              exact bodyPost_ret (v := .tuple #[.agg #[.bool false, .bool false, .bool false, .bool false, .bool false, .int .i64 0, .int .i64 0, .int .u8 0, .bool false, .bool false, .int .i64 0], .int .i64 50]) (by simp [results, Tryz.results15, go_sem, *]) rfl ⟨rfl, hb⟩
            · have hfe : figEnd (n2, st2, true, l2) (D + 1) = ((D + 1 + l2 : Nat) : Int) := rfl
              rw [hfe] at HG
              clear hfe
              have q6 : W3.cell? ⟨w.heap.size + 1, 6, none⟩ = some (.int .i64 (-1)) := HPt.out.cell 6
              have q9 : W3.cell? ⟨w.heap.size + 1, 9, none⟩ = some (.bool false) := HPt.out.cell 9
              have qf : ∀ j, W3.frozen? ⟨w.heap.size + 1, j, none⟩ = false := fun j => HPt.out.frozen j
              have hX0 : decide (((D + 1 + l2 : Nat) : Int) < 0) = false := by simp; omega
              rw [HFPd.out] at HPVd
              have HPV0 : Hid (pv s k = D + 1 + l2) := HPVd
              clear HPVd
              generalize hE : D + 1 + l2 = E at *
              have hEle : E ≤ 800000000000000 := by omega
              clear hE hle2
              go_wp2_with fail
              refine (HG.out _).mono ?_
              rintro e _ ⟨rfl, rfl⟩
              go_wp2_with fail
              generalize hW4 : World.setCell _ _ _ = W4
              have HPu : Hid (PcAt W4 (w.heap.size + 1) (pieceA fm fp1 fb fa fz n1 n2 0 st1 st2 0)) := by rw [← hW4]; exact (HPt.out.set 6 _).set 9 _
              have HZu : Hid (PcAt W4 w.heap.size zeroA) := by rw [← hW4]; exact (HZt.out.other 6 _ (by omega)).other 9 _ (by omega)
              have HBu : Hid (Below w.heap.size w W4) := by rw [← hW4]; exact (HBt.out.setCell (p := ⟨w.heap.size + 1, 6, none⟩) (by simp) _).setCell (p := ⟨w.heap.size + 1, 9, none⟩) (by simp) _
              clear hW4 q6 q9 qf HPt HZt HBt HG
              have HPt := HPu
              have HZt := HZu
              have HBt := HBu
              clear HPu HZu HBu
              have HFP : Hid (fp s k = (n2, st2, true, l2)) := HFPd
              have HPV : Hid (pv s k = E) := HPV0
              have HOK : Hid (okP s k = ((fp s k).2.2.1 && (ch s (pv s k) != 0) && decide (0 ≤ ixB verbsB (ch s (pv s k))))) := rfl
              have HAv := Lib.hid (HA.out (E) W4)
              rw [chr_nat] at HAv
              have hV := ch_lt s (E)
              rw [HPV.out, HFP.out] at HOK
              have HQA2 : Hid (QA = if okP s k = true then pieceA fm fp1 fb fa fz n1 n2 ((ch s (E) : Nat) : Int) st1 st2 ((E + 1 : Nat) : Int) else zeroA) := by
                show _ = _
                rw [HQA1.out]
                unfold pieceP
                rw [HPV.out, HFP.out, HFW.out, ← HN.out, ← Hfm.out, ← Hfp1.out, ← Hfb.out, ← Hfa.out, ← Hfz.out]
              have HIv := Lib.hid (in_any (ch s (E)) verbsB)
              have HVv := Lib.hid (verbs_in (ch s (E)) hV)
              have hXle : ((E : Nat) : Int) ≤ 900000000000000 := by omega
              generalize ch s (E) = V at *
              generalize hXx : (E : Nat) = Xx at *
              clear hXx
              rw [show ((Xx + 1 : Nat) : Int) = (Xx : Int) + 1 from by omega] at HQA2
              clear HQA1 HPV HFP
              have HQA1 := HQA2
              clear HQA2
              generalize hZv : ((V : Nat) : Int) = Z at *
              have HZv := Lib.hid hZv
              clear hZv
              refine HAv.out.mono ?_
              rintro e _ ⟨rfl, rfl⟩
              have t7 : W4.cell? ⟨w.heap.size + 1, 7, none⟩ = some (.int .u8 0) := HPt.out.cell 7
              have tf : ∀ j, W4.frozen? ⟨w.heap.size + 1, j, none⟩ = false := fun j => HPt.out.frozen j
              have HPa : Hid (PcAt (W4.setCell ⟨w.heap.size + 1, 7, none⟩ (.int .u8 Z)) (w.heap.size + 1) (pieceA fm fp1 fb fa fz n1 n2 Z st1 st2 0)) := HPt.out.set 7 _
              have HZa : Hid (PcAt (W4.setCell ⟨w.heap.size + 1, 7, none⟩ (.int .u8 Z)) w.heap.size zeroA) := HZt.out.other 7 _ (by omega)
              have HBa : Hid (Below w.heap.size w (W4.setCell ⟨w.heap.size + 1, 7, none⟩ (.int .u8 Z))) := HBt.out.setCell (p := ⟨w.heap.size + 1, 7, none⟩) (by simp) _
              have v7 : (W4.setCell ⟨w.heap.size + 1, 7, none⟩ (.int .u8 Z)).cell? ⟨w.heap.size + 1, 7, none⟩ = some (.int .u8 Z) := HPa.out.cell 7
              rcases Nat.eq_zero_or_pos V with hV0 | hV0
              · obtain rfl : Z = 0 := by have := HZv.out; omega
                have Hok : Hid (okP s k = false) := by show _ = _; rw [HOK.out, hV0]; rfl
                clear HPt HZt HBt hV0 hV HOK
                have z0 : (W4.setCell ⟨w.heap.size + 1, 7, none⟩ (.int .u8 0)).cell? ⟨w.heap.size, 0, none⟩ = some (.bool false) := HZa.out.cell 0
                have z1 : (W4.setCell ⟨w.heap.size + 1, 7, none⟩ (.int .u8 0)).cell? ⟨w.heap.size, 1, none⟩ = some (.bool false) := HZa.out.cell 1
                have z2 : (W4.setCell ⟨w.heap.size + 1, 7, none⟩ (.int .u8 0)).cell? ⟨w.heap.size, 2, none⟩ = some (.bool false) := HZa.out.cell 2
                have z3 : (W4.setCell ⟨w.heap.size + 1, 7, none⟩ (.int .u8 0)).cell? ⟨w.heap.size, 3, none⟩ = some (.bool false) := HZa.out.cell 3
                have z4 : (W4.setCell ⟨w.heap.size + 1, 7, none⟩ (.int .u8 0)).cell? ⟨w.heap.size, 4, none⟩ = some (.bool false) := HZa.out.cell 4
                have z5 : (W4.setCell ⟨w.heap.size + 1, 7, none⟩ (.int .u8 0)).cell? ⟨w.heap.size, 5, none⟩ = some (.int .i64 0) := HZa.out.cell 5
                have z6 : (W4.setCell ⟨w.heap.size + 1, 7, none⟩ (.int .u8 0)).cell? ⟨w.heap.size, 6, none⟩ = some (.int .i64 0) := HZa.out.cell 6
                have z7 : (W4.setCell ⟨w.heap.size + 1, 7, none⟩ (.int .u8 0)).cell? ⟨w.heap.size, 7, none⟩ = some (.int .u8 0) := HZa.out.cell 7
                have z8 : (W4.setCell ⟨w.heap.size + 1, 7, none⟩ (.int .u8 0)).cell? ⟨w.heap.size, 8, none⟩ = some (.bool false) := HZa.out.cell 8
                have z9 : (W4.setCell ⟨w.heap.size + 1, 7, none⟩ (.int .u8 0)).cell? ⟨w.heap.size, 9, none⟩ = some (.bool false) := HZa.out.cell 9
                have z10 : (W4.setCell ⟨w.heap.size + 1, 7, none⟩ (.int .u8 0)).cell? ⟨w.heap.size, 10, none⟩ = some (.int .i64 0) := HZa.out.cell 10
                have zf : ∀ j, (W4.setCell ⟨w.heap.size + 1, 7, none⟩ (.int .u8 0)).frozen? ⟨w.heap.size, j, none⟩ = false := fun j => HZa.out.frozen j
                go_wp2_with fail
                generalize hW : World.setCell _ _ _ = W
                have hp : PcAt W w.heap.size zeroA := by rw [← hW]; exact PcAt.all (show PcAt (W4.setCell ⟨w.heap.size + 1, 7, none⟩ (.int .u8 0)) w.heap.size _ from HZa.out) _ _ _ _ _ _ _ _ _ _ _
                have hb : Below w.heap.size w W := by rw [← hW]; exact below_all HBa.out (Nat.le_refl _) _ _ _ _ _ _ _ _ _ _ _
                have hok : okP s k = false := by exact Hok.out
                rw [HQA1.out, HQE1.out, hok]
                clear hW z0 z1 z2 z3 z4 z5 z6 z7 z8 z9 z10 zf
                have k0 : W.cell? ⟨w.heap.size, 0, none⟩ = some (.bool false) := hp.cell 0
                have k1 : W.cell? ⟨w.heap.size, 1, none⟩ = some (.bool false) := hp.cell 1
                have k2 : W.cell? ⟨w.heap.size, 2, none⟩ = some (.bool false) := hp.cell 2
                have k3 : W.cell? ⟨w.heap.size, 3, none⟩ = some (.bool false) := hp.cell 3
                have k4 : W.cell? ⟨w.heap.size, 4, none⟩ = some (.bool false) := hp.cell 4
                have k5 : W.cell? ⟨w.heap.size, 5, none⟩ = some (.int .i64 0) := hp.cell 5
                have k6 : W.cell? ⟨w.heap.size, 6, none⟩ = some (.int .i64 0) := hp.cell 6
                have k7 : W.cell? ⟨w.heap.size, 7, none⟩ = some (.int .u8 0) := hp.cell 7
                have k8 : W.cell? ⟨w.heap.size, 8, none⟩ = some (.bool false) := hp.cell 8
                have k9 : W.cell? ⟨w.heap.size, 9, none⟩ = some (.bool false) := hp.cell 9
                have k10 : W.cell? ⟨w.heap.size, 10, none⟩ = some (.int .i64 0) := hp.cell 10
                clear hp
                exact bodyPost_ret (v := .tuple #[.agg #[.bool false, .bool false, .bool false, .bool false, .bool false, .int .i64 0, .int .i64 0, .int .u8 0, .bool false, .bool false, .int .i64 0], .int .i64 50]) (by simp [results, Tryz.results15, go_sem, *]) rfl ⟨rfl, hb⟩
              · have hVn : (Z == 0) = false := by have := HZv.out; simp; omega
                have HVb := Lib.hid (show (V != 0) = true from by simp; omega)
                have HIz : Hid (∀ (W : World), Calls Tryz.prog 43 #[.int .u8 Z, .string ⟨#[100, 105, 111, 120, 88, 117, 101, 69, 102, 70, 103, 71, 99, 115, 37]⟩] W fun e w' => e = .returned (.bool (inL V verbsB)) ∧ W = w') := by
                  show ∀ (W : World), _
                  intro W
                  have h := HIv.out W (by decide)
                  exact h
                have Hok : Hid (okP s k = inL V verbsB) := by
                  have h := HOK.out
                  rw [HVb.out, ← HVv.out] at h
                  exact h.trans (by cases inL V verbsB <;> rfl)
                clear HIv HVv hV0 hV HOK
                generalize inL V verbsB = B at *
                go_wp2_with fail
                refine (HIz.out _).mono ?_
                rintro e _ ⟨rfl, rfl⟩
                cases B
                · clear HPt HZt HBt
                  have z0 : (W4.setCell ⟨w.heap.size + 1, 7, none⟩ (.int .u8 Z)).cell? ⟨w.heap.size, 0, none⟩ = some (.bool false) := HZa.out.cell 0
                  have z1 : (W4.setCell ⟨w.heap.size + 1, 7, none⟩ (.int .u8 Z)).cell? ⟨w.heap.size, 1, none⟩ = some (.bool false) := HZa.out.cell 1
                  have z2 : (W4.setCell ⟨w.heap.size + 1, 7, none⟩ (.int .u8 Z)).cell? ⟨w.heap.size, 2, none⟩ = some (.bool false) := HZa.out.cell 2
                  have z3 : (W4.setCell ⟨w.heap.size + 1, 7, none⟩ (.int .u8 Z)).cell? ⟨w.heap.size, 3, none⟩ = some (.bool false) := HZa.out.cell 3
                  have z4 : (W4.setCell ⟨w.heap.size + 1, 7, none⟩ (.int .u8 Z)).cell? ⟨w.heap.size, 4, none⟩ = some (.bool false) := HZa.out.cell 4
                  have z5 : (W4.setCell ⟨w.heap.size + 1, 7, none⟩ (.int .u8 Z)).cell? ⟨w.heap.size, 5, none⟩ = some (.int .i64 0) := HZa.out.cell 5
                  have z6 : (W4.setCell ⟨w.heap.size + 1, 7, none⟩ (.int .u8 Z)).cell? ⟨w.heap.size, 6, none⟩ = some (.int .i64 0) := HZa.out.cell 6
                  have z7 : (W4.setCell ⟨w.heap.size + 1, 7, none⟩ (.int .u8 Z)).cell? ⟨w.heap.size, 7, none⟩ = some (.int .u8 0) := HZa.out.cell 7
                  have z8 : (W4.setCell ⟨w.heap.size + 1, 7, none⟩ (.int .u8 Z)).cell? ⟨w.heap.size, 8, none⟩ = some (.bool false) := HZa.out.cell 8
                  have z9 : (W4.setCell ⟨w.heap.size + 1, 7, none⟩ (.int .u8 Z)).cell? ⟨w.heap.size, 9, none⟩ = some (.bool false) := HZa.out.cell 9
                  have z10 : (W4.setCell ⟨w.heap.size + 1, 7, none⟩ (.int .u8 Z)).cell? ⟨w.heap.size, 10, none⟩ = some (.int .i64 0) := HZa.out.cell 10
                  have zf : ∀ j, (W4.setCell ⟨w.heap.size + 1, 7, none⟩ (.int .u8 Z)).frozen? ⟨w.heap.size, j, none⟩ = false := fun j => HZa.out.frozen j
                  go_wp2_with fail
                  generalize hW : World.setCell _ _ _ = W
                  have hp : PcAt W w.heap.size zeroA := by rw [← hW]; exact PcAt.all (show PcAt (W4.setCell ⟨w.heap.size + 1, 7, none⟩ (.int .u8 Z)) w.heap.size _ from HZa.out) _ _ _ _ _ _ _ _ _ _ _
                  have hb : Below w.heap.size w W := by rw [← hW]; exact below_all HBa.out (Nat.le_refl _) _ _ _ _ _ _ _ _ _ _ _
                  have hok : okP s k = false := by exact Hok.out
                  rw [HQA1.out, HQE1.out, hok]
                  clear hW z0 z1 z2 z3 z4 z5 z6 z7 z8 z9 z10 zf
                  have k0 : W.cell? ⟨w.heap.size, 0, none⟩ = some (.bool false) := hp.cell 0
                  have k1 : W.cell? ⟨w.heap.size, 1, none⟩ = some (.bool false) := hp.cell 1
                  have k2 : W.cell? ⟨w.heap.size, 2, none⟩ = some (.bool false) := hp.cell 2
                  have k3 : W.cell? ⟨w.heap.size, 3, none⟩ = some (.bool false) := hp.cell 3
                  have k4 : W.cell? ⟨w.heap.size, 4, none⟩ = some (.bool false) := hp.cell 4
                  have k5 : W.cell? ⟨w.heap.size, 5, none⟩ = some (.int .i64 0) := hp.cell 5
                  have k6 : W.cell? ⟨w.heap.size, 6, none⟩ = some (.int .i64 0) := hp.cell 6
                  have k7 : W.cell? ⟨w.heap.size, 7, none⟩ = some (.int .u8 0) := hp.cell 7
                  have k8 : W.cell? ⟨w.heap.size, 8, none⟩ = some (.bool false) := hp.cell 8
                  have k9 : W.cell? ⟨w.heap.size, 9, none⟩ = some (.bool false) := hp.cell 9
                  have k10 : W.cell? ⟨w.heap.size, 10, none⟩ = some (.int .i64 0) := hp.cell 10
                  clear hp
                  exact bodyPost_ret (v := .tuple #[.agg #[.bool false, .bool false, .bool false, .bool false, .bool false, .int .i64 0, .int .i64 0, .int .u8 0, .bool false, .bool false, .int .i64 0], .int .i64 50]) (by simp [results, Tryz.results15, go_sem, *]) rfl ⟨rfl, hb⟩
                · have v10 : (W4.setCell ⟨w.heap.size + 1, 7, none⟩ (.int .u8 Z)).cell? ⟨w.heap.size + 1, 10, none⟩ = some (.int .i64 0) := HPa.out.cell 10
                  have HPc : Hid (PcAt ((W4.setCell ⟨w.heap.size + 1, 7, none⟩ (.int .u8 Z)).setCell ⟨w.heap.size + 1, 10, none⟩ (.int .i64 ((Xx : Int) + 1))) (w.heap.size + 1) (pieceA fm fp1 fb fa fz n1 n2 Z st1 st2 ((Xx : Int) + 1))) := HPa.out.set 10 _
                  have HZc : Hid (PcAt ((W4.setCell ⟨w.heap.size + 1, 7, none⟩ (.int .u8 Z)).setCell ⟨w.heap.size + 1, 10, none⟩ (.int .i64 ((Xx : Int) + 1))) w.heap.size zeroA) := HZa.out.other 10 _ (by omega)
                  have HBc : Hid (Below w.heap.size w ((W4.setCell ⟨w.heap.size + 1, 7, none⟩ (.int .u8 Z)).setCell ⟨w.heap.size + 1, 10, none⟩ (.int .i64 ((Xx : Int) + 1)))) := HBa.out.setCell (p := ⟨w.heap.size + 1, 10, none⟩) (by simp) _
                  have y0 : ((W4.setCell ⟨w.heap.size + 1, 7, none⟩ (.int .u8 Z)).setCell ⟨w.heap.size + 1, 10, none⟩ (.int .i64 ((Xx : Int) + 1))).cell? ⟨w.heap.size + 1, 0, none⟩ = some (.bool fm) := HPc.out.cell 0
                  have y1 : ((W4.setCell ⟨w.heap.size + 1, 7, none⟩ (.int .u8 Z)).setCell ⟨w.heap.size + 1, 10, none⟩ (.int .i64 ((Xx : Int) + 1))).cell? ⟨w.heap.size + 1, 1, none⟩ = some (.bool fp1) := HPc.out.cell 1
                  have y2 : ((W4.setCell ⟨w.heap.size + 1, 7, none⟩ (.int .u8 Z)).setCell ⟨w.heap.size + 1, 10, none⟩ (.int .i64 ((Xx : Int) + 1))).cell? ⟨w.heap.size + 1, 2, none⟩ = some (.bool fb) := HPc.out.cell 2
                  have y3 : ((W4.setCell ⟨w.heap.size + 1, 7, none⟩ (.int .u8 Z)).setCell ⟨w.heap.size + 1, 10, none⟩ (.int .i64 ((Xx : Int) + 1))).cell? ⟨w.heap.size + 1, 3, none⟩ = some (.bool fa) := HPc.out.cell 3
                  have y4 : ((W4.setCell ⟨w.heap.size + 1, 7, none⟩ (.int .u8 Z)).setCell ⟨w.heap.size + 1, 10, none⟩ (.int .i64 ((Xx : Int) + 1))).cell? ⟨w.heap.size + 1, 4, none⟩ = some (.bool fz) := HPc.out.cell 4
                  have y5 : ((W4.setCell ⟨w.heap.size + 1, 7, none⟩ (.int .u8 Z)).setCell ⟨w.heap.size + 1, 10, none⟩ (.int .i64 ((Xx : Int) + 1))).cell? ⟨w.heap.size + 1, 5, none⟩ = some (.int .i64 n1) := HPc.out.cell 5
                  have y6 : ((W4.setCell ⟨w.heap.size + 1, 7, none⟩ (.int .u8 Z)).setCell ⟨w.heap.size + 1, 10, none⟩ (.int .i64 ((Xx : Int) + 1))).cell? ⟨w.heap.size + 1, 6, none⟩ = some (.int .i64 (n2)) := HPc.out.cell 6
                  have y7 : ((W4.setCell ⟨w.heap.size + 1, 7, none⟩ (.int .u8 Z)).setCell ⟨w.heap.size + 1, 10, none⟩ (.int .i64 ((Xx : Int) + 1))).cell? ⟨w.heap.size + 1, 7, none⟩ = some (.int .u8 Z) := HPc.out.cell 7
                  have y8 : ((W4.setCell ⟨w.heap.size + 1, 7, none⟩ (.int .u8 Z)).setCell ⟨w.heap.size + 1, 10, none⟩ (.int .i64 ((Xx : Int) + 1))).cell? ⟨w.heap.size + 1, 8, none⟩ = some (.bool st1) := HPc.out.cell 8
                  have y9 : ((W4.setCell ⟨w.heap.size + 1, 7, none⟩ (.int .u8 Z)).setCell ⟨w.heap.size + 1, 10, none⟩ (.int .i64 ((Xx : Int) + 1))).cell? ⟨w.heap.size + 1, 9, none⟩ = some (.bool st2) := HPc.out.cell 9
                  have y10 : ((W4.setCell ⟨w.heap.size + 1, 7, none⟩ (.int .u8 Z)).setCell ⟨w.heap.size + 1, 10, none⟩ (.int .i64 ((Xx : Int) + 1))).cell? ⟨w.heap.size + 1, 10, none⟩ = some (.int .i64 ((Xx : Int) + 1)) := HPc.out.cell 10
                  have z0 : ((W4.setCell ⟨w.heap.size + 1, 7, none⟩ (.int .u8 Z)).setCell ⟨w.heap.size + 1, 10, none⟩ (.int .i64 ((Xx : Int) + 1))).cell? ⟨w.heap.size, 0, none⟩ = some (.bool false) := HZc.out.cell 0
                  have z1 : ((W4.setCell ⟨w.heap.size + 1, 7, none⟩ (.int .u8 Z)).setCell ⟨w.heap.size + 1, 10, none⟩ (.int .i64 ((Xx : Int) + 1))).cell? ⟨w.heap.size, 1, none⟩ = some (.bool false) := HZc.out.cell 1
                  have z2 : ((W4.setCell ⟨w.heap.size + 1, 7, none⟩ (.int .u8 Z)).setCell ⟨w.heap.size + 1, 10, none⟩ (.int .i64 ((Xx : Int) + 1))).cell? ⟨w.heap.size, 2, none⟩ = some (.bool false) := HZc.out.cell 2
                  have z3 : ((W4.setCell ⟨w.heap.size + 1, 7, none⟩ (.int .u8 Z)).setCell ⟨w.heap.size + 1, 10, none⟩ (.int .i64 ((Xx : Int) + 1))).cell? ⟨w.heap.size, 3, none⟩ = some (.bool false) := HZc.out.cell 3
                  have z4 : ((W4.setCell ⟨w.heap.size + 1, 7, none⟩ (.int .u8 Z)).setCell ⟨w.heap.size + 1, 10, none⟩ (.int .i64 ((Xx : Int) + 1))).cell? ⟨w.heap.size, 4, none⟩ = some (.bool false) := HZc.out.cell 4
                  have z5 : ((W4.setCell ⟨w.heap.size + 1, 7, none⟩ (.int .u8 Z)).setCell ⟨w.heap.size + 1, 10, none⟩ (.int .i64 ((Xx : Int) + 1))).cell? ⟨w.heap.size, 5, none⟩ = some (.int .i64 0) := HZc.out.cell 5
                  have z6 : ((W4.setCell ⟨w.heap.size + 1, 7, none⟩ (.int .u8 Z)).setCell ⟨w.heap.size + 1, 10, none⟩ (.int .i64 ((Xx : Int) + 1))).cell? ⟨w.heap.size, 6, none⟩ = some (.int .i64 0) := HZc.out.cell 6
                  have z7 : ((W4.setCell ⟨w.heap.size + 1, 7, none⟩ (.int .u8 Z)).setCell ⟨w.heap.size + 1, 10, none⟩ (.int .i64 ((Xx : Int) + 1))).cell? ⟨w.heap.size, 7, none⟩ = some (.int .u8 0) := HZc.out.cell 7
                  have z8 : ((W4.setCell ⟨w.heap.size + 1, 7, none⟩ (.int .u8 Z)).setCell ⟨w.heap.size + 1, 10, none⟩ (.int .i64 ((Xx : Int) + 1))).cell? ⟨w.heap.size, 8, none⟩ = some (.bool false) := HZc.out.cell 8
                  have z9 : ((W4.setCell ⟨w.heap.size + 1, 7, none⟩ (.int .u8 Z)).setCell ⟨w.heap.size + 1, 10, none⟩ (.int .i64 ((Xx : Int) + 1))).cell? ⟨w.heap.size, 9, none⟩ = some (.bool false) := HZc.out.cell 9
                  have z10 : ((W4.setCell ⟨w.heap.size + 1, 7, none⟩ (.int .u8 Z)).setCell ⟨w.heap.size + 1, 10, none⟩ (.int .i64 ((Xx : Int) + 1))).cell? ⟨w.heap.size, 10, none⟩ = some (.int .i64 0) := HZc.out.cell 10
                  have zf : ∀ j, ((W4.setCell ⟨w.heap.size + 1, 7, none⟩ (.int .u8 Z)).setCell ⟨w.heap.size + 1, 10, none⟩ (.int .i64 ((Xx : Int) + 1))).frozen? ⟨w.heap.size, j, none⟩ = false := fun j => HZc.out.frozen j
                  clear HPt HZt HBt HPa HZa HBa
                  go_wp2_with fail
                  generalize hW : World.setCell _ _ _ = W
                  have hp : PcAt W w.heap.size #[.bool fm, .bool fp1, .bool fb, .bool fa, .bool fz, .int .i64 n1, .int .i64 (n2), .int .u8 Z, .bool st1, .bool st2, .int .i64 ((Xx : Int) + 1)] := by rw [← hW]; exact PcAt.all (show PcAt _ w.heap.size _ from HZc.out) _ _ _ _ _ _ _ _ _ _ _
                  have hb : Below w.heap.size w W := by rw [← hW]; exact below_all HBc.out (Nat.le_refl _) _ _ _ _ _ _ _ _ _ _ _
                  rw [HQA1.out, HQE1.out, Hok.out]
                  clear hW zf z0 y0 z1 y1 z2 y2 z3 y3 z4 y4 z5 y5 z6 y6 z7 y7 z8 y8 z9 y9 z10 y10 t7 tf v7 v10
                  have k0 : W.cell? ⟨w.heap.size, 0, none⟩ = some (.bool fm) := hp.cell 0
                  have k1 : W.cell? ⟨w.heap.size, 1, none⟩ = some (.bool fp1) := hp.cell 1
                  have k2 : W.cell? ⟨w.heap.size, 2, none⟩ = some (.bool fb) := hp.cell 2
                  have k3 : W.cell? ⟨w.heap.size, 3, none⟩ = some (.bool fa) := hp.cell 3
                  have k4 : W.cell? ⟨w.heap.size, 4, none⟩ = some (.bool fz) := hp.cell 4
                  have k5 : W.cell? ⟨w.heap.size, 5, none⟩ = some (.int .i64 n1) := hp.cell 5
                  have k6 : W.cell? ⟨w.heap.size, 6, none⟩ = some (.int .i64 (n2)) := hp.cell 6
                  have k7 : W.cell? ⟨w.heap.size, 7, none⟩ = some (.int .u8 Z) := hp.cell 7
                  have k8 : W.cell? ⟨w.heap.size, 8, none⟩ = some (.bool st1) := hp.cell 8
                  have k9 : W.cell? ⟨w.heap.size, 9, none⟩ = some (.bool st2) := hp.cell 9
                  have k10 : W.cell? ⟨w.heap.size, 10, none⟩ = some (.int .i64 ((Xx : Int) + 1)) := hp.cell 10
                  clear hp
                  exact bodyPost_ret (v := .tuple #[.agg #[.bool fm, .bool fp1, .bool fb, .bool fa, .bool fz, .int .i64 n1, .int .i64 (n2), .int .u8 Z, .bool st1, .bool st2, .int .i64 ((Xx : Int) + 1)], .int .i64 0]) (by simp [results, Tryz.results15, go_sem, *]) rfl ⟨rfl, hb⟩
          · have hCb : ((ch s D : Int) == 46) = false := by simp; omega
            have HDt : Hid (dotP s k = false) := by show _ = _; rw [HDP.out]; simp [hC]
            rw [HDt.out, if_neg (by decide)] at HFPd HPVd
            have HQv := HPVd
            clear HDP HD1 HF2 hle2
            go_wp2_with fail
            have HFP : Hid (fp s k = (-1, false, true, 0)) := HFPd
            have HPV : Hid (pv s k = D) := HPVd
            have HOK : Hid (okP s k = ((fp s k).2.2.1 && (ch s (pv s k) != 0) && decide (0 ≤ ixB verbsB (ch s (pv s k))))) := rfl
            have HAv := Lib.hid (HA.out (D) W3)
            rw [chr_nat] at HAv
            have hV := ch_lt s (D)
            rw [HPV.out, HFP.out] at HOK
            have HQA2 : Hid (QA = if okP s k = true then pieceA fm fp1 fb fa fz n1 (-1) ((ch s (D) : Nat) : Int) st1 false ((D + 1 : Nat) : Int) else zeroA) := by
              show _ = _
              rw [HQA1.out]
              unfold pieceP
              rw [HPV.out, HFP.out, HFW.out, ← HN.out, ← Hfm.out, ← Hfp1.out, ← Hfb.out, ← Hfa.out, ← Hfz.out]
            have HIv := Lib.hid (in_any (ch s (D)) verbsB)
            have HVv := Lib.hid (verbs_in (ch s (D)) hV)
            have hXle : ((D : Nat) : Int) ≤ 900000000000000 := by omega
            generalize ch s (D) = V at *
            generalize hXx : (D : Nat) = Xx at *
            clear hXx
            rw [show ((Xx + 1 : Nat) : Int) = (Xx : Int) + 1 from by omega] at HQA2
            clear HQA1 HPV HFP
            have HQA1 := HQA2
            clear HQA2
            generalize hZv : ((V : Nat) : Int) = Z at *
            have HZv := Lib.hid hZv
            clear hZv
            refine HAv.out.mono ?_
            rintro e _ ⟨rfl, rfl⟩
            have t7 : W3.cell? ⟨w.heap.size + 1, 7, none⟩ = some (.int .u8 0) := HPt.out.cell 7
            have tf : ∀ j, W3.frozen? ⟨w.heap.size + 1, j, none⟩ = false := fun j => HPt.out.frozen j
            have HPa : Hid (PcAt (W3.setCell ⟨w.heap.size + 1, 7, none⟩ (.int .u8 Z)) (w.heap.size + 1) (pieceA fm fp1 fb fa fz n1 (-1) Z st1 false 0)) := HPt.out.set 7 _
            have HZa : Hid (PcAt (W3.setCell ⟨w.heap.size + 1, 7, none⟩ (.int .u8 Z)) w.heap.size zeroA) := HZt.out.other 7 _ (by omega)
            have HBa : Hid (Below w.heap.size w (W3.setCell ⟨w.heap.size + 1, 7, none⟩ (.int .u8 Z))) := HBt.out.setCell (p := ⟨w.heap.size + 1, 7, none⟩) (by simp) _
            have v7 : (W3.setCell ⟨w.heap.size + 1, 7, none⟩ (.int .u8 Z)).cell? ⟨w.heap.size + 1, 7, none⟩ = some (.int .u8 Z) := HPa.out.cell 7
            rcases Nat.eq_zero_or_pos V with hV0 | hV0
            · obtain rfl : Z = 0 := by have := HZv.out; omega
              have Hok : Hid (okP s k = false) := by show _ = _; rw [HOK.out, hV0]; rfl
              clear HPt HZt HBt hV0 hV HOK
              have z0 : (W3.setCell ⟨w.heap.size + 1, 7, none⟩ (.int .u8 0)).cell? ⟨w.heap.size, 0, none⟩ = some (.bool false) := HZa.out.cell 0
              have z1 : (W3.setCell ⟨w.heap.size + 1, 7, none⟩ (.int .u8 0)).cell? ⟨w.heap.size, 1, none⟩ = some (.bool false) := HZa.out.cell 1
              have z2 : (W3.setCell ⟨w.heap.size + 1, 7, none⟩ (.int .u8 0)).cell? ⟨w.heap.size, 2, none⟩ = some (.bool false) := HZa.out.cell 2
              have z3 : (W3.setCell ⟨w.heap.size + 1, 7, none⟩ (.int .u8 0)).cell? ⟨w.heap.size, 3, none⟩ = some (.bool false) := HZa.out.cell 3
              have z4 : (W3.setCell ⟨w.heap.size + 1, 7, none⟩ (.int .u8 0)).cell? ⟨w.heap.size, 4, none⟩ = some (.bool false) := HZa.out.cell 4
              have z5 : (W3.setCell ⟨w.heap.size + 1, 7, none⟩ (.int .u8 0)).cell? ⟨w.heap.size, 5, none⟩ = some (.int .i64 0) := HZa.out.cell 5
              have z6 : (W3.setCell ⟨w.heap.size + 1, 7, none⟩ (.int .u8 0)).cell? ⟨w.heap.size, 6, none⟩ = some (.int .i64 0) := HZa.out.cell 6
              have z7 : (W3.setCell ⟨w.heap.size + 1, 7, none⟩ (.int .u8 0)).cell? ⟨w.heap.size, 7, none⟩ = some (.int .u8 0) := HZa.out.cell 7
              have z8 : (W3.setCell ⟨w.heap.size + 1, 7, none⟩ (.int .u8 0)).cell? ⟨w.heap.size, 8, none⟩ = some (.bool false) := HZa.out.cell 8
              have z9 : (W3.setCell ⟨w.heap.size + 1, 7, none⟩ (.int .u8 0)).cell? ⟨w.heap.size, 9, none⟩ = some (.bool false) := HZa.out.cell 9
              have z10 : (W3.setCell ⟨w.heap.size + 1, 7, none⟩ (.int .u8 0)).cell? ⟨w.heap.size, 10, none⟩ = some (.int .i64 0) := HZa.out.cell 10
              have zf : ∀ j, (W3.setCell ⟨w.heap.size + 1, 7, none⟩ (.int .u8 0)).frozen? ⟨w.heap.size, j, none⟩ = false := fun j => HZa.out.frozen j
              go_wp2_with fail
              generalize hW : World.setCell _ _ _ = W
              have hp : PcAt W w.heap.size zeroA := by rw [← hW]; exact PcAt.all (show PcAt (W3.setCell ⟨w.heap.size + 1, 7, none⟩ (.int .u8 0)) w.heap.size _ from HZa.out) _ _ _ _ _ _ _ _ _ _ _
              have hb : Below w.heap.size w W := by rw [← hW]; exact below_all HBa.out (Nat.le_refl _) _ _ _ _ _ _ _ _ _ _ _
              have hok : okP s k = false := by exact Hok.out
              rw [HQA1.out, HQE1.out, hok]
              clear hW z0 z1 z2 z3 z4 z5 z6 z7 z8 z9 z10 zf
              have k0 : W.cell? ⟨w.heap.size, 0, none⟩ = some (.bool false) := hp.cell 0
              have k1 : W.cell? ⟨w.heap.size, 1, none⟩ = some (.bool false) := hp.cell 1
              have k2 : W.cell? ⟨w.heap.size, 2, none⟩ = some (.bool false) := hp.cell 2
              have k3 : W.cell? ⟨w.heap.size, 3, none⟩ = some (.bool false) := hp.cell 3
              have k4 : W.cell? ⟨w.heap.size, 4, none⟩ = some (.bool false) := hp.cell 4
              have k5 : W.cell? ⟨w.heap.size, 5, none⟩ = some (.int .i64 0) := hp.cell 5
              have k6 : W.cell? ⟨w.heap.size, 6, none⟩ = some (.int .i64 0) := hp.cell 6
              have k7 : W.cell? ⟨w.heap.size, 7, none⟩ = some (.int .u8 0) := hp.cell 7
              have k8 : W.cell? ⟨w.heap.size, 8, none⟩ = some (.bool false) := hp.cell 8
              have k9 : W.cell? ⟨w.heap.size, 9, none⟩ = some (.bool false) := hp.cell 9
              have k10 : W.cell? ⟨w.heap.size, 10, none⟩ = some (.int .i64 0) := hp.cell 10
              clear hp
              exact bodyPost_ret (v := .tuple #[.agg #[.bool false, .bool false, .bool false, .bool false, .bool false, .int .i64 0, .int .i64 0, .int .u8 0, .bool false, .bool false, .int .i64 0], .int .i64 50]) (by simp [results, Tryz.results15, go_sem, *]) rfl ⟨rfl, hb⟩
            · have hVn : (Z == 0) = false := by have := HZv.out; simp; omega
              have HVb := Lib.hid (show (V != 0) = true from by simp; omega)
              have HIz : Hid (∀ (W : World), Calls Tryz.prog 43 #[.int .u8 Z, .string ⟨#[100, 105, 111, 120, 88, 117, 101, 69, 102, 70, 103, 71, 99, 115, 37]⟩] W fun e w' => e = .returned (.bool (inL V verbsB)) ∧ W = w') := by
                show ∀ (W : World), _
                intro W
                have h := HIv.out W (by decide)
                exact h
              have Hok : Hid (okP s k = inL V verbsB) := by
                have h := HOK.out
                rw [HVb.out, ← HVv.out] at h
                exact h.trans (by cases inL V verbsB <;> rfl)
              clear HIv HVv hV0 hV HOK
              generalize inL V verbsB = B at *
              go_wp2_with fail
              refine (HIz.out _).mono ?_
              rintro e _ ⟨rfl, rfl⟩
              cases B
              · clear HPt HZt HBt
                have z0 : (W3.setCell ⟨w.heap.size + 1, 7, none⟩ (.int .u8 Z)).cell? ⟨w.heap.size, 0, none⟩ = some (.bool false) := HZa.out.cell 0
                have z1 : (W3.setCell ⟨w.heap.size + 1, 7, none⟩ (.int .u8 Z)).cell? ⟨w.heap.size, 1, none⟩ = some (.bool false) := HZa.out.cell 1
                have z2 : (W3.setCell ⟨w.heap.size + 1, 7, none⟩ (.int .u8 Z)).cell? ⟨w.heap.size, 2, none⟩ = some (.bool false) := HZa.out.cell 2
                have z3 : (W3.setCell ⟨w.heap.size + 1, 7, none⟩ (.int .u8 Z)).cell? ⟨w.heap.size, 3, none⟩ = some (.bool false) := HZa.out.cell 3
                have z4 : (W3.setCell ⟨w.heap.size + 1, 7, none⟩ (.int .u8 Z)).cell? ⟨w.heap.size, 4, none⟩ = some (.bool false) := HZa.out.cell 4
                have z5 : (W3.setCell ⟨w.heap.size + 1, 7, none⟩ (.int .u8 Z)).cell? ⟨w.heap.size, 5, none⟩ = some (.int .i64 0) := HZa.out.cell 5
                have z6 : (W3.setCell ⟨w.heap.size + 1, 7, none⟩ (.int .u8 Z)).cell? ⟨w.heap.size, 6, none⟩ = some (.int .i64 0) := HZa.out.cell 6
                have z7 : (W3.setCell ⟨w.heap.size + 1, 7, none⟩ (.int .u8 Z)).cell? ⟨w.heap.size, 7, none⟩ = some (.int .u8 0) := HZa.out.cell 7
                have z8 : (W3.setCell ⟨w.heap.size + 1, 7, none⟩ (.int .u8 Z)).cell? ⟨w.heap.size, 8, none⟩ = some (.bool false) := HZa.out.cell 8
                have z9 : (W3.setCell ⟨w.heap.size + 1, 7, none⟩ (.int .u8 Z)).cell? ⟨w.heap.size, 9, none⟩ = some (.bool false) := HZa.out.cell 9
                have z10 : (W3.setCell ⟨w.heap.size + 1, 7, none⟩ (.int .u8 Z)).cell? ⟨w.heap.size, 10, none⟩ = some (.int .i64 0) := HZa.out.cell 10
                have zf : ∀ j, (W3.setCell ⟨w.heap.size + 1, 7, none⟩ (.int .u8 Z)).frozen? ⟨w.heap.size, j, none⟩ = false := fun j => HZa.out.frozen j
                go_wp2_with fail
                generalize hW : World.setCell _ _ _ = W
                have hp : PcAt W w.heap.size zeroA := by rw [← hW]; exact PcAt.all (show PcAt (W3.setCell ⟨w.heap.size + 1, 7, none⟩ (.int .u8 Z)) w.heap.size _ from HZa.out) _ _ _ _ _ _ _ _ _ _ _
                have hb : Below w.heap.size w W := by rw [← hW]; exact below_all HBa.out (Nat.le_refl _) _ _ _ _ _ _ _ _ _ _ _
                have hok : okP s k = false := by exact Hok.out
                rw [HQA1.out, HQE1.out, hok]
                clear hW z0 z1 z2 z3 z4 z5 z6 z7 z8 z9 z10 zf
                have k0 : W.cell? ⟨w.heap.size, 0, none⟩ = some (.bool false) := hp.cell 0
                have k1 : W.cell? ⟨w.heap.size, 1, none⟩ = some (.bool false) := hp.cell 1
                have k2 : W.cell? ⟨w.heap.size, 2, none⟩ = some (.bool false) := hp.cell 2
                have k3 : W.cell? ⟨w.heap.size, 3, none⟩ = some (.bool false) := hp.cell 3
                have k4 : W.cell? ⟨w.heap.size, 4, none⟩ = some (.bool false) := hp.cell 4
                have k5 : W.cell? ⟨w.heap.size, 5, none⟩ = some (.int .i64 0) := hp.cell 5
                have k6 : W.cell? ⟨w.heap.size, 6, none⟩ = some (.int .i64 0) := hp.cell 6
                have k7 : W.cell? ⟨w.heap.size, 7, none⟩ = some (.int .u8 0) := hp.cell 7
                have k8 : W.cell? ⟨w.heap.size, 8, none⟩ = some (.bool false) := hp.cell 8
                have k9 : W.cell? ⟨w.heap.size, 9, none⟩ = some (.bool false) := hp.cell 9
                have k10 : W.cell? ⟨w.heap.size, 10, none⟩ = some (.int .i64 0) := hp.cell 10
                clear hp
                exact bodyPost_ret (v := .tuple #[.agg #[.bool false, .bool false, .bool false, .bool false, .bool false, .int .i64 0, .int .i64 0, .int .u8 0, .bool false, .bool false, .int .i64 0], .int .i64 50]) (by simp [results, Tryz.results15, go_sem, *]) rfl ⟨rfl, hb⟩
              · have v10 : (W3.setCell ⟨w.heap.size + 1, 7, none⟩ (.int .u8 Z)).cell? ⟨w.heap.size + 1, 10, none⟩ = some (.int .i64 0) := HPa.out.cell 10
                have HPc : Hid (PcAt ((W3.setCell ⟨w.heap.size + 1, 7, none⟩ (.int .u8 Z)).setCell ⟨w.heap.size + 1, 10, none⟩ (.int .i64 ((Xx : Int) + 1))) (w.heap.size + 1) (pieceA fm fp1 fb fa fz n1 (-1) Z st1 false ((Xx : Int) + 1))) := HPa.out.set 10 _
                have HZc : Hid (PcAt ((W3.setCell ⟨w.heap.size + 1, 7, none⟩ (.int .u8 Z)).setCell ⟨w.heap.size + 1, 10, none⟩ (.int .i64 ((Xx : Int) + 1))) w.heap.size zeroA) := HZa.out.other 10 _ (by omega)
                have HBc : Hid (Below w.heap.size w ((W3.setCell ⟨w.heap.size + 1, 7, none⟩ (.int .u8 Z)).setCell ⟨w.heap.size + 1, 10, none⟩ (.int .i64 ((Xx : Int) + 1)))) := HBa.out.setCell (p := ⟨w.heap.size + 1, 10, none⟩) (by simp) _
                have y0 : ((W3.setCell ⟨w.heap.size + 1, 7, none⟩ (.int .u8 Z)).setCell ⟨w.heap.size + 1, 10, none⟩ (.int .i64 ((Xx : Int) + 1))).cell? ⟨w.heap.size + 1, 0, none⟩ = some (.bool fm) := HPc.out.cell 0
                have y1 : ((W3.setCell ⟨w.heap.size + 1, 7, none⟩ (.int .u8 Z)).setCell ⟨w.heap.size + 1, 10, none⟩ (.int .i64 ((Xx : Int) + 1))).cell? ⟨w.heap.size + 1, 1, none⟩ = some (.bool fp1) := HPc.out.cell 1
                have y2 : ((W3.setCell ⟨w.heap.size + 1, 7, none⟩ (.int .u8 Z)).setCell ⟨w.heap.size + 1, 10, none⟩ (.int .i64 ((Xx : Int) + 1))).cell? ⟨w.heap.size + 1, 2, none⟩ = some (.bool fb) := HPc.out.cell 2
                have y3 : ((W3.setCell ⟨w.heap.size + 1, 7, none⟩ (.int .u8 Z)).setCell ⟨w.heap.size + 1, 10, none⟩ (.int .i64 ((Xx : Int) + 1))).cell? ⟨w.heap.size + 1, 3, none⟩ = some (.bool fa) := HPc.out.cell 3
                have y4 : ((W3.setCell ⟨w.heap.size + 1, 7, none⟩ (.int .u8 Z)).setCell ⟨w.heap.size + 1, 10, none⟩ (.int .i64 ((Xx : Int) + 1))).cell? ⟨w.heap.size + 1, 4, none⟩ = some (.bool fz) := HPc.out.cell 4
                have y5 : ((W3.setCell ⟨w.heap.size + 1, 7, none⟩ (.int .u8 Z)).setCell ⟨w.heap.size + 1, 10, none⟩ (.int .i64 ((Xx : Int) + 1))).cell? ⟨w.heap.size + 1, 5, none⟩ = some (.int .i64 n1) := HPc.out.cell 5
                have y6 : ((W3.setCell ⟨w.heap.size + 1, 7, none⟩ (.int .u8 Z)).setCell ⟨w.heap.size + 1, 10, none⟩ (.int .i64 ((Xx : Int) + 1))).cell? ⟨w.heap.size + 1, 6, none⟩ = some (.int .i64 ((-1))) := HPc.out.cell 6
                have y7 : ((W3.setCell ⟨w.heap.size + 1, 7, none⟩ (.int .u8 Z)).setCell ⟨w.heap.size + 1, 10, none⟩ (.int .i64 ((Xx : Int) + 1))).cell? ⟨w.heap.size + 1, 7, none⟩ = some (.int .u8 Z) := HPc.out.cell 7
                have y8 : ((W3.setCell ⟨w.heap.size + 1, 7, none⟩ (.int .u8 Z)).setCell ⟨w.heap.size + 1, 10, none⟩ (.int .i64 ((Xx : Int) + 1))).cell? ⟨w.heap.size + 1, 8, none⟩ = some (.bool st1) := HPc.out.cell 8
                have y9 : ((W3.setCell ⟨w.heap.size + 1, 7, none⟩ (.int .u8 Z)).setCell ⟨w.heap.size + 1, 10, none⟩ (.int .i64 ((Xx : Int) + 1))).cell? ⟨w.heap.size + 1, 9, none⟩ = some (.bool false) := HPc.out.cell 9
                have y10 : ((W3.setCell ⟨w.heap.size + 1, 7, none⟩ (.int .u8 Z)).setCell ⟨w.heap.size + 1, 10, none⟩ (.int .i64 ((Xx : Int) + 1))).cell? ⟨w.heap.size + 1, 10, none⟩ = some (.int .i64 ((Xx : Int) + 1)) := HPc.out.cell 10
                have z0 : ((W3.setCell ⟨w.heap.size + 1, 7, none⟩ (.int .u8 Z)).setCell ⟨w.heap.size + 1, 10, none⟩ (.int .i64 ((Xx : Int) + 1))).cell? ⟨w.heap.size, 0, none⟩ = some (.bool false) := HZc.out.cell 0
                have z1 : ((W3.setCell ⟨w.heap.size + 1, 7, none⟩ (.int .u8 Z)).setCell ⟨w.heap.size + 1, 10, none⟩ (.int .i64 ((Xx : Int) + 1))).cell? ⟨w.heap.size, 1, none⟩ = some (.bool false) := HZc.out.cell 1
                have z2 : ((W3.setCell ⟨w.heap.size + 1, 7, none⟩ (.int .u8 Z)).setCell ⟨w.heap.size + 1, 10, none⟩ (.int .i64 ((Xx : Int) + 1))).cell? ⟨w.heap.size, 2, none⟩ = some (.bool false) := HZc.out.cell 2
                have z3 : ((W3.setCell ⟨w.heap.size + 1, 7, none⟩ (.int .u8 Z)).setCell ⟨w.heap.size + 1, 10, none⟩ (.int .i64 ((Xx : Int) + 1))).cell? ⟨w.heap.size, 3, none⟩ = some (.bool false) := HZc.out.cell 3
                have z4 : ((W3.setCell ⟨w.heap.size + 1, 7, none⟩ (.int .u8 Z)).setCell ⟨w.heap.size + 1, 10, none⟩ (.int .i64 ((Xx : Int) + 1))).cell? ⟨w.heap.size, 4, none⟩ = some (.bool false) := HZc.out.cell 4
                have z5 : ((W3.setCell ⟨w.heap.size + 1, 7, none⟩ (.int .u8 Z)).setCell ⟨w.heap.size + 1, 10, none⟩ (.int .i64 ((Xx : Int) + 1))).cell? ⟨w.heap.size, 5, none⟩ = some (.int .i64 0) := HZc.out.cell 5
                have z6 : ((W3.setCell ⟨w.heap.size + 1, 7, none⟩ (.int .u8 Z)).setCell ⟨w.heap.size + 1, 10, none⟩ (.int .i64 ((Xx : Int) + 1))).cell? ⟨w.heap.size, 6, none⟩ = some (.int .i64 0) := HZc.out.cell 6
                have z7 : ((W3.setCell ⟨w.heap.size + 1, 7, none⟩ (.int .u8 Z)).setCell ⟨w.heap.size + 1, 10, none⟩ (.int .i64 ((Xx : Int) + 1))).cell? ⟨w.heap.size, 7, none⟩ = some (.int .u8 0) := HZc.out.cell 7
                have z8 : ((W3.setCell ⟨w.heap.size + 1, 7, none⟩ (.int .u8 Z)).setCell ⟨w.heap.size + 1, 10, none⟩ (.int .i64 ((Xx : Int) + 1))).cell? ⟨w.heap.size, 8, none⟩ = some (.bool false) := HZc.out.cell 8
                have z9 : ((W3.setCell ⟨w.heap.size + 1, 7, none⟩ (.int .u8 Z)).setCell ⟨w.heap.size + 1, 10, none⟩ (.int .i64 ((Xx : Int) + 1))).cell? ⟨w.heap.size, 9, none⟩ = some (.bool false) := HZc.out.cell 9
                have z10 : ((W3.setCell ⟨w.heap.size + 1, 7, none⟩ (.int .u8 Z)).setCell ⟨w.heap.size + 1, 10, none⟩ (.int .i64 ((Xx : Int) + 1))).cell? ⟨w.heap.size, 10, none⟩ = some (.int .i64 0) := HZc.out.cell 10
                have zf : ∀ j, ((W3.setCell ⟨w.heap.size + 1, 7, none⟩ (.int .u8 Z)).setCell ⟨w.heap.size + 1, 10, none⟩ (.int .i64 ((Xx : Int) + 1))).frozen? ⟨w.heap.size, j, none⟩ = false := fun j => HZc.out.frozen j
                clear HPt HZt HBt HPa HZa HBa
                go_wp2_with fail
                generalize hW : World.setCell _ _ _ = W
                have hp : PcAt W w.heap.size #[.bool fm, .bool fp1, .bool fb, .bool fa, .bool fz, .int .i64 n1, .int .i64 ((-1)), .int .u8 Z, .bool st1, .bool false, .int .i64 ((Xx : Int) + 1)] := by rw [← hW]; exact PcAt.all (show PcAt _ w.heap.size _ from HZc.out) _ _ _ _ _ _ _ _ _ _ _
                have hb : Below w.heap.size w W := by rw [← hW]; exact below_all HBc.out (Nat.le_refl _) _ _ _ _ _ _ _ _ _ _ _
                rw [HQA1.out, HQE1.out, Hok.out]
                clear hW zf z0 y0 z1 y1 z2 y2 z3 y3 z4 y4 z5 y5 z6 y6 z7 y7 z8 y8 z9 y9 z10 y10 t7 tf v7 v10
                have k0 : W.cell? ⟨w.heap.size, 0, none⟩ = some (.bool fm) := hp.cell 0
                have k1 : W.cell? ⟨w.heap.size, 1, none⟩ = some (.bool fp1) := hp.cell 1
                have k2 : W.cell? ⟨w.heap.size, 2, none⟩ = some (.bool fb) := hp.cell 2
                have k3 : W.cell? ⟨w.heap.size, 3, none⟩ = some (.bool fa) := hp.cell 3
                have k4 : W.cell? ⟨w.heap.size, 4, none⟩ = some (.bool fz) := hp.cell 4
                have k5 : W.cell? ⟨w.heap.size, 5, none⟩ = some (.int .i64 n1) := hp.cell 5
                have k6 : W.cell? ⟨w.heap.size, 6, none⟩ = some (.int .i64 ((-1))) := hp.cell 6
                have k7 : W.cell? ⟨w.heap.size, 7, none⟩ = some (.int .u8 Z) := hp.cell 7
                have k8 : W.cell? ⟨w.heap.size, 8, none⟩ = some (.bool st1) := hp.cell 8
                have k9 : W.cell? ⟨w.heap.size, 9, none⟩ = some (.bool false) := hp.cell 9
                have k10 : W.cell? ⟨w.heap.size, 10, none⟩ = some (.int .i64 ((Xx : Int) + 1)) := hp.cell 10
                clear hp
                exact bodyPost_ret (v := .tuple #[.agg #[.bool fm, .bool fp1, .bool fb, .bool fa, .bool fz, .int .i64 n1, .int .i64 ((-1)), .int .u8 Z, .bool st1, .bool false, .int .i64 ((Xx : Int) + 1)], .int .i64 0]) (by simp [results, Tryz.results15, go_sem, *]) rfl ⟨rfl, hb⟩
  · have HQA1 : Hid (QA = zeroA) := by show _ = _; rw [HQA.out, if_neg (fun h => h37 h.1)]
    have HQE1 : Hid (QE = 50) := by show _ = _; rw [HQE.out, if_neg (fun h => h37 h.1)]
    have hb37 : ((chr s i : Int) != 37) = true := by simp; omega
    generalize chr s i = c at *
    clear h37 HQA HQE
    go_enter Tryz.func15, Tryz.ntmps15
    go_wp2_with fail
    refine (HX.out _).mono ?_
    rintro e _ ⟨rfl, rfl⟩
    go_wp2_with fail
    generalize hW : World.alloc _ _ = W
    have hp : PcAt W w.heap.size zeroA := by rw [← hW]; exact heap_alloc_at w _
    have hb : Below w.heap.size w W := by rw [← hW]; exact (Below.refl _ _).alloc (Nat.le_refl _) _
    clear hW
    rw [HQA1.out, HQE1.out]
    have k0 : W.cell? ⟨w.heap.size, 0, none⟩ = some (.bool false) := hp.cell 0
    have k1 : W.cell? ⟨w.heap.size, 1, none⟩ = some (.bool false) := hp.cell 1
    have k2 : W.cell? ⟨w.heap.size, 2, none⟩ = some (.bool false) := hp.cell 2
    have k3 : W.cell? ⟨w.heap.size, 3, none⟩ = some (.bool false) := hp.cell 3
    have k4 : W.cell? ⟨w.heap.size, 4, none⟩ = some (.bool false) := hp.cell 4
    have k5 : W.cell? ⟨w.heap.size, 5, none⟩ = some (.int .i64 0) := hp.cell 5
    have k6 : W.cell? ⟨w.heap.size, 6, none⟩ = some (.int .i64 0) := hp.cell 6
    have k7 : W.cell? ⟨w.heap.size, 7, none⟩ = some (.int .u8 0) := hp.cell 7
    have k8 : W.cell? ⟨w.heap.size, 8, none⟩ = some (.bool false) := hp.cell 8
    have k9 : W.cell? ⟨w.heap.size, 9, none⟩ = some (.bool false) := hp.cell 9
    have k10 : W.cell? ⟨w.heap.size, 10, none⟩ = some (.int .i64 0) := hp.cell 10
    clear hp
    exact bodyPost_ret (v := .tuple #[.agg #[.bool false, .bool false, .bool false, .bool false, .bool false, .int .i64 0, .int .i64 0, .int .u8 0, .bool false, .bool false, .int .i64 0], .int .i64 50]) (by simp [results, Tryz.results15, go_sem, *]) rfl ⟨rfl, hb⟩
end Go.Proofs.YtjldeckcfdeklaaGreatDoor
