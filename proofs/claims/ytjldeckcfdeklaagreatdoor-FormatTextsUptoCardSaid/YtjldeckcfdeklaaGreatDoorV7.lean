/- The document's answer of package format: Check and Text. -/
import Derived.Test.YtjldeckcfdeklaaGreatDoorV6
namespace Go.Proofs.YtjldeckcfdeklaaGreatDoor
open Go.RowKit
set_option linter.unusedVariables false

set_option maxHeartbeats 8000000 in
set_option maxRecDepth 1000000 in
theorem Check5_any (m p b a z : Bool) (wd pr : Int) (vb : Nat) (w : World) (hvb : vb < 256) :
    Calls Tryz.prog 49 #[.agg (specA m p b a z wd pr vb)] w fun e w' => e = .returned (.int .i64 (if okS wd pr vb = true then 0 else 50)) ∧ Below w.heap.size w w' := by
  have HI : Hid (∀ W, Calls Tryz.prog 43 #[.int .u8 (vb : Int), .string ⟨#[100, 105, 111, 120, 88, 117, 101, 69, 102, 70, 103, 71, 99, 115, 37]⟩] W fun e w' => e = .returned (.bool (inL vb verbsB)) ∧ W = w') := fun W => in_any vb verbsB W (by decide)
  have hvs := verbs_in vb hvb
  unfold specA
  unfold okS
  generalize inL vb verbsB = B at *
  generalize ixB verbsB vb = X at *
  by_cases c0 : vb = 0
  · subst c0
    rw [if_neg (by simp)]
    clear HI hvs
    go_enter Tryz.func49, Tryz.ntmps49
    go_wp2_with fail
    go_ret
    exact ⟨rfl, (Below.refl _ _).alloc (Nat.le_refl _) _⟩
  have j0 : ((vb : Int) == 0) = false := by simp; omega
  by_cases c1 : B = false
  · subst c1
    have hX : ¬ 0 ≤ X := of_decide_eq_false hvs.symm
    rw [if_neg (by simp; omega)]
    clear hX
    clear hvs
    go_enter Tryz.func49, Tryz.ntmps49
    go_wp2_with fail
    refine (HI.out _).mono ?_
    rintro e _ ⟨rfl, rfl⟩
    go_wp2_with fail
    go_ret
    exact ⟨rfl, (Below.refl _ _).alloc (Nat.le_refl _) _⟩
  have hB : B = true := by cases B; exact absurd rfl c1; rfl
  subst hB
  have hX : 0 ≤ X := of_decide_eq_true hvs.symm
  clear c1
  by_cases c2 : wd < 0
  · have j2 : decide (wd < 0) = true := by simp; omega
    rw [if_neg (by simp; omega)]
    clear hvs hX c0 c2
    go_enter Tryz.func49, Tryz.ntmps49
    go_wp2_with fail
    refine (HI.out _).mono ?_
    rintro e _ ⟨rfl, rfl⟩
    go_wp2_with fail
    go_ret
    exact ⟨rfl, (Below.refl _ _).alloc (Nat.le_refl _) _⟩
  have j2 : decide (wd < 0) = false := by simp; omega
  by_cases c3 : 1024 < wd
  · have j3 : decide (1024 < wd) = true := by simp; omega
    rw [if_neg (by simp; omega)]
    clear hvs hX c0 c2 c3
    go_enter Tryz.func49, Tryz.ntmps49
    go_wp2_with fail
    refine (HI.out _).mono ?_
    rintro e _ ⟨rfl, rfl⟩
    go_wp2_with fail
    go_ret
    exact ⟨rfl, (Below.refl _ _).alloc (Nat.le_refl _) _⟩
  have j3 : decide (1024 < wd) = false := by simp; omega
  by_cases c4 : pr < -1
  · have j4 : decide (pr < -1) = true := by simp; omega
    rw [if_neg (by simp; omega)]
    clear hvs hX c0 c2 c3 c4
    go_enter Tryz.func49, Tryz.ntmps49
    go_wp2_with fail
    refine (HI.out _).mono ?_
    rintro e _ ⟨rfl, rfl⟩
    go_wp2_with fail
    go_ret
    exact ⟨rfl, (Below.refl _ _).alloc (Nat.le_refl _) _⟩
  have j4 : decide (pr < -1) = false := by simp; omega
  by_cases c5 : 190 < pr
  · have j5 : decide (190 < pr) = true := by simp; omega
    rw [if_neg (by simp; omega)]
    clear hvs hX c0 c2 c3 c4 c5
    go_enter Tryz.func49, Tryz.ntmps49
    go_wp2_with fail
    refine (HI.out _).mono ?_
    rintro e _ ⟨rfl, rfl⟩
    go_wp2_with fail
    go_ret
    exact ⟨rfl, (Below.refl _ _).alloc (Nat.le_refl _) _⟩
  have j5 : decide (190 < pr) = false := by simp; omega
  rw [if_pos (by simp; omega)]
  clear hvs hX c0 c2 c3 c4 c5
  go_enter Tryz.func49, Tryz.ntmps49
  go_wp2_with fail
  refine (HI.out _).mono ?_
  rintro e _ ⟨rfl, rfl⟩
  go_wp2_with fail
  go_ret
  exact ⟨rfl, (Below.refl _ _).alloc (Nat.le_refl _) _⟩

set_option maxHeartbeats 8000000 in
set_option maxRecDepth 1000000 in
theorem Text5_any (m p b a z : Bool) (wd pr : Int) (vb : Nat) (s : ByteArray) (by_ : Bool) (w : World) (hvb8 : vb < 256) (hs : s.size ≤ 900000000) :
    Calls Tryz.prog 17 #[.agg (specA m p b a z wd pr vb), .string s, .bool by_] w fun e w' => e = .returned (.tuple #[.string (textS m wd pr vb s by_), .int .i64 (textE wd pr vb)]) ∧ Below w.heap.size w w' := by
  have HC0 := Lib.hid (fun W => Check5_any m p b a z wd pr vb W hvb8)
  cases hok : okS wd pr vb
  · have HC := HC0
    rw [hok] at HC
    have e1 : textS m wd pr vb s by_ = ⟨#[]⟩ := by unfold textS; rw [if_neg (by rw [hok]; simp)]
    have e2 : textE wd pr vb = 50 := by unfold textE; rw [if_neg (by rw [hok]; simp)]
    rw [e1, e2]
    unfold specA at HC ⊢
    clear e1 e2 hok HC0
    go_enter Tryz.func17, Tryz.ntmps17
    go_wp2_with fail
    refine (HC.out _).mono ?_
    rintro e w1 ⟨rfl, hb⟩
    have HB := Lib.hid (((Below.refl w.heap.size w).alloc (Nat.le_refl _) _).trans (hb.mono (by simp)))
    clear hb
    go_wp2_with fail
    go_ret2
    exact ⟨rfl, HB.out⟩
  · have HC := HC0
    rw [hok] at HC
    clear HC0
    by_cases hvb : vb = 115 ∨ vb = 99
    · have hoks := hok
      unfold okS at hoks
      simp only [Bool.and_eq_true, decide_eq_true_eq, bne_iff_ne] at hoks
      obtain ⟨⟨⟨⟨⟨h1, h2⟩, h3⟩, h4⟩, h5⟩, h6⟩ := hoks
      have HSZ := cutS_size pr vb s by_
      obtain ⟨S, hS⟩ : ∃ S, S = cutS pr vb s by_ := ⟨_, rfl⟩
      have e1 : textS m wd pr vb s by_ = if m = true then S ++ blanksB (wd - ((chars S by_ 0).length : Nat)).toNat else blanksB (wd - ((chars S by_ 0).length : Nat)).toNat ++ S := by
        unfold textS
        rw [if_pos ⟨hok, hvb⟩, ← hS]
      have e2 : textE wd pr vb = 0 := by unfold textE; rw [if_pos ⟨hok, hvb⟩]
      rw [e1, e2]
      rw [← hS] at HSZ
      have hSs : S.size ≤ 900000000 := by omega
      obtain ⟨n, hn⟩ : ∃ n, n = (wd - ((chars S by_ 0).length : Nat)).toNat := ⟨_, rfl⟩
      rw [← hn]
      have HLn := Lib.hid (fun W => Len1_any S by_ W hSs)
      have hcl := chars_len S by_ S.size 0 (by omega)
      have hN0 : ((n : Nat) : Int) = max 0 (wd - ((chars S by_ 0).length : Nat)) := by omega
      have hn2 : n ≤ 1000000000 := by omega
      generalize (chars S by_ 0).length = cnt at *
      have hcI : (cnt : Int) ≤ 140737488351232 := by omega
      have HN := Lib.hid (show IntKind.i64.wrap (wd - (cnt : Int)) = wd - (cnt : Int) from by rw [IntKind.wrap_i64]; omega)
      have HRp := Lib.hid (fun W => many_any (wd - (cnt : Int)) W (by omega))
      obtain ⟨R, hR⟩ : ∃ R : ByteArray, R = blanksB n := ⟨_, rfl⟩
      rw [show (wd - (cnt : Int)).toNat = n from by omega, show blanksB n = R from hR.symm] at HRp
      rw [← hR]
      have hRs : R.size ≤ 1000000000 := by rw [hR]; unfold blanksB; rw [sz_list]; simpa using hn2
      have HSub := Lib.hid (fun W => Sub1_any s pr.toNat by_ W (by omega) hs)
      have HSe := Lib.hid hS
      have hok1 := hok
      unfold specA at HC ⊢
      clear e1 e2 hok hok1 hn hN0 hcl hR h1 h2 hS HSZ
      by_cases hc : 0 ≤ pr ∧ vb = 115
      · obtain ⟨hp0, rfl⟩ := hc
        have hcs : S = s.extract 0 (placeC s by_ pr.toNat) := by rw [HSe.out]; unfold cutS; rw [if_pos ⟨hp0, rfl⟩]
        rw [← hcs] at HSub
        have HPr := Lib.hid (show ((pr.toNat : Nat) : Int) + 1 = pr + 1 from by omega)
        clear hcs HSe
        cases m
        · go_enter Tryz.func17, Tryz.ntmps17
          go_wp2_with fail
          refine (HC.out _).mono ?_
          rintro e w1 ⟨rfl, hb⟩
          have hsp : SpAt w1 w.heap.size #[.bool false, .bool p, .bool b, .bool a, .bool z, .int .i64 wd, .int .i64 pr, .int .u8 115] := SpAt.next (heap_alloc_at w _) hb
          have q0 : w1.cell? ⟨w.heap.size, 0, none⟩ = some (.bool false) := hsp.cell 0
          have q5 : w1.cell? ⟨w.heap.size, 5, none⟩ = some (.int .i64 wd) := hsp.cell 5
          have q6 : w1.cell? ⟨w.heap.size, 6, none⟩ = some (.int .i64 pr) := hsp.cell 6
          have q7 : w1.cell? ⟨w.heap.size, 7, none⟩ = some (.int .u8 115) := hsp.cell 7
          have HB := Lib.hid (((Below.refl w.heap.size w).alloc (Nat.le_refl _) _).trans (hb.mono (by simp)))
          clear hb hsp
          go_wp2_with fail
          rw [← HPr.out]
          refine (HSub.out _).mono ?_
          rintro e w2 ⟨rfl, hb⟩
          have q0 := cell_next hb q0
          have q5 := cell_next hb q5
          have HB := Lib.hid (HB.out.trans (hb.mono HB.out.size))
          clear hb
          go_wp2_with fail
          go_region_held3 (fun w' => w'.cell? ⟨w.heap.size, 5, none⟩ = some (.int .i64 wd)) (first | exact q5 | exact r5)
            (first
              | (go_at_call 51; refine (HLn.out _).mono ?_; clear HLn; rintro e w3 ⟨rfl, hb3⟩; have r5 := cell_next hb3 q5; have r0 := cell_next hb3 q0; have HB3 := Lib.hid (below_next (Nat.le_refl _) HB.out hb3 (by first | exact .inl rfl | exact .inr rfl)))
              | (go_at_call 50; rw [HN.out]; refine (HRp.out _).mono ?_; clear HRp; rintro e w4 ⟨rfl, hb4⟩; have r5 := cell_next hb4 r5; have r0 := cell_next hb4 r0; have HB4 := Lib.hid (below_next (Nat.le_refl _) HB3.out hb4 (by first | exact .inl rfl | exact .inr rfl))))
          all_goals go_wp2_with fail
          all_goals go_ret2
          all_goals exact ⟨rfl, HB4.out⟩
        · go_enter Tryz.func17, Tryz.ntmps17
          go_wp2_with fail
          refine (HC.out _).mono ?_
          rintro e w1 ⟨rfl, hb⟩
          have hsp : SpAt w1 w.heap.size #[.bool true, .bool p, .bool b, .bool a, .bool z, .int .i64 wd, .int .i64 pr, .int .u8 115] := SpAt.next (heap_alloc_at w _) hb
          have q0 : w1.cell? ⟨w.heap.size, 0, none⟩ = some (.bool true) := hsp.cell 0
          have q5 : w1.cell? ⟨w.heap.size, 5, none⟩ = some (.int .i64 wd) := hsp.cell 5
          have q6 : w1.cell? ⟨w.heap.size, 6, none⟩ = some (.int .i64 pr) := hsp.cell 6
          have q7 : w1.cell? ⟨w.heap.size, 7, none⟩ = some (.int .u8 115) := hsp.cell 7
          have HB := Lib.hid (((Below.refl w.heap.size w).alloc (Nat.le_refl _) _).trans (hb.mono (by simp)))
          clear hb hsp
          go_wp2_with fail
          rw [← HPr.out]
          refine (HSub.out _).mono ?_
          rintro e w2 ⟨rfl, hb⟩
          have q0 := cell_next hb q0
          have q5 := cell_next hb q5
          have HB := Lib.hid (HB.out.trans (hb.mono HB.out.size))
          clear hb
          go_wp2_with fail
          go_region_held3 (fun w' => w'.cell? ⟨w.heap.size, 5, none⟩ = some (.int .i64 wd)) (first | exact q5 | exact r5)
            (first
              | (go_at_call 51; refine (HLn.out _).mono ?_; clear HLn; rintro e w3 ⟨rfl, hb3⟩; have r5 := cell_next hb3 q5; have r0 := cell_next hb3 q0; have HB3 := Lib.hid (below_next (Nat.le_refl _) HB.out hb3 (by first | exact .inl rfl | exact .inr rfl)))
              | (go_at_call 50; rw [HN.out]; refine (HRp.out _).mono ?_; clear HRp; rintro e w4 ⟨rfl, hb4⟩; have r5 := cell_next hb4 r5; have r0 := cell_next hb4 r0; have HB4 := Lib.hid (below_next (Nat.le_refl _) HB3.out hb4 (by first | exact .inl rfl | exact .inr rfl))))
          all_goals go_wp2_with fail
          all_goals go_ret2
          all_goals exact ⟨rfl, HB4.out⟩
      · by_cases h115 : vb = 115
        · subst h115
          have hp0 : pr < 0 := by omega
          have hcs : S = s := by rw [HSe.out]; unfold cutS; rw [if_neg (by omega)]
          subst hcs
          clear HSe HSub hc
          cases m
          · go_enter Tryz.func17, Tryz.ntmps17
            go_wp2_with fail
            refine (HC.out _).mono ?_
            rintro e w1 ⟨rfl, hb⟩
            have hsp : SpAt w1 w.heap.size #[.bool false, .bool p, .bool b, .bool a, .bool z, .int .i64 wd, .int .i64 pr, .int .u8 115] := SpAt.next (heap_alloc_at w _) hb
            have q0 : w1.cell? ⟨w.heap.size, 0, none⟩ = some (.bool false) := hsp.cell 0
            have q5 : w1.cell? ⟨w.heap.size, 5, none⟩ = some (.int .i64 wd) := hsp.cell 5
            have q6 : w1.cell? ⟨w.heap.size, 6, none⟩ = some (.int .i64 pr) := hsp.cell 6
            have q7 : w1.cell? ⟨w.heap.size, 7, none⟩ = some (.int .u8 115) := hsp.cell 7
            have HB := Lib.hid (((Below.refl w.heap.size w).alloc (Nat.le_refl _) _).trans (hb.mono (by simp)))
            clear hb hsp
            go_wp2_with fail
            go_region_held3 (fun w' => w'.cell? ⟨w.heap.size, 5, none⟩ = some (.int .i64 wd)) (first | exact q5 | exact r5)
              (first
                | (go_at_call 51; refine (HLn.out _).mono ?_; clear HLn; rintro e w3 ⟨rfl, hb3⟩; have r5 := cell_next hb3 q5; have r0 := cell_next hb3 q0; have HB3 := Lib.hid (below_next (Nat.le_refl _) HB.out hb3 (by first | exact .inl rfl | exact .inr rfl)))
                | (go_at_call 50; rw [HN.out]; refine (HRp.out _).mono ?_; clear HRp; rintro e w4 ⟨rfl, hb4⟩; have r5 := cell_next hb4 r5; have r0 := cell_next hb4 r0; have HB4 := Lib.hid (below_next (Nat.le_refl _) HB3.out hb4 (by first | exact .inl rfl | exact .inr rfl))))
            all_goals go_wp2_with fail
            all_goals go_ret2
            all_goals exact ⟨rfl, HB4.out⟩
          · go_enter Tryz.func17, Tryz.ntmps17
            go_wp2_with fail
            refine (HC.out _).mono ?_
            rintro e w1 ⟨rfl, hb⟩
            have hsp : SpAt w1 w.heap.size #[.bool true, .bool p, .bool b, .bool a, .bool z, .int .i64 wd, .int .i64 pr, .int .u8 115] := SpAt.next (heap_alloc_at w _) hb
            have q0 : w1.cell? ⟨w.heap.size, 0, none⟩ = some (.bool true) := hsp.cell 0
            have q5 : w1.cell? ⟨w.heap.size, 5, none⟩ = some (.int .i64 wd) := hsp.cell 5
            have q6 : w1.cell? ⟨w.heap.size, 6, none⟩ = some (.int .i64 pr) := hsp.cell 6
            have q7 : w1.cell? ⟨w.heap.size, 7, none⟩ = some (.int .u8 115) := hsp.cell 7
            have HB := Lib.hid (((Below.refl w.heap.size w).alloc (Nat.le_refl _) _).trans (hb.mono (by simp)))
            clear hb hsp
            go_wp2_with fail
            go_region_held3 (fun w' => w'.cell? ⟨w.heap.size, 5, none⟩ = some (.int .i64 wd)) (first | exact q5 | exact r5)
              (first
                | (go_at_call 51; refine (HLn.out _).mono ?_; clear HLn; rintro e w3 ⟨rfl, hb3⟩; have r5 := cell_next hb3 q5; have r0 := cell_next hb3 q0; have HB3 := Lib.hid (below_next (Nat.le_refl _) HB.out hb3 (by first | exact .inl rfl | exact .inr rfl)))
                | (go_at_call 50; rw [HN.out]; refine (HRp.out _).mono ?_; clear HRp; rintro e w4 ⟨rfl, hb4⟩; have r5 := cell_next hb4 r5; have r0 := cell_next hb4 r0; have HB4 := Lib.hid (below_next (Nat.le_refl _) HB3.out hb4 (by first | exact .inl rfl | exact .inr rfl))))
            all_goals go_wp2_with fail
            all_goals go_ret2
            all_goals exact ⟨rfl, HB4.out⟩
        · obtain rfl : vb = 99 := by omega
          have hcs : S = s := by rw [HSe.out]; unfold cutS; rw [if_neg (by omega)]
          subst hcs
          clear HSe HSub hc h115
          by_cases hp0 : 0 ≤ pr
          · cases m
            · go_enter Tryz.func17, Tryz.ntmps17
              go_wp2_with fail
              refine (HC.out _).mono ?_
              rintro e w1 ⟨rfl, hb⟩
              have hsp : SpAt w1 w.heap.size #[.bool false, .bool p, .bool b, .bool a, .bool z, .int .i64 wd, .int .i64 pr, .int .u8 99] := SpAt.next (heap_alloc_at w _) hb
              have q0 : w1.cell? ⟨w.heap.size, 0, none⟩ = some (.bool false) := hsp.cell 0
              have q5 : w1.cell? ⟨w.heap.size, 5, none⟩ = some (.int .i64 wd) := hsp.cell 5
              have q6 : w1.cell? ⟨w.heap.size, 6, none⟩ = some (.int .i64 pr) := hsp.cell 6
              have q7 : w1.cell? ⟨w.heap.size, 7, none⟩ = some (.int .u8 99) := hsp.cell 7
              have HB := Lib.hid (((Below.refl w.heap.size w).alloc (Nat.le_refl _) _).trans (hb.mono (by simp)))
              clear hb hsp
              go_wp2_with fail
              go_region_held3 (fun w' => w'.cell? ⟨w.heap.size, 5, none⟩ = some (.int .i64 wd)) (first | exact q5 | exact r5)
                (first
                  | (go_at_call 51; refine (HLn.out _).mono ?_; clear HLn; rintro e w3 ⟨rfl, hb3⟩; have r5 := cell_next hb3 q5; have r0 := cell_next hb3 q0; have HB3 := Lib.hid (below_next (Nat.le_refl _) HB.out hb3 (by first | exact .inl rfl | exact .inr rfl)))
                  | (go_at_call 50; rw [HN.out]; refine (HRp.out _).mono ?_; clear HRp; rintro e w4 ⟨rfl, hb4⟩; have r5 := cell_next hb4 r5; have r0 := cell_next hb4 r0; have HB4 := Lib.hid (below_next (Nat.le_refl _) HB3.out hb4 (by first | exact .inl rfl | exact .inr rfl))))
              all_goals go_wp2_with fail
              all_goals go_ret2
              all_goals exact ⟨rfl, HB4.out⟩
            · go_enter Tryz.func17, Tryz.ntmps17
              go_wp2_with fail
              refine (HC.out _).mono ?_
              rintro e w1 ⟨rfl, hb⟩
              have hsp : SpAt w1 w.heap.size #[.bool true, .bool p, .bool b, .bool a, .bool z, .int .i64 wd, .int .i64 pr, .int .u8 99] := SpAt.next (heap_alloc_at w _) hb
              have q0 : w1.cell? ⟨w.heap.size, 0, none⟩ = some (.bool true) := hsp.cell 0
              have q5 : w1.cell? ⟨w.heap.size, 5, none⟩ = some (.int .i64 wd) := hsp.cell 5
              have q6 : w1.cell? ⟨w.heap.size, 6, none⟩ = some (.int .i64 pr) := hsp.cell 6
              have q7 : w1.cell? ⟨w.heap.size, 7, none⟩ = some (.int .u8 99) := hsp.cell 7
              have HB := Lib.hid (((Below.refl w.heap.size w).alloc (Nat.le_refl _) _).trans (hb.mono (by simp)))
              clear hb hsp
              go_wp2_with fail
              go_region_held3 (fun w' => w'.cell? ⟨w.heap.size, 5, none⟩ = some (.int .i64 wd)) (first | exact q5 | exact r5)
                (first
                  | (go_at_call 51; refine (HLn.out _).mono ?_; clear HLn; rintro e w3 ⟨rfl, hb3⟩; have r5 := cell_next hb3 q5; have r0 := cell_next hb3 q0; have HB3 := Lib.hid (below_next (Nat.le_refl _) HB.out hb3 (by first | exact .inl rfl | exact .inr rfl)))
                  | (go_at_call 50; rw [HN.out]; refine (HRp.out _).mono ?_; clear HRp; rintro e w4 ⟨rfl, hb4⟩; have r5 := cell_next hb4 r5; have r0 := cell_next hb4 r0; have HB4 := Lib.hid (below_next (Nat.le_refl _) HB3.out hb4 (by first | exact .inl rfl | exact .inr rfl))))
              all_goals go_wp2_with fail
              all_goals go_ret2
              all_goals exact ⟨rfl, HB4.out⟩
          · have hp1 : pr < 0 := by omega
            clear hp0
            cases m
            · go_enter Tryz.func17, Tryz.ntmps17
              go_wp2_with fail
              refine (HC.out _).mono ?_
              rintro e w1 ⟨rfl, hb⟩
              have hsp : SpAt w1 w.heap.size #[.bool false, .bool p, .bool b, .bool a, .bool z, .int .i64 wd, .int .i64 pr, .int .u8 99] := SpAt.next (heap_alloc_at w _) hb
              have q0 : w1.cell? ⟨w.heap.size, 0, none⟩ = some (.bool false) := hsp.cell 0
              have q5 : w1.cell? ⟨w.heap.size, 5, none⟩ = some (.int .i64 wd) := hsp.cell 5
              have q6 : w1.cell? ⟨w.heap.size, 6, none⟩ = some (.int .i64 pr) := hsp.cell 6
              have q7 : w1.cell? ⟨w.heap.size, 7, none⟩ = some (.int .u8 99) := hsp.cell 7
              have HB := Lib.hid (((Below.refl w.heap.size w).alloc (Nat.le_refl _) _).trans (hb.mono (by simp)))
              clear hb hsp
              go_wp2_with fail
              go_region_held3 (fun w' => w'.cell? ⟨w.heap.size, 5, none⟩ = some (.int .i64 wd)) (first | exact q5 | exact r5)
                (first
                  | (go_at_call 51; refine (HLn.out _).mono ?_; clear HLn; rintro e w3 ⟨rfl, hb3⟩; have r5 := cell_next hb3 q5; have r0 := cell_next hb3 q0; have HB3 := Lib.hid (below_next (Nat.le_refl _) HB.out hb3 (by first | exact .inl rfl | exact .inr rfl)))
                  | (go_at_call 50; rw [HN.out]; refine (HRp.out _).mono ?_; clear HRp; rintro e w4 ⟨rfl, hb4⟩; have r5 := cell_next hb4 r5; have r0 := cell_next hb4 r0; have HB4 := Lib.hid (below_next (Nat.le_refl _) HB3.out hb4 (by first | exact .inl rfl | exact .inr rfl))))
              all_goals go_wp2_with fail
              all_goals go_ret2
              all_goals exact ⟨rfl, HB4.out⟩
            · go_enter Tryz.func17, Tryz.ntmps17
              go_wp2_with fail
              refine (HC.out _).mono ?_
              rintro e w1 ⟨rfl, hb⟩
              have hsp : SpAt w1 w.heap.size #[.bool true, .bool p, .bool b, .bool a, .bool z, .int .i64 wd, .int .i64 pr, .int .u8 99] := SpAt.next (heap_alloc_at w _) hb
              have q0 : w1.cell? ⟨w.heap.size, 0, none⟩ = some (.bool true) := hsp.cell 0
              have q5 : w1.cell? ⟨w.heap.size, 5, none⟩ = some (.int .i64 wd) := hsp.cell 5
              have q6 : w1.cell? ⟨w.heap.size, 6, none⟩ = some (.int .i64 pr) := hsp.cell 6
              have q7 : w1.cell? ⟨w.heap.size, 7, none⟩ = some (.int .u8 99) := hsp.cell 7
              have HB := Lib.hid (((Below.refl w.heap.size w).alloc (Nat.le_refl _) _).trans (hb.mono (by simp)))
              clear hb hsp
              go_wp2_with fail
              go_region_held3 (fun w' => w'.cell? ⟨w.heap.size, 5, none⟩ = some (.int .i64 wd)) (first | exact q5 | exact r5)
                (first
                  | (go_at_call 51; refine (HLn.out _).mono ?_; clear HLn; rintro e w3 ⟨rfl, hb3⟩; have r5 := cell_next hb3 q5; have r0 := cell_next hb3 q0; have HB3 := Lib.hid (below_next (Nat.le_refl _) HB.out hb3 (by first | exact .inl rfl | exact .inr rfl)))
                  | (go_at_call 50; rw [HN.out]; refine (HRp.out _).mono ?_; clear HRp; rintro e w4 ⟨rfl, hb4⟩; have r5 := cell_next hb4 r5; have r0 := cell_next hb4 r0; have HB4 := Lib.hid (below_next (Nat.le_refl _) HB3.out hb4 (by first | exact .inl rfl | exact .inr rfl))))
              all_goals go_wp2_with fail
              all_goals go_ret2
              all_goals exact ⟨rfl, HB4.out⟩
    · have e1 : textS m wd pr vb s by_ = ⟨#[]⟩ := by unfold textS; rw [if_neg (by rw [hok]; simpa using hvb)]
      have e2 : textE wd pr vb = 50 := by unfold textE; rw [if_neg (by rw [hok]; simpa using hvb)]
      rw [e1, e2]
      have v1 : ((vb : Int) != 115) = true := by simp; omega
      have v2 : ((vb : Int) != 99) = true := by simp; omega
      unfold specA at HC ⊢
      clear e1 e2 hok hvb
      go_enter Tryz.func17, Tryz.ntmps17
      go_wp2_with fail
      refine (HC.out _).mono ?_
      rintro e w1 ⟨rfl, hb⟩
      have hsp : SpAt w1 w.heap.size #[.bool m, .bool p, .bool b, .bool a, .bool z, .int .i64 wd, .int .i64 pr, .int .u8 (vb : Int)] := SpAt.next (heap_alloc_at w _) hb
      have q7 : w1.cell? ⟨w.heap.size, 7, none⟩ = some (.int .u8 (vb : Int)) := hsp.cell 7
      have HB := Lib.hid (((Below.refl w.heap.size w).alloc (Nat.le_refl _) _).trans (hb.mono (by simp)))
      clear hb hsp
      go_wp2_with fail
      go_ret2
      exact ⟨rfl, HB.out⟩
end Go.Proofs.YtjldeckcfdeklaaGreatDoor
