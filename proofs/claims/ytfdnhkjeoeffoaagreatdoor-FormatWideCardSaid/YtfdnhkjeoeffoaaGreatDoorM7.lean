/- Several texts in one (U4). -/
import Derived.Test.YtfdnhkjeoeffoaaGreatDoorM6
section
/- Package format: Check and Text at any spec. -/
namespace Go.Proofs.YtfdnhkjeoeffoaaGreatDoor
open Go.RowKit
set_option linter.unusedVariables false

set_option maxHeartbeats 8000000 in
set_option maxRecDepth 100000 in
theorem Check_bad (m p b a z : Bool) (wd pr : Int) (vb : Nat) (w : World) (h : okS wd pr vb = false) :
    Calls Tryz.prog 68 #[.agg (specA m p b a z wd pr vb)] w fun e w' => e = .returned (.int .i64 50) ∧ Below w.heap.size w w' := by
  unfold okS at h
  have HI : Hid (∀ W, Calls Tryz.prog 69 #[.string ⟨#[100, 105, 111, 120, 88, 117, 101, 69, 102, 70, 103, 71, 99, 115, 37]⟩, .int .u8 (vb : Int)] W fun e w' => e = .returned (.int .i64 (ixB verbsB vb)) ∧ w' = W) :=
      fun W => Tryz.strings_IndexByte verbsB (vb : Int) W
  generalize ixB verbsB vb = J at *
  unfold specA
  by_cases c0 : vb = 0
  · subst c0
    clear h HI
    go_enter Tryz.func68, Tryz.ntmps68
    go_wp2_with fail
    go_ret
    exact ⟨rfl, (Below.refl _ _).alloc (Nat.le_refl _) _⟩
  have hv : ((vb : Int) == 0) = false := by simp; omega
  by_cases c1 : J < 0
  · have j2 : decide (J < 0) = true := by simp; omega
    clear h c0 c1
    go_enter Tryz.func68, Tryz.ntmps68
    go_wp2_with fail
    refine (HI.out _).mono ?_
    rintro e _ ⟨rfl, rfl⟩
    go_wp2_with fail
    go_ret
    exact ⟨rfl, (Below.refl _ _).alloc (Nat.le_refl _) _⟩
  have j2 : decide (J < 0) = false := by simp; omega
  by_cases c2 : wd < 0
  · have j3 : decide (wd < 0) = true := by simp; omega
    clear h c0 c1 c2
    go_enter Tryz.func68, Tryz.ntmps68
    go_wp2_with fail
    refine (HI.out _).mono ?_
    rintro e _ ⟨rfl, rfl⟩
    go_wp2_with fail
    go_ret
    exact ⟨rfl, (Below.refl _ _).alloc (Nat.le_refl _) _⟩
  have j3 : decide (wd < 0) = false := by simp; omega
  by_cases c3 : 1024 < wd
  · have j4 : decide (1024 < wd) = true := by simp; omega
    clear h c0 c1 c2 c3
    go_enter Tryz.func68, Tryz.ntmps68
    go_wp2_with fail
    refine (HI.out _).mono ?_
    rintro e _ ⟨rfl, rfl⟩
    go_wp2_with fail
    go_ret
    exact ⟨rfl, (Below.refl _ _).alloc (Nat.le_refl _) _⟩
  have j4 : decide (1024 < wd) = false := by simp; omega
  by_cases c4 : pr < -1
  · have j5 : decide (pr < -1) = true := by simp; omega
    clear h c0 c1 c2 c3 c4
    go_enter Tryz.func68, Tryz.ntmps68
    go_wp2_with fail
    refine (HI.out _).mono ?_
    rintro e _ ⟨rfl, rfl⟩
    go_wp2_with fail
    go_ret
    exact ⟨rfl, (Below.refl _ _).alloc (Nat.le_refl _) _⟩
  have j5 : decide (pr < -1) = false := by simp; omega
  by_cases c5 : 190 < pr
  · have j6 : decide (190 < pr) = true := by simp; omega
    clear h c0 c1 c2 c3 c4 c5
    go_enter Tryz.func68, Tryz.ntmps68
    go_wp2_with fail
    refine (HI.out _).mono ?_
    rintro e _ ⟨rfl, rfl⟩
    go_wp2_with fail
    go_ret
    exact ⟨rfl, (Below.refl _ _).alloc (Nat.le_refl _) _⟩
  have j6 : decide (190 < pr) = false := by simp; omega
  exfalso
  have : ((vb != 0) && decide (0 ≤ J) && decide (0 ≤ wd) && decide (wd ≤ 1024) && decide (-1 ≤ pr) && decide (pr ≤ 190)) = true := by
    simp
    omega
  rw [this] at h
  cases h

/-- blanks as bytes -/
def blanksB (n : Nat) : ByteArray := ⟨(List.replicate n 32).toArray⟩
/-- what Text cuts -/
def cutS (pr : Int) (vb : Nat) (s : ByteArray) (by_ : Bool) : ByteArray := if 0 ≤ pr ∧ vb = 115 then s.extract 0 (placeC s by_ pr.toNat) else s
/-- what Text answers -/
def textS (m : Bool) (wd pr : Int) (vb : Nat) (s : ByteArray) (by_ : Bool) : ByteArray :=
  if okS wd pr vb = true ∧ (vb = 115 ∨ vb = 99) then
    (if m = true then cutS pr vb s by_ ++ blanksB (wd - ((chars (cutS pr vb s by_) by_ 0).length : Nat)).toNat else blanksB (wd - ((chars (cutS pr vb s by_) by_ 0).length : Nat)).toNat ++ cutS pr vb s by_)
  else ⟨#[]⟩
def textE (wd pr : Int) (vb : Nat) : Int := if okS wd pr vb = true ∧ (vb = 115 ∨ vb = 99) then 0 else 50
/-- a spec in memory -/
def SpAt (W : World) (B : Nat) (A : Array Value) : Prop := W.heap[B]? = some (.cells A 35 (0, 0))
theorem SpAt.cell {W : World} {B : Nat} {A : Array Value} (h : SpAt W B A) (j : Nat) : W.cell? ⟨B, j, none⟩ = A[j]? := by rw [Lib.cell_of_heap h]
theorem SpAt.next {W W' : World} {B : Nat} {A : Array Value} (h : SpAt W B A) (hb : Below W.heap.size W W') : SpAt W' B A := (hb.block B (lt_of_heap h)).trans h
theorem cutS_size (pr : Int) (vb : Nat) (s : ByteArray) (by_ : Bool) : (cutS pr vb s by_).size ≤ s.size := by
  unfold cutS
  split
  · rw [ByteArray.size_extract]; omega
  · exact Nat.le_refl _

set_option maxHeartbeats 8000000 in
set_option maxRecDepth 100000 in
theorem FText_any (m p b a z : Bool) (wd pr : Int) (vb : Nat) (s : ByteArray) (by_ : Bool) (w : World) (hs : s.size ≤ 140737488351232) (hU : U8Ok w) :
    Calls Tryz.prog 66 #[.agg (specA m p b a z wd pr vb), .string s, .bool by_] w fun e w' => e = .returned (.tuple #[.string (textS m wd pr vb s by_), .int .i64 (textE wd pr vb)]) ∧ Below w.heap.size w w' := by
  have HU := Lib.hid hU
  cases hok : okS wd pr vb
  · have HC := Lib.hid (fun W => Check_bad m p b a z wd pr vb W hok)
    have e1 : textS m wd pr vb s by_ = ⟨#[]⟩ := by unfold textS; rw [if_neg (by rw [hok]; simp)]
    have e2 : textE wd pr vb = 50 := by unfold textE; rw [if_neg (by rw [hok]; simp)]
    rw [e1, e2]
    unfold specA at HC ⊢
    clear e1 e2 hU HU hok
    go_enter Tryz.func66, Tryz.ntmps66
    go_wp2_with fail
    refine (HC.out _).mono ?_
    rintro e w1 ⟨rfl, hb⟩
    have HB := Lib.hid (((Below.refl w.heap.size w).alloc (Nat.le_refl _) _).trans (hb.mono (by simp)))
    clear hb
    go_wp2_with fail
    go_ret2
    exact ⟨rfl, HB.out⟩
  · have HC := Lib.hid (fun W => Check_ok m p b a z wd pr vb W hok)
    by_cases hvb : vb = 115 ∨ vb = 99
    · have hoks := hok
      unfold okS at hoks
      simp only [Bool.and_eq_true, decide_eq_true_eq, bne_iff_ne] at hoks
      obtain ⟨⟨⟨⟨⟨h1, h2⟩, h3⟩, h4⟩, h5⟩, h6⟩ := hoks
      have HSZ := cutS_size pr vb s by_
      obtain ⟨S, hS⟩ : ∃ S, S = cutS pr vb s by_ := ⟨_, rfl⟩
      have e1 : textS m wd pr vb s by_ = if m = true then S ++ blanksB (wd - ((chars S by_ 0).length : Nat)).toNat else blanksB (wd - ((chars S by_ 0).length : Nat)).toNat ++ S := by
        unfold textS
        rw [if_pos ⟨hok, hvb⟩, ← hS]
      have e2 : textE wd pr vb = 0 := by unfold textE; rw [if_pos ⟨hok, hvb⟩]
      rw [e1, e2]
      rw [← hS] at HSZ
      have hSs : S.size ≤ 140737488351232 := by omega
      obtain ⟨n, hn⟩ : ∃ n, n = (wd - ((chars S by_ 0).length : Nat)).toNat := ⟨_, rfl⟩
      rw [← hn]
      have HLn := Lib.hid (fun W h => ULen_any S by_ W hSs h)
      have hcl := chars_len S by_ S.size 0 (by omega)
      have hN0 : max 0 (wd - ((chars S by_ 0).length : Nat)) = (n : Int) := by omega
      have hn2 : n ≤ 1000000000 := by omega
      generalize (chars S by_ 0).length = cnt at *
      have hcI : (cnt : Int) ≤ 140737488351232 := by omega
      have HN := Lib.hid (show max 0 (IntKind.i64.wrap (wd - (cnt : Int))) = (n : Int) from by rw [IntKind.wrap_i64]; omega)
      have HRp := Lib.hid (fun W => Repeat_one 32 n W hn2)
      obtain ⟨R, hR⟩ : ∃ R : ByteArray, R = blanksB n := ⟨_, rfl⟩
      rw [show (⟨(List.replicate n (32 : UInt8)).toArray⟩ : ByteArray) = R from hR.symm] at HRp
      rw [← hR]
      have hRs : R.size ≤ 1000000000 := by rw [hR]; unfold blanksB; rw [sz_list]; simpa using hn2
      have HSub := Lib.hid (fun W h => USub_any s pr.toNat by_ W (by omega) hs h)
      have HSe := Lib.hid hS
      have hok1 := hok
      unfold specA at HC ⊢
      clear e1 e2 hU hok hok1 hn hN0 hcl hR h1 h2 hS HSZ
      by_cases hc : 0 ≤ pr ∧ vb = 115
      · obtain ⟨hp0, rfl⟩ := hc
        have hcs : S = s.extract 0 (placeC s by_ pr.toNat) := by rw [HSe.out]; unfold cutS; rw [if_pos ⟨hp0, rfl⟩]
        rw [← hcs] at HSub
        have HPr := Lib.hid (show ((pr.toNat : Nat) : Int) + 1 = pr + 1 from by omega)
        clear hcs HSe
        cases m
        · go_enter Tryz.func66, Tryz.ntmps66
          go_wp2_with fail
          refine (HC.out _).mono ?_
          rintro e w1 ⟨rfl, hb⟩
          have hsp : SpAt w1 w.heap.size #[.bool false, .bool p, .bool b, .bool a, .bool z, .int .i64 wd, .int .i64 pr, .int .u8 115] := SpAt.next (heap_alloc_at w _) hb
          have q0 : w1.cell? ⟨w.heap.size, 0, none⟩ = some (.bool false) := hsp.cell 0
          have q5 : w1.cell? ⟨w.heap.size, 5, none⟩ = some (.int .i64 wd) := hsp.cell 5
          have q6 : w1.cell? ⟨w.heap.size, 6, none⟩ = some (.int .i64 pr) := hsp.cell 6
          have q7 : w1.cell? ⟨w.heap.size, 7, none⟩ = some (.int .u8 115) := hsp.cell 7
          have HB := Lib.hid (((Below.refl w.heap.size w).alloc (Nat.le_refl _) _).trans (hb.mono (by simp)))
          clear hb hsp
          go_wp2_with fail
          rw [← HPr.out]
          refine (HSub.out _ (HU.out.below HB.out)).mono ?_
          rintro e w2 ⟨rfl, hb⟩
          have q0 := cell_next hb q0
          have q5 := cell_next hb q5
          have HB := Lib.hid (HB.out.trans (hb.mono HB.out.size))
          clear hb
          go_wp2_with fail
          go_region_held3 (fun w' => w'.cell? ⟨w.heap.size, 5, none⟩ = some (.int .i64 wd)) (first | exact q5 | exact r5)
            (first
              | (go_at_call 125; refine (HLn.out _ (HU.out.below (by first | exact HB.out | exact HB.out.drew))).mono ?_; clear HLn; rintro e w3 ⟨rfl, hb3⟩; have r5 := cell_next hb3 q5; have r0 := cell_next hb3 q0; have HB3 := Lib.hid (below_next (Nat.le_refl _) HB.out hb3 (by first | exact .inl rfl | exact .inr rfl)))
              | (go_at_call 114; rw [HN.out]; refine (HRp.out _).mono ?_; clear HRp; rintro e w4 ⟨rfl, hb4⟩; have r5 := cell_next hb4 r5; have r0 := cell_next hb4 r0; have HB4 := Lib.hid (below_next (Nat.le_refl _) HB3.out hb4 (by first | exact .inl rfl | exact .inr rfl))))
          all_goals go_wp2_with fail
          all_goals go_ret2
          all_goals exact ⟨rfl, HB4.out⟩
        · go_enter Tryz.func66, Tryz.ntmps66
          go_wp2_with fail
          refine (HC.out _).mono ?_
          rintro e w1 ⟨rfl, hb⟩
          have hsp : SpAt w1 w.heap.size #[.bool true, .bool p, .bool b, .bool a, .bool z, .int .i64 wd, .int .i64 pr, .int .u8 115] := SpAt.next (heap_alloc_at w _) hb
          have q0 : w1.cell? ⟨w.heap.size, 0, none⟩ = some (.bool true) := hsp.cell 0
          have q5 : w1.cell? ⟨w.heap.size, 5, none⟩ = some (.int .i64 wd) := hsp.cell 5
          have q6 : w1.cell? ⟨w.heap.size, 6, none⟩ = some (.int .i64 pr) := hsp.cell 6
          have q7 : w1.cell? ⟨w.heap.size, 7, none⟩ = some (.int .u8 115) := hsp.cell 7
          have HB := Lib.hid (((Below.refl w.heap.size w).alloc (Nat.le_refl _) _).trans (hb.mono (by simp)))
          clear hb hsp
          go_wp2_with fail
          rw [← HPr.out]
          refine (HSub.out _ (HU.out.below HB.out)).mono ?_
          rintro e w2 ⟨rfl, hb⟩
          have q0 := cell_next hb q0
          have q5 := cell_next hb q5
          have HB := Lib.hid (HB.out.trans (hb.mono HB.out.size))
          clear hb
          go_wp2_with fail
          go_region_held3 (fun w' => w'.cell? ⟨w.heap.size, 5, none⟩ = some (.int .i64 wd)) (first | exact q5 | exact r5)
            (first
              | (go_at_call 125; refine (HLn.out _ (HU.out.below (by first | exact HB.out | exact HB.out.drew))).mono ?_; clear HLn; rintro e w3 ⟨rfl, hb3⟩; have r5 := cell_next hb3 q5; have r0 := cell_next hb3 q0; have HB3 := Lib.hid (below_next (Nat.le_refl _) HB.out hb3 (by first | exact .inl rfl | exact .inr rfl)))
              | (go_at_call 114; rw [HN.out]; refine (HRp.out _).mono ?_; clear HRp; rintro e w4 ⟨rfl, hb4⟩; have r5 := cell_next hb4 r5; have r0 := cell_next hb4 r0; have HB4 := Lib.hid (below_next (Nat.le_refl _) HB3.out hb4 (by first | exact .inl rfl | exact .inr rfl))))
          all_goals go_wp2_with fail
          all_goals go_ret2
          all_goals exact ⟨rfl, HB4.out⟩
      · by_cases h115 : vb = 115
        · subst h115
          have hp0 : pr < 0 := by omega
          have hcs : S = s := by rw [HSe.out]; unfold cutS; rw [if_neg (by omega)]
          subst hcs
          clear HSe HSub hc
          cases m
          · go_enter Tryz.func66, Tryz.ntmps66
            go_wp2_with fail
            refine (HC.out _).mono ?_
            rintro e w1 ⟨rfl, hb⟩
            have hsp : SpAt w1 w.heap.size #[.bool false, .bool p, .bool b, .bool a, .bool z, .int .i64 wd, .int .i64 pr, .int .u8 115] := SpAt.next (heap_alloc_at w _) hb
            have q0 : w1.cell? ⟨w.heap.size, 0, none⟩ = some (.bool false) := hsp.cell 0
            have q5 : w1.cell? ⟨w.heap.size, 5, none⟩ = some (.int .i64 wd) := hsp.cell 5
            have q6 : w1.cell? ⟨w.heap.size, 6, none⟩ = some (.int .i64 pr) := hsp.cell 6
            have q7 : w1.cell? ⟨w.heap.size, 7, none⟩ = some (.int .u8 115) := hsp.cell 7
            have HB := Lib.hid (((Below.refl w.heap.size w).alloc (Nat.le_refl _) _).trans (hb.mono (by simp)))
            clear hb hsp
            go_wp2_with fail
            go_region_held3 (fun w' => w'.cell? ⟨w.heap.size, 5, none⟩ = some (.int .i64 wd)) (first | exact q5 | exact r5)
              (first
                | (go_at_call 125; refine (HLn.out _ (HU.out.below (by first | exact HB.out | exact HB.out.drew))).mono ?_; clear HLn; rintro e w3 ⟨rfl, hb3⟩; have r5 := cell_next hb3 q5; have r0 := cell_next hb3 q0; have HB3 := Lib.hid (below_next (Nat.le_refl _) HB.out hb3 (by first | exact .inl rfl | exact .inr rfl)))
                | (go_at_call 114; rw [HN.out]; refine (HRp.out _).mono ?_; clear HRp; rintro e w4 ⟨rfl, hb4⟩; have r5 := cell_next hb4 r5; have r0 := cell_next hb4 r0; have HB4 := Lib.hid (below_next (Nat.le_refl _) HB3.out hb4 (by first | exact .inl rfl | exact .inr rfl))))
            all_goals go_wp2_with fail
            all_goals go_ret2
            all_goals exact ⟨rfl, HB4.out⟩
          · go_enter Tryz.func66, Tryz.ntmps66
            go_wp2_with fail
            refine (HC.out _).mono ?_
            rintro e w1 ⟨rfl, hb⟩
            have hsp : SpAt w1 w.heap.size #[.bool true, .bool p, .bool b, .bool a, .bool z, .int .i64 wd, .int .i64 pr, .int .u8 115] := SpAt.next (heap_alloc_at w _) hb
            have q0 : w1.cell? ⟨w.heap.size, 0, none⟩ = some (.bool true) := hsp.cell 0
            have q5 : w1.cell? ⟨w.heap.size, 5, none⟩ = some (.int .i64 wd) := hsp.cell 5
            have q6 : w1.cell? ⟨w.heap.size, 6, none⟩ = some (.int .i64 pr) := hsp.cell 6
            have q7 : w1.cell? ⟨w.heap.size, 7, none⟩ = some (.int .u8 115) := hsp.cell 7
            have HB := Lib.hid (((Below.refl w.heap.size w).alloc (Nat.le_refl _) _).trans (hb.mono (by simp)))
            clear hb hsp
            go_wp2_with fail
            go_region_held3 (fun w' => w'.cell? ⟨w.heap.size, 5, none⟩ = some (.int .i64 wd)) (first | exact q5 | exact r5)
              (first
                | (go_at_call 125; refine (HLn.out _ (HU.out.below (by first | exact HB.out | exact HB.out.drew))).mono ?_; clear HLn; rintro e w3 ⟨rfl, hb3⟩; have r5 := cell_next hb3 q5; have r0 := cell_next hb3 q0; have HB3 := Lib.hid (below_next (Nat.le_refl _) HB.out hb3 (by first | exact .inl rfl | exact .inr rfl)))
                | (go_at_call 114; rw [HN.out]; refine (HRp.out _).mono ?_; clear HRp; rintro e w4 ⟨rfl, hb4⟩; have r5 := cell_next hb4 r5; have r0 := cell_next hb4 r0; have HB4 := Lib.hid (below_next (Nat.le_refl _) HB3.out hb4 (by first | exact .inl rfl | exact .inr rfl))))
            all_goals go_wp2_with fail
            all_goals go_ret2
            all_goals exact ⟨rfl, HB4.out⟩
        · obtain rfl : vb = 99 := by omega
          have hcs : S = s := by rw [HSe.out]; unfold cutS; rw [if_neg (by omega)]
          subst hcs
          clear HSe HSub hc h115
          by_cases hp0 : 0 ≤ pr
          · cases m
            · go_enter Tryz.func66, Tryz.ntmps66
              go_wp2_with fail
              refine (HC.out _).mono ?_
              rintro e w1 ⟨rfl, hb⟩
              have hsp : SpAt w1 w.heap.size #[.bool false, .bool p, .bool b, .bool a, .bool z, .int .i64 wd, .int .i64 pr, .int .u8 99] := SpAt.next (heap_alloc_at w _) hb
              have q0 : w1.cell? ⟨w.heap.size, 0, none⟩ = some (.bool false) := hsp.cell 0
              have q5 : w1.cell? ⟨w.heap.size, 5, none⟩ = some (.int .i64 wd) := hsp.cell 5
              have q6 : w1.cell? ⟨w.heap.size, 6, none⟩ = some (.int .i64 pr) := hsp.cell 6
              have q7 : w1.cell? ⟨w.heap.size, 7, none⟩ = some (.int .u8 99) := hsp.cell 7
              have HB := Lib.hid (((Below.refl w.heap.size w).alloc (Nat.le_refl _) _).trans (hb.mono (by simp)))
              clear hb hsp
              go_wp2_with fail
              go_region_held3 (fun w' => w'.cell? ⟨w.heap.size, 5, none⟩ = some (.int .i64 wd)) (first | exact q5 | exact r5)
                (first
                  | (go_at_call 125; refine (HLn.out _ (HU.out.below (by first | exact HB.out | exact HB.out.drew))).mono ?_; clear HLn; rintro e w3 ⟨rfl, hb3⟩; have r5 := cell_next hb3 q5; have r0 := cell_next hb3 q0; have HB3 := Lib.hid (below_next (Nat.le_refl _) HB.out hb3 (by first | exact .inl rfl | exact .inr rfl)))
                  | (go_at_call 114; rw [HN.out]; refine (HRp.out _).mono ?_; clear HRp; rintro e w4 ⟨rfl, hb4⟩; have r5 := cell_next hb4 r5; have r0 := cell_next hb4 r0; have HB4 := Lib.hid (below_next (Nat.le_refl _) HB3.out hb4 (by first | exact .inl rfl | exact .inr rfl))))
              all_goals go_wp2_with fail
              all_goals go_ret2
              all_goals exact ⟨rfl, HB4.out⟩
            · go_enter Tryz.func66, Tryz.ntmps66
              go_wp2_with fail
              refine (HC.out _).mono ?_
              rintro e w1 ⟨rfl, hb⟩
              have hsp : SpAt w1 w.heap.size #[.bool true, .bool p, .bool b, .bool a, .bool z, .int .i64 wd, .int .i64 pr, .int .u8 99] := SpAt.next (heap_alloc_at w _) hb
              have q0 : w1.cell? ⟨w.heap.size, 0, none⟩ = some (.bool true) := hsp.cell 0
              have q5 : w1.cell? ⟨w.heap.size, 5, none⟩ = some (.int .i64 wd) := hsp.cell 5
              have q6 : w1.cell? ⟨w.heap.size, 6, none⟩ = some (.int .i64 pr) := hsp.cell 6
              have q7 : w1.cell? ⟨w.heap.size, 7, none⟩ = some (.int .u8 99) := hsp.cell 7
              have HB := Lib.hid (((Below.refl w.heap.size w).alloc (Nat.le_refl _) _).trans (hb.mono (by simp)))
              clear hb hsp
              go_wp2_with fail
              go_region_held3 (fun w' => w'.cell? ⟨w.heap.size, 5, none⟩ = some (.int .i64 wd)) (first | exact q5 | exact r5)
                (first
                  | (go_at_call 125; refine (HLn.out _ (HU.out.below (by first | exact HB.out | exact HB.out.drew))).mono ?_; clear HLn; rintro e w3 ⟨rfl, hb3⟩; have r5 := cell_next hb3 q5; have r0 := cell_next hb3 q0; have HB3 := Lib.hid (below_next (Nat.le_refl _) HB.out hb3 (by first | exact .inl rfl | exact .inr rfl)))
                  | (go_at_call 114; rw [HN.out]; refine (HRp.out _).mono ?_; clear HRp; rintro e w4 ⟨rfl, hb4⟩; have r5 := cell_next hb4 r5; have r0 := cell_next hb4 r0; have HB4 := Lib.hid (below_next (Nat.le_refl _) HB3.out hb4 (by first | exact .inl rfl | exact .inr rfl))))
              all_goals go_wp2_with fail
              all_goals go_ret2
              all_goals exact ⟨rfl, HB4.out⟩
          · have hp1 : pr < 0 := by omega
            clear hp0
            cases m
            · go_enter Tryz.func66, Tryz.ntmps66
              go_wp2_with fail
              refine (HC.out _).mono ?_
              rintro e w1 ⟨rfl, hb⟩
              have hsp : SpAt w1 w.heap.size #[.bool false, .bool p, .bool b, .bool a, .bool z, .int .i64 wd, .int .i64 pr, .int .u8 99] := SpAt.next (heap_alloc_at w _) hb
              have q0 : w1.cell? ⟨w.heap.size, 0, none⟩ = some (.bool false) := hsp.cell 0
              have q5 : w1.cell? ⟨w.heap.size, 5, none⟩ = some (.int .i64 wd) := hsp.cell 5
              have q6 : w1.cell? ⟨w.heap.size, 6, none⟩ = some (.int .i64 pr) := hsp.cell 6
              have q7 : w1.cell? ⟨w.heap.size, 7, none⟩ = some (.int .u8 99) := hsp.cell 7
              have HB := Lib.hid (((Below.refl w.heap.size w).alloc (Nat.le_refl _) _).trans (hb.mono (by simp)))
              clear hb hsp
              go_wp2_with fail
              go_region_held3 (fun w' => w'.cell? ⟨w.heap.size, 5, none⟩ = some (.int .i64 wd)) (first | exact q5 | exact r5)
                (first
                  | (go_at_call 125; refine (HLn.out _ (HU.out.below (by first | exact HB.out | exact HB.out.drew))).mono ?_; clear HLn; rintro e w3 ⟨rfl, hb3⟩; have r5 := cell_next hb3 q5; have r0 := cell_next hb3 q0; have HB3 := Lib.hid (below_next (Nat.le_refl _) HB.out hb3 (by first | exact .inl rfl | exact .inr rfl)))
                  | (go_at_call 114; rw [HN.out]; refine (HRp.out _).mono ?_; clear HRp; rintro e w4 ⟨rfl, hb4⟩; have r5 := cell_next hb4 r5; have r0 := cell_next hb4 r0; have HB4 := Lib.hid (below_next (Nat.le_refl _) HB3.out hb4 (by first | exact .inl rfl | exact .inr rfl))))
              all_goals go_wp2_with fail
              all_goals go_ret2
              all_goals exact ⟨rfl, HB4.out⟩
            · go_enter Tryz.func66, Tryz.ntmps66
              go_wp2_with fail
              refine (HC.out _).mono ?_
              rintro e w1 ⟨rfl, hb⟩
              have hsp : SpAt w1 w.heap.size #[.bool true, .bool p, .bool b, .bool a, .bool z, .int .i64 wd, .int .i64 pr, .int .u8 99] := SpAt.next (heap_alloc_at w _) hb
              have q0 : w1.cell? ⟨w.heap.size, 0, none⟩ = some (.bool true) := hsp.cell 0
              have q5 : w1.cell? ⟨w.heap.size, 5, none⟩ = some (.int .i64 wd) := hsp.cell 5
              have q6 : w1.cell? ⟨w.heap.size, 6, none⟩ = some (.int .i64 pr) := hsp.cell 6
              have q7 : w1.cell? ⟨w.heap.size, 7, none⟩ = some (.int .u8 99) := hsp.cell 7
              have HB := Lib.hid (((Below.refl w.heap.size w).alloc (Nat.le_refl _) _).trans (hb.mono (by simp)))
              clear hb hsp
              go_wp2_with fail
              go_region_held3 (fun w' => w'.cell? ⟨w.heap.size, 5, none⟩ = some (.int .i64 wd)) (first | exact q5 | exact r5)
                (first
                  | (go_at_call 125; refine (HLn.out _ (HU.out.below (by first | exact HB.out | exact HB.out.drew))).mono ?_; clear HLn; rintro e w3 ⟨rfl, hb3⟩; have r5 := cell_next hb3 q5; have r0 := cell_next hb3 q0; have HB3 := Lib.hid (below_next (Nat.le_refl _) HB.out hb3 (by first | exact .inl rfl | exact .inr rfl)))
                  | (go_at_call 114; rw [HN.out]; refine (HRp.out _).mono ?_; clear HRp; rintro e w4 ⟨rfl, hb4⟩; have r5 := cell_next hb4 r5; have r0 := cell_next hb4 r0; have HB4 := Lib.hid (below_next (Nat.le_refl _) HB3.out hb4 (by first | exact .inl rfl | exact .inr rfl))))
              all_goals go_wp2_with fail
              all_goals go_ret2
              all_goals exact ⟨rfl, HB4.out⟩
    · have e1 : textS m wd pr vb s by_ = ⟨#[]⟩ := by unfold textS; rw [if_neg (by rw [hok]; simpa using hvb)]
      have e2 : textE wd pr vb = 50 := by unfold textE; rw [if_neg (by rw [hok]; simpa using hvb)]
      rw [e1, e2]
      have v1 : ((vb : Int) != 115) = true := by simp; omega
      have v2 : ((vb : Int) != 99) = true := by simp; omega
      unfold specA at HC ⊢
      clear e1 e2 hU HU hok hvb
      go_enter Tryz.func66, Tryz.ntmps66
      go_wp2_with fail
      refine (HC.out _).mono ?_
      rintro e w1 ⟨rfl, hb⟩
      have hsp : SpAt w1 w.heap.size #[.bool m, .bool p, .bool b, .bool a, .bool z, .int .i64 wd, .int .i64 pr, .int .u8 (vb : Int)] := SpAt.next (heap_alloc_at w _) hb
      have q7 : w1.cell? ⟨w.heap.size, 7, none⟩ = some (.int .u8 (vb : Int)) := hsp.cell 7
      have HB := Lib.hid (((Below.refl w.heap.size w).alloc (Nat.le_refl _) _).trans (hb.mono (by simp)))
      clear hb hsp
      go_wp2_with fail
      go_ret2
      exact ⟨rfl, HB.out⟩
end Go.Proofs.YtfdnhkjeoeffoaaGreatDoor
end
