/- Several texts in one (P8, U4). -/
import Derived.Test.YtcmpdamfeoaapaaGreatDoorM8
section
/- Package format: Conv at one pattern; package cell: its small functions. -/
namespace Go.Proofs.YtcmpdamfeoaapaaGreatDoor
open Go.RowKit
set_option linter.unusedVariables false

/-! 0.1 by "%.3f" -/
theorem c01_whole : wholeOk 4591870180066957722 = false := by kernel_rfl
theorem c01_canon : Canon [49, 48, 48] (scaledN 4591870180066957722 3) := by
  rw [show scaledN 4591870180066957722 3 = 100 from by kernel_rfl]
  exact canon_mk (by decide) (by decide) (by decide) (by decide)
set_option maxRecDepth 100000 in
theorem Conv_ex (w : World) (hE : ErrOk w) : Calls Tryz.prog 55 #[.float .f64 4591870180066957722, .string ⟨#[37, 46, 51, 102]⟩] w fun e w' => e = .returned (.string ⟨#[48, 46, 49, 48, 48]⟩) ∧ Below w.heap.size w w' := by
  have HW := Lib.hid (fun W => Whole_no 4591870180066957722 W (by decide) c01_whole)
  have HP := Lib.hid (fun W => Parts_any 4591870180066957722 W (by decide))
  rw [show fin 4591870180066957722 = true from by decide] at HP
  have HB : Hid (∀ W, ErrOk W → Calls Tryz.prog 107 #[.float .f64 4591870180066957722, .string ⟨#[37, 46, 51, 102]⟩] W fun e w' => e = .returned (.tuple #[.string ⟨#[48, 46, 49, 48, 48]⟩, .bool true]) ∧ Below W.heap.size W w') := fun W h =>
    by_one ⟨#[37, 46, 51, 102]⟩ 4591870180066957722 false false false false false 0 3 102 [48, 46, 49, 48, 48] W (by decide) (by decide) h (by decide) (by kernel_rfl) (by decide) (by decide)
      (fun W' => Number_f false false false false 0 3 4591870180066957722 [49, 48, 48] W' (by decide) (by decide) (by decide) c01_canon (by decide) (by decide) (by decide)) (by decide)
  have HE := Lib.hid hE
  clear hE
  go_enter Tryz.func55, Tryz.ntmps55
  go_wp2_with fail
  refine (HW.out _).mono ?_
  rintro e _ ⟨rfl, rfl⟩
  go_wp2_with fail
  refine (HP.out _).mono ?_
  rintro e _ ⟨rfl, rfl⟩
  go_wp2_with fail
  refine (HB.out _ HE.out).mono ?_
  rintro e w1 ⟨rfl, hb⟩
  have HBw := Lib.hid hb
  clear hb
  go_wp2_with fail
  go_ret
  exact ⟨rfl, HBw.out⟩

/-- a value -/
def cellA (k : Int) (x : Nat) (s : ByteArray) : Array Value := #[.int .i64 k, .float .f64 x, .string s]
set_option maxRecDepth 100000 in
theorem CText_any (s : ByteArray) (w : World) : Calls Tryz.prog 37 #[.string s] w fun e w' => e = .returned (.agg (cellA 2 0 s)) ∧ Below w.heap.size w w' := by
  unfold cellA
  go_enter Tryz.func37, Tryz.ntmps37
  go_wp2_with fail
  exact bodyPost_ret (v := .agg #[.int .i64 2, .float .f64 0, .string s]) (by simp [results, Tryz.results37, go_sem]) rfl ⟨rfl, (Below.refl _ _).alloc (Nat.le_refl _) _⟩
set_option maxRecDepth 100000 in
theorem Of_any (x : Nat) (w : World) : Calls Tryz.prog 19 #[.float .f64 x] w fun e w' => e = .returned (.agg (cellA 1 x ⟨#[]⟩)) ∧ Below w.heap.size w w' := by
  unfold cellA
  go_enter Tryz.func19, Tryz.ntmps19
  go_wp2_with fail
  exact bodyPost_ret (v := .agg #[.int .i64 1, .float .f64 x, .string ⟨#[]⟩]) (by simp [results, Tryz.results19, go_sem]) rfl ⟨rfl, (Below.refl _ _).alloc (Nat.le_refl _) _⟩
/-- what came in, as a value -/
def inA (s : ByteArray) : Array Value := if looksL s.data.toList then cellA 3 (prefB s.data.toList) s else cellA 2 0 s
set_option maxRecDepth 100000 in
theorem Input_any (s : ByteArray) (w : World) (hs : s.size ≤ 140737488355328) : Calls Tryz.prog 22 #[.string s] w fun e w' => e = .returned (.agg (inA s)) ∧ Below w.heap.size w w' := by
  have HL := Lib.hid (fun W => Looks_any s W hs)
  have HP := Lib.hid (fun W => Prefix_any s W hs)
  have HTx := Lib.hid (fun W => CText_any s W)
  have HA : Hid (inA s = if looksL s.data.toList then cellA 3 (prefB s.data.toList) s else cellA 2 0 s) := rfl
  generalize inA s = A at *
  generalize prefB s.data.toList = x at *
  generalize prefN s.data.toList = n at *
  unfold cellA at HTx HA
  cases hl : looksL s.data.toList
  · rw [hl] at HL HA
    go_enter Tryz.func22, Tryz.ntmps22
    go_wp2_with fail
    refine (HL.out _).mono ?_
    rintro e w1 ⟨rfl, hb1⟩
    have HB1 := Lib.hid (((Below.refl w.heap.size w).alloc (Nat.le_refl _) (.cells #[.int .i64 0, .float .f64 0, .string ⟨#[]⟩] 35)).trans (hb1.mono (by simp)))
    have c0 : w1.cell? ⟨w.heap.size, 0, none⟩ = some (.int .i64 0) := by rw [hb1.cell (by simp)]; simp [go_sem]
    have c1 : w1.cell? ⟨w.heap.size, 1, none⟩ = some (.float .f64 0) := by rw [hb1.cell (by simp)]; simp [go_sem]
    have c2 : w1.cell? ⟨w.heap.size, 2, none⟩ = some (.string ⟨#[]⟩) := by rw [hb1.cell (by simp)]; simp [go_sem]
    have cf : ∀ j, w1.frozen? ⟨w.heap.size, j, none⟩ = false := by intro j; rw [hb1.frozen (by simp)]; simp [go_sem]
    have hz1 := hb1.size
    rw [World.size_alloc] at hz1
    clear hb1
    go_wp2_with fail
    refine (HTx.out _).mono ?_
    rintro e w2 ⟨rfl, hb2⟩
    have HB2 := Lib.hid (HB1.out.trans (hb2.mono HB1.out.size))
    have d0 := cell_next hb2 c0
    have d1 := cell_next hb2 c1
    have d2 := cell_next hb2 c2
    have df : ∀ j, w2.frozen? ⟨w.heap.size, j, none⟩ = false := by intro j; rw [hb2.frozen (by simp; omega)]; exact cf j
    clear hb2 c0 c1 c2 cf
    go_wp2_with fail
    rw [HA.out]
    refine bodyPost_ret (v := .agg #[.int .i64 2, .float .f64 0, .string s]) (by simp [results, Tryz.results22, go_sem, *]) rfl ⟨rfl, ?_⟩
    exact ((HB2.out.setCell (p := ⟨w.heap.size, 0, none⟩) (by simp) _).setCell (p := ⟨w.heap.size, 1, none⟩) (by simp) _).setCell (p := ⟨w.heap.size, 2, none⟩) (by simp) _
  · rw [hl] at HL HA
    go_enter Tryz.func22, Tryz.ntmps22
    go_wp2_with fail
    refine (HL.out _).mono ?_
    rintro e w1 ⟨rfl, hb1⟩
    have HB1 := Lib.hid (((Below.refl w.heap.size w).alloc (Nat.le_refl _) (.cells #[.int .i64 0, .float .f64 0, .string ⟨#[]⟩] 35)).trans (hb1.mono (by simp)))
    have c0 : w1.cell? ⟨w.heap.size, 0, none⟩ = some (.int .i64 0) := by rw [hb1.cell (by simp)]; simp [go_sem]
    have c1 : w1.cell? ⟨w.heap.size, 1, none⟩ = some (.float .f64 0) := by rw [hb1.cell (by simp)]; simp [go_sem]
    have c2 : w1.cell? ⟨w.heap.size, 2, none⟩ = some (.string ⟨#[]⟩) := by rw [hb1.cell (by simp)]; simp [go_sem]
    have cf : ∀ j, w1.frozen? ⟨w.heap.size, j, none⟩ = false := by intro j; rw [hb1.frozen (by simp)]; simp [go_sem]
    have hz1 := hb1.size
    rw [World.size_alloc] at hz1
    clear hb1
    go_wp2_with fail
    refine (HP.out _).mono ?_
    rintro e w2 ⟨rfl, hb2⟩
    have HB2 := Lib.hid (HB1.out.trans (hb2.mono HB1.out.size))
    have d0 := cell_next hb2 c0
    have d1 := cell_next hb2 c1
    have d2 := cell_next hb2 c2
    have df : ∀ j, w2.frozen? ⟨w.heap.size, j, none⟩ = false := by intro j; rw [hb2.frozen (by simp; omega)]; exact cf j
    clear hb2 c0 c1 c2 cf
    go_wp2_with fail
    rw [HA.out]
    refine bodyPost_ret (v := .agg #[.int .i64 3, .float .f64 x, .string s]) (by simp [results, Tryz.results22, go_sem, *]) rfl ⟨rfl, ?_⟩
    exact ((HB2.out.setCell (p := ⟨w.heap.size, 0, none⟩) (by simp) _).setCell (p := ⟨w.heap.size, 1, none⟩) (by simp) _).setCell (p := ⟨w.heap.size, 2, none⟩) (by simp) _

/-- a value as a number: one that is a number -/
theorem Num_num (k : Int) (x : Nat) (s : ByteArray) (w : World) (hk : k = 1 ∨ k = 3) : Calls Tryz.prog 39 #[.agg (cellA k x s)] w fun e w' => e = .returned (.float .f64 x) ∧ Below w.heap.size w w' := by
  unfold cellA
  rcases hk with rfl | rfl
  · go_enter Tryz.func39, Tryz.ntmps39
    go_wp2_with fail
    go_ret
    exact ⟨rfl, (Below.refl _ _).alloc (Nat.le_refl _) _⟩
  · go_enter Tryz.func39, Tryz.ntmps39
    go_wp2_with fail
    go_ret
    exact ⟨rfl, (Below.refl _ _).alloc (Nat.le_refl _) _⟩
theorem Num_str (x : Nat) (s : ByteArray) (w : World) (hs : s.size ≤ 140737488355328) : Calls Tryz.prog 39 #[.agg (cellA 2 x s)] w fun e w' => e = .returned (.float .f64 (prefB s.data.toList)) ∧ Below w.heap.size w w' := by
  have HP := Lib.hid (fun W => Prefix_any s W hs)
  generalize prefB s.data.toList = y at *
  generalize prefN s.data.toList = n at *
  unfold cellA
  go_enter Tryz.func39, Tryz.ntmps39
  go_wp2_with fail
  refine (HP.out _).mono ?_
  rintro e w1 ⟨rfl, hb1⟩
  have HB1 := Lib.hid (((Below.refl w.heap.size w).alloc (Nat.le_refl _) (.cells #[.int .i64 2, .float .f64 x, .string s] 35)).trans (hb1.mono (by simp)))
  clear hb1
  go_wp2_with fail
  go_ret
  exact ⟨rfl, HB1.out⟩
theorem Str_str (k : Int) (x : Nat) (s c : ByteArray) (w : World) (hk : k = 2 ∨ k = 3) : Calls Tryz.prog 18 #[.agg (cellA k x s), .string c] w fun e w' => e = .returned (.string s) ∧ Below w.heap.size w w' := by
  unfold cellA
  rcases hk with rfl | rfl
  · go_enter Tryz.func18, Tryz.ntmps18
    go_wp2_with fail
    go_ret
    exact ⟨rfl, (Below.refl _ _).alloc (Nat.le_refl _) _⟩
  · go_enter Tryz.func18, Tryz.ntmps18
    go_wp2_with fail
    go_ret
    exact ⟨rfl, (Below.refl _ _).alloc (Nat.le_refl _) _⟩
theorem Str_num (x : Nat) (s c o : ByteArray) (w : World) (hC : ∀ W, Below w.heap.size w W → Calls Tryz.prog 55 #[.float .f64 x, .string c] W fun e w' => e = .returned (.string o) ∧ Below W.heap.size W w') :
    Calls Tryz.prog 18 #[.agg (cellA 1 x s), .string c] w fun e w' => e = .returned (.string o) ∧ Below w.heap.size w w' := by
  have HC := Lib.hid hC
  clear hC
  unfold cellA
  go_enter Tryz.func18, Tryz.ntmps18
  go_wp2_with fail
  have hb0 := (Below.refl w.heap.size w).alloc (Nat.le_refl _) (.cells #[.int .i64 1, .float .f64 x, .string s] 35)
  refine (HC.out _ hb0).mono ?_
  rintro e w1 ⟨rfl, hb1⟩
  have HB1 := Lib.hid (hb0.trans (hb1.mono (by simp)))
  clear hb1 hb0
  go_wp2_with fail
  go_ret
  exact ⟨rfl, HB1.out⟩
theorem True_zero (w : World) : Calls Tryz.prog 25 #[.agg #[.int .i64 0, .float .f64 0, .string ⟨#[]⟩]] w fun e w' => e = .returned (.bool false) ∧ Below w.heap.size w w' := by
  go_enter Tryz.func25, Tryz.ntmps25
  go_wp2_with fail
  go_ret
  exact ⟨rfl, (Below.refl _ _).alloc (Nat.le_refl _) _⟩

/-- the order of two floats that are numbers -/
def ordF (x y : Nat) : Int := if FloatKind.f64.format.order x y == some .lt then -1 else if FloatKind.f64.format.order x y == some .gt then 1 else 0
theorem order_any (x y : Nat) (w : World) (hx : FloatKind.f64.format.order x x = some .eq) (hy : FloatKind.f64.format.order y y = some .eq) :
    Calls Tryz.prog 64 #[.float .f64 x, .float .f64 y] w fun e w' => e = .returned (.int .i64 (ordF x y)) ∧ w = w' := by
  have ho : ordF x y = if FloatKind.f64.format.order x y == some .lt then -1 else if FloatKind.f64.format.order x y == some .gt then 1 else 0 := rfl
  have HO := Lib.hid ho
  generalize ordF x y = d at *
  clear ho
  have nx : (FloatKind.f64.format.order x x != some .eq) = false := by rw [hx]; rfl
  have ny : (FloatKind.f64.format.order y y != some .eq) = false := by rw [hy]; rfl
  cases h1 : (FloatKind.f64.format.order x y == some .lt)
  · cases h2 : (FloatKind.f64.format.order x y == some .gt)
    · rw [h1, h2] at HO
      go_enter Tryz.func64, Tryz.ntmps64
      go_wp2_with fail
      go_ret
      exact ⟨by rw [HO.out]; rfl, rfl⟩
    · rw [h1, h2] at HO
      go_enter Tryz.func64, Tryz.ntmps64
      go_wp2_with fail
      go_ret
      exact ⟨by rw [HO.out]; rfl, rfl⟩
  · rw [h1] at HO
    go_enter Tryz.func64, Tryz.ntmps64
    go_wp2_with fail
    go_ret
    exact ⟨by rw [HO.out]; rfl, rfl⟩
end Go.Proofs.YtcmpdamfeoaapaaGreatDoor
end

section
/- Package format: Check and Text at any spec. -/
namespace Go.Proofs.YtcmpdamfeoaapaaGreatDoor
open Go.RowKit
set_option linter.unusedVariables false

set_option maxHeartbeats 8000000 in
set_option maxRecDepth 100000 in
theorem Check_bad (m p b a z : Bool) (wd pr : Int) (vb : Nat) (w : World) (h : okS wd pr vb = false) :
    Calls Tryz.prog 57 #[.agg (specA m p b a z wd pr vb)] w fun e w' => e = .returned (.int .i64 50) ∧ Below w.heap.size w w' := by
  unfold okS at h
  have HI : Hid (∀ W, Calls Tryz.prog 58 #[.string ⟨#[100, 105, 111, 120, 88, 117, 101, 69, 102, 70, 103, 71, 99, 115, 37]⟩, .int .u8 (vb : Int)] W fun e w' => e = .returned (.int .i64 (ixB verbsB vb)) ∧ w' = W) :=
      fun W => Tryz.strings_IndexByte verbsB (vb : Int) W
  generalize ixB verbsB vb = J at *
  unfold specA
  by_cases c0 : vb = 0
  · subst c0
    clear h HI
    go_enter Tryz.func57, Tryz.ntmps57
    go_wp2_with fail
    go_ret
    exact ⟨rfl, (Below.refl _ _).alloc (Nat.le_refl _) _⟩
  have hv : ((vb : Int) == 0) = false := by simp; omega
  by_cases c1 : J < 0
  · have j2 : decide (J < 0) = true := by simp; omega
    clear h c0 c1
    go_enter Tryz.func57, Tryz.ntmps57
    go_wp2_with fail
    refine (HI.out _).mono ?_
    rintro e _ ⟨rfl, rfl⟩
    go_wp2_with fail
    go_ret
    exact ⟨rfl, (Below.refl _ _).alloc (Nat.le_refl _) _⟩
  have j2 : decide (J < 0) = false := by simp; omega
  by_cases c2 : wd < 0
  · have j3 : decide (wd < 0) = true := by simp; omega
    clear h c0 c1 c2
    go_enter Tryz.func57, Tryz.ntmps57
    go_wp2_with fail
    refine (HI.out _).mono ?_
    rintro e _ ⟨rfl, rfl⟩
    go_wp2_with fail
    go_ret
    exact ⟨rfl, (Below.refl _ _).alloc (Nat.le_refl _) _⟩
  have j3 : decide (wd < 0) = false := by simp; omega
  by_cases c3 : 1024 < wd
  · have j4 : decide (1024 < wd) = true := by simp; omega
    clear h c0 c1 c2 c3
    go_enter Tryz.func57, Tryz.ntmps57
    go_wp2_with fail
    refine (HI.out _).mono ?_
    rintro e _ ⟨rfl, rfl⟩
    go_wp2_with fail
    go_ret
    exact ⟨rfl, (Below.refl _ _).alloc (Nat.le_refl _) _⟩
  have j4 : decide (1024 < wd) = false := by simp; omega
  by_cases c4 : pr < -1
  · have j5 : decide (pr < -1) = true := by simp; omega
    clear h c0 c1 c2 c3 c4
    go_enter Tryz.func57, Tryz.ntmps57
    go_wp2_with fail
    refine (HI.out _).mono ?_
    rintro e _ ⟨rfl, rfl⟩
    go_wp2_with fail
    go_ret
    exact ⟨rfl, (Below.refl _ _).alloc (Nat.le_refl _) _⟩
  have j5 : decide (pr < -1) = false := by simp; omega
  by_cases c5 : 190 < pr
  · have j6 : decide (190 < pr) = true := by simp; omega
    clear h c0 c1 c2 c3 c4 c5
    go_enter Tryz.func57, Tryz.ntmps57
    go_wp2_with fail
    refine (HI.out _).mono ?_
    rintro e _ ⟨rfl, rfl⟩
    go_wp2_with fail
    go_ret
    exact ⟨rfl, (Below.refl _ _).alloc (Nat.le_refl _) _⟩
  have j6 : decide (190 < pr) = false := by simp; omega
  exfalso
  have : ((vb != 0) && decide (0 ≤ J) && decide (0 ≤ wd) && decide (wd ≤ 1024) && decide (-1 ≤ pr) && decide (pr ≤ 190)) = true := by
    simp
    omega
  rw [this] at h
  cases h

/-- blanks as bytes -/
def blanksB (n : Nat) : ByteArray := ⟨(List.replicate n 32).toArray⟩
/-- what Text cuts -/
def cutS (pr : Int) (vb : Nat) (s : ByteArray) (by_ : Bool) : ByteArray := if 0 ≤ pr ∧ vb = 115 then s.extract 0 (placeC s by_ pr.toNat) else s
/-- what Text answers -/
def textS (m : Bool) (wd pr : Int) (vb : Nat) (s : ByteArray) (by_ : Bool) : ByteArray :=
  if okS wd pr vb = true ∧ (vb = 115 ∨ vb = 99) then
    (if m = true then cutS pr vb s by_ ++ blanksB (wd - ((chars (cutS pr vb s by_) by_ 0).length : Nat)).toNat else blanksB (wd - ((chars (cutS pr vb s by_) by_ 0).length : Nat)).toNat ++ cutS pr vb s by_)
  else ⟨#[]⟩
def textE (wd pr : Int) (vb : Nat) : Int := if okS wd pr vb = true ∧ (vb = 115 ∨ vb = 99) then 0 else 50
/-- a spec in memory -/
def SpAt (W : World) (B : Nat) (A : Array Value) : Prop := W.heap[B]? = some (.cells A 30 (0, 0))
theorem SpAt.cell {W : World} {B : Nat} {A : Array Value} (h : SpAt W B A) (j : Nat) : W.cell? ⟨B, j, none⟩ = A[j]? := by rw [Lib.cell_of_heap h]
theorem SpAt.next {W W' : World} {B : Nat} {A : Array Value} (h : SpAt W B A) (hb : Below W.heap.size W W') : SpAt W' B A := (hb.block B (lt_of_heap h)).trans h
theorem cutS_size (pr : Int) (vb : Nat) (s : ByteArray) (by_ : Bool) : (cutS pr vb s by_).size ≤ s.size := by
  unfold cutS
  split
  · rw [ByteArray.size_extract]; omega
  · exact Nat.le_refl _

set_option maxHeartbeats 8000000 in
set_option maxRecDepth 100000 in
theorem FText_any (m p b a z : Bool) (wd pr : Int) (vb : Nat) (s : ByteArray) (by_ : Bool) (w : World) (hs : s.size ≤ 140737488351232) (hU : U8Ok w) :
    Calls Tryz.prog 134 #[.agg (specA m p b a z wd pr vb), .string s, .bool by_] w fun e w' => e = .returned (.tuple #[.string (textS m wd pr vb s by_), .int .i64 (textE wd pr vb)]) ∧ Below w.heap.size w w' := by
  have HU := Lib.hid hU
  cases hok : okS wd pr vb
  · have HC := Lib.hid (fun W => Check_bad m p b a z wd pr vb W hok)
    have e1 : textS m wd pr vb s by_ = ⟨#[]⟩ := by unfold textS; rw [if_neg (by rw [hok]; simp)]
    have e2 : textE wd pr vb = 50 := by unfold textE; rw [if_neg (by rw [hok]; simp)]
    rw [e1, e2]
    unfold specA at HC ⊢
    clear e1 e2 hU HU hok
    go_enter Tryz.func134, Tryz.ntmps134
    go_wp2_with fail
    refine (HC.out _).mono ?_
    rintro e w1 ⟨rfl, hb⟩
    have HB := Lib.hid (((Below.refl w.heap.size w).alloc (Nat.le_refl _) _).trans (hb.mono (by simp)))
    clear hb
    go_wp2_with fail
    go_ret2
    exact ⟨rfl, HB.out⟩
  · have HC := Lib.hid (fun W => Check_ok m p b a z wd pr vb W hok)
    by_cases hvb : vb = 115 ∨ vb = 99
    · have hoks := hok
      unfold okS at hoks
      simp only [Bool.and_eq_true, decide_eq_true_eq, bne_iff_ne] at hoks
      obtain ⟨⟨⟨⟨⟨h1, h2⟩, h3⟩, h4⟩, h5⟩, h6⟩ := hoks
      have HSZ := cutS_size pr vb s by_
      obtain ⟨S, hS⟩ : ∃ S, S = cutS pr vb s by_ := ⟨_, rfl⟩
      have e1 : textS m wd pr vb s by_ = if m = true then S ++ blanksB (wd - ((chars S by_ 0).length : Nat)).toNat else blanksB (wd - ((chars S by_ 0).length : Nat)).toNat ++ S := by
        unfold textS
        rw [if_pos ⟨hok, hvb⟩, ← hS]
      have e2 : textE wd pr vb = 0 := by unfold textE; rw [if_pos ⟨hok, hvb⟩]
      rw [e1, e2]
      rw [← hS] at HSZ
      have hSs : S.size ≤ 140737488351232 := by omega
      obtain ⟨n, hn⟩ : ∃ n, n = (wd - ((chars S by_ 0).length : Nat)).toNat := ⟨_, rfl⟩
      rw [← hn]
      have HLn := Lib.hid (fun W h => ULen_any S by_ W hSs h)
      have hcl := chars_len S by_ S.size 0 (by omega)
      have hN0 : max 0 (wd - ((chars S by_ 0).length : Nat)) = (n : Int) := by omega
      have hn2 : n ≤ 1000000000 := by omega
      generalize (chars S by_ 0).length = cnt at *
      have hcI : (cnt : Int) ≤ 140737488351232 := by omega
      have HN := Lib.hid (show max 0 (IntKind.i64.wrap (wd - (cnt : Int))) = (n : Int) from by rw [IntKind.wrap_i64]; omega)
      have HRp := Lib.hid (fun W => Repeat_one 32 n W hn2)
      obtain ⟨R, hR⟩ : ∃ R : ByteArray, R = blanksB n := ⟨_, rfl⟩
      rw [show (⟨(List.replicate n (32 : UInt8)).toArray⟩ : ByteArray) = R from hR.symm] at HRp
      rw [← hR]
      have hRs : R.size ≤ 1000000000 := by rw [hR]; unfold blanksB; rw [sz_list]; simpa using hn2
      have HSub := Lib.hid (fun W h => USub_any s pr.toNat by_ W (by omega) hs h)
      have HSe := Lib.hid hS
      have hok1 := hok
      unfold specA at HC ⊢
      clear e1 e2 hU hok hok1 hn hN0 hcl hR h1 h2 hS HSZ
      by_cases hc : 0 ≤ pr ∧ vb = 115
      · obtain ⟨hp0, rfl⟩ := hc
        have hcs : S = s.extract 0 (placeC s by_ pr.toNat) := by rw [HSe.out]; unfold cutS; rw [if_pos ⟨hp0, rfl⟩]
        rw [← hcs] at HSub
        have HPr := Lib.hid (show ((pr.toNat : Nat) : Int) + 1 = pr + 1 from by omega)
        clear hcs HSe
        cases m
        · go_enter Tryz.func134, Tryz.ntmps134
          go_wp2_with fail
          refine (HC.out _).mono ?_
          rintro e w1 ⟨rfl, hb⟩
          have hsp : SpAt w1 w.heap.size #[.bool false, .bool p, .bool b, .bool a, .bool z, .int .i64 wd, .int .i64 pr, .int .u8 115] := SpAt.next (heap_alloc_at w _) hb
          have q0 : w1.cell? ⟨w.heap.size, 0, none⟩ = some (.bool false) := hsp.cell 0
          have q5 : w1.cell? ⟨w.heap.size, 5, none⟩ = some (.int .i64 wd) := hsp.cell 5
          have q6 : w1.cell? ⟨w.heap.size, 6, none⟩ = some (.int .i64 pr) := hsp.cell 6
          have q7 : w1.cell? ⟨w.heap.size, 7, none⟩ = some (.int .u8 115) := hsp.cell 7
          have HB := Lib.hid (((Below.refl w.heap.size w).alloc (Nat.le_refl _) _).trans (hb.mono (by simp)))
          clear hb hsp
          go_wp2_with fail
          rw [← HPr.out]
          refine (HSub.out _ (HU.out.below HB.out)).mono ?_
          rintro e w2 ⟨rfl, hb⟩
          have q0 := cell_next hb q0
          have q5 := cell_next hb q5
          have HB := Lib.hid (HB.out.trans (hb.mono HB.out.size))
          clear hb
          go_wp2_with fail
          go_region_held3 (fun w' => w'.cell? ⟨w.heap.size, 5, none⟩ = some (.int .i64 wd)) (first | exact q5 | exact r5)
            (first
              | (go_at_call 185; refine (HLn.out _ (HU.out.below (by first | exact HB.out | exact HB.out.drew))).mono ?_; clear HLn; rintro e w3 ⟨rfl, hb3⟩; have r5 := cell_next hb3 q5; have r0 := cell_next hb3 q0; have HB3 := Lib.hid (below_next (Nat.le_refl _) HB.out hb3 (by first | exact .inl rfl | exact .inr rfl)))
              | (go_at_call 109; rw [HN.out]; refine (HRp.out _).mono ?_; clear HRp; rintro e w4 ⟨rfl, hb4⟩; have r5 := cell_next hb4 r5; have r0 := cell_next hb4 r0; have HB4 := Lib.hid (below_next (Nat.le_refl _) HB3.out hb4 (by first | exact .inl rfl | exact .inr rfl))))
          all_goals go_wp2_with fail
          all_goals go_ret2
          all_goals exact ⟨rfl, HB4.out⟩
        · go_enter Tryz.func134, Tryz.ntmps134
          go_wp2_with fail
          refine (HC.out _).mono ?_
          rintro e w1 ⟨rfl, hb⟩
          have hsp : SpAt w1 w.heap.size #[.bool true, .bool p, .bool b, .bool a, .bool z, .int .i64 wd, .int .i64 pr, .int .u8 115] := SpAt.next (heap_alloc_at w _) hb
          have q0 : w1.cell? ⟨w.heap.size, 0, none⟩ = some (.bool true) := hsp.cell 0
          have q5 : w1.cell? ⟨w.heap.size, 5, none⟩ = some (.int .i64 wd) := hsp.cell 5
          have q6 : w1.cell? ⟨w.heap.size, 6, none⟩ = some (.int .i64 pr) := hsp.cell 6
          have q7 : w1.cell? ⟨w.heap.size, 7, none⟩ = some (.int .u8 115) := hsp.cell 7
          have HB := Lib.hid (((Below.refl w.heap.size w).alloc (Nat.le_refl _) _).trans (hb.mono (by simp)))
          clear hb hsp
          go_wp2_with fail
          rw [← HPr.out]
          refine (HSub.out _ (HU.out.below HB.out)).mono ?_
          rintro e w2 ⟨rfl, hb⟩
          have q0 := cell_next hb q0
          have q5 := cell_next hb q5
          have HB := Lib.hid (HB.out.trans (hb.mono HB.out.size))
          clear hb
          go_wp2_with fail
          go_region_held3 (fun w' => w'.cell? ⟨w.heap.size, 5, none⟩ = some (.int .i64 wd)) (first | exact q5 | exact r5)
            (first
              | (go_at_call 185; refine (HLn.out _ (HU.out.below (by first | exact HB.out | exact HB.out.drew))).mono ?_; clear HLn; rintro e w3 ⟨rfl, hb3⟩; have r5 := cell_next hb3 q5; have r0 := cell_next hb3 q0; have HB3 := Lib.hid (below_next (Nat.le_refl _) HB.out hb3 (by first | exact .inl rfl | exact .inr rfl)))
              | (go_at_call 109; rw [HN.out]; refine (HRp.out _).mono ?_; clear HRp; rintro e w4 ⟨rfl, hb4⟩; have r5 := cell_next hb4 r5; have r0 := cell_next hb4 r0; have HB4 := Lib.hid (below_next (Nat.le_refl _) HB3.out hb4 (by first | exact .inl rfl | exact .inr rfl))))
          all_goals go_wp2_with fail
          all_goals go_ret2
          all_goals exact ⟨rfl, HB4.out⟩
      · by_cases h115 : vb = 115
        · subst h115
          have hp0 : pr < 0 := by omega
          have hcs : S = s := by rw [HSe.out]; unfold cutS; rw [if_neg (by omega)]
          subst hcs
          clear HSe HSub hc
          cases m
          · go_enter Tryz.func134, Tryz.ntmps134
            go_wp2_with fail
            refine (HC.out _).mono ?_
            rintro e w1 ⟨rfl, hb⟩
            have hsp : SpAt w1 w.heap.size #[.bool false, .bool p, .bool b, .bool a, .bool z, .int .i64 wd, .int .i64 pr, .int .u8 115] := SpAt.next (heap_alloc_at w _) hb
            have q0 : w1.cell? ⟨w.heap.size, 0, none⟩ = some (.bool false) := hsp.cell 0
            have q5 : w1.cell? ⟨w.heap.size, 5, none⟩ = some (.int .i64 wd) := hsp.cell 5
            have q6 : w1.cell? ⟨w.heap.size, 6, none⟩ = some (.int .i64 pr) := hsp.cell 6
            have q7 : w1.cell? ⟨w.heap.size, 7, none⟩ = some (.int .u8 115) := hsp.cell 7
            have HB := Lib.hid (((Below.refl w.heap.size w).alloc (Nat.le_refl _) _).trans (hb.mono (by simp)))
            clear hb hsp
            go_wp2_with fail
            go_region_held3 (fun w' => w'.cell? ⟨w.heap.size, 5, none⟩ = some (.int .i64 wd)) (first | exact q5 | exact r5)
              (first
                | (go_at_call 185; refine (HLn.out _ (HU.out.below (by first | exact HB.out | exact HB.out.drew))).mono ?_; clear HLn; rintro e w3 ⟨rfl, hb3⟩; have r5 := cell_next hb3 q5; have r0 := cell_next hb3 q0; have HB3 := Lib.hid (below_next (Nat.le_refl _) HB.out hb3 (by first | exact .inl rfl | exact .inr rfl)))
                | (go_at_call 109; rw [HN.out]; refine (HRp.out _).mono ?_; clear HRp; rintro e w4 ⟨rfl, hb4⟩; have r5 := cell_next hb4 r5; have r0 := cell_next hb4 r0; have HB4 := Lib.hid (below_next (Nat.le_refl _) HB3.out hb4 (by first | exact .inl rfl | exact .inr rfl))))
            all_goals go_wp2_with fail
            all_goals go_ret2
            all_goals exact ⟨rfl, HB4.out⟩
          · go_enter Tryz.func134, Tryz.ntmps134
            go_wp2_with fail
            refine (HC.out _).mono ?_
            rintro e w1 ⟨rfl, hb⟩
            have hsp : SpAt w1 w.heap.size #[.bool true, .bool p, .bool b, .bool a, .bool z, .int .i64 wd, .int .i64 pr, .int .u8 115] := SpAt.next (heap_alloc_at w _) hb
            have q0 : w1.cell? ⟨w.heap.size, 0, none⟩ = some (.bool true) := hsp.cell 0
            have q5 : w1.cell? ⟨w.heap.size, 5, none⟩ = some (.int .i64 wd) := hsp.cell 5
            have q6 : w1.cell? ⟨w.heap.size, 6, none⟩ = some (.int .i64 pr) := hsp.cell 6
            have q7 : w1.cell? ⟨w.heap.size, 7, none⟩ = some (.int .u8 115) := hsp.cell 7
            have HB := Lib.hid (((Below.refl w.heap.size w).alloc (Nat.le_refl _) _).trans (hb.mono (by simp)))
            clear hb hsp
            go_wp2_with fail
            go_region_held3 (fun w' => w'.cell? ⟨w.heap.size, 5, none⟩ = some (.int .i64 wd)) (first | exact q5 | exact r5)
              (first
                | (go_at_call 185; refine (HLn.out _ (HU.out.below (by first | exact HB.out | exact HB.out.drew))).mono ?_; clear HLn; rintro e w3 ⟨rfl, hb3⟩; have r5 := cell_next hb3 q5; have r0 := cell_next hb3 q0; have HB3 := Lib.hid (below_next (Nat.le_refl _) HB.out hb3 (by first | exact .inl rfl | exact .inr rfl)))
                | (go_at_call 109; rw [HN.out]; refine (HRp.out _).mono ?_; clear HRp; rintro e w4 ⟨rfl, hb4⟩; have r5 := cell_next hb4 r5; have r0 := cell_next hb4 r0; have HB4 := Lib.hid (below_next (Nat.le_refl _) HB3.out hb4 (by first | exact .inl rfl | exact .inr rfl))))
            all_goals go_wp2_with fail
            all_goals go_ret2
            all_goals exact ⟨rfl, HB4.out⟩
        · obtain rfl : vb = 99 := by omega
          have hcs : S = s := by rw [HSe.out]; unfold cutS; rw [if_neg (by omega)]
          subst hcs
          clear HSe HSub hc h115
          by_cases hp0 : 0 ≤ pr
          · cases m
            · go_enter Tryz.func134, Tryz.ntmps134
              go_wp2_with fail
              refine (HC.out _).mono ?_
              rintro e w1 ⟨rfl, hb⟩
              have hsp : SpAt w1 w.heap.size #[.bool false, .bool p, .bool b, .bool a, .bool z, .int .i64 wd, .int .i64 pr, .int .u8 99] := SpAt.next (heap_alloc_at w _) hb
              have q0 : w1.cell? ⟨w.heap.size, 0, none⟩ = some (.bool false) := hsp.cell 0
              have q5 : w1.cell? ⟨w.heap.size, 5, none⟩ = some (.int .i64 wd) := hsp.cell 5
              have q6 : w1.cell? ⟨w.heap.size, 6, none⟩ = some (.int .i64 pr) := hsp.cell 6
              have q7 : w1.cell? ⟨w.heap.size, 7, none⟩ = some (.int .u8 99) := hsp.cell 7
              have HB := Lib.hid (((Below.refl w.heap.size w).alloc (Nat.le_refl _) _).trans (hb.mono (by simp)))
              clear hb hsp
              go_wp2_with fail
              go_region_held3 (fun w' => w'.cell? ⟨w.heap.size, 5, none⟩ = some (.int .i64 wd)) (first | exact q5 | exact r5)
                (first
                  | (go_at_call 185; refine (HLn.out _ (HU.out.below (by first | exact HB.out | exact HB.out.drew))).mono ?_; clear HLn; rintro e w3 ⟨rfl, hb3⟩; have r5 := cell_next hb3 q5; have r0 := cell_next hb3 q0; have HB3 := Lib.hid (below_next (Nat.le_refl _) HB.out hb3 (by first | exact .inl rfl | exact .inr rfl)))
                  | (go_at_call 109; rw [HN.out]; refine (HRp.out _).mono ?_; clear HRp; rintro e w4 ⟨rfl, hb4⟩; have r5 := cell_next hb4 r5; have r0 := cell_next hb4 r0; have HB4 := Lib.hid (below_next (Nat.le_refl _) HB3.out hb4 (by first | exact .inl rfl | exact .inr rfl))))
              all_goals go_wp2_with fail
              all_goals go_ret2
              all_goals exact ⟨rfl, HB4.out⟩
            · go_enter Tryz.func134, Tryz.ntmps134
              go_wp2_with fail
              refine (HC.out _).mono ?_
              rintro e w1 ⟨rfl, hb⟩
              have hsp : SpAt w1 w.heap.size #[.bool true, .bool p, .bool b, .bool a, .bool z, .int .i64 wd, .int .i64 pr, .int .u8 99] := SpAt.next (heap_alloc_at w _) hb
              have q0 : w1.cell? ⟨w.heap.size, 0, none⟩ = some (.bool true) := hsp.cell 0
              have q5 : w1.cell? ⟨w.heap.size, 5, none⟩ = some (.int .i64 wd) := hsp.cell 5
              have q6 : w1.cell? ⟨w.heap.size, 6, none⟩ = some (.int .i64 pr) := hsp.cell 6
              have q7 : w1.cell? ⟨w.heap.size, 7, none⟩ = some (.int .u8 99) := hsp.cell 7
              have HB := Lib.hid (((Below.refl w.heap.size w).alloc (Nat.le_refl _) _).trans (hb.mono (by simp)))
              clear hb hsp
              go_wp2_with fail
              go_region_held3 (fun w' => w'.cell? ⟨w.heap.size, 5, none⟩ = some (.int .i64 wd)) (first | exact q5 | exact r5)
                (first
                  | (go_at_call 185; refine (HLn.out _ (HU.out.below (by first | exact HB.out | exact HB.out.drew))).mono ?_; clear HLn; rintro e w3 ⟨rfl, hb3⟩; have r5 := cell_next hb3 q5; have r0 := cell_next hb3 q0; have HB3 := Lib.hid (below_next (Nat.le_refl _) HB.out hb3 (by first | exact .inl rfl | exact .inr rfl)))
                  | (go_at_call 109; rw [HN.out]; refine (HRp.out _).mono ?_; clear HRp; rintro e w4 ⟨rfl, hb4⟩; have r5 := cell_next hb4 r5; have r0 := cell_next hb4 r0; have HB4 := Lib.hid (below_next (Nat.le_refl _) HB3.out hb4 (by first | exact .inl rfl | exact .inr rfl))))
              all_goals go_wp2_with fail
              all_goals go_ret2
              all_goals exact ⟨rfl, HB4.out⟩
          · have hp1 : pr < 0 := by omega
            clear hp0
            cases m
            · go_enter Tryz.func134, Tryz.ntmps134
              go_wp2_with fail
              refine (HC.out _).mono ?_
              rintro e w1 ⟨rfl, hb⟩
              have hsp : SpAt w1 w.heap.size #[.bool false, .bool p, .bool b, .bool a, .bool z, .int .i64 wd, .int .i64 pr, .int .u8 99] := SpAt.next (heap_alloc_at w _) hb
              have q0 : w1.cell? ⟨w.heap.size, 0, none⟩ = some (.bool false) := hsp.cell 0
              have q5 : w1.cell? ⟨w.heap.size, 5, none⟩ = some (.int .i64 wd) := hsp.cell 5
              have q6 : w1.cell? ⟨w.heap.size, 6, none⟩ = some (.int .i64 pr) := hsp.cell 6
              have q7 : w1.cell? ⟨w.heap.size, 7, none⟩ = some (.int .u8 99) := hsp.cell 7
              have HB := Lib.hid (((Below.refl w.heap.size w).alloc (Nat.le_refl _) _).trans (hb.mono (by simp)))
              clear hb hsp
              go_wp2_with fail
              go_region_held3 (fun w' => w'.cell? ⟨w.heap.size, 5, none⟩ = some (.int .i64 wd)) (first | exact q5 | exact r5)
                (first
                  | (go_at_call 185; refine (HLn.out _ (HU.out.below (by first | exact HB.out | exact HB.out.drew))).mono ?_; clear HLn; rintro e w3 ⟨rfl, hb3⟩; have r5 := cell_next hb3 q5; have r0 := cell_next hb3 q0; have HB3 := Lib.hid (below_next (Nat.le_refl _) HB.out hb3 (by first | exact .inl rfl | exact .inr rfl)))
                  | (go_at_call 109; rw [HN.out]; refine (HRp.out _).mono ?_; clear HRp; rintro e w4 ⟨rfl, hb4⟩; have r5 := cell_next hb4 r5; have r0 := cell_next hb4 r0; have HB4 := Lib.hid (below_next (Nat.le_refl _) HB3.out hb4 (by first | exact .inl rfl | exact .inr rfl))))
              all_goals go_wp2_with fail
              all_goals go_ret2
              all_goals exact ⟨rfl, HB4.out⟩
            · go_enter Tryz.func134, Tryz.ntmps134
              go_wp2_with fail
              refine (HC.out _).mono ?_
              rintro e w1 ⟨rfl, hb⟩
              have hsp : SpAt w1 w.heap.size #[.bool true, .bool p, .bool b, .bool a, .bool z, .int .i64 wd, .int .i64 pr, .int .u8 99] := SpAt.next (heap_alloc_at w _) hb
              have q0 : w1.cell? ⟨w.heap.size, 0, none⟩ = some (.bool true) := hsp.cell 0
              have q5 : w1.cell? ⟨w.heap.size, 5, none⟩ = some (.int .i64 wd) := hsp.cell 5
              have q6 : w1.cell? ⟨w.heap.size, 6, none⟩ = some (.int .i64 pr) := hsp.cell 6
              have q7 : w1.cell? ⟨w.heap.size, 7, none⟩ = some (.int .u8 99) := hsp.cell 7
              have HB := Lib.hid (((Below.refl w.heap.size w).alloc (Nat.le_refl _) _).trans (hb.mono (by simp)))
              clear hb hsp
              go_wp2_with fail
              go_region_held3 (fun w' => w'.cell? ⟨w.heap.size, 5, none⟩ = some (.int .i64 wd)) (first | exact q5 | exact r5)
                (first
                  | (go_at_call 185; refine (HLn.out _ (HU.out.below (by first | exact HB.out | exact HB.out.drew))).mono ?_; clear HLn; rintro e w3 ⟨rfl, hb3⟩; have r5 := cell_next hb3 q5; have r0 := cell_next hb3 q0; have HB3 := Lib.hid (below_next (Nat.le_refl _) HB.out hb3 (by first | exact .inl rfl | exact .inr rfl)))
                  | (go_at_call 109; rw [HN.out]; refine (HRp.out _).mono ?_; clear HRp; rintro e w4 ⟨rfl, hb4⟩; have r5 := cell_next hb4 r5; have r0 := cell_next hb4 r0; have HB4 := Lib.hid (below_next (Nat.le_refl _) HB3.out hb4 (by first | exact .inl rfl | exact .inr rfl))))
              all_goals go_wp2_with fail
              all_goals go_ret2
              all_goals exact ⟨rfl, HB4.out⟩
    · have e1 : textS m wd pr vb s by_ = ⟨#[]⟩ := by unfold textS; rw [if_neg (by rw [hok]; simpa using hvb)]
      have e2 : textE wd pr vb = 50 := by unfold textE; rw [if_neg (by rw [hok]; simpa using hvb)]
      rw [e1, e2]
      have v1 : ((vb : Int) != 115) = true := by simp; omega
      have v2 : ((vb : Int) != 99) = true := by simp; omega
      unfold specA at HC ⊢
      clear e1 e2 hU HU hok hvb
      go_enter Tryz.func134, Tryz.ntmps134
      go_wp2_with fail
      refine (HC.out _).mono ?_
      rintro e w1 ⟨rfl, hb⟩
      have hsp : SpAt w1 w.heap.size #[.bool m, .bool p, .bool b, .bool a, .bool z, .int .i64 wd, .int .i64 pr, .int .u8 (vb : Int)] := SpAt.next (heap_alloc_at w _) hb
      have q7 : w1.cell? ⟨w.heap.size, 7, none⟩ = some (.int .u8 (vb : Int)) := hsp.cell 7
      have HB := Lib.hid (((Below.refl w.heap.size w).alloc (Nat.le_refl _) _).trans (hb.mono (by simp)))
      clear hb hsp
      go_wp2_with fail
      go_ret2
      exact ⟨rfl, HB.out⟩
end Go.Proofs.YtcmpdamfeoaapaaGreatDoor
end
