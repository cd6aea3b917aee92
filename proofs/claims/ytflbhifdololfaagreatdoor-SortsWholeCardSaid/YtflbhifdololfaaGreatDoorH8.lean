/- The order's function where there is a comparison. -/
import Derived.Test.YtflbhifdololfaaGreatDoorH7
namespace Go.Proofs.YtflbhifdololfaaGreatDoor
open Go.RowKit
set_option linter.unusedVariables false

/-- an entry -/
structure En where
  key : ByteArray
  kind : Int
  bits : Nat
  str : ByteArray
  sub : Bool
def En.val (e : En) : Value := .agg #[.string e.key, .int .i64 e.kind, .float .f64 e.bits, .string e.str, .bool e.sub]
def En.cells (e : En) : List Value := [.string e.key, .int .i64 e.kind, .float .f64 e.bits, .string e.str, .bool e.sub]
/-- entries in a row -/
def EntsR (w : World) (a : Option Addr) (n : Nat) (L : List En) : Prop := n = L.length ∧ (0 < n → ∃ g o, a = some ⟨g, o, none⟩ ∧ g < w.heap.size ∧ ∀ (j : Nat) e, L[j]? = some e → ∀ (i : Nat) u, e.cells[i]? = some u → w.cell? ⟨g, o + j * 5 + i, none⟩ = some u)
theorem EntsR.below {w w' : World} {a : Option Addr} {n b : Nat} {L : List En} (h : EntsR w a n L) (hb : Below b w w') (hg : w.heap.size ≤ b) : EntsR w' a n L := by
  refine ⟨h.1, fun h0 => ?_⟩
  obtain ⟨g, o, e, hl, hc⟩ := h.2 h0
  exact ⟨g, o, e, Nat.lt_of_lt_of_le hl hb.size, fun j x hx i u hu => (hb.cell (p := ⟨g, o + j * 5 + i, none⟩) (by show g < b; omega)).trans (hc j x hx i u hu)⟩
/-- what a comparison answers, turned if it falls, and made whole by the numbers -/
def ltC (c : Int) (fl : Bool) (i j : Nat) : Bool := if fl then (if 0 < c then true else if c = 0 then decide (i < j) else false) else (if c < 0 then true else if c = 0 then decide (i < j) else false)
theorem retB {a b : Bool} (h : a = b) : Ending.returned (.bool a) = .returned (.bool b) := by rw [h]
set_option maxHeartbeats 8000000 in
set_option maxRecDepth 100000 in
theorem hless_any {W : World} {pf pc pl pb n c k : Nat} {a : Option Addr} {conv : ByteArray} {fl : Bool} {L : List En} {x y : Nat} {ex ey : En} {r : Int} (hn : n ≤ 800000)
    (h8 : W.cell? ⟨pf, 0, none⟩ = some (.func (.func k) #[] #[])) (hc : W.cell? ⟨pc, 0, none⟩ = some (.string conv)) (hl : W.cell? ⟨pl, 0, none⟩ = some (.slice a n c)) (hb : W.cell? ⟨pb, 0, none⟩ = some (.bool fl))
    (hL : EntsR W a n L) (hx : L[x]? = some ex) (hy : L[y]? = some ey) (hr1 : -1 ≤ r) (hr2 : r ≤ 1)
    (qn : ∀ w : World, (binOp .neq 112 (.func (.func k) #[] #[]) .nilFunc).run Tryz.prog w = .ok (.bool true) w) (eg : ∀ args w, (callFunc k args).run Tryz.prog w = .ok (.enter k args) w)
    (hC : ∀ W', Below W.heap.size W W' → Calls Tryz.prog k #[.agg #[.string conv], ex.val, ey.val] W' fun e w' => e = .returned (.int .i64 r) ∧ Below W'.heap.size W' w') :
    Calls Tryz.prog 59 #[.int .i64 (x : Int), .int .i64 (y : Int), .pointer (some ⟨pf, 0, none⟩), .pointer (some ⟨pc, 0, none⟩), .pointer (some ⟨pl, 0, none⟩), .pointer (some ⟨pb, 0, none⟩)] W fun e w' => e = .returned (.bool (ltC r fl x y)) ∧ Below W.heap.size W w' := by
  have hxl := (List.getElem?_eq_some_iff.1 hx).1
  have hyl := (List.getElem?_eq_some_iff.1 hy).1
  have hnl := hL.1
  obtain ⟨g, o, rfl, hg, hcell⟩ := hL.2 (by omega)
  have hxI : (x : Int) < (n : Int) := by omega
  have hyI : (y : Int) < (n : Int) := by omega
  have x0 := hcell x ex hx 0 _ rfl
  have x1 := hcell x ex hx 1 _ rfl
  have x2 := hcell x ex hx 2 _ rfl
  have x3 := hcell x ex hx 3 _ rfl
  have x4 := hcell x ex hx 4 _ rfl
  have y0 := hcell y ey hy 0 _ rfl
  have y1 := hcell y ey hy 1 _ rfl
  have y2 := hcell y ey hy 2 _ rfl
  have y3 := hcell y ey hy 3 _ rfl
  have y4 := hcell y ey hy 4 _ rfl
  obtain ⟨kx, dx, bx, sx, ux⟩ := ex
  obtain ⟨ky, dy, by', sy, uy⟩ := ey
  unfold En.val at hC
  dsimp only at x0 x1 x2 x3 x4 y0 y1 y2 y3 y4 hC
  have HC := Lib.hid hC
  have hl1 : pl < W.heap.size := by
    rcases Nat.lt_or_ge pl W.heap.size with h | h
    · exact h
    · unfold World.cell? at hl; rw [Array.getElem?_eq_none h] at hl; cases hl
  simp only [Nat.add_zero] at x0 y0
  clear hC hL hcell hx hy hxl hyl hnl
  have hb1 : pb < W.heap.size := by
    rcases Nat.lt_or_ge pb W.heap.size with h | h
    · exact h
    · unfold World.cell? at hb; rw [Array.getElem?_eq_none h] at hb; cases hb
  rcases Int.lt_trichotomy r 0 with hr | hr | hr
  · have hrn : 0 < -r := by omega
    have hr' : ¬ 0 < r := by omega
    have hr0 : ¬ r = 0 := by omega
    have hneg : IntKind.i64.wrap (-r) = -r := IntWalk.i64_in _ (by omega)
    have hne : (-r == 0) = false := by simp; omega
    have e1 : ltC r false x y = true := by unfold ltC; simp [hr]
    have e2 : ltC r true x y = false := by unfold ltC; simp [hr', hr0]
    cases fl
    all_goals
      go_enter Tryz.func59, Tryz.ntmps59
      go_wp2_with fail
      go_still_tail 11, (by kernel_rfl)
      go_wp2_with fail
      refine (HC.out W.drew (Below.refl _ _).drew).mono ?_
      rintro e w1 ⟨rfl, hbw⟩
      have cb := (hbw.cell (p := ⟨pb, 0, none⟩) hb1).trans hb
      have HB := Lib.hid hbw
      clear hbw
      go_wp2_with fail
      go_ret
      exact ⟨retB (by simp [e1, e2, hr, hr']), (Below.refl _ _).drew.trans HB.out⟩
  · subst hr
    have e1 : ∀ b, ltC 0 b x y = decide (x < y) := by intro b; unfold ltC; cases b <;> simp
    rw [e1]
    cases fl
    all_goals
      go_enter Tryz.func59, Tryz.ntmps59
      go_wp2_with fail
      go_still_tail 11, (by kernel_rfl)
      go_wp2_with fail
      refine (HC.out W.drew (Below.refl _ _).drew).mono ?_
      rintro e w1 ⟨rfl, hbw⟩
      have cb := (hbw.cell (p := ⟨pb, 0, none⟩) hb1).trans hb
      have HB := Lib.hid hbw
      clear hbw
      go_wp2_with fail
      go_ret
      exact ⟨by simp, (Below.refl _ _).drew.trans HB.out⟩
  · have hrn : -r < 0 := by omega
    have hr' : ¬ r < 0 := by omega
    have hr0 : ¬ r = 0 := by omega
    have hneg : IntKind.i64.wrap (-r) = -r := IntWalk.i64_in _ (by omega)
    have hne : (r == 0) = false := by simp; omega
    have e1 : ltC r false x y = false := by unfold ltC; simp [hr', hr0]
    have e2 : ltC r true x y = true := by unfold ltC; simp [hr]
    cases fl
    all_goals
      go_enter Tryz.func59, Tryz.ntmps59
      go_wp2_with fail
      go_still_tail 11, (by kernel_rfl)
      go_wp2_with fail
      refine (HC.out W.drew (Below.refl _ _).drew).mono ?_
      rintro e w1 ⟨rfl, hbw⟩
      have cb := (hbw.cell (p := ⟨pb, 0, none⟩) hb1).trans hb
      have HB := Lib.hid hbw
      clear hbw
      go_wp2_with fail
      go_ret
      exact ⟨retB (by simp [e1, e2, hr, hr']), (Below.refl _ _).drew.trans HB.out⟩
end Go.Proofs.YtflbhifdololfaaGreatDoor
