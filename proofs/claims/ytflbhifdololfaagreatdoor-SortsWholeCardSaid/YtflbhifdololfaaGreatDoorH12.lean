/- thresherlaw07: made, same. -/
import Derived.Test.YtflbhifdololfaaGreatDoorH11
import Derived.Deep.AppendLies
import Derived.Test.YtflbhifdololfaaGreatDoorG4
namespace Go.Proofs.YtflbhifdololfaaGreatDoor
open Go.RowKit
set_option linter.unusedVariables false

/-- an element of the law's, by numbers -/
def En.item (e : En) : List Value := [.string e.key, .int .i64 e.kind, .int .u64 (e.bits : Int), .string e.str, .bool e.sub]
def ItemsR (w : World) (a : Option Addr) (n : Nat) (L : List En) : Prop := n = L.length ∧ (0 < n → ∃ g o, a = some ⟨g, o, none⟩ ∧ g < w.heap.size ∧ ∀ (j : Nat) e, L[j]? = some e → ∀ (i : Nat) u, e.item[i]? = some u → w.cell? ⟨g, o + j * 5 + i, none⟩ = some u)
theorem ItemsR.below {w w' : World} {a : Option Addr} {n b : Nat} {L : List En} (h : ItemsR w a n L) (hb : Below b w w') (hg : w.heap.size ≤ b) : ItemsR w' a n L := by
  refine ⟨h.1, fun h0 => ?_⟩
  obtain ⟨g, o, e, hl, hc⟩ := h.2 h0
  exact ⟨g, o, e, Nat.lt_of_lt_of_le hl hb.size, fun j x hx i u hu => (hb.cell (p := ⟨g, o + j * 5 + i, none⟩) (by show g < b; omega)).trans (hc j x hx i u hu)⟩
def cellsE (L : List En) : List Value := (L.map En.cells).flatten
theorem cellsE_snoc (L : List En) (e : En) : cellsE (L ++ [e]) = cellsE L ++ e.cells := by simp [cellsE]
theorem cellsE_at {L : List En} {j : Nat} {e : En} (h : L[j]? = some e) (i : Nat) (hi : i < 5) : (cellsE L)[j * 5 + i]? = e.cells[i]? := by
  induction L generalizing j with
  | nil => cases h
  | cons a L ih =>
    have e5 : a.cells.length = 5 := rfl
    show (a.cells ++ cellsE L)[j * 5 + i]? = _
    cases j with
    | zero =>
      simp only [List.getElem?_cons_zero, Option.some.injEq] at h
      subst h
      rw [List.getElem?_append_left (by omega)]; simp
    | succ j =>
      rw [List.getElem?_append_right (by omega), e5, ← ih (j := j) (by simpa using h)]
      congr 1; omega
theorem EntsR.ofOwn {w : World} {D n : Nat} {v : Value} {L : List En} (h : w.ownsRow D 57 5 v n (cellsE L)) (hn : n = L.length) : ∃ a c, v = .slice a n c ∧ EntsR w a n L := by
  rcases h.2 with ⟨rfl, h0⟩ | ⟨g, cap, cur, rfl, hb, hgg, _⟩
  · exact ⟨none, 0, by rw [h0], hn, fun h => by omega⟩
  · refine ⟨_, cap, rfl, hn, fun _ => ⟨g, 0, rfl, lt_of_heap hgg, fun j e hj i u hu => ?_⟩⟩
    have hi : i < 5 := (List.getElem?_eq_some_iff.1 hu).1
    have hc := h.cells (g := g) rfl (j * 5 + i) u (by rw [cellsE_at hj i hi]; exact hu)
    rw [Addr.add_lit] at hc
    rw [Nat.add_assoc]
    exact hc
theorem infoEn : (Tryz.prog.info? 57).map (fun i => (i.zero, i.size, i.bytes)) = some (some (.agg #[.string .empty, .int .i64 0, .float .f64 0, .string .empty, .bool false]), 5, 56) := by kernel_rfl
theorem undEn : Tryz.prog.underlying 54 = some (.slice 57) := by kernel_rfl
theorem newsEn (W : World) (a0 a1 a2 a3 a4 : Value) : ∀ (j : Nat) u, [a0, a1, a2, a3, a4][j]? = some u → (W.alloc (.cells #[a0, a1, a2, a3, a4] 57)).cell? ((⟨W.heap.size, 0, none⟩ : Addr).add j) = some u :=
  World.news_of_block (heap_alloc_at W (.cells #[a0, a1, a2, a3, a4] 57))
set_option maxHeartbeats 8000000 in
set_option maxRecDepth 100000 in
theorem made7_any {w : World} {a : Option Addr} {n c : Nat} {L0 : List En} (hL : ItemsR w a n L0) (hn : n ≤ 300) (hOk : ∀ e ∈ L0, e.bits < 18446744073709551616) :
    Calls Tryz.prog 26 #[.slice a n c] w fun e w' => (∃ v, e = .returned v ∧ w'.ownsRow w.heap.size 57 5 v n (cellsE L0)) ∧ Below w.heap.size w w' := by
  have HN := Lib.hid hL.1
  have HL := Lib.hid hL.2
  have HOk := Lib.hid hOk
  clear hL hOk
  obtain ⟨g, o, hg⟩ : ∃ g o, 0 < n → a = some ⟨g, o, none⟩ ∧ g < w.heap.size ∧ ∀ (j : Nat) e, L0[j]? = some e → ∀ (i : Nat) u, e.item[i]? = some u → w.cell? ⟨g, o + j * 5 + i, none⟩ = some u := by
    rcases Nat.eq_zero_or_pos n with h | h
    · exact ⟨0, 0, fun h2 => by omega⟩
    · obtain ⟨g, o, x⟩ := HL.out h
      exact ⟨g, o, fun _ => x⟩
  have HG := Lib.hid hg
  clear hg
  rcases Nat.eq_zero_or_pos n with h0 | h0
  · subst h0
    have hLn : L0 = [] := List.eq_nil_of_length_eq_zero HN.out.symm
    subst hLn
    go_enter Tryz.func26, Tryz.ntmps26
    go_wp2_with fail
    go_loop [3, 8] (fun v3 v8 => v3 = .slice none 0 0 ∧ v8 = .int .i64 0) (fun _ _ => 0)
    case atStart => exact ⟨rfl, rfl⟩
    case round =>
      obtain ⟨rfl, rfl⟩ := hrel
      go_wp2_with fail
      go_ret
      exact ⟨⟨_, rfl, World.ownsRow_nil _ _ _ _⟩, Below.refl _ _⟩
  obtain ⟨rfl, hgl, hc⟩ := HG.out h0
  have HC := Lib.hid hc
  obtain ⟨i0, hi, hz0, hz1, hz2⟩ := info_parts infoEn
  have HI0 := Lib.hid hi
  have HZ0 := Lib.hid hz0
  have HZ1 := Lib.hid hz1
  have HZ2 := Lib.hid hz2
  clear hc HG HL hi hz0 hz1 hz2
  go_enter Tryz.func26, Tryz.ntmps26
  go_wp2_with fail
  go_loopw [3, 8] (fun v3 v8 wr => ∃ k : Nat, v8 = .int .i64 (k : Int) ∧ k ≤ n ∧ Hid (Below w.heap.size w wr) ∧ Hid (wr.ownsRow w.heap.size 57 5 v3 k (cellsE (L0.take k)))) (fun _ v8 _ => n - natI v8)
  case atStart => exact ⟨0, rfl, Nat.zero_le _, Below.refl _ _, World.ownsRow_nil _ _ _ _⟩
  case round =>
    obtain ⟨k, rfl, hk, HBr, HOw⟩ := hrel
    by_cases hlt : k < n
    · have hltI : (k : Int) < (n : Int) := by omega
      obtain ⟨x, hx⟩ : ∃ x, L0[k]? = some x := ⟨_, List.getElem?_eq_getElem (by rw [← HN.out]; exact hlt)⟩
      have HX := Lib.hid hx
      have x0 := (HBr.out.cell (p := ⟨g, o + k * 5 + 0, none⟩) hgl).trans (HC.out k x hx 0 _ rfl)
      have x1 := (HBr.out.cell (p := ⟨g, o + k * 5 + 1, none⟩) hgl).trans (HC.out k x hx 1 _ rfl)
      have x2 := (HBr.out.cell (p := ⟨g, o + k * 5 + 2, none⟩) hgl).trans (HC.out k x hx 2 _ rfl)
      have x3 := (HBr.out.cell (p := ⟨g, o + k * 5 + 3, none⟩) hgl).trans (HC.out k x hx 3 _ rfl)
      have x4 := (HBr.out.cell (p := ⟨g, o + k * 5 + 4, none⟩) hgl).trans (HC.out k x hx 4 _ rfl)
      simp only [Nat.add_zero] at x0
      have hbx := HOk.out x (List.mem_of_getElem? hx)
      clear hx
      obtain ⟨xk, xd, xb, xs, xu⟩ := x
      dsimp only at x0 x1 x2 x3 x4 hbx
      go_wp2_with fail
      have zW : (wr.alloc (.cells #[.string xk, .int .i64 xd, .int .u64 (xb : Int), .string xs, .bool xu] 111)).heap.size = wr.heap.size + 1 := by simp
      have HBW := Lib.hid (HBr.out.alloc HBr.out.size (.cells #[.string xk, .int .i64 xd, .int .u64 (xb : Int), .string xs, .bool xu] 111))
      have HOW := Lib.hid (HOw.out.alloc (.cells #[.string xk, .int .i64 xd, .int .u64 (xb : Int), .string xs, .bool xu] 111))
      have q0 : (wr.alloc (.cells #[.string xk, .int .i64 xd, .int .u64 (xb : Int), .string xs, .bool xu] 111)).cell? ⟨wr.heap.size, 0, none⟩ = some (.string xk) := by simp [go_sem]
      have q1 : (wr.alloc (.cells #[.string xk, .int .i64 xd, .int .u64 (xb : Int), .string xs, .bool xu] 111)).cell? ⟨wr.heap.size, 1, none⟩ = some (.int .i64 xd) := by simp [go_sem]
      have q2 : (wr.alloc (.cells #[.string xk, .int .i64 xd, .int .u64 (xb : Int), .string xs, .bool xu] 111)).cell? ⟨wr.heap.size, 2, none⟩ = some (.int .u64 (xb : Int)) := by simp [go_sem]
      have q3 : (wr.alloc (.cells #[.string xk, .int .i64 xd, .int .u64 (xb : Int), .string xs, .bool xu] 111)).cell? ⟨wr.heap.size, 3, none⟩ = some (.string xs) := by simp [go_sem]
      have q4 : (wr.alloc (.cells #[.string xk, .int .i64 xd, .int .u64 (xb : Int), .string xs, .bool xu] 111)).cell? ⟨wr.heap.size, 4, none⟩ = some (.bool xu) := by simp [go_sem]
      have hlt1 : wr.heap.size < wr.heap.size + 1 := by omega
      have hsz := HBr.out.size
      generalize hW : wr.alloc (.cells #[.string xk, .int .i64 xd, .int .u64 (xb : Int), .string xs, .bool xu] 111) = W0 at *
      clear hW x0 x1 x2 x3 x4
      have hwW : w.heap.size ≤ W0.heap.size := by omega
      clear zW hlt1 hsz
      have HSN : Hid (cellsE (L0.take (k + 1)) = cellsE (L0.take k) ++ [.string xk, .int .i64 xd, .float .f64 xb, .string xs, .bool xu]) := by
        show _ = _
        rw [List.take_add_one, HX.out]
        exact cellsE_snoc _ ⟨xk, xd, xb, xs, xu⟩
      -- REGION
      refine wp_region_steps (by kernel_rfl) (by kernel_rfl) (by kernel_rfl) (fun a0 V0 L a W => ∃ (s3 s12 s13 s14 s15 s16 s17 s18 s19 s20 s21 s22 s23 s24 s25 s26 s27 : Value), a = { tmps := (((((((((((((((((a0.tmps.setIfInBounds 3 s3).setIfInBounds 12 s12).setIfInBounds 13 s13).setIfInBounds 14 s14).setIfInBounds 15 s15).setIfInBounds 16 s16).setIfInBounds 17 s17).setIfInBounds 18 s18).setIfInBounds 19 s19).setIfInBounds 20 s20).setIfInBounds 21 s21).setIfInBounds 22 s22).setIfInBounds 23 s23).setIfInBounds 24 s24).setIfInBounds 25 s25).setIfInBounds 26 s26).setIfInBounds 27 s27), defers := a0.defers } ∧
        Hid (StA V0 W w.heap.size 57 5 (L 14) (L 15) (.cells #[.string xk, .int .i64 xd, .float .f64 xb, .string xs, .bool xu] 57) s26 s27 (k + 1) (cellsE (L0.take (k + 1)))) ∧ Hid (Cl [[], [], [1], [], [3], [], [5], [6], [], [8], [4, 7, 9], [], [11], [2, 10, 12], [13], [0, 14], [15]] L) ∧ Hid (L 0 = true → s12 = u3) ∧ Hid (L 1 = true → s13 = .pointer (some ⟨wr.heap.size, 0, none⟩)) ∧ Hid (L 2 = true → s14 = .string xk) ∧ Hid (L 3 = true → s15 = .pointer (some ⟨wr.heap.size, 1, none⟩)) ∧ Hid (L 4 = true → s16 = .int .i64 xd) ∧ Hid (L 5 = true → s17 = .pointer (some ⟨wr.heap.size, 2, none⟩)) ∧ Hid (L 6 = true → s18 = .int .u64 (xb : Int)) ∧ Hid (L 7 = true → s19 = .float .f64 xb) ∧ Hid (L 8 = true → s20 = .pointer (some ⟨wr.heap.size, 3, none⟩)) ∧ Hid (L 9 = true → s21 = .string xs) ∧ Hid (L 10 = true → s22 = .agg #[.int .i64 xd, .float .f64 xb, .string xs]) ∧ Hid (L 11 = true → s23 = .pointer (some ⟨wr.heap.size, 4, none⟩)) ∧ Hid (L 12 = true → s24 = .bool xu) ∧ Hid (L 13 = true → s25 = .agg #[.string xk, .int .i64 xd, .float .f64 xb, .string xs, .bool xu]) ∧ Hid (L 16 = true → s3 = s27) ∧ Hid (L 16 = false → s3 = u3)) ?h0 ?hstep ?hdone
      case h0 =>
        refine ⟨u3, u12, u13, u14, u15, u16, u17, u18, u19, u20, u21, u22, u23, u24, u25, u26, u27, ?_, StA.start _ _ _ _ _ _ _ _ _, Cl.start _, fun h => (by cases h), fun h => (by cases h), fun h => (by cases h), fun h => (by cases h), fun h => (by cases h), fun h => (by cases h), fun h => (by cases h), fun h => (by cases h), fun h => (by cases h), fun h => (by cases h), fun h => (by cases h), fun h => (by cases h), fun h => (by cases h), fun h => (by cases h), fun h => (by cases h), fun _ => rfl⟩
        simp only [List.setIfInBounds_toArray, List.set_cons_zero, List.set_cons_succ]
      case hstep =>
        refine ⟨?o0, ?o1, ?o2, ?o3, ?o4, ?o5, ?o6, ?o7, ?o8, ?o9, ?o10, ?o11, ?o12, ?o13, ?o14, ?o15, ?o16, trivial⟩
        case o0 =>
          rintro L a' W ⟨s3, s12, s13, s14, s15, s16, s17, s18, s19, s20, s21, s22, s23, s24, s25, s26, s27, rfl, HI, HC, E0, E1, E2, E3, E4, E5, E6, E7, E8, E9, E10, E11, E12, E13, EO, EI⟩ hL hd K hK
          have hcl := HC.out.upd 0 (by intro d hd9; simp only [List.getD_cons_zero, List.getD_cons_succ, List.not_mem_nil] at hd9)
          have HCL := Lib.hid hcl
          clear hcl
          have hn : L 16 = false := by
            cases h16 : L 16 with
            | false => rfl
            | true =>
              have h15 := HC.out 16 15 (by decide) h16
              have h0 := HC.out 15 0 (by decide) h15
              rw [hL] at h0; cases h0
          have es := (EI.out hn).symm
          subst es
          simp only [List.setIfInBounds_toArray, List.set_cons_zero, List.set_cons_succ]
          go_simp
          refine hK _ _ ⟨u3, u3, s13, s14, s15, s16, s17, s18, s19, s20, s21, s22, s23, s24, s25, s26, s27, ?_, HI, HCL, fun _ => rfl, E1.out, E2.out, E3.out, E4.out, E5.out, E6.out, E7.out, E8.out, E9.out, E10.out, E11.out, E12.out, E13.out, EO.out, EI.out⟩
          simp only [List.setIfInBounds_toArray, List.set_cons_zero, List.set_cons_succ]
        case o1 =>
          rintro L a' W ⟨s3, s12, s13, s14, s15, s16, s17, s18, s19, s20, s21, s22, s23, s24, s25, s26, s27, rfl, HI, HC, E0, E1, E2, E3, E4, E5, E6, E7, E8, E9, E10, E11, E12, E13, EO, EI⟩ hL hd K hK
          have hcl := HC.out.upd 1 (by intro d hd9; simp only [List.getD_cons_zero, List.getD_cons_succ, List.not_mem_nil] at hd9)
          have HCL := Lib.hid hcl
          clear hcl
          simp only [List.setIfInBounds_toArray, List.set_cons_zero, List.set_cons_succ]
          go_simp
          refine hK _ _ ⟨s3, s12, .pointer (some ⟨wr.heap.size, 0, none⟩), s14, s15, s16, s17, s18, s19, s20, s21, s22, s23, s24, s25, s26, s27, ?_, HI, HCL, E0.out, fun _ => rfl, E2.out, E3.out, E4.out, E5.out, E6.out, E7.out, E8.out, E9.out, E10.out, E11.out, E12.out, E13.out, EO.out, EI.out⟩
          simp only [List.setIfInBounds_toArray, List.set_cons_zero, List.set_cons_succ]
        case o2 =>
          rintro L a' W ⟨s3, s12, s13, s14, s15, s16, s17, s18, s19, s20, s21, s22, s23, s24, s25, s26, s27, rfl, HI, HC, E0, E1, E2, E3, E4, E5, E6, E7, E8, E9, E10, E11, E12, E13, EO, EI⟩ hL hd K hK
          have d1 : L 1 = true := hd 1 (List.elem_iff.1 (by kernel_rfl))
          have es := (E1.out d1).symm
          subst es
          have hcl := HC.out.upd 2 (by intro d hd9; simp only [Cl, List.getD_cons_zero, List.getD_cons_succ, List.mem_cons, List.not_mem_nil, or_false] at hd9; rcases hd9 with rfl <;> assumption)
          have HCL := Lib.hid hcl
          clear hcl
          have hr : L 14 = false := by
            cases h14 : L 14 with
            | false => rfl
            | true =>
              have h13 := HC.out 14 13 (by decide) h14
              have h2 := HC.out 13 2 (by decide) h13
              rw [hL] at h2; cases h2
          have hW := (HI.out.raw hr).2
          have cc0 : W.cell? ⟨wr.heap.size, 0, none⟩ = some (.string xk) := by rw [hW]; exact cellNext (Below.refl _ _).drew q0
          clear hW
          simp only [List.setIfInBounds_toArray, List.set_cons_zero, List.set_cons_succ]
          go_simp
          refine hK _ _ ⟨s3, s12, .pointer (some ⟨wr.heap.size, 0, none⟩), .string xk, s15, s16, s17, s18, s19, s20, s21, s22, s23, s24, s25, s26, s27, ?_, HI, HCL, E0.out, E1.out, fun _ => rfl, E3.out, E4.out, E5.out, E6.out, E7.out, E8.out, E9.out, E10.out, E11.out, E12.out, E13.out, EO.out, EI.out⟩
          simp only [List.setIfInBounds_toArray, List.set_cons_zero, List.set_cons_succ]
        case o3 =>
          rintro L a' W ⟨s3, s12, s13, s14, s15, s16, s17, s18, s19, s20, s21, s22, s23, s24, s25, s26, s27, rfl, HI, HC, E0, E1, E2, E3, E4, E5, E6, E7, E8, E9, E10, E11, E12, E13, EO, EI⟩ hL hd K hK
          have hcl := HC.out.upd 3 (by intro d hd9; simp only [List.getD_cons_zero, List.getD_cons_succ, List.not_mem_nil] at hd9)
          have HCL := Lib.hid hcl
          clear hcl
          simp only [List.setIfInBounds_toArray, List.set_cons_zero, List.set_cons_succ]
          go_simp
          refine hK _ _ ⟨s3, s12, s13, s14, .pointer (some ⟨wr.heap.size, 1, none⟩), s16, s17, s18, s19, s20, s21, s22, s23, s24, s25, s26, s27, ?_, HI, HCL, E0.out, E1.out, E2.out, fun _ => rfl, E4.out, E5.out, E6.out, E7.out, E8.out, E9.out, E10.out, E11.out, E12.out, E13.out, EO.out, EI.out⟩
          simp only [List.setIfInBounds_toArray, List.set_cons_zero, List.set_cons_succ]
        case o4 =>
          rintro L a' W ⟨s3, s12, s13, s14, s15, s16, s17, s18, s19, s20, s21, s22, s23, s24, s25, s26, s27, rfl, HI, HC, E0, E1, E2, E3, E4, E5, E6, E7, E8, E9, E10, E11, E12, E13, EO, EI⟩ hL hd K hK
          have d3 : L 3 = true := hd 3 (List.elem_iff.1 (by kernel_rfl))
          have es := (E3.out d3).symm
          subst es
          have hcl := HC.out.upd 4 (by intro d hd9; simp only [Cl, List.getD_cons_zero, List.getD_cons_succ, List.mem_cons, List.not_mem_nil, or_false] at hd9; rcases hd9 with rfl <;> assumption)
          have HCL := Lib.hid hcl
          clear hcl
          have hr : L 14 = false := by
            cases h14 : L 14 with
            | false => rfl
            | true =>
              have h13 := HC.out 14 13 (by decide) h14
              have h10 := HC.out 13 10 (by decide) h13
              have h4 := HC.out 10 4 (by decide) h10
              rw [hL] at h4; cases h4
          have hW := (HI.out.raw hr).2
          have cc0 : W.cell? ⟨wr.heap.size, 1, none⟩ = some (.int .i64 xd) := by rw [hW]; exact cellNext (Below.refl _ _).drew q1
          clear hW
          simp only [List.setIfInBounds_toArray, List.set_cons_zero, List.set_cons_succ]
          go_simp
          refine hK _ _ ⟨s3, s12, s13, s14, .pointer (some ⟨wr.heap.size, 1, none⟩), .int .i64 xd, s17, s18, s19, s20, s21, s22, s23, s24, s25, s26, s27, ?_, HI, HCL, E0.out, E1.out, E2.out, E3.out, fun _ => rfl, E5.out, E6.out, E7.out, E8.out, E9.out, E10.out, E11.out, E12.out, E13.out, EO.out, EI.out⟩
          simp only [List.setIfInBounds_toArray, List.set_cons_zero, List.set_cons_succ]
        case o5 =>
          rintro L a' W ⟨s3, s12, s13, s14, s15, s16, s17, s18, s19, s20, s21, s22, s23, s24, s25, s26, s27, rfl, HI, HC, E0, E1, E2, E3, E4, E5, E6, E7, E8, E9, E10, E11, E12, E13, EO, EI⟩ hL hd K hK
          have hcl := HC.out.upd 5 (by intro d hd9; simp only [List.getD_cons_zero, List.getD_cons_succ, List.not_mem_nil] at hd9)
          have HCL := Lib.hid hcl
          clear hcl
          simp only [List.setIfInBounds_toArray, List.set_cons_zero, List.set_cons_succ]
          go_simp
          refine hK _ _ ⟨s3, s12, s13, s14, s15, s16, .pointer (some ⟨wr.heap.size, 2, none⟩), s18, s19, s20, s21, s22, s23, s24, s25, s26, s27, ?_, HI, HCL, E0.out, E1.out, E2.out, E3.out, E4.out, fun _ => rfl, E6.out, E7.out, E8.out, E9.out, E10.out, E11.out, E12.out, E13.out, EO.out, EI.out⟩
          simp only [List.setIfInBounds_toArray, List.set_cons_zero, List.set_cons_succ]
        case o6 =>
          rintro L a' W ⟨s3, s12, s13, s14, s15, s16, s17, s18, s19, s20, s21, s22, s23, s24, s25, s26, s27, rfl, HI, HC, E0, E1, E2, E3, E4, E5, E6, E7, E8, E9, E10, E11, E12, E13, EO, EI⟩ hL hd K hK
          have d5 : L 5 = true := hd 5 (List.elem_iff.1 (by kernel_rfl))
          have es := (E5.out d5).symm
          subst es
          have hcl := HC.out.upd 6 (by intro d hd9; simp only [Cl, List.getD_cons_zero, List.getD_cons_succ, List.mem_cons, List.not_mem_nil, or_false] at hd9; rcases hd9 with rfl <;> assumption)
          have HCL := Lib.hid hcl
          clear hcl
          have hr : L 14 = false := by
            cases h14 : L 14 with
            | false => rfl
            | true =>
              have h13 := HC.out 14 13 (by decide) h14
              have h10 := HC.out 13 10 (by decide) h13
              have h7 := HC.out 10 7 (by decide) h10
              have h6 := HC.out 7 6 (by decide) h7
              rw [hL] at h6; cases h6
          have hW := (HI.out.raw hr).2
          have cc0 : W.cell? ⟨wr.heap.size, 2, none⟩ = some (.int .u64 (xb : Int)) := by rw [hW]; exact cellNext (Below.refl _ _).drew q2
          clear hW
          simp only [List.setIfInBounds_toArray, List.set_cons_zero, List.set_cons_succ]
          go_simp
          refine hK _ _ ⟨s3, s12, s13, s14, s15, s16, .pointer (some ⟨wr.heap.size, 2, none⟩), .int .u64 (xb : Int), s19, s20, s21, s22, s23, s24, s25, s26, s27, ?_, HI, HCL, E0.out, E1.out, E2.out, E3.out, E4.out, E5.out, fun _ => rfl, E7.out, E8.out, E9.out, E10.out, E11.out, E12.out, E13.out, EO.out, EI.out⟩
          simp only [List.setIfInBounds_toArray, List.set_cons_zero, List.set_cons_succ]
        case o7 =>
          rintro L a' W ⟨s3, s12, s13, s14, s15, s16, s17, s18, s19, s20, s21, s22, s23, s24, s25, s26, s27, rfl, HI, HC, E0, E1, E2, E3, E4, E5, E6, E7, E8, E9, E10, E11, E12, E13, EO, EI⟩ hL hd K hK
          have d6 : L 6 = true := hd 6 (List.elem_iff.1 (by kernel_rfl))
          have es := (E6.out d6).symm
          subst es
          have hcl := HC.out.upd 7 (by intro d hd9; simp only [Cl, List.getD_cons_zero, List.getD_cons_succ, List.mem_cons, List.not_mem_nil, or_false] at hd9; rcases hd9 with rfl <;> assumption)
          have HCL := Lib.hid hcl
          clear hcl
          simp only [List.setIfInBounds_toArray, List.set_cons_zero, List.set_cons_succ]
          go_simp
          refine hK _ _ ⟨s3, s12, s13, s14, s15, s16, s17, .int .u64 (xb : Int), .float .f64 xb, s20, s21, s22, s23, s24, s25, s26, s27, ?_, HI, HCL, E0.out, E1.out, E2.out, E3.out, E4.out, E5.out, E6.out, fun _ => rfl, E8.out, E9.out, E10.out, E11.out, E12.out, E13.out, EO.out, EI.out⟩
          simp only [List.setIfInBounds_toArray, List.set_cons_zero, List.set_cons_succ]
        case o8 =>
          rintro L a' W ⟨s3, s12, s13, s14, s15, s16, s17, s18, s19, s20, s21, s22, s23, s24, s25, s26, s27, rfl, HI, HC, E0, E1, E2, E3, E4, E5, E6, E7, E8, E9, E10, E11, E12, E13, EO, EI⟩ hL hd K hK
          have hcl := HC.out.upd 8 (by intro d hd9; simp only [List.getD_cons_zero, List.getD_cons_succ, List.not_mem_nil] at hd9)
          have HCL := Lib.hid hcl
          clear hcl
          simp only [List.setIfInBounds_toArray, List.set_cons_zero, List.set_cons_succ]
          go_simp
          refine hK _ _ ⟨s3, s12, s13, s14, s15, s16, s17, s18, s19, .pointer (some ⟨wr.heap.size, 3, none⟩), s21, s22, s23, s24, s25, s26, s27, ?_, HI, HCL, E0.out, E1.out, E2.out, E3.out, E4.out, E5.out, E6.out, E7.out, fun _ => rfl, E9.out, E10.out, E11.out, E12.out, E13.out, EO.out, EI.out⟩
          simp only [List.setIfInBounds_toArray, List.set_cons_zero, List.set_cons_succ]
        case o9 =>
          rintro L a' W ⟨s3, s12, s13, s14, s15, s16, s17, s18, s19, s20, s21, s22, s23, s24, s25, s26, s27, rfl, HI, HC, E0, E1, E2, E3, E4, E5, E6, E7, E8, E9, E10, E11, E12, E13, EO, EI⟩ hL hd K hK
          have d8 : L 8 = true := hd 8 (List.elem_iff.1 (by kernel_rfl))
          have es := (E8.out d8).symm
          subst es
          have hcl := HC.out.upd 9 (by intro d hd9; simp only [Cl, List.getD_cons_zero, List.getD_cons_succ, List.mem_cons, List.not_mem_nil, or_false] at hd9; rcases hd9 with rfl <;> assumption)
          have HCL := Lib.hid hcl
          clear hcl
          have hr : L 14 = false := by
            cases h14 : L 14 with
            | false => rfl
            | true =>
              have h13 := HC.out 14 13 (by decide) h14
              have h10 := HC.out 13 10 (by decide) h13
              have h9 := HC.out 10 9 (by decide) h10
              rw [hL] at h9; cases h9
          have hW := (HI.out.raw hr).2
          have cc0 : W.cell? ⟨wr.heap.size, 3, none⟩ = some (.string xs) := by rw [hW]; exact cellNext (Below.refl _ _).drew q3
          clear hW
          simp only [List.setIfInBounds_toArray, List.set_cons_zero, List.set_cons_succ]
          go_simp
          refine hK _ _ ⟨s3, s12, s13, s14, s15, s16, s17, s18, s19, .pointer (some ⟨wr.heap.size, 3, none⟩), .string xs, s22, s23, s24, s25, s26, s27, ?_, HI, HCL, E0.out, E1.out, E2.out, E3.out, E4.out, E5.out, E6.out, E7.out, E8.out, fun _ => rfl, E10.out, E11.out, E12.out, E13.out, EO.out, EI.out⟩
          simp only [List.setIfInBounds_toArray, List.set_cons_zero, List.set_cons_succ]
        case o10 =>
          rintro L a' W ⟨s3, s12, s13, s14, s15, s16, s17, s18, s19, s20, s21, s22, s23, s24, s25, s26, s27, rfl, HI, HC, E0, E1, E2, E3, E4, E5, E6, E7, E8, E9, E10, E11, E12, E13, EO, EI⟩ hL hd K hK
          have d4 : L 4 = true := hd 4 (List.elem_iff.1 (by kernel_rfl))
          have es := (E4.out d4).symm
          subst es
          have d7 : L 7 = true := hd 7 (List.elem_iff.1 (by kernel_rfl))
          have es := (E7.out d7).symm
          subst es
          have d9 : L 9 = true := hd 9 (List.elem_iff.1 (by kernel_rfl))
          have es := (E9.out d9).symm
          subst es
          have hcl := HC.out.upd 10 (by intro d hd9; simp only [Cl, List.getD_cons_zero, List.getD_cons_succ, List.mem_cons, List.not_mem_nil, or_false] at hd9; rcases hd9 with rfl | rfl | rfl <;> assumption)
          have HCL := Lib.hid hcl
          clear hcl
          simp only [List.setIfInBounds_toArray, List.set_cons_zero, List.set_cons_succ]
          go_simp
          refine hK _ _ ⟨s3, s12, s13, s14, s15, .int .i64 xd, s17, s18, .float .f64 xb, s20, .string xs, .agg #[.int .i64 xd, .float .f64 xb, .string xs], s23, s24, s25, s26, s27, ?_, HI, HCL, E0.out, E1.out, E2.out, E3.out, E4.out, E5.out, E6.out, E7.out, E8.out, E9.out, fun _ => rfl, E11.out, E12.out, E13.out, EO.out, EI.out⟩
          simp only [List.setIfInBounds_toArray, List.set_cons_zero, List.set_cons_succ]
        case o11 =>
          rintro L a' W ⟨s3, s12, s13, s14, s15, s16, s17, s18, s19, s20, s21, s22, s23, s24, s25, s26, s27, rfl, HI, HC, E0, E1, E2, E3, E4, E5, E6, E7, E8, E9, E10, E11, E12, E13, EO, EI⟩ hL hd K hK
          have hcl := HC.out.upd 11 (by intro d hd9; simp only [List.getD_cons_zero, List.getD_cons_succ, List.not_mem_nil] at hd9)
          have HCL := Lib.hid hcl
          clear hcl
          simp only [List.setIfInBounds_toArray, List.set_cons_zero, List.set_cons_succ]
          go_simp
          refine hK _ _ ⟨s3, s12, s13, s14, s15, s16, s17, s18, s19, s20, s21, s22, .pointer (some ⟨wr.heap.size, 4, none⟩), s24, s25, s26, s27, ?_, HI, HCL, E0.out, E1.out, E2.out, E3.out, E4.out, E5.out, E6.out, E7.out, E8.out, E9.out, E10.out, fun _ => rfl, E12.out, E13.out, EO.out, EI.out⟩
          simp only [List.setIfInBounds_toArray, List.set_cons_zero, List.set_cons_succ]
        case o12 =>
          rintro L a' W ⟨s3, s12, s13, s14, s15, s16, s17, s18, s19, s20, s21, s22, s23, s24, s25, s26, s27, rfl, HI, HC, E0, E1, E2, E3, E4, E5, E6, E7, E8, E9, E10, E11, E12, E13, EO, EI⟩ hL hd K hK
          have d11 : L 11 = true := hd 11 (List.elem_iff.1 (by kernel_rfl))
          have es := (E11.out d11).symm
          subst es
          have hcl := HC.out.upd 12 (by intro d hd9; simp only [Cl, List.getD_cons_zero, List.getD_cons_succ, List.mem_cons, List.not_mem_nil, or_false] at hd9; rcases hd9 with rfl <;> assumption)
          have HCL := Lib.hid hcl
          clear hcl
          have hr : L 14 = false := by
            cases h14 : L 14 with
            | false => rfl
            | true =>
              have h13 := HC.out 14 13 (by decide) h14
              have h12 := HC.out 13 12 (by decide) h13
              rw [hL] at h12; cases h12
          have hW := (HI.out.raw hr).2
          have cc0 : W.cell? ⟨wr.heap.size, 4, none⟩ = some (.bool xu) := by rw [hW]; exact cellNext (Below.refl _ _).drew q4
          clear hW
          simp only [List.setIfInBounds_toArray, List.set_cons_zero, List.set_cons_succ]
          go_simp
          refine hK _ _ ⟨s3, s12, s13, s14, s15, s16, s17, s18, s19, s20, s21, s22, .pointer (some ⟨wr.heap.size, 4, none⟩), .bool xu, s25, s26, s27, ?_, HI, HCL, E0.out, E1.out, E2.out, E3.out, E4.out, E5.out, E6.out, E7.out, E8.out, E9.out, E10.out, E11.out, fun _ => rfl, E13.out, EO.out, EI.out⟩
          simp only [List.setIfInBounds_toArray, List.set_cons_zero, List.set_cons_succ]
        case o13 =>
          rintro L a' W ⟨s3, s12, s13, s14, s15, s16, s17, s18, s19, s20, s21, s22, s23, s24, s25, s26, s27, rfl, HI, HC, E0, E1, E2, E3, E4, E5, E6, E7, E8, E9, E10, E11, E12, E13, EO, EI⟩ hL hd K hK
          have d2 : L 2 = true := hd 2 (List.elem_iff.1 (by kernel_rfl))
          have es := (E2.out d2).symm
          subst es
          have d10 : L 10 = true := hd 10 (List.elem_iff.1 (by kernel_rfl))
          have es := (E10.out d10).symm
          subst es
          have d12 : L 12 = true := hd 12 (List.elem_iff.1 (by kernel_rfl))
          have es := (E12.out d12).symm
          subst es
          have hcl := HC.out.upd 13 (by intro d hd9; simp only [Cl, List.getD_cons_zero, List.getD_cons_succ, List.mem_cons, List.not_mem_nil, or_false] at hd9; rcases hd9 with rfl | rfl | rfl <;> assumption)
          have HCL := Lib.hid hcl
          clear hcl
          simp only [List.setIfInBounds_toArray, List.set_cons_zero, List.set_cons_succ]
          go_simp
          refine hK _ _ ⟨s3, s12, s13, .string xk, s15, s16, s17, s18, s19, s20, s21, .agg #[.int .i64 xd, .float .f64 xb, .string xs], s23, .bool xu, .agg #[.string xk, .int .i64 xd, .float .f64 xb, .string xs, .bool xu], s26, s27, ?_, HI, HCL, E0.out, E1.out, E2.out, E3.out, E4.out, E5.out, E6.out, E7.out, E8.out, E9.out, E10.out, E11.out, E12.out, fun _ => rfl, EO.out, EI.out⟩
          simp only [List.setIfInBounds_toArray, List.set_cons_zero, List.set_cons_succ]
        case o14 =>
          rintro L a' W ⟨s3, s12, s13, s14, s15, s16, s17, s18, s19, s20, s21, s22, s23, s24, s25, s26, s27, rfl, HI, HC, E0, E1, E2, E3, E4, E5, E6, E7, E8, E9, E10, E11, E12, E13, EO, EI⟩ hL hd K hK
          have d13 : L 13 = true := hd 13 (List.elem_iff.1 (by kernel_rfl))
          have es := (E13.out d13).symm
          subst es
          have hcl := HC.out.upd 14 (by intro d hd9; simp only [Cl, List.getD_cons_zero, List.getD_cons_succ, List.mem_cons, List.not_mem_nil, or_false] at hd9; rcases hd9 with rfl <;> assumption)
          have HCL := Lib.hid hcl
          clear hcl
          have hI := HI.out
          rw [hL] at hI
          simp only [List.setIfInBounds_toArray, List.set_cons_zero, List.set_cons_succ]
          go_simp
          refine hK _ _ ⟨s3, s12, s13, s14, s15, s16, s17, s18, s19, s20, s21, s22, s23, s24, .agg #[.string xk, .int .i64 xd, .float .f64 xb, .string xs, .bool xu], .slice (some ⟨W.heap.size, 0, none⟩) 1 1, s27, ?_, hI.alloc, HCL, E0.out, E1.out, E2.out, E3.out, E4.out, E5.out, E6.out, E7.out, E8.out, E9.out, E10.out, E11.out, E12.out, E13.out, EO.out, EI.out⟩
          simp only [List.setIfInBounds_toArray, List.set_cons_zero, List.set_cons_succ]
        case o15 =>
          rintro L a' W ⟨s3, s12, s13, s14, s15, s16, s17, s18, s19, s20, s21, s22, s23, s24, s25, s26, s27, rfl, HI, HC, E0, E1, E2, E3, E4, E5, E6, E7, E8, E9, E10, E11, E12, E13, EO, EI⟩ hL hd K hK
          have d0 : L 0 = true := hd 0 (List.elem_iff.1 (by kernel_rfl))
          have es := (E0.out d0).symm
          subst es
          have d14 : L 14 = true := hd 14 (List.elem_iff.1 (by kernel_rfl))
          have hcl := HC.out.upd 15 (by intro d hd9; simp only [Cl, List.getD_cons_zero, List.getD_cons_succ, List.mem_cons, List.not_mem_nil, or_false] at hd9; rcases hd9 with rfl | rfl <;> assumption)
          have HCL := Lib.hid hcl
          clear hcl
          have hn : L 16 = false := by
            cases h16 : L 16 with
            | false => rfl
            | true =>
              have h15 := HC.out 16 15 (by decide) h16
              rw [hL] at h15; cases h15
          have hI := HI.out
          rw [hL, d14] at hI
          have hW := hI.laid rfl rfl
          obtain rfl := hI.ptr rfl
          subst hW
          simp only [List.setIfInBounds_toArray, List.set_cons_zero, List.set_cons_succ]
          refine wp_append_lies _ (.tmp 12) (.tmp 26) 54 rfl w.heap.size 57 i0 (.agg #[.string .empty, .int .i64 0, .float .f64 0, .string .empty, .bool false]) 5 56 undEn HI0.out HZ0.out HZ1.out HZ2.out rfl (by decide) u3 k (cellsE (L0.take k)) (by simp [Act.eval]) (HOW.out.drew.alloc _) ⟨W0.heap.size, 0, none⟩ 1 1 [.string xk, .int .i64 xd, .float .f64 xb, .string xs, .bool xu] (by simp [Act.eval]) rfl (newsEn W0.drew (.string xk) (.int .i64 xd) (.float .f64 xb) (.string xs) (.bool xu)) (by simp [Value.oneCell']) (by decide) (by unfold maxLen; omega) (by omega) (by show w.heap.size ≤ (W0.drew.alloc _).heap.size; simp; omega) _ rfl ?_
          intro g9 cap9 w9 hown hgrow hat hlt9
          simp only [Act.put, List.setIfInBounds_toArray, List.set_cons_zero, List.set_cons_succ]
          refine hK _ _ ⟨s3, u3, s13, s14, s15, s16, s17, s18, s19, s20, s21, s22, s23, s24, s25, .slice (some ⟨W0.heap.size, 0, none⟩) 1 1, .slice (some ⟨g9, 0, none⟩) (k + 1) cap9, ?_, ⟨fun h => ?_, fun _ h => ?_, fun _ => ⟨?_, ⟨g9, cap9, rfl⟩, ?_, ((Below.refl _ W0).drew.alloc (show w.heap.size ≤ W0.heap.size by omega) _).grown hgrow (by show w.heap.size ≤ (W0.drew.alloc _).heap.size; simp; omega) (fun y hy => (HOW.out.lt y hy).1)⟩, fun _ => rfl⟩, HCL, E0.out, E1.out, E2.out, E3.out, E4.out, E5.out, E6.out, E7.out, E8.out, E9.out, E10.out, E11.out, E12.out, E13.out, fun h => absurd h (by show ¬ L 16 = true; rw [hn]; decide), EI.out⟩
          · simp only [List.setIfInBounds_toArray, List.set_cons_zero, List.set_cons_succ]
          · exact absurd h (by show ¬ L 14 = false; rw [d14]; decide)
          · cases h
          · exact d14
          · show World.ownsRow _ _ _ _ _ _ _
            rw [show cellsE (L0.take (k + 1)) = cellsE (L0.take k) ++ [.string xk, .int .i64 xd, .float .f64 xb, .string xs, .bool xu] from HSN.out]; exact hown
        case o16 =>
          rintro L a' W ⟨s3, s12, s13, s14, s15, s16, s17, s18, s19, s20, s21, s22, s23, s24, s25, s26, s27, rfl, HI, HC, E0, E1, E2, E3, E4, E5, E6, E7, E8, E9, E10, E11, E12, E13, EO, EI⟩ hL hd K hK
          have d15 : L 15 = true := hd 15 (List.elem_iff.1 (by kernel_rfl))
          have hcl := HC.out.upd 16 (by intro d hd9; simp only [Cl, List.getD_cons_zero, List.getD_cons_succ, List.mem_cons, List.not_mem_nil, or_false] at hd9; rcases hd9 with rfl <;> assumption)
          have HCL := Lib.hid hcl
          clear hcl
          simp only [List.setIfInBounds_toArray, List.set_cons_zero, List.set_cons_succ]
          go_simp
          refine hK _ _ ⟨s27, s12, s13, s14, s15, s16, s17, s18, s19, s20, s21, s22, s23, s24, s25, s26, s27, ?_, HI, HCL, E0.out, E1.out, E2.out, E3.out, E4.out, E5.out, E6.out, E7.out, E8.out, E9.out, E10.out, E11.out, E12.out, E13.out, fun _ => rfl, fun h => (by cases h)⟩
          simp only [List.setIfInBounds_toArray, List.set_cons_zero, List.set_cons_succ]
      case hdone =>
        rintro L a' W9 hall ⟨s3, s12, s13, s14, s15, s16, s17, s18, s19, s20, s21, s22, s23, s24, s25, s26, s27, rfl, HI, HC, E0, E1, E2, E3, E4, E5, E6, E7, E8, E9, E10, E11, E12, E13, EO, EI⟩
        obtain ⟨hl9, ⟨g9, cap9, rfl⟩, hown9, hbel9⟩ := HI.out.done (hall 15 (by decide))
        obtain rfl := HI.out.ptr (hall 14 (by decide))
        have es := (E0.out (hall 0 (by decide))).symm
        subst es
        have es := (E1.out (hall 1 (by decide))).symm
        subst es
        have es := (E2.out (hall 2 (by decide))).symm
        subst es
        have es := (E3.out (hall 3 (by decide))).symm
        subst es
        have es := (E4.out (hall 4 (by decide))).symm
        subst es
        have es := (E5.out (hall 5 (by decide))).symm
        subst es
        have es := (E6.out (hall 6 (by decide))).symm
        subst es
        have es := (E7.out (hall 7 (by decide))).symm
        subst es
        have es := (E8.out (hall 8 (by decide))).symm
        subst es
        have es := (E9.out (hall 9 (by decide))).symm
        subst es
        have es := (E10.out (hall 10 (by decide))).symm
        subst es
        have es := (E11.out (hall 11 (by decide))).symm
        subst es
        have es := (E12.out (hall 12 (by decide))).symm
        subst es
        have es := (E13.out (hall 13 (by decide))).symm
        subst es
        have es := (EO.out (hall 16 (by decide))).symm
        subst es
        simp only [List.setIfInBounds_toArray, List.set_cons_zero, List.set_cons_succ]
        rename_i Q' K hKK
        refine hKK _ _ ?_
        have HO9 := Lib.hid hown9
        have HB9 := Lib.hid hbel9
        clear hl9 hown9 hbel9 hKK hall HI HC E0 E1 E2 E3 E4 E5 E6 E7 E8 E9 E10 E11 E12 E13 EO EI
      -- END
        go_wp2_with fail
        go_roundw
        case rel => exact ⟨k + 1, rfl, by omega, HBW.out.trans HB9.out, HO9⟩
        case measure => simp only [natI]; omega
    · obtain rfl : k = n := by omega
      have hltI : (k : Int) ≤ (k : Int) := Int.le_refl _
      go_wp2_with fail
      go_ret
      refine ⟨⟨_, rfl, ?_⟩, HBr.out⟩
      have h := HOw.out
      have e : L0.take k = L0 := by rw [HN.out, List.take_length]
      rw [e] at h
      exact h
end Go.Proofs.YtflbhifdololfaaGreatDoor
