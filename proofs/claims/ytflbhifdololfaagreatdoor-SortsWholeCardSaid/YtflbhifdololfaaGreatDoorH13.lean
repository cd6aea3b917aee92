/- thresherlaw07: same, fixed. -/
import Derived.Test.YtflbhifdololfaaGreatDoorH12
namespace Go.Proofs.YtflbhifdololfaaGreatDoor
open Go.RowKit
set_option linter.unusedVariables false

/-- whole numbers in a row -/
def IntsR (w : World) (v : Value) (L : List Nat) : Prop := ∃ a c, v = .slice a L.length c ∧ (0 < L.length → ∃ g o, a = some ⟨g, o, none⟩ ∧ g < w.heap.size ∧ ∀ (j : Nat) x, L[j]? = some x → w.cell? ⟨g, o + j, none⟩ = some (.int .i64 (x : Int)))
theorem IntsR.ofOwn {w : World} {D : Nat} {v : Value} {L : List Nat} (h : w.ownsRow D 3 1 v L.length (cellsH L)) : IntsR w v L := by
  rcases h.2 with ⟨rfl, h0⟩ | ⟨g, cap, cur, rfl, hb, hgg, _⟩
  · exact ⟨none, 0, by rw [h0], fun h => by omega⟩
  · refine ⟨_, cap, rfl, fun _ => ⟨g, 0, rfl, lt_of_heap hgg, fun j s hj => ?_⟩⟩
    have hc := h.cells (g := g) rfl j (.int .i64 (s : Int)) (by simp [cellsH, hj])
    rw [Addr.add_lit] at hc
    exact hc
theorem IntsR.below {w w' : World} {v : Value} {L : List Nat} (h : IntsR w v L) (hb : Below w.heap.size w w') : IntsR w' v L := by
  obtain ⟨a, c, h1, h2⟩ := h
  refine ⟨a, c, h1, fun h0 => ?_⟩
  obtain ⟨g, o, e, hg, hc⟩ := h2 h0
  exact ⟨g, o, e, Nat.lt_of_lt_of_le hg hb.size, fun j s hj => (hb.cell (p := ⟨g, o + j, none⟩) hg).trans (hc j s hj)⟩
set_option maxHeartbeats 4000000 in
set_option maxRecDepth 100000 in
theorem same7_any {w : World} {v1 v2 : Value} {L : List Nat} (h1 : IntsR w v1 L) (h2 : IntsR w v2 L) (hl : L.length ≤ 1000000) :
    Calls Tryz.prog 57 #[v1, v2] w fun e w' => e = .returned (.bool true) ∧ Below w.heap.size w w' := by
  obtain ⟨a1, c1, rfl, h1⟩ := h1
  obtain ⟨a2, c2, rfl, h2⟩ := h2
  rcases Nat.eq_zero_or_pos L.length with hz | hz
  · rw [hz]
    clear h1 h2
    go_enter Tryz.func57, Tryz.ntmps57
    go_wp2_with fail
    go_loop [13] (fun v13 => v13 = .int .i64 0) (fun _ => 0)
    case atStart => rfl
    case round =>
      obtain rfl := hrel
      go_wp2_with fail
      go_ret
      exact ⟨rfl, Below.refl _ _⟩
  obtain ⟨g1, o1, rfl, hg1, hc1⟩ := h1 hz
  obtain ⟨g2, o2, rfl, hg2, hc2⟩ := h2 hz
  have H1 := Lib.hid hc1
  have H2 := Lib.hid hc2
  obtain ⟨n, hn⟩ : ∃ n, n = L.length := ⟨_, rfl⟩
  rw [← hn] at hl ⊢
  have HN := Lib.hid hn
  clear h1 h2 hn hc1 hc2
  go_enter Tryz.func57, Tryz.ntmps57
  go_wp2_with fail
  go_loopw [13] (fun v13 wr => ∃ k : Nat, v13 = .int .i64 (k : Int) ∧ k ≤ n ∧ Hid (Below w.heap.size w wr)) (fun v13 _ => n - natI v13)
  case atStart => exact ⟨0, rfl, Nat.zero_le _, Below.refl _ _⟩
  case round =>
    obtain ⟨k, rfl, hk, HB⟩ := hrel
    by_cases hlt : k < n
    · have hltI : (k : Int) < (n : Int) := by omega
      obtain ⟨s, hs⟩ : ∃ s, L[k]? = some s := ⟨_, List.getElem?_eq_getElem (by rw [← HN.out]; exact hlt)⟩
      have x1 := (HB.out.cell (p := ⟨g1, o1 + k, none⟩) hg1).trans (H1.out k s hs)
      have x2 := (HB.out.cell (p := ⟨g2, o2 + k, none⟩) hg2).trans (H2.out k s hs)
      clear hs
      go_wp2_with fail
      go_region
      all_goals (try go_wp2_with fail)
      all_goals exact ⟨⟨k + 1, rfl, by omega, HB.out.drew⟩, by simp only [natI]; omega⟩
    · have hltI : (n : Int) ≤ (k : Int) := by omega
      go_wp2_with fail
      go_ret
      exact ⟨rfl, HB.out⟩
/-- the order is the row that is in order -/
theorem order_is {cmp : En → En → Int} {fl : Bool} {L : List En} {n : Nat} (hO : CmpOrd cmp L) (hn : n = L.length) {l : List Nat} (hp : l.Perm (List.range n)) (hs : l.Pairwise (H.le (ltL cmp fl L))) : H.order (ltL cmp fl L) n = l := by
  have ho := ord_of (fl := fl) hO hn
  obtain ⟨h1, h2⟩ := H.order_ok ho
  refine H.sorted_unique (h1.trans hp.symm) h2 hs ?_
  intro x y hx hy h3 h4
  have hxn := List.mem_range.1 (h1.mem_iff.1 hx)
  have hyn := List.mem_range.1 (h1.mem_iff.1 hy)
  obtain ⟨ex, hex⟩ : ∃ e, L[x]? = some e := ⟨_, List.getElem?_eq_getElem (by omega)⟩
  obtain ⟨ey, hey⟩ : ∃ e, L[y]? = some e := ⟨_, List.getElem?_eq_getElem (by omega)⟩
  rw [le_iff hO hex hey] at h3
  rw [le_iff hO hey hex] at h4
  have ha := hO.anti ex (List.mem_of_getElem? hex) ey (List.mem_of_getElem? hey)
  cases fl
  · simp only [Bool.false_eq_true, if_false] at h3 h4
    have := h3.2 (by omega)
    have := h4.2 (by omega)
    omega
  · simp only [if_true] at h3 h4
    have := h3.2 (by omega)
    have := h4.2 (by omega)
    omega
/-- the document's entries -/
def fx0 : En := ⟨⟨#[49, 48]⟩, 0, 0, ⟨#[]⟩, false⟩
def fx1 : En := ⟨⟨#[57]⟩, 0, 0, ⟨#[]⟩, true⟩
def fx2 : En := ⟨⟨#[120]⟩, 1, 13830554455654793216, ⟨#[]⟩, false⟩
theorem fx_ok : ∀ x ∈ [fx0, fx1, fx2], x.Ok := by
  intro x hx
  simp only [List.mem_cons, List.not_mem_nil, or_false] at hx
  rcases hx with rfl | rfl | rfl <;> exact ⟨by decide, by decide, by decide⟩
theorem fx_nums : H.order (ltL cNums false [fx0, fx1, fx2]) 3 = [2, 1, 0] := by
  refine order_is (nums_pre.ord fx_ok) rfl (by decide) ?_
  have h21 : H.le (ltL cNums false [fx0, fx1, fx2]) 2 1 := by show ltL cNums false [fx0, fx1, fx2] 1 2 = false; kernel_rfl
  have h20 : H.le (ltL cNums false [fx0, fx1, fx2]) 2 0 := by show ltL cNums false [fx0, fx1, fx2] 0 2 = false; kernel_rfl
  have h10 : H.le (ltL cNums false [fx0, fx1, fx2]) 1 0 := by show ltL cNums false [fx0, fx1, fx2] 0 1 = false; kernel_rfl
  refine List.pairwise_cons.2 ⟨?_, List.pairwise_cons.2 ⟨?_, List.pairwise_cons.2 ⟨?_, List.Pairwise.nil⟩⟩⟩
  · intro x hx
    simp only [List.mem_cons, List.not_mem_nil, or_false] at hx
    rcases hx with rfl | rfl
    · exact h21
    · exact h20
  · intro x hx
    simp only [List.mem_cons, List.not_mem_nil, or_false] at hx
    subst hx; exact h10
  · intro x hx; cases hx
theorem fx_amts : H.order (ltL cAmts true [fx0, fx1, fx2]) 3 = [1, 0, 2] := by
  refine order_is (amts_pre.ord fx_ok) rfl (by decide) ?_
  have h10 : H.le (ltL cAmts true [fx0, fx1, fx2]) 1 0 := by show ltL cAmts true [fx0, fx1, fx2] 0 1 = false; kernel_rfl
  have h12 : H.le (ltL cAmts true [fx0, fx1, fx2]) 1 2 := by show ltL cAmts true [fx0, fx1, fx2] 2 1 = false; kernel_rfl
  have h02 : H.le (ltL cAmts true [fx0, fx1, fx2]) 0 2 := by show ltL cAmts true [fx0, fx1, fx2] 2 0 = false; kernel_rfl
  refine List.pairwise_cons.2 ⟨?_, List.pairwise_cons.2 ⟨?_, List.pairwise_cons.2 ⟨?_, List.Pairwise.nil⟩⟩⟩
  · intro x hx
    simp only [List.mem_cons, List.not_mem_nil, or_false] at hx
    rcases hx with rfl | rfl
    · exact h10
    · exact h12
  · intro x hx
    simp only [List.mem_cons, List.not_mem_nil, or_false] at hx
    subst hx; exact h02
  · intro x hx; cases hx
def s_isa : ByteArray := ⟨#[64, 105, 110, 100, 95, 115, 116, 114, 95, 97, 115, 99]⟩
def s_isd : ByteArray := ⟨#[64, 105, 110, 100, 95, 115, 116, 114, 95, 100, 101, 115, 99]⟩
def s_ina : ByteArray := ⟨#[64, 105, 110, 100, 95, 110, 117, 109, 95, 97, 115, 99]⟩
def s_ind : ByteArray := ⟨#[64, 105, 110, 100, 95, 110, 117, 109, 95, 100, 101, 115, 99]⟩
def s_vnd : ByteArray := ⟨#[64, 118, 97, 108, 95, 110, 117, 109, 95, 100, 101, 115, 99]⟩
theorem by_isa : byO s_isa = (some .keys, false) := by kernel_rfl
theorem by_isd : byO s_isd = (some .keys, true) := by kernel_rfl
theorem by_ina : byO s_ina = (some .numbers, false) := by kernel_rfl
theorem by_ind : byO s_ind = (some .numbers, true) := by kernel_rfl
theorem by_vnd : byO s_vnd = (some .amounts, true) := by kernel_rfl
theorem cut_ok : CutOk := fun s p w hs => Tryz.strings_CutSuffix s p w hs
theorem own_len {w : World} {D n : Nat} {v : Value} {l : List Nat} (h : w.ownsRow D 3 1 v n (cellsH l)) (hn : l.length = n) : IntsR w v l := by
  subst hn; exact IntsR.ofOwn h
theorem ints3 (W : World) (a b c : Nat) : IntsR (W.alloc (.cells #[.int .i64 (a : Int), .int .i64 (b : Int), .int .i64 (c : Int)] 3)) (.slice (some ⟨W.heap.size, 0, none⟩) 3 3) [a, b, c] := by
  refine ⟨_, 3, rfl, fun _ => ⟨W.heap.size, 0, rfl, by simp, fun j x hj => ?_⟩⟩
  have h := heap_alloc_at W (.cells #[.int .i64 (a : Int), .int .i64 (b : Int), .int .i64 (c : Int)] 3)
  rw [Lib.cell_of_heap h]
  match j, hj with
  | 0, hj => cases hj; rfl
  | 1, hj => cases hj; rfl
  | 2, hj => cases hj; rfl
theorem ents3 (W : World) : EntsR (W.alloc (.cells #[.string ⟨#[49, 48]⟩, .int .i64 0, .float .f64 0, .string ⟨#[]⟩, .bool false, .string ⟨#[57]⟩, .int .i64 0, .float .f64 0, .string ⟨#[]⟩, .bool true, .string ⟨#[120]⟩, .int .i64 1, .float .f64 13830554455654793216, .string ⟨#[]⟩, .bool false] 57)) (some ⟨W.heap.size, 0, none⟩) 3 [fx0, fx1, fx2] := by
  refine ⟨rfl, fun _ => ⟨W.heap.size, 0, rfl, by simp, fun j x hj i u hi => ?_⟩⟩
  have h := heap_alloc_at W (.cells #[.string ⟨#[49, 48]⟩, .int .i64 0, .float .f64 0, .string ⟨#[]⟩, .bool false, .string ⟨#[57]⟩, .int .i64 0, .float .f64 0, .string ⟨#[]⟩, .bool true, .string ⟨#[120]⟩, .int .i64 1, .float .f64 13830554455654793216, .string ⟨#[]⟩, .bool false] 57)
  rw [Lib.cell_of_heap h]
  match j, hj with
  | 0, hj =>
    cases hj
    match i, hi with
    | 0, hi => cases hi; rfl
    | 1, hi => cases hi; rfl
    | 2, hi => cases hi; rfl
    | 3, hi => cases hi; rfl
    | 4, hi => cases hi; rfl
  | 1, hj =>
    cases hj
    match i, hi with
    | 0, hi => cases hi; rfl
    | 1, hi => cases hi; rfl
    | 2, hi => cases hi; rfl
    | 3, hi => cases hi; rfl
    | 4, hi => cases hi; rfl
  | 2, hj =>
    cases hj
    match i, hi with
    | 0, hi => cases hi; rfl
    | 1, hi => cases hi; rfl
    | 2, hi => cases hi; rfl
    | 3, hi => cases hi; rfl
    | 4, hi => cases hi; rfl
set_option maxHeartbeats 4000000 in
set_option maxRecDepth 100000 in
theorem fixed7_any (w : World) : Calls Tryz.prog 25 #[] w fun e w' => e = .returned (.bool true) ∧ Below w.heap.size w w' := by
  go_enter Tryz.func25, Tryz.ntmps25
  go_wp2_with fail
  refine (of_any _ _).mono ?_
  rintro e w1 ⟨rfl, hb1⟩
  have HB1 := Lib.hid (hb1.alloc hb1.size (.cells #[.string ⟨#[49, 48]⟩, .int .i64 0, .float .f64 0, .string ⟨#[]⟩, .bool false, .string ⟨#[57]⟩, .int .i64 0, .float .f64 0, .string ⟨#[]⟩, .bool true, .string ⟨#[120]⟩, .int .i64 1, .float .f64 13830554455654793216, .string ⟨#[]⟩, .bool false] 57))
  have hE := ents3 w1
  clear hb1
  go_wp2_with fail
  generalize w1.alloc _ = W1 at hE HB1 ⊢
  generalize w1.heap.size = g1 at hE ⊢
  have HE := Lib.hid hE
  have H1 := Lib.hid (Order_by cut_ok (how := s_ina) (conv := ⟨#[37, 46, 54, 103]⟩) (c := 3) HE.out (by decide) (by decide) by_ina (nums_pre.ord fx_ok) (cmp5_nums _ fx_ok))
  clear hE
  refine H1.out.mono ?_
  rintro e w2 ⟨⟨v1, rfl, ho1⟩, hb2⟩
  rw [fx_nums] at ho1
  have hI1 := own_len ho1 rfl
  obtain ⟨a1, c1, rfl, _⟩ := id hI1
  have HI1 := Lib.hid hI1
  have HB2 := Lib.hid (HB1.out.trans (hb2.mono HB1.out.size))
  have HE2 := Lib.hid (HE.out.below hb2 (Nat.le_refl _))
  clear hI1 ho1 hb2 H1 HB1 HE
  have H2 := Lib.hid (Order_by cut_ok (how := s_vnd) (conv := ⟨#[37, 46, 54, 103]⟩) (c := 3) HE2.out (by decide) (by decide) by_vnd (amts_pre.ord fx_ok) (cmp5_amts _ fx_ok))
  go_wp2_with fail
  refine H2.out.mono ?_
  rintro e w3 ⟨⟨v2, rfl, ho2⟩, hb3⟩
  rw [fx_amts] at ho2
  have hI2 := own_len ho2 rfl
  obtain ⟨a2, c2, rfl, _⟩ := id hI2
  have HI2 := Lib.hid hI2
  have HI1b := Lib.hid (HI1.out.below hb3)
  have HB3 := Lib.hid (HB2.out.trans (hb3.mono HB2.out.size))
  clear hI2 ho2 hb3 H2 HB2 HE2 HI1
  go_wp2_with fail
  have HS1 := Lib.hid (same7_any (HI1b.out.below ((Below.refl _ w3).alloc (Nat.le_refl _) (.cells #[.int .i64 ((2 : Nat) : Int), .int .i64 ((1 : Nat) : Int), .int .i64 ((0 : Nat) : Int)] 3))) (ints3 w3 2 1 0) (by decide))
  refine HS1.out.mono ?_
  rintro e w4 ⟨rfl, hb4⟩
  have HB4 := Lib.hid ((HB3.out.alloc HB3.out.size (.cells #[.int .i64 ((2 : Nat) : Int), .int .i64 ((1 : Nat) : Int), .int .i64 ((0 : Nat) : Int)] 3)).trans (hb4.mono (HB3.out.alloc HB3.out.size _).size))
  have HI2b := Lib.hid ((HI2.out.below ((Below.refl _ w3).alloc (Nat.le_refl _) (.cells #[.int .i64 ((2 : Nat) : Int), .int .i64 ((1 : Nat) : Int), .int .i64 ((0 : Nat) : Int)] 3))).below hb4)
  clear hb4 HS1 HI2 HB3 HI1b
  go_wp2_with fail
  have HS2 := Lib.hid (same7_any (HI2b.out.below ((Below.refl _ w4).alloc (Nat.le_refl _) (.cells #[.int .i64 ((1 : Nat) : Int), .int .i64 ((0 : Nat) : Int), .int .i64 ((2 : Nat) : Int)] 3))) (ints3 w4 1 0 2) (by decide))
  refine HS2.out.mono ?_
  rintro e w5 ⟨rfl, hb5⟩
  have HB5 := Lib.hid ((HB4.out.alloc HB4.out.size (.cells #[.int .i64 ((1 : Nat) : Int), .int .i64 ((0 : Nat) : Int), .int .i64 ((2 : Nat) : Int)] 3)).trans (hb5.mono (HB4.out.alloc HB4.out.size _).size))
  clear hb5 HS2
  go_wp2_with fail
  go_ret
  exact ⟨rfl, HB5.out⟩
end Go.Proofs.YtflbhifdololfaaGreatDoor
