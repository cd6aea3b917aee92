/- PROVED: thresherlaw07.SortsWhole returns true for every list of elements and every name of an order, and leaves its arguments as they were. No condition beyond the given row's own; the card ties the listed tables. -/
import Derived.Test.YtflbhifdololfaaGreatDoorH14
import Derived.Test.YtflbhifdololfaaGreatDoorFD5
import Derived.Test.YtflbhifdololfaaGreatDoorAW2
import Derived.SizedLaws
namespace Go.Proofs.YtflbhifdololfaaGreatDoor
open Go.RowKit
set_option linter.unusedVariables false

/-- a row in order stays -/
theorem stays {cmp : En → En → Int} {fl : Bool} {L L' : List En} {n : Nat} {O : List Nat} (hO : CmpOrd cmp L) (hn : n = L.length) (hp : O.Perm (List.range n)) (hs : O.Pairwise (H.le (ltL cmp fl L)))
    (hL' : L'.length = n) (hg : ∀ i x : Nat, O[i]? = some x → L'[i]? = L[x]?) (hO' : CmpOrd cmp L') : H.order (ltL cmp fl L') n = List.range n := by
  refine order_is hO' hL'.symm (.refl _) ?_
  have hol : O.length = n := by rw [hp.length_eq, List.length_range]
  rw [List.pairwise_iff_getElem]
  intro i j hi hj hij
  simp only [List.length_range] at hi hj
  simp only [List.getElem_range]
  have h := List.pairwise_iff_getElem.1 hs i j (by omega) (by omega) hij
  obtain ⟨x, hx⟩ : ∃ x, O[i]? = some x := ⟨_, List.getElem?_eq_getElem (by omega)⟩
  obtain ⟨y, hy⟩ : ∃ y, O[j]? = some y := ⟨_, List.getElem?_eq_getElem (by omega)⟩
  have ex : O[i]'(by omega) = x := by
    have := List.getElem?_eq_getElem (l := O) (i := i) (by omega)
    rw [hx] at this; exact (Option.some.inj this).symm
  have ey : O[j]'(by omega) = y := by
    have := List.getElem?_eq_getElem (l := O) (i := j) (by omega)
    rw [hy] at this; exact (Option.some.inj this).symm
  rw [ex, ey] at h
  have hxn : x < n := List.mem_range.1 (hp.mem_iff.1 (List.mem_of_getElem? hx))
  have hyn : y < n := List.mem_range.1 (hp.mem_iff.1 (List.mem_of_getElem? hy))
  obtain ⟨p, hpx⟩ : ∃ e, L[x]? = some e := ⟨_, List.getElem?_eq_getElem (by omega)⟩
  obtain ⟨q, hqy⟩ : ∃ e, L[y]? = some e := ⟨_, List.getElem?_eq_getElem (by omega)⟩
  rw [le_iff hO hpx hqy] at h
  rw [le_iff hO' ((hg i x hx).trans hpx) ((hg j y hy).trans hqy)]
  exact ⟨h.1, fun _ => by omega⟩
/-- is there an order of this name -/
def knownB (how : ByteArray) : Bool := (byO how).1.isSome || (how == uns)
set_option maxRecDepth 100000 in
theorem Known_any (how : ByteArray) (w : World) (hs : how.size ≤ 9223372036854775807) : Calls Tryz.prog 28 #[.string how] w fun e w' => e = .returned (.bool (knownB how)) ∧ Below w.heap.size w w' := by
  have H1 := Lib.hid (fun W => by_any cut_ok how W hs)
  unfold knownB
  cases hq : (byO how).1 with
  | some q =>
    rw [hq] at H1
    have qn : ∀ w : World, (binOp .neq 112 (.func (.func q.num) #[] #[]) .nilFunc).run Tryz.prog w = .ok (.bool true) w := fun w => by cases q <;> kernel_rfl
    have H2 : Hid (∀ W, Calls Tryz.prog 58 #[.string how] W fun e w' => e = .returned (.tuple #[.func (.func q.num) #[] #[], .bool (byO how).2]) ∧ Below W.heap.size W w') := H1
    generalize q.num = k at *
    generalize (byO how).2 = fl at *
    clear H1 hq
    go_enter Tryz.func28, Tryz.ntmps28
    go_wp2_with fail
    refine (H2.out _).mono ?_
    rintro e w1 ⟨rfl, hb⟩
    have HB := Lib.hid hb
    clear hb
    go_wp2_with fail
    go_ret
    exact ⟨rfl, HB.out⟩
  | none =>
    rw [hq] at H1
    have qn : ∀ w : World, (binOp .neq 112 .nilFunc .nilFunc).run Tryz.prog w = .ok (.bool false) w := fun w => by kernel_rfl
    have H2 : Hid (∀ W, Calls Tryz.prog 58 #[.string how] W fun e w' => e = .returned (.tuple #[.nilFunc, .bool (byO how).2]) ∧ Below W.heap.size W w') := H1
    generalize (byO how).2 = fl at *
    clear H1 hq
    have hu : (how == uns) = (how.toList == (⟨#[64, 117, 110, 115, 111, 114, 116, 101, 100]⟩ : ByteArray).toList) := by
      by_cases h : how = uns
      · subst h; rw [ba_beq]; symm; exact beq_self_eq_true _
      · rw [ba_bne h]; symm
        rw [Lib.toList_data, Lib.toList_data]
        refine beq_eq_false_iff_ne.2 fun e => h ?_
        obtain ⟨d⟩ := how
        have e2 : d = #[64, 117, 110, 115, 111, 114, 116, 101, 100] := Array.toList_inj.1 e
        rw [e2]; rfl
    rw [show ((none : Option Cmp5).isSome || (how == uns)) = (how == uns) from rfl, hu]
    clear hu
    go_enter Tryz.func28, Tryz.ntmps28
    go_wp2_with fail
    refine (H2.out _).mono ?_
    rintro e w1 ⟨rfl, hb⟩
    have HB := Lib.hid hb
    clear hb
    go_wp2_with fail
    all_goals go_ret
    all_goals exact ⟨retB (by first | rfl | simp_all), HB.out⟩
end Go.Proofs.YtflbhifdololfaaGreatDoor
namespace Go.Proofs.YtflbhifdololfaaGreatDoor
open Go.RowKit
set_option linter.unusedVariables false

/-- the pattern of six digits -/
def pat6 : ByteArray := ⟨#[37, 46, 54, 103]⟩
/-- what Order does by a name that is known -/
structure Good (how : ByteArray) (F : List En → List Nat) : Prop where
  perm : ∀ L, (∀ x ∈ L, x.Ok) → (F L).Perm (List.range L.length)
  stay : ∀ L L' : List En, (∀ x ∈ L, x.Ok) → (∀ x ∈ L', x.Ok) → L'.length = L.length → (∀ i x : Nat, (F L)[i]? = some x → L'[i]? = L[x]?) → F L' = List.range L.length
  runs : ∀ (L : List En) (w : World) (a : Option Addr) (n c : Nat), (∀ x ∈ L, x.Ok) → EntsR w a n L → n ≤ 800000 → ErrOk w → PowOk w →
    Calls Tryz.prog 27 #[.slice a n c, .string how, .string pat6] w fun e w' => (∃ v, e = .returned (.tuple #[v, .int .i64 0]) ∧ w'.ownsRow w.heap.size 3 1 v n (cellsH (F L))) ∧ Below w.heap.size w w'
set_option maxRecDepth 100000 in
theorem Order_bad (a : Option Addr) (n c : Nat) (how conv : ByteArray) (w : World) (hs : how.size ≤ 9223372036854775807) (hq : (byO how).1 = none) (hu : how ≠ uns) :
    Calls Tryz.prog 27 #[.slice a n c, .string how, .string conv] w fun e w' => e = .returned (.tuple #[.slice none 0 0, .int .i64 70]) ∧ Below w.heap.size w w' := by
  have H1 := Lib.hid (fun W => by_any cut_ok how W hs)
  rw [hq] at H1
  have H2 : Hid (∀ W, Calls Tryz.prog 58 #[.string how] W fun e w' => e = .returned (.tuple #[.nilFunc, .bool (byO how).2]) ∧ Below W.heap.size W w') := H1
  have qn : ∀ w : World, (binOp .eql 112 .nilFunc .nilFunc).run Tryz.prog w = .ok (.bool true) w := fun w => by kernel_rfl
  have hne : (how.toList == (⟨#[64, 117, 110, 115, 111, 114, 116, 101, 100]⟩ : ByteArray).toList) = false := by
    rw [Lib.toList_data, Lib.toList_data]
    refine beq_eq_false_iff_ne.2 fun e => hu ?_
    obtain ⟨d⟩ := how
    have e2 : d = #[64, 117, 110, 115, 111, 114, 116, 101, 100] := Array.toList_inj.1 e
    rw [e2]; rfl
  have hl : (⟨#[64, 117, 110, 115, 111, 114, 116, 101, 100]⟩ : ByteArray).toList = [64, 117, 110, 115, 111, 114, 116, 101, 100] := by rw [Lib.toList_data]
  rw [hl] at hne
  clear hl
  have hne2 : (!how.toList == [64, 117, 110, 115, 111, 114, 116, 101, 100]) = true := by rw [hne]; rfl
  generalize (byO how).2 = fl at *
  clear H1 hq hu
  go_enter Tryz.func27, Tryz.ntmps27
  go_wp2_with fail
  refine (H2.out _).mono ?_
  rintro e w1 ⟨rfl, hb⟩
  have HB := Lib.hid hb
  clear hb
  go_wp2_with fail
  go_ret2
  refine ⟨rfl, ?_⟩
  have h0 : Below w.heap.size w w1 := (((Below.refl _ w).alloc (Nat.le_refl _) (.cells #[.slice a n c] 54)).alloc (by simp) _).trans (HB.out.mono (by simp; omega))
  exact (h0.alloc h0.size _).alloc (h0.alloc h0.size _).size _
theorem good_uns : Good uns (fun L => List.range L.length) where
  perm L _ := .refl _
  stay L L' _ _ h _ := by rw [h]
  runs L w a n c _ hE hn _ _ := by
    have h := Order_uns a n c pat6 w hn
    rw [hE.1] at h ⊢
    exact h
theorem good_by {how : ByteArray} {q : Cmp5} {fl : Bool} (hs : how.size ≤ 9223372036854775807) (hq : byO how = (some q, fl)) : Good how (fun L => H.order (ltL (cmp5 q) fl L) L.length) where
  perm L hL := (H.order_ok (ord_of (cmp5_ord q hL) rfl)).1
  stay L L' hL hL' hl hg := by
    show H.order (ltL (cmp5 q) fl L') L'.length = _
    rw [hl]
    obtain ⟨h1, h2⟩ := H.order_ok (ord_of (fl := fl) (cmp5_ord q hL) rfl)
    exact stays (cmp5_ord q hL) rfl h1 h2 hl hg (cmp5_ord q hL')
  runs L w a n c hL hE hn hEr hT := by
    have h := Order_by cut_ok (c := c) (conv := pat6) hE hn hs hq (cmp5_ord q hL) (cmp5_at q hL hEr hT)
    show Calls _ _ _ _ fun e w' => (∃ v, _ ∧ w'.ownsRow _ _ _ _ _ (cellsH (H.order (ltL (cmp5 q) fl L) L.length))) ∧ _
    rw [← hE.1]
    exact h
theorem by_unsorted : byO uns = (none, false) := by kernel_rfl
end Go.Proofs.YtflbhifdololfaaGreatDoor
namespace Go.Proofs.YtflbhifdololfaaGreatDoor
open Go.RowKit
set_option linter.unusedVariables false

theorem infoBo : (Tryz.prog.info? 4).map (fun i => (i.zero, i.size, i.bytes)) = some (some (.bool false), 1, 1) := by kernel_rfl
theorem undBo : Tryz.prog.underlying 64 = some (.slice 4) := by kernel_rfl
theorem wpList_makeB {ops : Array Oper} {rest : List Oper} {o : Oper} {a : Act} {w : World} {Q : Exit → Act → World → Prop} (hg : o.guard = none) (l c : Operand) (ho : o.op = .makeSlice 64 l c) (len : Nat) (hl : a.eval l = .int .i64 (len : Int)) (hc : a.eval c = .int .i64 (len : Int)) (hcap : len ≤ 1000000000)
    (hK : ∀ w', Below w.heap.size w w' → w'.heap.size = w.heap.size + 1 → (∀ j, j < len → w'.cell? ⟨w.heap.size, j, none⟩ = some (.bool false)) → (∀ j, w'.frozen? ⟨w.heap.size, j, none⟩ = false) → wpList Tryz.prog ops Q rest (a.put o.dst (.slice (some ⟨w.heap.size, 0, none⟩) len len)) w') : wpList Tryz.prog ops Q (o :: rest) a w := by
  obtain ⟨i0, hi, hz0, hz1, hz2⟩ := info_parts infoBo
  have hr := run_make (P := Tryz.prog) w 64 4 i0 (.bool false) undBo hi hz0 .i64 .i64 len len (by omega) (by omega) (by rw [hz2]; omega) (by omega)
  refine wpList_plain hg fun K' hK' => ?_
  unfold Oper.wp
  simp [execOp, ho, hl, hc, hr, Result.andThen]
  refine hK' _ _ (hK _ ((Below.refl _ _).alloc (Nat.le_refl _) _) (by simp) (fun j hj => ?_) (fun j => ?_))
  · rw [Lib.cell_of_heap (heap_alloc_at w _)]
    simp [madeCells, Value.cells, Nat.mod_one, hz1, hj]
  · exact Lib.frozen_of_heap (heap_alloc_at w _) j
def atL (L : List En) (x : Nat) : En := (L[x]?).getD ⟨⟨#[]⟩, 0, 0, ⟨#[]⟩, false⟩
theorem atL_of {L : List En} {x : Nat} {e : En} (h : L[x]? = some e) : atL L x = e := by unfold atL; rw [h]; rfl
set_option maxHeartbeats 16000000 in
set_option maxRecDepth 100000 in
theorem whole_good {how : ByteArray} {F : List En → List Nat} (hG : Good how F) {w : World} {a : Option Addr} {n c : Nat} {L : List En} (hL : ItemsR w a n L) (hn : n ≤ 9223372036854775807) (hOk : ∀ e ∈ L, e.Ok) (hE : ErrOk w) (hT : PowOk w) :
    Calls Tryz.prog 10 #[.slice a n c, .string how] w fun e w' => e = .returned (.bool true) ∧ Below w.heap.size w w' := by
  have HF := Lib.hid (fixed7_any w)
  have HL := Lib.hid hL
  have HOk := Lib.hid hOk
  have HG := Lib.hid hG
  have HEr := Lib.hid hE
  have HPw := Lib.hid hT
  clear hL hOk hG hE hT
  by_cases hbig : 300 < n
  · have hbigI : (300 : Int) < (n : Int) := by omega
    go_enter Tryz.func10, Tryz.ntmps10
    go_wp2_with fail
    refine HF.out.mono ?_
    rintro e w1 ⟨rfl, hb⟩
    have HB := Lib.hid hb
    clear hb HF
    go_wp2_with fail
    go_ret
    exact ⟨rfl, HB.out⟩
  have hbigI : (n : Int) ≤ 300 := by omega
  go_enter Tryz.func10, Tryz.ntmps10
  go_wp2_with fail
  refine HF.out.mono ?_
  rintro e w1 ⟨rfl, hb⟩
  have HB1 := Lib.hid hb
  have HL1 := Lib.hid (HL.out.below hb (Nat.le_refl _))
  clear hb HF
  go_wp2_with fail
  refine (made7_any HL1.out (by omega) (fun e he => (HOk.out e he).bits)).mono ?_
  rintro e w2 ⟨⟨v, rfl, hown⟩, hb2⟩
  obtain ⟨ea, ec, rfl, hE⟩ := EntsR.ofOwn hown HL1.out.1
  have HE := Lib.hid hE
  have HB2 := Lib.hid (HB1.out.trans (hb2.mono HB1.out.size))
  have HN := Lib.hid HL1.out.1
  clear hown hb2 hE HL1 HB1 HL
  have H1 := Lib.hid (HG.out.runs L w2 ea n ec HOk.out HE.out (by omega) (HEr.out.below HB2.out) (HPw.out.below HB2.out))
  unfold pat6 at H1
  go_wp2_with fail
  refine H1.out.mono ?_
  rintro e w3 ⟨⟨v1, rfl, ho1⟩, hb3⟩
  have hp := HG.out.perm L HOk.out
  obtain ⟨O, hO⟩ : ∃ O, O = F L := ⟨_, rfl⟩
  rw [← hO] at ho1 hp
  rw [← HN.out] at hp
  have HP := Lib.hid hp
  have hol : O.length = n := by rw [hp.length_eq, List.length_range]
  have HFO := Lib.hid hO
  obtain ⟨oa, oc, hv1, hoc⟩ := own_len ho1 hol
  subst hv1
  rw [hol] at hoc ⊢
  have HOl := Lib.hid hol
  have HC3 := Lib.hid hoc
  have HE3 := Lib.hid (HE.out.below hb3 (Nat.le_refl _))
  have HB3 := Lib.hid (HB2.out.trans (hb3.mono HB2.out.size))
  clear ho1 hb3 hp hO hoc hol H1 HE HB2
  go_wp2_with (at_make; refine wpList_makeB rfl _ _ rfl n rfl rfl (by omega) ?_; intro w4 hb4 hs4 hf4 hz4)
  obtain ⟨sb, hsb⟩ : ∃ sb, sb = w3.heap.size := ⟨_, rfl⟩
  rw [← hsb] at hs4 hf4 hz4 ⊢
  have hsb4 : sb < w4.heap.size := by omega
  have HS4 := Lib.hid hf4
  have HZ4 := Lib.hid hz4
  have HB4 := Lib.hid (show Below sb w3 w4 by rw [hsb]; exact hb4)
  have HSB := Lib.hid hsb
  clear hb4 hs4 hf4 hz4 hsb
  have hnd : O.Nodup := HP.out.nodup_iff.2 List.nodup_range
  have HND := Lib.hid hnd
  clear hnd
  obtain ⟨i0, hi, hz0, hz1, hz2⟩ := info_parts infoEn
  have HI0 := Lib.hid hi
  have HZ0 := Lib.hid hz0
  have HZ1 := Lib.hid hz1
  have HZ2 := Lib.hid hz2
  clear hi hz0 hz1 hz2
  have HL' : Hid ((O.map (atL L)).length = n ∧ (∀ i x : Nat, O[i]? = some x → (O.map (atL L))[i]? = L[x]?) ∧ ∀ e ∈ O.map (atL L), e.Ok) := by
    have hget : ∀ x, x ∈ O → ∃ e, L[x]? = some e := fun x hx => ⟨_, List.getElem?_eq_getElem (by have := List.mem_range.1 (HP.out.mem_iff.1 hx); rw [← HN.out]; exact this)⟩
    refine ⟨by rw [List.length_map, HOl.out], fun i x hx => ?_, fun e he => ?_⟩
    · obtain ⟨e, he⟩ := hget x (List.mem_of_getElem? hx)
      rw [List.getElem?_map, hx, he, Option.map_some, atL_of he]
    · obtain ⟨x, hx, rfl⟩ := List.mem_map.1 he
      obtain ⟨e, he⟩ := hget x hx
      rw [atL_of he]
      exact HOk.out e (List.mem_of_getElem? he)
  rcases Nat.eq_zero_or_pos n with hn0 | hn0
  · subst hn0
    have hL0 : L = [] := List.eq_nil_of_length_eq_zero HN.out.symm
    have HBw : Hid (Below w.heap.size w w4) := HB3.out.trans (HB4.out.mono (by rw [HSB.out]; exact HB3.out.size))
    have H2 := Lib.hid (HG.out.runs [] w4 none 0 0 (fun e he => by cases he) ⟨rfl, fun h => absurd h (by omega)⟩ (by omega) (HEr.out.below HBw.out) (HPw.out.below HBw.out))
    have hF0 : F [] = [] := by
      have h := (HG.out.perm [] (fun e he => by cases he)).length_eq
      exact List.eq_nil_of_length_eq_zero (by simpa using h)
    rw [hF0] at H2
    unfold pat6 at H2
    clear hL0 hF0
    go_loop [9, 47] (fun v9 v47 => v9 = .slice none 0 0 ∧ v47 = .int .i64 0) (fun _ _ => 0)
    case atStart => exact ⟨rfl, rfl⟩
    case round =>
      obtain ⟨rfl, rfl⟩ := hrel
      go_wp2_with fail
      refine H2.out.mono ?_
      rintro e w5 ⟨⟨v2, rfl, ho2⟩, hb5⟩
      obtain ⟨ra, rc, hv2, _⟩ := own_len ho2 rfl
      subst hv2
      have HB5 := Lib.hid (HBw.out.trans (hb5.mono HBw.out.size))
      clear ho2 hb5 H2 HBw
      rw [show ([] : List Nat).length = 0 from rfl]
      go_wp2_with fail
      go_loop [100] (fun v100 => v100 = .int .i64 0) (fun _ => 0)
      case atStart => rfl
      case round =>
        obtain rfl := hrel
        go_wp2_with fail
        go_ret
        exact ⟨rfl, HB5.out⟩
  obtain ⟨og, oo, rfl, hog, hoc⟩ := HC3.out hn0
  obtain ⟨eg, eo, rfl, heg, hec⟩ := HE3.out.2 hn0
  have HOc := Lib.hid hoc
  have HEc := Lib.hid hec
  have hog2 : og < sb := by rw [HSB.out]; exact hog
  have heg2 : eg < sb := by rw [HSB.out]; exact heg
  clear hoc hec HC3 hog heg
  go_loopw [9, 47] (fun v9 v47 wr => ∃ k : Nat, v47 = .int .i64 (k : Int) ∧ k ≤ n ∧ Hid (Below sb w3 wr) ∧ sb < wr.heap.size ∧ Hid (∀ j, j < n → wr.cell? ⟨sb, j, none⟩ = some (.bool (decide (j ∈ O.take k)))) ∧ Hid (∀ j, wr.frozen? ⟨sb, j, none⟩ = false) ∧ Hid (wr.ownsRow (sb + 1) 57 5 v9 k (cellsE ((O.map (atL L)).take k)))) (fun _ v47 _ => n - natI v47)
  case atStart => exact ⟨0, rfl, Nat.zero_le _, HB4, hsb4, fun j hj => by rw [HS4.out j hj]; simp, HZ4, World.ownsRow_nil _ _ _ _⟩
  case round =>
    obtain ⟨k, rfl, hk, HBr, hsr, HSr, HZr, HOw⟩ := hrel
    by_cases hlt : k < n
    · have hltI : (k : Int) < (n : Int) := by omega
      obtain ⟨x, hx⟩ : ∃ x, O[k]? = some x := ⟨_, List.getElem?_eq_getElem (by rw [HOl.out]; exact hlt)⟩
      have hxn : x < n := List.mem_range.1 (HP.out.mem_iff.1 (List.mem_of_getElem? hx))
      have hxI : (x : Int) < (n : Int) := by omega
      obtain ⟨e, he⟩ : ∃ e, L[x]? = some e := ⟨_, List.getElem?_eq_getElem (by rw [← HN.out]; exact hxn)⟩
      have co := (HBr.out.cell (p := ⟨og, oo + k, none⟩) hog2).trans (HOc.out k x hx)
      have x0 := (HBr.out.cell (p := ⟨eg, eo + x * 5 + 0, none⟩) heg2).trans (HEc.out x e he 0 _ rfl)
      have x1 := (HBr.out.cell (p := ⟨eg, eo + x * 5 + 1, none⟩) heg2).trans (HEc.out x e he 1 _ rfl)
      have x2 := (HBr.out.cell (p := ⟨eg, eo + x * 5 + 2, none⟩) heg2).trans (HEc.out x e he 2 _ rfl)
      have x3 := (HBr.out.cell (p := ⟨eg, eo + x * 5 + 3, none⟩) heg2).trans (HEc.out x e he 3 _ rfl)
      have x4 := (HBr.out.cell (p := ⟨eg, eo + x * 5 + 4, none⟩) heg2).trans (HEc.out x e he 4 _ rfl)
      simp only [Nat.add_zero] at x0
      have hnot : x ∉ O.take k := by
        intro hm
        obtain ⟨j, hj, hjx⟩ := List.mem_take_iff_getElem.1 hm
        have h1 := List.getElem?_eq_getElem (l := O) (i := k) (by rw [HOl.out]; exact hlt)
        rw [hx] at h1
        have hkl : k < O.length := by rw [HOl.out]; exact hlt
        have h2 := Option.some.inj h1
        have h3 : O[j]'(by omega) = O[k] := by rw [hjx]; exact h2
        exact List.pairwise_iff_getElem.1 HND.out j k (by omega) hkl (by omega) h3
      have cs := HSr.out x hxn
      rw [decide_eq_false hnot] at cs
      have hfs := HZr.out x
      have hne1 : og ≠ sb := by omega
      have hne2 : eg ≠ sb := by omega
      have hsnoc : (O.map (atL L)).take (k + 1) = (O.map (atL L)).take k ++ [e] := by
        rw [List.take_add_one, List.getElem?_map, hx]; simp [atL_of he]
      have htk : ∀ j, j ∈ O.take (k + 1) ↔ (j ∈ O.take k ∨ j = x) := by intro j; rw [List.take_add_one, hx]; simp
      have HSN := Lib.hid hsnoc
      have HTK := Lib.hid htk
      clear hx he hnot hsnoc htk
      obtain ⟨ek, ed, eb, es, eu⟩ := e
      dsimp only at x0 x1 x2 x3 x4
      have HOS := Lib.hid (own_keepI HOw.out (w' := wr.setCell ⟨sb, x, none⟩ (.bool true)) (fun g hg => Below.heap_setCell _ _ _ _ (by have := (HOw.out.lt g hg).1; show g ≠ sb; omega)))
      have hsz : (wr.setCell ⟨sb, x, none⟩ (.bool true)).heap.size = wr.heap.size := by simp
      have HSZ := Lib.hid hsz
      clear hsz
      go_wp2_with (at_builtin; go_loud (refine wpList_append_lies _ rfl _ _ 54 rfl (sb + 1) 57 i0 (.agg #[.string .empty, .int .i64 0, .float .f64 0, .string .empty, .bool false]) 5 56 undEn HI0.out HZ0.out HZ1.out HZ2.out rfl (by decide) u9 k (cellsE ((O.map (atL L)).take k)) rfl (HOS.out.alloc _) ⟨wr.heap.size, 0, none⟩ 1 1 [.string ek, .int .i64 ed, .float .f64 eb, .string es, .bool eu] rfl rfl (by have h := newsEn (wr.setCell ⟨sb, x, none⟩ (.bool true)) (.string ek) (.int .i64 ed) (.float .f64 eb) (.string es) (.bool eu); rw [HSZ.out] at h; exact h) (by simp [Value.oneCell']) (by decide) (by unfold maxLen; omega) (by omega) (by simp; omega) _ rfl ?_); intro g9 cap9 w9 hown hgrow hat hlt9)
      obtain ⟨WS, hWS⟩ : ∃ WS, WS = wr.setCell ⟨sb, x, none⟩ (.bool true) := ⟨_, rfl⟩
      rw [← hWS] at hgrow
      have hbS : Below sb w3 WS := by rw [hWS]; exact HBr.out.setCell (Nat.le_refl _) _
      have hzS : WS.heap.size = wr.heap.size := by rw [hWS]; exact HSZ.out
      have hbA : Below sb w3 (WS.alloc (.cells #[.string ek, .int .i64 ed, .float .f64 eb, .string es, .bool eu] 57)) := hbS.alloc (by omega) _
      have hrow : ∀ g, u9.ownBlock = some g → sb + 1 ≤ g := fun g hg => (HOw.out.lt g hg).1
      have hb9 : Below sb w3 w9 := hbA.grown hgrow (by simp; omega) (fun y hy => by have := hrow y hy; omega)
      have hcS : ∀ j, j < n → WS.cell? ⟨sb, j, none⟩ = some (.bool (decide (j ∈ O.take (k + 1)))) := by
        intro j hj
        rw [hWS]
        by_cases e : j = x
        · subst e
          rw [World.cell?_setCell_same' _ _ _ (by rw [HSr.out j hj]; rfl), decide_eq_true ((HTK.out j).2 (.inr rfl))]
        · have hab : (⟨sb, x, none⟩ : Addr) ≠ ⟨sb, j, none⟩ := by intro h; injection h with _ h; exact e h.symm
          refine (World.cell?_setCell_other _ _ _ _ hab).trans ?_
          rw [HSr.out j hj]
          congr 2
          exact decide_eq_decide.2 ⟨fun h => (HTK.out j).2 (.inl h), fun h => by rcases (HTK.out j).1 h with h | h; exact h; exact absurd h e⟩
      have hfar : ∀ j, w9.cell? ⟨sb, j, none⟩ = WS.cell? ⟨sb, j, none⟩ := fun j =>
        (hgrow.cell_far ⟨sb, j, none⟩ (by show sb < (WS.alloc _).heap.size; simp; omega) (fun h => by have := hrow sb h.symm; omega)).trans (((Below.refl WS.heap.size WS).alloc (Nat.le_refl _) _).cell (p := ⟨sb, j, none⟩) (by show sb < WS.heap.size; omega))
      have hfr : ∀ j, w9.frozen? ⟨sb, j, none⟩ = false := fun j =>
        (hgrow.frozen_far ⟨sb, j, none⟩ (by show sb < (WS.alloc _).heap.size; simp; omega) (fun h => by have := hrow sb h.symm; omega)).trans ((((Below.refl WS.heap.size WS).alloc (Nat.le_refl _) _).frozen (p := ⟨sb, j, none⟩) (by show sb < WS.heap.size; omega)).trans (by rw [hWS, World.frozen?_setCell]; exact HZr.out j))
      have HB9 := Lib.hid hb9
      have HC9 : Hid (∀ j, j < n → w9.cell? ⟨sb, j, none⟩ = some (.bool (decide (j ∈ O.take (k + 1))))) := fun j hj => (hfar j).trans (hcS j hj)
      have HF9 := Lib.hid hfr
      have hl9 : sb < w9.heap.size := by have := hgrow.size; simp at this; omega
      have HO9 : Hid (w9.ownsRow (sb + 1) 57 5 (.slice (some ⟨g9, 0, none⟩) (k + 1) cap9) (k + 1) (cellsE ((O.map (atL L)).take (k + 1)))) := by
        show World.ownsRow _ _ _ _ _ _ _
        rw [HSN.out, cellsE_snoc]; exact hown
      clear hown hgrow hat hlt9 hb9 hfr hfar hcS hrow hbA hzS hbS hWS
      go_wp2_with fail
      go_roundw
      case rel => exact ⟨k + 1, by go_num, by omega, HB9, hl9, HC9, HF9, HO9⟩
      case measure => simp only [natI]; omega
    · obtain rfl : k = n := by omega
      have hltI : (k : Int) ≤ (k : Int) := Int.le_refl _
      have hfull : (O.map (atL L)).take k = O.map (atL L) := List.take_of_length_le (by rw [HL'.out.1]; exact Nat.le_refl _)
      have ho := HOw.out
      rw [hfull] at ho
      obtain ⟨ya, yc, hv, hY⟩ := EntsR.ofOwn ho HL'.out.1.symm
      subst hv
      have HBw : Hid (Below w.heap.size w wr) := HB3.out.trans (HBr.out.mono (by rw [HSB.out]; exact HB3.out.size))
      have HY := Lib.hid hY
      have H2 := Lib.hid (HG.out.runs (O.map (atL L)) wr ya k yc HL'.out.2.2 HY.out (by omega) (HEr.out.below HBw.out) (HPw.out.below HBw.out))
      unfold pat6 at H2
      have hst := HG.out.stay L (O.map (atL L)) HOk.out HL'.out.2.2 (by rw [HL'.out.1]; exact HN.out) (fun i x hx => HL'.out.2.1 i x (by rw [HFO.out]; exact hx))
      rw [hst, ← HN.out] at H2
      clear hfull ho hY hst
      go_wp2_with fail
      refine H2.out.mono ?_
      rintro e w5 ⟨⟨v2, rfl, ho2⟩, hb5⟩
      obtain ⟨ra, rc, hv2, hrc⟩ := own_len ho2 (List.length_range)
      subst hv2
      rw [List.length_range] at hrc ⊢
      obtain ⟨rg, ro, rfl, hrg, hrc⟩ := hrc (by omega)
      have HR := Lib.hid hrc
      have HB5 := Lib.hid (HBw.out.trans (hb5.mono HBw.out.size))
      clear ho2 hb5 hrc H2 HBw
      go_wp2_with fail
      go_loopw [100] (fun v100 wr2 => ∃ i : Nat, v100 = .int .i64 (i : Int) ∧ i ≤ k ∧ Hid (Below w5.heap.size w5 wr2)) (fun v100 _ => k - natI v100)
      case atStart => exact ⟨0, rfl, Nat.zero_le _, Below.refl _ _⟩
      case round =>
        obtain ⟨i, rfl, hi, HBi⟩ := hrel
        by_cases hil : i < k
        · have hilI : (i : Int) < (k : Int) := by omega
          have ci := (HBi.out.cell (p := ⟨rg, ro + i, none⟩) hrg).trans (HR.out i i (by simp [hil]))
          go_wp2_with fail
          go_roundw
          case rel => exact ⟨i + 1, by go_num, by omega, HBi.out⟩
          case measure => simp only [natI]; omega
        · obtain rfl : i = k := by omega
          have hilI : (i : Int) ≤ (i : Int) := Int.le_refl _
          go_wp2_with fail
          go_ret
          exact ⟨rfl, HB5.out.trans (HBi.out.mono HB5.out.size)⟩
set_option maxHeartbeats 16000000 in
set_option maxRecDepth 100000 in
theorem whole_bad {how : ByteArray} {w : World} {a : Option Addr} {n c : Nat} {L : List En} (hs : how.size ≤ 9223372036854775807) (hq : (byO how).1 = none) (hu : how ≠ uns) (hL : ItemsR w a n L) (hn : n ≤ 9223372036854775807) (hOk : ∀ e ∈ L, e.Ok) :
    Calls Tryz.prog 10 #[.slice a n c, .string how] w fun e w' => e = .returned (.bool true) ∧ Below w.heap.size w w' := by
  have HF := Lib.hid (fixed7_any w)
  have HL := Lib.hid hL
  have HOk := Lib.hid hOk
  have HBad := Lib.hid (fun (a : Option Addr) (n c : Nat) W => Order_bad a n c how ⟨#[37, 46, 54, 103]⟩ W hs hq hu)
  have hk : knownB how = false := by unfold knownB; rw [hq, ba_bne hu]; rfl
  have HKn := Lib.hid (fun W => Known_any how W hs)
  rw [hk] at HKn
  clear hL hOk hs hq hu hk
  by_cases hbig : 300 < n
  · have hbigI : (300 : Int) < (n : Int) := by omega
    go_enter Tryz.func10, Tryz.ntmps10
    go_wp2_with fail
    refine HF.out.mono ?_
    rintro e w1 ⟨rfl, hb⟩
    have HB := Lib.hid hb
    clear hb HF
    go_wp2_with fail
    go_ret
    exact ⟨rfl, HB.out⟩
  have hbigI : (n : Int) ≤ 300 := by omega
  go_enter Tryz.func10, Tryz.ntmps10
  go_wp2_with fail
  refine HF.out.mono ?_
  rintro e w1 ⟨rfl, hb⟩
  have HB1 := Lib.hid hb
  have HL1 := Lib.hid (HL.out.below hb (Nat.le_refl _))
  clear hb HF
  go_wp2_with fail
  refine (made7_any HL1.out (by omega) (fun e he => (HOk.out e he).bits)).mono ?_
  rintro e w2 ⟨⟨v, rfl, hown⟩, hb2⟩
  obtain ⟨ea, ec, rfl, hE⟩ := EntsR.ofOwn hown HL1.out.1
  have HB2 := Lib.hid (HB1.out.trans (hb2.mono HB1.out.size))
  clear hown hb2 hE HL1 HB1 HL
  go_wp2_with fail
  refine (HBad.out _ _ _ _).mono ?_
  rintro e w3 ⟨rfl, hb3⟩
  have HB3 := Lib.hid (HB2.out.trans (hb3.mono HB2.out.size))
  clear hb3 HB2
  go_wp2_with fail
  refine (HKn.out _).mono ?_
  rintro e w4 ⟨rfl, hb4⟩
  have HB4 := Lib.hid (HB3.out.trans (hb4.mono HB3.out.size))
  clear hb4 HB3
  go_wp2_with fail
  go_ret
  exact ⟨rfl, HB4.out⟩
theorem whole_any {w : World} {a : Option Addr} {n c : Nat} {L : List En} (how : ByteArray) (hs : how.size ≤ 9223372036854775807) (hL : ItemsR w a n L) (hn : n ≤ 9223372036854775807) (hOk : ∀ e ∈ L, e.Ok) (hE : ErrOk w) (hT : PowOk w) :
    Calls Tryz.prog 10 #[.slice a n c, .string how] w fun e w' => e = .returned (.bool true) ∧ Below w.heap.size w w' := by
  by_cases hu : how = uns
  · subst hu; exact whole_good good_uns hL hn hOk hE hT
  · cases hq : byO how with
    | mk q fl =>
      cases q with
      | none => exact whole_bad hs (by rw [hq]) hu hL hn hOk
      | some q => exact whole_good (good_by hs hq) hL hn hOk hE hT
end Go.Proofs.YtflbhifdololfaaGreatDoor
namespace Go.Proofs.YtflbhifdololfaaGreatDoor
open Go.RowKit
set_option linter.unusedVariables false
theorem whole_w (L : List En) (how : ByteArray) {a : Option Addr} {n c : Nat} (W : World) (hT : Tabs5 W) (hL : ItemsR W a n L) (hn : n ≤ maxLen) (hOk : ∀ e ∈ L, e.Ok) (hs : how.size ≤ 140737488351232) : Calls Tryz.prog 10 #[.slice a n c, .string how] W fun e w' => e = .returned (.bool true) ∧ Below W.heap.size W w' :=
  whole_any how (by omega) hL hn hOk hT.err hT.pow
end Go.Proofs.YtflbhifdololfaaGreatDoor
namespace Go.Proofs.YtflbhifdololfaaGreatDoor
open Go.ChangeShapes Go.WideShapes Go.ChangeAt Go.RowKit
open Go.ChangeMaps (open_string shut_string)
set_option linter.unusedVariables false

theorem sz_card (s : ByteArray) : s.size = s.data.toList.length := by cases s; simp [ByteArray.size]
theorem sortsWhole_met (os : Os) : laidMet Tryz.prog Rows.sortsWholeRow.laid ((laidWorld os).forCall (fun _ _ => 0) ⟨#[], #[.slice none 0 0, .string ⟨#[]⟩], []⟩).memory :=
  laid_met os _
theorem sortsWhole_reads (os : Os) {H : Type} (enc : TypeId × Value → H) : ∃ places, DataW.whole enc Tryz.prog ((laidWorld os).forCall (fun _ _ => 0) ⟨#[], #[.slice none 0 0, .string ⟨#[]⟩], []⟩).memory Tryz.f10.params.toList Rows.sortsWholeSpec.vars false (#[Value.slice none 0 0, .string ⟨#[]⟩] : Array Value).toList 8 = some ([.nil, .lit (.string [])], [], places) :=
  ⟨[], by kernel_rfl⟩

set_option maxRecDepth 100000 in
theorem sortsWhole_lifted (os : Os) (started : os.Started) (H : Type) (enc : TypeId × Value → H) (F : Stop.Interp) :
    ReturnsInHanded {} Tryz.checked os 10 .any ((OpenSpec.ofChange Rows.sortsWholeSpec).preRow enc Tryz.prog Tryz.f10 Rows.sortsWholeRow.domain false Rows.sortsWholeRow.laid) (((OpenSpec.ofChange Rows.sortsWholeSpec).at F).post enc Tryz.prog Tryz.f10 false true false false) := by
  obtain ⟨places, hx⟩ := sortsWhole_reads os enc
  refine returnsInHanded_of_row (C := Tryz.checked) (s := OpenSpec.ofChange Rows.sortsWholeSpec) own started (by kernel_rfl) Tryz.func10
    (witness_row_atRef (enc := enc) (C := Tryz.checked) false (laidWorld os) #[.slice none 0 0, .string ⟨#[]⟩] rfl (by kernel_rfl) (by kernel_rfl) (by kernel_rfl)
      (OpenSpec.preRow_of_cond 8 hx (by kernel_rfl) (fun k hk => by cases hk) (by kernel_rfl) (sortsWhole_met os))) ?_
  intro W base args ds gs before hval0 hW _ _ hWt hL hSh _
  have hval : ∀ (j : Nat) t v, Tryz.f10.params[j]? = some t → args[j]? = some v → Value.okWide Tryz.prog W .any base t v := hval0
  have hW' := hW
  obtain ⟨p, q, hA0, hV, rfl, hfz, hnd⟩ := hW
  have hA : DataW.TrodAll enc Tryz.prog W 0 (fun _ => true) true Tryz.f10.params.toList args.toList ds p := hA0
  rw [Tryz.params10] at hA hval
  obtain ⟨v0, vs0, d0, ds0, p0, q0, hargs, rfl, rfl, h0, r0⟩ := trodAll_cons hA
  obtain ⟨v1, vs1, d1, ds1, p1, q1, rfl, rfl, rfl, h1, r1⟩ := trodAll_cons r0
  obtain ⟨rfl, rfl, rfl⟩ := trodAll_nil r1
  obtain rfl : args = #[v0, v1] := by cases args; simp_all
  obtain ⟨rfl, rfl⟩ := trodVars_none hV
  obtain ⟨fa0, fn0, fc0, rfl⟩ := okWide_slice Tryz.underlying53 (hval 0 53 v0 rfl rfl)
  have lt0 : ∀ x ∈ p0, x.block < W.heap.size := by
    obtain ⟨m, hm⟩ := h0
    exact DataW.trod_lt m _ _ _ hm
  obtain ⟨L0, rs0, hm0, ok0⟩ : ∃ L, ItemsR W fa0 fn0 L ∧ fn0 ≤ maxLen ∧ ∀ e ∈ L, e.Ok := by
    obtain ⟨m, hm⟩ := h0
    exact open_items hm (fun n hn => of_decide_eq_true (List.all_eq_true.1 hWt n (DataW.weights_mem_each (j := 0) (t := 53) (by kernel_rfl) rfl n hn)))
  obtain ⟨s1, rfl, rfl, rfl, w1⟩ := open_string Tryz.underlying9 (hval 1 9 v1 rfl rfl) h1
  clear hA0 hval0
  have z1 : s1.size ≤ 140737488351232 := by
    rw [sz_card]; exact sized_string hWt (j := 1) (t := 9) (by kernel_rfl) rfl
  refine (whole_w L0 s1 W (tabs5_of hL hSh) rs0 hm0 ok0 z1).mono fun e W' ⟨he, bel⟩ => ?_
  subst he
  exact ⟨_, rfl, _, _, _, [], _, [], hW', trodAll_mk1 (shut_bool Tryz.underlying4 _), (trodAll_cons_mk (Below.trod laidOut (by kernel_rfl) (of_decide_eq_true (by kernel_rfl)) h0 bel lt0) (trodAll_cons_mk (shut_string Tryz.underlying9 w1) trodAll_mk0)), rfl, bel.frame _, fun h => by cases h⟩

theorem and_mk {a b : Bool} (ha : a = true) (hb : b = true) : (a && b) = true := by rw [ha, hb]; rfl
set_option maxHeartbeats 4000000 in
theorem sortsWhole_closed : joinedFacts Tryz.pinned.checked.prog 10 Tryz.f10 (OpenSpec.ofChange Rows.sortsWholeSpec).bare Rows.sortsWholeRow = true := by
  unfold joinedFacts
  repeat' (with_reducible refine and_mk ?_ ?_)
  all_goals (as_aux_lemma => kernel_rfl)
theorem sortsWhole_said : Rows.SortsWholeSaid :=
  OpenClaim.holds_of_cond 10 Tryz.f10 rfl rfl rfl rfl rfl rfl rfl ⟨rfl, rfl, rfl, rfl, rfl⟩ rfl rfl rfl rfl rfl (by kernel_rfl) Tryz.func10 sortsWhole_closed
    (of_decide_eq_true (by kernel_rfl)) (by unfold Func.isWrapper; first | (rw [if_pos (by decide +kernel)]; kernel_rfl) | (rw [if_neg (by decide +kernel)]; exact ⟨rfl, rfl⟩))
    (fun os started H enc _ F => by rw [OpenClaim.pre_eq_preRow]; exact sortsWhole_lifted os started H enc F)
theorem sortsWhole_plain (f : FuncId) (fn : Func) (hf : Tryz.pinned.checked.prog.funcNamed "thresher/thresherlaw07.SortsWhole" = some f) (hfn : Tryz.pinned.checked.prog.funcs[f]? = some fn) :
    true = Tryz.pinned.checked.prog.looks [] ∧ ∀ (j : Nat) t, fn.params[j]? = some t → Tryz.pinned.checked.prog.wantsStandIn t = false := by
  obtain rfl : f = 10 := Option.some.inj ((show Tryz.prog.funcNamed "thresher/thresherlaw07.SortsWhole" = some 10 by kernel_rfl).symm.trans hf) |>.symm
  obtain rfl : fn = Tryz.f10 := (Option.some.inj (Tryz.func10.symm.trans hfn)).symm
  refine ⟨by kernel_rfl, fun j t ht => ?_⟩
  rw [Tryz.params10] at ht
  have hm : t ∈ ([53, 9] : List TypeId) := by simpa using Array.mem_of_getElem? ht
  have hall : (([53, 9] : List TypeId).all fun u => !Tryz.prog.wantsStandIn u) = true := by kernel_rfl
  exact (show Tryz.prog.wantsStandIn t = false by simpa using List.all_eq_true.1 hall t hm)
theorem sortsWhole_card : Rows.SortsWholeCardSaid :=
  Claim7.holds_tied_plain_at .later [] _ _ _ _ sortsWhole_said (fun _ h => by cases h) (by kernel_rfl) (fun _ h => by cases h) sortsWhole_row_tie rfl ⟨rfl, rfl⟩ (by kernel_rfl) rfl sortsWhole_plain (by kernel_rfl)
end Go.Proofs.YtflbhifdololfaaGreatDoor
