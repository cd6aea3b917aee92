
import Derived.Test.YtfdnhkjeoeffoaaGreatDoorM10
section

namespace Go.Proofs.YtfdnhkjeoeffoaaGreatDoor
open Go.RowKit
set_option linter.unusedVariables false
/-- as many dashes as a text has bytes, three at most -/
def dashL (s : ByteArray) : List UInt8 := List.replicate (min s.size 3) 45
theorem dash_no (s : ByteArray) : (37 : UInt8) ∉ dashL s := fun h => by have := List.eq_of_mem_replicate h; revert this; decide
theorem dashes_any (s : ByteArray) (w : World) : Calls Tryz.prog 39 #[.string s] w fun e w' => e = .returned (.string ⟨(dashL s).toArray⟩) ∧ w' = w := by
 obtain ⟨n, hn⟩ : ∃ n, n = min s.size 3 := ⟨_, rfl⟩
 have hn3 : n ≤ 3 := by omega
 have hm : min (s.size : Int) 3 = (n : Int) := by omega
 have hnI : (n : Int) ≤ 3 := by omega
 have hx : (⟨#[45, 45, 45]⟩ : ByteArray).extract 0 n = ⟨(dashL s).toArray⟩ := by
  unfold dashL
  rw [← hn]
  match n, hn3 with
  | 0, _ => rfl
  | 1, _ => rfl
  | 2, _ => rfl
  | 3, _ => rfl
 have HX := Lib.hid hx
 clear hn hx
 go_enter Tryz.func39, Tryz.ntmps39
 go_wp2_with fail
 go_ret
 exact ⟨by rw [← HX.out]; simp, rfl⟩
theorem text11 (s : ByteArray) (w : World) : Calls Tryz.prog 38 #[.string s] w fun e w' => e = .returned (.agg #[.int .i64 2, .float .f64 0, .string s]) ∧ Below w.heap.size w w' := by
 go_enter Tryz.func38, Tryz.ntmps38
 go_wp2_with fail
 exact bodyPost_ret (v := .agg #[.int .i64 2, .float .f64 0, .string s]) (by simp [results, Tryz.results38, go_sem]) rfl ⟨rfl, (Below.refl _ _).alloc (Nat.le_refl _) _⟩
theorem of11 (b : Nat) (w : World) : Calls Tryz.prog 87 #[.float .f64 b] w fun e w' => e = .returned (.agg #[.int .i64 1, .float .f64 b, .string ⟨#[]⟩]) ∧ Below w.heap.size w w' := by
 go_enter Tryz.func87, Tryz.ntmps87
 go_wp2_with fail
 exact bodyPost_ret (v := .agg #[.int .i64 1, .float .f64 b, .string ⟨#[]⟩]) (by simp [results, Tryz.results87, go_sem]) rfl ⟨rfl, (Below.refl _ _).alloc (Nat.le_refl _) _⟩
/-- the bytes of all strings -/
def sizeC (L : List CellT) : Nat := (L.map fun c => c.2.2.size).sum
theorem size_le_sizeC {L : List CellT} {c : CellT} (h : c ∈ L) : c.2.2.size ≤ sizeC L := by
 induction L with
 | nil => cases h
 | cons a L ih =>
   unfold sizeC at ih ⊢
   rw [List.map_cons, List.sum_cons]
   rcases List.mem_cons.1 h with rfl | h
   ·omega
   ·have := ih h; omega
theorem sizeC_app (a b : List CellT) : sizeC (a ++ b) = sizeC a + sizeC b := by unfold sizeC; rw [List.map_append, List.sum_append]
set_option maxHeartbeats 8000000 in
set_option maxRecDepth 100000 in
theorem size11_any {w : World} {a : Option Addr} {n c : Nat} {L0 : List CellT} (hL : OnesR w a n L0) (hn : n ≤ 4000000000000) (hOk : sizeC L0 ≤ 1000000000000000000) :
 Calls Tryz.prog 33 #[.slice a n c] w fun e w' => e = .returned (.int .i64 (sizeC L0 : Nat)) ∧ Below w.heap.size w w' := by
 have HN := Lib.hid hL.1
 have HL := Lib.hid hL.2
 have HOk := Lib.hid hOk
 clear hL hOk
 obtain ⟨g, o, hg⟩ : ∃ g o, 0 < n → a = some ⟨g, o, none⟩ ∧ g < w.heap.size ∧ ∀ (j : Nat) e, L0[j]? = some e → ∀ (i : Nat) u, (oneI e)[i]? = some u → w.cell? ⟨g, o + j * 3 + i, none⟩ = some u := by
  rcases Nat.eq_zero_or_pos n with h | h
  ·exact ⟨0, 0, fun h2 => by omega⟩
  ·obtain ⟨g, o, x⟩ := HL.out h
   exact ⟨g, o, fun _ => x⟩
 have HG := Lib.hid hg
 clear hg
 rcases Nat.eq_zero_or_pos n with h0 | h0
 ·subst h0
  have hLn : L0 = [] := List.eq_nil_of_length_eq_zero HN.out.symm
  subst hLn
  go_enter Tryz.func33, Tryz.ntmps33
  go_wp2_with fail
  go_loop [3, 8] (fun v3 v8 => v3 = .int .i64 0 ∧ v8 = .int .i64 0) (fun _ _ => 0)
  case atStart => exact ⟨rfl, rfl⟩
  case round =>
   obtain ⟨rfl, rfl⟩ := hrel
   go_wp2_with fail
   go_ret
   exact ⟨rfl, Below.refl _ _⟩
 obtain ⟨rfl, hgl, hc⟩ := HG.out h0
 have HC := Lib.hid hc
 clear hc HG HL
 go_enter Tryz.func33, Tryz.ntmps33
 go_wp2_with fail
 go_loopw [3, 8] (fun v3 v8 wr => ∃ k : Nat, v8 = .int .i64 (k : Int) ∧ k ≤ n ∧ Hid (Below w.heap.size w wr) ∧ v3 = .int .i64 ((sizeC (L0.take k) : Nat) : Int)) (fun _ v8 _ => n - (intOf v8).toNat)
 case atStart => exact ⟨0, rfl, Nat.zero_le _, Below.refl _ _, rfl⟩
 case round =>
  obtain ⟨k, rfl, hk, HBr, rfl⟩ := hrel
  by_cases hlt : k < n
  ·have hltI : (k : Int) < (n : Int) := by omega
   obtain ⟨x, hx⟩ : ∃ x, L0[k]? = some x := ⟨_, List.getElem?_eq_getElem (by rw [← HN.out]; exact hlt)⟩
   have x0 := (HBr.out.cell (p := ⟨g, o + k * 3 + 0, none⟩) hgl).trans (HC.out k x hx 0 _ rfl)
   have x1 := (HBr.out.cell (p := ⟨g, o + k * 3 + 1, none⟩) hgl).trans (HC.out k x hx 1 _ rfl)
   have x2 := (HBr.out.cell (p := ⟨g, o + k * 3 + 2, none⟩) hgl).trans (HC.out k x hx 2 _ rfl)
   simp only [Nat.add_zero] at x0
   have hsum : sizeC (L0.take (k + 1)) = sizeC (L0.take k) + x.2.2.size := by
    unfold sizeC
    rw [List.take_add_one, hx]
    simp
   have hle : sizeC (L0.take (k + 1)) ≤ sizeC L0 := by
    have e : L0 = L0.take (k + 1) ++ L0.drop (k + 1) := (List.take_append_drop _ _).symm
    have h2 : sizeC L0 = sizeC (L0.take (k + 1)) + sizeC (L0.drop (k + 1)) := by
     conv => lhs; rw [e]
     exact sizeC_app _ _
    omega
   have hb := HOk.out
   obtain ⟨S, hS⟩ : ∃ S, S = sizeC (L0.take k) := ⟨_, rfl⟩
   obtain ⟨S2, hS2⟩ : ∃ S2, S2 = sizeC (L0.take (k + 1)) := ⟨_, rfl⟩
   rw [← hS, ← hS2] at hsum
   rw [← hS2] at hle
   rw [← hS]
   have HS2 := Lib.hid hS2
   clear hx hS hS2
   obtain ⟨xd, xb, xs⟩ := x
   dsimp only at x0 x1 x2 hsum
   obtain ⟨z, hz⟩ : ∃ z, z = xs.size := ⟨_, rfl⟩
   have hz1 : xs.size = z := hz.symm
   rw [hz1] at hsum
   have hadd : IntKind.i64.wrap ((S : Int) + (z : Int)) = (S2 : Int) := by rw [IntKind.wrap_i64]; omega
   clear hz hsum hle hb
   go_wp2_with fail
   go_roundw
   case rel => exact ⟨k + 1, by go_num, by omega, HBr.out.alloc HBr.out.size _, by rw [← HS2.out]⟩
   case measure => simp only [intOf]; omega
  ·obtain rfl : k = n := by omega
   have hltI : (k : Int) ≤ (k : Int) := Int.le_refl _
   have e : L0.take k = L0 := by rw [HN.out, List.take_length]
   rw [e]
   go_wp2_with fail
   go_ret
   exact ⟨rfl, HBr.out⟩
end Go.Proofs.YtfdnhkjeoeffoaaGreatDoor
end

section

namespace Go.Proofs.YtfdnhkjeoeffoaaGreatDoor
open Go.RowKit
set_option linter.unusedVariables false
/-- what a part of a format says -/
def stepV (f : ByteArray) (k : Nat) : Option ((Bool × Bool × Bool × Bool × Bool) × Int × Int × Nat × Bool × Bool) :=
 if okP f k = true then some ((hasF 45 f (k + 1) (flagN f (k + 1)), hasF 43 f (k + 1) (flagN f (k + 1)), hasF 32 f (k + 1) (flagN f (k + 1)), hasF 35 f (k + 1) (flagN f (k + 1)), hasF 48 f (k + 1) (flagN f (k + 1))), (fw f k).1, (fp f k).1, ch f (pv f k), (fw f k).2.1, (fp f k).2.1) else none
theorem stepF_V {sf : CellT → ByteArray} {by_ : Bool} {f : ByteArray} {k : Nat} {m p bl al z : Bool} {wd pr : Int} {vb : Nat} {sw sp : Bool} (h : stepV f k = some ((m, p, bl, al, z), wd, pr, vb, sw, sp)) (L : List CellT) : stepF sf by_ f k L = partF sf by_ m p bl al z wd pr vb sw sp L := by
 unfold stepV at h
 unfold stepF
 by_cases hk : okP f k = true
 ·rw [if_pos hk] at h ⊢
  injection h with h
  injection h with h1 h
  injection h with h2 h
  injection h with h3 h
  injection h with h4 h
  injection h with h5 h6
  injection h1 with g1 h1
  injection h1 with g2 h1
  injection h1 with g3 h1
  injection h1 with g4 g5
  rw [g1, g2, g3, g4, g5, h2, h3, h4, h5, h6]
 ·rw [if_neg hk] at h; cases h
theorem partF_one {sf : CellT → ByteArray} {by_ m p bl al z : Bool} {wd pr : Int} {vb : Nat} {sw sp : Bool} {L L' : List CellT} {m' : Bool} {wd' pr' : Int} {c : CellT} {S : ByteArray} (h1 : starsF sw sp m wd pr L = some (m', wd', pr', c :: L')) (h2 : okS wd' pr' vb = true) (h3 : vb ≠ 37)
 (h4 : partO sf by_ m' p bl al z wd' pr' vb c = (S, 0)) : partF sf by_ m p bl al z wd pr vb sw sp L = some (S.data.toList, L') := by
 unfold partF
 rw [h1]
 simp only []
 rw [if_neg (by rw [h2]; decide), if_neg h3, h4]
 rfl
def exF : ByteArray := ⟨#[37, 45, 42, 115, 124, 37, 46, 50, 102, 37, 37, 37, 99, 37, 99]⟩
theorem ex_step {k r k' : Nat} {out t o : List UInt8} {L L' : List CellT} (hr : runN exF k = r) (h : k < 15) (h2 : k + r < 15) (hs : stepF sfC false exF (k + r) L = some (o, L')) (hn : pv exF (k + r) + 1 = k') (ht : (exF.data.toList.drop k).take r = t) (hl : (out ++ (t ++ o)).length ≤ 1024) :
 sprS sfC false exF k out L = sprS sfC false exF k' (out ++ (t ++ o)) L' := by
 subst hr
 rw [sprS_part (by exact h) (by exact h2), hs]
 simp only []
 rw [ht, if_neg (by omega), hn]
theorem ex_star : starI (numT (1, 4616189618054758400, ⟨#[]⟩)) = 4 := by kernel_rfl
theorem ex_pref : prefB [49, 46, 48, 48, 53, 120] = 4607204936798154260 := by kernel_rfl
theorem ex_canon : Canon [49, 48, 48] (scaledN 4607204936798154260 2) := by
 rw [show scaledN 4607204936798154260 2 = 100 from by kernel_rfl]
 exact canon_mk (by decide) (by decide) (by decide) (by decide)
theorem ex_num : numO false false false false false 0 2 102 4607204936798154260 = ⟨#[49, 46, 48, 48]⟩ := by
 have hd : dl (scaledN 4607204936798154260 2) = [49, 48, 48] := dl_eq ex_canon
 have hf : fixT 4607204936798154260 2 = [49, 46, 48, 48] := by
  unfold fixT
  rw [show (((2 : Nat) : Int)) = 2 from rfl, hd]
  kernel_rfl
 have hb : bodyF false 102 (precF 2) 4607204936798154260 = ⟨#[49, 46, 48, 48]⟩ := by
  show bodyF false 102 2 4607204936798154260 = _
  unfold bodyF
  rw [if_pos (.inl rfl), if_neg (by decide), hf]
 unfold numO
 rw [if_pos ⟨by decide, by decide⟩, if_neg (by decide), if_pos (by decide)]
 unfold floatO padO
 rw [if_neg (by decide), hb]
 show (⟨(padL false false 0 (signL false false (decide (9223372036854775808 ≤ 4607204936798154260))) [49, 46, 48, 48]).toArray⟩ : ByteArray) = ⟨#[49, 46, 48, 48]⟩
 kernel_rfl
theorem sfC_text (s : ByteArray) : sfC (2, 0, s) = s := rfl
theorem ex_t1 : textS true 4 (-1) 115 ⟨#[97, 98]⟩ false = ⟨#[97, 98, 32, 32]⟩ := by kernel_rfl
theorem ex_c1 : codF (1, 4642401975260938240, ⟨#[]⟩) false = ⟨#[195, 169]⟩ := by kernel_rfl
theorem ex_c2 : codF (2, 0, ⟨#[120, 121]⟩) false = ⟨#[120]⟩ := by kernel_rfl
theorem ex_t2 : textS false 0 (-1) 99 ⟨#[195, 169]⟩ false = ⟨#[195, 169]⟩ := by kernel_rfl
theorem ex_t3 : textS false 0 (-1) 99 ⟨#[120]⟩ false = ⟨#[120]⟩ := by kernel_rfl
theorem ex_spr : sprS sfC false exF 0 [] [(1, 4616189618054758400, ⟨#[]⟩), (2, 0, ⟨#[97, 98]⟩), (2, 0, ⟨#[49, 46, 48, 48, 53, 120]⟩), (1, 4642401975260938240, ⟨#[]⟩), (2, 0, ⟨#[120, 121]⟩)] = ([97, 98, 32, 32, 124, 49, 46, 48, 48, 37, 195, 169, 120], 0) := by
 have s1 : stepF sfC false exF (0 + 0) [(1, 4616189618054758400, ⟨#[]⟩), (2, 0, ⟨#[97, 98]⟩), (2, 0, ⟨#[49, 46, 48, 48, 53, 120]⟩), (1, 4642401975260938240, ⟨#[]⟩), (2, 0, ⟨#[120, 121]⟩)] = some ([97, 98, 32, 32], [(2, 0, ⟨#[49, 46, 48, 48, 53, 120]⟩), (1, 4642401975260938240, ⟨#[]⟩), (2, 0, ⟨#[120, 121]⟩)]) := by
  rw [stepF_V (m := true) (p := false) (bl := false) (al := false) (z := false) (wd := 0) (pr := -1) (vb := 115) (sw := true) (sp := false) (by kernel_rfl)]
  refine partF_one (m' := true) (wd' := 4) (pr' := -1) (c := (2, 0, ⟨#[97, 98]⟩)) (S := ⟨#[97, 98, 32, 32]⟩) ?_ (by decide) (by decide) ?_
  ·show some (true || decide (starI (numT (1, 4616189618054758400, ⟨#[]⟩)) < 0), max (starI (numT (1, 4616189618054758400, ⟨#[]⟩))) (-(starI (numT (1, 4616189618054758400, ⟨#[]⟩)))), -1, _) = _
   rw [ex_star]
   rfl
  ·unfold partO
   rw [if_neg (by decide), if_pos rfl, sfC_text, ex_t1]
   rfl
 have s2 : stepF sfC false exF (4 + 1) [(2, 0, ⟨#[49, 46, 48, 48, 53, 120]⟩), (1, 4642401975260938240, ⟨#[]⟩), (2, 0, ⟨#[120, 121]⟩)] = some ([49, 46, 48, 48], [(1, 4642401975260938240, ⟨#[]⟩), (2, 0, ⟨#[120, 121]⟩)]) := by
  rw [stepF_V (m := false) (p := false) (bl := false) (al := false) (z := false) (wd := 0) (pr := 2) (vb := 102) (sw := false) (sp := false) (by kernel_rfl)]
  refine partF_one (m' := false) (wd' := 0) (pr' := 2) (c := (2, 0, ⟨#[49, 46, 48, 48, 53, 120]⟩)) (S := ⟨#[49, 46, 48, 48]⟩) rfl (by decide) (by decide) ?_
  unfold partO
  rw [if_neg (by decide), if_neg (by decide)]
  have h1 : numT (2, 0, ⟨#[49, 46, 48, 48, 53, 120]⟩) = 4607204936798154260 := by
   unfold numT numC
   rw [if_neg (by decide), if_pos rfl]
   exact ex_pref
  rw [h1, ex_num]
  rfl
 have s3 : stepF sfC false exF (9 + 0) [(1, 4642401975260938240, ⟨#[]⟩), (2, 0, ⟨#[120, 121]⟩)] = some ([37], [(1, 4642401975260938240, ⟨#[]⟩), (2, 0, ⟨#[120, 121]⟩)]) := by
  rw [stepF_V (m := false) (p := false) (bl := false) (al := false) (z := false) (wd := 0) (pr := -1) (vb := 37) (sw := false) (sp := false) (by kernel_rfl)]
  rfl
 have s4 : stepF sfC false exF (11 + 0) [(1, 4642401975260938240, ⟨#[]⟩), (2, 0, ⟨#[120, 121]⟩)] = some ([195, 169], [(2, 0, ⟨#[120, 121]⟩)]) := by
  rw [stepF_V (m := false) (p := false) (bl := false) (al := false) (z := false) (wd := 0) (pr := -1) (vb := 99) (sw := false) (sp := false) (by kernel_rfl)]
  refine partF_one (m' := false) (wd' := 0) (pr' := -1) (c := (1, 4642401975260938240, ⟨#[]⟩)) (S := ⟨#[195, 169]⟩) rfl (by decide) (by decide) ?_
  unfold partO
  rw [if_pos rfl, ex_c1, ex_t2]
  rfl
 have s5 : stepF sfC false exF (13 + 0) [(2, 0, ⟨#[120, 121]⟩)] = some ([120], []) := by
  rw [stepF_V (m := false) (p := false) (bl := false) (al := false) (z := false) (wd := 0) (pr := -1) (vb := 99) (sw := false) (sp := false) (by kernel_rfl)]
  refine partF_one (m' := false) (wd' := 0) (pr' := -1) (c := (2, 0, ⟨#[120, 121]⟩)) (S := ⟨#[120]⟩) rfl (by decide) (by decide) ?_
  unfold partO
  rw [if_pos rfl, ex_c2, ex_t3]
  rfl
 rw [ex_step (k := 0) (r := 0) (k' := 4) (t := []) (by kernel_rfl) (by decide) (by decide) s1 (by kernel_rfl) rfl (by decide)]
 rw [ex_step (k := 4) (r := 1) (k' := 9) (t := [124]) (by kernel_rfl) (by decide) (by decide) s2 (by kernel_rfl) rfl (by decide)]
 rw [ex_step (k := 9) (r := 0) (k' := 11) (t := []) (by kernel_rfl) (by decide) (by decide) s3 (by kernel_rfl) rfl (by decide)]
 rw [ex_step (k := 11) (r := 0) (k' := 13) (t := []) (by kernel_rfl) (by decide) (by decide) s4 (by kernel_rfl) rfl (by decide)]
 rw [ex_step (k := 13) (r := 0) (k' := 15) (t := []) (by kernel_rfl) (by decide) (by decide) s5 (by kernel_rfl) rfl (by decide)]
 rw [sprS_end (by decide)]
 rfl
/-- Number at the verb f -/
theorem numF : NumOk (fun vb => vb = 102) := fun m p bl al z wd pr vb b w hv hvb hb hT => by
 subst hv
 unfold numO numE
 have hn : isNum 102 = true := by decide
 cases h : okS wd pr 102
 ·rw [if_neg (show ¬ (false = true ∧ isNum 102 = true) from fun h => by cases h.1), if_neg (show ¬ (false = true ∧ isNum 102 = true) from fun h => by cases h.1)]
  exact Number_bad m p bl al z wd pr 102 b w hvb h
 rw [if_pos (show true = true ∧ isNum 102 = true from ⟨rfl, hn⟩), if_pos (show true = true ∧ isNum 102 = true from ⟨rfl, hn⟩)]
 cases hf : fin b
 ·rw [if_pos (show false = false from rfl)]
  exact Number_odd m p bl al z wd pr 102 b w hvb hb h hn hf
 rw [if_neg (by decide)]
 obtain ⟨o1, o2, o3, o4⟩ := okS_facts h
 rw [if_pos (by decide)]
 exact Number_102 m p bl al z wd pr b w hb hf o3 o4 o1 o2 hT
theorem ex_verbs {k : Nat} (hok : okP exF k = true) (hn : isNum (ch exF (pv exF k)) = true) : ch exF (pv exF k) = 102 := by
 have h1 : pv exF k < 15 := pv_in hok
 have hall : ((List.range 15).all fun i => !isNum (ch exF i) || (ch exF i == 102)) = true := by kernel_rfl
 have h2 := List.all_eq_true.1 hall _ (List.mem_range.2 h1)
 rw [hn] at h2
 simpa using h2
def exL : List CellT := [(1, 4616189618054758400, ⟨#[]⟩), (2, 0, ⟨#[97, 98]⟩), (2, 0, ⟨#[49, 46, 48, 48, 53, 120]⟩), (1, 4642401975260938240, ⟨#[]⟩), (2, 0, ⟨#[120, 121]⟩)]
theorem ex_calls (w W5 : World) (hT : Tabs5 w) (h5 : Below w.heap.size w W5) :
 Calls Tryz.prog 35 #[.string exF, .slice (some ⟨W5.heap.size, 0, none⟩) 5 5, .agg #[.string ⟨#[37, 46, 54, 103]⟩, .bool false]] (W5.alloc (.cells #[.int .i64 1, .float .f64 4616189618054758400, .string ⟨#[]⟩, .int .i64 2, .float .f64 0, .string ⟨#[97, 98]⟩, .int .i64 2, .float .f64 0, .string ⟨#[49, 46, 48, 48, 53, 120]⟩, .int .i64 1, .float .f64 4642401975260938240, .string ⟨#[]⟩, .int .i64 2, .float .f64 0, .string ⟨#[120, 121]⟩] 48))
  fun e w' => e = .returned (.tuple #[.string ⟨#[97, 98, 32, 32, 124, 49, 46, 48, 48, 37, 195, 169, 120]⟩, .int .i64 0]) ∧ Below w.heap.size w w' := by
 have hrow := h5.alloc h5.size (.cells #[.int .i64 1, .float .f64 4616189618054758400, .string ⟨#[]⟩, .int .i64 2, .float .f64 0, .string ⟨#[97, 98]⟩, .int .i64 2, .float .f64 0, .string ⟨#[49, 46, 48, 48, 53, 120]⟩, .int .i64 1, .float .f64 4642401975260938240, .string ⟨#[]⟩, .int .i64 2, .float .f64 0, .string ⟨#[120, 121]⟩] 48)
 have hat := heap_alloc_at W5 (.cells #[.int .i64 1, .float .f64 4616189618054758400, .string ⟨#[]⟩, .int .i64 2, .float .f64 0, .string ⟨#[97, 98]⟩, .int .i64 2, .float .f64 0, .string ⟨#[49, 46, 48, 48, 53, 120]⟩, .int .i64 1, .float .f64 4642401975260938240, .string ⟨#[]⟩, .int .i64 2, .float .f64 0, .string ⟨#[120, 121]⟩] 48)
 generalize W5.alloc (.cells #[.int .i64 1, .float .f64 4616189618054758400, .string ⟨#[]⟩, .int .i64 2, .float .f64 0, .string ⟨#[97, 98]⟩, .int .i64 2, .float .f64 0, .string ⟨#[49, 46, 48, 48, 53, 120]⟩, .int .i64 1, .float .f64 4642401975260938240, .string ⟨#[]⟩, .int .i64 2, .float .f64 0, .string ⟨#[120, 121]⟩] 48) = W0 at *
 generalize W5.heap.size = g at *
 have hA : CellsAt W0 W0.heap.size (.slice (some ⟨g, 0, none⟩) 5 5) exL := by
  refine ⟨some ⟨g, 0, none⟩, 5, rfl, Nat.le_refl _, by decide, fun i hi => ⟨g, 0, rfl, lt_of_heap hat, ?_⟩⟩
  have hi5 : i < 5 := hi
  match i, hi5 with
  | 0, _ => exact ⟨Lib.cell_of_heap hat _, Lib.cell_of_heap hat _, Lib.cell_of_heap hat _⟩
  | 1, _ => exact ⟨Lib.cell_of_heap hat _, Lib.cell_of_heap hat _, Lib.cell_of_heap hat _⟩
  | 2, _ => exact ⟨Lib.cell_of_heap hat _, Lib.cell_of_heap hat _, Lib.cell_of_heap hat _⟩
  | 3, _ => exact ⟨Lib.cell_of_heap hat _, Lib.cell_of_heap hat _, Lib.cell_of_heap hat _⟩
  | 4, _ => exact ⟨Lib.cell_of_heap hat _, Lib.cell_of_heap hat _, Lib.cell_of_heap hat _⟩
 have hT0 : Tabs5 W0 := ⟨hT.err.below hrow, hT.pow.below hrow, hT.utf.below hrow⟩
 have hS := sprintf_any numF (fun _ => True) exF ⟨#[37, 46, 54, 103]⟩ false _ exL sfC W0 trivial (fun k _ _ hok => ⟨fun hn => ex_verbs hok hn, trivial⟩) hT0 (M := 100000) (by decide) (by decide) (by decide) (by decide) hA (fun c hc => by
  unfold exL at hc
  simp only [List.mem_cons, List.not_mem_nil, or_false] at hc
  rcases hc with rfl | rfl | rfl | rfl | rfl <;> exact cfit6 (by decide) hT0 (by decide) (by decide)) (cfit6 (by decide) hT0 (by decide) (by decide))
 have he := ex_spr
 unfold sprS at he
 rw [show exL = [(1, 4616189618054758400, ⟨#[]⟩), (2, 0, ⟨#[97, 98]⟩), (2, 0, ⟨#[49, 46, 48, 48, 53, 120]⟩), (1, 4642401975260938240, ⟨#[]⟩), (2, 0, ⟨#[120, 121]⟩)] from rfl, he] at hS
 exact hS.mono fun e w' hh => ⟨hh.1, hrow.trans (hh.2.mono hrow.size)⟩
set_option maxHeartbeats 8000000 in
set_option maxRecDepth 100000 in
theorem fixed11_any (w : World) (hT : Tabs5 w) : Calls Tryz.prog 32 #[] w fun e w' => e = .returned (.bool true) ∧ Below w.heap.size w w' := by
 have HE := Lib.hid (fun W h => ex_calls w W hT h)
 unfold exF at HE
 clear hT
 go_enter Tryz.func32, Tryz.ntmps32
 go_wp2_with fail
 refine (of11 _ _).mono ?_
 rintro e w1 ⟨rfl, hb1⟩
 have HB1 := Lib.hid hb1
 clear hb1
 go_wp2_with fail
 refine (text11 _ _).mono ?_
 rintro e w2 ⟨rfl, hb2⟩
 have HB2 := Lib.hid (HB1.out.trans (hb2.mono HB1.out.size))
 clear hb2
 go_wp2_with fail
 refine (text11 _ _).mono ?_
 rintro e w3 ⟨rfl, hb3⟩
 have HB3 := Lib.hid (HB2.out.trans (hb3.mono HB2.out.size))
 clear hb3
 go_wp2_with fail
 refine (of11 _ _).mono ?_
 rintro e w4 ⟨rfl, hb4⟩
 have HB4 := Lib.hid (HB3.out.trans (hb4.mono HB3.out.size))
 clear hb4
 go_wp2_with fail
 refine (text11 _ _).mono ?_
 rintro e w5 ⟨rfl, hb5⟩
 have HB5 := Lib.hid (HB4.out.trans (hb5.mono HB4.out.size))
 clear hb5
 go_wp2_with fail
 refine (HE.out _ HB5.out).mono ?_
 rintro e w6 ⟨rfl, hb⟩
 have HB := Lib.hid hb
 clear hb
 go_wp2_with fail
 go_ret
 exact ⟨rfl, HB.out⟩
end Go.Proofs.YtfdnhkjeoeffoaaGreatDoor
end
