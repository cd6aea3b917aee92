/- Package lex: escape. -/
import Derived.Test.YtkaelmbgfcehhaaDoorY6
set_option linter.unusedVariables false
set_option linter.unusedSimpArgs false
namespace Go.Proofs.YtkaelmbgfcehhaaDoor
open Go.RowKit
set_option linter.unusedVariables false
set_option linter.unusedSimpArgs false

/-- of what lay below M nothing has changed but block b -/
structure Mv (M b : Nat) (w w' : World) : Prop where
  os : w'.os = w.os
  tape : w'.tape = w.tape
  output : w'.output = w.output
  size : w.heap.size ≤ w'.heap.size
  block : ∀ k, k < M → k ≠ b → w'.heap[k]? = w.heap[k]?
section
variable {M b : Nat} {u w w' : World}
theorem Mv.refl (M b : Nat) (w : World) : Mv M b w w := ⟨rfl, rfl, rfl, Nat.le_refl _, fun _ _ _ => rfl⟩
theorem Mv.trans (h : Mv M b u w) (k : Mv M b w w') : Mv M b u w' := ⟨k.os.trans h.os, k.tape.trans h.tape, k.output.trans h.output, Nat.le_trans h.size k.size, fun i h1 h2 => (k.block i h1 h2).trans (h.block i h1 h2)⟩
theorem Mv.of_apart (h : Apart [b] w w') (hM : M ≤ w.heap.size) : Mv M b w w' := ⟨h.os, h.tape, h.output, h.size, fun k h1 h2 => h.block k (by omega) (by simpa using h2)⟩
theorem Mv.of_below (h : Below M w w') : Mv M b w w' := ⟨h.os, h.tape, h.output, h.size, fun k h1 _ => h.block k h1⟩
theorem Mv.drewN (h : Mv M b u w) (n : Nat) : Mv M b u (w.drewN n) := ⟨h.os, h.tape, h.output, h.size, h.block⟩
theorem Mv.setAt (h : Mv M b u w) (j : Nat) (x : Value) : Mv M b u (w.setCell ⟨b, j, none⟩ x) :=
  h.trans ⟨rfl, rfl, rfl, by simp [World.setCell], fun k _ hn => Below.heap_setCell _ _ _ _ hn⟩
theorem Mv.alloc (h : Mv M b u w) (hM : M ≤ w.heap.size) (o : Obj) : Mv M b u (w.alloc o) := h.trans (.of_below ((Below.refl _ _).alloc hM o))
theorem Mv.grown {r : Option Nat} (h : Mv M b u w) (hM : M ≤ w.heap.size) (hg : w.grownBy w' r) (hr : ∀ g, r = some g → M ≤ g) : Mv M b u w' := h.trans (.of_below ((Below.refl _ _).grown hg hM hr))
end
theorem OwnB.mv {M b : Nat} {w w' : World} {v : Value} {L : List Nat} (h : OwnB w M v L) (ha : Apart [b] w w') (hb : b < M) : OwnB w' M v L :=
  ⟨h.lt, own_keepK h.own fun g hg => ha.block g (h.own.lt g hg).2 (by have := (h.own.lt g hg).1; simp; omega)⟩
theorem OwnB.belowM {M : Nat} {w w' : World} {v : Value} {L : List Nat} (h : OwnB w M v L) (hb : Below w.heap.size w w') : OwnB w' M v L :=
  ⟨h.lt, own_keepK h.own fun g hg => hb.block g (h.own.lt g hg).2⟩
section
variable {w w' : World} {D b M : Nat} {s : ByteArray} {p l : Nat} {v : Value} {L : List TokT}
theorem Sc.grownO {r : Option Nat} (h : Sc w D b s p l v L) (hg : w.grownBy w' r) (hr : ∀ g, r = some g → M ≤ g) (hb : b < M) (hv : ∀ g, v.ownBlock = some g → g < M) : Sc w' D b s p l v L :=
  h.keep (hg.block b h.lt fun e => by have := hr b e.symm; omega) fun g hg' => hg.block g (h.own.lt g hg').2 fun e => by have := hr g e.symm; have := hv g hg'; omega
end
/-- what escape answers -/
def EscE (D b M : Nat) (s : ByteArray) (p l : Nat) (v : Value) (LT : List TokT) (xs : List Nat) (w : World) (o : List UInt8) (k n : Nat) (e : Ending) (w' : World) : Prop :=
  ∃ out', e = .returned out' ∧ OwnB w' M out' (xs ++ o.map UInt8.toNat) ∧ Sc w' D b s (p + k) (l + n) v LT ∧ Mv M b w w'
theorem EscE.app {D b M p k l n y : Nat} {s : ByteArray} {v out v1 : Value} {LT : List TokT} {xs : List Nat} {w W w3 : World} {ys : List UInt8} {ob : Obj} (hb : b < M) (hv : ∀ g, v.ownBlock = some g → g < M) (hM : M ≤ W.heap.size)
    (HS : Sc W D b s (p + k) (l + n) v LT) (HM : Mv M b w W) (hO : OwnB W M out xs) (hown : OwnB w3 M v1 (xs ++ [y])) (hg : (W.alloc ob).grownBy w3 out.ownBlock) (hy : ys.map UInt8.toNat = [y]) : EscE D b M s p l v LT xs w ys k n (.returned v1) w3 :=
  ⟨v1, rfl, by rw [hy]; exact hown, (HS.alloc ob).grownO hg (fun g e => (hO.own.lt g e).1) hb hv, (HM.alloc hM ob).grown (by simp; omega) hg (fun g e => (hO.own.lt g e).1)⟩
theorem esc_letter : ∀ n : Fin 256, (n.val = 110 ∨ n.val = 116 ∨ n.val = 114 ∨ n.val = 97 ∨ n.val = 98 ∨ n.val = 102 ∨ n.val = 118) ∨ Lib.indexByte [110, 116, 114, 97, 98, 102, 118] (UInt8.ofNat n.val) = -1 := by decide +kernel
theorem esc_let (c : UInt8) (T : List UInt8) : (∃ (i : Nat) (y : UInt8) (hi : i < (⟨#[10, 9, 13, 7, 8, 12, 11]⟩ : ByteArray).size), Lib.indexByte [110, 116, 114, 97, 98, 102, 118] c = (i : Int) ∧ i < 7 ∧ (⟨#[10, 9, 13, 7, 8, 12, 11]⟩ : ByteArray)[i] = y ∧ escR (c :: T) = ([y], 1, 0)) ∨
    (Lib.indexByte [110, 116, 114, 97, 98, 102, 118] c = -1 ∧ c ≠ 110 ∧ c ≠ 116 ∧ c ≠ 114 ∧ c ≠ 97 ∧ c ≠ 98 ∧ c ≠ 102 ∧ c ≠ 118) := by
  by_cases h1 : c = 110
  · subst h1; exact .inl ⟨0, 10, by decide, rfl, by decide, rfl, rfl⟩
  by_cases h2 : c = 116
  · subst h2; exact .inl ⟨1, 9, by decide, rfl, by decide, rfl, rfl⟩
  by_cases h3 : c = 114
  · subst h3; exact .inl ⟨2, 13, by decide, rfl, by decide, rfl, rfl⟩
  by_cases h4 : c = 97
  · subst h4; exact .inl ⟨3, 7, by decide, rfl, by decide, rfl, rfl⟩
  by_cases h5 : c = 98
  · subst h5; exact .inl ⟨4, 8, by decide, rfl, by decide, rfl, rfl⟩
  by_cases h6 : c = 102
  · subst h6; exact .inl ⟨5, 12, by decide, rfl, by decide, rfl, rfl⟩
  by_cases h7 : c = 118
  · subst h7; exact .inl ⟨6, 11, by decide, rfl, by decide, rfl, rfl⟩
  refine .inr ⟨?_, h1, h2, h3, h4, h5, h6, h7⟩
  rcases esc_letter ⟨c.toNat, c.toNat_lt⟩ with h | h
  · exfalso
    have e : ∀ k : UInt8, c.toNat = k.toNat → c = k := fun k h => UInt8.toNat_inj.1 h
    rcases h with h | h | h | h | h | h | h
    · exact h1 (e 110 h)
    · exact h2 (e 116 h)
    · exact h3 (e 114 h)
    · exact h4 (e 97 h)
    · exact h5 (e 98 h)
    · exact h6 (e 102 h)
    · exact h7 (e 118 h)
  · simpa using h
theorem esc_nl (T : List UInt8) : escR (10 :: T) = ([], 1, 1) := by rfl
theorem esc_oct {c : UInt8} {T : List UInt8} (h1 : 48 ≤ c.toNat) (h2 : c.toNat ≤ 55) : escR (c :: T) = ([UInt8.ofNat ((digsR 8 3 (c :: T)).foldl (fun v d => 8 * v + d) 0)], (digsR 8 3 (c :: T)).length, 0) := by
  have h := octs_digs 0 3 (c :: T) 0
  have ne : ∀ k : UInt8, (k.toNat < 48 ∨ 55 < k.toNat) → c ≠ k := fun k hk e => by subst e; omega
  simp only [escR]
  rw [if_neg (ne 110 (by decide)), if_neg (ne 116 (by decide)), if_neg (ne 114 (by decide)), if_neg (ne 97 (by decide)), if_neg (ne 98 (by decide)), if_neg (ne 102 (by decide)), if_neg (ne 118 (by decide)), if_neg (ne 10 (by decide)), if_pos ⟨h1, h2⟩]
  unfold octs
  rw [h.1, h.2]
theorem esc_hex (T : List UInt8) : escR (120 :: T) = if digsR 16 2 T = [] then ([120], 1, 0) else ([UInt8.ofNat ((digsR 16 2 T).foldl (fun v d => 16 * v + d) 0)], 1 + (digsR 16 2 T).length, 0) := by
  have h := hexs_digs 2 T
  show (if hexs T = [] then _ else _) = _
  unfold hexs
  rw [h]
theorem esc_else {c : UInt8} {T : List UInt8} (h1 : c ≠ 110) (h2 : c ≠ 116) (h3 : c ≠ 114) (h4 : c ≠ 97) (h5 : c ≠ 98) (h6 : c ≠ 102) (h7 : c ≠ 118) (h8 : c ≠ 10) (h9 : ¬ (48 ≤ c.toNat ∧ c.toNat ≤ 55)) (h10 : c ≠ 120) : escR (c :: T) = ([c], 1, 0) := by
  simp only [escR]
  rw [if_neg h1, if_neg h2, if_neg h3, if_neg h4, if_neg h5, if_neg h6, if_neg h7, if_neg h8, if_neg h9, if_neg h10]
theorem fold_lt (base : Nat) : ∀ (L : List Nat) (v k : Nat), (∀ d ∈ L, d < base) → v < k → L.foldl (fun v d => base * v + d) v < k * base ^ L.length
  | [], v, k, _, h => by simpa using h
  | d :: L, v, k, hd, h => by
    have h1 : base * v + d < k * base := by
      have h2 := hd d (by simp)
      have h3 : base * (v + 1) ≤ base * k := Nat.mul_le_mul_left _ h
      rw [Nat.mul_add, Nat.mul_comm base k] at h3
      omega
    have h4 := fold_lt base L (base * v + d) (k * base) (fun x hx => hd x (List.mem_cons_of_mem _ hx)) h1
    rw [List.foldl_cons, List.length_cons, Nat.pow_succ, Nat.mul_comm (base ^ L.length) base, ← Nat.mul_assoc]
    exact h4
theorem digs_fold_lt (base n : Nat) (R : List UInt8) (hb : 1 ≤ base) (hb2 : base ≤ 16) (hn : n ≤ 3) : (digsR base n R).foldl (fun v d => base * v + d) 0 < 4096 := by
  have h1 := fold_lt base (digsR base n R) 0 1 (digsR_lt base n R) (by decide)
  have h2 := (digsR_len base n R).1
  have h3 : base ^ (digsR base n R).length ≤ 16 ^ 3 := Nat.le_trans (Nat.pow_le_pow_left hb2 _) (Nat.pow_le_pow_right (by decide) (by omega))
  omega
set_option maxRecDepth 100000 in
set_option maxHeartbeats 32000000 in
theorem escape_any (D b M : Nat) (s : ByteArray) (p l : Nat) (v out : Value) (LT : List TokT) (xs : List Nat) (w : World) (h : Sc w D b s p l v LT) (hp : p < s.size) (hs : s.size ≤ 100000) (hl : l ≤ 1000000) (hM : M ≤ w.heap.size) (hb : b < M)
    (hv : ∀ g, v.ownBlock = some g → g < M) (hO : OwnB w M out xs) (hxs : xs.length ≤ 1000000) :
    Calls Tryd.prog 32 #[.pointer (some ⟨b, 0, none⟩), out] w (EscE D b M s p l v LT xs w (escR (s.data.toList.drop p)).1 (escR (s.data.toList.drop p)).2.1 (escR (s.data.toList.drop p)).2.2) := by
  have hd := drop_byte hp
  have HD := Lib.hid hd
  have HIx := Lib.hid (fun c W => Tryd.strings_IndexByte ⟨#[110, 116, 114, 97, 98, 102, 118]⟩ c W)
  have c0 := h.c0
  have c1 := h.c1
  have HS := Lib.hid h
  have HV := Lib.hid hv
  have HO := Lib.hid hO
  have hpI : (p : Int) < (s.size : Int) := by omega
  have hpB : (p : Int) ≤ 100000 := by omega
  obtain ⟨q, hq⟩ : ∃ q, q = p + 1 := ⟨_, rfl⟩
  have HQ := Lib.hid hq
  have eq1 : (p : Int) + 1 = (q : Int) := by omega
  have eqw := wrapN q (by omega)
  have hqs : q ≤ s.size := by omega
  have hxl : xs.length ≤ 1000000000 := by omega
  rw [hd]
  generalize hC : s[p] = c at *
  have HC : Hid (∀ W, Calls Tryd.prog 16 #[.string ⟨#[110, 116, 114, 97, 98, 102, 118]⟩, .int .u8 (c.toNat : Int)] W fun e w' => e = .returned (.int .i64 (Lib.indexByte [110, 116, 114, 97, 98, 102, 118] c)) ∧ w' = W) := fun W => by
    have h1 := HIx.out (c.toNat : Int) W
    have e : ((c.toNat : Int)).toNat.toUInt8 = c := by simp
    rw [e] at h1
    exact h1
  have hcl := esc_let c (s.data.toList.drop (p + 1))
  generalize hR : s.data.toList.drop (p + 1) = T at *
  obtain ⟨ro, rk, rn, hE⟩ : ∃ ro rk rn, escR (c :: T) = (ro, rk, rn) := ⟨_, _, _, rfl⟩
  rw [hE]
  have HE := Lib.hid hE
  clear hE
  clear h hv hO hq hd HIx
  go_enter Tryd.func32, Tryd.ntmps32
  go_wp2_with fail
  go_quiet (fail)
  obtain ⟨ws, hws⟩ : ∃ ws, ws = w.drewN nq := ⟨_, rfl⟩
  have HS1 : Hid (Sc ws D b s p l v LT) := by rw [hws]; exact HS.out.drewN _
  have HM1 : Hid (Mv M b w ws) := by rw [hws]; exact (Mv.refl _ _ _).drewN _
  have HO1 : Hid (OwnB ws M out xs) := by rw [hws]; exact HO.out.belowM ((Below.refl _ _).drewN _)
  have hM1 : M ≤ ws.heap.size := by rw [hws]; exact hM
  clear c0 c1
  rw [← hws]
  clear hws HS HO
  have c0 := HS1.out.c0
  have c1 := HS1.out.c1
  have f1 := HS1.out.f 1
  have HSq := Lib.hid (HS1.out.setAt q)
  have HMq := Lib.hid (HM1.out.setAt 1 (.int .i64 (q : Int)))
  have HOq := Lib.hid (HO1.out.mv ((Apart.refl [b] ws).sc (q := 1) (.int .i64 (q : Int))) hb)
  rcases hcl with ⟨i, y, hi, e1, e2, e3, e4⟩ | ⟨e1, n1, n2, n3, n4, n5, n6, n7⟩
  · have hE := HE.out
    rw [e4] at hE
    cases hE
    have hiI : (i : Int) < 7 := by omega
    have hi0 : (0 : Int) ≤ (i : Int) := by omega
    have HI := Lib.hid e2
    rw [e1] at HC
    clear e1 e4 e2
    go_wp2_with fail
    refine (HC.out _).mono ?_
    rintro e w1 ⟨rfl, rfl⟩
    clear HC
    go_wp2_with (
      at_builtin
      go_loud (refine wpList_appB _ rfl _ _ rfl M _ xs rfl (OwnB.alloc HOq.out _) w1.heap.size (y.toNat) rfl (by simp [go_sem]) (y.toNat_lt) (by simp; omega) hxl ?_)
      intro v1 w3 hown1 hgr1
      have HOw := Lib.hid hown1
      have HG := Lib.hid hgr1
      clear hown1 hgr1)
    go_wp2_with fail
    go_ret
    have HSz : Hid (Sc (w1.setCell ⟨b, 1, none⟩ (.int .i64 (q : Int))) D b s (p + 1) (l + 0) v LT) := HQ.out ▸ HSq.out
    exact EscE.app hb HV.out (by simpa using hM1) HSz.out HMq.out HOq.out HOw.out HG.out rfl
  · rw [e1] at HC
    clear e1
    by_cases hnl : c = 10
    · subst hnl
      have hE := HE.out
      rw [esc_nl] at hE
      cases hE
      have c2 := HS1.out.c2
      have f2 := HS1.out.f 2
      obtain ⟨l1, hl1⟩ : ∃ l1, l1 = l + 1 := ⟨_, rfl⟩
      have el : (l : Int) + 1 = (l1 : Int) := by omega
      have elw := wrapN l1 (by omega)
      have HSl := Lib.hid ((HS1.out.setLine l1).setAt q)
      have HMl := Lib.hid ((HM1.out.setAt 2 (.int .i64 (l1 : Int))).setAt 1 (.int .i64 (q : Int)))
      have HOl := Lib.hid ((HO1.out.mv ((Apart.refl [b] ws).sc (q := 2) (.int .i64 (l1 : Int))) hb).mv ((Apart.refl [b] _).sc (q := 1) (.int .i64 (q : Int))) hb)
      have HL := Lib.hid hl1
      clear hl1
      go_wp2_with fail
      refine (HC.out _).mono ?_
      rintro e w1 ⟨rfl, rfl⟩
      clear HC
      go_wp2_with fail
      go_ret
      refine ⟨_, rfl, ?_, HQ.out ▸ HL.out ▸ HSl.out, HMl.out⟩
      rw [List.map_nil, List.append_nil]
      exact HOl.out
    have hcn : c.toNat ≠ 10 := fun e => hnl (UInt8.toNat_inj.1 e)
    have hcd : decide ((c.toNat : Int) = 10) = false := decide_eq_false (by omega)
    have hcb : ((c.toNat : Int) == 10) = false := beq_eq_false_iff_ne.2 (by omega)
    by_cases h8 : 48 ≤ c.toNat ∧ c.toNat ≤ 55
    · obtain ⟨h81, h82⟩ := h8
      have hE := HE.out
      rw [esc_oct h81 h82, ← HD.out] at hE
      cases hE
      have h8a : (48 : Int) ≤ (c.toNat : Int) := by omega
      have h8b : (c.toNat : Int) ≤ 55 := by omega
      have hdl := (digsR_len 8 3 (s.data.toList.drop p)).2
      rw [List.length_drop, ← size_list] at hdl
      have HDg := Lib.hid (fun W hW => lexDigits_any D b s p l v LT 3 8 W hW (by omega) hs (by decide) (by decide) (by decide))
      have hVB := digs_fold_lt 8 3 (s.data.toList.drop p) (by decide) (by decide) (by decide)
      generalize (digsR 8 3 (s.data.toList.drop p)).foldl (fun v d => 8 * v + d) 0 = V at *
      generalize (digsR 8 3 (s.data.toList.drop p)).length = N at *
      have hcv : IntKind.u8.wrap (V : Int) = ((V % 256 : Nat) : Int) := by rw [IntKind.wrap_u8']; omega
      have hym : [UInt8.ofNat V].map UInt8.toNat = [V % 256] := by simp [UInt8.toNat_ofNat']
      have hY : V % 256 < 256 := Nat.mod_lt _ (by decide)
      generalize V % 256 = y at *
      have HYM := Lib.hid hym
      clear hym hdl
      go_wp2_with fail
      refine (HC.out _).mono ?_
      rintro e w1 ⟨rfl, rfl⟩
      clear HC
      go_wp2_with fail
      refine (HDg.out _ HS1.out).mono ?_
      rintro e w2 ⟨rfl, hs2, ha2⟩
      have HS2 : Hid (Sc w2 D b s (p + N) (l + 0) v LT) := hs2
      have HM2 := Lib.hid (HM1.out.trans (Mv.of_apart ha2 hM1))
      have HO2 := Lib.hid (HO1.out.mv ha2 hb)
      have hM2 : M ≤ w2.heap.size := Nat.le_trans hM1 ha2.size
      clear hs2 ha2 HDg HSq HMq HOq HS1 HO1
      go_wp2_with (
        at_builtin
        go_loud (refine wpList_appB _ rfl _ _ rfl M _ xs rfl (OwnB.alloc HO2.out _) w2.heap.size (y) rfl (by simp [go_sem]) (hY) (by simp; omega) hxl ?_)
        intro v1 w3 hown1 hgr1
        have HOw := Lib.hid hown1
        have HG := Lib.hid hgr1
        clear hown1 hgr1)
      go_wp2_with fail
      go_ret
      exact EscE.app hb HV.out hM2 HS2.out HM2.out HO2.out HOw.out HG.out HYM.out
    have hoct : ((48 : Int) ≤ (c.toNat : Int) → (c.toNat : Int) ≤ 55 → False) := fun a b => h8 ⟨by omega, by omega⟩
    by_cases hx : c = 120
    · subst hx
      have hE := HE.out
      rw [esc_hex] at hE
      have HDg := Lib.hid (fun W hW => lexDigits_any D b s q l v LT 2 16 W hW hqs hs (by decide) (by decide) (by decide))
      rw [show s.data.toList.drop q = T from by rw [HQ.out, hR]] at HDg
      have hdl := (digsR_len 16 2 T).2
      have hVB := digs_fold_lt 16 2 T (by decide) (by decide) (by decide)
      have hnil : digsR 16 2 T = [] ↔ (digsR 16 2 T).length = 0 := List.length_eq_zero_iff.symm
      have htl : q + T.length ≤ s.size := by rw [← hR, List.length_drop, ← size_list]; omega
      generalize (digsR 16 2 T).foldl (fun v d => 16 * v + d) 0 = V at *
      by_cases hz : digsR 16 2 T = []
      · rw [if_pos hz] at hE
        cases hE
        rw [hz, List.length_nil] at HDg
        clear hnil hdl
        go_wp2_with fail
        refine (HC.out _).mono ?_
        rintro e w1 ⟨rfl, rfl⟩
        clear HC
        go_wp2_with fail
        refine (HDg.out _ HSq.out).mono ?_
        rintro e w2 ⟨rfl, hs2, ha2⟩
        have HS2 : Hid (Sc w2 D b s (p + 1) (l + 0) v LT) := HQ.out ▸ hs2
        have HM2 := Lib.hid (HMq.out.trans (Mv.of_apart ha2 (by simpa using hM1)))
        have HO2 := Lib.hid (HOq.out.mv ha2 hb)
        have hM2 : M ≤ w2.heap.size := Nat.le_trans (by simpa using hM1) ha2.size
        clear hs2 ha2 HDg HSq HMq HOq HS1 HO1
        go_wp2_with (
          at_builtin
          go_loud (refine wpList_appB _ rfl _ _ rfl M _ xs rfl (OwnB.alloc HO2.out _) w2.heap.size (120) rfl (by simp [go_sem]) (by decide) (by simp; omega) hxl ?_)
          intro v1 w3 hown1 hgr1
          have HOw := Lib.hid hown1
          have HG := Lib.hid hgr1
          clear hown1 hgr1)
        go_wp2_with fail
        go_ret
        exact EscE.app hb HV.out hM2 HS2.out HM2.out HO2.out HOw.out HG.out rfl
      · rw [if_neg hz] at hE
        cases hE
        have hN0 : (digsR 16 2 T).length ≠ 0 := fun e => hz (hnil.2 e)
        clear hnil hz
        generalize (digsR 16 2 T).length = N at *
        have hNI : (0 : Int) < (N : Int) := by omega
        have hcv : IntKind.u8.wrap (V : Int) = ((V % 256 : Nat) : Int) := by rw [IntKind.wrap_u8']; omega
        have hym : [UInt8.ofNat V].map UInt8.toNat = [V % 256] := by simp [UInt8.toNat_ofNat']
        have hY : V % 256 < 256 := Nat.mod_lt _ (by decide)
        generalize V % 256 = y at *
        have HYM := Lib.hid hym
        clear hym hdl
        go_wp2_with fail
        refine (HC.out _).mono ?_
        rintro e w1 ⟨rfl, rfl⟩
        clear HC
        go_wp2_with fail
        refine (HDg.out _ HSq.out).mono ?_
        rintro e w2 ⟨rfl, hs2, ha2⟩
        have HS2 : Hid (Sc w2 D b s (p + (1 + N)) (l + 0) v LT) := by have e := HQ.out; rw [show p + (1 + N) = q + N by omega]; exact hs2
        have HM2 := Lib.hid (HMq.out.trans (Mv.of_apart ha2 (by simpa using hM1)))
        have HO2 := Lib.hid (HOq.out.mv ha2 hb)
        have hM2 : M ≤ w2.heap.size := Nat.le_trans (by simpa using hM1) ha2.size
        clear hs2 ha2 HDg HSq HMq HOq HS1 HO1
        go_wp2_with (
          at_builtin
          go_loud (refine wpList_appB _ rfl _ _ rfl M _ xs rfl (OwnB.alloc HO2.out _) w2.heap.size (y) rfl (by simp [go_sem]) (hY) (by simp; omega) hxl ?_)
          intro v1 w3 hown1 hgr1
          have HOw := Lib.hid hown1
          have HG := Lib.hid hgr1
          clear hown1 hgr1)
        go_wp2_with fail
        go_ret
        exact EscE.app hb HV.out hM2 HS2.out HM2.out HO2.out HOw.out HG.out HYM.out
    have hE := HE.out
    rw [esc_else n1 n2 n3 n4 n5 n6 n7 hnl h8 hx] at hE
    cases hE
    have hxn : c.toNat ≠ 120 := fun e => hx (UInt8.toNat_inj.1 e)
    have hxd : ((c.toNat : Int) == 120) = false := beq_eq_false_iff_ne.2 (by omega)
    generalize hcn2 : c.toNat = cn at *
    have hcl : cn < 256 := hcn2 ▸ c.toNat_lt
    have HCN : Hid ([c].map UInt8.toNat = [cn]) := by rw [← hcn2]; rfl
    clear hx hnl n1 n2 n3 n4 n5 n6 n7
    have HSz : Hid (Sc (ws.setCell ⟨b, 1, none⟩ (.int .i64 (q : Int))) D b s (p + 1) (l + 0) v LT) := HQ.out ▸ HSq.out
    by_cases h48 : 48 ≤ cn
    · have g1 : (48 : Int) ≤ (cn : Int) := by omega
      have g2 : decide ((cn : Int) ≤ 55) = false := decide_eq_false fun e => hoct g1 e
      clear hoct
      go_wp2_with fail
      refine (HC.out _).mono ?_
      rintro e w1 ⟨rfl, rfl⟩
      clear HC
      go_wp2_with (
        at_builtin
        go_loud (refine wpList_appB _ rfl _ _ rfl M _ xs rfl (OwnB.alloc HOq.out _) w1.heap.size (cn) rfl (by simp [go_sem]) (hcl) (by simp; omega) hxl ?_)
        intro v1 w3 hown1 hgr1
        have HOw := Lib.hid hown1
        have HG := Lib.hid hgr1
        clear hown1 hgr1)
      go_wp2_with fail
      go_ret
      exact EscE.app hb HV.out (by simpa using hM1) HSz.out HMq.out HOq.out HOw.out HG.out HCN.out
    · have g1 : decide ((48 : Int) ≤ (cn : Int)) = false := decide_eq_false (by omega)
      clear hoct
      go_wp2_with fail
      refine (HC.out _).mono ?_
      rintro e w1 ⟨rfl, rfl⟩
      clear HC
      go_wp2_with (
        at_builtin
        go_loud (refine wpList_appB _ rfl _ _ rfl M _ xs rfl (OwnB.alloc HOq.out _) w1.heap.size (cn) rfl (by simp [go_sem]) (hcl) (by simp; omega) hxl ?_)
        intro v1 w3 hown1 hgr1
        have HOw := Lib.hid hown1
        have HG := Lib.hid hgr1
        clear hown1 hgr1)
      go_wp2_with fail
      go_ret
      exact EscE.app hb HV.out (by simpa using hM1) HSz.out HMq.out HOq.out HOw.out HG.out HCN.out
end Go.Proofs.YtkaelmbgfcehhaaDoor
