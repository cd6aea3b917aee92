/- Package assoc: Set, Delete, Clear, Get on an array of values. -/
import Derived.Test.YtflbhifdololfaaGreatDoorA11
import Derived.BigRegion
namespace Go.Proofs.YtflbhifdololfaaGreatDoor
open Go.RowKit
set_option linter.unusedVariables false

set_option maxRecDepth 100000 in
set_option maxHeartbeats 1000000 in
theorem put_old (p m c j : Nat) (clk : Int) (k : ByteArray) (M : List Ent) (e : Ent) (x0 x1 : Int) (x3 : ByteArray) (w : World)
    (hA : ArrAt w p m clk (mes M) c) (hj : ixE M k = some j) (he : M[j]? = some e) :
    Calls Tryz.prog 65 #[.pointer (some ⟨p, 0, none⟩), .string k, .agg #[.int .i64 x0, .int .i64 x1, .float .f64 0, .string x3, .pointer none]] w fun r w' =>
      r = .returned (.tuple #[]) ∧ ArrAt w' p m clk (mes (M.set j ⟨k, e.when, x1, x3, e.born⟩)) c ∧ Apart [p, m] w w' := by
  have hp := hA.ltp
  have hms := hA.ltm
  have h0 := hA.c0
  obtain ⟨e2, h1, h2⟩ := ixE_some hj
  rw [he] at h1; cases h1
  have hf : fnd k (mes M).toList = some (some (j, e.val)) := by rw [fnd_mes, hj]; simp [he]
  have hmod := mes_modify (kind := x1) (str := x3) he h2
  obtain ⟨wn, hwn⟩ : ∃ wn : Int, wn = (e.when : Int) := ⟨_, rfl⟩
  have hv : e.val = .agg #[.int .i64 wn, .int .i64 e.kind, .float .f64 0, .string e.str, .pointer none] := by rw [hwn]; rfl
  rw [← hwn] at hmod
  have Hf := Lib.hid hf
  have Hm := Lib.hid hA
  have HJ := Lib.hid hj
  have HE := Lib.hid he
  have HMod := Lib.hid hmod
  have HV := Lib.hid hv
  obtain ⟨ek, hek⟩ : ∃ ek, ek = e.kind := ⟨_, rfl⟩
  obtain ⟨es, hes⟩ : ∃ es, es = e.str := ⟨_, rfl⟩
  rw [← hek, ← hes] at HV
  clear hf hA hj he hmod hv hwn h2 hek hes
  go_enter Tryz.func65, Tryz.ntmps65
  go_wp2_with (at_lookup; refine wpList_lk _ rfl _ _ rfl m (mes M) c k (some (j, e.val)) (.agg #[.int .i64 wn, .int .i64 ek, .float .f64 0, .string es, .pointer none]) rfl rfl ?c1 Hf.out HV.out ?_)
  case c1 => rw [heap_alloc_lt _ _ _ hms]; exact Hm.out.map
  generalize hW2 : World.alloc (World.alloc _ _) _ = W2
  have e0 : W2.cell? ⟨p, 0, none⟩ = some (.map (some m)) := by
    rw [← hW2, World.cell?_alloc_past _ _ _ (by simp; omega), World.cell?_alloc_past _ _ _ (by omega)]; exact h0
  have a0 : w.heap.size < (w.alloc (.cells #[.int .i64 wn, .int .i64 x1, .float .f64 0, .string x3, .pointer none] 129)).heap.size := by simp
  have e1 : ∀ i, W2.cell? ⟨w.heap.size, i, none⟩ = #[Value.int .i64 wn, .int .i64 x1, .float .f64 0, .string x3, .pointer none][i]? := by
    intro i
    rw [← hW2, World.cell?_alloc_past _ _ _ a0, World.cell?_alloc_at _ _ _ _ (by simp)]
  have e2 : W2.heap[m]? = some (.map (mes M) c) := by
    rw [← hW2, heap_alloc_lt _ _ _ (by simp; omega), heap_alloc_lt _ _ _ hms]; exact Hm.out.map
  have e3 : W2.heap[p]? = some (.cells #[.map (some m), .int .i64 clk] 127 (0, 0)) := by
    rw [← hW2, heap_alloc_lt _ _ _ (by simp; omega), heap_alloc_lt _ _ _ hp]; exact Hm.out.cells
  have e4 : Apart [p, m] w W2 := by
    rw [← hW2]; exact ((Apart.refl _ w).alloc _).alloc _
  have E2 := Lib.hid e2; have E3 := Lib.hid e3; have E4 := Lib.hid e4
  clear hW2 a0 e2 e3 e4 h0
  have e10 := e1 0; have e11 := e1 1; have e12 := e1 2; have e13 := e1 3; have e14 := e1 4
  clear e1
  simp at e10 e11 e12 e13 e14
  go_still_tail 6, (by kernel_rfl)
  change wpList _ _ _ _ _ W2.drew
  go_wp2_with (at_mapUpdate; refine wpList_upo _ rfl _ _ _ rfl m M c k _ j e rfl rfl rfl ?c2 HJ.out HE.out ?_)
  case c2 => exact E2.out
  rw [HMod.out]
  go_end0
  refine ⟨rfl, ⟨?_, ?_⟩, (E4.out.drew).setObj' m (by simp) _⟩
  · rw [setObj'_other _ _ _ _ Hm.out.ne]; exact E3.out
  · exact setObj'_same _ _ _ (lt_of_heap E2.out)
/-- Set, on an array of values -/
theorem setE_any (p m c clk : Nat) (k : ByteArray) (M : List Ent) (x1 : Int) (x3 : ByteArray) (w : World) (hA : AInv w p m clk M c) (hc1 : clk ≤ 1000000) :
    Calls Tryz.prog 32 #[.pointer (some ⟨p, 0, none⟩), .string k, .agg #[.int .i64 x1, .float .f64 0, .string x3]] w fun r w' =>
      r = .returned (.int .i64 0) ∧ (∃ clk' c', AInv w' p m clk' (setE M k x1 x3 clk c) c' ∧ clk ≤ clk' ∧ clk' ≤ clk + 1) ∧ Apart [p, m] w w' := by
  cases hj : ixE M k with
  | none =>
    have hf : fnd k (mes M).toList = some none := by rw [fnd_mes, hj]; rfl
    refine (set_new p m c (clk : Int) k (mes M) x1 0 x3 w hA.arr hf (by omega) (by omega)).mono ?_
    rintro r w' ⟨rfl, ha, hap⟩
    have e1 : (clk : Int) + 1 = ((clk + 1 : Nat) : Int) := by omega
    rw [e1, mes_push] at ha
    refine ⟨rfl, ⟨clk + 1, c + 1, ?_, by omega, by omega⟩, hap⟩
    unfold setE
    rw [hj]
    exact hA.push hj ha
  | some j =>
    obtain ⟨e, he, hk⟩ := ixE_some hj
    have hf : fnd k (mes M).toList = some (some (j, e.val)) := by rw [fnd_mes, hj]; simp [he]
    have HA := Lib.hid hA.arr
    have HF := Lib.hid hf
    have HPut := Lib.hid (fun W (hW : Below w.heap.size w W) => put_old p m c j (clk : Int) k M e 0 x1 x3 W (hA.arr.below hW) hj he)
    have HI := Lib.hid hA
    have HJ := Lib.hid hj
    have HE := Lib.hid he
    clear hA hf hj he hk
    go_enter Tryz.func32, Tryz.ntmps32
    go_wp2_with fail
    refine (kind_any p m c (clk : Int) k (mes M) _ e.when e.kind 0 e.str none _ (HA.out.keep ((Apart.refl [] w).alloc _) (by simp) (by simp)) HF.out rfl).mono ?_
    rintro r w1 ⟨rfl, hb⟩
    rw [show kindOf (some (j, e.val)) none = 1 from rfl]
    have hb' : Below w.heap.size w w1 := (((Below.refl _ _).alloc (Nat.le_refl _) _).trans (hb.mono (by simp)))
    obtain ⟨e10, e11, e12, hz1⟩ : w1.cell? ⟨w.heap.size, 0, none⟩ = some (.int .i64 x1) ∧ w1.cell? ⟨w.heap.size, 1, none⟩ = some (.float .f64 0) ∧ w1.cell? ⟨w.heap.size, 2, none⟩ = some (.string x3) ∧ w.heap.size < w1.heap.size := by
      refine ⟨?_, ?_, ?_, ?_⟩
      · rw [hb.cell (by simp)]; simp [go_sem]
      · rw [hb.cell (by simp)]; simp [go_sem]
      · rw [hb.cell (by simp)]; simp [go_sem]
      · have := hb.size; simp at this; omega
    have HB := Lib.hid hb'
    clear hb hb'
    go_wp2_with fail
    refine (HPut.out _ HB.out).mono ?_
    rintro r w2 ⟨rfl, hA2, hap⟩
    have HA2 := Lib.hid hA2
    have HP := Lib.hid hap
    clear hA2 hap
    go_wp2_with fail
    go_ret
    refine ⟨rfl, ⟨clk, c, ?_, Nat.le_refl _, by omega⟩, (Apart.of_below HB.out [p, m]).trans HP.out (by simp)⟩
    unfold setE
    rw [HJ.out]
    simp only [HE.out]
    exact HI.out.set HJ.out HE.out HA2.out
theorem lenE_any (p m c clk : Nat) (M : List Ent) (w : World) (hA : AInv w p m clk M c) : Calls Tryz.prog 36 #[.pointer (some ⟨p, 0, none⟩)] w fun r w' => r = .returned (.int .i64 (M.length : Int)) ∧ w = w' := by
  have h := len_any p m c (clk : Int) (mes M) w hA.arr
  rw [mes_size] at h
  exact h
/-- Delete -/
theorem delE_any (p m c clk : Nat) (k : ByteArray) (M : List Ent) (w : World) (hA : AInv w p m clk M c) :
    Calls Tryz.prog 37 #[.pointer (some ⟨p, 0, none⟩), .string k] w fun r w' => r = .returned (.bool (decide (k ∈ M.map (·.key)))) ∧ AInv w' p m clk (delE M k) c ∧ Apart [p, m] w w' := by
  have HK := Lib.hid (kindE_any hA k)
  have HA := Lib.hid hA
  clear hA
  by_cases hk : k ∈ M.map (·.key)
  · have hK : kindE M k = 1 := if_pos hk
    rw [hK] at HK
    rw [decide_eq_true hk]
    clear hk hK
    go_enter Tryz.func37, Tryz.ntmps37
    go_wp2_with fail
    refine HK.out.mono ?_
    rintro r w1 ⟨rfl, hb⟩
    have HB := Lib.hid hb
    have HA1 := Lib.hid (HA.out.below hb)
    have c0 := HA1.out.arr.c0
    have hp := HA1.out.arr.ltp
    have hdel : ∀ T, (Builtin.delete_ #[125, 9] T #[.map (some m), .string k]).run Tryz.prog w1 = .ok (.tuple #[]) (w1.setObj' m (.map (mes (delE M k)) c)) := fun T => run_delete w1 m M c k T HA1.out.arr.map
    clear hb HK
    go_wp2_with fail
    go_ret
    refine ⟨rfl, HA1.out.del ⟨?_, setObj'_same _ _ _ HA1.out.arr.ltm⟩, ((Apart.of_below HB.out [p, m]).setObj' m (.inl (by simp)) _)⟩
    rw [setObj'_other _ _ _ _ HA1.out.arr.ne]; exact HA1.out.arr.cells
  · have hK : kindE M k = 0 := if_neg hk
    rw [hK] at HK
    rw [decide_eq_false hk]
    have HN := Lib.hid hk
    clear hk hK
    go_enter Tryz.func37, Tryz.ntmps37
    go_wp2_with fail
    refine HK.out.mono ?_
    rintro r w1 ⟨rfl, hb⟩
    have HB := Lib.hid hb
    have HA1 := Lib.hid (HA.out.below hb)
    clear hb HK
    go_wp2_with fail
    go_ret
    refine ⟨rfl, ?_, Apart.of_below HB.out _⟩
    have hd : delE M k = M := by
      unfold delE
      have h := ixE_key (M := M) (k := k)
      cases hx : ixE M k with
      | none => rfl
      | some j => rw [hx] at h; exact absurd (of_decide_eq_true h.symm) HN.out
    rw [hd]; exact HA1.out
/-- Clear -/
theorem clearE_any (p m c clk : Nat) (M : List Ent) (w : World) (hA : AInv w p m clk M c) :
    Calls Tryz.prog 38 #[.pointer (some ⟨p, 0, none⟩)] w fun r w' => r = .returned (.tuple #[]) ∧ AInv w' p m clk [] c ∧ Apart [p, m] w w' := by
  have hp := hA.arr.ltp
  have c0 := hA.arr.c0
  have hcl : ∀ T, (Builtin.clear_ #[125] T #[.map (some m)]).run Tryz.prog w = .ok (.tuple #[]) (w.setObj' m (.map #[] c)) := fun T => run_clear w m (mes M) c T hA.arr.map
  have HA := Lib.hid hA
  clear hA
  go_enter Tryz.func38, Tryz.ntmps38
  go_wp2_with fail
  go_end0
  refine ⟨rfl, HA.out.clear ⟨?_, setObj'_same _ _ _ HA.out.arr.ltm⟩, (Apart.refl [p, m] w).setObj' m (.inl (by simp)) _⟩
  rw [setObj'_other _ _ _ _ HA.out.arr.ne]; exact HA.out.arr.cells
/-- Get of a key that is there -/
theorem getE_any (p m c clk : Nat) (k : ByteArray) (M : List Ent) (j : Nat) (e : Ent) (w : World) (hA : AInv w p m clk M c) (hj : ixE M k = some j) (he : M[j]? = some e) :
    Calls Tryz.prog 33 #[.pointer (some ⟨p, 0, none⟩), .string k] w fun r w' => r = .returned (.tuple #[.agg #[.int .i64 e.kind, .float .f64 0, .string e.str], .bool true]) ∧ Below w.heap.size w w' := by
  have hf : fnd k (mes M).toList = some (some (j, e.val)) := by rw [fnd_mes, hj]; simp [he]
  exact Get_any p m c (clk : Int) k (mes M) (some (j, e.val)) e.when e.kind 0 e.str none w hA.arr hf rfl
theorem get_set {M : List Ent} {k : ByteArray} {kind : Int} {str : ByteArray} {clk c : Nat} : ∃ j e, ixE (setE M k kind str clk c) k = some j ∧ (setE M k kind str clk c)[j]? = some e ∧ e.kind = kind ∧ e.str = str := by
  have hmem : k ∈ (setE M k kind str clk c).map (·.key) := by
    rw [set_keys]; split
    · assumption
    · simp
  have h1 := ixE_key (M := setE M k kind str clk c) (k := k)
  cases hx : ixE (setE M k kind str clk c) k with
  | none => rw [hx, decide_eq_true hmem] at h1; cases h1
  | some j =>
    obtain ⟨e, he, hk⟩ := ixE_some hx
    refine ⟨j, e, rfl, he, ?_⟩
    unfold setE at hx he
    cases hi : ixE M k with
    | none =>
      rw [hi] at hx he
      dsimp only at hx he
      rcases Nat.lt_or_ge j M.length with hl | hl
      · rw [List.getElem?_append_left hl] at he
        exact absurd hk (ixE_none.1 hi e (List.mem_of_getElem? he))
      · rw [List.getElem?_append_right hl] at he
        cases hd : j - M.length with
        | zero => rw [hd] at he; simp at he; subst he; exact ⟨rfl, rfl⟩
        | succ n => rw [hd] at he; simp at he
    | some i =>
      obtain ⟨e0, he0, hk0⟩ := ixE_some hi
      rw [hi] at hx he
      simp only [he0] at hx he
      by_cases hij : i = j
      · subst hij
        rw [List.getElem?_set] at he
        have hl := (List.getElem?_eq_some_iff.1 he0).1
        simp only [if_true, hl] at he
        cases he
        exact ⟨rfl, rfl⟩
      · exfalso
        have hlt : j < i ∨ i < j := by omega
        -- the first place of the key is i in both lists
        unfold ixE at hi hx
        rw [List.findIdx?_eq_some_iff_getElem] at hi hx
        obtain ⟨a1, a2, a3⟩ := hi
        obtain ⟨b1, b2, b3⟩ := hx
        rcases hlt with hl | hl
        · have := a3 j hl
          rw [List.getElem_set] at b2
          rw [if_neg hij] at b2
          rw [b2] at this; exact this rfl
        · have := b3 i hl
          rw [List.getElem_set, if_pos rfl] at this
          simp at this
end Go.Proofs.YtflbhifdololfaaGreatDoor
