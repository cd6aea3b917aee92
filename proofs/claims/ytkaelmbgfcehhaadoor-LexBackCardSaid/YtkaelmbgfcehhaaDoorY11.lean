/- strings.SplitSeq at blanks: what its iterator hands over. -/
import Derived.Test.YtkaelmbgfcehhaaDoorY10
import Derived.Test.YtkaelmbgfcehhaaDoorY0
import Derived.Test.YtkaelmbgfcehhaaDoorM4
set_option linter.unusedVariables false
set_option linter.unusedSimpArgs false
namespace Go.Proofs.YtkaelmbgfcehhaaDoor
open Go.RowKit Go.Shelf
set_option linter.unusedVariables false
set_option linter.unusedSimpArgs false
attribute [local go_sem] Oper.semAt_some

theorem sp_none : ∀ {R : List UInt8}, 32 ∉ R → cutSp R = [R] ∧ Lib.indexByte R 32 = -1
  | [], _ => ⟨rfl, rfl⟩
  | c :: t, h => by
    have hc : c ≠ 32 := fun e => h (by simp [e])
    obtain ⟨h1, h2⟩ := sp_none (R := t) fun e => h (List.mem_cons_of_mem _ e)
    unfold cutSp Lib.indexByte
    rw [if_neg hc, h1, if_neg (by simpa using hc), if_pos (by rw [h2]; rfl)]
    exact ⟨rfl, rfl⟩
theorem sp_some : ∀ {R : List UInt8}, 32 ∈ R → ∃ A T, R = A ++ 32 :: T ∧ cutSp R = A :: cutSp T ∧ Lib.indexByte R 32 = (A.length : Int)
  | [], h => by cases h
  | c :: t, h => by
    by_cases hc : c = 32
    · subst hc
      exact ⟨[], t, rfl, by rw [cutSp, if_pos rfl], by unfold Lib.indexByte; rw [if_pos (by rfl)]; rfl⟩
    · have ht : 32 ∈ t := by
        rcases List.mem_cons.1 h with e | e
        · exact absurd e.symm hc
        · exact e
      obtain ⟨A, T, h1, h2, h3⟩ := sp_some ht
      refine ⟨c :: A, T, by rw [h1]; rfl, ?_, ?_⟩
      · rw [cutSp, if_neg hc, h2]
        rfl
      · unfold Lib.indexByte
        rw [if_neg (by simpa using hc), h3, if_neg (by intro e; have := beq_iff_eq.1 e; omega)]
        simp
theorem SplitSeq_any (s : ByteArray) (w : World) :
    Calls Tryd.prog 33 #[.string s, .string ⟨#[32]⟩] w fun e w' => e = .returned (.func (.func 52) #[] #[.pointer (some ⟨w.heap.size + 1, 0, none⟩), .pointer (some ⟨w.heap.size, 0, none⟩), .pointer (some ⟨w.heap.size + 2, 0, none⟩)]) ∧
      w' = ((w.alloc (.cells #[.string s] 9)).alloc (.cells #[.string ⟨#[32]⟩] 9)).alloc (.cells #[.int .i64 0] 3) := by
  have HI : Hid (Calls Tryd.prog 44 #[.string s, .string ⟨#[32]⟩, .int .i64 0] w fun e w' => e = .returned (.func (.func 52) #[] #[.pointer (some ⟨w.heap.size + 1, 0, none⟩), .pointer (some ⟨w.heap.size, 0, none⟩), .pointer (some ⟨w.heap.size + 2, 0, none⟩)]) ∧
      w' = ((w.alloc (.cells #[.string s] 9)).alloc (.cells #[.string ⟨#[32]⟩] 9)).alloc (.cells #[.int .i64 0] 3)) := by
    show Calls _ _ _ _ _
    go_enter Tryd.func44, Tryd.ntmps44
    go_wp2_with fail
    go_ret
    exact ⟨rfl, rfl⟩
  go_enter Tryd.func33, Tryd.ntmps33
  go_wp2_with fail
  refine HI.out.mono ?_
  rintro e w1 ⟨rfl, rfl⟩
  go_wp2_with fail
  go_ret
  exact ⟨rfl, rfl⟩
/-- what a round keeps: the three cells of the iterator -/
def KpS (B1 B2 B3 : Nat) (W W' : World) : Prop := W'.heap[B1]? = W.heap[B1]? ∧ W'.heap[B2]? = W.heap[B2]? ∧ W'.heap[B3]? = W.heap[B3]?
theorem KpS.trans {B1 B2 B3 : Nat} {A B C : World} (h : KpS B1 B2 B3 A B) (k : KpS B1 B2 B3 B C) : KpS B1 B2 B3 A C := ⟨k.1.trans h.1, k.2.1.trans h.2.1, k.2.2.trans h.2.2⟩
theorem KpS.put {B1 B2 B3 n : Nat} (h1 : B1 < n) (h2 : B2 < n) (h3 : B3 < n) (W : World) (l : Nat) (o o' : Obj) (hl : n ≤ l) : KpS B1 B2 B3 W (W.putObj l o') :=
  ⟨World.putObj_heap_other (by omega), World.putObj_heap_other (by omega), World.putObj_heap_other (by omega)⟩
/-- how long a string in a cell is -/
def sizeAt (W : World) (b : Nat) : Nat := match W.cell? ⟨b, 0, none⟩ with | some (.string s) => s.size | _ => 0
theorem cell_same1 {W W' : World} {B i : Nat} (h : W'.heap[B]? = W.heap[B]?) : W'.cell? ⟨B, i, none⟩ = W.cell? ⟨B, i, none⟩ := by
  unfold World.cell?
  rw [h]
theorem cell_other1 {W : World} {B C : Nat} (v : Value) (h : B ≠ C) : (W.setCell ⟨C, 0, none⟩ v).cell? ⟨B, 0, none⟩ = W.cell? ⟨B, 0, none⟩ := cell_same1 (heap_box v h)
theorem cell_same2 {W : World} {B : Nat} {u v : Value} (h : W.cell? ⟨B, 0, none⟩ = some v) : (W.setCell ⟨B, 0, none⟩ u).cell? ⟨B, 0, none⟩ = some u := World.cell?_setCell_same' _ _ _ (by rw [h]; rfl)
theorem bs_ext0 (A T : List UInt8) : (bs (A ++ 32 :: T)).extract 0 A.length = bs A := by
  apply ByteArray.ext
  apply Array.toList_inj.1
  rw [ByteArray.data_extract, Array.toList_extract]
  simp [bs, List.extract_eq_take_drop]
theorem bs_ext1 (A T : List UInt8) : (bs (A ++ 32 :: T)).extract (A.length + 1) (bs (A ++ 32 :: T)).size = bs T := by
  apply ByteArray.ext
  apply Array.toList_inj.1
  rw [ext_drop, bs_data, bs_data, ← List.drop_drop]
  simp

set_option maxHeartbeats 8000000 in
set_option maxRecDepth 100000 in
theorem ss1_any (n l B1 B2 B3 : Nat) (S0 : List UInt8) (hn : 1 ≤ n) (h12 : B1 ≠ B2) (h13 : B1 ≠ B3) (hS0 : S0.length ≤ 1000) (J Jx : List (List UInt8) → World → Prop)
    (W : World) (hJ : AbidesFrom W.heap.size J) (hJb : Blind B1 J)
    (hY : ∀ pre (x : List UInt8) W1, J pre W1 → pre.length < (cutSp S0).length → YieldAt Fence.wide (n - 1) Tryd.prog l #[.string (bs x)] W1 fun e W' =>
      (e = .returned (.bool true) ∧ J (pre ++ [x]) W' ∧ KpS B1 B2 B3 W1 W') ∨ (e = .returned (.bool false) ∧ Jx (pre ++ [x]) W'))
    (c1 : W.cell? ⟨B1, 0, none⟩ = some (.string (bs S0))) (f1 : W.frozen? ⟨B1, 0, none⟩ = false) (c2 : W.cell? ⟨B2, 0, none⟩ = some (.string ⟨#[32]⟩)) (c3 : W.cell? ⟨B3, 0, none⟩ = some (.int .i64 0)) (h0 : J [] W) :
    CallsIn Fence.wide n Tryd.prog 52 #[.func (.yield l) #[] #[], .pointer (some ⟨B2, 0, none⟩), .pointer (some ⟨B1, 0, none⟩), .pointer (some ⟨B3, 0, none⟩)] W fun e W' => (∃ v, e = .returned v) ∧
      ((∃ ys, ys = cutSp S0 ∧ J ys W') ∨ (∃ pre, pre <+: cutSp S0 ∧ Jx pre W')) := by
  refine callsIn_of_wp Tryd.func52 rfl trivial ?_ rfl
  simp only [Tryd.ntmps52, List.size_toArray, List.length_cons, List.length_nil, Nat.reduceAdd, Nat.reduceSub, Array.replicate_succ, Array.replicate_zero, List.push_toArray, List.append_toArray, List.nil_append, List.cons_append]
  have HY := Lib.hid hY
  have HJ := Lib.hid hJ
  have HJb := Lib.hid hJb
  have H0 := Lib.hid h0
  clear hY hJ hJb h0
  gi_wp2
  gi_loopw [] (fun wr => ∃ (R : List UInt8) (pre : List (List UInt8)), Hid (pre ++ cutSp R = cutSp S0) ∧ R.length ≤ 1000 ∧ wr.cell? ⟨B1, 0, none⟩ = some (.string (bs R)) ∧ wr.frozen? ⟨B1, 0, none⟩ = false ∧ wr.cell? ⟨B2, 0, none⟩ = some (.string ⟨#[32]⟩) ∧ wr.cell? ⟨B3, 0, none⟩ = some (.int .i64 0) ∧ Hid (J pre wr)) (fun wr => sizeAt wr B1)
  case atStart => exact ⟨S0, [], rfl, hS0, c1, f1, c2, c3, H0.out⟩
  case round =>
    obtain ⟨R, pre, HE, hR, k1, g1, k2, k3, HJs⟩ := hrel
    clear c1 c2 c3 f1
    have HI := Lib.hid (fun W => Tryd.strings_Index_one (bs R) 32 W)
    rw [bs_data] at HI
    have HM : Hid (sizeAt wr B1 = R.length) := by show _ = _; unfold sizeAt; rw [k1]; exact bs_size R
    have HPl : Hid (pre.length < (cutSp S0).length) := by
      show _ < _
      rw [← HE.out, List.length_append]
      have := List.length_pos_iff.2 (cutSp_ne R)
      omega
    by_cases hmem : 32 ∈ R
    · obtain ⟨A, T, rfl, e2, e3⟩ := sp_some hmem
      rw [e3] at HI
      have HE1 : Hid ((pre ++ [A]) ++ cutSp T = cutSp S0) := by show _ = _; rw [← HE.out, e2]; simp
      have hx1 := bs_ext0 A T
      have hx2 := bs_ext1 A T
      have hsz : (bs (A ++ 32 :: T)).size = A.length + T.length + 1 := by rw [bs_size, List.length_append, List.length_cons]; omega
      have hAT : A.length + T.length + 1 ≤ 1000 := by rw [List.length_append, List.length_cons] at hR; omega
      obtain ⟨SA, hSA⟩ : ∃ SA, SA = bs A := ⟨_, rfl⟩
      obtain ⟨ST, hST⟩ : ∃ ST, ST = bs T := ⟨_, rfl⟩
      obtain ⟨SR, hSR⟩ : ∃ SR, SR = bs (A ++ 32 :: T) := ⟨_, rfl⟩
      rw [← hSA, ← hSR] at hx1
      rw [hsz, ← hST, ← hSR] at hx2
      rw [← hSR] at HI k1 hsz
      have HSA := Lib.hid hSA
      have HST := Lib.hid hST
      have hy := HY.out pre A wr HJs.out HPl.out
      rw [← hSA] at hy
      have HYA := Lib.hid hy
      have HMT : Hid (T.length < (A ++ 32 :: T).length) := by show _ < _; rw [List.length_append, List.length_cons]; omega
      have hTl : T.length ≤ 1000 := by omega
      generalize hk : A.length = k at *
      generalize hr : T.length = r at *
      have hkI : (k : Int) ≤ 1000 := by omega
      have hkW := wrapN k (by omega)
      obtain ⟨k1n, hk1⟩ : ∃ j, j = k + 1 := ⟨_, rfl⟩
      have ek : (k : Int) + 1 = (k1n : Int) := by omega
      have ekW := wrapN k1n (by omega)
      rw [← hk1] at hx2
      have hks : k1n ≤ k + r + 1 := by omega
      clear hmem e2 e3 hSA hST hSR hy hk1 hR
      gi_wp2_with fail
      refine ⟨trivial, ?_⟩
      refine (callsIn_wide.2 (HI.out _)).mono ?_
      rintro e w1 ⟨rfl, rfl⟩
      obtain ⟨fn, tmps, assign, body, hy, hRd⟩ := HYA.out
      clear HYA HI
      gi_wp2_with fail
      refine hRd.mono ?_
      rintro e W3 (⟨rfl, hJ3, hk3⟩ | ⟨rfl, hJx3⟩)
      · have j1 : W3.cell? ⟨B1, 0, none⟩ = some (.string SR) := (cell_same1 hk3.1).trans k1
        have jf : W3.frozen? ⟨B1, 0, none⟩ = false := by
          have : W3.frozen? ⟨B1, 0, none⟩ = w1.frozen? ⟨B1, 0, none⟩ := by unfold World.frozen?; rw [hk3.1]
          exact this.trans g1
        have j2 : W3.cell? ⟨B2, 0, none⟩ = some (.string ⟨#[32]⟩) := (cell_same1 hk3.2.1).trans k2
        have j3 : W3.cell? ⟨B3, 0, none⟩ = some (.int .i64 0) := (cell_same1 hk3.2.2).trans k3
        have HJ3 := Lib.hid (HJb.out _ _ (.string ST) hJ3)
        have m1 : (W3.setCell ⟨B1, 0, none⟩ (.string ST)).cell? ⟨B1, 0, none⟩ = some (.string (bs T)) := by rw [cell_same2 j1, HST.out]
        have HM1 := Lib.hid m1
        have mf : (W3.setCell ⟨B1, 0, none⟩ (.string ST)).frozen? ⟨B1, 0, none⟩ = false := by rw [World.frozen?_setCell]; exact jf
        have m2 : (W3.setCell ⟨B1, 0, none⟩ (.string ST)).cell? ⟨B2, 0, none⟩ = some (.string ⟨#[32]⟩) := (cell_other1 _ h12.symm).trans j2
        have m3 : (W3.setCell ⟨B1, 0, none⟩ (.string ST)).cell? ⟨B3, 0, none⟩ = some (.int .i64 0) := (cell_other1 _ h13.symm).trans j3
        have HMF := Lib.hid mf
        have HM2 := Lib.hid m2
        have HM3 := Lib.hid m3
        clear hJ3 hk3 hRd hy k1 k2 k3 g1 m1 mf m2 m3
        gi_wp2_with fail
        go_roundw
        case rel => exact ⟨T, pre ++ [A], HE1, by omega, HM1.out, HMF.out, HM2.out, HM3.out, HJ3⟩
        case measure =>
          rw [HM.out]
          have : sizeAt (W3.setCell ⟨B1, 0, none⟩ (.string ST)) B1 = T.length := by unfold sizeAt; rw [HM1.out]; exact bs_size T
          rw [this, hr]
          exact HMT.out
      · have HJx3 := Lib.hid hJx3
        clear hJx3 hRd hy
        gi_wp2_with fail
        refine bodyPost_ret (results_none rfl _ _ _) rfl ?_
        exact ⟨⟨_, rfl⟩, .inr ⟨_, ⟨_, HE1.out⟩, HJx3.out⟩⟩
    · obtain ⟨e1, e2⟩ := sp_none hmem
      rw [e2] at HI
      have HE1 : Hid (pre ++ [R] = cutSp S0) := by show _ = _; rw [← HE.out, e1]
      have hy := HY.out pre R wr HJs.out HPl.out
      obtain ⟨SR, hSR⟩ : ∃ SR, SR = bs R := ⟨_, rfl⟩
      rw [← hSR] at hy HI k1
      have HYA := Lib.hid hy
      clear hmem e1 e2 hy hSR
      gi_wp2_with fail
      refine ⟨trivial, ?_⟩
      refine (callsIn_wide.2 (HI.out _)).mono ?_
      rintro e w1 ⟨rfl, rfl⟩
      obtain ⟨fn, tmps, assign, body, hy, hRd⟩ := HYA.out
      clear HYA HI
      gi_wp2_with fail
      refine hRd.mono ?_
      rintro e W3 (⟨rfl, hJ3, hk3⟩ | ⟨rfl, hJx3⟩)
      · have HJ3 := Lib.hid hJ3
        clear hJ3 hk3 hRd hy
        gi_wp2_with fail
        go_end0
        exact ⟨⟨_, rfl⟩, .inl ⟨_, HE1.out, HJ3.out⟩⟩
      · have HJx3 := Lib.hid hJx3
        clear hJx3 hRd hy
        gi_wp2_with fail
        go_end0
        exact ⟨⟨_, rfl⟩, .inr ⟨_, ⟨[], by rw [List.append_nil]; exact HE1.out⟩, HJx3.out⟩⟩
end Go.Proofs.YtkaelmbgfcehhaaDoor
