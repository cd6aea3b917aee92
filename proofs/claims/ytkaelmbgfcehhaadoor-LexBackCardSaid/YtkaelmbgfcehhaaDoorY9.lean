/- Package lex: slash. -/
import Derived.Test.YtkaelmbgfcehhaaDoorY8
import Derived.Test.YtkaelmbgfcehhaaDoorM5
import Derived.Deep.RegionLaw
set_option linter.unusedVariables false
set_option linter.unusedSimpArgs false
namespace Go.Proofs.YtkaelmbgfcehhaaDoor
open Go.RowKit
set_option linter.unusedVariables false
set_option linter.unusedSimpArgs false

theorem oper_stringB (w : World) {o : Oper} {a : Act} {K : Act → World → Prop} {Q : Exit → Act → World → Prop} (x : Operand) (ho : o.op = .convert 44 9 x) (base : Nat) (v : Value) (X : List UInt8) (hx : a.eval x = v)
    (h : OwnB w base v (X.map UInt8.toNat)) (hK : K (a.put o.dst (.string (bs X))) w) : Oper.wp Tryd.prog o a w K Q := by
  rcases h.slice with ⟨rfl, h0⟩ | ⟨g, cap, rfl, hb, hr⟩
  · have hX : X = [] := by simpa using h0
    subst hX
    have hr := run_convert_bytes_nil (P := Tryd.prog) (w := w) 44 5 undBytes undByte 0 0 9 undStr
    unfold Oper.wp
    simp [execOp, ho, hx, hr, Result.andThen]
    exact hK
  · have hr := run_convert_bytes_back (P := Tryd.prog) w 44 9 5 ⟨g, 0, none⟩ cap X undBytes undByte undStr (fun j hj => by
      rw [add_plain', Nat.zero_add]
      have := hr.cell j (by simpa using hj)
      simpa using this)
    rw [List.length_map] at hx
    unfold Oper.wp
    simp [execOp, ho, hx, hr, Result.andThen]
    exact hK
theorem step_appB (w : World) {ops : Array Oper} {o : Oper} {a : Act} {K : Act → World → Prop} {Q : Exit → Act → World → Prop} {E : Prop} (hg : o.guard = none) (s x : Operand) (ho : o.op = .call { callee := .builtin .append, args := #[s, x], argTypes := #[44, 44] })
    (base : Nat) (v : Value) (L : List Nat) (hs : a.eval s = v) (hown : OwnB w base v L) (p y : Nat) (hx : a.eval x = .slice (some ⟨p, 0, none⟩) 1 1) (hc : w.cell? ⟨p, 0, none⟩ = some (.int .u8 (y : Nat))) (hy : y < 256)
    (hbase : base ≤ w.heap.size) (hlen : L.length ≤ 1000000000)
    (hK : ∀ v' w', OwnB w' base v' (L ++ [y]) → w.grownBy w' v.ownBlock → K (a.put o.dst v') w') : if Region.wanted o (yielded ops a.tmps) = true then Oper.wp Tryd.prog o a w K Q else E := by
  have hw : Region.wanted o (yielded ops a.tmps) = true := by simp [Region.wanted, hg]
  rw [if_pos hw]
  obtain ⟨i0, hi, hz0, hz1, hz2⟩ := info_parts infoB
  obtain ⟨v', w', hrun, r1, r2, _⟩ := run_append_own (P := Tryd.prog) w base 44 o.type 5 i0 (.int .u8 0) 1 1 undB hi hz0 hz1 hz2 rfl (by decide) v L.length (cellsB L) hown.own ⟨p, 0, none⟩ 1 1 [.int .u8 (y : Nat)] rfl (fun j u hj => by
    cases j with
    | zero => simp at hj; subst hj; simpa [Addr.add] using hc
    | succ j => simp at hj) (by simp [Value.oneCell']) (by simp [maxLen]; omega) (by omega) hbase
  unfold Oper.wp
  simp [execOp, ho, resolve, invoke, builtin, hs, hx, hrun, Result.andThen]
  refine hK v' w' ⟨?_, ?_⟩ r2
  · intro z hz
    rcases List.mem_append.1 hz with hz | hz
    · exact hown.lt z hz
    · simp at hz; subst hz; exact hy
  · have e : cellsB (L ++ [y]) = cellsB L ++ [.int .u8 (y : Nat)] := by simp [cellsB]
    rw [e]; simpa using r1
theorem Mv.drew {M b : Nat} {u w : World} (h : Mv M b u w) : Mv M b u w.drew := ⟨h.os, h.tape, h.output, h.size, h.block⟩
theorem upd_mono {L : Nat → Bool} (k : Nat) {i : Nat} (h : L i = true) : upd L k i = true := by
  by_cases e : i = k
  · subst e; exact upd_self _ _
  · rw [upd_other L e]; exact h
/-- what slash does -/
def SlashE (D b : Nat) (s : ByteArray) (p l : Nat) (LT : List TokT) (w : World) (r : Option (List UInt8 × Nat)) (e : Ending) (w' : World) : Prop := match r with
  | some (o, k) => if o.length ≤ 1024 then e = .returned (.tuple #[]) ∧ (∃ v', Sc w' D b s (p + (1 + k)) l v' (LT ++ [(5, o, 0, l)])) ∧ Below D w w' else e = .panicked [{ v := lexF l 202, recovered := false }] ∧ Below D w w'
  | none => e = .panicked [{ v := lexF l 202, recovered := false }] ∧ Below D w w'
section
variable {D b p l : Nat} {s : ByteArray} {LT : List TokT} {w w' : World} {r : Option (List UInt8 × Nat)} {e : Ending}
theorem SlashE.bad (hr : ∀ o k, r = some (o, k) → 1024 < o.length) (h : e = .panicked [{ v := lexF l 202, recovered := false }] ∧ Below D w w') : SlashE D b s p l LT w r e w' := by
  cases r with
  | none => exact h
  | some q =>
    obtain ⟨o, k⟩ := q
    have := hr o k rfl
    show if o.length ≤ 1024 then _ else _
    rw [if_neg (by omega)]
    exact h
theorem SlashE.good {o : List UInt8} {k : Nat} (hr : r = some (o, k)) (ho : o.length ≤ 1024) (h : e = .returned (.tuple #[]) ∧ (∃ v', Sc w' D b s (p + (1 + k)) l v' (LT ++ [(5, o, 0, l)])) ∧ Below D w w') : SlashE D b s p l LT w r e w' := by
  subst hr
  show if o.length ≤ 1024 then _ else _
  rw [if_pos ho]
  exact h
end
theorem map_map_slash (r : Option (List UInt8 × Nat)) (X Y : List UInt8) (a1 a2 : Nat) : (r.map fun q => (Y ++ q.1, a2 + q.2)).map (fun q => (X ++ q.1, a1 + q.2)) = r.map fun q => ((X ++ Y) ++ q.1, (a1 + a2) + q.2) := by
  cases r with
  | none => rfl
  | some q => simp [Nat.add_assoc]
set_option maxRecDepth 100000 in
set_option maxHeartbeats 32000000 in
theorem slash_any (D b : Nat) (s : ByteArray) (p l : Nat) (v : Value) (LT : List TokT) (w : World) (h : Sc w D b s p l v LT) (hp : p < s.size) (hs : s.size ≤ 100000) (hL : LT.length ≤ 1000000000) (hD : D ≤ w.heap.size) :
    Calls Tryd.prog 23 #[.pointer (some ⟨b, 0, none⟩)] w (SlashE D b s p l LT w (slashR (s.data.toList.drop p).length (s.data.toList.drop (p + 1)))) := by
  obtain ⟨Res, hRes⟩ : ∃ r, r = slashR (s.data.toList.drop p).length (s.data.toList.drop (p + 1)) := ⟨_, rfl⟩
  rw [← hRes]
  have hf0 : (s.data.toList.drop (p + 1)).length < (s.data.toList.drop p).length := by rw [List.length_drop, List.length_drop, ← size_list]; omega
  have HR0 : Hid (Res = (slashR (s.data.toList.drop p).length (s.data.toList.drop (p + 1))).map fun q => ([] ++ q.1, ((p + 1) - (p + 1)) + q.2)) := by
    show _ = _
    rw [hRes]
    cases slashR (s.data.toList.drop p).length (s.data.toList.drop (p + 1)) with
    | none => rfl
    | some q => simp
  have HF0 := Lib.hid hf0
  clear hRes hf0
  obtain ⟨M, hM⟩ : ∃ M, M = w.heap.size := ⟨_, rfl⟩
  have hMw : M ≤ w.heap.size := by omega
  have hbM : b < M := by have := h.lt; omega
  have HV : Hid (∀ g, v.ownBlock = some g → g < M) := fun g hg => by have := (h.own.lt g hg).2; omega
  have hDM : D ≤ M := by omega
  have hDb : D ≤ b := h.lo
  have c1 := h.c1
  have f1 := h.f 1
  obtain ⟨q, hq⟩ : ∃ q, q = p + 1 := ⟨_, rfl⟩
  have eq1 : (p : Int) + 1 = (q : Int) := by omega
  have eqw := wrapN q (by omega)
  have hqs : q ≤ s.size := by omega
  have HS0 := Lib.hid (h.setAt q)
  have HM0 : Hid (Mv M b w (w.setCell ⟨b, 1, none⟩ (.int .i64 (q : Int)))) := (Mv.refl M b w).setAt 1 _
  have HO0 : Hid (OwnB (w.setCell ⟨b, 1, none⟩ (.int .i64 (q : Int))) M (.slice none 0 0) (([] : List UInt8).map UInt8.toNat)) := OwnB.nil _ _
  rw [← hq] at HR0 HF0
  have HQ := Lib.hid hq
  clear h hq hM
  go_enter Tryd.func23, Tryd.ntmps23
  go_wp2_with fail
  apply wp_scope_straight
  go_wp2_with fail
  apply wp_label
  go_wp2_with fail
  go_loopw [2] (fun ov wr => ∃ (m f n : Nat) (X : List UInt8) (ao : Option Addr) (cp : Nat), ov = .slice ao n cp ∧ Hid (X.length = n) ∧ Hid (OwnB wr M (.slice ao n cp) (X.map UInt8.toNat)) ∧ n + q ≤ m ∧ q ≤ m ∧ m ≤ s.size ∧ Hid ((s.data.toList.drop m).length < f) ∧
      Hid (Res = (slashR f (s.data.toList.drop m)).map fun r => (X ++ r.1, (m - q) + r.2)) ∧ Hid (Sc wr D b s m l v LT) ∧ Hid (Mv M b w wr)) (fun _ wr => s.size - placeAt wr b)
  case atStart => exact ⟨q, _, 0, [], none, 0, rfl, rfl, HO0, by omega, Nat.le_refl _, hqs, HF0, HR0, HS0, HM0⟩
  case round =>
    obtain ⟨m, f, n, X, ao, cp, rfl, HX, HOr, hn, hqm, hms, HF, HRr, HSr, HMr⟩ := hrel
    have c0 := HSr.out.c0
    have k1 := HSr.out.c1
    have k2 := HSr.out.c2
    have g1 := HSr.out.f 1
    have hmI : (m : Int) ≤ (s.size : Int) := by omega
    have hBr : Hid (Below D w wr) := HMr.out.below hDM hDb
    clear c1 f1
    rcases Nat.lt_or_ge m s.size with hlt | hge
    · have hltI : (m : Int) < (s.size : Int) := by omega
      have hgd : decide ((s.size : Int) ≤ (m : Int)) = false := decide_eq_false (by omega)
      have hd := drop_byte hlt
      obtain ⟨f', hf'⟩ : ∃ f', f = f' + 1 := ⟨f - 1, by have := HF.out; omega⟩
      subst hf'
      have hRr := HRr.out
      have hFr := HF.out
      rw [hd] at hRr hFr
      rw [List.length_cons] at hFr
      rw [slashR.eq_def] at hRr
      simp only [] at hRr
      generalize hC : s[m] = c at *
      generalize hT : s.data.toList.drop (m + 1) = T at *
      have HD := Lib.hid hd
      by_cases hnl : c = 10
      · subst hnl
        rw [if_neg (by decide), if_pos rfl] at hRr
        have HRn := Lib.hid hRr
        clear hRr hFr hd HRr
        go_wp2_with fail
        go_quiet (fail)
        go_wp2_with fail
        refine (fail_any _ l 202 _).mono ?_
        rintro e w3 ⟨rfl, rfl⟩
        go_wp2_with fail
        refine ⟨rfl, ?_⟩
        exact SlashE.bad (fun o k e => by rw [HRn.out] at e; cases e) ⟨rfl, hBr.out.drewN _⟩
      rw [if_neg hnl] at hRr
      have hcd : ((c.toNat : Int) == 10) = false := beq_eq_false_iff_ne.2 (fun e => hnl (UInt8.toNat_inj.1 (by show c.toNat = 10; omega)))
      obtain ⟨m1, hm1⟩ : ∃ m1, m1 = m + 1 := ⟨_, rfl⟩
      have em : (m : Int) + 1 = (m1 : Int) := by omega
      have emw := wrapN m1 (by omega)
      have HM1 := Lib.hid hm1
      have hm1s : m1 ≤ s.size := by omega
      have hqm1 : q ≤ m1 := by omega
      have hT1 : s.data.toList.drop m1 = T := by rw [hm1, hT]
      have HT1 := Lib.hid hT1
      clear hm1 hd hT hT1
      go_wp2_with fail
      go_quiet (fail)
      go_wp2_with fail
      go_quiet (fail)
      generalize hws : World.drewN (World.drewN wr _) _ = ws
      have HSs : Hid (Sc ws D b s m l v LT) := hws ▸ (HSr.out.drewN _).drewN _
      have HMs : Hid (Mv M b w ws) := hws ▸ (HMr.out.drewN _).drewN _
      have HOs : Hid (OwnB ws M (.slice ao n cp) (X.map UInt8.toNat)) := hws ▸ (HOr.out.drewN _).drewN _
      have hMs : M ≤ ws.heap.size := Nat.le_trans hMw HMs.out.size
      clear hws c0 k1 g1 k2
      have c0 := HSs.out.c0
      have k1 := HSs.out.c1
      have g1 := HSs.out.f 1
      have HS1 := Lib.hid (HSs.out.setAt m1)
      have HW1 := Lib.hid (HMs.out.setAt 1 (.int .i64 (m1 : Int)))
      have HO1 := Lib.hid (HOs.out.mv ((Apart.refl [b] ws).sc (q := 1) (.int .i64 (m1 : Int))) hbM)
      have k2 := HS1.out.c2
      clear HSs HMs HOs
      by_cases hq34 : c = 47
      · subst hq34
        rw [if_pos rfl] at hRr
        have HRn : Hid (Res = some (X, m - q + 1)) := by
          show _ = _
          rw [hRr]
          simp
        have HBD := Lib.hid (HW1.out.below hDM hDb)
        clear hRr HRr
        by_cases hbig : 1024 < n
        · have hbI : (1024 : Int) < (n : Int) := by omega
          go_wp2_with fail
          refine (fail_any _ l 202 _).mono ?_
          rintro e w3 ⟨rfl, rfl⟩
          go_wp2_with fail
          refine ⟨rfl, ?_⟩
          exact SlashE.bad (fun o k e => by rw [HRn.out] at e; cases e; rw [HX.out]; exact hbig) ⟨rfl, HBD.out⟩
        have hbd : decide ((1024 : Int) < (n : Int)) = false := decide_eq_false (by omega)
        go_wp2_with fail
        have hdec : decide (s.size ≤ m) = false := decide_eq_false (by omega)
        simp only [hdec]
        generalize hwv : World.setCell ws _ _ = wv at *
        clear hwv
        obtain ⟨WI, hWI⟩ : ∃ WI : Bool → World → Prop, WI = fun x W => (x = false → Below wv.heap.size wv W) ∧ (x = true → (∃ v', Sc W D b s m1 l v' (LT ++ [(5, X, 0, l)])) ∧ Below D wv W) := ⟨_, rfl⟩
        have HWF : Hid (∀ W, WI false W → Below wv.heap.size wv W) := fun W hW => by rw [hWI] at hW; exact hW.1 rfl
        have HWT : Hid (∀ W, WI true W → (∃ v', Sc W D b s m1 l v' (LT ++ [(5, X, 0, l)])) ∧ Below D wv W) := fun W hW => by rw [hWI] at hW; exact hW.2 rfl
        have HWN : Hid (∀ W, ((∃ v', Sc W D b s m1 l v' (LT ++ [(5, X, 0, l)])) ∧ Below D wv W) → WI true W) := fun W hW => by rw [hWI]; exact ⟨fun e => (by cases e), fun _ => hW⟩
        have HW0 : Hid (WI false wv.drew) := by
          show WI false _
          rw [hWI]
          exact ⟨fun _ => (Below.refl _ _).drew, fun e => by cases e⟩
        clear hWI
        have hDv : D ≤ wv.heap.size := Nat.le_trans hDM (Nat.le_trans hMw HW1.out.size)
        refine wp_region_guarded (by kernel_rfl) (by kernel_rfl) (fun a0 V0 L a W => ∃ u : Nat → Value, a = { tmps := ((((((((a0.tmps.setIfInBounds 135 (u 0)).setIfInBounds 136 (u 1)).setIfInBounds 137 (u 2)).setIfInBounds 138 (u 3)).setIfInBounds 139 (u 4)).setIfInBounds 140 (u 5)).setIfInBounds 141 (u 6)).setIfInBounds 142 (u 7)), defers := a0.defers } ∧ Hid (WI (L 7) W) ∧ Hid (∀ i, L i = true → u i = valAt [.pointer (some ⟨b, 0, none⟩), .slice ao n cp, .string (bs X), .pointer (some ⟨b, 0, none⟩), .pointer (some ⟨b, 0, none⟩), .pointer (some ⟨b, 2, none⟩), .int .i64 (l : Int), .tuple #[]] i) ∧ Hid (L 7 = true → L 2 = true ∧ L 6 = true)) ?h0 ?hstep ?hdone
        case h0 =>
          refine ⟨valAt [undef, undef, undef, undef, undef, undef, undef, undef], ?_, HW0.out, fun _ h => (by cases h), fun h => (by cases h)⟩
          kernel_rfl
        case hstep =>
          refine ⟨?o0, ?o1, ?o2, ?o3, ?o4, ?o5, ?o6, ?o7, trivial⟩
          case o0 =>
            rintro L a' W ⟨u, rfl, HI, E, HC⟩ hL hd K hK
            simp only [List.setIfInBounds_toArray, List.set_cons_zero, List.set_cons_succ]
            refine ite_take rfl ?_
            clear hL hd
            go_simp
            refine hK _ _ ⟨withVal u 0 (.pointer (some ⟨b, 0, none⟩)), ?_, (by show WI (upd L 0 7) W; rw [upd_other L (by decide)]; exact HI.out), withVal_next E 0 _ rfl, (fun h => by rw [upd_other L (by decide)] at h; exact ⟨upd_mono _ (HC.out h).1, upd_mono _ (HC.out h).2⟩)⟩
            kernel_rfl
          case o1 =>
            rintro L a' W ⟨u, rfl, HI, E, HC⟩ hL hd K hK
            simp only [List.setIfInBounds_toArray, List.set_cons_zero, List.set_cons_succ]
            refine ite_take rfl ?_
            clear hL hd
            go_simp
            refine hK _ _ ⟨withVal u 1 (.slice ao n cp), ?_, (by show WI (upd L 1 7) W; rw [upd_other L (by decide)]; exact HI.out), withVal_next E 1 _ rfl, (fun h => by rw [upd_other L (by decide)] at h; exact ⟨upd_mono _ (HC.out h).1, upd_mono _ (HC.out h).2⟩)⟩
            kernel_rfl
          case o2 =>
            rintro L a' W ⟨u, rfl, HI, E, HC⟩ hL hd K hK
            have e1 : u 1 = .slice ao n cp := E.out 1 (hd 1 (List.elem_iff.1 (by kernel_rfl)))
            have hWL : L 7 = false := by
              cases hz : L 7 with
              | false => rfl
              | true => exact absurd (HC.out hz) (fun h => by simp [hL] at h)
            have HIF := HI.out
            rw [hWL] at HIF
            simp only [List.setIfInBounds_toArray, List.set_cons_zero, List.set_cons_succ, e1]
            refine ite_take rfl ?_
            clear hL hd
            refine oper_stringB W _ rfl M (.slice ao n cp) X rfl (HO1.out.belowM (HWF.out W HIF)) ?_
            refine hK _ _ ⟨withVal (withVal u 1 (.slice ao n cp)) 2 (.string (bs X)), ?_, (by show WI (upd L 2 7) W; rw [upd_other L (by decide)]; exact HI.out), withVal_next (withVal_same E 1 _ rfl) 2 _ rfl, (fun h => by rw [upd_other L (by decide)] at h; exact ⟨upd_mono _ (HC.out h).1, upd_mono _ (HC.out h).2⟩)⟩
            kernel_rfl
          case o3 =>
            rintro L a' W ⟨u, rfl, HI, E, HC⟩ hL hd K hK
            simp only [List.setIfInBounds_toArray, List.set_cons_zero, List.set_cons_succ]
            refine ite_take rfl ?_
            clear hL hd
            go_simp
            refine hK _ _ ⟨withVal u 3 (.pointer (some ⟨b, 0, none⟩)), ?_, (by show WI (upd L 3 7) W; rw [upd_other L (by decide)]; exact HI.out), withVal_next E 3 _ rfl, (fun h => by rw [upd_other L (by decide)] at h; exact ⟨upd_mono _ (HC.out h).1, upd_mono _ (HC.out h).2⟩)⟩
            kernel_rfl
          case o4 =>
            rintro L a' W ⟨u, rfl, HI, E, HC⟩ hL hd K hK
            have e3 : u 3 = .pointer (some ⟨b, 0, none⟩) := E.out 3 (hd 3 (List.elem_iff.1 (by kernel_rfl)))
            simp only [List.setIfInBounds_toArray, List.set_cons_zero, List.set_cons_succ, e3]
            refine ite_take rfl ?_
            clear hL hd
            go_simp
            refine hK _ _ ⟨withVal (withVal u 3 (.pointer (some ⟨b, 0, none⟩))) 4 (.pointer (some ⟨b, 0, none⟩)), ?_, (by show WI (upd L 4 7) W; rw [upd_other L (by decide)]; exact HI.out), withVal_next (withVal_same E 3 _ rfl) 4 _ rfl, (fun h => by rw [upd_other L (by decide)] at h; exact ⟨upd_mono _ (HC.out h).1, upd_mono _ (HC.out h).2⟩)⟩
            kernel_rfl
          case o5 =>
            rintro L a' W ⟨u, rfl, HI, E, HC⟩ hL hd K hK
            have e4 : u 4 = .pointer (some ⟨b, 0, none⟩) := E.out 4 (hd 4 (List.elem_iff.1 (by kernel_rfl)))
            simp only [List.setIfInBounds_toArray, List.set_cons_zero, List.set_cons_succ, e4]
            refine ite_take rfl ?_
            clear hL hd
            go_simp
            refine hK _ _ ⟨withVal (withVal u 4 (.pointer (some ⟨b, 0, none⟩))) 5 (.pointer (some ⟨b, 2, none⟩)), ?_, (by show WI (upd L 5 7) W; rw [upd_other L (by decide)]; exact HI.out), withVal_next (withVal_same E 4 _ rfl) 5 _ rfl, (fun h => by rw [upd_other L (by decide)] at h; exact ⟨upd_mono _ (HC.out h).1, upd_mono _ (HC.out h).2⟩)⟩
            kernel_rfl
          case o6 =>
            rintro L a' W ⟨u, rfl, HI, E, HC⟩ hL hd K hK
            have e5 : u 5 = .pointer (some ⟨b, 2, none⟩) := E.out 5 (hd 5 (List.elem_iff.1 (by kernel_rfl)))
            have hWL : L 7 = false := by
              cases hz : L 7 with
              | false => rfl
              | true => exact absurd (HC.out hz) (fun h => by simp [hL] at h)
            have HIF := HI.out
            rw [hWL] at HIF
            have k2' : W.cell? ⟨b, 2, none⟩ = some (.int .i64 (l : Int)) := (HWF.out W HIF).cell (p := ⟨b, 2, none⟩) HS1.out.lt |>.trans k2
            simp only [List.setIfInBounds_toArray, List.set_cons_zero, List.set_cons_succ, e5]
            refine ite_take rfl ?_
            clear hL hd
            go_simp
            refine hK _ _ ⟨withVal (withVal u 5 (.pointer (some ⟨b, 2, none⟩))) 6 (.int .i64 (l : Int)), ?_, (by show WI (upd L 6 7) W; rw [upd_other L (by decide)]; exact HI.out), withVal_next (withVal_same E 5 _ rfl) 6 _ rfl, (fun h => by rw [upd_other L (by decide)] at h; exact ⟨upd_mono _ (HC.out h).1, upd_mono _ (HC.out h).2⟩)⟩
            kernel_rfl
          case o7 =>
            rintro L a' W ⟨u, rfl, HI, E, HC⟩ hL hd K hK
            have e0 : u 0 = .pointer (some ⟨b, 0, none⟩) := E.out 0 (hd 0 (List.elem_iff.1 (by kernel_rfl)))
            have e2 : u 2 = .string (bs X) := E.out 2 (hd 2 (List.elem_iff.1 (by kernel_rfl)))
            have e6 : u 6 = .int .i64 (l : Int) := E.out 6 (hd 6 (List.elem_iff.1 (by kernel_rfl)))
            rw [hL] at HI
            have hp2 := hd 2 (List.elem_iff.1 (by kernel_rfl))
            have hp6 := hd 6 (List.elem_iff.1 (by kernel_rfl))
            simp only [List.setIfInBounds_toArray, List.set_cons_zero, List.set_cons_succ, e0, e2, e6]
            refine ite_take rfl ?_
            clear hL hd
            go_simp
            have hBF := HWF.out W HI.out
            refine (add_any D b s m1 l v LT 5 X 0 l W (HS1.out.below hBF) hL).mono ?_
            rintro e W' ⟨rfl, hsc, hb3⟩
            have hw' := HWN.out W' ⟨hsc, (hBF.mono hDv).trans hb3⟩
            refine hK _ _ ⟨withVal (withVal (withVal (withVal u 0 (.pointer (some ⟨b, 0, none⟩))) 2 (.string (bs X))) 6 (.int .i64 (l : Int))) 7 (.tuple #[]), ?_, (by show WI (upd L 7 7) W'; rw [upd_self]; exact hw'), withVal_next (withVal_same (withVal_same (withVal_same E 0 _ rfl) 2 _ rfl) 6 _ rfl) 7 _ rfl, (fun _ => ⟨upd_mono _ hp2, upd_mono _ hp6⟩)⟩
            kernel_rfl
        case hdone =>
          rintro L a' W1 hall ⟨u, rfl, HI, E, HC⟩
          rw [hall 7 (by decide)] at HI
          have e0 : u 0 = .pointer (some ⟨b, 0, none⟩) := E.out 0 (hall 0 (by decide))
          have e1 : u 1 = .slice ao n cp := E.out 1 (hall 1 (by decide))
          have e2 : u 2 = .string (bs X) := E.out 2 (hall 2 (by decide))
          have e3 : u 3 = .pointer (some ⟨b, 0, none⟩) := E.out 3 (hall 3 (by decide))
          have e4 : u 4 = .pointer (some ⟨b, 0, none⟩) := E.out 4 (hall 4 (by decide))
          have e5 : u 5 = .pointer (some ⟨b, 2, none⟩) := E.out 5 (hall 5 (by decide))
          have e6 : u 6 = .int .i64 (l : Int) := E.out 6 (hall 6 (by decide))
          have e7 : u 7 = .tuple #[] := E.out 7 (hall 7 (by decide))
          simp only [List.setIfInBounds_toArray, List.set_cons_zero, List.set_cons_succ, e0, e1, e2, e3, e4, e5, e6, e7]
          have HF := HWT.out W1 HI.out
          have HS3 : Hid (∃ v', Sc W1 D b s (p + (1 + (m - q + 1))) l v' (LT ++ [(5, X, 0, l)])) := by
            have e : p + (1 + (m - q + 1)) = m1 := by have h1 := HQ.out; have h2 := HM1.out; omega
            rw [e]
            exact HF.1
          have HB3 := Lib.hid (HBD.out.trans HF.2)
          clear HF hall E HI HC
          trace_state
          go_end0
          exact SlashE.good HRn.out (by rw [HX.out]; omega) ⟨rfl, HS3.out, HB3.out⟩
      rw [if_neg hq34] at hRr
      have hq34d : ((c.toNat : Int) == 47) = false := beq_eq_false_iff_ne.2 (fun e => hq34 (UInt8.toNat_inj.1 (by show c.toNat = 47; omega)))
      by_cases he : c = 92
      · subst he
        rw [if_pos rfl] at hRr
        rcases Nat.lt_or_ge m1 s.size with hmlt | hmge
        · have hmltI : (m1 : Int) < (s.size : Int) := by omega
          have hmd : decide ((s.size : Int) ≤ (m1 : Int)) = false := decide_eq_false (by omega)
          have hd2 := drop_byte hmlt
          rw [HT1.out] at hd2
          generalize hC2 : s[m1] = d at *
          subst hd2
          simp only [] at hRr
          by_cases hd10 : d = 10
          · subst hd10
            rw [if_pos rfl] at hRr
            have HRn := Lib.hid hRr
            have HBD := Lib.hid (HW1.out.below hDM hDb)
            clear hRr HRr
            have j1 := HS1.out.c1
            have j0 := HS1.out.c0
            go_wp2_with fail
            go_quiet (fail)
            go_wp2_with fail
            refine (fail_any _ l 202 _).mono ?_
            rintro e w3 ⟨rfl, rfl⟩
            go_wp2_with fail
            refine ⟨rfl, ?_⟩
            exact SlashE.bad (fun o k e => by rw [HRn.out] at e; cases e) ⟨rfl, HBD.out.drewN _⟩
          rw [if_neg hd10] at hRr
          have hd10d : ((d.toNat : Int) == 10) = false := beq_eq_false_iff_ne.2 (fun e => hd10 (UInt8.toNat_inj.1 (by show d.toNat = 10; omega)))
          obtain ⟨m2, hm2⟩ : ∃ m2, m2 = m1 + 1 := ⟨_, rfl⟩
          have em2 : (m1 : Int) + 1 = (m2 : Int) := by omega
          have emw2 := wrapN m2 (by omega)
          have HM2 := Lib.hid hm2
          have hm2s : m2 ≤ s.size := by omega
          clear hm2
          have hFn : (s.data.toList.drop m2).length < f' := by
            have h2 := HM2.out
            rw [List.length_drop, ← size_list]
            rw [List.length_cons, List.length_drop, ← size_list] at hFr
            omega
          have HFn := Lib.hid hFn
          have hmm2 : s.size - m2 < s.size - m := by have h2 := HM2.out; have h3 := HM1.out; omega
          have HB4 := Lib.hid hmm2
          have hB1 : q ≤ m2 := by have h2 := HM2.out; omega
          have hB5 : n + 2 + q ≤ m2 := by have h2 := HM2.out; have h3 := HM1.out; omega
          have hdlt := d.toNat_lt
          have hXl : (X.map UInt8.toNat).length ≤ 1000000000 := by rw [List.length_map, HX.out]; omega
          have hXl2 : (X.map UInt8.toNat ++ [92]).length ≤ 1000000000 := by rw [List.length_append, List.length_map, HX.out]; simp; omega
          have hdm2 : s.data.toList.drop m2 = s.data.toList.drop (m1 + 1) := by rw [HM2.out]
          rw [← hdm2] at hRr
          by_cases hd47 : d = 47
          · subst hd47
            rw [if_pos rfl] at hRr
            have HRn : Hid (Res = (slashR f' (s.data.toList.drop m2)).map fun r => ((X ++ [47]) ++ r.1, (m2 - q) + r.2)) := by
              show _ = _
              rw [hRr, map_map_slash, show m - q + 2 = m2 - q by have h2 := HM2.out; have h3 := HM1.out; omega]
            have HXM : Hid ((X ++ [47]).map UInt8.toNat = X.map UInt8.toNat ++ [47]) := by show _ = _; rw [List.map_append]; rfl
            have HX3 : Hid ((X ++ [47]).length = n + 1) := by show _ = _; rw [List.length_append, HX.out]; rfl
            clear hRr HRr hFr hFn hmm2 hdm2
            have j1 := HS1.out.c1
            have j0 := HS1.out.c0
            go_wp2_with fail
            go_quiet (fail)
            go_wp2_with fail
            go_quiet (fail)
            go_wp2_with fail
            generalize hwv : World.drewN (World.drewN (World.setCell ws _ _) _) _ = wv
            have HSv : Hid (Sc wv D b s m1 l v LT) := hwv ▸ (HS1.out.drewN _).drewN _
            have HWv : Hid (Mv M b w wv) := hwv ▸ (HW1.out.drewN _).drewN _
            have HOv : Hid (OwnB wv M (.slice ao n cp) (X.map UInt8.toNat)) := hwv ▸ (HO1.out.drewN _).drewN _
            have hMv : M ≤ wv.heap.size := Nat.le_trans hMw HWv.out.size
            clear hwv
            have i0 := HSv.out.c0
            have i1 := HSv.out.c1
            have ig := HSv.out.f 1
            go_region_law ((refine step_appB _ rfl _ _ rfl M _ (X.map UInt8.toNat) rfl (OwnB.alloc (OwnB.belowM HOv.out (Below.refl _ _).drew) _) wv.heap.size 47 rfl (by simp [go_sem]) (by omega) (by simp; omega) hXl ?_; intro v2 w3 hown2 hgr2; have HOw := Lib.hid hown2; have HG := Lib.hid hgr2; clear hown2 hgr2))
            all_goals (
              rename_i K hKK
              refine hKK _ _ ?_
              have HS3a := Lib.hid (((HSv.out.drew).alloc _).grownO HG.out (fun g e => (HOv.out.own.lt g e).1) hbM HV.out)
              have HM3a := Lib.hid (((HWv.out.alloc hMv _).drew).grown (by show M ≤ (World.alloc _ _).heap.size; simp; omega) HG.out (fun g e => (HOv.out.own.lt g e).1))
              have r1 := HS3a.out.c1
              have rg := HS3a.out.f 1
              clear i0 i1 ig
              go_wp2_with fail
              have HS3 := Lib.hid (HS3a.out.setAt m2)
              have HM3 := Lib.hid (HM3a.out.setAt 1 (.int .i64 (m2 : Int)))
              obtain ⟨a2, c2, rfl⟩ := HOw.out.form
              have hlen : (X.map UInt8.toNat ++ [47]).length = n + 1 := by simp [HX.out]
              have HO3 : Hid (OwnB (w3.setCell ⟨b, 1, none⟩ (.int .i64 (m2 : Int))) M (.slice a2 (n + 1) c2) ((X ++ [47]).map UInt8.toNat)) := by
                have h1 := HOw.out
                rw [hlen] at h1
                rw [HXM.out]
                exact OwnB.mv h1 ((Apart.refl [b] w3).sc (q := 1) _) hbM
              rw [hlen]
              clear hlen HOw HG
              go_roundw
              case rel => exact ⟨m2, f', n + 1, X ++ [47], a2, c2, rfl, HX3, HO3, by omega, hB1, hm2s, HFn, HRn, HS3, HM3⟩
              case measure => rw [HS3.out.place, HSr.out.place]; exact HB4.out)
          · have hd47d : ((d.toNat : Int) == 47) = false := beq_eq_false_iff_ne.2 (fun e => hd47 (UInt8.toNat_inj.1 (by show d.toNat = 47; omega)))
            rw [if_neg hd47] at hRr
            have HRn : Hid (Res = (slashR f' (s.data.toList.drop m2)).map fun r => ((X ++ [92, d]) ++ r.1, (m2 - q) + r.2)) := by
              show _ = _
              rw [hRr, map_map_slash, show m - q + 2 = m2 - q by have h2 := HM2.out; have h3 := HM1.out; omega]
            have HXM : Hid ((X ++ [92, d]).map UInt8.toNat = X.map UInt8.toNat ++ [92] ++ [d.toNat]) := by show _ = _; rw [List.map_append]; simp
            have HX3 : Hid ((X ++ [92, d]).length = n + 2) := by show _ = _; rw [List.length_append, HX.out]; rfl
            clear hRr HRr hFr hFn hmm2 hdm2
            have j1 := HS1.out.c1
            have j0 := HS1.out.c0
            generalize hdn : d.toNat = dn at *
            go_wp2_with fail
            go_quiet (fail)
            go_wp2_with fail
            go_quiet (fail)
            generalize hwu : World.drewN (World.drewN (World.setCell ws _ _) _) _ = wu
            have HSu : Hid (Sc wu D b s m1 l v LT) := hwu ▸ (HS1.out.drewN _).drewN _
            have HWu : Hid (Mv M b w wu) := hwu ▸ (HW1.out.drewN _).drewN _
            have HOu : Hid (OwnB wu M (.slice ao n cp) (X.map UInt8.toNat)) := hwu ▸ (HO1.out.drewN _).drewN _
            have hMu : M ≤ wu.heap.size := Nat.le_trans hMw HWu.out.size
            clear hwu j0 j1
            go_wp2_with (
              at_builtin
              go_loud (refine wpList_appB _ rfl _ _ rfl M _ (X.map UInt8.toNat) rfl (OwnB.alloc HOu.out _) wu.heap.size 92 rfl (by simp [go_sem]) (by omega) (by simp; omega) hXl ?_)
              intro v1 wv hown1 hgr1
              have HOv := Lib.hid hown1
              have HG1 := Lib.hid hgr1
              clear hown1 hgr1)
            go_wp2_with fail
            have HSv := Lib.hid ((HSu.out.alloc _).grownO HG1.out (fun g e => (HOu.out.own.lt g e).1) hbM HV.out)
            have HWv := Lib.hid ((HWu.out.alloc hMu _).grown (by simp; omega) HG1.out (fun g e => (HOu.out.own.lt g e).1))
            have hMv : M ≤ wv.heap.size := Nat.le_trans hMw HWv.out.size
            clear HG1
            have i0 := HSv.out.c0
            have i1 := HSv.out.c1
            have ig := HSv.out.f 1
            go_region_law ((refine step_appB _ rfl _ _ rfl M _ (X.map UInt8.toNat ++ [92]) rfl (OwnB.alloc (OwnB.belowM HOv.out (Below.refl _ _).drew) _) wv.heap.size dn rfl (by simp [go_sem]) (by omega) (by simp; omega) hXl2 ?_; intro v2 w3 hown2 hgr2; have HOw := Lib.hid hown2; have HG := Lib.hid hgr2; clear hown2 hgr2))
            all_goals (
              rename_i K hKK
              refine hKK _ _ ?_
              have HS3a := Lib.hid (((HSv.out.drew).alloc _).grownO HG.out (fun g e => (HOv.out.own.lt g e).1) hbM HV.out)
              have HM3a := Lib.hid (((HWv.out.alloc hMv _).drew).grown (by show M ≤ (World.alloc _ _).heap.size; simp; omega) HG.out (fun g e => (HOv.out.own.lt g e).1))
              have r1 := HS3a.out.c1
              have rg := HS3a.out.f 1
              clear i0 i1 ig
              go_wp2_with fail
              have HS3 := Lib.hid (HS3a.out.setAt m2)
              have HM3 := Lib.hid (HM3a.out.setAt 1 (.int .i64 (m2 : Int)))
              obtain ⟨a2, c2, rfl⟩ := HOw.out.form
              have hlen : (X.map UInt8.toNat ++ [92] ++ [dn]).length = n + 2 := by simp [HX.out]
              have HO3 : Hid (OwnB (w3.setCell ⟨b, 1, none⟩ (.int .i64 (m2 : Int))) M (.slice a2 (n + 2) c2) ((X ++ [92, d]).map UInt8.toNat)) := by
                have h1 := HOw.out
                rw [hlen] at h1
                rw [HXM.out]
                exact OwnB.mv h1 ((Apart.refl [b] w3).sc (q := 1) _) hbM
              rw [hlen]
              clear hlen HOw HG
              go_roundw
              case rel => exact ⟨m2, f', n + 2, X ++ [92, d], a2, c2, rfl, HX3, HO3, by omega, hB1, hm2s, HFn, HRn, HS3, HM3⟩
              case measure => rw [HS3.out.place, HSr.out.place]; exact HB4.out)
        · have hmgeI : (s.size : Int) ≤ (m1 : Int) := by omega
          have hTn : T = [] := by rw [← HT1.out]; exact List.drop_eq_nil_of_le (by rw [← size_list]; exact hmge)
          rw [hTn] at hRr
          have HRn : Hid (Res = none) := hRr
          have HBD := Lib.hid (HW1.out.below hDM hDb)
          clear hRr HRr
          have j1 := HS1.out.c1
          have j0 := HS1.out.c0
          go_wp2_with fail
          go_quiet (fail)
          go_wp2_with fail
          refine (fail_any _ l 202 _).mono ?_
          rintro e w3 ⟨rfl, rfl⟩
          go_wp2_with fail
          refine ⟨rfl, ?_⟩
          exact SlashE.bad (fun o k e => by rw [HRn.out] at e; cases e) ⟨rfl, HBD.out.drewN _⟩
      · have he92 : ((c.toNat : Int) == 92) = false := beq_eq_false_iff_ne.2 (fun e => he (UInt8.toNat_inj.1 (by show c.toNat = 92; omega)))
        rw [if_neg he] at hRr
        have HRn : Hid (Res = (slashR f' (s.data.toList.drop m1)).map fun r => ((X ++ [c]) ++ r.1, (m1 - q) + r.2)) := by
          show _ = _
          have e : (fun q : List UInt8 × Nat => (c :: q.1, 1 + q.2)) = fun q => ([c] ++ q.1, 1 + q.2) := by funext q; rfl
          rw [hRr, e, map_map_slash, HT1.out, show m - q + 1 = m1 - q by have h2 := HM1.out; omega]
        have HFn : Hid ((s.data.toList.drop m1).length < f') := by
          show _ < _
          rw [HT1.out]
          omega
        have HX3 : Hid ((X ++ [c]).length = n + 1) := by show _ = _; rw [List.length_append, HX.out]; rfl
        have hXl : (X.map UInt8.toNat).length ≤ 1000000000 := by rw [List.length_map, HX.out]; omega
        have HXM : Hid ((X ++ [c]).map UInt8.toNat = X.map UInt8.toNat ++ [c.toNat]) := by show _ = _; rw [List.map_append]; rfl
        have hmm1 : s.size - m1 < s.size - m := by have h2 := HM1.out; omega
        have HB4 := Lib.hid hmm1
        have hB5 : n + 1 + q ≤ m1 := by have h2 := HM1.out; omega
        have hclt := c.toNat_lt
        have hMx : M ≤ ws.heap.size := hMs
        clear hRr HRr hFr hmm1
        generalize hcn : c.toNat = cn at *
        go_wp2_with (
          at_builtin
          go_loud (refine wpList_appB _ rfl _ _ rfl M _ (X.map UInt8.toNat) rfl (OwnB.alloc HO1.out _) ws.heap.size cn rfl (by simp [go_sem]) (by omega) (by simp; omega) hXl ?_)
          intro v1 w3 hown1 hgr1
          have HOw := Lib.hid hown1
          have HG := Lib.hid hgr1
          clear hown1 hgr1)
        go_wp2_with fail
        have HS3 := Lib.hid ((HS1.out.alloc _).grownO HG.out (fun g e => (HO1.out.own.lt g e).1) hbM HV.out)
        have HM3 := Lib.hid ((HW1.out.alloc (by simpa using hMs) _).grown (by simp; omega) HG.out (fun g e => (HO1.out.own.lt g e).1))
        obtain ⟨a1, c1, rfl⟩ := HOw.out.form
        have hlen : (X.map UInt8.toNat ++ [cn]).length = n + 1 := by rw [List.length_append, List.length_map, HX.out]; rfl
        have HO3 : Hid (OwnB w3 M (.slice a1 (n + 1) c1) ((X ++ [c]).map UInt8.toNat)) := by
          show OwnB _ _ _ _
          have h1 := HOw.out
          rw [hlen] at h1
          rw [HXM.out]
          exact h1
        rw [hlen]
        clear hlen HOw HG
        go_roundw
        case rel => exact ⟨m1, f', n + 1, X ++ [c], a1, c1, rfl, HX3, HO3, hB5, hqm1, hm1s, HFn, HRn, HS3, HM3⟩
        case measure => rw [HS3.out.place, HSr.out.place]; exact HB4.out
    · have hgeI : (s.size : Int) ≤ (m : Int) := by omega
      have HRn : Hid (Res = none) := by
        have h1 := HRr.out
        rw [List.drop_eq_nil_of_le (by rw [← size_list]; exact hge)] at h1
        obtain ⟨f', hf'⟩ : ∃ f', f = f' + 1 := ⟨f - 1, by have := HF.out; omega⟩
        rw [hf'] at h1
        exact h1
      clear HRr
      go_wp2_with fail
      go_quiet (fail)
      go_wp2_with fail
      refine (fail_any _ l 202 _).mono ?_
      rintro e w3 ⟨rfl, rfl⟩
      go_wp2_with fail
      refine ⟨rfl, ?_⟩
      exact SlashE.bad (fun o k e => by rw [HRn.out] at e; cases e) ⟨rfl, hBr.out.drewN _⟩
end Go.Proofs.YtkaelmbgfcehhaaDoor
