/- thresherref19.Lines: the lines of a text, in a row of the call's own. -/
import Derived.Test.YtmhjfdnpmfhmjaaDoorS21
namespace Go.Proofs.YtmhjfdnpmfhmjaaDoor
open Go.RowKit
set_option linter.unusedVariables false

def cellsT (L : List Str) : List Value := L.map fun l => Value.string (B l)
theorem cellsT_length (L : List Str) : (cellsT L).length = L.length := by simp [cellsT]
/-- v is a row of the call's own (from block base on) that holds these texts -/
structure OwnT (w : World) (base : Nat) (v : Value) (L : List Str) : Prop where
  own : w.ownsRow base 9 1 v L.length (cellsT L)
theorem infoT : (Tryd.prog.info? 9).map (fun i => (i.zero, i.size, i.bytes)) = some (some (.string .empty), 1, 16) := by kernel_rfl
theorem undT : Tryd.prog.underlying 38 = some (.slice 9) := by kernel_rfl
theorem OwnT.nil (w : World) (base : Nat) : OwnT w base (.slice none 0 0) [] := ⟨World.ownsRow_nil w base _ _⟩
theorem OwnT.alloc {w : World} {base : Nat} {v : Value} {L : List Str} (h : OwnT w base v L) (o : Obj) : OwnT (w.alloc o) base v L := ⟨h.own.alloc o⟩

section
variable (w : World) {ops : Array Oper} {rest : List Oper} {o : Oper} {a : Act} {Q : Exit → Act → World → Prop}
theorem wpList_appT (hg : o.guard = none) (s x : Operand) (ho : o.op = .call { callee := .builtin .append, args := #[s, x], argTypes := #[38, 38] })
    (base : Nat) (v : Value) (L : List Str) (hs : a.eval s = v) (hown : OwnT w base v L) (p : Nat) (y : Str) (hx : a.eval x = .slice (some ⟨p, 0, none⟩) 1 1) (hc : w.cell? ⟨p, 0, none⟩ = some (.string (B y)))
    (hbase : base ≤ w.heap.size) (hlen : L.length ≤ 1000000000)
    (hK : ∀ v' w', OwnT w' base v' (L ++ [y]) → w.grownBy w' v.ownBlock → wpList Tryd.prog ops Q rest (a.put o.dst v') w') : wpList Tryd.prog ops Q (o :: rest) a w := by
  obtain ⟨i0, hi, hz0, hz1, hz2⟩ := info_parts infoT
  refine wpList_append_own w hg s x 38 ho base 9 i0 (.string .empty) 1 16 undT hi hz0 hz1 hz2 rfl (by decide) v L.length (cellsT L) hs hown.own ⟨p, 0, none⟩ 1 1 [.string (B y)] hx rfl ?_ ?_ ?_ ?_ hbase ?_
  · intro j u hj
    cases j with
    | zero => simp at hj; subst hj; simpa [Addr.add] using hc
    | succ j => simp at hj
  · simp [Value.oneCell']
  · simp [maxLen]; omega
  · omega
  · intro v' w' ho hgr _
    refine hK v' w' ⟨?_⟩ hgr
    have e : cellsT (L ++ [y]) = cellsT L ++ [.string (B y)] := by simp [cellsT]
    rw [e]; simpa using ho
end

theorem cutNl_cons (c : UInt8) (t : Str) : cutNl (c :: t) = if c = 10 then [] :: cutNl t else (c :: (cutNl t).headD []) :: (cutNl t).tail := rfl
theorem cut_line {p t : Str} (h : 10 ∉ p) : cutNl (p ++ 10 :: t) = p :: cutNl t := by
  induction p with
  | nil => show cutNl (10 :: t) = _; rw [cutNl_cons, if_pos rfl]
  | cons c p ih =>
    have hc : c ≠ 10 := fun e => h (by rw [e]; simp)
    show cutNl (c :: (p ++ 10 :: t)) = _
    rw [cutNl_cons, if_neg hc, ih (fun e => h (List.mem_cons_of_mem _ e))]
    rfl
theorem cut_last {p : Str} (h : 10 ∉ p) : cutNl p = [p] := by
  induction p with
  | nil => rfl
  | cons c p ih =>
    have hc : c ≠ 10 := fun e => h (by rw [e]; simp)
    rw [cutNl_cons, if_neg hc, ih (fun e => h (List.mem_cons_of_mem _ e))]
    rfl
/-- the piece from f up to k -/
def seg (s : Str) (f k : Nat) : Str := (s.drop f).take (k - f)
theorem seg_B (s : ByteArray) (f k : Nat) : s.extract f k = B (seg s.data.toList f k) := by
  apply ByteArray.ext
  show (s.extract f k).data = (seg s.data.toList f k).toArray
  apply Array.ext'
  rw [ByteArray.data_extract, Array.toList_extract]
  simp [seg, List.extract_eq_take_drop]
theorem seg_succ {s : Str} {f k : Nat} {c : UInt8} (hf : f ≤ k) (h : s[k]? = some c) : seg s f (k + 1) = seg s f k ++ [c] := by
  unfold seg
  rw [show k + 1 - f = (k - f) + 1 by omega, List.take_add_one, List.getElem?_drop, show f + (k - f) = k by omega, h]
  rfl
theorem seg_split {s : Str} {f k : Nat} (hf : f ≤ k) : s.drop f = seg s f k ++ s.drop k := by
  unfold seg
  have : s.drop k = (s.drop f).drop (k - f) := by rw [List.drop_drop]; congr 1; omega
  rw [this, List.take_append_drop]
theorem cut_step {s : Str} {f k : Nat} (hf : f ≤ k) (hn : 10 ∉ seg s f k) (h : s[k]? = some 10) : cutNl (s.drop f) = seg s f k :: cutNl (s.drop (k + 1)) := by
  rw [seg_split hf]
  have : s.drop k = 10 :: s.drop (k + 1) := by
    obtain ⟨h1, h2⟩ := List.getElem?_eq_some_iff.1 h
    rw [List.drop_eq_getElem_cons h1, h2]
  rw [this, cut_line hn]

theorem lines_at {s : Str} {D : List Str} {f : Nat} (hd : D ++ cutNl (s.drop f) = cutNl s) (hn : 10 ∉ seg s f s.length) (hf : f ≤ s.length) :
    linesL s = if s.length ≤ f then D else D ++ [seg s f s.length] := by
  have he : s.drop f = seg s f s.length := by rw [seg_split hf, List.drop_length, List.append_nil]
  rw [he, cut_last hn] at hd
  unfold linesL
  rw [← hd]
  have hz : (seg s f s.length = []) ↔ s.length ≤ f := by rw [← he]; exact List.drop_eq_nil_iff
  by_cases h : s.length ≤ f
  · rw [if_pos h, if_pos (by rw [hz.2 h]; simp)]; simp
  · rw [if_neg h, if_neg (by simp; exact fun e => h (hz.1 e))]

set_option maxHeartbeats 8000000 in
set_option maxRecDepth 1000000 in
theorem Lines_any (s : ByteArray) (w : World) (hs : s.size ≤ 900000000) :
    Calls Tryd.prog 13 #[.string s] w fun e w' => ∃ v, e = .returned v ∧ OwnT w' w.heap.size v (linesL s.data.toList) ∧ Below w.heap.size w w' := by
  have hsI : (s.size : Int) ≤ 900000000 := by omega
  have HSZ := Lib.hid (show s.data.toList.length = s.size by simp)
  go_enter Tryd.func13, Tryd.ntmps13
  go_wp2_with fail
  go_loopw [3, 4, 5] (fun o fv i wr => ∃ (f k : Nat) (D : List Str), fv = .int .i64 (f : Int) ∧ i = .int .i64 (k : Int) ∧ f ≤ k ∧ k ≤ s.size ∧ D.length ≤ f ∧ Hid (D ++ cutNl (s.data.toList.drop f) = cutNl s.data.toList) ∧ Hid (10 ∉ seg s.data.toList f k) ∧ Hid (OwnT wr w.heap.size o D) ∧ Hid (Below w.heap.size w wr)) (fun _ _ i _ => s.size - natOf i)
  case atStart => exact ⟨0, 0, [], rfl, rfl, Nat.le_refl _, Nat.zero_le _, Nat.zero_le _, rfl, (fun h => by cases h), OwnT.nil _ _, Below.refl _ _⟩
  case round =>
    obtain ⟨f, k, D, rfl, rfl, hf, hk, hD, HE, HN, HO, HB⟩ := hrel
    rcases Nat.lt_or_ge k s.size with hlt | hge
    · have hI : (k : Int) < (s.size : Int) := by omega
      obtain ⟨c, hc⟩ : ∃ c, s.data.toList[k]? = some c := ⟨s.data.toList[k]'(by rw [HSZ.out]; exact hlt), List.getElem?_eq_getElem _⟩
      have hget : s[k]'hlt = c := by
        obtain ⟨h1, h2⟩ := List.getElem?_eq_some_iff.1 hc
        rw [← h2]; rfl
      have HC := Lib.hid hc
      clear hc
      by_cases h10 : c = 10
      · subst h10
        have HE1 : Hid ((D ++ [seg s.data.toList f k]) ++ cutNl (s.data.toList.drop (k + 1)) = cutNl s.data.toList) := by
          show _ = _
          rw [← HE.out, cut_step hf HN.out HC.out]; simp
        have HN1 : Hid (10 ∉ seg s.data.toList (k + 1) (k + 1)) := by
          show _ ∉ _
          unfold seg; rw [Nat.sub_self]; simp
        have hgs := HB.out.size
        have hLen : D.length ≤ 1000000000 := by omega
        clear HE HN HC
        go_wp2_with (
          at_builtin
          go_loud (refine wpList_appT _ rfl _ _ rfl w.heap.size _ D rfl (OwnT.alloc HO.out _) wr.heap.size (seg s.data.toList f k) rfl (by rw [← seg_B]; simp [go_sem]) (by simp; omega) (by omega) ?_)
          intro v1 w3 hown1 hgr1
          have HO1 := Lib.hid hown1
          have HB3 := Lib.hid ((HB.out.alloc hgs _).grown hgr1 (by simp; omega) (fun x hx => (HO.out.own.lt x hx).1))
          clear hown1 hgr1)
        go_wp2_with fail
        go_roundw
        case rel => exact ⟨k + 1, k + 1, D ++ [seg s.data.toList f k], rfl, rfl, Nat.le_refl _, by omega, by simp; omega, HE1, HN1, HO1, HB3⟩
        case measure => simp only [natOf]; omega
      · have hgI : ¬ (c.toNat : Int) = 10 := by
          intro e; exact h10 (UInt8.toNat_inj.1 (by show c.toNat = 10; omega))
        have HN1 : Hid (10 ∉ seg s.data.toList f (k + 1)) := by
          show _ ∉ _
          rw [seg_succ hf HC.out]
          intro h
          rcases List.mem_append.1 h with h | h
          · exact HN.out h
          · simp at h; exact h10 h.symm
        clear HN HC h10
        go_wp2_with fail
        go_roundw
        case rel => exact ⟨f, k + 1, D, rfl, rfl, by omega, by omega, hD, HE, HN1, HO, HB⟩
        case measure => simp only [natOf]; omega
    · obtain rfl : k = s.size := by omega
      have hL := lines_at HE.out (by rw [HSZ.out]; exact HN.out) (by rw [HSZ.out]; exact hf)
      rw [HSZ.out] at hL
      have HL := Lib.hid hL
      clear hL
      by_cases hfs : f < s.size
      · have hfI : (f : Int) < (s.size : Int) := by omega
        have hgs := HB.out.size
        have hLen : D.length ≤ 1000000000 := by omega
        go_wp2_with (
          at_builtin
          go_loud (refine wpList_appT _ rfl _ _ rfl w.heap.size _ D rfl (OwnT.alloc HO.out _) wr.heap.size (seg s.data.toList f s.size) rfl (by rw [← seg_B]; simp [go_sem]) (by simp; omega) (by omega) ?_)
          intro v1 w3 hown1 hgr1
          have HO1 := Lib.hid hown1
          have HB3 := Lib.hid ((HB.out.alloc hgs _).grown hgr1 (by simp; omega) (fun x hx => (HO.out.own.lt x hx).1))
          clear hown1 hgr1)
        go_wp2_with fail
        go_ret
        refine ⟨_, rfl, ?_, HB3.out⟩
        rw [HL.out, if_neg (by omega)]; exact HO1.out
      · have hfI : (s.size : Int) ≤ (f : Int) := by omega
        go_wp2_with fail
        go_ret
        refine ⟨_, rfl, ?_, HB.out⟩
        rw [HL.out, if_pos (by omega)]; exact HO.out
end Go.Proofs.YtmhjfdnpmfhmjaaDoor
