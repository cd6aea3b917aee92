/- Package assoc: entries, the first loop: what the map holds, in any order. -/
import Derived.Test.YtflbhifdololfaaGreatDoorA12
import Derived.Test.YtflbhifdololfaaGreatDoorH5
import Derived.Deep.AppendLies
import Derived.Outline
namespace Go.Proofs.YtflbhifdololfaaGreatDoor
open Go.RowKit
set_option linter.unusedVariables false

/-- an element with its date: its cells -/
def encD (e : Ent) : List Value := [.int .i64 (e.when : Int), .string e.key, .int .i64 e.kind, .float .f64 0, .string e.str, .bool false]
def cellsD (E : List Ent) : List Value := (E.map encD).flatten
theorem cellsD_len (E : List Ent) : (cellsD E).length = E.length * 6 := by
  induction E with
  | nil => rfl
  | cons e E ih => simp only [cellsD, List.map_cons, List.flatten_cons, List.length_append, List.length_cons] at ih ⊢; rw [ih]; simp [encD]; omega
theorem cellsD_snoc (E : List Ent) (e : Ent) : cellsD (E ++ [e]) = cellsD E ++ encD e := by simp [cellsD]
theorem news6 (w2 : World) (o : Obj) (e : Ent) : ∀ (j : Nat) u, (encD e)[j]? = some u → ((w2.alloc o).alloc (.cells #[.int .i64 (e.when : Int), .string e.key, .int .i64 e.kind, .float .f64 0, .string e.str, .bool false] 177)).cell? ((⟨w2.heap.size + 1, 0, none⟩ : Addr).add j) = some u := by
  have h := heap_alloc_at (w2.alloc o) (.cells #[.int .i64 (e.when : Int), .string e.key, .int .i64 e.kind, .float .f64 0, .string e.str, .bool false] 177)
  rw [show (w2.alloc o).heap.size = w2.heap.size + 1 by simp] at h
  exact World.news_of_block h
theorem infoD : (Tryz.prog.info? 177).map (fun i => (i.zero, i.size, i.bytes)) = some (some (.agg #[.int .i64 0, .string .empty, .int .i64 0, .float .f64 0, .string .empty, .bool false]), 6, 64) := by kernel_rfl
theorem undD : Tryz.prog.underlying 175 = some (.slice 177) := by kernel_rfl

theorem nodup_map {α β : Type} {f : α → β} {l : List α} (h : (l.map f).Nodup) : l.Nodup := (List.pairwise_map.1 h).imp fun h e => h (congrArg f e)
theorem nodup_leN {l N : List Nat} (h : l.Nodup) (hs : ∀ x ∈ l, x ∈ N) : l.length ≤ N.length := by
  induction l generalizing N with
  | nil => simp
  | cons a l ih =>
    have ha : a ∈ N := hs a (by simp)
    have hn := List.nodup_cons.1 h
    have := ih (N := N.erase a) hn.2 (fun x hx => (List.mem_erase_of_ne (by intro e; subst e; exact hn.1 hx)).2 (hs x (List.mem_cons_of_mem _ hx)))
    rw [List.length_erase_of_mem ha] at this
    have hp : 0 < N.length := List.length_pos_of_mem ha
    simp; omega
theorem seen_left {M E : List Ent} (hb : (M.map (·.born)).Nodup) (hE : ∀ e ∈ E, e ∈ M) (hn : (E.map (·.born)).Nodup) (hl : leftOf' (mes M) (E.map (·.born)).toArray = #[]) : E.Perm M := by
  refine (List.perm_ext_iff_of_nodup (nodup_map hn) (nodup_map hb)).2 fun e => ⟨hE e, fun he => ?_⟩
  have h1 : ¬ e.me ∈ (leftOf' (mes M) (E.map (·.born)).toArray).toList := by rw [hl]; simp
  have h2 : e.me ∈ (mes M).toList := by rw [mes_list]; exact List.mem_map_of_mem he
  unfold leftOf' at h1
  simp only [Array.toList_filter, List.mem_filter, not_and] at h1
  have h3 := h1 h2
  simp at h3
  obtain ⟨x, hx, hxb⟩ := h3
  have hxM := hE x hx
  have : x = e := by
    obtain ⟨i, hi⟩ := List.mem_iff_getElem.1 hxM
    obtain ⟨j, hj⟩ := List.mem_iff_getElem.1 he
    obtain ⟨hi1, hi2⟩ := hi
    obtain ⟨hj1, hj2⟩ := hj
    have hij : i = j := by
      rcases Nat.lt_trichotomy i j with h | h | h
      · have := List.pairwise_iff_getElem.1 hb i j (by simpa using hi1) (by simpa using hj1) h
        simp [hi2, hj2] at this
        exact absurd hxb this
      · exact h
      · have := List.pairwise_iff_getElem.1 hb j i (by simpa using hj1) (by simpa using hi1) h
        simp [hi2, hj2] at this
        exact absurd hxb.symm this
    subst hij
    rw [← hi2, ← hj2]
  rw [← this]; exact hx
/-- an entry: its cells -/
def encN (e : Ent) : List Value := [.string e.key, .int .i64 e.kind, .float .f64 0, .string e.str, .bool false]
def cellsN (E : List Ent) : List Value := (E.map encN).flatten
theorem cellsN_snoc (E : List Ent) (e : Ent) : cellsN (E ++ [e]) = cellsN E ++ encN e := by simp [cellsN]
theorem infoN : (Tryz.prog.info? 57).map (fun i => (i.zero, i.size, i.bytes)) = some (some (.agg #[.string .empty, .int .i64 0, .float .f64 0, .string .empty, .bool false]), 5, 56) := by kernel_rfl
theorem undN : Tryz.prog.underlying 54 = some (.slice 57) := by kernel_rfl
theorem newsN (w2 : World) (o : Obj) (e : Ent) : ∀ (j : Nat) u, (encN e)[j]? = some u → ((w2.alloc o).alloc (.cells #[.string e.key, .int .i64 e.kind, .float .f64 0, .string e.str, .bool false] 57)).cell? ((⟨w2.heap.size + 1, 0, none⟩ : Addr).add j) = some u := by
  have h := heap_alloc_at (w2.alloc o) (.cells #[.string e.key, .int .i64 e.kind, .float .f64 0, .string e.str, .bool false] 57)
  rw [show (w2.alloc o).heap.size = w2.heap.size + 1 by simp] at h
  exact World.news_of_block h
/-- the row v holds these elements, with their dates -/
def RowD (w : World) (v : Value) (M : List Ent) : Prop := ∃ a n c, v = .slice a n c ∧ n = M.length ∧ (0 < M.length → ∃ g, a = some ⟨g, 0, none⟩ ∧ g < w.heap.size ∧ ∀ (j : Nat) x, M[j]? = some x → ∀ (i : Nat) u, (encD x)[i]? = some u → w.cell? ⟨g, j * 6 + i, none⟩ = some u)
theorem RowD.keep {w w' : World} {v : Value} {M : List Ent} (h : RowD w v M) (hz : w.heap.size ≤ w'.heap.size) (hk : ∀ g, g < w.heap.size → w'.heap[g]? = w.heap[g]?) : RowD w' v M := by
  obtain ⟨a, n, c, h1, h2, h3⟩ := h
  refine ⟨a, n, c, h1, h2, fun h0 => ?_⟩
  obtain ⟨g, e, hg, hc⟩ := h3 h0
  exact ⟨g, e, by omega, fun j x hj i u hu => by
    have := hc j x hj i u hu
    simp only [World.cell?, hk g hg] at this ⊢
    exact this⟩
/-- what slices.SortFunc does to a row of dated elements -/
def SortOk (M : List Ent) (D : Nat) : Prop := ∀ (W : World) (v : Value) (E : List Ent), W.ownsRow D 177 6 v E.length (cellsD E) → E.Perm M →
  Calls Tryz.prog 101 #[v, .func (.func 102) #[] #[]] W fun e w' => e = .returned (.tuple #[]) ∧ RowD w' v M ∧ Apart v.ownBlock.toList W w'

set_option maxHeartbeats 8000000 in
set_option maxRecDepth 100000 in
theorem entries_any {w : World} {p m clk c : Nat} {M : List Ent} (hA : AInv w p m clk M c) (hlen : M.length ≤ 100000) (hS : SortOk M (w.heap.size + 1)) :
    Calls Tryz.prog 66 #[.pointer (some ⟨p, 0, none⟩)] w fun e w' => (∃ v, e = .returned v ∧ w'.ownsRow w.heap.size 57 5 v M.length (cellsN M)) ∧ Below w.heap.size w w' := by
  have HS := Lib.hid hS
  clear hS
  have hp := hA.arr.ltp
  have hms := hA.arr.ltm
  have h0 := hA.arr.c0
  have hM := hA.arr.map
  have hrg := run_range_map (P := Tryz.prog) w 125 _ _ m undMap (mes M) c hA.arr.map
  have hbn : (M.map (·.born)).Nodup := (List.pairwise_map.2 hA.borns).imp fun h e => by omega
  have hbo : ∀ e ∈ (mes M).toList, e.born < c := by
    intro e he
    rw [mes_list] at he
    obtain ⟨x, hx, rfl⟩ := List.mem_map.1 he
    exact hA.bound x hx
  have hbn2 : ((mes M).toList.map (·.born)).Nodup := by
    rw [mes_list, List.map_map]; exact hbn
  have HM := Lib.hid hM
  have HBN := Lib.hid hbn
  have HBN2 := Lib.hid hbn2
  have BO := Lib.hid hbo
  have HA := Lib.hid hA
  obtain ⟨i0, hi, hz0, hz1, hz2⟩ := info_parts infoD
  have HI := Lib.hid hi
  have HZ0 := Lib.hid hz0
  have HZ1 := Lib.hid hz1
  have HZ2 := Lib.hid hz2
  clear hA hM hbn hbo hbn2 hi hz0 hz1 hz2
  go_enter Tryz.func66, Tryz.ntmps66
  go_wp2
  go_loopw [3] (fun v3 wr => ∃ E : List Ent, Hid (∀ e ∈ E, e ∈ M) ∧ Hid ((E.map (·.born)).Nodup) ∧ E.length ≤ M.length ∧ Hid (wr.ownsRow (w.heap.size + 1) 177 6 v3 E.length (cellsD E)) ∧ wr.heap[w.heap.size]? = some (.mapIter (some m) c (E.map (·.born)).toArray c) ∧ Below w.heap.size w wr)
    (fun v wr => (leftOf' (mes M) (wr.iterSeen w.heap.size)).size)
  case atStart => exact ⟨[], (fun e he => by cases he), .nil, Nat.zero_le _, World.ownsRow_nil _ _ _ _, heap_alloc_at _ _, (Below.refl _ _).alloc (Nat.le_refl _) _⟩
  case round =>
    obtain ⟨E, HE, HN, hEl, HO, hr, hbw⟩ := hrel
    have hrl := lt_of_heap hr
    obtain ⟨seen, hseen⟩ : ∃ seen, seen = (E.map (·.born)).toArray := ⟨_, rfl⟩
    rw [← hseen] at hr
    have HR := Lib.hid hr
    have HB := Lib.hid hbw
    have HSn := Lib.hid hseen
    have HIt : Hid (wr.iterSeen w.heap.size = seen) := by show wr.iterSeen w.heap.size = seen; simp [World.iterSeen, hr]
    have HMr : Hid (wr.heap[m]? = some (.map (mes M) c)) := (hbw.block m hms).trans HM.out
    clear hr hbw hseen
    by_cases hl : leftOf' (mes M) seen = #[]
    · have HL := Lib.hid hl
      clear hl
      have HPm : Hid (E.Perm M) := seen_left HBN.out HE.out HN.out (by rw [← HSn.out]; exact HL.out)
      go_wp2_with (at_next; refine wpList_next_over _ rfl _ rfl w.heap.size m c c seen (mes M) c rfl HR.out HMr.out BO.out HL.out ?_)
      have HSo := Lib.hid (HS.out wr u3 E HO.out HPm.out)
      have HO3 := Lib.hid HO.out
      go_wp2_with fail
      refine HSo.out.mono ?_
      rintro e w2 ⟨rfl, hrow, hap⟩
      have hb2 : Below w.heap.size w w2 := HB.out.trans (hap.below HB.out.size (fun y hy => by have := (HO3.out.lt y (by simpa using hy)).1; omega))
      obtain ⟨ra, rn, rc, rfl, hrn, hrc⟩ := hrow
      have HRw := Lib.hid (show RowD w2 (.slice ra rn rc) M from ⟨ra, rn, rc, rfl, hrn, hrc⟩)
      have HRn := Lib.hid hrn
      have HB2 := Lib.hid hb2
      have hrB : rn ≤ 100000 := by omega
      obtain ⟨i1, hi1, hy0, hy1, hy2⟩ := info_parts infoN
      have HI1 := Lib.hid hi1
      have HY0 := Lib.hid hy0
      have HY1 := Lib.hid hy1
      have HY2 := Lib.hid hy2
      clear hap hb2 hrn hrc HSo hi1 hy0 hy1 hy2
      go_wp2_with fail
      go_loopw [6, 38] (fun v6 v38 wr2 => ∃ k : Nat, v38 = .int .i64 (k : Int) ∧ k ≤ rn ∧ Hid (Below w2.heap.size w2 wr2) ∧ Hid (wr2.ownsRow w2.heap.size 57 5 v6 k (cellsN (M.take k)))) (fun _ v38 _ => rn - natI v38)
      case atStart => exact ⟨0, rfl, Nat.zero_le _, Below.refl _ _, World.ownsRow_nil _ _ _ _⟩
      case round =>
        obtain ⟨k, rfl, hk, HBr, HOr⟩ := hrel
        by_cases hlt : k < rn
        · have hltI : (k : Int) < (rn : Int) := by omega
          obtain ⟨x, hx⟩ : ∃ x, M[k]? = some x := ⟨_, List.getElem?_eq_getElem (by rw [← HRn.out]; exact hlt)⟩
          obtain ⟨_, _, _, e0, _, hcl⟩ := HRw.out
          injection e0 with e1 e2 e3
          subst e1
          obtain ⟨g, hg, hgl, hcl⟩ := hcl (by rw [← HRn.out]; omega)
          have hcc := fun i u hu => (HBr.out.cell (p := ⟨g, k * 6 + i, none⟩) hgl).trans (hcl k x hx i u hu)
          have c0 : wr.cell? ⟨g, k * 6, none⟩ = some (.int .i64 (x.when : Int)) := hcc 0 _ rfl
          have c1 : wr.cell? ⟨g, k * 6 + 1, none⟩ = some (.string x.key) := hcc 1 _ rfl
          have c2 : wr.cell? ⟨g, k * 6 + 2, none⟩ = some (.int .i64 x.kind) := hcc 2 _ rfl
          have c3 : wr.cell? ⟨g, k * 6 + 3, none⟩ = some (.float .f64 0) := hcc 3 _ rfl
          have c4 : wr.cell? ⟨g, k * 6 + 4, none⟩ = some (.string x.str) := hcc 4 _ rfl
          have c5 : wr.cell? ⟨g, k * 6 + 5, none⟩ = some (.bool false) := hcc 5 _ rfl
          subst hg
          have HX := Lib.hid hx
          have hgr : g < wr.heap.size := Nat.lt_of_lt_of_le hgl HBr.out.size
          clear hcl hcc hx e2 e3
          go_wp2_with (at_builtin; go_loud (refine wpList_append_lies _ rfl _ _ 54 rfl w2.heap.size 57 i1 (.agg #[.string .empty, .int .i64 0, .float .f64 0, .string .empty, .bool false]) 5 56 undN HI1.out HY0.out HY1.out HY2.out rfl (by decide) u6 k (cellsN (M.take k)) rfl ((HOr.out.alloc _).alloc _) ⟨wr.heap.size + 1, 0, none⟩ 1 1 (encN x) rfl rfl (newsN wr _ x) (by simp [encN, Value.oneCell']) (Nat.zero_lt_one) (by unfold maxLen; omega) (by omega) (by have := HBr.out.size; simp; omega) _ rfl ?_); intro g2 cap2 w3 hown hgrow hat hlt3)
          have hb3 : Below w2.heap.size w2 w3 := ((HBr.out.alloc HBr.out.size _).alloc (by have := HBr.out.size; simp; omega) _).grown hgrow (by have := HBr.out.size; simp; omega) (fun y hy => (HOr.out.lt y hy).1)
          have HO4 : Hid (w3.ownsRow w2.heap.size 57 5 (.slice (some ⟨g2, 0, none⟩) (k + 1) cap2) (k + 1) (cellsN (M.take (k + 1)))) := by
            have e : M.take (k + 1) = M.take k ++ [x] := by rw [List.take_add_one, HX.out]; rfl
            show World.ownsRow _ _ _ _ _ _ _
            rw [e, cellsN_snoc]; exact hown
          have HB4 := Lib.hid hb3
          clear hown hgrow hat hlt3 hb3
          go_wp2_with fail
          go_roundw
          case rel => exact ⟨k + 1, rfl, by omega, HB4.out, HO4.out⟩
          case measure => simp only [natI]; omega
        · obtain rfl : k = rn := by omega
          have hltI : (k : Int) ≤ (k : Int) := Int.le_refl _
          go_wp2_with fail
          go_ret
          refine ⟨⟨_, rfl, ?_⟩, HB2.out.trans (HBr.out.mono HB2.out.size)⟩
          have h := HOr.out
          rw [HRn.out, List.take_length] at h
          exact own_baseI h HB2.out.size
    · have HL := Lib.hid hl
      clear hl
      go_wp2_with (first
        | (at_next; refine wpList_next_step _ rfl _ rfl w.heap.size m c c seen (mes M) c rfl HR.out HMr.out BO.out BO.out HL.out ?_; intro e w1 w2 he hw1 hw2
           obtain ⟨x, hxM, hxe⟩ : ∃ x ∈ M, x.me = e := by
             have h := (left_mem he).1
             rw [mes_list] at h
             obtain ⟨x, hx, hxe⟩ := List.mem_map.1 h
             exact ⟨x, hx, hxe⟩
           have HX := Lib.hid hxM
           have HXE := Lib.hid hxe
           have HE1 := Lib.hid he
           have hh1 : w1.heap = wr.heap := by rcases hw1 with rfl | rfl <;> rfl
           have HR2 := Lib.hid (show w2.heap[w.heap.size]? = some (.mapIter (some m) c (seen.push e.born) c) by rw [hw2]; exact setObj'_same _ _ _ (by rw [hh1]; exact hrl))
           have hB2 : Below w.heap.size w w2 := by rw [hw2]; rcases hw1 with rfl | rfl; exact Below.setObj' HB.out _ (Nat.le_refl _) _; exact Below.setObj' HB.out.drew _ (Nat.le_refl _) _
           have HO2 : Hid (w2.ownsRow (w.heap.size + 1) 177 6 u3 E.length (cellsD E)) := own_keepI HO.out fun g hg => by
             rw [hw2, setObj'_other _ _ _ _ (by have := (HO.out.lt g hg).1; omega), hh1]
           have HM2 := Lib.hid ((hB2.block m hms).trans HM.out)
           have HB2 := Lib.hid hB2
           have hz2 : w.heap.size < w2.heap.size := lt_of_heap HR2.out
           have HV : Hid (e.val = .agg #[.int .i64 (x.when : Int), .int .i64 x.kind, .float .f64 0, .string x.str, .pointer none]) := by show _ = _; rw [← HXE.out]; rfl
           have HKy : Hid (e.key = .string x.key) := by show _ = _; rw [← HXE.out]; rfl
           have HBo : Hid (e.born = x.born) := by show _ = _; rw [← HXE.out]; rfl
           clear hxM hxe he hw1 hw2 hh1 hB2)
        | (refine wpList_entry _ rfl _ rfl w.heap.size m c c seen (mes M) e rfl HR2.out HM2.out (find_born' _ HBN2.out (left_mem HE1.out).1) ?_; rw [HV.out, HKy.out])
        | (at_builtin; go_loud (refine wpList_append_lies _ rfl _ _ 175 rfl (w.heap.size + 1) 177 i0 (.agg #[.int .i64 0, .string .empty, .int .i64 0, .float .f64 0, .string .empty, .bool false]) 6 64 undD HI.out HZ0.out HZ1.out HZ2.out rfl (by decide) u3 E.length (cellsD E) rfl ((HO2.out.alloc _).alloc _) ⟨w2.heap.size + 1, 0, none⟩ 1 1 (encD x) rfl rfl (news6 w2 _ x) (by simp [encD, Value.oneCell']) (Nat.zero_lt_one) (by unfold maxLen; omega) (by omega) (by simp; omega) _ rfl ?_); intro g cap w3 hown hgrow hat hlt3))
      have hxn : x.born ∉ E.map (·.born) := by
        have h := (left_mem HE1.out).2
        rw [HBo.out, HSn.out] at h
        intro hm
        simp at h
        obtain ⟨y, hy, hyb⟩ := List.mem_map.1 hm
        exact h y hy hyb
      have hN2 : ((E ++ [x]).map (·.born)).Nodup := by
        rw [List.map_append, List.nodup_append]
        exact ⟨HN.out, by simp, fun a ha b hb e => by simp at hb; rw [e, hb] at ha; exact hxn ha⟩
      have hE2 : ∀ y ∈ E ++ [x], y ∈ M := fun y hy => by
        rcases List.mem_append.1 hy with hy | hy
        · exact HE.out y hy
        · simp at hy; rw [hy]; exact HX.out
      have hl2 : (E ++ [x]).length ≤ M.length := by
        have h := nodup_leN hN2 (N := M.map (·.born)) (fun b hb => by
          obtain ⟨y, hy, rfl⟩ := List.mem_map.1 hb
          exact List.mem_map_of_mem (hE2 y hy))
        simpa using h
      have hseen2 : ((E ++ [x]).map (·.born)).toArray = seen.push e.born := by rw [HSn.out, HBo.out]; simp
      have hb3 : Below w.heap.size w w3 := ((HB2.out.alloc HB2.out.size _).alloc (by have := HB2.out.size; simp; omega) _).grown hgrow (by simp; omega) (fun y hy => by have := (HO2.out.lt y hy).1; omega)
      have hit : w3.heap[w.heap.size]? = some (.mapIter (some m) c (seen.push e.born) c) := by
        refine (hgrow.block _ (by simp; omega) (fun h => by have := (HO2.out.lt _ h.symm).1; omega)).trans ?_
        rw [heap_alloc_lt _ _ _ (by simp; omega), heap_alloc_lt _ _ _ hz2]; exact HR2.out
      refine ⟨⟨E ++ [x], hE2, hN2, hl2, ?_, by rw [hseen2]; exact hit, hb3⟩, ?_⟩
      · show w3.ownsRow _ _ _ _ _ _
        rw [cellsD_snoc, List.length_append]; exact hown
      · rw [HIt.out, show w3.iterSeen w.heap.size = seen.push e.born by simp only [World.iterSeen, hit]]
        exact left_lt HE1.out
end Go.Proofs.YtflbhifdololfaaGreatDoor
