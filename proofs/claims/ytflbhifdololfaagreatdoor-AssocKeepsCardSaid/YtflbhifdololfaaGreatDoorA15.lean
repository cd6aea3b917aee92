/- thresherlaw08.AssocKeeps, walked (printed by mka15.py). -/
import Derived.Test.YtflbhifdololfaaGreatDoorA14
import Derived.Test.YtflbhifdololfaaGreatDoorA16
import Derived.Test.YtflbhifdololfaaGreatDoorA3
namespace Go.Proofs.YtflbhifdololfaaGreatDoor
open Go.RowKit
set_option linter.unusedVariables false

theorem tot_empty {w : World} {p m clk c : Nat} (h : AInv w p m clk [] c) : Tot 1 w p 0 := ⟨m, clk, #[], c, fun _ => 0, h.arr, by simp, by simp [sumAll], by simp⟩
theorem del_in {M : List Ent} {k : ByteArray} (hn : (M.map (·.key)).Nodup) (h : k ∈ M.map (·.key)) : (delE M k).length + 1 = M.length ∧ k ∉ (delE M k).map (·.key) := by
  have hk := ixE_key (M := M) (k := k)
  unfold delE
  cases hx : ixE M k with
  | none => rw [hx, decide_eq_true h] at hk; cases hk
  | some j =>
    obtain ⟨e, he, hke⟩ := ixE_some hx
    obtain ⟨hj, hje⟩ := List.getElem?_eq_some_iff.1 he
    dsimp only
    refine ⟨by rw [List.length_eraseIdx, if_pos hj]; omega, ?_⟩
    intro hm
    obtain ⟨x, hx2, hkx⟩ := List.mem_map.1 hm
    obtain ⟨i, hi1, hi2, hi3⟩ := List.mem_eraseIdx_iff_getElem.1 hx2
    have hij := List.pairwise_iff_getElem.1 hn
    rcases Nat.lt_or_ge i j with h1 | h1
    · have := hij i j (by simpa using hi1) (by simpa using hj) h1
      simp [hje, hi3, hke, hkx] at this
    · have := hij j i (by simpa using hj) (by simpa using hi1) (by omega)
      simp [hje, hi3, hke, hkx] at this
theorem del_out {M : List Ent} {k : ByteArray} (h : k ∉ M.map (·.key)) : delE M k = M := by
  have hk := ixE_key (M := M) (k := k)
  unfold delE
  cases hx : ixE M k with
  | none => rfl
  | some j => rw [hx, decide_eq_false h] at hk; cases hk
theorem AInv.keep {w w' : World} {p m clk c : Nat} {M : List Ent} (h : AInv w p m clk M c) (hp : w'.heap[p]? = w.heap[p]?) (hm : w'.heap[m]? = w.heap[m]?) : AInv w' p m clk M c :=
  ⟨⟨hp.trans h.arr.cells, hm.trans h.arr.map⟩, h.keys, h.whens, h.last, h.borns, h.bound, h.len⟩
/-- a row of strings is no block of the array's -/
theorem row_far {w : World} {p m clk c D n k : Nat} {M : List Ent} {v : Value} {xs : List Value} (h : AInv w p m clk M c) (hr : w.ownsRow D 9 k v n xs) : ∀ g, v.ownBlock = some g → g ≠ p ∧ g ≠ m := by
  intro g hg
  rcases hr.2 with ⟨rfl, _⟩ | ⟨g1, cap, cur, rfl, _, hgg, _⟩
  · cases hg
  · injection hg with hg
    have hg' : g1 = g := hg
    subst hg'
    constructor
    · rintro rfl
      have := h.arr.cells
      rw [hgg] at this
      cases this
    · rintro rfl
      have := h.arr.map
      rw [hgg] at this
      cases this
def getK (L : List ByteArray) (k : Nat) : ByteArray := L.getD k ⟨#[]⟩

theorem new2 (w : World) : Calls Tryz.prog 30 #[] w fun e w' => ∃ p m, e = .returned (.pointer (some ⟨p, 0, none⟩)) ∧ AInv w' p m 0 [] 0 ∧ Below w.heap.size w w' ∧ w.heap.size ≤ p ∧ w.heap.size ≤ m := by
  refine (new_any w).mono ?_
  rintro e w' ⟨rfl, rfl⟩
  exact ⟨_, _, rfl, AInv.new (new_arr w), ((Below.refl _ _).alloc (Nat.le_refl _) _).alloc (by simp) _, by omega, Nat.le_refl _⟩
theorem kind_in {w : World} {p m clk c : Nat} {M : List Ent} (h : AInv w p m clk M c) {k : ByteArray} (hk : k ∈ M.map (·.key)) : Calls Tryz.prog 31 #[.pointer (some ⟨p, 0, none⟩), .string k] w fun e w' => e = .returned (.int .i64 1) ∧ Below w.heap.size w w' := by
  have h := kindE_any h k
  unfold kindE at h
  rw [if_pos hk] at h
  exact h
theorem kind_out {w : World} {p m clk c : Nat} {M : List Ent} (h : AInv w p m clk M c) {k : ByteArray} (hk : k ∉ M.map (·.key)) : Calls Tryz.prog 31 #[.pointer (some ⟨p, 0, none⟩), .string k] w fun e w' => e = .returned (.int .i64 0) ∧ Below w.heap.size w w' := by
  have h := kindE_any h k
  unfold kindE at h
  rw [if_neg hk] at h
  exact h
theorem del_yes {w : World} {p m clk c : Nat} {M : List Ent} (h : AInv w p m clk M c) {k : ByteArray} (hk : k ∈ M.map (·.key)) : Calls Tryz.prog 37 #[.pointer (some ⟨p, 0, none⟩), .string k] w fun r w' => r = .returned (.bool true) ∧ AInv w' p m clk (delE M k) c ∧ Apart [p, m] w w' := by
  have h := delE_any p m c clk k M w h
  rw [decide_eq_true hk] at h
  exact h
theorem del_no {w : World} {p m clk c : Nat} {M : List Ent} (h : AInv w p m clk M c) {k : ByteArray} (hk : k ∉ M.map (·.key)) : Calls Tryz.prog 37 #[.pointer (some ⟨p, 0, none⟩), .string k] w fun r w' => r = .returned (.bool false) ∧ AInv w' p m clk M c ∧ Apart [p, m] w w' := by
  have h := delE_any p m c clk k M w h
  rw [decide_eq_false hk, del_out hk] at h
  exact h
theorem len_is {w : World} {p m clk c l : Nat} {M : List Ent} (h : AInv w p m clk M c) (hl : M.length = l) : Calls Tryz.prog 36 #[.pointer (some ⟨p, 0, none⟩)] w fun r w' => r = .returned (.int .i64 (l : Int)) ∧ w = w' := by
  have h := lenE_any p m c clk M w h
  rw [hl] at h
  exact h
/-- a key that is not there comes last -/
theorem set_last {M : List Ent} {k : ByteArray} {kind : Int} {str : ByteArray} {clk c : Nat} (hk : k ∉ M.map (·.key)) : (setE M k kind str clk c).map (·.key) = M.map (·.key) ++ [k] := by rw [set_keys, if_neg hk]
set_option maxHeartbeats 16000000 in
set_option maxRecDepth 1000000 in
theorem keeps_any (hSo : Sorts) {w : World} {v1 v2 : Value} {K V : List ByteArray} (gone : ByteArray) (h1 : RowS w v1 K) (h2 : RowS w v2 V) (hK : K.length ≤ maxLen) (hV : V.length ≤ maxLen) :
    Calls Tryz.prog 11 #[v1, v2, .string gone] w fun e w' => e = .returned (.bool true) ∧ Below w.heap.size w w' := by
  unfold maxLen at hK hV
  obtain ⟨a1, c1, rfl, h1⟩ := h1
  obtain ⟨a2, c2, rfl, h2⟩ := h2
  have HSo := Lib.hid hSo
  have H1 := Lib.hid h1
  have H2 := Lib.hid h2
  obtain ⟨n, hn⟩ : ∃ n, n = K.length := ⟨_, rfl⟩
  obtain ⟨nv, hnv⟩ : ∃ n, n = V.length := ⟨_, rfl⟩
  rw [← hn] at hK H1 ⊢
  rw [← hnv] at hV H2 ⊢
  have HN := Lib.hid hn
  have HNV := Lib.hid hnv
  clear hSo h1 h2 hn hnv
  have HF := Lib.hid (fixed_any w)
  by_cases hbig : 300 < n
  · have hbigI : (300 : Int) < (n : Int) := by omega
    go_enter Tryz.func11, Tryz.ntmps11
    go_wp2_with fail
    refine HF.out.mono ?_
    rintro e w1 ⟨rfl, hb⟩
    have HB := Lib.hid hb
    clear hb HF
    go_wp2_with fail
    go_ret
    exact ⟨rfl, HB.out⟩
  have hbigI : (n : Int) ≤ 300 := by omega
  -- where the keys and the values lie
  obtain ⟨g1, o1, hc1⟩ : ∃ g1 o1, 0 < n → a1 = some ⟨g1, o1, none⟩ ∧ g1 < w.heap.size ∧ ∀ (j : Nat) s, K[j]? = some s → w.cell? ⟨g1, o1 + j, none⟩ = some (.string s) := by
    rcases Nat.eq_zero_or_pos n with h | h
    · exact ⟨0, 0, fun h2 => by omega⟩
    · obtain ⟨g, o, x⟩ := H1.out (by omega)
      exact ⟨g, o, fun _ => x⟩
  obtain ⟨g2, o2, hc2⟩ : ∃ g2 o2, 0 < nv → a2 = some ⟨g2, o2, none⟩ ∧ g2 < w.heap.size ∧ ∀ (j : Nat) s, V[j]? = some s → w.cell? ⟨g2, o2 + j, none⟩ = some (.string s) := by
    rcases Nat.eq_zero_or_pos nv with h | h
    · exact ⟨0, 0, fun h2 => by omega⟩
    · obtain ⟨g, o, x⟩ := H2.out (by omega)
      exact ⟨g, o, fun _ => x⟩
  have HC1 := Lib.hid hc1
  have HC2 := Lib.hid hc2
  clear hc1 hc2
  have key : ∀ (b1 b2 : Option Addr), (0 < n → b1 = some ⟨g1, o1, none⟩) → (0 < nv → b2 = some ⟨g2, o2, none⟩) → Calls Tryz.prog 11 #[.slice b1 n c1, .slice b2 nv c2, .string gone] w fun e w' => e = .returned (.bool true) ∧ Below w.heap.size w w' := by
    clear HF
    have HF := Lib.hid (fixed_any w)
    intro b1 b2 hb1 hb2
    rcases Nat.eq_zero_or_pos n with hn0 | hn0
    · subst hn0
      go_enter Tryz.func11, Tryz.ntmps11
      go_wp2_with fail
      refine HF.out.mono ?_
      rintro e w1 ⟨rfl, hb⟩
      have HB := Lib.hid hb
      clear hb HF
      go_wp2_with fail
      refine (new2 w1).mono ?_
      rintro e w2 ⟨p, m, rfl, hA, hb, hp, hm⟩
      have hpw : w.heap.size ≤ p := Nat.le_trans HB.out.size hp
      have hmw : w.heap.size ≤ m := Nat.le_trans HB.out.size hm
      have HA := Lib.hid hA
      have HBs := Lib.hid (HB.out.trans (hb.mono HB.out.size))
      clear hA hb hp hm HB
      go_wp2_with fail
      go_loopw [8, 28] (fun v8 v28 wr => ∃ (k : Nat) (M : List Ent) (clk c ml : Nat), v28 = .int .i64 (k : Int) ∧ k ≤ 0 ∧ clk ≤ k ∧ Hid (ml = M.length) ∧ Hid (AInv wr p m clk M c) ∧ Hid (wr.ownsRow w.heap.size 9 1 v8 ml (cellsK (M.map (·.key)))) ∧ Hid (Below w.heap.size w wr)) (fun _ v28 _ => 0 - natI v28)
      case atStart => exact ⟨0, [], 0, 0, 0, rfl, Nat.zero_le _, Nat.le_refl _, rfl, HA, World.ownsRow_nil _ _ _ _, HBs⟩
      case round =>
        obtain ⟨k, M, clk, c, ml, rfl, hk, hclk, HM, HA0, HR0, HB0⟩ := hrel
        have hml : ml ≤ clk := by have := HA0.out.len; have := HM.out; omega
        by_cases hlt : k < 0
        · exact absurd hlt (by omega)
        · have hltI : (0 : Int) ≤ (k : Int) := by omega
          have hS := HSo.out M (wr.heap.size + 1) (by have := HM.out; omega) HA0.out.whens
          have hKy := Keys_uns (⟨#[]⟩ : ByteArray) HA0.out (by have := HM.out; omega) hS
          rw [show uns = ⟨#[64, 117, 110, 115, 111, 114, 116, 101, 100]⟩ from rfl, ← HM.out] at hKy
          have HKy := Lib.hid hKy
          clear hS hKy
          go_wp2_with fail
          refine HKy.out.mono ?_
          rintro e w3 ⟨⟨v, rfl, ho⟩, hb3⟩
          obtain ⟨ea, ec, rfl⟩ := own_sliceK ho
          have HT := Lib.hid (texts_any (L := M.map (·.key)) (RowS.ofOwn (by simpa [← HM.out] using ho)) (RowS.ofOwn (v := u8) (by simpa [← HM.out] using own_keepI HR0.out (w' := w3) (fun g hg => hb3.block g (HR0.out.lt g hg).2))) (by have := HM.out; simp; omega))
          have HA3 := Lib.hid (HA0.out.below hb3)
          have HB3 := Lib.hid (HB0.out.trans (hb3.mono HB0.out.size))
          clear ho hb3 HKy HA0 HB0 HR0
          go_wp2_with fail
          refine HT.out.mono ?_
          rintro e w4 ⟨rfl, hb4⟩
          have HA4 := Lib.hid (HA3.out.below hb4)
          have HB4 := Lib.hid (HB3.out.trans (hb4.mono HB3.out.size))
          clear hb4 HT HA3 HB3
          by_cases hg : gone ∈ M.map (·.key)
          · have hdel := del_in HA4.out.keys hg
            have hpos : 1 ≤ ml := by have := HM.out; omega
            obtain ⟨q, hq⟩ : ∃ q, ml = q + 1 := ⟨ml - 1, by omega⟩
            have hql : (delE M gone).length = q := by have := HM.out; omega
            have HQ := Lib.hid hql
            have hout := hdel.2
            have hqI : (ml : Int) - 1 = (q : Int) := by omega
            go_wp2_with fail
            refine (kind_in HA4.out hg).mono ?_
            rintro e w5 ⟨rfl, hb5⟩
            have HA5 := Lib.hid (HA4.out.below hb5)
            have HB5 := Lib.hid (HB4.out.trans (hb5.mono HB4.out.size))
            clear hb5 HA4 HB4
            go_wp2_with fail
            refine (len_is HA5.out HM.out.symm).mono ?_
            rintro e _ ⟨rfl, rfl⟩
            go_wp2_with fail
            refine (del_yes HA5.out hg).mono ?_
            rintro e w6 ⟨rfl, hA6, hap⟩
            have HA6 := Lib.hid hA6
            have HB6 := Lib.hid (HB5.out.trans (hap.below HB5.out.size (by simp; omega)))
            clear hA6 hap HA5 HB5
            go_wp2_with fail
            refine (kind_out HA6.out hout).mono ?_
            rintro e w7 ⟨rfl, hb7⟩
            have HA7 := Lib.hid (HA6.out.below hb7)
            have HB7 := Lib.hid (HB6.out.trans (hb7.mono HB6.out.size))
            clear hb7 HA6 HB6
            go_wp2_with fail
            refine (del_no HA7.out hout).mono ?_
            rintro e w8 ⟨rfl, hA8, hap⟩
            have HA8 := Lib.hid hA8
            have HB8 := Lib.hid (HB7.out.trans (hap.below HB7.out.size (by simp; omega)))
            clear hA8 hap HA7 HB7
            go_wp2_with fail
            refine (len_is HA8.out HQ.out).mono ?_
            rintro e _ ⟨rfl, rfl⟩
            go_wp2_with fail
            refine (text_any _ _).mono ?_
            rintro e w9 ⟨rfl, hb9⟩
            have HA9 := Lib.hid (HA8.out.below hb9)
            have HB9 := Lib.hid (HB8.out.trans (hb9.mono HB8.out.size))
            clear hb9 HA8 HB8
            go_wp2_with fail
            refine (setE_any p m c clk gone (delE M gone) 2 ⟨#[]⟩ w9 HA9.out (by omega)).mono ?_
            rintro e w10 ⟨rfl, ⟨clk', c', hA10, hc1, hc2⟩, hap⟩
            have hks := set_last (kind := 2) (str := ⟨#[]⟩) (clk := clk) (c := c) hout
            obtain ⟨M2, hM2⟩ : ∃ M2, M2 = setE (delE M gone) gone 2 ⟨#[]⟩ clk c := ⟨_, rfl⟩
            rw [← hM2] at hA10 hks
            have hl2 : ml = M2.length := by have := congrArg List.length hks; simp at this; omega
            have hlk : (M2.map (·.key))[q]? = some gone := by rw [hks, List.getElem?_append_right (by simp; omega)]; simp [hql]
            have HB10 := Lib.hid (HB9.out.trans (hap.below HB9.out.size (by simp; omega)))
            have hKy2 := Keys_uns (⟨#[]⟩ : ByteArray) hA10 (by omega) (HSo.out M2 (w10.heap.size + 1) (by omega) hA10.whens)
            rw [show uns = ⟨#[64, 117, 110, 115, 111, 114, 116, 101, 100]⟩ from rfl, ← hl2] at hKy2
            have HKy2 := Lib.hid hKy2
            have HA10 := Lib.hid hA10
            have HLK := Lib.hid hlk
            have HL2 := Lib.hid hl2
            clear hap HA9 HB9 hks hM2 hlk hKy2 hA10 hl2 hdel hql
            go_wp2_with fail
            refine HKy2.out.mono ?_
            rintro e w11 ⟨⟨v, rfl, ho⟩, hb11⟩
            have hrs := RowS.ofOwn (L := M2.map (·.key)) (by simpa [← HL2.out] using ho)
            obtain ⟨sa, sc, rfl, hrc⟩ := hrs
            have hml2 : (M2.map (·.key)).length = ml := by have := HL2.out; simp; omega
            rw [hml2] at hrc ho ⊢
            obtain ⟨sg, so, rfl, hsg, hsc⟩ := hrc (by omega)
            have cl := hsc q gone HLK.out
            have HA11 := Lib.hid (HA10.out.below hb11)
            have HB11 := Lib.hid (HB10.out.trans (hb11.mono HB10.out.size))
            have hgg : (gone.toList == gone.toList) = true := by simp
            clear hsc hrc ho hb11 HKy2 HA10 HB10 HLK
            go_wp2_with fail
            refine (clearE_any p m c' clk' M2 _ HA11.out).mono ?_
            rintro e w12 ⟨rfl, hA12, hap⟩
            have HA12 := Lib.hid hA12
            have HB12 := Lib.hid (HB11.out.trans (hap.below HB11.out.size (by simp; omega)))
            clear hA12 hap HA11 HB11 cl
            go_wp2_with fail
            refine (len_is HA12.out (l := 0) rfl).mono ?_
            rintro e _ ⟨rfl, rfl⟩
            go_wp2_with fail
            refine (Total_any 1 _ 0 _ (tot_empty HA12.out) (by omega)).mono ?_
            rintro e w13 ⟨rfl, hb13⟩
            have HB13 := Lib.hid (HB12.out.trans (hb13.mono HB12.out.size))
            clear hb13
            go_wp2_with fail
            go_ret
            exact ⟨rfl, HB13.out⟩
          · go_wp2_with fail
            refine (kind_out HA4.out hg).mono ?_
            rintro e w5 ⟨rfl, hb5⟩
            have HA5 := Lib.hid (HA4.out.below hb5)
            have HB5 := Lib.hid (HB4.out.trans (hb5.mono HB4.out.size))
            clear hb5 HA4 HB4
            go_wp2_with fail
            refine (len_is HA5.out HM.out.symm).mono ?_
            rintro e _ ⟨rfl, rfl⟩
            go_wp2_with fail
            refine (del_no HA5.out hg).mono ?_
            rintro e w6 ⟨rfl, hA6, hap⟩
            have HA6 := Lib.hid hA6
            have HB6 := Lib.hid (HB5.out.trans (hap.below HB5.out.size (by simp; omega)))
            clear hA6 hap HA5 HB5
            go_wp2_with fail
            refine (kind_out HA6.out hg).mono ?_
            rintro e w7 ⟨rfl, hb7⟩
            have HA7 := Lib.hid (HA6.out.below hb7)
            have HB7 := Lib.hid (HB6.out.trans (hb7.mono HB6.out.size))
            clear hb7 HA6 HB6
            go_wp2_with fail
            refine (del_no HA7.out hg).mono ?_
            rintro e w8 ⟨rfl, hA8, hap⟩
            have HA8 := Lib.hid hA8
            have HB8 := Lib.hid (HB7.out.trans (hap.below HB7.out.size (by simp; omega)))
            clear hA8 hap HA7 HB7
            go_wp2_with fail
            refine (len_is HA8.out HM.out.symm).mono ?_
            rintro e _ ⟨rfl, rfl⟩
            go_wp2_with fail
            refine (clearE_any p m c clk M _ HA8.out).mono ?_
            rintro e w12 ⟨rfl, hA12, hap⟩
            have HA12 := Lib.hid hA12
            have HB12 := Lib.hid (HB8.out.trans (hap.below HB8.out.size (by simp; omega)))
            clear hA12 hap HA8 HB8
            go_wp2_with fail
            refine (len_is HA12.out (l := 0) rfl).mono ?_
            rintro e _ ⟨rfl, rfl⟩
            go_wp2_with fail
            refine (Total_any 1 _ 0 _ (tot_empty HA12.out) (by omega)).mono ?_
            rintro e w13 ⟨rfl, hb13⟩
            have HB13 := Lib.hid (HB12.out.trans (hb13.mono HB12.out.size))
            clear hb13
            go_wp2_with fail
            go_ret
            exact ⟨rfl, HB13.out⟩
    · obtain rfl := hb1 hn0
      obtain ⟨_, hg1, hk1⟩ := HC1.out hn0
      have HK1 := Lib.hid hk1
      clear hk1 hb1
      rcases Nat.eq_zero_or_pos nv with hv0 | hv0
      · subst hv0
        go_enter Tryz.func11, Tryz.ntmps11
        go_wp2_with fail
        refine HF.out.mono ?_
        rintro e w1 ⟨rfl, hb⟩
        have HB := Lib.hid hb
        clear hb HF
        go_wp2_with fail
        refine (new2 w1).mono ?_
        rintro e w2 ⟨p, m, rfl, hA, hb, hp, hm⟩
        have hpw : w.heap.size ≤ p := Nat.le_trans HB.out.size hp
        have hmw : w.heap.size ≤ m := Nat.le_trans HB.out.size hm
        have HA := Lib.hid hA
        have HBs := Lib.hid (HB.out.trans (hb.mono HB.out.size))
        clear hA hb hp hm HB
        go_wp2_with fail
        go_loopw [8, 28] (fun v8 v28 wr => ∃ (k : Nat) (M : List Ent) (clk c ml : Nat), v28 = .int .i64 (k : Int) ∧ k ≤ n ∧ clk ≤ k ∧ Hid (ml = M.length) ∧ Hid (AInv wr p m clk M c) ∧ Hid (wr.ownsRow w.heap.size 9 1 v8 ml (cellsK (M.map (·.key)))) ∧ Hid (Below w.heap.size w wr)) (fun _ v28 _ => n - natI v28)
        case atStart => exact ⟨0, [], 0, 0, 0, rfl, Nat.zero_le _, Nat.le_refl _, rfl, HA, World.ownsRow_nil _ _ _ _, HBs⟩
        case round =>
          obtain ⟨k, M, clk, c, ml, rfl, hk, hclk, HM, HA0, HR0, HB0⟩ := hrel
          have hml : ml ≤ clk := by have := HA0.out.len; have := HM.out; omega
          by_cases hlt : k < n
          · have hltI : (k : Int) < (n : Int) := by omega
            obtain ⟨x, hx⟩ : ∃ x, K[k]? = some x := ⟨_, List.getElem?_eq_getElem (by rw [← HN.out]; exact hlt)⟩
            have cx := (HB0.out.cell (p := ⟨g1, o1 + k, none⟩) hg1).trans (HK1.out k x hx)
            clear hx
            have hvI : (0 : Int) ≤ (k : Int) := by omega
            by_cases hm : x ∈ M.map (·.key)
            · have HKd : Hid (Calls Tryz.prog 31 #[.pointer (some ⟨p, 0, none⟩), .string x] wr fun e w' => e = .returned (.int .i64 1) ∧ Below wr.heap.size wr w') := by
                have h := kindE_any HA0.out x
                unfold kindE at h
                rw [if_pos hm] at h
                exact h
              go_wp2_with fail
              refine HKd.out.mono ?_
              rintro e w1 ⟨rfl, hb1⟩
              clear HKd
              have HA1 := Lib.hid (HA0.out.below hb1)
              have HR1 : Hid (World.ownsRow _ w.heap.size 9 1 u8 ml (cellsK (M.map (·.key)))) := own_keepI HR0.out (fun g hg => hb1.block g (HR0.out.lt g hg).2)
              have HB1 := Lib.hid (HB0.out.trans (hb1.mono HB0.out.size))
              clear hb1
              clear HA0 HR0 HB0
              go_wp2_with fail
              refine (text_any _ _).mono ?_
              rintro e w3 ⟨rfl, hb3⟩
              have HA3 := Lib.hid (HA1.out.below hb3)
              have HR3 : Hid (World.ownsRow w3 w.heap.size 9 1 u8 ml (cellsK (M.map (·.key)))) := own_keepI HR1.out (fun g hg => hb3.block g (HR1.out.lt g hg).2)
              have HB3 := Lib.hid (HB1.out.trans (hb3.mono HB1.out.size))
              clear hb3 HA1 HR1 HB1
              obtain ⟨sv, hsv⟩ : ∃ sv, sv = (⟨#[]⟩ : ByteArray) := ⟨_, rfl⟩
              go_wp2_with fail
              refine (setE_any p m c clk x M 2 (⟨#[]⟩ : ByteArray) w3 HA3.out (by omega)).mono ?_
              rintro e w4 ⟨rfl, ⟨clk', c', hA4, hc1, hc2⟩, hap⟩
              have hfar := row_far HA3.out HR3.out
              have HR4 : Hid (World.ownsRow w4 w.heap.size 9 1 u8 ml (cellsK (M.map (·.key)))) := own_keepI HR3.out (fun g hg => hap.block g (HR3.out.lt g hg).2 (by have := hfar g hg; simp; exact this))
              have HB4 := Lib.hid (HB3.out.trans (hap.below HB3.out.size (by simp; omega)))
              obtain ⟨j, e, hj, he, hek, hes⟩ := get_set (M := M) (k := x) (kind := 2) (str := (⟨#[]⟩ : ByteArray)) (clk := clk) (c := c)
              have hG := getE_any p m c' clk' x (setE M x 2 (⟨#[]⟩ : ByteArray) clk c) j e w4 hA4 hj he
              rw [hek, hes] at hG
              have HG := Lib.hid hG
              have HA4 := Lib.hid hA4
              have hss : ((⟨#[]⟩ : ByteArray).toList == (⟨#[]⟩ : ByteArray).toList) = true := by simp
              have HKs : Hid ((setE M x 2 (⟨#[]⟩ : ByteArray) clk c).map (·.key) = M.map (·.key)) := by
                show _ = _
                rw [set_keys, if_pos hm]
              clear hfar hap hj he hek hes hG hA4 HA3 HR3 HB3 hsv
              go_wp2_with fail
              refine HG.out.mono ?_
              rintro e w5 ⟨rfl, hb5⟩
              have HA5 := Lib.hid ((HA4.out.below hb5).below ((Below.refl _ _).alloc (Nat.le_refl _) (.cells #[.int .i64 2, .float .f64 0, .string (⟨#[]⟩ : ByteArray)] 47)))
              have HR5 := Lib.hid ((own_keepI HR4.out (w' := w5) (fun g hg => hb5.block g (HR4.out.lt g hg).2)).alloc (.cells #[.int .i64 2, .float .f64 0, .string (⟨#[]⟩ : ByteArray)] 47))
              have HB5 := Lib.hid ((HB4.out.trans (hb5.mono HB4.out.size)).alloc (HB4.out.trans (hb5.mono HB4.out.size)).size (.cells #[.int .i64 2, .float .f64 0, .string (⟨#[]⟩ : ByteArray)] 47))
              clear hb5 HG HA4 HR4 HB4
              go_wp2_with fail
              go_roundw
              case rel =>
                refine ⟨k + 1, setE M x 2 (⟨#[]⟩ : ByteArray) clk c, clk', c', ml, rfl, by omega, by omega, ?_, HA5, ?_, HB5⟩
                · have := congrArg List.length HKs.out
                  have h2 := HM.out
                  simp at this
                  show _ = _
                  omega
                · show World.ownsRow _ _ _ _ _ _ _
                  rw [HKs.out]; exact HR5.out
              case measure => simp only [natI]; omega
            · have HKd : Hid (Calls Tryz.prog 31 #[.pointer (some ⟨p, 0, none⟩), .string x] wr fun e w' => e = .returned (.int .i64 0) ∧ Below wr.heap.size wr w') := by
                have h := kindE_any HA0.out x
                unfold kindE at h
                rw [if_neg hm] at h
                exact h
              go_wp2_with fail
              refine HKd.out.mono ?_
              rintro e w1 ⟨rfl, hb1⟩
              clear HKd
              have HA1 := Lib.hid (HA0.out.below hb1)
              have HR1 : Hid (World.ownsRow _ w.heap.size 9 1 u8 ml (cellsK (M.map (·.key)))) := own_keepI HR0.out (fun g hg => hb1.block g (HR0.out.lt g hg).2)
              have HB1 := Lib.hid (HB0.out.trans (hb1.mono HB0.out.size))
              clear hb1
              clear HA0 HR0 HB0
              obtain ⟨i0, hi, hz0, hz1, hz2⟩ := info_parts infoS
              have hz9 : w.heap.size ≤ w1.heap.size := HB1.out.size
              go_wp2_with (at_builtin; go_loud (refine wpList_append_lies _ rfl _ _ 50 rfl w.heap.size 9 i0 (.string .empty) 1 16 undS hi hz0 hz1 hz2 rfl (by decide) u8 ml (cellsK (M.map (·.key))) rfl (HR1.out.alloc _) ⟨w1.heap.size, 0, none⟩ 1 1 [.string x] rfl rfl (World.news_of_block (heap_alloc_at w1 (.cells #[.string x] 9))) (by simp [Value.oneCell']) (Nat.zero_lt_one) (by unfold maxLen; omega) (by omega) (by simp; omega) _ rfl ?_); intro g3 cap3 w2 hown hgrow hat hlt3)
              have hfar := row_far HA1.out HR1.out
              have hpl := HA1.out.arr.ltp
              have hml1 := HA1.out.arr.ltm
              have ha2 : AInv w2 p m clk M c := (HA1.out.below ((Below.refl _ _).alloc (Nat.le_refl _) (.cells #[.string x] 9))).keep (hgrow.block p (by simp; omega) (fun e => (hfar p e.symm).1 rfl)) (hgrow.block m (by simp; omega) (fun e => (hfar m e.symm).2 rfl))
              have hb2 : Below w.heap.size w w2 := (HB1.out.alloc HB1.out.size _).grown hgrow (by simp; omega) (fun y hy => (HR1.out.lt y hy).1)
              have HR2 : Hid (World.ownsRow w2 w.heap.size 9 1 (.slice (some ⟨g3, 0, none⟩) (ml + 1) cap3) (ml + 1) (cellsK (M.map (·.key) ++ [x]))) := by
                have e2 : cellsK (M.map (·.key) ++ [x]) = cellsK (M.map (·.key)) ++ [.string x] := by simp [cellsK]
                show World.ownsRow _ _ _ _ _ _ _
                rw [e2]; exact hown
              have HA2 := Lib.hid ha2
              have HB2 := Lib.hid hb2
              clear hown hgrow hat hlt3 ha2 hb2 hfar hpl hml1 hi hz0 hz1 hz2 hz9 HA1 HR1 HB1
              go_wp2_with fail
              refine (text_any _ _).mono ?_
              rintro e w3 ⟨rfl, hb3⟩
              have HA3 := Lib.hid (HA2.out.below hb3)
              have HR3 : Hid (World.ownsRow w3 w.heap.size 9 1 (.slice (some ⟨g3, 0, none⟩) (ml + 1) cap3) (ml + 1) (cellsK (M.map (·.key) ++ [x]))) := own_keepI HR2.out (fun g hg => hb3.block g (HR2.out.lt g hg).2)
              have HB3 := Lib.hid (HB2.out.trans (hb3.mono HB2.out.size))
              clear hb3 HA2 HR2 HB2
              obtain ⟨sv, hsv⟩ : ∃ sv, sv = (⟨#[]⟩ : ByteArray) := ⟨_, rfl⟩
              go_wp2_with fail
              refine (setE_any p m c clk x M 2 (⟨#[]⟩ : ByteArray) w3 HA3.out (by omega)).mono ?_
              rintro e w4 ⟨rfl, ⟨clk', c', hA4, hc1, hc2⟩, hap⟩
              have hfar := row_far HA3.out HR3.out
              have HR4 : Hid (World.ownsRow w4 w.heap.size 9 1 (.slice (some ⟨g3, 0, none⟩) (ml + 1) cap3) (ml + 1) (cellsK (M.map (·.key) ++ [x]))) := own_keepI HR3.out (fun g hg => hap.block g (HR3.out.lt g hg).2 (by have := hfar g hg; simp; exact this))
              have HB4 := Lib.hid (HB3.out.trans (hap.below HB3.out.size (by simp; omega)))
              obtain ⟨j, e, hj, he, hek, hes⟩ := get_set (M := M) (k := x) (kind := 2) (str := (⟨#[]⟩ : ByteArray)) (clk := clk) (c := c)
              have hG := getE_any p m c' clk' x (setE M x 2 (⟨#[]⟩ : ByteArray) clk c) j e w4 hA4 hj he
              rw [hek, hes] at hG
              have HG := Lib.hid hG
              have HA4 := Lib.hid hA4
              have hss : ((⟨#[]⟩ : ByteArray).toList == (⟨#[]⟩ : ByteArray).toList) = true := by simp
              have HKs : Hid ((setE M x 2 (⟨#[]⟩ : ByteArray) clk c).map (·.key) = M.map (·.key) ++ [x]) := by
                show _ = _
                rw [set_keys, if_neg hm]
              clear hfar hap hj he hek hes hG hA4 HA3 HR3 HB3 hsv
              go_wp2_with fail
              refine HG.out.mono ?_
              rintro e w5 ⟨rfl, hb5⟩
              have HA5 := Lib.hid ((HA4.out.below hb5).below ((Below.refl _ _).alloc (Nat.le_refl _) (.cells #[.int .i64 2, .float .f64 0, .string (⟨#[]⟩ : ByteArray)] 47)))
              have HR5 := Lib.hid ((own_keepI HR4.out (w' := w5) (fun g hg => hb5.block g (HR4.out.lt g hg).2)).alloc (.cells #[.int .i64 2, .float .f64 0, .string (⟨#[]⟩ : ByteArray)] 47))
              have HB5 := Lib.hid ((HB4.out.trans (hb5.mono HB4.out.size)).alloc (HB4.out.trans (hb5.mono HB4.out.size)).size (.cells #[.int .i64 2, .float .f64 0, .string (⟨#[]⟩ : ByteArray)] 47))
              clear hb5 HG HA4 HR4 HB4
              go_wp2_with fail
              go_roundw
              case rel =>
                refine ⟨k + 1, setE M x 2 (⟨#[]⟩ : ByteArray) clk c, clk', c', ml + 1, rfl, by omega, by omega, ?_, HA5, ?_, HB5⟩
                · have := congrArg List.length HKs.out
                  have h2 := HM.out
                  simp at this
                  show _ = _
                  omega
                · show World.ownsRow _ _ _ _ _ _ _
                  rw [HKs.out]; exact HR5.out
              case measure => simp only [natI]; omega
          · have hltI : (n : Int) ≤ (k : Int) := by omega
            have hS := HSo.out M (wr.heap.size + 1) (by have := HM.out; omega) HA0.out.whens
            have hKy := Keys_uns (⟨#[]⟩ : ByteArray) HA0.out (by have := HM.out; omega) hS
            rw [show uns = ⟨#[64, 117, 110, 115, 111, 114, 116, 101, 100]⟩ from rfl, ← HM.out] at hKy
            have HKy := Lib.hid hKy
            clear hS hKy
            go_wp2_with fail
            refine HKy.out.mono ?_
            rintro e w3 ⟨⟨v, rfl, ho⟩, hb3⟩
            obtain ⟨ea, ec, rfl⟩ := own_sliceK ho
            have HT := Lib.hid (texts_any (L := M.map (·.key)) (RowS.ofOwn (by simpa [← HM.out] using ho)) (RowS.ofOwn (v := u8) (by simpa [← HM.out] using own_keepI HR0.out (w' := w3) (fun g hg => hb3.block g (HR0.out.lt g hg).2))) (by have := HM.out; simp; omega))
            have HA3 := Lib.hid (HA0.out.below hb3)
            have HB3 := Lib.hid (HB0.out.trans (hb3.mono HB0.out.size))
            clear ho hb3 HKy HA0 HB0 HR0
            go_wp2_with fail
            refine HT.out.mono ?_
            rintro e w4 ⟨rfl, hb4⟩
            have HA4 := Lib.hid (HA3.out.below hb4)
            have HB4 := Lib.hid (HB3.out.trans (hb4.mono HB3.out.size))
            clear hb4 HT HA3 HB3
            by_cases hg : gone ∈ M.map (·.key)
            · have hdel := del_in HA4.out.keys hg
              have hpos : 1 ≤ ml := by have := HM.out; omega
              obtain ⟨q, hq⟩ : ∃ q, ml = q + 1 := ⟨ml - 1, by omega⟩
              have hql : (delE M gone).length = q := by have := HM.out; omega
              have HQ := Lib.hid hql
              have hout := hdel.2
              have hqI : (ml : Int) - 1 = (q : Int) := by omega
              go_wp2_with fail
              refine (kind_in HA4.out hg).mono ?_
              rintro e w5 ⟨rfl, hb5⟩
              have HA5 := Lib.hid (HA4.out.below hb5)
              have HB5 := Lib.hid (HB4.out.trans (hb5.mono HB4.out.size))
              clear hb5 HA4 HB4
              go_wp2_with fail
              refine (len_is HA5.out HM.out.symm).mono ?_
              rintro e _ ⟨rfl, rfl⟩
              go_wp2_with fail
              refine (del_yes HA5.out hg).mono ?_
              rintro e w6 ⟨rfl, hA6, hap⟩
              have HA6 := Lib.hid hA6
              have HB6 := Lib.hid (HB5.out.trans (hap.below HB5.out.size (by simp; omega)))
              clear hA6 hap HA5 HB5
              go_wp2_with fail
              refine (kind_out HA6.out hout).mono ?_
              rintro e w7 ⟨rfl, hb7⟩
              have HA7 := Lib.hid (HA6.out.below hb7)
              have HB7 := Lib.hid (HB6.out.trans (hb7.mono HB6.out.size))
              clear hb7 HA6 HB6
              go_wp2_with fail
              refine (del_no HA7.out hout).mono ?_
              rintro e w8 ⟨rfl, hA8, hap⟩
              have HA8 := Lib.hid hA8
              have HB8 := Lib.hid (HB7.out.trans (hap.below HB7.out.size (by simp; omega)))
              clear hA8 hap HA7 HB7
              go_wp2_with fail
              refine (len_is HA8.out HQ.out).mono ?_
              rintro e _ ⟨rfl, rfl⟩
              go_wp2_with fail
              refine (text_any _ _).mono ?_
              rintro e w9 ⟨rfl, hb9⟩
              have HA9 := Lib.hid (HA8.out.below hb9)
              have HB9 := Lib.hid (HB8.out.trans (hb9.mono HB8.out.size))
              clear hb9 HA8 HB8
              go_wp2_with fail
              refine (setE_any p m c clk gone (delE M gone) 2 ⟨#[]⟩ w9 HA9.out (by omega)).mono ?_
              rintro e w10 ⟨rfl, ⟨clk', c', hA10, hc1, hc2⟩, hap⟩
              have hks := set_last (kind := 2) (str := ⟨#[]⟩) (clk := clk) (c := c) hout
              obtain ⟨M2, hM2⟩ : ∃ M2, M2 = setE (delE M gone) gone 2 ⟨#[]⟩ clk c := ⟨_, rfl⟩
              rw [← hM2] at hA10 hks
              have hl2 : ml = M2.length := by have := congrArg List.length hks; simp at this; omega
              have hlk : (M2.map (·.key))[q]? = some gone := by rw [hks, List.getElem?_append_right (by simp; omega)]; simp [hql]
              have HB10 := Lib.hid (HB9.out.trans (hap.below HB9.out.size (by simp; omega)))
              have hKy2 := Keys_uns (⟨#[]⟩ : ByteArray) hA10 (by omega) (HSo.out M2 (w10.heap.size + 1) (by omega) hA10.whens)
              rw [show uns = ⟨#[64, 117, 110, 115, 111, 114, 116, 101, 100]⟩ from rfl, ← hl2] at hKy2
              have HKy2 := Lib.hid hKy2
              have HA10 := Lib.hid hA10
              have HLK := Lib.hid hlk
              have HL2 := Lib.hid hl2
              clear hap HA9 HB9 hks hM2 hlk hKy2 hA10 hl2 hdel hql
              go_wp2_with fail
              refine HKy2.out.mono ?_
              rintro e w11 ⟨⟨v, rfl, ho⟩, hb11⟩
              have hrs := RowS.ofOwn (L := M2.map (·.key)) (by simpa [← HL2.out] using ho)
              obtain ⟨sa, sc, rfl, hrc⟩ := hrs
              have hml2 : (M2.map (·.key)).length = ml := by have := HL2.out; simp; omega
              rw [hml2] at hrc ho ⊢
              obtain ⟨sg, so, rfl, hsg, hsc⟩ := hrc (by omega)
              have cl := hsc q gone HLK.out
              have HA11 := Lib.hid (HA10.out.below hb11)
              have HB11 := Lib.hid (HB10.out.trans (hb11.mono HB10.out.size))
              have hgg : (gone.toList == gone.toList) = true := by simp
              clear hsc hrc ho hb11 HKy2 HA10 HB10 HLK
              go_wp2_with fail
              refine (clearE_any p m c' clk' M2 _ HA11.out).mono ?_
              rintro e w12 ⟨rfl, hA12, hap⟩
              have HA12 := Lib.hid hA12
              have HB12 := Lib.hid (HB11.out.trans (hap.below HB11.out.size (by simp; omega)))
              clear hA12 hap HA11 HB11 cl
              go_wp2_with fail
              refine (len_is HA12.out (l := 0) rfl).mono ?_
              rintro e _ ⟨rfl, rfl⟩
              go_wp2_with fail
              refine (Total_any 1 _ 0 _ (tot_empty HA12.out) (by omega)).mono ?_
              rintro e w13 ⟨rfl, hb13⟩
              have HB13 := Lib.hid (HB12.out.trans (hb13.mono HB12.out.size))
              clear hb13
              go_wp2_with fail
              go_ret
              exact ⟨rfl, HB13.out⟩
            · go_wp2_with fail
              refine (kind_out HA4.out hg).mono ?_
              rintro e w5 ⟨rfl, hb5⟩
              have HA5 := Lib.hid (HA4.out.below hb5)
              have HB5 := Lib.hid (HB4.out.trans (hb5.mono HB4.out.size))
              clear hb5 HA4 HB4
              go_wp2_with fail
              refine (len_is HA5.out HM.out.symm).mono ?_
              rintro e _ ⟨rfl, rfl⟩
              go_wp2_with fail
              refine (del_no HA5.out hg).mono ?_
              rintro e w6 ⟨rfl, hA6, hap⟩
              have HA6 := Lib.hid hA6
              have HB6 := Lib.hid (HB5.out.trans (hap.below HB5.out.size (by simp; omega)))
              clear hA6 hap HA5 HB5
              go_wp2_with fail
              refine (kind_out HA6.out hg).mono ?_
              rintro e w7 ⟨rfl, hb7⟩
              have HA7 := Lib.hid (HA6.out.below hb7)
              have HB7 := Lib.hid (HB6.out.trans (hb7.mono HB6.out.size))
              clear hb7 HA6 HB6
              go_wp2_with fail
              refine (del_no HA7.out hg).mono ?_
              rintro e w8 ⟨rfl, hA8, hap⟩
              have HA8 := Lib.hid hA8
              have HB8 := Lib.hid (HB7.out.trans (hap.below HB7.out.size (by simp; omega)))
              clear hA8 hap HA7 HB7
              go_wp2_with fail
              refine (len_is HA8.out HM.out.symm).mono ?_
              rintro e _ ⟨rfl, rfl⟩
              go_wp2_with fail
              refine (clearE_any p m c clk M _ HA8.out).mono ?_
              rintro e w12 ⟨rfl, hA12, hap⟩
              have HA12 := Lib.hid hA12
              have HB12 := Lib.hid (HB8.out.trans (hap.below HB8.out.size (by simp; omega)))
              clear hA12 hap HA8 HB8
              go_wp2_with fail
              refine (len_is HA12.out (l := 0) rfl).mono ?_
              rintro e _ ⟨rfl, rfl⟩
              go_wp2_with fail
              refine (Total_any 1 _ 0 _ (tot_empty HA12.out) (by omega)).mono ?_
              rintro e w13 ⟨rfl, hb13⟩
              have HB13 := Lib.hid (HB12.out.trans (hb13.mono HB12.out.size))
              clear hb13
              go_wp2_with fail
              go_ret
              exact ⟨rfl, HB13.out⟩
      · obtain rfl := hb2 hv0
        obtain ⟨_, hg2, hk2⟩ := HC2.out hv0
        have HK2 := Lib.hid hk2
        clear hk2 hb2
        go_enter Tryz.func11, Tryz.ntmps11
        go_wp2_with fail
        refine HF.out.mono ?_
        rintro e w1 ⟨rfl, hb⟩
        have HB := Lib.hid hb
        clear hb HF
        go_wp2_with fail
        refine (new2 w1).mono ?_
        rintro e w2 ⟨p, m, rfl, hA, hb, hp, hm⟩
        have hpw : w.heap.size ≤ p := Nat.le_trans HB.out.size hp
        have hmw : w.heap.size ≤ m := Nat.le_trans HB.out.size hm
        have HA := Lib.hid hA
        have HBs := Lib.hid (HB.out.trans (hb.mono HB.out.size))
        clear hA hb hp hm HB
        go_wp2_with fail
        go_loopw [8, 28] (fun v8 v28 wr => ∃ (k : Nat) (M : List Ent) (clk c ml : Nat), v28 = .int .i64 (k : Int) ∧ k ≤ n ∧ clk ≤ k ∧ Hid (ml = M.length) ∧ Hid (AInv wr p m clk M c) ∧ Hid (wr.ownsRow w.heap.size 9 1 v8 ml (cellsK (M.map (·.key)))) ∧ Hid (Below w.heap.size w wr)) (fun _ v28 _ => n - natI v28)
        case atStart => exact ⟨0, [], 0, 0, 0, rfl, Nat.zero_le _, Nat.le_refl _, rfl, HA, World.ownsRow_nil _ _ _ _, HBs⟩
        case round =>
          obtain ⟨k, M, clk, c, ml, rfl, hk, hclk, HM, HA0, HR0, HB0⟩ := hrel
          have hml : ml ≤ clk := by have := HA0.out.len; have := HM.out; omega
          by_cases hlt : k < n
          · have hltI : (k : Int) < (n : Int) := by omega
            obtain ⟨x, hx⟩ : ∃ x, K[k]? = some x := ⟨_, List.getElem?_eq_getElem (by rw [← HN.out]; exact hlt)⟩
            have cx := (HB0.out.cell (p := ⟨g1, o1 + k, none⟩) hg1).trans (HK1.out k x hx)
            clear hx
            by_cases hv : k < nv
            · have hvI : (k : Int) < (nv : Int) := by omega
              obtain ⟨s, hs⟩ : ∃ s, V[k]? = some s := ⟨_, List.getElem?_eq_getElem (by rw [← HNV.out]; exact hv)⟩
              have cs := (HB0.out.cell (p := ⟨g2, o2 + k, none⟩) hg2).trans (HK2.out k s hs)
              clear hs
              by_cases hm : x ∈ M.map (·.key)
              · have HKd : Hid (Calls Tryz.prog 31 #[.pointer (some ⟨p, 0, none⟩), .string x] wr fun e w' => e = .returned (.int .i64 1) ∧ Below wr.heap.size wr w') := by
                  have h := kindE_any HA0.out x
                  unfold kindE at h
                  rw [if_pos hm] at h
                  exact h
                go_wp2_with fail
                refine HKd.out.mono ?_
                rintro e w1 ⟨rfl, hb1⟩
                clear HKd
                have HA1 := Lib.hid (HA0.out.below hb1)
                have HR1 : Hid (World.ownsRow _ w.heap.size 9 1 u8 ml (cellsK (M.map (·.key)))) := own_keepI HR0.out (fun g hg => hb1.block g (HR0.out.lt g hg).2)
                have HB1 := Lib.hid (HB0.out.trans (hb1.mono HB0.out.size))
                clear hb1
                clear HA0 HR0 HB0
                go_wp2_with fail
                refine (text_any _ _).mono ?_
                rintro e w3 ⟨rfl, hb3⟩
                have HA3 := Lib.hid (HA1.out.below hb3)
                have HR3 : Hid (World.ownsRow w3 w.heap.size 9 1 u8 ml (cellsK (M.map (·.key)))) := own_keepI HR1.out (fun g hg => hb3.block g (HR1.out.lt g hg).2)
                have HB3 := Lib.hid (HB1.out.trans (hb3.mono HB1.out.size))
                clear hb3 HA1 HR1 HB1
                obtain ⟨sv, hsv⟩ : ∃ sv, sv = s := ⟨_, rfl⟩
                go_wp2_with fail
                refine (setE_any p m c clk x M 2 s w3 HA3.out (by omega)).mono ?_
                rintro e w4 ⟨rfl, ⟨clk', c', hA4, hc1, hc2⟩, hap⟩
                have hfar := row_far HA3.out HR3.out
                have HR4 : Hid (World.ownsRow w4 w.heap.size 9 1 u8 ml (cellsK (M.map (·.key)))) := own_keepI HR3.out (fun g hg => hap.block g (HR3.out.lt g hg).2 (by have := hfar g hg; simp; exact this))
                have HB4 := Lib.hid (HB3.out.trans (hap.below HB3.out.size (by simp; omega)))
                obtain ⟨j, e, hj, he, hek, hes⟩ := get_set (M := M) (k := x) (kind := 2) (str := s) (clk := clk) (c := c)
                have hG := getE_any p m c' clk' x (setE M x 2 s clk c) j e w4 hA4 hj he
                rw [hek, hes] at hG
                have HG := Lib.hid hG
                have HA4 := Lib.hid hA4
                have hss : (s.toList == s.toList) = true := by simp
                have HKs : Hid ((setE M x 2 s clk c).map (·.key) = M.map (·.key)) := by
                  show _ = _
                  rw [set_keys, if_pos hm]
                clear hfar hap hj he hek hes hG hA4 HA3 HR3 HB3 hsv
                go_wp2_with fail
                refine HG.out.mono ?_
                rintro e w5 ⟨rfl, hb5⟩
                have HA5 := Lib.hid ((HA4.out.below hb5).below ((Below.refl _ _).alloc (Nat.le_refl _) (.cells #[.int .i64 2, .float .f64 0, .string s] 47)))
                have HR5 := Lib.hid ((own_keepI HR4.out (w' := w5) (fun g hg => hb5.block g (HR4.out.lt g hg).2)).alloc (.cells #[.int .i64 2, .float .f64 0, .string s] 47))
                have HB5 := Lib.hid ((HB4.out.trans (hb5.mono HB4.out.size)).alloc (HB4.out.trans (hb5.mono HB4.out.size)).size (.cells #[.int .i64 2, .float .f64 0, .string s] 47))
                clear hb5 HG HA4 HR4 HB4
                go_wp2_with fail
                go_roundw
                case rel =>
                  refine ⟨k + 1, setE M x 2 s clk c, clk', c', ml, rfl, by omega, by omega, ?_, HA5, ?_, HB5⟩
                  · have := congrArg List.length HKs.out
                    have h2 := HM.out
                    simp at this
                    show _ = _
                    omega
                  · show World.ownsRow _ _ _ _ _ _ _
                    rw [HKs.out]; exact HR5.out
                case measure => simp only [natI]; omega
              · have HKd : Hid (Calls Tryz.prog 31 #[.pointer (some ⟨p, 0, none⟩), .string x] wr fun e w' => e = .returned (.int .i64 0) ∧ Below wr.heap.size wr w') := by
                  have h := kindE_any HA0.out x
                  unfold kindE at h
                  rw [if_neg hm] at h
                  exact h
                go_wp2_with fail
                refine HKd.out.mono ?_
                rintro e w1 ⟨rfl, hb1⟩
                clear HKd
                have HA1 := Lib.hid (HA0.out.below hb1)
                have HR1 : Hid (World.ownsRow _ w.heap.size 9 1 u8 ml (cellsK (M.map (·.key)))) := own_keepI HR0.out (fun g hg => hb1.block g (HR0.out.lt g hg).2)
                have HB1 := Lib.hid (HB0.out.trans (hb1.mono HB0.out.size))
                clear hb1
                clear HA0 HR0 HB0
                obtain ⟨i0, hi, hz0, hz1, hz2⟩ := info_parts infoS
                have hz9 : w.heap.size ≤ w1.heap.size := HB1.out.size
                go_wp2_with (at_builtin; go_loud (refine wpList_append_lies _ rfl _ _ 50 rfl w.heap.size 9 i0 (.string .empty) 1 16 undS hi hz0 hz1 hz2 rfl (by decide) u8 ml (cellsK (M.map (·.key))) rfl (HR1.out.alloc _) ⟨w1.heap.size, 0, none⟩ 1 1 [.string x] rfl rfl (World.news_of_block (heap_alloc_at w1 (.cells #[.string x] 9))) (by simp [Value.oneCell']) (Nat.zero_lt_one) (by unfold maxLen; omega) (by omega) (by simp; omega) _ rfl ?_); intro g3 cap3 w2 hown hgrow hat hlt3)
                have hfar := row_far HA1.out HR1.out
                have hpl := HA1.out.arr.ltp
                have hml1 := HA1.out.arr.ltm
                have ha2 : AInv w2 p m clk M c := (HA1.out.below ((Below.refl _ _).alloc (Nat.le_refl _) (.cells #[.string x] 9))).keep (hgrow.block p (by simp; omega) (fun e => (hfar p e.symm).1 rfl)) (hgrow.block m (by simp; omega) (fun e => (hfar m e.symm).2 rfl))
                have hb2 : Below w.heap.size w w2 := (HB1.out.alloc HB1.out.size _).grown hgrow (by simp; omega) (fun y hy => (HR1.out.lt y hy).1)
                have HR2 : Hid (World.ownsRow w2 w.heap.size 9 1 (.slice (some ⟨g3, 0, none⟩) (ml + 1) cap3) (ml + 1) (cellsK (M.map (·.key) ++ [x]))) := by
                  have e2 : cellsK (M.map (·.key) ++ [x]) = cellsK (M.map (·.key)) ++ [.string x] := by simp [cellsK]
                  show World.ownsRow _ _ _ _ _ _ _
                  rw [e2]; exact hown
                have HA2 := Lib.hid ha2
                have HB2 := Lib.hid hb2
                clear hown hgrow hat hlt3 ha2 hb2 hfar hpl hml1 hi hz0 hz1 hz2 hz9 HA1 HR1 HB1
                go_wp2_with fail
                refine (text_any _ _).mono ?_
                rintro e w3 ⟨rfl, hb3⟩
                have HA3 := Lib.hid (HA2.out.below hb3)
                have HR3 : Hid (World.ownsRow w3 w.heap.size 9 1 (.slice (some ⟨g3, 0, none⟩) (ml + 1) cap3) (ml + 1) (cellsK (M.map (·.key) ++ [x]))) := own_keepI HR2.out (fun g hg => hb3.block g (HR2.out.lt g hg).2)
                have HB3 := Lib.hid (HB2.out.trans (hb3.mono HB2.out.size))
                clear hb3 HA2 HR2 HB2
                obtain ⟨sv, hsv⟩ : ∃ sv, sv = s := ⟨_, rfl⟩
                go_wp2_with fail
                refine (setE_any p m c clk x M 2 s w3 HA3.out (by omega)).mono ?_
                rintro e w4 ⟨rfl, ⟨clk', c', hA4, hc1, hc2⟩, hap⟩
                have hfar := row_far HA3.out HR3.out
                have HR4 : Hid (World.ownsRow w4 w.heap.size 9 1 (.slice (some ⟨g3, 0, none⟩) (ml + 1) cap3) (ml + 1) (cellsK (M.map (·.key) ++ [x]))) := own_keepI HR3.out (fun g hg => hap.block g (HR3.out.lt g hg).2 (by have := hfar g hg; simp; exact this))
                have HB4 := Lib.hid (HB3.out.trans (hap.below HB3.out.size (by simp; omega)))
                obtain ⟨j, e, hj, he, hek, hes⟩ := get_set (M := M) (k := x) (kind := 2) (str := s) (clk := clk) (c := c)
                have hG := getE_any p m c' clk' x (setE M x 2 s clk c) j e w4 hA4 hj he
                rw [hek, hes] at hG
                have HG := Lib.hid hG
                have HA4 := Lib.hid hA4
                have hss : (s.toList == s.toList) = true := by simp
                have HKs : Hid ((setE M x 2 s clk c).map (·.key) = M.map (·.key) ++ [x]) := by
                  show _ = _
                  rw [set_keys, if_neg hm]
                clear hfar hap hj he hek hes hG hA4 HA3 HR3 HB3 hsv
                go_wp2_with fail
                refine HG.out.mono ?_
                rintro e w5 ⟨rfl, hb5⟩
                have HA5 := Lib.hid ((HA4.out.below hb5).below ((Below.refl _ _).alloc (Nat.le_refl _) (.cells #[.int .i64 2, .float .f64 0, .string s] 47)))
                have HR5 := Lib.hid ((own_keepI HR4.out (w' := w5) (fun g hg => hb5.block g (HR4.out.lt g hg).2)).alloc (.cells #[.int .i64 2, .float .f64 0, .string s] 47))
                have HB5 := Lib.hid ((HB4.out.trans (hb5.mono HB4.out.size)).alloc (HB4.out.trans (hb5.mono HB4.out.size)).size (.cells #[.int .i64 2, .float .f64 0, .string s] 47))
                clear hb5 HG HA4 HR4 HB4
                go_wp2_with fail
                go_roundw
                case rel =>
                  refine ⟨k + 1, setE M x 2 s clk c, clk', c', ml + 1, rfl, by omega, by omega, ?_, HA5, ?_, HB5⟩
                  · have := congrArg List.length HKs.out
                    have h2 := HM.out
                    simp at this
                    show _ = _
                    omega
                  · show World.ownsRow _ _ _ _ _ _ _
                    rw [HKs.out]; exact HR5.out
                case measure => simp only [natI]; omega
            · have hvI : (nv : Int) ≤ (k : Int) := by omega
              by_cases hm : x ∈ M.map (·.key)
              · have HKd : Hid (Calls Tryz.prog 31 #[.pointer (some ⟨p, 0, none⟩), .string x] wr fun e w' => e = .returned (.int .i64 1) ∧ Below wr.heap.size wr w') := by
                  have h := kindE_any HA0.out x
                  unfold kindE at h
                  rw [if_pos hm] at h
                  exact h
                go_wp2_with fail
                refine HKd.out.mono ?_
                rintro e w1 ⟨rfl, hb1⟩
                clear HKd
                have HA1 := Lib.hid (HA0.out.below hb1)
                have HR1 : Hid (World.ownsRow _ w.heap.size 9 1 u8 ml (cellsK (M.map (·.key)))) := own_keepI HR0.out (fun g hg => hb1.block g (HR0.out.lt g hg).2)
                have HB1 := Lib.hid (HB0.out.trans (hb1.mono HB0.out.size))
                clear hb1
                clear HA0 HR0 HB0
                go_wp2_with fail
                refine (text_any _ _).mono ?_
                rintro e w3 ⟨rfl, hb3⟩
                have HA3 := Lib.hid (HA1.out.below hb3)
                have HR3 : Hid (World.ownsRow w3 w.heap.size 9 1 u8 ml (cellsK (M.map (·.key)))) := own_keepI HR1.out (fun g hg => hb3.block g (HR1.out.lt g hg).2)
                have HB3 := Lib.hid (HB1.out.trans (hb3.mono HB1.out.size))
                clear hb3 HA1 HR1 HB1
                obtain ⟨sv, hsv⟩ : ∃ sv, sv = (⟨#[]⟩ : ByteArray) := ⟨_, rfl⟩
                go_wp2_with fail
                refine (setE_any p m c clk x M 2 (⟨#[]⟩ : ByteArray) w3 HA3.out (by omega)).mono ?_
                rintro e w4 ⟨rfl, ⟨clk', c', hA4, hc1, hc2⟩, hap⟩
                have hfar := row_far HA3.out HR3.out
                have HR4 : Hid (World.ownsRow w4 w.heap.size 9 1 u8 ml (cellsK (M.map (·.key)))) := own_keepI HR3.out (fun g hg => hap.block g (HR3.out.lt g hg).2 (by have := hfar g hg; simp; exact this))
                have HB4 := Lib.hid (HB3.out.trans (hap.below HB3.out.size (by simp; omega)))
                obtain ⟨j, e, hj, he, hek, hes⟩ := get_set (M := M) (k := x) (kind := 2) (str := (⟨#[]⟩ : ByteArray)) (clk := clk) (c := c)
                have hG := getE_any p m c' clk' x (setE M x 2 (⟨#[]⟩ : ByteArray) clk c) j e w4 hA4 hj he
                rw [hek, hes] at hG
                have HG := Lib.hid hG
                have HA4 := Lib.hid hA4
                have hss : ((⟨#[]⟩ : ByteArray).toList == (⟨#[]⟩ : ByteArray).toList) = true := by simp
                have HKs : Hid ((setE M x 2 (⟨#[]⟩ : ByteArray) clk c).map (·.key) = M.map (·.key)) := by
                  show _ = _
                  rw [set_keys, if_pos hm]
                clear hfar hap hj he hek hes hG hA4 HA3 HR3 HB3 hsv
                go_wp2_with fail
                refine HG.out.mono ?_
                rintro e w5 ⟨rfl, hb5⟩
                have HA5 := Lib.hid ((HA4.out.below hb5).below ((Below.refl _ _).alloc (Nat.le_refl _) (.cells #[.int .i64 2, .float .f64 0, .string (⟨#[]⟩ : ByteArray)] 47)))
                have HR5 := Lib.hid ((own_keepI HR4.out (w' := w5) (fun g hg => hb5.block g (HR4.out.lt g hg).2)).alloc (.cells #[.int .i64 2, .float .f64 0, .string (⟨#[]⟩ : ByteArray)] 47))
                have HB5 := Lib.hid ((HB4.out.trans (hb5.mono HB4.out.size)).alloc (HB4.out.trans (hb5.mono HB4.out.size)).size (.cells #[.int .i64 2, .float .f64 0, .string (⟨#[]⟩ : ByteArray)] 47))
                clear hb5 HG HA4 HR4 HB4
                go_wp2_with fail
                go_roundw
                case rel =>
                  refine ⟨k + 1, setE M x 2 (⟨#[]⟩ : ByteArray) clk c, clk', c', ml, rfl, by omega, by omega, ?_, HA5, ?_, HB5⟩
                  · have := congrArg List.length HKs.out
                    have h2 := HM.out
                    simp at this
                    show _ = _
                    omega
                  · show World.ownsRow _ _ _ _ _ _ _
                    rw [HKs.out]; exact HR5.out
                case measure => simp only [natI]; omega
              · have HKd : Hid (Calls Tryz.prog 31 #[.pointer (some ⟨p, 0, none⟩), .string x] wr fun e w' => e = .returned (.int .i64 0) ∧ Below wr.heap.size wr w') := by
                  have h := kindE_any HA0.out x
                  unfold kindE at h
                  rw [if_neg hm] at h
                  exact h
                go_wp2_with fail
                refine HKd.out.mono ?_
                rintro e w1 ⟨rfl, hb1⟩
                clear HKd
                have HA1 := Lib.hid (HA0.out.below hb1)
                have HR1 : Hid (World.ownsRow _ w.heap.size 9 1 u8 ml (cellsK (M.map (·.key)))) := own_keepI HR0.out (fun g hg => hb1.block g (HR0.out.lt g hg).2)
                have HB1 := Lib.hid (HB0.out.trans (hb1.mono HB0.out.size))
                clear hb1
                clear HA0 HR0 HB0
                obtain ⟨i0, hi, hz0, hz1, hz2⟩ := info_parts infoS
                have hz9 : w.heap.size ≤ w1.heap.size := HB1.out.size
                go_wp2_with (at_builtin; go_loud (refine wpList_append_lies _ rfl _ _ 50 rfl w.heap.size 9 i0 (.string .empty) 1 16 undS hi hz0 hz1 hz2 rfl (by decide) u8 ml (cellsK (M.map (·.key))) rfl (HR1.out.alloc _) ⟨w1.heap.size, 0, none⟩ 1 1 [.string x] rfl rfl (World.news_of_block (heap_alloc_at w1 (.cells #[.string x] 9))) (by simp [Value.oneCell']) (Nat.zero_lt_one) (by unfold maxLen; omega) (by omega) (by simp; omega) _ rfl ?_); intro g3 cap3 w2 hown hgrow hat hlt3)
                have hfar := row_far HA1.out HR1.out
                have hpl := HA1.out.arr.ltp
                have hml1 := HA1.out.arr.ltm
                have ha2 : AInv w2 p m clk M c := (HA1.out.below ((Below.refl _ _).alloc (Nat.le_refl _) (.cells #[.string x] 9))).keep (hgrow.block p (by simp; omega) (fun e => (hfar p e.symm).1 rfl)) (hgrow.block m (by simp; omega) (fun e => (hfar m e.symm).2 rfl))
                have hb2 : Below w.heap.size w w2 := (HB1.out.alloc HB1.out.size _).grown hgrow (by simp; omega) (fun y hy => (HR1.out.lt y hy).1)
                have HR2 : Hid (World.ownsRow w2 w.heap.size 9 1 (.slice (some ⟨g3, 0, none⟩) (ml + 1) cap3) (ml + 1) (cellsK (M.map (·.key) ++ [x]))) := by
                  have e2 : cellsK (M.map (·.key) ++ [x]) = cellsK (M.map (·.key)) ++ [.string x] := by simp [cellsK]
                  show World.ownsRow _ _ _ _ _ _ _
                  rw [e2]; exact hown
                have HA2 := Lib.hid ha2
                have HB2 := Lib.hid hb2
                clear hown hgrow hat hlt3 ha2 hb2 hfar hpl hml1 hi hz0 hz1 hz2 hz9 HA1 HR1 HB1
                go_wp2_with fail
                refine (text_any _ _).mono ?_
                rintro e w3 ⟨rfl, hb3⟩
                have HA3 := Lib.hid (HA2.out.below hb3)
                have HR3 : Hid (World.ownsRow w3 w.heap.size 9 1 (.slice (some ⟨g3, 0, none⟩) (ml + 1) cap3) (ml + 1) (cellsK (M.map (·.key) ++ [x]))) := own_keepI HR2.out (fun g hg => hb3.block g (HR2.out.lt g hg).2)
                have HB3 := Lib.hid (HB2.out.trans (hb3.mono HB2.out.size))
                clear hb3 HA2 HR2 HB2
                obtain ⟨sv, hsv⟩ : ∃ sv, sv = (⟨#[]⟩ : ByteArray) := ⟨_, rfl⟩
                go_wp2_with fail
                refine (setE_any p m c clk x M 2 (⟨#[]⟩ : ByteArray) w3 HA3.out (by omega)).mono ?_
                rintro e w4 ⟨rfl, ⟨clk', c', hA4, hc1, hc2⟩, hap⟩
                have hfar := row_far HA3.out HR3.out
                have HR4 : Hid (World.ownsRow w4 w.heap.size 9 1 (.slice (some ⟨g3, 0, none⟩) (ml + 1) cap3) (ml + 1) (cellsK (M.map (·.key) ++ [x]))) := own_keepI HR3.out (fun g hg => hap.block g (HR3.out.lt g hg).2 (by have := hfar g hg; simp; exact this))
                have HB4 := Lib.hid (HB3.out.trans (hap.below HB3.out.size (by simp; omega)))
                obtain ⟨j, e, hj, he, hek, hes⟩ := get_set (M := M) (k := x) (kind := 2) (str := (⟨#[]⟩ : ByteArray)) (clk := clk) (c := c)
                have hG := getE_any p m c' clk' x (setE M x 2 (⟨#[]⟩ : ByteArray) clk c) j e w4 hA4 hj he
                rw [hek, hes] at hG
                have HG := Lib.hid hG
                have HA4 := Lib.hid hA4
                have hss : ((⟨#[]⟩ : ByteArray).toList == (⟨#[]⟩ : ByteArray).toList) = true := by simp
                have HKs : Hid ((setE M x 2 (⟨#[]⟩ : ByteArray) clk c).map (·.key) = M.map (·.key) ++ [x]) := by
                  show _ = _
                  rw [set_keys, if_neg hm]
                clear hfar hap hj he hek hes hG hA4 HA3 HR3 HB3 hsv
                go_wp2_with fail
                refine HG.out.mono ?_
                rintro e w5 ⟨rfl, hb5⟩
                have HA5 := Lib.hid ((HA4.out.below hb5).below ((Below.refl _ _).alloc (Nat.le_refl _) (.cells #[.int .i64 2, .float .f64 0, .string (⟨#[]⟩ : ByteArray)] 47)))
                have HR5 := Lib.hid ((own_keepI HR4.out (w' := w5) (fun g hg => hb5.block g (HR4.out.lt g hg).2)).alloc (.cells #[.int .i64 2, .float .f64 0, .string (⟨#[]⟩ : ByteArray)] 47))
                have HB5 := Lib.hid ((HB4.out.trans (hb5.mono HB4.out.size)).alloc (HB4.out.trans (hb5.mono HB4.out.size)).size (.cells #[.int .i64 2, .float .f64 0, .string (⟨#[]⟩ : ByteArray)] 47))
                clear hb5 HG HA4 HR4 HB4
                go_wp2_with fail
                go_roundw
                case rel =>
                  refine ⟨k + 1, setE M x 2 (⟨#[]⟩ : ByteArray) clk c, clk', c', ml + 1, rfl, by omega, by omega, ?_, HA5, ?_, HB5⟩
                  · have := congrArg List.length HKs.out
                    have h2 := HM.out
                    simp at this
                    show _ = _
                    omega
                  · show World.ownsRow _ _ _ _ _ _ _
                    rw [HKs.out]; exact HR5.out
                case measure => simp only [natI]; omega
          · have hltI : (n : Int) ≤ (k : Int) := by omega
            have hS := HSo.out M (wr.heap.size + 1) (by have := HM.out; omega) HA0.out.whens
            have hKy := Keys_uns (⟨#[]⟩ : ByteArray) HA0.out (by have := HM.out; omega) hS
            rw [show uns = ⟨#[64, 117, 110, 115, 111, 114, 116, 101, 100]⟩ from rfl, ← HM.out] at hKy
            have HKy := Lib.hid hKy
            clear hS hKy
            go_wp2_with fail
            refine HKy.out.mono ?_
            rintro e w3 ⟨⟨v, rfl, ho⟩, hb3⟩
            obtain ⟨ea, ec, rfl⟩ := own_sliceK ho
            have HT := Lib.hid (texts_any (L := M.map (·.key)) (RowS.ofOwn (by simpa [← HM.out] using ho)) (RowS.ofOwn (v := u8) (by simpa [← HM.out] using own_keepI HR0.out (w' := w3) (fun g hg => hb3.block g (HR0.out.lt g hg).2))) (by have := HM.out; simp; omega))
            have HA3 := Lib.hid (HA0.out.below hb3)
            have HB3 := Lib.hid (HB0.out.trans (hb3.mono HB0.out.size))
            clear ho hb3 HKy HA0 HB0 HR0
            go_wp2_with fail
            refine HT.out.mono ?_
            rintro e w4 ⟨rfl, hb4⟩
            have HA4 := Lib.hid (HA3.out.below hb4)
            have HB4 := Lib.hid (HB3.out.trans (hb4.mono HB3.out.size))
            clear hb4 HT HA3 HB3
            by_cases hg : gone ∈ M.map (·.key)
            · have hdel := del_in HA4.out.keys hg
              have hpos : 1 ≤ ml := by have := HM.out; omega
              obtain ⟨q, hq⟩ : ∃ q, ml = q + 1 := ⟨ml - 1, by omega⟩
              have hql : (delE M gone).length = q := by have := HM.out; omega
              have HQ := Lib.hid hql
              have hout := hdel.2
              have hqI : (ml : Int) - 1 = (q : Int) := by omega
              go_wp2_with fail
              refine (kind_in HA4.out hg).mono ?_
              rintro e w5 ⟨rfl, hb5⟩
              have HA5 := Lib.hid (HA4.out.below hb5)
              have HB5 := Lib.hid (HB4.out.trans (hb5.mono HB4.out.size))
              clear hb5 HA4 HB4
              go_wp2_with fail
              refine (len_is HA5.out HM.out.symm).mono ?_
              rintro e _ ⟨rfl, rfl⟩
              go_wp2_with fail
              refine (del_yes HA5.out hg).mono ?_
              rintro e w6 ⟨rfl, hA6, hap⟩
              have HA6 := Lib.hid hA6
              have HB6 := Lib.hid (HB5.out.trans (hap.below HB5.out.size (by simp; omega)))
              clear hA6 hap HA5 HB5
              go_wp2_with fail
              refine (kind_out HA6.out hout).mono ?_
              rintro e w7 ⟨rfl, hb7⟩
              have HA7 := Lib.hid (HA6.out.below hb7)
              have HB7 := Lib.hid (HB6.out.trans (hb7.mono HB6.out.size))
              clear hb7 HA6 HB6
              go_wp2_with fail
              refine (del_no HA7.out hout).mono ?_
              rintro e w8 ⟨rfl, hA8, hap⟩
              have HA8 := Lib.hid hA8
              have HB8 := Lib.hid (HB7.out.trans (hap.below HB7.out.size (by simp; omega)))
              clear hA8 hap HA7 HB7
              go_wp2_with fail
              refine (len_is HA8.out HQ.out).mono ?_
              rintro e _ ⟨rfl, rfl⟩
              go_wp2_with fail
              refine (text_any _ _).mono ?_
              rintro e w9 ⟨rfl, hb9⟩
              have HA9 := Lib.hid (HA8.out.below hb9)
              have HB9 := Lib.hid (HB8.out.trans (hb9.mono HB8.out.size))
              clear hb9 HA8 HB8
              go_wp2_with fail
              refine (setE_any p m c clk gone (delE M gone) 2 ⟨#[]⟩ w9 HA9.out (by omega)).mono ?_
              rintro e w10 ⟨rfl, ⟨clk', c', hA10, hc1, hc2⟩, hap⟩
              have hks := set_last (kind := 2) (str := ⟨#[]⟩) (clk := clk) (c := c) hout
              obtain ⟨M2, hM2⟩ : ∃ M2, M2 = setE (delE M gone) gone 2 ⟨#[]⟩ clk c := ⟨_, rfl⟩
              rw [← hM2] at hA10 hks
              have hl2 : ml = M2.length := by have := congrArg List.length hks; simp at this; omega
              have hlk : (M2.map (·.key))[q]? = some gone := by rw [hks, List.getElem?_append_right (by simp; omega)]; simp [hql]
              have HB10 := Lib.hid (HB9.out.trans (hap.below HB9.out.size (by simp; omega)))
              have hKy2 := Keys_uns (⟨#[]⟩ : ByteArray) hA10 (by omega) (HSo.out M2 (w10.heap.size + 1) (by omega) hA10.whens)
              rw [show uns = ⟨#[64, 117, 110, 115, 111, 114, 116, 101, 100]⟩ from rfl, ← hl2] at hKy2
              have HKy2 := Lib.hid hKy2
              have HA10 := Lib.hid hA10
              have HLK := Lib.hid hlk
              have HL2 := Lib.hid hl2
              clear hap HA9 HB9 hks hM2 hlk hKy2 hA10 hl2 hdel hql
              go_wp2_with fail
              refine HKy2.out.mono ?_
              rintro e w11 ⟨⟨v, rfl, ho⟩, hb11⟩
              have hrs := RowS.ofOwn (L := M2.map (·.key)) (by simpa [← HL2.out] using ho)
              obtain ⟨sa, sc, rfl, hrc⟩ := hrs
              have hml2 : (M2.map (·.key)).length = ml := by have := HL2.out; simp; omega
              rw [hml2] at hrc ho ⊢
              obtain ⟨sg, so, rfl, hsg, hsc⟩ := hrc (by omega)
              have cl := hsc q gone HLK.out
              have HA11 := Lib.hid (HA10.out.below hb11)
              have HB11 := Lib.hid (HB10.out.trans (hb11.mono HB10.out.size))
              have hgg : (gone.toList == gone.toList) = true := by simp
              clear hsc hrc ho hb11 HKy2 HA10 HB10 HLK
              go_wp2_with fail
              refine (clearE_any p m c' clk' M2 _ HA11.out).mono ?_
              rintro e w12 ⟨rfl, hA12, hap⟩
              have HA12 := Lib.hid hA12
              have HB12 := Lib.hid (HB11.out.trans (hap.below HB11.out.size (by simp; omega)))
              clear hA12 hap HA11 HB11 cl
              go_wp2_with fail
              refine (len_is HA12.out (l := 0) rfl).mono ?_
              rintro e _ ⟨rfl, rfl⟩
              go_wp2_with fail
              refine (Total_any 1 _ 0 _ (tot_empty HA12.out) (by omega)).mono ?_
              rintro e w13 ⟨rfl, hb13⟩
              have HB13 := Lib.hid (HB12.out.trans (hb13.mono HB12.out.size))
              clear hb13
              go_wp2_with fail
              go_ret
              exact ⟨rfl, HB13.out⟩
            · go_wp2_with fail
              refine (kind_out HA4.out hg).mono ?_
              rintro e w5 ⟨rfl, hb5⟩
              have HA5 := Lib.hid (HA4.out.below hb5)
              have HB5 := Lib.hid (HB4.out.trans (hb5.mono HB4.out.size))
              clear hb5 HA4 HB4
              go_wp2_with fail
              refine (len_is HA5.out HM.out.symm).mono ?_
              rintro e _ ⟨rfl, rfl⟩
              go_wp2_with fail
              refine (del_no HA5.out hg).mono ?_
              rintro e w6 ⟨rfl, hA6, hap⟩
              have HA6 := Lib.hid hA6
              have HB6 := Lib.hid (HB5.out.trans (hap.below HB5.out.size (by simp; omega)))
              clear hA6 hap HA5 HB5
              go_wp2_with fail
              refine (kind_out HA6.out hg).mono ?_
              rintro e w7 ⟨rfl, hb7⟩
              have HA7 := Lib.hid (HA6.out.below hb7)
              have HB7 := Lib.hid (HB6.out.trans (hb7.mono HB6.out.size))
              clear hb7 HA6 HB6
              go_wp2_with fail
              refine (del_no HA7.out hg).mono ?_
              rintro e w8 ⟨rfl, hA8, hap⟩
              have HA8 := Lib.hid hA8
              have HB8 := Lib.hid (HB7.out.trans (hap.below HB7.out.size (by simp; omega)))
              clear hA8 hap HA7 HB7
              go_wp2_with fail
              refine (len_is HA8.out HM.out.symm).mono ?_
              rintro e _ ⟨rfl, rfl⟩
              go_wp2_with fail
              refine (clearE_any p m c clk M _ HA8.out).mono ?_
              rintro e w12 ⟨rfl, hA12, hap⟩
              have HA12 := Lib.hid hA12
              have HB12 := Lib.hid (HB8.out.trans (hap.below HB8.out.size (by simp; omega)))
              clear hA12 hap HA8 HB8
              go_wp2_with fail
              refine (len_is HA12.out (l := 0) rfl).mono ?_
              rintro e _ ⟨rfl, rfl⟩
              go_wp2_with fail
              refine (Total_any 1 _ 0 _ (tot_empty HA12.out) (by omega)).mono ?_
              rintro e w13 ⟨rfl, hb13⟩
              have HB13 := Lib.hid (HB12.out.trans (hb13.mono HB12.out.size))
              clear hb13
              go_wp2_with fail
              go_ret
              exact ⟨rfl, HB13.out⟩
  exact key a1 a2 (fun h => (HC1.out h).1) (fun h => (HC2.out h).1)
end Go.Proofs.YtflbhifdololfaaGreatDoor
