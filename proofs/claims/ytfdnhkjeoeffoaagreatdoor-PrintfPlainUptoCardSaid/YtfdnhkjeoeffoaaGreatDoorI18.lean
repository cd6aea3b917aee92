/- PrintfTexts, walked. -/
import Derived.Test.YtfdnhkjeoeffoaaGreatDoorM11
namespace Go.Proofs.YtfdnhkjeoeffoaaGreatDoor
open Go.RowKit
set_option linter.unusedVariables false
/-- the strings of a row that came in -/
def RowP (w : World) (v : Value) (L : List ByteArray) : Prop := ∃ a c, v = .slice a L.length c ∧ (0 < L.length → ∃ g o, a = some ⟨g, o, none⟩ ∧ g < w.heap.size ∧ ∀ (j : Nat) s, L[j]? = some s → w.cell? ⟨g, o + j, none⟩ = some (.string s))
def txC (s : ByteArray) : CellT := (2, 0, s)
theorem strF_len (d : List UInt8) : ∀ l : List ByteArray, (strF d l).length = l.length * (2 + d.length)
 | [] => by simp [strF]
 | s :: l => by
   have h := strF_len d l
   unfold strF at h ⊢
   simp only [List.map_cons, List.flatten_cons, List.length_append, List.length_cons, List.length_nil] at h ⊢
   rw [h, Nat.add_mul]; omega
theorem strF_snoc (d : List UInt8) (l : List ByteArray) (s : ByteArray) : strF d (l ++ [s]) = strF d l ++ ([37, 115] ++ d) := by simp [strF]
theorem strW_snoc (d : List UInt8) (l : List ByteArray) (s : ByteArray) : strW d (l ++ [s]) = strW d l ++ (s.data.toList ++ d) := by simp [strW]
theorem flat_app (a b : ByteArray) : (a ++ b).data.toList = a.data.toList ++ b.data.toList := by simp
/-- no verb of numbers stands in it -/
theorem texts_verbs {f : ByteArray} {d : List UInt8} {l : List ByteArray} (hf : f.data.toList = strF d l) (hd : ∀ c ∈ d, c = 45) {k : Nat} (hok : okP f k = true) : isNum (ch f (pv f k)) = false := by
 have h1 := pv_in hok
 have h2 : pv f k < f.data.toList.length := by rw [← sz_list]; exact h1
 have hm : f.data.toList[pv f k] ∈ strF d l := by rw [← hf]; exact List.getElem_mem h2
 have hc : ch f (pv f k) = (f.data.toList[pv f k]).toNat := by
  unfold ch
  rw [List.getD_eq_getElem?_getD, List.getElem?_eq_getElem h2]
  rfl
 rw [hc]
 generalize f.data.toList[pv f k] = c at hm
 unfold strF at hm
 obtain ⟨x, hx, hcx⟩ := List.mem_flatten.1 hm
 obtain ⟨s, _, rfl⟩ := List.mem_map.1 hx
 rcases List.mem_append.1 hcx with h | h
 ·simp only [List.mem_cons, List.not_mem_nil, or_false] at h
  rcases h with rfl | rfl <;> decide
 ·rw [hd c h]; decide
set_option maxHeartbeats 16000000 in
set_option maxRecDepth 100000 in
theorem texts11_any {w : World} {v1 : Value} {K : List ByteArray} (sep : ByteArray) (hT : Tabs5 w) (h1 : RowP w v1 K) (hK : K.length ≤ maxLen) (hKs : ∀ s ∈ K, s.size ≤ 140737488351232) :
 Calls Tryz.prog 10 #[v1, .string sep] w fun e w' => e = .returned (.bool true) ∧ Below w.heap.size w w' := by
 unfold maxLen at hK
 obtain ⟨a1, c1, rfl, h1⟩ := h1
 obtain ⟨n, hn⟩ : ∃ n, n = K.length := ⟨_, rfl⟩
 rw [← hn] at hK h1 ⊢
 obtain ⟨g1, o1, hc1⟩ : ∃ g1 o1, 0 < n → a1 = some ⟨g1, o1, none⟩ ∧ g1 < w.heap.size ∧ ∀ (j : Nat) s, K[j]? = some s → w.cell? ⟨g1, o1 + j, none⟩ = some (.string s) := by
  rcases Nat.eq_zero_or_pos n with h | h
  ·exact ⟨0, 0, fun h2 => by omega⟩
  ·obtain ⟨g, o, x⟩ := h1 h
   exact ⟨g, o, fun _ => x⟩
 have HC1 := Lib.hid hc1
 have HN := Lib.hid hn
 have HKs := Lib.hid hKs
 have HF := Lib.hid (fixed11_any w hT)
 have HT := Lib.hid hT
 obtain ⟨d, hd⟩ : ∃ d, d = dashL sep := ⟨_, rfl⟩
 have hdl : d.length ≤ 3 := by rw [hd]; unfold dashL; rw [List.length_replicate]; omega
 obtain ⟨DB, hDB⟩ : ∃ DB : ByteArray, DB = ⟨d.toArray⟩ := ⟨_, rfl⟩
 have HDa : Hid (∀ W, Calls Tryz.prog 39 #[.string sep] W fun e w' => e = .returned (.string DB) ∧ w' = W) := fun W => by rw [hDB, hd]; exact dashes_any sep W
 have HD45 : Hid (∀ c ∈ d, c = 45) := by rw [hd]; exact fun c hc => List.eq_of_mem_replicate hc
 have HDn : Hid ((37 : UInt8) ∉ d) := by rw [hd]; exact dash_no sep
 have HDB : Hid (DB.data.toList = d) := by show _ = _; rw [hDB]
 have HDl := Lib.hid hdl
 obtain ⟨i0, hi, hz0, hz1, hz2⟩ := info_parts infoCL
 have HI0 := Lib.hid hi
 have HZ0 := Lib.hid hz0
 have HZ1 := Lib.hid hz1
 have HZ2 := Lib.hid hz2
 clear hc1 h1 hn hKs hT hd hDB hi hz0 hz1 hz2 hdl
 /- the tail: behind the loop -/
 have HTail : Hid (∀ (F Wn : ByteArray) (v7 : Value) (k : Nat) (wr : World), k ≤ n → k ≤ 50 → F.data.toList = strF d (K.take k) → Wn.data.toList = strW d (K.take k) → wr.ownsRow w.heap.size 48 3 v7 k (cellsCL ((K.take k).map txC)) → Below w.heap.size w wr →
  Calls Tryz.prog 35 #[.string F, v7, .agg #[.string ⟨#[]⟩, .bool false]] wr fun e w' => (∃ R E, e = .returned (.tuple #[.string R, .int .i64 E]) ∧ ((1024 < Wn.size → R = ⟨#[]⟩ ∧ E = 3) ∧ (Wn.size ≤ 1024 → R = Wn ∧ E = 0))) ∧ Below w.heap.size w w') := by
  intro F Wn v7 k wr hkn hk50 hF hW ho hb
  have hTr : Tabs5 wr := ⟨HT.out.err.below hb, HT.out.pow.below hb, HT.out.utf.below hb⟩
  have hlen : (K.take k).length = k := by rw [List.length_take]; have := HN.out; omega
  have hA := CellsAt.ofOwn ho (by rw [List.length_map, hlen]) (by omega)
  have hFs : F.size ≤ 250 := by
   rw [sz_list, hF, strF_len, hlen]
   have h1 : k * (2 + d.length) ≤ k * 5 := Nat.mul_le_mul_left k (by have := HDl.out; omega)
   omega
  have hS := sprintf_any numF (fun _ => True) F ⟨#[]⟩ false v7 _ sfC wr trivial (fun k _ _ hok => ⟨fun hn => (by rw [texts_verbs hF HD45.out hok] at hn; cases hn), trivial⟩) hTr (M := 140737488351232) (by decide) (by decide) (by omega) (by omega) hA (fun c hc => by
   obtain ⟨s, hs, rfl⟩ := List.mem_map.1 hc
   exact cfit0 (by decide) hTr (show (0 : Nat) < 18446744073709551616 by decide) (HKs.out s (List.mem_of_mem_take hs))) (cfit0 (by decide) hTr (by decide) (by decide))
  have he := texts_spr (sf := sfC) (by_ := false) (f := F) HDn.out (fun s => sfC_text s) (K.take k) [] 0 [] (.inl rfl) (by rw [hF]; rfl) (by omega) (by decide)
  unfold sprS at he
  rw [show ((K.take k).map fun s => ((2, 0, s) : CellT)) = (K.take k).map txC from rfl] at he
  rw [he] at hS
  simp only [List.nil_append] at hS
  rw [← hW] at hS
  have hWz : Wn.data.toList.length = Wn.size := (sz_list Wn).symm
  rw [hWz] at hS
  refine hS.mono fun e w' hh => ?_
  refine ⟨?_, hb.trans (hh.2.mono hb.size)⟩
  by_cases h : 1024 < Wn.size
  ·rw [if_pos h] at hh
   exact ⟨_, _, hh.1, fun _ => ⟨rfl, rfl⟩, fun h2 => by omega⟩
  ·rw [if_neg h] at hh
   exact ⟨_, _, hh.1, fun h2 => absurd h2 h, fun _ => ⟨bytes_self Wn, rfl⟩⟩
 go_enter Tryz.func10, Tryz.ntmps10
 go_wp2_with fail
 refine HF.out.mono ?_
 rintro e w1 ⟨rfl, hb1⟩
 have HB1 := Lib.hid hb1
 clear hb1
 go_wp2_with fail
 go_loopw [5, 6, 7, 16] (fun v5 v6 v7 v16 wr => ∃ (k : Nat) (F Wn : ByteArray), v16 = .int .i64 (k : Int) ∧ k ≤ n ∧ k ≤ 50 ∧ v5 = .string F ∧ v6 = .string Wn ∧ Hid (F.data.toList = strF d (K.take k)) ∧ Hid (Wn.data.toList = strW d (K.take k)) ∧ Hid (Wn.size ≤ k * 140737488351235) ∧ Hid (wr.ownsRow w.heap.size 48 3 v7 k (cellsCL ((K.take k).map txC))) ∧ Hid (Below w.heap.size w wr)) (fun _ _ _ v16 _ => n - (intOf v16).toNat)
 case atStart => exact ⟨0, ⟨#[]⟩, ⟨#[]⟩, rfl, Nat.zero_le _, Nat.zero_le _, rfl, rfl, rfl, rfl, Nat.le_refl _, World.ownsRow_nil _ _ _ _, HB1.out⟩
 case round =>
  obtain ⟨k, F, Wn, rfl, hk, hk50, rfl, rfl, HFk, HWk, HWz, HOw, HBr⟩ := hrel
  have hsz := HBr.out.size
  by_cases hlt : k < n ∧ k < 50
  ·obtain ⟨hlt, hl50⟩ := hlt
   have hltI : (k : Int) < (n : Int) := by omega
   have hl5 : decide ((50 : Int) ≤ (k : Int)) = false := by simp; omega
   have hl5' : ¬ ((50 : Int) ≤ (k : Int)) := by omega
   obtain ⟨s, hs⟩ : ∃ s, K[k]? = some s := ⟨_, List.getElem?_eq_getElem (by rw [← HN.out]; exact hlt)⟩
   obtain ⟨rfl, hg1, hk1⟩ := HC1.out (by omega)
   have cs := (HBr.out.cell (p := ⟨g1, o1 + k, none⟩) hg1).trans (hk1 k s hs)
   have htk : K.take (k + 1) = K.take k ++ [s] := by rw [List.take_add_one, hs]; rfl
   have HF2 : Hid ((F ++ ((⟨#[37, 115]⟩ : ByteArray) ++ DB)).data.toList = strF d (K.take (k + 1))) := by show _ = _; rw [htk, strF_snoc, flat_app, flat_app, HFk.out, HDB.out]
   have HW2 : Hid ((Wn ++ (s ++ DB)).data.toList = strW d (K.take (k + 1))) := by show _ = _; rw [htk, strW_snoc, flat_app, flat_app, HWk.out, HDB.out]
   have HX : Hid (cellsCL ((K.take (k + 1)).map txC) = cellsCL ((K.take k).map txC) ++ [.int .i64 2, .float .f64 0, .string s]) := by
    show _ = _
    rw [htk, List.map_append]
    exact cellsCL_snoc _ (txC s)
   have hdz : DB.size ≤ 3 := by rw [sz_list, HDB.out]; exact HDl.out
   have hFz : F.size ≤ 250 := by
    rw [sz_list, HFk.out, strF_len, List.length_take]
    have h1 : min k K.length * (2 + d.length) ≤ 50 * 5 := Nat.mul_le_mul (by omega) (by have := HDl.out; omega)
    omega
   have hsz2 := HKs.out s (List.mem_of_getElem? hs)
   have hWz := HWz.out
   have hWz9 : k * 140737488351235 ≤ 50 * 140737488351235 := Nat.mul_le_mul_right _ hk50
   have HWz2 : Hid ((Wn ++ (s ++ DB)).size ≤ (k + 1) * 140737488351235) := by show _ ≤ _; rw [ByteArray.size_append, ByteArray.size_append, Nat.add_mul]; omega
   have cc1 : ¬ 9223372036854775807 < 2 + DB.size := by omega
   have cc2 : ¬ 9223372036854775807 < F.size + (2 + DB.size) := by omega
   have cc3 : ¬ 9223372036854775807 < s.size + DB.size := by omega
   have cc4 : ¬ 9223372036854775807 < Wn.size + (s.size + DB.size) := by omega
   clear hk1 hs htk hg1 hdz hFz hsz2 hWz hWz9
   go_wp2_with fail
   refine (HDa.out _).mono ?_
   rintro e _ ⟨rfl, rfl⟩
   go_wp2_with fail
   refine (HDa.out _).mono ?_
   rintro e _ ⟨rfl, rfl⟩
   go_wp2_with fail
   refine (text11 _ _).mono ?_
   rintro e wt ⟨rfl, hbt⟩
   have HBt := Lib.hid (HBr.out.trans (hbt.mono HBr.out.size))
   have HOt := Lib.hid (owns_below HOw.out hbt)
   have hszt := HBt.out.size
   clear hbt
   go_wp2_with (at_builtin; go_loud (refine wpList_append_own_at _ rfl _ _ 56 rfl w.heap.size 48 i0 (.agg #[.int .i64 0, .float .f64 0, .string .empty]) 3 32 undCL HI0.out HZ0.out HZ1.out HZ2.out rfl (by decide) _ k (cellsCL ((K.take k).map txC)) rfl (HOt.out.alloc _) ⟨wt.heap.size, 0, none⟩ 1 1 [.int .i64 2, .float .f64 0, .string s] rfl rfl (newsCL wt (.int .i64 2) (.float .f64 0) (.string s)) (by simp [Value.oneCell']) (by unfold maxLen; omega) (by omega) (by simp; omega) ?_))
   intro v9 w9 hown9 hgr9 _ _
   have HO9 : Hid (w9.ownsRow w.heap.size 48 3 v9 (k + 1) (cellsCL ((K.take (k + 1)).map txC))) := by
    rw [HX.out, List.map_take]
    exact hown9
   have HB9 := Lib.hid ((HBt.out.alloc hszt _).grown hgr9 (by simp; omega) (fun y hy => (HOt.out.lt y hy).1))
   clear hown9 hgr9
   go_wp2_with fail
   go_roundw
   case rel => exact ⟨k + 1, _, _, by go_num, by omega, by omega, rfl, rfl, HF2, HW2, HWz2, HO9, HB9⟩
   case measure => simp only [intOf]; omega
  ·have HTl := Lib.hid (HTail.out F Wn _ k wr hk hk50 HFk.out HWk.out HOw.out HBr.out)
   by_cases hkn : k < n
   ·have hk5 : k = 50 := by omega
    subst hk5
    have hltI : (50 : Int) < (n : Int) := by omega
    obtain ⟨s, hs⟩ : ∃ s, K[50]? = some s := ⟨_, List.getElem?_eq_getElem (by rw [← HN.out]; exact hkn)⟩
    obtain ⟨rfl, hg1, hk1⟩ := HC1.out (by omega)
    have cs := (HBr.out.cell (p := ⟨g1, o1 + 50, none⟩) hg1).trans (hk1 50 s hs)
    clear hk1 hs hg1 hlt
    go_wp2_with fail
    refine HTl.out.mono ?_
    rintro e w5 ⟨⟨R, E, rfl, hbig, hsml⟩, hb5⟩
    have HB5 := Lib.hid hb5
    by_cases h : 1024 < Wn.size
    ·obtain ⟨rfl, rfl⟩ := hbig h
     have hI : (1024 : Int) < (Wn.size : Int) := by omega
     clear hbig hsml hb5
     go_wp2_with fail
     go_ret
     exact ⟨rfl, HB5.out⟩
    ·obtain ⟨rfl, rfl⟩ := hsml (by omega)
     have hI : decide ((1024 : Int) < (R.size : Int)) = false := by simp; omega
     clear hbig hsml hb5
     go_wp2_with fail
     go_ret
     exact ⟨by simp, HB5.out⟩
   ·obtain rfl : k = n := by omega
    have hltI : (k : Int) ≤ (k : Int) := Int.le_refl _
    clear hlt hkn
    go_wp2_with fail
    refine HTl.out.mono ?_
    rintro e w5 ⟨⟨R, E, rfl, hbig, hsml⟩, hb5⟩
    have HB5 := Lib.hid hb5
    by_cases h : 1024 < Wn.size
    ·obtain ⟨rfl, rfl⟩ := hbig h
     have hI : (1024 : Int) < (Wn.size : Int) := by omega
     clear hbig hsml hb5
     go_wp2_with fail
     go_ret
     exact ⟨rfl, HB5.out⟩
    ·obtain ⟨rfl, rfl⟩ := hsml (by omega)
     have hI : decide ((1024 : Int) < (R.size : Int)) = false := by simp; omega
     clear hbig hsml hb5
     go_wp2_with fail
     go_ret
     exact ⟨by simp, HB5.out⟩
theorem texts11_law {v1 : Value} (K : List ByteArray) (sep : ByteArray) (w : World) (hT : Tabs5 w) (h1 : RowP w v1 K) (hK : K.length ≤ maxLen) (hKs : ∀ s ∈ K, s.size ≤ 140737488351232) (_ : sep.size ≤ 140737488351232) :
 Calls Tryz.prog 10 #[v1, .string sep] w fun e w' => e = .returned (.bool true) ∧ Below w.heap.size w w' := texts11_any sep hT h1 hK hKs
end Go.Proofs.YtfdnhkjeoeffoaaGreatDoor
