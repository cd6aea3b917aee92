/- The document's answer of package ustr: Next, Starts, Len, Sub. -/
import Derived.Test.YtjldeckcfdeklaaGreatDoorV3
import Derived.Test.YtjldeckcfdeklaaGreatDoorV2
import Derived.Test.YtjldeckcfdeklaaGreatDoorU3
namespace Go.Proofs.YtjldeckcfdeklaaGreatDoor
open Go.RowKit
set_option linter.unusedVariables false

theorem size_any (s : ByteArray) (w : World) (hz : 0 < s.size) (hs : s.size ≤ 140737488351232) :
    Calls Tryz.prog 128 #[.string s] w fun e w' => e = .returned (.tuple #[.int .i64 ((sizeR s).1 : Nat), .int .i64 ((sizeR s).2 : Nat)]) ∧ w = w' := by
  have e : ∀ k, ∀ h : k < s.size, s[k].toNat = ch s k := fun k h => ch_in h
  have l := ch_lt s
  unfold sizeR
  by_cases h0 : ch s 0 < 128
  · exact size_ascii s w _ _ _ _ hz hs (e 0 hz) h0
  by_cases h1 : 194 ≤ ch s 0 ∧ ch s 0 ≤ 223
  · exact size_n2 s w _ _ _ _ hz hs (e 0 hz) (l 0) h1 (l 1) (e 1)
  by_cases h2 : 224 ≤ ch s 0 ∧ ch s 0 ≤ 239
  · exact size_n3 s w _ _ _ _ hz hs (e 0 hz) (l 0) h2 (l 1) (e 1) (l 2) (e 2)
  by_cases h3 : 240 ≤ ch s 0 ∧ ch s 0 ≤ 244
  · exact size_n4 s w _ _ _ _ hz hs (e 0 hz) (l 0) h3 (l 1) (e 1) (l 2) (e 2) (l 3) (e 3)
  · exact size_none s w _ _ _ _ hz hs (e 0 hz) h0 h1 h2 h3 (l 0)

set_option maxHeartbeats 8000000 in
set_option maxRecDepth 1000000 in
theorem Next1_any (s : ByteArray) (m : Nat) (b : Bool) (w : World) (hm : m < s.size) (hs : s.size ≤ 140737488351232) :
    Calls Tryz.prog 89 #[.string s, .int .i64 (m : Int), .bool b] w fun e w' => e = .returned (.tuple #[.int .i64 ((nxt s m b).1 : Nat), .int .i64 ((nxt s m b).2 : Nat)]) ∧ w = w' := by
  have hI : (m : Int) < (s.size : Int) := by omega
  have hI0 : decide ((m : Int) < 0) = false := by simp
  have hS : (s.size : Int) ≤ 140737488351232 := by omega
  have hcc : s[m].toNat = ch s m := ch_in hm
  have hch := ch_lt s m
  cases b
  · have hz : 0 < (s.extract m s.size).size := by rw [ByteArray.size_extract]; omega
    have HSz := Lib.hid (fun W => size_any (s.extract m s.size) W hz (by rw [ByteArray.size_extract]; omega))
    have hx := nxt_ref s m hm
    unfold nxtR at hx
    rw [ch_extract] at hx
    rw [hx]
    have hw := nxt_width false hm
    rw [hx] at hw
    clear hx
    obtain ⟨⟨k, r⟩, hkr⟩ : ∃ x, x = sizeR (s.extract m s.size) := ⟨_, rfl⟩
    rw [← hkr] at HSz hw
    rw [← hkr]
    clear hkr
    dsimp only at HSz hw
    generalize ch s m = c at *
    by_cases hk : k = 0
    · subst hk
      rw [if_pos rfl]
      go_enter Tryz.func89, Tryz.ntmps89
      go_wp2_with fail
      refine (HSz.out _).mono ?_
      rintro e _ ⟨rfl, rfl⟩
      go_wp2_with fail
      go_ret2
      exact ⟨by simp, rfl⟩
    · rw [if_neg hk]
      have hkb : ((k : Int) == 0) = false := by simp; omega
      go_enter Tryz.func89, Tryz.ntmps89
      go_wp2_with fail
      refine (HSz.out _).mono ?_
      rintro e _ ⟨rfl, rfl⟩
      go_wp2_with fail
      go_ret2
      exact ⟨rfl, rfl⟩
  · have hx : nxt s m true = (ch s m, 1) := rfl
    rw [hx]
    generalize ch s m = c at *
    go_enter Tryz.func89, Tryz.ntmps89
    go_wp2_with fail
    go_ret2
    exact ⟨rfl, rfl⟩

theorem OwnI.keep {w w' : World} {base B : Nat} {v : Value} {L : List Nat} (h : OwnI w base v L) (hb : Below B w w') (hB : w.heap.size ≤ B) : OwnI w' base v L := by
  rcases h.slice with ⟨rfl, rfl⟩ | ⟨g, cap, rfl, hbg, hr⟩
  · exact OwnI.nil _ _
  · exact (hr.below hb (Nat.lt_of_lt_of_le hr.ltg hB)).own hbg
set_option maxHeartbeats 8000000 in
set_option maxRecDepth 1000000 in
theorem Starts_any (s : ByteArray) (b : Bool) (w : World) (hs : s.size ≤ 900000000) :
    Calls Tryz.prog 57 #[.string s, .bool b] w fun e w' => ∃ v, e = .returned v ∧ OwnI w' w.heap.size v (startsL s b 0) ∧ Below w.heap.size w w' := by
  have HNx := Lib.hid (fun m W hm => Next1_any s m b W hm (by omega))
  have hsI : (s.size : Int) ≤ 900000000 := by omega
  go_enter Tryz.func57, Tryz.ntmps57
  go_wp2_with fail
  go_loopw [5, 6] (fun o i wr => ∃ (m : Nat) (L : List Nat), i = .int .i64 (m : Nat) ∧ m ≤ s.size ∧ L.length ≤ m ∧ Hid (L ++ startsL s b m = startsL s b 0) ∧ Hid (OwnI wr w.heap.size o L) ∧ Hid (Below w.heap.size w wr)) (fun _ i _ => s.size - (intOf i).toNat)
  case atStart => exact ⟨0, [], rfl, Nat.zero_le _, Nat.zero_le _, rfl, OwnI.nil _ _, Below.refl _ _⟩
  case round =>
    obtain ⟨m, L, rfl, hm, hL, HE, HO, HB⟩ := hrel
    rcases Nat.lt_or_ge m s.size with hlt | hge
    · have hI : (m : Int) < (s.size : Int) := by omega
      have HE1 : Hid ((L ++ [m]) ++ startsL s b (m + (nxt s m b).2) = startsL s b 0) := by
        show _ = _
        rw [← HE.out, starts_step hlt]
        simp
      have HN := Lib.hid (fun W => HNx.out m W hlt)
      have hw := nxt_width b hlt
      have hin := nxt_in s m b hlt
      obtain ⟨⟨c, k⟩, hck⟩ : ∃ x, x = nxt s m b := ⟨_, rfl⟩
      rw [← hck] at HE1 HN hw hin
      clear hck HE
      dsimp only at HE1 HN hw hin
      have hgs := HB.out.size
      have hLen : L.length ≤ 1000000000 := by omega
      go_wp2_with (
        at_builtin
        go_loud (refine wpList_appI _ rfl _ _ rfl w.heap.size _ L rfl (OwnI.alloc HO.out _) wr.heap.size m rfl (by simp [go_sem]) (by omega) (by simp; omega) (by omega) ?_)
        intro v1 w3 hown1 hgr1
        have HO1 := Lib.hid hown1
        have HB3 := Lib.hid ((HB.out.alloc hgs _).grown hgr1 (by simp; omega) (fun x hx => (HO.out.own.lt x hx).1))
        clear hown1 hgr1)
      go_wp2_with fail
      refine (HN.out _).mono ?_
      rintro e _ ⟨rfl, rfl⟩
      go_wp2_with fail
      go_roundw
      case rel => exact ⟨m + k, L ++ [m], by simp, by omega, by simp; omega, HE1, HO1, HB3⟩
      case measure => simp only [intOf]; omega
    · obtain rfl : m = s.size := by omega
      have HE1 : Hid (L ++ [s.size] = startsL s b 0) := by
        show _ = _
        rw [← HE.out, starts_end]
      have hgs := HB.out.size
      go_wp2_with (
        at_builtin
        go_loud (refine wpList_appI _ rfl _ _ rfl w.heap.size _ L rfl (OwnI.alloc HO.out _) wr.heap.size s.size rfl (by simp [go_sem]) (by omega) (by simp; omega) (by omega) ?_)
        intro v1 w3 hown1 hgr1
        have HO1 := Lib.hid hown1
        have HB3 := Lib.hid ((HB.out.alloc hgs _).grown hgr1 (by simp; omega) (fun x hx => (HO.out.own.lt x hx).1))
        clear hown1 hgr1)
      go_wp2_with fail
      go_ret
      exact ⟨_, rfl, HE1.out ▸ HO1.out, HB3.out⟩

set_option maxHeartbeats 8000000 in
set_option maxRecDepth 1000000 in
theorem Len1_any (s : ByteArray) (b : Bool) (w : World) (hs : s.size ≤ 900000000) :
    Calls Tryz.prog 51 #[.string s, .bool b] w fun e w' => e = .returned (.int .i64 ((chars s b 0).length : Nat)) ∧ Below w.heap.size w w' := by
  have HS := Lib.hid (Starts_any s b w hs)
  have hl := starts_len s b 0
  have hcl := chars_len s b s.size 0 (by omega)
  have hcI : ((chars s b 0).length : Int) ≤ 900000000 := by omega
  generalize (chars s b 0).length = n at *
  go_enter Tryz.func51, Tryz.ntmps51
  go_wp2_with fail
  refine HS.out.mono ?_
  rintro e w1 ⟨v, rfl, hown, hb⟩
  have HB := Lib.hid hb
  obtain ⟨a, cap, rfl⟩ : ∃ a cap, v = .slice a (n + 1) cap := by
    rcases hown.slice with ⟨_, h⟩ | ⟨g, cap, h, _⟩
    · rw [h] at hl; cases hl
    · exact ⟨_, _, by rw [h, hl]⟩
  clear hb hown hl hcl
  go_wp2_with fail
  go_ret
  exact ⟨by simp, HB.out⟩
end Go.Proofs.YtjldeckcfdeklaaGreatDoor
