/- thresherref19: has, find, isBlank, letter. -/
import Derived.Test.YtmhjfdnpmfhmjaaDoorS23
namespace Go.Proofs.YtmhjfdnpmfhmjaaDoor
open Go.RowKit
set_option linter.unusedVariables false

/-- texts in a row -/
def TextsR (w : World) (v : Value) (L : List Str) : Prop := (∃ a c, v = .slice a 0 c ∧ L = []) ∨
  ∃ g c, v = .slice (some ⟨g, 0, none⟩) L.length c ∧ ∀ (j : Nat) l, L[j]? = some l → w.cell? ⟨g, j, none⟩ = some (.string (B l))

set_option maxHeartbeats 4000000 in
set_option maxRecDepth 100000 in
theorem has_any (v : Value) (L : List Str) (x : Str) (w : World) (h : TextsR w v L) (hl : L.length ≤ 1000000) :
    Calls Tryd.prog 21 #[v, .string (B x)] w fun e w' => e = .returned (.bool (decide (x ∈ L))) ∧ w' = w := by
  rcases h with ⟨a, c, rfl, rfl⟩ | ⟨g, c, rfl, hc⟩
  · go_enter Tryd.func21, Tryd.ntmps21
    go_wp2_with fail
    go_loop [5] (fun v5 => v5 = .int .i64 0) (fun _ => 0)
    case atStart => rfl
    case round =>
      obtain rfl := hrel
      go_wp2_with fail
      go_ret
      exact ⟨rfl, rfl⟩
  · obtain ⟨n, hn⟩ : ∃ n, n = L.length := ⟨_, rfl⟩
    rw [← hn] at hl ⊢
    obtain ⟨xb, hxb⟩ : ∃ xb, xb = B x := ⟨_, rfl⟩
    rw [← hxb]
    have HC := Lib.hid hc
    have HN := Lib.hid hn
    have HX := Lib.hid hxb
    clear hc hn hxb
    go_enter Tryd.func21, Tryd.ntmps21
    go_wp2_with fail
    go_loop [5] (fun v5 => ∃ k : Nat, v5 = .int .i64 (k : Int) ∧ k ≤ n ∧ Hid (∀ y ∈ L.take k, (y == x) = false)) (fun v5 => n - natOf v5)
    case atStart => exact ⟨0, rfl, Nat.zero_le _, fun y hy => by cases hy⟩
    case round =>
      obtain ⟨k, rfl, hk, HM⟩ := hrel
      by_cases hlt : k < n
      · have hltI : (k : Int) < (n : Int) := by omega
        obtain ⟨l, hx⟩ : ∃ l, L[k]? = some l := ⟨L[k]'(by rw [← HN.out]; exact hlt), List.getElem?_eq_getElem _⟩
        have c1 := HC.out k l hx
        have HP := Lib.hid hx
        clear hx
        cases hq : (l == x) with
        | true =>
          have ht : ((B l).toList == xb.toList) = true := by rw [Lib.toList_data, Lib.toList_data, HX.out, B_list, B_list]; exact hq
          have HQ := Lib.hid hq
          clear hq
          go_wp2_with fail
          go_ret
          refine ⟨?_, rfl⟩
          have hh : decide (x ∈ L) = true := by
            rw [decide_eq_true_iff]
            have := List.mem_of_getElem? HP.out
            rw [beq_iff_eq.1 HQ.out] at this; exact this
          rw [hh]; rfl
        | false =>
          have ht : ((B l).toList == xb.toList) = false := by rw [Lib.toList_data, Lib.toList_data, HX.out, B_list, B_list]; exact hq
          have HQ := Lib.hid hq
          clear hq
          go_wp2_with fail
          go_round
          case rel =>
            refine ⟨k + 1, rfl, by omega, fun y hy => ?_⟩
            rw [List.take_add_one, HP.out] at hy
            rcases List.mem_append.1 hy with hy | hy
            · exact HM.out y hy
            · simp at hy; subst hy; exact HQ.out
          case measure => simp only [natOf]; omega
      · have hltI : (n : Int) ≤ (k : Int) := by omega
        have hkn : k = n := by omega
        subst hkn
        go_wp2_with fail
        go_ret
        refine ⟨?_, rfl⟩
        have hh : decide (x ∈ L) = false := by
          rw [decide_eq_false_iff_not]
          intro hm
          have := HM.out x (by rw [HN.out, List.take_length]; exact hm)
          simp at this
        rw [hh]; rfl

set_option maxHeartbeats 4000000 in
set_option maxRecDepth 100000 in
theorem isBlank_any (c : Nat) (w : World) (hc : c < 256) :
    Calls Tryd.prog 32 #[.int .u8 (c : Int)] w fun e w' => e = .returned (.bool (decide (c = 32) || decide (c = 9))) ∧ w' = w := by
  have hcI : (c : Int) < 256 := by omega
  go_enter Tryd.func32, Tryd.ntmps32
  by_cases h1 : c = 32
  · subst h1
    go_wp2_with fail
    go_ret
    exact ⟨rfl, rfl⟩
  · by_cases h2 : c = 9
    · subst h2
      go_wp2_with fail
      go_ret
      exact ⟨rfl, rfl⟩
    · have e1 : ¬ (c : Int) = 32 := by omega
      have e2 : ¬ (c : Int) = 9 := by omega
      go_wp2_with fail
      go_ret
      refine ⟨?_, rfl⟩
      show Ending.returned (.bool ((c : Int) == 32 || (c : Int) == 9)) = _
      rw [beq_eq_false_iff_ne.2 e1, beq_eq_false_iff_ne.2 e2, decide_eq_false h1, decide_eq_false h2]

/-- the place of a name among the files -/
def ixR (L : List (ByteArray × List ByteArray)) (x : Str) : Int := match L.findIdx? (fun p => p.1.data.toList == x) with | some k => (k : Int) | none => -1
theorem ixR_hit {L : List (ByteArray × List ByteArray)} {x : Str} {k : Nat} {p : ByteArray × List ByteArray} (hp : L[k]? = some p) (hn : (p.1.data.toList == x) = true) (hb : ∀ j, j < k → ∀ q, L[j]? = some q → (q.1.data.toList == x) = false) : ixR L x = (k : Int) := by
  unfold ixR
  have : L.findIdx? (fun p => p.1.data.toList == x) = some k := by
    rw [List.findIdx?_eq_some_iff_getElem]
    obtain ⟨h1, h2⟩ := List.getElem?_eq_some_iff.1 hp
    refine ⟨h1, by rw [h2]; exact hn, fun j hj => ?_⟩
    have := hb j hj L[j] (List.getElem?_eq_getElem (by omega))
    simpa using this
  rw [this]
theorem ixR_miss {L : List (ByteArray × List ByteArray)} {x : Str} (hb : ∀ j, j < L.length → ∀ q, L[j]? = some q → (q.1.data.toList == x) = false) : ixR L x = -1 := by
  unfold ixR
  have : L.findIdx? (fun p => p.1.data.toList == x) = none := by
    rw [List.findIdx?_eq_none_iff]
    intro y hy
    obtain ⟨j, hj, rfl⟩ := List.mem_iff_getElem.1 hy
    exact hb j hj _ (List.getElem?_eq_getElem hj)
  rw [this]
set_option maxHeartbeats 4000000 in
set_option maxRecDepth 100000 in
theorem find19_any (v : Value) (L : List (ByteArray × List ByteArray)) (x : Str) (w : World) (h : FilesR w v L) (hl : L.length ≤ 1000000) :
    Calls Tryd.prog 22 #[v, .string (B x)] w fun e w' => e = .returned (.int .i64 (ixR L x)) ∧ w' = w := by
  rcases h with ⟨a, c, rfl, rfl⟩ | ⟨bk, o, c, rfl, hlc, hlt, hc⟩
  · go_enter Tryd.func22, Tryd.ntmps22
    go_wp2_with fail
    go_loop [5] (fun v5 => v5 = .int .i64 0) (fun _ => 0)
    case atStart => rfl
    case round =>
      obtain rfl := hrel
      go_wp2_with fail
      go_ret
      exact ⟨rfl, rfl⟩
  · obtain ⟨n, hn⟩ : ∃ n, n = L.length := ⟨_, rfl⟩
    rw [← hn] at hl hlc ⊢
    obtain ⟨xb, hxb⟩ : ∃ xb, xb = B x := ⟨_, rfl⟩
    rw [← hxb]
    have HC := Lib.hid hc
    have HN := Lib.hid hn
    have HX := Lib.hid hxb
    clear hc hn hxb
    go_enter Tryd.func22, Tryd.ntmps22
    go_wp2_with fail
    go_loop [5] (fun v5 => ∃ k : Nat, v5 = .int .i64 (k : Int) ∧ k ≤ n ∧ Hid (∀ j, j < k → ∀ q, L[j]? = some q → (q.1.data.toList == x) = false)) (fun v5 => n - natOf v5)
    case atStart => exact ⟨0, rfl, Nat.zero_le _, fun j hj => absurd hj (by omega)⟩
    case round =>
      obtain ⟨k, rfl, hk, HM⟩ := hrel
      by_cases hlt2 : k < n
      · have hltI : (k : Int) < (n : Int) := by omega
        obtain ⟨p, hx⟩ : ∃ p, L[k]? = some p := ⟨L[k]'(by rw [← HN.out]; exact hlt2), List.getElem?_eq_getElem _⟩
        obtain ⟨cv, c1, _, _⟩ := HC.out k p hx
        have HP := Lib.hid hx
        clear hx
        cases hq : (p.1.data.toList == x) with
        | true =>
          have ht : (p.1.toList == xb.toList) = true := by rw [Lib.toList_data, Lib.toList_data, HX.out, B_list]; exact hq
          have HQ := Lib.hid hq
          clear hq
          go_wp2_with fail
          go_ret
          exact ⟨by rw [ixR_hit HP.out HQ.out HM.out]; rfl, rfl⟩
        | false =>
          have ht : (p.1.toList == xb.toList) = false := by rw [Lib.toList_data, Lib.toList_data, HX.out, B_list]; exact hq
          have HQ := Lib.hid hq
          clear hq
          go_wp2_with fail
          go_round
          case rel =>
            refine ⟨k + 1, rfl, by omega, fun j hj q hj2 => ?_⟩
            by_cases e : j = k
            · subst e; rw [HP.out] at hj2; cases hj2; exact HQ.out
            · exact HM.out j (by omega) q hj2
          case measure => simp only [natOf]; omega
      · have hltI : (n : Int) ≤ (k : Int) := by omega
        have hkn : k = n := by omega
        subst hkn
        go_wp2_with fail
        go_ret
        exact ⟨by rw [ixR_miss (HN.out ▸ HM.out)]; rfl, rfl⟩
end Go.Proofs.YtmhjfdnpmfhmjaaDoor
