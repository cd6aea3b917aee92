/- Package nat: lists of limbs in memory; trim, Clip, told, Valid. -/
import Derived.Test.YtcipmfjefmjacaaGreatDoorG1
import Derived.Test.YtcipmfjefmjacaaGreatDoorN0
import Derived.StillTailTactics
import Derived.BigQuiet
import Derived.Deep.QuietTactic
namespace Go.Proofs.YtcipmfjefmjacaaGreatDoor
open Go.RowKit
set_option linter.unusedVariables false

/-- the slice a, cap holds these words -/
structure Lies (w : World) (a : Option Addr) (cap : Nat) (L : List Nat) : Prop where
  lt : ∀ x ∈ L, x < 4294967296
  le : L.length ≤ cap
  max : cap ≤ 9223372036854775807
  spot : ∀ x, a = some x → x.spot = none
  at_ : ∀ i (h : i < L.length), ∃ b off, a = some ⟨b, off, none⟩ ∧ w.cell? ⟨b, off + i, none⟩ = some (.int .u32 (L[i] : Nat))

theorem Lies.below {w w' : World} {a : Option Addr} {cap : Nat} {L : List Nat} (h : Lies w a cap L) (hb : Below w.heap.size w w') : Lies w' a cap L :=
  ⟨h.lt, h.le, h.max, h.spot, fun i hi => by
    obtain ⟨b, off, rfl, hc⟩ := h.at_ i hi
    exact ⟨b, off, rfl, (hb.cell (World.block_lt_of_cell? w _ hc)).trans hc⟩⟩
theorem Lies.take {w : World} {a : Option Addr} {cap : Nat} {L : List Nat} (h : Lies w a cap L) (k : Nat) : Lies w a cap (L.take k) :=
  ⟨fun x hx => h.lt x (List.mem_of_mem_take hx), by have := h.le; simp; omega, h.max, h.spot, fun i hi => by
    simp at hi
    obtain ⟨b, off, rfl, hc⟩ := h.at_ i (by omega)
    exact ⟨b, off, rfl, by rw [hc]; simp⟩⟩
theorem Lies.nil (w : World) (a : Option Addr) (cap : Nat) (h : cap ≤ 9223372036854775807) (hs : ∀ x, a = some x → x.spot = none) : Lies w a cap [] :=
  ⟨by simp, by simp, h, hs, by simp⟩
theorem Lies.clip {w : World} {a : Option Addr} {cap : Nat} {L : List Nat} (h : Lies w a cap L) : Lies w a L.length L :=
  ⟨h.lt, Nat.le_refl _, Nat.le_trans h.le h.max, h.spot, h.at_⟩

/-- a slice's length -/
def lenV : Value → Nat | .slice _ k _ => k | _ => 0

set_option maxHeartbeats 1000000 in
theorem trim_any (a : Option Addr) (cap : Nat) (L : List Nat) (w : World) (h : Lies w a cap L) :
    Calls Tryz.prog 122 #[.slice a L.length cap] w fun e w' => e = .returned (.slice a (trimL L).length cap) ∧ w = w' := by
  have hle := h.le
  have hmx := h.max
  have H := Lib.hid h
  clear h
  go_enter Tryz.func122, Tryz.ntmps122
  go_wp2
  go_loop [0] (fun v => ∃ k : Nat, k ≤ L.length ∧ v = .slice a k cap ∧ trimL (L.take k) = trimL L) lenV
  case atStart => exact ⟨L.length, Nat.le_refl _, rfl, by rw [List.take_length]⟩
  case round =>
    obtain ⟨k, hk, rfl, ht⟩ := hrel
    have HT := Lib.hid ht
    clear ht
    cases k with
    | zero =>
      go_wp2
      go_ret
      have e : (trimL L).length = 0 := by rw [← HT.out]; rfl
      exact ⟨by rw [e]; rfl, rfl⟩
    | succ k =>
      obtain ⟨b, off, rfl, hc⟩ := H.out.at_ k (by omega)
      have hsn : L.take (k + 1) = L.take k ++ [L[k]'(by omega)] := List.take_succ_eq_append_getElem (by omega)
      by_cases hz : L[k]'(by omega) = 0
      · rw [hz] at hc hsn
        have HT' : Hid (trimL (L.take k) = trimL L) := by rw [← HT.out, hsn]; exact (trimL_snoc_zero _).symm
        clear hsn hz HT
        have hc' : w.cell? ⟨b, off + k, none⟩ = some (.int .u32 0) := by simpa using hc
        clear hc
        go_wp2
        go_round
        case rel => exact ⟨k, by omega, rfl, HT'.out⟩
        case measure => simp [lenV]
      · have e : Hid ((trimL L).length = k + 1) := by
          show (trimL L).length = k + 1
          rw [← HT.out, hsn, trimL_snoc_pos _ hz]; rw [← hsn, List.length_take]; exact Nat.min_eq_left hk
        generalize L[k]'(by omega) = x at *
        have hx : ((x : Int) == 0) = false := by simp; omega
        clear hsn hz HT
        go_wp2
        go_ret
        exact ⟨by rw [e.out]; rfl, rfl⟩

theorem clip_any (a : Option Addr) (len cap : Nat) (w : World) (h : len ≤ cap) :
    Calls Tryz.prog 100 #[.slice a len cap] w fun e w' => e = .returned (.slice a len len) ∧ w = w' := by
  go_enter Tryz.func100, Tryz.ntmps100
  go_wp2
  go_ret
  exact ⟨rfl, rfl⟩

theorem told_any (a : Option Addr) (cap : Nat) (L : List Nat) (w : World) (h : Lies w a cap L) (hl : (trimL L).length ≤ 256) :
    Calls Tryz.prog 102 #[.slice a L.length cap] w fun e w' => e = .returned (.tuple #[.slice a (trimL L).length (trimL L).length, .int .i64 0]) ∧ w = w' := by
  have H := Lib.hid h
  have h1 := trimL_length_le L
  have h2 := h.le
  clear h
  go_enter Tryz.func102, Tryz.ntmps102
  go_wp2_with fail
  refine (trim_any a cap L _ H.out).mono ?_
  rintro e w1 ⟨rfl, rfl⟩
  go_wp2_with fail
  refine (clip_any a _ cap _ (by omega)).mono ?_
  rintro e w1 ⟨rfl, rfl⟩
  go_wp2_with fail
  go_ret2
  exact ⟨rfl, rfl⟩

set_option maxRecDepth 100000 in
theorem valid_any (a : Option Addr) (cap : Nat) (n : Nat) (w : World) (h : Lies w a cap (limbs n)) (hl : (limbs n).length ≤ 256) :
    Calls Tryz.prog 101 #[.slice a (limbs n).length cap] w fun e w' => e = .returned (.bool true) ∧ w = w' := by
  by_cases hn : n = 0
  · have e : (limbs n).length = 0 := by rw [hn, limbs_zero]; rfl
    rw [e]
    clear e h hl hn
    go_enter Tryz.func101, Tryz.ntmps101
    go_wp2
    go_ret
    exact ⟨rfl, rfl⟩
  · have hne : limbs n ≠ [] := fun e => hn (limbs_eq_nil.1 e)
    have hlast := limbs_last hne
    have hpos : 0 < (limbs n).length := List.length_pos_iff.2 hne
    obtain ⟨b, off, rfl, hc⟩ := h.at_ ((limbs n).length - 1) (by omega)
    rw [← List.getLast_eq_getElem hne] at hc
    generalize (limbs n).getLast hne = x at *
    generalize (limbs n).length = k at *
    have hx : ((x : Int) != 0) = true := by simp; omega
    have hk : ((k : Int) == 0) = false := by simp; omega
    obtain ⟨j, rfl⟩ : ∃ j, k = j + 1 := ⟨k - 1, by omega⟩
    have hc' : w.cell? ⟨b, off + j, none⟩ = some (.int .u32 x) := by simpa using hc
    clear hc h hlast
    go_enter Tryz.func101, Tryz.ntmps101
    go_wp2
    go_ret
    exact ⟨rfl, rfl⟩
end Go.Proofs.YtcipmfjefmjacaaGreatDoor
