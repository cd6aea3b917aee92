/- Package sorts: each comparison is an order; what each walks to. -/
import Derived.Test.YtflbhifdololfaaGreatDoorH10
namespace Go.Proofs.YtflbhifdololfaaGreatDoor
open Go.RowKit
set_option linter.unusedVariables false

theorem cmpB_bd : ∀ a b : List UInt8, -1 ≤ Lib.compareBytes a b ∧ Lib.compareBytes a b ≤ 1
  | [], [] => by decide
  | [], _ :: _ => by show -1 ≤ (-1 : Int) ∧ (-1 : Int) ≤ 1; decide
  | _ :: _, [] => by show -1 ≤ (1 : Int) ∧ (1 : Int) ≤ 1; decide
  | a :: l, b :: m => by
    have ih := cmpB_bd l m
    show -1 ≤ (if a < b then (-1 : Int) else if b < a then 1 else Lib.compareBytes l m) ∧ (if a < b then (-1 : Int) else if b < a then 1 else Lib.compareBytes l m) ≤ 1
    split
    · omega
    · split
      · omega
      · exact ih
theorem ordN_bd {x y : Nat} (hx : x < 18446744073709551616) (hy : y < 18446744073709551616) : -1 ≤ ordN x y ∧ ordN x y ≤ 1 := by
  rw [ordN_val hx hy]
  cases nanF x <;> cases nanF y <;> simp only [Bool.false_eq_true, if_false, if_true] <;> (repeat' split) <;> omega
theorem cmpC_bd {k1 k2 : Int} {x1 x2 : Nat} {s1 s2 : ByteArray} (h1 : x1 < 18446744073709551616) (h2 : x2 < 18446744073709551616) : -1 ≤ cmpC k1 x1 s1 k2 x2 s2 ∧ cmpC k1 x1 s1 k2 x2 s2 ≤ 1 := by
  unfold cmpC
  split
  · exact ordN_bd (numC_lt _ _ h1) (numC_lt _ _ h2)
  · exact cmpB_bd _ _
/-- all that an order wants, of whatever elements -/
structure Pre {α : Type} (c : α → α → Int) (P : α → Prop) : Prop where
  lo : ∀ x y, P x → P y → -1 ≤ c x y
  hi : ∀ x y, P x → P y → c x y ≤ 1
  anti : ∀ x y, P x → P y → c y x = -c x y
  trans : ∀ x y z, P x → P y → P z → c x y ≤ 0 → c y z ≤ 0 → c x z ≤ 0
theorem Pre.ord {c : En → En → Int} {P : En → Prop} (h : Pre c P) {L : List En} (hL : ∀ x ∈ L, P x) : CmpOrd c L :=
  ⟨fun x hx y hy => h.lo x y (hL x hx) (hL y hy), fun x hx y hy => h.hi x y (hL x hx) (hL y hy), fun x hx y hy => h.anti x y (hL x hx) (hL y hy), fun x hx y hy z hz => h.trans x y z (hL x hx) (hL y hy) (hL z hz)⟩
theorem Pre.lex {α : Type} {c d : α → α → Int} {P : α → Prop} (hc : Pre c P) (hd : Pre d P) : Pre (fun x y => if c x y = 0 then d x y else c x y) P := by
  refine ⟨fun x y hx hy => ?_, fun x y hx hy => ?_, fun x y hx hy => ?_, fun x y z hx hy hz h1 h2 => ?_⟩
  · have := hc.lo x y hx hy; have := hd.lo x y hx hy; (try dsimp only); split <;> omega
  · have := hc.hi x y hx hy; have := hd.hi x y hx hy; (try dsimp only); split <;> omega
  · have := hc.anti x y hx hy; have := hd.anti x y hx hy; (try dsimp only); split <;> split <;> omega
  · (try dsimp only at h1 h2 ⊢)
    have a1 := hc.anti x y hx hy
    have a2 := hc.anti y z hy hz
    have a3 := hc.anti x z hx hz
    have t1 := hc.trans x y z hx hy hz
    have t2 := hc.trans z x y hz hx hy
    have t3 := hc.trans y z x hy hz hx
    have t4 := hd.trans x y z hx hy hz
    by_cases e1 : c x y = 0 <;> by_cases e2 : c y z = 0 <;> by_cases e3 : c x z = 0 <;> simp only [e1, e2, e3, if_true, if_false] at h1 h2 ⊢ <;> omega
theorem Pre.mono {α : Type} {c : α → α → Int} {P Q : α → Prop} (h : Pre c P) (hq : ∀ x, Q x → P x) : Pre c Q :=
  ⟨fun x y hx hy => h.lo x y (hq x hx) (hq y hy), fun x y hx hy => h.hi x y (hq x hx) (hq y hy), fun x y hx hy => h.anti x y (hq x hx) (hq y hy), fun x y z hx hy hz => h.trans x y z (hq x hx) (hq y hy) (hq z hz)⟩
theorem Pre.eq {α : Type} {c d : α → α → Int} {P : α → Prop} (h : Pre c P) (e : ∀ x y, P x → P y → d x y = c x y) : Pre d P :=
  ⟨fun x y hx hy => by rw [e x y hx hy]; exact h.lo x y hx hy, fun x y hx hy => by rw [e x y hx hy]; exact h.hi x y hx hy, fun x y hx hy => by rw [e x y hx hy, e y x hy hx]; exact h.anti x y hx hy,
   fun x y z hx hy hz => by rw [e x y hx hy, e y z hy hz, e x z hx hz]; exact h.trans x y z hx hy hz⟩
/-- first by a mark -/
def mark (a b : Bool) : Int := if a && !b then 1 else if b && !a then -1 else 0
theorem mk00 : mark false false = 0 := rfl
theorem mk11 : mark true true = 0 := rfl
theorem mk10 : mark true false = 1 := rfl
theorem mk01 : mark false true = -1 := rfl
theorem one_ne : ((1 : Int) = 0) = False := by simp
theorem mone_ne : ((-1 : Int) = 0) = False := by simp
theorem mark_pre {α : Type} (f : α → Bool) (P : α → Prop) : Pre (fun x y => mark (f x) (f y)) P := by
  refine ⟨fun x y _ _ => ?_, fun x y _ _ => ?_, fun x y _ _ => ?_, fun x y z _ _ _ => ?_⟩
  · cases f x <;> cases f y <;> decide
  · cases f x <;> cases f y <;> decide
  · cases f x <;> cases f y <;> decide
  · cases f x <;> cases f y <;> cases f z <;> decide
theorem bytes_pre {α : Type} (f : α → List UInt8) (P : α → Prop) : Pre (fun x y => Lib.compareBytes (f x) (f y)) P :=
  ⟨fun x y _ _ => (cmpB_bd _ _).1, fun x y _ _ => (cmpB_bd _ _).2, fun x y _ _ => cmpB_anti _ _, fun x y z _ _ _ h1 h2 => (cmpB_trans _ _ _ h1 h2).1⟩
theorem ordN_pre {α : Type} (f : α → Nat) (P : α → Prop) (hP : ∀ x, P x → f x < 18446744073709551616) : Pre (fun x y => ordN (f x) (f y)) P :=
  ⟨fun x y hx hy => (ordN_bd (hP x hx) (hP y hy)).1, fun x y hx hy => (ordN_bd (hP x hx) (hP y hy)).2, fun x y hx hy => ordN_anti (hP x hx) (hP y hy), fun x y z hx hy hz h1 h2 => (ordN_trans (hP x hx) (hP y hy) (hP z hz) h1 h2).1⟩
/-- where the mark is the same for all -/
theorem Pre.within {α : Type} {c : α → α → Int} {P : α → Prop} (f : α → Bool) (h1 : Pre c (fun x => P x ∧ f x = true)) (h0 : Pre c (fun x => P x ∧ f x = false)) : Pre (fun x y => if mark (f x) (f y) = 0 then c x y else mark (f x) (f y)) P := by
  refine ⟨fun x y hx hy => ?_, fun x y hx hy => ?_, fun x y hx hy => ?_, fun x y z hx hy hz => ?_⟩
  · cases ex : f x <;> cases ey : f y <;> (try dsimp only) <;> simp only [mk00, mk11, mk10, mk01, if_true, if_false, one_ne, mone_ne]
    · exact h0.lo x y ⟨hx, ex⟩ ⟨hy, ey⟩
    · decide
    · decide
    · exact h1.lo x y ⟨hx, ex⟩ ⟨hy, ey⟩
  · cases ex : f x <;> cases ey : f y <;> (try dsimp only) <;> simp only [mk00, mk11, mk10, mk01, if_true, if_false, one_ne, mone_ne]
    · exact h0.hi x y ⟨hx, ex⟩ ⟨hy, ey⟩
    · decide
    · decide
    · exact h1.hi x y ⟨hx, ex⟩ ⟨hy, ey⟩
  · cases ex : f x <;> cases ey : f y <;> (try dsimp only) <;> simp only [mk00, mk11, mk10, mk01, if_true, if_false, one_ne, mone_ne]
    · exact h0.anti x y ⟨hx, ex⟩ ⟨hy, ey⟩
    · rfl
    · exact h1.anti x y ⟨hx, ex⟩ ⟨hy, ey⟩
  · cases ex : f x <;> cases ey : f y <;> cases ez : f z <;> (try dsimp only) <;> simp only [mk00, mk11, mk10, mk01, if_true, if_false, one_ne, mone_ne]
    · exact h0.trans x y z ⟨hx, ex⟩ ⟨hy, ey⟩ ⟨hz, ez⟩
    · intro _ _; decide
    · intro _ h; exact absurd h (by decide)
    · intro _ _; decide
    · intro h _; exact absurd h (by decide)
    · intro h _; exact absurd h (by decide)
    · intro _ h; exact absurd h (by decide)
    · exact h1.trans x y z ⟨hx, ex⟩ ⟨hy, ey⟩ ⟨hz, ez⟩
theorem zero_pre {α : Type} (P : α → Prop) : Pre (fun _ _ : α => (0 : Int)) P := ⟨fun _ _ _ _ => by decide, fun _ _ _ _ => by decide, fun _ _ _ _ => rfl, fun _ _ _ _ _ _ _ _ => by decide⟩
theorem subs_pre {c : En → En → Int} (h : Pre c (fun x => x.Ok ∧ x.sub = false)) : Pre (fun x y => if x.sub || y.sub then subC x.sub y.sub else c x y) En.Ok := by
  refine Pre.eq (c := fun x y => if mark x.sub y.sub = 0 then (if x.sub then 0 else c x y) else mark x.sub y.sub) ?_ ?_
  · refine Pre.within (c := fun x y => if x.sub then 0 else c x y) (·.sub) ?_ ?_
    · refine Pre.eq (zero_pre _) ?_
      rintro x y ⟨_, hx⟩ _
      rw [hx]; rfl
    · refine Pre.eq h ?_
      rintro x y ⟨_, hx⟩ _
      rw [hx]; rfl
  · intro x y _ _
    cases x.sub <;> cases y.sub <;> rfl
theorem keys_pre : Pre cKeys En.Ok := bytes_pre (fun x : En => x.key.data.toList) _
theorem nums_pre : Pre cNums En.Ok := Pre.lex (ordN_pre (fun x : En => prefB x.key.data.toList) _ (fun x _ => prefB_lt _)) keys_pre
theorem texts_pre : Pre cTexts En.Ok := subs_pre (bytes_pre (fun x : En => (strC x.kind x.bits x.str).data.toList) _)
theorem amts_pre : Pre cAmts En.Ok := subs_pre (ordN_pre (fun x : En => numC x.kind x.bits x.str) _ (fun x hx => numC_lt _ _ hx.1.bits))
theorem types_pre : Pre cTypes En.Ok := by
  have h : Pre (fun x y : En => if mark (decide (x.kind = 2)) (decide (y.kind = 2)) = 0 then cmpC x.kind x.bits x.str y.kind y.bits y.str else mark (decide (x.kind = 2)) (decide (y.kind = 2))) (fun x => x.Ok ∧ x.sub = false) := by
    refine Pre.within (fun x : En => decide (x.kind = 2)) ?_ ?_
    · refine ⟨fun x y hx hy => (cmpC_bd hx.1.1.bits hy.1.1.bits).1, fun x y hx hy => (cmpC_bd hx.1.1.bits hy.1.1.bits).2, fun x y hx hy => cmpC_anti hx.1.1.bits hy.1.1.bits, fun x y z hx hy hz h1 h2 => ?_⟩
      exact (cmpC_trans hx.1.1.bits hy.1.1.bits hz.1.1.bits (.inl ⟨by simpa using hx.2, by simpa using hy.2, by simpa using hz.2⟩) h1 h2).1
    · refine ⟨fun x y hx hy => (cmpC_bd hx.1.1.bits hy.1.1.bits).1, fun x y hx hy => (cmpC_bd hx.1.1.bits hy.1.1.bits).2, fun x y hx hy => cmpC_anti hx.1.1.bits hy.1.1.bits, fun x y z hx hy hz h1 h2 => ?_⟩
      exact (cmpC_trans hx.1.1.bits hy.1.1.bits hz.1.1.bits (.inr ⟨by simpa using hx.2, by simpa using hy.2, by simpa using hz.2⟩) h1 h2).1
  refine Pre.eq (subs_pre h) ?_
  intro x y _ _
  unfold cTypes
  split
  · rfl
  · by_cases h1 : x.kind = 2 <;> by_cases h2 : y.kind = 2 <;> simp [h1, h2, mark]
/-- the comparison of a name -/
noncomputable def cmp5 : Cmp5 → En → En → Int
  | .keys => cKeys
  | .numbers => cNums
  | .texts => cTexts
  | .amounts => cAmts
  | .types => cTypes
theorem cmp5_ord (q : Cmp5) {L : List En} (hL : ∀ x ∈ L, x.Ok) : CmpOrd (cmp5 q) L := by
  cases q
  · exact keys_pre.ord hL
  · exact nums_pre.ord hL
  · exact texts_pre.ord hL
  · exact amts_pre.ord hL
  · exact types_pre.ord hL
theorem amounts_any (conv : ByteArray) (x y : En) (w : World) (ox : x.Ok) (oy : y.Ok) : Calls Tryz.prog 97 #[.agg #[.string conv], x.val, y.val] w fun e w' => e = .returned (.int .i64 (cAmts x y)) ∧ Below w.heap.size w w' := by
  unfold cAmts
  cases h : (x.sub || y.sub) with
  | true => rw [if_pos rfl]; exact amounts_sub conv x y w h
  | false =>
    rw [if_neg (by decide)]
    have h2 := Bool.or_eq_false_iff.1 h
    exact amounts_no conv x y w h2.1 h2.2 ox oy
/-- by the pattern of six digits every comparison serves -/
theorem cmp5_at {w : World} (q : Cmp5) {L : List En} (hL : ∀ x ∈ L, x.Ok) (hE : ErrOk w) (hT : PowOk w) : CmpAt w q ⟨#[37, 46, 54, 103]⟩ (cmp5 q) L := by
  intro x hx y hy W hW
  have ox := hL x hx
  have oy := hL y hy
  have he := hE.below hW
  have ht := hT.below hW
  cases q
  · exact keys_any _ x y W
  · exact numbers_any _ x y W ox oy
  · show Calls _ _ _ _ fun e w' => e = .returned (.int .i64 (cTexts x y)) ∧ _
    unfold cTexts
    cases h : (x.sub || y.sub) with
    | true => rw [if_pos rfl]; exact texts_sub _ x y W h
    | false =>
      rw [if_neg (by decide)]
      have h2 := Bool.or_eq_false_iff.1 h
      exact texts_no x y W h2.1 h2.2 ox oy he ht
  · exact amounts_any _ x y W ox oy
  · show Calls _ _ _ _ fun e w' => e = .returned (.int .i64 (cTypes x y)) ∧ _
    cases h : (x.sub || y.sub) with
    | true =>
      have e : cTypes x y = subC x.sub y.sub := by unfold cTypes; rw [h]; rfl
      rw [e]; exact types_sub _ x y W h
    | false =>
      have h2 := Bool.or_eq_false_iff.1 h
      exact types_no x y W h2.1 h2.2 ox oy he ht
/-- by the keys, or by their numbers, whatever the pattern -/
theorem cmp5_keys {w : World} (conv : ByteArray) {L : List En} : CmpAt w .keys conv cKeys L := fun x _ y _ W _ => keys_any conv x y W
theorem cmp5_nums {w : World} (conv : ByteArray) {L : List En} (hL : ∀ x ∈ L, x.Ok) : CmpAt w .numbers conv cNums L := fun x hx y hy W _ => numbers_any conv x y W (hL x hx) (hL y hy)
theorem cmp5_amts {w : World} (conv : ByteArray) {L : List En} (hL : ∀ x ∈ L, x.Ok) : CmpAt w .amounts conv cAmts L := fun x hx y hy W _ => amounts_any conv x y W (hL x hx) (hL y hy)
end Go.Proofs.YtflbhifdololfaaGreatDoor
