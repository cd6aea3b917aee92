/- A region that draws its order, by an invariant over what has come up: each operation is walked once. -/
import Derived.Test.YtcmpdamfeoaapaaGreatDoorM1
import Derived.BigRegion
namespace Go.Proofs.YtcmpdamfeoaapaaGreatDoor
open Go.RowKit

/-- i has come up too. -/
def upd (L : Nat → Bool) (i : Nat) : Nat → Bool := fun j => if j = i then true else L j
theorem upd_self (L : Nat → Bool) (i : Nat) : upd L i i = true := by simp [upd]
theorem upd_other (L : Nat → Bool) {i j : Nat} (h : j ≠ i) : upd L i j = L j := by simp [upd, h]

/-- Each operation waits for earlier ones alone. -/
def orderedOps (ops : Array Oper) : Bool := (List.range ops.size).all fun i => ((ops[i]?).map fun o => o.after.all fun e => decide (e.on < i)).getD false

theorem all_listed {ops : Array Oper} {listed : Array Bool} (hord : orderedOps ops = true) (hs : listed.size = ops.size) (hr : Region.ready .any ops listed = []) :
    ∀ i, i < ops.size → listed.getD i false = true := by
  intro i
  induction i using Nat.strongRecOn with
  | ind i ih =>
    intro hi
    cases hl : listed.getD i false with
    | true => rfl
    | false =>
      exfalso
      have hm : i ∈ Region.ready .any ops listed := by
        rw [mem_ready]
        refine ⟨?_, ops[i], Array.getElem?_eq_getElem hi, ?_⟩
        · have hi' : i < listed.size := by omega
          simp [hi'] at hl ⊢
          exact hl
        · intro e he _
          have h1 := List.all_eq_true.1 hord i (List.mem_range.2 hi)
          rw [Array.getElem?_eq_getElem hi] at h1
          simp only [Option.map_some, Option.getD_some, Array.all_eq_true_iff_forall_mem] at h1
          have h2 := of_decide_eq_true (h1 e he)
          exact ih e.on h2 (by omega)
      rw [hr] at hm
      cases hm

theorem count_set : ∀ (l : List Bool) (i : Nat), l[i]? = some false → (l.set i true).count false + 1 = l.count false
  | [], i, h => by simp at h
  | b :: l, 0, h => by simp at h; subst h; simp
  | b :: l, i + 1, h => by
    have := count_set l i (by simpa using h)
    cases b <;> simp <;> omega

theorem wpAny_inv {P : Program} {ops : Array Oper} {Q : Exit → Act → World → Prop} (I : (Nat → Bool) → Act → World → Prop) (hord : orderedOps ops = true)
    (hstep : ∀ (L : Nat → Bool) (a : Act) (w : World) (i : Nat) (o : Oper), ops[i]? = some o → I L a w → L i = false → (∀ e ∈ o.after, Region.binds .any e = true → L e.on = true) → wpOp P ops Q i (I (upd L i)) a w)
    (hdone : ∀ (L : Nat → Bool) (a : Act) (w : World), (∀ i, i < ops.size → L i = true) → I L a w → Q .normal a w) :
    ∀ (fuel : Nat) (listed : Array Bool) (a : Act) (w : World), listed.size = ops.size → listed.toList.count false = fuel → I (fun j => listed.getD j false) a w → wpAny P .any ops Q fuel listed a w := by
  intro fuel
  induction fuel with
  | zero =>
    intro listed a w hs hc hI
    have hall : ∀ i, i < ops.size → listed.getD i false = true := by
      intro i hi
      have hi' : i < listed.size := by omega
      cases hl : listed.getD i false with
      | true => rfl
      | false =>
        exfalso
        have h0 : false ∉ listed.toList := List.count_eq_zero.1 hc
        apply h0
        simp [hi'] at hl
        rw [← hl]
        simp
    refine ⟨?_, hdone _ _ _ hall hI⟩
    cases hr : Region.ready .any ops listed with
    | nil => rfl
    | cons i rs =>
      exfalso
      have hm : i ∈ Region.ready .any ops listed := by rw [hr]; exact List.mem_cons_self
      obtain ⟨h1, o, ho, _⟩ := mem_ready.1 hm
      have hi : i < ops.size := (Array.getElem?_eq_some_iff.1 ho).1
      have hi' : i < listed.size := by omega
      have h2 := hall i hi
      simp [hi'] at h1 h2
      rw [h1] at h2
      cases h2
  | succ fuel ih =>
    intro listed a w hs hc hI
    refine ⟨fun hr => hdone _ _ _ (all_listed hord hs hr) hI, fun i hi => ?_⟩
    obtain ⟨h1, o, ho, hall⟩ := mem_ready.1 hi
    have hi0 : i < ops.size := (Array.getElem?_eq_some_iff.1 ho).1
    have hi' : i < listed.size := by omega
    have hlf : listed.getD i false = false := by simp [hi'] at h1 ⊢; exact h1
    refine wpOp_mono (fun a' w' hK => ih (listed.setIfInBounds i true) a' w' (by simp [hs]) ?_ ?_) (hstep _ a w i o ho hI hlf hall)
    · have h3 : listed.toList[i]? = some false := by
        simp [hi'] at h1 ⊢
        exact h1
      have := count_set listed.toList i h3
      rw [Array.toList_setIfInBounds]
      omega
    · have e : (fun j => (listed.setIfInBounds i true).getD j false) = upd (fun j => listed.getD j false) i := by
        funext j
        by_cases hj : j = i
        · subst hj
          rw [upd_self]
          simp [hi']
        · rw [upd_other _ hj]
          simp [Array.getElem?_setIfInBounds_ne (Ne.symm hj)]
      rw [e]
      exact hK

/-- A region that draws its order, by an invariant. -/
theorem wp_region_inv {P : Program} {ops : Array Oper} {Q : Exit → Act → World → Prop} {id : Nat} {a : Act} {w : World} (hm : P.follows .mixedOrders = true) (hord : orderedOps ops = true)
    (I : (Nat → Bool) → Act → World → Prop) (h0 : I (fun _ => false) a w.drew)
    (hstep : ∀ (L : Nat → Bool) (a : Act) (w : World) (i : Nat) (o : Oper), ops[i]? = some o → I L a w → L i = false → (∀ e ∈ o.after, Region.binds .any e = true → L e.on = true) → wpOp P ops Q i (I (upd L i)) a w)
    (hdone : ∀ (L : Nat → Bool) (a : Act) (w : World), (∀ i, i < ops.size → L i = true) → I L a w → Q .normal a w) : (Code.region id ops true).wp P Q a w := by
  refine wp_region_any hm (wpAny_inv I hord hstep hdone ops.size _ _ _ (by simp) (by simp) ?_)
  have e : (fun j => (Array.replicate ops.size false).getD j false) = fun _ => false := by
    funext j
    by_cases hj : j < ops.size
    · simp [hj]
    · simp [hj]
  rw [e]
  exact h0

theorem wp_region_inv0 {P : Program} {ops : Array Oper} {Q : Exit → Act → World → Prop} {id : Nat} {a : Act} {w : World} (hm : P.follows .mixedOrders = true) (hord : orderedOps ops = true)
    (I : Act → World → (Nat → Bool) → Act → World → Prop) (h0 : I a w (fun _ => false) a w.drew)
    (hstep : ∀ (L : Nat → Bool) (a' : Act) (W : World) (i : Nat) (o : Oper), ops[i]? = some o → I a w L a' W → L i = false → (∀ e ∈ o.after, Region.binds .any e = true → L e.on = true) → wpOp P ops Q i (I a w (upd L i)) a' W)
    (hdone : ∀ (L : Nat → Bool) (a' : Act) (W : World), (∀ i, i < ops.size → L i = true) → I a w L a' W → Q .normal a' W) : (Code.region id ops true).wp P Q a w :=
  wp_region_inv hm hord (I a w) h0 hstep hdone

/-- each operation of a list, with its number -/
def AllOps (p : Nat → Oper → Prop) : List Oper → Nat → Prop
  | [], _ => True
  | o :: r, i => p i o ∧ AllOps p r (i + 1)
theorem AllOps.get {p : Nat → Oper → Prop} : ∀ (l : List Oper) (k i : Nat) (o : Oper), AllOps p l k → l[i]? = some o → p (k + i) o
  | [], _, i, o, _, h => by simp at h
  | x :: l, k, 0, o, hp, h => by
    simp at h
    subst h
    exact hp.1
  | x :: l, k, i + 1, o, hp, h => by
    have := AllOps.get l (k + 1) i o hp.2 (by simpa using h)
    rw [show k + (i + 1) = k + 1 + i by omega]
    exact this
/-- the operations that one waits for -/
def depsOf (o : Oper) : List Nat := (o.after.toList.filter fun e => Region.binds .any e).map (·.on)
theorem wp_region_steps {P : Program} {ops : Array Oper} {Q : Exit → Act → World → Prop} {id : Nat} {a : Act} {w : World} (hm : P.follows .mixedOrders = true) (hord : orderedOps ops = true) (hng : (ops.toList.all fun o => o.guard.isNone) = true)
    (I : Act → World → (Nat → Bool) → Act → World → Prop) (h0 : I a w (fun _ => false) a w.drew)
    (hstep : AllOps (fun i o => ∀ (L : Nat → Bool) (a' : Act) (W : World), I a w L a' W → L i = false → (∀ j ∈ depsOf o, L j = true) → ∀ K : Act → World → Prop, (∀ a'' W', I a w (upd L i) a'' W' → K a'' W') → Oper.wp P o a' W K Q) ops.toList 0)
    (hdone : ∀ (L : Nat → Bool) (a' : Act) (W : World), (∀ i, i < ops.size → L i = true) → I a w L a' W → Q .normal a' W) : (Code.region id ops true).wp P Q a w := by
  refine wp_region_inv hm hord (I a w) h0 ?_ hdone
  intro L a' W i o ho hI hL hd
  refine wpOp_step ho (fun K hK => ?_)
  have ho' : ops.toList[i]? = some o := by simpa using ho
  have hg := List.all_eq_true.1 hng o (List.mem_of_getElem? ho')
  have hw : Region.wanted o (yielded ops a'.tmps) = true := by
    unfold Region.wanted
    cases h : o.guard with
    | none => rfl
    | some g => rw [h] at hg; cases hg
  rw [if_pos hw]
  have h := AllOps.get _ 0 i o hstep ho'
  rw [Nat.zero_add] at h
  refine h L a' W hI hL ?_ K hK
  intro j hj
  obtain ⟨e, he, rfl⟩ := List.mem_map.1 hj
  obtain ⟨he1, he2⟩ := List.mem_filter.1 he
  exact hd e (by simpa using he1) he2

/-- a block that the region makes: m: it is made, st: it is written -/
def Blk (n1 : Nat) (W : World) (T : TypeId) (m st : Bool) (u : Value) (B : Nat) (z v : Array Value) : Prop :=
  m = true → u = .pointer (some ⟨B, 0, none⟩) ∧ n1 ≤ B ∧ W.heap[B]? = some (.cells (if st = true then v else z) T (0, 0))
theorem Blk.lt {n1 : Nat} {W : World} {T : TypeId} {st : Bool} {u : Value} {B : Nat} {z v : Array Value} (h : Blk n1 W T true st u B z v) : B < W.heap.size := (Array.getElem?_eq_some_iff.1 (h rfl).2.2).1
theorem Blk.keep {n1 : Nat} {W W' : World} {T : TypeId} {m st : Bool} {u : Value} {B : Nat} {z v : Array Value} (h : Blk n1 W T m st u B z v) (hb : m = true → B < W.heap.size → W'.heap[B]? = W.heap[B]?) : Blk n1 W' T m st u B z v := by
  intro hm
  subst hm
  exact ⟨(h rfl).1, (h rfl).2.1, (hb rfl h.lt).trans (h rfl).2.2⟩
theorem Blk.raw {n1 : Nat} {W : World} {T : TypeId} {u : Value} {B : Nat} {z v : Array Value} (h : Blk n1 W T true false u B z v) : u = .pointer (some ⟨B, 0, none⟩) ∧ n1 ≤ B ∧ W.heap[B]? = some (.cells z T (0, 0)) := h rfl
theorem Blk.full {n1 : Nat} {W : World} {T : TypeId} {u : Value} {B : Nat} {z v : Array Value} (h : Blk n1 W T true true u B z v) : u = .pointer (some ⟨B, 0, none⟩) ∧ n1 ≤ B ∧ W.heap[B]? = some (.cells v T (0, 0)) := h rfl
/-- three blocks that a region makes and writes in whatever order -/
structure Inv3 (W0 W : World) (T : TypeId) (m1 m2 m3 t1 t2 t3 : Bool) (u1 u2 u3 : Value) (z v1 v2 v3 : Array Value) (B1 B2 B3 : Nat) : Prop where
  below : Below W0.heap.size W0 W
  b1 : Blk W0.heap.size W T m1 t1 u1 B1 z v1
  b2 : Blk W0.heap.size W T m2 t2 u2 B2 z v2
  b3 : Blk W0.heap.size W T m3 t3 u3 B3 z v3
  d12 : m1 = true → m2 = true → B1 ≠ B2
  d13 : m1 = true → m3 = true → B1 ≠ B3
  d23 : m2 = true → m3 = true → B2 ≠ B3
  s1 : t1 = true → m1 = true
  s2 : t2 = true → m2 = true
  s3 : t3 = true → m3 = true
section
variable {W0 W W' : World} {T : TypeId} {m1 m2 m3 t1 t2 t3 : Bool} {u1 u2 u3 : Value} {z v1 v2 v3 : Array Value} {B1 B2 B3 : Nat}
theorem Inv3.start (W0 : World) (T : TypeId) (u1 u2 u3 : Value) (z v1 v2 v3 : Array Value) : Inv3 W0 W0.drew T false false false false false false u1 u2 u3 z v1 v2 v3 0 0 0 :=
  ⟨(Below.refl _ _).drew, fun h => (by cases h), fun h => (by cases h), fun h => (by cases h), fun h => (by cases h), fun h => (by cases h), fun h => (by cases h), fun h => (by cases h), fun h => (by cases h), fun h => (by cases h)⟩
theorem Inv3.keep (h : Inv3 W0 W T m1 m2 m3 t1 t2 t3 u1 u2 u3 z v1 v2 v3 B1 B2 B3) (hb : Below W.heap.size W W') : Inv3 W0 W' T m1 m2 m3 t1 t2 t3 u1 u2 u3 z v1 v2 v3 B1 B2 B3 :=
  ⟨h.below.trans (hb.mono h.below.size), h.b1.keep (fun _ hl => hb.block _ hl), h.b2.keep (fun _ hl => hb.block _ hl), h.b3.keep (fun _ hl => hb.block _ hl), h.d12, h.d13, h.d23, h.s1, h.s2, h.s3⟩
theorem blk_new (h : Below W0.heap.size W0 W) (T : TypeId) (t : Bool) (z v : Array Value) (ht : t = false) : Blk W0.heap.size (W.alloc (.cells z T)) T true t (.pointer (some ⟨W.heap.size, 0, none⟩)) W.heap.size z v := by
  subst ht
  exact fun _ => ⟨rfl, h.size, heap_alloc_at W _⟩
theorem Inv3.alloc1 (h : Inv3 W0 W T false m2 m3 t1 t2 t3 u1 u2 u3 z v1 v2 v3 B1 B2 B3) : Inv3 W0 (W.alloc (.cells z T)) T true m2 m3 t1 t2 t3 (.pointer (some ⟨W.heap.size, 0, none⟩)) u2 u3 z v1 v2 v3 W.heap.size B2 B3 := by
  have hk := h.keep ((Below.refl W.heap.size W).alloc (Nat.le_refl _) (.cells z T))
  exact ⟨hk.below, blk_new h.below T t1 z v1 (by cases t1 with | false => rfl | true => exact absurd (h.s1 rfl) (by decide)), hk.b2, hk.b3, fun _ e => by subst e; have := h.b2.lt; omega, fun _ e => by subst e; have := h.b3.lt; omega, h.d23, fun _ => rfl, h.s2, h.s3⟩
theorem Inv3.alloc2 (h : Inv3 W0 W T m1 false m3 t1 t2 t3 u1 u2 u3 z v1 v2 v3 B1 B2 B3) : Inv3 W0 (W.alloc (.cells z T)) T m1 true m3 t1 t2 t3 u1 (.pointer (some ⟨W.heap.size, 0, none⟩)) u3 z v1 v2 v3 B1 W.heap.size B3 := by
  have hk := h.keep ((Below.refl W.heap.size W).alloc (Nat.le_refl _) (.cells z T))
  exact ⟨hk.below, hk.b1, blk_new h.below T t2 z v2 (by cases t2 with | false => rfl | true => exact absurd (h.s2 rfl) (by decide)), hk.b3, fun e _ => by subst e; have := h.b1.lt; omega, h.d13, fun _ e => by subst e; have := h.b3.lt; omega, h.s1, fun _ => rfl, h.s3⟩
theorem Inv3.alloc3 (h : Inv3 W0 W T m1 m2 false t1 t2 t3 u1 u2 u3 z v1 v2 v3 B1 B2 B3) : Inv3 W0 (W.alloc (.cells z T)) T m1 m2 true t1 t2 t3 u1 u2 (.pointer (some ⟨W.heap.size, 0, none⟩)) z v1 v2 v3 B1 B2 W.heap.size := by
  have hk := h.keep ((Below.refl W.heap.size W).alloc (Nat.le_refl _) (.cells z T))
  exact ⟨hk.below, hk.b1, hk.b2, blk_new h.below T t3 z v3 (by cases t3 with | false => rfl | true => exact absurd (h.s3 rfl) (by decide)), h.d12, fun e _ => by subst e; have := h.b1.lt; omega, fun e _ => by subst e; have := h.b2.lt; omega, h.s1, h.s2, fun _ => rfl⟩
/-- a world whose one block is turned -/
structure OneTurned (W W' : World) (B : Nat) (o : Obj) : Prop where
  os : W'.os = W.os
  tape : W'.tape = W.tape
  output : W'.output = W.output
  size : W'.heap.size = W.heap.size
  at_ : W'.heap[B]? = some o
  other : ∀ k, k ≠ B → W'.heap[k]? = W.heap[k]?
theorem OneTurned.below {B n : Nat} {o : Obj} (h : OneTurned W W' B o) (hn : n ≤ B) : Below n W W' := ⟨h.os, h.tape, h.output, Nat.le_of_eq h.size.symm, fun k hk => h.other k (by omega)⟩
theorem Inv3.store1 (h : Inv3 W0 W T true true true t1 t2 t3 u1 u2 u3 z v1 v2 v3 B1 B2 B3) (ht : OneTurned W W' B1 (.cells v1 T (0, 0))) : Inv3 W0 W' T true true true true t2 t3 u1 u2 u3 z v1 v2 v3 B1 B2 B3 :=
  ⟨h.below.trans (ht.below (h.b1 rfl).2.1), fun _ => ⟨(h.b1 rfl).1, (h.b1 rfl).2.1, ht.at_⟩, h.b2.keep (fun _ _ => ht.other _ (h.d12 rfl rfl).symm), h.b3.keep (fun _ _ => ht.other _ (h.d13 rfl rfl).symm), h.d12, h.d13, h.d23, fun _ => rfl, h.s2, h.s3⟩
theorem Inv3.store2 (h : Inv3 W0 W T true true true t1 t2 t3 u1 u2 u3 z v1 v2 v3 B1 B2 B3) (ht : OneTurned W W' B2 (.cells v2 T (0, 0))) : Inv3 W0 W' T true true true t1 true t3 u1 u2 u3 z v1 v2 v3 B1 B2 B3 :=
  ⟨h.below.trans (ht.below (h.b2 rfl).2.1), h.b1.keep (fun _ _ => ht.other _ (h.d12 rfl rfl)), fun _ => ⟨(h.b2 rfl).1, (h.b2 rfl).2.1, ht.at_⟩, h.b3.keep (fun _ _ => ht.other _ (h.d23 rfl rfl).symm), h.d12, h.d13, h.d23, h.s1, fun _ => rfl, h.s3⟩
theorem Inv3.store3 (h : Inv3 W0 W T true true true t1 t2 t3 u1 u2 u3 z v1 v2 v3 B1 B2 B3) (ht : OneTurned W W' B3 (.cells v3 T (0, 0))) : Inv3 W0 W' T true true true t1 t2 true u1 u2 u3 z v1 v2 v3 B1 B2 B3 :=
  ⟨h.below.trans (ht.below (h.b3 rfl).2.1), h.b1.keep (fun _ _ => ht.other _ (h.d13 rfl rfl)), h.b2.keep (fun _ _ => ht.other _ (h.d23 rfl rfl)), fun _ => ⟨(h.b3 rfl).1, (h.b3 rfl).2.1, ht.at_⟩, h.d12, h.d13, h.d23, h.s1, h.s2, fun _ => rfl⟩
theorem turned_set {W : World} {B : Nat} {A : Array Value} {T : TypeId} (h : W.heap[B]? = some (.cells A T (0, 0))) (i : Nat) (v : Value) : OneTurned W (W.setCell ⟨B, i, none⟩ v) B (.cells (A.setIfInBounds i v) T (0, 0)) :=
  ⟨rfl, rfl, rfl, by simp [World.setCell], setCell_heap_same h i v, fun k hk => Below.heap_setCell _ _ _ _ hk⟩
theorem turned_one {W : World} {B : Nat} {z : Value} {T : TypeId} (h : W.heap[B]? = some (.cells #[z] T (0, 0))) (v : Value) : OneTurned W (W.setCell ⟨B, 0, none⟩ v) B (.cells #[v] T (0, 0)) := turned_set h 0 v
theorem turned_three {W : World} {B : Nat} {z0 z1 z2 : Value} {T : TypeId} (h : W.heap[B]? = some (.cells #[z0, z1, z2] T (0, 0))) (v0 v1 v2 : Value) : OneTurned W (((W.setCell ⟨B, 0, none⟩ v0).setCell ⟨B, 1, none⟩ v1).setCell ⟨B, 2, none⟩ v2) B (.cells #[v0, v1, v2] T (0, 0)) := by
  have h1 : OneTurned W (W.setCell ⟨B, 0, none⟩ v0) B (.cells #[v0, z1, z2] T (0, 0)) := turned_set h 0 v0
  have k2 := turned_set h1.at_ 1 v1
  have h2 : OneTurned W ((W.setCell ⟨B, 0, none⟩ v0).setCell ⟨B, 1, none⟩ v1) B (.cells #[v0, v1, z2] T (0, 0)) := ⟨k2.os.trans h1.os, k2.tape.trans h1.tape, k2.output.trans h1.output, k2.size.trans h1.size, k2.at_, fun j hj => (k2.other j hj).trans (h1.other j hj)⟩
  have k3 := turned_set h2.at_ 2 v2
  exact ⟨k3.os.trans h2.os, k3.tape.trans h2.tape, k3.output.trans h2.output, k3.size.trans h2.size, k3.at_, fun j hj => (k3.other j hj).trans (h2.other j hj)⟩
theorem OneTurned.set {W W' : World} {B : Nat} {A : Array Value} {T : TypeId} (h : OneTurned W W' B (.cells A T (0, 0))) (i : Nat) (v : Value) : OneTurned W (W'.setCell ⟨B, i, none⟩ v) B (.cells (A.setIfInBounds i v) T (0, 0)) := by
  have k := turned_set h.at_ i v
  exact ⟨k.os.trans h.os, k.tape.trans h.tape, k.output.trans h.output, k.size.trans h.size, k.at_, fun j hj => (k.other j hj).trans (h.other j hj)⟩
end
theorem cellNext {w w' : World} (hb : Below w.heap.size w w') {p : Addr} {v : Value} (h : w.cell? p = some v) : w'.cell? p = some v := by
  refine (hb.cell ?_).trans h
  rcases Nat.lt_or_ge p.block w.heap.size with h' | h'
  · exact h'
  · exfalso
    unfold World.cell? at h
    rw [Array.getElem?_eq_none h'] at h
    cases h
end Go.Proofs.YtcmpdamfeoaapaaGreatDoor
