/- The keys of a nil array, unsorted. -/
import Derived.Test.YtflbhifdololfaaGreatDoorA6
namespace Go.Proofs.YtflbhifdololfaaGreatDoor
open Go.RowKit
set_option linter.unusedVariables false

@[go_sem] theorem run_store_nilFunc (P : Program) (w : World) (a : Addr) (m : Mode) : (store a .nilFunc m).run P w = stored P w a .nilFunc m := run_store P w a _ m rfl
@[go_sem] theorem run_store_func (P : Program) (w : World) (a : Addr) (m : Mode) (f : Fn) (x y : Array Value) : (store a (.func f x y) m).run P w = stored P w a (.func f x y) m := run_store P w a _ m rfl

@[go_sem] theorem run_eql_fn (w : World) : (binOp .eql 112 .nilFunc .nilFunc).run Tryz.prog w = .ok (.bool true) w := by kernel_rfl

/-- "@unsorted", "_desc", "_asc" -/
def uns : ByteArray := ⟨#[64, 117, 110, 115, 111, 114, 116, 101, 100]⟩
def desc : ByteArray := ⟨#[95, 100, 101, 115, 99]⟩
def asc : ByteArray := ⟨#[95, 97, 115, 99]⟩

set_option maxRecDepth 100000 in
theorem has_desc (w : World) : Calls Tryz.prog 174 #[.string uns, .string desc] w fun e w' => e = .returned (.bool false) ∧ w = w' := by
  unfold uns desc
  have hx : (((⟨#[64, 117, 110, 115, 111, 114, 116, 101, 100]⟩ : ByteArray).extract 4 9).toList == [95, 100, 101, 115, 99]) = false := by kernel_rfl
  go_enter Tryz.func174, Tryz.ntmps174
  go_wp2_with fail
  go_ret
  exact ⟨rfl, rfl⟩
set_option maxRecDepth 100000 in
theorem has_asc (w : World) : Calls Tryz.prog 174 #[.string uns, .string asc] w fun e w' => e = .returned (.bool false) ∧ w = w' := by
  unfold uns asc
  have hx : (((⟨#[64, 117, 110, 115, 111, 114, 116, 101, 100]⟩ : ByteArray).extract 5 9).toList == [95, 97, 115, 99]) = false := by kernel_rfl
  go_enter Tryz.func174, Tryz.ntmps174
  go_wp2_with fail
  go_ret
  exact ⟨rfl, rfl⟩
theorem icut_of (s t : ByteArray) (w : World) (H : ∀ W, Calls Tryz.prog 174 #[.string s, .string t] W fun e w' => e = .returned (.bool false) ∧ W = w') :
    Calls Tryz.prog 130 #[.string s, .string t] w fun e w' => e = .returned (.tuple #[.string s, .bool false]) ∧ w = w' := by
  have HH := Lib.hid H
  clear H
  go_enter Tryz.func130, Tryz.ntmps130
  go_wp2_with fail
  refine (HH.out _).mono ?_
  rintro e _ ⟨rfl, rfl⟩
  go_wp2_with fail
  go_ret2
  exact ⟨rfl, rfl⟩
theorem cut_of (s t : ByteArray) (w : World) (H : ∀ W, Calls Tryz.prog 174 #[.string s, .string t] W fun e w' => e = .returned (.bool false) ∧ W = w') :
    Calls Tryz.prog 93 #[.string s, .string t] w fun e w' => e = .returned (.tuple #[.string s, .bool false]) ∧ w = w' := by
  have HH := Lib.hid (fun W => icut_of s t W H)
  clear H
  go_enter Tryz.func93, Tryz.ntmps93
  go_wp2_with fail
  refine (HH.out _).mono ?_
  rintro e _ ⟨rfl, rfl⟩
  go_wp2_with fail
  go_ret2
  exact ⟨rfl, rfl⟩
set_option maxRecDepth 100000 in
theorem by_uns (w : World) : Calls Tryz.prog 58 #[.string uns] w fun e w' => e = .returned (.tuple #[.nilFunc, .bool false]) ∧ w = w' := by
  have H1 := Lib.hid (fun W => cut_of uns desc W has_desc)
  have H2 := Lib.hid (fun W => cut_of uns asc W has_asc)
  unfold desc at H1
  unfold asc at H2
  generalize uns = U at *
  go_enter Tryz.func58, Tryz.ntmps58
  go_wp2_with fail
  refine (H1.out _).mono ?_
  rintro e _ ⟨rfl, rfl⟩
  go_wp2_with fail
  refine (H2.out _).mono ?_
  rintro e _ ⟨rfl, rfl⟩
  go_wp2_with fail
  go_ret2
  exact ⟨rfl, rfl⟩
theorem hlen_nil (b : Nat) (w : World) (hc : w.cell? ⟨b, 0, none⟩ = some (.slice none 0 0)) : Calls Tryz.prog 61 #[.pointer (some ⟨b, 0, none⟩)] w fun e w' => e = .returned (.int .i64 0) ∧ w = w' := by
  go_enter Tryz.func61, Tryz.ntmps61
  go_wp2_with fail
  go_ret
  exact ⟨rfl, rfl⟩
set_option maxRecDepth 100000 in
theorem order_nil (w : World) : Calls Tryz.prog 27 #[.slice none 0 0, .string uns, .string ⟨#[]⟩] w fun e w' => e = .returned (.tuple #[.slice none 0 0, .int .i64 0]) ∧ Below w.heap.size w w' := by
  have H1 := Lib.hid by_uns
  have hu : (uns != uns) = false := by unfold bne; rw [ba_beq]; rfl
  have hu2 : uns = ⟨#[64, 117, 110, 115, 111, 114, 116, 101, 100]⟩ := rfl
  go_enter Tryz.func27, Tryz.ntmps27
  go_wp2_with fail
  refine (H1.out _).mono ?_
  rintro e _ ⟨rfl, rfl⟩
  rw [hu2]
  go_wp2_with fail
  refine wp_loop_rounds 1 ?_
  rw [rounds_succ]
  go_wp2_with fail
  refine wp_loop_rounds 1 ?_
  rw [rounds_succ]
  go_wp2_with fail
  refine (hlen_nil _ _ (by rw [World.cell?_alloc_at _ _ _ _ (by simp)]; rfl)).mono ?_
  rintro e _ ⟨rfl, rfl⟩
  go_wp2_with fail
  go_ret2
  exact ⟨rfl, (((((Below.refl _ _).alloc (Nat.le_refl _) _).alloc (by simp) _).alloc (by simp; omega) _).alloc (by simp; omega) _).alloc (by simp; omega) _⟩
theorem keys_nil (w : World) : Calls Tryz.prog 34 #[.pointer none, .string uns, .string ⟨#[]⟩] w fun e w' => e = .returned (.tuple #[.slice none 0 0, .int .i64 0]) ∧ Below w.heap.size w w' := by
  have H1 := Lib.hid (order_nil w)
  generalize uns = U at *
  go_enter Tryz.func34, Tryz.ntmps34
  go_wp2_with fail
  refine (entries_nil _).mono ?_
  rintro e _ ⟨rfl, rfl⟩
  go_wp2_with fail
  refine H1.out.mono ?_
  rintro e w1 ⟨rfl, hb⟩
  have HB := Lib.hid hb
  clear hb H1
  go_wp2_with fail
  refine wp_loop_rounds 1 ?_
  rw [rounds_succ]
  go_wp2_with fail
  go_ret2
  exact ⟨rfl, HB.out⟩
end Go.Proofs.YtflbhifdololfaaGreatDoor
