/- The contracts of class.Bytes, Slots, of the document's answers for them, and of arena.all. -/
import Derived.Test.YtfnokklcbmipgaaDoorRows
import Derived.Test.YtfnokklcbmipgaaDoorMath
import Derived.WalkKit
import Derived.WalkSpells
import Derived.WalkLawsBesides
import Derived.Lib.Hide
import Derived.LoopN
import Derived.Laws.Bits64b
import Derived.Deep.QuietTactic
import Derived.BigQuiet
namespace Go.Proofs.YtfnokklcbmipgaaDoor
open Go.RowKit Plain

/-- How many bytes a slot of a class has. -/
def bytesC (c : Int) : Int := if c = 0 then 8 else if c = 1 then 16 else if c = 2 then 32 else if c = 3 then 64 else 0
def slotsC (c : Int) : Int := if c = 0 then 64 else if c = 1 then 32 else if c = 2 then 16 else if c = 3 then 8 else 0
def fitC (n : Int) : Int := if n < 1 then -1 else if n ≤ 8 then 0 else if n ≤ 16 then 1 else if n ≤ 32 then 2 else if n ≤ 64 then 3 else -1
theorem bytesC_bd (c : Int) : 0 ≤ bytesC c ∧ bytesC c ≤ 64 := by unfold bytesC; (repeat' split) <;> omega
theorem ret_int {k : IntKind} {a b : Int} (h : a = b) : Ending.returned (.int k a) = .returned (.int k b) := by rw [h]

set_option maxHeartbeats 400000 in
theorem bytes_any (c : Int) (w : World) : Calls Tryd.prog 41 #[.int .i64 c] w fun e w' => e = .returned (.int .i64 (bytesC c)) ∧ w = w' := by
  by_cases h3 : c = 3
  · subst h3; go_enter Tryd.func41, Tryd.ntmps41
    go_wp2
    go_ret
    exact ⟨rfl, rfl⟩
  by_cases h2 : c = 2
  · subst h2; go_enter Tryd.func41, Tryd.ntmps41
    go_wp2
    go_ret
    exact ⟨rfl, rfl⟩
  by_cases h1 : c = 1
  · subst h1; go_enter Tryd.func41, Tryd.ntmps41
    go_wp2
    go_ret
    exact ⟨rfl, rfl⟩
  by_cases h0 : c = 0
  · subst h0; go_enter Tryd.func41, Tryd.ntmps41
    go_wp2
    go_ret
    exact ⟨rfl, rfl⟩
  have H : Hid (bytesC c = 0) := by show _ = _; simp [bytesC, h0, h1, h2, h3]
  have e3 : (c == 3) = false := by simpa using h3
  have e2 : (c == 2) = false := by simpa using h2
  have e1 : (c == 1) = false := by simpa using h1
  have e0 : (c == 0) = false := by simpa using h0
  clear h0 h1 h2 h3
  go_enter Tryd.func41, Tryd.ntmps41
  go_wp2
  go_ret
  exact ⟨ret_int H.out.symm, rfl⟩

set_option maxHeartbeats 400000 in
theorem slots_any (c : Int) (w : World) : Calls Tryd.prog 34 #[.int .i64 c] w fun e w' => e = .returned (.int .i64 (slotsC c)) ∧ w = w' := by
  by_cases h3 : c = 3
  · subst h3; go_enter Tryd.func34, Tryd.ntmps34
    go_wp2_with (go_at_call 41; refine (bytes_any _ _).mono ?_; rintro e w' ⟨rfl, rfl⟩; rw [show bytesC 3 = 64 from rfl])
    go_ret
    exact ⟨rfl, rfl⟩
  by_cases h2 : c = 2
  · subst h2; go_enter Tryd.func34, Tryd.ntmps34
    go_wp2_with (go_at_call 41; refine (bytes_any _ _).mono ?_; rintro e w' ⟨rfl, rfl⟩; rw [show bytesC 2 = 32 from rfl])
    go_ret
    exact ⟨rfl, rfl⟩
  by_cases h1 : c = 1
  · subst h1; go_enter Tryd.func34, Tryd.ntmps34
    go_wp2_with (go_at_call 41; refine (bytes_any _ _).mono ?_; rintro e w' ⟨rfl, rfl⟩; rw [show bytesC 1 = 16 from rfl])
    go_ret
    exact ⟨rfl, rfl⟩
  by_cases h0 : c = 0
  · subst h0; go_enter Tryd.func34, Tryd.ntmps34
    go_wp2_with (go_at_call 41; refine (bytes_any _ _).mono ?_; rintro e w' ⟨rfl, rfl⟩; rw [show bytesC 0 = 8 from rfl])
    go_ret
    exact ⟨rfl, rfl⟩
  have H : Hid (bytesC c = 0) := by show _ = _; simp [bytesC, h0, h1, h2, h3]
  have H2 : Hid (slotsC c = 0) := by show _ = _; simp [slotsC, h0, h1, h2, h3]
  clear h0 h1 h2 h3
  go_enter Tryd.func34, Tryd.ntmps34
  go_wp2_with (go_at_call 41; refine (bytes_any _ _).mono ?_; rintro e w' ⟨rfl, rfl⟩; rw [H.out])
  go_ret
  exact ⟨ret_int H2.out.symm, rfl⟩

set_option maxHeartbeats 400000 in
theorem rbytes_any (c : Int) (w : World) : Calls Tryd.prog 20 #[.int .i64 c] w fun e w' => e = .returned (.int .i64 (bytesC c)) ∧ w = w' := by
  by_cases h0 : c = 0
  · subst h0; go_enter Tryd.func20, Tryd.ntmps20
    go_wp2_with fail
    refine wp_loop_rounds 1 ?_
    rw [rounds_succ]
    go_wp2_with fail
    go_ret
    exact ⟨rfl, rfl⟩
  by_cases h1 : c = 1
  · subst h1; go_enter Tryd.func20, Tryd.ntmps20
    go_wp2_with fail
    refine wp_loop_rounds 2 ?_
    rw [rounds_succ]
    go_wp2_with fail
    rw [rounds_succ]
    go_wp2_with fail
    go_ret
    exact ⟨rfl, rfl⟩
  by_cases h2 : c = 2
  · subst h2; go_enter Tryd.func20, Tryd.ntmps20
    go_wp2_with fail
    refine wp_loop_rounds 3 ?_
    rw [rounds_succ]
    go_wp2_with fail
    rw [rounds_succ]
    go_wp2_with fail
    rw [rounds_succ]
    go_wp2_with fail
    go_ret
    exact ⟨rfl, rfl⟩
  by_cases h3 : c = 3
  · subst h3; go_enter Tryd.func20, Tryd.ntmps20
    go_wp2_with fail
    refine wp_loop_rounds 4 ?_
    rw [rounds_succ]
    go_wp2_with fail
    rw [rounds_succ]
    go_wp2_with fail
    rw [rounds_succ]
    go_wp2_with fail
    rw [rounds_succ]
    go_wp2_with fail
    go_ret
    exact ⟨rfl, rfl⟩
  have H : Hid (bytesC c = 0) := by show _ = _; simp [bytesC, h0, h1, h2, h3]
  by_cases hn : c < 0
  · have d1 : decide (c < 0) = true := by simpa using hn
    clear h0 h1 h2 h3
    go_enter Tryd.func20, Tryd.ntmps20
    go_wp2_with fail
    go_ret
    exact ⟨ret_int H.out.symm, rfl⟩
  · have d1 : decide (c < 0) = false := by simpa using hn
    have d2 : decide (3 < c) = true := by simp; omega
    clear h0 h1 h2 h3
    go_enter Tryd.func20, Tryd.ntmps20
    go_wp2_with fail
    go_ret
    exact ⟨ret_int H.out.symm, rfl⟩

set_option maxHeartbeats 400000 in
theorem rslots_any (c : Int) (w : World) : Calls Tryd.prog 23 #[.int .i64 c] w fun e w' => e = .returned (.int .i64 (slotsC c)) ∧ w = w' := by
  by_cases h3 : c = 3
  · subst h3; go_enter Tryd.func23, Tryd.ntmps23
    go_wp2_with (go_at_call 20; refine (rbytes_any _ _).mono ?_; rintro e w' ⟨rfl, rfl⟩; rw [show bytesC 3 = 64 from rfl])
    go_ret
    exact ⟨rfl, rfl⟩
  by_cases h2 : c = 2
  · subst h2; go_enter Tryd.func23, Tryd.ntmps23
    go_wp2_with (go_at_call 20; refine (rbytes_any _ _).mono ?_; rintro e w' ⟨rfl, rfl⟩; rw [show bytesC 2 = 32 from rfl])
    go_ret
    exact ⟨rfl, rfl⟩
  by_cases h1 : c = 1
  · subst h1; go_enter Tryd.func23, Tryd.ntmps23
    go_wp2_with (go_at_call 20; refine (rbytes_any _ _).mono ?_; rintro e w' ⟨rfl, rfl⟩; rw [show bytesC 1 = 16 from rfl])
    go_ret
    exact ⟨rfl, rfl⟩
  by_cases h0 : c = 0
  · subst h0; go_enter Tryd.func23, Tryd.ntmps23
    go_wp2_with (go_at_call 20; refine (rbytes_any _ _).mono ?_; rintro e w' ⟨rfl, rfl⟩; rw [show bytesC 0 = 8 from rfl])
    go_ret
    exact ⟨rfl, rfl⟩
  have H : Hid (bytesC c = 0) := by show _ = _; simp [bytesC, h0, h1, h2, h3]
  have H2 : Hid (slotsC c = 0) := by show _ = _; simp [slotsC, h0, h1, h2, h3]
  clear h0 h1 h2 h3
  go_enter Tryd.func23, Tryd.ntmps23
  go_wp2_with (go_at_call 20; refine (rbytes_any _ _).mono ?_; rintro e w' ⟨rfl, rfl⟩; rw [H.out])
  go_ret
  exact ⟨ret_int H2.out.symm, rfl⟩

end Go.Proofs.YtfnokklcbmipgaaDoor
