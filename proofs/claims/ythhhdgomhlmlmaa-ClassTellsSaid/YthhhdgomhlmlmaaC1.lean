/- The contracts of class.Bytes, Slots, Fit, Room, and of the document's answers for them. -/
import Derived.Test.YthhhdgomhlmlmaaRows
import Derived.WalkKit
import Derived.WalkSpells
import Derived.WalkLawsBesides
import Derived.Lib.Hide
import Derived.LoopN
namespace Go.Proofs.Ythhhdgomhlmlmaa
open Go.RowKit

/-- How many bytes a slot of a class has. -/
def bytesC (c : Int) : Int := if c = 0 then 8 else if c = 1 then 16 else if c = 2 then 32 else if c = 3 then 64 else 0
def slotsC (c : Int) : Int := if c = 0 then 64 else if c = 1 then 32 else if c = 2 then 16 else if c = 3 then 8 else 0
def fitC (n : Int) : Int := if n < 1 then -1 else if n ≤ 8 then 0 else if n ≤ 16 then 1 else if n ≤ 32 then 2 else if n ≤ 64 then 3 else -1
theorem bytesC_bd (c : Int) : 0 ≤ bytesC c ∧ bytesC c ≤ 64 := by unfold bytesC; (repeat' split) <;> omega
theorem ret_int {k : IntKind} {a b : Int} (h : a = b) : Ending.returned (.int k a) = .returned (.int k b) := by rw [h]

set_option maxHeartbeats 400000 in
theorem bytes_any (c : Int) (w : World) : Calls Try.prog 11 #[.int .i64 c] w fun e w' => e = .returned (.int .i64 (bytesC c)) ∧ w = w' := by
  by_cases h3 : c = 3
  · subst h3; go_enter Try.func11, Try.ntmps11
    go_wp2
    go_ret
    exact ⟨rfl, rfl⟩
  by_cases h2 : c = 2
  · subst h2; go_enter Try.func11, Try.ntmps11
    go_wp2
    go_ret
    exact ⟨rfl, rfl⟩
  by_cases h1 : c = 1
  · subst h1; go_enter Try.func11, Try.ntmps11
    go_wp2
    go_ret
    exact ⟨rfl, rfl⟩
  by_cases h0 : c = 0
  · subst h0; go_enter Try.func11, Try.ntmps11
    go_wp2
    go_ret
    exact ⟨rfl, rfl⟩
  have H : Hid (bytesC c = 0) := by show _ = _; simp [bytesC, h0, h1, h2, h3]
  have e3 : (c == 3) = false := by simpa using h3
  have e2 : (c == 2) = false := by simpa using h2
  have e1 : (c == 1) = false := by simpa using h1
  have e0 : (c == 0) = false := by simpa using h0
  clear h0 h1 h2 h3
  go_enter Try.func11, Try.ntmps11
  go_wp2
  go_ret
  exact ⟨ret_int H.out.symm, rfl⟩

set_option maxHeartbeats 400000 in
theorem slots_any (c : Int) (w : World) : Calls Try.prog 13 #[.int .i64 c] w fun e w' => e = .returned (.int .i64 (slotsC c)) ∧ w = w' := by
  by_cases h3 : c = 3
  · subst h3; go_enter Try.func13, Try.ntmps13
    go_wp2_with (go_at_call 11; refine (bytes_any _ _).mono ?_; rintro e w' ⟨rfl, rfl⟩; rw [show bytesC 3 = 64 from rfl])
    go_ret
    exact ⟨rfl, rfl⟩
  by_cases h2 : c = 2
  · subst h2; go_enter Try.func13, Try.ntmps13
    go_wp2_with (go_at_call 11; refine (bytes_any _ _).mono ?_; rintro e w' ⟨rfl, rfl⟩; rw [show bytesC 2 = 32 from rfl])
    go_ret
    exact ⟨rfl, rfl⟩
  by_cases h1 : c = 1
  · subst h1; go_enter Try.func13, Try.ntmps13
    go_wp2_with (go_at_call 11; refine (bytes_any _ _).mono ?_; rintro e w' ⟨rfl, rfl⟩; rw [show bytesC 1 = 16 from rfl])
    go_ret
    exact ⟨rfl, rfl⟩
  by_cases h0 : c = 0
  · subst h0; go_enter Try.func13, Try.ntmps13
    go_wp2_with (go_at_call 11; refine (bytes_any _ _).mono ?_; rintro e w' ⟨rfl, rfl⟩; rw [show bytesC 0 = 8 from rfl])
    go_ret
    exact ⟨rfl, rfl⟩
  have H : Hid (bytesC c = 0) := by show _ = _; simp [bytesC, h0, h1, h2, h3]
  have H2 : Hid (slotsC c = 0) := by show _ = _; simp [slotsC, h0, h1, h2, h3]
  clear h0 h1 h2 h3
  go_enter Try.func13, Try.ntmps13
  go_wp2_with (go_at_call 11; refine (bytes_any _ _).mono ?_; rintro e w' ⟨rfl, rfl⟩; rw [H.out])
  go_ret
  exact ⟨ret_int H2.out.symm, rfl⟩

set_option maxHeartbeats 400000 in
theorem fit_any (n : Int) (w : World) : Calls Try.prog 15 #[.int .i64 n] w fun e w' => e = .returned (.int .i64 (fitC n)) ∧ w = w' := by
  by_cases h1 : n < 1
  · have H : Hid (fitC n = -1) := by show _ = _; simp [fitC, h1]
    go_enter Try.func15, Try.ntmps15
    go_wp2_with fail
    go_ret
    exact ⟨ret_int H.out.symm, rfl⟩
  by_cases g0 : n ≤ 8
  · have H : Hid (fitC n = 0) := by
      show _ = _
      unfold fitC
      (repeat' split) <;> omega
    go_enter Try.func15, Try.ntmps15
    go_wp2_with fail
    refine wp_loop_rounds 5 ?_
    rw [rounds_succ]
    go_wp2_with (go_at_call 11; refine (bytes_any _ _).mono ?_; rintro e w' ⟨rfl, rfl⟩; rw [show bytesC 0 = 8 from rfl])
    go_ret
    exact ⟨ret_int H.out.symm, rfl⟩
  by_cases g1 : n ≤ 16
  · have H : Hid (fitC n = 1) := by
      show _ = _
      unfold fitC
      (repeat' split) <;> omega
    go_enter Try.func15, Try.ntmps15
    go_wp2_with fail
    refine wp_loop_rounds 5 ?_
    rw [rounds_succ]
    go_wp2_with (go_at_call 11; refine (bytes_any _ _).mono ?_; rintro e w' ⟨rfl, rfl⟩; rw [show bytesC 0 = 8 from rfl])
    rw [rounds_succ]
    go_wp2_with (go_at_call 11; refine (bytes_any _ _).mono ?_; rintro e w' ⟨rfl, rfl⟩; rw [show bytesC 1 = 16 from rfl])
    go_ret
    exact ⟨ret_int H.out.symm, rfl⟩
  by_cases g2 : n ≤ 32
  · have H : Hid (fitC n = 2) := by
      show _ = _
      unfold fitC
      (repeat' split) <;> omega
    go_enter Try.func15, Try.ntmps15
    go_wp2_with fail
    refine wp_loop_rounds 5 ?_
    rw [rounds_succ]
    go_wp2_with (go_at_call 11; refine (bytes_any _ _).mono ?_; rintro e w' ⟨rfl, rfl⟩; rw [show bytesC 0 = 8 from rfl])
    rw [rounds_succ]
    go_wp2_with (go_at_call 11; refine (bytes_any _ _).mono ?_; rintro e w' ⟨rfl, rfl⟩; rw [show bytesC 1 = 16 from rfl])
    rw [rounds_succ]
    go_wp2_with (go_at_call 11; refine (bytes_any _ _).mono ?_; rintro e w' ⟨rfl, rfl⟩; rw [show bytesC 2 = 32 from rfl])
    go_ret
    exact ⟨ret_int H.out.symm, rfl⟩
  by_cases g3 : n ≤ 64
  · have H : Hid (fitC n = 3) := by
      show _ = _
      unfold fitC
      (repeat' split) <;> omega
    go_enter Try.func15, Try.ntmps15
    go_wp2_with fail
    refine wp_loop_rounds 5 ?_
    rw [rounds_succ]
    go_wp2_with (go_at_call 11; refine (bytes_any _ _).mono ?_; rintro e w' ⟨rfl, rfl⟩; rw [show bytesC 0 = 8 from rfl])
    rw [rounds_succ]
    go_wp2_with (go_at_call 11; refine (bytes_any _ _).mono ?_; rintro e w' ⟨rfl, rfl⟩; rw [show bytesC 1 = 16 from rfl])
    rw [rounds_succ]
    go_wp2_with (go_at_call 11; refine (bytes_any _ _).mono ?_; rintro e w' ⟨rfl, rfl⟩; rw [show bytesC 2 = 32 from rfl])
    rw [rounds_succ]
    go_wp2_with (go_at_call 11; refine (bytes_any _ _).mono ?_; rintro e w' ⟨rfl, rfl⟩; rw [show bytesC 3 = 64 from rfl])
    go_ret
    exact ⟨ret_int H.out.symm, rfl⟩
  · have H : Hid (fitC n = -1) := by
      show _ = _
      unfold fitC
      (repeat' split) <;> omega
    go_enter Try.func15, Try.ntmps15
    go_wp2_with fail
    refine wp_loop_rounds 5 ?_
    rw [rounds_succ]
    go_wp2_with (go_at_call 11; refine (bytes_any _ _).mono ?_; rintro e w' ⟨rfl, rfl⟩; rw [show bytesC 0 = 8 from rfl])
    rw [rounds_succ]
    go_wp2_with (go_at_call 11; refine (bytes_any _ _).mono ?_; rintro e w' ⟨rfl, rfl⟩; rw [show bytesC 1 = 16 from rfl])
    rw [rounds_succ]
    go_wp2_with (go_at_call 11; refine (bytes_any _ _).mono ?_; rintro e w' ⟨rfl, rfl⟩; rw [show bytesC 2 = 32 from rfl])
    rw [rounds_succ]
    go_wp2_with (go_at_call 11; refine (bytes_any _ _).mono ?_; rintro e w' ⟨rfl, rfl⟩; rw [show bytesC 3 = 64 from rfl])
    rw [rounds_succ]
    go_wp2_with fail
    go_ret
    exact ⟨ret_int H.out.symm, rfl⟩

/-- What an address has for a list of integers that lies there. -/
def IntAt (w : World) (ao : Option Addr) (l : List Int) : Prop := l = [] ∨ ∃ b off, ao = some ⟨b, off, none⟩ ∧ b < w.heap.size ∧ ∀ i, i < l.length → w.cell? ⟨b, off + i, none⟩ = some (.int .i64 (l.getD i 0))
def roomC (l : List Int) : Int := (l.map bytesC).sum
theorem roomC_bd (l : List Int) : 0 ≤ roomC l ∧ roomC l ≤ 64 * l.length := by
  unfold roomC
  induction l with
  | nil => simp
  | cons c l ih => have := bytesC_bd c; simp only [List.map_cons, List.sum_cons, List.length_cons]; omega
theorem roomC_take (l : List Int) (k : Nat) (h : k < l.length) : roomC (l.take (k + 1)) = roomC (l.take k) + bytesC (l.getD k 0) := by
  unfold roomC
  rw [List.take_succ_eq_append_getElem h, List.map_append, List.sum_append, List.getD_eq_getElem?_getD, List.getElem?_eq_getElem h]
  simp
set_option maxHeartbeats 400000 in
theorem together_any (ao : Option Addr) (l : List Int) (cap : Nat) (w : World) (hl : l.length ≤ 5000) (h : IntAt w ao l) :
    Calls Try.prog 20 #[.slice ao l.length cap] w fun e w' => e = .returned (.int .i64 (roomC l)) ∧ w = w' := by
  rcases h with rfl | ⟨b, off, rfl, _, hc⟩
  · go_enter Try.func20, Try.ntmps20
    go_wp2_with fail
    refine wp_loop_rounds 1 ?_
    rw [rounds_succ]
    go_wp2_with fail
    go_ret
    exact ⟨rfl, rfl⟩
  · have HC := Lib.hid hc
    clear hc
    go_enter Try.func20, Try.ntmps20
    go_wp2_with fail
    go_loop [3, 8] (fun n i => ∃ k : Nat, k ≤ l.length ∧ i = .int .i64 k ∧ n = .int .i64 (roomC (l.take k))) (fun _ i => l.length - (intOf i).toNat)
    case atStart => exact ⟨0, Nat.zero_le _, rfl, rfl⟩
    case round =>
      obtain ⟨k, hk, rfl, rfl⟩ := hrel
      by_cases hlt : k < l.length
      · have hr := roomC_bd (l.take k)
        have hlen : (l.take k).length ≤ 5000 := by rw [List.length_take]; omega
        obtain ⟨c, hcc⟩ : ∃ c, c = l.getD k 0 := ⟨_, rfl⟩
        have hcell : w.cell? ⟨b, off + k, none⟩ = some (.int .i64 c) := by rw [HC.out k hlt, hcc]
        have HR := Lib.hid (roomC_take l k hlt)
        have HE := Lib.hid hcc
        have hbd := bytesC_bd c
        clear hcc
        go_wp2_with fail
        refine (bytes_any _ _).mono ?_
        rintro e w' ⟨rfl, rfl⟩
        go_wp2_with fail
        go_round
        case rel => exact ⟨k + 1, by omega, by go_num, by rw [HR.out, ← HE.out]⟩
        case measure => simp [intOf]; omega
      · have HK := Lib.hid (show l.take k = l from List.take_of_length_le (by omega))
        go_wp2_with fail
        go_ret
        exact ⟨ret_int (by rw [HK.out]), rfl⟩
theorem room_any (ao : Option Addr) (l : List Int) (cap : Nat) (w : World) (hl : l.length ≤ 5000) (h : IntAt w ao l) :
    Calls Try.prog 18 #[.slice ao l.length cap] w fun e w' => e = .returned (.int .i64 (roomC l)) ∧ w = w' := by
  go_enter Try.func18, Try.ntmps18
  go_wp2_with fail
  refine (together_any _ _ _ _ hl h).mono ?_
  rintro e w' ⟨rfl, rfl⟩
  go_wp2_with fail
  go_ret
  exact ⟨rfl, rfl⟩
end Go.Proofs.Ythhhdgomhlmlmaa
