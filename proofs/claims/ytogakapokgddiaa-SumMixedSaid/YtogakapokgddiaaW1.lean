/- The contracts of sum.step and sum.after. -/
import Derived.Test.YtogakapokgddiaaRows
import Derived.Test.YtogakapokgddiaaMath
import Derived.WalkKit
import Derived.WalkSpells
import Derived.WalkLawsBesides
import Derived.Lib.Hide
import Derived.ScopeJumps
namespace Go.Proofs.Ytogakapokgddiaa
open Go.RowKit

/-- A number of 32 bits, as Go's values have it. -/
def wordI (a : Int) : BitVec 32 := BitVec.ofInt 32 a
def stepI (a : Int) : Int := ((Plain.stepW (wordI a)).toNat : Int)
def iterI : Nat → Int → Int
  | 0, n => n
  | k + 1, n => stepI (iterI k n)
theorem wordI_toNat (a : Int) (h0 : 0 ≤ a) (h1 : a < 4294967296) : ((wordI a).toNat : Int) = a := by
  unfold wordI
  rw [BitVec.toNat_ofInt]
  omega
theorem wordI_cast (n : BitVec 32) : wordI (n.toNat : Int) = n := by
  apply BitVec.eq_of_toNat_eq
  have := wordI_toNat (n.toNat : Int) (by omega) (by have := n.isLt; omega)
  omega
theorem stepI_bd (a : Int) : 0 ≤ stepI a ∧ stepI a < 4294967296 := by
  unfold stepI
  have := (Plain.stepW (wordI a)).isLt
  omega
theorem iterI_bd (k : Nat) (a : Int) (h0 : 0 ≤ a) (h1 : a < 4294967296) : 0 ≤ iterI k a ∧ iterI k a < 4294967296 := by
  cases k with
  | zero => exact ⟨h0, h1⟩
  | succ k => exact stepI_bd _
theorem iterI_iter (k : Nat) : ∀ a, 0 ≤ a → a < 4294967296 → iterI k a = ((Plain.iter k (wordI a)).toNat : Int) := by
  have hs : ∀ k n, Plain.iter (k + 1) n = Plain.stepW (Plain.iter k n) := by
    intro k
    induction k with
    | zero => intro n; rfl
    | succ k ih => intro n; show Plain.iter (k + 1) (Plain.stepW n) = _; rw [ih]; rfl
  induction k with
  | zero => intro a h0 h1; exact (wordI_toNat a h0 h1).symm
  | succ k ih => intro a h0 h1; rw [hs]; show stepI (iterI k a) = _; rw [ih a h0 h1]; unfold stepI; rw [wordI_cast]

theorem ret_int {k : IntKind} {a b : Int} (h : a = b) : Ending.returned (.int k a) = .returned (.int k b) := by rw [h]
theorem step_hi (n : Int) (h0 : 0 ≤ n) (h1 : n < 4294967296) (h : (bits BinOp.and IntKind.u32 n 2147483648 != 0) = true) : bits BinOp.xor IntKind.u32 (n * 2 % 4294967296) 2168537515 = stepI n := by
  obtain ⟨N, rfl⟩ := Int.eq_ofNat_of_zero_le h0
  have hm : (wordI (N : Int)).toNat = N := by have := wordI_toNat (N : Int) h0 h1; omega
  have ha := u32_and_nat N 2147483648 (by omega) (by omega)
  have hx := u32_xor_nat (N * 2 % 4294967296) 2168537515 (by omega) (by omega)
  simp only [Int.natCast_emod, Int.natCast_mul] at hx
  rw [show bits BinOp.and IntKind.u32 (N : Int) 2147483648 = ((N &&& 2147483648 : Nat) : Int) from ha] at h
  have hmsb : (wordI (N : Int)).msb = true := by
    rw [BitVec.msb_eq_getLsbD_last, BitVec.getLsbD, hm]
    have : N &&& 2 ^ 31 ≠ 0 := by intro e; rw [show (2147483648 : Nat) = 2 ^ 31 by decide, e] at h; simp at h
    rw [nat_bit] at this
    rw [Nat.testBit_eq_decide_div_mod_eq]
    simp only [Nat.add_one_sub_one, decide_eq_true_eq]
    have : N / 2 ^ 31 % 2 ≠ 0 := by intro e; rw [e] at this; simp at this
    omega
  refine Eq.trans hx ?_
  unfold stepI Plain.stepW
  rw [if_pos hmsb, BitVec.toNat_xor, BitVec.toNat_shiftLeft, hm]
  simp [Nat.shiftLeft_eq, Plain.polyW]
theorem step_lo (n : Int) (h0 : 0 ≤ n) (h1 : n < 4294967296) (h : (bits BinOp.and IntKind.u32 n 2147483648 != 0) = false) : n * 2 % 4294967296 = stepI n := by
  obtain ⟨N, rfl⟩ := Int.eq_ofNat_of_zero_le h0
  have hm : (wordI (N : Int)).toNat = N := by have := wordI_toNat (N : Int) h0 h1; omega
  have ha := u32_and_nat N 2147483648 (by omega) (by omega)
  rw [show bits BinOp.and IntKind.u32 (N : Int) 2147483648 = ((N &&& 2147483648 : Nat) : Int) from ha] at h
  have hmsb : (wordI (N : Int)).msb = false := by
    rw [BitVec.msb_eq_getLsbD_last, BitVec.getLsbD, hm]
    have : N &&& 2 ^ 31 = 0 := by
      rw [show (2147483648 : Nat) = 2 ^ 31 by decide] at h
      simpa using h
    rw [nat_bit] at this
    rw [Nat.testBit_eq_decide_div_mod_eq]
    simp only [Nat.add_one_sub_one, decide_eq_false_iff_not]
    intro e
    rw [e] at this; simp at this
  unfold stepI Plain.stepW
  rw [hmsb]
  simp only [Bool.false_eq_true, if_false]
  rw [BitVec.toNat_shiftLeft, hm]
  simp [Nat.shiftLeft_eq]

set_option maxHeartbeats 400000 in
theorem step_any (n : Int) (w : World) (h0 : 0 ≤ n) (h1 : n < 4294967296) :
    Calls Try.prog 20 #[.int .u32 n] w fun e w' => e = .returned (.int .u32 (stepI n)) ∧ w = w' := by
  go_enter Try.func20, Try.ntmps20
  go_wp2
  · have h : (bits BinOp.and IntKind.u32 n 2147483648 != 0) = true := by assumption
    go_ret
    exact ⟨ret_int (step_hi n h0 h1 h), rfl⟩
  · have h : (bits BinOp.and IntKind.u32 n 2147483648 != 0) = false := by assumption
    go_ret
    exact ⟨ret_int (step_lo n h0 h1 h), rfl⟩


/-- The array of sum.after, behind k steps. -/
def rowA (n : Int) (k : Nat) : Array Value := #[.int .u32 (if 0 ≤ k then iterI 0 n else 0), .int .u32 (if 1 ≤ k then iterI 1 n else 0), .int .u32 (if 2 ≤ k then iterI 2 n else 0), .int .u32 (if 3 ≤ k then iterI 3 n else 0), .int .u32 (if 4 ≤ k then iterI 4 n else 0), .int .u32 (if 5 ≤ k then iterI 5 n else 0), .int .u32 (if 6 ≤ k then iterI 6 n else 0), .int .u32 (if 7 ≤ k then iterI 7 n else 0), .int .u32 (if 8 ≤ k then iterI 8 n else 0)]
theorem row1 (n : Int) : rowA n 1 = #[.int .u32 (iterI 0 n), .int .u32 (iterI 1 n), .int .u32 0, .int .u32 0, .int .u32 0, .int .u32 0, .int .u32 0, .int .u32 0, .int .u32 0] := rfl
theorem row2 (n : Int) : rowA n 2 = #[.int .u32 (iterI 0 n), .int .u32 (iterI 1 n), .int .u32 (iterI 2 n), .int .u32 0, .int .u32 0, .int .u32 0, .int .u32 0, .int .u32 0, .int .u32 0] := rfl
theorem row3 (n : Int) : rowA n 3 = #[.int .u32 (iterI 0 n), .int .u32 (iterI 1 n), .int .u32 (iterI 2 n), .int .u32 (iterI 3 n), .int .u32 0, .int .u32 0, .int .u32 0, .int .u32 0, .int .u32 0] := rfl
theorem row4 (n : Int) : rowA n 4 = #[.int .u32 (iterI 0 n), .int .u32 (iterI 1 n), .int .u32 (iterI 2 n), .int .u32 (iterI 3 n), .int .u32 (iterI 4 n), .int .u32 0, .int .u32 0, .int .u32 0, .int .u32 0] := rfl
theorem row5 (n : Int) : rowA n 5 = #[.int .u32 (iterI 0 n), .int .u32 (iterI 1 n), .int .u32 (iterI 2 n), .int .u32 (iterI 3 n), .int .u32 (iterI 4 n), .int .u32 (iterI 5 n), .int .u32 0, .int .u32 0, .int .u32 0] := rfl
theorem row6 (n : Int) : rowA n 6 = #[.int .u32 (iterI 0 n), .int .u32 (iterI 1 n), .int .u32 (iterI 2 n), .int .u32 (iterI 3 n), .int .u32 (iterI 4 n), .int .u32 (iterI 5 n), .int .u32 (iterI 6 n), .int .u32 0, .int .u32 0] := rfl
theorem row7 (n : Int) : rowA n 7 = #[.int .u32 (iterI 0 n), .int .u32 (iterI 1 n), .int .u32 (iterI 2 n), .int .u32 (iterI 3 n), .int .u32 (iterI 4 n), .int .u32 (iterI 5 n), .int .u32 (iterI 6 n), .int .u32 (iterI 7 n), .int .u32 0] := rfl
set_option maxRecDepth 100000 in
set_option maxHeartbeats 400000 in
theorem after_any (n : Int) (w : World) (h0 : 0 ≤ n) (h1 : n < 4294967296) :
    Calls Try.prog 18 #[.int .u32 n] w fun e w' => e = .returned (.int .u32 (iterI 8 n)) ∧ Below w.heap.size w w' := by
  go_enter Try.func18, Try.ntmps18
  go_wp2
  refine wp_scope_jumps 0 (fun a' w' => ∃ k : Nat, ∃ (u5 u6 u7 u8 u9 u10 u11 u12 u13 u14 u15 u16 u17 : Value), 1 ≤ k ∧ k ≤ 7 ∧ w' = w.alloc (.cells (rowA n k) 41) ∧ a' = { tmps := #[.int .u32 n, undef, .int .u32 0, .pointer (some ⟨w.heap.size, 0, none⟩), .int .i64 k, u5, u6, u7, u8, u9, u10, u11, u12, u13, u14, u15, u16, u17, undef, undef], defers := [] }) (fun a' _ => (8 - intOf (a'.tmps.getD 4 undef)).toNat) rfl ?_ ?_
  · go_wp2_with fail
    go_step3
    go_wp2_with (go_at_call 20; refine (step_any _ _ h0 h1).mono ?_; rintro e w' ⟨rfl, rfl⟩)
    go_step3
    exact ⟨rfl, 1, _, _, _, _, _, _, _, _, _, _, _, _, _, by omega, by omega, rfl, rfl⟩
  · rintro a' w' ⟨k, u5, u6, u7, u8, u9, u10, u11, u12, u13, u14, u15, u16, u17, hk1, hk7, rfl, rfl⟩
    have hb := iterI_bd k n h0 h1
    rcases (show k = 1 ∨ k = 2 ∨ k = 3 ∨ k = 4 ∨ k = 5 ∨ k = 6 ∨ k = 7 by omega) with rfl | rfl | rfl | rfl | rfl | rfl | rfl
    · rw [row1]
      go_wp2_with (go_at_call 20; refine (step_any _ _ hb.1 hb.2).mono ?_; rintro e w' ⟨rfl, rfl⟩)
      go_step3
      exact ⟨rfl, ⟨2, _, _, _, _, _, _, _, _, _, _, _, _, _, by omega, by omega, rfl, rfl⟩, by simp [intOf]⟩
    · rw [row2]
      go_wp2_with (go_at_call 20; refine (step_any _ _ hb.1 hb.2).mono ?_; rintro e w' ⟨rfl, rfl⟩)
      go_step3
      exact ⟨rfl, ⟨3, _, _, _, _, _, _, _, _, _, _, _, _, _, by omega, by omega, rfl, rfl⟩, by simp [intOf]⟩
    · rw [row3]
      go_wp2_with (go_at_call 20; refine (step_any _ _ hb.1 hb.2).mono ?_; rintro e w' ⟨rfl, rfl⟩)
      go_step3
      exact ⟨rfl, ⟨4, _, _, _, _, _, _, _, _, _, _, _, _, _, by omega, by omega, rfl, rfl⟩, by simp [intOf]⟩
    · rw [row4]
      go_wp2_with (go_at_call 20; refine (step_any _ _ hb.1 hb.2).mono ?_; rintro e w' ⟨rfl, rfl⟩)
      go_step3
      exact ⟨rfl, ⟨5, _, _, _, _, _, _, _, _, _, _, _, _, _, by omega, by omega, rfl, rfl⟩, by simp [intOf]⟩
    · rw [row5]
      go_wp2_with (go_at_call 20; refine (step_any _ _ hb.1 hb.2).mono ?_; rintro e w' ⟨rfl, rfl⟩)
      go_step3
      exact ⟨rfl, ⟨6, _, _, _, _, _, _, _, _, _, _, _, _, _, by omega, by omega, rfl, rfl⟩, by simp [intOf]⟩
    · rw [row6]
      go_wp2_with (go_at_call 20; refine (step_any _ _ hb.1 hb.2).mono ?_; rintro e w' ⟨rfl, rfl⟩)
      go_step3
      exact ⟨rfl, ⟨7, _, _, _, _, _, _, _, _, _, _, _, _, _, by omega, by omega, rfl, rfl⟩, by simp [intOf]⟩
    · rw [row7]
      go_wp2_with (go_at_call 20; refine (step_any _ _ hb.1 hb.2).mono ?_; rintro e w' ⟨rfl, rfl⟩)
      simp only [Exit.jump]
      go_ret
      exact ⟨rfl, (Below.refl _ _).alloc (Nat.le_refl _) _⟩
end Go.Proofs.Ytogakapokgddiaa
