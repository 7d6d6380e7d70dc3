/- A store; inside, store.Check. -/
import Derived.Test.YtfnokklcbmipgaaDoorA9
import Derived.Test.YtfnokklcbmipgaaDoorB1
namespace Go.Proofs.YtfnokklcbmipgaaDoor
open Go.RowKit Plain

def bN (c : Int) : Nat := (bytesC c).toNat
theorem bN_cast (c : Int) : (bytesC c) = (bN c : Int) := by have := (bytesC_bd c).1; unfold bN; omega
theorem bN_le (c : Int) : bN c ≤ 64 := by have := (bytesC_bd c).2; unfold bN; omega
/-- Is a place of a segment in a slot that is taken? -/
def inSeg (g : Int × Nat) (p : Nat) : Prop := 0 < bN g.1 ∧ g.2.testBit (p / bN g.1) = true
instance (g : Int × Nat) (p : Nat) : Decidable (inSeg g p) := by unfold inSeg; exact inferInstance
theorem bN_ge {c : Int} (h : 0 < bN c) : 8 ≤ bN c := by
  unfold bN bytesC at *
  (repeat' split at h) <;> simp_all <;> omega
set_option maxHeartbeats 1000000 in
theorem inside_any (c : Int) (u p : Nat) (hu : u < 18446744073709551616) (hp : p < 512) (w : World) : Calls Tryd.prog 44 #[.agg #[.int .i64 c, .int .u64 u], .int .i64 p] w fun e w' => e = .returned (.bool (decide (inSeg (c, u) p))) ∧ Below w.heap.size w w' := by
  have hb0 : Below w.heap.size w (w.alloc (.cells #[.int .i64 c, .int .u64 u] 47)) := (Below.refl _ _).alloc (Nat.le_refl _) _
  obtain ⟨b, hb⟩ : ∃ b, b = bN c := ⟨_, rfl⟩
  have HB : Hid (bytesC c = (b : Int)) := by show _ = _; rw [hb]; exact bN_cast c
  by_cases h0 : 0 < b
  · have hcase : (b = 8 ∨ b = 16 ∨ b = 32 ∨ b = 64) := by
      rw [hb]
      rw [hb] at h0
      unfold bN bytesC at *
      (repeat' split at h0) <;> simp_all
    have hq1 : (p : Int).tdiv (b : Int) = ((p / b : Nat) : Int) := rfl
    have hq2 : (p : Int) / (b : Int) = ((p / b : Nat) : Int) := (Int.natCast_ediv p b).symm
    have hdiv : p / b < 64 := by
      rcases hcase with h | h | h | h <;> rw [h] <;> omega
    have HIN : Hid (decide (inSeg (c, u) p) = u.testBit (p / b)) := by
      show _ = _
      unfold inSeg
      show decide (0 < bN c ∧ u.testBit (p / bN c) = true) = _
      rw [← hb]
      cases u.testBit (p / b) <;> simp [h0]
    have key := shr_bit u (p / b) hu
    obtain ⟨q, hqq⟩ : ∃ q, q = p / b := ⟨_, rfl⟩
    rw [← hqq] at hq1 hq2 hdiv HIN key
    have hdq : (q : Int) ≤ 64 := by omega
    have hd0 : (0 : Int) ≤ (q : Int) := by omega
    clear hb h0 hqq
    rcases hcase with rfl | rfl | rfl | rfl
    all_goals (
      have hq3 := hq1
      have hq4 := hq2
      simp only [Int.cast_ofNat_Int] at hq3 hq4
      clear hq1 hq2
      go_enter Tryd.func44, Tryd.ntmps44
      go_wp2_with (go_at_call 41; refine (bytes_any _ _).mono ?_; rintro e w' ⟨rfl, rfl⟩; rw [HB.out])
      go_quiet (fail)
      go_wp2_with fail
      go_ret
      exact ⟨by rw [HIN.out]; rfl, below_drewN _ _ _ _ hb0⟩)
  · have hz : b = 0 := by omega
    have HIN : Hid (decide (inSeg (c, u) p) = false) := decide_eq_false (fun h => h0 (by rw [hb]; exact h.1))
    have HB2 : Hid (bytesC c = 0) := by show _ = _; rw [HB.out, hz]; rfl
    clear hb h0 hz
    go_enter Tryd.func44, Tryd.ntmps44
    go_wp2_with (go_at_call 41; refine (bytes_any _ _).mono ?_; rintro e w' ⟨rfl, rfl⟩; rw [HB2.out])
    go_quiet (fail)
    go_wp2_with fail
    go_ret
    exact ⟨by rw [HIN.out]; rfl, below_drewN _ _ _ _ hb0⟩
end Go.Proofs.YtfnokklcbmipgaaDoor
