/- arena.Has. -/
import Derived.Test.YtfnokklcbmipgaaDoorA4
namespace Go.Proofs.YtfnokklcbmipgaaDoor
open Go.RowKit Plain

def hasL (l : Segs) (s a : Int) : Prop := 0 ≤ s ∧ s < l.length ∧ 0 ≤ a ∧ (l.getD s.toNat (0, 0)).2.testBit a.toNat = true
instance (l : Segs) (s a : Int) : Decidable (hasL l s a) := by unfold hasL; exact inferInstance
theorem shr_bit (u n : Nat) (hu : u < 18446744073709551616) : (bits .and .u64 ((u : Int) / 2 ^ n) 1 == 1) = u.testBit n := by
  have e : ((u : Int) / 2 ^ n) = ((u / 2 ^ n : Nat) : Int) := by
    rw [Int.natCast_ediv, Int.natCast_pow]; rfl
  have h := bits_and_u64_nat (u / 2 ^ n) 1 (Nat.lt_of_le_of_lt (Nat.div_le_self _ _) hu) (by decide)
  rw [e, show (1 : Int) = ((1 : Nat) : Int) from rfl, h, Nat.and_one_is_mod, bit_def]
  rcases Nat.mod_two_eq_zero_or_one (u / 2 ^ n) with h | h <;> rw [h] <;> rfl
theorem shift_far (u : Int) (a : Int) (h : 64 < a) (h0 : 0 ≤ u) (hu : u < 18446744073709551616) : Op.shift .shr .u64 u .i64 a = pure (.int .u64 0) := by
  have hm : min a.toNat IntKind.u64.bits = 64 := by simp [IntKind.bits]; omega
  have h1 : ¬ a < 0 := by omega
  have h2 : u.fdiv (2 ^ 64) = 0 := by
    rw [Int.fdiv_eq_ediv_of_nonneg _ (by decide)]
    omega
  simp only [Op.shift, hm, h2]
  simp [h1]
set_option maxHeartbeats 400000 in
theorem has_any (ao : Option Addr) (l : Segs) (cap : Nat) (s a : Int) (w : World) (hwf : Wf l) (h : SegAt w ao l) : Calls Tryd.prog 18 #[.slice ao l.length cap, .agg #[.int .i64 s, .int .i64 a]] w fun e w' => e = .returned (.bool (decide (okS l ∧ hasL l s a))) ∧ Below w.heap.size w w' := by
  have H := Lib.hid (h.more (.cells #[.int .i64 s, .int .i64 a] 24))
  clear h
  have hb0 : Below w.heap.size w (w.alloc (.cells #[.int .i64 s, .int .i64 a] 24)) := (Below.refl _ _).alloc (Nat.le_refl _) _
  by_cases hok : okS l
  · have HK := Lib.hid (decide_eq_true hok)
    by_cases h1 : s < 0
    · have HD : Hid (decide (okS l ∧ hasL l s a) = false) := decide_eq_false (fun h => by have := h.2.1; omega)
      clear hok
      go_enter Tryd.func18, Tryd.ntmps18
      go_wp2_with (go_at_call 14; refine (check_any ao l _ _ hwf H.out).mono ?_; rintro e w1 ⟨rfl, hb1⟩; rw [HK.out]; have c0 : w1.cell? ⟨w.heap.size, 0, none⟩ = some (.int .i64 s) := (hb1.cell (p := ⟨w.heap.size, 0, none⟩) (by simp)).trans (by simp); have c1 : w1.cell? ⟨w.heap.size, 1, none⟩ = some (.int .i64 a) := (hb1.cell (p := ⟨w.heap.size, 1, none⟩) (by simp)).trans (by simp))
      go_ret
      exact ⟨by rw [HD.out]; rfl, hb0.link hb1⟩
    · by_cases h2 : (l.length : Int) ≤ s
      · have HD : Hid (decide (okS l ∧ hasL l s a) = false) := decide_eq_false (fun h => by have := h.2.2.1; omega)
        have d1 : decide (s < 0) = false := decide_eq_false h1
        clear hok
        go_enter Tryd.func18, Tryd.ntmps18
        go_wp2_with (go_at_call 14; refine (check_any ao l _ _ hwf H.out).mono ?_; rintro e w1 ⟨rfl, hb1⟩; rw [HK.out]; have c0 : w1.cell? ⟨w.heap.size, 0, none⟩ = some (.int .i64 s) := (hb1.cell (p := ⟨w.heap.size, 0, none⟩) (by simp)).trans (by simp); have c1 : w1.cell? ⟨w.heap.size, 1, none⟩ = some (.int .i64 a) := (hb1.cell (p := ⟨w.heap.size, 1, none⟩) (by simp)).trans (by simp))
        go_ret
        exact ⟨by rw [HD.out]; rfl, hb0.link hb1⟩
      · by_cases h3 : a < 0
        · have HD : Hid (decide (okS l ∧ hasL l s a) = false) := decide_eq_false (fun h => by have := h.2.2.2.1; omega)
          have d1 : decide (s < 0) = false := decide_eq_false h1
          have d2 : decide ((l.length : Int) ≤ s) = false := decide_eq_false h2
          clear hok
          go_enter Tryd.func18, Tryd.ntmps18
          go_wp2_with (go_at_call 14; refine (check_any ao l _ _ hwf H.out).mono ?_; rintro e w1 ⟨rfl, hb1⟩; rw [HK.out]; have c0 : w1.cell? ⟨w.heap.size, 0, none⟩ = some (.int .i64 s) := (hb1.cell (p := ⟨w.heap.size, 0, none⟩) (by simp)).trans (by simp); have c1 : w1.cell? ⟨w.heap.size, 1, none⟩ = some (.int .i64 a) := (hb1.cell (p := ⟨w.heap.size, 1, none⟩) (by simp)).trans (by simp))
          go_ret
          exact ⟨by rw [HD.out]; rfl, hb0.link hb1⟩
        · obtain ⟨k, rfl⟩ : ∃ k : Nat, s = k := ⟨s.toNat, by omega⟩
          obtain ⟨n, rfl⟩ : ∃ n : Nat, a = n := ⟨a.toNat, by omega⟩
          have hk : k < l.length := by omega
          have HD : Hid (decide (okS l ∧ hasL l k n) = (l.getD k (0, 0)).2.testBit n) := by
            show _ = _
            by_cases ht : (l.getD k (0, 0)).2.testBit n = true
            · rw [ht, decide_eq_true]
              exact ⟨hok, by omega, by omega, by omega, ht⟩
            · rw [Bool.eq_false_iff.2 ht, decide_eq_false]
              exact fun h => ht h.2.2.2.2
          have hu := hwf _ (getD_mem hk)
          have d1 : decide ((k : Int) < 0) = false := decide_eq_false h1
          have d2 : decide ((l.length : Int) ≤ (k : Int)) = false := decide_eq_false h2
          have d3 : decide ((n : Int) < 0) = false := decide_eq_false h3
          have hkl : (k : Int) < (l.length : Int) := by omega
          clear hok h1 h2 h3
          obtain ⟨b, off, rfl, hbl, hc⟩ := H.out.cell k hk
          obtain ⟨g1, g2⟩ := hc k hk
          have key := shr_bit (l.getD k (0, 0)).2 n hu
          obtain ⟨c, u, hcu⟩ : ∃ c u, (c, u) = l.getD k (0, 0) := ⟨_, _, rfl⟩
          rw [← hcu] at g1 g2 HD hu key
          clear hc hcu
          have HD : Hid (decide (okS l ∧ hasL l k n) = u.testBit n) := HD
          have hu : u < 18446744073709551616 := hu
          have key : (bits .and .u64 ((u : Int) / 2 ^ n) 1 == 1) = u.testBit n := key
          have g2 : (w.alloc (.cells #[.int .i64 k, .int .i64 n] 24)).cell? ⟨b, off + k * 2 + 1, none⟩ = some (.int .u64 u) := g2
          by_cases hn : n ≤ 64
          · have hn' : (n : Int) ≤ 64 := by omega
            go_enter Tryd.func18, Tryd.ntmps18
            go_wp2_with (go_at_call 14; refine (check_any _ l _ _ hwf H.out).mono ?_; rintro e w1 ⟨rfl, hb1⟩; rw [HK.out]; have c0 : w1.cell? ⟨w.heap.size, 0, none⟩ = some (.int .i64 k) := (hb1.cell (p := ⟨w.heap.size, 0, none⟩) (by simp)).trans (by simp); have c1 : w1.cell? ⟨w.heap.size, 1, none⟩ = some (.int .i64 n) := (hb1.cell (p := ⟨w.heap.size, 1, none⟩) (by simp)).trans (by simp); have g3 := (hb1.cell (p := ⟨b, off + k * 2 + 1, none⟩) hbl).trans g2)
            go_quiet (fail)
            go_wp2_with fail
            go_ret
            exact ⟨by rw [HD.out]; rfl, below_drewN _ _ _ _ (hb0.link hb1)⟩
          · have hfar := shift_far (u : Int) (n : Int) (by omega) (by omega) (by omega)
            have HZ : Hid (u.testBit n = false) := Nat.testBit_lt_two_pow (Nat.lt_of_lt_of_le (show u < 2 ^ 64 by omega) (Nat.pow_le_pow_right (by decide) (by omega)))
            clear key
            have key0 : (bits .and .u64 0 1 == 1) = false := by decide
            have hn' : ¬ (n : Int) ≤ 64 := by omega
            go_enter Tryd.func18, Tryd.ntmps18
            go_wp2_with (go_at_call 14; refine (check_any _ l _ _ hwf H.out).mono ?_; rintro e w1 ⟨rfl, hb1⟩; rw [HK.out]; have c0 : w1.cell? ⟨w.heap.size, 0, none⟩ = some (.int .i64 k) := (hb1.cell (p := ⟨w.heap.size, 0, none⟩) (by simp)).trans (by simp); have c1 : w1.cell? ⟨w.heap.size, 1, none⟩ = some (.int .i64 n) := (hb1.cell (p := ⟨w.heap.size, 1, none⟩) (by simp)).trans (by simp); have g3 := (hb1.cell (p := ⟨b, off + k * 2 + 1, none⟩) hbl).trans g2)
            go_quiet (fail)
            go_wp2_with fail
            go_ret
            exact ⟨by rw [HD.out, HZ.out]; rfl, below_drewN _ _ _ _ (hb0.link hb1)⟩
  · have HK := Lib.hid (decide_eq_false hok)
    have HD : Hid (decide (okS l ∧ hasL l s a) = false) := decide_eq_false (fun h => hok h.1)
    clear hok
    go_enter Tryd.func18, Tryd.ntmps18
    go_wp2_with (go_at_call 14; refine (check_any ao l _ _ hwf H.out).mono ?_; rintro e w1 ⟨rfl, hb1⟩; rw [HK.out])
    go_ret
    exact ⟨by rw [HD.out]; rfl, hb0.link hb1⟩
end Go.Proofs.YtfnokklcbmipgaaDoor
