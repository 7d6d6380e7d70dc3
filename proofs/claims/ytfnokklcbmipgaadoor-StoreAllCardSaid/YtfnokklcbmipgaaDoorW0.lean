/- Few, few, Same of stores; a store that came in. -/
import Derived.Test.YtfnokklcbmipgaaDoorT8
import Derived.Test.YtfnokklcbmipgaaDoorV4
namespace Go.Proofs.YtfnokklcbmipgaaDoor
open Go.RowKit Plain

set_option maxHeartbeats 400000 in
theorem few_any (so : Option Addr) (n cap : Nat) (w : World) : Calls Tryd.prog 26 #[.slice so n cap] w fun e w' => e = .returned (.bool (decide (n ≤ 100))) ∧ w = w' := by
  by_cases h : n ≤ 100
  · have hi : (n : Int) ≤ 100 := by omega
    have H := Lib.hid (decide_eq_true h)
    clear h
    go_enter Tryd.func26, Tryd.ntmps26
    go_wp2_with fail
    go_ret
    exact ⟨by rw [H.out]; rfl, rfl⟩
  · have hi : ¬ (n : Int) ≤ 100 := by omega
    have H := Lib.hid (decide_eq_false h)
    clear h
    go_enter Tryd.func26, Tryd.ntmps26
    go_wp2_with fail
    go_ret
    exact ⟨by rw [H.out]; rfl, rfl⟩
set_option maxHeartbeats 400000 in
theorem few12_any (ao : Option Addr) (n cap : Nat) (s : ByteArray) (w : World) : Calls Tryd.prog 25 #[.agg #[.slice ao n cap, .string s]] w fun e w' => e = .returned (.bool (decide (n ≤ 20 ∧ s.size ≤ 12000))) ∧ Below w.heap.size w w' := by
  have hb0 : Below w.heap.size w (w.alloc (.cells #[.slice ao n cap, .string s] 51)) := (Below.refl _ _).alloc (Nat.le_refl _) _
  by_cases h1 : n ≤ 20
  · have hi : decide ((n : Int) ≤ 20) = true := decide_eq_true (by omega)
    by_cases h2 : s.size ≤ 12000
    · have hj : decide ((s.size : Int) ≤ 12000) = true := decide_eq_true (by omega)
      have H := Lib.hid (decide_eq_true (⟨h1, h2⟩ : n ≤ 20 ∧ s.size ≤ 12000))
      clear h1 h2
      go_enter Tryd.func25, Tryd.ntmps25
      go_wp2_with fail
      go_ret
      exact ⟨by rw [H.out]; rfl, hb0⟩
    · have hj : decide ((s.size : Int) ≤ 12000) = false := decide_eq_false (by omega)
      have H := Lib.hid (decide_eq_false (fun x => h2 x.2 : ¬ (n ≤ 20 ∧ s.size ≤ 12000)))
      clear h1 h2
      go_enter Tryd.func25, Tryd.ntmps25
      go_wp2_with fail
      go_ret
      exact ⟨by rw [H.out]; rfl, hb0⟩
  · have hi : decide ((n : Int) ≤ 20) = false := decide_eq_false (by omega)
    have H := Lib.hid (decide_eq_false (fun x => h1 x.1 : ¬ (n ≤ 20 ∧ s.size ≤ 12000)))
    clear h1
    go_enter Tryd.func25, Tryd.ntmps25
    go_wp2_with fail
    go_ret
    exact ⟨by rw [H.out]; rfl, hb0⟩
attribute [local irreducible] Go.Calls
set_option maxHeartbeats 400000 in
theorem rsame_yes (ao bo : Option Addr) (l : Segs) (cap cap2 : Nat) (B : List UInt8) (w : World) (hl : l.length ≤ 5000) (h1 : SegAt w ao l) (h2 : SegAt w bo l) :
    Calls Tryd.prog 29 #[.agg #[.slice ao l.length cap, .string (strB B)], .agg #[.slice bo l.length cap2, .string (strB B)]] w fun e w' => e = .returned (.bool true) ∧ Below w.heap.size w w' := by
  obtain ⟨R0, R1, hb1, hz1⟩ := two_start w 51 51 (.slice ao l.length cap) (.string (strB B)) (.slice bo l.length cap2) (.string (strB B))
  obtain ⟨w1, hw1⟩ : ∃ w1, w1 = (w.alloc (.cells #[.slice ao l.length cap, .string (strB B)] 51)).alloc (.cells #[.slice bo l.length cap2, .string (strB B)] 51) := ⟨_, rfl⟩
  rw [← hw1] at R0 R1 hb1 hz1
  have H1 := Lib.hid (h1.below hb1)
  have H2 := Lib.hid (h2.below hb1)
  have b0 := R0.c0
  have b1 := R0.c1
  have b2 := R1.c0
  have b3 := R1.c1
  have HW1 := Lib.hid hw1
  clear h1 h2 hw1
  go_enter Tryd.func29, Tryd.ntmps29
  go_wp2_with (rw [← HW1.out]; go_at_call 16; refine (same_any _ _ l l _ _ w1 H1.out H2.out hl).mono ?_; rintro e w2 ⟨rfl, hb2⟩; rw [decide_eq_true (rfl : l = l)]; have R02 := R0.below hb2 R0.lt; have R12 := R1.below hb2 R1.lt; have c1 := R02.c1; have c3 := R12.c1)
  go_ret
  exact ⟨rfl, hb1.link hb2⟩
end Go.Proofs.YtfnokklcbmipgaaDoor
