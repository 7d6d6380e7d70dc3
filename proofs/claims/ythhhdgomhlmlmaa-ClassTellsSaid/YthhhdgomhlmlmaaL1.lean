/- The walk of ClassTells. -/
import Derived.Test.YthhhdgomhlmlmaaC4
namespace Go.Proofs.Ythhhdgomhlmlmaa
open Go.RowKit

set_option maxHeartbeats 800000 in
theorem tells_walk (c n : Int) (ao : Option Addr) (l : List Int) (cap : Nat) (w : World) (hl : l.length ≤ maxLen) (hat : IntAt w ao l) :
    Calls Try.prog 3 #[.int .i64 c, .int .i64 n, .slice ao l.length cap] w fun e w' => e = .returned (.bool true) ∧ Below w.heap.size w w' := by
  unfold maxLen at hl
  have HA := Lib.hid hat
  clear hat
  go_enter Try.func3, Try.ntmps3
  go_wp2_with fail
  refine (awake_any _).mono ?_
  rintro e w1 ⟨rfl, hb1⟩
  by_cases hbig : 1000 < l.length
  · go_wp2_with fail
    go_ret
    exact ⟨rfl, hb1⟩
  have HA1 := Lib.hid (HA.out.below hb1)
  by_cases hn : n < 1 ∨ 4096 < n
  · go_wp2_with fail
    refine (cut_bad _ _ hn).mono ?_
    rintro e w2 ⟨rfl, rfl⟩
    go_wp2_with fail
    refine (rcut_bad _ _ hn).mono ?_
    rintro e w2 ⟨rfl, rfl⟩
    go_wp2_with (first
      | (go_at_call 11; refine (bytes_any _ _).mono ?_; rintro e w' ⟨rfl, rfl⟩)
      | (go_at_call 12; refine (rbytes_any _ _).mono ?_; rintro e w' ⟨rfl, rfl⟩)
      | (go_at_call 13; refine (slots_any _ _).mono ?_; rintro e w' ⟨rfl, rfl⟩)
      | (go_at_call 14; refine (rslots_any _ _).mono ?_; rintro e w' ⟨rfl, rfl⟩)
      | (go_at_call 15; refine (fit_any _ _).mono ?_; rintro e w' ⟨rfl, rfl⟩)
      | (go_at_call 16; refine (rfit_any _ _).mono ?_; rintro e w' ⟨rfl, rfl⟩))
    refine (same_any none none [] [] 0 0 _ (by simp) (by simp) (.inl rfl) (.inl rfl)).mono ?_
    rintro e w2 ⟨rfl, hb2⟩
    rw [decide_eq_true (show ([] : List Int) = [] from rfl)]
    go_wp2_with (first
      | (go_at_call 18; refine (room_any _ _ _ _ (by omega) (HA1.out.below hb2)).mono ?_; rintro e w' ⟨rfl, rfl⟩)
      | (go_at_call 19; refine (rroom_any _ _ _ _ (by omega) (HA1.out.below hb2)).mono ?_; rintro e w' ⟨rfl, rfl⟩))
    go_ret
    exact ⟨rfl, hb1.trans (hb2.mono hb1.size)⟩
  · obtain ⟨m, rfl⟩ := Int.eq_ofNat_of_zero_le (show 0 ≤ n by omega)
    have hz := cutC_len m (by omega)
    go_wp2_with fail
    refine (cut_any _ _ (by omega) (by omega)).mono ?_
    rintro e w2 ⟨a2, c2, rfl, hat2, hb2, _⟩
    have HA2 := Lib.hid hat2
    clear hat2
    go_wp2_with fail
    refine (rcut_any _ _ (by omega) (by omega)).mono ?_
    rintro e w3 ⟨a3, c3, rfl, hat3, hb3, _⟩
    have HA3 := Lib.hid hat3
    clear hat3
    go_wp2_with (first
      | (go_at_call 11; refine (bytes_any _ _).mono ?_; rintro e w' ⟨rfl, rfl⟩)
      | (go_at_call 12; refine (rbytes_any _ _).mono ?_; rintro e w' ⟨rfl, rfl⟩)
      | (go_at_call 13; refine (slots_any _ _).mono ?_; rintro e w' ⟨rfl, rfl⟩)
      | (go_at_call 14; refine (rslots_any _ _).mono ?_; rintro e w' ⟨rfl, rfl⟩)
      | (go_at_call 15; refine (fit_any _ _).mono ?_; rintro e w' ⟨rfl, rfl⟩)
      | (go_at_call 16; refine (rfit_any _ _).mono ?_; rintro e w' ⟨rfl, rfl⟩))
    refine (same_any _ _ (cutC m) (cutC m) _ _ _ (by omega) (by omega) (HA2.out.below hb3) HA3.out).mono ?_
    rintro e w4 ⟨rfl, hb4⟩
    rw [decide_eq_true (show cutC m = cutC m from rfl)]
    have HA4 := Lib.hid (((HA1.out.below hb2).below hb3).below hb4)
    go_wp2_with (first
      | (go_at_call 18; refine (room_any _ _ _ _ (by omega) HA4.out).mono ?_; rintro e w' ⟨rfl, rfl⟩)
      | (go_at_call 19; refine (rroom_any _ _ _ _ (by omega) HA4.out).mono ?_; rintro e w' ⟨rfl, rfl⟩))
    go_ret
    have := hb1.size; have := hb2.size; have := hb3.size
    exact ⟨rfl, hb1.trans <| (hb2.mono (by omega)).trans <| (hb3.mono (by omega)).trans (hb4.mono (by omega))⟩
end Go.Proofs.Ythhhdgomhlmlmaa
