/- The walks of ClassFits, ClassWaste, ClassRises. -/
import Derived.Test.YthhhdgomhlmlmaaC3
namespace Go.Proofs.Ythhhdgomhlmlmaa
open Go.RowKit

theorem fitC_pos (r : Nat) (h : 1 ≤ r) (h2 : r ≤ 64) : 0 ≤ fitC r ∧ fitC r ≤ 3 ∧ (r : Int) ≤ bytesC (fitC r) ∧ bytesC (fitC r) ≤ 64 ∧ (bytesC (fitC r) - r < 8 ∨ 2 * (bytesC (fitC r) - r) < bytesC (fitC r)) := by
  unfold fitC
  rw [if_neg (by omega)]
  (repeat' split) <;> simp [bytesC] <;> omega
theorem roomC_append (a b : List Int) : roomC (a ++ b) = roomC a + roomC b := by simp [roomC]
theorem roomC_rep (q : Nat) : roomC (List.replicate q 3) = 64 * q := by
  induction q with
  | zero => rfl
  | succ q ih =>
    rw [List.replicate_succ]
    have : roomC (3 :: List.replicate q 3) = 64 + roomC (List.replicate q 3) := by simp [roomC, bytesC]
    rw [this, ih]; omega
/-- What is to be known of an object's slots: k of 64 bytes, and the last one. -/
theorem cutC_form (n : Nat) (h1 : 1 ≤ n) (h2 : n ≤ 4096) : ∃ k r : Nat, cutC n = List.replicate k 3 ++ [fitC r] ∧ n = 64 * k + r ∧ 1 ≤ r ∧ r ≤ 64 ∧ k ≤ 63 := by
  by_cases h0 : n % 64 = 0
  · refine ⟨n / 64 - 1, 64, ?_, by omega, by omega, by omega, by omega⟩
    unfold cutC
    rw [if_pos h0, List.append_nil]
    obtain ⟨q, hq⟩ : ∃ q, n / 64 = q + 1 := ⟨n / 64 - 1, by omega⟩
    rw [hq, List.replicate_succ']
    rfl
  · refine ⟨n / 64, n % 64, ?_, by omega, by omega, by omega, by omega⟩
    unfold cutC
    rw [if_neg h0]
structure Form (n : Nat) (k r : Nat) : Prop where
  cut : cutC n = List.replicate k 3 ++ [fitC r]
  len : (cutC n).length = k + 1
  room : roomC (cutC n) = 64 * k + bytesC (fitC r)
  ahead : roomC ((cutC n).take k) = 64 * k
  last : (cutC n).getD k 0 = fitC r
  front : ∀ i, i < k → (cutC n).getD i 0 = 3
theorem cutC_all (n : Nat) (h1 : 1 ≤ n) (h2 : n ≤ 4096) : ∃ k r : Nat, Form n k r ∧ n = 64 * k + r ∧ 1 ≤ r ∧ r ≤ 64 ∧ k ≤ 63 := by
  obtain ⟨k, r, hc, hn, hr1, hr2, hk⟩ := cutC_form n h1 h2
  refine ⟨k, r, ⟨hc, by rw [hc]; simp, ?_, ?_, ?_, ?_⟩, hn, hr1, hr2, hk⟩
  · rw [hc, roomC_append, roomC_rep]; simp [roomC]
  · rw [hc, List.take_left' (by simp), roomC_rep]
  · rw [hc, List.getD_eq_getElem?_getD, List.getElem?_append_right (by simp)]; simp
  · intro i hi
    rw [hc, List.getD_eq_getElem?_getD, List.getElem?_append_left (by simpa using hi)]; simp [hi]
theorem IntAt.take {w : World} {ao : Option Addr} {l : List Int} (h : IntAt w ao l) (k : Nat) : IntAt w ao (l.take k) := by
  rcases h with h | ⟨b, off, h1, h2, h3⟩
  · subst h; exact .inl (by simp)
  · refine .inr ⟨b, off, h1, h2, fun i hi => ?_⟩
    rw [List.length_take] at hi
    rw [h3 i (by omega), List.getD_eq_getElem?_getD, List.getD_eq_getElem?_getD, List.getElem?_take_of_lt (by omega)]
theorem room_len (ao : Option Addr) (l : List Int) (n cap : Nat) (w : World) (hn : l.length = n) (hl : n ≤ 5000) (h : IntAt w ao l) :
    Calls Try.prog 18 #[.slice ao n cap] w fun e w' => e = .returned (.int .i64 (roomC l)) ∧ w = w' := by
  subst hn; exact room_any ao l cap w hl h
set_option maxHeartbeats 800000 in
theorem fits_walk (n : Int) (w : World) : Calls Try.prog 4 #[.int .i64 n] w fun e w' => e = .returned (.bool true) ∧ Below w.heap.size w w' := by
  go_enter Try.func4, Try.ntmps4
  go_wp2_with fail
  refine (awake_any _).mono ?_
  rintro e w1 ⟨rfl, hb1⟩
  by_cases hn : n < 1 ∨ 4096 < n
  · go_wp2_with fail
    refine (cut_bad _ _ hn).mono ?_
    rintro e w2 ⟨rfl, rfl⟩
    by_cases h1 : n < 1
    · have d1 : decide (n < 1) = true := by simpa using h1
      go_wp2_with fail
      go_ret
      exact ⟨rfl, hb1⟩
    · have d1 : decide (n < 1) = false := by simpa using h1
      have d2 : decide (4096 < n) = true := by simp; omega
      go_wp2_with fail
      go_ret
      exact ⟨rfl, hb1⟩
  · obtain ⟨m, rfl⟩ := Int.eq_ofNat_of_zero_le (show 0 ≤ n by omega)
    obtain ⟨k, r, F, hm, hr1, hr2, hk⟩ := cutC_all m (by omega) (by omega)
    have hfp := fitC_pos r hr1 hr2
    have hm1 : 1 ≤ m := by omega
    have hm2 : m ≤ 4096 := by omega
    have HM := Lib.hid hm
    clear hm
    go_wp2_with fail
    refine (cut_any _ _ hm1 hm2).mono ?_
    rintro e w2 ⟨a2, c2, rfl, hat2, hb2, hcap⟩
    have HA2 := Lib.hid hat2
    clear hat2
    rw [F.len] at hcap ⊢
    go_wp2_with fail
    refine (room_len _ ((cutC m).take k) k c2 _ (by rw [List.length_take, F.len]; omega) (by omega) (HA2.out.take k)).mono ?_
    rintro e w3 ⟨rfl, rfl⟩
    rw [F.ahead]
    obtain ⟨b, off, rfl, hc⟩ := HA2.out.cell k (by rw [F.len]; omega)
    have hlast : w2.cell? ⟨b, off + k, none⟩ = some (.int .i64 (fitC r)) := by rw [hc k (by rw [F.len]; omega), F.last]
    have HF := Lib.hid (fun i (hi : i < k) => (hc i (by rw [F.len]; omega)).trans (by rw [F.front i hi]))
    have HR := Lib.hid (show (m : Int) - 64 * k = r from by have := HM.out; omega)
    have hlt : (k : Int) < (k : Int) + 1 := by omega
    have hw1 : IntKind.i64.wrap (k : Int) = (k : Int) := IntWalk.i64_in _ (by omega)
    have hw2 : IntKind.i64.wrap ((m : Int) - 64 * (k : Int)) = (r : Int) := by rw [HR.out]; exact IntWalk.i64_in _ (by omega)
    clear hc
    go_wp2_with fail
    go_quiet ((go_at_call 15; exact Calls.quiet_of_same ((fit_any _ _).mono fun _ _ ⟨h, h2⟩ => ⟨h, h2.symm⟩)))
    clear hw1 hw2 hlast
    have hb4 : Below w.heap.size w (w2.drewN nq) := below_drewN _ _ _ _ (hb1.trans (hb2.mono hb1.size))
    have HA4 := Lib.hid (HA2.out.below (below_drewN w2 w2 nq _ (Below.refl _ _)))
    have HF4 : Hid (∀ i, i < k → (w2.drewN nq).cell? ⟨b, off + i, none⟩ = some (.int .i64 3)) := fun i hi => HF.out i hi
    clear HA2 HF
    generalize w2.drewN nq = w4 at *
    have hge : (m : Int) ≤ 64 * k + bytesC (fitC r) := by have := HM.out; omega
    have hlt2 : 64 * (k : Int) < (m : Int) := by have := HM.out; omega
    have dge : decide ((m : Int) ≤ 64 * k + bytesC (fitC r)) = true := by simpa using hge
    have dlt : decide (64 * (k : Int) < (m : Int)) = true := by simpa using hlt2
    have dle : decide ((k : Int) + 1 ≤ 64) = true := by simp; omega
    go_wp2_with fail
    go_loop [8] (fun i => ∃ j : Nat, j ≤ k ∧ i = .int .i64 j) (fun i => k - (intOf i).toNat)
    case atStart => exact ⟨0, Nat.zero_le _, rfl⟩
    case round =>
      obtain ⟨j, hj, rfl⟩ := hrel
      by_cases hjk : j < k
      · have hcell := HF4.out j hjk
        go_wp2_with fail
        go_round
        case rel => exact ⟨j + 1, by omega, by go_num⟩
        case measure => simp [intOf]; omega
      · go_wp2_with fail
        refine (room_len _ (cutC m) (k + 1) c2 _ F.len (by omega) HA4.out).mono ?_
        rintro e w5 ⟨rfl, rfl⟩
        rw [F.room]
        go_wp2_with fail
        go_ret
        exact ⟨rfl, hb4⟩
end Go.Proofs.Ythhhdgomhlmlmaa
