/- The walks of ClassWaste and ClassRises. -/
import Derived.Test.YthhhdgomhlmlmaaL2
namespace Go.Proofs.Ythhhdgomhlmlmaa
open Go.RowKit

set_option maxHeartbeats 800000 in
theorem waste_walk (s : Nat) (w : World) (hs : s < 65536) : Calls Try.prog 5 #[.int .u16 s] w fun e w' => e = .returned (.bool true) ∧ Below w.heap.size w w' := by
  obtain ⟨m, hm, hm1, hm2⟩ : ∃ m : Nat, 1 + (s : Int) % 4096 = m ∧ 1 ≤ m ∧ m ≤ 4096 := ⟨1 + s % 4096, by omega, by omega, by omega⟩
  go_enter Try.func5, Try.ntmps5
  go_wp2_with fail
  refine (awake_any _).mono ?_
  rintro e w1 ⟨rfl, hb1⟩
  obtain ⟨k, r, F, hmk, hr1, hr2, hk⟩ := cutC_all m hm1 hm2
  have hfp := fitC_pos r hr1 hr2
  have HM := Lib.hid hmk
  clear hmk
  go_wp2_with fail
  refine (cut_any _ _ hm1 hm2).mono ?_
  rintro e w2 ⟨a2, c2, rfl, hat2, hb2, hcap⟩
  have HA2 := Lib.hid hat2
  clear hat2
  rw [F.len] at hcap ⊢
  have hlen0 : ((k : Int) + 1 == 0) = false := by rw [beq_eq_false_iff_ne]; omega
  obtain ⟨b, off, rfl, hc⟩ := HA2.out.cell k (by rw [F.len]; omega)
  have hlast : w2.cell? ⟨b, off + k, none⟩ = some (.int .i64 (fitC r)) := by rw [hc k (by rw [F.len]; omega), F.last]
  have hlt : (k : Int) < (k : Int) + 1 := by omega
  clear hc
  have hge : (m : Int) ≤ 64 * k + bytesC (fitC r) := by have := HM.out; omega
  have hover : 64 * (k : Int) + bytesC (fitC r) - m < 8 ∨ 2 * (64 * (k : Int) + bytesC (fitC r) - m) < bytesC (fitC r) := by have := HM.out; omega
  have hbl : Below w.heap.size w w2 := hb1.trans (hb2.mono hb1.size)
  have HV := Lib.hid hover
  clear hover
  have hbb := bytesC_bd (fitC r)
  go_wp2_with fail
  refine (room_len _ (cutC m) (k + 1) c2 _ F.len (by omega) HA2.out).mono ?_
  rintro e w3 ⟨rfl, rfl⟩
  rw [F.room]
  by_cases h8 : 64 * (k : Int) + bytesC (fitC r) - m < 8
  · go_wp2_with fail
    go_ret
    exact ⟨rfl, hbl⟩
  · have h2 : 2 * (64 * (k : Int) + bytesC (fitC r) - m) < bytesC (fitC r) := by rcases HV.out with h | h <;> omega
    go_wp2_with fail
    refine (bytes_any _ _).mono ?_
    rintro e w3 ⟨rfl, rfl⟩
    go_wp2_with fail
    go_ret
    exact ⟨rfl, hbl⟩
theorem fit_mono (a b : Nat) (h0 : 1 ≤ a) (h : a ≤ b) (h64 : b ≤ 64) : fitC a ≤ fitC b ∧ 0 ≤ fitC b := by
  unfold fitC
  (repeat' split) <;> omega
theorem fit_big (b : Nat) (h : 64 < b) : fitC b = -1 := by
  unfold fitC
  (repeat' split) <;> omega
theorem bytes_mono (a b : Nat) (h0 : 1 ≤ a) (h : a ≤ b) (h64 : b ≤ 64) : bytesC (fitC a) ≤ bytesC (fitC b) := by
  unfold fitC
  (repeat' split) <;> first | omega | (simp [bytesC]; done)
set_option maxHeartbeats 800000 in
theorem rises_tail (lo hi : Nat) (l1 : 1 ≤ lo) (l2 : lo ≤ hi) (l3 : hi ≤ 4096) : ∃ k r k' r' : Nat, Form lo k r ∧ Form hi k' r' ∧ k ≤ 63 ∧ k' ≤ 63 ∧ k ≤ k' ∧ 64 * (k : Int) + bytesC (fitC r) ≤ 64 * (k' : Int) + bytesC (fitC r') := by
  obtain ⟨k, r, F, hm, hr1, hr2, hk⟩ := cutC_all lo l1 (by omega)
  obtain ⟨k', r', F', hm', hr1', hr2', hk'⟩ := cutC_all hi (by omega) l3
  refine ⟨k, r, k', r', F, F', hk, hk', by omega, ?_⟩
  have h1 := fitC_pos r hr1 hr2
  have h2 := fitC_pos r' hr1' hr2'
  by_cases e : k = k'
  · subst e
    have := bytes_mono r r' hr1 (by omega) hr2'
    omega
  · omega
set_option maxHeartbeats 1600000 in
theorem rises_lt (a b : Int) (w : World) (ha : 0 ≤ a) (ha2 : a < 65536) (hb : 0 ≤ b) (hb2 : b < 65536) (hab : a < b) : Calls Try.prog 6 #[.int .u16 a, .int .u16 b] w fun e w' => e = .returned (.bool true) ∧ Below w.heap.size w w' := by
  obtain ⟨lo, hlo, l1, l4⟩ : ∃ lo : Nat, 1 + a % 4096 = lo ∧ 1 ≤ lo ∧ lo ≤ 4096 := ⟨(1 + a % 4096).toNat, by omega, by omega, by omega⟩
  have hm0 := Int.emod_nonneg (b - a) (show 4097 - (lo : Int) ≠ 0 by omega)
  have hm1 := Int.emod_lt_of_pos (b - a) (show 0 < 4097 - (lo : Int) by omega)
  obtain ⟨hi, hhi, l2, l3⟩ : ∃ hi : Nat, (lo : Int) + (b - a) % (4097 - (lo : Int)) = hi ∧ lo ≤ hi ∧ hi ≤ 4096 := ⟨((lo : Int) + (b - a) % (4097 - (lo : Int))).toNat, by omega, by omega, by omega⟩
  go_enter Try.func6, Try.ntmps6
  go_wp2_with fail
  refine (awake_any _).mono ?_
  rintro e w1 ⟨rfl, hb1⟩
  obtain ⟨k, r, k', r', F, F', hk, hk', hkk, hroom⟩ := rises_tail lo hi l1 l2 l3
  have e1 : decide (64 * (k : Int) + bytesC (fitC r) ≤ 64 * (k' : Int) + bytesC (fitC r')) = true := by simpa using hroom
  have e2 : decide ((k : Int) + 1 ≤ (k' : Int) + 1 + 1) = true := by simp; omega
  go_wp2_with fail
  refine (cut_any _ _ l1 (by omega)).mono ?_
  rintro e w2 ⟨a2, c2, rfl, hat2, hb2, hcap⟩
  have HA2 := Lib.hid hat2
  clear hat2
  rw [F.len] at hcap ⊢
  go_wp2_with fail
  refine (cut_any _ _ (by omega) l3).mono ?_
  rintro e w3 ⟨a3, c3, rfl, hat3, hb3, hcap3⟩
  have HA3 := Lib.hid hat3
  have HA23 := Lib.hid (HA2.out.below hb3)
  clear hat3
  rw [F'.len] at hcap3 ⊢
  have hbl : Below w.heap.size w w3 := (hb1.trans (hb2.mono hb1.size)).trans (hb3.mono (by have := hb1.size; have := hb2.size; omega))
  by_cases h64 : 64 < hi
  · have hf := Lib.hid (fit_big hi h64)
    go_wp2_with fail
    refine (fit_any _ _).mono ?_
    rintro e w4 ⟨rfl, rfl⟩
    rw [hf.out]
    go_wp2_with fail
    refine (room_len _ (cutC lo) (k + 1) c2 _ F.len (by omega) HA23.out).mono ?_
    rintro e w5 ⟨rfl, rfl⟩
    rw [F.room]
    go_wp2_with fail
    refine (room_len _ (cutC hi) (k' + 1) c3 _ F'.len (by omega) HA3.out).mono ?_
    rintro e w5 ⟨rfl, rfl⟩
    rw [F'.room]
    go_wp2_with fail
    go_ret
    exact ⟨rfl, hbl⟩
  · have hf := fit_mono lo hi l1 l2 (by omega)
    have hne : (fitC (hi : Int) == -1) = false := by rw [beq_eq_false_iff_ne]; omega
    have hle : decide (fitC (lo : Int) ≤ fitC (hi : Int)) = true := decide_eq_true hf.1
    go_wp2_with fail
    refine (fit_any _ _).mono ?_
    rintro e w4 ⟨rfl, rfl⟩
    go_wp2_with fail
    refine (fit_any _ _).mono ?_
    rintro e w4 ⟨rfl, rfl⟩
    go_wp2_with fail
    refine (fit_any _ _).mono ?_
    rintro e w4 ⟨rfl, rfl⟩
    go_wp2_with fail
    refine (room_len _ (cutC lo) (k + 1) c2 _ F.len (by omega) HA23.out).mono ?_
    rintro e w5 ⟨rfl, rfl⟩
    rw [F.room]
    go_wp2_with fail
    refine (room_len _ (cutC hi) (k' + 1) c3 _ F'.len (by omega) HA3.out).mono ?_
    rintro e w5 ⟨rfl, rfl⟩
    rw [F'.room]
    go_wp2_with fail
    go_ret
    exact ⟨rfl, hbl⟩
set_option maxHeartbeats 1600000 in
theorem rises_gt (a b : Int) (w : World) (ha : 0 ≤ a) (ha2 : a < 65536) (hb : 0 ≤ b) (hb2 : b < 65536) (hab : b < a) : Calls Try.prog 6 #[.int .u16 a, .int .u16 b] w fun e w' => e = .returned (.bool true) ∧ Below w.heap.size w w' := by
  obtain ⟨lo, hlo, l1, l4⟩ : ∃ lo : Nat, 1 + b % 4096 = lo ∧ 1 ≤ lo ∧ lo ≤ 4096 := ⟨(1 + b % 4096).toNat, by omega, by omega, by omega⟩
  have hm0 := Int.emod_nonneg (a - b) (show 4097 - (lo : Int) ≠ 0 by omega)
  have hm1 := Int.emod_lt_of_pos (a - b) (show 0 < 4097 - (lo : Int) by omega)
  obtain ⟨hi, hhi, l2, l3⟩ : ∃ hi : Nat, (lo : Int) + (a - b) % (4097 - (lo : Int)) = hi ∧ lo ≤ hi ∧ hi ≤ 4096 := ⟨((lo : Int) + (a - b) % (4097 - (lo : Int))).toNat, by omega, by omega, by omega⟩
  go_enter Try.func6, Try.ntmps6
  go_wp2_with fail
  refine (awake_any _).mono ?_
  rintro e w1 ⟨rfl, hb1⟩
  obtain ⟨k, r, k', r', F, F', hk, hk', hkk, hroom⟩ := rises_tail lo hi l1 l2 l3
  have e1 : decide (64 * (k : Int) + bytesC (fitC r) ≤ 64 * (k' : Int) + bytesC (fitC r')) = true := by simpa using hroom
  have e2 : decide ((k : Int) + 1 ≤ (k' : Int) + 1 + 1) = true := by simp; omega
  go_wp2_with fail
  refine (cut_any _ _ l1 (by omega)).mono ?_
  rintro e w2 ⟨a2, c2, rfl, hat2, hb2, hcap⟩
  have HA2 := Lib.hid hat2
  clear hat2
  rw [F.len] at hcap ⊢
  go_wp2_with fail
  refine (cut_any _ _ (by omega) l3).mono ?_
  rintro e w3 ⟨a3, c3, rfl, hat3, hb3, hcap3⟩
  have HA3 := Lib.hid hat3
  have HA23 := Lib.hid (HA2.out.below hb3)
  clear hat3
  rw [F'.len] at hcap3 ⊢
  have hbl : Below w.heap.size w w3 := (hb1.trans (hb2.mono hb1.size)).trans (hb3.mono (by have := hb1.size; have := hb2.size; omega))
  by_cases h64 : 64 < hi
  · have hf := Lib.hid (fit_big hi h64)
    go_wp2_with fail
    refine (fit_any _ _).mono ?_
    rintro e w4 ⟨rfl, rfl⟩
    rw [hf.out]
    go_wp2_with fail
    refine (room_len _ (cutC lo) (k + 1) c2 _ F.len (by omega) HA23.out).mono ?_
    rintro e w5 ⟨rfl, rfl⟩
    rw [F.room]
    go_wp2_with fail
    refine (room_len _ (cutC hi) (k' + 1) c3 _ F'.len (by omega) HA3.out).mono ?_
    rintro e w5 ⟨rfl, rfl⟩
    rw [F'.room]
    go_wp2_with fail
    go_ret
    exact ⟨rfl, hbl⟩
  · have hf := fit_mono lo hi l1 l2 (by omega)
    have hne : (fitC (hi : Int) == -1) = false := by rw [beq_eq_false_iff_ne]; omega
    have hle : decide (fitC (lo : Int) ≤ fitC (hi : Int)) = true := decide_eq_true hf.1
    go_wp2_with fail
    refine (fit_any _ _).mono ?_
    rintro e w4 ⟨rfl, rfl⟩
    go_wp2_with fail
    refine (fit_any _ _).mono ?_
    rintro e w4 ⟨rfl, rfl⟩
    go_wp2_with fail
    refine (fit_any _ _).mono ?_
    rintro e w4 ⟨rfl, rfl⟩
    go_wp2_with fail
    refine (room_len _ (cutC lo) (k + 1) c2 _ F.len (by omega) HA23.out).mono ?_
    rintro e w5 ⟨rfl, rfl⟩
    rw [F.room]
    go_wp2_with fail
    refine (room_len _ (cutC hi) (k' + 1) c3 _ F'.len (by omega) HA3.out).mono ?_
    rintro e w5 ⟨rfl, rfl⟩
    rw [F'.room]
    go_wp2_with fail
    go_ret
    exact ⟨rfl, hbl⟩
set_option maxHeartbeats 1600000 in
theorem rises_eq (a : Int) (w : World) (ha : 0 ≤ a) (ha2 : a < 65536) : Calls Try.prog 6 #[.int .u16 a, .int .u16 a] w fun e w' => e = .returned (.bool true) ∧ Below w.heap.size w w' := by
  obtain ⟨lo, hlo, l1, l3⟩ : ∃ lo : Nat, 1 + a % 4096 = lo ∧ 1 ≤ lo ∧ lo ≤ 4096 := ⟨(1 + a % 4096).toNat, by omega, by omega, by omega⟩
  have l2 : lo ≤ lo := Nat.le_refl _
  go_enter Try.func6, Try.ntmps6
  go_wp2_with fail
  refine (awake_any _).mono ?_
  rintro e w1 ⟨rfl, hb1⟩
  obtain ⟨k, r, k', r', F, F', hk, hk', hkk, hroom⟩ := rises_tail lo lo l1 l2 l3
  have e1 : decide (64 * (k : Int) + bytesC (fitC r) ≤ 64 * (k' : Int) + bytesC (fitC r')) = true := by simpa using hroom
  have e2 : decide ((k : Int) + 1 ≤ (k' : Int) + 1 + 1) = true := by simp; omega
  go_wp2_with fail
  refine (cut_any _ _ l1 (by omega)).mono ?_
  rintro e w2 ⟨a2, c2, rfl, hat2, hb2, hcap⟩
  have HA2 := Lib.hid hat2
  clear hat2
  rw [F.len] at hcap ⊢
  go_wp2_with fail
  refine (cut_any _ _ (by omega) l3).mono ?_
  rintro e w3 ⟨a3, c3, rfl, hat3, hb3, hcap3⟩
  have HA3 := Lib.hid hat3
  have HA23 := Lib.hid (HA2.out.below hb3)
  clear hat3
  rw [F'.len] at hcap3 ⊢
  have hbl : Below w.heap.size w w3 := (hb1.trans (hb2.mono hb1.size)).trans (hb3.mono (by have := hb1.size; have := hb2.size; omega))
  by_cases h64 : 64 < lo
  · have hf := Lib.hid (fit_big lo h64)
    go_wp2_with fail
    refine (fit_any _ _).mono ?_
    rintro e w4 ⟨rfl, rfl⟩
    rw [hf.out]
    go_wp2_with fail
    refine (room_len _ (cutC lo) (k + 1) c2 _ F.len (by omega) HA23.out).mono ?_
    rintro e w5 ⟨rfl, rfl⟩
    rw [F.room]
    go_wp2_with fail
    refine (room_len _ (cutC lo) (k' + 1) c3 _ F'.len (by omega) HA3.out).mono ?_
    rintro e w5 ⟨rfl, rfl⟩
    rw [F'.room]
    go_wp2_with fail
    go_ret
    exact ⟨rfl, hbl⟩
  · have hf := fit_mono lo lo l1 l2 (by omega)
    have hne : (fitC (lo : Int) == -1) = false := by rw [beq_eq_false_iff_ne]; omega
    have hle : decide (fitC (lo : Int) ≤ fitC (lo : Int)) = true := decide_eq_true hf.1
    go_wp2_with fail
    refine (fit_any _ _).mono ?_
    rintro e w4 ⟨rfl, rfl⟩
    go_wp2_with fail
    refine (fit_any _ _).mono ?_
    rintro e w4 ⟨rfl, rfl⟩
    go_wp2_with fail
    refine (fit_any _ _).mono ?_
    rintro e w4 ⟨rfl, rfl⟩
    go_wp2_with fail
    refine (room_len _ (cutC lo) (k + 1) c2 _ F.len (by omega) HA23.out).mono ?_
    rintro e w5 ⟨rfl, rfl⟩
    rw [F.room]
    go_wp2_with fail
    refine (room_len _ (cutC lo) (k' + 1) c3 _ F'.len (by omega) HA3.out).mono ?_
    rintro e w5 ⟨rfl, rfl⟩
    rw [F'.room]
    go_wp2_with fail
    go_ret
    exact ⟨rfl, hbl⟩
theorem rises_walk (a b : Int) (w : World) (ha : 0 ≤ a) (ha2 : a < 65536) (hb : 0 ≤ b) (hb2 : b < 65536) : Calls Try.prog 6 #[.int .u16 a, .int .u16 b] w fun e w' => e = .returned (.bool true) ∧ Below w.heap.size w w' := by
  rcases Int.lt_trichotomy a b with h | h | h
  · exact rises_lt a b w ha ha2 hb hb2 h
  · subst h; exact rises_eq a w ha ha2
  · exact rises_gt a b w ha ha2 hb hb2 h
end Go.Proofs.Ythhhdgomhlmlmaa
