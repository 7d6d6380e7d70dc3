/- The contracts of the document's answer for layer 6. -/
import Derived.Test.YtogakapokgddiaaW4
namespace Go.Proofs.Ytogakapokgddiaa
open Go.RowKit

theorem ret_sb {a b : ByteArray} {c d : Bool} (h : a = b) (h2 : c = d) : Ending.returned (.tuple #[.string a, .bool c]) = .returned (.tuple #[.string b, .bool d]) := by rw [h, h2]
theorem rstep_hi (n : Int) (h0 : 0 ≤ n) (h1 : n < 4294967296) (h : 2147483648 ≤ n) : (bits BinOp.and IntKind.u32 n 2147483648 != 0) = true := by
  obtain ⟨N, rfl⟩ := Int.eq_ofNat_of_zero_le h0
  rw [show bits BinOp.and IntKind.u32 (N : Int) 2147483648 = ((N &&& 2147483648 : Nat) : Int) from u32_and_nat N 2147483648 (by omega) (by omega)]
  have := nat_bit 31 N
  have e : N / 2 ^ 31 % 2 = 1 := by omega
  rw [e] at this
  rw [show (2147483648 : Nat) = 2 ^ 31 by decide, this]
  decide
theorem rstep_lo (n : Int) (h0 : 0 ≤ n) (h1 : n < 4294967296) (h : ¬ 2147483648 ≤ n) : (bits BinOp.and IntKind.u32 n 2147483648 != 0) = false := by
  obtain ⟨N, rfl⟩ := Int.eq_ofNat_of_zero_le h0
  rw [show bits BinOp.and IntKind.u32 (N : Int) 2147483648 = ((N &&& 2147483648 : Nat) : Int) from u32_and_nat N 2147483648 (by omega) (by omega)]
  have := nat_bit 31 N
  have e : N / 2 ^ 31 % 2 = 0 := by omega
  rw [e] at this
  rw [show (2147483648 : Nat) = 2 ^ 31 by decide, this]
  decide
set_option maxHeartbeats 400000 in
theorem rstep_any (n : Int) (w : World) (h0 : 0 ≤ n) (h1 : n < 4294967296) :
    Calls Try.prog 19 #[.int .u32 n] w fun e w' => e = .returned (.int .u32 (stepI n)) ∧ w = w' := by
  by_cases h : 2147483648 ≤ n
  · have H := Lib.hid (step_hi n h0 h1 (rstep_hi n h0 h1 h))
    go_enter Try.func19, Try.ntmps19
    go_wp2
    go_ret
    exact ⟨ret_int (by rw [← H.out, Int.mul_comm]), rfl⟩
  · have H := Lib.hid (step_lo n h0 h1 (rstep_lo n h0 h1 h))
    go_enter Try.func19, Try.ntmps19
    go_wp2
    go_ret
    exact ⟨ret_int (by rw [← H.out]; omega), rfl⟩

set_option maxHeartbeats 400000 in
theorem rof_any (s : ByteArray) (w : World) (hs : s.size ≤ 100000) :
    Calls Try.prog 13 #[.string s] w fun e w' => e = .returned (.int .u32 (ofI 0 s.data.toList)) ∧ w = w' := by
  go_enter Try.func13, Try.ntmps13
  go_wp2_with fail
  go_loop [3, 4, 5] (fun n i _ => ∃ m : Nat, m ≤ s.size ∧ i = .int .i64 m ∧ n = .int .u32 (ofI 0 (s.data.toList.take m))) (fun _ i _ => s.size - (intOf i).toNat)
  case atStart => exact ⟨0, Nat.zero_le _, rfl, by simp [ofI, Plain.crc, wordI]⟩
  case round =>
    obtain ⟨m, hm, rfl, rfl⟩ := hrel
    by_cases hlt : m < s.size
    · have HT := Lib.hid (take_snoc s m hlt)
      obtain ⟨X, hX⟩ : ∃ X, X = bits BinOp.xor IntKind.u32 (ofI 0 (s.data.toList.take m)) ((s[m].toNat : Int) % 4294967296 * 16777216 % 4294967296) := ⟨_, rfl⟩
      obtain ⟨x0, x1, x8⟩ := ofI_snoc 0 (s.data.toList.take m) s[m] X hX
      rw [← HT.out] at x8
      have H8 := Lib.hid x8
      have HX := Lib.hid hX
      clear x8 hX
      go_wp2_with fail
      rw [← HX.out]
      go_loop [3, 5] (fun n i => ∃ j : Nat, j ≤ 8 ∧ i = .int .i64 j ∧ n = .int .u32 (iterI j X)) (fun _ i => 8 - (intOf i).toNat)
      case atStart => exact ⟨0, Nat.zero_le _, rfl, rfl⟩
      case round =>
        obtain ⟨j, hj, rfl, rfl⟩ := hrel
        by_cases hj8 : j < 8
        · have hb := iterI_bd j X x0 x1
          go_wp2_with fail
          refine (rstep_any _ _ hb.1 hb.2).mono ?_
          rintro e w' ⟨rfl, rfl⟩
          go_wp2_with fail
          go_round
          case rel => exact ⟨j + 1, by omega, by go_num, rfl⟩
          case measure => simp [intOf]; omega
        · have hj8 : j = 8 := by omega
          subst hj8
          go_wp2_with fail
          go_round
          case rel => exact ⟨m + 1, by omega, by go_num, by rw [H8.out]⟩
          case measure => simp [intOf]; omega
    · have HK := Lib.hid (show s.data.toList.take m = s.data.toList from List.take_of_length_le (by simp; omega))
      go_wp2_with fail
      go_ret
      exact ⟨ret_int (by rw [HK.out]), rfl⟩

set_option maxHeartbeats 400000 in
theorem rseal_any (s : ByteArray) (w : World) (hs : s.size ≤ 5000) :
    Calls Try.prog 17 #[.string s] w fun e w' => e = .returned (.string (txt (Plain.sealW s.data.toList))) ∧ Below w.heap.size w w' := by
  obtain ⟨B, hB⟩ : ∃ B, B = txt (Plain.bytesW (wordI (s.size : Int))) := ⟨_, rfl⟩
  have hBz : B.size ≤ 4 := by rw [hB, txt_size]; exact Nat.le_refl _
  have HB := Lib.hid hB
  clear hB
  go_enter Try.func17, Try.ntmps17
  go_wp2_with fail
  refine (rbytes_any _ _ (by omega) (by omega)).mono ?_
  rintro e w1 ⟨rfl, hb1⟩
  rw [← HB.out]
  go_wp2_with fail
  refine (rof_any (B ++ s) _ (by simp; omega)).mono ?_
  rintro e w2 ⟨rfl, rfl⟩
  rw [show (B ++ s).data.toList = B.data.toList ++ s.data.toList from by simp]
  have hbd := ofI_bd 0 (B.data.toList ++ s.data.toList)
  go_wp2_with fail
  refine (rbytes_any _ _ hbd.1 hbd.2).mono ?_
  rintro e w3 ⟨rfl, hb3⟩
  have hz : (txt (Plain.bytesW (wordI (ofI 0 (B.data.toList ++ s.data.toList))))).size ≤ 4 := by rw [txt_size]; exact Nat.le_refl _
  have hz2 : (B ++ s).size ≤ 5004 := by simp; omega
  go_wp2_with fail
  go_ret
  refine ⟨ret_str ?_, ?_⟩
  · rw [HB.out, ← txt_list s, txt_append, txt_data, txt_data, txt_append, ofI_word, txt_list, len_word]
    rfl
  · exact hb1.trans (hb3.mono hb1.size)
set_option maxHeartbeats 400000 in
theorem ropen_any (s : ByteArray) (w : World) (hs : s.size ≤ 5000) :
    Calls Try.prog 11 #[.string s] w fun e w' => e = .returned (.tuple #[.string (txt (openS s.data.toList)), .bool (Plain.openB s.data.toList)]) ∧ Below w.heap.size w w' := by
  by_cases h8 : s.size < 8
  · have H1 : Hid (Plain.openB s.data.toList = false) := by
      show _ = _
      unfold Plain.openB
      rw [decide_eq_false (by simp; omega)]; rfl
    have h8' : decide ((s.size : Int) < 8) = true := by simp; omega
    go_enter Try.func11, Try.ntmps11
    go_wp2_with fail
    go_ret2
    refine ⟨?_, Below.refl _ _⟩
    unfold openS
    rw [H1.out]; rfl
  · have hm := ext_mid s (by omega)
    have hmz : (txt (Plain.midW s.data.toList)).size ≤ 5000 := by rw [← hm]; simp; omega
    have HM := Lib.hid hm
    have h8' : decide ((s.size : Int) < 8) = false := by simp; omega
    clear hm
    by_cases ho : Plain.sealW (Plain.midW s.data.toList) = s.data.toList
    · have H1 : Hid (Plain.openB s.data.toList = true) := by
        show _ = _
        unfold Plain.openB
        rw [decide_eq_true (by simp; omega), decide_eq_true ho]; rfl
      have h2 : ((txt (Plain.sealW (Plain.midW s.data.toList))).toList == s.toList) = true := by rw [eqS, decide_eq_true ho]
      clear ho
      go_enter Try.func11, Try.ntmps11
      go_wp2_with fail
      rw [HM.out]
      refine (rseal_any _ _ hmz).mono ?_
      rintro e w1 ⟨rfl, hb1⟩
      rw [txt_data]
      go_wp2_with fail
      go_ret2
      refine ⟨ret_sb ?_ H1.out.symm, hb1⟩
      unfold openS
      rw [H1.out, if_pos rfl]
      exact HM.out
    · have H1 : Hid (Plain.openB s.data.toList = false) := by
        show _ = _
        unfold Plain.openB
        rw [decide_eq_false ho]; simp
      have h2 : ((txt (Plain.sealW (Plain.midW s.data.toList))).toList == s.toList) = false := by rw [eqS, decide_eq_false ho]
      clear ho
      go_enter Try.func11, Try.ntmps11
      go_wp2_with fail
      rw [HM.out]
      refine (rseal_any _ _ hmz).mono ?_
      rintro e w1 ⟨rfl, hb1⟩
      rw [txt_data]
      go_wp2_with fail
      go_ret2
      refine ⟨?_, hb1⟩
      unfold openS
      rw [H1.out]; rfl
end Go.Proofs.Ytogakapokgddiaa
