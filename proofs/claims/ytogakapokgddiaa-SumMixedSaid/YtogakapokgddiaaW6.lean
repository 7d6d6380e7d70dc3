/- The walks of SumTells, SumParts, SumBack, SumCuts. -/
import Derived.Test.YtogakapokgddiaaW5
import Derived.Deep.OwnRows
namespace Go.Proofs.Ytogakapokgddiaa
open Go.RowKit

set_option maxHeartbeats 400000 in
theorem tells_walk (s : ByteArray) (n : Int) (w : World) (hs : s.size ≤ maxLen) (h0 : 0 ≤ n) (h1 : n < 4294967296) :
    Calls Try.prog 3 #[.string s, .int .u32 n] w fun e w' => e = .returned (.bool true) ∧ Below w.heap.size w w' := by
  unfold maxLen at hs
  go_enter Try.func3, Try.ntmps3
  go_wp2_with fail
  refine (awake_any _).mono ?_
  rintro e w1 ⟨rfl, hb1⟩
  by_cases hl : 1000 < s.size
  · go_wp2_with fail
    go_ret
    exact ⟨rfl, hb1⟩
  · go_wp2_with fail
    refine (open_any _ _ (by omega)).mono ?_
    rintro e w2 ⟨rfl, hb2⟩
    go_wp2_with fail
    refine (ropen_any _ _ (by omega)).mono ?_
    rintro e w3 ⟨rfl, hb3⟩
    go_wp2_with fail
    refine (of_any _ [s] _ (by simp) (by simp; omega) (by simp) (strRow1 _ _)).mono ?_
    rintro e w4 ⟨rfl, hb4⟩
    rw [show allOf [s] = s.data.toList from by simp [allOf]]
    go_wp2_with fail
    refine (rof_any _ _ (by omega)).mono ?_
    rintro e w5 ⟨rfl, rfl⟩
    go_wp2_with fail
    refine (bytes_any _ _ h0 h1).mono ?_
    rintro e w5 ⟨rfl, hb5⟩
    go_wp2_with fail
    refine (rbytes_any _ _ h0 h1).mono ?_
    rintro e w6 ⟨rfl, hb6⟩
    go_wp2_with fail
    refine (seal_any _ _ (by omega)).mono ?_
    rintro e w7 ⟨rfl, hb7⟩
    go_wp2_with fail
    refine (rseal_any _ _ (by omega)).mono ?_
    rintro e w8 ⟨rfl, hb8⟩
    go_wp2_with fail
    go_ret
    have := hb1.size; have := hb2.size; have := hb3.size
    have h4 := hb4.size; have := hb5.size; have := hb6.size; have := hb7.size
    simp at h4
    refine ⟨rfl, ?_⟩
    exact hb1.trans <| (hb2.mono (by omega)).trans <| (hb3.mono (by omega)).trans <| ((Below.refl _ _).alloc (by omega) _).trans <| (hb4.mono (by simp; omega)).trans <| (hb5.mono (by omega)).trans <| (hb6.mono (by omega)).trans <| (hb7.mono (by omega)).trans (hb8.mono (by omega))

set_option maxHeartbeats 400000 in
theorem parts_walk (a b c : ByteArray) (w : World) (hsa : a.size ≤ maxLen) (hsb : b.size ≤ maxLen) (hsc : c.size ≤ maxLen) :
    Calls Try.prog 4 #[.string a, .string b, .string c] w fun e w' => e = .returned (.bool true) ∧ Below w.heap.size w w' := by
  unfold maxLen at hsa hsb hsc
  go_enter Try.func4, Try.ntmps4
  go_wp2_with fail
  refine (awake_any _).mono ?_
  rintro e w1 ⟨rfl, hb1⟩
  by_cases ha : 300 < a.size
  · have da : decide ((300 : Int) < a.size) = true := by simp; omega
    go_wp2_with fail
    go_ret
    exact ⟨rfl, hb1⟩
  by_cases hb : 300 < b.size
  · have da : decide ((300 : Int) < a.size) = false := by simp; omega
    have db : decide ((300 : Int) < b.size) = true := by simp; omega
    go_wp2_with fail
    go_ret
    exact ⟨rfl, hb1⟩
  by_cases hc : 300 < c.size
  · have da : decide ((300 : Int) < a.size) = false := by simp; omega
    have db : decide ((300 : Int) < b.size) = false := by simp; omega
    have dc : decide ((300 : Int) < c.size) = true := by simp; omega
    go_wp2_with fail
    go_ret
    exact ⟨rfl, hb1⟩
  have da : decide ((300 : Int) < a.size) = false := by simp; omega
  have db : decide ((300 : Int) < b.size) = false := by simp; omega
  have dc : decide ((300 : Int) < c.size) = false := by simp; omega
  have zab : (a ++ b).size ≤ 600 := by simp; omega
  have zbc : (b ++ c).size ≤ 600 := by simp; omega
  have zabc : (a ++ b ++ c).size ≤ 900 := by simp; omega
  go_wp2_with fail
  refine (of_any _ [a, b, c] _ (by simp) (by simp; omega) (by simp) (strRow3 _ _ _ _)).mono ?_
  rintro e w2 ⟨rfl, hb2⟩
  rw [show allOf [a, b, c] = a.data.toList ++ b.data.toList ++ c.data.toList from by simp [allOf]]
  go_wp2_with fail
  refine (of_any _ [a ++ b ++ c] _ (by simp) (by simp; omega) (by simp) (strRow1 _ _)).mono ?_
  rintro e w3 ⟨rfl, hb3⟩
  rw [show allOf [a ++ b ++ c] = a.data.toList ++ b.data.toList ++ c.data.toList from by simp [allOf]]
  go_wp2_with fail
  refine (of_any _ [a ++ b, c] _ (by simp) (by simp; omega) (by simp) (strRow2 _ _ _)).mono ?_
  rintro e w4 ⟨rfl, hb4⟩
  rw [show allOf [a ++ b, c] = a.data.toList ++ b.data.toList ++ c.data.toList from by simp [allOf]]
  go_wp2_with fail
  refine (of_any _ [a, b ++ c] _ (by simp) (by simp; omega) (by simp) (strRow2 _ _ _)).mono ?_
  rintro e w5 ⟨rfl, hb5⟩
  rw [show allOf [a, b ++ c] = a.data.toList ++ b.data.toList ++ c.data.toList from by simp [allOf]]
  go_wp2_with fail
  go_ret
  have h1 := hb1.size; have h2 := hb2.size; have h3 := hb3.size
  have h4 := hb4.size; have h5 := hb5.size
  simp at h2 h3 h4 h5
  refine ⟨rfl, ?_⟩
  exact hb1.trans <| ((Below.refl _ _).alloc (by omega) _).trans <| (hb2.mono (by simp; omega)).trans <| ((Below.refl _ _).alloc (by omega) _).trans <| (hb3.mono (by simp; omega)).trans <| ((Below.refl _ _).alloc (by omega) _).trans <| (hb4.mono (by simp; omega)).trans <| ((Below.refl _ _).alloc (by omega) _).trans (hb5.mono (by simp; omega))

set_option maxHeartbeats 400000 in
theorem back_walk (s : ByteArray) (w : World) (hs : s.size ≤ maxLen) :
    Calls Try.prog 5 #[.string s] w fun e w' => e = .returned (.bool true) ∧ Below w.heap.size w w' := by
  unfold maxLen at hs
  go_enter Try.func5, Try.ntmps5
  go_wp2_with fail
  refine (awake_any _).mono ?_
  rintro e w1 ⟨rfl, hb1⟩
  by_cases hl : 1000 < s.size
  · go_wp2_with fail
    go_ret
    exact ⟨rfl, hb1⟩
  have hz : s.data.toList.length ≤ 1000 := by simp; omega
  go_wp2_with fail
  refine (seal_any _ _ (by omega)).mono ?_
  rintro e w2 ⟨rfl, hb2⟩
  go_wp2_with fail
  refine (open_any _ _ (by rw [seal_size]; omega)).mono ?_
  rintro e w3 ⟨rfl, hb3⟩
  rw [openS_seal', openB_seal']
  have hq : (txt (Plain.sealW s.data.toList)).size = s.size + 8 := by rw [seal_size]; simp
  by_cases ho : Plain.openB s.data.toList = true
  · have hy : Hid (txt (openS s.data.toList) = txt (Plain.midW s.data.toList)) := by
      show _ = _
      unfold openS; rw [if_pos ho]
    have hm : (txt (Plain.midW s.data.toList)).size ≤ 1000 := by rw [txt_size]; unfold Plain.midW; simp; omega
    have h2 : ((txt (Plain.sealW (Plain.midW s.data.toList))).toList == s.toList) = true := by
      rw [eqS, decide_eq_true]
      unfold Plain.openB at ho
      simp only [Bool.and_eq_true, decide_eq_true_eq] at ho
      exact ho.2
    have HO := Lib.hid ho
    clear ho
    go_wp2_with fail
    refine (open_any _ _ (by omega)).mono ?_
    rintro e w4 ⟨rfl, hb4⟩
    rw [HO.out, hy.out]
    go_wp2_with fail
    refine (seal_any _ _ (by omega)).mono ?_
    rintro e w5 ⟨rfl, hb5⟩
    go_wp2_with fail
    refine (seal_any _ _ (by omega)).mono ?_
    rintro e w6 ⟨rfl, hb6⟩
    rw [txt_data]
    go_wp2_with fail
    go_ret
    have := hb1.size; have := hb2.size; have := hb3.size; have := hb4.size; have := hb5.size
    exact ⟨rfl, hb1.trans <| (hb2.mono (by omega)).trans <| (hb3.mono (by omega)).trans <| (hb4.mono (by omega)).trans <| (hb5.mono (by omega)).trans (hb6.mono (by omega))⟩
  · have ho : Plain.openB s.data.toList = false := by simpa using ho
    have hy : Hid (txt (openS s.data.toList) = ⟨#[]⟩) := by
      show _ = _
      unfold openS; rw [ho]; rfl
    have HO := Lib.hid ho
    clear ho
    go_wp2_with fail
    refine (open_any _ _ (by omega)).mono ?_
    rintro e w4 ⟨rfl, hb4⟩
    rw [HO.out, hy.out]
    go_wp2_with fail
    refine (seal_any _ _ (by omega)).mono ?_
    rintro e w5 ⟨rfl, hb5⟩
    go_wp2_with fail
    go_ret
    have := hb1.size; have := hb2.size; have := hb3.size; have := hb4.size; have := hb5.size
    exact ⟨rfl, hb1.trans <| (hb2.mono (by omega)).trans <| (hb3.mono (by omega)).trans <| (hb4.mono (by omega)).trans (hb5.mono (by omega))⟩

/-- The place of a cut. -/
theorem cut_lt (k : Int) (n : Nat) (hn : 0 < n) : ∃ j : Nat, k % (n : Int) = j ∧ j < n := by
  have h1 := Int.emod_nonneg k (show (n : Int) ≠ 0 by omega)
  have h2 := Int.emod_lt_of_pos k (show (0 : Int) < n by omega)
  exact ⟨(k % (n : Int)).toNat, by omega, by omega⟩
theorem ext_take (l : List UInt8) (k : Nat) : (txt l).extract 0 k = txt (l.take k) := by
  apply ByteArray.ext
  rw [ByteArray.data_extract]
  apply Array.toList_inj.1
  rw [Array.toList_extract, List.extract_eq_take_drop]
  simp [txt]
theorem info5 : (Try.prog.info? 5).map (fun i => (i.zero, i.size, i.bytes)) = some (some (.int .u8 0), 1, 1) := by kernel_rfl
def zeros (m : Nat) : List UInt8 := List.replicate m 0
theorem make_zeros (m : Nat) (h : m ≤ 1000) (w : World) : (Instr.makeSlice 34 (.int .i64 (1 + (m : Int))) (.int .i64 (1 + (m : Int)))).run Try.prog w = .ok (.slice (some ⟨w.heap.size, 0, none⟩) (1 + m) (1 + m)) (w.alloc (.cells (madeCells #[.int .u8 0] (1 + m)) 5)) := by
  have := run_make_row' (P := Try.prog) 34 5 (.int .u8 0) 1 Try.underlying34 info5 rfl .i64 .i64 (1 + m) (by omega) (by omega) w
  rw [show ((1 + m : Nat) : Int) = 1 + (m : Int) by omega] at this
  exact this
theorem conv_zeros (m : Nat) (w : World) : (convert 34 9 (.slice (some ⟨w.heap.size, 0, none⟩) (1 + m) (1 + m))).run Try.prog (w.alloc (.cells (madeCells #[.int .u8 0] (1 + m)) 5)) = .ok (.string (txt (zeros (1 + m)))) (w.alloc (.cells (madeCells #[.int .u8 0] (1 + m)) 5)) := by
  have := run_convert_bytes_arg (P := Try.prog) (w.alloc (.cells (madeCells #[.int .u8 0] (1 + m)) 5)) 34 5 Try.underlying34 Try.underlying5 w.heap.size 0 (1 + m) (1 + m) (List.replicate (1 + m) 0) (by simp) (fun i hi => by
    rw [Nat.zero_add, (World.rowIs_made w (.int .u8 0) (1 + m) 5).cell hi]
    simp [hi]) 9 Try.underlying9
  rw [this]
  congr 2
  simp [strOfNums, txt, zeros]
set_option maxHeartbeats 400000 in
theorem cuts_walk (s : ByteArray) (cut : Int) (m : Nat) (w : World) (hs : s.size ≤ maxLen) (c0 : 0 ≤ cut) (c1 : cut < 65536) (m1 : m < 256) :
    Calls Try.prog 8 #[.string s, .int .u16 cut, .int .u8 m] w fun e w' => e = .returned (.bool true) ∧ Below w.heap.size w w' := by
  unfold maxLen at hs
  go_enter Try.func8, Try.ntmps8
  go_wp2_with fail
  refine (awake_any _).mono ?_
  rintro e w1 ⟨rfl, hb1⟩
  by_cases hl : 1000 < s.size
  · go_wp2_with fail
    go_ret
    exact ⟨rfl, hb1⟩
  have hz : s.data.toList.length ≤ 1000 := by simp; omega
  go_wp2_with fail
  refine (seal_any _ _ (by omega)).mono ?_
  rintro e w2 ⟨rfl, hb2⟩
  have hne : (txt (Plain.sealW s.data.toList)).toList.isEmpty = false := by
    rw [ByteArray.toList_eq, txt_data]
    have := Plain.sealW_length s.data.toList
    cases h : Plain.sealW s.data.toList with
    | nil => rw [h] at this; simp at this
    | cons _ _ => rfl
  have hlo : 8 ≤ (txt (Plain.sealW s.data.toList)).size := by rw [seal_size]; omega
  have hhi : (txt (Plain.sealW s.data.toList)).size ≤ 1008 := by rw [seal_size]; omega
  obtain ⟨k, hk, hk2⟩ := cut_lt cut (txt (Plain.sealW s.data.toList)).size (by omega)
  go_wp2_with fail
  rw [ext_take]
  refine (open_any _ _ (by rw [txt_size, List.length_take, Plain.sealW_length]; omega)).mono ?_
  rintro e w3 ⟨rfl, hb3⟩
  rw [txt_data, Plain.cut_short _ hz k (by rw [← txt_size]; exact hk2)]
  have hmk := make_zeros m (by omega)
  have hcv := conv_zeros m
  have hzz : (txt (zeros (1 + m))).size ≤ 256 := by rw [txt_size, zeros, List.length_replicate]; omega
  go_wp2_with fail
  rw [txt_append]
  refine (open_any _ _ (by rw [txt_size, List.length_append, Plain.sealW_length, zeros, List.length_replicate]; omega)).mono ?_
  rintro e w4 ⟨rfl, hb4⟩
  rw [txt_data, Plain.cut_long _ _ hz (by rw [zeros, List.length_replicate]; omega) (by rw [zeros, List.length_replicate]; omega)]
  go_wp2_with fail
  go_ret
  have := hb1.size; have := hb2.size; have := hb3.size; have h4 := hb4.size
  simp at h4
  exact ⟨rfl, hb1.trans <| (hb2.mono (by omega)).trans <| (hb3.mono (by omega)).trans <| ((Below.refl _ _).alloc (by omega) _).trans (hb4.mono (by simp; omega))⟩
end Go.Proofs.Ytogakapokgddiaa
