/- The head of all statements: awake. -/
import Derived.Test.YtogakapokgddiaaW3
namespace Go.Proofs.Ytogakapokgddiaa
open Go.RowKit

theorem strRow3 (w : World) (a b c : ByteArray) : StrRow (w.alloc (.cells #[.string a, .string b, .string c] 9)) w.heap.size [a, b, c] := by
  intro i hi
  match i, hi with
  | 0, _ => simp
  | 1, _ => simp
  | 2, _ => simp
theorem strRow1 (w : World) (a : ByteArray) : StrRow (w.alloc (.cells #[.string a] 9)) w.heap.size [a] := by
  intro i hi
  match i, hi with
  | 0, _ => simp
theorem seal_size (l : List UInt8) : (txt (Plain.sealW l)).size = l.length + 8 := by rw [txt_size, Plain.sealW_length]
theorem openS_seal (l : List UInt8) : txt (openS (txt (Plain.sealW l)).data.toList) = ⟨l.toArray⟩ := by
  rw [txt_data]
  unfold openS
  rw [Plain.openB_seal, Plain.midW_seal, if_pos rfl]; rfl
theorem openS_seal' (s : ByteArray) : txt (openS (txt (Plain.sealW s.data.toList)).data.toList) = s := openS_seal s.data.toList
theorem openB_seal' (l : List UInt8) : Plain.openB (txt (Plain.sealW l)).data.toList = true := Plain.openB_seal l
theorem aw_1 : txt (openS (ByteArray.mk #[97, 98, 99, 100, 101, 102, 103, 104, 105]).data.toList) = txt [] := congrArg txt (by decide +kernel)
theorem aw_2 : Plain.openB (ByteArray.mk #[97, 98, 99, 100, 101, 102, 103, 104, 105]).data.toList = false := by decide +kernel
theorem aw_3 : txt (openS (ByteArray.mk #[]).data.toList) = txt [] := congrArg txt (by decide +kernel)
theorem aw_4 : Plain.openB (ByteArray.mk #[]).data.toList = false := by decide +kernel
theorem aw_5 : ofI 0 (allOf [⟨#[49, 50, 51, 52]⟩, ⟨#[]⟩, ⟨#[53, 54, 55, 56, 57]⟩]) = 806403967 := by decide +kernel
theorem aw_6 : txt (Plain.bytesW (wordI 16909060)) = ⟨#[1, 2, 3, 4]⟩ := congrArg txt (show _ = [1, 2, 3, 4] by decide +kernel)
theorem aw_7 : txt (Plain.sealW (ByteArray.mk #[]).data.toList) = ⟨#[0, 0, 0, 0, 0, 0, 0, 0]⟩ := congrArg txt (show _ = [0, 0, 0, 0, 0, 0, 0, 0] by decide +kernel)
set_option maxHeartbeats 400000 in
theorem awake_any (w : World) : Calls Try.prog 9 #[] w fun e w' => e = .returned (.bool true) ∧ Below w.heap.size w w' := by
  go_enter Try.func9, Try.ntmps9
  go_wp2_with fail
  refine (seal_any _ _ (by decide)).mono ?_
  rintro e w1 ⟨rfl, hb1⟩
  go_wp2_with fail
  refine (open_any _ _ (by rw [seal_size]; decide)).mono ?_
  rintro e w2 ⟨rfl, hb2⟩
  rw [openS_seal, openB_seal']
  go_wp2_with fail
  refine (open_any _ _ (by decide)).mono ?_
  rintro e w3 ⟨rfl, hb3⟩
  rw [aw_1, aw_2]
  go_wp2_with fail
  refine (open_any _ _ (by decide)).mono ?_
  rintro e w4 ⟨rfl, hb4⟩
  rw [aw_3, aw_4]
  go_wp2_with fail
  refine (of_any _ [⟨#[49, 50, 51, 52]⟩, ⟨#[]⟩, ⟨#[53, 54, 55, 56, 57]⟩] _ (by decide) (by decide) (by simp) (strRow3 _ _ _ _)).mono ?_
  rintro e w5 ⟨rfl, hb5⟩
  rw [aw_5]
  go_wp2_with fail
  refine (of_nil _).mono ?_
  rintro e w6 ⟨rfl, rfl⟩
  go_wp2_with fail
  refine (bytes_any _ _ (by decide) (by decide)).mono ?_
  rintro e w6 ⟨rfl, hb6⟩
  rw [aw_6]
  go_wp2_with fail
  refine (seal_any _ _ (by decide)).mono ?_
  rintro e w7 ⟨rfl, hb7⟩
  rw [aw_7]
  go_wp2_with fail
  go_ret
  have := hb1.size; have := hb2.size; have := hb3.size; have := hb4.size
  have h5 := hb5.size; have := hb6.size; have := hb7.size
  simp at h5
  refine ⟨rfl, ?_⟩
  exact hb1.trans <| (hb2.mono (by omega)).trans <| (hb3.mono (by omega)).trans <| (hb4.mono (by omega)).trans <| ((Below.refl _ _).alloc (by omega) _).trans <| (hb5.mono (by simp; omega)).trans <| (hb6.mono (by omega)).trans (hb7.mono (by omega))
end Go.Proofs.Ytogakapokgddiaa
