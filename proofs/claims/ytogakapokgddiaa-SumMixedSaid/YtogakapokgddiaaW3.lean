/- The contracts of sum.Bytes, sum.Seal, sum.Open. -/
import Derived.Test.YtogakapokgddiaaW2
import Derived.Laws.BytesArg
namespace Go.Proofs.Ytogakapokgddiaa
open Go.RowKit

/-- A text, as a value. -/
def txt (l : List UInt8) : ByteArray := ⟨l.toArray⟩
theorem conv4 (w : World) (a b c d : Int) : (convert 34 9 (.slice (some ⟨w.heap.size, 0, none⟩) 4 4)).run Try.prog (w.alloc (.cells #[.int .u8 a, .int .u8 b, .int .u8 c, .int .u8 d] 5)) = .ok (.string (strOfNums [a, b, c, d])) (w.alloc (.cells #[.int .u8 a, .int .u8 b, .int .u8 c, .int .u8 d] 5)) := by
  refine run_convert_bytes_arg _ 34 5 Try.underlying34 Try.underlying5 w.heap.size 0 4 4 [a, b, c, d] rfl ?_ 9 Try.underlying9
  intro i hi
  match i, hi with
  | 0, _ => simp
  | 1, _ => simp
  | 2, _ => simp
  | 3, _ => simp
theorem u8_of (c : UInt8) : UInt8.ofNat c.toNat = c := by simp
theorem bytes_nums (n : Int) (h0 : 0 ≤ n) (h1 : n < 4294967296) : strOfNums [n / 16777216, n / 65536 % 256, n / 256 % 256, n % 256] = txt (Plain.bytesW (wordI n)) := by
  have hn := wordI_toNat n h0 h1
  generalize wordI n = x at hn ⊢
  subst hn
  have hx := x.isLt
  have e : ∀ (k : Nat) (m : Int), m = ((x.toNat / 2 ^ k % 256 : Nat) : Int) → UInt8.ofNat m.toNat = (⟨x.extractLsb' k 8⟩ : UInt8) := by
    intro k m hm
    subst hm
    apply UInt8.toNat_inj.1
    rw [Int.toNat_natCast]
    show _ = (x.extractLsb' k 8).toNat
    rw [BitVec.extractLsb'_toNat, Nat.shiftRight_eq_div_pow]
    simp
  unfold strOfNums txt Plain.bytesW
  simp only [List.map_cons, List.map_nil]
  rw [e 24 _ (by omega), e 16 _ (by omega), e 8 _ (by omega), e 0 _ (by omega)]
set_option maxHeartbeats 400000 in
theorem bytes_any (n : Int) (w : World) (h0 : 0 ≤ n) (h1 : n < 4294967296) :
    Calls Try.prog 14 #[.int .u32 n] w fun e w' => e = .returned (.string (txt (Plain.bytesW (wordI n)))) ∧ Below w.heap.size w w' := by
  have HB := Lib.hid (bytes_nums n h0 h1)
  have hcv := conv4 w
  go_enter Try.func14, Try.ntmps14
  go_wp2_with fail
  go_ret
  exact ⟨by rw [← HB.out]; rfl, (Below.refl _ _).alloc (Nat.le_refl _) _⟩
set_option maxHeartbeats 400000 in
theorem rbytes_any (n : Int) (w : World) (h0 : 0 ≤ n) (h1 : n < 4294967296) :
    Calls Try.prog 15 #[.int .u32 n] w fun e w' => e = .returned (.string (txt (Plain.bytesW (wordI n)))) ∧ Below w.heap.size w w' := by
  have HB := Lib.hid (bytes_nums n h0 h1)
  have hcv := conv4 w
  go_enter Try.func15, Try.ntmps15
  go_wp2_with fail
  go_ret
  exact ⟨by rw [← HB.out]; rfl, (Below.refl _ _).alloc (Nat.le_refl _) _⟩

theorem ret_str {a b : ByteArray} (h : a = b) : Ending.returned (.string a) = .returned (.string b) := by rw [h]
theorem txt_size (l : List UInt8) : (txt l).size = l.length := by simp [txt, ByteArray.size]
theorem txt_list (s : ByteArray) : txt s.data.toList = s := by simp [txt]
theorem txt_data (l : List UInt8) : (txt l).data.toList = l := rfl
theorem txt_append (a b : List UInt8) : txt a ++ txt b = txt (a ++ b) := ByteArray.mk_append_mk a b
theorem txt_inj {a b : List UInt8} : txt a = txt b ↔ a = b := by
  constructor
  · intro h; simpa [txt] using h
  · intro h; rw [h]
theorem len_word (s : ByteArray) : wordI (s.size : Int) = Plain.lenW s.data.toList := by
  unfold wordI Plain.lenW
  rw [BitVec.ofInt_natCast]
  simp
theorem ofI_word (s : List UInt8) : wordI (ofI 0 s) = Plain.ofW s := by
  unfold ofI
  rw [wordI_cast]; rfl
theorem strRow2 (w : World) (a b : ByteArray) : StrRow (w.alloc (.cells #[.string a, .string b] 9)) w.heap.size [a, b] := by
  intro i hi
  match i, hi with
  | 0, _ => simp
  | 1, _ => simp
set_option maxHeartbeats 400000 in
theorem seal_any (s : ByteArray) (w : World) (hs : s.size ≤ 5000) :
    Calls Try.prog 16 #[.string s] w fun e w' => e = .returned (.string (txt (Plain.sealW s.data.toList))) ∧ Below w.heap.size w w' := by
  obtain ⟨B, hB⟩ : ∃ B, B = txt (Plain.bytesW (wordI (s.size : Int))) := ⟨_, rfl⟩
  have hBz : B.size ≤ 4 := by rw [hB, txt_size]; exact Nat.le_refl _
  have HB := Lib.hid hB
  clear hB
  go_enter Try.func16, Try.ntmps16
  go_wp2_with fail
  refine (bytes_any _ _ (by omega) (by omega)).mono ?_
  rintro e w1 ⟨rfl, hb1⟩
  rw [← HB.out]
  go_wp2_with fail
  refine (of_any _ [B, s] _ (by simp) (by simp; omega) (by simp) (strRow2 _ _ _)).mono ?_
  rintro e w2 ⟨rfl, hb2⟩
  have hbd := ofI_bd 0 (allOf [B, s])
  go_wp2_with fail
  refine (bytes_any _ _ hbd.1 hbd.2).mono ?_
  rintro e w3 ⟨rfl, hb3⟩
  have hz : (txt (Plain.bytesW (wordI (ofI 0 (allOf [B, s]))))).size ≤ 4 := by rw [txt_size]; exact Nat.le_refl _
  have hz2 : (B ++ s).size ≤ 5004 := by simp; omega
  go_wp2_with fail
  go_ret
  refine ⟨ret_str ?_, ?_⟩
  · rw [HB.out, ← txt_list s, txt_append, txt_append, txt_data, ofI_word, txt_list, len_word]
    congr 1
    simp [Plain.sealW, Plain.headW, allOf, txt]
  · have := hb1.size
    have := hb2.size
    exact (hb1.trans ((((Below.refl _ _).alloc (Nat.le_refl _) _).trans (hb2.mono (by simp))).mono (by omega))).trans (hb3.mono (by simp at this ⊢; omega))

/-- What is opened. -/
def openS (l : List UInt8) : List UInt8 := if Plain.openB l then Plain.midW l else []
theorem ext_mid (s : ByteArray) (h : 8 ≤ s.size) : (s.extract 4 (s.size - 4)) = txt (Plain.midW s.data.toList) := by
  apply ByteArray.ext
  rw [ByteArray.data_extract]
  apply Array.toList_inj.1
  rw [Array.toList_extract, txt_data]
  unfold Plain.midW
  rw [List.extract_eq_take_drop]
  have e : s.size - 4 - 4 = s.data.toList.length - 8 := by simp; omega
  rw [e]
theorem eqS (a : List UInt8) (s : ByteArray) : ((txt a).toList == s.toList) = decide (a = s.data.toList) := by
  rw [ByteArray.toList_eq, ByteArray.toList_eq, txt_data]
  by_cases h : a = s.data.toList <;> simp [h]
set_option maxHeartbeats 400000 in
theorem open_any (s : ByteArray) (w : World) (hs : s.size ≤ 5000) :
    Calls Try.prog 10 #[.string s] w fun e w' => e = .returned (.tuple #[.string (txt (openS s.data.toList)), .bool (Plain.openB s.data.toList)]) ∧ Below w.heap.size w w' := by
  by_cases h8 : s.size < 8
  · have H1 : Hid (Plain.openB s.data.toList = false) := by
      show _ = _
      unfold Plain.openB
      rw [decide_eq_false (by simp; omega)]; rfl
    have h8' : decide ((s.size : Int) < 8) = true := by simp; omega
    go_enter Try.func10, Try.ntmps10
    go_wp2_with fail
    go_ret2
    refine ⟨?_, Below.refl _ _⟩
    unfold openS
    rw [H1.out]; rfl
  · have hm := ext_mid s (by omega)
    have hmz : (txt (Plain.midW s.data.toList)).size ≤ 5000 := by rw [← hm]; simp; omega
    have HM := Lib.hid hm
    have h8' : decide ((s.size : Int) < 8) = false := by simp; omega
    clear hm
    by_cases ho : Plain.sealW (Plain.midW s.data.toList) = s.data.toList
    · have H1 : Hid (Plain.openB s.data.toList = true) := by
        show _ = _
        unfold Plain.openB
        rw [decide_eq_true (by simp; omega), decide_eq_true ho]; rfl
      have h2 : ((txt (Plain.sealW (Plain.midW s.data.toList))).toList == s.toList) = true := by rw [eqS, decide_eq_true ho]
      clear ho
      go_enter Try.func10, Try.ntmps10
      go_wp2_with fail
      rw [HM.out]
      refine (seal_any _ _ hmz).mono ?_
      rintro e w1 ⟨rfl, hb1⟩
      rw [txt_data]
      go_wp2_with fail
      go_ret2
      refine ⟨?_, hb1⟩
      unfold openS
      rw [H1.out]; rfl
    · have H1 : Hid (Plain.openB s.data.toList = false) := by
        show _ = _
        unfold Plain.openB
        rw [decide_eq_false ho]; simp
      have h2 : ((txt (Plain.sealW (Plain.midW s.data.toList))).toList == s.toList) = false := by rw [eqS, decide_eq_false ho]
      clear ho
      go_enter Try.func10, Try.ntmps10
      go_wp2_with fail
      rw [HM.out]
      refine (seal_any _ _ hmz).mono ?_
      rintro e w1 ⟨rfl, hb1⟩
      rw [txt_data]
      go_wp2_with fail
      go_ret2
      refine ⟨?_, hb1⟩
      unfold openS
      rw [H1.out]; rfl
end Go.Proofs.Ytogakapokgddiaa
