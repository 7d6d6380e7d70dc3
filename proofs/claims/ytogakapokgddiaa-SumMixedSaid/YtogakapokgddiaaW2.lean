/- The contract of sum.Of. -/
import Derived.Test.YtogakapokgddiaaW1
import Derived.LoopN
namespace Go.Proofs.Ytogakapokgddiaa
open Go.RowKit

/-- The block at the head of which a slice of strings lies: its cells. -/
def StrRow (w : World) (b : Nat) (l : List ByteArray) : Prop := ∀ i, i < l.length → w.cell? ⟨b, i, none⟩ = some (.string (l.getD i ByteArray.empty))
def ofI (a : Int) (s : List UInt8) : Int := ((Plain.crc (wordI a) s).toNat : Int)
def allOf (l : List ByteArray) : List UInt8 := l.flatMap fun s => s.data.toList

theorem ofI_bd (a : Int) (s : List UInt8) : 0 ≤ ofI a s ∧ ofI a s < 4294967296 := by
  unfold ofI
  have := (Plain.crc (wordI a) s).isLt
  omega
theorem iterI_wrap (k : Nat) (a : Int) (h0 : 0 ≤ a) (h1 : a < 4294967296) : wordI (iterI k a) = Plain.iter k (wordI a) := by
  rw [iterI_iter k a h0 h1, wordI_cast]
theorem lift8_toNat (c : UInt8) : (Plain.lift8 c).toNat = c.toNat * 16777216 := by
  have hc := c.toNat_lt
  unfold Plain.lift8
  rw [BitVec.toNat_shiftLeft, BitVec.toNat_setWidth, UInt8.toNat_toBitVec, Nat.shiftLeft_eq]
  rw [Nat.mod_eq_of_lt (Nat.lt_of_lt_of_le hc (by decide)), Nat.mod_eq_of_lt (by omega)]
theorem xor_lift (n : BitVec 32) (c : UInt8) : bits BinOp.xor IntKind.u32 (n.toNat : Int) ((c.toNat : Int) * 16777216 % 4294967296) = ((n ^^^ Plain.lift8 c).toNat : Int) := by
  have hc := c.toNat_lt
  have hb := n.isLt
  have e1 := u32_xor_nat n.toNat (c.toNat * 16777216) hb (by omega)
  have e2 : ((c.toNat : Int) * 16777216 % 4294967296) = ((c.toNat * 16777216 : Nat) : Int) := by omega
  rw [e2, e1, BitVec.toNat_xor, lift8_toNat]
/-- One byte more. -/
theorem ofI_snoc (a : Int) (s : List UInt8) (c : UInt8) (x : Int) (hx : x = bits BinOp.xor IntKind.u32 (ofI a s) ((c.toNat : Int) % 4294967296 * 16777216 % 4294967296)) : 0 ≤ x ∧ x < 4294967296 ∧ iterI 8 x = ofI a (s ++ [c]) := by
  rw [show (c.toNat : Int) % 4294967296 = (c.toNat : Int) by have := c.toNat_lt; omega] at hx
  unfold ofI at hx ⊢
  rw [Plain.crc_append]
  generalize Plain.crc (wordI a) s = n at hx ⊢
  rw [xor_lift] at hx
  have hlt := (n ^^^ Plain.lift8 c).isLt
  have h0 : 0 ≤ x := by omega
  have h1 : x < 4294967296 := by omega
  refine ⟨h0, h1, ?_⟩
  rw [iterI_iter 8 x h0 h1, hx, wordI_cast]
  rfl
theorem allOf_snoc (l : List ByteArray) (k : Nat) (h : k < l.length) (s : ByteArray) (hs : s = l.getD k ByteArray.empty) : allOf (l.take (k + 1)) = allOf (l.take k) ++ s.data.toList := by
  subst hs
  unfold allOf
  rw [List.take_succ_eq_append_getElem h, List.flatMap_append, List.getD_eq_getElem?_getD, List.getElem?_eq_getElem h]
  simp
theorem take_snoc (s : ByteArray) (k : Nat) (h : k < s.size) : s.data.toList.take (k + 1) = s.data.toList.take k ++ [s[k]] := by
  rw [List.take_succ_eq_append_getElem (by simpa using h)]; rfl

set_option maxHeartbeats 400000 in
theorem of_any (b : Nat) (l : List ByteArray) (w : World) (hl : l.length ≤ 1000) (hs : ∀ s ∈ l, s.size ≤ 100000) (hb : b < w.heap.size) (hc : StrRow w b l) :
    Calls Try.prog 12 #[.slice (some ⟨b, 0, none⟩) l.length l.length] w fun e w' => e = .returned (.int .u32 (ofI 0 (allOf l))) ∧ Below w.heap.size w w' := by
  have HS := Lib.hid hs
  have HC := Lib.hid hc
  clear hs hc
  go_enter Try.func12, Try.ntmps12
  go_wp2_with fail
  go_loopw [3, 9] (fun n i wr => ∃ k : Nat, k ≤ l.length ∧ i = .int .i64 k ∧ n = .int .u32 (ofI 0 (allOf (l.take k))) ∧ Below w.heap.size w wr) (fun _ i _ => l.length - (intOf i).toNat)
  case atStart => exact ⟨0, Nat.zero_le _, rfl, by simp [ofI, allOf, Plain.crc, wordI], Below.refl _ _⟩
  case round =>
    obtain ⟨k, hk, rfl, rfl, hbel⟩ := hrel
    by_cases hlt : k < l.length
    · obtain ⟨s, hs⟩ : ∃ s, s = l.getD k ByteArray.empty := ⟨_, rfl⟩
      have hcell : wr.cell? ⟨b, k, none⟩ = some (.string s) := by rw [hbel.cell (by exact hb), HC.out k hlt, hs]
      have hsz : s.size ≤ 100000 := HS.out s (by rw [hs, List.getD_eq_getElem?_getD, List.getElem?_eq_getElem hlt]; exact List.getElem_mem hlt)
      have HE := Lib.hid hs
      clear hs
      go_wp2_with fail
      obtain ⟨wo, rfl⟩ : ∃ wo : World, wo = wr := ⟨_, rfl⟩
      go_loopw [3, 6, 15] (fun n _ j wr => ∃ m : Nat, m ≤ s.size ∧ j = .int .i64 m ∧ n = .int .u32 (ofI 0 (allOf (l.take k) ++ s.data.toList.take m)) ∧ Below w.heap.size w wr) (fun _ _ j _ => s.size - (intOf j).toNat)
      case atStart => exact ⟨0, Nat.zero_le _, rfl, by simp, hbel⟩
      case round =>
        obtain ⟨m, hm, rfl, rfl, hbel2⟩ := hrel
        by_cases hlt2 : m < s.size
        · have hsn := ofI_snoc 0 (allOf (l.take k) ++ s.data.toList.take m) s[m] _ rfl
          have HT := Lib.hid (take_snoc s m hlt2)
          go_wp2_with fail
          refine (after_any _ _ hsn.1 hsn.2.1).mono ?_
          rintro e w' ⟨rfl, hbel3⟩
          rw [hsn.2.2]
          go_wp2_with fail
          go_roundw
          case rel => exact ⟨m + 1, by omega, by go_num, by rw [HT.out, ← List.append_assoc], hbel2.trans (hbel3.mono hbel2.size)⟩
          case measure => simp [intOf]; omega
        · have hmm : m = s.size := by omega
          have HA := Lib.hid (allOf_snoc l k hlt s HE.out)
          have HT := Lib.hid (show s.data.toList.take m = s.data.toList from List.take_of_length_le (by rw [hmm]; simp))
          clear hmm
          go_wp2_with fail
          go_roundw
          case rel => exact ⟨k + 1, by omega, by go_num, by rw [HT.out, HA.out], hbel2⟩
          case measure => simp [intOf]; omega
    · have HK := Lib.hid (show l.take k = l from List.take_of_length_le (by omega))
      go_wp2_with fail
      go_ret
      exact ⟨ret_int (by rw [HK.out]), hbel⟩
theorem of_nil (w : World) : Calls Try.prog 12 #[.slice none 0 0] w fun e w' => e = .returned (.int .u32 0) ∧ w = w' := by
  go_enter Try.func12, Try.ntmps12
  go_wp2_with fail
  refine wp_loop_rounds 1 ?_
  rw [rounds_succ]
  go_wp2_with fail
  go_ret
  exact ⟨rfl, rfl⟩
end Go.Proofs.Ytogakapokgddiaa
