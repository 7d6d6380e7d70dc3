/- The walk of SumBurst. -/
import Derived.Test.YtogakapokgddiaaW6
namespace Go.Proofs.Ytogakapokgddiaa
open Go.RowKit

/-- The bytes l lie at the head of block B, and may be written. -/
def RowB (w : World) (B : Nat) (l : List UInt8) : Prop := ∀ j, j < l.length → w.cell? ⟨B, j, none⟩ = some (.int .u8 ((l.getD j 0).toNat : Int)) ∧ w.frozen? ⟨B, j, none⟩ = false
theorem rowB_set {w : World} {B : Nat} {l : List UInt8} (h : RowB w B l) (j : Nat) (hj : j < l.length) (c : UInt8) (x : Int) (hx : x = (c.toNat : Int)) : RowB (w.setCell ⟨B, j, none⟩ (.int .u8 x)) B (l.set j c) := by
  subst hx
  intro i hi
  rw [List.length_set] at hi
  refine ⟨?_, by rw [World.frozen?_setCell]; exact (h i hi).2⟩
  by_cases e : i = j
  · subst e
    rw [World.cell?_setCell_same _ _ _ (h i hi).1, List.getD_eq_getElem?_getD, List.getElem?_set_self hj]; rfl
  · rw [World.cell?_setCell_other _ _ _ _ (by intro e2; injection e2 with _ e3 _; exact e e3.symm), (h i hi).1, List.getD_eq_getElem?_getD, List.getD_eq_getElem?_getD, List.getElem?_set_ne (by omega)]
theorem store_bit (c : UInt8) (e : Nat) (he : e < 8) : bits .xor .u8 (c.toNat : Int) (128 / 2 ^ e) = ((c ^^^ (128 >>> UInt8.ofNat e)).toNat : Int) := by
  have hc := c.toNat_lt
  rw [UInt8.toNat_xor]
  match e, he with
  | 0, _ => exact u8_xor_nat c.toNat 128 hc (by decide)
  | 1, _ => exact u8_xor_nat c.toNat 64 hc (by decide)
  | 2, _ => exact u8_xor_nat c.toNat 32 hc (by decide)
  | 3, _ => exact u8_xor_nat c.toNat 16 hc (by decide)
  | 4, _ => exact u8_xor_nat c.toNat 8 hc (by decide)
  | 5, _ => exact u8_xor_nat c.toNat 4 hc (by decide)
  | 6, _ => exact u8_xor_nat c.toNat 2 hc (by decide)
  | 7, _ => exact u8_xor_nat c.toNat 1 hc (by decide)
/-- The bytes of a text that was made a slice. -/
theorem rowB_made (w : World) (l : List UInt8) (cap : Nat) : RowB (w.alloc (.cells (bytesRow (txt l) cap) 5 ((bytesRow (txt l) cap).size, (bytesRow (txt l) cap).size + 1))) w.heap.size l := by
  intro j hj
  have hb : (w.alloc (.cells (bytesRow (txt l) cap) 5 ((bytesRow (txt l) cap).size, (bytesRow (txt l) cap).size + 1))).heap[w.heap.size]? = some (.cells (bytesRow (txt l) cap) 5 ((bytesRow (txt l) cap).size, (bytesRow (txt l) cap).size + 1)) := by
    show (w.heap.push _)[w.heap.size]? = _
    simp
  have hs : j < (bytesRow (txt l) cap).size := by simp [bytesRow, txt]; omega
  constructor
  · rw [World.cell?_alloc_mark]
    unfold bytesRow
    rw [Array.getElem?_append_left (by simpa [txt] using hj)]
    simp [txt, hj]
  · unfold World.frozen?
    rw [hb]
    simp; omega
theorem openS_seal'' (s : ByteArray) : txt (openS (Plain.sealW s.data.toList)) = s := openS_seal' s
theorem bit_test (burst k : Nat) : (((burst : Int) / 2 ^ k).tmod 2 == 1) = decide (burst / 2 ^ k % 2 = 1) := by
  have e : ((burst : Int) / 2 ^ k) = ((burst / 2 ^ k : Nat) : Int) := by simp
  rw [e]
  generalize burst / 2 ^ k = q
  rw [Int.tmod_eq_emod_of_nonneg (by omega)]
  by_cases h : q % 2 = 1
  · rw [decide_eq_true h, beq_iff_eq]; omega
  · rw [decide_eq_false h, beq_eq_false_iff_ne]; omega
set_option maxHeartbeats 400000 in
theorem burst_walk (s : ByteArray) (at0 burst : Nat) (w : World) (hs : s.size ≤ maxLen) (a1 : at0 < 65536) (b1 : burst < 4294967296) :
    Calls Try.prog 6 #[.string s, .int .u16 at0, .int .u32 burst] w fun e w' => e = .returned (.bool true) ∧ Below w.heap.size w w' := by
  unfold maxLen at hs
  go_enter Try.func6, Try.ntmps6
  go_wp2_with fail
  refine (awake_any _).mono ?_
  rintro e w1 ⟨rfl, hb1⟩
  by_cases hl : 1000 < s.size
  · go_wp2_with fail
    go_ret
    exact ⟨rfl, hb1⟩
  have hz : s.data.toList.length ≤ 1000 := by simp; omega
  go_wp2_with fail
  refine (seal_any _ _ (by omega)).mono ?_
  rintro e w2 ⟨rfl, hb2⟩
  have hlo : 8 ≤ (txt (Plain.sealW s.data.toList)).size := by rw [seal_size]; omega
  have hhi : (txt (Plain.sealW s.data.toList)).size ≤ 1008 := by rw [seal_size]; omega
  obtain ⟨F, hF, hF2⟩ : ∃ F : Nat, (at0 : Int) % (8 * ((txt (Plain.sealW s.data.toList)).size : Int) - 31) = F ∧ F + 32 ≤ 8 * (txt (Plain.sealW s.data.toList)).size := by
    have h1 := Int.emod_nonneg (at0 : Int) (show (8 * ((txt (Plain.sealW s.data.toList)).size : Int) - 31) ≠ 0 by omega)
    have h2 := Int.emod_lt_of_pos (at0 : Int) (show 0 < (8 * ((txt (Plain.sealW s.data.toList)).size : Int) - 31) by omega)
    exact ⟨((at0 : Int) % (8 * ((txt (Plain.sealW s.data.toList)).size : Int) - 31)).toNat, by omega, by omega⟩
  have hcv := fun (w : World) => run_bytes_of_string (P := Try.prog) w 9 34 5 (txt (Plain.sealW s.data.toList)) Try.underlying9 Try.underlying34 Try.underlying5
  have hLl : (Plain.sealW s.data.toList).length = (txt (Plain.sealW s.data.toList)).size := by rw [txt_size]
  have HL := Lib.hid hLl
  clear hLl
  go_wp2_with fail
  go_loopw [10, 11] (fun i _ wr => ∃ k : Nat, k ≤ 32 ∧ i = .int .i64 k ∧ RowB wr w2.heap.size (Plain.burstTo F burst (Plain.sealW s.data.toList) k) ∧ Below w.heap.size w wr) (fun i _ _ => 32 - (intOf i).toNat)
  case atStart =>
    refine ⟨0, Nat.zero_le _, rfl, ?_, ?_⟩
    · exact rowB_made w2 _ _
    · exact hb1.trans <| (hb2.mono hb1.size).trans <| ((Below.refl _ _).alloc (by have := hb1.size; have := hb2.size; omega) _).drew
  case round =>
    obtain ⟨k, hk, rfl, hrow, hbel⟩ := hrel
    by_cases hlt : k < 32
    · by_cases hbit : burst / 2 ^ k % 2 = 1
      · have ht := bit_test burst k
        rw [decide_eq_true hbit] at ht
        have hj : (F + k) / 8 < (Plain.burstTo F burst (Plain.sealW s.data.toList) k).length := by rw [Plain.burstTo_length, HL.out]; omega
        obtain ⟨hcell, hfroz⟩ := hrow _ hj
        obtain ⟨c, hc⟩ : ∃ c, c = (Plain.burstTo F burst (Plain.sealW s.data.toList) k).getD ((F + k) / 8) 0 := ⟨_, rfl⟩
        rw [← hc] at hcell
        have HC := Lib.hid hc
        have HR := Lib.hid hrow
        have HT := Lib.hid hbit
        clear hc hrow hbit hj
        go_wp2_with fail
        go_roundw
        case rel =>
          refine ⟨k + 1, by omega, by go_num, ?_, hbel.setCell (by have := hb1.size; have := hb2.size; show w.heap.size ≤ w2.heap.size; omega) _⟩
          unfold Plain.burstTo
          rw [if_pos HT.out]
          unfold Plain.flipAt
          refine rowB_set HR.out _ (by rw [Plain.burstTo_length, HL.out]; omega) _ _ ?_
          rw [← HC.out]
          exact store_bit c _ (by omega)
        case measure => simp [intOf]; omega
      · have ht := bit_test burst k
        rw [decide_eq_false hbit] at ht
        have HT := Lib.hid hbit
        have HR := Lib.hid hrow
        clear hrow hbit
        go_wp2_with fail
        go_roundw
        case rel =>
          refine ⟨k + 1, by omega, by go_num, ?_, hbel⟩
          unfold Plain.burstTo
          rw [if_neg HT.out]
          exact HR.out
        case measure => simp [intOf]; omega
    · have hk32 : k = 32 := by omega
      subst hk32
      have hlen : (Plain.burstTo F burst (Plain.sealW s.data.toList) 32).length = (txt (Plain.sealW s.data.toList)).size := by rw [Plain.burstTo_length, HL.out]
      have hcv2 := fun cap => run_convert_bytes_back (P := Try.prog) wr 34 9 5 ⟨w2.heap.size, 0, none⟩ cap (Plain.burstTo F burst (Plain.sealW s.data.toList) 32) Try.underlying34 Try.underlying5 Try.underlying9 (fun j hj => by
        have := (hrow j hj).1
        rw [List.getD_eq_getElem?_getD, List.getElem?_eq_getElem hj] at this
        have e : (⟨w2.heap.size, 0, none⟩ : Addr).add j = ⟨w2.heap.size, j, none⟩ := by unfold Addr.add; split <;> simp_all
        rw [e]
        simpa using this)
      rw [hlen] at hcv2
      have hT : Hid ((⟨(Plain.burstTo F burst (Plain.sealW s.data.toList) 32).toArray⟩ : ByteArray) = txt (Plain.burstTo F burst (Plain.sealW s.data.toList) 32)) := rfl
      clear hrow
      have hlaw := Plain.burst_law s.data.toList F burst (by omega) (by rw [HL.out]; omega)
      have HLW := Lib.hid hlaw
      clear hlaw
      by_cases h0 : burst = 0
      · subst h0
        go_wp2_with fail
        rw [hT.out]
        refine (open_any _ _ (by rw [txt_size, hlen]; omega)).mono ?_
        rintro e w3 ⟨rfl, hb3⟩
        rw [txt_data, HLW.out, Plain.burstTo_zero, openS_seal'']
        go_wp2_with fail
        go_ret
        exact ⟨rfl, hbel.trans (hb3.mono hbel.size)⟩
      · have hd : ((burst : Int) == 0) = false := by rw [beq_eq_false_iff_ne]; omega
        go_wp2_with fail
        rw [hT.out]
        refine (open_any _ _ (by rw [txt_size, hlen]; omega)).mono ?_
        rintro e w3 ⟨rfl, hb3⟩
        rw [txt_data, HLW.out, decide_eq_false h0]
        go_wp2_with fail
        go_ret
        exact ⟨rfl, hbel.trans (hb3.mono hbel.size)⟩
end Go.Proofs.Ytogakapokgddiaa
