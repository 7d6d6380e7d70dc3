/- store.Check. -/
import Derived.Test.YtfnokklcbmipgaaDoorS1
import Derived.PlainAid
namespace Go.Proofs.YtfnokklcbmipgaaDoor
open Go.RowKit Plain Go.PlainAid

def inN (l : Segs) (p : Nat) : Prop := inSeg (l.getD (p / 512) (0, 0)) (p % 512)
instance (l : Segs) (p : Nat) : Decidable (inN l p) := by unfold inN; exact inferInstance
def byt (s : ByteArray) (p : Nat) : UInt8 := s.data.toList.getD p 0
theorem bt_byt (s : ByteArray) (k : Nat) : bt s k = ((byt s k).toNat : Int) := by
  by_cases h : k < s.size
  · have h2 : k < s.data.toList.length := by simpa using h
    rw [← get_bt s k h]
    unfold byt
    rw [List.getD_eq_getElem?_getD, List.getElem?_eq_getElem h2]
    rfl
  · rw [bt_end s (by omega)]
    unfold byt
    rw [List.getD_eq_getElem?_getD, List.getElem?_eq_none (by simpa using h)]
    rfl
structure okSt (l : Segs) (s : ByteArray) : Prop where
  ok : okS l
  size : s.size = l.length * 512
  zero : ∀ p, p < s.size → byt s p ≠ 0 → inN l p
noncomputable instance (l : Segs) (s : ByteArray) : Decidable (okSt l s) := Classical.propDecidable _
set_option maxRecDepth 20000 in
set_option maxHeartbeats 1000000 in
theorem scheck_any (ao : Option Addr) (l : Segs) (cap : Nat) (s : ByteArray) (w : World) (hwf : Wf l) (h : SegAt w ao l) (hl5 : l.length ≤ 5000) : Calls Tryd.prog 27 #[.agg #[.slice ao l.length cap, .string s]] w fun e w' => e = .returned (.bool (decide (okSt l s))) ∧ Below w.heap.size w w' := by
  have hb0 : Below w.heap.size w (w.alloc (.cells #[.slice ao l.length cap, .string s] 51)) := (Below.refl _ _).alloc (Nat.le_refl _) _
  have H := Lib.hid (h.more (.cells #[.slice ao l.length cap, .string s] 51))
  clear h
  by_cases hok : okS l
  · have HD := Lib.hid (decide_eq_true hok)
    have hlen := hok.1
    have hw : IntKind.i64.wrap ((l.length : Int) * 512) = (l.length : Int) * 512 := IntWalk.i64_in _ (by omega)
    by_cases hsz : s.size = l.length * 512
    · have hsz2 : ((s.size : Int) != (l.length : Int) * 512) = false := by simp; omega
      have HSZ := Lib.hid hsz
      have HOK := Lib.hid hok
      clear hok hsz
      go_enter Tryd.func27, Tryd.ntmps27
      go_wp2_with (go_at_call 14; refine (check_any ao l _ _ hwf H.out).mono ?_; rintro e w1 ⟨rfl, hb1⟩; rw [HD.out]; have c0 : w1.cell? ⟨w.heap.size, 0, none⟩ = some (.slice ao l.length cap) := (hb1.cell (p := ⟨w.heap.size, 0, none⟩) (by simp)).trans (by simp); have c1 : w1.cell? ⟨w.heap.size, 1, none⟩ = some (.string s) := (hb1.cell (p := ⟨w.heap.size, 1, none⟩) (by simp)).trans (by simp))
      go_loopw [21] (fun i wr => ∃ k : Nat, k ≤ s.size ∧ i = .int .i64 k ∧ (∀ p, p < k → byt s p ≠ 0 → inN l p) ∧ Below w1.heap.size w1 wr) (fun i _ => s.size - (intOf i).toNat)
      case atStart => exact ⟨0, Nat.zero_le _, rfl, fun p hp => by omega, Below.refl _ _⟩
      case round =>
        obtain ⟨k, hk, rfl, hall, hbel⟩ := hrel
        have HA := Lib.hid hall
        clear hall
        have d0 := (hbel.cell (p := ⟨w.heap.size, 0, none⟩) (World.block_lt_of_cell? _ _ c0)).trans c0
        have d1 := (hbel.cell (p := ⟨w.heap.size, 1, none⟩) (World.block_lt_of_cell? _ _ c1)).trans c1
        by_cases hlt : k < s.size
        · have hi : (k : Int) < (s.size : Int) := by omega
          have hks : k / 512 < l.length := by have := HSZ.out; omega
          obtain ⟨b, off, rfl, hbl, hc⟩ := (H.out.below (hb1.link hbel)).cell (k / 512) hks
          obtain ⟨g1, g2⟩ := hc (k / 512) hks
          have HU := Lib.hid (hwf _ (getD_mem hks))
          have HIN : Hid (inN l k ↔ inSeg (l.getD (k / 512) (0, 0)) (k % 512)) := Iff.rfl
          obtain ⟨c, u, hcu⟩ : ∃ c u, (c, u) = l.getD (k / 512) (0, 0) := ⟨_, _, rfl⟩
          rw [← hcu] at g1 g2 HU HIN
          have hq : (k : Int) / 512 = ((k / 512 : Nat) : Int) := by omega
          have hr : (k : Int) % 512 = ((k % 512 : Nat) : Int) := by omega
          have hr5 : k % 512 < 512 := Nat.mod_lt _ (by decide)
          obtain ⟨q, hqq⟩ : ∃ q, q = k / 512 := ⟨_, rfl⟩
          obtain ⟨r, hrr⟩ : ∃ r, r = k % 512 := ⟨_, rfl⟩
          rw [← hqq] at hq hks g1 g2
          rw [← hrr] at hr hr5 HIN
          have g1 : wr.cell? ⟨b, off + q * 2, none⟩ = some (.int .i64 c) := g1
          have g2 : wr.cell? ⟨b, off + q * 2 + 1, none⟩ = some (.int .u64 u) := g2
          have hql : (q : Int) < (l.length : Int) := by omega
          have HLT := Lib.hid hlt
          clear hc hcu hqq hrr
          have hgb := get_bt s
          by_cases hz : byt s k = 0
          · have hbz : (bt s k != 0) = false := by rw [bt_byt, hz]; rfl
            have HZ := Lib.hid hz
            clear hz
            go_wp2_with fail
            go_roundw
            case rel => exact ⟨k + 1, by omega, by go_num, (fun p hp hne => by
              rcases (by omega : p < k ∨ p = k) with h | h
              · exact HA.out p h hne
              · subst h; exact absurd HZ.out hne), hbel⟩
            case measure => simp [intOf]; omega
          · have hbz : (bt s k != 0) = true := by
              rw [bt_byt]
              have hne0 : (byt s k).toNat ≠ 0 := fun h => hz (UInt8.toNat_inj.1 h)
              simp
              omega
            have HZ := Lib.hid hz
            clear hz
            by_cases hin : inSeg (c, u) r
            · have HT := Lib.hid (decide_eq_true hin)
              have HI := Lib.hid hin
              clear hin
              go_wp2_with (go_at_call 44; refine (inside_any c u r HU.out hr5 _).mono ?_; rintro e w2 ⟨rfl, hb2⟩; rw [HT.out])
              go_roundw
              case rel => exact ⟨k + 1, by have := HLT.out; omega, by go_num, (fun p hp hne => by
                rcases (by omega : p < k ∨ p = k) with h | h
                · exact HA.out p h hne
                · subst h; exact HIN.out.2 HI.out), hbel.link hb2⟩
              case measure => have := HLT.out; simp [intOf]; omega
            · have HT := Lib.hid (decide_eq_false hin)
              have HR : Hid (decide (okSt l s) = false) := decide_eq_false (fun h => hin (HIN.out.1 (h.zero k HLT.out HZ.out)))
              clear hin
              go_wp2_with (go_at_call 44; refine (inside_any c u r HU.out hr5 _).mono ?_; rintro e w2 ⟨rfl, hb2⟩; rw [HT.out])
              go_ret
              exact ⟨by rw [HR.out]; rfl, (hb0.link hb1).link (hbel.link hb2)⟩
        · have hi : ¬ ((k : Int) < (s.size : Int)) := by omega
          have HR : Hid (decide (okSt l s) = true) := decide_eq_true ⟨HOK.out, HSZ.out, fun p hp hne => HA.out p (by omega) hne⟩
          go_wp2_with fail
          go_ret
          exact ⟨by rw [HR.out]; rfl, (hb0.link hb1).link hbel⟩
    · have hsz2 : ((s.size : Int) != (l.length : Int) * 512) = true := by simp; omega
      have HR : Hid (decide (okSt l s) = false) := decide_eq_false (fun h => hsz h.size)
      clear hok hsz
      go_enter Tryd.func27, Tryd.ntmps27
      go_wp2_with (go_at_call 14; refine (check_any ao l _ _ hwf H.out).mono ?_; rintro e w1 ⟨rfl, hb1⟩; rw [HD.out]; have c0 : w1.cell? ⟨w.heap.size, 0, none⟩ = some (.slice ao l.length cap) := (hb1.cell (p := ⟨w.heap.size, 0, none⟩) (by simp)).trans (by simp); have c1 : w1.cell? ⟨w.heap.size, 1, none⟩ = some (.string s) := (hb1.cell (p := ⟨w.heap.size, 1, none⟩) (by simp)).trans (by simp))
      go_ret
      exact ⟨by rw [HR.out]; rfl, hb0.link hb1⟩
  · have HD := Lib.hid (decide_eq_false hok)
    have HR : Hid (decide (okSt l s) = false) := decide_eq_false (fun h => hok h.ok)
    clear hok
    go_enter Tryd.func27, Tryd.ntmps27
    go_wp2_with (go_at_call 14; refine (check_any ao l _ _ hwf H.out).mono ?_; rintro e w1 ⟨rfl, hb1⟩; rw [HD.out])
    go_ret
    exact ⟨by rw [HR.out]; rfl, hb0.link hb1⟩
end Go.Proofs.YtfnokklcbmipgaaDoor
