/- The document's answer: May. -/
import Derived.Test.YtafkbbjmbbimpaaT1
namespace Go.Proofs.Ytafkbbjmbbimpaa
open Go.RowKit Plain

theorem may_step {l : List Int} {k : Nat} (hk : k < l.length) (h : may (l.take k)) (hx : inR (l.getD k 0)) (hn : l.getD k 0 ∉ l.take k) : may (l.take (k + 1)) := by
  rw [take_getD l k hk]
  exact may_snoc_mk h hx hn
theorem mem_take_getD {l : List Int} {j k : Nat} (hj : j < k) (hk : k < l.length) : l.getD j 0 ∈ l.take k := by
  rw [getD_of_lt _ _ _ (by omega)]
  exact List.mem_take_iff_getElem.2 ⟨j, by omega, rfl⟩
set_option maxHeartbeats 400000 in
theorem may_any (ao : Option Addr) (l : List Int) (cap : Nat) (w : World) (hl : l.length ≤ 5000) (h : IntAt w ao l) : Calls Try.prog 26 #[.slice ao l.length cap] w (fun e w' => e = .returned (.bool (decide (may l))) ∧ Below w.heap.size w w') := by
  have H1 := Lib.hid h
  clear h
  go_enter Try.func26, Try.ntmps26
  go_wp2_with fail
  go_loopw [3] (fun i wr => ∃ k : Nat, k ≤ l.length ∧ i = .int .i64 k ∧ may (l.take k) ∧ Below w.heap.size w wr) (fun i _ => l.length - (intOf i).toNat)
  case atStart => exact ⟨0, Nat.zero_le _, rfl, by simpa using may_nil, Below.refl _ _⟩
  case round =>
    obtain ⟨k, hk, rfl, hmay, hbel⟩ := hrel
    have HM := Lib.hid hmay
    have HBEL := Lib.hid hbel
    clear hmay
    by_cases hlt : k < l.length
    · obtain ⟨b, off, rfl, hc⟩ := (H1.out.below hbel).cell k hlt
      have g1 := hc k hlt
      have hi : (k : Int) < (l.length : Int) := by omega
      have HNM := Lib.hid (fun h => decide_eq_false (not_may_take hlt h))
      have HST := Lib.hid (fun h1 h2 => may_step hlt HM.out h1 h2)
      have HMT := Lib.hid (fun j hj => mem_take_getD (l := l) (j := j) (k := k) hj hlt)
      have HCC := Lib.hid hc
      obtain ⟨x, hx⟩ : ∃ x, x = l.getD k 0 := ⟨_, rfl⟩
      rw [← hx] at g1 HNM HST
      have HX := Lib.hid hx
      clear hx hc
      by_cases h0 : x < 0
      · have HE : Hid (decide (may l) = false) := HNM.out (fun h => by have := h.1; unfold inR at this; omega)
        clear hbel
        go_wp2_with fail
        go_ret
        exact ⟨by rw [HE.out]; rfl, HBEL.out⟩
      · by_cases h63 : 63 < x
        · have HE : Hid (decide (may l) = false) := HNM.out (fun h => by have := h.1; unfold inR at this; omega)
          clear hbel
          go_wp2_with fail
          go_ret
          exact ⟨by rw [HE.out]; rfl, HBEL.out⟩
        · have HR : Hid (inR x) := by show _ ∧ _; omega
          clear hbel
          go_wp2_with fail
          rename World => wo
          go_loopw [4] (fun i wi => ∃ j : Nat, j ≤ k ∧ i = .int .i64 j ∧ x ∉ l.take j ∧ Below wo.heap.size wo wi) (fun i _ => k - (intOf i).toNat)
          case atStart => exact ⟨0, Nat.zero_le _, rfl, by simp, Below.refl _ _⟩
          case round =>
            obtain ⟨j, hj, rfl, hno, hb2⟩ := hrel
            have hB := HBEL.out.trans (hb2.mono HBEL.out.size)
            have HN := Lib.hid hno
            clear hno
            by_cases hjk : j < k
            · have g2 := (H1.out.below hB)
              have hjl : j < l.length := by omega
              have g3 := (hb2.cell (p := ⟨b, off + k, none⟩) (World.block_lt_of_cell? _ _ g1)).trans g1
              have g4 := (hb2.cell (p := ⟨b, off + j, none⟩) (World.block_lt_of_cell? _ _ (HCC.out j hjl))).trans (HCC.out j hjl)
              have HMJ := Lib.hid (HMT.out j hjk)
              have HTJ := Lib.hid (take_getD l j hjl)
              have hi2 : (j : Int) < (k : Int) := by omega
              have hi3 : (j : Int) < (l.length : Int) := by omega
              obtain ⟨y, hy⟩ : ∃ y, y = l.getD j 0 := ⟨_, rfl⟩
              rw [← hy] at g4 HMJ HTJ
              have HB := Lib.hid hB
              clear g2 hy hB
              by_cases hyx : y = x
              · have hb : (y == x) = true := by simpa using hyx
                have HE : Hid (decide (may l) = false) := HNM.out (fun h => h.2 (by rw [← hyx]; exact HMJ.out))
                clear hyx
                go_wp2_with fail
                go_quiet (fail)
                go_wp2_with fail
                go_ret
                exact ⟨by rw [HE.out]; rfl, below_drewN _ _ _ _ HB.out⟩
              · have hb : (y == x) = false := by simpa using hyx
                have HE := Lib.hid hyx
                clear hyx
                go_wp2_with fail
                go_quiet (fail)
                go_wp2_with fail
                go_roundw
                case rel => exact ⟨j + 1, by omega, by go_num, by rw [HTJ.out, List.mem_append, not_or]; exact ⟨HN.out, by simpa using fun e => HE.out e.symm⟩, below_drewN _ _ _ _ hb2⟩
                case measure => simp [intOf]; omega
            · have hi2 : ¬ ((j : Int) < (k : Int)) := by omega
              have hjk2 : j = k := by omega
              have HS := Lib.hid (HST.out HR.out (by rw [← hjk2]; exact HN.out))
              have HB := Lib.hid hB
              clear hB
              go_wp2_with fail
              go_roundw
              case rel => exact ⟨k + 1, by omega, by go_num, HS.out, HB.out⟩
              case measure => simp [intOf]; omega
    · have hi : ¬ ((k : Int) < (l.length : Int)) := by omega
      have HE : Hid (decide (may l) = true) := by
        have h := HM.out
        rw [List.take_of_length_le (by omega)] at h
        exact decide_eq_true h
      clear hbel
      go_wp2_with fail
      go_ret
      exact ⟨by rw [HE.out]; rfl, HBEL.out⟩
end Go.Proofs.Ytafkbbjmbbimpaa
