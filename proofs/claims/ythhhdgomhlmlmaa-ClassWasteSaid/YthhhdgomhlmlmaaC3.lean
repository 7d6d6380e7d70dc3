/- The contract of linhayref08.Same, and the head of all statements: awake. -/
import Derived.Test.YthhhdgomhlmlmaaC2
import Derived.Deep.QuietTactic
import Derived.BigQuiet
namespace Go.Proofs.Ythhhdgomhlmlmaa
open Go.RowKit

theorem IntAt.below {w w' : World} {ao : Option Addr} {l : List Int} (h : IntAt w ao l) (hb : Below w.heap.size w w') : IntAt w' ao l := by
  rcases h with h | ⟨b, off, h1, h2, h3⟩
  · exact .inl h
  · exact .inr ⟨b, off, h1, Nat.lt_of_lt_of_le h2 hb.size, fun i hi => (hb.cell (by exact h2)).trans (h3 i hi)⟩
theorem IntAt.cell {w : World} {ao : Option Addr} {l : List Int} (h : IntAt w ao l) (i : Nat) (hi : i < l.length) : ∃ b off, ao = some ⟨b, off, none⟩ ∧ ∀ i, i < l.length → w.cell? ⟨b, off + i, none⟩ = some (.int .i64 (l.getD i 0)) := by
  rcases h with h | ⟨b, off, h1, _, h3⟩
  · subst h; simp at hi
  · exact ⟨b, off, h1, h3⟩
theorem below_drewN (w w' : World) (n : Nat) (B : Nat) (h : Below B w w') : Below B w (w'.drewN n) := ⟨h.os, h.tape, h.output, h.size, h.block⟩
theorem take_getD (l : List Int) (k : Nat) (h : k < l.length) : l.take (k + 1) = l.take k ++ [l.getD k 0] := by
  rw [List.take_succ_eq_append_getElem h, List.getD_eq_getElem?_getD, List.getElem?_eq_getElem h]; rfl
set_option maxHeartbeats 400000 in
theorem same_any (ao bo : Option Addr) (x y : List Int) (cap cap2 : Nat) (w : World) (hx : x.length ≤ 100000) (_hy : y.length ≤ 100000) (h1 : IntAt w ao x) (h2 : IntAt w bo y) :
    Calls Try.prog 17 #[.slice ao x.length cap, .slice bo y.length cap2] w fun e w' => e = .returned (.bool (decide (x = y))) ∧ Below w.heap.size w w' := by
  by_cases hne : x.length = y.length
  · have hlen : ((x.length : Int) != (y.length : Int)) = false := by simp [hne]
    have HN := Lib.hid hne
    have H1 := Lib.hid h1
    have H2 := Lib.hid h2
    clear hne h1 h2
    go_enter Try.func17, Try.ntmps17
    go_wp2_with fail
    go_loopw [5] (fun i wr => ∃ k : Nat, k ≤ x.length ∧ i = .int .i64 k ∧ x.take k = y.take k ∧ Below w.heap.size w wr) (fun i _ => x.length - (intOf i).toNat)
    case atStart => exact ⟨0, Nat.zero_le _, rfl, rfl, Below.refl _ _⟩
    case round =>
      obtain ⟨k, hk, rfl, htake, hbel⟩ := hrel
      have HT := Lib.hid htake
      clear htake
      by_cases hlt : k < x.length
      · have hlt2 : k < y.length := by have := HN.out; omega
        obtain ⟨b, off, rfl, hc⟩ := (H1.out.below hbel).cell k hlt
        obtain ⟨b2, off2, rfl, hc2⟩ := (H2.out.below hbel).cell k hlt2
        have g1 := hc k hlt
        have g2 := hc2 k hlt2
        obtain ⟨p, hp⟩ : ∃ p, p = x.getD k 0 := ⟨_, rfl⟩
        obtain ⟨q, hq⟩ : ∃ q, q = y.getD k 0 := ⟨_, rfl⟩
        rw [← hp] at g1
        rw [← hq] at g2
        have HP := Lib.hid hp
        have HQ := Lib.hid hq
        have hi : (k : Int) < (x.length : Int) := by omega
        have hi2 : (k : Int) < (y.length : Int) := by omega
        clear hc hc2 hp hq
        by_cases hpq : p = q
        · have hb : (p != q) = false := by simpa using hpq
          have HE := Lib.hid hpq
          clear hpq
          go_wp2_with fail
          go_quiet (fail)
          go_wp2_with fail
          go_roundw
          case rel => exact ⟨k + 1, by omega, by go_num, by rw [take_getD _ _ hlt, take_getD _ _ hlt2, HT.out, ← HP.out, ← HQ.out, HE.out], below_drewN _ _ _ _ hbel⟩
          case measure => simp [intOf]; omega
        · have hb : (p != q) = true := by simpa using hpq
          have HE := Lib.hid hpq
          clear hpq
          go_wp2_with fail
          go_quiet (fail)
          go_wp2_with fail
          go_ret
          refine ⟨?_, below_drewN _ _ _ _ hbel⟩
          rw [decide_eq_false (fun e => HE.out (by rw [HP.out, HQ.out, e]))]; rfl
      · have hxy : x = y := by
          have h3 := HT.out
          rwa [List.take_of_length_le (by omega), List.take_of_length_le (by have := HN.out; omega)] at h3
        have HE := Lib.hid (decide_eq_true hxy)
        clear hxy
        go_wp2_with fail
        go_ret
        exact ⟨by rw [HE.out]; rfl, hbel⟩
  · have hlen : ((x.length : Int) != (y.length : Int)) = true := by simp; omega
    have HE := Lib.hid (decide_eq_false (fun e : x = y => hne (by rw [e])))
    clear hne
    go_enter Try.func17, Try.ntmps17
    go_wp2_with fail
    go_ret
    exact ⟨by rw [HE.out]; rfl, Below.refl _ _⟩
theorem lit3 (w : World) (a b c : Int) : IntAt (w.alloc (.cells #[.int .i64 a, .int .i64 b, .int .i64 c] 3)) (some ⟨w.heap.size, 0, none⟩) [a, b, c] := by
  refine .inr ⟨_, _, rfl, by simp, ?_⟩
  intro i hi
  match i, hi with
  | 0, _ => simp
  | 1, _ => simp
  | 2, _ => simp
theorem cut150 : cutC 150 = [3, 3, 2] := by decide
set_option maxHeartbeats 400000 in
theorem awake_any (w : World) : Calls Try.prog 8 #[] w fun e w' => e = .returned (.bool true) ∧ Below w.heap.size w w' := by
  go_enter Try.func8, Try.ntmps8
  go_wp2_with fail
  refine (cut_any 150 _ (by omega) (by omega)).mono ?_
  rintro e w1 ⟨ao, cap, rfl, hat, hb1, _⟩
  rw [cut150] at hat ⊢
  have HA := Lib.hid hat
  clear hat
  go_wp2_with fail
  refine (cut_bad _ _ (by omega)).mono ?_
  rintro e w2 ⟨rfl, rfl⟩
  go_wp2_with fail
  refine (cut_bad _ _ (by omega)).mono ?_
  rintro e w2 ⟨rfl, rfl⟩
  go_wp2_with fail
  refine (same_any _ _ [3, 3, 2] [3, 3, 2] _ _ _ (by simp) (by simp) (HA.out.below ((Below.refl _ _).alloc (Nat.le_refl _) _)) (lit3 _ _ _ _)).mono ?_
  rintro e w2 ⟨rfl, hb2⟩
  have HA2 := Lib.hid ((HA.out.below ((Below.refl _ _).alloc (Nat.le_refl _) (.cells #[.int .i64 3, .int .i64 3, .int .i64 2] 3))).below hb2)
  rw [decide_eq_true (show ([3, 3, 2] : List Int) = [3, 3, 2] from rfl)]
  go_wp2_with fail
  refine (room_any _ [3, 3, 2] _ _ (by simp) HA2.out).mono ?_
  rintro e w3 ⟨rfl, rfl⟩
  rw [show roomC [3, 3, 2] = 160 from rfl]
  go_wp2_with (first
    | (go_at_call 11; refine (bytes_any _ _).mono ?_; rintro e w' ⟨rfl, rfl⟩; first | rw [show bytesC 0 = 8 from rfl] | rw [show bytesC 3 = 64 from rfl] | rw [show bytesC 4 = 0 from rfl])
    | (go_at_call 13; refine (slots_any _ _).mono ?_; rintro e w' ⟨rfl, rfl⟩; first | rw [show slotsC 0 = 64 from rfl] | rw [show slotsC 3 = 8 from rfl] | rw [show slotsC (-1) = 0 from rfl])
    | (go_at_call 15; refine (fit_any _ _).mono ?_; rintro e w' ⟨rfl, rfl⟩; first | rw [show fitC 9 = 1 from rfl] | rw [show fitC 65 = -1 from rfl] | rw [show fitC 0 = -1 from rfl]))
  go_ret
  exact ⟨rfl, hb1.trans <| ((Below.refl _ _).alloc hb1.size _).trans (hb2.mono (by have := hb1.size; simp; omega))⟩
end Go.Proofs.Ythhhdgomhlmlmaa
