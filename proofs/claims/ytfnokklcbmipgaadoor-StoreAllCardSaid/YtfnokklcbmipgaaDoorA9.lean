/- arena.New; the document's Same. -/
import Derived.Test.YtfnokklcbmipgaaDoorA8
import Derived.Test.YtfnokklcbmipgaaDoorB0
namespace Go.Proofs.YtfnokklcbmipgaaDoor
open Go.RowKit Plain

def newS (n : Nat) : Segs := List.replicate n (-1, 0)
def newAt (n k : Nat) : Segs := List.replicate k (-1, 0) ++ List.replicate (n - k) (0, 0)
theorem newAt_len (n k : Nat) (h : k ≤ n) : (newAt n k).length = n := by simp [newAt]; omega
theorem newAt_succ (n k : Nat) (h : k < n) : (newAt n k).set k (-1, ((newAt n k).getD k (0, 0)).2) = newAt n (k + 1) := by
  have e : n - k = (n - (k + 1)) + 1 := by omega
  have hg : (newAt n k).getD k (0, 0) = (0, 0) := by
    unfold newAt
    rw [List.getD_eq_getElem?_getD, List.getElem?_append_right (by simp), List.length_replicate, Nat.sub_self, e, List.replicate_succ]; rfl
  rw [hg]
  unfold newAt
  rw [List.set_append, if_neg (by simp), List.length_replicate, Nat.sub_self, e, List.replicate_succ, List.set_cons_zero, List.replicate_succ' , List.append_assoc]; rfl
theorem made_segs (n : Nat) : (madeCells #[.int .i64 0, .int .u64 0] (n * 2)).toList = segCells (newAt n 0) := by
  refine List.ext_getElem? fun j => ?_
  have hl : (newAt n 0).length = n := newAt_len n 0 (Nat.zero_le _)
  by_cases hj : j < n * 2
  · have hc := segCells_at (newAt n 0) (j / 2) (by omega)
    have hg : (newAt n 0).getD (j / 2) (0, 0) = (0, 0) := by
      show (List.replicate n ((0 : Int), (0 : Nat))).getD _ _ = _
      rw [List.getD_eq_getElem?_getD, List.getElem?_replicate]; split <;> rfl
    rw [hg] at hc
    unfold madeCells
    rw [Array.getElem?_toList, Array.getElem?_map, Array.getElem?_range, if_pos hj]
    rcases Nat.mod_two_eq_zero_or_one j with hm | hm
    · have ej : j / 2 * 2 = j := by omega
      rw [ej] at hc
      rw [hc.1]
      simp [hm]
    · have ej : j / 2 * 2 + 1 = j := by omega
      rw [ej] at hc
      rw [hc.2]
      simp [hm]
  · rw [List.getElem?_eq_none (by rw [Array.length_toList, size_madeCells]; omega), List.getElem?_eq_none (by rw [segCells_len, hl]; omega)]
set_option maxHeartbeats 1000000 in
theorem new_bad (n : Int) (w : World) (h : n < 0 ∨ 200 < n) : Calls Tryd.prog 21 #[.int .i64 n] w fun e w' => e = .returned (.tuple #[.slice none 0 0, .int .i64 110]) ∧ w = w' := by
  have hcase : decide (n < 0) = true ∨ (decide (n < 0) = false ∧ 200 < n) := by
    simp only [decide_eq_false_iff_not, decide_eq_true_eq]
    omega
  clear h
  rcases hcase with d1 | ⟨d1, d2⟩
  all_goals (
    go_enter Tryd.func21, Tryd.ntmps21
    go_wp2_with fail
    go_ret2
    exact ⟨rfl, rfl⟩)
def NewOk (n : Nat) (w : World) (e : Ending) (w' : World) : Prop := (∃ ao cap, e = .returned (.tuple #[.slice ao n cap, .int .i64 0]) ∧ SegNew w' w.heap.size ao cap (newS n)) ∧ Below w.heap.size w w'
set_option maxHeartbeats 1000000 in
theorem new_any (n : Nat) (w : World) (hn : n ≤ 200) : Calls Tryd.prog 21 #[.int .i64 n] w (NewOk n w) := by
  obtain ⟨i0, hi0, hz0, hz1, hz2⟩ := info_parts info47
  have d1 : ¬ (n : Int) < 0 := by omega
  have d2 : ¬ (200 : Int) < n := by omega
  go_enter Tryd.func21, Tryd.ntmps21
  go_wp2_with (refine wpList_make_full w rfl _ _ 22 rfl w.heap.size 47 i0 _ 2 Tryd.underlying22 hi0 hz0 hz1 .i64 .i64 n n n rfl rfl rfl rfl (by rw [hz2]; omega) (by unfold maxLen; omega) (Nat.le_refl _) ?_; intro w1 hown hg)
  have hb1 : Below w.heap.size w w1 := (Below.refl _ _).grown hg (Nat.le_refl _) (fun k hk => by cases hk)
  have hnew : SegNew w1 w.heap.size (some ⟨w.heap.size, 0, none⟩) n (newAt n 0) := by
    unfold SegNew
    rw [newAt_len n 0 (Nat.zero_le _), ← made_segs]
    exact hown
  clear hown hg
  go_loopw [15] (fun i wr => ∃ k : Nat, k ≤ n ∧ i = .int .i64 k ∧ SegNew wr w.heap.size (some ⟨w.heap.size, 0, none⟩) n (newAt n k) ∧ Below w.heap.size w wr) (fun i _ => n - (intOf i).toNat)
  case atStart => exact ⟨0, Nat.zero_le _, rfl, hnew, hb1⟩
  case round =>
    obtain ⟨k, hk, rfl, hs, hbel⟩ := hrel
    have hl := newAt_len n k hk
    by_cases hlt : k < n
    · have hi : (k : Int) < (n : Int) := by omega
      have f1 := World.ownsRow.frozenAt (g := w.heap.size) hs (k * 2)
      have g1 := (World.ownsRow.cellAt (g := w.heap.size) hs (k * 2) (by omega)).trans (segCells_at _ k (by omega)).1
      have HS := Lib.hid hs
      clear hs
      go_wp2_with fail
      go_roundw
      case rel => exact ⟨k + 1, by omega, by go_num, by rw [← newAt_succ n k hlt]; exact HS.out.class k (-1) (by omega), hbel.setCell (Nat.le_refl _) _⟩
      case measure => simp [intOf]; omega
    · have hi : ¬ ((k : Int) < (n : Int)) := by omega
      have hkn : k = n := by omega
      have hS : SegNew wr w.heap.size (some ⟨w.heap.size, 0, none⟩) n (newS n) := by
        have e : newAt n n = newS n := by simp [newAt, newS]
        rw [hkn, e] at hs
        exact hs
      clear hs
      go_wp2_with fail
      go_ret2
      exact ⟨⟨some ⟨w.heap.size, 0, none⟩, n, rfl, hS⟩, hbel⟩
set_option maxHeartbeats 1000000 in
theorem same_any (ao bo : Option Addr) (x y : Segs) (cap cap2 : Nat) (w : World) (h1 : SegAt w ao x) (h2 : SegAt w bo y) (hx : x.length ≤ 5000) :
    Calls Tryd.prog 16 #[.slice ao x.length cap, .slice bo y.length cap2] w fun e w' => e = .returned (.bool (decide (x = y))) ∧ Below w.heap.size w w' := by
  by_cases hne : x.length = y.length
  · have hlen : ((x.length : Int) != (y.length : Int)) = false := by simp [hne]
    have HN := Lib.hid hne
    have H1 := Lib.hid h1
    have H2 := Lib.hid h2
    clear hne h1 h2
    go_enter Tryd.func16, Tryd.ntmps16
    go_wp2_with fail
    go_loopw [5] (fun i wr => ∃ k : Nat, k ≤ x.length ∧ i = .int .i64 k ∧ x.take k = y.take k ∧ Below w.heap.size w wr) (fun i _ => x.length - (intOf i).toNat)
    case atStart => exact ⟨0, Nat.zero_le _, rfl, rfl, Below.refl _ _⟩
    case round =>
      obtain ⟨k, hk, rfl, htake, hbel⟩ := hrel
      have HT := Lib.hid htake
      clear htake
      by_cases hlt : k < x.length
      · have hlt2 : k < y.length := by have := HN.out; omega
        obtain ⟨b, off, rfl, _, hc⟩ := (H1.out.below hbel).cell k hlt
        obtain ⟨b2, off2, rfl, _, hc2⟩ := (H2.out.below hbel).cell k hlt2
        obtain ⟨g1, g2⟩ := hc k hlt
        obtain ⟨g3, g4⟩ := hc2 k hlt2
        obtain ⟨c1, u1, hp⟩ : ∃ c u, (c, u) = x.getD k (0, 0) := ⟨_, _, rfl⟩
        obtain ⟨c2, u2, hq⟩ : ∃ c u, (c, u) = y.getD k (0, 0) := ⟨_, _, rfl⟩
        rw [← hp] at g1 g2
        rw [← hq] at g3 g4
        have g1 : wr.cell? ⟨b, off + k * 2, none⟩ = some (.int .i64 c1) := g1
        have g2 : wr.cell? ⟨b, off + k * 2 + 1, none⟩ = some (.int .u64 u1) := g2
        have g3 : wr.cell? ⟨b2, off2 + k * 2, none⟩ = some (.int .i64 c2) := g3
        have g4 : wr.cell? ⟨b2, off2 + k * 2 + 1, none⟩ = some (.int .u64 u2) := g4
        have HP := Lib.hid hp
        have HQ := Lib.hid hq
        have hi : (k : Int) < (x.length : Int) := by omega
        have hi2 : (k : Int) < (y.length : Int) := by omega
        clear hc hc2 hp hq
        have gd := guard47
        by_cases hpq : ((c1, u1) : Int × Nat) = (c2, u2)
        · have hb : ∀ w, (binOp .neq 47 (.agg #[.int .i64 c1, .int .u64 u1]) (.agg #[.int .i64 c2, .int .u64 u2])).run Tryd.prog w = .ok (.bool false) w := fun w => by rw [neq_segs, decide_eq_true hpq]; rfl
          have HE := Lib.hid hpq
          clear hpq
          go_wp2_with fail
          go_quiet (fail)
          go_wp2_with fail
          go_roundw
          case rel => exact ⟨k + 1, by omega, by go_num, by rw [take_getS _ _ hlt, take_getS _ _ hlt2, HT.out, ← HP.out, ← HQ.out, HE.out], below_drewN _ _ _ _ hbel⟩
          case measure => simp [intOf]; omega
        · have hb : ∀ w, (binOp .neq 47 (.agg #[.int .i64 c1, .int .u64 u1]) (.agg #[.int .i64 c2, .int .u64 u2])).run Tryd.prog w = .ok (.bool true) w := fun w => by rw [neq_segs, decide_eq_false hpq]; rfl
          have HE := Lib.hid hpq
          clear hpq
          go_wp2_with fail
          go_quiet (fail)
          go_wp2_with fail
          go_ret
          refine ⟨?_, below_drewN _ _ _ _ hbel⟩
          rw [decide_eq_false (fun e => HE.out (by rw [HP.out, HQ.out, e]))]; rfl
      · have hi : ¬ ((k : Int) < (x.length : Int)) := by omega
        have hxy : x = y := by
          have h3 := HT.out
          rwa [List.take_of_length_le (by omega), List.take_of_length_le (by have := HN.out; omega)] at h3
        have HE := Lib.hid (decide_eq_true hxy)
        clear hxy
        go_wp2_with fail
        go_ret
        exact ⟨by rw [HE.out]; rfl, hbel⟩
  · have hlen : ((x.length : Int) != (y.length : Int)) = true := by simp; omega
    have HE := Lib.hid (decide_eq_false (fun e : x = y => hne (by rw [e])))
    clear hne
    go_enter Tryd.func16, Tryd.ntmps16
    go_wp2_with fail
    go_ret
    exact ⟨by rw [HE.out]; rfl, Below.refl _ _⟩
end Go.Proofs.YtfnokklcbmipgaaDoor
