/- Segments in memory; arena.Check, slices.Clone. -/
import Derived.Test.YtfnokklcbmipgaaDoorA2
import Derived.Below
namespace Go.Proofs.YtfnokklcbmipgaaDoor
open Go.RowKit Plain

abbrev Segs := List (Int × Nat)
def SegAt (w : World) (ao : Option Addr) (l : Segs) : Prop := l = [] ∨ ∃ b off, ao = some ⟨b, off, none⟩ ∧ b < w.heap.size ∧ ∀ i, i < l.length → w.cell? ⟨b, off + i * 2, none⟩ = some (.int .i64 (l.getD i (0, 0)).1) ∧ w.cell? ⟨b, off + i * 2 + 1, none⟩ = some (.int .u64 (l.getD i (0, 0)).2)
theorem SegAt.below {w w' : World} {ao : Option Addr} {l : Segs} (h : SegAt w ao l) (hb : Below w.heap.size w w') : SegAt w' ao l := by
  rcases h with h | ⟨b, off, h1, h2, h3⟩
  · exact .inl h
  · exact .inr ⟨b, off, h1, Nat.lt_of_lt_of_le h2 hb.size, fun i hi => ⟨(hb.cell (by exact h2)).trans (h3 i hi).1, (hb.cell (by exact h2)).trans (h3 i hi).2⟩⟩
theorem SegAt.more {w : World} {ao : Option Addr} {l : Segs} (h : SegAt w ao l) (o : Obj) : SegAt (w.alloc o) ao l := h.below ((Below.refl _ _).alloc (Nat.le_refl _) _)
theorem SegAt.cell {w : World} {ao : Option Addr} {l : Segs} (h : SegAt w ao l) (i : Nat) (hi : i < l.length) : ∃ b off, ao = some ⟨b, off, none⟩ ∧ b < w.heap.size ∧ ∀ i, i < l.length → w.cell? ⟨b, off + i * 2, none⟩ = some (.int .i64 (l.getD i (0, 0)).1) ∧ w.cell? ⟨b, off + i * 2 + 1, none⟩ = some (.int .u64 (l.getD i (0, 0)).2) := by
  rcases h with h | ⟨b, off, h1, h2, h3⟩
  · subst h; simp at hi
  · exact ⟨b, off, h1, h2, h3⟩
theorem below_drewN (w w' : World) (n : Nat) (B : Nat) (h : Below B w w') : Below B w (w'.drewN n) := ⟨h.os, h.tape, h.output, h.size, h.block⟩
theorem _root_.Go.RowKit.Below.link {w a b : World} (h : Below w.heap.size w a) (k : Below a.heap.size a b) : Below w.heap.size w b := h.trans (k.mono h.size)

/-- What a segment has to be. -/
def okSeg (g : Int × Nat) : Prop := if g.1 = -1 then g.2 = 0 else g.2 ≠ 0 ∧ g.2 < 2 ^ nS g.1
instance (g : Int × Nat) : Decidable (okSeg g) := by unfold okSeg; exact inferInstance
def okS (l : Segs) : Prop := l.length ≤ 200 ∧ ∀ g ∈ l, okSeg g
instance (l : Segs) : Decidable (okS l) := by unfold okS; exact inferInstance
def Wf (l : Segs) : Prop := ∀ g ∈ l, g.2 < 18446744073709551616
theorem okS.wf {l : Segs} (h : okS l) : Wf l := fun g hg => by
  have h1 := h.2 g hg
  unfold okSeg at h1
  split at h1
  · omega
  · have := Nat.pow_le_pow_right (show 0 < 2 by decide) (nS_le g.1)
    have e : (2 : Nat) ^ 64 = 18446744073709551616 := by decide
    omega
theorem andNot_cast (u c : Nat) (hu : u < 18446744073709551616) (hc : c < 18446744073709551616) : bits .andNot .u64 (u : Int) (c : Int) = ((u &&& (2 ^ 64 - (c + 1)) : Nat) : Int) := by
  have h1 : (BitVec.ofInt 64 (u : Int)).toNat = u := by
    rw [BitVec.ofInt_natCast, BitVec.toNat_ofNat]; exact Nat.mod_eq_of_lt (by omega)
  have h2 : (BitVec.ofInt 64 (c : Int)).toNat = c := by
    rw [BitVec.ofInt_natCast, BitVec.toNat_ofNat]; exact Nat.mod_eq_of_lt (by omega)
  have hx : u &&& (2 ^ 64 - (c + 1)) < 2 ^ 64 := Nat.and_lt_two_pow _ (by omega)
  show IntKind.u64.wrap ((BitVec.ofInt 64 (u : Int) &&& ~~~ BitVec.ofInt 64 (c : Int)).toNat : Int) = _
  rw [BitVec.toNat_and, BitVec.toNat_not, h1, h2, IntKind.wrap_u64, show (2 : Nat) ^ 64 - 1 - c = 2 ^ 64 - (c + 1) by omega]
  omega
theorem allN_lt (c : Int) : allN c < 18446744073709551616 := by
  have := Nat.pow_le_pow_right (show 0 < 2 by decide) (nS_le c)
  have e : (2 : Nat) ^ 64 = 18446744073709551616 := by decide
  unfold allN
  omega
theorem over_all (u : Nat) (c : Int) (hu : u < 18446744073709551616) : (bits .andNot .u64 (u : Int) (allN c : Int) != 0) = !decide (u < 2 ^ nS c) := by
  rw [andNot_cast u _ hu (allN_lt c)]
  have h := andNot_all u (nS c) (nS_le c) (by omega)
  unfold allN
  by_cases hl : u < 2 ^ nS c
  · rw [h.2 hl, decide_eq_true hl]; rfl
  · rw [decide_eq_false hl]
    have hne : u &&& (2 ^ 64 - (2 ^ nS c - 1 + 1)) ≠ 0 := fun e => hl (h.1 e)
    generalize u &&& (2 ^ 64 - (2 ^ nS c - 1 + 1)) = n at hne
    simp
    exact hne
theorem okSeg_free (u : Nat) : okSeg (-1, u) ↔ u = 0 := by
  unfold okSeg
  rw [if_pos rfl]
theorem okSeg_class {c : Int} (h : c ≠ -1) (u : Nat) : okSeg (c, u) ↔ u ≠ 0 ∧ u < 2 ^ nS c := by
  unfold okSeg
  rw [if_neg h]
set_option maxHeartbeats 400000 in
theorem bad_any (c : Int) (u : Nat) (hu : u < 18446744073709551616) (w : World) : Calls Tryd.prog 37 #[.agg #[.int .i64 c, .int .u64 u]] w fun e w' => e = .returned (.bool (!decide (okSeg (c, u)))) ∧ Below w.heap.size w w' := by
  by_cases h1 : c = -1
  · subst h1
    have H : Hid ((!decide (okSeg (-1, u))) = ((u : Int) != 0)) := by
      show _ = _
      rw [decide_eq_decide.2 (okSeg_free u)]
      by_cases h : u = 0
      · subst h; rfl
      · simp [h]
    go_enter Tryd.func37, Tryd.ntmps37
    go_wp2_with fail
    go_ret
    exact ⟨by rw [H.out]; rfl, (Below.refl _ _).alloc (Nat.le_refl _) _⟩
  · have hc : (c == -1) = false := by simpa using h1
    by_cases h0 : u = 0
    · subst h0
      have H : Hid ((!decide (okSeg (c, 0))) = true) := by
        show _ = _
        rw [decide_eq_false (fun h => ((okSeg_class h1 0).1 h).1 rfl)]; rfl
      clear h1
      go_enter Tryd.func37, Tryd.ntmps37
      go_wp2_with fail
      go_quiet (fail)
      go_wp2_with fail
      go_ret
      exact ⟨by rw [H.out]; rfl, below_drewN _ _ _ _ ((Below.refl _ _).alloc (Nat.le_refl _) _)⟩
    · have hz : ((u : Int) == 0) = false := by simp; omega
      have H : Hid ((!decide (okSeg (c, u))) = !decide (u < 2 ^ nS c)) := by
        show _ = _
        by_cases hl : u < 2 ^ nS c
        · rw [decide_eq_true hl, decide_eq_true ((okSeg_class h1 u).2 ⟨h0, hl⟩)]
        · rw [decide_eq_false hl, decide_eq_false (fun h => hl ((okSeg_class h1 u).1 h).2)]
      have key := over_all u c hu
      clear h1 h0
      go_enter Tryd.func37, Tryd.ntmps37
      go_wp2_with fail
      go_quiet ((go_at_call 38; exact Calls.quiet_of_same ((all_any _ _).mono fun _ _ ⟨h, h2⟩ => ⟨h, h2.symm⟩)))
      go_wp2_with fail
      go_ret
      exact ⟨by rw [H.out]; rfl, below_drewN _ _ _ _ ((Below.refl _ _).alloc (Nat.le_refl _) _)⟩
theorem getD_mem {l : Segs} {k : Nat} (h : k < l.length) : l.getD k (0, 0) ∈ l := by
  rw [List.getD_eq_getElem?_getD, List.getElem?_eq_getElem h]
  exact List.getElem_mem h
theorem take_getS (l : Segs) (k : Nat) (h : k < l.length) : l.take (k + 1) = l.take k ++ [l.getD k (0, 0)] := by
  rw [List.take_succ_eq_append_getElem h, List.getD_eq_getElem?_getD, List.getElem?_eq_getElem h]; rfl
set_option maxHeartbeats 400000 in
theorem index_any (ao : Option Addr) (l : Segs) (cap : Nat) (w : World) (hl : l.length ≤ 5000) (hwf : Wf l) (h : SegAt w ao l) : Calls Tryd.prog 54 #[.slice ao l.length cap, .func (.func 37) #[] #[]] w fun e w' => (∃ r : Int, e = .returned (.int .i64 r) ∧ (0 ≤ r ↔ ¬ ∀ g ∈ l, okSeg g)) ∧ Below w.heap.size w w' := by
  have H1 := Lib.hid h
  clear h
  go_enter Tryd.func54, Tryd.ntmps54
  go_wp2_with fail
  go_loopw [8] (fun i wr => ∃ k : Nat, k ≤ l.length ∧ i = .int .i64 k ∧ (∀ g ∈ l.take k, okSeg g) ∧ Below w.heap.size w wr) (fun i _ => l.length - (intOf i).toNat)
  case atStart => exact ⟨0, Nat.zero_le _, rfl, by simp, Below.refl _ _⟩
  case round =>
    obtain ⟨k, hk, rfl, hno, hbel⟩ := hrel
    have HN := Lib.hid hno
    clear hno
    by_cases hlt : k < l.length
    · obtain ⟨b, off, rfl, hbl, hc⟩ := (H1.out.below hbel).cell k hlt
      obtain ⟨g1, g2⟩ := hc k hlt
      have hi : (k : Int) < (l.length : Int) := by omega
      have HT := Lib.hid (take_getS l k hlt)
      have HM := Lib.hid (getD_mem hlt)
      have HU := Lib.hid (hwf _ HM.out)
      obtain ⟨g, hg⟩ : ∃ g, g = l.getD k (0, 0) := ⟨_, rfl⟩
      rw [← hg] at g1 g2 HT HM HU
      obtain ⟨c, u⟩ := g
      clear hc hg
      by_cases hok : okSeg (c, u)
      · have hb : (!decide (okSeg (c, u))) = false := by rw [decide_eq_true hok]; rfl
        have HE := Lib.hid hok
        clear hok
        go_wp2_with (go_at_call 37; refine (bad_any c u HU.out _).mono ?_; rintro e w2 ⟨rfl, hb2⟩; rw [hb])
        go_roundw
        case rel => exact ⟨k + 1, by omega, by go_num, by rw [HT.out]; intro g hg; rcases List.mem_append.1 hg with hg | hg; exact HN.out g hg; rw [List.mem_singleton.1 hg]; exact HE.out, hbel.link hb2⟩
        case measure => simp [intOf]; omega
      · have hb : (!decide (okSeg (c, u))) = true := by rw [decide_eq_false hok]; rfl
        have HE := Lib.hid hok
        clear hok
        go_wp2_with (go_at_call 37; refine (bad_any c u HU.out _).mono ?_; rintro e w2 ⟨rfl, hb2⟩; rw [hb])
        go_ret
        exact ⟨⟨k, rfl, ⟨fun _ h => HE.out (h _ HM.out), fun _ => by omega⟩⟩, hbel.link hb2⟩
    · have hi : ¬ ((k : Int) < (l.length : Int)) := by omega
      have HE : Hid (∀ g ∈ l, okSeg g) := by
        have h := HN.out
        rwa [List.take_of_length_le (by omega)] at h
      go_wp2_with fail
      go_ret
      exact ⟨⟨-1, rfl, ⟨fun h => absurd h (by decide), fun ⟨_, _, hm, hn⟩ => absurd (HE.out _ hm) hn⟩⟩, hbel⟩
set_option maxHeartbeats 400000 in
theorem contains_any (ao : Option Addr) (l : Segs) (cap : Nat) (w : World) (hl : l.length ≤ 5000) (hwf : Wf l) (h : SegAt w ao l) : Calls Tryd.prog 39 #[.slice ao l.length cap, .func (.func 37) #[] #[]] w fun e w' => e = .returned (.bool (decide (¬ ∀ g ∈ l, okSeg g))) ∧ Below w.heap.size w w' := by
  go_enter Tryd.func39, Tryd.ntmps39
  go_wp2_with (go_at_call 54; refine (index_any _ l _ _ hl hwf h).mono ?_; rintro e w1 ⟨⟨r, rfl, hr⟩, hb1⟩)
  go_ret
  refine ⟨?_, hb1⟩
  have hd : decide (¬ ∀ g ∈ l, okSeg g) = decide (0 ≤ r) := decide_eq_decide.2 hr.symm
  rw [hd]; rfl
set_option maxHeartbeats 400000 in
theorem check_any (ao : Option Addr) (l : Segs) (cap : Nat) (w : World) (hwf : Wf l) (h : SegAt w ao l) : Calls Tryd.prog 14 #[.slice ao l.length cap] w fun e w' => e = .returned (.bool (decide (okS l))) ∧ Below w.heap.size w w' := by
  by_cases hlen : l.length ≤ 200
  · have hd : (l.length : Int) ≤ 200 := by omega
    have HD : Hid (decide (okS l) = decide (∀ g ∈ l, okSeg g)) := decide_eq_decide.2 ⟨fun h => h.2, fun h => ⟨hlen, h⟩⟩
    go_enter Tryd.func14, Tryd.ntmps14
    go_wp2_with (go_at_call 39; refine (contains_any ao l _ _ (by omega) hwf h).mono ?_; rintro e w1 ⟨rfl, hb1⟩)
    go_ret
    exact ⟨by rw [HD.out]; rfl, hb1⟩
  · have hd : decide ((l.length : Int) ≤ 200) = false := by rw [decide_eq_false_iff_not]; omega
    have HD : Hid (decide (okS l) = false) := decide_eq_false (fun h => hlen h.1)
    go_enter Tryd.func14, Tryd.ntmps14
    go_wp2_with fail
    go_ret
    exact ⟨by rw [HD.out]; rfl, Below.refl _ _⟩
end Go.Proofs.YtfnokklcbmipgaaDoor
