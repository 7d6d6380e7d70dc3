/- arena.Free. -/
import Derived.Test.YtfnokklcbmipgaaDoorA5
import Derived.BigRegion
namespace Go.Proofs.YtfnokklcbmipgaaDoor
open Go.RowKit Plain

theorem segCells_used : ∀ (l : Segs) (k : Nat) (v : Nat), k < l.length → (segCells l).set (k * 2 + 1) (.int .u64 v) = segCells (l.set k ((l.getD k (0, 0)).1, v))
  | g :: l, 0, v, _ => rfl
  | g :: l, k + 1, v, h => by
    have ih := segCells_used l k v (by simpa using h)
    rw [show (k + 1) * 2 + 1 = k * 2 + 1 + 1 + 1 by omega]
    show Value.int .i64 g.1 :: Value.int .u64 g.2 :: (segCells l).set (k * 2 + 1) (.int .u64 v) = _
    rw [ih]; rfl
theorem segCells_class : ∀ (l : Segs) (k : Nat) (c : Int), k < l.length → (segCells l).set (k * 2) (.int .i64 c) = segCells (l.set k (c, (l.getD k (0, 0)).2))
  | g :: l, 0, v, _ => rfl
  | g :: l, k + 1, v, h => by
    have ih := segCells_class l k v (by simpa using h)
    rw [show (k + 1) * 2 = k * 2 + 1 + 1 by omega]
    show Value.int .i64 g.1 :: Value.int .u64 g.2 :: (segCells l).set (k * 2) (.int .i64 v) = _
    rw [ih]; rfl
theorem SegNew.some {w : World} {base cap : Nat} {ao : Option Addr} {l : Segs} (h : SegNew w base ao cap l) (hl : 0 < l.length) : ∃ g, ao = .some ⟨g, 0, none⟩ ∧ base ≤ g ∧ g < w.heap.size := by
  rcases h.2 with ⟨_, hn⟩ | ⟨g, cap', cur, hv, hb, hg, _⟩
  · omega
  · simp only [Value.slice.injEq] at hv
    exact ⟨g, hv.1, hb, (Array.getElem?_eq_some_iff.1 hg).1⟩
theorem SegNew.used {w : World} {base cap g : Nat} {l : Segs} (h : SegNew w base (.some ⟨g, 0, none⟩) cap l) (k v : Nat) (hk : k < l.length) : SegNew (w.setCell ⟨g, k * 2 + 1, none⟩ (.int .u64 v)) base (.some ⟨g, 0, none⟩) cap (l.set k ((l.getD k (0, 0)).1, v)) := by
  have h1 := (World.ownsRow.stored h (k * 2 + 1) (.int .u64 v)).1
  unfold SegNew
  rw [List.length_set, ← segCells_used l k v hk]
  exact h1
theorem SegNew.class {w : World} {base cap g : Nat} {l : Segs} (h : SegNew w base (.some ⟨g, 0, none⟩) cap l) (k : Nat) (c : Int) (hk : k < l.length) : SegNew (w.setCell ⟨g, k * 2, none⟩ (.int .i64 c)) base (.some ⟨g, 0, none⟩) cap (l.set k (c, (l.getD k (0, 0)).2)) := by
  have h1 := (World.ownsRow.stored h (k * 2) (.int .i64 c)).1
  unfold SegNew
  rw [List.length_set, ← segCells_class l k c hk]
  exact h1
theorem SegNew.drew {w : World} {base cap : Nat} {ao : Option Addr} {l : Segs} (h : SegNew w base ao cap l) : SegNew w.drew base ao cap l := World.ownsRow.drew h
/-- What is left of a segment. -/
def freeSeg (g : Int × Nat) (n : Nat) : Int × Nat := if g.2 - 2 ^ n = 0 then (-1, 0) else (g.1, g.2 - 2 ^ n)
noncomputable def freeL (l : Segs) (s a : Int) : Segs := if okS l ∧ hasL l s a then l.set s.toNat (freeSeg (l.getD s.toNat (0, 0)) a.toNat) else l
noncomputable def freeE (l : Segs) (s a : Int) : Int := if okS l ∧ hasL l s a then 0 else 120
theorem freeL_len (l : Segs) (s a : Int) : (freeL l s a).length = l.length := by unfold freeL; split <;> simp
/-- A slot in a block. -/
def SlotBox (w : World) (b : Nat) (s a : Int) : Prop := w.cell? ⟨b, 0, none⟩ = Option.some (.int .i64 s) ∧ w.cell? ⟨b, 1, none⟩ = Option.some (.int .i64 a)
theorem SlotBox.below {w w' : World} {b B : Nat} {s a : Int} (h : SlotBox w b s a) (hb : Below B w w') (hB : b < B) : SlotBox w' b s a := ⟨(hb.cell (p := ⟨b, 0, none⟩) hB).trans h.1, (hb.cell (p := ⟨b, 1, none⟩) hB).trans h.2⟩
theorem SlotBox.mk' (w : World) (s a : Int) : SlotBox (w.alloc (.cells #[.int .i64 s, .int .i64 a] 24)) w.heap.size s a := ⟨by simp, by simp⟩
def FreeOk (l : Segs) (s a : Int) (w : World) (e : Ending) (w' : World) : Prop := (∃ ao cap, e = .returned (.tuple #[.slice ao l.length cap, .int .i64 (freeE l s a)]) ∧ SegNew w' w.heap.size ao cap (freeL l s a)) ∧ Below w.heap.size w w'
set_option maxHeartbeats 1000000 in
theorem free_any (ao : Option Addr) (l : Segs) (cap : Nat) (s a : Int) (w : World) (hl5 : l.length ≤ 5000) (hwf : Wf l) (h : SegAt w ao l) (hn : ao = none → cap = 0) : Calls Tryd.prog 17 #[.slice ao l.length cap, .agg #[.int .i64 s, .int .i64 a]] w (FreeOk l s a w) := by
  have hb0 : Below w.heap.size w (w.alloc (.cells #[.int .i64 s, .int .i64 a] 24)) := (Below.refl _ _).alloc (Nat.le_refl _) _
  have H := Lib.hid (h.more (.cells #[.int .i64 s, .int .i64 a] 24))
  have hsz0 : (w.alloc (.cells #[.int .i64 s, .int .i64 a] 24)).heap.size = w.heap.size + 1 := by simp
  clear h
  by_cases hh : okS l ∧ hasL l s a
  · have HD := Lib.hid (decide_eq_true hh)
    have HE : Hid (freeE l s a = 0) := if_pos hh
    obtain ⟨hok, h1, h2, h3, h4⟩ := hh
    obtain ⟨k, rfl⟩ : ∃ k : Nat, s = k := ⟨s.toNat, by omega⟩
    obtain ⟨n, rfl⟩ : ∃ n : Nat, a = n := ⟨a.toNat, by omega⟩
    have hk : k < l.length := by omega
    have HF : Hid (freeL l k n = l.set k (freeSeg (l.getD k (0, 0)) n)) := if_pos ⟨hok, h1, h2, h3, h4⟩
    have hu : (l.getD k (0, 0)).2 < 18446744073709551616 := hwf _ (getD_mem hk)
    have hn64 : n < 64 := bit_lt (show (l.getD k (0, 0)).2.testBit n = true from h4) (show (l.getD k (0, 0)).2 < 2 ^ 64 by omega)
    obtain ⟨v, hv, hvb⟩ := bit_sub (show (l.getD k (0, 0)).2.testBit n = true from h4)
    have hp : 2 ^ n < 18446744073709551616 := by
      have := Nat.pow_lt_pow_right (show 1 < 2 by decide) hn64
      have e : (2 : Nat) ^ 64 = 18446744073709551616 := by decide
      omega
    have hpi : IntKind.u64.wrap (2 ^ n) = ((2 ^ n : Nat) : Int) := by
      rw [show ((2 : Int) ^ n) = ((2 ^ n : Nat) : Int) by rw [Int.natCast_pow]; rfl]
      exact wrap_cast _ _ rfl hp
    have key : bits .andNot .u64 ((l.getD k (0, 0)).2 : Int) (IntKind.u64.wrap (2 ^ n)) = (v : Int) := by
      rw [hpi, andNot_cast _ _ hu hp, hv, andNot_sub hn64 hvb (by omega)]
    have hfs : freeSeg (l.getD k (0, 0)) n = if v = 0 then (-1, 0) else ((l.getD k (0, 0)).1, v) := by
      unfold freeSeg
      rw [hv, Nat.add_sub_cancel]
    have hkl : (k : Int) < (l.length : Int) := by omega
    have hkk : k * 2 < l.length * 2 := by omega
    have hn' : (n : Int) ≤ 64 := by omega
    obtain ⟨u, hu'⟩ : ∃ u, u = (l.getD k (0, 0)).2 := ⟨_, rfl⟩
    rw [← hu'] at key
    have HU := Lib.hid hu'
    have HFS := Lib.hid hfs
    clear hok h1 h2 h3 h4 hv hvb hpi hfs hu hu'
    have SB := SlotBox.mk' w (k : Int) (n : Int)
    by_cases hv0 : v = 0
    · have HV := Lib.hid hv0
      have hz : ((v : Int) == 0) = true := by simpa using hv0
      clear hv0
      go_enter Tryd.func17, Tryd.ntmps17
      go_wp2_with (first
        | (go_at_call 40; refine (clone_any ao l cap _ hl5 H.out hn).mono ?_; rintro e w1 ⟨⟨ao1, cap1, rfl, hnew⟩, hb1⟩; obtain ⟨g, rfl, hgb, hgs⟩ := hnew.some (by omega); have SB1 := SB.below hb1 (by omega); obtain ⟨c0, c1⟩ := SB1; have SB1 := SB.below hb1 (by omega))
        | (go_at_call 18; refine (has_any _ l _ _ _ _ hwf hnew.at).mono ?_; rintro e w2 ⟨rfl, hb2⟩; rw [HD.out]; have SB2 := SB1.below hb2 (by omega); obtain ⟨d0, d1⟩ := SB2; have hnew2 := hnew.below hb2; have f1 := World.ownsRow.frozenAt hnew2 (k * 2 + 1); have f2 := World.ownsRow.frozenAt hnew2 (k * 2); have g1 := (World.ownsRow.cellAt hnew2 (k * 2) (by omega)).trans (segCells_at l k hk).1; have g2 := (World.ownsRow.cellAt hnew2 (k * 2 + 1) (by omega)).trans (segCells_at l k hk).2; rw [← HU.out] at g2; have hne : ¬ (w.heap.size = g) := (by omega); have hne2 : ¬ (g = w.heap.size) := (by omega)))
      go_region
      go_wp2_with fail
      go_ret2
      have hlen : (l.set k (freeSeg (l.getD k (0, 0)) n)).length = l.length := List.length_set
      refine ⟨⟨some ⟨g, 0, none⟩, cap1, by rw [HE.out]; rfl, ?_⟩, ?_⟩
      · have h1 := (hnew2.used k v hk).class k (-1) (by rw [List.length_set]; exact hk)
        rw [List.set_set, List.getD_eq_getElem?_getD (l := l.set k _), List.getElem?_set_self hk] at h1
        have h2 : l.set k (-1, v) = freeL l k n := by rw [HF.out, HFS.out, if_pos HV.out, HV.out]
        have h3 : SegNew _ _ _ _ (l.set k (-1, v)) := h1
        rw [h2] at h3
        have h4 := (h3.mono (by omega : w.heap.size ≤ (w.alloc (.cells #[.int .i64 k, .int .i64 n] 24)).heap.size)).drew
        exact h4
      · exact below_drewN _ _ 1 _ ((((hb0.link hb1).link hb2).setCell (by show w.heap.size ≤ g; omega) _).setCell (by show w.heap.size ≤ g; omega) _)
    · have HV := Lib.hid hv0
      have hz : ((v : Int) == 0) = false := by simpa using hv0
      clear hv0
      go_enter Tryd.func17, Tryd.ntmps17
      go_wp2_with (first
        | (go_at_call 40; refine (clone_any ao l cap _ hl5 H.out hn).mono ?_; rintro e w1 ⟨⟨ao1, cap1, rfl, hnew⟩, hb1⟩; obtain ⟨g, rfl, hgb, hgs⟩ := hnew.some (by omega); have SB1 := SB.below hb1 (by omega); obtain ⟨c0, c1⟩ := SB1; have SB1 := SB.below hb1 (by omega))
        | (go_at_call 18; refine (has_any _ l _ _ _ _ hwf hnew.at).mono ?_; rintro e w2 ⟨rfl, hb2⟩; rw [HD.out]; have SB2 := SB1.below hb2 (by omega); obtain ⟨d0, d1⟩ := SB2; have hnew2 := hnew.below hb2; have f1 := World.ownsRow.frozenAt hnew2 (k * 2 + 1); have f2 := World.ownsRow.frozenAt hnew2 (k * 2); have g1 := (World.ownsRow.cellAt hnew2 (k * 2) (by omega)).trans (segCells_at l k hk).1; have g2 := (World.ownsRow.cellAt hnew2 (k * 2 + 1) (by omega)).trans (segCells_at l k hk).2; rw [← HU.out] at g2; have hne : ¬ (w.heap.size = g) := (by omega); have hne2 : ¬ (g = w.heap.size) := (by omega)))
      go_region
      go_wp2_with fail
      go_ret2
      have hlen : (l.set k (freeSeg (l.getD k (0, 0)) n)).length = l.length := List.length_set
      refine ⟨⟨some ⟨g, 0, none⟩, cap1, by rw [HE.out]; rfl, ?_⟩, ?_⟩
      · have h3 := hnew2.used k v hk
        have h2 : l.set k ((l.getD k (0, 0)).1, v) = freeL l k n := by rw [HF.out, HFS.out, if_neg HV.out]
        rw [h2] at h3
        have h4 := (h3.mono (by omega : w.heap.size ≤ (w.alloc (.cells #[.int .i64 k, .int .i64 n] 24)).heap.size)).drew
        exact h4
      · exact below_drewN _ _ 1 _ (((hb0.link hb1).link hb2).setCell (by show w.heap.size ≤ g; omega) _)
  · have HD := Lib.hid (decide_eq_false hh)
    have HE : Hid (freeE l s a = 120) := if_neg hh
    have HF : Hid (freeL l s a = l) := if_neg hh
    have SB := SlotBox.mk' w s a
    clear hh
    go_enter Tryd.func17, Tryd.ntmps17
    go_wp2_with (first
      | (go_at_call 40; refine (clone_any ao l cap _ hl5 H.out hn).mono ?_; rintro e w1 ⟨⟨ao1, cap1, rfl, hnew⟩, hb1⟩; have SB1 := SB.below hb1 (by omega); obtain ⟨c0, c1⟩ := SB1)
      | (go_at_call 18; refine (has_any _ l _ _ _ _ hwf hnew.at).mono ?_; rintro e w2 ⟨rfl, hb2⟩; rw [HD.out]))
    go_ret2
    refine ⟨⟨ao1, cap1, by rw [HE.out]; rfl, ?_⟩, (hb0.link hb1).link hb2⟩
    rw [HF.out]
    exact (hnew.below hb2).mono (by omega)
end Go.Proofs.YtfnokklcbmipgaaDoor
