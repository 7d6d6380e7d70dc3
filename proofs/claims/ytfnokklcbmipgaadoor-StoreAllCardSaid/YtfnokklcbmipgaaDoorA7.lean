/- arena.Take. -/
import Derived.Test.YtfnokklcbmipgaaDoorA6
import Derived.OwnWalk
import Derived.WalkMore
namespace Go.Proofs.YtfnokklcbmipgaaDoor
open Go.RowKit Plain

def openC (c : Int) (g : Int × Nat) : Bool := decide (g.1 = c) && decide (g.2 ≠ allN c)
def freeC (g : Int × Nat) : Bool := decide (g.1 = -1)
def seek (l : Segs) (c : Int) : Option Nat := match l.findIdx? (openC c) with
  | some i => some i
  | none => l.findIdx? freeC
/-- What Take hands back: segments, a slot, a number. -/
def takeL (l : Segs) (c : Int) : Segs × (Int × Int) × Int :=
  if ¬ okS l then (l, (0, 0), 120) else if bytesC c = 0 then (l, (0, 0), 100) else match seek l c with
    | none => (l, (0, 0), 110)
    | some i => (l.set i (c, (l.getD i (0, 0)).2 + 2 ^ fz (l.getD i (0, 0)).2), (i, fz (l.getD i (0, 0)).2), 0)
theorem takeL_len (l : Segs) (c : Int) : (takeL l c).1.length = l.length := by
  unfold takeL
  split
  · rfl
  · split
    · rfl
    · split
      · rfl
      · simp
def toI (o : Option Nat) : Int := match o with | some i => i | none => -1
theorem find_snoc (p : Int × Nat → Bool) (l : Segs) (k : Nat) (hk : k < l.length) : (l.take (k + 1)).findIdx? p = match (l.take k).findIdx? p with | some i => some i | none => if p (l.getD k (0, 0)) = true then some k else none := by
  rw [take_getS l k hk, List.findIdx?_append]
  cases h : (l.take k).findIdx? p with
  | some i => rfl
  | none =>
    have hlen : (l.take k).length = k := by rw [List.length_take]; omega
    rw [hlen]
    generalize l.getD k (0, 0) = g
    by_cases hp : p g = true
    · rw [List.findIdx?_cons, if_pos hp, if_pos hp]; simp
    · rw [List.findIdx?_cons, if_neg hp, if_neg hp]; simp
theorem find_hit (p : Int × Nat → Bool) (l : Segs) (k : Nat) (hk : k < l.length) (h0 : (l.take k).findIdx? p = none) (hp : p (l.getD k (0, 0)) = true) : l.findIdx? p = some k := by
  have h1 := find_snoc p l k hk
  rw [h0, hp] at h1
  have h1 : (l.take (k + 1)).findIdx? p = some k := h1
  conv => lhs; rw [← List.take_append_drop (k + 1) l]
  rw [List.findIdx?_append, h1]; rfl
theorem find_lt {p : Int × Nat → Bool} {l : Segs} {i : Nat} (h : l.findIdx? p = some i) : i < l.length ∧ p (l.getD i (0, 0)) = true ∧ ∀ j, j < i → p (l.getD j (0, 0)) = false := by
  rw [List.findIdx?_eq_some_iff_getElem] at h
  obtain ⟨h1, h2, h3⟩ := h
  refine ⟨h1, ?_, ?_⟩
  · rw [List.getD_eq_getElem?_getD, List.getElem?_eq_getElem h1]; exact h2
  · intro j hj
    have := h3 j hj
    rw [List.getD_eq_getElem?_getD, List.getElem?_eq_getElem (by omega)]
    simpa using this
def TakeOk (l : Segs) (c : Int) (w : World) (e : Ending) (w' : World) : Prop := (∃ ao cap, e = .returned (.tuple #[.slice ao l.length cap, .agg #[.int .i64 (takeL l c).2.1.1, .int .i64 (takeL l c).2.1.2], .int .i64 (takeL l c).2.2]) ∧ SegNew w' w.heap.size ao cap (takeL l c).1) ∧ Below w.heap.size w w'
theorem results_slot {fn : Func} {t p u : Tmp} (h : fn.results = #[.tmp t, .cell p 24, .tmp u]) (tmps : Array Value) (w : World) (b : Nat) (s a : Int) (hat : SlotBox w b s a) (hv : tmps.getD p undef = .pointer (some ⟨b, 0, none⟩)) :
    (results fn tmps).run Tryd.prog w = .ok (.tuple #[tmps.getD t undef, .agg #[.int .i64 s, .int .i64 a], tmps.getD u undef]) w := by
  obtain ⟨h0, h1⟩ := hat
  have hv2 : tmps[p]?.getD undef = .pointer (some ⟨b, 0, none⟩) := by simpa using hv
  simp [results, h, hv2, asAddr]
  go_simp
theorem frozen_row {w : World} {b : Nat} {c : Array Value} {t : TypeId} (h : w.heap[b]? = some (.cells c t (0, 0))) (o : Nat) : w.frozen? ⟨b, o, none⟩ = false := by
  unfold World.frozen?
  simp [h]
/-- The result's cell. -/
def SlotRow (w : World) (b : Nat) (s a : Int) : Prop := w.heap[b]? = some (.cells #[.int .i64 s, .int .i64 a] 24 (0, 0))
theorem SlotRow.below {w w' : World} {b B : Nat} {s a : Int} (h : SlotRow w b s a) (hb : Below B w w') (hB : b < B) : SlotRow w' b s a := by
  unfold SlotRow
  rw [hb.block b hB]; exact h
theorem SlotRow.new (w : World) (s a : Int) : SlotRow (w.alloc (.cells #[.int .i64 s, .int .i64 a] 24)) w.heap.size s a := heap_alloc_new w _
theorem SlotRow.box {w : World} {b : Nat} {s a : Int} (h : SlotRow w b s a) : SlotBox w b s a := ⟨by rw [cell_of_row _ _ _ _ _ _ h]; rfl, by rw [cell_of_row _ _ _ _ _ _ h]; rfl⟩
theorem SlotRow.store {w : World} {b : Nat} {s a : Int} (h : SlotRow w b s a) (s' a' : Int) : SlotBox ((w.setCell ⟨b, 0, none⟩ (.int .i64 s')).setCell ⟨b, 1, none⟩ (.int .i64 a')) b s' a' := by
  obtain ⟨h0, h1⟩ := h.box
  refine ⟨?_, ?_⟩
  · rw [World.cell?_setCell_other _ _ _ _ (by simp), World.cell?_setCell_same _ _ _ h0]
  · rw [World.cell?_setCell_same _ _ _ ((World.cell?_setCell_other _ _ _ _ (by simp)).trans h1)]
theorem SegNew.other {w : World} {base cap : Nat} {ao : Option Addr} {l : Segs} (h : SegNew w base ao cap l) (c o : Nat) (u : Value) (hc : c < base) : SegNew (w.setCell ⟨c, o, none⟩ u) base ao cap l := by
  refine ⟨h.1, ?_⟩
  rcases h.2 with hn | ⟨g, cap, cur, hv, hb, hg, rest⟩
  · exact .inl hn
  · exact .inr ⟨g, cap, cur, hv, hb, by rw [Below.heap_setCell _ _ _ _ (by simp; omega)]; exact hg, rest⟩
theorem zero24 : (Tryd.prog.info? 24).map (fun i => (i.zero, i.size)) = some (some (.agg #[.int .i64 0, .int .i64 0]), 2) := by kernel_rfl
set_option maxHeartbeats 1000000 in
theorem take_no (ao : Option Addr) (l : Segs) (cap : Nat) (c : Int) (w : World) (hl5 : l.length ≤ 5000) (hwf : Wf l) (h : SegAt w ao l) (hn : ao = none → cap = 0) (hno : ¬ okS l) : Calls Tryd.prog 15 #[.slice ao l.length cap, .int .i64 c] w (TakeOk l c w) := by
  have hb0 : Below w.heap.size w (w.alloc (.cells #[.int .i64 0, .int .i64 0] 24)) := (Below.refl _ _).alloc (Nat.le_refl _) _
  have H := Lib.hid (h.more (.cells #[.int .i64 0, .int .i64 0] 24))
  have hsz0 : (w.alloc (.cells #[.int .i64 0, .int .i64 0] 24)).heap.size = w.heap.size + 1 := by simp
  have SB := SlotRow.new w 0 0
  have HT : Hid (takeL l c = (l, (0, 0), 120)) := if_pos hno
  have HD := Lib.hid (decide_eq_false hno)
  clear h hno
  go_enter Tryd.func15, Tryd.ntmps15
  go_wp2_with fail
  go_step3
  go_wp2_with (first
    | (go_at_call 40; refine (clone_any ao l cap _ hl5 H.out hn).mono ?_; rintro e w1 ⟨⟨ao1, cap1, rfl, hnew⟩, hb1⟩; have SB1 := SB.below hb1 (by omega))
    | (go_at_call 14; refine (check_any _ l _ _ hwf hnew.at).mono ?_; rintro e w2 ⟨rfl, hb2⟩; rw [HD.out]; have hlt1 := hb1.size; have SB2 := SB1.below hb2 (by omega); obtain ⟨d0, d1⟩ := SB2.box; have f0 := frozen_row SB2 0; have f1 := frozen_row SB2 1))
  rw [Exit.noGoto_ret]
  refine bodyPost_ret (results_slot rfl _ _ w.heap.size 0 0 (SB2.store 0 0) rfl) rfl ⟨⟨ao1, cap1, by rw [HT.out]; rfl, ?_⟩, ?_⟩
  · rw [HT.out]
    exact (((hnew.below hb2).other _ _ _ (by omega)).other _ _ _ (by omega)).mono (by omega)
  · exact (((hb0.link hb1).link hb2).setCell (Nat.le_refl _) _).setCell (Nat.le_refl _) _
set_option maxHeartbeats 1000000 in
theorem take_size (ao : Option Addr) (l : Segs) (cap : Nat) (c : Int) (w : World) (hl5 : l.length ≤ 5000) (hwf : Wf l) (h : SegAt w ao l) (hn : ao = none → cap = 0) (hok : okS l) (hc0 : bytesC c = 0) : Calls Tryd.prog 15 #[.slice ao l.length cap, .int .i64 c] w (TakeOk l c w) := by
  have hb0 : Below w.heap.size w (w.alloc (.cells #[.int .i64 0, .int .i64 0] 24)) := (Below.refl _ _).alloc (Nat.le_refl _) _
  have H := Lib.hid (h.more (.cells #[.int .i64 0, .int .i64 0] 24))
  have hsz0 : (w.alloc (.cells #[.int .i64 0, .int .i64 0] 24)).heap.size = w.heap.size + 1 := by simp
  have SB := SlotRow.new w 0 0
  have HT : Hid (takeL l c = (l, (0, 0), 100)) := by
    show _ = _
    unfold takeL
    rw [if_neg (fun h => h hok), if_pos hc0]
  have HD := Lib.hid (decide_eq_true hok)
  have HB := Lib.hid hc0
  clear h hok hc0
  go_enter Tryd.func15, Tryd.ntmps15
  go_wp2_with fail
  go_step3
  go_wp2_with (first
    | (go_at_call 40; refine (clone_any ao l cap _ hl5 H.out hn).mono ?_; rintro e w1 ⟨⟨ao1, cap1, rfl, hnew⟩, hb1⟩; have SB1 := SB.below hb1 (by omega))
    | (go_at_call 14; refine (check_any _ l _ _ hwf hnew.at).mono ?_; rintro e w2 ⟨rfl, hb2⟩; rw [HD.out]; have hlt1 := hb1.size; have SB2 := SB1.below hb2 (by omega); obtain ⟨d0, d1⟩ := SB2.box; have f0 := frozen_row SB2 0; have f1 := frozen_row SB2 1)
    | (go_at_call 41; refine (bytes_any _ _).mono ?_; rintro e w3 ⟨rfl, rfl⟩; rw [HB.out]))
  rw [Exit.noGoto_ret]
  refine bodyPost_ret (results_slot rfl _ _ w.heap.size 0 0 (SB2.store 0 0) rfl) rfl ⟨⟨ao1, cap1, by rw [HT.out]; rfl, ?_⟩, ?_⟩
  · rw [HT.out]
    exact (((hnew.below hb2).other _ _ _ (by omega)).other _ _ _ (by omega)).mono (by omega)
  · exact (((hb0.link hb1).link hb2).setCell (Nat.le_refl _) _).setCell (Nat.le_refl _) _
theorem seek_facts {l : Segs} {c : Int} (hok : okS l) (hb : bytesC c ≠ 0) {i : Nat} (h : seek l c = some i) : i < l.length ∧ (l.getD i (0, 0)).2 < 2 ^ nS c ∧ (l.getD i (0, 0)).2 ≠ 2 ^ nS c - 1 := by
  have hc : c ≠ -1 := by rintro rfl; exact hb rfl
  unfold seek at h
  cases h1 : l.findIdx? (openC c) with
  | some j =>
    rw [h1] at h
    cases h
    obtain ⟨h2, h3, _⟩ := find_lt h1
    have h4 := hok.2 _ (getD_mem h2)
    unfold openC at h3
    simp only [Bool.and_eq_true, decide_eq_true_eq] at h3
    generalize l.getD i (0, 0) = g at *
    obtain ⟨cc, u⟩ := g
    obtain ⟨rfl, h5⟩ := h3
    exact ⟨h2, ((okSeg_class hc u).1 h4).2, h5⟩
  | none =>
    rw [h1] at h
    obtain ⟨h2, h3, _⟩ := find_lt h
    have h4 := hok.2 _ (getD_mem h2)
    unfold freeC at h3
    simp only [decide_eq_true_eq] at h3
    generalize l.getD i (0, 0) = g at *
    obtain ⟨cc, u⟩ := g
    have h3 : cc = -1 := h3
    subst h3
    have h5 : u = 0 := (okSeg_free u).1 h4
    subst h5
    refine ⟨h2, Nat.two_pow_pos _, ?_⟩
    have hn : 0 < nS c := by
      unfold bytesC at hb
      unfold nS
      (repeat' split) <;> simp_all
    have := Nat.pow_le_pow_right (show 0 < 2 by decide) hn
    show 0 ≠ 2 ^ nS c - 1
    omega
theorem not_cast (u : Nat) (hu : u < 18446744073709551616) : bits .xor .u64 IntKind.u64.max (u : Int) = ((18446744073709551615 - u : Nat) : Int) := by
  rw [show IntKind.u64.max = ((18446744073709551615 : Nat) : Int) by decide, bits_xor_u64_nat _ _ (by decide) hu]
  congr 1
  refine Nat.eq_of_testBit_eq fun i => ?_
  rw [Nat.testBit_xor, show 18446744073709551615 - u = 2 ^ 64 - (u + 1) by omega, Nat.testBit_two_pow_sub_succ (by omega), show (18446744073709551615 : Nat) = 2 ^ 64 - 1 by decide, Nat.testBit_two_pow_sub_one]
  by_cases hi : i < 64
  · simp [hi]
  · rw [Nat.testBit_lt_two_pow (i := i) (x := u) (Nat.lt_of_lt_of_le (show u < 2 ^ 64 by omega) (Nat.pow_le_pow_right (by decide) (by omega)))]
    simp [hi]
theorem not_cast' (u : Nat) (hu : u < 18446744073709551616) : bits .xor .u64 (if IntKind.u64.signed = true then -1 else IntKind.u64.max) (u : Int) = ((18446744073709551615 - u : Nat) : Int) := not_cast u hu
theorem or_cast (u k : Nat) (h : u.testBit k = false) (hk : k < 64) (hu : u < 18446744073709551616) : bits .or .u64 (u : Int) (IntKind.u64.wrap (2 ^ k)) = ((u + 2 ^ k : Nat) : Int) := by
  have hp : 2 ^ k < 18446744073709551616 := by
    have := Nat.pow_lt_pow_right (show 1 < 2 by decide) hk
    have e : (2 : Nat) ^ 64 = 18446744073709551616 := by decide
    omega
  have hpi : IntKind.u64.wrap (2 ^ k) = ((2 ^ k : Nat) : Int) := by
    rw [show ((2 : Int) ^ k) = ((2 ^ k : Nat) : Int) by rw [Int.natCast_pow]; rfl]
    exact wrap_cast _ _ rfl hp
  rw [hpi, bits_or_u64_nat _ _ hu hp, or_add u k h]
theorem tz_keep (x : Nat) (h0 : x ≠ 0) (hx : x < 18446744073709551616) (w : World) (hT : TabAt w) (P : World → Prop) (hP : P w) :
    Calls Tryd.prog 42 #[.int .u64 x] w fun e w' => e = .returned (.int .i64 (Lib.ctz 64 x)) ∧ P w' := (tz64_any x h0 hx w hT).mono fun _ _ ⟨h, h2⟩ => ⟨h, h2 ▸ hP⟩
theorem SlotRow.other {w : World} {b : Nat} {s a : Int} (h : SlotRow w b s a) (c o : Nat) (u : Value) (hne : b ≠ c) : SlotRow (w.setCell ⟨c, o, none⟩ u) b s a := by
  unfold SlotRow
  rw [Below.heap_setCell _ _ _ _ hne]; exact h
/-- What stands where a place is found. -/
structure Found (w w4 : World) (g cap : Nat) (l : Segs) : Prop where
  slot : SlotRow w4 w.heap.size 0 0
  seg : SegNew w4 (w.heap.size + 1) (some ⟨g, 0, none⟩) cap l
  bel : Below w.heap.size w w4
theorem Found.end {w w4 : World} {g cap : Nat} {l : Segs} (h : Found w w4 g cap l) (hg : w.heap.size + 1 ≤ g) (i v : Nat) (c n : Int) (hi : i < l.length) :
    SlotBox ((((w4.setCell ⟨g, i * 2, none⟩ (.int .i64 c)).setCell ⟨g, i * 2 + 1, none⟩ (.int .u64 v)).drew.setCell ⟨w.heap.size, 0, none⟩ (.int .i64 i)).setCell ⟨w.heap.size, 1, none⟩ (.int .i64 n)) w.heap.size i n ∧
    SegNew ((((w4.setCell ⟨g, i * 2, none⟩ (.int .i64 c)).setCell ⟨g, i * 2 + 1, none⟩ (.int .u64 v)).drew.setCell ⟨w.heap.size, 0, none⟩ (.int .i64 i)).setCell ⟨w.heap.size, 1, none⟩ (.int .i64 n)) w.heap.size (some ⟨g, 0, none⟩) cap (l.set i (c, v)) ∧
    Below w.heap.size w ((((w4.setCell ⟨g, i * 2, none⟩ (.int .i64 c)).setCell ⟨g, i * 2 + 1, none⟩ (.int .u64 v)).drew.setCell ⟨w.heap.size, 0, none⟩ (.int .i64 i)).setCell ⟨w.heap.size, 1, none⟩ (.int .i64 n)) := by
  have h1 : SlotRow (((w4.setCell ⟨g, i * 2, none⟩ (.int .i64 c)).setCell ⟨g, i * 2 + 1, none⟩ (.int .u64 v)).drew) w.heap.size 0 0 := (h.slot.other g _ _ (by omega)).other g _ _ (by omega)
  have h2 := (h.seg.class i c hi).used i v (by rw [List.length_set]; exact hi)
  rw [List.set_set, List.getD_eq_getElem?_getD (l := l.set i _), List.getElem?_set_self hi] at h2
  have h2 : SegNew _ _ _ _ (l.set i (c, v)) := h2
  refine ⟨h1.store _ _, ?_, ?_⟩
  · exact ((h2.drew.other _ _ _ (by omega)).other _ _ _ (by omega)).mono (by omega)
  · have h3 := below_drewN _ _ 1 _ ((h.bel.setCell (p := ⟨g, i * 2, none⟩) (by show w.heap.size ≤ g; omega) (.int .i64 c)).setCell (p := ⟨g, i * 2 + 1, none⟩) (by show w.heap.size ≤ g; omega) (.int .u64 v))
    exact (h3.setCell (Nat.le_refl _) _).setCell (Nat.le_refl _) _
set_option maxHeartbeats 1000000 in
theorem take_main (ao : Option Addr) (l : Segs) (cap : Nat) (c : Int) (w : World) (hl5 : l.length ≤ 5000) (hwf : Wf l) (h : SegAt w ao l) (hn : ao = none → cap = 0) (hok : okS l) (hc0 : bytesC c ≠ 0) (hT : TabAt w) : Calls Tryd.prog 15 #[.slice ao l.length cap, .int .i64 c] w (TakeOk l c w) := by
  have hb0 : Below w.heap.size w (w.alloc (.cells #[.int .i64 0, .int .i64 0] 24)) := (Below.refl _ _).alloc (Nat.le_refl _) _
  have H := Lib.hid (h.more (.cells #[.int .i64 0, .int .i64 0] 24))
  have hsz0 : (w.alloc (.cells #[.int .i64 0, .int .i64 0] 24)).heap.size = w.heap.size + 1 := by simp
  have SB := SlotRow.new w 0 0
  have HD := Lib.hid (decide_eq_true hok)
  have hbz : (bytesC c == 0) = false := by simpa using hc0
  have hcm : c ≠ -1 := by rintro rfl; exact hc0 rfl
  have HS := Lib.hid (fun i h => seek_facts hok hc0 (i := i) h)
  have HTL : Hid (takeL l c = match seek l c with | none => (l, (0, 0), 110) | some i => (l.set i (c, (l.getD i (0, 0)).2 + 2 ^ fz (l.getD i (0, 0)).2), (i, fz (l.getD i (0, 0)).2), 0)) := by
    show _ = _
    unfold takeL
    rw [if_neg (fun h => h hok), if_neg hc0]
  have HOK := Lib.hid hok
  clear h hok hc0
  go_enter Tryd.func15, Tryd.ntmps15
  go_wp2_with fail
  go_step3
  go_wp2_with (first
    | (go_at_call 40; refine (clone_any ao l cap _ hl5 H.out hn).mono ?_; rintro e w1 ⟨⟨ao1, cap1, rfl, hnew⟩, hb1⟩; have SB1 := SB.below hb1 (by omega))
    | (go_at_call 14; refine (check_any _ l _ _ hwf hnew.at).mono ?_; rintro e w2 ⟨rfl, hb2⟩; rw [HD.out]; have hlt1 := hb1.size; have SB2 := SB1.below hb2 (by omega); have hnew2 := hnew.below hb2)
    | (go_at_call 41; refine (bytes_any _ _).mono ?_; rintro e w3 ⟨rfl, rfl⟩))
  have hlt2 := hb2.size
  have K2 := (hb0.link hb1).link hb2
  go_step3
  go_wp2_with fail
  go_loopw [8, 26] (fun p i wr => ∃ k : Nat, k ≤ l.length ∧ i = .int .i64 k ∧ (l.take k).findIdx? (openC c) = none ∧ p = .int .i64 (toI ((l.take k).findIdx? freeC)) ∧ Below w2.heap.size w2 wr) (fun _ i _ => l.length - (intOf i).toNat)
  case atStart => exact ⟨0, Nat.zero_le _, rfl, rfl, rfl, Below.refl _ _⟩
  case round =>
    obtain ⟨k, hk, rfl, hopen, rfl, hbel⟩ := hrel
    have SBw := SB2.below hbel (by omega)
    have hneww := hnew2.below hbel
    have hwr : w.heap.size < wr.heap.size := by have := hbel.size; omega
    by_cases hlt : k < l.length
    · obtain ⟨g, rfl, hg1, hg2⟩ := hnew2.some (by omega)
      obtain ⟨_, _, he, _, hc⟩ := hneww.at.cell k hlt
      cases he
      obtain ⟨g1, g2⟩ := hc k hlt
      rw [Nat.zero_add] at g1 g2
      have hi : (k : Int) < (l.length : Int) := by omega
      have HO := find_snoc (openC c) l k hlt
      have HF := find_snoc freeC l k hlt
      rw [hopen] at HO
      have HH := Lib.hid (find_hit (openC c) l k hlt hopen)
      obtain ⟨cc, u, hcu⟩ : ∃ cc u, (cc, u) = l.getD k (0, 0) := ⟨_, _, rfl⟩
      rw [← hcu] at g1 g2 HO HF HH
      have g1 : wr.cell? ⟨g, k * 2, none⟩ = some (.int .i64 cc) := g1
      have g2 : wr.cell? ⟨g, k * 2 + 1, none⟩ = some (.int .u64 u) := g2
      have HCU := Lib.hid hcu
      have hokg := HOK.out.2 _ (getD_mem hlt)
      clear hc hcu
      have HFK : Hid (∀ b, freeC (cc, u) = b → (l.take (k + 1)).findIdx? freeC = match (l.take k).findIdx? freeC with | some i => some i | none => if b = true then some k else none) := fun b hb => by rw [HF, hb]
      have HOK2 : Hid (openC c (cc, u) = false → (l.take (k + 1)).findIdx? (openC c) = none) := fun hb => by rw [HO, hb]; rfl
      clear HO HF
      have hplace : ((l.take k).findIdx? freeC = none ∧ toI ((l.take k).findIdx? freeC) = -1) ∨ (∃ j : Nat, (l.take k).findIdx? freeC = some j ∧ toI ((l.take k).findIdx? freeC) = j) := by
        cases (l.take k).findIdx? freeC with
        | none => exact .inl ⟨rfl, rfl⟩
        | some j => exact .inr ⟨j, rfl, rfl⟩
      have HPL : Hid (∀ b, freeC (cc, u) = b → (b = false ∨ ¬ toI ((l.take k).findIdx? freeC) < 0) → toI ((l.take (k + 1)).findIdx? freeC) = toI ((l.take k).findIdx? freeC)) := fun b hb h => by
        rw [HFK.out b hb]
        rcases hplace with ⟨h1, h2⟩ | ⟨j, h1, h2⟩
        · rcases h with rfl | h
          · rw [h1]; rfl
          · omega
        · rw [h1]
      have HPN : Hid (freeC (cc, u) = true → toI ((l.take k).findIdx? freeC) < 0 → toI ((l.take (k + 1)).findIdx? freeC) = k) := fun hb h => by
        rw [HFK.out _ hb]
        rcases hplace with ⟨h1, h2⟩ | ⟨j, h1, h2⟩
        · rw [h1]; rfl
        · omega
      obtain ⟨pv, hpv⟩ : ∃ pv, pv = toI ((l.take k).findIdx? freeC) := ⟨_, rfl⟩
      rw [← hpv] at HPL HPN
      have HPV := Lib.hid hpv
      rw [← hpv]
      clear hplace hpv HFK
      by_cases hcc : cc = c
      · have hcc' := hcc.symm
        subst hcc'
        have hb2 : (c == -1) = false := by simpa using hcm
        have hfr : Hid (freeC (c, u) = false) := decide_eq_false hcm
        by_cases hfull : u = allN c
        · have HO : Hid ((l.take (k + 1)).findIdx? (openC c) = none) := HOK2.out (by unfold openC; rw [decide_eq_false (fun h : (c, u).2 ≠ allN c => h hfull), Bool.and_false])
          have hb : ((u : Int) != (allN c : Int)) = false := by rw [hfull]; simp
          clear hfull hopen hokg
          go_wp2_with fail
          go_quiet ((go_at_call 38; exact Calls.quiet_of_same ((all_any _ _).mono fun _ _ ⟨h, h2⟩ => ⟨h, h2.symm⟩)))
          go_wp2_with fail
          go_roundw
          case rel => exact ⟨k + 1, by omega, by go_num, HO.out, by rw [HPL.out _ hfr.out (.inl rfl)], below_drewN _ _ _ _ (hbel.alloc hbel.size _)⟩
          case measure => simp [intOf]; omega
        · have hb : ((u : Int) != (allN c : Int)) = true := by simp; omega
          have hseek : seek l c = some k := by
            unfold seek
            rw [HH.out (by unfold openC; rw [decide_eq_true (show (c, u).1 = c from rfl), decide_eq_true (show (c, u).2 ≠ allN c from hfull)]; rfl)]
          have HSK := Lib.hid hseek
          clear hfull hopen hokg hseek
          go_wp2_with fail
          go_quiet ((go_at_call 38; exact Calls.quiet_of_same ((all_any _ _).mono fun _ _ ⟨h, h2⟩ => ⟨h, h2.symm⟩)))
          have KW := K2.link hbel
          have KB := below_drewN _ _ nq _ (KW.alloc KW.size (.cells #[.int .i64 c, .int .u64 u] 47))
          have KD : Below wr.heap.size wr ((wr.alloc (.cells #[.int .i64 c, .int .u64 u] 47)).drewN nq) := below_drewN _ _ _ _ ((Below.refl _ _).alloc (Nat.le_refl _) _)
          have SBF : SlotRow ((wr.alloc (.cells #[.int .i64 c, .int .u64 u] 47)).drewN nq) w.heap.size 0 0 := SBw.below KD hwr
          have SGF : SegNew ((wr.alloc (.cells #[.int .i64 c, .int .u64 u] 47)).drewN nq) (w.heap.size + 1) (some ⟨g, 0, none⟩) cap1 l := (hneww.below KD).mono (by omega)
          obtain ⟨hil, hu1, hu2⟩ := HS.out _ HSK.out
          have hu64 : (l.getD k (0, 0)).2 < 18446744073709551616 := hwf _ (getD_mem hil)
          obtain ⟨hn1, hn2, _⟩ := fz_spec (l.getD k (0, 0)).2 (nS c) (nS_le c) hu1 hu2
          have hn64 : fz (l.getD k (0, 0)).2 < 64 := Nat.lt_of_lt_of_le hn1 (nS_le c)
          have hor := or_cast _ _ hn2 hn64 hu64
          have hnot := not_cast' _ hu64
          have hTK : Hid (takeL l c = (l.set k (c, (l.getD k (0, 0)).2 + 2 ^ fz (l.getD k (0, 0)).2), ((k : Int), (fz (l.getD k (0, 0)).2 : Int)), 0)) := by
            show _ = _
            rw [HTL.out, HSK.out]
          have hctz : Lib.ctz 64 (18446744073709551615 - (l.getD k (0, 0)).2) = fz (l.getD k (0, 0)).2 := rfl
          have hx0 : 18446744073709551615 - (l.getD k (0, 0)).2 ≠ 0 := by
            have := Nat.pow_le_pow_right (show 0 < 2 by decide) (nS_le c)
            have e : (2 : Nat) ^ 64 = 18446744073709551616 := by decide
            have : 0 < 2 ^ nS c := Nat.two_pow_pos _
            omega
          have HCell := Lib.hid (segCells_at l k hil)
          obtain ⟨n, hnn⟩ : ∃ n, n = fz (l.getD k (0, 0)).2 := ⟨_, rfl⟩
          rw [← hnn] at hor hTK hctz hn64
          have hu4 : u = (l.getD k (0, 0)).2 := by rw [← HCU.out]
          rw [← hu4] at hor hnot hTK hctz hx0 HCell
          obtain ⟨v4, hv4⟩ : ∃ v4, v4 = u + 2 ^ n := ⟨_, rfl⟩
          rw [← hv4] at hor hTK
          obtain ⟨x4, hx4⟩ : ∃ x4, x4 = 18446744073709551615 - u := ⟨_, rfl⟩
          rw [← hx4] at hnot hctz hx0
          have hx4l : x4 < 18446744073709551616 := by omega
          have hnl : (n : Int) ≤ 64 := by omega
          have hil2 : (k : Int) < (l.length : Int) := by omega
          have hgw : w.heap.size + 1 ≤ g := by omega
          have hne : ¬ (w.heap.size = g) := by omega
          have hne2 : ¬ (g = w.heap.size) := by omega
          clear hu1 hu2 hu64 hn1 hn2 hnn hu4 hv4 hx4
          go_wp2_with (first
            | (go_at_call 42; refine (tz_keep x4 hx0 hx4l _ (hT.below KB hT.2) (fun w4 => Found w w4 g cap1 l) ⟨SBF, SGF, KB⟩).mono ?_; rintro e w4 ⟨rfl, hF⟩; rw [hctz]; have f1 := World.ownsRow.frozenAt hF.seg (k * 2); have f2 := World.ownsRow.frozenAt hF.seg (k * 2 + 1); have c1 := (World.ownsRow.cellAt hF.seg (k * 2) (by omega)).trans HCell.out.1; have c2 := (World.ownsRow.cellAt hF.seg (k * 2 + 1) (by omega)).trans HCell.out.2; have f3 := frozen_row hF.slot 0; have f4 := frozen_row hF.slot 1; obtain ⟨d0, d1⟩ := hF.slot.box))
          go_region
          go_wp2_with fail
          try rw [Exit.noGoto_ret]
          obtain ⟨e1, e2, e3⟩ := hF.end hgw k v4 c n hil
          refine bodyPost_ret (results_slot rfl _ _ w.heap.size k n e1 rfl) rfl ⟨⟨some ⟨g, 0, none⟩, cap1, by rw [hTK.out]; rfl, ?_⟩, e3⟩
          rw [hTK.out]
          exact e2
      · have hcb : (cc == c) = false := by simpa using hcc
        have HO : Hid ((l.take (k + 1)).findIdx? (openC c) = none) := HOK2.out (by unfold openC; rw [decide_eq_false (show ¬ (cc, u).1 = c from hcc), Bool.false_and])
        by_cases hfr : cc = -1
        · have hfb : (cc == -1) = true := by simpa using hfr
          have HFR : Hid (freeC (cc, u) = true) := decide_eq_true hfr
          by_cases hneg : pv < 0
          · have HN := Lib.hid hneg
            clear hcc hfr hopen hokg
            go_wp2_with fail
            go_quiet (fail)
            go_wp2_with fail
            go_roundw
            case rel => exact ⟨k + 1, by omega, by go_num, HO.out, by rw [HPN.out HFR.out HN.out], below_drewN _ _ _ _ (hbel.alloc hbel.size _)⟩
            case measure => simp [intOf]; omega
          · have HN := Lib.hid hneg
            have hneg2 : decide (pv < 0) = false := decide_eq_false hneg
            clear hcc hfr hopen hokg
            go_wp2_with fail
            go_quiet (fail)
            go_wp2_with fail
            go_roundw
            case rel => exact ⟨k + 1, by omega, by go_num, HO.out, by rw [HPL.out _ HFR.out (.inr HN.out)], below_drewN _ _ _ _ (hbel.alloc hbel.size _)⟩
            case measure => simp [intOf]; omega
        · have hfb : (cc == -1) = false := by simpa using hfr
          have HFR : Hid (freeC (cc, u) = false) := decide_eq_false hfr
          clear hcc hfr hopen hokg
          go_wp2_with fail
          go_quiet (fail)
          go_wp2_with fail
          go_roundw
          case rel => exact ⟨k + 1, by omega, by go_num, HO.out, by rw [HPL.out _ HFR.out (.inl rfl)], below_drewN _ _ _ _ (hbel.alloc hbel.size _)⟩
          case measure => simp [intOf]; omega
    · have hkl : k = l.length := by omega
      have hF : (l.take k).findIdx? freeC = l.findIdx? freeC := by rw [hkl, List.take_length]
      rw [hkl, List.take_length] at hopen
      rw [hF]
      have hseek : seek l c = l.findIdx? freeC := by unfold seek; rw [hopen]
      have hi : ¬ ((k : Int) < (l.length : Int)) := by omega
      have KB := K2.link hbel
      clear hopen hF hkl
      generalize l.findIdx? freeC = F at *
      cases F with
      | none =>
        have hTK : Hid (takeL l c = (l, ((0 : Int), (0 : Int)), (110 : Int))) := by
          show _ = _
          rw [HTL.out, hseek]
        rw [show toI none = -1 from rfl]
        have f3 := frozen_row SBw 0
        have f4 := frozen_row SBw 1
        obtain ⟨d0, d1⟩ := SBw.box
        clear hseek
        go_wp2_with fail
        try rw [Exit.noGoto_ret]
        refine bodyPost_ret (results_slot rfl _ _ w.heap.size 0 0 (SBw.store 0 0) rfl) rfl ⟨⟨ao1, cap1, by rw [hTK.out]; rfl, ?_⟩, (KB.setCell (Nat.le_refl _) _).setCell (Nat.le_refl _) _⟩
        rw [hTK.out]
        exact ((hneww.other _ _ _ (by omega)).other _ _ _ (by omega)).mono (by omega)
      | some i =>
        have HSK := Lib.hid hseek
        obtain ⟨g, rfl, hg1, hg2⟩ := hnew2.some (by have := (HS.out _ HSK.out).1; omega)
        obtain ⟨_, _, he, _, hc⟩ := hneww.at.cell i (HS.out _ HSK.out).1
        cases he
        obtain ⟨g1, g2⟩ := hc i (HS.out _ HSK.out).1
        rw [Nat.zero_add] at g1 g2
        obtain ⟨u, hu⟩ : ∃ u, u = (l.getD i (0, 0)).2 := ⟨_, rfl⟩
        rw [← hu] at g2
        have HU := Lib.hid hu
        have SBF := SBw
        have SGF : SegNew wr (w.heap.size + 1) (some ⟨g, 0, none⟩) cap1 l := hneww.mono (by omega)
        have hng : ¬ ((i : Int) < 0) := by omega
        rw [show toI (some i) = (i : Int) from rfl]
        clear hc hseek hu
        obtain ⟨hil, hu1, hu2⟩ := HS.out _ HSK.out
        have hu64 : (l.getD i (0, 0)).2 < 18446744073709551616 := hwf _ (getD_mem hil)
        obtain ⟨hn1, hn2, _⟩ := fz_spec (l.getD i (0, 0)).2 (nS c) (nS_le c) hu1 hu2
        have hn64 : fz (l.getD i (0, 0)).2 < 64 := Nat.lt_of_lt_of_le hn1 (nS_le c)
        have hor := or_cast _ _ hn2 hn64 hu64
        have hnot := not_cast' _ hu64
        have hTK : Hid (takeL l c = (l.set i (c, (l.getD i (0, 0)).2 + 2 ^ fz (l.getD i (0, 0)).2), ((i : Int), (fz (l.getD i (0, 0)).2 : Int)), 0)) := by
          show _ = _
          rw [HTL.out, HSK.out]
        have hctz : Lib.ctz 64 (18446744073709551615 - (l.getD i (0, 0)).2) = fz (l.getD i (0, 0)).2 := rfl
        have hx0 : 18446744073709551615 - (l.getD i (0, 0)).2 ≠ 0 := by
          have := Nat.pow_le_pow_right (show 0 < 2 by decide) (nS_le c)
          have e : (2 : Nat) ^ 64 = 18446744073709551616 := by decide
          have : 0 < 2 ^ nS c := Nat.two_pow_pos _
          omega
        have HCell := Lib.hid (segCells_at l i hil)
        obtain ⟨n, hnn⟩ : ∃ n, n = fz (l.getD i (0, 0)).2 := ⟨_, rfl⟩
        rw [← hnn] at hor hTK hctz hn64
        have hu4 : u = (l.getD i (0, 0)).2 := HU.out
        rw [← hu4] at hor hnot hTK hctz hx0 HCell
        obtain ⟨v4, hv4⟩ : ∃ v4, v4 = u + 2 ^ n := ⟨_, rfl⟩
        rw [← hv4] at hor hTK
        obtain ⟨x4, hx4⟩ : ∃ x4, x4 = 18446744073709551615 - u := ⟨_, rfl⟩
        rw [← hx4] at hnot hctz hx0
        have hx4l : x4 < 18446744073709551616 := by omega
        have hnl : (n : Int) ≤ 64 := by omega
        have hil2 : (i : Int) < (l.length : Int) := by omega
        have hgw : w.heap.size + 1 ≤ g := by omega
        have hne : ¬ (w.heap.size = g) := by omega
        have hne2 : ¬ (g = w.heap.size) := by omega
        clear hu1 hu2 hu64 hn1 hn2 hnn hu4 hv4 hx4
        go_wp2_with (first
          | (go_at_call 42; refine (tz_keep x4 hx0 hx4l _ (hT.below KB hT.2) (fun w4 => Found w w4 g cap1 l) ⟨SBF, SGF, KB⟩).mono ?_; rintro e w4 ⟨rfl, hF⟩; rw [hctz]; have f1 := World.ownsRow.frozenAt hF.seg (i * 2); have f2 := World.ownsRow.frozenAt hF.seg (i * 2 + 1); have c1 := (World.ownsRow.cellAt hF.seg (i * 2) (by omega)).trans HCell.out.1; have c2 := (World.ownsRow.cellAt hF.seg (i * 2 + 1) (by omega)).trans HCell.out.2; have f3 := frozen_row hF.slot 0; have f4 := frozen_row hF.slot 1; obtain ⟨d0, d1⟩ := hF.slot.box))
        go_region
        go_wp2_with fail
        try rw [Exit.noGoto_ret]
        obtain ⟨e1, e2, e3⟩ := hF.end hgw i v4 c n hil
        refine bodyPost_ret (results_slot rfl _ _ w.heap.size i n e1 rfl) rfl ⟨⟨some ⟨g, 0, none⟩, cap1, by rw [hTK.out]; rfl, ?_⟩, e3⟩
        rw [hTK.out]
        exact e2
end Go.Proofs.YtfnokklcbmipgaaDoor
