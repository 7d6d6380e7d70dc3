/- ArenaBack: the walk. -/
import Derived.Test.YtfnokklcbmipgaaDoorL3
namespace Go.Proofs.YtfnokklcbmipgaaDoor
open Go.RowKit Plain

theorem free_back {l m : Segs} {c : Int} {i n : Nat} (h : Took l m c i n) : freeL m i n = l ∧ freeE m i n = 0 := by
  obtain ⟨h1, h2⟩ := freeL_yes h.ok h.is
  exact ⟨h1.trans h.back, h2⟩
theorem take_gen (l : Segs) (c : Int) (m : Segs) (s a e : Int) (ao : Option Addr) (cap : Nat) (w : World) (hE : takeL l c = (m, (s, a), e)) (hl5 : l.length ≤ 5000) (hwf : Wf l) (h : SegAt w ao l) (hn : ao = none → cap = 0) (hT : TabAt w) : Calls Tryd.prog 15 #[.slice ao l.length cap, .int .i64 c] w (TK l.length m s a e w) :=
  take_lit l.length l m c s a e ao cap w rfl hE hl5 hwf h hn hT
/-- What the region of the other slot holds. -/
def BackS (w5 : World) (b5 b9 : Nat) (o1 o2 s a : Int) (ao ao3 : Option Addr) (l m : Segs) (w' : World) : Prop :=
  SlotBox w' b5 o1 o2 ∧ SlotBox w' b9 s a ∧ SegAt w' ao l ∧ SegAt w' ao3 m ∧ Below w5.heap.size w5 w' ∧ b5 < w'.heap.size ∧ b9 < w'.heap.size
theorem BackS.below {w5 : World} {b5 b9 : Nat} {o1 o2 s a : Int} {ao ao3 : Option Addr} {l m : Segs} {w' w'' : World} (h : BackS w5 b5 b9 o1 o2 s a ao ao3 l m w') (hb : Below w'.heap.size w' w'') : BackS w5 b5 b9 o1 o2 s a ao ao3 l m w'' := by
  obtain ⟨h1, h2, h3, h4, h5, h6, h7⟩ := h
  exact ⟨h1.below hb h6, h2.below hb h7, h3.below hb, h4.below hb, h5.trans (hb.mono h5.size), Nat.lt_of_lt_of_le h6 hb.size, Nat.lt_of_lt_of_le h7 hb.size⟩
attribute [local irreducible] Go.Calls
set_option linter.unusedSimpArgs false in
set_option maxRecDepth 20000 in
set_option maxHeartbeats 4000000 in
theorem back_walk (ao : Option Addr) (l : Segs) (cap : Nat) (c o1 o2 : Int) (w : World) (hwf : Wf l) (h : SegAt w ao l) (hn : ao = none → cap = 0) (hT : TabAt w) :
    Calls Tryd.prog 3 #[.slice ao l.length cap, .int .i64 c, .agg #[.int .i64 o1, .int .i64 o2]] w fun e w' => e = .returned (.bool true) ∧ Below w.heap.size w w' := by
  have SB := SlotBox.mk' w o1 o2
  have hb0 : Below w.heap.size w (w.alloc (.cells #[.int .i64 o1, .int .i64 o2] 24)) := (Below.refl _ _).alloc (Nat.le_refl _) _
  have hlt0 : w.heap.size < (w.alloc (.cells #[.int .i64 o1, .int .i64 o2] 24)).heap.size := by simp
  have T0 := hT.grow hb0
  have H := Lib.hid (h.below hb0)
  have gd := guard24
  clear h
  by_cases hlen : l.length ≤ 100
  · have hd : decide ((100 : Int) < (l.length : Int)) = false := by rw [decide_eq_false_iff_not]; omega
    by_cases hok : okS l
    · have HD := Lib.hid (decide_eq_true hok)
      obtain ⟨m, ⟨s, a⟩, e0, htk⟩ : ∃ m sa e, takeL l c = (m, sa, e) := ⟨_, _, _, rfl⟩
      by_cases he : e0 = 0
      · subst he
        obtain ⟨i, n, hsa, hk⟩ := take_ok (c := c) hok (by rw [htk])
        rw [htk] at hsa hk
        obtain ⟨rfl, rfl⟩ := Prod.mk.inj (show ((s, a) : Int × Int) = ((i : Int), (n : Int)) from hsa)
        have hk : Took l m c i n := hk
        have HK := Lib.hid hk
        have HTK := Lib.hid htk
        have nM := hk.len
        have wM := hk.ok.wf
        have HM := Lib.hid (decide_eq_true hk.ok)
        have HN := Lib.hid (decide_eq_false (fun h : okS l ∧ hasL l i n => hk.was ((hasL_nat _ _ _).1 h.2)))
        have HI := Lib.hid (decide_eq_true (And.intro hk.ok ((hasL_nat m i n).2 hk.is)))
        obtain ⟨t1, ht1⟩ : ∃ t, takenR l = t := ⟨_, rfl⟩
        have ht2 : takenR m = t1 + (bytesC c).toNat := by rw [← ht1]; unfold takenR; rw [if_pos hk.ok, if_pos hok]; exact hk.taken
        have hbd := bytesC_bd c
        have htl : t1 ≤ 100 * 4096 := by
          rw [← ht1]; unfold takenR; rw [if_pos hok]
          exact Nat.le_trans (taken_le l) (Nat.mul_le_mul_right _ hlen)
        have hsum : IntKind.i64.wrap ((t1 : Int) + bytesC c) = ((t1 + (bytesC c).toNat : Nat) : Int) := by rw [IntWalk.i64_in _ (by omega)]; omega
        have HT1 := Lib.hid ht1
        have HT2 := Lib.hid ht2
        obtain ⟨t2, ht2'⟩ : ∃ t, t = t1 + (bytesC c).toNat := ⟨_, rfl⟩
        rw [← ht2'] at hsum HT2
        clear htk hsa hk ht1 ht2 ht2' hbd htl
        by_cases hos : o1 = i ∧ o2 = n
        · have q : ∀ w, (binOp .eql 24 (.agg #[.int .i64 o1, .int .i64 o2]) (.agg #[.int .i64 i, .int .i64 n])).run Tryd.prog w = .ok (.bool true) w := fun w => by rw [eql_slots, decide_eq_true hos]
          clear hok hos
          go_enter Tryd.func3, Tryd.ntmps3
          go_wp2_with (first
            | (go_at_call 13; refine (awake_any _ T0).mono ?_; rintro e w1 ⟨rfl, hb1⟩; have S1 := SB.below hb1 hlt0; have H1 := H.out.below hb1; have T1 := T0.grow hb1)
            | (go_at_call 14; refine (check_any ao l _ _ hwf H1).mono ?_; rintro e w2 ⟨rfl, hb2⟩; rw [HD.out]; have hl2 := hb1.size; have S2 := S1.below hb2 (by omega); have H2 := H1.below hb2; have T2 := T1.grow hb2)
            | (go_at_call 15; refine (take_gen l c m i n 0 ao cap w2 HTK.out (by omega) hwf H2 hn T2).mono ?_; rintro e w3 ⟨⟨ao3, cap3, rfl, hs3⟩, hb3⟩; have hl3 := hb2.size; have S3 := S2.below hb3 (by omega); have H3 := H2.below hb3)
            | (refine wpList_storeSlot rfl (.tmp 9) (.tmp 29) rfl _ i n 0 0 rfl rfl (SlotRow.new w3 0 0) ?_; intro w4 hr4 hon4; have hb4 := hon4.fresh; have hl4 := hb3.size; have S4 := S3.below hb4 (by omega); have H4 := H3.below hb4; have hs4 := hs3.below hb4; obtain ⟨c90, c91⟩ := hr4.box)
            | (go_at_call 17; refine (free_lit l.length m l i n 0 ao3 cap3 w4 nM (free_back HK.out).1 (free_back HK.out).2 (by omega) wM hs4.at hs4.nil).mono ?_; rintro e w5 ⟨⟨ao5, cap5, rfl, hs5⟩, hb5⟩; have hl5' := hb4.size; have S5 := S4.below hb5 (by omega); have H5 := H4.below hb5; have hs45 := hs4.below hb5; have hr5 := hr4.below hb5 hr4.lt; obtain ⟨d90, d91⟩ := hr5.box; obtain ⟨d50, d51⟩ := S5))
          go_quiet (fail)
          have D6 : Below w5.heap.size w5 (w5.drewN nq) := below_drewN _ _ _ _ (Below.refl _ _)
          obtain ⟨w6, hw6⟩ : ∃ w', w' = w5.drewN nq := ⟨_, rfl⟩
          rw [← hw6] at D6 ⊢
          clear hw6
          have hb6 := D6
          have hr6 := hr5.below hb6 hr5.lt
          have hl6 := hb6.size
          have H6 := H5.below hb6
          have hs46 := hs45.below hb6
          have hs56 := hs5.below hb6
          obtain ⟨e90, e91⟩ := hr6.box
          go_wp2_with (first
            | (go_at_call 18; refine (has_lit l.length l i n false ao cap w6 rfl HN.out hwf H6).mono ?_; rintro e w7 ⟨rfl, hb7⟩; have H7 := H6.below hb7; have hr7 := hr6.below hb7 hr6.lt; obtain ⟨f90, f91⟩ := hr7.box; have hs47 := hs46.below hb7)
            | (go_at_call 18; refine (has_lit l.length m i n true ao3 cap3 w7 nM HI.out wM hs47.at).mono ?_; rintro e w8 ⟨rfl, hb8⟩; have H8 := H7.below hb8; have hs48 := hs47.below hb8; have hs58 := (hs56.below hb7).below hb8)
            | (go_at_call 16; refine (same_any _ _ l l _ _ w8 hs58.at H8 (by omega)).mono ?_; rintro e w9 ⟨rfl, hb9⟩; rw [decide_eq_true (rfl : l = l)]; have H9 := H8.below hb9; have hs49 := hs48.below hb9)
            | (go_at_call 14; refine (check_lit l.length m true ao3 cap3 w9 nM HM.out wM hs49.at).mono ?_; rintro e w10 ⟨rfl, hb10⟩; have H10 := H9.below hb10; have hs410 := hs49.below hb10)
            | (go_at_call 19; refine (taken_lit l.length m t2 ao3 cap3 w10 nM HT2.out wM hs410.at).mono ?_; rintro e w11 ⟨rfl, hb11⟩; have H11 := H10.below hb11)
            | (go_at_call 19; refine (taken_lit l.length l t1 ao cap w11 rfl HT1.out hwf H11).mono ?_; rintro e w12 ⟨rfl, hb12⟩)
            | (go_at_call 20; refine (rbytes_any c _).mono ?_; rintro e w13 ⟨rfl, rfl⟩))
          go_ret
          exact ⟨rfl, hb0.link (((((hb1.link hb2).link (hb3.link hb4)).link (hb5.link hb6)).link ((hb7.link hb8).link (hb9.link hb10))).link (hb11.link hb12))⟩
        · have q : ∀ w, (binOp .eql 24 (.agg #[.int .i64 o1, .int .i64 o2]) (.agg #[.int .i64 i, .int .i64 n])).run Tryd.prog w = .ok (.bool false) w := fun w => by rw [eql_slots, decide_eq_false hos]
          obtain ⟨bo, hbo⟩ : ∃ b, decide (okS l ∧ hasL l o1 o2) = b := ⟨_, rfl⟩
          have hbo2 : decide (okS m ∧ hasL m o1 o2) = bo := by
            rw [← hbo]
            refine decide_eq_decide.2 ?_
            rw [hasL_iff, hasL_iff]
            constructor
            · rintro ⟨_, j, k, rfl, rfl, h⟩
              exact ⟨hok, j, k, rfl, rfl, (HK.out.other j k (fun e => hos ⟨by omega, by omega⟩)).2 h⟩
            · rintro ⟨_, j, k, rfl, rfl, h⟩
              exact ⟨HK.out.ok, j, k, rfl, rfl, (HK.out.other j k (fun e => hos ⟨by omega, by omega⟩)).1 h⟩
          have HB1 := Lib.hid hbo
          have HB2 := Lib.hid hbo2
          clear hok hos hbo hbo2
          go_enter Tryd.func3, Tryd.ntmps3
          go_wp2_with (first
            | (go_at_call 13; refine (awake_any _ T0).mono ?_; rintro e w1 ⟨rfl, hb1⟩; have S1 := SB.below hb1 hlt0; have H1 := H.out.below hb1; have T1 := T0.grow hb1)
            | (go_at_call 14; refine (check_any ao l _ _ hwf H1).mono ?_; rintro e w2 ⟨rfl, hb2⟩; rw [HD.out]; have hl2 := hb1.size; have S2 := S1.below hb2 (by omega); have H2 := H1.below hb2; have T2 := T1.grow hb2)
            | (go_at_call 15; refine (take_gen l c m i n 0 ao cap w2 HTK.out (by omega) hwf H2 hn T2).mono ?_; rintro e w3 ⟨⟨ao3, cap3, rfl, hs3⟩, hb3⟩; have hl3 := hb2.size; have S3 := S2.below hb3 (by omega); have H3 := H2.below hb3)
            | (refine wpList_storeSlot rfl (.tmp 9) (.tmp 29) rfl _ i n 0 0 rfl rfl (SlotRow.new w3 0 0) ?_; intro w4 hr4 hon4; have hb4 := hon4.fresh; have hl4 := hb3.size; have S4 := S3.below hb4 (by omega); have H4 := H3.below hb4; have hs4 := hs3.below hb4; obtain ⟨c90, c91⟩ := hr4.box)
            | (go_at_call 17; refine (free_lit l.length m l i n 0 ao3 cap3 w4 nM (free_back HK.out).1 (free_back HK.out).2 (by omega) wM hs4.at hs4.nil).mono ?_; rintro e w5 ⟨⟨ao5, cap5, rfl, hs5⟩, hb5⟩; have hl5' := hb4.size; have S5 := S4.below hb5 (by omega); have H5 := H4.below hb5; have hs45 := hs4.below hb5; have hr5 := hr4.below hb5 hr4.lt; obtain ⟨d90, d91⟩ := hr5.box; obtain ⟨d50, d51⟩ := S5))
          refine wp_region_held_drew (S := BackS w5 w.heap.size w3.heap.size o1 o2 i n ao ao3 l m) (by kernel_rfl) ⟨⟨d50, d51⟩, ⟨d90, d91⟩, H5, hs45.at, (Below.refl _ _).drew, by have := hb5.size; show w.heap.size < w5.heap.size; omega, hr5.lt⟩ (fun hHeld => ?_)
          refine wpAnyH_take (i := 0) (v := ?_) (by simp only [List.getElem?_toArray, List.getElem?_cons_succ, List.getElem?_cons_zero]; rfl) (by kernel_rfl) (by kernel_rfl) (by kernel_rfl) (by intro _ _ _ h; exact h) (Or.inl ⟨by rfl, ?_⟩) (by assumption) ?_
          rotate_left
          · intro w' hSw
            obtain ⟨⟨hc0, hc1⟩, ⟨hc2, hc3⟩, _⟩ := hSw
            go_simp
            try with_reducible rfl
          try simp only [Act.put, List.setIfInBounds_toArray, List.set_cons_zero, List.set_cons_succ]
          refine wpAnyH_take (i := 1) (v := ?_) (by simp only [List.getElem?_toArray, List.getElem?_cons_succ, List.getElem?_cons_zero]; rfl) (by kernel_rfl) (by kernel_rfl) (by kernel_rfl) (by intro _ _ _ h; exact h) (Or.inl ⟨by rfl, ?_⟩) (by assumption) ?_
          rotate_left
          · intro w' hSw
            obtain ⟨⟨hc0, hc1⟩, ⟨hc2, hc3⟩, _⟩ := hSw
            go_simp
            try with_reducible rfl
          try simp only [Act.put, List.setIfInBounds_toArray, List.set_cons_zero, List.set_cons_succ]
          refine wpAnyH_take (i := 2) (v := ?_) (by simp only [List.getElem?_toArray, List.getElem?_cons_succ, List.getElem?_cons_zero]; rfl) (by kernel_rfl) (by kernel_rfl) (by kernel_rfl) (by intro _ _ _ h; exact h) (Or.inl ⟨by rfl, ?_⟩) (by assumption) ?_
          rotate_left
          · intro w' hSw
            obtain ⟨⟨hc0, hc1⟩, ⟨hc2, hc3⟩, _⟩ := hSw
            go_simp
            try with_reducible rfl
          try simp only [Act.put, List.setIfInBounds_toArray, List.set_cons_zero, List.set_cons_succ]
          refine wpAnyH_take (i := 3) (v := ?_) (by simp only [List.getElem?_toArray, List.getElem?_cons_succ, List.getElem?_cons_zero]; rfl) (by kernel_rfl) (by kernel_rfl) (by kernel_rfl) (by intro _ _ _ h; exact h) (Or.inl ⟨by rfl, ?_⟩) (by assumption) ?_
          rotate_left
          · intro w' hSw
            obtain ⟨⟨hc0, hc1⟩, ⟨hc2, hc3⟩, _⟩ := hSw
            go_simp
            try with_reducible rfl
          try simp only [Act.put, List.setIfInBounds_toArray, List.set_cons_zero, List.set_cons_succ]
          refine wpAnyH_take (i := 4) (v := ?_) (by simp only [List.getElem?_toArray, List.getElem?_cons_succ, List.getElem?_cons_zero]; rfl) (by kernel_rfl) (by kernel_rfl) (by kernel_rfl) (by intro _ _ _ h; exact h) (Or.inl ⟨by rfl, ?_⟩) (by assumption) ?_
          rotate_left
          · intro w' hSw
            obtain ⟨⟨hc0, hc1⟩, ⟨hc2, hc3⟩, _⟩ := hSw
            go_simp
            try with_reducible rfl
          try simp only [Act.put, List.setIfInBounds_toArray, List.set_cons_zero, List.set_cons_succ]
          refine wpAnyH_take (i := 5) (v := ?_) (by simp only [List.getElem?_toArray, List.getElem?_cons_succ, List.getElem?_cons_zero]; rfl) (by kernel_rfl) (by kernel_rfl) (by kernel_rfl) (by intro _ _ _ h; exact h) (Or.inl ⟨by rfl, ?_⟩) (by assumption) ?_
          rotate_left
          · intro w' hSw
            obtain ⟨⟨hc0, hc1⟩, ⟨hc2, hc3⟩, _⟩ := hSw
            go_simp
            try with_reducible rfl
          try simp only [Act.put, List.setIfInBounds_toArray, List.set_cons_zero, List.set_cons_succ]
          refine wpAnyH_take (i := 7) (v := ?_) (by simp only [List.getElem?_toArray, List.getElem?_cons_succ, List.getElem?_cons_zero]; rfl) (by kernel_rfl) (by kernel_rfl) (by kernel_rfl) (by intro _ _ _ h; exact h) (Or.inl ⟨by rfl, ?_⟩) (by assumption) ?_
          rotate_left
          · intro w' hSw
            obtain ⟨⟨hc0, hc1⟩, ⟨hc2, hc3⟩, _⟩ := hSw
            go_simp
            try with_reducible rfl
          try simp only [Act.put, List.setIfInBounds_toArray, List.set_cons_zero, List.set_cons_succ]
          refine wpAnyH_take (i := 8) (v := ?_) (by simp only [List.getElem?_toArray, List.getElem?_cons_succ, List.getElem?_cons_zero]; rfl) (by kernel_rfl) (by kernel_rfl) (by kernel_rfl) (by intro _ _ _ h; exact h) (Or.inl ⟨by rfl, ?_⟩) (by assumption) ?_
          rotate_left
          · intro w' hSw
            obtain ⟨⟨hc0, hc1⟩, ⟨hc2, hc3⟩, _⟩ := hSw
            go_simp
            try with_reducible rfl
          try simp only [Act.put, List.setIfInBounds_toArray, List.set_cons_zero, List.set_cons_succ]
          refine wpAnyH_ready (rs := [6]) (by kernel_rfl) (by simp) ?_
          refine AllReadyH.cons (by simp only [List.getElem?_toArray, List.getElem?_cons_succ, List.getElem?_cons_zero]; rfl) (fun K hK => ?_) AllReadyH.nil
          go_simp
          refine (has_lit l.length l o1 o2 bo ao cap _ rfl HB1.out hwf hHeld.2.2.1).mono ?_
          rintro e w' ⟨rfl, hb⟩
          have hS := hHeld.below hb
          go_wp2_with fail
          refine hK.out _ _ hS (fun hHeld => ?_)
          clear hK
          try simp only [Act.put, List.setIfInBounds_toArray, List.set_cons_zero, List.set_cons_succ]
          refine wpAnyH_ready (rs := [9]) (by kernel_rfl) (by simp) ?_
          refine AllReadyH.cons (by simp only [List.getElem?_toArray, List.getElem?_cons_succ, List.getElem?_cons_zero]; rfl) (fun K hK => ?_) AllReadyH.nil
          go_simp
          refine (has_lit l.length m o1 o2 bo ao3 cap3 _ nM HB2.out wM hHeld.2.2.2.1).mono ?_
          rintro e w' ⟨rfl, hb⟩
          have hS := hHeld.below hb
          go_wp2_with fail
          refine hK.out _ _ hS (fun hHeld => ?_)
          clear hK
          try simp only [Act.put, List.setIfInBounds_toArray, List.set_cons_zero, List.set_cons_succ]
          refine wpAnyH_take (i := 10) (v := ?_) (by simp only [List.getElem?_toArray, List.getElem?_cons_succ, List.getElem?_cons_zero]; rfl) (by kernel_rfl) (by kernel_rfl) (by kernel_rfl) (by intro _ _ _ h; exact h) (Or.inl ⟨by rfl, ?_⟩) (by assumption) ?_
          rotate_left
          · intro w' hSw
            obtain ⟨⟨hc0, hc1⟩, ⟨hc2, hc3⟩, _⟩ := hSw
            go_simp
            try with_reducible rfl
          try simp only [Act.put, List.setIfInBounds_toArray, List.set_cons_zero, List.set_cons_succ]
          refine wpAnyH_take (i := 11) (v := ?_) (by simp only [List.getElem?_toArray, List.getElem?_cons_succ, List.getElem?_cons_zero]; rfl) (by kernel_rfl) (by kernel_rfl) (by kernel_rfl) (by intro _ _ _ h; exact h) (Or.inl ⟨by rfl, ?_⟩) (by assumption) ?_
          rotate_left
          · intro w' hSw
            obtain ⟨⟨hc0, hc1⟩, ⟨hc2, hc3⟩, _⟩ := hSw
            go_simp
            try with_reducible rfl
          try simp only [Act.put, List.setIfInBounds_toArray, List.set_cons_zero, List.set_cons_succ]
          refine wpAnyH_take (i := 12) (v := ?_) (by simp only [List.getElem?_toArray, List.getElem?_cons_succ, List.getElem?_cons_zero]; rfl) (by kernel_rfl) (by kernel_rfl) (by kernel_rfl) (by intro _ _ _ h; exact h) (Or.inl ⟨by rfl, ?_⟩) (by assumption) ?_
          rotate_left
          · intro w' hSw
            obtain ⟨⟨hc0, hc1⟩, ⟨hc2, hc3⟩, _⟩ := hSw
            go_simp
            try with_reducible rfl
          try simp only [Act.put, List.setIfInBounds_toArray, List.set_cons_zero, List.set_cons_succ]
          refine wpAnyH_done (by kernel_rfl) ?_ _
          rename World => w6
          have hb6 := hHeld.2.2.2.2.1
          have hr6 := hr5.below hb6 hr5.lt
          have hl6 := hb6.size
          have H6 := H5.below hb6
          have hs46 := hs45.below hb6
          have hs56 := hs5.below hb6
          obtain ⟨e90, e91⟩ := hr6.box
          go_wp2_with (first
            | (go_at_call 18; refine (has_lit l.length l i n false ao cap w6 rfl HN.out hwf H6).mono ?_; rintro e w7 ⟨rfl, hb7⟩; have H7 := H6.below hb7; have hr7 := hr6.below hb7 hr6.lt; obtain ⟨f90, f91⟩ := hr7.box; have hs47 := hs46.below hb7)
            | (go_at_call 18; refine (has_lit l.length m i n true ao3 cap3 w7 nM HI.out wM hs47.at).mono ?_; rintro e w8 ⟨rfl, hb8⟩; have H8 := H7.below hb8; have hs48 := hs47.below hb8; have hs58 := (hs56.below hb7).below hb8)
            | (go_at_call 16; refine (same_any _ _ l l _ _ w8 hs58.at H8 (by omega)).mono ?_; rintro e w9 ⟨rfl, hb9⟩; rw [decide_eq_true (rfl : l = l)]; have H9 := H8.below hb9; have hs49 := hs48.below hb9)
            | (go_at_call 14; refine (check_lit l.length m true ao3 cap3 w9 nM HM.out wM hs49.at).mono ?_; rintro e w10 ⟨rfl, hb10⟩; have H10 := H9.below hb10; have hs410 := hs49.below hb10)
            | (go_at_call 19; refine (taken_lit l.length m t2 ao3 cap3 w10 nM HT2.out wM hs410.at).mono ?_; rintro e w11 ⟨rfl, hb11⟩; have H11 := H10.below hb11)
            | (go_at_call 19; refine (taken_lit l.length l t1 ao cap w11 rfl HT1.out hwf H11).mono ?_; rintro e w12 ⟨rfl, hb12⟩)
            | (go_at_call 20; refine (rbytes_any c _).mono ?_; rintro e w13 ⟨rfl, rfl⟩))
          go_ret
          exact ⟨rfl, hb0.link (((((hb1.link hb2).link (hb3.link hb4)).link (hb5.link hb6)).link ((hb7.link hb8).link (hb9.link hb10))).link (hb11.link hb12))⟩
      · obtain ⟨rfl, h2, h3⟩ : m = l ∧ s = 0 ∧ a = 0 := by
          have := take_err (l := l) (c := c) (by rw [htk]; exact he)
          rw [htk] at this
          simp only [Prod.mk.injEq, and_true] at this
          exact ⟨this.1, this.2.1, this.2.2⟩
        subst h2 h3
        have hez : (e0 != 0) = true := by simpa using he
        have HTK := Lib.hid htk
        have q : ∀ w, (binOp .eql 24 (.agg #[.int .i64 0, .int .i64 0]) (.agg #[.int .i64 0, .int .i64 0])).run Tryd.prog w = .ok (.bool true) w := fun w => eql_slots 0 0 0 0 w
        clear htk he hok
        go_enter Tryd.func3, Tryd.ntmps3
        go_wp2_with (first
          | (go_at_call 13; refine (awake_any _ T0).mono ?_; rintro e w1 ⟨rfl, hb1⟩; have S1 := SB.below hb1 hlt0; have H1 := H.out.below hb1; have T1 := T0.grow hb1)
          | (go_at_call 14; refine (check_any ao m _ _ hwf H1).mono ?_; rintro e w2 ⟨rfl, hb2⟩; rw [HD.out]; have H2 := H1.below hb2; have T2 := T1.grow hb2)
          | (go_at_call 15; refine (take_gen m c m 0 0 e0 ao cap w2 HTK.out (by omega) hwf H2 hn T2).mono ?_; rintro e w3 ⟨⟨ao3, cap3, rfl, hs3⟩, hb3⟩; have H3 := H2.below hb3)
          | (refine wpList_storeSlot rfl (.tmp 9) (.tmp 29) rfl _ 0 0 0 0 rfl rfl (SlotRow.new w3 0 0) ?_; intro w4 hr4 hon4; have hb4 := hon4.fresh; have H4 := H3.below hb4; have hs4 := hs3.below hb4)
          | (go_at_call 16; refine (same_any _ _ m m _ _ w4 hs4.at H4 (by omega)).mono ?_; rintro e w5 ⟨rfl, hb5⟩; rw [decide_eq_true (rfl : m = m)]; have hr5 := hr4.below hb5 hr4.lt; obtain ⟨d90, d91⟩ := hr5.box))
        go_ret
        exact ⟨rfl, hb0.link (((hb1.link hb2).link (hb3.link hb4)).link hb5)⟩
    · have HD := Lib.hid (decide_eq_false hok)
      clear hok
      go_enter Tryd.func3, Tryd.ntmps3
      go_wp2_with (first
        | (go_at_call 13; refine (awake_any _ T0).mono ?_; rintro e w1 ⟨rfl, hb1⟩)
        | (go_at_call 14; refine (check_any ao l _ _ hwf (H.out.below hb1)).mono ?_; rintro e w2 ⟨rfl, hb2⟩; rw [HD.out]))
      go_ret
      exact ⟨rfl, (hb0.link hb1).link hb2⟩
  · have hd : (100 : Int) < (l.length : Int) := by omega
    go_enter Tryd.func3, Tryd.ntmps3
    go_wp2_with (go_at_call 13; refine (awake_any _ T0).mono ?_; rintro e w1 ⟨rfl, hb1⟩)
    go_ret
    exact ⟨rfl, hb0.link hb1⟩
end Go.Proofs.YtfnokklcbmipgaaDoor
