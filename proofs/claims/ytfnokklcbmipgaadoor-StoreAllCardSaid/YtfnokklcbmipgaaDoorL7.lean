/- ArenaTurns: the walk. -/
import Derived.Test.YtfnokklcbmipgaaDoorB2
import Derived.Test.YtfnokklcbmipgaaDoorM3
namespace Go.Proofs.YtfnokklcbmipgaaDoor
open Go.RowKit Plain

structure Boxes (w : World) (b : Nat) (s1 a1 s2 a2 : Int) : Prop where
  x : SlotBox w b s1 a1
  y : SlotBox w (b + 1) s2 a2
  lt : b + 1 < w.heap.size
theorem Boxes.below {w w' : World} {b : Nat} {s1 a1 s2 a2 : Int} (h : Boxes w b s1 a1 s2 a2) (hb : Below w.heap.size w w') : Boxes w' b s1 a1 s2 a2 := ⟨h.x.below hb (by have := h.lt; omega), h.y.below hb h.lt, Nat.lt_of_lt_of_le h.lt hb.size⟩
theorem Boxes.new (w : World) (s1 a1 s2 a2 : Int) : Boxes ((w.alloc (.cells #[.int .i64 s1, .int .i64 a1] 24)).alloc (.cells #[.int .i64 s2, .int .i64 a2] 24)) w.heap.size s1 a1 s2 a2 := by
  have h2 := SlotBox.mk' (w.alloc (.cells #[.int .i64 s1, .int .i64 a1] 24)) s2 a2
  rw [World.size_alloc] at h2
  exact ⟨(SlotBox.mk' w s1 a1).below ((Below.refl _ _).alloc (Nat.le_refl _) _) (by simp), h2, by simp⟩
attribute [local irreducible] Go.Calls
set_option linter.unusedSimpArgs false in
set_option maxRecDepth 20000 in
set_option maxHeartbeats 4000000 in
theorem turns_walk (ao : Option Addr) (l : Segs) (cap : Nat) (s1 a1 s2 a2 : Int) (w : World) (hwf : Wf l) (h : SegAt w ao l) (hn : ao = none → cap = 0) (hT : TabAt w) :
    Calls Tryd.prog 7 #[.slice ao l.length cap, .agg #[.int .i64 s1, .int .i64 a1], .agg #[.int .i64 s2, .int .i64 a2]] w fun e w' => e = .returned (.bool true) ∧ Below w.heap.size w w' := by
  have X0 := Boxes.new w s1 a1 s2 a2
  have hb0 : Below w.heap.size w ((w.alloc (.cells #[.int .i64 s1, .int .i64 a1] 24)).alloc (.cells #[.int .i64 s2, .int .i64 a2] 24)) := ((Below.refl _ _).alloc (Nat.le_refl _) _).alloc (by simp) _
  have T0 := hT.grow hb0
  have H := Lib.hid (h.below hb0)
  have gd := guard24
  clear h
  by_cases hlen : l.length ≤ 100
  · have hd : decide ((100 : Int) < (l.length : Int)) = false := by rw [decide_eq_false_iff_not]; omega
    by_cases hok : okS l
    · have HD := Lib.hid (decide_eq_true hok)
      by_cases hst : s1 = s2 ∧ a1 = a2
      · have q : ∀ w, (binOp .eql 24 (.agg #[.int .i64 s1, .int .i64 a1]) (.agg #[.int .i64 s2, .int .i64 a2])).run Tryd.prog w = .ok (.bool true) w := fun w => by rw [eql_slots, decide_eq_true hst]
        clear hst hok
        go_enter Tryd.func7, Tryd.ntmps7
        go_wp2_with (first
          | (go_at_call 13; refine (awake_any _ T0).mono ?_; rintro e w1 ⟨rfl, hb1⟩; have X1 := X0.below hb1)
          | (go_at_call 14; refine (check_any ao l _ _ hwf (H.out.below hb1)).mono ?_; rintro e w2 ⟨rfl, hb2⟩; rw [HD.out]; have X2 := X1.below hb2; obtain ⟨p0, p1⟩ := X2.x; obtain ⟨p2, p3⟩ := X2.y))
        go_ret
        exact ⟨rfl, (hb0.link hb1).link hb2⟩
      · have q : ∀ w, (binOp .eql 24 (.agg #[.int .i64 s1, .int .i64 a1]) (.agg #[.int .i64 s2, .int .i64 a2])).run Tryd.prog w = .ok (.bool false) w := fun w => by rw [eql_slots, decide_eq_false hst]
        obtain ⟨t1, t2, t3, t4, oA, oC, oB, t5⟩ := turns_law hok s1 a1 s2 a2 hst
        have nA := freeL_len l s1 a1
        have nC := freeL_len l s2 a2
        have nB := (freeL_len (freeL l s1 a1) s2 a2).trans nA
        obtain ⟨A, hA⟩ : ∃ A, freeL l s1 a1 = A := ⟨_, rfl⟩
        obtain ⟨C, hC⟩ : ∃ C, freeL l s2 a2 = C := ⟨_, rfl⟩
        rw [hA] at t2 t3 t4 t5 oA oB nA nB
        rw [hC] at t1 t3 oC nC
        obtain ⟨B, hB⟩ : ∃ B, freeL A s2 a2 = B := ⟨_, rfl⟩
        rw [hB] at t3 t4 t5 oB nB
        obtain ⟨E1, hE1⟩ : ∃ E, freeE l s1 a1 = E := ⟨_, rfl⟩
        obtain ⟨E2, hE2⟩ : ∃ E, freeE l s2 a2 = E := ⟨_, rfl⟩
        obtain ⟨b1, hb1e, hle⟩ : ∃ b, takenR B = b ∧ b ≤ takenR l := ⟨_, rfl, by unfold takenR; rw [if_pos oB, if_pos hok]; exact t5⟩
        obtain ⟨b2, hb2e⟩ : ∃ b, takenR l = b := ⟨_, rfl⟩
        rw [hb2e] at hle
        have hle2 : (b1 : Int) ≤ (b2 : Int) := by omega
        have wA := oA.wf
        have wB := oB.wf
        have wC := oC.wf
        have HE1 := Lib.hid (t1.symm.trans hE1)
        have HE2 := Lib.hid (t2.trans hE2)
        have HX := Lib.hid (And.intro hA (And.intro hB (And.intro hC (And.intro t3.symm (And.intro t4 (And.intro hE1 (And.intro hE2 (And.intro hb1e hb2e))))))))
        clear hst hok t1 t2 t3 t4 t5 oA oB oC hA hB hC hE1 hE2 hb1e hb2e
        go_enter Tryd.func7, Tryd.ntmps7
        go_wp2_with (first
          | (go_at_call 13; refine (awake_any _ T0).mono ?_; rintro e w1 ⟨rfl, hb1⟩; have X1 := X0.below hb1; have H1 := H.out.below hb1)
          | (go_at_call 14; refine (check_any ao l _ _ hwf H1).mono ?_; rintro e w2 ⟨rfl, hb2⟩; rw [HD.out]; have X2 := X1.below hb2; obtain ⟨p0, p1⟩ := X2.x; obtain ⟨p2, p3⟩ := X2.y; have H2 := H1.below hb2)
          | (go_at_call 17; refine (free_lit l.length l A s1 a1 E1 ao cap w2 rfl HX.out.1 HX.out.2.2.2.2.2.1 (by omega) hwf H2 hn).mono ?_; rintro e w3 ⟨⟨ao3, cap3, rfl, hs3⟩, hb3⟩; have X3 := X2.below hb3; obtain ⟨p30, p31⟩ := X3.x; obtain ⟨p32, p33⟩ := X3.y; have H3 := H2.below hb3)
          | (go_at_call 17; refine (free_lit l.length A B s2 a2 E2 ao3 cap3 w3 nA HX.out.2.1 HE2.out (by omega) wA hs3.at hs3.nil).mono ?_; rintro e w4 ⟨⟨ao4, cap4, rfl, hs4⟩, hb4⟩; have X4 := X3.below hb4; obtain ⟨p40, p41⟩ := X4.x; obtain ⟨p42, p43⟩ := X4.y; have H4 := H3.below hb4)
          | (go_at_call 17; refine (free_lit l.length l C s2 a2 E2 ao cap w4 rfl HX.out.2.2.1 HX.out.2.2.2.2.2.2.1 (by omega) hwf H4 hn).mono ?_; rintro e w5 ⟨⟨ao5, cap5, rfl, hs5⟩, hb5⟩; have X5 := X4.below hb5; obtain ⟨p50, p51⟩ := X5.x; obtain ⟨p52, p53⟩ := X5.y; have H5 := H4.below hb5; have hs45 := hs4.below hb5)
          | (go_at_call 17; refine (free_lit l.length C B s1 a1 E1 ao5 cap5 w5 nC HX.out.2.2.2.1 HE1.out (by omega) wC hs5.at hs5.nil).mono ?_; rintro e w6 ⟨⟨ao6, cap6, rfl, hs6⟩, hb6⟩; have X6 := X5.below hb6; obtain ⟨p60, p61⟩ := X6.x; obtain ⟨p62, p63⟩ := X6.y; have H6 := H5.below hb6; have hs46 := hs45.below hb6)
          | (go_at_call 17; refine (free_lit l.length B _ s1 a1 120 ao4 cap4 w6 nB rfl HX.out.2.2.2.2.1 (by omega) wB hs46.at hs46.nil).mono ?_; rintro e w7 ⟨⟨ao7, cap7, rfl, hs7⟩, hb7⟩; have H7 := H6.below hb7; have hs47 := hs46.below hb7; have hs67 := hs6.below hb7)
          | (go_at_call 16; rw [← nB]; refine (same_any _ _ B B _ _ w7 hs47.at hs67.at (by omega)).mono ?_; rintro e w8 ⟨rfl, hb8⟩; rw [decide_eq_true (rfl : B = B), nB]; have H8 := H7.below hb8; have hs48 := hs47.below hb8)
          | (go_at_call 19; refine (taken_lit l.length B b1 ao4 cap4 w8 nB HX.out.2.2.2.2.2.2.2.1 wB hs48.at).mono ?_; rintro e w9 ⟨rfl, hb9⟩; have H9 := H8.below hb9)
          | (go_at_call 19; refine (taken_lit l.length l b2 ao cap w9 rfl HX.out.2.2.2.2.2.2.2.2 hwf H9).mono ?_; rintro e w10 ⟨rfl, hb10⟩))
        go_ret
        exact ⟨rfl, hb0.link (((((hb1.link hb2).link (hb3.link hb4)).link (hb5.link hb6)).link (hb7.link hb8)).link (hb9.link hb10))⟩
    · have HD := Lib.hid (decide_eq_false hok)
      clear hok
      go_enter Tryd.func7, Tryd.ntmps7
      go_wp2_with (first
        | (go_at_call 13; refine (awake_any _ T0).mono ?_; rintro e w1 ⟨rfl, hb1⟩)
        | (go_at_call 14; refine (check_any ao l _ _ hwf (H.out.below hb1)).mono ?_; rintro e w2 ⟨rfl, hb2⟩; rw [HD.out]))
      go_ret
      exact ⟨rfl, (hb0.link hb1).link hb2⟩
  · have hd : (100 : Int) < (l.length : Int) := by omega
    go_enter Tryd.func7, Tryd.ntmps7
    go_wp2_with (go_at_call 13; refine (awake_any _ T0).mono ?_; rintro e w1 ⟨rfl, hb1⟩)
    go_ret
    exact ⟨rfl, hb0.link hb1⟩
end Go.Proofs.YtfnokklcbmipgaaDoor
