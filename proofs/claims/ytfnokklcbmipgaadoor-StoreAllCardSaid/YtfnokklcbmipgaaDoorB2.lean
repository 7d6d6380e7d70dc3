/- The head of all statements: awake. -/
import Derived.Test.YtfnokklcbmipgaaDoorB1
namespace Go.Proofs.YtfnokklcbmipgaaDoor
open Go.RowKit Plain

theorem has_lit (n : Nat) (l : Segs) (s a : Int) (b : Bool) (ao : Option Addr) (cap : Nat) (w : World) (hl : l.length = n) (hE : decide (okS l ∧ hasL l s a) = b) (hwf : Wf l) (h : SegAt w ao l) : Calls Tryd.prog 18 #[.slice ao n cap, .agg #[.int .i64 s, .int .i64 a]] w fun e w' => e = .returned (.bool b) ∧ Below w.heap.size w w' := by
  subst hl
  rw [← hE]
  exact has_any ao l cap s a w hwf h
theorem check_lit (n : Nat) (l : Segs) (b : Bool) (ao : Option Addr) (cap : Nat) (w : World) (hl : l.length = n) (hE : decide (okS l) = b) (hwf : Wf l) (h : SegAt w ao l) : Calls Tryd.prog 14 #[.slice ao n cap] w fun e w' => e = .returned (.bool b) ∧ Below w.heap.size w w' := by
  subst hl
  rw [← hE]
  exact check_any ao l cap w hwf h
theorem taken_lit (n : Nat) (l : Segs) (t : Nat) (ao : Option Addr) (cap : Nat) (w : World) (hl : l.length = n) (hE : takenR l = t) (hwf : Wf l) (h : SegAt w ao l) : Calls Tryd.prog 19 #[.slice ao n cap] w fun e w' => e = .returned (.int .i64 t) ∧ Below w.heap.size w w' := by
  subst hl
  rw [← hE]
  exact taken_any ao l cap w hwf h
theorem held_lit (n : Nat) (l : Segs) (t : Nat) (ao : Option Addr) (cap : Nat) (w : World) (hl : l.length = n) (hE : heldR l = t) (hwf : Wf l) (h : SegAt w ao l) : Calls Tryd.prog 22 #[.slice ao n cap] w fun e w' => e = .returned (.int .i64 t) ∧ Below w.heap.size w w' := by
  subst hl
  rw [← hE]
  exact held_any ao l cap w hwf h
theorem one_at (w : World) : SegAt (w.alloc (.cells #[.int .i64 0, .int .u64 0] 47)) (some ⟨w.heap.size, 0, none⟩) [(0, 0)] := by
  refine .inr ⟨w.heap.size, 0, rfl, by simp, ?_⟩
  intro i hi
  have : i = 0 := by simpa using hi
  subst this
  exact ⟨by simp, by simp⟩
theorem SegNew.two {w : World} {base cap : Nat} {ao : Option Addr} {l : Segs} (h : SegNew w base ao cap l) (n : Nat) (hl : l.length = n) (h2 : 0 < n) : ∃ g, ao = .some ⟨g, 0, none⟩ ∧ ∀ i, i < n → w.cell? ⟨g, i * 2, none⟩ = .some (.int .i64 (l.getD i (0, 0)).1) ∧ w.cell? ⟨g, i * 2 + 1, none⟩ = .some (.int .u64 (l.getD i (0, 0)).2) := by
  obtain ⟨g, rfl, _, _⟩ := h.some (by omega)
  refine ⟨g, rfl, fun i hi => ?_⟩
  obtain ⟨_, _, he, _, hc⟩ := h.at.cell i (by omega)
  cases he
  have := hc i (by omega)
  rwa [Nat.zero_add] at this
theorem SlotRow.lt {w : World} {b : Nat} {s a : Int} (h : SlotRow w b s a) : b < w.heap.size := (Array.getElem?_eq_some_iff.1 h).1
attribute [local irreducible] Go.Calls
set_option linter.unusedSimpArgs false in
set_option maxRecDepth 20000 in
set_option maxHeartbeats 4000000 in
theorem awake_any (w : World) (hT : TabAt w) : Calls Tryd.prog 13 #[] w fun e w' => e = .returned (.bool true) ∧ Below w.heap.size w w' := by
  have gd := guard47
  have gd2 := guard24
  have q1 : ∀ w, (binOp .eql 24 (.agg #[.int .i64 0, .int .i64 0]) (.agg #[.int .i64 0, .int .i64 0])).run Tryd.prog w = .ok (.bool true) w := fun w => eql_slots 0 0 0 0 w
  have q2 : ∀ w, (binOp .eql 24 (.agg #[.int .i64 1, .int .i64 0]) (.agg #[.int .i64 1, .int .i64 0])).run Tryd.prog w = .ok (.bool true) w := fun w => eql_slots 1 0 1 0 w
  have q3 : ∀ w, (binOp .eql 24 (.agg #[.int .i64 0, .int .i64 1]) (.agg #[.int .i64 0, .int .i64 1])).run Tryd.prog w = .ok (.bool true) w := fun w => eql_slots 0 1 0 1 w
  have q4 : ∀ w, (binOp .eql 47 (.agg #[.int .i64 (-1), .int .u64 0]) (.agg #[.int .i64 (-1), .int .u64 0])).run Tryd.prog w = .ok (.bool true) w := fun w => eql_segs (-1) (-1) 0 0 w
  have q5 : ∀ w, (binOp .eql 47 (.agg #[.int .i64 3, .int .u64 3]) (.agg #[.int .i64 3, .int .u64 3])).run Tryd.prog w = .ok (.bool true) w := fun w => eql_segs 3 3 3 3 w
  go_enter Tryd.func13, Tryd.ntmps13
  go_wp2_with (first
    | (go_at_call 21; refine (new_any 2 w (by omega)).mono ?_; rintro e w1 ⟨⟨ao1, cap1, rfl, hs1⟩, hb1⟩)
    | (go_at_call 15; refine (take_lit 2 (newS 2) _ 3 _ _ _ ao1 cap1 w1 rfl k1 (by omega) wf1 hs1.at hs1.nil (hT.grow hb1)).mono ?_; rintro e w2 ⟨⟨ao2, cap2, rfl, hs2⟩, hb2⟩; have T2 := (hT.grow hb1).grow hb2)
    | (refine wpList_storeSlot rfl (.tmp 3) (.tmp 29) rfl _ 0 0 0 0 rfl rfl (SlotRow.new w2 0 0) ?_; intro w3 hr3 hon3; have hb3 := hon3.fresh; have T3 := T2.grow hb3; have hs3 := hs2.below hb3)
    | (go_at_call 15; refine (take_lit 2 _ _ 0 _ _ _ ao2 cap2 w3 rfl k2 (by omega) wf2 hs3.at hs3.nil T3).mono ?_; rintro e w4 ⟨⟨ao4, cap4, rfl, hs4⟩, hb4⟩; have T4 := T3.grow hb4)
    | (refine wpList_storeSlot rfl (.tmp 5) (.tmp 35) rfl _ 1 0 0 0 rfl rfl (SlotRow.new w4 0 0) ?_; intro w5 hr5 hon5; have hb5 := hon5.fresh; have T5 := T4.grow hb5; have hs5 := hs4.below hb5)
    | (go_at_call 15; refine (take_lit 2 _ _ 3 _ _ _ ao4 cap4 w5 rfl k3 (by omega) wf3 hs5.at hs5.nil T5).mono ?_; rintro e w6 ⟨⟨ao6, cap6, rfl, hs6⟩, hb6⟩; have T6 := T5.grow hb6)
    | (refine wpList_storeSlot rfl (.tmp 7) (.tmp 41) rfl _ 0 1 0 0 rfl rfl (SlotRow.new w6 0 0) ?_; intro w7 hr7 hon7; have hb7 := hon7.fresh; have T7 := T6.grow hb7; have hs7 := hs6.below hb7)
    | (go_at_call 15; refine (take_lit 2 _ _ 1 _ _ _ ao6 cap6 w7 rfl k4 (by omega) wf4 hs7.at hs7.nil T7).mono ?_; rintro e w8 ⟨⟨ao8, cap8, rfl, hs8⟩, hb8⟩; have T8 := T7.grow hb8; have hs8' := hs7.below hb8)
    | (refine wpList_storeSlot rfl (.tmp 10) (.tmp 47) rfl _ 0 0 0 0 rfl rfl (SlotRow.new w8 0 0) ?_; intro w9 hr9 hon9; have hb9 := hon9.fresh; have T9 := T8.grow hb9; have hs9 := hs8'.below hb9)
    | (go_at_call 15; refine (take_lit 2 _ _ 4 _ _ _ ao6 cap6 w9 rfl k5 (by omega) wf4 hs9.at hs9.nil T9).mono ?_; rintro e w10 ⟨⟨ao10, cap10, rfl, hs10⟩, hb10⟩; have T10 := T9.grow hb10; have hs10' := hs9.below hb10)
    | (refine wpList_storeSlot rfl (.tmp 13) (.tmp 53) rfl _ 0 0 0 0 rfl rfl (SlotRow.new w10 0 0) ?_; intro w11 hr11 hon11; have hb11 := hon11.fresh; have hs11 := hs10'.below hb11; have K9 := ((hb8.link hb9).link hb10).link hb11; have K7 := hb7.link K9; have K5 := hb6.link K7; have K3 := (hb4.link hb5).link K5; have r5 := hr5.below K5 hr5.lt; obtain ⟨c50, c51⟩ := r5.box; have r3 := hr3.below K3 hr3.lt; have r7 := hr7.below K9 hr7.lt)
    | (go_at_call 17; refine (free_lit 2 _ _ 1 0 _ ao6 cap6 w11 rfl k6 k6' (by omega) wf4 hs11.at hs11.nil).mono ?_; rintro e w12 ⟨⟨ao12, cap12, rfl, hs12⟩, hb12⟩; have r5' := r5.below hb12 r5.lt; obtain ⟨d50, d51⟩ := r5'.box)
    | (go_at_call 17; refine (free_lit 2 _ _ 1 0 _ ao12 cap12 w12 rfl k7 k7' (by omega) wf5 hs12.at hs12.nil).mono ?_; rintro e w13 ⟨⟨ao13, cap13, rfl, hs13⟩, hb13⟩; have K12 := hb12.link hb13; have r5'' := r5.below K12 r5.lt; obtain ⟨e50, e51⟩ := r5''.box; have r3' := r3.below K12 r3.lt; obtain ⟨e30, e31⟩ := r3'.box; have r7' := r7.below K12 r7.lt; obtain ⟨e70, e71⟩ := r7'.box; have hs13' := hs12.below hb13; have hl13 := hs11.below K12; obtain ⟨gm, rfl, hm⟩ := hs13'.two 2 rfl (by omega); obtain ⟨m0, m1⟩ := hm 0 (by omega); obtain ⟨m2, m3⟩ := hm 1 (by omega))
    | (go_at_call 21; refine (new_bad 201 _ (.inr (by omega))).mono ?_; rintro e w13' ⟨rfl, rfl⟩)
    | (go_at_call 19; refine (taken_lit 2 _ 136 ao6 cap6 w13 rfl k8 wf4 hl13.at).mono ?_; rintro e w14 ⟨rfl, hb14⟩)
    | (go_at_call 22; refine (held_lit 2 _ 1024 ao6 cap6 w14 rfl k9 wf4 (hl13.at.below hb14)).mono ?_; rintro e w15 ⟨rfl, hb15⟩; have K15 := hb14.link hb15; have r7'' := r7'.below K15 r7'.lt; obtain ⟨f70, f71⟩ := r7''.box)
    | (go_at_call 18; refine (has_lit 2 _ 0 1 true ao6 cap6 w15 rfl (decide_eq_true k10) wf4 (hl13.at.below K15)).mono ?_; rintro e w16 ⟨rfl, hb16⟩; have K16 := K15.link hb16; have r5a := r5''.below K16 r5''.lt; obtain ⟨g50, g51⟩ := r5a.box)
    | (go_at_call 18; refine (has_lit 2 _ 1 0 false _ cap12 w16 rfl (decide_eq_false k11) wf5 (hs13'.at.below K16)).mono ?_; rintro e w17 ⟨rfl, hb17⟩; have K17 := K16.link hb17)
    | (go_at_call 14; refine (check_lit 2 _ true ao6 cap6 w17 rfl (decide_eq_true k12) wf4 (hl13.at.below K17)).mono ?_; rintro e w18 ⟨rfl, hb18⟩)
    | (go_at_call 14; refine (check_lit 1 _ false _ 1 _ rfl (decide_eq_false k13) wf6 (one_at w18)).mono ?_; rintro e w19 ⟨rfl, hb19⟩))
  go_ret
  refine ⟨rfl, ?_⟩
  have KA := (hb1.link hb2).link (hb3.link K3)
  have KB := KA.link (K12.link (K17.link hb18))
  exact (KB.alloc KB.size (.cells #[.int .i64 0, .int .u64 0] 47)).trans (hb19.mono (by have := KB.size; simp; omega))
end Go.Proofs.YtfnokklcbmipgaaDoor
