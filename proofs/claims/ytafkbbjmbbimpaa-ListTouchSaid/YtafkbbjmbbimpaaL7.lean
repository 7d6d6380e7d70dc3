/- ListTouch: the walk. -/
import Derived.Test.YtafkbbjmbbimpaaL8
namespace Go.Proofs.Ytafkbbjmbbimpaa
open Go.RowKit Plain

theorem wo_wo (l : List Int) (id : Int) : wo (wo l id) id = wo l id := wo_of_not_mem (not_mem_wo l id)
theorem wo_touch (l : List Int) (id : Int) : wo (touchL l id) id = wo l id := by
  unfold touchL
  rw [show wo (id :: wo l id) id = wo (wo l id) id by unfold wo; simp]
  exact wo_wo l id
theorem touch_touch (l : List Int) (id : Int) : touchL (touchL l id) id = touchL l id := by
  show id :: wo (touchL l id) id = _
  rw [wo_touch]; rfl
theorem wo_app (l m : List Int) (id : Int) : wo (l ++ m) id = wo l id ++ wo m id := by unfold wo; rw [List.filter_append]
theorem wo_get (l : List Int) (id : Int) (i : Nat) (hi : i < l.length) (hne : l.getD i 0 ≠ id) : (wo (l.take i) id).length < (wo l id).length ∧ (wo l id).getD (wo (l.take i) id).length 0 = l.getD i 0 := by
  have e : wo l id = wo (l.take i) id ++ (l.getD i 0 :: wo (l.drop (i + 1)) id) := by
    have h1 : l = l.take i ++ (l.getD i 0 :: l.drop (i + 1)) := by
      rw [getD_of_lt _ _ _ hi, ← List.drop_eq_getElem_cons hi, List.take_append_drop]
    have h2 : wo (l.getD i 0 :: l.drop (i + 1)) id = l.getD i 0 :: wo (l.drop (i + 1)) id := by
      unfold wo
      rw [List.filter_cons, if_pos (by simpa using hne)]
    rw [← h2, ← wo_app, ← h1]
  rw [e]
  refine ⟨by rw [List.length_append, List.length_cons]; omega, ?_⟩
  rw [List.getD_eq_getElem?_getD, List.getElem?_append_right (Nat.le_refl _), Nat.sub_self]; rfl
attribute [local irreducible] Go.Calls
set_option maxRecDepth 20000 in
set_option maxHeartbeats 1000000 in
theorem touch_no_walk (t : LC) (hok : t.ok) (hno : NoL t) (id : Int) (w : World) : Calls Try.prog 7 #[.agg (cellsT t), .int .i64 id] w fun e w' => e = .returned (.bool true) ∧ Below w.heap.size w w' := by
  obtain ⟨z26, s26⟩ := zero_of_info zero26
  have sz := cellsT_size zeroT_ok
  obtain ⟨cz, hcz⟩ : ∃ cz, cz = cellsT zeroT := ⟨_, rfl⟩
  rw [← hcz] at z26 sz
  clear hcz s26
  have g26 := guard26
  have hat0 : At (w.alloc (.cells (cellsT t) 26)) w.heap.size t := At.alloc hok
  have HNO := Lib.hid hno
  have h26 : ∀ w, (binOp .eql 26 (.agg (cellsT t)) (.agg (cellsT t))).run Try.prog w = .ok (.bool true) w := fun w => by rw [eql_lists _ _ hok hok w, decide_eq_true rfl]
  clear hno
  go_enter Try.func7, Try.ntmps7
  go_wp2_with (first
    | (go_at_call 9; refine (awake_any _).mono ?_; rintro e w1 ⟨rfl, hb1⟩; have hat1 := hat0.below hb1 hat0.lt)
    | (refine wpList_loadA hat1 rfl _ rfl rfl ?_)
    | (go_at_call 12; refine (order_no t hok HNO.out w1).mono ?_; rintro e w2 ⟨rfl, hb2⟩; have hat2 := hat1.below hb2 hat1.lt)
    | (refine wpList_loadA hat2 rfl _ rfl rfl ?_)
    | (go_at_call 14; refine (touch_no t hok HNO.out id w2).mono ?_; rintro e w3 ⟨rfl, hb3⟩; have hat3 := hat2.below hb3 hat2.lt)
    | (refine wpList_storeT rfl (.tmp 8) (.tmp 30) rfl _ t rfl rfl hok (Row.last _ _ sz) ?_; intro w4 hat4 hon4; have hb4 := hon4.fresh; have hat4' := hat3.below hb4 hat3.lt)
    | (refine wpList_loadA hat4 rfl (.tmp 8) rfl rfl ?_)
    | (go_at_call 14; refine (touch_no t hok HNO.out id w4).mono ?_; rintro e w5 ⟨rfl, hb5⟩; have hat5 := hat4.below hb5 hat4.lt; have hat5' := hat4'.below hb5 hat4'.lt)
    | (refine wpList_storeT rfl (.tmp 10) (.tmp 36) rfl _ t rfl rfl hok (Row.last _ _ sz) ?_; intro w6 hat6x hon6; have hb6 := hon6.fresh; have hat6 := hat5.below hb6 hat5.lt; have hat6' := hat5'.below hb6 hat5'.lt)
    | (refine wpList_loadA hat6 rfl (.tmp 8) rfl rfl ?_)
    | (go_at_call 12; refine (order_no t hok HNO.out w6).mono ?_; rintro e w7 ⟨rfl, hb7⟩; have hat7 := hat6.below hb7 hat6.lt; have hat7' := hat6'.below hb7 hat6'.lt)
    | (refine wpList_loadG rfl (.tmp 8) rfl _ rfl t hat7 ?_)
    | (refine wpList_loadG rfl (.tmp 2) rfl _ rfl t hat7' ?_))
  go_ret
  exact ⟨rfl, ((Below.refl _ _).alloc (Nat.le_refl _) _).trans (((((((hb1.link hb2).link hb3).link hb4).link hb5).link hb6).link hb7).mono (by simp))⟩
set_option maxRecDepth 20000 in
set_option maxHeartbeats 1000000 in
theorem touch_room_walk (m : List Int) (hm : may m) (id : Int) (hid : ¬ inR id) (w : World) : Calls Try.prog 7 #[.agg (cellsT (tell m)), .int .i64 id] w fun e w' => e = .returned (.bool true) ∧ Below w.heap.size w w' := by
  obtain ⟨z26, s26⟩ := zero_of_info zero26
  have sz := cellsT_size zeroT_ok
  obtain ⟨cz, hcz⟩ : ∃ cz, cz = cellsT zeroT := ⟨_, rfl⟩
  rw [← hcz] at z26 sz
  clear hcz s26
  have g26 := guard26
  have hok := tell_ok m
  have hat0 : At (w.alloc (.cells (cellsT (tell m)) 26)) w.heap.size (tell m) := At.alloc hok
  have C0 := Lib.hid (order_yes m hm)
  have C1 := Lib.hid (touch_room m hm id hid)
  have h26 : ∀ w, (binOp .eql 26 (.agg (cellsT (tell m))) (.agg (cellsT (tell m)))).run Try.prog w = .ok (.bool true) w := fun w => by rw [eql_lists _ _ hok hok w, decide_eq_true rfl]
  generalize tell m = t at *
  have hd : id < 0 ∨ (¬ id < 0 ∧ 63 < id) := by unfold inR at hid; omega
  clear hid
  rcases hd with hd | ⟨hd1, hd2⟩
  all_goals
    go_enter Try.func7, Try.ntmps7
    go_wp2_with (first
      | (go_at_call 9; refine (awake_any _).mono ?_; rintro e w1 ⟨rfl, hb1⟩; have hat1 := hat0.below hb1 hat0.lt)
      | (refine wpList_loadA hat1 rfl _ rfl rfl ?_)
      | (go_at_call 12; refine (C0.out w1).mono ?_; rintro e w2 ⟨⟨ao, cap, rfl, hsl⟩, hb2⟩; have hat2 := hat1.below hb2 hat1.lt)
      | (refine wpList_loadA hat2 rfl _ rfl rfl ?_)
      | (go_at_call 14; refine (C1.out w2).mono ?_; rintro e w3 ⟨rfl, hb3⟩; have hat3 := hat2.below hb3 hat2.lt)
      | (refine wpList_storeT rfl (.tmp 8) (.tmp 30) rfl _ t rfl rfl hok (Row.last _ _ sz) ?_; intro w4 hat4 hon4; have hb4 := hon4.fresh; have hat4' := hat3.below hb4 hat3.lt)
      | (refine wpList_loadA hat4 rfl (.tmp 8) rfl rfl ?_)
      | (go_at_call 14; refine (C1.out w4).mono ?_; rintro e w5 ⟨rfl, hb5⟩; have hat5 := hat4.below hb5 hat4.lt; have hat5' := hat4'.below hb5 hat4'.lt)
      | (refine wpList_storeT rfl (.tmp 10) (.tmp 36) rfl _ t rfl rfl hok (Row.last _ _ sz) ?_; intro w6 hat6x hon6; have hb6 := hon6.fresh; have hat6 := hat5.below hb6 hat5.lt; have hat6' := hat5'.below hb6 hat5'.lt)
      | (refine wpList_loadA hat6 rfl (.tmp 8) rfl rfl ?_)
      | (go_at_call 12; refine (C0.out w6).mono ?_; rintro e w7 ⟨⟨ao2, cap2, rfl, hsl2⟩, hb7⟩; have hat7 := hat6.below hb7 hat6.lt; have hat7' := hat6'.below hb7 hat6'.lt)
      | (refine wpList_loadG rfl (.tmp 8) rfl _ rfl t hat7 ?_)
      | (refine wpList_loadG rfl (.tmp 2) rfl _ rfl t hat7' ?_))
    go_ret
    exact ⟨rfl, ((Below.refl _ _).alloc (Nat.le_refl _) _).trans (((((((hb1.link hb2).link hb3).link hb4).link hb5).link hb6).link hb7).mono (by simp))⟩
end Go.Proofs.Ytafkbbjmbbimpaa
