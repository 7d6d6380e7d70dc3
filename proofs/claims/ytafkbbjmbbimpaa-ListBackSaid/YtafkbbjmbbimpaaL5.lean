/- ListBack: the walk. -/
import Derived.Test.YtafkbbjmbbimpaaL8
namespace Go.Proofs.Ytafkbbjmbbimpaa
open Go.RowKit Plain

attribute [local irreducible] Go.Calls
set_option maxRecDepth 20000 in
set_option maxHeartbeats 1000000 in
theorem back_mn (ao : Option Addr) (l : List Int) (cap : Nat) (hlen : l.length ≤ 100) (hm : may l) (t : LC) (hok : t.ok) (hx : NoL t) (w : World) (hint : IntAt w ao l) : Calls Try.prog 5 #[.slice ao l.length cap, .agg (cellsT t)] w fun e w' => e = .returned (.bool true) ∧ Below w.heap.size w w' := by
  obtain ⟨z26, s26⟩ := zero_of_info zero26
  have sz := cellsT_size zeroT_ok
  obtain ⟨cz, hcz⟩ : ∃ cz, cz = cellsT zeroT := ⟨_, rfl⟩
  rw [← hcz] at z26 sz
  clear hcz s26
  have g26 := guard26
  have hat0 : At (w.alloc (.cells (cellsT t) 26)) w.heap.size t := At.alloc hok
  have HINT := Lib.hid (hint.more (.cells (cellsT t) 26))
  have HX := Lib.hid hx
  have ofm : ofT l = tell l ∧ ofE l = 0 := ofT_may hm
  have ofM : ofT [] = tell [] ∧ ofE [] = 0 := ofT_may (may_nil)
  have okL := tell_ok l
  have okM := tell_ok []
  have mL : Hid (may l) := hm
  have hlM : Hid (([] : List Int).length ≤ 100000) := by show _ ≤ _; simp
  have hd : ¬ (100 : Int) < (l.length : Int) := by omega
  clear hint hm hx
  go_enter Try.func5, Try.ntmps5
  go_wp2_with (first
    | (go_at_call 9; refine (awake_any _).mono ?_; rintro e w1 ⟨rfl, hb1⟩; have hat1 := hat0.below hb1 hat0.lt; have HI1 := Lib.hid (HINT.out.below hb1))
    | (go_at_call 10; refine (of_any ao l cap w1 (by omega) HI1.out).mono ?_; rintro e w2 ⟨rfl, hb2⟩; rw [ofm.1, ofm.2]; have hat2 := hat1.below hb2 hat1.lt)
    | (refine wpList_storeT rfl (.tmp 6) (.tmp 22) rfl _ (tell l) rfl rfl okL (Row.last _ _ sz) ?_; intro w3 hat3 hon3; have hb3 := hon3.fresh; have hat3' := hat2.below hb3 hat2.lt)
    | (refine wpList_loadA hat3 rfl (.tmp 6) rfl rfl ?_)
    | (go_at_call 12; refine (order_yes l mL.out w3).mono ?_; rintro e w4 ⟨⟨ao1, cap1, rfl, hsl1⟩, hb4⟩; have hat4 := hat3'.below hb4 hat3'.lt)
    | (refine wpList_loadA hat4 rfl (.tmp 3) rfl rfl ?_)
    | (go_at_call 12; refine (order_no t hok HX.out w4).mono ?_; rintro e w5 ⟨rfl, hb5⟩; have hat5 := hat4.below hb5 hat4.lt; have HI5 := Lib.hid (intr_nil w5))
    | (go_at_call 10; refine (of_any _ [] _ w5 hlM.out HI5.out).mono ?_; rintro e w6 ⟨rfl, hb6⟩; rw [ofM.1, ofM.2]; have hat6 := hat5.below hb6 hat5.lt)
    | (refine wpList_storeT rfl (.tmp 12) (.tmp 37) rfl _ (tell []) rfl rfl okM (Row.last _ _ sz) ?_; intro w7 hat7 hon7; have hb7 := hon7.fresh; have hat7' := hat6.below hb7 hat6.lt; have K4 := ((hb5.link hb6).link hb7); have K1 := ((hb2.link hb3).link hb4).link K4)
    | (go_at_call 20; refine (same_any _ _ l l _ _ w7 (by omega) (by omega) (hsl1.1.below K4) (HI1.out.below K1)).mono ?_; rintro e w8 ⟨rfl, hb8⟩; rw [decide_eq_true (rfl : l = l)]; have hat8 := hat7.below hb8 hat7.lt; have hat8' := hat7'.below hb8 hat7'.lt))
  go_ret
  exact ⟨rfl, ((Below.refl _ _).alloc (Nat.le_refl _) _).trans (((hb1.link K1).link hb8).mono (by simp))⟩
set_option maxRecDepth 20000 in
set_option maxHeartbeats 1000000 in
theorem back_my (ao : Option Addr) (l : List Int) (cap : Nat) (hlen : l.length ≤ 100) (hm : may l) (m : List Int) (hx : may m) (w : World) (hint : IntAt w ao l) : Calls Try.prog 5 #[.slice ao l.length cap, .agg (cellsT (tell m))] w fun e w' => e = .returned (.bool true) ∧ Below w.heap.size w w' := by
  have hok := tell_ok m
  obtain ⟨z26, s26⟩ := zero_of_info zero26
  have sz := cellsT_size zeroT_ok
  obtain ⟨cz, hcz⟩ : ∃ cz, cz = cellsT zeroT := ⟨_, rfl⟩
  rw [← hcz] at z26 sz
  clear hcz s26
  have g26 := guard26
  have hat0 : At (w.alloc (.cells (cellsT (tell m)) 26)) w.heap.size (tell m) := At.alloc hok
  have HINT := Lib.hid (hint.more (.cells (cellsT (tell m)) 26))
  have HX := Lib.hid hx
  have ofm : ofT l = tell l ∧ ofE l = 0 := ofT_may hm
  have ofM : ofT m = tell m ∧ ofE m = 0 := ofT_may (HX.out)
  have okL := tell_ok l
  have okM := tell_ok m
  have mL : Hid (may l) := hm
  have hlM : Hid ((m : List Int).length ≤ 100000) := by have := may_len hx; show _ ≤ _; omega
  have hd : ¬ (100 : Int) < (l.length : Int) := by omega
  have h26 : ∀ w, (binOp .eql 26 (.agg (cellsT (tell m))) (.agg (cellsT (tell m)))).run Try.prog w = .ok (.bool true) w := fun w => by rw [eql_lists _ _ hok hok w, decide_eq_true rfl]
  clear hint hm hx
  go_enter Try.func5, Try.ntmps5
  go_wp2_with (first
    | (go_at_call 9; refine (awake_any _).mono ?_; rintro e w1 ⟨rfl, hb1⟩; have hat1 := hat0.below hb1 hat0.lt; have HI1 := Lib.hid (HINT.out.below hb1))
    | (go_at_call 10; refine (of_any ao l cap w1 (by omega) HI1.out).mono ?_; rintro e w2 ⟨rfl, hb2⟩; rw [ofm.1, ofm.2]; have hat2 := hat1.below hb2 hat1.lt)
    | (refine wpList_storeT rfl (.tmp 6) (.tmp 22) rfl _ (tell l) rfl rfl okL (Row.last _ _ sz) ?_; intro w3 hat3 hon3; have hb3 := hon3.fresh; have hat3' := hat2.below hb3 hat2.lt)
    | (refine wpList_loadA hat3 rfl (.tmp 6) rfl rfl ?_)
    | (go_at_call 12; refine (order_yes l mL.out w3).mono ?_; rintro e w4 ⟨⟨ao1, cap1, rfl, hsl1⟩, hb4⟩; have hat4 := hat3'.below hb4 hat3'.lt)
    | (refine wpList_loadA hat4 rfl (.tmp 3) rfl rfl ?_)
    | (go_at_call 12; refine (order_yes m HX.out w4).mono ?_; rintro e w5 ⟨⟨ao2, cap2, rfl, hsl2⟩, hb5⟩; have hat5 := hat4.below hb5 hat4.lt; have HI5 := Lib.hid hsl2.1)
    | (go_at_call 10; refine (of_any _ m _ w5 hlM.out HI5.out).mono ?_; rintro e w6 ⟨rfl, hb6⟩; rw [ofM.1, ofM.2]; have hat6 := hat5.below hb6 hat5.lt)
    | (refine wpList_storeT rfl (.tmp 12) (.tmp 37) rfl _ (tell m) rfl rfl okM (Row.last _ _ sz) ?_; intro w7 hat7 hon7; have hb7 := hon7.fresh; have hat7' := hat6.below hb7 hat6.lt; have K4 := ((hb5.link hb6).link hb7); have K1 := ((hb2.link hb3).link hb4).link K4)
    | (go_at_call 20; refine (same_any _ _ l l _ _ w7 (by omega) (by omega) (hsl1.1.below K4) (HI1.out.below K1)).mono ?_; rintro e w8 ⟨rfl, hb8⟩; rw [decide_eq_true (rfl : l = l)]; have hat8 := hat7.below hb8 hat7.lt; have hat8' := hat7'.below hb8 hat7'.lt)
    | (refine wpList_loadG rfl (.tmp 12) rfl _ rfl (tell m) hat8 ?_)
    | (refine wpList_loadG rfl (.tmp 3) rfl _ rfl (tell m) hat8' ?_))
  go_ret
  exact ⟨rfl, ((Below.refl _ _).alloc (Nat.le_refl _) _).trans (((hb1.link K1).link hb8).mono (by simp))⟩
set_option maxRecDepth 20000 in
set_option maxHeartbeats 1000000 in
theorem back_nn (ao : Option Addr) (l : List Int) (cap : Nat) (hlen : l.length ≤ 100) (hm : ¬ may l) (t : LC) (hok : t.ok) (hx : NoL t) (w : World) (hint : IntAt w ao l) : Calls Try.prog 5 #[.slice ao l.length cap, .agg (cellsT t)] w fun e w' => e = .returned (.bool true) ∧ Below w.heap.size w w' := by
  obtain ⟨z26, s26⟩ := zero_of_info zero26
  have sz := cellsT_size zeroT_ok
  obtain ⟨cz, hcz⟩ : ∃ cz, cz = cellsT zeroT := ⟨_, rfl⟩
  rw [← hcz] at z26 sz
  clear hcz s26
  have g26 := guard26
  have hat0 : At (w.alloc (.cells (cellsT t) 26)) w.heap.size t := At.alloc hok
  have HINT := Lib.hid (hint.more (.cells (cellsT t) 26))
  have HX := Lib.hid hx
  have ofm : ofT l = tell [] ∧ ofE l = 110 := ⟨if_neg hm, if_neg hm⟩
  have ofM : ofT [] = tell [] ∧ ofE [] = 0 := ofT_may (may_nil)
  have okL := tell_ok []
  have okM := tell_ok []
  have mL : Hid (may []) := may_nil
  have hlM : Hid (([] : List Int).length ≤ 100000) := by show _ ≤ _; simp
  have hd : ¬ (100 : Int) < (l.length : Int) := by omega
  clear hint hm hx
  go_enter Try.func5, Try.ntmps5
  go_wp2_with (first
    | (go_at_call 9; refine (awake_any _).mono ?_; rintro e w1 ⟨rfl, hb1⟩; have hat1 := hat0.below hb1 hat0.lt; have HI1 := Lib.hid (HINT.out.below hb1))
    | (go_at_call 10; refine (of_any ao l cap w1 (by omega) HI1.out).mono ?_; rintro e w2 ⟨rfl, hb2⟩; rw [ofm.1, ofm.2]; have hat2 := hat1.below hb2 hat1.lt)
    | (refine wpList_storeT rfl (.tmp 6) (.tmp 22) rfl _ (tell []) rfl rfl okL (Row.last _ _ sz) ?_; intro w3 hat3 hon3; have hb3 := hon3.fresh; have hat3' := hat2.below hb3 hat2.lt)
    | (refine wpList_loadA hat3 rfl (.tmp 6) rfl rfl ?_)
    | (go_at_call 12; refine (order_yes [] mL.out w3).mono ?_; rintro e w4 ⟨⟨ao1, cap1, rfl, hsl1⟩, hb4⟩; have hat4 := hat3'.below hb4 hat3'.lt)
    | (refine wpList_loadA hat4 rfl (.tmp 3) rfl rfl ?_)
    | (go_at_call 12; refine (order_no t hok HX.out w4).mono ?_; rintro e w5 ⟨rfl, hb5⟩; have hat5 := hat4.below hb5 hat4.lt; have HI5 := Lib.hid (intr_nil w5))
    | (go_at_call 10; refine (of_any _ [] _ w5 hlM.out HI5.out).mono ?_; rintro e w6 ⟨rfl, hb6⟩; rw [ofM.1, ofM.2]; have hat6 := hat5.below hb6 hat5.lt)
    | (refine wpList_storeT rfl (.tmp 12) (.tmp 37) rfl _ (tell []) rfl rfl okM (Row.last _ _ sz) ?_; intro w7 hat7 hon7; have hb7 := hon7.fresh; have hat7' := hat6.below hb7 hat6.lt; have K4 := ((hb5.link hb6).link hb7); have K1 := ((hb2.link hb3).link hb4).link K4))
  go_ret
  exact ⟨rfl, ((Below.refl _ _).alloc (Nat.le_refl _) _).trans ((hb1.link K1).mono (by simp))⟩
set_option maxRecDepth 20000 in
set_option maxHeartbeats 1000000 in
theorem back_ny (ao : Option Addr) (l : List Int) (cap : Nat) (hlen : l.length ≤ 100) (hm : ¬ may l) (m : List Int) (hx : may m) (w : World) (hint : IntAt w ao l) : Calls Try.prog 5 #[.slice ao l.length cap, .agg (cellsT (tell m))] w fun e w' => e = .returned (.bool true) ∧ Below w.heap.size w w' := by
  have hok := tell_ok m
  obtain ⟨z26, s26⟩ := zero_of_info zero26
  have sz := cellsT_size zeroT_ok
  obtain ⟨cz, hcz⟩ : ∃ cz, cz = cellsT zeroT := ⟨_, rfl⟩
  rw [← hcz] at z26 sz
  clear hcz s26
  have g26 := guard26
  have hat0 : At (w.alloc (.cells (cellsT (tell m)) 26)) w.heap.size (tell m) := At.alloc hok
  have HINT := Lib.hid (hint.more (.cells (cellsT (tell m)) 26))
  have HX := Lib.hid hx
  have ofm : ofT l = tell [] ∧ ofE l = 110 := ⟨if_neg hm, if_neg hm⟩
  have ofM : ofT m = tell m ∧ ofE m = 0 := ofT_may (HX.out)
  have okL := tell_ok []
  have okM := tell_ok m
  have mL : Hid (may []) := may_nil
  have hlM : Hid ((m : List Int).length ≤ 100000) := by have := may_len hx; show _ ≤ _; omega
  have hd : ¬ (100 : Int) < (l.length : Int) := by omega
  have h26 : ∀ w, (binOp .eql 26 (.agg (cellsT (tell m))) (.agg (cellsT (tell m)))).run Try.prog w = .ok (.bool true) w := fun w => by rw [eql_lists _ _ hok hok w, decide_eq_true rfl]
  clear hint hm hx
  go_enter Try.func5, Try.ntmps5
  go_wp2_with (first
    | (go_at_call 9; refine (awake_any _).mono ?_; rintro e w1 ⟨rfl, hb1⟩; have hat1 := hat0.below hb1 hat0.lt; have HI1 := Lib.hid (HINT.out.below hb1))
    | (go_at_call 10; refine (of_any ao l cap w1 (by omega) HI1.out).mono ?_; rintro e w2 ⟨rfl, hb2⟩; rw [ofm.1, ofm.2]; have hat2 := hat1.below hb2 hat1.lt)
    | (refine wpList_storeT rfl (.tmp 6) (.tmp 22) rfl _ (tell []) rfl rfl okL (Row.last _ _ sz) ?_; intro w3 hat3 hon3; have hb3 := hon3.fresh; have hat3' := hat2.below hb3 hat2.lt)
    | (refine wpList_loadA hat3 rfl (.tmp 6) rfl rfl ?_)
    | (go_at_call 12; refine (order_yes [] mL.out w3).mono ?_; rintro e w4 ⟨⟨ao1, cap1, rfl, hsl1⟩, hb4⟩; have hat4 := hat3'.below hb4 hat3'.lt)
    | (refine wpList_loadA hat4 rfl (.tmp 3) rfl rfl ?_)
    | (go_at_call 12; refine (order_yes m HX.out w4).mono ?_; rintro e w5 ⟨⟨ao2, cap2, rfl, hsl2⟩, hb5⟩; have hat5 := hat4.below hb5 hat4.lt; have HI5 := Lib.hid hsl2.1)
    | (go_at_call 10; refine (of_any _ m _ w5 hlM.out HI5.out).mono ?_; rintro e w6 ⟨rfl, hb6⟩; rw [ofM.1, ofM.2]; have hat6 := hat5.below hb6 hat5.lt)
    | (refine wpList_storeT rfl (.tmp 12) (.tmp 37) rfl _ (tell m) rfl rfl okM (Row.last _ _ sz) ?_; intro w7 hat7 hon7; have hb7 := hon7.fresh; have hat7' := hat6.below hb7 hat6.lt; have K4 := ((hb5.link hb6).link hb7); have K1 := ((hb2.link hb3).link hb4).link K4)
    | (refine wpList_loadG rfl (.tmp 12) rfl _ rfl (tell m) hat7 ?_)
    | (refine wpList_loadG rfl (.tmp 3) rfl _ rfl (tell m) hat7' ?_))
  go_ret
  exact ⟨rfl, ((Below.refl _ _).alloc (Nat.le_refl _) _).trans ((hb1.link K1).mono (by simp))⟩
set_option maxRecDepth 20000 in
set_option maxHeartbeats 400000 in
theorem back_long (ao : Option Addr) (l : List Int) (cap : Nat) (hlen : 100 < l.length) (t : LC) (w : World) : Calls Try.prog 5 #[.slice ao l.length cap, .agg (cellsT t)] w fun e w' => e = .returned (.bool true) ∧ Below w.heap.size w w' := by
  have hd : (100 : Int) < (l.length : Int) := by omega
  go_enter Try.func5, Try.ntmps5
  go_wp2_with (go_at_call 9; refine (awake_any _).mono ?_; rintro e w1 ⟨rfl, hb1⟩)
  go_ret
  exact ⟨rfl, ((Below.refl _ _).alloc (Nat.le_refl _) _).trans (hb1.mono (by simp))⟩
theorem back_walk (ao : Option Addr) (l : List Int) (cap : Nat) (t : LC) (hok : t.ok) (w : World) (hint : IntAt w ao l) : Calls Try.prog 5 #[.slice ao l.length cap, .agg (cellsT t)] w fun e w' => e = .returned (.bool true) ∧ Below w.heap.size w w' := by
  by_cases hlen : l.length ≤ 100
  · by_cases hm : may l
    · rcases noL_or t with hx | ⟨m, hx, rfl⟩
      · exact back_mn ao l cap hlen hm t hok hx w hint
      · exact back_my ao l cap hlen hm m hx w hint
    · rcases noL_or t with hx | ⟨m, hx, rfl⟩
      · exact back_nn ao l cap hlen hm t hok hx w hint
      · exact back_ny ao l cap hlen hm m hx w hint
  · exact back_long ao l cap (by omega) t w
end Go.Proofs.Ytafkbbjmbbimpaa
