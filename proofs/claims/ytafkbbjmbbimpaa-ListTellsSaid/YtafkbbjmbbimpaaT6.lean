/- ListTells: the walk. -/
import Derived.Test.YtafkbbjmbbimpaaT5
namespace Go.Proofs.Ytafkbbjmbbimpaa
open Go.RowKit Plain

def OrdR (m : List Int) (b : Bool) (w : World) (e : Ending) (w' : World) : Prop := (∃ ao cap, e = .returned (.tuple #[.slice ao m.length cap, .bool b]) ∧ SlOk w' ao cap m) ∧ Below w.heap.size w w'
theorem both_order (t : LC) (hok : t.ok) : ∃ m b, m.length ≤ 64 ∧ (∀ w, Calls Try.prog 12 #[.agg (cellsT t)] w (OrdR m b w)) ∧ (∀ w, Calls Try.prog 13 #[.agg (cellsT t)] w (OrdR m b w)) := by
  rcases noL_or t with hx | ⟨m, hx, rfl⟩
  · exact ⟨[], false, by simp, fun w => (order_no t hok hx w).mono fun e w' ⟨h, hb⟩ => ⟨⟨none, 0, h, .inl rfl, fun _ => rfl, Nat.le_refl _⟩, hb⟩, fun w => (rorder_no t hok hx w).mono fun e w' ⟨h, hb⟩ => ⟨⟨none, 0, h, .inl rfl, fun _ => rfl, Nat.le_refl _⟩, hb⟩⟩
  · exact ⟨m, true, may_len hx, order_yes m hx, rorder_yes m hx⟩
theorem both_touch (t : LC) (hok : t.ok) (id : Int) : ∃ T n, T.ok ∧ (∀ w, Calls Try.prog 14 #[.agg (cellsT t), .int .i64 id] w (TE T n w)) ∧ (∀ w, Calls Try.prog 15 #[.agg (cellsT t), .int .i64 id] w (TE T n w)) := by
  rcases noL_or t with hx | ⟨m, hx, rfl⟩
  · exact ⟨t, 120, hok, touch_no t hok hx id, rtouch_no t hok hx id⟩
  · by_cases hid : inR id
    · exact ⟨_, _, tell_ok _, touch_yes m hx id hid, rtouch_yes m hx id hid⟩
    · exact ⟨_, _, tell_ok _, touch_room m hx id hid, rtouch_room m hx id hid⟩
theorem both_drop (t : LC) (hok : t.ok) (id : Int) : ∃ T n, T.ok ∧ (∀ w, Calls Try.prog 16 #[.agg (cellsT t), .int .i64 id] w (TE T n w)) ∧ (∀ w, Calls Try.prog 17 #[.agg (cellsT t), .int .i64 id] w (TE T n w)) := by
  rcases noL_or t with hx | ⟨m, hx, rfl⟩
  · exact ⟨t, 120, hok, drop_no t hok hx id, rdrop_no t hok hx id⟩
  · by_cases hid : id ∈ m
    · exact ⟨_, _, tell_ok _, drop_yes m hx id hid, rdrop_yes m hx id hid⟩
    · exact ⟨_, _, tell_ok _, drop_none m hx id hid, rdrop_none m hx id hid⟩
theorem both_last (t : LC) (hok : t.ok) : ∃ n b, (∀ w, Calls Try.prog 18 #[.agg (cellsT t)] w (IB n b w)) ∧ (∀ w, Calls Try.prog 19 #[.agg (cellsT t)] w (IB n b w)) := by
  rcases noL_or t with hx | ⟨m, hx, rfl⟩
  · exact ⟨0, false, last_no t hok hx, rlast_no t hok hx⟩
  · cases m with
    | nil => exact ⟨0, false, last_nil, rlast_nil⟩
    | cons a m => exact ⟨_, true, last_yes (a :: m) hx m.length rfl, rlast_yes (a :: m) hx m.length rfl⟩
theorem both_of (l : List Int) (hl : l.length ≤ 5000) : ∃ T n, T.ok ∧ (∀ ao cap w, IntAt w ao l → Calls Try.prog 10 #[.slice ao l.length cap] w (TE T n w)) ∧ (∀ ao cap w, IntAt w ao l → Calls Try.prog 11 #[.slice ao l.length cap] w (TE T n w)) :=
  ⟨ofT l, ofE l, ofT_ok l, fun ao cap w h => of_any ao l cap w (by omega) h, fun ao cap w h => rof_any ao l cap w hl h⟩

attribute [local irreducible] cellsT At Go.Calls
set_option linter.unusedSimpArgs false in
set_option maxRecDepth 20000 in
set_option maxHeartbeats 8000000 in
theorem tells_walk (ao : Option Addr) (l : List Int) (cap : Nat) (t : LC) (hok : t.ok) (id : Int) (w : World) (hint : IntAt w ao l) : Calls Try.prog 3 #[.slice ao l.length cap, .agg (cellsT t), .int .i64 id] w fun e w' => e = .returned (.bool true) ∧ Below w.heap.size w w' := by
  by_cases hlen : l.length ≤ 100
  · obtain ⟨z26, s26⟩ := zero_of_info zero26
    have sz := cellsT_size zeroT_ok
    obtain ⟨cz, hcz⟩ : ∃ cz, cz = cellsT zeroT := ⟨_, rfl⟩
    rw [← hcz] at z26 sz
    clear hcz s26
    have g26 := guard26
    have hat0 : At (w.alloc (.cells (cellsT t) 26)) w.heap.size t := At.alloc hok
    have HINT := Lib.hid (hint.more (.cells (cellsT t) 26))
    obtain ⟨T0, E0, okT0, of0, of1⟩ := both_of l (by omega)
    obtain ⟨m, bm, hm64, or0, or1⟩ := both_order t hok
    obtain ⟨T1, E1, okT1, to0, to1⟩ := both_touch t hok id
    obtain ⟨T2, E2, okT2, dr0, dr1⟩ := both_drop t hok id
    obtain ⟨N, bn, la0, la1⟩ := both_last t hok
    have e0 : ∀ w, (binOp .eql 26 (.agg (cellsT T0)) (.agg (cellsT T0))).run Try.prog w = .ok (.bool true) w := fun w => by rw [eql_lists _ _ okT0 okT0 w, decide_eq_true rfl]
    have e1 : ∀ w, (binOp .eql 26 (.agg (cellsT T1)) (.agg (cellsT T1))).run Try.prog w = .ok (.bool true) w := fun w => by rw [eql_lists _ _ okT1 okT1 w, decide_eq_true rfl]
    have e2 : ∀ w, (binOp .eql 26 (.agg (cellsT T2)) (.agg (cellsT T2))).run Try.prog w = .ok (.bool true) w := fun w => by rw [eql_lists _ _ okT2 okT2 w, decide_eq_true rfl]
    have e3 : ∀ w, (binOp .eql 26 (.agg (cellsT newT)) (.agg (cellsT newT))).run Try.prog w = .ok (.bool true) w := fun w => by rw [eql_lists _ _ newT_ok newT_ok w, decide_eq_true rfl]
    have hd : ¬ (100 : Int) < (l.length : Int) := by omega
    have OF0 := Lib.hid of0
    have OF1 := Lib.hid of1
    have OR0 := Lib.hid or0
    have OR1 := Lib.hid or1
    have TO0 := Lib.hid to0
    have TO1 := Lib.hid to1
    have DR0 := Lib.hid dr0
    have DR1 := Lib.hid dr1
    have LA0 := Lib.hid la0
    have LA1 := Lib.hid la1
    clear hint of0 of1 or0 or1 to0 to1 dr0 dr1 la0 la1
    go_enter Try.func3, Try.ntmps3
    go_wp2_with (first
      | (go_at_call 9; refine (awake_any _).mono ?_; rintro e w1 ⟨rfl, hb1⟩; have hat1 := hat0.below hb1 hat0.lt; have HI1 := Lib.hid (HINT.out.below hb1))
      | (go_at_call 10; refine (OF0.out ao cap w1 HI1.out).mono ?_; rintro e w2 ⟨rfl, hb2⟩; have hat2 := hat1.below hb2 hat1.lt)
      | (refine wpList_storeT rfl (.tmp 8) (.tmp 36) rfl _ T0 rfl rfl okT0 (Row.last _ _ sz) ?_; intro w3 hat3 hon3; have hb3 := hon3.fresh; have hat3' := hat2.below hb3 hat2.lt; have HI3 := Lib.hid ((HI1.out.below hb2).below hb3))
      | (go_at_call 11; refine (OF1.out ao cap w3 HI3.out).mono ?_; rintro e w4 ⟨rfl, hb4⟩; have hat4 := hat3'.below hb4 hat3'.lt)
      | (refine wpList_storeT rfl (.tmp 10) (.tmp 41) rfl _ T0 rfl rfl okT0 (Row.last _ _ sz) ?_; intro w5 hat5 hon5; have hb5 := hon5.fresh; have hat5' := hat4.below hb5 hat4.lt)
      | (refine wpList_loadA hat5' rfl (.tmp 4) rfl rfl ?_)
      | (go_at_call 12; refine (OR0.out w5).mono ?_; rintro e w6 ⟨⟨ao1, cap1, rfl, hsl1⟩, hb6⟩; have hat6 := hat5'.below hb6 hat5'.lt)
      | (refine wpList_loadA hat6 rfl (.tmp 4) rfl rfl ?_)
      | (go_at_call 13; refine (OR1.out w6).mono ?_; rintro e w7 ⟨⟨ao2, cap2, rfl, hsl2⟩, hb7⟩; have hat7 := hat6.below hb7 hat6.lt)
      | (refine wpList_loadA hat7 rfl (.tmp 4) rfl rfl ?_)
      | (go_at_call 14; refine (TO0.out w7).mono ?_; rintro e w8 ⟨rfl, hb8⟩; have hat8 := hat7.below hb8 hat7.lt)
      | (refine wpList_storeT rfl (.tmp 16) (.tmp 57) rfl _ T1 rfl rfl okT1 (Row.last _ _ sz) ?_; intro w9 hat9 hon9; have hb9 := hon9.fresh; have hat9' := hat8.below hb9 hat8.lt)
      | (refine wpList_loadA hat9' rfl (.tmp 4) rfl rfl ?_)
      | (go_at_call 15; refine (TO1.out w9).mono ?_; rintro e w10 ⟨rfl, hb10⟩; have hat10 := hat9'.below hb10 hat9'.lt)
      | (refine wpList_storeT rfl (.tmp 18) (.tmp 63) rfl _ T1 rfl rfl okT1 (Row.last _ _ sz) ?_; intro w11 hat11 hon11; have hb11 := hon11.fresh; have hat11' := hat10.below hb11 hat10.lt)
      | (refine wpList_loadA hat11' rfl (.tmp 4) rfl rfl ?_)
      | (go_at_call 16; refine (DR0.out w11).mono ?_; rintro e w12 ⟨rfl, hb12⟩; have hat12 := hat11'.below hb12 hat11'.lt)
      | (refine wpList_storeT rfl (.tmp 20) (.tmp 69) rfl _ T2 rfl rfl okT2 (Row.last _ _ sz) ?_; intro w13 hat13 hon13; have hb13 := hon13.fresh; have hat13' := hat12.below hb13 hat12.lt)
      | (refine wpList_loadA hat13' rfl (.tmp 4) rfl rfl ?_)
      | (go_at_call 17; refine (DR1.out w13).mono ?_; rintro e w14 ⟨rfl, hb14⟩; have hat14 := hat13'.below hb14 hat13'.lt)
      | (refine wpList_storeT rfl (.tmp 22) (.tmp 75) rfl _ T2 rfl rfl okT2 (Row.last _ _ sz) ?_; intro w15 hat15 hon15; have hb15 := hon15.fresh; have hat15' := hat14.below hb15 hat14.lt)
      | (refine wpList_loadA hat15' rfl (.tmp 4) rfl rfl ?_)
      | (go_at_call 18; refine (LA0.out w15).mono ?_; rintro e w16 ⟨rfl, hb16⟩; have hat16 := hat15'.below hb16 hat15'.lt)
      | (refine wpList_loadA hat16 rfl (.tmp 4) rfl rfl ?_)
      | (go_at_call 19; refine (LA1.out w16).mono ?_; rintro e w17 ⟨rfl, hb17⟩; have K15 := hb16.link hb17; have K13 := (hb14.link hb15).link K15; have K11 := (hb12.link hb13).link K13; have K9 := (hb10.link hb11).link K11; have K7 := (hb8.link hb9).link K9; have K5 := (hb6.link hb7).link K7; have K3 := (hb4.link hb5).link K5; have K1 := (hb2.link hb3).link K3; have A8 := hat3.below K3 hat3.lt; have A10 := hat5.below K5 hat5.lt; have A16 := hat9.below K9 hat9.lt; have A18 := hat11.below K11 hat11.lt; have A20 := hat13.below K13 hat13.lt; have A22 := hat15.below K15 hat15.lt)
      | (refine wpList_loadG rfl (.tmp 8) rfl _ rfl T0 A8 ?_)
      | (refine wpList_loadG rfl (.tmp 10) rfl _ rfl T0 A10 ?_)
      | (go_at_call 20; refine (same_any _ _ m m _ _ w17 (by omega) (by omega) (hsl1.1.below (hb7.link K7)) (hsl2.1.below K7)).mono ?_; rintro e w18 ⟨rfl, hb18⟩; rw [decide_eq_true (rfl : m = m)]; have B16 := A16.below hb18 A16.lt; have B18 := A18.below hb18 A18.lt; have B20 := A20.below hb18 A20.lt; have B22 := A22.below hb18 A22.lt)
      | (refine wpList_loadG rfl (.tmp 16) rfl _ rfl T1 B16 ?_)
      | (refine wpList_loadG rfl (.tmp 18) rfl _ rfl T1 B18 ?_)
      | (refine wpList_loadG rfl (.tmp 20) rfl _ rfl T2 B20 ?_)
      | (refine wpList_loadG rfl (.tmp 22) rfl _ rfl T2 B22 ?_)
      | (go_at_call 21; refine (new_any _).mono ?_; rintro e w19 ⟨rfl, hb19⟩)
      | (go_at_call 22; refine (told_nil _).mono ?_; rintro e w20 ⟨rfl, hb20⟩))
    go_ret
    exact ⟨rfl, ((Below.refl _ _).alloc (Nat.le_refl _) _).trans ((((hb1.link K1).link hb18).link (hb19.link hb20)).mono (by simp))⟩
  · have hd : (100 : Int) < (l.length : Int) := by omega
    go_enter Try.func3, Try.ntmps3
    go_wp2_with (go_at_call 9; refine (awake_any _).mono ?_; rintro e w1 ⟨rfl, hb1⟩)
    go_ret
    exact ⟨rfl, ((Below.refl _ _).alloc (Nat.le_refl _) _).trans (hb1.mono (by simp))⟩
end Go.Proofs.Ytafkbbjmbbimpaa
