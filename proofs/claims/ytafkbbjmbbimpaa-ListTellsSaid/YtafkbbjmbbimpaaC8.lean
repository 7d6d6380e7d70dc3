/- list.Touch, Drop, Last: their contracts by what is known. -/
import Derived.Test.YtafkbbjmbbimpaaC7
import Derived.Laws.OwnMore
namespace Go.Proofs.Ytafkbbjmbbimpaa
open Go.RowKit Plain

def TE (t : LC) (n : Int) (w : World) (e : Ending) (w' : World) : Prop := e = .returned (.tuple #[.agg (cellsT t), .int .i64 n]) ∧ Below w.heap.size w w'
theorem ofT_may {l : List Int} (h : may l) : ofT l = tell l ∧ ofE l = 0 := ⟨if_pos h, if_pos h⟩
theorem touch_len {l : List Int} (h : may l) (id : Int) : (id :: wo l id).length ≤ 5000 := by
  have h1 := may_len (may_wo h id)
  simp; omega
theorem own_sl {w : World} {base n cap : Nat} {ao : Option Addr} {l : List Int} (h : w.ownsRow base 3 1 (.slice ao n cap) n (ints l)) : SlOk w ao cap l := by
  obtain ⟨a, c, hv, h1, h2, h3⟩ := own_int h
  simp only [Value.slice.injEq] at hv
  obtain ⟨rfl, _, rfl⟩ := hv
  exact ⟨h1, h2, h3⟩
/-- What stands behind the box and the result's variable. -/
structure Start (w : World) (t : LC) (w2 : World) (cz : Array Value) : Prop where
  at0 : At w2 w.heap.size t
  row : Row w2 (w.heap.size + 1)
  below : Below w.heap.size w w2
  size : w2.heap.size = w.heap.size + 2
theorem start_of (w : World) (t : LC) (hok : t.ok) (cz : Array Value) (sz : cz.size = 194) : Start w t ((w.alloc (.cells (cellsT t) 26)).alloc (.cells cz 26)) cz := by
  refine ⟨(At.alloc hok).more _, ?_, ((Below.refl _ _).alloc (Nat.le_refl _) _).alloc (by simp) _, by simp⟩
  have := Row.last (w.alloc (.cells (cellsT t) 26)) cz sz
  rwa [World.size_alloc] at this

set_option maxHeartbeats 400000 in
theorem touch_no (t : LC) (hok : t.ok) (hn : NoL t) (id : Int) (w : World) : Calls Try.prog 14 #[.agg (cellsT t), .int .i64 id] w (TE t 120 w) := by
  obtain ⟨z26, s26⟩ := zero_of_info zero26
  have sz := cellsT_size zeroT_ok
  obtain ⟨cz, hcz⟩ : ∃ cz, cz = cellsT zeroT := ⟨_, rfl⟩
  rw [← hcz] at z26 sz
  have S := start_of w t hok cz sz
  clear hcz s26
  have hat := S.at0
  go_enter Try.func14, Try.ntmps14
  go_wp2_with (first
    | (refine wpList_loadT rfl _ rfl _ rfl t hat ?_)
    | (go_at_call 12; refine (order_no t hok hn _).mono ?_; rintro e w3 ⟨rfl, hb3⟩; have hlt := hb3.size; have hsz := S.size; have hat := S.at0.below hb3 (by omega); have hrow := S.row.below hb3 (by omega))
    | (refine wpList_storeT rfl _ _ rfl _ t rfl rfl hok hrow ?_; intro w5 hat5 hon5))
  refine bodyPost_ret (results_list2 rfl _ _ _ t hat5 rfl) rfl ⟨rfl, ?_⟩
  exact hon5.below (S.below.trans (hb3.mono (by omega))) (by omega)

set_option maxHeartbeats 400000 in
theorem touch_room (l : List Int) (hl : may l) (id : Int) (hid : ¬ inR id) (w : World) : Calls Try.prog 14 #[.agg (cellsT (tell l)), .int .i64 id] w (TE (tell l) 110 w) := by
  obtain ⟨z26, s26⟩ := zero_of_info zero26
  have sz := cellsT_size zeroT_ok
  obtain ⟨cz, hcz⟩ : ∃ cz, cz = cellsT zeroT := ⟨_, rfl⟩
  rw [← hcz] at z26 sz
  have hok := tell_ok l
  have S := start_of w (tell l) hok cz sz
  clear hcz s26
  have hat := S.at0
  go_enter Try.func14, Try.ntmps14
  go_wp2_with (first
    | (refine wpList_loadT rfl _ rfl _ rfl (tell l) hat ?_)
    | (go_at_call 12; refine (order_yes l hl _).mono ?_; rintro e w3 ⟨⟨ao, cap, rfl, hsl⟩, hb3⟩; have hlt := hb3.size; have hsz := S.size; have hat := S.at0.below hb3 (by omega); have hrow := S.row.below hb3 (by omega))
    | (go_at_call 25; refine (named_any _ _).mono ?_; rintro e w' ⟨rfl, rfl⟩; rw [decide_eq_false hid])
    | (refine wpList_storeT rfl _ _ rfl _ (tell l) rfl rfl hok hrow ?_; intro w5 hat5 hon5))
  refine bodyPost_ret (results_list2 rfl _ _ _ (tell l) hat5 rfl) rfl ⟨rfl, ?_⟩
  exact hon5.below (S.below.trans (hb3.mono (by omega))) (by omega)

set_option maxHeartbeats 400000 in
theorem touch_yes (l : List Int) (hl : may l) (id : Int) (hid : inR id) (w : World) : Calls Try.prog 14 #[.agg (cellsT (tell l)), .int .i64 id] w (TE (tell (touchL l id)) 0 w) := by
  obtain ⟨z26, s26⟩ := zero_of_info zero26
  have sz := cellsT_size zeroT_ok
  obtain ⟨cz, hcz⟩ : ∃ cz, cz = cellsT zeroT := ⟨_, rfl⟩
  rw [← hcz] at z26 sz
  have hok := tell_ok l
  have hok2 := tell_ok (touchL l id)
  have S := start_of w (tell l) hok cz sz
  have hm2 := ofT_may (may_touch hl hid)
  have HTL := Lib.hid (show touchL l id = [id] ++ wo l id from rfl)
  have hlen := may_len hl
  have hlen2 := wo_len l id
  clear hcz s26
  have hat := S.at0
  go_enter Try.func14, Try.ntmps14
  go_wp2_with (first
    | (refine wpList_loadT rfl _ rfl _ rfl (tell l) hat ?_)
    | (go_at_call 12; refine (order_yes l hl _).mono ?_; rintro e w3 ⟨⟨ao, cap, rfl, hsl⟩, hb3⟩; have hlt := hb3.size; have hsz := S.size; have hat := S.at0.below hb3 (by omega); have hrow := S.row.below hb3 (by omega))
    | (go_at_call 25; refine (named_any _ _).mono ?_; rintro e w' ⟨rfl, rfl⟩; rw [decide_eq_true hid])
    | (go_at_call 28; refine (without_any ao l cap id (w3.alloc (.cells #[.int .i64 id] 3)) (by omega) (hsl.1.more _)).mono ?_; rintro e w4 ⟨⟨ao2, cap2, rfl, hsl2⟩, hb4⟩; have hsz4 := hb4.size; rw [World.size_alloc] at hsz4; have hown := own_below (World.ownsRow_lit (base := w.heap.size + 2) (e := 3) (size := 1) w3 #[.int .i64 id] 1 (by omega) (by unfold maxLen; omega) rfl) hb4)
    | (at_builtin; refine append_ints rfl _ _ rfl (w.heap.size + 2) _ [id] rfl hown ao2 (wo l id) cap2 rfl hsl2.1 hsl2.2.1 (by rw [List.length_append]; simp; omega) (by omega) ?_; intro ao5 cap5 w5 hown5 hb5)
    | (go_at_call 10; refine (of_any ao5 ([id] ++ wo l id) cap5 _ (by rw [List.length_append]; simp; omega) (own_sl hown5).1).mono ?_; rintro e w6 ⟨rfl, hb6⟩; rw [← HTL.out, hm2.1, hm2.2]; have hlt5 := hb5.size; have hlt6 := hb6.size; have hrow6 := (((hrow.more (.cells #[.int .i64 id] 3)).below hb4 (by rw [World.size_alloc]; omega)).below hb5 (by omega)).below hb6 (by omega))
    | (refine wpList_storeT rfl _ _ rfl _ (tell (touchL l id)) rfl rfl hok2 hrow6 ?_; intro w7 hat7 hon7))
  refine bodyPost_ret (results_list2 rfl _ _ _ (tell (touchL l id)) hat7 rfl) rfl ⟨rfl, ?_⟩
  have hB3 : Below w.heap.size w w3 := S.below.trans (hb3.mono (by omega))
  have hB4 : Below w.heap.size w w4 := (hB3.alloc (by omega) (.cells #[.int .i64 id] 3)).trans (hb4.mono (by rw [World.size_alloc]; omega))
  exact hon7.below ((hB4.trans (hb5.mono (by omega))).trans (hb6.mono (by omega))) (by omega)

set_option maxHeartbeats 400000 in
theorem drop_no (t : LC) (hok : t.ok) (hn : NoL t) (id : Int) (w : World) : Calls Try.prog 16 #[.agg (cellsT t), .int .i64 id] w (TE t 120 w) := by
  obtain ⟨z26, s26⟩ := zero_of_info zero26
  have sz := cellsT_size zeroT_ok
  obtain ⟨cz, hcz⟩ : ∃ cz, cz = cellsT zeroT := ⟨_, rfl⟩
  rw [← hcz] at z26 sz
  have S := start_of w t hok cz sz
  clear hcz s26
  have hat := S.at0
  go_enter Try.func16, Try.ntmps16
  go_wp2_with (first
    | (refine wpList_loadT rfl _ rfl _ rfl t hat ?_)
    | (go_at_call 12; refine (order_no t hok hn _).mono ?_; rintro e w3 ⟨rfl, hb3⟩; have hlt := hb3.size; have hsz := S.size; have hat := S.at0.below hb3 (by omega); have hrow := S.row.below hb3 (by omega))
    | (refine wpList_storeT rfl _ _ rfl _ t rfl rfl hok hrow ?_; intro w5 hat5 hon5))
  refine bodyPost_ret (results_list2 rfl _ _ _ t hat5 rfl) rfl ⟨rfl, ?_⟩
  exact hon5.below (S.below.trans (hb3.mono (by omega))) (by omega)

set_option maxHeartbeats 400000 in
theorem drop_none (l : List Int) (hl : may l) (id : Int) (hid : id ∉ l) (w : World) : Calls Try.prog 16 #[.agg (cellsT (tell l)), .int .i64 id] w (TE (tell l) 120 w) := by
  obtain ⟨z26, s26⟩ := zero_of_info zero26
  have sz := cellsT_size zeroT_ok
  obtain ⟨cz, hcz⟩ : ∃ cz, cz = cellsT zeroT := ⟨_, rfl⟩
  rw [← hcz] at z26 sz
  have hok := tell_ok l
  have S := start_of w (tell l) hok cz sz
  have hlen := may_len hl
  have hdec := Lib.hid (decide_eq_false hid)
  clear hcz s26 hid
  have hat := S.at0
  go_enter Try.func16, Try.ntmps16
  go_wp2_with (first
    | (refine wpList_loadT rfl _ rfl _ rfl (tell l) hat ?_)
    | (go_at_call 12; refine (order_yes l hl _).mono ?_; rintro e w3 ⟨⟨ao, cap, rfl, hsl⟩, hb3⟩; have hlt := hb3.size; have hsz := S.size; have hat := S.at0.below hb3 (by omega); have hrow := S.row.below hb3 (by omega))
    | (go_at_call 30; refine (contains_any _ l _ _ _ (by omega) hsl.1).mono ?_; rintro e w' ⟨rfl, rfl⟩; rw [hdec.out])
    | (refine wpList_storeT rfl _ _ rfl _ (tell l) rfl rfl hok hrow ?_; intro w5 hat5 hon5))
  refine bodyPost_ret (results_list2 rfl _ _ _ (tell l) hat5 rfl) rfl ⟨rfl, ?_⟩
  exact hon5.below (S.below.trans (hb3.mono (by omega))) (by omega)

set_option maxHeartbeats 400000 in
theorem drop_yes (l : List Int) (hl : may l) (id : Int) (hid : id ∈ l) (w : World) : Calls Try.prog 16 #[.agg (cellsT (tell l)), .int .i64 id] w (TE (tell (wo l id)) 0 w) := by
  obtain ⟨z26, s26⟩ := zero_of_info zero26
  have sz := cellsT_size zeroT_ok
  obtain ⟨cz, hcz⟩ : ∃ cz, cz = cellsT zeroT := ⟨_, rfl⟩
  rw [← hcz] at z26 sz
  have hok := tell_ok l
  have hok2 := tell_ok (wo l id)
  have S := start_of w (tell l) hok cz sz
  have hm2 := ofT_may (may_wo hl id)
  have hlen := may_len hl
  have hlen2 := wo_len l id
  have hdec := Lib.hid (decide_eq_true hid)
  clear hcz s26 hid
  have hat := S.at0
  go_enter Try.func16, Try.ntmps16
  go_wp2_with (first
    | (refine wpList_loadT rfl _ rfl _ rfl (tell l) hat ?_)
    | (go_at_call 12; refine (order_yes l hl _).mono ?_; rintro e w3 ⟨⟨ao, cap, rfl, hsl⟩, hb3⟩; have hlt := hb3.size; have hsz := S.size; have hat := S.at0.below hb3 (by omega); have hrow := S.row.below hb3 (by omega))
    | (go_at_call 30; refine (contains_any _ l _ _ _ (by omega) hsl.1).mono ?_; rintro e w' ⟨rfl, rfl⟩; rw [hdec.out])
    | (go_at_call 28; refine (without_any ao l cap id w3 (by omega) hsl.1).mono ?_; rintro e w4 ⟨⟨ao2, cap2, rfl, hsl2⟩, hb4⟩)
    | (go_at_call 10; refine (of_any ao2 (wo l id) cap2 _ (by omega) hsl2.1).mono ?_; rintro e w6 ⟨rfl, hb6⟩; rw [hm2.1, hm2.2]; have hlt4 := hb4.size; have hlt6 := hb6.size; have hrow6 := (hrow.below hb4 (by omega)).below hb6 (by omega))
    | (refine wpList_storeT rfl _ _ rfl _ (tell (wo l id)) rfl rfl hok2 hrow6 ?_; intro w7 hat7 hon7))
  refine bodyPost_ret (results_list2 rfl _ _ _ (tell (wo l id)) hat7 rfl) rfl ⟨rfl, ?_⟩
  have hB3 : Below w.heap.size w w3 := S.below.trans (hb3.mono (by omega))
  exact hon7.below ((hB3.trans (hb4.mono (by omega))).trans (hb6.mono (by omega))) (by omega)

def IB (n : Int) (b : Bool) (w : World) (e : Ending) (w' : World) : Prop := e = .returned (.tuple #[.int .i64 n, .bool b]) ∧ Below w.heap.size w w'
set_option maxHeartbeats 400000 in
theorem last_no (t : LC) (hok : t.ok) (hn : NoL t) (w : World) : Calls Try.prog 18 #[.agg (cellsT t)] w (IB 0 false w) := by
  have hat : At (w.alloc (.cells (cellsT t) 26)) w.heap.size t := At.alloc hok
  go_enter Try.func18, Try.ntmps18
  go_wp2_with (first
    | (refine wpList_loadT rfl _ rfl _ rfl t hat ?_)
    | (go_at_call 12; refine (order_no t hok hn _).mono ?_; rintro e w3 ⟨rfl, hb3⟩; have hlt := hb3.size; rw [World.size_alloc] at hlt))
  go_ret2
  exact ⟨rfl, ((Below.refl _ _).alloc (Nat.le_refl _) _).trans (hb3.mono (by simp))⟩
set_option maxHeartbeats 400000 in
theorem last_nil (w : World) : Calls Try.prog 18 #[.agg (cellsT (tell []))] w (IB 0 false w) := by
  have hat : At (w.alloc (.cells (cellsT (tell [])) 26)) w.heap.size (tell []) := At.alloc (tell_ok _)
  go_enter Try.func18, Try.ntmps18
  go_wp2_with (first
    | (refine wpList_loadT rfl _ rfl _ rfl (tell []) hat ?_)
    | (go_at_call 12; refine (order_yes [] may_nil _).mono ?_; rintro e w3 ⟨⟨ao, cap, rfl, hsl⟩, hb3⟩; have hlt := hb3.size; rw [World.size_alloc] at hlt))
  go_ret2
  exact ⟨rfl, ((Below.refl _ _).alloc (Nat.le_refl _) _).trans (hb3.mono (by simp))⟩
set_option maxHeartbeats 400000 in
theorem last_yes (l : List Int) (hl : may l) (k : Nat) (hk : l.length = k + 1) (w : World) : Calls Try.prog 18 #[.agg (cellsT (tell l))] w (IB (l.getD k 0) true w) := by
  have hat : At (w.alloc (.cells (cellsT (tell l)) 26)) w.heap.size (tell l) := At.alloc (tell_ok _)
  have h0 : ((l.length : Int) == 0) = false := by simp; intro e; rw [e] at hk; simp at hk
  have hlen := may_len hl
  have h1 : IntKind.i64.wrap ((l.length : Int) - 1) = (k : Int) := by rw [IntWalk.i64_in _ (by omega)]; omega
  have HK := Lib.hid hk
  clear hk
  go_enter Try.func18, Try.ntmps18
  go_wp2_with (first
    | (refine wpList_loadT rfl _ rfl _ rfl (tell l) hat ?_)
    | (go_at_call 12; refine (order_yes l hl _).mono ?_; rintro e w3 ⟨⟨ao, cap, rfl, hsl⟩, hb3⟩; have hlt := hb3.size; rw [World.size_alloc] at hlt; obtain ⟨b, off, rfl, hc⟩ := hsl.1.cell k (by rw [HK.out]; omega); have gk := hc k (by rw [HK.out]; omega); have hkl : (k : Int) < (l.length : Int) := by rw [HK.out]; omega))
  go_ret2
  exact ⟨rfl, ((Below.refl _ _).alloc (Nat.le_refl _) _).trans (hb3.mono (by simp))⟩
end Go.Proofs.Ytafkbbjmbbimpaa
