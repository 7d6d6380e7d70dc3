/- The document's answer: Of, Touch, Drop, Last. -/
import Derived.Test.YtafkbbjmbbimpaaT4
namespace Go.Proofs.Ytafkbbjmbbimpaa
open Go.RowKit Plain

theorem rorder_yes (l : List Int) (hl : may l) (w : World) : Calls Try.prog 13 #[.agg (cellsT (tell l))] w (OrderYes l w) := by
  refine (rorder_any _ (tell_ok l) w).mono ?_
  rintro e w' ⟨h | ⟨h, _⟩, hb⟩
  · obtain ⟨m, ao, cap, hm, ht, he, hs⟩ := h
    obtain rfl := tell_inj hm hl ht
    exact ⟨⟨ao, cap, he, hs⟩, hb⟩
  · exact absurd rfl (h l hl)
theorem rorder_no (t : LC) (hok : t.ok) (hn : NoL t) (w : World) : Calls Try.prog 13 #[.agg (cellsT t)] w (fun e w' => e = .returned (.tuple #[.slice none 0 0, .bool false]) ∧ Below w.heap.size w w') := by
  refine (rorder_any _ hok w).mono ?_
  rintro e w' ⟨h | ⟨_, h⟩, hb⟩
  · obtain ⟨m, ao, cap, hm, ht, he, hs⟩ := h
    exact absurd ht (hn m hm)
  · exact ⟨h, hb⟩
theorem told_nil (w : World) : Calls Try.prog 22 #[.slice none 0 0] w (fun e w' => e = .returned (.agg (cellsT newT)) ∧ Below w.heap.size w w') := told_any none [] 0 w may_nil (.inl rfl)

set_option maxHeartbeats 400000 in
theorem rof_any (ao : Option Addr) (l : List Int) (cap : Nat) (w : World) (hl : l.length ≤ 5000) (h : IntAt w ao l) : Calls Try.prog 11 #[.slice ao l.length cap] w (OfOk l w) := by
  obtain ⟨z26, s26⟩ := zero_of_info zero26
  have sz := cellsT_size zeroT_ok
  obtain ⟨cz, hcz⟩ : ∃ cz, cz = cellsT zeroT := ⟨_, rfl⟩
  rw [← hcz] at z26 sz
  clear hcz s26
  have hrow := Row.last w cz sz
  have hb0 : Below w.heap.size w (w.alloc (.cells cz 26)) := (Below.refl _ _).alloc (Nat.le_refl _) _
  have H1 : IntAt (w.alloc (.cells cz 26)) ao l := h.more _
  have HI := Lib.hid H1
  clear H1 h
  by_cases hm : may l
  · have HD := Lib.hid (decide_eq_true hm)
    have HM := Lib.hid hm
    have hok := tell_ok l
    have HT := Lib.hid (ofT_may hm)
    clear hm
    go_enter Try.func11, Try.ntmps11
    go_wp2_with (first
      | (go_at_call 26; refine (may_any ao l cap _ hl HI.out).mono ?_; rintro e w3 ⟨rfl, hb3⟩; rw [HD.out])
      | (go_at_call 22; refine (told_any ao l cap _ HM.out (HI.out.below hb3)).mono ?_; rintro e w4 ⟨rfl, hb4⟩; have hlt3 := hb3.size; have hlt4 := hb4.size; rw [World.size_alloc] at hlt3; have hrow4 := (hrow.below hb3 (by rw [World.size_alloc]; omega)).below hb4 (by omega))
      | (refine wpList_storeT rfl _ _ rfl _ (tell l) rfl rfl hok hrow4 ?_; intro w5 hat5 hon5))
    refine bodyPost_ret (results_list2 rfl _ _ _ (tell l) hat5 rfl) rfl ⟨by rw [HT.out.1, HT.out.2]; rfl, ?_⟩
    exact hon5.below (hb0.link (hb3.link hb4)) (by omega)
  · have HD := Lib.hid (decide_eq_false hm)
    have HT : Hid (ofT l = newT ∧ ofE l = 110) := ⟨if_neg hm, if_neg hm⟩
    have hok := newT_ok
    clear hm
    go_enter Try.func11, Try.ntmps11
    go_wp2_with (first
      | (go_at_call 26; refine (may_any ao l cap _ hl HI.out).mono ?_; rintro e w3 ⟨rfl, hb3⟩; rw [HD.out])
      | (go_at_call 22; refine (told_nil _).mono ?_; rintro e w4 ⟨rfl, hb4⟩; have hlt3 := hb3.size; have hlt4 := hb4.size; rw [World.size_alloc] at hlt3; have hrow4 := (hrow.below hb3 (by rw [World.size_alloc]; omega)).below hb4 (by omega))
      | (refine wpList_storeT rfl _ _ rfl _ newT rfl rfl hok hrow4 ?_; intro w5 hat5 hon5))
    refine bodyPost_ret (results_list2 rfl _ _ _ newT hat5 rfl) rfl ⟨by rw [HT.out.1, HT.out.2]; rfl, ?_⟩
    exact hon5.below (hb0.link (hb3.link hb4)) (by omega)

set_option maxHeartbeats 400000 in
theorem rtouch_no (t : LC) (hok : t.ok) (hn : NoL t) (id : Int) (w : World) : Calls Try.prog 15 #[.agg (cellsT t), .int .i64 id] w (TE t 120 w) := by
  obtain ⟨z26, s26⟩ := zero_of_info zero26
  have sz := cellsT_size zeroT_ok
  obtain ⟨cz, hcz⟩ : ∃ cz, cz = cellsT zeroT := ⟨_, rfl⟩
  rw [← hcz] at z26 sz
  have S := start_of w t hok cz sz
  clear hcz s26
  have hat := S.at0
  go_enter Try.func15, Try.ntmps15
  go_wp2_with (first
    | (refine wpList_loadT rfl _ rfl _ rfl t hat ?_)
    | (go_at_call 13; refine (rorder_no t hok hn _).mono ?_; rintro e w3 ⟨rfl, hb3⟩; have hlt := hb3.size; have hsz := S.size; have hat := S.at0.below hb3 (by omega); have hrow := S.row.below hb3 (by omega))
    | (refine wpList_storeT rfl _ _ rfl _ t rfl rfl hok hrow ?_; intro w5 hat5 hon5))
  refine bodyPost_ret (results_list2 rfl _ _ _ t hat5 rfl) rfl ⟨rfl, ?_⟩
  exact hon5.below (S.below.trans (hb3.mono (by omega))) (by omega)
set_option maxHeartbeats 400000 in
theorem rtouch_room (l : List Int) (hl : may l) (id : Int) (hid : ¬ inR id) (w : World) : Calls Try.prog 15 #[.agg (cellsT (tell l)), .int .i64 id] w (TE (tell l) 110 w) := by
  obtain ⟨z26, s26⟩ := zero_of_info zero26
  have sz := cellsT_size zeroT_ok
  obtain ⟨cz, hcz⟩ : ∃ cz, cz = cellsT zeroT := ⟨_, rfl⟩
  rw [← hcz] at z26 sz
  have hok := tell_ok l
  have S := start_of w (tell l) hok cz sz
  have hcase : decide (id < 0) = true ∨ (decide (id < 0) = false ∧ 63 < id) := by
    simp only [decide_eq_false_iff_not, decide_eq_true_eq]
    unfold inR at hid
    omega
  clear hcz s26 hid
  have hat := S.at0
  rcases hcase with d1 | ⟨d1, d2⟩
  all_goals (
    go_enter Try.func15, Try.ntmps15
    go_wp2_with (first
      | (refine wpList_loadT rfl _ rfl _ rfl (tell l) hat ?_)
      | (go_at_call 13; refine (rorder_yes l hl _).mono ?_; rintro e w3 ⟨⟨ao, cap, rfl, hsl⟩, hb3⟩; have hlt := hb3.size; have hsz := S.size; have hat := S.at0.below hb3 (by omega); have hrow := S.row.below hb3 (by omega))
      | (refine wpList_storeT rfl _ _ rfl _ (tell l) rfl rfl hok hrow ?_; intro w5 hat5 hon5))
    refine bodyPost_ret (results_list2 rfl _ _ _ (tell l) hat5 rfl) rfl ⟨rfl, ?_⟩
    exact hon5.below (S.below.trans (hb3.mono (by omega))) (by omega))
set_option maxHeartbeats 400000 in
theorem rtouch_yes (l : List Int) (hl : may l) (id : Int) (hid : inR id) (w : World) : Calls Try.prog 15 #[.agg (cellsT (tell l)), .int .i64 id] w (TE (tell (touchL l id)) 0 w) := by
  obtain ⟨z26, s26⟩ := zero_of_info zero26
  have sz := cellsT_size zeroT_ok
  obtain ⟨cz, hcz⟩ : ∃ cz, cz = cellsT zeroT := ⟨_, rfl⟩
  rw [← hcz] at z26 sz
  have hok := tell_ok l
  have hok2 := tell_ok (touchL l id)
  have S := start_of w (tell l) hok cz sz
  have HM2 := Lib.hid (may_touch hl hid)
  have HTL := Lib.hid (show touchL l id = [id] ++ wo l id from rfl)
  have hlen := may_len hl
  have hlen2 := wo_len l id
  have d1 : ¬ id < 0 := by unfold inR at hid; omega
  have d2 : ¬ 63 < id := by unfold inR at hid; omega
  clear hcz s26 hid
  have hat := S.at0
  go_enter Try.func15, Try.ntmps15
  go_wp2_with (first
    | (refine wpList_loadT rfl _ rfl _ rfl (tell l) hat ?_)
    | (go_at_call 13; refine (rorder_yes l hl _).mono ?_; rintro e w3 ⟨⟨ao, cap, rfl, hsl⟩, hb3⟩; have hlt := hb3.size; have hsz := S.size; have hat := S.at0.below hb3 (by omega); have hrow := S.row.below hb3 (by omega))
    | (go_at_call 29; refine (rwithout_any ao l cap id (w3.alloc (.cells #[.int .i64 id] 3)) (by omega) (hsl.1.more _)).mono ?_; rintro e w4 ⟨⟨ao2, cap2, rfl, hsl2⟩, hb4⟩; have hsz4 := hb4.size; rw [World.size_alloc] at hsz4; have hown := own_below (World.ownsRow_lit (base := w.heap.size + 2) (e := 3) (size := 1) w3 #[.int .i64 id] 1 (by omega) (by unfold maxLen; omega) rfl) hb4)
    | (at_builtin; refine append_ints rfl _ _ rfl (w.heap.size + 2) _ [id] rfl hown ao2 (wo l id) cap2 rfl hsl2.1 hsl2.2.1 (by rw [List.length_append]; simp; omega) (by omega) ?_; intro ao5 cap5 w5 hown5 hb5)
    | (go_at_call 22; refine (told_any ao5 ([id] ++ wo l id) cap5 _ (by rw [← HTL.out]; exact HM2.out) (own_sl hown5).1).mono ?_; rintro e w6 ⟨rfl, hb6⟩; rw [← HTL.out]; have hlt5 := hb5.size; have hlt6 := hb6.size; have hrow6 := (((hrow.more (.cells #[.int .i64 id] 3)).below hb4 (by rw [World.size_alloc]; omega)).below hb5 (by omega)).below hb6 (by omega))
    | (refine wpList_storeT rfl _ _ rfl _ (tell (touchL l id)) rfl rfl hok2 hrow6 ?_; intro w7 hat7 hon7))
  refine bodyPost_ret (results_list2 rfl _ _ _ (tell (touchL l id)) hat7 rfl) rfl ⟨rfl, ?_⟩
  have hB3 : Below w.heap.size w w3 := S.below.trans (hb3.mono (by omega))
  have hB4 : Below w.heap.size w w4 := (hB3.alloc (by omega) (.cells #[.int .i64 id] 3)).trans (hb4.mono (by rw [World.size_alloc]; omega))
  exact hon7.below ((hB4.trans (hb5.mono (by omega))).trans (hb6.mono (by omega))) (by omega)
theorem wo_lt {l : List Int} {id : Int} (h : id ∈ l) : (wo l id).length < l.length := by
  unfold wo
  rw [List.length_filter_lt_length_iff_exists]
  exact ⟨id, h, by simp⟩

set_option maxHeartbeats 400000 in
theorem rdrop_no (t : LC) (hok : t.ok) (hn : NoL t) (id : Int) (w : World) : Calls Try.prog 17 #[.agg (cellsT t), .int .i64 id] w (TE t 120 w) := by
  obtain ⟨z26, s26⟩ := zero_of_info zero26
  have sz := cellsT_size zeroT_ok
  obtain ⟨cz, hcz⟩ : ∃ cz, cz = cellsT zeroT := ⟨_, rfl⟩
  rw [← hcz] at z26 sz
  have S := start_of w t hok cz sz
  clear hcz s26
  have hat := S.at0
  go_enter Try.func17, Try.ntmps17
  go_wp2_with (first
    | (refine wpList_loadA hat rfl _ rfl rfl ?_)
    | (go_at_call 13; refine (rorder_no t hok hn _).mono ?_; rintro e w3 ⟨rfl, hb3⟩; have hlt := hb3.size; have hsz := S.size; have hat := S.at0.below hb3 (by omega); have hrow := S.row.below hb3 (by omega))
    | (go_at_call 29; refine (rwithout_any none [] 0 id w3 (by simp) (.inl rfl)).mono ?_; rintro e w4 ⟨⟨ao2, cap2, rfl, hsl2⟩, hb4⟩; have hlt4 := hb4.size; have hat := hat.below hb4 (by omega); have hrow := hrow.below hb4 (by omega))
    | (refine wpList_storeT rfl _ _ rfl _ t rfl rfl hok hrow ?_; intro w5 hat5 hon5))
  refine bodyPost_ret (results_list2 rfl _ _ _ t hat5 rfl) rfl ⟨rfl, ?_⟩
  exact hon5.below ((S.below.trans (hb3.mono (by omega))).trans (hb4.mono (by omega))) (by omega)
set_option maxHeartbeats 400000 in
theorem rdrop_none (l : List Int) (hl : may l) (id : Int) (hid : id ∉ l) (w : World) : Calls Try.prog 17 #[.agg (cellsT (tell l)), .int .i64 id] w (TE (tell l) 120 w) := by
  obtain ⟨z26, s26⟩ := zero_of_info zero26
  have sz := cellsT_size zeroT_ok
  obtain ⟨cz, hcz⟩ : ∃ cz, cz = cellsT zeroT := ⟨_, rfl⟩
  rw [← hcz] at z26 sz
  have hok := tell_ok l
  have S := start_of w (tell l) hok cz sz
  have hlen := may_len hl
  have HW : Hid (wo l id = l) := wo_of_not_mem hid
  clear hcz s26 hid
  have hat := S.at0
  obtain ⟨T, hT⟩ : ∃ T, T = tell l := ⟨_, rfl⟩
  go_enter Try.func17, Try.ntmps17
  go_wp2_with (first
    | (refine wpList_loadA hat rfl _ rfl rfl ?_)
    | (go_at_call 13; refine (rorder_yes l hl _).mono ?_; rintro e w3 ⟨⟨ao, cap, rfl, hsl⟩, hb3⟩; have hlt := hb3.size; have hsz := S.size; have hat := S.at0.below hb3 (by omega); have hrow := S.row.below hb3 (by omega))
    | (go_at_call 29; refine (rwithout_any ao l cap id w3 (by omega) hsl.1).mono ?_; rw [HW.out]; rintro e w4 ⟨⟨ao2, cap2, rfl, hsl2⟩, hb4⟩; have hlt4 := hb4.size; have hat := hat.below hb4 (by omega); have hrow := hrow.below hb4 (by omega))
    | (refine wpList_storeT rfl _ _ rfl _ (tell l) rfl rfl hok hrow ?_; intro w5 hat5 hon5))
  refine bodyPost_ret (results_list2 rfl _ _ _ (tell l) hat5 rfl) rfl ⟨rfl, ?_⟩
  exact hon5.below ((S.below.trans (hb3.mono (by omega))).trans (hb4.mono (by omega))) (by omega)
set_option maxHeartbeats 400000 in
theorem rdrop_yes (l : List Int) (hl : may l) (id : Int) (hid : id ∈ l) (w : World) : Calls Try.prog 17 #[.agg (cellsT (tell l)), .int .i64 id] w (TE (tell (wo l id)) 0 w) := by
  obtain ⟨z26, s26⟩ := zero_of_info zero26
  have sz := cellsT_size zeroT_ok
  obtain ⟨cz, hcz⟩ : ∃ cz, cz = cellsT zeroT := ⟨_, rfl⟩
  rw [← hcz] at z26 sz
  have hok := tell_ok l
  have hok2 := tell_ok (wo l id)
  have S := start_of w (tell l) hok cz sz
  have HM2 := Lib.hid (may_wo hl id)
  have hlen := may_len hl
  have hlen2 := wo_len l id
  have hne : (((wo l id).length : Int) == (l.length : Int)) = false := by
    have := wo_lt hid
    simp; omega
  clear hcz s26 hid
  have hat := S.at0
  go_enter Try.func17, Try.ntmps17
  go_wp2_with (first
    | (refine wpList_loadA hat rfl _ rfl rfl ?_)
    | (go_at_call 13; refine (rorder_yes l hl _).mono ?_; rintro e w3 ⟨⟨ao, cap, rfl, hsl⟩, hb3⟩; have hlt := hb3.size; have hsz := S.size; have hat := S.at0.below hb3 (by omega); have hrow := S.row.below hb3 (by omega))
    | (go_at_call 29; refine (rwithout_any ao l cap id w3 (by omega) hsl.1).mono ?_; rintro e w4 ⟨⟨ao2, cap2, rfl, hsl2⟩, hb4⟩)
    | (go_at_call 22; refine (told_any ao2 (wo l id) cap2 _ HM2.out hsl2.1).mono ?_; rintro e w6 ⟨rfl, hb6⟩; have hlt4 := hb4.size; have hlt6 := hb6.size; have hrow6 := (hrow.below hb4 (by omega)).below hb6 (by omega))
    | (refine wpList_storeT rfl _ _ rfl _ (tell (wo l id)) rfl rfl hok2 hrow6 ?_; intro w7 hat7 hon7))
  refine bodyPost_ret (results_list2 rfl _ _ _ (tell (wo l id)) hat7 rfl) rfl ⟨rfl, ?_⟩
  have hB3 : Below w.heap.size w w3 := S.below.trans (hb3.mono (by omega))
  exact hon7.below ((hB3.trans (hb4.mono (by omega))).trans (hb6.mono (by omega))) (by omega)

set_option maxHeartbeats 400000 in
theorem rlast_no (t : LC) (hok : t.ok) (hn : NoL t) (w : World) : Calls Try.prog 19 #[.agg (cellsT t)] w (IB 0 false w) := by
  have hat : At (w.alloc (.cells (cellsT t) 26)) w.heap.size t := At.alloc hok
  go_enter Try.func19, Try.ntmps19
  go_wp2_with (first
    | (refine wpList_loadT rfl _ rfl _ rfl t hat ?_)
    | (go_at_call 13; refine (rorder_no t hok hn _).mono ?_; rintro e w3 ⟨rfl, hb3⟩; have hlt := hb3.size; rw [World.size_alloc] at hlt))
  go_ret2
  exact ⟨rfl, ((Below.refl _ _).alloc (Nat.le_refl _) _).trans (hb3.mono (by simp))⟩
set_option maxHeartbeats 400000 in
theorem rlast_nil (w : World) : Calls Try.prog 19 #[.agg (cellsT (tell []))] w (IB 0 false w) := by
  have hat : At (w.alloc (.cells (cellsT (tell [])) 26)) w.heap.size (tell []) := At.alloc (tell_ok _)
  go_enter Try.func19, Try.ntmps19
  go_wp2_with (first
    | (refine wpList_loadT rfl _ rfl _ rfl (tell []) hat ?_)
    | (go_at_call 13; refine (rorder_yes [] may_nil _).mono ?_; rintro e w3 ⟨⟨ao, cap, rfl, hsl⟩, hb3⟩; have hlt := hb3.size; rw [World.size_alloc] at hlt))
  go_ret2
  exact ⟨rfl, ((Below.refl _ _).alloc (Nat.le_refl _) _).trans (hb3.mono (by simp))⟩
set_option maxHeartbeats 400000 in
theorem rlast_yes (l : List Int) (hl : may l) (k : Nat) (hk : l.length = k + 1) (w : World) : Calls Try.prog 19 #[.agg (cellsT (tell l))] w (IB (l.getD k 0) true w) := by
  have hat : At (w.alloc (.cells (cellsT (tell l)) 26)) w.heap.size (tell l) := At.alloc (tell_ok _)
  have h0 : ((l.length : Int) == 0) = false := by simp; intro e; rw [e] at hk; simp at hk
  have hlen := may_len hl
  have h1 : IntKind.i64.wrap ((l.length : Int) - 1) = (k : Int) := by rw [IntWalk.i64_in _ (by omega)]; omega
  have HK := Lib.hid hk
  clear hk
  go_enter Try.func19, Try.ntmps19
  go_wp2_with (first
    | (refine wpList_loadT rfl _ rfl _ rfl (tell l) hat ?_)
    | (go_at_call 13; refine (rorder_yes l hl _).mono ?_; rintro e w3 ⟨⟨ao, cap, rfl, hsl⟩, hb3⟩; have hlt := hb3.size; rw [World.size_alloc] at hlt; obtain ⟨b, off, rfl, hc⟩ := hsl.1.cell k (by rw [HK.out]; omega); have gk := hc k (by rw [HK.out]; omega); have hkl : (k : Int) < (l.length : Int) := by rw [HK.out]; omega))
  go_ret2
  exact ⟨rfl, ((Below.refl _ _).alloc (Nat.le_refl _) _).trans (hb3.mono (by simp))⟩
end Go.Proofs.Ytafkbbjmbbimpaa
