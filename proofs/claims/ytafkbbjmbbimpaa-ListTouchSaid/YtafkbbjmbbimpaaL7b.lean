/- ListTouch: the walk, the third case. -/
import Derived.Test.YtafkbbjmbbimpaaL7
namespace Go.Proofs.Ytafkbbjmbbimpaa
open Go.RowKit Plain

theorem IntAt.tail {w : World} {b off : Nat} {x : Int} {l : List Int} (h : IntAt w (some ⟨b, off, none⟩) (x :: l)) : IntAt w (some ⟨b, off + 1, none⟩) l := by
  rcases h with h | ⟨b', off', h1, h2, h3⟩
  · cases h
  · cases h1
    refine .inr ⟨b, off + 1, rfl, h2, ?_⟩
    intro i hi
    have := h3 (i + 1) (by simp; omega)
    rw [show off + 1 + i = off + (i + 1) by omega, this]; rfl
structure TouchFacts (m : List Int) (id : Int) (L : List Int) (T1 T2 T3 : LC) : Prop where
  o1 : T1.ok
  o2 : T2.ok
  o3 : T3.ok
  c0 : ∀ w, Calls Try.prog 12 #[.agg (cellsT T1)] w (OrderYes m w)
  c1 : ∀ w, Calls Try.prog 14 #[.agg (cellsT T1), .int .i64 id] w (TE T2 0 w)
  c2 : ∀ w, Calls Try.prog 14 #[.agg (cellsT T2), .int .i64 id] w (TE T2 0 w)
  c3 : ∀ w, Calls Try.prog 12 #[.agg (cellsT T2)] w (OrderYes (id :: L) w)
  c4 : ∀ w, Calls Try.prog 16 #[.agg (cellsT T2), .int .i64 id] w (TE T3 0 w)
  c5 : ∀ w, Calls Try.prog 12 #[.agg (cellsT T3)] w (OrderYes L w)
theorem touch_facts (m : List Int) (hm : may m) (id : Int) (hid : inR id) : ∃ T2 T3, TouchFacts m id (wo m id) (tell m) T2 T3 := by
  have hY := may_touch hm hid
  refine ⟨tell (touchL m id), tell (wo m id), tell_ok _, tell_ok _, tell_ok _, order_yes m hm, touch_yes m hm id hid, ?_, order_yes (touchL m id) hY, ?_, order_yes (wo m id) (may_wo hm id)⟩
  · have h := touch_yes (touchL m id) hY id hid
    rwa [touch_touch] at h
  · have h := drop_yes (touchL m id) hY id (by simp [touchL])
    rwa [wo_touch] at h
attribute [local irreducible] Go.Calls
set_option maxRecDepth 20000 in
set_option maxHeartbeats 1000000 in
theorem touch_yes_walk (m : List Int) (hm : may m) (id : Int) (hid : inR id) (w : World) : Calls Try.prog 7 #[.agg (cellsT (tell m)), .int .i64 id] w fun e w' => e = .returned (.bool true) ∧ Below w.heap.size w w' := by
  obtain ⟨z26, s26⟩ := zero_of_info zero26
  have sz := cellsT_size zeroT_ok
  obtain ⟨cz, hcz⟩ : ∃ cz, cz = cellsT zeroT := ⟨_, rfl⟩
  rw [← hcz] at z26 sz
  clear hcz s26
  have g26 := guard26
  have hlen := may_len hm
  have hlenL := wo_len m id
  obtain ⟨T2, T3, F⟩ := touch_facts m hm id hid
  generalize tell m = T1 at *
  have hat0 : At (w.alloc (.cells (cellsT T1) 26)) w.heap.size T1 := At.alloc F.o1
  have h26 : ∀ w, (binOp .eql 26 (.agg (cellsT T2)) (.agg (cellsT T2))).run Try.prog w = .ok (.bool true) w := fun w => by rw [eql_lists _ _ F.o2 F.o2 w, decide_eq_true rfl]
  have HWG := Lib.hid (wo_get m id)
  have HWT := Lib.hid (wo_take m id)
  obtain ⟨L, hL⟩ : ∃ L, L = wo m id := ⟨_, rfl⟩
  rw [← hL] at F hlenL HWG
  have HL := Lib.hid hL
  clear hm hid hL
  have hnz : (((id :: L).length : Int) == 0) = false := by simp; omega
  have HLen : Hid ((id :: L).length = L.length + 1) := rfl
  go_enter Try.func7, Try.ntmps7
  go_wp2_with (first
    | (go_at_call 9; refine (awake_any _).mono ?_; rintro e w1 ⟨rfl, hb1⟩; have hat1 := hat0.below hb1 hat0.lt)
    | (refine wpList_loadA hat1 rfl _ rfl rfl ?_)
    | (go_at_call 12; refine (F.c0 w1).mono ?_; rintro e w2 ⟨⟨ao, cap, rfl, hsl⟩, hb2⟩; have hat2 := hat1.below hb2 hat1.lt)
    | (refine wpList_loadA hat2 rfl _ rfl rfl ?_)
    | (go_at_call 14; refine (F.c1 w2).mono ?_; rintro e w3 ⟨rfl, hb3⟩; have hat3 := hat2.below hb3 hat2.lt)
    | (refine wpList_storeT rfl (.tmp 8) (.tmp 30) rfl _ T2 rfl rfl F.o2 (Row.last _ _ sz) ?_; intro w4 hat4 hon4; have hb4 := hon4.fresh)
    | (refine wpList_loadA hat4 rfl (.tmp 8) rfl rfl ?_)
    | (go_at_call 14; refine (F.c2 w4).mono ?_; rintro e w5 ⟨rfl, hb5⟩; have hat5 := hat4.below hb5 hat4.lt)
    | (refine wpList_storeT rfl (.tmp 10) (.tmp 36) rfl _ T2 rfl rfl F.o2 (Row.last _ _ sz) ?_; intro w6 hat6x hon6; have hb6 := hon6.fresh; have hat6 := hat5.below hb6 hat5.lt)
    | (refine wpList_loadA hat6 rfl (.tmp 8) rfl rfl ?_)
    | (go_at_call 12; refine (F.c3 w6).mono ?_; rintro e w7 ⟨⟨ao2, cap2, rfl, hsl2⟩, hb7⟩; have hat7 := hat6.below hb7 hat6.lt; have hat7x := hat6x.below hb7 hat6x.lt)
    | (refine wpList_loadA hat7 rfl (.tmp 8) rfl rfl ?_)
    | (go_at_call 16; refine (F.c4 w7).mono ?_; rintro e w8 ⟨rfl, hb8⟩; have hat8 := hat7.below hb8 hat7.lt; have hat8x := hat7x.below hb8 hat7x.lt)
    | (refine wpList_storeT rfl (.tmp 14) (.tmp 81) rfl _ T3 rfl rfl F.o3 (Row.last _ _ sz) ?_; intro w9 hat9z hon9; have hb9 := hon9.fresh; have hat9 := hat8.below hb9 hat8.lt; have hat9x := hat8x.below hb9 hat8x.lt)
    | (refine wpList_loadA hat9z rfl (.tmp 14) rfl rfl ?_)
    | (go_at_call 12; refine (F.c5 w9).mono ?_; rintro e wx ⟨⟨ao3, cap3, rfl, hsl3⟩, hbx⟩; have hatx := hat9.below hbx hat9.lt; have hatxx := hat9x.below hbx hat9x.lt; have K7 := ((hb8.link hb9).link hbx); have K2 := ((((hb3.link hb4).link hb5).link hb6).link hb7).link K7; have hs1 := SlLow.of (hsl.1.below K2); have hs2 := hsl2.below K7; have hs3 := SlLow.of hsl3.1))
  have hBx : Below w.heap.size w wx := ((Below.refl _ _).alloc (Nat.le_refl _) _).trans (((hb1.link hb2).link K2).mono (by simp))
  go_loopw [18, 19] (fun kv iv wr => ∃ i : Nat, i ≤ m.length ∧ iv = .int .i64 i ∧ kv = .int .i64 ((wo (m.take i) id).length : Int) ∧ Below wx.heap.size wx wr) (fun _ iv _ => m.length - (intOf iv).toNat)
  case atStart => exact ⟨0, Nat.zero_le _, rfl, rfl, Below.refl _ _⟩
  case round =>
    obtain ⟨i, hi, rfl, rfl, hbel⟩ := hrel
    by_cases hlt : i < m.length
    · obtain ⟨b, off, rfl, hbl, g1⟩ := (hs1.below hbel (Nat.le_refl _)) i hlt
      have hil : (i : Int) < (m.length : Int) := by omega
      have ht := HWT.out i hlt
      have HG : Hid (m.getD i 0 ≠ id → _) := HWG.out i hlt
      obtain ⟨k, hk⟩ : ∃ k, k = (wo (m.take i) id).length := ⟨_, rfl⟩
      have hk1 : (wo (m.take (i + 1)) id).length = if m.getD i 0 = id then k else k + 1 := by
        rw [ht, List.length_append, ← hk]; split <;> simp
      rw [← hk] at HG ⊢
      obtain ⟨x, hx⟩ : ∃ x, x = m.getD i 0 := ⟨_, rfl⟩
      rw [← hx] at g1 HG hk1
      have HK := Lib.hid hk
      clear ht hx hk
      by_cases hxi : x = id
      · have hb : (x == id) = true := by simpa using hxi
        rw [if_pos hxi] at hk1
        have HK1 := Lib.hid hk1
        clear hk1 hxi
        go_wp2_with fail
        go_roundw
        case rel => exact ⟨i + 1, by omega, by go_num, by rw [HK1.out], hbel⟩
        case measure => simp [intOf]; omega
      · have hb : (x == id) = false := by simpa using hxi
        rw [if_neg hxi] at hk1
        obtain ⟨hkL, hg2⟩ := HG.out hxi
        obtain ⟨b3, off3, rfl, hbl3, g3⟩ := (hs3.below hbel (Nat.le_refl _)) k hkL
        rw [hg2] at g3
        have hnk : ¬ ((L.length : Int) ≤ (k : Int)) := by omega
        have hkl : (k : Int) < (L.length : Int) := by omega
        have HK1 := Lib.hid hk1
        have hwk : IntKind.i64.wrap ((k : Int) + 1) = (k : Int) + 1 := IntWalk.i64_in _ (by omega)
        clear hk1 hxi hg2
        go_wp2_with fail
        go_quiet (fail)
        go_wp2_with fail
        go_roundw
        case rel => exact ⟨i + 1, by omega, by go_num, by rw [HK1.out]; go_num, below_drewN _ _ _ _ hbel⟩
        case measure => simp [intOf]; omega
    · have hil : ¬ ((i : Int) < (m.length : Int)) := by omega
      have him : i = m.length := by omega
      rw [him, List.take_length, ← HL.out]
      have hA8 := hatx.below hbel hatx.lt
      have hA10 := hatxx.below hbel hatxx.lt
      obtain ⟨hi2, hn2, hc2⟩ := hs2.below hbel
      obtain ⟨b2, off2, rfl, hcell⟩ := hi2.cell 0 (by simp)
      have gn := hcell 0 (by simp)
      rw [Nat.add_zero, show (id :: L).getD 0 0 = id from rfl] at gn
      have HI2 := Lib.hid hi2.tail
      have HI3 := Lib.hid (hsl3.1.below hbel)
      have hc1 : 1 ≤ cap2 := by have := HLen.out; omega
      have hc2' : L.length + 1 ≤ cap2 := by have := HLen.out; omega
      have HI0 : Hid (cap2 ≤ 1 → IntAt wr (some ⟨b2, off2, none⟩) L) := fun h => .inl (List.length_eq_zero_iff.1 (by omega))
      clear him hcell hi2
      go_wp2_with (first
        | (refine wpList_loadG rfl (.tmp 10) rfl _ rfl T2 hA10 ?_)
        | (refine wpList_loadG rfl (.tmp 8) rfl _ rfl T2 hA8 ?_)
        | (go_at_call 20; refine (same_any (some ⟨b2, off2 + 1, none⟩) ao3 L L _ _ wr (by omega) (by omega) HI2.out HI3.out).mono ?_; rintro e wy ⟨rfl, hby⟩; rw [decide_eq_true (rfl : L = L)])
        | (go_at_call 20; refine (same_any (some ⟨b2, off2, none⟩) ao3 L L _ _ wr (by omega) (by omega) (HI0.out (by omega)) HI3.out).mono ?_; rintro e wy ⟨rfl, hby⟩; rw [decide_eq_true (rfl : L = L)]))
      all_goals
        go_ret
        exact ⟨rfl, hBx.link (hbel.link hby)⟩
theorem touch_walk (t : LC) (hok : t.ok) (id : Int) (w : World) : Calls Try.prog 7 #[.agg (cellsT t), .int .i64 id] w fun e w' => e = .returned (.bool true) ∧ Below w.heap.size w w' := by
  rcases noL_or t with hx | ⟨m, hm, rfl⟩
  · exact touch_no_walk t hok hx id w
  · by_cases hid : inR id
    · exact touch_yes_walk m hm id hid w
    · exact touch_room_walk m hm id hid w
end Go.Proofs.Ytafkbbjmbbimpaa
