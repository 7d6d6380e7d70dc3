/- ListTurns: the walk. -/
import Derived.Test.YtafkbbjmbbimpaaC9
namespace Go.Proofs.Ytafkbbjmbbimpaa
open Go.RowKit Plain

theorem noL_or (t : LC) : NoL t ∨ ∃ l, may l ∧ t = tell l := by
  by_cases h : ∃ l, may l ∧ t = tell l
  · exact .inr h
  · exact .inl fun l hl ht => h ⟨l, hl, ht.symm⟩
theorem Row.fresh_size {w w' : World} {cz : Array Value} (h : Only w.heap.size (w.alloc (.cells cz 26)) w') : w'.heap.size = w.heap.size + 1 := by rw [h.size, World.size_alloc]
theorem turn_len (l : List Int) (j : Nat) : (turnL l j).length = l.length := by unfold turnL; rw [List.length_append, List.length_drop, List.length_take]; omega
/-- A slice in blocks below B. -/
def SlLow (w : World) (B : Nat) (ao : Option Addr) (l : List Int) : Prop := ∀ i, i < l.length → ∃ b off, ao = some ⟨b, off, none⟩ ∧ b < B ∧ w.cell? ⟨b, off + i, none⟩ = some (.int .i64 (l.getD i 0))
theorem SlLow.of {w : World} {ao : Option Addr} {l : List Int} (h : IntAt w ao l) : SlLow w w.heap.size ao l := by
  intro i hi
  rcases h with h | ⟨b, off, h1, h2, h3⟩
  · subst h; simp at hi
  · exact ⟨b, off, h1, h2, h3 i hi⟩
theorem SlLow.below {w w' : World} {B B' : Nat} {ao : Option Addr} {l : List Int} (h : SlLow w B ao l) (hb : Below B' w w') (hB : B ≤ B') : SlLow w' B ao l := by
  intro i hi
  obtain ⟨b, off, h1, h2, h3⟩ := h i hi
  exact ⟨b, off, h1, h2, by rw [hb.cell (Nat.lt_of_lt_of_le h2 hB)]; exact h3⟩
theorem SlLow.only {w w' : World} {B c : Nat} {ao : Option Addr} {l : List Int} (h : SlLow w B ao l) (ho : Only c w w') (hc : B ≤ c) : SlLow w' B ao l :=
  h.below (ho.below (Below.refl B w) hc) (Nat.le_refl _)
set_option maxRecDepth 20000 in
set_option maxHeartbeats 1000000 in
theorem turns_walk (t : LC) (hok : t.ok) (w : World) : Calls Try.prog 8 #[.agg (cellsT t)] w fun e w' => e = .returned (.bool true) ∧ Below w.heap.size w w' := by
  obtain ⟨z26, s26⟩ := zero_of_info zero26
  have sz := cellsT_size zeroT_ok
  obtain ⟨cz, hcz⟩ : ∃ cz, cz = cellsT zeroT := ⟨_, rfl⟩
  rw [← hcz] at z26 sz
  clear hcz s26
  have g26 := guard26
  have hat0 : At (w.alloc (.cells (cellsT t) 26)) w.heap.size t := At.alloc hok
  rcases noL_or t with hno | ⟨l, hl, rfl⟩
  · have HNO := Lib.hid hno
    clear hno
    go_enter Try.func8, Try.ntmps8
    go_wp2_with (first
      | (go_at_call 9; refine (awake_any _).mono ?_; rintro e w1 ⟨rfl, hb1⟩; have hat1 := hat0.below hb1 hat0.lt)
      | (refine wpList_loadT rfl _ rfl _ rfl t hat1 ?_)
      | (go_at_call 12; refine (order_no t hok HNO.out _).mono ?_; rintro e w2 ⟨rfl, hb2⟩))
    go_ret
    exact ⟨rfl, ((Below.refl _ _).alloc (Nat.le_refl _) _).trans ((hb1.link hb2).mono (by simp))⟩
  · have HL := Lib.hid hl
    have hlen := may_len hl
    clear hl
    go_enter Try.func8, Try.ntmps8
    go_wp2_with (first
      | (go_at_call 9; refine (awake_any _).mono ?_; rintro e w1 ⟨rfl, hb1⟩; have hat1 := hat0.below hb1 hat0.lt)
      | (refine wpList_loadA hat1 rfl _ rfl rfl ?_)
      | (go_at_call 12; refine (order_yes l HL.out _).mono ?_; rintro e w2 ⟨⟨ao, cap, rfl, hsl⟩, hb2⟩; have hat2 := hat1.below hb2 hat1.lt)
      | (refine wpList_loadA hat2 rfl _ rfl rfl ?_)
      | (refine wpList_storeT rfl (.tmp 6) (.tmp 21) rfl _ (tell l) rfl rfl hok (Row.last _ _ sz) ?_; intro w3 hat3 hon3; have hb3 := hon3.fresh; have hsl3 := (SlLow.of hsl.1).below hb3 (Nat.le_refl _); have hat3' := hat2.below hb3 hat2.lt; have hl2 := hat2.lt))
    have hB3 : Below w.heap.size w w3 := (((Below.refl _ _).alloc (Nat.le_refl _) _).trans ((hb1.link hb2).mono (by simp))).trans (hb3.mono (by omega))
    have hT0 := turn_zero l
    go_loopw [7] (fun i wr => ∃ k : Nat, k ≤ l.length ∧ i = .int .i64 k ∧ At wr w2.heap.size (tell (turnL l k)) ∧ At wr w.heap.size (tell l) ∧ SlLow wr w2.heap.size ao l ∧ w2.heap.size < wr.heap.size ∧ Below w.heap.size w wr) (fun i _ => l.length - (intOf i).toNat)
    case atStart => exact ⟨0, Nat.zero_le _, rfl, by rw [hT0]; exact hat3, hat3', hsl3, hat3.lt, hB3⟩
    case round =>
      obtain ⟨k, hk, rfl, hat, hatx, hslr, hszr, hbel⟩ := hrel
      have HT := Lib.hid hT0
      clear hT0
      by_cases hlt : k < l.length
      · obtain ⟨b, off, rfl, hbl, gk⟩ := hslr (l.length - 1 - k) (by omega)
        have hi : (k : Int) < (l.length : Int) := by omega
        have hw1 : IntKind.i64.wrap ((l.length : Int) - 1) = (l.length : Int) - 1 := by rw [IntWalk.i64_in _ (by omega)]
        have hw2 : IntKind.i64.wrap ((l.length : Int) - 1 - (k : Int)) = ((l.length - 1 - k : Nat) : Int) := by rw [IntWalk.i64_in _ (by omega)]; omega
        have hi2 : ((l.length - 1 - k : Nat) : Int) < (l.length : Int) := by omega
        have HM := Lib.hid (may_turn HL.out k)
        have hlastEq : (turnL l k).getD (l.length - 1) 0 = l.getD (l.length - 1 - k) 0 := by
          rw [turn_last k hlt, List.getD_eq_getElem?_getD, List.getElem?_append_right (by rw [List.length_append, List.length_drop, List.length_take]; omega)]
          rw [show l.length - 1 - (l.drop (l.length - k) ++ l.take (l.length - 1 - k)).length = 0 by rw [List.length_append, List.length_drop, List.length_take]; omega]; rfl
        have hin : inR (l.getD (l.length - 1 - k) 0) := by rw [getD_of_lt _ _ _ (by omega)]; exact HL.out.1 _ (List.getElem_mem _)
        have hstep := turn_succ HL.out k hlt
        have c1 := last_yes (turnL l k) HM.out (l.length - 1) (by rw [turn_len]; omega)
        have c2 := touch_yes (turnL l k) HM.out _ hin
        rw [hlastEq] at c1
        rw [hstep] at c2
        obtain ⟨x, hx⟩ : ∃ x, x = l.getD (l.length - 1 - k) 0 := ⟨_, rfl⟩
        obtain ⟨T1, hT1⟩ : ∃ T, T = tell (turnL l k) := ⟨_, rfl⟩
        obtain ⟨T2, hT2⟩ : ∃ T, T = tell (turnL l (k + 1)) := ⟨_, rfl⟩
        have ok2 : T2.ok := by rw [hT2]; exact tell_ok _
        rw [← hx] at c1 c2 gk
        rw [← hT1] at c1 c2 hat
        rw [← hT2] at c2
        have C1 := Lib.hid c1
        have C2 := Lib.hid c2
        have HT2 := Lib.hid hT2
        clear hx hT1 hT2 c1 c2 hlastEq hin hstep
        go_wp2_with (first
          | (refine wpList_loadA hat rfl _ rfl rfl ?_)
          | (go_at_call 18; refine (C1.out _).mono ?_; rintro e w4 ⟨rfl, hb4⟩; have hat4 := hat.below hb4 hat.lt)
          | (refine wpList_loadA hat4 rfl _ rfl rfl ?_)
          | (go_at_call 14; refine (C2.out _).mono ?_; rintro e w5 ⟨rfl, hb5⟩; have hat5 := hat4.below hb5 hat4.lt)
          | (refine wpList_storeT rfl (.tmp 10) (.tmp 37) rfl _ T2 rfl rfl ok2 (Row.last _ _ sz) ?_; intro w6 hat6 hon6; have hb6 := hon6.fresh; have hat6' := hat5.below hb6 hat5.lt; have hb46 := (hb4.link hb5).link hb6; have gk6 : w6.cell? ⟨b, off + (l.length - 1 - k), none⟩ = some (.int .i64 x) := by rw [hb46.cell (by show b < _; omega)]; exact gk)
          | (refine wpList_loadA hat6 rfl _ rfl rfl ?_)
          | (refine wpList_storeT rfl (.tmp 6) (.tmp 57) rfl _ T2 rfl rfl ok2 hat6'.row ?_; intro w7 hat7 hon7))
        have hl6 := hb46.size
        go_roundw
        case rel =>
          refine ⟨k + 1, by omega, by go_num, by rw [← HT2.out]; exact hat7, (hatx.below hb46 (by omega)).only hon7 (by omega), (hslr.below hb46 (by omega)).only hon7 (Nat.le_refl _), by rw [hon7.size]; omega, hon7.below (hbel.trans (hb46.mono (by omega))) (by omega)⟩
        case measure => simp [intOf]; omega
      · have hi : ¬ ((k : Int) < (l.length : Int)) := by omega
        have hkl : k = l.length := by omega
        rw [hkl, turn_all] at hat
        have h26 : ∀ w, (binOp .eql 26 (.agg (cellsT (tell l))) (.agg (cellsT (tell l)))).run Try.prog w = .ok (.bool true) w := fun w => by
          rw [eql_lists _ _ hok hok w, decide_eq_true rfl]
        clear hkl
        go_wp2_with (first
          | (refine wpList_loadG rfl (.tmp 6) rfl _ rfl (tell l) hat ?_)
          | (refine wpList_loadG rfl (.tmp 1) rfl _ rfl (tell l) hatx ?_))
        go_ret
        exact ⟨rfl, hbel⟩
end Go.Proofs.Ytafkbbjmbbimpaa
