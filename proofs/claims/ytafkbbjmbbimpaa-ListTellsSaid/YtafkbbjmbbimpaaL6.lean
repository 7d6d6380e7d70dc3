/- ListDrains: the walk. -/
import Derived.Test.YtafkbbjmbbimpaaL8
import Derived.Test.YtafkbbjmbbimpaaC6b
import Derived.Deep.RegionHeld3
import Derived.Deep.AppendLies
import Derived.Deep.DrawnRows
namespace Go.Proofs.Ytafkbbjmbbimpaa
open Go.RowKit Plain

/-- A slice in blocks below B, but in block a. -/
def SlOff (w : World) (a B : Nat) (ao : Option Addr) (l : List Int) : Prop := ∀ i, i < l.length → ∃ b off, ao = some ⟨b, off, none⟩ ∧ b ≠ a ∧ b < B ∧ w.cell? ⟨b, off + i, none⟩ = some (.int .i64 (l.getD i 0))
theorem SlOff.below {w w' : World} {a B B' : Nat} {ao : Option Addr} {l : List Int} (h : SlOff w a B ao l) (hb : Below B' w w') (hB : B ≤ B') : SlOff w' a B ao l := by
  intro i hi
  obtain ⟨b, off, h1, hn, h2, h3⟩ := h i hi
  exact ⟨b, off, h1, hn, h2, by rw [hb.cell (Nat.lt_of_lt_of_le h2 hB)]; exact h3⟩
theorem SlOff.only {w w' : World} {a B : Nat} {ao : Option Addr} {l : List Int} (h : SlOff w a B ao l) (ho : Only a w w') : SlOff w' a B ao l := by
  intro i hi
  obtain ⟨b, off, h1, hn, h2, h3⟩ := h i hi
  exact ⟨b, off, h1, hn, h2, by rw [World.cell?_of_block (w := w) (ho.heap b hn)]; exact h3⟩
/-- A list's load at a step of a region that draws its order. -/
theorem step_loadG {ops : Array Oper} {op : Oper} {a : Act} {w : World} {K : Act → World → Prop} {Q : Exit → Act → World → Prop} {E : Prop} (hw : Region.wanted op (yielded ops a.tmps) = true) (x : Operand) (ho : op.op = .load 26 x)
    (b : Nat) (hx : a.eval x = .pointer (some ⟨b, 0, none⟩)) (t : LC) (hat : At w b t)
    (h : K (a.put op.dst (.agg (cellsT t))) w) : if Region.wanted op (yielded ops a.tmps) = true then Oper.wp Try.prog op a w K Q else E := by
  rw [if_pos hw]
  unfold Oper.wp execOp
  simp only [ho, hx, run_load_at w b _ hat.1 (cellsT_size hat.2), Sem.run_bind, Result.andThen_ok, Sem.run_pure]
  exact h
theorem yields26 {ops : Array Oper} {S : World → Prop} {op : Oper} {a : Act} (hw : Region.wanted op (yielded ops a.tmps) = true) (x : Operand) (ho : op.op = .load 26 x)
    (b : Nat) (hx : a.eval x = .pointer (some ⟨b, 0, none⟩)) (t : LC) (hS : ∀ w, S w → At w b t) : YieldsIf Try.prog ops S op (.agg (cellsT t)) a :=
  .inl ⟨hw, fun w hw' => by
    unfold execOp
    simp only [ho, hx, run_load_at w b _ (hS w hw').1 (cellsT_size (hS w hw').2), Sem.run_bind, Result.andThen_ok, Sem.run_pure]⟩
set_option linter.unusedSimpArgs false in
set_option maxRecDepth 20000 in
set_option maxHeartbeats 1000000 in
theorem drains_walk (t : LC) (hok : t.ok) (w : World) : Calls Try.prog 6 #[.agg (cellsT t)] w fun e w' => e = .returned (.bool true) ∧ Below w.heap.size w w' := by
  obtain ⟨z26, s26⟩ := zero_of_info zero26
  have sz := cellsT_size zeroT_ok
  obtain ⟨cz, hcz⟩ : ∃ cz, cz = cellsT zeroT := ⟨_, rfl⟩
  rw [← hcz] at z26 sz
  clear hcz s26
  have g26 := guard26
  have hat0 : At (w.alloc (.cells (cellsT t) 26)) w.heap.size t := At.alloc hok
  rcases noL_or t with hno | ⟨l, hl, rfl⟩
  · have HNO := Lib.hid hno
    clear hno
    go_enter Try.func6, Try.ntmps6
    go_wp2_with (first
      | (go_at_call 9; refine (awake_any _).mono ?_; rintro e w1 ⟨rfl, hb1⟩; have hat1 := hat0.below hb1 hat0.lt)
      | (refine wpList_loadA hat1 rfl _ rfl rfl ?_)
      | (go_at_call 12; refine (order_no t hok HNO.out _).mono ?_; rintro e w2 ⟨rfl, hb2⟩; have hat2 := hat1.below hb2 hat1.lt)
      | (refine wpList_loadA hat2 rfl _ rfl rfl ?_)
      | (go_at_call 18; refine (last_no t hok HNO.out _).mono ?_; rintro e w3 ⟨rfl, hb3⟩))
    go_ret
    exact ⟨rfl, ((Below.refl _ _).alloc (Nat.le_refl _) _).trans (((hb1.link hb2).link hb3).mono (by simp))⟩
  · have HL := Lib.hid hl
    have hlen := may_len hl
    have hw0 : IntKind.i64.wrap ((l.length : Int) - 1) = (l.length : Int) - 1 := by rw [IntWalk.i64_in _ (by omega)]
    clear hl
    go_enter Try.func6, Try.ntmps6
    go_wp2_with (first
      | (go_at_call 9; refine (awake_any _).mono ?_; rintro e w1 ⟨rfl, hb1⟩; have hat1 := hat0.below hb1 hat0.lt)
      | (refine wpList_loadA hat1 rfl _ rfl rfl ?_)
      | (go_at_call 12; refine (order_yesF l HL.out _).mono ?_; rintro e w2 ⟨⟨ao, cap, rfl, hsl, hfr⟩, hb2⟩; have hat2 := hat1.below hb2 hat1.lt; have hsl2 := SlLow.of hsl.1; have hl1 := hat1.lt; have hl2 := hat2.lt))
    have hB2 : Below w.heap.size w w2 := ((Below.refl _ _).alloc (Nat.le_refl _) _).trans ((hb1.link hb2).mono (by simp))
    have hT0 := List.take_length (l := l)
    have hslx : SlOff w2 w.heap.size w2.heap.size ao l := by
      intro i hi
      obtain ⟨b, off, rfl, h2, h3⟩ := hsl2 i hi
      exact ⟨b, off, rfl, by have := hfr _ rfl; simp at this; omega, h2, h3⟩
    go_loopw [8] (fun i wr => ∃ k : Nat, k ≤ l.length ∧ i = .int .i64 ((k : Int) - 1) ∧ At wr w.heap.size (tell (l.take k)) ∧ SlOff wr w.heap.size w2.heap.size ao l ∧ w2.heap.size ≤ wr.heap.size ∧ Below w.heap.size w wr) (fun i _ => (intOf i + 1).toNat)
    case atStart => exact ⟨l.length, Nat.le_refl _, rfl, by rw [hT0]; exact hat2, hslx, Nat.le_refl _, hB2⟩
    case round =>
      obtain ⟨k, hk, rfl, hat, hslr, hszr, hbel⟩ := hrel
      have HT := Lib.hid hT0
      clear hT0
      by_cases hlt : 0 < k
      · obtain ⟨j, rfl⟩ : ∃ j, k = j + 1 := ⟨k - 1, by omega⟩
        obtain ⟨b, off, rfl, hbn, hbl, gk⟩ := hslr j (by omega)
        have hj : (((j + 1 : Nat) : Int) - 1) = (j : Int) := by omega
        have hjl : (j : Int) < (l.length : Int) := by omega
        have hgt := getLast_take HL.out j (by omega)
        have HM := Lib.hid (may_take HL.out (j + 1))
        have hlen1 : (l.take (j + 1)).length = j + 1 := by rw [List.length_take]; omega
        have c1 := last_yes (l.take (j + 1)) HM.out j hlen1
        have hge : (l.take (j + 1)).getD j 0 = l.getD j 0 := by
          rw [List.getD_eq_getElem?_getD, List.getElem?_take_of_lt (by omega), ← List.getD_eq_getElem?_getD]
        have hmem : l.getD j 0 ∈ l.take (j + 1) := by
          rw [← hge, getD_of_lt _ _ _ (by omega)]; exact List.getElem_mem _
        have c2 := drop_yes (l.take (j + 1)) HM.out _ hmem
        rw [hge] at c1
        rw [getD_of_lt _ _ _ (show j < l.length by omega), hgt, ← getD_of_lt l j 0 (by omega)] at c2
        obtain ⟨x, hx⟩ : ∃ x, x = l.getD j 0 := ⟨_, rfl⟩
        obtain ⟨T1, hT1⟩ : ∃ T, T = tell (l.take (j + 1)) := ⟨_, rfl⟩
        obtain ⟨T2, hT2⟩ : ∃ T, T = tell (l.take j) := ⟨_, rfl⟩
        have ok2 : T2.ok := by rw [hT2]; exact tell_ok _
        rw [← hx] at c1 c2 gk
        rw [← hT1] at c1 c2 hat
        rw [← hT2] at c2
        have C1 := Lib.hid c1
        have C2 := Lib.hid c2
        have HT2 := Lib.hid hT2
        clear hx hT1 hT2 c1 c2 hmem hge hgt hlen1 hlt
        rw [hj] at *
        clear hj
        go_wp2_with (first
          | (refine wpList_loadA hat rfl _ rfl rfl ?_)
          | (go_at_call 18; refine (C1.out _).mono ?_; rintro e w4 ⟨rfl, hb4⟩; have hat4 := hat.below hb4 hat.lt)
          | (refine wpList_loadA hat4 rfl _ rfl rfl ?_)
          | (go_at_call 16; refine (C2.out _).mono ?_; rintro e w5 ⟨rfl, hb5⟩; have hat5 := hat4.below hb5 hat4.lt)
          | (refine wpList_storeT rfl (.tmp 11) (.tmp 49) rfl _ T2 rfl rfl ok2 (Row.last _ _ sz) ?_; intro w6 hat6 hon6; have hb6 := hon6.fresh; have hat6' := hat5.below hb6 hat5.lt; have hb46 := (hb4.link hb5).link hb6; have gk6 : w6.cell? ⟨b, off + j, none⟩ = some (.int .i64 x) := by rw [hb46.cell (by show b < _; omega)]; exact gk)
          | (refine wpList_loadA hat6 rfl _ rfl rfl ?_)
          | (refine wpList_storeT rfl (.tmp 1) (.tmp 65) rfl _ T2 rfl rfl ok2 hat6'.row ?_; intro w7 hat7 hon7))
        have hl6 := hb46.size
        go_roundw
        case rel =>
          refine ⟨j, by omega, by go_num, by rw [← HT2.out]; exact hat7, (hslr.below hb46 (by omega)).only hon7, by rw [hon7.size]; omega, hon7.below (hbel.trans (hb46.mono (by omega))) (Nat.le_refl _)⟩
        case measure => simp [intOf]
      · have hk0 : k = 0 := by omega
        subst hk0
        have hat : At wr w.heap.size (tell []) := hat
        have h26 : ∀ w, (binOp .eql 26 (.agg (cellsT (tell []))) (.agg (cellsT newT))).run Try.prog w = .ok (.bool true) w := fun w => by
          rw [eql_lists _ _ (tell_ok []) newT_ok w]; rfl
        go_wp2_with (first
          | (refine wpList_loadA hat rfl _ rfl rfl ?_)
          | (go_at_call 18; refine (last_nil _).mono ?_; rintro e w4 ⟨rfl, hb4⟩; have hat4 := hat.below hb4 hat.lt))
        refine wp_region_held_drew (S := fun w' => At w' w.heap.size (tell []) ∧ Below w4.heap.size w4 w') (by kernel_rfl) ⟨hat4, (Below.refl _ _).drew⟩ (fun hHeld => ?_)
        refine wpAnyH_take (i := 0) (v := ?_) rfl (by kernel_rfl) (by kernel_rfl) (by kernel_rfl) (fun _ _ _ h => h) (Or.inl ⟨by rfl, ?_⟩) (by assumption) ?_
        rotate_left
        · intro w' hSw
          go_simp
          try with_reducible rfl
        try simp only [Act.put, List.setIfInBounds_toArray, List.set_cons_zero, List.set_cons_succ]
        refine wpAnyH_take (i := 1) (v := ?_) rfl (by kernel_rfl) (by kernel_rfl) (by kernel_rfl) (fun _ _ _ h => h) (Or.inl ⟨by rfl, ?_⟩) (by assumption) ?_
        rotate_left
        · intro w' hSw
          go_simp
          try with_reducible rfl
        try simp only [Act.put, List.setIfInBounds_toArray, List.set_cons_zero, List.set_cons_succ]
        refine wpAnyH_take (i := 2) (v := ?_) rfl (by kernel_rfl) (by kernel_rfl) (by kernel_rfl) (fun _ _ _ h => h) (Or.inl ⟨by rfl, ?_⟩) (by assumption) ?_
        rotate_left
        · intro w' hSw
          go_simp
          try with_reducible rfl
        try simp only [Act.put, List.setIfInBounds_toArray, List.set_cons_zero, List.set_cons_succ]
        refine wpAnyH_take (i := 3) (v := ?_) rfl (by kernel_rfl) (by kernel_rfl) (by kernel_rfl) (fun _ _ _ h => h) (Or.inl ⟨by rfl, ?_⟩) (by assumption) ?_
        rotate_left
        · intro w' hSw
          go_simp
          try with_reducible rfl
        try simp only [Act.put, List.setIfInBounds_toArray, List.set_cons_zero, List.set_cons_succ]
        refine wpAnyH_take (i := 4) (v := ?_) rfl (by kernel_rfl) (by kernel_rfl) (by kernel_rfl) (fun _ _ _ h => h) (Or.inl ⟨by rfl, ?_⟩) (by assumption) ?_
        rotate_left
        · intro w' hSw
          go_simp
          try with_reducible rfl
        try simp only [Act.put, List.setIfInBounds_toArray, List.set_cons_zero, List.set_cons_succ]
        refine wpAnyH_take (i := 5) (v := ?_) rfl (by kernel_rfl) (by kernel_rfl) (by kernel_rfl) (fun _ _ _ h => h) (Or.inl ⟨by rfl, ?_⟩) (by assumption) ?_
        rotate_left
        · intro w' hSw
          go_simp
          try with_reducible rfl
        try simp only [Act.put, List.setIfInBounds_toArray, List.set_cons_zero, List.set_cons_succ]
        refine wpAnyH_take (i := 6) (v := .agg (cellsT (tell []))) rfl (by kernel_rfl) (by kernel_rfl) (by kernel_rfl) (fun _ _ _ h => h) (yields26 (by rfl) (.tmp 1) rfl w.heap.size (by rfl) (tell []) (fun w' h => h.1)) (by assumption) ?_
        try simp only [Act.put, List.setIfInBounds_toArray, List.set_cons_zero, List.set_cons_succ]
        refine wpAnyH_ready (rs := [7]) (by kernel_rfl) (by simp) ?_
        refine AllReadyH.cons rfl (fun K hK => ?_) AllReadyH.nil
        go_simp
        refine (new_any _).mono ?_
        rintro e w5 ⟨rfl, hb5⟩
        have hS5 : At w5 w.heap.size (tell []) ∧ Below w4.heap.size w4 w5 := ⟨At.below hHeld.1 hb5 hat4.lt, hHeld.2.trans (hb5.mono hHeld.2.size)⟩
        go_wp2_with fail
        refine hK.out _ _ hS5 (fun hHeld => ?_)
        clear hK
        try simp only [Act.put, List.setIfInBounds_toArray, List.set_cons_zero, List.set_cons_succ]
        refine wpAnyH_take (i := 8) (v := ?_) (by simp only [List.getElem?_toArray, List.getElem?_cons_succ, List.getElem?_cons_zero]; rfl) (by kernel_rfl) (by kernel_rfl) (by kernel_rfl) (by intro _ _ _ h; exact h) (Or.inl ⟨by rfl, ?_⟩) (by assumption) ?_
        rotate_left
        · intro w' hSw
          go_simp
          try with_reducible rfl
        try simp only [Act.put, List.setIfInBounds_toArray, List.set_cons_zero, List.set_cons_succ]
        refine wpAnyH_take (i := 9) (v := ?_) (by simp only [List.getElem?_toArray, List.getElem?_cons_succ, List.getElem?_cons_zero]; rfl) (by kernel_rfl) (by kernel_rfl) (by kernel_rfl) (by intro _ _ _ h; exact h) (Or.inl ⟨by rfl, ?_⟩) (by assumption) ?_
        rotate_left
        · intro w' hSw
          go_simp
          try with_reducible rfl
        try simp only [Act.put, List.setIfInBounds_toArray, List.set_cons_zero, List.set_cons_succ]
        refine wpAnyH_take (i := 10) (v := ?_) (by simp only [List.getElem?_toArray, List.getElem?_cons_succ, List.getElem?_cons_zero]; rfl) (by kernel_rfl) (by kernel_rfl) (by kernel_rfl) (by intro _ _ _ h; exact h) (Or.inl ⟨by rfl, ?_⟩) (by assumption) ?_
        rotate_left
        · intro w' hSw
          go_simp
          try with_reducible rfl
        try simp only [Act.put, List.setIfInBounds_toArray, List.set_cons_zero, List.set_cons_succ]
        refine wpAnyH_done (by kernel_rfl) ?_ _
        go_wp2_with fail
        go_ret
        exact ⟨rfl, hbel.link (hb4.link hHeld.2)⟩
end Go.Proofs.Ytafkbbjmbbimpaa
