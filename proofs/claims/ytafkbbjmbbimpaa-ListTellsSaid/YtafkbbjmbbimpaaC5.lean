/- list.Order. -/
import Derived.Test.YtafkbbjmbbimpaaC4
import Derived.Test.YtafkbbjmbbimpaaM2
import Derived.Deep.AppendLies
import Derived.Laws.AppendOwnNone
namespace Go.Proofs.Ytafkbbjmbbimpaa
open Go.RowKit Plain

theorem own_ge {w : World} {base : Nat} {e : TypeId} {size : Nat} {v : Value} {n : Nat} {xs : List Value} (h : w.ownsRow base e size v n xs) : ∀ k, v.ownBlock = some k → base ≤ k := fun k hk => (h.lt k hk).1
theorem own_int {w : World} {base : Nat} {v : Value} {n : Nat} {l : List Int} (h : w.ownsRow base 3 1 v n (ints l)) : ∃ ao cap, v = .slice ao l.length cap ∧ IntAt w ao l ∧ (ao = none → cap = 0) ∧ l.length ≤ cap := by
  have hl : l.length = n := by have := h.1; simpa [ints] using this
  rcases h.2 with ⟨hv, hn⟩ | ⟨g, cap, cur, hv, _, hg, hcap, _⟩
  · exact ⟨none, 0, by rw [hv, hl, hn], .inl (List.length_eq_zero_iff.1 (by omega)), fun _ => rfl, by omega⟩
  · subst hv
    refine ⟨some ⟨g, 0, none⟩, cap, by rw [hl], ?_, (by intro h; cases h), by omega⟩
    cases l with
    | nil => exact .inl rfl
    | cons x l =>
      right
      refine ⟨g, 0, rfl, ?_, ?_⟩
      · rcases Nat.lt_or_ge g w.heap.size with hlt | hge
        · exact hlt
        · rw [Array.getElem?_eq_none hge] at hg; cases hg
      · intro i hi
        rw [Nat.zero_add, h.cellAt i (by omega)]
        rw [List.getD_eq_getElem?_getD]
        unfold ints
        rw [List.getElem?_map, List.getElem?_eq_getElem hi]
        rfl
theorem own_other {w : World} {base : Nat} {e : TypeId} {size : Nat} {v : Value} {n : Nat} {xs : List Value} (h : w.ownsRow base e size v n xs) (c o : Nat) (u : Value) (hc : c < base) : (w.setCell ⟨c, o, none⟩ u).ownsRow base e size v n xs := by
  refine ⟨h.1, ?_⟩
  rcases h.2 with hn | ⟨g, cap, cur, hv, hb, hg, rest⟩
  · exact .inl hn
  · exact .inr ⟨g, cap, cur, hv, hb, by rw [Below.heap_setCell _ _ _ _ (by simp; omega)]; exact hg, rest⟩
theorem own_below {w w' : World} {base : Nat} {e : TypeId} {size : Nat} {v : Value} {n : Nat} {xs : List Value} (h : w.ownsRow base e size v n xs) (hb : Below w.heap.size w w') : w'.ownsRow base e size v n xs := by
  refine ⟨h.1, ?_⟩
  rcases h.2 with hn | ⟨g, cap, cur, hv, hbg, hg, rest⟩
  · exact .inl hn
  · exact .inr ⟨g, cap, cur, hv, hbg, by rw [hb.block g (Array.getElem?_eq_some_iff.1 hg).1]; exact hg, rest⟩
/-- append(v, l...) where the call owns v, and l is any list of integers. -/
theorem append_ints {ops : Array Oper} {rest : List Oper} {o : Oper} {a : Act} {Q : Exit → Act → World → Prop} {w : World} (hgd : o.guard = none) (s x : Operand)
    (ho : o.op = .call { callee := .builtin .append, args := #[s, x], argTypes := #[22, 22] })
    (base : Nat) (v : Value) (xs : List Int) (hs : a.eval s = v) (hown : w.ownsRow base 3 1 v xs.length (ints xs))
    (ao : Option Addr) (l : List Int) (c : Nat) (hx : a.eval x = .slice ao l.length c) (hat : IntAt w ao l) (hnone : ao = none → c = 0)
    (h63 : (xs ++ l).length ≤ 100000) (hbase : base ≤ w.heap.size)
    (h : ∀ ao' cap' w', w'.ownsRow base 3 1 (.slice ao' (xs ++ l).length cap') (xs ++ l).length (ints (xs ++ l)) → Below base w w' → wpList Try.prog ops Q rest (a.put o.dst (.slice ao' (xs ++ l).length cap')) w') : wpList Try.prog ops Q (o :: rest) a w := by
  obtain ⟨i0, hi0, hz0, hz1, hz2⟩ := info_parts info3
  have fin : ∀ v' w', w'.ownsRow base 3 1 v' (xs ++ l).length (ints (xs ++ l)) → Below base w w' → wpList Try.prog ops Q rest (a.put o.dst v') w' := by
    intro v' w' ho' hb
    obtain ⟨ao', cap', hv, _, _⟩ := own_int ho'
    rw [hv] at ho' ⊢
    exact h ao' cap' w' ho' hb
  cases ao with
  | none =>
    have hl : l = [] := by rcases hat with h | ⟨_, _, h, _⟩
                           · exact h
                           · cases h
    subst hl
    have hc := hnone rfl
    subst hc
    refine wpList_append_own_none hgd s x 22 ho base 3 i0 1 Try.underlying22 hi0 v _ _ hs hown hx ?_
    exact fin v w (by simpa using hown) (Below.refl _ _)
  | some ad =>
    rw [List.length_append] at h63
    refine wpList_append_own w hgd s x 22 ho base 3 i0 (.int .i64 0) 1 8 Try.underlying22 hi0 hz0 hz1 hz2 rfl (by decide) v _ _ hs hown ad l.length c (ints l) hx (by simp [ints]) ?_ ?_ (by unfold maxLen; omega) (by omega) hbase ?_
    · intro j u hj
      have hjl : j < l.length := by
        have := (List.getElem?_eq_some_iff.1 hj).1
        simpa [ints] using this
      obtain ⟨b, off, hao, hcell⟩ := hat.cell j hjl
      cases hao
      have e : (⟨b, off, none⟩ : Addr).add j = ⟨b, off + j, none⟩ := by unfold Addr.add; split <;> simp_all
      rw [e, hcell j hjl]
      unfold ints at hj
      rw [List.getElem?_map, List.getElem?_eq_getElem hjl] at hj
      rw [← hj, List.getD_eq_getElem?_getD, List.getElem?_eq_getElem hjl]
      rfl
    · intro u hu
      unfold ints at hu
      obtain ⟨z, _, rfl⟩ := List.mem_map.1 hu
      rfl
    · intro v' w' ho' hg _
      refine fin v' w' ?_ ((Below.refl _ _).grown hg hbase (own_ge hown))
      rw [List.length_append]
      have e : ints (xs ++ l) = ints xs ++ ints l := by simp [ints]
      rw [e]
      exact ho'
theorem lit1 (w : World) (a : Int) : IntAt (w.alloc (.cells #[.int .i64 a] 3)) (some ⟨w.heap.size, 0, none⟩) [a] := by
  refine .inr ⟨_, _, rfl, by simp, ?_⟩
  intro i hi
  match i, hi with
  | 0, _ => simp

/-- The marks in memory. -/
def SeenAt (w : World) (b : Nat) (s : List Bool) : Prop := w.heap[b]? = some (.cells (boolsA s) 24 (0, 0)) ∧ s.length = 64
theorem SeenAt.lt {w : World} {b : Nat} {t : List Bool} (h : SeenAt w b t) : b < w.heap.size := (Array.getElem?_eq_some_iff.1 h.1).1
theorem SeenAt.cell {w : World} {b : Nat} {s : List Bool} (h : SeenAt w b s) (i : Nat) (hi : i < 64) : w.cell? ⟨b, i, none⟩ = some (.bool (s.getD i false)) := by rw [cell_of_row _ _ _ _ _ _ h.1, bools_at s h.2 i hi]
theorem SeenAt.frozen {w : World} {b : Nat} {t : List Bool} (h : SeenAt w b t) (o : Nat) : w.frozen? ⟨b, o, none⟩ = false := frozen_row h.1 o
theorem SeenAt.below {w w' : World} {b B : Nat} {t : List Bool} (h : SeenAt w b t) (hb : Below B w w') (hB : b < B) : SeenAt w' b t := ⟨by rw [hb.block b hB]; exact h.1, h.2⟩
theorem SeenAt.set {w : World} {b : Nat} {s : List Bool} (h : SeenAt w b s) (i : Nat) (x : Bool) : SeenAt (w.setCell ⟨b, i, none⟩ (.bool x)) b (s.set i x) := by
  refine ⟨?_, by simp [h.2]⟩
  rw [heap_set _ _ _ _ _ _ h.1]
  congr 2
  unfold boolsA
  rw [List.setIfInBounds_toArray, List.map_set]
theorem SeenAt.more {w : World} {b : Nat} {t : List Bool} (h : SeenAt w b t) (o : Obj) : SeenAt (w.alloc o) b t := ⟨by rw [Below.heap_alloc _ _ _ h.lt]; exact h.1, h.2⟩
theorem zero24 : (Try.prog.info? 24).map (fun i => (i.zero, i.size)) = some (some (.agg (boolsA (List.replicate 64 false))), 64) := by kernel_rfl
theorem run_load24 (w : World) (b o : Nat) (s : List Bool) (hl : s.length = 64) (hc : w.rangeAt b o (s.map Value.bool)) : (Instr.loadAt 24 (.pointer (some ⟨b, o, none⟩))).run Try.prog w = .ok (.agg (boolsA s)) w :=
  run_loadAt_mid w b o 24 (s.map Value.bool) _ hc u24 rfl (by rw [size24]; simp [hl])
theorem SeenAt.range {w : World} {b : Nat} {s : List Bool} (h : SeenAt w b s) : w.rangeAt b 0 (s.map Value.bool) := fun j v hv => by
  rw [Nat.zero_add, cell_of_row _ _ _ _ _ _ h.1]
  unfold boolsA
  rw [List.getElem?_toArray]; exact hv
theorem At.innRange {w : World} {b : Nat} {t : LC} (h : At w b t) : w.rangeAt b 128 (t.inn.map Value.bool) := fun j v hv => by
  have hj : j < 64 := by have := (List.getElem?_eq_some_iff.1 hv).1; rw [List.length_map, h.2.2.2] at this; exact this
  rw [h.inn j hj, ← hv, List.getElem?_map, List.getD_eq_getElem?_getD, List.getElem?_eq_getElem (by rw [h.2.2.2]; exact hj)]; rfl
theorem wpList_load24 {ops : Array Oper} {rest : List Oper} {op : Oper} {a : Act} {w : World} {Q : Exit → Act → World → Prop} (hgd : op.guard = none) (x : Operand) (ho : op.op = .load 24 x)
    (b o : Nat) (hx : a.eval x = .pointer (some ⟨b, o, none⟩)) (s : List Bool) (hl : s.length = 64) (hc : w.rangeAt b o (s.map Value.bool))
    (h : wpList Try.prog ops Q rest (a.put op.dst (.agg (boolsA s))) w) : wpList Try.prog ops Q (op :: rest) a w := by
  refine wpList_plain hgd fun K hK => ?_
  unfold Oper.wp execOp
  simp only [ho, hx, run_load24 w b o s hl hc, Sem.run_bind, Result.andThen_ok, Sem.run_pure]
  exact hK _ _ h
theorem wpList_loadG {ops : Array Oper} {rest : List Oper} {op : Oper} {a : Act} {w : World} {Q : Exit → Act → World → Prop} (hw : Region.wanted op (yielded ops a.tmps) = true) (x : Operand) (ho : op.op = .load 26 x)
    (b : Nat) (hx : a.eval x = .pointer (some ⟨b, 0, none⟩)) (t : LC) (hat : At w b t)
    (h : wpList Try.prog ops Q rest (a.put op.dst (.agg (cellsT t))) w) : wpList Try.prog ops Q (op :: rest) a w := by
  refine wpList_step fun K hK => ?_
  rw [if_pos hw]
  unfold Oper.wp execOp
  simp only [ho, hx, run_load_at w b _ hat.1 (cellsT_size hat.2), Sem.run_bind, Result.andThen_ok, Sem.run_pure]
  exact hK _ _ h
theorem guard24 : Try.prog.eqGuardType Try.prog.depth 24 = false := by kernel_rfl
theorem guard26 : Try.prog.eqGuardType Try.prog.depth 26 = false := by kernel_rfl

set_option maxHeartbeats 400000 in
theorem sfresh_any (x : Int) (b : Nat) (s : List Bool) (w : World) (hat : SeenAt w b s) : Calls Try.prog 27 #[.int .i64 x, .pointer (some ⟨b, 0, none⟩)] w fun e w' => e = .returned (.bool (decide (inR x) && !s.getD x.toNat false)) ∧ w = w' := by
  by_cases hx : inR x
  · obtain ⟨n, hn⟩ : ∃ n : Nat, x = n := ⟨x.toNat, by unfold inR at hx; omega⟩
    subst hn
    have hn : n < 64 := by unfold inR at hx; omega
    have g := hat.cell n hn
    have HX := Lib.hid (decide_eq_true hx)
    have HA := Lib.hid hat
    have hlt : (n : Int) < 64 := by omega
    clear hat hx
    obtain ⟨v, hv⟩ : ∃ v, v = s.getD n false := ⟨_, rfl⟩
    rw [← hv] at g
    have HV := Lib.hid hv
    clear hv
    cases v
    · go_enter Try.func27, Try.ntmps27
      go_wp2_with (go_at_call 25; refine (named_any _ _).mono ?_; rintro e w' ⟨rfl, rfl⟩; rw [HX.out])
      go_ret
      refine ⟨?_, rfl⟩
      rw [HX.out, show ((n : Int)).toNat = n from rfl, ← HV.out]; rfl
    · go_enter Try.func27, Try.ntmps27
      go_wp2_with (go_at_call 25; refine (named_any _ _).mono ?_; rintro e w' ⟨rfl, rfl⟩; rw [HX.out])
      go_ret
      refine ⟨?_, rfl⟩
      rw [HX.out, show ((n : Int)).toNat = n from rfl, ← HV.out]; rfl
  · have HX := Lib.hid (decide_eq_false hx)
    have HA := Lib.hid hat
    clear hat hx
    go_enter Try.func27, Try.ntmps27
    go_wp2_with (go_at_call 25; refine (named_any _ _).mono ?_; rintro e w' ⟨rfl, rfl⟩; rw [HX.out])
    go_ret
    refine ⟨?_, rfl⟩
    rw [HX.out]; rfl
end Go.Proofs.Ytafkbbjmbbimpaa
