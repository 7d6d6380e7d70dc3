/- Slots in blocks: whole stores; awake's steps. -/
import Derived.Test.YtfnokklcbmipgaaDoorA9
import Derived.Deep.WholeRow
import Derived.Deep.MidRow
import Derived.Great.Walk
namespace Go.Proofs.YtfnokklcbmipgaaDoor
open Go.RowKit Plain

/-- Nothing but one block has changed. -/
structure Only (b : Nat) (w w' : World) : Prop where
  os : w'.os = w.os
  tape : w'.tape = w.tape
  output : w'.output = w.output
  size : w'.heap.size = w.heap.size
  heap : ∀ k, k ≠ b → w'.heap[k]? = w.heap[k]?
theorem Only.setRow (w : World) (b : Nat) (c : Array Value) : Only b w (w.setRow b c) := ⟨rfl, rfl, rfl, by simp [World.setRow], fun k hk => setRow_other w b k c hk⟩
theorem Only.below {b B : Nat} {a w w' : World} (h : Only b w w') (hb : Below B a w) (hB : B ≤ b) : Below B a w' :=
  hb.trans ⟨h.os, h.tape, h.output, by rw [h.size]; exact Nat.le_refl _, fun k hk => h.heap k (by omega)⟩
theorem Only.fresh {w w' : World} {o : Obj} (h : Only w.heap.size (w.alloc o) w') : Below w.heap.size w w' := h.below ((Below.refl _ _).alloc (Nat.le_refl _) _) (Nat.le_refl _)
theorem size24 : (Tryd.prog.info? 24).map (·.size) = some 2 := by kernel_rfl
theorem wpList_storeSlot {ops : Array Oper} {rest : List Oper} {op : Oper} {a : Act} {w : World} {Q : Exit → Act → World → Prop} (hgd : op.guard = none) (x y : Operand) (ho : op.op = .store 24 x y)
    (b : Nat) (s t s0 t0 : Int) (hx : a.eval x = .pointer (some ⟨b, 0, none⟩)) (hy : a.eval y = .agg #[.int .i64 s, .int .i64 t]) (hr : SlotRow w b s0 t0)
    (h : ∀ w', SlotRow w' b s t → Only b w w' → wpList Tryd.prog ops Q rest (a.put op.dst undef) w') : wpList Tryd.prog ops Q (op :: rest) a w := by
  refine wpList_plain hgd fun K hK => ?_
  have h1 := run_storeVar_row (P := Tryd.prog) w b 24 24 #[.int .i64 s0, .int .i64 t0] #[.int .i64 s, .int .i64 t] hr size24 rfl (by simp [Value.oneCell'])
  unfold Oper.wp execOp
  simp only [ho, hx, hy, Instr.storeAt, Instr.sureAddr, Sem.run_bind, Sem.run_pure, Result.andThen_ok, h1]
  exact hK _ _ (h _ (setRow_heap w b _ _ 24 (0, 0) hr) (Only.setRow w b _))
theorem TabAt.grow {w w' : World} (h : TabAt w) (hb : Below w.heap.size w w') : TabAt w' := h.below hb h.2
def TK (n : Nat) (l' : Segs) (s a e : Int) (w : World) (r : Ending) (w' : World) : Prop := (∃ ao cap, r = .returned (.tuple #[.slice ao n cap, .agg #[.int .i64 s, .int .i64 a], .int .i64 e]) ∧ SegNew w' w.heap.size ao cap l') ∧ Below w.heap.size w w'
theorem take_lit (n : Nat) (l l' : Segs) (c s a e : Int) (ao : Option Addr) (cap : Nat) (w : World) (hl : l.length = n) (hE : takeL l c = (l', (s, a), e)) (hn5 : n ≤ 5000) (hwf : Wf l) (h : SegAt w ao l) (hn : ao = none → cap = 0) (hT : TabAt w) : Calls Tryd.prog 15 #[.slice ao n cap, .int .i64 c] w (TK n l' s a e w) := by
  subst hl
  refine (take_any ao l cap c w hn5 hwf h hn hT).mono ?_
  rintro r w' ⟨⟨ao', cap', hr, hs⟩, hb⟩
  rw [hE] at hr hs
  exact ⟨⟨ao', cap', hr, hs⟩, hb⟩
def FK (n : Nat) (l' : Segs) (e : Int) (w : World) (r : Ending) (w' : World) : Prop := (∃ ao cap, r = .returned (.tuple #[.slice ao n cap, .int .i64 e]) ∧ SegNew w' w.heap.size ao cap l') ∧ Below w.heap.size w w'
theorem free_lit (n : Nat) (l l' : Segs) (s a e : Int) (ao : Option Addr) (cap : Nat) (w : World) (hl : l.length = n) (hE : freeL l s a = l') (hE2 : freeE l s a = e) (hn5 : n ≤ 5000) (hwf : Wf l) (h : SegAt w ao l) (hn : ao = none → cap = 0) : Calls Tryd.prog 17 #[.slice ao n cap, .agg #[.int .i64 s, .int .i64 a]] w (FK n l' e w) := by
  subst hl
  refine (free_any ao l cap s a w hn5 hwf h hn).mono ?_
  rintro r w' ⟨⟨ao', cap', hr, hs⟩, hb⟩
  rw [hE] at hs
  rw [hE2] at hr
  exact ⟨⟨ao', cap', hr, hs⟩, hb⟩
theorem k1 : takeL (newS 2) 3 = ([(3, 1), (-1, 0)], (0, 0), 0) := by decide +kernel
theorem k2 : takeL [(3, 1), (-1, 0)] 0 = ([(3, 1), (0, 1)], (1, 0), 0) := by decide +kernel
theorem k3 : takeL [(3, 1), (0, 1)] 3 = ([(3, 3), (0, 1)], (0, 1), 0) := by decide +kernel
theorem k4 : takeL [(3, 3), (0, 1)] 1 = ([(3, 3), (0, 1)], (0, 0), 110) := by decide +kernel
theorem k5 : takeL [(3, 3), (0, 1)] 4 = ([(3, 3), (0, 1)], (0, 0), 100) := by decide +kernel
theorem k6 : freeL [(3, 3), (0, 1)] 1 0 = [(3, 3), (-1, 0)] := by decide +kernel
theorem k6' : freeE [(3, 3), (0, 1)] 1 0 = 0 := by decide +kernel
theorem k7 : freeL [(3, 3), (-1, 0)] 1 0 = [(3, 3), (-1, 0)] := by decide +kernel
theorem k7' : freeE [(3, 3), (-1, 0)] 1 0 = 120 := by decide +kernel
theorem k8 : takenR [(3, 3), (0, 1)] = 136 := by decide +kernel
theorem k9 : heldR [(3, 3), (0, 1)] = 1024 := by decide +kernel
theorem k10 : okS [(3, 3), (0, 1)] ∧ hasL [(3, 3), (0, 1)] 0 1 := by decide +kernel
theorem k11 : ¬ (okS [(3, 3), (-1, 0)] ∧ hasL [(3, 3), (-1, 0)] 1 0) := by decide +kernel
theorem k12 : okS [(3, 3), (0, 1)] := by decide +kernel
theorem k13 : ¬ okS [(0, 0)] := by decide +kernel
theorem wf1 : Wf (newS 2) := by unfold Wf; decide
theorem wf2 : Wf [(3, 1), (-1, 0)] := by unfold Wf; decide
theorem wf3 : Wf [(3, 1), (0, 1)] := by unfold Wf; decide
theorem wf4 : Wf [(3, 3), (0, 1)] := by unfold Wf; decide
theorem wf5 : Wf [(3, 3), (-1, 0)] := by unfold Wf; decide
theorem wf6 : Wf [(0, 0)] := by unfold Wf; decide
end Go.Proofs.YtfnokklcbmipgaaDoor
