/- list.New, named. -/
import Derived.Test.YtafkbbjmbbimpaaC2
namespace Go.Proofs.Ytafkbbjmbbimpaa
open Go.RowKit Plain

def NewOk (w : World) (e : Ending) (w' : World) : Prop := e = .returned (.agg (cellsT newT)) ∧ Below w.heap.size w w'
theorem begin_cells : cellsT beginT = ((cellsT zeroT).setIfInBounds 192 (.int .i64 (-1))).setIfInBounds 193 (.int .i64 (-1)) := by kernel_rfl
theorem store_at (w : World) (b : Nat) (old cs : Array Value) (l : List Value) (h : w.heap[b]? = some (.cells old 26 (0, 0))) (ho : old.size = 194) (hl : l = cs.toList) (hs : cs.size = 194) (h1 : cs.all (·.oneCell') = true) :
    (storeCells ⟨b, 0, none⟩ l 0).run Try.prog w = .ok () (w.setRow b cs) := by
  subst hl
  have := run_storeVar_row (P := Try.prog) w b 26 26 old cs h (by rw [size26, hs]) (by rw [ho, hs]) h1
  cases hq : Try.prog.info? 26 with
  | none => have := size26; simp [hq] at this
  | some i =>
    have h2 : i.size = 194 := by have := size26; simpa [hq] using this
    simpa [storeVar, sizeOf, typeInfo, hq, Value.cells, hs, h2] using this
theorem load_at (w : World) (b : Nat) (cs : Array Value) (h : w.heap[b]? = some (.cells cs 26 (0, 0))) (hs : cs.size = 194) :
    (loadVar 26 ⟨b, 0, none⟩).run Try.prog w = .ok (.agg cs) w := run_loadVar_row w b 26 26 cs (0, 0) _ h u26 rfl (by rw [size26, hs])
theorem run_load_at (w : World) (b : Nat) (cs : Array Value) (h : w.heap[b]? = some (.cells cs 26 (0, 0))) (hs : cs.size = 194) :
    (Instr.loadAt 26 (.pointer (some ⟨b, 0, none⟩))).run Try.prog w = .ok (.agg cs) w := by
  simp only [Instr.loadAt, Instr.sureAddr, Sem.run_bind, Sem.run_pure, Result.andThen_ok, load_at w b cs h hs]
theorem loadCells_at (w : World) (b : Nat) (cs : Array Value) (h : w.heap[b]? = some (.cells cs 26 (0, 0))) (hs : cs.size = 194) :
    (loadCellsFrom ⟨b, 0, none⟩ 0 194 #[]).run Try.prog w = .ok cs w := by
  have := run_loadCells_list (P := Try.prog) w ⟨b, 0, none⟩ cs.toList (fun j v hv => by
    have hadd : (⟨b, 0, none⟩ : Addr).add j = ⟨b, j, none⟩ := by unfold Addr.add; split <;> simp_all
    rw [hadd, cell_of_row _ _ j cs 26 (0, 0) h]
    simpa using hv)
  rw [Array.length_toList, hs] at this
  simpa [loadCells] using this
theorem setRow_last (w : World) (c c' : Array Value) (t : TypeId) : (w.alloc (.cells c t)).setRow w.heap.size c' = w.alloc (.cells c' t) := World.setRow_alloc_new w c c' t


/-- Nothing but one block has changed. -/
structure Only (b : Nat) (w w' : World) : Prop where
  os : w'.os = w.os
  tape : w'.tape = w.tape
  output : w'.output = w.output
  size : w'.heap.size = w.heap.size
  heap : ∀ k, k ≠ b → w'.heap[k]? = w.heap[k]?
theorem Only.setRow (w : World) (b : Nat) (c : Array Value) : Only b w (w.setRow b c) := ⟨rfl, rfl, rfl, by simp [World.setRow], fun k hk => setRow_other w b k c hk⟩
theorem Only.below {b B : Nat} {a w w' : World} (h : Only b w w') (hb : Below B a w) (hB : B ≤ b) : Below B a w' :=
  hb.trans ⟨h.os, h.tape, h.output, by rw [h.size]; exact Nat.le_refl _, fun k hk => h.heap k (by omega)⟩
theorem At.only {w w' : World} {b c : Nat} {t : LC} (h : At w c t) (ho : Only b w w') (hne : c ≠ b) : At w' c t := ⟨by rw [ho.heap c hne]; exact h.1, h.2⟩
/-- A block of a list's size. -/
def Row (w : World) (b : Nat) : Prop := ∃ c, w.heap[b]? = some (.cells c 26 (0, 0)) ∧ c.size = 194
theorem At.row {w : World} {b : Nat} {t : LC} (h : At w b t) : Row w b := ⟨_, h.1, cellsT_size h.2⟩
theorem Row.lt {w : World} {b : Nat} (h : Row w b) : b < w.heap.size := by
  obtain ⟨c, h, _⟩ := h
  exact (Array.getElem?_eq_some_iff.1 h).1
theorem Row.last (w : World) (c : Array Value) (h : c.size = 194) : Row (w.alloc (.cells c 26)) w.heap.size := ⟨c, heap_alloc_last w _, h⟩
theorem Row.more {w : World} {b : Nat} (h : Row w b) (o : Obj) : Row (w.alloc o) b := by
  have hl := h.lt
  obtain ⟨c, h, h2⟩ := h
  exact ⟨c, by rw [Below.heap_alloc _ _ _ hl]; exact h, h2⟩
theorem Row.below {w w' : World} {b B : Nat} (h : Row w b) (hb : Below B w w') (hB : b < B) : Row w' b := by
  obtain ⟨c, h, h2⟩ := h
  exact ⟨c, by rw [hb.block b hB]; exact h, h2⟩
theorem Row.other {w : World} {b : Nat} (h : Row w b) (c o : Nat) (v : Value) (hne : b ≠ c) : Row (w.setCell ⟨c, o, none⟩ v) b := by
  obtain ⟨d, h, h2⟩ := h
  exact ⟨d, by rw [Below.heap_setCell _ _ _ _ hne]; exact h, h2⟩
theorem Row.only {w w' : World} {b c : Nat} (h : Row w c) (ho : Only b w w') (hne : c ≠ b) : Row w' c := by
  obtain ⟨d, h, h2⟩ := h
  exact ⟨d, by rw [ho.heap c hne]; exact h, h2⟩
theorem wpList_loadT {ops : Array Oper} {rest : List Oper} {op : Oper} {a : Act} {w : World} {Q : Exit → Act → World → Prop} (hgd : op.guard = none) (x : Operand) (ho : op.op = .load 26 x)
    (b : Nat) (hx : a.eval x = .pointer (some ⟨b, 0, none⟩)) (t : LC) (hat : At w b t)
    (h : wpList Try.prog ops Q rest (a.put op.dst (.agg (cellsT t))) w) : wpList Try.prog ops Q (op :: rest) a w := by
  refine wpList_plain hgd fun K hK => ?_
  unfold Oper.wp execOp
  simp only [ho, hx, run_load_at w b _ hat.1 (cellsT_size hat.2), Sem.run_bind, Result.andThen_ok, Sem.run_pure]
  exact hK _ _ h
theorem wpList_storeT {ops : Array Oper} {rest : List Oper} {op : Oper} {a : Act} {w : World} {Q : Exit → Act → World → Prop} (hgd : op.guard = none) (x y : Operand) (ho : op.op = .store 26 x y)
    (b : Nat) (t : LC) (hx : a.eval x = .pointer (some ⟨b, 0, none⟩)) (hy : a.eval y = .agg (cellsT t)) (ht : t.ok) (hr : Row w b)
    (h : ∀ w', At w' b t → Only b w w' → wpList Try.prog ops Q rest (a.put op.dst undef) w') : wpList Try.prog ops Q (op :: rest) a w := by
  obtain ⟨c, hc, hs⟩ := hr
  refine wpList_plain hgd fun K hK => ?_
  have h1 := run_storeVar_row (P := Try.prog) w b 26 26 c (cellsT t) hc (by rw [size26, cellsT_size ht]) (by rw [hs, cellsT_size ht]) (cellsT_one t)
  unfold Oper.wp execOp
  simp only [ho, hx, hy, Instr.storeAt, Instr.sureAddr, Sem.run_bind, Sem.run_pure, Result.andThen_ok, h1]
  exact hK _ _ (h _ ⟨setRow_heap w b c _ 26 (0, 0) hc, ht⟩ (Only.setRow w b _))
theorem results_list {fn : Func} {p : Tmp} (h : fn.results = #[.cell p 26]) (tmps : Array Value) (w : World) (b : Nat) (t : LC) (hat : At w b t) (hv : tmps.getD p undef = .pointer (some ⟨b, 0, none⟩)) :
    (results fn tmps).run Try.prog w = .ok (.agg (cellsT t)) w := results_cell_row h tmps w b 26 (cellsT t) (0, 0) _ hv hat.1 u26 rfl (by rw [size26, cellsT_size hat.2])
theorem results_list2 {fn : Func} {p u : Tmp} (h : fn.results = #[.cell p 26, .tmp u]) (tmps : Array Value) (w : World) (b : Nat) (t : LC) (hat : At w b t) (hv : tmps.getD p undef = .pointer (some ⟨b, 0, none⟩)) :
    (results fn tmps).run Try.prog w = .ok (.tuple #[.agg (cellsT t), tmps.getD u undef]) w := by
  rw [results_cell_tmp h, hv]
  simp [asAddr, load_at w b _ hat.1 (cellsT_size hat.2)]

set_option maxHeartbeats 400000 in
theorem named_any (x : Int) (w : World) : Calls Try.prog 25 #[.int .i64 x] w fun e w' => e = .returned (.bool (decide (inR x))) ∧ w = w' := by
  by_cases h0 : 0 ≤ x
  · by_cases h1 : x < 64
    · have H : Hid (decide (inR x) = true) := by show _ = _; simp [inR, h0, h1]
      go_enter Try.func25, Try.ntmps25
      go_wp2_with fail
      go_ret
      exact ⟨by rw [H.out]; rfl, rfl⟩
    · have H : Hid (decide (inR x) = false) := by show _ = _; simp [inR, h1]
      have d1 : decide (x < 64) = false := by simpa using h1
      go_enter Try.func25, Try.ntmps25
      go_wp2_with fail
      go_ret
      exact ⟨by rw [H.out]; rfl, rfl⟩
  · have H : Hid (decide (inR x) = false) := by show _ = _; simp [inR, h0]
    have d1 : decide (0 ≤ x) = false := by simpa using h0
    go_enter Try.func25, Try.ntmps25
    go_wp2_with fail
    go_ret
    exact ⟨by rw [H.out]; rfl, rfl⟩

set_option maxHeartbeats 400000 in
theorem new_any (w : World) : Calls Try.prog 21 #[] w (NewOk w) := by
  obtain ⟨z26, s26⟩ := zero_of_info zero26
  have sz := cellsT_size zeroT_ok
  have hcb := begin_cells
  have sb := cellsT_size beginT_ok
  have ob := cellsT_one beginT
  obtain ⟨cz, hcz⟩ : ∃ cz, cz = cellsT zeroT := ⟨_, rfl⟩
  obtain ⟨cb, hcb2⟩ : ∃ cb, cb = cellsT beginT := ⟨_, rfl⟩
  rw [← hcz] at z26 sz hcb
  rw [← hcb2] at hcb sb ob
  have st : (storeCells ⟨w.heap.size + 1, 0, none⟩ ((cz.toList.set 192 (.int .i64 (-1))).set 193 (.int .i64 (-1))) 0).run Try.prog ((w.alloc (.cells cz 26)).alloc (.cells cz 26)) = .ok () ((w.alloc (.cells cz 26)).alloc (.cells cb 26)) := by
    have h1 := store_at ((w.alloc (.cells cz 26)).alloc (.cells cz 26)) (w.heap.size + 1) cz cb ((cz.toList.set 192 (.int .i64 (-1))).set 193 (.int .i64 (-1))) (by have := heap_alloc_last (w.alloc (.cells cz 26)) (.cells cz 26); rwa [World.size_alloc] at this) sz (by rw [hcb]; simp) sb ob
    have h2 := setRow_last (w.alloc (.cells cz 26)) cz cb 26
    rw [World.size_alloc] at h2
    rw [h1, h2]
  have HB : Hid (cb = cellsT beginT) := Lib.hid hcb2
  have HZ : Hid (cz = cellsT zeroT) := Lib.hid hcz
  clear hcz hcb2 hcb s26 ob
  go_enter Try.func21, Try.ntmps21
  go_wp2_with fail
  go_loopw [4] (fun i wr => ∃ k : Nat, k ≤ 64 ∧ i = .int .i64 k ∧ At wr (w.heap.size + 1) (newAt k) ∧ At wr w.heap.size zeroT ∧ Below w.heap.size w wr) (fun i _ => 64 - (intOf i).toNat)
  case atStart =>
    refine ⟨0, Nat.zero_le _, rfl, ?_, ?_, ?_⟩
    · rw [HB.out]
      have := At.alloc (w := w.alloc (.cells cz 26)) beginT_ok
      rwa [World.size_alloc] at this
    · rw [HZ.out]
      exact (At.alloc zeroT_ok).more _
    · exact ((Below.refl _ _).alloc (Nat.le_refl _) _).alloc (by simp) _
  case round =>
    obtain ⟨k, hk, rfl, hat, hz, hbel⟩ := hrel
    by_cases hlt : k < 64
    · have g1 := hat.next k hlt
      have g2 := hat.prev k hlt
      have f1 := hat.frozen k
      have f2 := hat.frozen (64 + k)
      have HA := Lib.hid hat
      clear hat
      go_wp2_with fail
      go_roundw
      case rel =>
        refine ⟨k + 1, by omega, by go_num, ?_, ?_, ?_⟩
        · rw [← newAt_succ k hlt]
          exact (HA.out.setNext k hlt (-1)).setPrev k hlt (-1)
        · exact (hz.other _ _ _ (by omega)).other _ _ _ (by omega)
        · exact (hbel.setCell (by simp) _).setCell (by simp) _
      case measure => simp [intOf]; omega
    · have hk64 : k = 64 := by omega
      rw [hk64, newAt_64] at hat
      have hl : ¬ ((k : Int) < 64) := by omega
      have ok := newT_ok
      have hr := hz.row
      go_wp2_with (first
        | (refine wpList_loadT rfl _ rfl _ rfl _ (by assumption) ?_)
        | (refine wpList_storeT rfl _ _ rfl _ newT rfl rfl (by assumption) (by assumption) ?_; intro w2 hat2 hon2))
      refine bodyPost_ret (results_list rfl _ _ _ newT hat2 rfl) rfl ⟨rfl, ?_⟩
      exact hon2.below hbel (Nat.le_refl _)
end Go.Proofs.Ytafkbbjmbbimpaa
