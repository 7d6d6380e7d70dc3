/- take, begin, same, end. -/
import Derived.Test.YtfnokklcbmipgaaDoorS4
import Derived.Test.YtfnokklcbmipgaaDoorL4
import Derived.Test.YtfnokklcbmipgaaDoorL3b
namespace Go.Proofs.YtfnokklcbmipgaaDoor
open Go.RowKit Plain

/-- A block of two cells. -/
def Row2 (w : World) (b : Nat) (T : TypeId) (u v : Value) : Prop := w.heap[b]? = some (.cells #[u, v] T (0, 0))
theorem Row2.lt {w : World} {b : Nat} {T : TypeId} {u v : Value} (h : Row2 w b T u v) : b < w.heap.size := (Array.getElem?_eq_some_iff.1 h).1
theorem Row2.below {w w' : World} {b B : Nat} {T : TypeId} {u v : Value} (h : Row2 w b T u v) (hb : Below B w w') (hB : b < B) : Row2 w' b T u v := (hb.block b hB).trans h
theorem Row2.chg {w w' : World} {b bw g : Nat} {T : TypeId} {u v : Value} (h : Row2 w b T u v) (hb : Chg bw g w w') (h1 : b ≠ bw) (h2 : b ≠ g) : Row2 w' b T u v := (hb.block b h.lt h1 h2).trans h
theorem Row2.new (w : World) (T : TypeId) (u v : Value) : Row2 (w.alloc (.cells #[u, v] T)) w.heap.size T u v := heap_alloc_new w _
theorem Row2.c0 {w : World} {b : Nat} {T : TypeId} {u v : Value} (h : Row2 w b T u v) : w.cell? ⟨b, 0, none⟩ = some u := by rw [cell_of_row _ _ _ _ _ _ h]; rfl
theorem Row2.c1 {w : World} {b : Nat} {T : TypeId} {u v : Value} (h : Row2 w b T u v) : w.cell? ⟨b, 1, none⟩ = some v := by rw [cell_of_row _ _ _ _ _ _ h]; rfl
theorem Row2.fz {w : World} {b : Nat} {T : TypeId} {u v : Value} (h : Row2 w b T u v) (o : Nat) : w.frozen? ⟨b, o, none⟩ = false := frozen_row h o
theorem size51 : (Tryd.prog.info? 51).map (·.size) = some 2 := by kernel_rfl
theorem size82 : (Tryd.prog.info? 82).map (·.size) = some 2 := by kernel_rfl
theorem oper_store2 {o : Oper} {a : Act} {w : World} {K : Act → World → Prop} {Q : Exit → Act → World → Prop} (T : TypeId) (hT : (Tryd.prog.info? T).map (·.size) = some 2) (x y : Operand) (ho : o.op = .store T x y)
    (b : Nat) (u v u0 v0 : Value) (hx : a.eval x = .pointer (some ⟨b, 0, none⟩)) (hy : a.eval y = .agg #[u, v]) (h1 : u.oneCell' = true) (h2 : v.oneCell' = true) (hr : Row2 w b T u0 v0)
    (h : ∀ w', Row2 w' b T u v → Only b w w' → K (a.put o.dst undef) w') : o.wp Tryd.prog a w K Q := by
  have h3 := run_storeVar_row (P := Tryd.prog) w b T T #[u0, v0] #[u, v] hr hT rfl (by simp [h1, h2])
  unfold Oper.wp execOp
  simp only [ho, hx, hy, Instr.storeAt, Instr.sureAddr, Sem.run_bind, Sem.run_pure, Result.andThen_ok, h3]
  exact h _ (setRow_heap w b _ _ T (0, 0) hr) (Only.setRow w b _)
theorem step_store2 {ops : Array Oper} {o : Oper} {a : Act} {w : World} {K : Act → World → Prop} {Q : Exit → Act → World → Prop} {E : Prop} (hgd : o.guard = none) (T : TypeId) (hT : (Tryd.prog.info? T).map (·.size) = some 2) (x y : Operand) (ho : o.op = .store T x y)
    (b : Nat) (u v u0 v0 : Value) (hx : a.eval x = .pointer (some ⟨b, 0, none⟩)) (hy : a.eval y = .agg #[u, v]) (h1 : u.oneCell' = true) (h2 : v.oneCell' = true) (hr : Row2 w b T u0 v0)
    (h : ∀ w', Row2 w' b T u v → Only b w w' → K (a.put o.dst undef) w') : if Region.wanted o (yielded ops a.tmps) = true then Oper.wp Tryd.prog o a w K Q else E := by
  rw [if_pos (wanted_none hgd)]
  exact oper_store2 T hT x y ho b u v u0 v0 hx hy h1 h2 hr h
theorem wpList_store2 {ops : Array Oper} {rest : List Oper} {o : Oper} {a : Act} {w : World} {Q : Exit → Act → World → Prop} (hgd : o.guard = none) (T : TypeId) (hT : (Tryd.prog.info? T).map (·.size) = some 2) (x y : Operand) (ho : o.op = .store T x y)
    (b : Nat) (u v u0 v0 : Value) (hx : a.eval x = .pointer (some ⟨b, 0, none⟩)) (hy : a.eval y = .agg #[u, v]) (h1 : u.oneCell' = true) (h2 : v.oneCell' = true) (hr : Row2 w b T u0 v0)
    (h : ∀ w', Row2 w' b T u v → Only b w w' → wpList Tryd.prog ops Q rest (a.put o.dst undef) w') : wpList Tryd.prog ops Q (o :: rest) a w :=
  wpList_plain hgd fun _ hK => oper_store2 T hT x y ho b u v u0 v0 hx hy h1 h2 hr (fun w' h5 h6 => hK _ _ (h w' h5 h6))
theorem res1_51 {fn : Func} {p : Tmp} (h : fn.results = #[.cell p 51]) (tmps : Array Value) (w : World) (b : Nat) (u v : Value) (hat : Row2 w b 51 u v) (hv : tmps.getD p undef = .pointer (some ⟨b, 0, none⟩)) :
    (results fn tmps).run Tryd.prog w = .ok (.agg #[u, v]) w := by
  have h0 := hat.c0
  have h1 := hat.c1
  have hv2 : tmps[p]?.getD undef = .pointer (some ⟨b, 0, none⟩) := by simpa using hv
  simp [results, h, hv2, asAddr]
  go_simp
theorem res1_82 {fn : Func} {p : Tmp} (h : fn.results = #[.cell p 82]) (tmps : Array Value) (w : World) (b : Nat) (u v : Value) (hat : Row2 w b 82 u v) (hv : tmps.getD p undef = .pointer (some ⟨b, 0, none⟩)) :
    (results fn tmps).run Tryd.prog w = .ok (.agg #[u, v]) w := by
  have h0 := hat.c0
  have h1 := hat.c1
  have hv2 : tmps[p]?.getD undef = .pointer (some ⟨b, 0, none⟩) := by simpa using hv
  simp [results, h, hv2, asAddr]
  go_simp
theorem res2_51 {fn : Func} {p q : Tmp} (h : fn.results = #[.cell p 51, .tmp q]) (tmps : Array Value) (w : World) (b : Nat) (u v : Value) (hat : Row2 w b 51 u v) (hv : tmps.getD p undef = .pointer (some ⟨b, 0, none⟩)) :
    (results fn tmps).run Tryd.prog w = .ok (.tuple #[.agg #[u, v], tmps.getD q undef]) w := by
  have h0 := hat.c0
  have h1 := hat.c1
  have hv2 : tmps[p]?.getD undef = .pointer (some ⟨b, 0, none⟩) := by simpa using hv
  simp [results, h, hv2, asAddr]
  go_simp
theorem res3_51 {fn : Func} {p q r : Tmp} (h : fn.results = #[.cell p 51, .tmp q, .tmp r]) (tmps : Array Value) (w : World) (b : Nat) (u v : Value) (hat : Row2 w b 51 u v) (hv : tmps.getD p undef = .pointer (some ⟨b, 0, none⟩)) :
    (results fn tmps).run Tryd.prog w = .ok (.tuple #[.agg #[u, v], tmps.getD q undef, tmps.getD r undef]) w := by
  have h0 := hat.c0
  have h1 := hat.c1
  have hv2 : tmps[p]?.getD undef = .pointer (some ⟨b, 0, none⟩) := by simpa using hv
  simp [results, h, hv2, asAddr]
  go_simp
theorem res2_24 {fn : Func} {p q : Tmp} (h : fn.results = #[.cell p 24, .tmp q]) (tmps : Array Value) (w : World) (b : Nat) (u v : Value) (hat : Row2 w b 24 u v) (hv : tmps.getD p undef = .pointer (some ⟨b, 0, none⟩)) :
    (results fn tmps).run Tryd.prog w = .ok (.tuple #[.agg #[u, v], tmps.getD q undef]) w := by
  have h0 := hat.c0
  have h1 := hat.c1
  have hv2 : tmps[p]?.getD undef = .pointer (some ⟨b, 0, none⟩) := by simpa using hv
  simp [results, h, hv2, asAddr]
  go_simp
/-- '[]byte(s)'. -/
theorem run_conv (w : World) (B : List UInt8) : ∃ cap w', (convert 9 66 (.string (strB B))).run Tryd.prog w = .ok (.slice (some ⟨w.heap.size, 0, none⟩) B.length cap) w' ∧ B.length ≤ cap ∧ BytesAt w' w.heap.size B ∧ Below w.heap.size w w' := by
  have h := run_bytes_of_string (P := Tryd.prog) w 9 66 5 (strB B) und9 und66 Tryd.underlying5
  rw [strB_size] at h
  refine ⟨_, _, h, ?_, ?_, ?_⟩
  · exact grownCap_ge w _ 0 5
  · refine ⟨fun j hj => ?_, fun j hj => ?_, by simp⟩
    · have e := World.cell?_alloc_mark w.drew (bytesRow (strB B) (grownCap w B.length 0 5)) 5 ((bytesRow (strB B) (grownCap w B.length 0 5)).size, (bytesRow (strB B) (grownCap w B.length 0 5)).size + 1) j
      have hj2 : j < (strB B).data.size := by simpa [strB] using hj
      refine e.trans ((bytesRow_at (strB B) _ j hj2).trans ?_)
      have : (strB B).data[j] = B.getD j 0 := by
        simp [strB, List.getD_eq_getElem?_getD, List.getElem?_eq_getElem hj]
      rw [this]
    · have e := World.frozen?_alloc_mark w.drew (bytesRow (strB B) (grownCap w B.length 0 5)) 5 ((bytesRow (strB B) (grownCap w B.length 0 5)).size) ((bytesRow (strB B) (grownCap w B.length 0 5)).size + 1) j
      refine e.trans ?_
      have : B.length ≤ (bytesRow (strB B) (grownCap w B.length 0 5)).size := by simp [bytesRow, strB]
      rw [decide_eq_false (by omega)]
      rfl
  · exact (Below.refl _ _).drew.alloc (Nat.le_refl _) _
theorem step_conv {ops : Array Oper} {o : Oper} {a : Act} {w : World} {K : Act → World → Prop} {Q : Exit → Act → World → Prop} {E : Prop} (hgd : o.guard = none) (x : Operand) (ho : o.op = .convert 9 66 x) (B : List UInt8) (hx : a.eval x = .string (strB B))
    (h : ∀ cap w', B.length ≤ cap → BytesAt w' w.heap.size B → Below w.heap.size w w' → K (a.put o.dst (.slice (some ⟨w.heap.size, 0, none⟩) B.length cap)) w') : if Region.wanted o (yielded ops a.tmps) = true then Oper.wp Tryd.prog o a w K Q else E := by
  rw [if_pos (wanted_none hgd)]
  obtain ⟨cap, w', hr, h1, h2, h3⟩ := run_conv w B
  unfold Oper.wp execOp
  simp only [ho, hx, Sem.run_bind, Sem.run_pure, Result.andThen_ok, hr]
  exact h cap w' h1 h2 h3
/-- 'string(b)'. -/
theorem run_back {w : World} {g : Nat} {B : List UInt8} (h : BytesAt w g B) (cap : Nat) : (convert 66 9 (.slice (some ⟨g, 0, none⟩) B.length cap)).run Tryd.prog w = .ok (.string (strB B)) w :=
  run_convert_bytes_back w 66 9 5 ⟨g, 0, none⟩ cap B und66 Tryd.underlying5 und9 (fun j hj => by
    rw [add_off', Nat.zero_add, h.cel j hj, List.getD_eq_getElem?_getD, List.getElem?_eq_getElem hj]; rfl)
end Go.Proofs.YtfnokklcbmipgaaDoor
