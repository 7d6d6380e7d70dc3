/- A list in memory; list.New. -/
import Derived.Test.YtafkbbjmbbimpaaC1
import Derived.Great.Walk
import Derived.Below
namespace Go.Proofs.Ytafkbbjmbbimpaa
open Go.RowKit Plain

def At (w : World) (b : Nat) (t : LC) : Prop := w.heap[b]? = some (.cells (cellsT t) 26 (0, 0)) ∧ t.ok
theorem At.lt {w : World} {b : Nat} {t : LC} (h : At w b t) : b < w.heap.size := (Array.getElem?_eq_some_iff.1 h.1).1
theorem At.cell {w : World} {b : Nat} {t : LC} (h : At w b t) (o : Nat) : w.cell? ⟨b, o, none⟩ = (cellsT t)[o]? := cell_of_row _ _ _ _ _ _ h.1
theorem At.next {w : World} {b : Nat} {t : LC} (h : At w b t) (i : Nat) (hi : i < 64) : w.cell? ⟨b, i, none⟩ = some (.int .i64 (t.next.getD i 0)) := by rw [h.cell, cells_next h.2 i hi]
theorem At.prev {w : World} {b : Nat} {t : LC} (h : At w b t) (i : Nat) (hi : i < 64) : w.cell? ⟨b, 64 + i, none⟩ = some (.int .i64 (t.prev.getD i 0)) := by rw [h.cell, cells_prev h.2 i hi]
theorem At.inn {w : World} {b : Nat} {t : LC} (h : At w b t) (i : Nat) (hi : i < 64) : w.cell? ⟨b, 128 + i, none⟩ = some (.bool (t.inn.getD i false)) := by rw [h.cell, cells_inn h.2 i hi]
theorem At.head {w : World} {b : Nat} {t : LC} (h : At w b t) : w.cell? ⟨b, 192, none⟩ = some (.int .i64 t.head) := by rw [h.cell, cells_head h.2]
theorem At.tail {w : World} {b : Nat} {t : LC} (h : At w b t) : w.cell? ⟨b, 193, none⟩ = some (.int .i64 t.tail) := by rw [h.cell, cells_tail h.2]
theorem frozen_row {w : World} {b : Nat} {c : Array Value} {t : TypeId} (h : w.heap[b]? = some (.cells c t (0, 0))) (o : Nat) : w.frozen? ⟨b, o, none⟩ = false := by
  unfold World.frozen?
  simp [h]
theorem At.frozen {w : World} {b : Nat} {t : LC} (h : At w b t) (o : Nat) : w.frozen? ⟨b, o, none⟩ = false := frozen_row h.1 o
theorem At.below {w w' : World} {b B : Nat} {t : LC} (h : At w b t) (hb : Below B w w') (hB : b < B) : At w' b t := ⟨by rw [hb.block b hB]; exact h.1, h.2⟩
theorem At.drewN {w : World} {b : Nat} {t : LC} (h : At w b t) (n : Nat) : At (w.drewN n) b t := h
theorem heap_set (w : World) (b o : Nat) (v : Value) (c : Array Value) (t : TypeId) (h : w.heap[b]? = some (.cells c t (0, 0))) : (w.setCell ⟨b, o, none⟩ v).heap[b]? = some (.cells (c.setIfInBounds o v) t (0, 0)) := by
  unfold World.setCell
  simp [Array.getElem?_modify, h]
theorem set_cells (t : LC) (o : Nat) (v : Value) : (cellsT t).setIfInBounds o v = ((cellsL t).set o v).toArray := by
  unfold cellsT
  rw [List.setIfInBounds_toArray]
theorem At.setNext {w : World} {b : Nat} {t : LC} (h : At w b t) (i : Nat) (hi : i < 64) (x : Int) : At (w.setCell ⟨b, i, none⟩ (.int .i64 x)) b { t with next := t.next.set i x } := by
  obtain ⟨h1, h2, h3⟩ := h.2
  refine ⟨?_, ⟨by simp [h1], h2, h3⟩⟩
  rw [heap_set _ _ _ _ _ _ h.1, set_cells]
  congr 3
  unfold cellsL ints
  rw [List.set_append, if_pos (by simp [h1, hi]), List.map_set]
theorem At.setPrev {w : World} {b : Nat} {t : LC} (h : At w b t) (i : Nat) (hi : i < 64) (x : Int) : At (w.setCell ⟨b, 64 + i, none⟩ (.int .i64 x)) b { t with prev := t.prev.set i x } := by
  obtain ⟨h1, h2, h3⟩ := h.2
  refine ⟨?_, ⟨h1, by simp [h2], h3⟩⟩
  rw [heap_set _ _ _ _ _ _ h.1, set_cells]
  congr 3
  unfold cellsL ints
  rw [List.set_append, if_neg (by simp [h1]), List.length_map, h1, Nat.add_sub_cancel_left, List.set_append, if_pos (by simp [h2, hi]), List.map_set]
theorem At.setIn {w : World} {b : Nat} {t : LC} (h : At w b t) (i : Nat) (hi : i < 64) (x : Bool) : At (w.setCell ⟨b, 128 + i, none⟩ (.bool x)) b { t with inn := t.inn.set i x } := by
  obtain ⟨h1, h2, h3⟩ := h.2
  refine ⟨?_, ⟨h1, h2, by simp [h3]⟩⟩
  rw [heap_set _ _ _ _ _ _ h.1, set_cells]
  congr 3
  unfold cellsL ints
  rw [List.set_append, if_neg (by simp [h1]; omega), List.length_map, h1, List.set_append, if_neg (by simp [h2]; omega), List.length_map, h2, show 128 + i - 64 - 64 = i by omega, List.set_append, if_pos (by simp [h3, hi]), List.map_set]
theorem At.setHead {w : World} {b : Nat} {t : LC} (h : At w b t) (x : Int) : At (w.setCell ⟨b, 192, none⟩ (.int .i64 x)) b { t with head := x } := by
  obtain ⟨h1, h2, h3⟩ := h.2
  refine ⟨?_, ⟨h1, h2, h3⟩⟩
  rw [heap_set _ _ _ _ _ _ h.1, set_cells]
  congr 3
  unfold cellsL ints
  rw [List.set_append, if_neg (by simp [h1]), List.length_map, h1, List.set_append, if_neg (by simp [h2]), List.length_map, h2, List.set_append, if_neg (by simp [h3]), List.length_map, h3]; rfl
theorem At.setTail {w : World} {b : Nat} {t : LC} (h : At w b t) (x : Int) : At (w.setCell ⟨b, 193, none⟩ (.int .i64 x)) b { t with tail := x } := by
  obtain ⟨h1, h2, h3⟩ := h.2
  refine ⟨?_, ⟨h1, h2, h3⟩⟩
  rw [heap_set _ _ _ _ _ _ h.1, set_cells]
  congr 3
  unfold cellsL ints
  rw [List.set_append, if_neg (by simp [h1]), List.length_map, h1, List.set_append, if_neg (by simp [h2]), List.length_map, h2, List.set_append, if_neg (by simp [h3]), List.length_map, h3]; rfl
theorem At.alloc {w : World} {t : LC} (h : t.ok) : At (w.alloc (.cells (cellsT t) 26)) w.heap.size t := ⟨heap_alloc_last w _, h⟩
theorem At.more {w : World} {b : Nat} {t : LC} (h : At w b t) (o : Obj) : At (w.alloc o) b t := ⟨by rw [Below.heap_alloc _ _ _ h.lt]; exact h.1, h.2⟩
theorem At.other {w : World} {b : Nat} {t : LC} (h : At w b t) (c o : Nat) (v : Value) (hne : b ≠ c) : At (w.setCell ⟨c, o, none⟩ v) b t := ⟨by rw [Below.heap_setCell _ _ _ _ hne]; exact h.1, h.2⟩

def zeroT : LC := ⟨List.replicate 64 0, List.replicate 64 0, List.replicate 64 false, 0, 0⟩
def beginT : LC := ⟨List.replicate 64 0, List.replicate 64 0, List.replicate 64 false, -1, -1⟩
def newAt (k : Nat) : LC := ⟨List.replicate k (-1) ++ List.replicate (64 - k) 0, List.replicate k (-1) ++ List.replicate (64 - k) 0, List.replicate 64 false, -1, -1⟩
theorem zeroT_ok : zeroT.ok := ⟨rfl, rfl, rfl⟩
theorem beginT_ok : beginT.ok := ⟨rfl, rfl, rfl⟩
theorem newAt_zero : newAt 0 = beginT := rfl
theorem newAt_64 : newAt 64 = newT := rfl
theorem rep_set (k : Nat) (h : k < 64) : (List.replicate k (-1 : Int) ++ List.replicate (64 - k) 0).set k (-1) = List.replicate (k + 1) (-1) ++ List.replicate (64 - (k + 1)) 0 := by
  rw [List.set_append, if_neg (by simp), List.length_replicate, Nat.sub_self, show 64 - k = (64 - (k + 1)) + 1 by omega, List.replicate_succ, List.set_cons_zero, List.replicate_succ', List.append_assoc]; rfl
theorem newAt_succ (k : Nat) (h : k < 64) : { { newAt k with next := (newAt k).next.set k (-1) } with prev := (newAt k).prev.set k (-1) } = newAt (k + 1) := by
  show LC.mk _ _ _ _ _ = LC.mk _ _ _ _ _
  congr 1
  · exact rep_set k h
  · exact rep_set k h
theorem zero26 : (Try.prog.info? 26).map (fun i => (i.zero, i.size)) = some (some (.agg (cellsT zeroT)), 194) := by kernel_rfl
theorem run_build26 (w : World) : (Instr.build 26 #[(3, .int .i64 (-1)), (4, .int .i64 (-1))]).run Try.prog w = .ok (.agg (cellsT beginT)) w := by kernel_rfl
end Go.Proofs.Ytafkbbjmbbimpaa
