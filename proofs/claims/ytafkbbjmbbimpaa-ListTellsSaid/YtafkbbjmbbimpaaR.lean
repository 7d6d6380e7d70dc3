/- The parameters, opened: any value of a list's type tells numbers. -/
import Derived.Test.YtafkbbjmbbimpaaC1
import Derived.WideShapes
import Derived.OpenShut
namespace Go.Proofs.Ytafkbbjmbbimpaa
open Go.RowKit Go.WideShapes Plain

def intOr : Option Value → Int | some (.int _ n) => n | _ => 0
def boolOr : Option Value → Bool | some (.bool b) => b | _ => false
def lcOf (cs : Array Value) : LC :=
  ⟨(List.range 64).map fun i => intOr cs[i]?, (List.range 64).map fun i => intOr cs[64 + i]?, (List.range 64).map fun i => boolOr cs[128 + i]?, intOr cs[192]?, intOr cs[193]?⟩
theorem lcOf_ok (cs : Array Value) : (lcOf cs).ok := ⟨by simp [lcOf], by simp [lcOf], by simp [lcOf]⟩
theorem cells26 : Try.prog.cellsOf 26 = 194 := by kernel_rfl
theorem types26 : Try.prog.cellTypes Try.prog.depth 26 = some (List.replicate 128 3 ++ (List.replicate 64 4 ++ [3, 3])) := by kernel_rfl
theorem range_get {α : Type} (f : Nat → α) (i : Nat) (d : α) (h : i < 64) : ((List.range 64).map f).getD i d = f i := by
  rw [List.getD_eq_getElem?_getD, List.getElem?_map, List.getElem?_range h]; rfl
theorem cell_int {w : World} {r : Reach} {base : Nat} {v : Value} (h : Cell.okWide Try.prog w r base 3 v) : v = .int .i64 (intOr (some v)) := by
  have h2 : Value.okWide Try.prog w r base 3 v := by unfold Value.okWide; rw [u3]; exact h
  obtain ⟨n, rfl⟩ := okWide_int u3 h2
  rfl
theorem cell_bool {w : World} {r : Reach} {base : Nat} {v : Value} (h : Cell.okWide Try.prog w r base 4 v) : v = .bool (boolOr (some v)) := by
  have h2 : Value.okWide Try.prog w r base 4 v := by unfold Value.okWide; rw [u4]; exact h
  obtain ⟨n, rfl⟩ := okWide_bool u4 h2
  rfl
theorem open_list {w : World} {r : Reach} {base : Nat} {v : Value} (h : Value.okWide Try.prog w r base 26 v) : ∃ t : LC, t.ok ∧ v = .agg (cellsT t) := by
  unfold Value.okWide at h
  rw [u26] at h
  obtain ⟨cs, rfl, hs, ts, hts, _, hc⟩ := h
  rw [cells26] at hs
  rw [types26] at hts
  cases hts
  refine ⟨lcOf cs, lcOf_ok cs, ?_⟩
  congr 1
  have hok := lcOf_ok cs
  have key : ∀ i, i < 194 → ∃ v, cs[i]? = some v ∧ Cell.okWide Try.prog w r base ((List.replicate 128 3 ++ (List.replicate 64 4 ++ [3, 3])).getD i 0) v := by
    intro i hi
    have hv : cs[i]? = some cs[i] := Array.getElem?_eq_getElem (by omega)
    obtain ⟨u, hu, hk⟩ := hc i _ hv
    have hl : (List.replicate 128 3 ++ (List.replicate 64 4 ++ [3, 3])).length = 194 := by rw [List.length_append, List.length_append, List.length_replicate, List.length_replicate]; rfl
    rw [hl, Nat.mod_eq_of_lt hi] at hu
    refine ⟨_, hv, ?_⟩
    rw [List.getD_eq_getElem?_getD, hu]; exact hk
  apply Array.ext_getElem?
  intro i
  rcases Nat.lt_or_ge i 194 with hi | hi
  · obtain ⟨v, hv, hk⟩ := key i hi
    rw [hv]
    rcases Nat.lt_or_ge i 64 with h1 | h1
    · rw [cells_next hok i h1]
      unfold lcOf
      rw [range_get _ _ _ h1, hv]
      rw [List.getD_eq_getElem?_getD, List.getElem?_append_left (by simp; omega), List.getElem?_replicate, if_pos (by omega)] at hk
      exact congrArg some (cell_int hk)
    rcases Nat.lt_or_ge i 128 with h2 | h2
    · obtain ⟨j, rfl⟩ : ∃ j, i = 64 + j := ⟨i - 64, by omega⟩
      rw [cells_prev hok j (by omega)]
      unfold lcOf
      rw [range_get _ _ _ (by omega), hv]
      rw [List.getD_eq_getElem?_getD, List.getElem?_append_left (by simp; omega), List.getElem?_replicate, if_pos (by omega)] at hk
      exact congrArg some (cell_int hk)
    rcases Nat.lt_or_ge i 192 with h3 | h3
    · obtain ⟨j, rfl⟩ : ∃ j, i = 128 + j := ⟨i - 128, by omega⟩
      rw [cells_inn hok j (by omega)]
      unfold lcOf
      rw [range_get _ _ _ (by omega), hv]
      rw [List.getD_eq_getElem?_getD, List.getElem?_append_right (by simp), List.length_replicate, Nat.add_sub_cancel_left, List.getElem?_append_left (by simp; omega), List.getElem?_replicate, if_pos (by omega)] at hk
      exact congrArg some (cell_bool hk)
    · rcases (by omega : i = 192 ∨ i = 193) with rfl | rfl
      · rw [cells_head hok]
        unfold lcOf
        rw [hv]
        exact congrArg some (cell_int hk)
      · rw [cells_tail hok]
        unfold lcOf
        rw [hv]
        exact congrArg some (cell_int hk)
  · rw [Array.getElem?_eq_none (by omega), Array.getElem?_eq_none (by rw [cellsT_size hok]; omega)]
end Go.Proofs.Ytafkbbjmbbimpaa
