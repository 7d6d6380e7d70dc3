/- What a slice of integers that came in is, in the words of the walks. -/
import Derived.Test.YtafkbbjmbbimpaaC4
namespace Go.Proofs.Ytafkbbjmbbimpaa
open Go.RowKit
theorem row_at {w : World} {a : Option Addr} {len cap : Nat} {zs : List Int} (h : (a = none ∧ len = 0 ∧ cap = 0 ∧ zs = []) ∨
    ∃ x, a = some x ∧ len ≤ cap ∧ cap ≤ maxLen ∧ zs.length = cap ∧ (∀ i, i < zs.length → w.cell? (x.add i) = some (.int .i64 (zs.getD i 0))) ∧ ∀ n ∈ zs, (Lit.int .i64 n).wf = true) :
    ∃ l : List Int, l.length = len ∧ len ≤ maxLen ∧ IntAt w a l ∧ (a = none → cap = 0) := by
  rcases h with ⟨rfl, rfl, rfl, rfl⟩ | ⟨x, rfl, hl, hm, hz, hcell, _⟩
  · exact ⟨[], rfl, Nat.zero_le _, .inl rfl, fun _ => rfl⟩
  · refine ⟨zs.take len, by rw [List.length_take]; omega, by omega, ?_, fun h => by cases h⟩
    cases len with
    | zero => exact .inl (by simp)
    | succ n =>
      right
      obtain ⟨b, off, spot⟩ := x
      have hc := hcell 0 (by omega)
      have hspot : spot = none := by simpa [Addr.add] using World.cell?_spot hc
      subst hspot
      have e : ∀ i, (⟨b, off, none⟩ : Addr).add i = ⟨b, off + i, none⟩ := fun i => by unfold Addr.add; split <;> simp_all
      refine ⟨b, off, rfl, ?_, ?_⟩
      · rw [e] at hc
        exact World.block_lt_of_cell? _ _ hc
      · intro i hi
        rw [List.length_take] at hi
        have := hcell i (by omega)
        rw [e] at this
        rw [this, List.getD_eq_getElem?_getD, List.getD_eq_getElem?_getD, List.getElem?_take_of_lt (by omega)]
end Go.Proofs.Ytafkbbjmbbimpaa
