/- The parameters, opened. -/
import Derived.Test.YtfnokklcbmipgaaDoorB1
import Derived.Test.YtfnokklcbmipgaaDoorTie
import Derived.Test.YtfnokklcbmipgaaDoorCards
import Derived.Deep.SlicePairs
import Derived.WideShapes
import Derived.OpenShut
import Derived.ChangeArms
import Derived.Lib.LaidTab
import Derived.Deep.DeepHandedRow
namespace Go.Proofs.YtfnokklcbmipgaaDoor
open Go.RowKit Go.ChangeShapes Go.WideShapes Go.Deep Plain

theorem open_segs {H : Type} {enc : TypeId × Value → H} {w : World} {base : Nat} {spare : Nat → Bool} {held : Bool} {fuel : Nat} {cs : List Value} {x : DataW H × List MemPlace}
    (h : DataW.trod enc Tryd.prog w base spare held fuel 22 cs = some x) : ∃ (l : Segs) (ao : Option Addr) (cap : Nat), cs = [.slice ao l.length cap] ∧ SegAt w ao l ∧ Wf l ∧ (ao = none → cap = 0) := by
  rcases open_slice_pairs Tryd.underlying22 Tryd.underlying47 (by kernel_rfl) rfl rfl (by kernel_rfl) (by kernel_rfl) h with ⟨rfl, _⟩ | ⟨a, len, cap, m, n, V0, V1, D0, D1, P0, P1, rfl, _, hl, hm, hmm, _, hx⟩
  · exact ⟨[], none, 0, rfl, .inl rfl, fun g hg => by simp at hg, fun _ => rfl⟩
  · have hlm : len ≤ m := by rw [hmm]; split <;> omega
    have each : ∀ i, i < len → ∃ q : Int × Nat, w.cell? (a.add (i * 2)) = some (.int .i64 q.1) ∧ w.cell? (a.add (i * 2 + 1)) = some (.int .u64 q.2) ∧ q.2 < 18446744073709551616 := by
      intro i hi
      obtain ⟨c0, c1, t0, t1⟩ := hx i (by omega)
      obtain ⟨b, hb, _⟩ := DataW.trod_int Tryd.underlying3 t0
      obtain ⟨z, hz, _, hwz⟩ := DataW.trod_int Tryd.underlying45 t1
      simp only [List.cons.injEq, and_true] at hb hz
      have hz0 : 0 ≤ z ∧ z < 18446744073709551616 := by
        simp [Lit.wf, IntKind.min, IntKind.max, IntKind.signed, IntKind.bits] at hwz
        omega
      exact ⟨(b, z.toNat), by rw [c0, hb], by rw [c1, hz, Int.toNat_of_nonneg hz0.1], by show z.toNat < _; omega⟩
    let f : Nat → Int × Nat := fun i => if hi : i < len then (each i hi).choose else (0, 0)
    have hf : ∀ i (hi : i < len), w.cell? (a.add (i * 2)) = some (.int .i64 (f i).1) ∧ w.cell? (a.add (i * 2 + 1)) = some (.int .u64 (f i).2) ∧ (f i).2 < 18446744073709551616 := by
      intro i hi
      have e : f i = (each i hi).choose := dif_pos hi
      rw [e]
      exact (each i hi).choose_spec
    refine ⟨(List.range len).map f, some a, cap, by simp, ?_, ?_, fun h => by cases h⟩
    · rcases Nat.eq_zero_or_pos len with h0 | hpos
      · left; rw [h0]; rfl
      · right
        obtain ⟨b, off, spot⟩ := a
        have hc := (hf 0 hpos).1
        have hspot : spot = none := by simpa [Addr.add] using World.cell?_spot hc
        subst hspot
        have e : ∀ i, (⟨b, off, none⟩ : Addr).add i = ⟨b, off + i, none⟩ := fun i => by unfold Addr.add; split <;> simp_all
        refine ⟨b, off, rfl, ?_, ?_⟩
        · rw [e] at hc
          exact World.block_lt_of_cell? _ _ hc
        · intro i hi
          rw [List.length_map, List.length_range] at hi
          have h2 := hf i hi
          rw [e, e] at h2
          have eg : ((List.range len).map f).getD i (0, 0) = f i := by
            rw [List.getD_eq_getElem?_getD, List.getElem?_map, List.getElem?_range hi]; rfl
          rw [eg]
          exact ⟨h2.1, h2.2.1⟩
    · intro g hg
      obtain ⟨i, hi, rfl⟩ := List.mem_map.1 hg
      exact (hf i (List.mem_range.1 hi)).2.2
theorem cells24 : Tryd.prog.cellsOf 24 = 2 := by kernel_rfl
theorem types24 : Tryd.prog.cellTypes Tryd.prog.depth 24 = some [3, 3] := by kernel_rfl
theorem open_slot {w : World} {r : Reach} {base : Nat} {v : Value} (h : Value.okWide Tryd.prog w r base 24 v) : ∃ s a : Int, v = .agg #[.int .i64 s, .int .i64 a] := by
  unfold Value.okWide at h
  rw [u24] at h
  obtain ⟨cs, rfl, hs, ts, hts, _, hc⟩ := h
  rw [cells24] at hs
  rw [types24] at hts
  cases hts
  have key : ∀ i, i < 2 → ∃ n : Int, cs[i]? = some (.int .i64 n) := by
    intro i hi
    have hv : cs[i]? = some cs[i] := Array.getElem?_eq_getElem (by omega)
    obtain ⟨u, hu, hk⟩ := hc i _ hv
    have hu3 : u = 3 := by
      have hm : i % 2 = 0 ∨ i % 2 = 1 := by omega
      rcases hm with hm | hm <;> simp [hm] at hu <;> exact hu.symm
    subst hu3
    have h2 : Value.okWide Tryd.prog w r base 3 cs[i] := by unfold Value.okWide; rw [u3]; exact hk
    obtain ⟨n, hn⟩ := okWide_int u3 h2
    exact ⟨n, by rw [hv, hn]⟩
  obtain ⟨s, h0⟩ := key 0 (by omega)
  obtain ⟨a, h1⟩ := key 1 (by omega)
  refine ⟨s, a, ?_⟩
  congr 1
  apply Array.ext_getElem?
  intro i
  rcases (by omega : i = 0 ∨ i = 1 ∨ 2 ≤ i) with rfl | rfl | hi
  · rw [h0]; rfl
  · rw [h1]; rfl
  · rw [Array.getElem?_eq_none (by omega), Array.getElem?_eq_none (by simpa using hi)]

/-! ### the library's table -/
theorem own : ownKnob Tryd.prog.godebug = none := by kernel_rfl
theorem laidOut : laidOutB Tryd.prog = true := by kernel_rfl
theorem gTab : Tryd.prog.globalNamed "math/bits.deBruijn64tab" = some 0 := by kernel_rfl
theorem gTabType : (Tryd.prog.globals[0]?).map (·.type) = some 93 := by kernel_rfl
theorem cells93 : Tryd.prog.cellsOf 93 = 64 := by kernel_rfl
theorem cells5 : Tryd.prog.cellsOf 5 = 1 := by kernel_rfl
def tabI : List Int := List.map Int.ofNat Lib.deBruijn64tab
theorem tabI_at : ∀ j, j < 64 → tabI.getD j 0 = (Lib.deBruijn64tab.getD j 0 : Nat) := by decide
theorem table {W : World} (h : laidMetH Tryd.prog [("math/bits.deBruijn64tab", Rows.laid_math_bits_deBruijn64tab)] W) : TabAt W := by
  have hT : Lib.TabIs Tryd.prog W "math/bits.deBruijn64tab" .u8 tabI := Lib.tabIs_of_head (rest := []) gTab gTabType Tryd.underlying93 Tryd.underlying5 cells5 cells93 h
  have hc : ∀ j, j < 64 → W.cell? ⟨0, j, none⟩ = some (.int .u8 (Lib.deBruijn64tab.getD j 0 : Nat)) := fun j hj => by
    have := hT.cell gTab j (by rw [show tabI.length = 64 by decide]; exact hj)
    first | (rw [tabI_at j hj] at this; exact this) | (rw [← tabI_at j hj]; exact this)
  exact ⟨hc, World.block_lt_of_cell? _ _ (hc 0 (by omega))⟩
/-- A world for the witness. -/
noncomputable def laidWorld (os : Os) : World :=
  { World.holding Tryd.prog os ⟨#[], #[], []⟩ with heap := (World.holding Tryd.prog os ⟨#[], #[], []⟩).heap.modify 0 fun
      | .cells _ t frozen => .cells (tabI.map fun z => Value.int .u8 z).toArray t frozen
      | o => o }
end Go.Proofs.YtfnokklcbmipgaaDoor
