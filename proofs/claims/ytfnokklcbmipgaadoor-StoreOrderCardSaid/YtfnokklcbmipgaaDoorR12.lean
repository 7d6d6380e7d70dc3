/- The parameters of layer 12, opened. -/
import Derived.Test.YtfnokklcbmipgaaDoorR
import Derived.Test.YtfnokklcbmipgaaDoorW0
import Derived.Lib.SmallJoins
namespace Go.Proofs.YtfnokklcbmipgaaDoor
open Go.RowKit Go.ChangeShapes Go.WideShapes Go.Deep Plain

theorem open_slots {H : Type} {enc : TypeId × Value → H} {w : World} {base : Nat} {spare : Nat → Bool} {held : Bool} {fuel : Nat} {cs : List Value} {x : DataW H × List MemPlace}
    (h : DataW.trod enc Tryd.prog w base spare held fuel 39 cs = some x) : ∃ (l : Slots) (ao : Option Addr) (cap : Nat), cs = [.slice ao l.length cap] ∧ SlotsAt w ao l := by
  rcases open_slice_pairs Tryd.underlying39 Tryd.underlying24 (by kernel_rfl) rfl rfl (by kernel_rfl) (by kernel_rfl) h with ⟨rfl, _⟩ | ⟨a, len, cap, m, n, V0, V1, D0, D1, P0, P1, rfl, _, hl, hm, hmm, _, hx⟩
  · exact ⟨[], none, 0, rfl, .inl rfl⟩
  · have hlm : len ≤ m := by rw [hmm]; split <;> omega
    have each : ∀ i, i < len → ∃ q : Int × Int, w.cell? (a.add (i * 2)) = some (.int .i64 q.1) ∧ w.cell? (a.add (i * 2 + 1)) = some (.int .i64 q.2) := by
      intro i hi
      obtain ⟨c0, c1, t0, t1⟩ := hx i (by omega)
      obtain ⟨b, hb, _⟩ := DataW.trod_int Tryd.underlying3 t0
      obtain ⟨z, hz, _⟩ := DataW.trod_int Tryd.underlying3 t1
      simp only [List.cons.injEq, and_true] at hb hz
      exact ⟨(b, z), by rw [c0, hb], by rw [c1, hz]⟩
    let f : Nat → Int × Int := fun i => if hi : i < len then (each i hi).choose else (0, 0)
    have hf : ∀ i (hi : i < len), w.cell? (a.add (i * 2)) = some (.int .i64 (f i).1) ∧ w.cell? (a.add (i * 2 + 1)) = some (.int .i64 (f i).2) := by
      intro i hi
      have e : f i = (each i hi).choose := dif_pos hi
      rw [e]
      exact (each i hi).choose_spec
    refine ⟨(List.range len).map f, some a, cap, by simp, ?_⟩
    rcases Nat.eq_zero_or_pos len with h0 | hpos
    · left; rw [h0]; rfl
    · right
      obtain ⟨b, off, spot⟩ := a
      have hc := (hf 0 hpos).1
      have hspot : spot = none := by simpa [Addr.add] using World.cell?_spot hc
      subst hspot
      have e : ∀ i, (⟨b, off, none⟩ : Addr).add i = ⟨b, off + i, none⟩ := fun i => by unfold Addr.add; split <;> simp_all
      refine ⟨b, off, rfl, ?_, ?_⟩
      · rw [e] at hc
        exact World.block_lt_of_cell? _ _ hc
      · intro i hi
        rw [List.length_map, List.length_range] at hi
        have h2 := hf i hi
        rw [e, e] at h2
        have eg : ((List.range len).map f).getD i (0, 0) = f i := by
          rw [List.getD_eq_getElem?_getD, List.getElem?_map, List.getElem?_range hi]; rfl
        rw [eg]
        exact h2
theorem open_store {H : Type} {enc : TypeId × Value → H} {w : World} {r : Reach} {b0 base : Nat} {spare : Nat → Bool} {held : Bool} {v : Value} {d : DataW H} {p : List MemPlace}
    (hv : Value.okWide Tryd.prog w r b0 51 v) (h : DataW.Trod enc Tryd.prog w base spare held 51 v d p) : ∃ (l : Segs) (ao : Option Addr) (cap : Nat) (B : List UInt8), v = .agg #[.slice ao l.length cap, .string (strB B)] ∧ SegAt w ao l ∧ Wf l ∧ (ao = none → cap = 0) := by
  obtain ⟨v0, v1, y0, y1, n, rfl, _, _, t0, t1⟩ := Go.Joins.open_agg2 Tryd.underlying51 (by kernel_rfl) (by kernel_rfl) hv h
  obtain ⟨l, ao, cap, hcs, hat, hwf, hn⟩ := open_segs t0
  obtain ⟨s, hs, _⟩ := DataW.trod_string Tryd.underlying9 t1
  simp only [List.cons.injEq, and_true] at hcs hs
  subst hcs hs
  exact ⟨l, ao, cap, s.data.toList, by rw [strB_of], hat, hwf, hn⟩
end Go.Proofs.YtfnokklcbmipgaaDoor
