/- slices.Clone. -/
import Derived.Test.YtfnokklcbmipgaaDoorA3
import Derived.Laws.OwnMore
import Derived.Laws.AppendOwnNone
import Derived.Deep.Onto
import Derived.Lib.SliceRun
namespace Go.Proofs.YtfnokklcbmipgaaDoor
open Go.RowKit Plain

def segCells (l : Segs) : List Value := l.flatMap fun g => [.int .i64 g.1, .int .u64 g.2]
theorem segCells_len (l : Segs) : (segCells l).length = l.length * 2 := by
  induction l with
  | nil => rfl
  | cons g l ih =>
    show (Value.int .i64 g.1 :: Value.int .u64 g.2 :: segCells l).length = _
    simp only [List.length_cons]
    omega
theorem segCells_cons (g : Int × Nat) (l : Segs) : segCells (g :: l) = .int .i64 g.1 :: .int .u64 g.2 :: segCells l := rfl
theorem segCells_at : ∀ (l : Segs) (i : Nat), i < l.length → (segCells l)[i * 2]? = some (.int .i64 (l.getD i (0, 0)).1) ∧ (segCells l)[i * 2 + 1]? = some (.int .u64 (l.getD i (0, 0)).2)
  | g :: l, 0, _ => ⟨rfl, rfl⟩
  | g :: l, i + 1, h => by
    have ih := segCells_at l i (by simpa using h)
    rw [segCells_cons, show (i + 1) * 2 = i * 2 + 2 by omega]
    simpa using ih
theorem segCells_one (l : Segs) : ∀ u ∈ segCells l, u.oneCell' = true := by
  intro u hu
  obtain ⟨g, _, hg⟩ := List.mem_flatMap.1 hu
  simp only [List.mem_cons, List.not_mem_nil, or_false] at hg
  rcases hg with rfl | rfl <;> rfl
/-- Segments in a block of the call's own. -/
def SegNew (w : World) (base : Nat) (ao : Option Addr) (cap : Nat) (l : Segs) : Prop := w.ownsRow base 47 2 (.slice ao l.length cap) l.length (segCells l)
theorem SegNew.at {w : World} {base cap : Nat} {ao : Option Addr} {l : Segs} (h : SegNew w base ao cap l) : SegAt w ao l := by
  rcases h.2 with ⟨hv, hn⟩ | ⟨g, cap', cur, hv, _, hg, hcap, _⟩
  · exact .inl (List.length_eq_zero_iff.1 hn)
  · simp only [Value.slice.injEq] at hv
    obtain ⟨rfl, _, rfl⟩ := hv
    right
    refine ⟨g, 0, rfl, (Array.getElem?_eq_some_iff.1 hg).1, ?_⟩
    intro i hi
    obtain ⟨h1, h2⟩ := segCells_at l i hi
    rw [Nat.zero_add]
    exact ⟨(World.ownsRow.cellAt h (i * 2) (by omega)).trans h1, (World.ownsRow.cellAt h (i * 2 + 1) (by omega)).trans h2⟩
theorem SegNew.nil {w : World} {base cap : Nat} {ao : Option Addr} {l : Segs} (h : SegNew w base ao cap l) : ao = none → cap = 0 := by
  rcases h.2 with ⟨hv, _⟩ | ⟨g, cap', cur, hv, _⟩
  · simp only [Value.slice.injEq] at hv
    exact fun _ => hv.2.2
  · simp only [Value.slice.injEq] at hv
    obtain ⟨rfl, _, rfl⟩ := hv
    exact fun h => by cases h
theorem SegNew.below {w w' : World} {base cap : Nat} {ao : Option Addr} {l : Segs} (h : SegNew w base ao cap l) (hb : Below w.heap.size w w') : SegNew w' base ao cap l := by
  refine ⟨h.1, ?_⟩
  rcases h.2 with hn | ⟨g, cap, cur, hv, hbg, hg, rest⟩
  · exact .inl hn
  · exact .inr ⟨g, cap, cur, hv, hbg, by rw [hb.block g (Array.getElem?_eq_some_iff.1 hg).1]; exact hg, rest⟩
theorem SegNew.mono {w : World} {base base' cap : Nat} {ao : Option Addr} {l : Segs} (h : SegNew w base ao cap l) (hb : base' ≤ base) : SegNew w base' ao cap l := World.ownsRow.mono h hb
theorem own_ge {w : World} {base : Nat} {e : TypeId} {size : Nat} {v : Value} {n : Nat} {xs : List Value} (h : w.ownsRow base e size v n xs) : ∀ k, v.ownBlock = some k → base ≤ k := fun k hk => (h.lt k hk).1
theorem info47 : (Tryd.prog.info? 47).map (fun i => (i.zero, i.size, i.bytes)) = some (some (.agg #[.int .i64 0, .int .u64 0]), 2, 16) := by kernel_rfl
/-- append of segments behind an empty literal of the call's own. -/
theorem append_segs {ops : Array Oper} {rest : List Oper} {o : Oper} {a : Act} {Q : Exit → Act → World → Prop} {w : World} (hgd : o.guard = none) (s x : Operand)
    (ho : o.op = .call { callee := .builtin .append, args := #[s, x], argTypes := #[22, 22] })
    (base : Nat) (v : Value) (xs : Segs) (hs : a.eval s = v) (hown : w.ownsRow base 47 2 v xs.length (segCells xs))
    (ad : Addr) (l : Segs) (c : Nat) (hx : a.eval x = .slice (some ad) l.length c) (hat : SegAt w (some ad) l)
    (h63 : (xs ++ l).length ≤ 100000) (hbase : base ≤ w.heap.size)
    (h : ∀ ao' cap' w', SegNew w' base ao' cap' (xs ++ l) → Below base w w' → wpList Tryd.prog ops Q rest (a.put o.dst (.slice ao' (xs ++ l).length cap')) w') : wpList Tryd.prog ops Q (o :: rest) a w := by
  obtain ⟨i0, hi0, hz0, hz1, hz2⟩ := info_parts info47
  rw [List.length_append] at h63
  refine wpList_append_own w hgd s x 22 ho base 47 i0 (.agg #[.int .i64 0, .int .u64 0]) 2 16 Tryd.underlying22 hi0 hz0 hz1 hz2 rfl (by decide) v _ _ hs hown ad l.length c (segCells l) hx (segCells_len l) ?_ (segCells_one l) (by unfold maxLen; omega) (by omega) hbase ?_
  · intro j u hj
    have hjl : j < l.length * 2 := by
      have := (List.getElem?_eq_some_iff.1 hj).1
      rwa [segCells_len] at this
    obtain ⟨b, off, hao, _, hcell⟩ := hat.cell (j / 2) (by omega)
    cases hao
    have e : (⟨b, off, none⟩ : Addr).add j = ⟨b, off + j, none⟩ := by unfold Addr.add; split <;> simp_all
    obtain ⟨h1, h2⟩ := hcell (j / 2) (by omega)
    obtain ⟨h3, h4⟩ := segCells_at l (j / 2) (by omega)
    rw [e]
    rcases Nat.mod_two_eq_zero_or_one j with hm | hm
    · have ej : j / 2 * 2 = j := by omega
      rw [ej] at h1 h3
      rw [h1, ← h3, hj]
    · have ej : j / 2 * 2 + 1 = j := by omega
      have ej2 : off + j / 2 * 2 + 1 = off + j := by omega
      rw [ej2] at h2
      rw [ej] at h4
      rw [h2, ← h4, hj]
  · intro v' w' ho' hg _
    have e : segCells (xs ++ l) = segCells xs ++ segCells l := by simp [segCells]
    have hb := (Below.refl _ _).grown hg hbase (own_ge hown)
    rw [← e, ← List.length_append] at ho'
    rcases ho'.2 with ⟨hv, hn⟩ | ⟨g, cap, cur, hv, _⟩
    · rw [hv] at ho' ⊢
      have h1 := h none 0 w' (by unfold SegNew; rw [hn] at ho' ⊢; exact ho') hb
      rwa [hn] at h1
    · rw [hv] at ho' ⊢
      exact h _ cap w' ho' hb
set_option maxRecDepth 20000 in
set_option maxHeartbeats 400000 in
theorem clone_any (ao : Option Addr) (l : Segs) (cap : Nat) (w : World) (hl : l.length ≤ 5000) (h : SegAt w ao l) (hn : ao = none → cap = 0) : Calls Tryd.prog 40 #[.slice ao l.length cap] w fun e w' => (∃ ao' cap', e = .returned (.slice ao' l.length cap') ∧ SegNew w' w.heap.size ao' cap' l) ∧ Below w.heap.size w w' := by
  cases ao with
  | none =>
    have hl0 : l = [] := by
      rcases h with h | ⟨_, _, h, _⟩
      · exact h
      · cases h
    subst hl0
    have hc := hn rfl
    subst hc
    have hnil : ∀ w, (binOp .eql 22 (.slice none 0 0) (.slice none 0 0)).run Tryd.prog w = .ok (.bool true) w := fun w => Lib.run_eql_slice_nil w 22 47 none 0 0 0 0 Tryd.underlying22
    go_enter Tryd.func40, Tryd.ntmps40
    go_wp2_with fail
    go_ret
    exact ⟨⟨none, 0, rfl, World.ownsRow_nil _ _ _ _⟩, Below.refl _ _⟩
  | some ad =>
    have H := Lib.hid h
    have hnil : ∀ w, (binOp .eql 22 (.slice (some ad) l.length cap) (.slice none 0 0)).run Tryd.prog w = .ok (.bool false) w := fun w => Lib.run_eql_slice_nil w 22 47 (some ad) _ _ 0 0 Tryd.underlying22
    clear h hn
    go_enter Tryd.func40, Tryd.ntmps40
    go_wp2_with (first
      | (at_builtin; refine append_segs rfl _ _ rfl w.heap.size _ [] rfl (World.ownsRow_lit (base := w.heap.size) (e := 47) (size := 2) w #[] 0 (Nat.le_refl _) (by unfold maxLen; omega) rfl) ad l cap rfl (H.out.more _) (by simp; omega) (by simp) ?_; intro ao2 cap2 w2 hown2 hb2))
    go_ret
    exact ⟨⟨ao2, cap2, rfl, hown2⟩, ((Below.refl _ _).alloc (Nat.le_refl _) _).trans hb2⟩
end Go.Proofs.YtfnokklcbmipgaaDoor
