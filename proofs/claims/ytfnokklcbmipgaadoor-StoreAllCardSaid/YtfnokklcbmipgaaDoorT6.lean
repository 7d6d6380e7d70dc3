/- Rows of chains. -/
import Derived.Test.YtfnokklcbmipgaaDoorT5
namespace Go.Proofs.YtfnokklcbmipgaaDoor
open Go.RowKit Plain

theorem und67 : Tryd.prog.underlying 67 = some (.slice 39) := Tryd.underlying67
theorem info39 : (Tryd.prog.info? 39).map (fun i => (i.zero, i.size, i.bytes)) = some (some (.slice none 0 0), 1, 24) := by kernel_rfl
/-- A slot row's value, in memory. -/
def ChainAt (w : World) (v : Value) (ss : Slots) : Prop := ∃ so scap, v = .slice so ss.length scap ∧ SlotsAt w so ss
theorem ChainAt.below {w w' : World} {v : Value} {ss : Slots} (h : ChainAt w v ss) (hb : Below w.heap.size w w') : ChainAt w' v ss := by
  obtain ⟨so, scap, h1, h2⟩ := h
  exact ⟨so, scap, h1, h2.below hb⟩
def ChainsAt (w : World) (ao : Option Addr) (chs : List Slots) : Prop := chs = [] ∨ ∃ b off, ao = some ⟨b, off, none⟩ ∧ b < w.heap.size ∧ ∀ i, i < chs.length → ∃ v, w.cell? ⟨b, off + i, none⟩ = some v ∧ ChainAt w v (chs.getD i [])
theorem ChainsAt.below {w w' : World} {ao : Option Addr} {chs : List Slots} (h : ChainsAt w ao chs) (hb : Below w.heap.size w w') : ChainsAt w' ao chs := by
  rcases h with h | ⟨b, off, h1, h2, h3⟩
  · exact .inl h
  · refine .inr ⟨b, off, h1, Nat.lt_of_lt_of_le h2 hb.size, fun i hi => ?_⟩
    obtain ⟨v, h4, h5⟩ := h3 i hi
    exact ⟨v, (hb.cell (p := ⟨b, off + i, none⟩) h2).trans h4, h5.below hb⟩
def ChainNew (w : World) (base : Nat) (v : Value) (ss : Slots) : Prop := ∃ so scap, v = .slice so ss.length scap ∧ SlotsNew w base so scap ss
/-- Chains in a block of the call's own, each in one, too. -/
def ChainsNew (w : World) (base : Nat) (v : Value) (chs : List Slots) : Prop := ∃ vs : List Value, w.ownsRow base 39 1 v chs.length vs ∧ ∀ i, i < chs.length → ChainNew w base (vs.getD i undef) (chs.getD i [])
theorem ChainNew.at {w : World} {base : Nat} {v : Value} {ss : Slots} (h : ChainNew w base v ss) : ChainAt w v ss := by
  obtain ⟨so, scap, h1, h2⟩ := h
  exact ⟨so, scap, h1, h2.at⟩
theorem ChainNew.below {w w' : World} {base : Nat} {v : Value} {ss : Slots} (h : ChainNew w base v ss) (hb : Below w.heap.size w w') : ChainNew w' base v ss := by
  obtain ⟨so, scap, h1, h2⟩ := h
  exact ⟨so, scap, h1, h2.below hb⟩
theorem ChainNew.mono {w : World} {base base' : Nat} {v : Value} {ss : Slots} (h : ChainNew w base v ss) (hb : base' ≤ base) : ChainNew w base' v ss := by
  obtain ⟨so, scap, h1, h2⟩ := h
  exact ⟨so, scap, h1, h2.mono hb⟩
theorem ChainNew.one {w : World} {base : Nat} {v : Value} {ss : Slots} (h : ChainNew w base v ss) : v.oneCell' = true := by
  obtain ⟨so, scap, rfl, _⟩ := h
  rfl
theorem ChainNew.chg {w w' : World} {base bw g : Nat} {v : Value} {ss : Slots} (h : ChainNew w base v ss) (hc : Chg bw g w w') (h1 : bw < base) (h2 : g < base) : ChainNew w' base v ss := by
  obtain ⟨so, scap, h3, h4⟩ := h
  exact ⟨so, scap, h3, h4.same (fun k off e => hc.block k (h4.blk k off e).2 (by have := (h4.blk k off e).1; omega) (by have := (h4.blk k off e).1; omega))⟩
theorem ChainsNew.below {w w' : World} {base : Nat} {v : Value} {chs : List Slots} (h : ChainsNew w base v chs) (hb : Below w.heap.size w w') : ChainsNew w' base v chs := by
  obtain ⟨vs, h1, h2⟩ := h
  exact ⟨vs, own_below h1 hb, fun i hi => (h2 i hi).below hb⟩
theorem ChainsNew.mono {w : World} {base base' : Nat} {v : Value} {chs : List Slots} (h : ChainsNew w base v chs) (hb : base' ≤ base) : ChainsNew w base' v chs := by
  obtain ⟨vs, h1, h2⟩ := h
  exact ⟨vs, World.ownsRow.mono h1 hb, fun i hi => (h2 i hi).mono hb⟩
theorem own_same {w w' : World} {base : Nat} {e : TypeId} {size : Nat} {v : Value} {n : Nat} {xs : List Value} (h : w.ownsRow base e size v n xs) (hb : ∀ k, base ≤ k → k < w.heap.size → w'.heap[k]? = w.heap[k]?) : w'.ownsRow base e size v n xs := by
  refine ⟨h.1, ?_⟩
  rcases h.2 with hn | ⟨g, cap, cur, hv, hbg, hg, rest⟩
  · exact .inl hn
  · exact .inr ⟨g, cap, cur, hv, hbg, by rw [hb g hbg (Array.getElem?_eq_some_iff.1 hg).1]; exact hg, rest⟩
theorem ChainsNew.chg {w w' : World} {base bw g : Nat} {v : Value} {chs : List Slots} (h : ChainsNew w base v chs) (hc : Chg bw g w w') (h1 : bw < base) (h2 : g < base) : ChainsNew w' base v chs := by
  obtain ⟨vs, h3, h4⟩ := h
  exact ⟨vs, own_same h3 (fun k hk hl => hc.block k hl (by omega) (by omega)), fun i hi => (h4 i hi).chg hc h1 h2⟩
theorem ChainsNew.nil (w : World) (base : Nat) : ChainsNew w base (.slice none 0 0) [] := ⟨[], World.ownsRow_nil _ _ _ _, fun i hi => by simp at hi⟩
theorem ChainsNew.slice {w : World} {base : Nat} {v : Value} {chs : List Slots} (h : ChainsNew w base v chs) : ∃ ao cap, v = .slice ao chs.length cap := by
  obtain ⟨vs, h1, _⟩ := h
  exact own_slice h1
theorem ChainsNew.at {w : World} {base cap : Nat} {ao : Option Addr} {chs : List Slots} (h : ChainsNew w base (.slice ao chs.length cap) chs) : ChainsAt w ao chs := by
  obtain ⟨vs, h1, h2⟩ := h
  rcases h1.2 with ⟨hv, hn⟩ | ⟨g, cap', cur, hv, _, hg, hcap, _⟩
  · exact .inl (List.length_eq_zero_iff.1 hn)
  · simp only [Value.slice.injEq] at hv
    obtain ⟨rfl, _, rfl⟩ := hv
    right
    have hl : vs.length = chs.length := by have := h1.1; omega
    refine ⟨g, 0, rfl, (Array.getElem?_eq_some_iff.1 hg).1, ?_⟩
    intro i hi
    refine ⟨vs.getD i undef, ?_, (h2 i hi).at⟩
    have := World.ownsRow.cellAt h1 i (by omega)
    rw [Nat.zero_add, this, List.getD_eq_getElem?_getD, List.getElem?_eq_getElem (by omega)]
    rfl
/-- 'append' onto a row of the call's own, at any element type. -/
theorem app_row {o : Oper} {a : Act} {w : World} {K : Act → World → Prop} {Q : Exit → Act → World → Prop} (T e size by_ : Nat) (z : Value) (hT : Tryd.prog.underlying T = some (.slice e)) (hinf : (Tryd.prog.info? e).map (fun i => (i.zero, i.size, i.bytes)) = some (some z, size, by_)) (hz : z.cells.size = size) (hs0 : 0 < size) (hby : by_ ≤ 24) (s x : Operand)
    (ho : o.op = .call { callee := .builtin .append, args := #[s, x], argTypes := #[T, T] }) (base : Nat) (v : Value) (n : Nat) (xs : List Value) (hs : a.eval s = v) (hown : w.ownsRow base e size v n xs)
    (ad : Addr) (m c : Nat) (news : List Value) (hx : a.eval x = .slice (some ad) m c) (hl : news.length = m * size) (hnews : ∀ j u, news[j]? = some u → w.cell? (ad.add j) = some u) (h1 : ∀ u ∈ news, u.oneCell' = true)
    (h63 : n + m ≤ 100000) (hbase : base ≤ w.heap.size) (h : AppK w base e size v n m xs news (fun v' w' => K (a.put o.dst v') w')) : o.wp Tryd.prog a w K Q := by
  obtain ⟨i0, hi0, hz0, hz1, hz2⟩ := info_parts hinf
  refine wp_append_own w s x T ho base e i0 z size by_ hT hi0 hz0 hz1 hz2 hz hs0 v n xs hs hown ad m c news hx hl hnews h1 (by unfold maxLen; omega) ?_ hbase ?_
  · have h7 := Nat.mul_le_mul h63 hby
    omega
  · intro v' w' h2 h3 _
    obtain ⟨ao, cap, rfl⟩ := own_slice h2
    exact h ao cap w' h2 h3 ((Below.refl _ _).grown h3 hbase (own_ge hown))
theorem list_row {ops : Array Oper} {rest : List Oper} {o : Oper} {a : Act} {w : World} {Q : Exit → Act → World → Prop} (T e size by_ : Nat) (z : Value) (hT : Tryd.prog.underlying T = some (.slice e)) (hinf : (Tryd.prog.info? e).map (fun i => (i.zero, i.size, i.bytes)) = some (some z, size, by_)) (hz : z.cells.size = size) (hs0 : 0 < size) (hby : by_ ≤ 24) (hgd : o.guard = none) (s x : Operand)
    (ho : o.op = .call { callee := .builtin .append, args := #[s, x], argTypes := #[T, T] }) (base : Nat) (v : Value) (n : Nat) (xs : List Value) (hs : a.eval s = v) (hown : w.ownsRow base e size v n xs)
    (ad : Addr) (m c : Nat) (news : List Value) (hx : a.eval x = .slice (some ad) m c) (hl : news.length = m * size) (hnews : ∀ j u, news[j]? = some u → w.cell? (ad.add j) = some u) (h1 : ∀ u ∈ news, u.oneCell' = true)
    (h63 : n + m ≤ 100000) (hbase : base ≤ w.heap.size) (h : AppK w base e size v n m xs news (fun v' w' => wpList Tryd.prog ops Q rest (a.put o.dst v') w')) : wpList Tryd.prog ops Q (o :: rest) a w :=
  wpList_plain hgd fun _ hK => app_row T e size by_ z hT hinf hz hs0 hby s x ho base v n xs hs hown ad m c news hx hl hnews h1 h63 hbase (fun ao cap w' h2 h3 h4 => hK _ _ (h ao cap w' h2 h3 h4))
theorem step_row {ops : Array Oper} {o : Oper} {a : Act} {w : World} {K : Act → World → Prop} {Q : Exit → Act → World → Prop} {E : Prop} (T e size by_ : Nat) (z : Value) (hT : Tryd.prog.underlying T = some (.slice e)) (hinf : (Tryd.prog.info? e).map (fun i => (i.zero, i.size, i.bytes)) = some (some z, size, by_)) (hz : z.cells.size = size) (hs0 : 0 < size) (hby : by_ ≤ 24) (hgd : o.guard = none) (s x : Operand)
    (ho : o.op = .call { callee := .builtin .append, args := #[s, x], argTypes := #[T, T] }) (base : Nat) (v : Value) (n : Nat) (xs : List Value) (hs : a.eval s = v) (hown : w.ownsRow base e size v n xs)
    (ad : Addr) (m c : Nat) (news : List Value) (hx : a.eval x = .slice (some ad) m c) (hl : news.length = m * size) (hnews : ∀ j u, news[j]? = some u → w.cell? (ad.add j) = some u) (h1 : ∀ u ∈ news, u.oneCell' = true)
    (h63 : n + m ≤ 100000) (hbase : base ≤ w.heap.size) (h : AppK w base e size v n m xs news (fun v' w' => K (a.put o.dst v') w')) : if Region.wanted o (yielded ops a.tmps) = true then Oper.wp Tryd.prog o a w K Q else E := by
  rw [if_pos (wanted_none hgd)]
  exact app_row T e size by_ z hT hinf hz hs0 hby s x ho base v n xs hs hown ad m c news hx hl hnews h1 h63 hbase h
theorem getD_snoc {α : Type} (l : List α) (x d : α) (i : Nat) : (l ++ [x]).getD i d = if i < l.length then l.getD i d else if i = l.length then x else d := by
  simp only [List.getD_eq_getElem?_getD, List.getElem?_append]
  split
  · rfl
  · rename_i h
    split
    · rename_i h2; subst h2; simp
    · rw [List.getElem?_eq_none (by simp; omega)]; rfl
theorem ChainNew.grown {w w' : World} {base base2 : Nat} {u v : Value} {ss : Slots} {e : TypeId} {size n : Nat} {xs : List Value} (h : ChainNew w base u ss) (hown : w.ownsRow base2 e size v n xs) (hne : (24 : TypeId) ≠ e) (hg : w.grownBy w' v.ownBlock) : ChainNew w' base u ss := by
  obtain ⟨so, scap, h3, h4⟩ := h
  exact ⟨so, scap, h3, h4.kept hg (own_ne h4 hown hne)⟩
/-- 'append(chains, c)'. -/
theorem list_chain {ops : Array Oper} {rest : List Oper} {o : Oper} {a : Act} {w : World} {Q : Exit → Act → World → Prop} (hgd : o.guard = none) (s x : Operand)
    (ho : o.op = .call { callee := .builtin .append, args := #[s, x], argTypes := #[67, 67] }) (base : Nat) (v u : Value) (n : Nat) (chs : List Slots) (ss : Slots) (hn : chs.length = n) (hs : a.eval s = v) (hown : ChainsNew w base v chs) (hu : ChainNew w base u ss)
    (hx : a.eval x = .slice (some ⟨w.heap.size, 0, none⟩) 1 1) (h63 : n + 1 ≤ 100000) (hbase : base ≤ w.heap.size)
    (h : ∀ ao cap w', ChainsNew w' base (.slice ao (n + 1) cap) (chs ++ [ss]) → (w.alloc (.cells #[u] 39)).grownBy w' v.ownBlock → Below base w w' → wpList Tryd.prog ops Q rest (a.put o.dst (.slice ao (n + 1) cap)) w') : wpList Tryd.prog ops Q (o :: rest) a (w.alloc (.cells #[u] 39)) := by
  obtain ⟨vs, h1, h2⟩ := hown
  subst hn
  have hl : vs.length = chs.length := by have := h1.1; omega
  have hown' := World.ownsRow.alloc h1 (.cells #[u] 39)
  refine list_row 67 39 1 24 (.slice none 0 0) und67 info39 rfl (by decide) (Nat.le_refl _) hgd s x ho base v chs.length vs hs hown' ⟨w.heap.size, 0, none⟩ 1 1 [u] hx rfl (World.news_of_block (cs := #[u]) (t := 39) (fr := (0, 0)) (heap_alloc_new w _)) (by simp; exact hu.one) h63 (by simp; omega) ?_
  intro ao cap w' h3 h4 h5
  refine h ao cap w' ⟨vs ++ [u], by rw [List.length_append]; exact h3, fun i hi => ?_⟩ h4 (((Below.refl _ _).alloc hbase _).trans h5)
  have hal : Below w.heap.size w (w.alloc (.cells #[u] 39)) := (Below.refl _ _).alloc (Nat.le_refl _) _
  rw [List.length_append, List.length_singleton] at hi
  rw [getD_snoc, getD_snoc, hl]
  by_cases h6 : i < chs.length
  · rw [if_pos h6, if_pos h6]
    exact ((h2 i h6).below hal).grown hown' (by decide) h4
  · have h7 : i = chs.length := by omega
    rw [if_neg h6, if_neg h6, if_pos h7, if_pos h7]
    exact (hu.below hal).grown hown' (by decide) h4
theorem WorkAt.grown' {w w' : World} {base bw g base2 n size : Nat} {e : TypeId} {l : Segs} {B : List UInt8} {v : Value} {xs : List Value} (h : WorkAt w base bw g l B) (hown : w.ownsRow base2 e size v n xs) (hne : (47 : TypeId) ≠ e) (hg : w.grownBy w' v.ownBlock) (h1 : bw < base2) (h2 : g < base2) : WorkAt w' base bw g l B := by
  obtain ⟨ao, cap, s1, s2, s3⟩ := h.seg
  obtain ⟨cap2, h4, h5⟩ := h.byt
  have nb : ∀ k, k < base2 → some k ≠ v.ownBlock := fun k hk e => by have := own_ge hown k e.symm; omega
  have e := hg.block bw h.lt (nb bw h1)
  exact ⟨⟨ao, cap, (World.cell?_of_block (a := ⟨bw, 0, none⟩) e).trans s1, s2.kept hg (own_ne s2 hown hne), fun k off hk => ⟨(s3 k off hk).1, (s3 k off hk).2.1, Nat.lt_of_lt_of_le (s3 k off hk).2.2 hg.size⟩⟩, (World.frozen?_of_block (a := ⟨bw, 0, none⟩) e).trans h.fz, ⟨cap2, h4, (World.cell?_of_block (a := ⟨bw, 1, none⟩) e).trans h5⟩, h.row.same hg.size (hg.block g h.row.lt (nb g h2)), h.ne, h.lo, Nat.lt_of_lt_of_le h.lt hg.size⟩
end Go.Proofs.YtfnokklcbmipgaaDoor
