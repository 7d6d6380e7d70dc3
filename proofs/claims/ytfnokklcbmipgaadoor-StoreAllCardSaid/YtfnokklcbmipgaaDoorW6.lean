/- Rows of texts; what is kept, in memory; rows of texts, and of bytes, that came in. -/
import Derived.Test.YtfnokklcbmipgaaDoorW2
import Derived.Test.YtfnokklcbmipgaaDoorV7
import Derived.Test.YtfnokklcbmipgaaDoorR
import Derived.SliceStrings
namespace Go.Proofs.YtfnokklcbmipgaaDoor
open Go.RowKit Plain

theorem keep_old {w0 w w' : World} {c : Nat} (h : Below w0.heap.size w0 w) (o : Only c w w') (hc : w0.heap.size ≤ c) : Below w0.heap.size w0 w' := o.below h hc
theorem row_own_ne {w : World} {base b n size : Nat} {T e : TypeId} {u v v' : Value} {xs : List Value} (h : Row2 w b T u v) (k : w.ownsRow base e size v' n xs) (hne : T ≠ e) : some b ≠ v'.ownBlock := by
  rcases k.2 with ⟨rfl, _⟩ | ⟨g, c, r, rfl, _, hg, _⟩
  · intro x; cases x
  · intro x
    have x : b = g := by simpa [Value.ownBlock] using x
    subst x
    unfold Row2 at h
    rw [h] at hg
    simp only [Option.some.injEq, Obj.cells.injEq] at hg
    exact hne hg.2.1
theorem Row2.grown {w w' : World} {base b n size : Nat} {T e : TypeId} {u v v' : Value} {xs : List Value} (h : Row2 w b T u v) (k : w.ownsRow base e size v' n xs) (hne : T ≠ e) (hg : w.grownBy w' v'.ownBlock) : Row2 w' b T u v := (hg.block b h.lt (row_own_ne h k hne)).trans h
def TextsAt (w : World) (ao : Option Addr) (l : List (List UInt8)) : Prop := l = [] ∨ ∃ b off, ao = some ⟨b, off, none⟩ ∧ b < w.heap.size ∧ ∀ i, i < l.length → w.cell? ⟨b, off + i, none⟩ = some (.string (strB (l.getD i [])))
def BytsAt (w : World) (ao : Option Addr) (l : List Int) : Prop := (∀ x ∈ l, 0 ≤ x ∧ x < 256) ∧ (l = [] ∨ ∃ b off, ao = some ⟨b, off, none⟩ ∧ b < w.heap.size ∧ ∀ i, i < l.length → w.cell? ⟨b, off + i, none⟩ = some (.int .u8 (l.getD i 0)))
theorem TextsAt.below {w w' : World} {ao : Option Addr} {l : List (List UInt8)} (h : TextsAt w ao l) (hb : Below w.heap.size w w') : TextsAt w' ao l := by
  rcases h with h | ⟨b, off, h1, h2, h3⟩
  · exact .inl h
  · exact .inr ⟨b, off, h1, Nat.lt_of_lt_of_le h2 hb.size, fun i hi => (hb.cell (p := ⟨b, off + i, none⟩) h2).trans (h3 i hi)⟩
theorem TextsAt.cell {w : World} {ao : Option Addr} {l : List (List UInt8)} (h : TextsAt w ao l) (i : Nat) (hi : i < l.length) : ∃ b off, ao = some ⟨b, off, none⟩ ∧ b < w.heap.size ∧ w.cell? ⟨b, off + i, none⟩ = some (.string (strB (l.getD i []))) := by
  rcases h with h | ⟨b, off, h1, h2, h3⟩
  · rw [h] at hi; simp at hi
  · exact ⟨b, off, h1, h2, h3 i hi⟩
theorem BytsAt.below {w w' : World} {ao : Option Addr} {l : List Int} (h : BytsAt w ao l) (hb : Below w.heap.size w w') : BytsAt w' ao l := by
  refine ⟨h.1, ?_⟩
  rcases h.2 with h | ⟨b, off, h1, h2, h3⟩
  · exact .inl h
  · exact .inr ⟨b, off, h1, Nat.lt_of_lt_of_le h2 hb.size, fun i hi => (hb.cell (p := ⟨b, off + i, none⟩) h2).trans (h3 i hi)⟩
theorem BytsAt.cell {w : World} {ao : Option Addr} {l : List Int} (h : BytsAt w ao l) (i : Nat) (hi : i < l.length) : ∃ b off, ao = some ⟨b, off, none⟩ ∧ b < w.heap.size ∧ w.cell? ⟨b, off + i, none⟩ = some (.int .u8 (l.getD i 0)) ∧ 0 ≤ l.getD i 0 ∧ l.getD i 0 < 256 := by
  have hm : l.getD i 0 ∈ l := by
    rw [List.getD_eq_getElem?_getD, List.getElem?_eq_getElem hi]
    exact List.getElem_mem hi
  rcases h.2 with h' | ⟨b, off, h1, h2, h3⟩
  · rw [h'] at hi; simp at hi
  · exact ⟨b, off, h1, h2, h3 i hi, (h.1 _ hm).1, (h.1 _ hm).2⟩
def txC (l : List (List UInt8)) : List Value := l.map fun d => .string (strB d)
theorem txC_len (l : List (List UInt8)) : (txC l).length = l.length := List.length_map _
def TextsNew (w : World) (base : Nat) (v : Value) (ds : List (List UInt8)) : Prop := w.ownsRow base 9 1 v ds.length (txC ds)
theorem und65 : Tryd.prog.underlying 65 = some (.slice 9) := Tryd.underlying65
theorem info9 : (Tryd.prog.info? 9).map (fun i => (i.zero, i.size, i.bytes)) = some (some (.string ⟨#[]⟩), 1, 16) := by kernel_rfl
theorem TextsNew.nil (w : World) (base : Nat) : TextsNew w base (.slice none 0 0) [] := World.ownsRow_nil _ _ _ _
theorem TextsNew.below {w w' : World} {base : Nat} {v : Value} {ds : List (List UInt8)} (h : TextsNew w base v ds) (hb : Below w.heap.size w w') : TextsNew w' base v ds := own_below h hb
theorem TextsNew.only {w w' : World} {base c : Nat} {v : Value} {ds : List (List UInt8)} (h : TextsNew w base v ds) (o : Only c w w') (hc : c < base) : TextsNew w' base v ds := own_same h (fun k hk _ => o.heap k (by omega))
theorem TextsNew.slice {w : World} {base : Nat} {v : Value} {ds : List (List UInt8)} (h : TextsNew w base v ds) : ∃ ao cap, v = .slice ao ds.length cap := own_slice h
theorem TextsNew.at {w : World} {base cap : Nat} {ao : Option Addr} {ds : List (List UInt8)} (h : TextsNew w base (.slice ao ds.length cap) ds) : TextsAt w ao ds := by
  rcases h.2 with ⟨hv, hn⟩ | ⟨g, cap', cur, hv, _, hg, hcap, _⟩
  · exact .inl (List.length_eq_zero_iff.1 hn)
  · simp only [Value.slice.injEq] at hv
    obtain ⟨rfl, _, rfl⟩ := hv
    right
    refine ⟨g, 0, rfl, (Array.getElem?_eq_some_iff.1 hg).1, fun i hi => ?_⟩
    have := World.ownsRow.cellAt h i (by show i < ds.length * 1; omega)
    rw [Nat.zero_add, this, List.getD_eq_getElem?_getD, List.getElem?_eq_getElem hi]
    unfold txC
    rw [List.getElem?_map, List.getElem?_eq_getElem hi]
    rfl
theorem ChainsNew.only {w w' : World} {base c : Nat} {v : Value} {chs : List Slots} (h : ChainsNew w base v chs) (o : Only c w w') (hc : c < base) : ChainsNew w' base v chs := by
  obtain ⟨vs, h3, h4⟩ := h
  refine ⟨vs, own_same h3 (fun k hk _ => o.heap k (by omega)), fun i hi => ?_⟩
  obtain ⟨so, scap, e, h5⟩ := h4 i hi
  exact ⟨so, scap, e, h5.only o hc⟩
theorem ChainsNew.grown {w w' : World} {base base2 n size : Nat} {e : TypeId} {u v : Value} {xs : List Value} {chs : List Slots} (h : ChainsNew w base u chs) (hown : w.ownsRow base2 e size v n xs) (h39 : (39 : TypeId) ≠ e) (h24 : (24 : TypeId) ≠ e) (hg : w.grownBy w' v.ownBlock) : ChainsNew w' base u chs := by
  obtain ⟨vs, h3, h4⟩ := h
  exact ⟨vs, h3.kept hg (own_ne h3 hown h39), fun i hi => (h4 i hi).grown hown h24 hg⟩
/-- 'append(data, d)'. -/
theorem list_text {ops : Array Oper} {rest : List Oper} {o : Oper} {a : Act} {w : World} {Q : Exit → Act → World → Prop} (hgd : o.guard = none) (s x : Operand)
    (ho : o.op = .call { callee := .builtin .append, args := #[s, x], argTypes := #[65, 65] }) (base : Nat) (v : Value) (n : Nat) (ds : List (List UInt8)) (d : List UInt8) (hn : ds.length = n) (hs : a.eval s = v) (hown : TextsNew w base v ds)
    (hx : a.eval x = .slice (some ⟨w.heap.size, 0, none⟩) 1 1) (h63 : n + 1 ≤ 100000) (hbase : base ≤ w.heap.size)
    (h : ∀ ao cap w', TextsNew w' base (.slice ao (n + 1) cap) (ds ++ [d]) → (w.alloc (.cells #[.string (strB d)] 9)).grownBy w' v.ownBlock → Below base w w' → wpList Tryd.prog ops Q rest (a.put o.dst (.slice ao (n + 1) cap)) w') : wpList Tryd.prog ops Q (o :: rest) a (w.alloc (.cells #[.string (strB d)] 9)) := by
  subst hn
  have hown' := World.ownsRow.alloc hown (.cells #[.string (strB d)] 9)
  refine list_row 65 9 1 16 (.string ⟨#[]⟩) und65 info9 rfl (by decide) (by decide) hgd s x ho base v ds.length (txC ds) hs hown' ⟨w.heap.size, 0, none⟩ 1 1 [.string (strB d)] hx rfl (World.news_of_block (cs := #[.string (strB d)]) (t := 9) (fr := (0, 0)) (heap_alloc_new w _)) (by simp [Value.oneCell']) h63 (by simp; omega) ?_
  intro ao cap w' h3 h4 h5
  refine h ao cap w' ?_ h4 (((Below.refl _ _).alloc hbase _).trans h5)
  have e : txC ds ++ [Value.string (strB d)] = txC (ds ++ [d]) := by unfold txC; rw [List.map_append]; rfl
  unfold TextsNew
  rw [← e, List.length_append]
  exact h3
/-- A store in a box, and what is kept of it. -/
structure BoxAt (w0 : World) (N b : Nat) (v8 v9 : Value) (l : Segs) (B : List UInt8) (chs : List Slots) (ds : List (List UInt8)) (ao : Option Addr) (cap : Nat) (w : World) : Prop where
  box : Row2 w b 51 (.slice ao 20 cap) (.string (strB B))
  seg : SegNew w 0 ao cap l
  nb : ∀ k off, ao = some ⟨k, off, none⟩ → k ≠ b
  chs : ChainsNew w N v8 chs
  dat : TextsNew w N v9 ds
  bel : Below w0.heap.size w0 w
  tab : TabAt w
  low : N ≤ w.heap.size
  ord : w0.heap.size ≤ b ∧ b < N ∧ 0 < w0.heap.size
theorem BoxAt.below {w0 w w' : World} {N b cap : Nat} {v8 v9 : Value} {l : Segs} {B : List UInt8} {chs : List Slots} {ds : List (List UInt8)} {ao : Option Addr} (h : BoxAt w0 N b v8 v9 l B chs ds ao cap w) (hb : Below w.heap.size w w') : BoxAt w0 N b v8 v9 l B chs ds ao cap w' :=
  ⟨h.box.below hb h.box.lt, h.seg.below hb, h.nb, h.chs.below hb, h.dat.below hb, h.bel.link hb, h.tab.grow hb, Nat.le_trans h.low hb.size, h.ord⟩
/-- Another store in the box. -/
theorem BoxAt.put {w0 w w' : World} {N b cap cap2 : Nat} {v8 v9 : Value} {l m : Segs} {B C : List UInt8} {chs : List Slots} {ds : List (List UInt8)} {ao ao2 : Option Addr} (h : BoxAt w0 N b v8 v9 l B chs ds ao cap w) (o : Only b w w') (hr : Row2 w' b 51 (.slice ao2 20 cap2) (.string (strB C))) (hs : SegNew w N ao2 cap2 m) : BoxAt w0 N b v8 v9 m C chs ds ao2 cap2 w' :=
  ⟨hr, (hs.only o h.ord.2.1).mono (Nat.zero_le _), fun k off e => by have h1 := (hs.blk k off e).1; have h2 := h.ord.2.1; omega, h.chs.only o h.ord.2.1, h.dat.only o h.ord.2.1, keep_old h.bel o h.ord.1, h.tab.only o (by have := h.ord; omega), by rw [o.size]; exact h.low, h.ord⟩
theorem BoxAt.chain {w0 w w' : World} {N b cap : Nat} {v8 v8' v9 u : Value} {l : Segs} {B : List UInt8} {chs chs' : List Slots} {ds : List (List UInt8)} {ao : Option Addr} (h : BoxAt w0 N b v8 v9 l B chs ds ao cap w) (hc : ChainsNew w' N v8' chs') (hg : (w.alloc (.cells #[u] 39)).grownBy w' v8.ownBlock) (hb : Below N w w') : BoxAt w0 N b v8' v9 l B chs' ds ao cap w' := by
  obtain ⟨vs, own, _⟩ := h.chs
  have own' := World.ownsRow.alloc own (.cells #[u] 39)
  have al := (Below.refl w.heap.size w).alloc (Nat.le_refl _) (.cells #[u] 39)
  have hord := h.ord
  exact ⟨Row2.grown (h.box.below al h.box.lt) own' (by decide) hg, (h.seg.below al).kept hg (own_ne (h.seg.below al) own' (by decide)), h.nb, hc, World.ownsRow.kept (h.dat.below al) hg (own_ne (h.dat.below al) own' (by decide)), h.bel.trans (hb.mono (by omega)), h.tab.below hb (by omega), Nat.le_trans h.low hb.size, h.ord⟩
theorem BoxAt.text {w0 w w' : World} {N b cap : Nat} {v8 v9 v9' u : Value} {l : Segs} {B : List UInt8} {chs : List Slots} {ds ds' : List (List UInt8)} {ao : Option Addr} (h : BoxAt w0 N b v8 v9 l B chs ds ao cap w) (hc : TextsNew w' N v9' ds') (hg : (w.alloc (.cells #[u] 9)).grownBy w' v9.ownBlock) (hb : Below N w w') : BoxAt w0 N b v8 v9' l B chs ds' ao cap w' := by
  have own' := World.ownsRow.alloc h.dat (.cells #[u] 9)
  have al := (Below.refl w.heap.size w).alloc (Nat.le_refl _) (.cells #[u] 9)
  have hord := h.ord
  exact ⟨Row2.grown (h.box.below al h.box.lt) own' (by decide) hg, (h.seg.below al).kept hg (own_ne (h.seg.below al) own' (by decide)), h.nb, (h.chs.below al).grown own' (by decide) (by decide) hg, hc, h.bel.trans (hb.mono (by omega)), h.tab.below hb (by omega), Nat.le_trans h.low hb.size, h.ord⟩
section
open Go.ChangeShapes Go.WideShapes Go.Deep
theorem spot_none {w : World} {a : Addr} {v : Value} (h : w.cell? (a.add 0) = some v) : ∃ b off, a = ⟨b, off, none⟩ := by
  obtain ⟨b, off, spot⟩ := a
  have hspot : spot = none := by simpa [Addr.add] using World.cell?_spot h
  subst hspot
  exact ⟨b, off, rfl⟩
theorem add_at (b off i : Nat) : (⟨b, off, none⟩ : Addr).add i = ⟨b, off + i, none⟩ := by unfold Addr.add; split <;> simp_all
theorem getD_of (ss : List ByteArray) (len i : Nat) (hi : i < len) (hl : len ≤ ss.length) : ss.getD i ByteArray.empty = strB (((ss.take len).map fun s => s.data.toList).getD i []) := by
  rw [List.getD_eq_getElem?_getD, List.getD_eq_getElem?_getD, List.getElem?_map, List.getElem?_take_of_lt hi, List.getElem?_eq_getElem (by omega)]
  exact (strB_of _).symm
theorem open_texts {H : Type} {enc : TypeId × Value → H} {w : World} {base : Nat} {spare : Nat → Bool} {held : Bool} {fuel : Nat} {cs : List Value} {x : DataW H × List MemPlace}
    (h : DataW.trod enc Tryd.prog w base spare held fuel 65 cs = some x) : ∃ (l : List (List UInt8)) (ao : Option Addr) (cap : Nat), cs = [.slice ao l.length cap] ∧ TextsAt w ao l := by
  rcases open_strings Tryd.underlying65 Tryd.underlying9 (by kernel_rfl) h with ⟨rfl, _⟩ | ⟨a, len, cap, ss, rfl, _, hl, _, hss, _, hc, _⟩
  · exact ⟨[], none, 0, rfl, .inl rfl⟩
  · have hlm : len ≤ ss.length := by rw [hss]; split <;> omega
    have hlen : ((ss.take len).map fun s => s.data.toList).length = len := by rw [List.length_map, List.length_take]; omega
    refine ⟨(ss.take len).map fun s => s.data.toList, some a, cap, by rw [hlen], ?_⟩
    rcases Nat.eq_zero_or_pos len with h0 | hpos
    · left; rw [h0]; rfl
    · right
      obtain ⟨b, off, rfl⟩ := spot_none (hc 0 (by omega))
      refine ⟨b, off, rfl, ?_, fun i hi => ?_⟩
      · have := hc 0 (by omega)
        rw [add_at] at this
        exact World.block_lt_of_cell? _ _ this
      · rw [hlen] at hi
        have := hc i (by omega)
        rw [add_at, getD_of ss len i hi hlm] at this
        exact this
theorem open_byts {H : Type} {enc : TypeId × Value → H} {w : World} {base : Nat} {spare : Nat → Bool} {held : Bool} {fuel : Nat} {cs : List Value} {x : DataW H × List MemPlace}
    (h : DataW.trod enc Tryd.prog w base spare held fuel 66 cs = some x) : ∃ (l : List Int) (ao : Option Addr) (cap : Nat), cs = [.slice ao l.length cap] ∧ BytsAt w ao l := by
  rcases open_ints Tryd.underlying66 Tryd.underlying5 (by kernel_rfl) h with ⟨rfl, _⟩ | ⟨a, len, cap, zs, rfl, _, hl, _, hzs, _, hc, hw⟩
  · exact ⟨[], none, 0, rfl, fun x hx => by simp at hx, .inl rfl⟩
  · have hlm : len ≤ zs.length := by rw [hzs]; split <;> omega
    have hlen : (zs.take len).length = len := by rw [List.length_take]; omega
    refine ⟨zs.take len, some a, cap, by rw [hlen], ?_, ?_⟩
    · intro x hx
      have h2 := hw x (List.mem_of_mem_take hx)
      simp [Lit.wf, IntKind.min, IntKind.max, IntKind.signed, IntKind.bits] at h2
      omega
    rcases Nat.eq_zero_or_pos len with h0 | hpos
    · left; rw [h0]; rfl
    · right
      obtain ⟨b, off, rfl⟩ := spot_none (hc 0 (by omega))
      refine ⟨b, off, rfl, ?_, fun i hi => ?_⟩
      · have := hc 0 (by omega)
        rw [add_at] at this
        exact World.block_lt_of_cell? _ _ this
      · rw [hlen] at hi
        have := hc i (by omega)
        rw [add_at] at this
        rw [this, List.getD_eq_getElem?_getD, List.getD_eq_getElem?_getD, List.getElem?_take_of_lt hi]
end
end Go.Proofs.YtfnokklcbmipgaaDoor
