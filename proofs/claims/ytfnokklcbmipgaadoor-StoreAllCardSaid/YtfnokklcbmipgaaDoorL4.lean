/- ArenaAll: rows of the call's own. -/
import Derived.Test.YtfnokklcbmipgaaDoorM4
namespace Go.Proofs.YtfnokklcbmipgaaDoor
open Go.RowKit Plain

def slotCells (ps : Held) : List Value := ps.flatMap fun p => [.int .i64 p.1.1, .int .i64 p.1.2]
def clsCells (ps : Held) : List Value := ps.map fun p => .int .i64 p.2
theorem slotCells_len (l : Held) : (slotCells l).length = l.length * 2 := by
  induction l with
  | nil => rfl
  | cons g l ih =>
    show (Value.int .i64 g.1.1 :: Value.int .i64 g.1.2 :: slotCells l).length = _
    simp only [List.length_cons]
    omega
theorem slotCells_at : ∀ (l : Held) (i : Nat), i < l.length → (slotCells l)[i * 2]? = some (.int .i64 (l.getD i ((0, 0), 0)).1.1) ∧ (slotCells l)[i * 2 + 1]? = some (.int .i64 (l.getD i ((0, 0), 0)).1.2)
  | g :: l, 0, _ => ⟨rfl, rfl⟩
  | g :: l, i + 1, h => by
    have ih := slotCells_at l i (by simpa using h)
    rw [show slotCells (g :: l) = Value.int .i64 g.1.1 :: Value.int .i64 g.1.2 :: slotCells l from rfl, show (i + 1) * 2 = i * 2 + 2 by omega]
    simpa using ih
theorem slotCells_take : ∀ (l : Held) (k : Nat), slotCells (l.take k) = (slotCells l).take (k * 2)
  | [], k => by simp [slotCells]
  | g :: l, 0 => rfl
  | g :: l, k + 1 => by
    have ih := slotCells_take l k
    rw [List.take_succ_cons, show (k + 1) * 2 = k * 2 + 1 + 1 by omega]
    show Value.int .i64 g.1.1 :: Value.int .i64 g.1.2 :: slotCells (l.take k) = _
    rw [ih]; rfl
theorem slotCells_drop : ∀ (l : Held) (k : Nat), slotCells (l.drop k) = (slotCells l).drop (k * 2)
  | [], k => by simp [slotCells]
  | g :: l, 0 => rfl
  | g :: l, k + 1 => by
    have ih := slotCells_drop l k
    rw [List.drop_succ_cons, show (k + 1) * 2 = k * 2 + 1 + 1 by omega, ih]; rfl
theorem slotCells_append (a b : Held) : slotCells (a ++ b) = slotCells a ++ slotCells b := by simp [slotCells]
theorem own_ne {w : World} {b1 b2 : Nat} {e1 e2 : TypeId} {s1 s2 : Nat} {v1 v2 : Value} {n1 n2 : Nat} {x1 x2 : List Value} (h1 : w.ownsRow b1 e1 s1 v1 n1 x1) (h2 : w.ownsRow b2 e2 s2 v2 n2 x2) (hne : e1 ≠ e2) : v1.ownBlock = none ∨ v1.ownBlock ≠ v2.ownBlock := by
  rcases h1.2 with ⟨rfl, _⟩ | ⟨g1, c1, r1, rfl, _, hg1, _⟩
  · exact .inl rfl
  · right
    rcases h2.2 with ⟨rfl, _⟩ | ⟨g2, c2, r2, rfl, _, hg2, _⟩
    · intro h; cases h
    · intro h
      have h : g1 = g2 := by simpa [Value.ownBlock] using h
      subst h
      rw [hg1] at hg2
      simp only [Option.some.injEq, Obj.cells.injEq] at hg2
      exact hne hg2.2.1
theorem own_slice {w : World} {base : Nat} {e : TypeId} {size : Nat} {v : Value} {n : Nat} {xs : List Value} (h : w.ownsRow base e size v n xs) : ∃ ao cap, v = .slice ao n cap := by
  rcases h.2 with ⟨rfl, rfl⟩ | ⟨g, cap, cur, rfl, _⟩
  · exact ⟨none, 0, rfl⟩
  · exact ⟨_, cap, rfl⟩
theorem info24 : (Tryd.prog.info? 24).map (fun i => (i.zero, i.size, i.bytes)) = some (some (.agg #[.int .i64 0, .int .i64 0]), 2, 16) := by kernel_rfl
theorem info3 : (Tryd.prog.info? 3).map (fun i => (i.zero, i.size, i.bytes)) = some (some (.int .i64 0), 1, 8) := by kernel_rfl
/-- append of slots: what is known behind it. -/
def AppK (w : World) (base : Nat) (e : TypeId) (size : Nat) (v : Value) (n m : Nat) (xs news : List Value) (F : Value → World → Prop) : Prop :=
  ∀ ao cap w', w'.ownsRow base e size (.slice ao (n + m) cap) (n + m) (xs ++ news) → w.grownBy w' v.ownBlock → Below base w w' → F (.slice ao (n + m) cap) w'
theorem app_slots {o : Oper} {a : Act} {w : World} {K : Act → World → Prop} {Q : Exit → Act → World → Prop} (s x : Operand)
    (ho : o.op = .call { callee := .builtin .append, args := #[s, x], argTypes := #[39, 39] }) (base : Nat) (v : Value) (n : Nat) (xs : List Value) (hs : a.eval s = v) (hown : w.ownsRow base 24 2 v n xs)
    (ad : Addr) (m c : Nat) (news : List Value) (hx : a.eval x = .slice (some ad) m c) (hl : news.length = m * 2) (hnews : ∀ j u, news[j]? = some u → w.cell? (ad.add j) = some u) (h1 : ∀ u ∈ news, u.oneCell' = true)
    (h63 : n + m ≤ 100000) (hbase : base ≤ w.heap.size) (h : AppK w base 24 2 v n m xs news (fun v' w' => K (a.put o.dst v') w')) : o.wp Tryd.prog a w K Q := by
  obtain ⟨i0, hi0, hz0, hz1, hz2⟩ := info_parts info24
  refine wp_append_own w s x 39 ho base 24 i0 (.agg #[.int .i64 0, .int .i64 0]) 2 16 Tryd.underlying39 hi0 hz0 hz1 hz2 rfl (by decide) v n xs hs hown ad m c news hx hl hnews h1 (by unfold maxLen; omega) (by omega) hbase ?_
  intro v' w' h2 h3 _
  obtain ⟨ao, cap, rfl⟩ := own_slice h2
  exact h ao cap w' h2 h3 ((Below.refl _ _).grown h3 hbase (own_ge hown))
theorem app_cls {o : Oper} {a : Act} {w : World} {K : Act → World → Prop} {Q : Exit → Act → World → Prop} (s x : Operand)
    (ho : o.op = .call { callee := .builtin .append, args := #[s, x], argTypes := #[40, 40] }) (base : Nat) (v : Value) (n : Nat) (xs : List Value) (hs : a.eval s = v) (hown : w.ownsRow base 3 1 v n xs)
    (ad : Addr) (m c : Nat) (news : List Value) (hx : a.eval x = .slice (some ad) m c) (hl : news.length = m * 1) (hnews : ∀ j u, news[j]? = some u → w.cell? (ad.add j) = some u) (h1 : ∀ u ∈ news, u.oneCell' = true)
    (h63 : n + m ≤ 100000) (hbase : base ≤ w.heap.size) (h : AppK w base 3 1 v n m xs news (fun v' w' => K (a.put o.dst v') w')) : o.wp Tryd.prog a w K Q := by
  obtain ⟨i0, hi0, hz0, hz1, hz2⟩ := info_parts info3
  refine wp_append_own w s x 40 ho base 3 i0 (.int .i64 0) 1 8 Tryd.underlying40 hi0 hz0 hz1 hz2 rfl (by decide) v n xs hs hown ad m c news hx hl hnews h1 (by unfold maxLen; omega) (by omega) hbase ?_
  intro v' w' h2 h3 _
  obtain ⟨ao, cap, rfl⟩ := own_slice h2
  exact h ao cap w' h2 h3 ((Below.refl _ _).grown h3 hbase (own_ge hown))
theorem wanted_none {ops : Array Oper} {o : Oper} {a : Act} (hgd : o.guard = none) : Region.wanted o (yielded ops a.tmps) = true := by simp [Region.wanted, hgd]
theorem step_slots {ops : Array Oper} {o : Oper} {a : Act} {w : World} {K : Act → World → Prop} {Q : Exit → Act → World → Prop} {E : Prop} (hgd : o.guard = none) (s x : Operand)
    (ho : o.op = .call { callee := .builtin .append, args := #[s, x], argTypes := #[39, 39] }) (base : Nat) (v : Value) (n : Nat) (xs : List Value) (hs : a.eval s = v) (hown : w.ownsRow base 24 2 v n xs)
    (ad : Addr) (m c : Nat) (news : List Value) (hx : a.eval x = .slice (some ad) m c) (hl : news.length = m * 2) (hnews : ∀ j u, news[j]? = some u → w.cell? (ad.add j) = some u) (h1 : ∀ u ∈ news, u.oneCell' = true)
    (h63 : n + m ≤ 100000) (hbase : base ≤ w.heap.size) (h : AppK w base 24 2 v n m xs news (fun v' w' => K (a.put o.dst v') w')) : if Region.wanted o (yielded ops a.tmps) = true then Oper.wp Tryd.prog o a w K Q else E := by
  rw [if_pos (wanted_none hgd)]
  exact app_slots s x ho base v n xs hs hown ad m c news hx hl hnews h1 h63 hbase h
theorem step_cls {ops : Array Oper} {o : Oper} {a : Act} {w : World} {K : Act → World → Prop} {Q : Exit → Act → World → Prop} {E : Prop} (hgd : o.guard = none) (s x : Operand)
    (ho : o.op = .call { callee := .builtin .append, args := #[s, x], argTypes := #[40, 40] }) (base : Nat) (v : Value) (n : Nat) (xs : List Value) (hs : a.eval s = v) (hown : w.ownsRow base 3 1 v n xs)
    (ad : Addr) (m c : Nat) (news : List Value) (hx : a.eval x = .slice (some ad) m c) (hl : news.length = m * 1) (hnews : ∀ j u, news[j]? = some u → w.cell? (ad.add j) = some u) (h1 : ∀ u ∈ news, u.oneCell' = true)
    (h63 : n + m ≤ 100000) (hbase : base ≤ w.heap.size) (h : AppK w base 3 1 v n m xs news (fun v' w' => K (a.put o.dst v') w')) : if Region.wanted o (yielded ops a.tmps) = true then Oper.wp Tryd.prog o a w K Q else E := by
  rw [if_pos (wanted_none hgd)]
  exact app_cls s x ho base v n xs hs hown ad m c news hx hl hnews h1 h63 hbase h
theorem list_slots {ops : Array Oper} {rest : List Oper} {o : Oper} {a : Act} {w : World} {Q : Exit → Act → World → Prop} (hgd : o.guard = none) (s x : Operand)
    (ho : o.op = .call { callee := .builtin .append, args := #[s, x], argTypes := #[39, 39] }) (base : Nat) (v : Value) (n : Nat) (xs : List Value) (hs : a.eval s = v) (hown : w.ownsRow base 24 2 v n xs)
    (ad : Addr) (m c : Nat) (news : List Value) (hx : a.eval x = .slice (some ad) m c) (hl : news.length = m * 2) (hnews : ∀ j u, news[j]? = some u → w.cell? (ad.add j) = some u) (h1 : ∀ u ∈ news, u.oneCell' = true)
    (h63 : n + m ≤ 100000) (hbase : base ≤ w.heap.size) (h : AppK w base 24 2 v n m xs news (fun v' w' => wpList Tryd.prog ops Q rest (a.put o.dst v') w')) : wpList Tryd.prog ops Q (o :: rest) a w :=
  wpList_plain hgd fun _ hK => app_slots s x ho base v n xs hs hown ad m c news hx hl hnews h1 h63 hbase (fun ao cap w' h2 h3 h4 => hK _ _ (h ao cap w' h2 h3 h4))
theorem list_cls {ops : Array Oper} {rest : List Oper} {o : Oper} {a : Act} {w : World} {Q : Exit → Act → World → Prop} (hgd : o.guard = none) (s x : Operand)
    (ho : o.op = .call { callee := .builtin .append, args := #[s, x], argTypes := #[40, 40] }) (base : Nat) (v : Value) (n : Nat) (xs : List Value) (hs : a.eval s = v) (hown : w.ownsRow base 3 1 v n xs)
    (ad : Addr) (m c : Nat) (news : List Value) (hx : a.eval x = .slice (some ad) m c) (hl : news.length = m * 1) (hnews : ∀ j u, news[j]? = some u → w.cell? (ad.add j) = some u) (h1 : ∀ u ∈ news, u.oneCell' = true)
    (h63 : n + m ≤ 100000) (hbase : base ≤ w.heap.size) (h : AppK w base 3 1 v n m xs news (fun v' w' => wpList Tryd.prog ops Q rest (a.put o.dst v') w')) : wpList Tryd.prog ops Q (o :: rest) a w :=
  wpList_plain hgd fun _ hK => app_cls s x ho base v n xs hs hown ad m c news hx hl hnews h1 h63 hbase (fun ao cap w' h2 h3 h4 => hK _ _ (h ao cap w' h2 h3 h4))
theorem one_slots (ps : Held) : ∀ u ∈ slotCells ps, u.oneCell' = true := by
  intro u hu
  obtain ⟨g, _, hg⟩ := List.mem_flatMap.1 hu
  simp only [List.mem_cons, List.not_mem_nil, or_false] at hg
  rcases hg with rfl | rfl <;> rfl
theorem one_cls (ps : Held) : ∀ u ∈ clsCells ps, u.oneCell' = true := by
  intro u hu
  obtain ⟨g, _, rfl⟩ := List.mem_map.1 hu
  rfl
theorem add_off (g o j : Nat) : (⟨g, o, none⟩ : Addr).add j = ⟨g, o + j, none⟩ := by unfold Addr.add; split <;> simp_all
/-- The first ones of a row, and those behind one. -/
theorem row_first {w : World} {base : Nat} {e : TypeId} {size : Nat} {g n cap : Nat} {xs : List Value} (h : w.ownsRow base e size (.slice (some ⟨g, 0, none⟩) n cap) n xs) (k : Nat) : ∀ j u, (xs.take k)[j]? = some u → w.cell? ((⟨g, 0, none⟩ : Addr).add j) = some u := by
  intro j u hu
  rw [List.getElem?_take] at hu
  split at hu
  · have hj : j < xs.length := (List.getElem?_eq_some_iff.1 hu).1
    rw [add_off, Nat.zero_add, World.ownsRow.cellAt h j (by rw [← h.1]; exact hj), hu]
  · cases hu
theorem row_behind {w : World} {base : Nat} {e : TypeId} {size : Nat} {g n cap : Nat} {xs : List Value} (h : w.ownsRow base e size (.slice (some ⟨g, 0, none⟩) n cap) n xs) (k : Nat) : ∀ j u, (xs.drop k)[j]? = some u → w.cell? ((⟨g, k, none⟩ : Addr).add j) = some u := by
  intro j u hu
  rw [List.getElem?_drop] at hu
  have hj : k + j < xs.length := (List.getElem?_eq_some_iff.1 hu).1
  rw [add_off, World.ownsRow.cellAt h (k + j) (by rw [← h.1]; exact hj), hu]
end Go.Proofs.YtfnokklcbmipgaaDoor
