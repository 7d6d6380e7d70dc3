/- What tells a list, as cells; the law of '=='. -/
import Derived.Test.YtafkbbjmbbimpaaRows
import Derived.Test.YtafkbbjmbbimpaaMath
import Derived.WalkKit
import Derived.WalkSpells
import Derived.WalkLawsBesides
import Derived.Lib.Hide
import Derived.LoopN
import Derived.ChangeKeysEq
import Derived.Laws.StructEq
import Derived.Deep.WholeRow
import Derived.Deep.MidRow
namespace Go.Proofs.Ytafkbbjmbbimpaa
open Go.RowKit Plain

def ints (l : List Int) : List Value := l.map (Value.int .i64)
def cellsL (t : LC) : List Value := ints t.next ++ (ints t.prev ++ (t.inn.map Value.bool ++ [.int .i64 t.head, .int .i64 t.tail]))
def cellsT (t : LC) : Array Value := (cellsL t).toArray
theorem cellsT_size {t : LC} (h : t.ok) : (cellsT t).size = 194 := by
  obtain ⟨h1, h2, h3⟩ := h
  simp [cellsT, cellsL, ints, h1, h2, h3]
theorem cells_next {t : LC} (h : t.ok) (i : Nat) (hi : i < 64) : (cellsT t)[i]? = some (.int .i64 (t.next.getD i 0)) := by
  obtain ⟨h1, h2, h3⟩ := h
  unfold cellsT cellsL ints
  rw [List.getElem?_toArray, List.getElem?_append_left (by simp [h1, hi]), List.getElem?_map, List.getD_eq_getElem?_getD, List.getElem?_eq_getElem (by omega)]; rfl
theorem cells_prev {t : LC} (h : t.ok) (i : Nat) (hi : i < 64) : (cellsT t)[64 + i]? = some (.int .i64 (t.prev.getD i 0)) := by
  obtain ⟨h1, h2, h3⟩ := h
  unfold cellsT cellsL ints
  rw [List.getElem?_toArray, List.getElem?_append_right (by simp [h1]), List.length_map, h1, Nat.add_sub_cancel_left, List.getElem?_append_left (by simp [h2, hi]), List.getElem?_map, List.getD_eq_getElem?_getD, List.getElem?_eq_getElem (by omega)]; rfl
theorem cells_inn {t : LC} (h : t.ok) (i : Nat) (hi : i < 64) : (cellsT t)[128 + i]? = some (.bool (t.inn.getD i false)) := by
  obtain ⟨h1, h2, h3⟩ := h
  unfold cellsT cellsL ints
  rw [List.getElem?_toArray, List.getElem?_append_right (by simp [h1]; omega), List.length_map, h1, List.getElem?_append_right (by simp [h2]; omega), List.length_map, h2, show 128 + i - 64 - 64 = i by omega, List.getElem?_append_left (by simp [h3, hi]), List.getElem?_map, List.getD_eq_getElem?_getD, List.getElem?_eq_getElem (by omega)]; rfl
theorem cells_head {t : LC} (h : t.ok) : (cellsT t)[192]? = some (.int .i64 t.head) := by
  obtain ⟨h1, h2, h3⟩ := h
  unfold cellsT cellsL ints
  rw [List.getElem?_toArray, List.getElem?_append_right (by simp [h1]), List.length_map, h1, List.getElem?_append_right (by simp [h2]), List.length_map, h2, List.getElem?_append_right (by simp [h3]), List.length_map, h3]; rfl
theorem cells_tail {t : LC} (h : t.ok) : (cellsT t)[193]? = some (.int .i64 t.tail) := by
  obtain ⟨h1, h2, h3⟩ := h
  unfold cellsT cellsL ints
  rw [List.getElem?_toArray, List.getElem?_append_right (by simp [h1]), List.length_map, h1, List.getElem?_append_right (by simp [h2]), List.length_map, h2, List.getElem?_append_right (by simp [h3]), List.length_map, h3]; rfl
theorem cellsT_one (t : LC) : (cellsT t).all (·.oneCell') = true := by
  unfold cellsT
  refine all_oneCell_toArray ?_
  intro v hv
  simp only [cellsL, ints, List.mem_append, List.mem_map, List.mem_cons, List.not_mem_nil, or_false] at hv
  rcases hv with ⟨a, _, rfl⟩ | ⟨a, _, rfl⟩ | ⟨a, _, rfl⟩ | rfl | rfl <;> rfl
/-- Any cells of a list's kind tell one. -/
theorem ext_getD {l m : List Int} (h1 : l.length = 64) (h2 : m.length = 64) : l = m ↔ ∀ i ∈ List.range 64, l.getD i 0 = m.getD i 0 := by
  constructor
  · rintro rfl i _; rfl
  · intro h
    refine List.ext_getElem (by omega) ?_
    intro i hi hj
    have := h i (List.mem_range.2 (by omega))
    rwa [List.getD_eq_getElem?_getD, List.getD_eq_getElem?_getD, List.getElem?_eq_getElem hi, List.getElem?_eq_getElem hj] at this
theorem ext_getDB {l m : List Bool} (h1 : l.length = 64) (h2 : m.length = 64) : l = m ↔ ∀ i ∈ List.range 64, l.getD i false = m.getD i false := by
  constructor
  · rintro rfl i _; rfl
  · intro h
    refine List.ext_getElem (by omega) ?_
    intro i hi hj
    have := h i (List.mem_range.2 (by omega))
    rwa [List.getD_eq_getElem?_getD, List.getD_eq_getElem?_getD, List.getElem?_eq_getElem hi, List.getElem?_eq_getElem hj] at this

theorem u3 : Try.prog.underlying 3 = some (.int .i64) := by kernel_rfl
theorem u4 : Try.prog.underlying 4 = some .bool := by kernel_rfl
theorem u23 : Try.prog.underlying 23 = some (.array 64 3) := by kernel_rfl
theorem u24 : Try.prog.underlying 24 = some (.array 64 4) := by kernel_rfl
theorem u26 : Try.prog.underlying 26 = some (.struct (Try.prog.fieldsOf 26)) := by kernel_rfl
theorem info3 : (Try.prog.info? 3).map (fun i => (i.zero, i.size, i.bytes)) = some (some (.int .i64 0), 1, 8) := by kernel_rfl
theorem info4 : (Try.prog.info? 4).map (fun i => (i.zero, i.size, i.bytes)) = some (some (.bool false), 1, 1) := by kernel_rfl
theorem size23 : (Try.prog.info? 23).map (·.size) = some 64 := by kernel_rfl
theorem size24 : (Try.prog.info? 24).map (·.size) = some 64 := by kernel_rfl
theorem size26 : (Try.prog.info? 26).map (·.size) = some 194 := by kernel_rfl
theorem c3 : Try.prog.cellsOf 3 = 1 := by kernel_rfl
theorem c4 : Try.prog.cellsOf 4 = 1 := by kernel_rfl
theorem fs26 : (Try.prog.fieldsOf 26).toList.map (fun f => (f.name != "_", f.type, f.offset)) = [(true, 23, 0), (true, 23, 64), (true, 24, 128), (true, 3, 192), (true, 3, 193)] := by kernel_rfl
theorem held26 : Try.prog.stoodInHeld 26 = false := by kernel_rfl

theorem part_int (cs : Array Value) (o : Nat) (v : Value) (w : World) (h : cs[o]? = some v) : (part 3 cs o).run Try.prog w = .ok v w := by
  simp [part, isAgg, run_underlying u3, h]
theorem part_bool (cs : Array Value) (o : Nat) (v : Value) (w : World) (h : cs[o]? = some v) : (part 4 cs o).run Try.prog w = .ok v w := by
  simp [part, isAgg, run_underlying u4, h]
theorem part_arr (t e : TypeId) (cs : Array Value) (o : Nat) (w : World) (hu : Try.prog.underlying t = some (.array 64 e)) (hs : (Try.prog.info? t).map (·.size) = some 64) :
    (part t cs o).run Try.prog w = .ok (.agg (cs.extract o (o + 64))) w := by
  cases hq : Try.prog.info? t with
  | none => simp [hq] at hs
  | some i =>
    have : i.size = 64 := by simpa [hq] using hs
    simp [part, isAgg, run_underlying hu, sizeOf, typeInfo, hq, this]
theorem items_int (d : Nat) (xs ys : Array Value) (f g : Nat → Int) (w : World) : ∀ is : List Nat, (∀ i ∈ is, xs[i]? = some (.int .i64 (f i)) ∧ ys[i]? = some (.int .i64 (g i))) →
    (Op.eqItems (d + 1) 3 1 xs ys is).run Try.prog w = .ok (decide (∀ i ∈ is, f i = g i)) w
  | [], _ => by simp [Op.eqItems]
  | i :: is, h => by
    obtain ⟨h1, h2⟩ := h i (by simp)
    have ih := items_int d xs ys f g w is (fun j hj => h j (by simp [hj]))
    simp only [Op.eqItems, Sem.run_bind, Nat.mul_one, part_int _ _ _ _ h1, part_int _ _ _ _ h2, Result.andThen_ok, run_equalIn_int w d 3 .i64 .i64 _ _ u3]
    by_cases e : f i = g i
    · rw [show (f i == g i) = true from by simpa using e]
      simp only [Bool.not_true, Bool.false_eq_true, if_false, ih, Result.ok.injEq, and_true]
      simp [e]
    · rw [show (f i == g i) = false from by simpa using e]
      simp [e]
theorem items_bool (d : Nat) (xs ys : Array Value) (f g : Nat → Bool) (w : World) : ∀ is : List Nat, (∀ i ∈ is, xs[i]? = some (.bool (f i)) ∧ ys[i]? = some (.bool (g i))) →
    (Op.eqItems (d + 1) 4 1 xs ys is).run Try.prog w = .ok (decide (∀ i ∈ is, f i = g i)) w
  | [], _ => by simp [Op.eqItems]
  | i :: is, h => by
    obtain ⟨h1, h2⟩ := h i (by simp)
    have ih := items_bool d xs ys f g w is (fun j hj => h j (by simp [hj]))
    simp only [Op.eqItems, Sem.run_bind, Nat.mul_one, part_bool _ _ _ _ h1, part_bool _ _ _ _ h2, Result.andThen_ok, run_equalIn_bool' w d 4 _ _ u4]
    by_cases e : f i = g i
    · rw [show (f i == g i) = true from by simpa using e]
      simp only [Bool.not_true, Bool.false_eq_true, if_false, ih, Result.ok.injEq, and_true]
      simp [e]
    · rw [show (f i == g i) = false from by simpa using e]
      simp [e]
theorem eq_ints (d : Nat) (xs ys : Array Value) (f g : Nat → Int) (w : World) (h : ∀ i, i < 64 → xs[i]? = some (.int .i64 (f i)) ∧ ys[i]? = some (.int .i64 (g i))) :
    (Op.equalIn (d + 2) 23 (.agg xs) (.agg ys)).run Try.prog w = .ok (decide (∀ i ∈ List.range 64, f i = g i)) w := by
  obtain ⟨i0, hi0, _⟩ := info_parts info3
  rw [run_equalIn_array w (d + 1) xs ys u23 hi0, c3, items_int d xs ys f g w _ (fun i hi => h i (List.mem_range.1 hi))]
theorem eq_bools (d : Nat) (xs ys : Array Value) (f g : Nat → Bool) (w : World) (h : ∀ i, i < 64 → xs[i]? = some (.bool (f i)) ∧ ys[i]? = some (.bool (g i))) :
    (Op.equalIn (d + 2) 24 (.agg xs) (.agg ys)).run Try.prog w = .ok (decide (∀ i ∈ List.range 64, f i = g i)) w := by
  obtain ⟨i0, hi0, _⟩ := info_parts info4
  rw [run_equalIn_array w (d + 1) xs ys u24 hi0, c4, items_bool d xs ys f g w _ (fun i hi => h i (List.mem_range.1 hi))]
theorem ext_at (cs : Array Value) (o i : Nat) (v : Value) (h : cs[o + i]? = some v) (hi : i < 64) : (cs.extract o (o + 64))[i]? = some v := by
  rw [Array.getElem?_extract, ← h]
  have : o + i < cs.size := by
    rcases Nat.lt_or_ge (o + i) cs.size with a | a
    · exact a
    · rw [Array.getElem?_eq_none a] at h; cases h
  rw [if_pos (by omega)]
theorem eqFields_step {d : Nat} {xs ys : Array Value} {f : Field} {fs : List Field} {a b : Value} {r r' : Bool} {w : World} (hn : (f.name != "_") = true) (h1 : (part f.type xs f.offset).run Try.prog w = .ok a w)
    (h2 : (part f.type ys f.offset).run Try.prog w = .ok b w) (h3 : (Op.equalIn d f.type a b).run Try.prog w = .ok r w) (h4 : (Op.eqFields d xs ys fs).run Try.prog w = .ok r' w) :
    (Op.eqFields d xs ys (f :: fs)).run Try.prog w = .ok (r && r') w := by
  have hn' : f.name ≠ "_" := by simpa using hn
  unfold Op.eqFields
  rw [if_pos hn', Sem.run_bind, h1, Result.andThen_ok, Sem.run_bind, h2, Result.andThen_ok, Sem.run_bind, h3, Result.andThen_ok]
  cases r
  · rfl
  · exact h4
theorem eqFields_nil {d : Nat} {xs ys : Array Value} {w : World} : (Op.eqFields d xs ys []).run Try.prog w = .ok true w := rfl
theorem lc_iff (t u : LC) : (t = u) ↔ (t.next = u.next ∧ t.prev = u.prev ∧ t.inn = u.inn ∧ t.head = u.head ∧ t.tail = u.tail) := by cases t; cases u; simp
theorem eqIn_lists (d : Nat) (t u : LC) (ht : t.ok) (hu : u.ok) (w : World) : (Op.equalIn (d + 3) 26 (.agg (cellsT t)) (.agg (cellsT u))).run Try.prog w = .ok (decide (t = u)) w := by
  rw [run_equalIn_struct w (d + 2) 26 _ _ u26 held26]
  have hfs := fs26
  generalize (Try.prog.fieldsOf 26).toList = fs at hfs
  obtain ⟨f0, fs, rfl, h0, hfs⟩ := List.map_eq_cons_iff.1 hfs
  obtain ⟨f1, fs, rfl, h1, hfs⟩ := List.map_eq_cons_iff.1 hfs
  obtain ⟨f2, fs, rfl, h2, hfs⟩ := List.map_eq_cons_iff.1 hfs
  obtain ⟨f3, fs, rfl, h3, hfs⟩ := List.map_eq_cons_iff.1 hfs
  obtain ⟨f4, fs, rfl, h4, hfs⟩ := List.map_eq_cons_iff.1 hfs
  obtain rfl := List.map_eq_nil_iff.1 hfs
  obtain ⟨n0, h0⟩ := Prod.mk.inj h0
  obtain ⟨n1, h1⟩ := Prod.mk.inj h1
  obtain ⟨n2, h2⟩ := Prod.mk.inj h2
  obtain ⟨n3, h3⟩ := Prod.mk.inj h3
  obtain ⟨n4, h4⟩ := Prod.mk.inj h4
  obtain ⟨t0, o0⟩ := Prod.mk.inj h0
  obtain ⟨t1, o1⟩ := Prod.mk.inj h1
  obtain ⟨t2, o2⟩ := Prod.mk.inj h2
  obtain ⟨t3, o3⟩ := Prod.mk.inj h3
  obtain ⟨t4, o4⟩ := Prod.mk.inj h4
  have e0 := eq_ints d ((cellsT t).extract 0 (0 + 64)) ((cellsT u).extract 0 (0 + 64)) (fun i => t.next.getD i 0) (fun i => u.next.getD i 0) w
    (fun i hi => ⟨ext_at _ 0 i _ (by rw [Nat.zero_add]; exact cells_next ht i hi) hi, ext_at _ 0 i _ (by rw [Nat.zero_add]; exact cells_next hu i hi) hi⟩)
  have e1 := eq_ints d ((cellsT t).extract 64 (64 + 64)) ((cellsT u).extract 64 (64 + 64)) (fun i => t.prev.getD i 0) (fun i => u.prev.getD i 0) w
    (fun i hi => ⟨ext_at _ 64 i _ (cells_prev ht i hi) hi, ext_at _ 64 i _ (cells_prev hu i hi) hi⟩)
  have e2 := eq_bools d ((cellsT t).extract 128 (128 + 64)) ((cellsT u).extract 128 (128 + 64)) (fun i => t.inn.getD i false) (fun i => u.inn.getD i false) w
    (fun i hi => ⟨ext_at _ 128 i _ (cells_inn ht i hi) hi, ext_at _ 128 i _ (cells_inn hu i hi) hi⟩)
  have d0 : decide (∀ i ∈ List.range 64, t.next.getD i 0 = u.next.getD i 0) = decide (t.next = u.next) := decide_eq_decide.2 (ext_getD ht.1 hu.1).symm
  have d1 : decide (∀ i ∈ List.range 64, t.prev.getD i 0 = u.prev.getD i 0) = decide (t.prev = u.prev) := decide_eq_decide.2 (ext_getD ht.2.1 hu.2.1).symm
  have d2 : decide (∀ i ∈ List.range 64, t.inn.getD i false = u.inn.getD i false) = decide (t.inn = u.inn) := decide_eq_decide.2 (ext_getDB ht.2.2 hu.2.2).symm
  rw [d0] at e0
  rw [d1] at e1
  rw [d2] at e2
  have e3 := run_equalIn_int (P := Try.prog) w (d + 1) 3 .i64 .i64 t.head u.head u3
  have e4 := run_equalIn_int (P := Try.prog) w (d + 1) 3 .i64 .i64 t.tail u.tail u3
  have s5 := eqFields_nil (d := d + 2) (xs := cellsT t) (ys := cellsT u) (w := w)
  have s4 := eqFields_step (f := f4) (a := .int .i64 t.tail) (b := .int .i64 u.tail) n4 (by rw [t4, o4]; exact part_int _ _ _ w (cells_tail ht)) (by rw [t4, o4]; exact part_int _ _ _ w (cells_tail hu)) (by rw [t4]; exact e4) s5
  have s3 := eqFields_step (f := f3) (a := .int .i64 t.head) (b := .int .i64 u.head) n3 (by rw [t3, o3]; exact part_int _ _ _ w (cells_head ht)) (by rw [t3, o3]; exact part_int _ _ _ w (cells_head hu)) (by rw [t3]; exact e3) s4
  have s2 := eqFields_step (f := f2) n2 (by rw [t2, o2]; exact part_arr 24 4 (cellsT t) 128 w u24 size24) (by rw [t2, o2]; exact part_arr 24 4 (cellsT u) 128 w u24 size24) (by rw [t2]; exact e2) s3
  have s1 := eqFields_step (f := f1) n1 (by rw [t1, o1]; exact part_arr 23 3 (cellsT t) 64 w u23 size23) (by rw [t1, o1]; exact part_arr 23 3 (cellsT u) 64 w u23 size23) (by rw [t1]; exact e1) s2
  have s0 := eqFields_step (f := f0) n0 (by rw [t0, o0]; exact part_arr 23 3 (cellsT t) 0 w u23 size23) (by rw [t0, o0]; exact part_arr 23 3 (cellsT u) 0 w u23 size23) (by rw [t0]; exact e0) s1
  rw [s0]
  congr 1
  rw [Bool.eq_iff_iff]
  simp only [Bool.and_eq_true, decide_eq_true_eq, beq_iff_eq, lc_iff t u, and_true]
theorem eql_lists (t u : LC) (ht : t.ok) (hu : u.ok) (w : World) : (binOp .eql 26 (.agg (cellsT t)) (.agg (cellsT u))).run Try.prog w = .ok (.bool (decide (t = u))) w := by
  rw [run_eql_struct w, eqIn_lists 9997 t u ht hu w]; rfl
theorem neq_lists (t u : LC) (ht : t.ok) (hu : u.ok) (w : World) : (binOp .neq 26 (.agg (cellsT t)) (.agg (cellsT u))).run Try.prog w = .ok (.bool (!decide (t = u))) w := by
  rw [run_neq_struct w, eqIn_lists 9997 t u ht hu w]; rfl
def boolsA (l : List Bool) : Array Value := (l.map Value.bool).toArray
theorem bools_at (l : List Bool) (h : l.length = 64) (i : Nat) (hi : i < 64) : (boolsA l)[i]? = some (.bool (l.getD i false)) := by
  unfold boolsA
  rw [List.getElem?_toArray, List.getElem?_map, List.getD_eq_getElem?_getD, List.getElem?_eq_getElem (by omega)]; rfl
theorem neq_bools (l m : List Bool) (hl : l.length = 64) (hm : m.length = 64) (w : World) : (binOp .neq 24 (.agg (boolsA l)) (.agg (boolsA m))).run Try.prog w = .ok (.bool (!decide (l = m))) w := by
  rw [run_neq_struct w, eq_bools 9998 _ _ (fun i => l.getD i false) (fun i => m.getD i false) w (fun i hi => ⟨bools_at l hl i hi, bools_at m hm i hi⟩)]
  rw [decide_eq_decide.2 (ext_getDB hl hm).symm]; rfl
end Go.Proofs.Ytafkbbjmbbimpaa
