/- A store that is changed: what lies in memory. -/
import Derived.Test.YtfnokklcbmipgaaDoorS2
import Derived.Lib.LazyBuf
import Derived.Lib.SlBytesRow
namespace Go.Proofs.YtfnokklcbmipgaaDoor
open Go.RowKit Plain

def u8 (B : List UInt8) : List Value := B.map fun b => .int .u8 (b.toNat : Int)
theorem u8_len (B : List UInt8) : (u8 B).length = B.length := List.length_map _
theorem u8_one (B : List UInt8) : ∀ v ∈ u8 B, v.oneCell' = true := by
  intro v hv
  obtain ⟨x, _, rfl⟩ := List.mem_map.1 hv
  rfl
def strB (B : List UInt8) : ByteArray := ⟨B.toArray⟩
theorem strB_size (B : List UInt8) : (strB B).size = B.length := by simp [strB, ByteArray.size]
theorem strB_list (B : List UInt8) : (strB B).data.toList = B := by simp [strB]
theorem strB_of (s : ByteArray) : strB s.data.toList = s := by unfold strB; simp
theorem strB_inj {A B : List UInt8} (h : strB A = strB B) : A = B := by rw [← strB_list A, h, strB_list]
theorem strB_cut (B : List UInt8) (i j : Nat) : (strB B).extract i j = strB ((B.take j).drop i) := by
  rw [← strB_of ((strB B).extract i j), Lib.extract_data, strB_list, List.drop_take]
/-- Data, and 0 behind it, laid into n bytes at f. -/
def layB (B : List UInt8) (f n : Nat) (D : List UInt8) : List UInt8 := B.take f ++ (D.take n ++ List.replicate (n - D.length) 0) ++ B.drop (f + n)
theorem layB_len {B : List UInt8} {f n : Nat} (D : List UInt8) (h : f + n ≤ B.length) : (layB B f n D).length = B.length := by
  unfold layB
  simp only [List.length_append, List.length_take, List.length_replicate, List.length_drop]
  omega
theorem getD_app (A B : List UInt8) (p : Nat) : (A ++ B).getD p 0 = if p < A.length then A.getD p 0 else B.getD (p - A.length) 0 := by
  simp only [List.getD_eq_getElem?_getD, List.getElem?_append]
  split <;> rfl
theorem getD_take' (A : List UInt8) (n p : Nat) : (A.take n).getD p 0 = if p < n then A.getD p 0 else 0 := by
  simp only [List.getD_eq_getElem?_getD, List.getElem?_take]
  split <;> rfl
theorem getD_drop' (A : List UInt8) (n p : Nat) : (A.drop n).getD p 0 = A.getD (n + p) 0 := by
  simp only [List.getD_eq_getElem?_getD, List.getElem?_drop]
theorem getD_rep (n p : Nat) : (List.replicate n (0 : UInt8)).getD p 0 = 0 := by
  simp only [List.getD_eq_getElem?_getD, List.getElem?_replicate]
  split <;> rfl
theorem getD_end (A : List UInt8) {p : Nat} (h : A.length ≤ p) : A.getD p 0 = 0 := by
  rw [List.getD_eq_getElem?_getD, List.getElem?_eq_none h]; rfl
theorem layB_get {B : List UInt8} {f n : Nat} (D : List UInt8) (h : f + n ≤ B.length) (p : Nat) : (layB B f n D).getD p 0 = if f ≤ p ∧ p < f + n then D.getD (p - f) 0 else B.getD p 0 := by
  have l1 : (B.take f).length = f := by rw [List.length_take]; omega
  have l2 : (D.take n ++ List.replicate (n - D.length) (0 : UInt8)).length = n := by simp only [List.length_append, List.length_take, List.length_replicate]; omega
  have l3 : (B.take f ++ (D.take n ++ List.replicate (n - D.length) (0 : UInt8))).length = f + n := by rw [List.length_append, l1, l2]
  unfold layB
  rw [getD_app, l3]
  by_cases h1 : p < f + n
  · rw [if_pos h1, getD_app, l1]
    by_cases h2 : p < f
    · rw [if_pos h2, if_neg (by omega), getD_take', if_pos h2]
    · rw [if_neg h2, if_pos ⟨by omega, h1⟩, getD_app]
      split
      · rw [getD_take']
        split
        · rfl
        · rw [List.length_take] at *; omega
      · rw [getD_rep, getD_end]
        rw [List.length_take] at *
        omega
  · rw [if_neg h1, if_neg (by omega), getD_drop']
    congr 1
    omega
/-- Nothing but the two blocks has changed. -/
structure Chg (bw g : Nat) (w w' : World) : Prop where
  os : w'.os = w.os
  tape : w'.tape = w.tape
  output : w'.output = w.output
  size : w.heap.size ≤ w'.heap.size
  block : ∀ k, k < w.heap.size → k ≠ bw → k ≠ g → w'.heap[k]? = w.heap[k]?
theorem Chg.refl (bw g : Nat) (w : World) : Chg bw g w w := ⟨rfl, rfl, rfl, Nat.le_refl _, fun _ _ _ _ => rfl⟩
theorem Chg.trans {bw g : Nat} {a b c : World} (h : Chg bw g a b) (k : Chg bw g b c) : Chg bw g a c :=
  ⟨k.os.trans h.os, k.tape.trans h.tape, k.output.trans h.output, Nat.le_trans h.size k.size, fun i hi h1 h2 => (k.block i (Nat.lt_of_lt_of_le hi h.size) h1 h2).trans (h.block i hi h1 h2)⟩
theorem Chg.of {bw g : Nat} {w w' : World} (h : Below w.heap.size w w') : Chg bw g w w' := ⟨h.os, h.tape, h.output, h.size, fun k hk _ _ => h.block k hk⟩
theorem Chg.ofOnlyW {bw g : Nat} {w w' : World} (h : Only bw w w') : Chg bw g w w' := ⟨h.os, h.tape, h.output, by rw [h.size]; exact Nat.le_refl _, fun k _ h1 _ => h.heap k h1⟩
theorem Chg.ofOnlyG {bw g : Nat} {w w' : World} (h : Only g w w') : Chg bw g w w' := ⟨h.os, h.tape, h.output, by rw [h.size]; exact Nat.le_refl _, fun k _ _ h2 => h.heap k h2⟩
theorem Chg.below {bw g base : Nat} {w w' : World} (h : Chg bw g w w') (h1 : base ≤ bw) (h2 : base ≤ g) (h3 : base ≤ w.heap.size) : Below base w w' :=
  ⟨h.os, h.tape, h.output, h.size, fun k hk => h.block k (by omega) (by omega) (by omega)⟩
theorem Chg.cell {bw g : Nat} {w w' : World} (h : Chg bw g w w') {p : Addr} (hp : p.block < w.heap.size) (h1 : p.block ≠ bw) (h2 : p.block ≠ g) : w'.cell? p = w.cell? p := World.cell?_of_block (w := w) (h.block p.block hp h1 h2)
theorem Only.refl (b : Nat) (w : World) : Only b w w := ⟨rfl, rfl, rfl, rfl, fun _ _ => rfl⟩
theorem Only.trans {b : Nat} {x y z : World} (h : Only b x y) (k : Only b y z) : Only b x z := ⟨k.os.trans h.os, k.tape.trans h.tape, k.output.trans h.output, k.size.trans h.size, fun i hi => (k.heap i hi).trans (h.heap i hi)⟩
theorem Only.setCell (w : World) (p : Addr) (v : Value) : Only p.block w (w.setCell p v) := ⟨rfl, rfl, rfl, by simp [World.setCell], fun k hk => Below.heap_setCell w p v k hk⟩
theorem Only.setCells (b : Nat) : ∀ (vs : List Value) (o : Nat) (w : World), Only b w (w.setCells b o vs)
  | [], _, w => Only.refl b w
  | v :: r, o, w => (Only.setCell w ⟨b, o, none⟩ v).trans (Only.setCells b r (o + 1) _)
theorem Only.cell {b : Nat} {w w' : World} (h : Only b w w') {p : Addr} (hp : p.block ≠ b) : w'.cell? p = w.cell? p := World.cell?_of_block (w := w) (h.heap p.block hp)
theorem Only.frozen {b : Nat} {w w' : World} (h : Only b w w') {p : Addr} (hp : p.block ≠ b) : w'.frozen? p = w.frozen? p := World.frozen?_of_block (w := w) (h.heap p.block hp)
/-- A row of bytes. -/
structure BytesAt (w : World) (g : Nat) (B : List UInt8) : Prop where
  cel : ∀ j, j < B.length → w.cell? ⟨g, j, none⟩ = some (.int .u8 ((B.getD j 0).toNat : Int))
  fro : ∀ j, j < B.length → w.frozen? ⟨g, j, none⟩ = false
  lt : g < w.heap.size
theorem BytesAt.same {w w' : World} {g : Nat} {B : List UInt8} (h : BytesAt w g B) (hs : w.heap.size ≤ w'.heap.size) (hb : w'.heap[g]? = w.heap[g]?) : BytesAt w' g B :=
  ⟨fun j hj => (World.cell?_of_block (a := ⟨g, j, none⟩) hb).trans (h.cel j hj), fun j hj => (World.frozen?_of_block (a := ⟨g, j, none⟩) hb).trans (h.fro j hj), Nat.lt_of_lt_of_le h.lt hs⟩
theorem SegNew.same {w w' : World} {base cap : Nat} {ao : Option Addr} {l : Segs} (h : SegNew w base ao cap l) (hb : ∀ k off, ao = Option.some ⟨k, off, none⟩ → w'.heap[k]? = w.heap[k]?) : SegNew w' base ao cap l := by
  refine ⟨h.1, ?_⟩
  rcases h.2 with hn | ⟨g, cap', cur, hv, hbg, hg, rest⟩
  · exact .inl hn
  · have e : ao = Option.some ⟨g, 0, none⟩ := by simp only [Value.slice.injEq] at hv; exact hv.1
    exact .inr ⟨g, cap', cur, hv, hbg, by rw [hb g 0 e]; exact hg, rest⟩
/-- A store that is changed: its block, and that of its bytes. -/
structure WorkAt (w : World) (base bw g : Nat) (l : Segs) (B : List UInt8) : Prop where
  seg : ∃ ao cap, w.cell? ⟨bw, 0, none⟩ = some (.slice ao l.length cap) ∧ SegNew w base ao cap l ∧ ∀ k off, ao = some ⟨k, off, none⟩ → k ≠ bw ∧ k ≠ g ∧ k < w.heap.size
  fz : w.frozen? ⟨bw, 0, none⟩ = false
  byt : ∃ cap, B.length ≤ cap ∧ w.cell? ⟨bw, 1, none⟩ = some (.slice (some ⟨g, 0, none⟩) B.length cap)
  row : BytesAt w g B
  ne : bw ≠ g
  lo : base ≤ bw ∧ base ≤ g
  lt : bw < w.heap.size
theorem WorkAt.same {w w' : World} {base bw g : Nat} {l : Segs} {B : List UInt8} (h : WorkAt w base bw g l B) (hs : w.heap.size ≤ w'.heap.size) (hb : ∀ k, k < w.heap.size → w'.heap[k]? = w.heap[k]?) : WorkAt w' base bw g l B := by
  obtain ⟨ao, cap, h1, h2, h3⟩ := h.seg
  obtain ⟨cap2, h4, h5⟩ := h.byt
  have e := hb bw h.lt
  refine ⟨⟨ao, cap, (World.cell?_of_block (a := ⟨bw, 0, none⟩) e).trans h1, h2.same (fun k off hk => hb k (h3 k off hk).2.2), fun k off hk => ⟨(h3 k off hk).1, (h3 k off hk).2.1, Nat.lt_of_lt_of_le (h3 k off hk).2.2 hs⟩⟩, (World.frozen?_of_block (a := ⟨bw, 0, none⟩) e).trans h.fz, ⟨cap2, h4, (World.cell?_of_block (a := ⟨bw, 1, none⟩) e).trans h5⟩, h.row.same hs (hb g h.row.lt), h.ne, h.lo, Nat.lt_of_lt_of_le h.lt hs⟩
theorem WorkAt.below {w w' : World} {base bw g : Nat} {l : Segs} {B : List UInt8} (h : WorkAt w base bw g l B) (hb : Below w.heap.size w w') : WorkAt w' base bw g l B := h.same hb.size hb.block
theorem BytesAt.lay {w : World} {g : Nat} {B : List UInt8} (h : BytesAt w g B) (f n : Nat) (D : List UInt8) (hf : f + n ≤ B.length) :
    BytesAt ((w.setCells g f (u8 (D.take n))).setCells g (f + min D.length n) (u8 (List.replicate (n - min D.length n) 0))) g (layB B f n D) := by
  have o := (Only.setCells g (u8 (D.take n)) f w).trans (Only.setCells g (u8 (List.replicate (n - min D.length n) 0)) (f + min D.length n) _)
  have hl := layB_len D hf
  have ltk : (D.take n).length = min D.length n := by rw [List.length_take]; omega
  have hsome : ∀ j, j < B.length → (w.cell? ⟨g, j, none⟩).isSome = true := fun j hj => by rw [h.cel j hj]; rfl
  refine ⟨fun j hj => ?_, fun j hj => ?_, by rw [o.size]; exact h.lt⟩
  · rw [hl] at hj
    rw [layB_get D hf]
    by_cases h2 : f + min D.length n ≤ j ∧ j < f + n
    · rw [if_pos ⟨by omega, h2.2⟩]
      have e : j = f + min D.length n + (j - (f + min D.length n)) := by omega
      have key := World.cell?_setCells_in g (u8 (List.replicate (n - min D.length n) 0)) (f + min D.length n) (w.setCells g f (u8 (D.take n))) (by
        intro i hi
        rw [u8_len, List.length_replicate] at hi
        rw [World.cell?_setCells_out g _ f w _ (fun _ _ => .inr (by show f + (u8 (D.take n)).length ≤ f + min D.length n + i; rw [u8_len, ltk]; omega))]
        exact hsome _ (by omega)) (j - (f + min D.length n)) (by rw [u8_len, List.length_replicate]; omega)
      rw [← e] at key
      rw [key]
      have : D.getD (j - f) 0 = 0 := getD_end D (by omega)
      rw [this]
      unfold u8
      simp
    · rw [World.cell?_setCells_out g _ (f + min D.length n) _ _ (fun _ _ => by show j < _ ∨ _ ≤ j; rw [u8_len, List.length_replicate]; omega)]
      by_cases h1 : f ≤ j ∧ j < f + n
      · rw [if_pos h1]
        have key := World.cell?_setCells_in g (u8 (D.take n)) f w (by
          intro i hi
          rw [u8_len, ltk] at hi
          exact hsome _ (by omega)) (j - f) (by rw [u8_len, ltk]; omega)
        rw [show f + (j - f) = j by omega] at key
        rw [key]
        unfold u8
        have hd : j - f < D.length := by omega
        simp [List.getD_eq_getElem?_getD, List.getElem?_eq_getElem hd]
      · rw [if_neg h1, World.cell?_setCells_out g _ f _ _ (fun _ _ => by show j < _ ∨ _ ≤ j; rw [u8_len, ltk]; omega)]
        exact h.cel j hj
  · rw [hl] at hj
    rw [World.frozen?_setCells, World.frozen?_setCells]
    exact h.fro j hj
theorem und66 : Tryd.prog.underlying 66 = some (.slice 5) := Tryd.underlying66
theorem size5 : ∀ w, (Go.sizeOf 5).run Tryd.prog w = .ok 1 w := fun w => by kernel_rfl
/-- 'copy(dst, s)', s a string. -/
theorem run_copy_str (w : World) (ty : TypeId) (g o n cap : Nat) (D : List UInt8)
    (hc : ∀ j, j < n → (w.cell? ⟨g, o + j, none⟩).isSome = true) (hf : ∀ j, j < n → w.frozen? ⟨g, o + j, none⟩ = false) :
    (Builtin.copy_ #[66, 9] ty #[.slice (some ⟨g, o, none⟩) n cap, .string (strB D)]).run Tryd.prog w = .ok (goInt ((min D.length n : Nat) : Int)) (w.setCells g o (u8 (D.take n))) := by
  have hmin : Nat.min (strB D).size n = min D.length n := by rw [strB_size]
  have hst := run_storeCells_cells (P := Tryd.prog) g o (u8 (D.take n)) 0 w (by
    intro j hj; rw [u8_len, List.length_take] at hj; rw [Nat.add_zero]; exact hc j (by omega)) (by intro j hj; rw [u8_len, List.length_take] at hj; rw [Nat.add_zero]; exact hf j (by omega)) (u8_one _)
  have e : ((List.map (fun x => Value.int .u8 (x.toNat : Int)) D).take (min D.length n)) = u8 (D.take n) := by
    unfold u8
    rw [← List.map_take]
    congr 1
    rw [List.take_eq_take_iff]
    try omega
  simp [Builtin.copy_, run_underlying und66, Builtin.lenOf, Builtin.firstCells, hmin, strB_list]
  rw [e, hst, Nat.add_zero]
  simp only [Result.andThen]
/-- 'clear(s)'. -/
theorem run_clear_bytes (w : World) (ty : TypeId) (g o n cap : Nat)
    (hc : ∀ j, j < n → (w.cell? ⟨g, o + j, none⟩).isSome = true) (hf : ∀ j, j < n → w.frozen? ⟨g, o + j, none⟩ = false) :
    (Builtin.clear_ #[66] ty #[.slice (some ⟨g, o, none⟩) n cap]).run Tryd.prog w = .ok (.tuple #[]) (w.setCells g o (u8 (List.replicate n 0))) := by
  by_cases hn : 0 < n
  · have h := Lib.run_clear_slice (P := Tryd.prog) w 66 5 ty (.int .u8 0) und66 (fun w => by kernel_rfl) rfl rfl g o n cap hn hc hf
    rw [h]
    congr 2
    unfold u8
    simp
  · have h0 : n = 0 := by omega
    subst h0
    simp [Builtin.clear_, run_underlying und66]
    rfl
end Go.Proofs.YtfnokklcbmipgaaDoor
