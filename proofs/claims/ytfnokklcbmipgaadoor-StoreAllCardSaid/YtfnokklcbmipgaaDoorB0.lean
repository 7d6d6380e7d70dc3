/- '==' on segments and on slots. -/
import Derived.Test.YtfnokklcbmipgaaDoorA4
import Derived.ChangeKeysEq
import Derived.Laws.StructEq
namespace Go.Proofs.YtfnokklcbmipgaaDoor
open Go.RowKit Plain

theorem u3 : Tryd.prog.underlying 3 = some (.int .i64) := by kernel_rfl
theorem u45 : Tryd.prog.underlying 45 = some (.int .u64) := by kernel_rfl
theorem u47 : Tryd.prog.underlying 47 = some (.struct (Tryd.prog.fieldsOf 47)) := by kernel_rfl
theorem u24 : Tryd.prog.underlying 24 = some (.struct (Tryd.prog.fieldsOf 24)) := by kernel_rfl
theorem fs47 : (Tryd.prog.fieldsOf 47).toList.map (fun f => (f.name != "_", f.type, f.offset)) = [(true, 3, 0), (true, 45, 1)] := by kernel_rfl
theorem fs24 : (Tryd.prog.fieldsOf 24).toList.map (fun f => (f.name != "_", f.type, f.offset)) = [(true, 3, 0), (true, 3, 1)] := by kernel_rfl
theorem held47 : Tryd.prog.stoodInHeld 47 = false := by kernel_rfl
theorem held24 : Tryd.prog.stoodInHeld 24 = false := by kernel_rfl
theorem guard47 : Tryd.prog.eqGuardType Tryd.prog.depth 47 = false := by kernel_rfl
theorem guard24 : Tryd.prog.eqGuardType Tryd.prog.depth 24 = false := by kernel_rfl
theorem part_num (t : TypeId) (k : IntKind) (cs : Array Value) (o : Nat) (v : Value) (w : World) (hu : Tryd.prog.underlying t = some (.int k)) (h : cs[o]? = some v) : (part t cs o).run Tryd.prog w = .ok v w := by
  simp [part, isAgg, run_underlying hu, h]
theorem eqFields_step {d : Nat} {xs ys : Array Value} {f : Field} {fs : List Field} {a b : Value} {r r' : Bool} {w : World} (hn : (f.name != "_") = true) (h1 : (part f.type xs f.offset).run Tryd.prog w = .ok a w)
    (h2 : (part f.type ys f.offset).run Tryd.prog w = .ok b w) (h3 : (Op.equalIn d f.type a b).run Tryd.prog w = .ok r w) (h4 : (Op.eqFields d xs ys fs).run Tryd.prog w = .ok r' w) :
    (Op.eqFields d xs ys (f :: fs)).run Tryd.prog w = .ok (r && r') w := by
  have hn' : f.name ≠ "_" := by simpa using hn
  unfold Op.eqFields
  rw [if_pos hn', Sem.run_bind, h1, Result.andThen_ok, Sem.run_bind, h2, Result.andThen_ok, Sem.run_bind, h3, Result.andThen_ok]
  cases r
  · rfl
  · exact h4
theorem eqFields_nil {d : Nat} {xs ys : Array Value} {w : World} : (Op.eqFields d xs ys []).run Tryd.prog w = .ok true w := rfl
theorem eqIn_two (t t0 t1 : TypeId) (k0 k1 : IntKind) (hu : Tryd.prog.underlying t = some (.struct (Tryd.prog.fieldsOf t))) (hh : Tryd.prog.stoodInHeld t = false)
    (hfs : (Tryd.prog.fieldsOf t).toList.map (fun f => (f.name != "_", f.type, f.offset)) = [(true, t0, 0), (true, t1, 1)]) (h0 : Tryd.prog.underlying t0 = some (.int k0)) (h1 : Tryd.prog.underlying t1 = some (.int k1))
    (d : Nat) (a b c e : Int) (w : World) : (Op.equalIn (d + 2) t (.agg #[.int k0 a, .int k1 b]) (.agg #[.int k0 c, .int k1 e])).run Tryd.prog w = .ok ((a == c) && ((b == e) && true)) w := by
  rw [run_equalIn_struct w (d + 1) t _ _ hu hh]
  generalize (Tryd.prog.fieldsOf t).toList = fs at hfs
  obtain ⟨f0, fs, rfl, g0, hfs⟩ := List.map_eq_cons_iff.1 hfs
  obtain ⟨f1, fs, rfl, g1, hfs⟩ := List.map_eq_cons_iff.1 hfs
  obtain rfl := List.map_eq_nil_iff.1 hfs
  obtain ⟨n0, g0⟩ := Prod.mk.inj g0
  obtain ⟨n1, g1⟩ := Prod.mk.inj g1
  obtain ⟨e0, o0⟩ := Prod.mk.inj g0
  obtain ⟨e1, o1⟩ := Prod.mk.inj g1
  have s2 := eqFields_nil (d := d + 1) (xs := #[.int k0 a, .int k1 b]) (ys := #[.int k0 c, .int k1 e]) (w := w)
  have s1 := eqFields_step (f := f1) (a := .int k1 b) (b := .int k1 e) n1 (by rw [e1, o1]; exact part_num t1 k1 _ _ _ w h1 rfl) (by rw [e1, o1]; exact part_num t1 k1 _ _ _ w h1 rfl) (by rw [e1]; exact run_equalIn_int w d t1 k1 k1 b e h1) s2
  exact eqFields_step (f := f0) (a := .int k0 a) (b := .int k0 c) n0 (by rw [e0, o0]; exact part_num t0 k0 _ _ _ w h0 rfl) (by rw [e0, o0]; exact part_num t0 k0 _ _ _ w h0 rfl) (by rw [e0]; exact run_equalIn_int w d t0 k0 k0 a c h0) s1
theorem neq_segs (c1 c2 : Int) (u1 u2 : Nat) (w : World) : (binOp .neq 47 (.agg #[.int .i64 c1, .int .u64 u1]) (.agg #[.int .i64 c2, .int .u64 u2])).run Tryd.prog w = .ok (.bool (!decide ((c1, u1) = (c2, u2)))) w := by
  rw [run_neq_struct w, eqIn_two 47 3 45 .i64 .u64 u47 held47 fs47 u3 u45 9998 c1 u1 c2 u2 w]
  simp only [Result.andThen_ok]
  congr 3
  rw [Bool.eq_iff_iff]
  simp
  omega
theorem eql_segs (c1 c2 : Int) (u1 u2 : Nat) (w : World) : (binOp .eql 47 (.agg #[.int .i64 c1, .int .u64 u1]) (.agg #[.int .i64 c2, .int .u64 u2])).run Tryd.prog w = .ok (.bool (decide ((c1, u1) = (c2, u2)))) w := by
  rw [run_eql_struct w, eqIn_two 47 3 45 .i64 .u64 u47 held47 fs47 u3 u45 9998 c1 u1 c2 u2 w]
  simp only [Result.andThen_ok]
  congr 2
  rw [Bool.eq_iff_iff]
  simp
  omega
theorem eql_slots (s1 a1 s2 a2 : Int) (w : World) : (binOp .eql 24 (.agg #[.int .i64 s1, .int .i64 a1]) (.agg #[.int .i64 s2, .int .i64 a2])).run Tryd.prog w = .ok (.bool (decide (s1 = s2 ∧ a1 = a2))) w := by
  rw [run_eql_struct w, eqIn_two 24 3 3 .i64 .i64 u24 held24 fs24 u3 u3 9998 s1 a1 s2 a2 w]
  simp only [Result.andThen_ok]
  congr 2
  rw [Bool.eq_iff_iff]
  simp
theorem neq_slots (s1 a1 s2 a2 : Int) (w : World) : (binOp .neq 24 (.agg #[.int .i64 s1, .int .i64 a1]) (.agg #[.int .i64 s2, .int .i64 a2])).run Tryd.prog w = .ok (.bool (!decide (s1 = s2 ∧ a1 = a2))) w := by
  rw [run_neq_struct w, eqIn_two 24 3 3 .i64 .i64 u24 held24 fs24 u3 u3 9998 s1 a1 s2 a2 w]
  simp only [Result.andThen_ok]
  congr 3
  rw [Bool.eq_iff_iff]
  simp
end Go.Proofs.YtfnokklcbmipgaaDoor
