/- The contracts of take and drop. -/
import Derived.Test.YtfnokklcbmipgaaDoorS6
import Derived.Test.YtfnokklcbmipgaaDoorM3
namespace Go.Proofs.YtfnokklcbmipgaaDoor
open Go.RowKit Plain

attribute [local irreducible] Go.Calls
theorem WorkAt.put {w : World} {base bw g : Nat} {l m : Segs} {B : List UInt8} {ao : Option Addr} {cap : Nat} (h : WorkAt w base bw g l B) (hn : SegNew w base ao cap m) (hk : ∀ k off, ao = some ⟨k, off, none⟩ → k ≠ bw ∧ k ≠ g) : WorkAt (w.setCell ⟨bw, 0, none⟩ (.slice ao m.length cap)) base bw g m B := by
  have o := Only.setCell w ⟨bw, 0, none⟩ (.slice ao m.length cap)
  obtain ⟨_, _, h1, _, _⟩ := h.seg
  obtain ⟨cap2, h4, h5⟩ := h.byt
  refine ⟨⟨ao, cap, World.cell?_setCell_same _ _ _ h1, hn.same (fun k off e => o.heap k (hk k off e).1), fun k off e => ⟨(hk k off e).1, (hk k off e).2, by rw [o.size]; exact (hn.blk k off e).2⟩⟩, by rw [World.frozen?_setCell]; exact h.fz, ⟨cap2, h4, ?_⟩, h.row.same (by rw [o.size]; exact Nat.le_refl _) (o.heap g (fun e => h.ne e.symm)), h.ne, h.lo, by rw [o.size]; exact h.lt⟩
  exact (World.cell?_setCell_other _ _ _ _ (by intro e; cases e)).trans h5
theorem WorkAt.but {w w' : World} {base bw g b : Nat} {l : Segs} {B : List UInt8} (h : WorkAt w base bw g l B) (o : Only b w w') (hb1 : b ≠ bw) (hb2 : b ≠ g) {ao : Option Addr} {n cap : Nat} (hc : w.cell? ⟨bw, 0, none⟩ = some (.slice ao n cap)) (hk : ∀ k off, ao = some ⟨k, off, none⟩ → k ≠ b) : WorkAt w' base bw g l B := by
  obtain ⟨ao', cap', h1, h2, h3⟩ := h.seg
  obtain ⟨cap2, h4, h5⟩ := h.byt
  rw [hc] at h1
  simp only [Option.some.injEq, Value.slice.injEq] at h1
  obtain ⟨rfl, rfl, rfl⟩ := h1
  exact ⟨⟨ao, cap, (o.cell (p := ⟨bw, 0, none⟩) hb1.symm).trans hc, h2.same (fun k off hk2 => o.heap k (hk k off hk2)), fun k off hk2 => ⟨(h3 k off hk2).1, (h3 k off hk2).2.1, by rw [o.size]; exact (h3 k off hk2).2.2⟩⟩, (o.frozen (p := ⟨bw, 0, none⟩) hb1.symm).trans h.fz, ⟨cap2, h4, (o.cell (p := ⟨bw, 1, none⟩) hb1.symm).trans h5⟩, h.row.same (by rw [o.size]; exact Nat.le_refl _) (o.heap g hb2.symm), h.ne, h.lo, by rw [o.size]; exact h.lt⟩
theorem wpList_storeSeg {ops : Array Oper} {rest : List Oper} {o : Oper} {a : Act} {w : World} {Q : Exit → Act → World → Prop} (hgd : o.guard = none) (x y : Operand) (ho : o.op = .store 22 x y)
    {base bw g : Nat} {l m : Segs} {B : List UInt8} (n : Nat) (hmn : m.length = n) (hW : WorkAt w base bw g l B) (ao : Option Addr) (cap : Nat) (hx : a.eval x = .pointer (some ⟨bw, 0, none⟩)) (hy : a.eval y = .slice ao n cap) (hn : SegNew w base ao cap m) (hk : ∀ k off, ao = some ⟨k, off, none⟩ → k ≠ bw ∧ k ≠ g)
    (h : ∀ w', WorkAt w' base bw g m B → Only bw w w' → w'.cell? ⟨bw, 0, none⟩ = some (.slice ao n cap) → wpList Tryd.prog ops Q rest (a.put o.dst undef) w') : wpList Tryd.prog ops Q (o :: rest) a w := by
  refine wpList_plain hgd fun K hK => ?_
  obtain ⟨ao1, cap1, h1, _, _⟩ := hW.seg
  have hf := hW.fz
  have h3 : (Instr.storeAt 22 (.pointer (some ⟨bw, 0, none⟩)) (.slice ao n cap)).run Tryd.prog w = .ok () (w.setCell ⟨bw, 0, none⟩ (.slice ao n cap)) := by
    clear hK h ho hx hy
    go_simp
  subst hmn
  unfold Oper.wp execOp
  simp only [ho, hx, hy, Sem.run_bind, Sem.run_pure, Result.andThen_ok, h3]
  exact hK _ _ (h _ (hW.put hn hk) (Only.setCell w ⟨bw, 0, none⟩ _) (World.cell?_setCell_same _ _ _ h1))
set_option linter.unusedSimpArgs false in
set_option maxRecDepth 20000 in
set_option maxHeartbeats 4000000 in
theorem wtake_any (base bw g : Nat) (l m : Segs) (B : List UInt8) (c s a e0 : Int) (w : World) (h : WorkAt w base bw g l B) (hE : takeL l c = (m, (s, a), e0)) (hl5 : l.length ≤ 5000) (hwf : Wf l) (hT : TabAt w) :
    Calls Tryd.prog 47 #[.pointer (some ⟨bw, 0, none⟩), .int .i64 c] w fun e w' => e = .returned (.tuple #[.agg #[.int .i64 s, .int .i64 a], .int .i64 e0]) ∧ WorkAt w' base bw g m B ∧ Chg bw g w w' := by
  have hb0 : Below w.heap.size w (w.alloc (.cells #[.int .i64 0, .int .i64 0] 24)) := (Below.refl _ _).alloc (Nat.le_refl _) _
  have hW := h.below hb0
  have hT0 := hT.grow hb0
  have R0 := Row2.new w 24 (.int .i64 0) (.int .i64 0)
  have hlt := h.lt
  have hgl := h.row.lt
  obtain ⟨ao, cap, h1, h2, _⟩ := hW.seg
  have hml : m.length = l.length := by have := takeL_len l c; rw [hE] at this; exact this
  have HL := Lib.hid hml
  have H2 := Lib.hid h2
  have HW := Lib.hid hW
  have hne := h.ne
  have hlo := h.lo
  have HWl := Lib.hid h
  clear h hW h2 hT hml
  go_enter Tryd.func47, Tryd.ntmps47
  go_wp2_with (first
    | (go_at_call 15; refine (take_gen l c m s a e0 ao cap _ hE hl5 hwf H2.out.at H2.out.nil hT0).mono ?_; rintro e w1 ⟨⟨ao1, cap1, rfl, hn1⟩, hb1⟩; have hW1 := HW.out.below hb1; have R1 := R0.below hb1 R0.lt; have hsz1 := hb1.size; have hn1b := hn1.blk)
    | (refine wpList_store2 rfl 24 size24 (.tmp 7) (.tmp 17) rfl w1.heap.size (.int .i64 s) (.int .i64 a) (.int .i64 0) (.int .i64 0) rfl rfl rfl rfl (Row2.new w1 24 _ _) ?_; intro w2 hr2 hon2; have hb2 := hon2.fresh; have hW2 := hW1.below hb2; have R2 := R1.below hb2 R1.lt; have hn2 := hn1.below hb2; have hsz2 := hr2.lt; have hszA : (w.alloc (.cells #[.int .i64 0, .int .i64 0] 24)).heap.size = w.heap.size + 1 := by simp)
    | (refine wpList_storeSeg rfl (.tmp 22) (.tmp 20) rfl l.length HL.out hW2 ao1 cap1 rfl rfl (hn2.mono (by omega)) (fun k off e => by have := (hn1b k off e).1; omega) ?_; intro w3 hW3 hon3 hc3; have HC3 := Lib.hid hc3; clear hc3; have r3 := (hon3.heap w1.heap.size (by omega)).trans hr2; have R3 := (hon3.heap w.heap.size (by omega)).trans R2; have d0 := Row2.c0 r3; have d1 := Row2.c1 r3; have hs3 := hon3.size)
    | (refine wpList_store2 rfl 24 size24 (.tmp 4) (.tmp 23) rfl w.heap.size (.int .i64 s) (.int .i64 a) (.int .i64 0) (.int .i64 0) rfl rfl rfl rfl R3 ?_; intro w4 hr4 hon4; have hs4 := hon4.size))
  have hc := (((Chg.of (bw := bw) (g := g) ((hb0.link hb1).link hb2)).trans (Chg.ofOnlyW hon3)))
  refine bodyPost_ret (res2_24 rfl _ _ w.heap.size _ _ hr4 rfl) rfl ⟨rfl, hW3.but hon4 (by omega) (by omega) HC3.out (fun k off e => by have := (hn1b k off e).1; omega), ⟨hon4.os.trans hc.os, hon4.tape.trans hc.tape, hon4.output.trans hc.output, by have := hc.size; omega, fun k hk h1 h2 => (hon4.heap k (by omega)).trans (hc.block k hk h1 h2)⟩⟩
end Go.Proofs.YtfnokklcbmipgaaDoor
