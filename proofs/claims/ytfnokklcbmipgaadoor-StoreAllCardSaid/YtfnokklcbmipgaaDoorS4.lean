/- span, lay. -/
import Derived.Test.YtfnokklcbmipgaaDoorS3
import Derived.Deep.DrawnRows
import Derived.Deep.RegionHeld3
namespace Go.Proofs.YtfnokklcbmipgaaDoor
open Go.RowKit Plain

set_option maxHeartbeats 1000000 in
theorem span_any (ao : Option Addr) (l : Segs) (cap k n f t : Nat) (w : World) (h : SegAt w ao l) (hk : k < l.length) (hl : l.length ≤ 5000) (hn : n < 64) (hf : f = k * 512 + n * bN (l.getD k (0, 0)).1) (ht : t = f + bN (l.getD k (0, 0)).1) : Calls Tryd.prog 50 #[.slice ao l.length cap, .agg #[.int .i64 k, .int .i64 n]] w fun e w' => e = .returned (.tuple #[.int .i64 f, .int .i64 t]) ∧ Below w.heap.size w w' := by
  have hb0 : Below w.heap.size w (w.alloc (.cells #[.int .i64 k, .int .i64 n] 24)) := (Below.refl _ _).alloc (Nat.le_refl _) _
  obtain ⟨b, off, rfl, hbl, hc⟩ := (h.more (.cells #[.int .i64 k, .int .i64 n] 24)).cell k hk
  obtain ⟨g1, _⟩ := hc k hk
  have HB : Hid (bytesC (l.getD k (0, 0)).1 = (bN (l.getD k (0, 0)).1 : Int)) := bN_cast _
  have hb64 := bN_le (l.getD k (0, 0)).1
  obtain ⟨c, hcc⟩ : ∃ c, c = (l.getD k (0, 0)).1 := ⟨_, rfl⟩
  rw [← hcc] at g1 HB hb64 hf ht
  obtain ⟨m, hm⟩ : ∃ m, m = bN c := ⟨_, rfl⟩
  rw [← hm] at HB hb64 hf ht
  have hnm : n * m ≤ 64 * 64 := Nat.mul_le_mul (by omega) hb64
  obtain ⟨q, hq⟩ : ∃ q, q = n * m := ⟨_, rfl⟩
  rw [← hq] at hf hnm
  have e1 : IntKind.i64.wrap ((k : Int) * 512) = (k : Int) * 512 := IntWalk.i64_in _ (by omega)
  have e2 : IntKind.i64.wrap ((n : Int) * (m : Int)) = (q : Int) := by
    have : (n : Int) * (m : Int) = (q : Int) := by rw [hq]; exact (Int.natCast_mul n m).symm
    rw [this]; exact IntWalk.i64_in _ (by omega)
  have e3 : IntKind.i64.wrap ((k : Int) * 512 + (q : Int)) = (f : Int) := by
    rw [IntWalk.i64_in _ (by omega)]; omega
  have e4 : IntKind.i64.wrap ((f : Int) + (m : Int)) = (t : Int) := by
    rw [IntWalk.i64_in _ (by omega)]; omega
  have hki : (k : Int) < (l.length : Int) := by omega
  clear h hc hcc hm hq hf ht hnm hb64
  go_enter Tryd.func50, Tryd.ntmps50
  go_wp2_with (go_at_call 41; refine (bytes_any _ _).mono ?_; rintro e w' ⟨rfl, rfl⟩; rw [HB.out])
  go_ret2
  exact ⟨rfl, hb0⟩
theorem elem66 : Tryd.prog.elem 66 = 5 := by simp [Program.elem]
theorem und66' : Tryd.prog.underlying 66 = some (.slice (Tryd.prog.elem 66)) := by rw [elem66]; exact und66
theorem und9 : Tryd.prog.underlying 9 = some .string := Tryd.underlying9
theorem add_off' (g o j : Nat) : (⟨g, o, none⟩ : Addr).add j = ⟨g, o + j, none⟩ := by unfold Addr.add; split <;> simp_all
/-- 'b[f:t:t]'. -/
theorem run_room (g n cap f t m : Nat) (ht : t = f + m) (hm : 0 < m) (hc : t ≤ cap) (W : World) :
    (Instr.slice 66 (.slice (some ⟨g, 0, none⟩) n cap) (some (.int .i64 f)) (some (.int .i64 t)) (some (.int .i64 t))).run Tryd.prog W = .ok (.slice (some ⟨g, f, none⟩) m m) W := by
  rw [run_slice_lhm W 66 _ _ _ und66' .i64 .i64 .i64 _ _ _ (by omega) (by omega) (by omega) (by omega), elem66, size5]
  have h1 : t ≠ f := by omega
  have h2 : t - f = m := by omega
  simp [Result.andThen, sliced, h1, h2, add_off']
/-- 'b[q:]'. -/
theorem run_behind (g f m q : Nat) (hq : q ≤ m) (W : World) :
    (Instr.slice 66 (.slice (some ⟨g, f, none⟩) m m) (some (.int .i64 q)) none none).run Tryd.prog W = .ok (.slice (some ⟨g, if m = q then f else f + q, none⟩) (m - q) (m - q)) W := by
  rw [run_slice_l W 66 _ _ _ und66' .i64 _ (by omega) (by omega), elem66, size5]
  by_cases h : m = q
  · simp [Result.andThen, sliced, h]
  · simp [Result.andThen, sliced, h, add_off']
/-- 's[q:]'. -/
theorem run_left (D : List UInt8) (q : Nat) (hq : q ≤ D.length) (W : World) :
    (Instr.slice 9 (.string (strB D)) (some (.int .i64 q)) none none).run Tryd.prog W = .ok (.string (strB (D.drop q))) W := by
  rw [run_slice_string_from_if W 9 _ .i64 _ und9, if_pos ⟨by omega, by rw [strB_size]; omega⟩, strB_cut, strB_size, List.take_length]
  rfl
set_option linter.unusedSimpArgs false in
set_option maxRecDepth 20000 in
set_option maxHeartbeats 4000000 in
theorem lay_any (base bw g : Nat) (l : Segs) (B D : List UInt8) (k n f m : Nat) (w : World) (h : WorkAt w base bw g l B) (hk : k < l.length) (hl : l.length ≤ 5000) (hn : n < 64) (hf : f = k * 512 + n * bN (l.getD k (0, 0)).1) (hm : m = bN (l.getD k (0, 0)).1) (hfit : f + m ≤ B.length) (hm0 : 0 < m) :
    Calls Tryd.prog 48 #[.pointer (some ⟨bw, 0, none⟩), .agg #[.int .i64 k, .int .i64 n], .string (strB D)] w fun e w' => e = .returned (.string (strB (D.drop m))) ∧ WorkAt w' base bw g l (layB B f m D) ∧ Chg bw g w w' := by
  have hb0 : Below w.heap.size w (w.alloc (.cells #[.int .i64 k, .int .i64 n] 24)) := (Below.refl _ _).alloc (Nat.le_refl _) _
  have hW := h.below hb0
  have hbw := h.lt
  have hgl := h.row.lt
  obtain ⟨t, ht⟩ : ∃ t, t = f + m := ⟨_, rfl⟩
  have ht2 : t = f + bN (l.getD k (0, 0)).1 := by rw [ht, hm]
  have HF := Lib.hid hf
  have HT := Lib.hid ht2
  clear hf ht2 hm h
  obtain ⟨ao, cap, hs, hnew, hdist⟩ := hW.seg
  have HS := Lib.hid hnew
  have HD := Lib.hid hdist
  clear hnew hdist
  obtain ⟨capB, hcapB, hbs⟩ := hW.byt
  have HW := Lib.hid hW
  have b0 : (w.alloc (.cells #[.int .i64 k, .int .i64 n] 24)).cell? ⟨w.heap.size, 0, none⟩ = some (.int .i64 k) := by simp
  have b1 : (w.alloc (.cells #[.int .i64 k, .int .i64 n] 24)).cell? ⟨w.heap.size, 1, none⟩ = some (.int .i64 n) := by simp
  clear hW
  go_enter Tryd.func48, Tryd.ntmps48
  go_wp2_with fail
  refine wp_region_held_drew (S := fun w' => Below (w.alloc (.cells #[.int .i64 k, .int .i64 n] 24)).heap.size (w.alloc (.cells #[.int .i64 k, .int .i64 n] 24)) w' ∧ w'.cell? ⟨bw, 0, none⟩ = some (.slice ao l.length cap) ∧ w'.cell? ⟨w.heap.size, 0, none⟩ = some (.int .i64 k) ∧ w'.cell? ⟨w.heap.size, 1, none⟩ = some (.int .i64 n)) (by kernel_rfl) ⟨(Below.refl _ _).drew, hs, b0, b1⟩ (fun hHeld => ?_)
  refine wpAnyH_take (i := 0) (v := ?_) (by simp only [List.getElem?_toArray, List.getElem?_cons_succ, List.getElem?_cons_zero]; rfl) (by kernel_rfl) (by kernel_rfl) (by kernel_rfl) (by intro _ _ _ h; exact h) (Or.inl ⟨by rfl, ?_⟩) (by assumption) ?_
  rotate_left
  · intro w' hSw
    obtain ⟨_, s0, s1, s2⟩ := hSw
    go_simp
    try with_reducible rfl
  try simp only [Act.put, List.setIfInBounds_toArray, List.set_cons_zero, List.set_cons_succ]
  refine wpAnyH_take (i := 1) (v := ?_) (by simp only [List.getElem?_toArray, List.getElem?_cons_succ, List.getElem?_cons_zero]; rfl) (by kernel_rfl) (by kernel_rfl) (by kernel_rfl) (by intro _ _ _ h; exact h) (Or.inl ⟨by rfl, ?_⟩) (by assumption) ?_
  rotate_left
  · intro w' hSw
    obtain ⟨_, s0, s1, s2⟩ := hSw
    go_simp
    try with_reducible rfl
  try simp only [Act.put, List.setIfInBounds_toArray, List.set_cons_zero, List.set_cons_succ]
  refine wpAnyH_take (i := 2) (v := ?_) (by simp only [List.getElem?_toArray, List.getElem?_cons_succ, List.getElem?_cons_zero]; rfl) (by kernel_rfl) (by kernel_rfl) (by kernel_rfl) (by intro _ _ _ h; exact h) (Or.inl ⟨by rfl, ?_⟩) (by assumption) ?_
  rotate_left
  · intro w' hSw
    obtain ⟨_, s0, s1, s2⟩ := hSw
    go_simp
    try with_reducible rfl
  try simp only [Act.put, List.setIfInBounds_toArray, List.set_cons_zero, List.set_cons_succ]
  refine wpAnyH_take (i := 3) (v := ?_) (by simp only [List.getElem?_toArray, List.getElem?_cons_succ, List.getElem?_cons_zero]; rfl) (by kernel_rfl) (by kernel_rfl) (by kernel_rfl) (by intro _ _ _ h; exact h) (Or.inl ⟨by rfl, ?_⟩) (by assumption) ?_
  rotate_left
  · intro w' hSw
    obtain ⟨_, s0, s1, s2⟩ := hSw
    go_simp
    try with_reducible rfl
  try simp only [Act.put, List.setIfInBounds_toArray, List.set_cons_zero, List.set_cons_succ]
  refine wpAnyH_take (i := 4) (v := ?_) (by simp only [List.getElem?_toArray, List.getElem?_cons_succ, List.getElem?_cons_zero]; rfl) (by kernel_rfl) (by kernel_rfl) (by kernel_rfl) (by intro _ _ _ h; exact h) (Or.inl ⟨by rfl, ?_⟩) (by assumption) ?_
  rotate_left
  · intro w' hSw
    obtain ⟨_, s0, s1, s2⟩ := hSw
    go_simp
    try with_reducible rfl
  try simp only [Act.put, List.setIfInBounds_toArray, List.set_cons_zero, List.set_cons_succ]
  refine wpAnyH_ready (rs := [5]) (by kernel_rfl) (by simp) ?_
  refine AllReadyH.cons (by simp only [List.getElem?_toArray, List.getElem?_cons_succ, List.getElem?_cons_zero]; rfl) (fun K hK => ?_) AllReadyH.nil
  go_simp
  refine (span_any ao l cap k n f t _ (HS.out.at.below hHeld.1) hk hl hn HF.out HT.out).mono ?_
  rintro e w' ⟨rfl, hb⟩
  have hS := hHeld.1.link hb
  have q0 := (hS.cell (p := ⟨bw, 0, none⟩) (by show bw < _; exact HW.out.lt)).trans hs
  have q1 := (hS.cell (p := ⟨w.heap.size, 0, none⟩) (by simp)).trans b0
  have q2 := (hS.cell (p := ⟨w.heap.size, 1, none⟩) (by simp)).trans b1
  go_wp2_with fail
  refine hK.out _ _ ⟨hS, q0, q1, q2⟩ (fun hHeld => ?_)
  clear hK
  try simp only [Act.put, List.setIfInBounds_toArray, List.set_cons_zero, List.set_cons_succ]
  refine wpAnyH_take (i := 6) (v := ?_) (by simp only [List.getElem?_toArray, List.getElem?_cons_succ, List.getElem?_cons_zero]; rfl) (by kernel_rfl) (by kernel_rfl) (by kernel_rfl) (by intro _ _ _ h; exact h) (Or.inl ⟨by rfl, ?_⟩) (by assumption) ?_
  rotate_left
  · intro w' hSw
    obtain ⟨_, s0, s1, s2⟩ := hSw
    go_simp
    try with_reducible rfl
  try simp only [Act.put, List.setIfInBounds_toArray, List.set_cons_zero, List.set_cons_succ]
  refine wpAnyH_take (i := 7) (v := ?_) (by simp only [List.getElem?_toArray, List.getElem?_cons_succ, List.getElem?_cons_zero]; rfl) (by kernel_rfl) (by kernel_rfl) (by kernel_rfl) (by intro _ _ _ h; exact h) (Or.inl ⟨by rfl, ?_⟩) (by assumption) ?_
  rotate_left
  · intro w' hSw
    obtain ⟨_, s0, s1, s2⟩ := hSw
    go_simp
    try with_reducible rfl
  try simp only [Act.put, List.setIfInBounds_toArray, List.set_cons_zero, List.set_cons_succ]
  refine wpAnyH_take (i := 8) (v := ?_) (by simp only [List.getElem?_toArray, List.getElem?_cons_succ, List.getElem?_cons_zero]; rfl) (by kernel_rfl) (by kernel_rfl) (by kernel_rfl) (by intro _ _ _ h; exact h) (Or.inl ⟨by rfl, ?_⟩) (by assumption) ?_
  rotate_left
  · intro w' hSw
    obtain ⟨_, s0, s1, s2⟩ := hSw
    go_simp
    try with_reducible rfl
  try simp only [Act.put, List.setIfInBounds_toArray, List.set_cons_zero, List.set_cons_succ]
  refine wpAnyH_take (i := 9) (v := ?_) (by simp only [List.getElem?_toArray, List.getElem?_cons_succ, List.getElem?_cons_zero]; rfl) (by kernel_rfl) (by kernel_rfl) (by kernel_rfl) (by intro _ _ _ h; exact h) (Or.inl ⟨by rfl, ?_⟩) (by assumption) ?_
  rotate_left
  · intro w' hSw
    obtain ⟨_, s0, s1, s2⟩ := hSw
    go_simp
    try with_reducible rfl
  try simp only [Act.put, List.setIfInBounds_toArray, List.set_cons_zero, List.set_cons_succ]
  refine wpAnyH_take (i := 10) (v := ?_) (by simp only [List.getElem?_toArray, List.getElem?_cons_succ, List.getElem?_cons_zero]; rfl) (by kernel_rfl) (by kernel_rfl) (by kernel_rfl) (by intro _ _ _ h; exact h) (Or.inl ⟨by rfl, ?_⟩) (by assumption) ?_
  rotate_left
  · intro w' hSw
    obtain ⟨_, s0, s1, s2⟩ := hSw
    go_simp
    try with_reducible rfl
  try simp only [Act.put, List.setIfInBounds_toArray, List.set_cons_zero, List.set_cons_succ]
  refine wpAnyH_done (by kernel_rfl) ?_ _
  rename World => wB
  obtain ⟨hbB, -, -, -⟩ := hHeld
  have HWB := Lib.hid (HW.out.below hbB)
  have hbs' := (hbB.cell (p := ⟨bw, 1, none⟩) (by show bw < _; exact HW.out.lt)).trans hbs
  obtain ⟨q, hq⟩ : ∃ q, q = min D.length m := ⟨_, rfl⟩
  have r1 := run_room g B.length capB f t m ht hm0 (by omega)
  have r2 : ∀ ty, (Builtin.copy_ #[66, 9] ty #[.slice (some ⟨g, f, none⟩) m m, .string (strB D)]).run Tryd.prog wB = .ok (goInt q) (wB.setCells g f (u8 (D.take m))) := fun ty => by
    rw [hq]
    exact run_copy_str wB ty g f m m D (fun j hj => by rw [HWB.out.row.cel (f + j) (by omega)]; rfl) (fun j hj => HWB.out.row.fro (f + j) (by omega))
  have r3 := run_behind g f m q (by omega)
  have r5 := run_left D q (by omega)
  have e5 : D.drop q = D.drop m := by
    rw [hq]
    by_cases h : D.length ≤ m
    · rw [List.drop_of_length_le (by omega), List.drop_of_length_le h]
    · rw [show min D.length m = m by omega]
  rw [e5] at r5
  have HC := Lib.hid ((Only.setCells g (u8 (D.take m)) f wB).trans (Only.setCells g (u8 (List.replicate (m - q) 0)) (f + q) _))
  have HBY := HWB.out.row.lay f m D hfit
  rw [← hq] at HBY
  obtain ⟨wC, hwC⟩ : ∃ wC, wC = wB.setCells g f (u8 (D.take m)) := ⟨_, rfl⟩
  have hcC : ∀ j, j < B.length → (wC.cell? ⟨g, j, none⟩).isSome = true := by
    intro j hj
    rw [hwC]
    by_cases h : f ≤ j ∧ j < f + (D.take m).length
    · have key := World.cell?_setCells_in g (u8 (D.take m)) f wB (fun i hi => by
        rw [u8_len] at hi
        rw [HWB.out.row.cel (f + i) (by rw [List.length_take] at hi; omega)]; rfl) (j - f) (by rw [u8_len]; omega)
      rw [show f + (j - f) = j by omega] at key
      rw [key]; rfl
    · rw [World.cell?_setCells_out g _ f wB _ (fun _ _ => by show j < f ∨ f + _ ≤ j; rw [u8_len]; omega), HWB.out.row.cel j hj]; rfl
  have hfC : ∀ j, j < B.length → wC.frozen? ⟨g, j, none⟩ = false := by
    intro j hj
    rw [hwC, World.frozen?_setCells]
    exact HWB.out.row.fro j hj
  have r4 : ∀ ty, (Builtin.clear_ #[66] ty #[.slice (some ⟨g, if m = q then f else f + q, none⟩) (m - q) (m - q)]).run Tryd.prog wC = .ok (.tuple #[]) (wC.setCells g (f + q) (u8 (List.replicate (m - q) 0))) := fun ty => by
    by_cases h : m = q
    · rw [if_pos h, run_clear_bytes wC ty g f (m - q) (m - q) (fun j hj => by omega) (fun j hj => by omega), show m - q = 0 by omega]
      rfl
    · rw [if_neg h]
      exact run_clear_bytes wC ty g (f + q) (m - q) (m - q) (fun j hj => hcC _ (by omega)) (fun j hj => hfC _ (by omega))
  rw [← hwC] at r2 HC HBY
  obtain ⟨wD, hwD⟩ : ∃ wD, wD = wC.setCells g (f + q) (u8 (List.replicate (m - q) 0)) := ⟨_, rfl⟩
  rw [← hwD] at r4 HC HBY
  obtain ⟨o2, ho2⟩ : ∃ o2, o2 = if m = q then f else f + q := ⟨_, rfl⟩
  rw [← ho2] at r3 r4
  have HBY2 := Lib.hid HBY
  clear HBY hcC hfC hwC hwD ho2 e5 hq
  go_wp2_with fail
  go_ret
  have e0 := Only.setCells
  refine ⟨rfl, ?_, (Chg.of (hb0.link hbB)).trans (Chg.ofOnlyG HC.out)⟩
  have hW := HWB.out
  have o := HC.out
  obtain ⟨ao', cap', s1, s2, s3⟩ := hW.seg
  obtain ⟨c2, s4, s5⟩ := hW.byt
  refine ⟨⟨ao', cap', (o.cell (p := ⟨bw, 0, none⟩) hW.ne).trans s1, s2.same (fun k off hk => o.heap k (s3 k off hk).2.1), fun k off hk => ⟨(s3 k off hk).1, (s3 k off hk).2.1, by rw [o.size]; exact (s3 k off hk).2.2⟩⟩, (o.frozen (p := ⟨bw, 0, none⟩) hW.ne).trans hW.fz, ⟨c2, by rw [layB_len D hfit]; exact s4, by rw [layB_len D hfit]; exact (o.cell (p := ⟨bw, 1, none⟩) hW.ne).trans s5⟩, HBY2.out, hW.ne, hW.lo, by rw [o.size]; exact hW.lt⟩
end Go.Proofs.YtfnokklcbmipgaaDoor
