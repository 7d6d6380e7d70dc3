/- The contract of drop's wipe. -/
import Derived.Test.YtfnokklcbmipgaaDoorS7
namespace Go.Proofs.YtfnokklcbmipgaaDoor
open Go.RowKit Plain

/-- Where a slot begins, and how many bytes it has. -/
def posN (l : Segs) (k n : Nat) : Nat := k * 512 + n * bN (l.getD k (0, 0)).1
def lenN (l : Segs) (k : Nat) : Nat := bN (l.getD k (0, 0)).1
theorem geo {c : Int} {n : Nat} (h : n < nS c) : 0 < bN c ∧ nS c * bN c = 512 := by
  unfold nS at *
  unfold bN bytesC
  (repeat' split at h) <;> simp_all
theorem geo_in {c : Int} {n : Nat} (h : n < nS c) : n * bN c + bN c ≤ 512 := by
  have h1 := (geo h).2
  have h2 : (n + 1) * bN c ≤ nS c * bN c := Nat.mul_le_mul_right _ h
  rw [Nat.add_mul, Nat.one_mul] at h2
  omega
theorem hasN_lt {l : Segs} {k n : Nat} (hok : okS l) (h : hasN l k n) : n < nS (l.getD k (0, 0)).1 := by
  have h1 := okSeg_bit (hok.2 _ (getD_mem h.1)) h.2
  exact bit_lt h.2 h1.2
theorem nS_64 (c : Int) : nS c ≤ 64 := nS_le c
theorem pos_fit {l : Segs} {k n : Nat} (hok : okS l) (h : hasN l k n) {B : List UInt8} (hB : B.length = l.length * 512) : posN l k n + lenN l k ≤ B.length := by
  have h1 := geo_in (hasN_lt hok h)
  have h2 := h.1
  unfold posN lenN
  omega
attribute [local irreducible] Go.Calls
set_option linter.unusedSimpArgs false in
set_option maxRecDepth 20000 in
set_option maxHeartbeats 4000000 in
theorem wipe_no (base bw g pb : Nat) (l : Segs) (B : List UInt8) (s a : Int) (w : World) (h : WorkAt w base bw g l B) (hp : w.cell? ⟨pb, 0, none⟩ = some (.pointer (some ⟨bw, 0, none⟩))) (hpl : pb < w.heap.size) (hno : ¬ (okS l ∧ hasL l s a)) (hwf : Wf l) :
    Calls Tryd.prog 55 #[.agg #[.int .i64 s, .int .i64 a], .pointer (some ⟨pb, 0, none⟩)] w fun e w' => e = .returned (.int .i64 120) ∧ Below w.heap.size w w' := by
  have hb0 : Below w.heap.size w (w.alloc (.cells #[.int .i64 s, .int .i64 a] 24)).drew := ((Below.refl _ _).alloc (Nat.le_refl _) _).drew
  have R0 : Row2 (w.alloc (.cells #[.int .i64 s, .int .i64 a] 24)).drew w.heap.size 24 (.int .i64 s) (.int .i64 a) := Row2.new w 24 _ _
  obtain ⟨ao, cap, h1, h2, _⟩ := h.seg
  have HS := Lib.hid h2.at
  have HD := Lib.hid (decide_eq_false hno)
  have hlt := h.lt
  have b0 := R0.c0
  have b1 := R0.c1
  have hq := (hb0.cell (p := ⟨pb, 0, none⟩) hpl).trans hp
  have h1' := (hb0.cell (p := ⟨bw, 0, none⟩) hlt).trans h1
  clear h h2 hno
  go_enter Tryd.func55, Tryd.ntmps55
  go_wp2_with fail
  refine wp_region_held_drew (S := fun w' => Below w.heap.size w w' ∧ w'.cell? ⟨bw, 0, none⟩ = some (.slice ao l.length cap) ∧ w'.cell? ⟨w.heap.size, 0, none⟩ = some (.int .i64 s) ∧ w'.cell? ⟨w.heap.size, 1, none⟩ = some (.int .i64 a) ∧ w'.cell? ⟨pb, 0, none⟩ = some (.pointer (some ⟨bw, 0, none⟩))) (by kernel_rfl) ⟨hb0, h1', b0, b1, hq⟩ (fun hHeld => ?_)
  refine wpAnyH_take (i := 0) (v := ?_) (by simp only [List.getElem?_toArray, List.getElem?_cons_succ, List.getElem?_cons_zero]; rfl) (by kernel_rfl) (by kernel_rfl) (by kernel_rfl) (by intro _ _ _ h; exact h) (Or.inl ⟨by rfl, ?_⟩) (by assumption) ?_
  rotate_left
  · intro w' hSw
    obtain ⟨_, s0, s1, s2, s3⟩ := hSw
    go_simp
    try with_reducible rfl
  try simp only [Act.put, List.setIfInBounds_toArray, List.set_cons_zero, List.set_cons_succ]
  refine wpAnyH_take (i := 1) (v := ?_) (by simp only [List.getElem?_toArray, List.getElem?_cons_succ, List.getElem?_cons_zero]; rfl) (by kernel_rfl) (by kernel_rfl) (by kernel_rfl) (by intro _ _ _ h; exact h) (Or.inl ⟨by rfl, ?_⟩) (by assumption) ?_
  rotate_left
  · intro w' hSw
    obtain ⟨_, s0, s1, s2, s3⟩ := hSw
    go_simp
    try with_reducible rfl
  try simp only [Act.put, List.setIfInBounds_toArray, List.set_cons_zero, List.set_cons_succ]
  refine wpAnyH_take (i := 2) (v := ?_) (by simp only [List.getElem?_toArray, List.getElem?_cons_succ, List.getElem?_cons_zero]; rfl) (by kernel_rfl) (by kernel_rfl) (by kernel_rfl) (by intro _ _ _ h; exact h) (Or.inl ⟨by rfl, ?_⟩) (by assumption) ?_
  rotate_left
  · intro w' hSw
    obtain ⟨_, s0, s1, s2, s3⟩ := hSw
    go_simp
    try with_reducible rfl
  try simp only [Act.put, List.setIfInBounds_toArray, List.set_cons_zero, List.set_cons_succ]
  refine wpAnyH_take (i := 3) (v := ?_) (by simp only [List.getElem?_toArray, List.getElem?_cons_succ, List.getElem?_cons_zero]; rfl) (by kernel_rfl) (by kernel_rfl) (by kernel_rfl) (by intro _ _ _ h; exact h) (Or.inl ⟨by rfl, ?_⟩) (by assumption) ?_
  rotate_left
  · intro w' hSw
    obtain ⟨_, s0, s1, s2, s3⟩ := hSw
    go_simp
    try with_reducible rfl
  try simp only [Act.put, List.setIfInBounds_toArray, List.set_cons_zero, List.set_cons_succ]
  refine wpAnyH_take (i := 4) (v := ?_) (by simp only [List.getElem?_toArray, List.getElem?_cons_succ, List.getElem?_cons_zero]; rfl) (by kernel_rfl) (by kernel_rfl) (by kernel_rfl) (by intro _ _ _ h; exact h) (Or.inl ⟨by rfl, ?_⟩) (by assumption) ?_
  rotate_left
  · intro w' hSw
    obtain ⟨_, s0, s1, s2, s3⟩ := hSw
    go_simp
    try with_reducible rfl
  try simp only [Act.put, List.setIfInBounds_toArray, List.set_cons_zero, List.set_cons_succ]
  refine wpAnyH_ready (rs := [5]) (by kernel_rfl) (by simp) ?_
  refine AllReadyH.cons (by simp only [List.getElem?_toArray, List.getElem?_cons_succ, List.getElem?_cons_zero]; rfl) (fun K hK => ?_) AllReadyH.nil
  go_simp
  refine (has_any ao l cap s a _ hwf (HS.out.below hHeld.1)).mono ?_
  rintro e w' ⟨rfl, hb⟩
  rw [HD.out]
  have hS := hHeld.1.link hb
  have q0 := (hS.cell (p := ⟨bw, 0, none⟩) hlt).trans h1
  have q1 := (hb.cell (p := ⟨w.heap.size, 0, none⟩) (by simp)).trans hHeld.2.2.1
  have q2 := (hb.cell (p := ⟨w.heap.size, 1, none⟩) (by simp)).trans hHeld.2.2.2.1
  have q3 := (hS.cell (p := ⟨pb, 0, none⟩) hpl).trans hp
  go_wp2_with fail
  refine hK.out _ _ ⟨hS, q0, q1, q2, q3⟩ (fun hHeld => ?_)
  clear hK
  try simp only [Act.put, List.setIfInBounds_toArray, List.set_cons_zero, List.set_cons_succ]
  refine wpAnyH_take (i := 6) (v := ?_) (by simp only [List.getElem?_toArray, List.getElem?_cons_succ, List.getElem?_cons_zero]; rfl) (by kernel_rfl) (by kernel_rfl) (by kernel_rfl) (by intro _ _ _ h; exact h) (Or.inl ⟨by rfl, ?_⟩) (by assumption) ?_
  rotate_left
  · intro w' hSw
    obtain ⟨_, s0, s1, s2, s3⟩ := hSw
    go_simp
    try with_reducible rfl
  try simp only [Act.put, List.setIfInBounds_toArray, List.set_cons_zero, List.set_cons_succ]
  refine wpAnyH_done (by kernel_rfl) ?_ _
  have hbE := hHeld.1
  go_wp2_with fail
  go_ret
  exact ⟨rfl, hbE⟩
set_option linter.unusedSimpArgs false in
set_option maxRecDepth 20000 in
set_option maxHeartbeats 4000000 in
theorem wipe_yes (base bw g pb : Nat) (l : Segs) (B : List UInt8) (k n : Nat) (w : World) (h : WorkAt w base bw g l B) (hp : w.cell? ⟨pb, 0, none⟩ = some (.pointer (some ⟨bw, 0, none⟩))) (hpl : pb < w.heap.size) (hpb : pb ≠ bw) (hpg : pb ≠ g) (hok : okS l) (hh : hasN l k n) (hB : B.length = l.length * 512) :
    Calls Tryd.prog 55 #[.agg #[.int .i64 k, .int .i64 n], .pointer (some ⟨pb, 0, none⟩)] w fun e w' => e = .returned (.int .i64 0) ∧ WorkAt w' base bw g (freeN l k n) (layB B (posN l k n) (lenN l k) []) ∧ Chg bw g w w' := by
  have hb0 : Below w.heap.size w (w.alloc (.cells #[.int .i64 k, .int .i64 n] 24)).drew := ((Below.refl _ _).alloc (Nat.le_refl _) _).drew
  have R0 : Row2 (w.alloc (.cells #[.int .i64 k, .int .i64 n] 24)).drew w.heap.size 24 (.int .i64 k) (.int .i64 n) := Row2.new w 24 _ _
  obtain ⟨ao, cap, h1, h2, _⟩ := h.seg
  have HS := Lib.hid h2.at
  have HW := Lib.hid h
  have hwf := hok.wf
  have hl200 := hok.1
  have HD := Lib.hid (decide_eq_true (⟨hok, (hasL_nat l k n).2 hh⟩ : okS l ∧ hasL l k n))
  have HF := Lib.hid (freeL_yes hok hh)
  have HFIT := Lib.hid (pos_fit hok hh hB)
  have HLT := Lib.hid (hasN_lt hok hh)
  have HM := Lib.hid (geo (hasN_lt hok hh)).1
  have hk := hh.1
  have hn64 : n < 64 := Nat.lt_of_lt_of_le HLT.out (nS_64 _)
  have hlt := h.lt
  have hgl := h.row.lt
  have b0 := R0.c0
  have b1 := R0.c1
  have hq := (hb0.cell (p := ⟨pb, 0, none⟩) hpl).trans hp
  have h1' := (hb0.cell (p := ⟨bw, 0, none⟩) hlt).trans h1
  clear h h2 hok hh
  go_enter Tryd.func55, Tryd.ntmps55
  go_wp2_with fail
  refine wp_region_held_drew (S := fun w' => Below w.heap.size w w' ∧ w'.cell? ⟨bw, 0, none⟩ = some (.slice ao l.length cap) ∧ w'.cell? ⟨w.heap.size, 0, none⟩ = some (.int .i64 k) ∧ w'.cell? ⟨w.heap.size, 1, none⟩ = some (.int .i64 n) ∧ w'.cell? ⟨pb, 0, none⟩ = some (.pointer (some ⟨bw, 0, none⟩))) (by kernel_rfl) ⟨hb0, h1', b0, b1, hq⟩ (fun hHeld => ?_)
  refine wpAnyH_take (i := 0) (v := ?_) (by simp only [List.getElem?_toArray, List.getElem?_cons_succ, List.getElem?_cons_zero]; rfl) (by kernel_rfl) (by kernel_rfl) (by kernel_rfl) (by intro _ _ _ h; exact h) (Or.inl ⟨by rfl, ?_⟩) (by assumption) ?_
  rotate_left
  · intro w' hSw
    obtain ⟨_, s0, s1, s2, s3⟩ := hSw
    go_simp
    try with_reducible rfl
  try simp only [Act.put, List.setIfInBounds_toArray, List.set_cons_zero, List.set_cons_succ]
  refine wpAnyH_take (i := 1) (v := ?_) (by simp only [List.getElem?_toArray, List.getElem?_cons_succ, List.getElem?_cons_zero]; rfl) (by kernel_rfl) (by kernel_rfl) (by kernel_rfl) (by intro _ _ _ h; exact h) (Or.inl ⟨by rfl, ?_⟩) (by assumption) ?_
  rotate_left
  · intro w' hSw
    obtain ⟨_, s0, s1, s2, s3⟩ := hSw
    go_simp
    try with_reducible rfl
  try simp only [Act.put, List.setIfInBounds_toArray, List.set_cons_zero, List.set_cons_succ]
  refine wpAnyH_take (i := 2) (v := ?_) (by simp only [List.getElem?_toArray, List.getElem?_cons_succ, List.getElem?_cons_zero]; rfl) (by kernel_rfl) (by kernel_rfl) (by kernel_rfl) (by intro _ _ _ h; exact h) (Or.inl ⟨by rfl, ?_⟩) (by assumption) ?_
  rotate_left
  · intro w' hSw
    obtain ⟨_, s0, s1, s2, s3⟩ := hSw
    go_simp
    try with_reducible rfl
  try simp only [Act.put, List.setIfInBounds_toArray, List.set_cons_zero, List.set_cons_succ]
  refine wpAnyH_take (i := 3) (v := ?_) (by simp only [List.getElem?_toArray, List.getElem?_cons_succ, List.getElem?_cons_zero]; rfl) (by kernel_rfl) (by kernel_rfl) (by kernel_rfl) (by intro _ _ _ h; exact h) (Or.inl ⟨by rfl, ?_⟩) (by assumption) ?_
  rotate_left
  · intro w' hSw
    obtain ⟨_, s0, s1, s2, s3⟩ := hSw
    go_simp
    try with_reducible rfl
  try simp only [Act.put, List.setIfInBounds_toArray, List.set_cons_zero, List.set_cons_succ]
  refine wpAnyH_take (i := 4) (v := ?_) (by simp only [List.getElem?_toArray, List.getElem?_cons_succ, List.getElem?_cons_zero]; rfl) (by kernel_rfl) (by kernel_rfl) (by kernel_rfl) (by intro _ _ _ h; exact h) (Or.inl ⟨by rfl, ?_⟩) (by assumption) ?_
  rotate_left
  · intro w' hSw
    obtain ⟨_, s0, s1, s2, s3⟩ := hSw
    go_simp
    try with_reducible rfl
  try simp only [Act.put, List.setIfInBounds_toArray, List.set_cons_zero, List.set_cons_succ]
  refine wpAnyH_ready (rs := [5]) (by kernel_rfl) (by simp) ?_
  refine AllReadyH.cons (by simp only [List.getElem?_toArray, List.getElem?_cons_succ, List.getElem?_cons_zero]; rfl) (fun K hK => ?_) AllReadyH.nil
  go_simp
  refine (has_any ao l cap k n _ hwf (HS.out.below hHeld.1)).mono ?_
  rintro e w' ⟨rfl, hb⟩
  rw [HD.out]
  have hS := hHeld.1.link hb
  have q0 := (hS.cell (p := ⟨bw, 0, none⟩) hlt).trans h1
  have q1 := (hb.cell (p := ⟨w.heap.size, 0, none⟩) (by simp)).trans hHeld.2.2.1
  have q2 := (hb.cell (p := ⟨w.heap.size, 1, none⟩) (by simp)).trans hHeld.2.2.2.1
  have q3 := (hS.cell (p := ⟨pb, 0, none⟩) hpl).trans hp
  go_wp2_with fail
  refine hK.out _ _ ⟨hS, q0, q1, q2, q3⟩ (fun hHeld => ?_)
  clear hK
  try simp only [Act.put, List.setIfInBounds_toArray, List.set_cons_zero, List.set_cons_succ]
  refine wpAnyH_take (i := 6) (v := ?_) (by simp only [List.getElem?_toArray, List.getElem?_cons_succ, List.getElem?_cons_zero]; rfl) (by kernel_rfl) (by kernel_rfl) (by kernel_rfl) (by intro _ _ _ h; exact h) (Or.inl ⟨by rfl, ?_⟩) (by assumption) ?_
  rotate_left
  · intro w' hSw
    obtain ⟨_, s0, s1, s2, s3⟩ := hSw
    go_simp
    try with_reducible rfl
  try simp only [Act.put, List.setIfInBounds_toArray, List.set_cons_zero, List.set_cons_succ]
  refine wpAnyH_done (by kernel_rfl) ?_ _
  rename World => w1
  obtain ⟨hbE, -, e1, e2, e3⟩ := hHeld
  have hW1 := HW.out.below hbE
  have hsz1 : w.heap.size < w1.heap.size := World.block_lt_of_cell? _ _ e1
  go_wp2_with (go_at_call 48; refine (lay_any base bw g l B [] k n (posN l k n) (lenN l k) w1 hW1 hk (by omega) hn64 rfl rfl HFIT.out HM.out).mono ?_; rintro e w2 ⟨rfl, hW2, hc2⟩; have f0 := (hc2.cell (p := ⟨pb, 0, none⟩) (by show pb < _; omega) hpb hpg).trans e3; have f1 := (hc2.cell (p := ⟨w.heap.size, 0, none⟩) hsz1 (by show w.heap.size ≠ _; omega) (by show w.heap.size ≠ _; omega)).trans e1; have f2 := (hc2.cell (p := ⟨w.heap.size, 1, none⟩) hsz1 (by show w.heap.size ≠ _; omega) (by show w.heap.size ≠ _; omega)).trans e2)
  obtain ⟨ao2, cap2, g1, g2, _⟩ := hW2.seg
  have hlt2 := hW2.lt
  have hsz2 := hc2.size
  have hd2 : ∀ w', Below w2.heap.size w2 w' → w'.cell? ⟨bw, 0, none⟩ = some (.slice ao2 l.length cap2) ∧ w'.cell? ⟨w.heap.size, 0, none⟩ = some (.int .i64 k) ∧ w'.cell? ⟨w.heap.size, 1, none⟩ = some (.int .i64 n) ∧ w'.cell? ⟨pb, 0, none⟩ = some (.pointer (some ⟨bw, 0, none⟩)) := fun w' hb => ⟨(hb.cell (p := ⟨bw, 0, none⟩) hlt2).trans g1, (hb.cell (p := ⟨w.heap.size, 0, none⟩) (by show w.heap.size < _; omega)).trans f1, (hb.cell (p := ⟨w.heap.size, 1, none⟩) (by show w.heap.size < _; omega)).trans f2, (hb.cell (p := ⟨pb, 0, none⟩) (by show pb < _; omega)).trans f0⟩
  have HD2 := Lib.hid hd2
  have H2 := Lib.hid g2
  clear hd2 g2
  refine wp_region_held_drew (S := fun w' => Below w2.heap.size w2 w' ∧ w'.cell? ⟨bw, 0, none⟩ = some (.slice ao2 l.length cap2) ∧ w'.cell? ⟨w.heap.size, 0, none⟩ = some (.int .i64 k) ∧ w'.cell? ⟨w.heap.size, 1, none⟩ = some (.int .i64 n) ∧ w'.cell? ⟨pb, 0, none⟩ = some (.pointer (some ⟨bw, 0, none⟩))) (by kernel_rfl) ⟨(Below.refl _ _).drew, HD2.out _ (Below.refl _ _).drew⟩ (fun hHeld => ?_)
  refine wpAnyH_take (i := 0) (v := ?_) (by simp only [List.getElem?_toArray, List.getElem?_cons_succ, List.getElem?_cons_zero]; rfl) (by kernel_rfl) (by kernel_rfl) (by kernel_rfl) (by intro _ _ _ h; exact h) (Or.inl ⟨by rfl, ?_⟩) (by assumption) ?_
  rotate_left
  · intro w' hSw
    obtain ⟨_, s0, s1, s2, s3⟩ := hSw
    go_simp
    try with_reducible rfl
  try simp only [Act.put, List.setIfInBounds_toArray, List.set_cons_zero, List.set_cons_succ]
  refine wpAnyH_take (i := 1) (v := ?_) (by simp only [List.getElem?_toArray, List.getElem?_cons_succ, List.getElem?_cons_zero]; rfl) (by kernel_rfl) (by kernel_rfl) (by kernel_rfl) (by intro _ _ _ h; exact h) (Or.inl ⟨by rfl, ?_⟩) (by assumption) ?_
  rotate_left
  · intro w' hSw
    obtain ⟨_, s0, s1, s2, s3⟩ := hSw
    go_simp
    try with_reducible rfl
  try simp only [Act.put, List.setIfInBounds_toArray, List.set_cons_zero, List.set_cons_succ]
  refine wpAnyH_take (i := 2) (v := ?_) (by simp only [List.getElem?_toArray, List.getElem?_cons_succ, List.getElem?_cons_zero]; rfl) (by kernel_rfl) (by kernel_rfl) (by kernel_rfl) (by intro _ _ _ h; exact h) (Or.inl ⟨by rfl, ?_⟩) (by assumption) ?_
  rotate_left
  · intro w' hSw
    obtain ⟨_, s0, s1, s2, s3⟩ := hSw
    go_simp
    try with_reducible rfl
  try simp only [Act.put, List.setIfInBounds_toArray, List.set_cons_zero, List.set_cons_succ]
  refine wpAnyH_take (i := 3) (v := ?_) (by simp only [List.getElem?_toArray, List.getElem?_cons_succ, List.getElem?_cons_zero]; rfl) (by kernel_rfl) (by kernel_rfl) (by kernel_rfl) (by intro _ _ _ h; exact h) (Or.inl ⟨by rfl, ?_⟩) (by assumption) ?_
  rotate_left
  · intro w' hSw
    obtain ⟨_, s0, s1, s2, s3⟩ := hSw
    go_simp
    try with_reducible rfl
  try simp only [Act.put, List.setIfInBounds_toArray, List.set_cons_zero, List.set_cons_succ]
  refine wpAnyH_take (i := 4) (v := ?_) (by simp only [List.getElem?_toArray, List.getElem?_cons_succ, List.getElem?_cons_zero]; rfl) (by kernel_rfl) (by kernel_rfl) (by kernel_rfl) (by intro _ _ _ h; exact h) (Or.inl ⟨by rfl, ?_⟩) (by assumption) ?_
  rotate_left
  · intro w' hSw
    obtain ⟨_, s0, s1, s2, s3⟩ := hSw
    go_simp
    try with_reducible rfl
  try simp only [Act.put, List.setIfInBounds_toArray, List.set_cons_zero, List.set_cons_succ]
  refine wpAnyH_ready (rs := [5]) (by kernel_rfl) (by simp) ?_
  refine AllReadyH.cons (by simp only [List.getElem?_toArray, List.getElem?_cons_succ, List.getElem?_cons_zero]; rfl) (fun K hK => ?_) AllReadyH.nil
  go_simp
  refine (free_lit l.length l (freeN l k n) k n 0 ao2 cap2 _ rfl HF.out.1 HF.out.2 (by omega) hwf (H2.out.at.below hHeld.1) H2.out.nil).mono ?_
  rintro e w' ⟨⟨ao3, cap3, rfl, hn3⟩, hb⟩
  have hge := hHeld.1.size
  have hS := hHeld.1.link hb
  go_wp2_with fail
  refine hK.out _ _ ⟨hS, HD2.out _ hS⟩ (fun hHeld => ?_)
  clear hK
  try simp only [Act.put, List.setIfInBounds_toArray, List.set_cons_zero, List.set_cons_succ]
  refine wpAnyH_take (i := 6) (v := ?_) (by simp only [List.getElem?_toArray, List.getElem?_cons_succ, List.getElem?_cons_zero]; rfl) (by kernel_rfl) (by kernel_rfl) (by kernel_rfl) (by intro _ _ _ h; exact h) (Or.inl ⟨by rfl, ?_⟩) (by assumption) ?_
  rotate_left
  · intro w' hSw
    obtain ⟨_, s0, s1, s2, s3⟩ := hSw
    go_simp
    try with_reducible rfl
  try simp only [Act.put, List.setIfInBounds_toArray, List.set_cons_zero, List.set_cons_succ]
  refine wpAnyH_take (i := 7) (v := ?_) (by simp only [List.getElem?_toArray, List.getElem?_cons_succ, List.getElem?_cons_zero]; rfl) (by kernel_rfl) (by kernel_rfl) (by kernel_rfl) (by intro _ _ _ h; exact h) (Or.inl ⟨by rfl, ?_⟩) (by assumption) ?_
  rotate_left
  · intro w' hSw
    obtain ⟨_, s0, s1, s2, s3⟩ := hSw
    go_simp
    try with_reducible rfl
  try simp only [Act.put, List.setIfInBounds_toArray, List.set_cons_zero, List.set_cons_succ]
  refine wpAnyH_take (i := 8) (v := ?_) (by simp only [List.getElem?_toArray, List.getElem?_cons_succ, List.getElem?_cons_zero]; rfl) (by kernel_rfl) (by kernel_rfl) (by kernel_rfl) (by intro _ _ _ h; exact h) (Or.inl ⟨by rfl, ?_⟩) (by assumption) ?_
  rotate_left
  · intro w' hSw
    obtain ⟨_, s0, s1, s2, s3⟩ := hSw
    go_simp
    try with_reducible rfl
  try simp only [Act.put, List.setIfInBounds_toArray, List.set_cons_zero, List.set_cons_succ]
  refine wpAnyH_take (i := 9) (v := ?_) (by simp only [List.getElem?_toArray, List.getElem?_cons_succ, List.getElem?_cons_zero]; rfl) (by kernel_rfl) (by kernel_rfl) (by kernel_rfl) (by intro _ _ _ h; exact h) (Or.inl ⟨by rfl, ?_⟩) (by assumption) ?_
  rotate_left
  · intro w' hSw
    obtain ⟨_, s0, s1, s2, s3⟩ := hSw
    go_simp
    try with_reducible rfl
  try simp only [Act.put, List.setIfInBounds_toArray, List.set_cons_zero, List.set_cons_succ]
  refine wpAnyH_take (i := 10) (v := ?_) (by simp only [List.getElem?_toArray, List.getElem?_cons_succ, List.getElem?_cons_zero]; rfl) (by kernel_rfl) (by kernel_rfl) (by kernel_rfl) (by intro _ _ _ h; exact h) (Or.inl ⟨by rfl, ?_⟩) (by assumption) ?_
  rotate_left
  · intro w' hSw
    obtain ⟨_, s0, s1, s2, s3⟩ := hSw
    go_simp
    try with_reducible rfl
  try simp only [Act.put, List.setIfInBounds_toArray, List.set_cons_zero, List.set_cons_succ]
  refine wpAnyH_done (by kernel_rfl) ?_ _
  rename World => w3
  obtain ⟨hb3, e0, e1, e2, e3⟩ := hHeld
  have hW3 := hW2.below hb3
  have hmn : (freeN l k n).length = l.length := by unfold freeN; rw [List.length_set]
  have hb3' := hn3.blk
  have hgl2 := hW2.row.lt
  have hlo := hW2.lo
  go_wp2_with (refine wpList_storeSeg rfl (.tmp 28) (.tmp 26) rfl l.length hmn hW3 ao3 cap3 rfl rfl (hn3.mono (by omega)) (fun k off e => by have := (hb3' k off e).1; omega) ?_; intro w4 hW4 hon4 hc4)
  go_ret
  exact ⟨rfl, hW4, (((Chg.of hbE).trans hc2).trans (Chg.of hb3)).trans (Chg.ofOnlyW hon4)⟩
end Go.Proofs.YtfnokklcbmipgaaDoor
