/- The contracts of same, begin, end, take. -/
import Derived.Test.YtfnokklcbmipgaaDoorS5
namespace Go.Proofs.YtfnokklcbmipgaaDoor
open Go.RowKit Plain

attribute [local irreducible] Go.Calls
/-- A store, handed back. -/
def StoreR (w : World) (base : Nat) (v : Value) (l : Segs) (B : List UInt8) : Prop := ∃ ao cap, v = .agg #[.slice ao l.length cap, .string (strB B)] ∧ SegNew w base ao cap l
/-- What is held while a value is built out of a box. -/
def RegS (w : World) (T : TypeId) (v0 v1 : Value) (w' : World) : Prop := Below w.heap.size w w' ∧ w.heap.size + 1 < w'.heap.size ∧ w'.cell? ⟨w.heap.size, 0, none⟩ = some v0 ∧ w'.cell? ⟨w.heap.size, 1, none⟩ = some v1 ∧ ∃ u v, Row2 w' (w.heap.size + 1) T u v
theorem RegS.start (w : World) (T T' : TypeId) (v0 v1 z0 z1 : Value) : RegS w T v0 v1 ((w.alloc (.cells #[v0, v1] T')).alloc (.cells #[z0, z1] T)).drew := by
  have r0 : Row2 ((w.alloc (.cells #[v0, v1] T')).alloc (.cells #[z0, z1] T)) w.heap.size T' v0 v1 := (Row2.new w T' _ _).below ((Below.refl _ _).alloc (Nat.le_refl _) _) (by simp)
  have r1 := Row2.new (w.alloc (.cells #[v0, v1] T')) T z0 z1
  have e : (w.alloc (.cells #[v0, v1] T')).heap.size = w.heap.size + 1 := by simp
  rw [e] at r1
  exact ⟨(((Below.refl _ _).alloc (Nat.le_refl _) _).alloc (by simp) _).drew, by show _ < ((w.alloc (.cells #[v0, v1] T')).alloc (.cells #[z0, z1] T)).heap.size; simp, r0.c0, r0.c1, _, _, r1⟩
theorem RegS.below {w a b : World} {T : TypeId} {v0 v1 : Value} (h : RegS w T v0 v1 a) (hb : Below a.heap.size a b) : RegS w T v0 v1 b := by
  obtain ⟨h1, h2, h3, h4, u, v, h5⟩ := h
  have := hb.size
  exact ⟨h1.link hb, by omega, (hb.cell (p := ⟨w.heap.size, 0, none⟩) (by show w.heap.size < _; omega)).trans h3, (hb.cell (p := ⟨w.heap.size, 1, none⟩) (by show w.heap.size < _; omega)).trans h4, u, v, h5.below hb h5.lt⟩
theorem RegS.only {w a b : World} {T : TypeId} {v0 v1 u v : Value} (h : RegS w T v0 v1 a) (ho : Only (w.heap.size + 1) a b) (hr : Row2 b (w.heap.size + 1) T u v) : RegS w T v0 v1 b := by
  obtain ⟨h1, h2, h3, h4, _⟩ := h
  exact ⟨ho.below h1 (by omega), by rw [ho.size]; exact h2, (ho.cell (p := ⟨w.heap.size, 0, none⟩) (by show w.heap.size ≠ _; omega)).trans h3, (ho.cell (p := ⟨w.heap.size, 1, none⟩) (by show w.heap.size ≠ _; omega)).trans h4, u, v, hr⟩
set_option linter.unusedSimpArgs false in
set_option maxRecDepth 20000 in
set_option maxHeartbeats 4000000 in
theorem ssame_any (ao : Option Addr) (l : Segs) (cap : Nat) (B : List UInt8) (w : World) (hl : l.length ≤ 5000) (h : SegAt w ao l) (hn : ao = none → cap = 0) :
    Calls Tryd.prog 45 #[.agg #[.slice ao l.length cap, .string (strB B)]] w fun e w' => (∃ v, e = .returned v ∧ StoreR w' w.heap.size v l B) ∧ Below w.heap.size w w' := by
  have HS := Lib.hid h
  clear h
  go_enter Tryd.func45, Tryd.ntmps45
  go_wp2_with fail
  refine wp_region_held_drew (S := RegS w 51 (.slice ao l.length cap) (.string (strB B))) (by kernel_rfl) (RegS.start w 51 51 _ _ _ _) (fun hHeld => ?_)
  refine wpAnyH_take (i := 0) (v := ?_) (by simp only [List.getElem?_toArray, List.getElem?_cons_succ, List.getElem?_cons_zero]; rfl) (by kernel_rfl) (by kernel_rfl) (by kernel_rfl) (by intro _ _ _ h; exact h) (Or.inl ⟨by rfl, ?_⟩) (by assumption) ?_
  rotate_left
  · intro w' hSw
    obtain ⟨_, _, s0, s1, _⟩ := hSw
    go_simp
    try with_reducible rfl
  try simp only [Act.put, List.setIfInBounds_toArray, List.set_cons_zero, List.set_cons_succ]
  refine wpAnyH_take (i := 1) (v := ?_) (by simp only [List.getElem?_toArray, List.getElem?_cons_succ, List.getElem?_cons_zero]; rfl) (by kernel_rfl) (by kernel_rfl) (by kernel_rfl) (by intro _ _ _ h; exact h) (Or.inl ⟨by rfl, ?_⟩) (by assumption) ?_
  rotate_left
  · intro w' hSw
    obtain ⟨_, _, s0, s1, _⟩ := hSw
    go_simp
    try with_reducible rfl
  try simp only [Act.put, List.setIfInBounds_toArray, List.set_cons_zero, List.set_cons_succ]
  refine wpAnyH_take (i := 3) (v := ?_) (by simp only [List.getElem?_toArray, List.getElem?_cons_succ, List.getElem?_cons_zero]; rfl) (by kernel_rfl) (by kernel_rfl) (by kernel_rfl) (by intro _ _ _ h; exact h) (Or.inl ⟨by rfl, ?_⟩) (by assumption) ?_
  rotate_left
  · intro w' hSw
    obtain ⟨_, _, s0, s1, _⟩ := hSw
    go_simp
    try with_reducible rfl
  try simp only [Act.put, List.setIfInBounds_toArray, List.set_cons_zero, List.set_cons_succ]
  refine wpAnyH_take (i := 4) (v := ?_) (by simp only [List.getElem?_toArray, List.getElem?_cons_succ, List.getElem?_cons_zero]; rfl) (by kernel_rfl) (by kernel_rfl) (by kernel_rfl) (by intro _ _ _ h; exact h) (Or.inl ⟨by rfl, ?_⟩) (by assumption) ?_
  rotate_left
  · intro w' hSw
    obtain ⟨_, _, s0, s1, _⟩ := hSw
    go_simp
    try with_reducible rfl
  try simp only [Act.put, List.setIfInBounds_toArray, List.set_cons_zero, List.set_cons_succ]
  refine wpAnyH_ready (rs := [2]) (by kernel_rfl) (by simp) ?_
  refine AllReadyH.cons (by simp only [List.getElem?_toArray, List.getElem?_cons_succ, List.getElem?_cons_zero]; rfl) (fun K hK => ?_) AllReadyH.nil
  go_simp
  refine (clone_any ao l cap _ hl (HS.out.below hHeld.1) hn).mono ?_
  rintro e wB ⟨⟨ao2, cap2, rfl, hnew⟩, hb⟩
  have hS := hHeld.below hb
  have hge := hHeld.2.1
  go_wp2_with fail
  refine hK.out _ _ hS (fun hHeld => ?_)
  clear hK
  try simp only [Act.put, List.setIfInBounds_toArray, List.set_cons_zero, List.set_cons_succ]
  refine wpAnyH_take (i := 5) (v := ?_) (by simp only [List.getElem?_toArray, List.getElem?_cons_succ, List.getElem?_cons_zero]; rfl) (by kernel_rfl) (by kernel_rfl) (by kernel_rfl) (by intro _ _ _ h; exact h) (Or.inl ⟨by rfl, ?_⟩) (by assumption) ?_
  rotate_left
  · intro w' hSw
    obtain ⟨_, _, s0, s1, _⟩ := hSw
    go_simp
    try with_reducible rfl
  try simp only [Act.put, List.setIfInBounds_toArray, List.set_cons_zero, List.set_cons_succ]
  refine wpAnyH_ready (rs := [6]) (by kernel_rfl) (by simp) ?_
  refine AllReadyH.cons (by simp only [List.getElem?_toArray, List.getElem?_cons_succ, List.getElem?_cons_zero]; rfl) (fun K hK => ?_) AllReadyH.nil
  obtain ⟨u0, v0, hr0⟩ := hS.2.2.2.2
  refine step_store2 rfl 51 size51 (.tmp 2) (.tmp 8) rfl (w.heap.size + 1) (.slice ao2 l.length cap2) (.string (strB B)) _ _ rfl rfl rfl rfl hr0 ?_
  intro wC hrC honC
  have hnC : SegNew wC w.heap.size ao2 cap2 l := by
    refine (hnew.mono (by omega)).same (fun k off hk => honC.heap k ?_)
    have h2 := World.ownsRow.lt hnew k (by rw [hk]; rfl)
    omega
  have hSC := hS.only honC hrC
  refine hK.out _ _ hSC (fun hHeld => ?_)
  clear hK
  try simp only [Act.put, List.setIfInBounds_toArray, List.set_cons_zero, List.set_cons_succ]
  refine wpAnyH_done (by kernel_rfl) ?_ _
  go_wp2_with fail
  refine bodyPost_ret (res1_51 rfl _ _ (w.heap.size + 1) _ _ hrC rfl) rfl ⟨⟨_, rfl, ao2, cap2, rfl, hnC⟩, hSC.1⟩
/-- A store that is to be changed, handed back. -/
def WorkR (w : World) (base g : Nat) (v : Value) (l : Segs) (B : List UInt8) : Prop := ∃ ao cap capB, v = .agg #[.slice ao l.length cap, .slice (some ⟨g, 0, none⟩) B.length capB] ∧ SegNew w base ao cap l ∧ B.length ≤ capB ∧ BytesAt w g B ∧ base ≤ g ∧ ∀ k off, ao = some ⟨k, off, none⟩ → k ≠ g ∧ k < w.heap.size
theorem SegNew.blk {w : World} {base cap : Nat} {ao : Option Addr} {l : Segs} (h : SegNew w base ao cap l) : ∀ k off, ao = Option.some ⟨k, off, none⟩ → base ≤ k ∧ k < w.heap.size := by
  intro k off hk
  exact World.ownsRow.lt h k (by rw [hk]; rfl)
theorem WorkR.make {w' : World} {base g bw : Nat} {ao : Option Addr} {cap capB : Nat} {l : Segs} {B : List UInt8} (hr : Row2 w' bw 82 (.slice ao l.length cap) (.slice (some ⟨g, 0, none⟩) B.length capB)) (h1 : SegNew w' base ao cap l) (h2 : B.length ≤ capB) (h3 : BytesAt w' g B) (h4 : base ≤ g) (h5 : base ≤ bw) (h6 : bw ≠ g) (h7 : ∀ k off, ao = some ⟨k, off, none⟩ → k ≠ g ∧ k ≠ bw) : WorkAt w' base bw g l B :=
  ⟨⟨ao, cap, hr.c0, h1, fun k off hk => ⟨(h7 k off hk).2, (h7 k off hk).1, (h1.blk k off hk).2⟩⟩, hr.fz 0, ⟨capB, h2, hr.c1⟩, h3, h6, ⟨h5, h4⟩, hr.lt⟩
set_option linter.unusedSimpArgs false in
set_option maxRecDepth 20000 in
set_option maxHeartbeats 4000000 in
theorem begin_any (ao : Option Addr) (l : Segs) (cap : Nat) (B : List UInt8) (w : World) (hl : l.length ≤ 5000) (h : SegAt w ao l) (hn : ao = none → cap = 0) :
    Calls Tryd.prog 46 #[.agg #[.slice ao l.length cap, .string (strB B)]] w fun e w' => (∃ v g, e = .returned v ∧ WorkR w' w.heap.size g v l B ∧ g < w'.heap.size) ∧ Below w.heap.size w w' := by
  have HS := Lib.hid h
  clear h
  go_enter Tryd.func46, Tryd.ntmps46
  go_wp2_with fail
  refine wp_region_held_drew (S := RegS w 82 (.slice ao l.length cap) (.string (strB B))) (by kernel_rfl) (RegS.start w 82 51 _ _ _ _) (fun hHeld => ?_)
  refine wpAnyH_take (i := 0) (v := ?_) (by simp only [List.getElem?_toArray, List.getElem?_cons_succ, List.getElem?_cons_zero]; rfl) (by kernel_rfl) (by kernel_rfl) (by kernel_rfl) (by intro _ _ _ h; exact h) (Or.inl ⟨by rfl, ?_⟩) (by assumption) ?_
  rotate_left
  · intro w' hSw
    obtain ⟨_, _, s0, s1, _⟩ := hSw
    go_simp
    try with_reducible rfl
  try simp only [Act.put, List.setIfInBounds_toArray, List.set_cons_zero, List.set_cons_succ]
  refine wpAnyH_take (i := 1) (v := ?_) (by simp only [List.getElem?_toArray, List.getElem?_cons_succ, List.getElem?_cons_zero]; rfl) (by kernel_rfl) (by kernel_rfl) (by kernel_rfl) (by intro _ _ _ h; exact h) (Or.inl ⟨by rfl, ?_⟩) (by assumption) ?_
  rotate_left
  · intro w' hSw
    obtain ⟨_, _, s0, s1, _⟩ := hSw
    go_simp
    try with_reducible rfl
  try simp only [Act.put, List.setIfInBounds_toArray, List.set_cons_zero, List.set_cons_succ]
  refine wpAnyH_take (i := 3) (v := ?_) (by simp only [List.getElem?_toArray, List.getElem?_cons_succ, List.getElem?_cons_zero]; rfl) (by kernel_rfl) (by kernel_rfl) (by kernel_rfl) (by intro _ _ _ h; exact h) (Or.inl ⟨by rfl, ?_⟩) (by assumption) ?_
  rotate_left
  · intro w' hSw
    obtain ⟨_, _, s0, s1, _⟩ := hSw
    go_simp
    try with_reducible rfl
  try simp only [Act.put, List.setIfInBounds_toArray, List.set_cons_zero, List.set_cons_succ]
  refine wpAnyH_take (i := 4) (v := ?_) (by simp only [List.getElem?_toArray, List.getElem?_cons_succ, List.getElem?_cons_zero]; rfl) (by kernel_rfl) (by kernel_rfl) (by kernel_rfl) (by intro _ _ _ h; exact h) (Or.inl ⟨by rfl, ?_⟩) (by assumption) ?_
  rotate_left
  · intro w' hSw
    obtain ⟨_, _, s0, s1, _⟩ := hSw
    go_simp
    try with_reducible rfl
  try simp only [Act.put, List.setIfInBounds_toArray, List.set_cons_zero, List.set_cons_succ]
  refine wpAnyH_ready (rs := [2, 5]) (by kernel_rfl) (by simp) ?_
  refine AllReadyH.cons (by simp only [List.getElem?_toArray, List.getElem?_cons_succ, List.getElem?_cons_zero]; rfl) (fun K hK => ?_) ?_
  · go_simp
    refine (clone_any ao l cap _ hl (HS.out.below hHeld.1) hn).mono ?_
    rintro e wB ⟨⟨ao2, cap2, rfl, hnew⟩, hb⟩
    have hS := hHeld.below hb
    have hge := hHeld.2.1
    go_wp2_with fail
    refine hK.out _ _ hS (fun hHeld => ?_)
    clear hK
    try simp only [Act.put, List.setIfInBounds_toArray, List.set_cons_zero, List.set_cons_succ]
    refine wpAnyH_ready (rs := [5]) (by kernel_rfl) (by simp) ?_
    refine AllReadyH.cons (by simp only [List.getElem?_toArray, List.getElem?_cons_succ, List.getElem?_cons_zero]; rfl) (fun K hK => ?_) AllReadyH.nil
    refine step_conv rfl (.tmp 7) rfl B rfl ?_
    intro capB wC hcap hby hbC
    have hnC := hnew.below hbC
    have hSC := hHeld.below hbC
    refine hK.out _ _ hSC (fun hHeld => ?_)
    clear hK
    try simp only [Act.put, List.setIfInBounds_toArray, List.set_cons_zero, List.set_cons_succ]
    refine wpAnyH_take (i := 6) (v := ?_) (by simp only [List.getElem?_toArray, List.getElem?_cons_succ, List.getElem?_cons_zero]; rfl) (by kernel_rfl) (by kernel_rfl) (by kernel_rfl) (by intro _ _ _ h; exact h) (Or.inl ⟨by rfl, ?_⟩) (by assumption) ?_
    rotate_left
    · intro w' hSw
      obtain ⟨_, _, s0, s1, _⟩ := hSw
      go_simp
      try with_reducible rfl
    try simp only [Act.put, List.setIfInBounds_toArray, List.set_cons_zero, List.set_cons_succ]
    refine wpAnyH_ready (rs := [7]) (by kernel_rfl) (by simp) ?_
    refine AllReadyH.cons (by simp only [List.getElem?_toArray, List.getElem?_cons_succ, List.getElem?_cons_zero]; rfl) (fun K hK => ?_) AllReadyH.nil
    obtain ⟨u0, v0, hr0⟩ := hSC.2.2.2.2
    refine step_store2 rfl 82 size82 (.tmp 2) (.tmp 9) rfl (w.heap.size + 1) (.slice ao2 l.length cap2) (.slice (some ⟨wB.heap.size, 0, none⟩) B.length capB) _ _ rfl rfl rfl rfl hr0 ?_
    intro wD hrD honD
    have hl2 := hb.size
    have hSD := hSC.only honD hrD
    have hnD : SegNew wD w.heap.size ao2 cap2 l := by
      refine (hnC.mono (by omega)).same (fun k off hk => honD.heap k ?_)
      have := (hnew.blk k off hk).1
      omega
    have hbD := hby.same (w' := wD) (by rw [honD.size]; exact Nat.le_refl _) (honD.heap _ (by omega))
    have hne : ∀ k off, ao2 = some ⟨k, off, none⟩ → k ≠ wB.heap.size ∧ k < wD.heap.size := fun k off hk => ⟨by have := (hnew.blk k off hk).2; omega, (hnD.blk k off hk).2⟩
    refine hK.out _ _ hSD (fun hHeld => ?_)
    clear hK
    try simp only [Act.put, List.setIfInBounds_toArray, List.set_cons_zero, List.set_cons_succ]
    refine wpAnyH_done (by kernel_rfl) ?_ _
    go_wp2_with fail
    refine bodyPost_ret (res1_82 rfl _ _ (w.heap.size + 1) _ _ hrD rfl) rfl ⟨⟨_, _, rfl, ⟨ao2, cap2, capB, rfl, hnD, hcap, hbD, by omega, hne⟩, hbD.lt⟩, hSD.1⟩
  · skip
    refine AllReadyH.cons (by simp only [List.getElem?_toArray, List.getElem?_cons_succ, List.getElem?_cons_zero]; rfl) (fun K hK => ?_) AllReadyH.nil
    refine step_conv rfl (.tmp 7) rfl B rfl ?_
    intro capB wC hcap hby hbC
    have hby : BytesAt wC (w.heap.size + 1 + 1) B := by simpa using hby
    have hSC := hHeld.below hbC
    have hge := hHeld.2.1
    refine hK.out _ _ hSC (fun hHeld => ?_)
    clear hK
    try simp only [Act.put, List.setIfInBounds_toArray, List.set_cons_zero, List.set_cons_succ]
    refine wpAnyH_ready (rs := [2]) (by kernel_rfl) (by simp) ?_
    refine AllReadyH.cons (by simp only [List.getElem?_toArray, List.getElem?_cons_succ, List.getElem?_cons_zero]; rfl) (fun K hK => ?_) AllReadyH.nil
    go_simp
    refine (clone_any ao l cap _ hl (HS.out.below hHeld.1) hn).mono ?_
    rintro e wB ⟨⟨ao2, cap2, rfl, hnew⟩, hb⟩
    have hSB := hHeld.below hb
    have hby2 := hby.same hb.size (hb.block _ hby.lt)
    have hlt := hby.lt
    go_wp2_with fail
    refine hK.out _ _ hSB (fun hHeld => ?_)
    clear hK
    try simp only [Act.put, List.setIfInBounds_toArray, List.set_cons_zero, List.set_cons_succ]
    refine wpAnyH_take (i := 6) (v := ?_) (by simp only [List.getElem?_toArray, List.getElem?_cons_succ, List.getElem?_cons_zero]; rfl) (by kernel_rfl) (by kernel_rfl) (by kernel_rfl) (by intro _ _ _ h; exact h) (Or.inl ⟨by rfl, ?_⟩) (by assumption) ?_
    rotate_left
    · intro w' hSw
      obtain ⟨_, _, s0, s1, _⟩ := hSw
      go_simp
      try with_reducible rfl
    try simp only [Act.put, List.setIfInBounds_toArray, List.set_cons_zero, List.set_cons_succ]
    refine wpAnyH_ready (rs := [7]) (by kernel_rfl) (by simp) ?_
    refine AllReadyH.cons (by simp only [List.getElem?_toArray, List.getElem?_cons_succ, List.getElem?_cons_zero]; rfl) (fun K hK => ?_) AllReadyH.nil
    obtain ⟨u0, v0, hr0⟩ := hSB.2.2.2.2
    refine step_store2 rfl 82 size82 (.tmp 2) (.tmp 9) rfl (w.heap.size + 1) (.slice ao2 l.length cap2) _ _ _ rfl rfl rfl rfl hr0 ?_
    intro wD hrD honD
    have hl2 := hb.size
    have hlC := hbC.size
    have hSD := hSB.only honD hrD
    have hnD : SegNew wD w.heap.size ao2 cap2 l := by
      refine (hnew.mono (by omega)).same (fun k off hk => honD.heap k ?_)
      have := (hnew.blk k off hk).1
      omega
    have hbD := hby2.same (w' := wD) (by rw [honD.size]; exact Nat.le_refl _) (honD.heap _ (by omega))
    refine hK.out _ _ hSD (fun hHeld => ?_)
    clear hK
    try simp only [Act.put, List.setIfInBounds_toArray, List.set_cons_zero, List.set_cons_succ]
    refine wpAnyH_done (by kernel_rfl) ?_ _
    go_wp2_with fail
    refine bodyPost_ret (res1_82 rfl _ _ (w.heap.size + 1) _ _ hrD rfl) rfl ⟨⟨_, _, rfl, ⟨ao2, cap2, capB, rfl, hnD, hcap, hbD, by omega, fun k off hk => ⟨by have := (hnew.blk k off hk).1; omega, (hnD.blk k off hk).2⟩⟩, hbD.lt⟩, hSD.1⟩
set_option linter.unusedSimpArgs false in
set_option maxRecDepth 20000 in
set_option maxHeartbeats 4000000 in
theorem end_any (base bw g : Nat) (l : Segs) (B : List UInt8) (w : World) (h : WorkAt w base bw g l B) :
    Calls Tryd.prog 49 #[.pointer (some ⟨bw, 0, none⟩)] w fun e w' => (∃ v, e = .returned v ∧ StoreR w' base v l B) ∧ Below w.heap.size w w' := by
  have hb0 : Below w.heap.size w (w.alloc (.cells #[.slice none 0 0, .string ⟨#[]⟩] 51)).drew := ((Below.refl _ _).alloc (Nat.le_refl _) _).drew
  have R0 : Row2 (w.alloc (.cells #[.slice none 0 0, .string ⟨#[]⟩] 51)).drew w.heap.size 51 (.slice none 0 0) (.string ⟨#[]⟩) := Row2.new w 51 (.slice none 0 0) (.string ⟨#[]⟩)
  obtain ⟨ao, cap, h1, h2, h3⟩ := h.seg
  obtain ⟨capB, h4, h5⟩ := h.byt
  have HW := Lib.hid h
  have HD := Lib.hid h3
  have H2 := Lib.hid h2
  have S0 : ∀ w', Below w.heap.size w w' → w'.cell? ⟨bw, 0, none⟩ = some (.slice ao l.length cap) ∧ w'.cell? ⟨bw, 1, none⟩ = some (.slice (some ⟨g, 0, none⟩) B.length capB) ∧ (convert 66 9 (.slice (some ⟨g, 0, none⟩) B.length capB)).run Tryd.prog w' = .ok (.string (strB B)) w' := fun w' hb =>
    ⟨(hb.cell (p := ⟨bw, 0, none⟩) HW.out.lt).trans h1, (hb.cell (p := ⟨bw, 1, none⟩) HW.out.lt).trans h5, run_back (HW.out.row.same hb.size (hb.block g HW.out.row.lt)) capB⟩
  have HS0 := Lib.hid S0
  clear h h3 h2 S0 h1 h5
  go_enter Tryd.func49, Tryd.ntmps49
  go_wp2_with fail
  refine wp_region_held_drew (S := fun w' => Below w.heap.size w w' ∧ w'.cell? ⟨bw, 0, none⟩ = some (.slice ao l.length cap) ∧ w'.cell? ⟨bw, 1, none⟩ = some (.slice (some ⟨g, 0, none⟩) B.length capB) ∧ (convert 66 9 (.slice (some ⟨g, 0, none⟩) B.length capB)).run Tryd.prog w' = .ok (.string (strB B)) w') (by kernel_rfl) ⟨hb0, HS0.out _ hb0⟩ (fun hHeld => ?_)
  refine wpAnyH_take (i := 0) (v := ?_) (by simp only [List.getElem?_toArray, List.getElem?_cons_succ, List.getElem?_cons_zero]; rfl) (by kernel_rfl) (by kernel_rfl) (by kernel_rfl) (by intro _ _ _ h; exact h) (Or.inl ⟨by rfl, ?_⟩) (by assumption) ?_
  rotate_left
  · intro w' hSw
    obtain ⟨_, s0, s1, s2⟩ := hSw
    go_simp
    try with_reducible rfl
  try simp only [Act.put, List.setIfInBounds_toArray, List.set_cons_zero, List.set_cons_succ]
  refine wpAnyH_take (i := 1) (v := ?_) (by simp only [List.getElem?_toArray, List.getElem?_cons_succ, List.getElem?_cons_zero]; rfl) (by kernel_rfl) (by kernel_rfl) (by kernel_rfl) (by intro _ _ _ h; exact h) (Or.inl ⟨by rfl, ?_⟩) (by assumption) ?_
  rotate_left
  · intro w' hSw
    obtain ⟨_, s0, s1, s2⟩ := hSw
    go_simp
    try with_reducible rfl
  try simp only [Act.put, List.setIfInBounds_toArray, List.set_cons_zero, List.set_cons_succ]
  refine wpAnyH_take (i := 2) (v := ?_) (by simp only [List.getElem?_toArray, List.getElem?_cons_succ, List.getElem?_cons_zero]; rfl) (by kernel_rfl) (by kernel_rfl) (by kernel_rfl) (by intro _ _ _ h; exact h) (Or.inl ⟨by rfl, ?_⟩) (by assumption) ?_
  rotate_left
  · intro w' hSw
    obtain ⟨_, s0, s1, s2⟩ := hSw
    go_simp
    try with_reducible rfl
  try simp only [Act.put, List.setIfInBounds_toArray, List.set_cons_zero, List.set_cons_succ]
  refine wpAnyH_take (i := 3) (v := ?_) (by simp only [List.getElem?_toArray, List.getElem?_cons_succ, List.getElem?_cons_zero]; rfl) (by kernel_rfl) (by kernel_rfl) (by kernel_rfl) (by intro _ _ _ h; exact h) (Or.inl ⟨by rfl, ?_⟩) (by assumption) ?_
  rotate_left
  · intro w' hSw
    obtain ⟨_, s0, s1, s2⟩ := hSw
    go_simp
    try with_reducible rfl
  try simp only [Act.put, List.setIfInBounds_toArray, List.set_cons_zero, List.set_cons_succ]
  refine wpAnyH_take (i := 4) (v := ?_) (by simp only [List.getElem?_toArray, List.getElem?_cons_succ, List.getElem?_cons_zero]; rfl) (by kernel_rfl) (by kernel_rfl) (by kernel_rfl) (by intro _ _ _ h; exact h) (Or.inl ⟨by rfl, ?_⟩) (by assumption) ?_
  rotate_left
  · intro w' hSw
    obtain ⟨_, s0, s1, s2⟩ := hSw
    go_simp
    try with_reducible rfl
  try simp only [Act.put, List.setIfInBounds_toArray, List.set_cons_zero, List.set_cons_succ]
  refine wpAnyH_take (i := 5) (v := ?_) (by simp only [List.getElem?_toArray, List.getElem?_cons_succ, List.getElem?_cons_zero]; rfl) (by kernel_rfl) (by kernel_rfl) (by kernel_rfl) (by intro _ _ _ h; exact h) (Or.inl ⟨by rfl, ?_⟩) (by assumption) ?_
  rotate_left
  · intro w' hSw
    obtain ⟨_, s0, s1, s2⟩ := hSw
    go_simp
    try with_reducible rfl
  try simp only [Act.put, List.setIfInBounds_toArray, List.set_cons_zero, List.set_cons_succ]
  refine wpAnyH_take (i := 6) (v := ?_) (by simp only [List.getElem?_toArray, List.getElem?_cons_succ, List.getElem?_cons_zero]; rfl) (by kernel_rfl) (by kernel_rfl) (by kernel_rfl) (by intro _ _ _ h; exact h) (Or.inl ⟨by rfl, ?_⟩) (by assumption) ?_
  rotate_left
  · intro w' hSw
    obtain ⟨_, s0, s1, s2⟩ := hSw
    go_simp
    try with_reducible rfl
  try simp only [Act.put, List.setIfInBounds_toArray, List.set_cons_zero, List.set_cons_succ]
  refine wpAnyH_take (i := 7) (v := ?_) (by simp only [List.getElem?_toArray, List.getElem?_cons_succ, List.getElem?_cons_zero]; rfl) (by kernel_rfl) (by kernel_rfl) (by kernel_rfl) (by intro _ _ _ h; exact h) (Or.inl ⟨by rfl, ?_⟩) (by assumption) ?_
  rotate_left
  · intro w' hSw
    obtain ⟨_, s0, s1, s2⟩ := hSw
    go_simp
    try with_reducible rfl
  try simp only [Act.put, List.setIfInBounds_toArray, List.set_cons_zero, List.set_cons_succ]
  refine wpAnyH_take (i := 8) (v := ?_) (by simp only [List.getElem?_toArray, List.getElem?_cons_succ, List.getElem?_cons_zero]; rfl) (by kernel_rfl) (by kernel_rfl) (by kernel_rfl) (by intro _ _ _ h; exact h) (Or.inl ⟨by rfl, ?_⟩) (by assumption) ?_
  rotate_left
  · intro w' hSw
    obtain ⟨_, s0, s1, s2⟩ := hSw
    go_simp
    try with_reducible rfl
  try simp only [Act.put, List.setIfInBounds_toArray, List.set_cons_zero, List.set_cons_succ]
  refine wpAnyH_take (i := 9) (v := ?_) (by simp only [List.getElem?_toArray, List.getElem?_cons_succ, List.getElem?_cons_zero]; rfl) (by kernel_rfl) (by kernel_rfl) (by kernel_rfl) (by intro _ _ _ h; exact h) (Or.inl ⟨by rfl, ?_⟩) (by assumption) ?_
  rotate_left
  · intro w' hSw
    obtain ⟨_, s0, s1, s2⟩ := hSw
    go_simp
    try with_reducible rfl
  try simp only [Act.put, List.setIfInBounds_toArray, List.set_cons_zero, List.set_cons_succ]
  refine wpAnyH_ready (rs := [10]) (by kernel_rfl) (by simp) ?_
  refine AllReadyH.cons (by simp only [List.getElem?_toArray, List.getElem?_cons_succ, List.getElem?_cons_zero]; rfl) (fun K hK => ?_) AllReadyH.nil
  refine step_store2 rfl 51 size51 (.tmp 2) (.tmp 12) rfl w.heap.size (.slice ao l.length cap) (.string (strB B)) _ _ rfl rfl rfl rfl R0 ?_
  intro wC hrC honC
  have hbC : Below w.heap.size w wC := honC.below hb0 (Nat.le_refl _)
  have hnC : SegNew wC base ao cap l := by
    refine H2.out.same (fun k off hk => hbC.block k (HD.out k off hk).2.2)
  refine hK.out _ _ ⟨hbC, HS0.out _ hbC⟩ (fun hHeld => ?_)
  clear hK
  try simp only [Act.put, List.setIfInBounds_toArray, List.set_cons_zero, List.set_cons_succ]
  refine wpAnyH_done (by kernel_rfl) ?_ _
  go_wp2_with fail
  refine bodyPost_ret (res1_51 rfl _ _ w.heap.size _ _ hrC rfl) rfl ⟨⟨_, rfl, ao, cap, rfl, hnC⟩, hbC⟩
end Go.Proofs.YtfnokklcbmipgaaDoor
