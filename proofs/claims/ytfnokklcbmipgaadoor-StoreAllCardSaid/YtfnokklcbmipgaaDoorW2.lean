/- The head of layer 12's statements: awake. -/
import Derived.Test.YtfnokklcbmipgaaDoorW1
import Derived.Deep.RegionHeld3
namespace Go.Proofs.YtfnokklcbmipgaaDoor
open Go.RowKit Plain

/-- What is held while 'v' is asked for its first object. -/
def AwS (w0 : World) (b : Nat) (u v : Value) (g o : Nat) (x : Value) (ao : Option Addr) (l : Segs) (so : Option Addr) (ss : Slots) (w : World) : Prop :=
  w.cell? ⟨b, 0, none⟩ = some u ∧ w.cell? ⟨b, 1, none⟩ = some v ∧ w.cell? ⟨g, o, none⟩ = some x ∧ SegAt w ao l ∧ SlotsAt w so ss ∧ Below w0.heap.size w0 w ∧ b < w.heap.size ∧ g < w.heap.size
theorem AwS.below {w0 w w' : World} {b g o : Nat} {u v x : Value} {ao so : Option Addr} {l : Segs} {ss : Slots} (h : AwS w0 b u v g o x ao l so ss w) (hb : Below w.heap.size w w') : AwS w0 b u v g o x ao l so ss w' :=
  ⟨(hb.cell (p := ⟨b, 0, none⟩) h.2.2.2.2.2.2.1).trans h.1, (hb.cell (p := ⟨b, 1, none⟩) h.2.2.2.2.2.2.1).trans h.2.1, (hb.cell (p := ⟨g, o, none⟩) h.2.2.2.2.2.2.2).trans h.2.2.1, h.2.2.2.1.below hb, h.2.2.2.2.1.below hb, h.2.2.2.2.2.1.link hb, Nat.lt_of_lt_of_le h.2.2.2.2.2.2.1 hb.size, Nat.lt_of_lt_of_le h.2.2.2.2.2.2.2 hb.size⟩
attribute [local irreducible] Go.Calls
set_option linter.unusedSimpArgs false in
set_option maxRecDepth 20000 in
set_option maxHeartbeats 8000000 in
theorem awake12_any (w : World) (hT : TabAt w) : Calls Tryd.prog 24 #[] w fun e w' => e = .returned (.bool true) ∧ Below w.heap.size w w' := by
  obtain ⟨Z, hZ⟩ : ∃ Z, List.replicate (2 * 512) (0 : UInt8) = Z := ⟨_, rfl⟩
  have hZok := okSt_new (n := 2) (by omega)
  rw [hZ] at hZok
  obtain ⟨l1, B1, s1, l2, B2, s2, l3, B3, l4, B4, s4, L⟩ := awake_law
  have HE1 := Lib.hid L.e1
  rw [hZ] at HE1
  have HL := Lib.hid L
  have HZ := Lib.hid hZ
  have HZOK := Lib.hid hZok
  have hw0 := hT.2
  clear L hZ hZok
  have hh1 : Hid (strB hello = ⟨#[104, 101, 108, 108, 111, 44, 32, 119, 111, 114, 108, 100]⟩) := (rfl : strB hello = _)
  have hh2 : Hid (strB [120] = ⟨#[120]⟩) := (rfl : strB [120] = _)
  have hbad : Hid (decide (okSt [] (strB [120])) = false) := decide_eq_false (fun h => by have := h.size; simp [strB_size] at this)
  go_enter Tryd.func24, Tryd.ntmps24
  go_wp2_with (first
    | (go_at_call 32; refine (New_lit 2 w (by omega)).mono ?_; rintro e w1 ⟨⟨ao1, cap1, rfl, hs1⟩, hb1⟩; rw [HZ.out]; have hz1 := hb1.size; have T1 := hT.grow hb1)
    | (refine wpList_store2 rfl 51 size51 (.tmp 1) (.tmp 26) rfl w1.heap.size _ _ (.slice none 0 0) (.string ⟨#[]⟩) rfl rfl rfl rfl (Row2.new w1 51 _ _) ?_; intro w2 hr2 hon2; have hb2 := hon2.fresh; have hz2 := hr2.lt; have b0 := hr2.c0; have b1 := hr2.c1; have T2 := T1.grow hb2; have hs2 := hs1.below hb2)
    | (go_at_call 28; refine (Put_lit 2 (newS 2) l1 Z B1 hello s1 0 ao1 cap1 w2 HE1.out rfl HL.out.n1 (by omega) HZOK.out.ok.wf hs2.at hs2.nil T2 (by decide)).mono ?_; rintro e w3 ⟨⟨ao3, cap3, so3, sc3, rfl, hs3, hq3⟩, hb3⟩; have hz3 := hb3.size; have r3 := hr2.below hb3 hr2.lt; have T3 := T2.grow hb3)
    | (refine wpList_store2 rfl 51 size51 (.tmp 1) (.tmp 31) rfl w1.heap.size _ _ _ _ rfl rfl rfl rfl r3 ?_; intro w4 hr4 hon4; have hz4 := hon4.size; have c0 := hr4.c0; have c1 := hr4.c1; have T4 := T3.only hon4 (by omega); have hs4 := hs3.only hon4 (by omega); have hq4 := hq3.only hon4 (by omega))
    | (go_at_call 28; refine (Put_lit 2 l1 l2 B1 B2 [120] s2 0 ao3 cap3 w4 HL.out.e2 HL.out.n1 HL.out.n2 (by omega) HL.out.o1.ok.wf hs4.at hs4.nil T4 (by decide)).mono ?_; rintro e w5 ⟨⟨ao5, cap5, so5, sc5, rfl, hs5, hq5⟩, hb5⟩; have hz5 := hb5.size; have T5 := T4.grow hb5; have hq45 := hq4.below hb5)
    | (refine wpList_store2 rfl 51 size51 (.tmp 5) (.tmp 37) rfl w5.heap.size _ _ (.slice none 0 0) (.string ⟨#[]⟩) rfl rfl rfl rfl (Row2.new w5 51 _ _) ?_; intro w6 hr6 hon6; have hb6 := hon6.fresh; have hz6 := hr6.lt; have d0 := hr6.c0; have d1 := hr6.c1; have T6 := T5.grow hb6; have hs6 := hs5.below hb6; have hq6 := hq45.below hb6; have hp6 := hq5.below hb6)
    | (go_at_call 30; refine (Get_lit 2 _ l2 B2 hello s1 12 0 ao5 cap5 so3 sc3 w6 HL.out.e3 HL.out.n2 rfl (by omega) HL.out.o2.ok.wf hs6.at hq6.at (by have := HL.out.m1; omega)).mono ?_; rintro e w7 ⟨rfl, hb7⟩; rw [hh1.out]; have hz7 := hb7.size; have r7 := hr6.below hb7 hr6.lt; have d70 := r7.c0; have d71 := r7.c1; have T7 := T6.grow hb7; have hs7 := hs6.below hb7; have hq7 := hq6.below hb7; have hp7 := hp6.below hb7)
    | (go_at_call 31; refine (Drop_lit 2 _ l2 l3 B2 B3 s1 0 ao5 cap5 so3 sc3 w7 HL.out.e4 HL.out.n2 HL.out.n3 rfl (by omega) HL.out.o2.ok.wf hs7.at hs7.nil hq7.at (by have := HL.out.m1; omega)).mono ?_; rintro e w8 ⟨⟨ao8, cap8, rfl, hs8⟩, hb8⟩; have hz8 := hb8.size; have r8 := r7.below hb8 r7.lt; have T8 := T7.grow hb8; have hs78 := hs7.below hb8; have hq8 := hq7.below hb8; have hp8 := hp7.below hb8)
    | (refine wpList_store2 rfl 51 size51 (.tmp 10) (.tmp 50) rfl w8.heap.size _ _ (.slice none 0 0) (.string ⟨#[]⟩) rfl rfl rfl rfl (Row2.new w8 51 _ _) ?_; intro w9 hr9 hon9; have hb9 := hon9.fresh; have hz9 := hr9.lt; have r9 := r8.below hb9 r8.lt; have f0 := hr9.c0; have f1 := hr9.c1; have T9 := T8.grow hb9; have hs89 := hs8.below hb9; have hs79 := hs78.below hb9; have hq9 := hq8.below hb9; have hp9 := hp8.below hb9)
    | (go_at_call 30; refine (Get_lit 2 _ l3 B3 [] s1 1 120 ao8 cap8 so3 sc3 w9 HL.out.e5 HL.out.n3 rfl (by omega) HL.out.o3.ok.wf hs89.at hq9.at (by have := HL.out.m1; omega)).mono ?_; rintro e w10 ⟨rfl, hb10⟩; have hz10 := hb10.size; have r10 := r9.below hb10 r9.lt; have k10 := hr9.below hb10 hr9.lt; have g0 := k10.c0; have g1 := k10.c1; have T10 := T9.grow hb10; have hs810 := hs89.below hb10; have hs710 := hs79.below hb10; have hp10 := hp9.below hb10; have ha := (Below.refl w10.heap.size w10).alloc (Nat.le_refl _) (.cells #[.slice so5 s2.length sc5] 39); have Ta := T10.grow ha; have hsa := hs810.below ha; have hca := chain_one (scap := sc5) hp10.at)
    | (go_at_call 33; refine (Pack_lit 2 1 1 l3 l4 B3 B4 [s2] [s4] 0 ao8 cap8 _ 1 _ HL.out.e6 HL.out.n3 HL.out.n4 rfl rfl (by omega) HL.out.o3.ok.wf hsa.at hsa.nil Ta hca (by omega) (fun ss h => by rw [List.mem_singleton.1 h]; have := HL.out.m2; omega)).mono ?_; rintro e w11 ⟨⟨ao11, cap11, to11, tc11, rfl, hs11, hc11⟩, hb11⟩; have hz11 := hb11.size; have hB11 := ha.link hb11; have hz1011 := hB11.size; have r11 := r10.below hB11 r10.lt; have k11 := k10.below hB11 k10.lt; have hs711 := hs710.below hB11; have hs811 := hs810.below hB11; have T11 := T10.grow hB11)
    | (refine wpList_store2 rfl 51 size51 (.tmp 14) (.tmp 63) rfl w11.heap.size _ _ (.slice none 0 0) (.string ⟨#[]⟩) rfl rfl rfl rfl (Row2.new w11 51 _ _) ?_; intro w12 hr12 hon12; have hb12 := hon12.fresh; have hz12 := hr12.lt; have r12 := r11.below hb12 r11.lt; have k12 := k11.below hb12 k11.lt; have j0 := hr12.c0; have j1 := hr12.c1; have hs712 := hs711.below hb12; have hs812 := hs811.below hb12; have T12 := T11.grow hb12; have hs12 := hs11.below hb12; have hc12 := hc11.below hb12))
  obtain ⟨g, o, rfl, hg, hat⟩ : ∃ g o, to11 = some ⟨g, o, none⟩ ∧ g < w12.heap.size ∧ ∃ so sc, w12.cell? ⟨g, o, none⟩ = some (.slice so s4.length sc) ∧ SlotsAt w12 so s4 := by
    have hch := ChainsNew.at (chs := [s4]) hc12
    rcases hch with h | ⟨g, o, h1, h2, h3⟩
    · cases h
    · obtain ⟨v, h4, so, sc, rfl, h5⟩ := h3 0 (by simp)
      exact ⟨g, o, h1, h2, so, sc, h4, h5⟩
  obtain ⟨so4, sc4, hgc, hg4⟩ := hat
  have HLZ := Lib.hid HL.out.n4
  refine wp_region_held_drew (S := AwS w12 w11.heap.size (.slice ao11 2 cap11) (.string (strB B4)) g o (.slice so4 s4.length sc4) ao11 l4 so4 s4) (by kernel_rfl) ⟨j0, j1, hgc, hs12.at, hg4, (Below.refl _ _).drew, hz12, hg⟩ (fun hHeld => ?_)
  refine wpAnyH_take (i := 0) (v := ?_) (by simp only [List.getElem?_toArray, List.getElem?_cons_succ, List.getElem?_cons_zero]; rfl) (by kernel_rfl) (by kernel_rfl) (by kernel_rfl) (by intro _ _ _ h; exact h) (Or.inl ⟨by rfl, ?_⟩) (by assumption) ?_
  rotate_left
  · intro w' hSw
    obtain ⟨h0, h1, h2, _⟩ := hSw
    go_simp
    try with_reducible rfl
  try simp only [Act.put, List.setIfInBounds_toArray, List.set_cons_zero, List.set_cons_succ]
  refine wpAnyH_take (i := 1) (v := ?_) (by simp only [List.getElem?_toArray, List.getElem?_cons_succ, List.getElem?_cons_zero]; rfl) (by kernel_rfl) (by kernel_rfl) (by kernel_rfl) (by intro _ _ _ h; exact h) (Or.inl ⟨by rfl, ?_⟩) (by assumption) ?_
  rotate_left
  · intro w' hSw
    obtain ⟨h0, h1, h2, _⟩ := hSw
    go_simp
    try with_reducible rfl
  try simp only [Act.put, List.setIfInBounds_toArray, List.set_cons_zero, List.set_cons_succ]
  refine wpAnyH_take (i := 2) (v := ?_) (by simp only [List.getElem?_toArray, List.getElem?_cons_succ, List.getElem?_cons_zero]; rfl) (by kernel_rfl) (by kernel_rfl) (by kernel_rfl) (by intro _ _ _ h; exact h) (Or.inl ⟨by rfl, ?_⟩) (by assumption) ?_
  rotate_left
  · intro w' hSw
    obtain ⟨h0, h1, h2, _⟩ := hSw
    go_simp
    try with_reducible rfl
  try simp only [Act.put, List.setIfInBounds_toArray, List.set_cons_zero, List.set_cons_succ]
  refine wpAnyH_take (i := 3) (v := ?_) (by simp only [List.getElem?_toArray, List.getElem?_cons_succ, List.getElem?_cons_zero]; rfl) (by kernel_rfl) (by kernel_rfl) (by kernel_rfl) (by intro _ _ _ h; exact h) (Or.inl ⟨by rfl, ?_⟩) (by assumption) ?_
  rotate_left
  · intro w' hSw
    obtain ⟨h0, h1, h2, _⟩ := hSw
    go_simp
    try with_reducible rfl
  try simp only [Act.put, List.setIfInBounds_toArray, List.set_cons_zero, List.set_cons_succ]
  refine wpAnyH_ready (rs := [4]) (by kernel_rfl) (by simp) ?_
  refine AllReadyH.cons (by simp only [List.getElem?_toArray, List.getElem?_cons_succ, List.getElem?_cons_zero]; rfl) (fun K hK => ?_) AllReadyH.nil
  go_simp
  refine (Get_lit 2 _ l4 B4 [120] s4 1 0 ao11 cap11 so4 sc4 _ HL.out.e7 HL.out.n4 rfl (by omega) HL.out.o4.ok.wf hHeld.2.2.2.1 hHeld.2.2.2.2.1 (by have := HL.out.m4; omega)).mono ?_
  rintro e w' ⟨rfl, hb⟩
  rw [hh2.out]
  have hS := hHeld.below hb
  go_wp2_with fail
  refine hK.out _ _ hS (fun hHeld => ?_)
  clear hK
  try simp only [Act.put, List.setIfInBounds_toArray, List.set_cons_zero, List.set_cons_succ]
  refine wpAnyH_take (i := 5) (v := ?_) (by simp only [List.getElem?_toArray, List.getElem?_cons_succ, List.getElem?_cons_zero]; rfl) (by kernel_rfl) (by kernel_rfl) (by kernel_rfl) (by intro _ _ _ h; exact h) (Or.inl ⟨by rfl, ?_⟩) (by assumption) ?_
  rotate_left
  · intro w' hSw
    obtain ⟨h0, h1, h2, _⟩ := hSw
    go_simp
    try with_reducible rfl
  try simp only [Act.put, List.setIfInBounds_toArray, List.set_cons_zero, List.set_cons_succ]
  refine wpAnyH_take (i := 6) (v := ?_) (by simp only [List.getElem?_toArray, List.getElem?_cons_succ, List.getElem?_cons_zero]; rfl) (by kernel_rfl) (by kernel_rfl) (by kernel_rfl) (by intro _ _ _ h; exact h) (Or.inl ⟨by rfl, ?_⟩) (by assumption) ?_
  rotate_left
  · intro w' hSw
    obtain ⟨h0, h1, h2, _⟩ := hSw
    go_simp
    try with_reducible rfl
  try simp only [Act.put, List.setIfInBounds_toArray, List.set_cons_zero, List.set_cons_succ]
  refine wpAnyH_take (i := 7) (v := ?_) (by simp only [List.getElem?_toArray, List.getElem?_cons_succ, List.getElem?_cons_zero]; rfl) (by kernel_rfl) (by kernel_rfl) (by kernel_rfl) (by intro _ _ _ h; exact h) (Or.inl ⟨by rfl, ?_⟩) (by assumption) ?_
  rotate_left
  · intro w' hSw
    obtain ⟨h0, h1, h2, _⟩ := hSw
    go_simp
    try with_reducible rfl
  try simp only [Act.put, List.setIfInBounds_toArray, List.set_cons_zero, List.set_cons_succ]
  refine wpAnyH_take (i := 8) (v := ?_) (by simp only [List.getElem?_toArray, List.getElem?_cons_succ, List.getElem?_cons_zero]; rfl) (by kernel_rfl) (by kernel_rfl) (by kernel_rfl) (by intro _ _ _ h; exact h) (Or.inl ⟨by rfl, ?_⟩) (by assumption) ?_
  rotate_left
  · intro w' hSw
    obtain ⟨h0, h1, h2, _⟩ := hSw
    go_simp
    try with_reducible rfl
  try simp only [Act.put, List.setIfInBounds_toArray, List.set_cons_zero, List.set_cons_succ]
  refine wpAnyH_take (i := 9) (v := ?_) (by simp only [List.getElem?_toArray, List.getElem?_cons_succ, List.getElem?_cons_zero]; rfl) (by kernel_rfl) (by kernel_rfl) (by kernel_rfl) (by intro _ _ _ h; exact h) (Or.inl ⟨by rfl, ?_⟩) (by assumption) ?_
  rotate_left
  · intro w' hSw
    obtain ⟨h0, h1, h2, _⟩ := hSw
    go_simp
    try with_reducible rfl
  try simp only [Act.put, List.setIfInBounds_toArray, List.set_cons_zero, List.set_cons_succ]
  refine wpAnyH_done (by kernel_rfl) ?_ _
  rename World => w13
  have hb13 := hHeld.2.2.2.2.2.1
  have hz13 := hb13.size
  have k13 := k12.below hb13 k12.lt
  have n0 := k13.c0
  have n1 := k13.c1
  have r13 := r12.below hb13 r12.lt
  have hs813 := hs812.below hb13
  have hs713 := hs712.below hb13
  have T13 := T12.grow hb13
  go_wp2_with (first
    | (go_at_call 28; refine (Put_lit 2 l3 l3 B3 B3 [] [] 100 ao8 cap8 w13 HL.out.e8 HL.out.n3 HL.out.n3 (by omega) HL.out.o3.ok.wf hs813.at hs813.nil T13 (by decide)).mono ?_; rintro e w14 ⟨⟨ao14, cap14, so14, sc14, rfl, hs14, hq14⟩, hb14⟩; have hz14 := hb14.size; have r14 := r13.below hb14 r13.lt; have hs714 := hs713.below hb14)
    | (refine wpList_store2 rfl 51 size51 (.tmp 19) (.tmp 80) rfl w14.heap.size _ _ (.slice none 0 0) (.string ⟨#[]⟩) rfl rfl rfl rfl (Row2.new w14 51 _ _) ?_; intro w15 hr15 hon15; have hb15 := hon15.fresh; have hz15 := hr15.lt; have r15 := r14.below hb15 r14.lt; have hs715 := hs714.below hb15)
    | (go_at_call 32; refine (New_bad (-1) w15 (by omega)).mono ?_; rintro e w16 ⟨rfl, hb16⟩; have hz16 := hb16.size; have r16 := r15.below hb16 r15.lt; have hs716 := hs715.below hb16)
    | (refine wpList_store2 rfl 51 size51 (.tmp 22) (.tmp 85) rfl w16.heap.size _ _ (.slice none 0 0) (.string ⟨#[]⟩) rfl rfl rfl rfl (Row2.new w16 51 _ _) ?_; intro w17 hr17 hon17; have hb17 := hon17.fresh; have hz17 := hr17.lt; have r17 := r16.below hb17 r16.lt; have hs717 := hs716.below hb17; have t0 := r17.c0; have t1 := r17.c1)
    | (go_at_call 27; refine (scheck_lit 2 l2 B2 true ao5 cap5 w17 (decide_eq_true HL.out.o2) HL.out.n2 (by omega) HL.out.o2.ok.wf hs717.at).mono ?_; rintro e w18 ⟨rfl, hb18⟩; have hz18 := hb18.size)
    | (go_at_call 27; refine (scheck_lit 0 [] [120] false none 0 w18 hbad.out rfl (by omega) (fun g hg => by simp at hg) (.inl rfl)).mono ?_; rintro e w19 ⟨rfl, hb19⟩))
  go_ret
  have K4 : Below w.heap.size w w4 := hon4.below ((hb1.link hb2).link hb3) (by omega)
  exact ⟨rfl, ((((((K4.link hb5).link hb6).link hb7).link hb8).link hb9).link hb10).link (((hB11.link hb12).link hb13).link (((((hb14.link hb15).link hb16).link hb17).link hb18).link hb19))⟩
end Go.Proofs.YtfnokklcbmipgaaDoor
