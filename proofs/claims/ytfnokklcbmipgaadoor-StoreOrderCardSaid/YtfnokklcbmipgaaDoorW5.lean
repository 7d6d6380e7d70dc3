/- StoreOrder: the walk. -/
import Derived.Test.YtfnokklcbmipgaaDoorW2
import Derived.Test.YtfnokklcbmipgaaDoorV6
namespace Go.Proofs.YtfnokklcbmipgaaDoor
open Go.RowKit Plain

theorem keep_old {w0 w w' : World} {c : Nat} (h : Below w0.heap.size w0 w) (o : Only c w w') (hc : w0.heap.size ≤ c) : Below w0.heap.size w0 w' := o.below h hc
theorem slot_some {w : World} {base cap : Nat} {ao : Option Addr} {l : Slots} (h : SlotsNew w base ao cap l) (hl : 0 < l.length) : ∃ g, ao = some ⟨g, 0, none⟩ := by
  rcases h.2 with ⟨_, hn⟩ | ⟨g, cap', cur, hv, _⟩
  · omega
  · simp only [Value.slice.injEq] at hv
    exact ⟨g, hv.1⟩
theorem slC_one (l : Slots) : ∀ u ∈ slC l, u.oneCell' = true := by
  intro u hu
  obtain ⟨g, _, hg⟩ := List.mem_flatMap.1 hu
  simp only [List.mem_cons, List.not_mem_nil, or_false] at hg
  rcases hg with rfl | rfl <;> rfl
theorem slot_news {w : World} {base cap g : Nat} {l : Slots} (h : SlotsNew w base (some ⟨g, 0, none⟩) cap l) : ∀ j u, (slC l)[j]? = some u → w.cell? ((⟨g, 0, none⟩ : Addr).add j) = some u := fun j u hj => row_first h (slC l).length j u (by rw [List.take_length]; exact hj)
theorem row_own_ne {w : World} {base b n size : Nat} {T e : TypeId} {u v v' : Value} {xs : List Value} (h : Row2 w b T u v) (k : w.ownsRow base e size v' n xs) (hne : T ≠ e) : some b ≠ v'.ownBlock := by
  rcases k.2 with ⟨rfl, _⟩ | ⟨g, c, r, rfl, _, hg, _⟩
  · intro x; cases x
  · intro x
    have x : b = g := by simpa [Value.ownBlock] using x
    subst x
    unfold Row2 at h
    rw [h] at hg
    simp only [Option.some.injEq, Obj.cells.injEq] at hg
    exact hne hg.2.1
theorem Row2.grown {w w' : World} {base b n size : Nat} {T e : TypeId} {u v v' : Value} {xs : List Value} (h : Row2 w b T u v) (k : w.ownsRow base e size v' n xs) (hne : T ≠ e) (hg : w.grownBy w' v'.ownBlock) : Row2 w' b T u v := (hg.block b h.lt (row_own_ne h k hne)).trans h
theorem both_own {w : World} {base cap : Nat} {ao : Option Addr} {m k : Slots} (h : w.ownsRow base 24 2 (.slice ao (m.length + k.length) cap) (m.length + k.length) (slC m ++ slC k)) : SlotsNew w base ao cap (m ++ k) := by
  unfold SlotsNew
  rw [← List.length_append, ← slC_app] at h
  exact h
attribute [local irreducible] Go.Calls
set_option linter.unusedSimpArgs false in
set_option maxRecDepth 20000 in
set_option maxHeartbeats 8000000 in
theorem order12_walk (a b c : List UInt8) (w : World) (hT : TabAt w) :
    Calls Tryd.prog 10 #[.string (strB a), .string (strB b), .string (strB c)] w fun e w' => e = .returned (.bool true) ∧ Below w.heap.size w w' := by
  have hw0 := hT.2
  obtain ⟨Z, hZ⟩ : ∃ Z, List.replicate (8 * 512) (0 : UInt8) = Z := ⟨_, rfl⟩
  have hZok := okSt_new (n := 8) (by omega)
  rw [hZ] at hZok
  have HZ := Lib.hid hZ
  have HZOK := Lib.hid hZok
  clear hZ hZok
  by_cases ha : a.length ≤ 300
  · have hda : decide ((300 : Int) < ((strB a).size : Int)) = false := decide_eq_false (by rw [strB_size]; omega)
    by_cases hb : b.length ≤ 300
    · have hdb : decide ((300 : Int) < ((strB b).size : Int)) = false := decide_eq_false (by rw [strB_size]; omega)
      by_cases hc : c.length ≤ 300
      · have hdc : decide ((300 : Int) < ((strB c).size : Int)) = false := decide_eq_false (by rw [strB_size]; omega)
        by_cases hne : a = [] ∨ b = [] ∨ c = []
        · skip
          obtain ⟨l1, B1, k, f, l2, B2, ll, g, l3, B3, m, h, E1, E2, E3, O1, O2, N1, N2, N3, hcase⟩ := order_bad HZOK.out ha hb hne
          have E1 := Lib.hid E1
          have E2 := Lib.hid E2
          have E3 := Lib.hid E3
          have O1 := Lib.hid O1
          have O2 := Lib.hid O2
          have N1 := Lib.hid N1
          have N2 := Lib.hid N2
          have N3 := Lib.hid N3
          have hemp : strB [] = ⟨#[]⟩ := rfl
          clear hne
          rcases hcase with ⟨rfl, rfl⟩ | ⟨hna, rfl, rfl, rfl⟩ | ⟨hna, hnb, rfl, rfl, rfl, rfl⟩
          · rw [hemp] at hda ⊢
            go_enter Tryd.func10, Tryd.ntmps10
            go_wp2_with (first
              | (go_at_call 24; refine (awake12_any w hT).mono ?_; rintro e w1 ⟨rfl, hb1⟩; have hz1 := hb1.size; have T1 := hT.grow hb1)
              | (go_at_call 32; refine (New_lit 8 w1 (by omega)).mono ?_; rintro e w2 ⟨⟨ao2, cap2, rfl, hs2⟩, hb2⟩; rw [HZ.out]; have hz2 := hb2.size; have T2 := T1.grow hb2)
              | (refine wpList_store2 rfl 51 size51 (.tmp 8) (.tmp 43) rfl w2.heap.size _ _ (.slice none 0 0) (.string ⟨#[]⟩) rfl rfl rfl rfl (Row2.new w2 51 _ _) ?_; intro w3 hr3 hon3; have hb3 := hon3.fresh; have hz3 := hr3.lt; have b0 := hr3.c0; have b1 := hr3.c1; have T3 := T2.grow hb3; have hs3 := hs2.below hb3)
              | (go_at_call 28; refine (Put_lit 8 (newS 8) l1 Z B1 _ k _ ao2 cap2 w3 E1.out rfl N1.out (by omega) HZOK.out.ok.wf hs3.at hs3.nil T3 (by first | omega | simp)).mono ?_; rintro e w4 ⟨⟨ao4, cap4, so4, sc4, rfl, hs4, hq4⟩, hb4⟩; have hz4 := hb4.size; have r4 := hr3.below hb4 hr3.lt; have T4 := T3.grow hb4)
              | (refine wpList_store2 rfl 51 size51 (.tmp 8) (.tmp 49) rfl w2.heap.size _ _ _ _ rfl rfl rfl rfl r4 ?_; intro w5 hr5 hon5; have hz5 := hon5.size; have c0 := hr5.c0; have c1 := hr5.c1; have T5 := T4.only hon5 (by omega); have hs5 := hs4.only hon5 (by omega))
              | (go_at_call 28; refine (Put_lit 8 l1 l2 B1 B2 _ ll _ ao4 cap4 w5 E2.out N1.out N2.out (by omega) O1.out.ok.wf hs5.at hs5.nil T5 (by first | omega | simp)).mono ?_; rintro e w6 ⟨⟨ao6, cap6, so6, sc6, rfl, hs6, hq6⟩, hb6⟩; have hz6 := hb6.size; have r6 := hr5.below hb6 hr5.lt; have T6 := T5.grow hb6)
              | (refine wpList_store2 rfl 51 size51 (.tmp 8) (.tmp 56) rfl w2.heap.size _ _ _ _ rfl rfl rfl rfl r6 ?_; intro w7 hr7 hon7; have hz7 := hon7.size; have d0 := hr7.c0; have d1 := hr7.c1; have T7 := T6.only hon7 (by omega); have hs7 := hs6.only hon7 (by omega))
              | (go_at_call 28; refine (Put_lit 8 l2 l3 B2 B3 _ m _ ao6 cap6 w7 E3.out N2.out N3.out (by omega) O2.out.ok.wf hs7.at hs7.nil T7 (by first | omega | simp)).mono ?_; rintro e w8 ⟨⟨ao8, cap8, so8, sc8, rfl, hs8, hq8⟩, hb8⟩; have hz8 := hb8.size; have r8 := hr7.below hb8 hr7.lt)
              | (refine wpList_store2 rfl 51 size51 (.tmp 8) (.tmp 63) rfl w2.heap.size _ _ _ _ rfl rfl rfl rfl r8 ?_; intro w9 hr9 hon9; have H9 : Below w.heap.size w w9 := hon9.below ((hon7.below ((hon5.below (((hb1.link hb2).link hb3).link hb4) (by omega)).link hb6) (by omega)).link hb8) (by omega)))
            all_goals (go_ret; exact ⟨rfl, H9⟩)
          · clear hna
            rw [hemp] at hdb ⊢
            go_enter Tryd.func10, Tryd.ntmps10
            go_wp2_with (first
              | (go_at_call 24; refine (awake12_any w hT).mono ?_; rintro e w1 ⟨rfl, hb1⟩; have hz1 := hb1.size; have T1 := hT.grow hb1)
              | (go_at_call 32; refine (New_lit 8 w1 (by omega)).mono ?_; rintro e w2 ⟨⟨ao2, cap2, rfl, hs2⟩, hb2⟩; rw [HZ.out]; have hz2 := hb2.size; have T2 := T1.grow hb2)
              | (refine wpList_store2 rfl 51 size51 (.tmp 8) (.tmp 43) rfl w2.heap.size _ _ (.slice none 0 0) (.string ⟨#[]⟩) rfl rfl rfl rfl (Row2.new w2 51 _ _) ?_; intro w3 hr3 hon3; have hb3 := hon3.fresh; have hz3 := hr3.lt; have b0 := hr3.c0; have b1 := hr3.c1; have T3 := T2.grow hb3; have hs3 := hs2.below hb3)
              | (go_at_call 28; refine (Put_lit 8 (newS 8) l1 Z B1 _ k _ ao2 cap2 w3 E1.out rfl N1.out (by omega) HZOK.out.ok.wf hs3.at hs3.nil T3 (by first | omega | simp)).mono ?_; rintro e w4 ⟨⟨ao4, cap4, so4, sc4, rfl, hs4, hq4⟩, hb4⟩; have hz4 := hb4.size; have r4 := hr3.below hb4 hr3.lt; have T4 := T3.grow hb4)
              | (refine wpList_store2 rfl 51 size51 (.tmp 8) (.tmp 49) rfl w2.heap.size _ _ _ _ rfl rfl rfl rfl r4 ?_; intro w5 hr5 hon5; have hz5 := hon5.size; have c0 := hr5.c0; have c1 := hr5.c1; have T5 := T4.only hon5 (by omega); have hs5 := hs4.only hon5 (by omega))
              | (go_at_call 28; refine (Put_lit 8 l1 l2 B1 B2 _ ll _ ao4 cap4 w5 E2.out N1.out N2.out (by omega) O1.out.ok.wf hs5.at hs5.nil T5 (by first | omega | simp)).mono ?_; rintro e w6 ⟨⟨ao6, cap6, so6, sc6, rfl, hs6, hq6⟩, hb6⟩; have hz6 := hb6.size; have r6 := hr5.below hb6 hr5.lt; have T6 := T5.grow hb6)
              | (refine wpList_store2 rfl 51 size51 (.tmp 8) (.tmp 56) rfl w2.heap.size _ _ _ _ rfl rfl rfl rfl r6 ?_; intro w7 hr7 hon7; have hz7 := hon7.size; have d0 := hr7.c0; have d1 := hr7.c1; have T7 := T6.only hon7 (by omega); have hs7 := hs6.only hon7 (by omega))
              | (go_at_call 28; refine (Put_lit 8 l2 l3 B2 B3 _ m _ ao6 cap6 w7 E3.out N2.out N3.out (by omega) O2.out.ok.wf hs7.at hs7.nil T7 (by first | omega | simp)).mono ?_; rintro e w8 ⟨⟨ao8, cap8, so8, sc8, rfl, hs8, hq8⟩, hb8⟩; have hz8 := hb8.size; have r8 := hr7.below hb8 hr7.lt)
              | (refine wpList_store2 rfl 51 size51 (.tmp 8) (.tmp 63) rfl w2.heap.size _ _ _ _ rfl rfl rfl rfl r8 ?_; intro w9 hr9 hon9; have H9 : Below w.heap.size w w9 := hon9.below ((hon7.below ((hon5.below (((hb1.link hb2).link hb3).link hb4) (by omega)).link hb6) (by omega)).link hb8) (by omega)))
            all_goals (go_ret; exact ⟨rfl, H9⟩)
          · clear hna hnb
            rw [hemp] at hdc ⊢
            go_enter Tryd.func10, Tryd.ntmps10
            go_wp2_with (first
              | (go_at_call 24; refine (awake12_any w hT).mono ?_; rintro e w1 ⟨rfl, hb1⟩; have hz1 := hb1.size; have T1 := hT.grow hb1)
              | (go_at_call 32; refine (New_lit 8 w1 (by omega)).mono ?_; rintro e w2 ⟨⟨ao2, cap2, rfl, hs2⟩, hb2⟩; rw [HZ.out]; have hz2 := hb2.size; have T2 := T1.grow hb2)
              | (refine wpList_store2 rfl 51 size51 (.tmp 8) (.tmp 43) rfl w2.heap.size _ _ (.slice none 0 0) (.string ⟨#[]⟩) rfl rfl rfl rfl (Row2.new w2 51 _ _) ?_; intro w3 hr3 hon3; have hb3 := hon3.fresh; have hz3 := hr3.lt; have b0 := hr3.c0; have b1 := hr3.c1; have T3 := T2.grow hb3; have hs3 := hs2.below hb3)
              | (go_at_call 28; refine (Put_lit 8 (newS 8) l1 Z B1 _ k _ ao2 cap2 w3 E1.out rfl N1.out (by omega) HZOK.out.ok.wf hs3.at hs3.nil T3 (by first | omega | simp)).mono ?_; rintro e w4 ⟨⟨ao4, cap4, so4, sc4, rfl, hs4, hq4⟩, hb4⟩; have hz4 := hb4.size; have r4 := hr3.below hb4 hr3.lt; have T4 := T3.grow hb4)
              | (refine wpList_store2 rfl 51 size51 (.tmp 8) (.tmp 49) rfl w2.heap.size _ _ _ _ rfl rfl rfl rfl r4 ?_; intro w5 hr5 hon5; have hz5 := hon5.size; have c0 := hr5.c0; have c1 := hr5.c1; have T5 := T4.only hon5 (by omega); have hs5 := hs4.only hon5 (by omega))
              | (go_at_call 28; refine (Put_lit 8 l1 l2 B1 B2 _ ll _ ao4 cap4 w5 E2.out N1.out N2.out (by omega) O1.out.ok.wf hs5.at hs5.nil T5 (by first | omega | simp)).mono ?_; rintro e w6 ⟨⟨ao6, cap6, so6, sc6, rfl, hs6, hq6⟩, hb6⟩; have hz6 := hb6.size; have r6 := hr5.below hb6 hr5.lt; have T6 := T5.grow hb6)
              | (refine wpList_store2 rfl 51 size51 (.tmp 8) (.tmp 56) rfl w2.heap.size _ _ _ _ rfl rfl rfl rfl r6 ?_; intro w7 hr7 hon7; have hz7 := hon7.size; have d0 := hr7.c0; have d1 := hr7.c1; have T7 := T6.only hon7 (by omega); have hs7 := hs6.only hon7 (by omega))
              | (go_at_call 28; refine (Put_lit 8 l2 l3 B2 B3 _ m _ ao6 cap6 w7 E3.out N2.out N3.out (by omega) O2.out.ok.wf hs7.at hs7.nil T7 (by first | omega | simp)).mono ?_; rintro e w8 ⟨⟨ao8, cap8, so8, sc8, rfl, hs8, hq8⟩, hb8⟩; have hz8 := hb8.size; have r8 := hr7.below hb8 hr7.lt)
              | (refine wpList_store2 rfl 51 size51 (.tmp 8) (.tmp 63) rfl w2.heap.size _ _ _ _ rfl rfl rfl rfl r8 ?_; intro w9 hr9 hon9; have H9 : Below w.heap.size w w9 := hon9.below ((hon7.below ((hon5.below (((hb1.link hb2).link hb3).link hb4) (by omega)).link hb6) (by omega)).link hb8) (by omega)))
            all_goals (go_ret; exact ⟨rfl, H9⟩)
        · have l1 : 1 ≤ a.length := List.length_pos_iff.2 (fun x => hne (.inl x))
          have l2 : 1 ≤ b.length := List.length_pos_iff.2 (fun x => hne (.inr (.inl x)))
          have l3 : 1 ≤ c.length := List.length_pos_iff.2 (fun x => hne (.inr (.inr x)))
          obtain ⟨l1, B1, k, l2, B2, ll, l3, B3, m, x1, X1, x, X, y1, Y1, L⟩ := order_law HZOK.out ⟨l1, ha⟩ ⟨l2, hb⟩ ⟨l3, hc⟩
          have HL := Lib.hid L
          have HGE : Hid (getS x X ll ((strB b).size : Int) = (b, 0)) := by show _ = _; rw [strB_size]; exact L.e9
          clear L hne
          go_enter Tryd.func10, Tryd.ntmps10
          go_wp2_with (first
            | (go_at_call 24; refine (awake12_any w hT).mono ?_; rintro e w1 ⟨rfl, hb1⟩; have hz1 := hb1.size; have T1 := hT.grow hb1)
            | (go_at_call 32; refine (New_lit 8 w1 (by omega)).mono ?_; rintro e w2 ⟨⟨ao2, cap2, rfl, hs2⟩, hb2⟩; rw [HZ.out]; have hz2 := hb2.size; have T2 := T1.grow hb2)
            | (refine wpList_store2 rfl 51 size51 (.tmp 8) (.tmp 43) rfl w2.heap.size _ _ (.slice none 0 0) (.string ⟨#[]⟩) rfl rfl rfl rfl (Row2.new w2 51 _ _) ?_; intro w3 hr3 hon3; have hb3 := hon3.fresh; have hz3 := hr3.lt; have b0 := hr3.c0; have b1 := hr3.c1; have T3 := T2.grow hb3; have hs3 := hs2.below hb3)
            | (go_at_call 28; refine (Put_lit 8 (newS 8) l1 Z B1 a k 0 ao2 cap2 w3 HL.out.e1 rfl HL.out.n1 (by omega) HZOK.out.ok.wf hs3.at hs3.nil T3 (by omega)).mono ?_; rintro e w4 ⟨⟨ao4, cap4, so4, sc4, rfl, hs4, hq4⟩, hb4⟩; have hz4 := hb4.size; have r4 := hr3.below hb4 hr3.lt; have T4 := T3.grow hb4)
            | (refine wpList_store2 rfl 51 size51 (.tmp 8) (.tmp 49) rfl w2.heap.size _ _ _ _ rfl rfl rfl rfl r4 ?_; intro w5 hr5 hon5; have hz5 := hon5.size; have c0 := hr5.c0; have c1 := hr5.c1; have T5 := T4.only hon5 (by omega); have hs5 := hs4.only hon5 (by omega); have hq5 := hq4.only hon5 (by omega))
            | (go_at_call 28; refine (Put_lit 8 l1 l2 B1 B2 b ll 0 ao4 cap4 w5 HL.out.e2 HL.out.n1 HL.out.n2 (by omega) HL.out.o1.ok.wf hs5.at hs5.nil T5 (by omega)).mono ?_; rintro e w6 ⟨⟨ao6, cap6, so6, sc6, rfl, hs6, hq6⟩, hb6⟩; have hz6 := hb6.size; have r6 := hr5.below hb6 hr5.lt; have T6 := T5.grow hb6; have hk6 := hq5.below hb6)
            | (refine wpList_store2 rfl 51 size51 (.tmp 8) (.tmp 56) rfl w2.heap.size _ _ _ _ rfl rfl rfl rfl r6 ?_; intro w7 hr7 hon7; have hz7 := hon7.size; have d0 := hr7.c0; have d1 := hr7.c1; have T7 := T6.only hon7 (by omega); have hs7 := hs6.only hon7 (by omega); have hq7 := hq6.only hon7 (by omega); have hk7 := hk6.only hon7 (by omega))
            | (go_at_call 28; refine (Put_lit 8 l2 l3 B2 B3 c m 0 ao6 cap6 w7 HL.out.e3 HL.out.n2 HL.out.n3 (by omega) HL.out.o2.ok.wf hs7.at hs7.nil T7 (by omega)).mono ?_; rintro e w8 ⟨⟨ao8, cap8, so8, sc8, rfl, hs8, hq8⟩, hb8⟩; have hz8 := hb8.size; have r8 := hr7.below hb8 hr7.lt; have T8 := T7.grow hb8; have hk8 := hk7.below hb8; have hl8 := hq7.below hb8)
            | (refine wpList_store2 rfl 51 size51 (.tmp 8) (.tmp 63) rfl w2.heap.size _ _ _ _ rfl rfl rfl rfl r8 ?_; intro w9 hr9 hon9; have hz9 := hon9.size; have e0 := hr9.c0; have e1 := hr9.c1; have hs9 := hs8.only hon9 (by omega); have hm9 := hq8.only hon9 (by omega); have hk9 := hk8.only hon9 (by omega); have hl9 := hl8.only hon9 (by omega); have H9 : Below w.heap.size w w9 := hon9.below ((hon7.below ((hon5.below (((hb1.link hb2).link hb3).link hb4) (by omega)).link hb6) (by omega)).link hb8) (by omega))
            | (go_at_call 31; refine (Drop_lit 8 _ l3 x1 B3 X1 k 0 ao8 cap8 so4 sc4 w9 HL.out.e4 HL.out.n3 HL.out.n4 rfl (by omega) HL.out.o3.ok.wf hs9.at hs9.nil hk9.at (by have := HL.out.s1; omega)).mono ?_; rintro e w10 ⟨⟨ao10, cap10, rfl, hs10⟩, hb10⟩; have hz10 := hb10.size)
            | (refine wpList_store2 rfl 51 size51 (.tmp 16) (.tmp 101) rfl w10.heap.size _ _ (.slice none 0 0) (.string ⟨#[]⟩) rfl rfl rfl rfl (Row2.new w10 51 _ _) ?_; intro w11 hr11 hon11; have hb11 := hon11.fresh; have hz11 := hr11.lt; have f0 := hr11.c0; have f1 := hr11.c1; have hs11 := hs10.below hb11; have hm11 := (hm9.below hb10).below hb11)
            | (go_at_call 31; refine (Drop_lit 8 _ x1 x X1 X m 0 ao10 cap10 so8 sc8 w11 HL.out.e5 HL.out.n4 HL.out.n5 rfl (by omega) HL.out.o4.ok.wf hs11.at hs11.nil hm11.at (by have := HL.out.s3; omega)).mono ?_; rintro e w12 ⟨⟨ao12, cap12, rfl, hs12⟩, hb12⟩; have hz12 := hb12.size; have r12 := hr11.below hb12 hr11.lt)
            | (refine wpList_store2 rfl 51 size51 (.tmp 16) (.tmp 107) rfl w10.heap.size _ _ _ _ rfl rfl rfl rfl r12 ?_; intro w13 hr13 hon13; have hz13 := hon13.size; have H13 := hb10.link (keep_old (hb11.link hb12) hon13 (Nat.le_refl _)); have r13 := hr9.below H13 hr9.lt; have g0 := r13.c0; have g1 := r13.c1; have hs13 := hs12.only hon13 (by omega); have hS13 := hs9.below H13; have hk13 := hk9.below H13; have hl13 := hl9.below H13; have hm13 := hm9.below H13)
            | (go_at_call 31; refine (Drop_lit 8 _ l3 y1 B3 Y1 m 0 ao8 cap8 so8 sc8 w13 HL.out.e6 HL.out.n3 HL.out.n6 rfl (by omega) HL.out.o3.ok.wf hS13.at hS13.nil hm13.at (by have := HL.out.s3; omega)).mono ?_; rintro e w14 ⟨⟨ao14, cap14, rfl, hs14⟩, hb14⟩; have hz14 := hb14.size)
            | (refine wpList_store2 rfl 51 size51 (.tmp 19) (.tmp 113) rfl w14.heap.size _ _ (.slice none 0 0) (.string ⟨#[]⟩) rfl rfl rfl rfl (Row2.new w14 51 _ _) ?_; intro w15 hr15 hon15; have hb15 := hon15.fresh; have hz15 := hr15.lt; have h0 := hr15.c0; have h1 := hr15.c1; have hs15 := hs14.below hb15; have hk15 := (hk13.below hb14).below hb15)
            | (go_at_call 31; refine (Drop_lit 8 _ y1 x Y1 X k 0 ao14 cap14 so4 sc4 w15 HL.out.e7 HL.out.n6 HL.out.n5 rfl (by omega) HL.out.o6.ok.wf hs15.at hs15.nil hk15.at (by have := HL.out.s1; omega)).mono ?_; rintro e w16 ⟨⟨ao16, cap16, rfl, hs16⟩, hb16⟩; have hz16 := hb16.size; have r16 := hr15.below hb16 hr15.lt)
            | (refine wpList_store2 rfl 51 size51 (.tmp 19) (.tmp 119) rfl w14.heap.size _ _ _ _ rfl rfl rfl rfl r16 ?_; intro w17 hr17 hon17; have hz17 := hon17.size; have H17 := hb14.link (keep_old (hb15.link hb16) hon17 (Nat.le_refl _)); have r17 := r13.below H17 r13.lt; have q17 := hr13.below H17 hr13.lt; have j0 := r17.c0; have j1 := r17.c1; have hx17 := hs13.below H17; have hy17 := hs16.only hon17 (by omega); have hS17 := hS13.below H17; have hk17 := hk13.below H17; have hl17 := hl13.below H17; have hm17 := hm13.below H17))
          obtain ⟨g8, rfl⟩ := slot_some hm17 HL.out.s3.1
          obtain ⟨g4, rfl⟩ := slot_some hk17 HL.out.s1.1
          have hk65 := HL.out.s1.2
          have hm65 := HL.out.s3.2
          have HSB : Hid (∀ w', Below w17.heap.size w17 w' → w'.cell? ⟨w2.heap.size, 0, none⟩ = some (.slice ao8 8 cap8) ∧ w'.cell? ⟨w2.heap.size, 1, none⟩ = some (.string (strB B3))) := fun w' hb => ⟨(r17.below hb r17.lt).c0, (r17.below hb r17.lt).c1⟩
          have B0 := (Below.refl w17.heap.size w17).drew
          refine wp_region_held_drew (S := fun w' => w'.cell? ⟨w2.heap.size, 0, none⟩ = some (.slice ao8 8 cap8) ∧ w'.cell? ⟨w2.heap.size, 1, none⟩ = some (.string (strB B3))) (by kernel_rfl) (HSB.out _ B0) (fun hHeld => ?_)
          generalize w17.drew = v0 at *
          refine wpAnyH_take (i := 0) (v := ?_) (by simp only [List.getElem?_toArray, List.getElem?_cons_succ, List.getElem?_cons_zero]; rfl) (by kernel_rfl) (by kernel_rfl) (by kernel_rfl) (by intro _ _ _ h; exact h) (Or.inl ⟨by rfl, ?_⟩) (by assumption) ?_
          rotate_left
          · intro w' hSw
            obtain ⟨s0, s1⟩ := hSw
            go_simp
            try with_reducible rfl
          try simp only [Act.put, List.setIfInBounds_toArray, List.set_cons_zero, List.set_cons_succ]
          refine wpAnyH_take (i := 2) (v := ?_) (by simp only [List.getElem?_toArray, List.getElem?_cons_succ, List.getElem?_cons_zero]; rfl) (by kernel_rfl) (by kernel_rfl) (by kernel_rfl) (by intro _ _ _ h; exact h) (Or.inl ⟨by rfl, ?_⟩) (by assumption) ?_
          rotate_left
          · intro w' hSw
            obtain ⟨s0, s1⟩ := hSw
            go_simp
            try with_reducible rfl
          try simp only [Act.put, List.setIfInBounds_toArray, List.set_cons_zero, List.set_cons_succ]
          refine wpAnyH_take (i := 4) (v := ?_) (by simp only [List.getElem?_toArray, List.getElem?_cons_succ, List.getElem?_cons_zero]; rfl) (by kernel_rfl) (by kernel_rfl) (by kernel_rfl) (by intro _ _ _ h; exact h) (Or.inl ⟨by rfl, ?_⟩) (by assumption) ?_
          rotate_left
          · intro w' hSw
            obtain ⟨s0, s1⟩ := hSw
            go_simp
            try with_reducible rfl
          try simp only [Act.put, List.setIfInBounds_toArray, List.set_cons_zero, List.set_cons_succ]
          refine wpAnyH_ready (rs := [1, 10]) (by kernel_rfl) (by simp) ?_
          refine AllReadyH.cons (by simp only [List.getElem?_toArray, List.getElem?_cons_succ, List.getElem?_cons_zero]; rfl) (fun K hK => ?_) ?_
          · skip
            have ownN1 := World.ownsRow_lit (base := w17.heap.size) (e := 24) (size := 2) v0 #[] 0 B0.size (by unfold maxLen; omega) rfl
            have BFN1 := B0.alloc B0.size (.cells #[] 24)
            go_simp
            obtain ⟨wN1, hwN1⟩ : ∃ wN1, wN1 = v0.alloc (.cells #[] 24) := ⟨_, rfl⟩
            rw [← hwN1] at ownN1 BFN1 ⊢
            clear hwN1
            refine hK.out _ _ (HSB.out _ BFN1) (fun hHeld => ?_)
            clear hK
            try simp only [Act.put, List.setIfInBounds_toArray, List.set_cons_zero, List.set_cons_succ]
            refine wpAnyH_ready (rs := [3, 10]) (by kernel_rfl) (by simp) ?_
            refine AllReadyH.cons (by simp only [List.getElem?_toArray, List.getElem?_cons_succ, List.getElem?_cons_zero]; rfl) (fun K hK => ?_) ?_
            · skip
              have srcN2 := hm17.below BFN1
              refine step_slots rfl (.tmp 123) (.tmp 124) rfl w17.heap.size _ 0 [] rfl ownN1 ⟨g8, 0, none⟩ m.length sc8 (slC m) rfl (slC_len m) (slot_news srcN2) (slC_one m) (by omega) BFN1.size ?_
              intro aoN2 capN2 wN2 ownN2 grN2 hbN2
              have BFN2 := BFN1.trans hbN2
              simp only [Nat.zero_add, List.nil_append] at ownN2
              refine hK.out _ _ (HSB.out _ BFN2) (fun hHeld => ?_)
              clear hK
              try simp only [Act.put, List.setIfInBounds_toArray, List.set_cons_zero, List.set_cons_succ, Nat.zero_add]
              refine wpAnyH_ready (rs := [5, 10]) (by kernel_rfl) (by simp) ?_
              refine AllReadyH.cons (by simp only [List.getElem?_toArray, List.getElem?_cons_succ, List.getElem?_cons_zero]; rfl) (fun K hK => ?_) ?_
              · skip
                have srcN3 := hk17.below BFN2
                refine step_slots rfl (.tmp 125) (.tmp 126) rfl w17.heap.size _ m.length (slC m) rfl ownN2 ⟨g4, 0, none⟩ k.length sc4 (slC k) rfl (slC_len k) (slot_news srcN3) (slC_one k) (by omega) BFN2.size ?_
                intro aoN3 capN3 wN3 ownN3 grN3 hbN3
                have BFN3 := BFN2.trans hbN3
                refine hK.out _ _ (HSB.out _ BFN3) (fun hHeld => ?_)
                clear hK
                try simp only [Act.put, List.setIfInBounds_toArray, List.set_cons_zero, List.set_cons_succ, Nat.zero_add]
                refine wpAnyH_ready (rs := [6, 10]) (by kernel_rfl) (by simp) ?_
                refine AllReadyH.cons (by simp only [List.getElem?_toArray, List.getElem?_cons_succ, List.getElem?_cons_zero]; rfl) (fun K hK => ?_) ?_
                · skip
                  have srcN4 := hS17.below BFN3
                  have slN4 : SlotsAt wN3 _ (m ++ k) := SlotsNew.at (both_own ownN3)
                  go_simp
                  refine (Drop_lit 8 (m.length + k.length) l3 x B3 X (m ++ k) 0 ao8 cap8 _ _ wN3 HL.out.e8 HL.out.n3 HL.out.n5 (by rw [List.length_append]) (by omega) HL.out.o3.ok.wf srcN4.at srcN4.nil slN4 (by omega)).mono ?_
                  rintro e wN4 ⟨⟨aoN4, capN4, rfl, segN4⟩, hbN4⟩
                  have hzN4 := hbN4.size
                  have BFN4 := BFN3.link hbN4
                  go_wp2_with fail
                  refine hK.out _ _ (HSB.out _ BFN4) (fun hHeld => ?_)
                  clear hK
                  try simp only [Act.put, List.setIfInBounds_toArray, List.set_cons_zero, List.set_cons_succ]
                  refine wpAnyH_take (i := 7) (v := ?_) (by simp only [List.getElem?_toArray, List.getElem?_cons_succ, List.getElem?_cons_zero]; rfl) (by kernel_rfl) (by kernel_rfl) (by kernel_rfl) (by intro _ _ _ h; exact h) (Or.inl ⟨by rfl, ?_⟩) (by assumption) ?_
                  rotate_left
                  · intro w' hSw
                    obtain ⟨s0, s1⟩ := hSw
                    go_simp
                    try with_reducible rfl
                  try simp only [Act.put, List.setIfInBounds_toArray, List.set_cons_zero, List.set_cons_succ]
                  refine wpAnyH_take (i := 8) (v := ?_) (by simp only [List.getElem?_toArray, List.getElem?_cons_succ, List.getElem?_cons_zero]; rfl) (by kernel_rfl) (by kernel_rfl) (by kernel_rfl) (by intro _ _ _ h; exact h) (Or.inl ⟨by rfl, ?_⟩) (by assumption) ?_
                  rotate_left
                  · intro w' hSw
                    obtain ⟨s0, s1⟩ := hSw
                    go_simp
                    try with_reducible rfl
                  try simp only [Act.put, List.setIfInBounds_toArray, List.set_cons_zero, List.set_cons_succ]
                  refine wpAnyH_take (i := 9) (v := ?_) (by simp only [List.getElem?_toArray, List.getElem?_cons_succ, List.getElem?_cons_zero]; rfl) (by kernel_rfl) (by kernel_rfl) (by kernel_rfl) (by intro _ _ _ h; exact h) (Or.inl ⟨by rfl, ?_⟩) (by assumption) ?_
                  rotate_left
                  · intro w' hSw
                    obtain ⟨s0, s1⟩ := hSw
                    go_simp
                    try with_reducible rfl
                  try simp only [Act.put, List.setIfInBounds_toArray, List.set_cons_zero, List.set_cons_succ]
                  refine wpAnyH_ready (rs := [10]) (by kernel_rfl) (by simp) ?_
                  refine AllReadyH.cons (by simp only [List.getElem?_toArray, List.getElem?_cons_succ, List.getElem?_cons_zero]; rfl) (fun K hK => ?_) AllReadyH.nil
                  have segE := segN4.below ((Below.refl _ wN4).alloc (Nat.le_refl _) (.cells #[.slice none 0 0, .string ⟨#[]⟩] 51))
                  have rowE5 := Row2.new wN4 51 (.slice none 0 0) (.string ⟨#[]⟩)
                  have BFE5 := BFN4.alloc BFN4.size (.cells #[.slice none 0 0, .string ⟨#[]⟩] 51)
                  go_simp
                  obtain ⟨wE5, hwE5⟩ : ∃ wE5, wE5 = (wN4.alloc (.cells #[.slice none 0 0, .string ⟨#[]⟩] 51)) := ⟨_, rfl⟩
                  rw [← hwE5] at rowE5 BFE5 segE ⊢
                  clear hwE5
                  refine hK.out _ _ (HSB.out _ BFE5) (fun hHeld => ?_)
                  clear hK
                  try simp only [Act.put, List.setIfInBounds_toArray, List.set_cons_zero, List.set_cons_succ]

                  refine wpAnyH_ready (rs := [11]) (by kernel_rfl) (by simp) ?_
                  refine AllReadyH.cons (by simp only [List.getElem?_toArray, List.getElem?_cons_succ, List.getElem?_cons_zero]; rfl) (fun K hK => ?_) AllReadyH.nil
                  refine step_store2 rfl 51 size51 (.tmp 22) (.tmp 129) rfl (wN4.heap.size) (.slice aoN4 8 capN4) (.string (strB X)) _ _ rfl rfl rfl rfl rowE5 ?_
                  intro wF hrF honF
                  have hlF := rowE5.lt
                  have BFF : Below w17.heap.size w17 wF := honF.below BFE5 (by first | exact Nat.le_refl _ | exact BFN4.size)
                  have hzF := honF.size
                  have sgF : SegNew wF _ aoN4 capN4 x := segE.same (fun kk off e => honF.heap kk (by have := segN4.blk kk off e; omega))
                  refine hK.out _ _ (HSB.out _ BFF) (fun hHeld => ?_)
                  clear hK
                  try simp only [Act.put, List.setIfInBounds_toArray, List.set_cons_zero, List.set_cons_succ]
                  refine wpAnyH_take (i := 12) (v := ?_) (by simp only [List.getElem?_toArray, List.getElem?_cons_succ, List.getElem?_cons_zero]; rfl) (by kernel_rfl) (by kernel_rfl) (by kernel_rfl) (by intro _ _ _ h; exact h) (Or.inl ⟨by rfl, ?_⟩) (by assumption) ?_
                  rotate_left
                  · intro w' hSw
                    obtain ⟨s0, s1⟩ := hSw
                    go_simp
                    try with_reducible rfl
                  try simp only [Act.put, List.setIfInBounds_toArray, List.set_cons_zero, List.set_cons_succ]
                  refine wpAnyH_done (by kernel_rfl) ?_ _
                  have rF := r17.below BFF r17.lt
                  have qF := q17.below BFF q17.lt
                  have yF := hr17.below BFF hr17.lt
                  have hxF := hx17.below BFF
                  have hyF := hy17.below BFF
                  have hlF2 := hl17.below BFF
                  have m0 := qF.c0
                  have m1 := qF.c1
                  go_wp2_with (first
                    | (go_at_call 30; refine (Get_lit 8 _ x X b ll _ 0 ao12 cap12 so6 sc6 wF HGE.out HL.out.n5 rfl (by omega) HL.out.o5.ok.wf hxF.at hlF2.at (by have := HL.out.s2; omega)).mono ?_; rintro e wG ⟨rfl, hbG⟩; have qG := qF.below hbG qF.lt; have yG := yF.below hbG yF.lt; have fG := hrF.below hbG hrF.lt; have u0 := qG.c0; have u1 := qG.c1; have u2 := yG.c0; have u3 := yG.c1; have hxG := hxF.below hbG; have hyG := hyF.below hbG; have sgG := sgF.below hbG)
                    | (go_at_call 29; refine (rsame_lit 8 ao12 ao16 x cap12 cap16 X wG HL.out.n5 (by omega) hxG.at hyG.at).mono ?_; rintro e wH ⟨rfl, hbH⟩; have qH := qG.below hbH qG.lt; have fH := fG.below hbH fG.lt; have v0 := qH.c0; have v1 := qH.c1; have v2 := fH.c0; have v3 := fH.c1; have hxH := hxG.below hbH; have sgH := sgG.below hbH)
                    | (go_at_call 29; refine (rsame_lit 8 ao12 aoN4 x cap12 capN4 X wH HL.out.n5 (by omega) hxH.at sgH.at).mono ?_; rintro e wI ⟨rfl, hbI⟩))
                  go_ret
                  exact ⟨rfl, (H9.link H13).link ((H17.link BFF).link ((hbG.link hbH).link hbI))⟩
                · skip
                  refine AllReadyH.cons (by simp only [List.getElem?_toArray, List.getElem?_cons_succ, List.getElem?_cons_zero]; rfl) (fun K hK => ?_) AllReadyH.nil
                  have rowE4 := Row2.new wN3 51 (.slice none 0 0) (.string ⟨#[]⟩)
                  have BFE4 := BFN3.alloc BFN3.size (.cells #[.slice none 0 0, .string ⟨#[]⟩] 51)
                  have ownE4 := World.ownsRow.alloc ownN3 (.cells #[.slice none 0 0, .string ⟨#[]⟩] 51)
                  go_simp
                  obtain ⟨wE4, hwE4⟩ : ∃ wE4, wE4 = (wN3.alloc (.cells #[.slice none 0 0, .string ⟨#[]⟩] 51)) := ⟨_, rfl⟩
                  rw [← hwE4] at rowE4 BFE4 ownE4 ⊢
                  clear hwE4
                  refine hK.out _ _ (HSB.out _ BFE4) (fun hHeld => ?_)
                  clear hK
                  try simp only [Act.put, List.setIfInBounds_toArray, List.set_cons_zero, List.set_cons_succ]
                  refine wpAnyH_ready (rs := [6]) (by kernel_rfl) (by simp) ?_
                  refine AllReadyH.cons (by simp only [List.getElem?_toArray, List.getElem?_cons_succ, List.getElem?_cons_zero]; rfl) (fun K hK => ?_) AllReadyH.nil
                  have srcN5 := hS17.below BFE4
                  have slN5 : SlotsAt wE4 _ (m ++ k) := SlotsNew.at (both_own ownE4)
                  go_simp
                  refine (Drop_lit 8 (m.length + k.length) l3 x B3 X (m ++ k) 0 ao8 cap8 _ _ wE4 HL.out.e8 HL.out.n3 HL.out.n5 (by rw [List.length_append]) (by omega) HL.out.o3.ok.wf srcN5.at srcN5.nil slN5 (by omega)).mono ?_
                  rintro e wN5 ⟨⟨aoN5, capN5, rfl, segN5⟩, hbN5⟩
                  have hzN5 := hbN5.size
                  have BFN5 := BFE4.link hbN5
                  have ltD := rowE4.lt
                  have rowN5 := rowE4.below hbN5 rowE4.lt
                  go_wp2_with fail
                  refine hK.out _ _ (HSB.out _ BFN5) (fun hHeld => ?_)
                  clear hK
                  try simp only [Act.put, List.setIfInBounds_toArray, List.set_cons_zero, List.set_cons_succ]
                  refine wpAnyH_take (i := 7) (v := ?_) (by simp only [List.getElem?_toArray, List.getElem?_cons_succ, List.getElem?_cons_zero]; rfl) (by kernel_rfl) (by kernel_rfl) (by kernel_rfl) (by intro _ _ _ h; exact h) (Or.inl ⟨by rfl, ?_⟩) (by assumption) ?_
                  rotate_left
                  · intro w' hSw
                    obtain ⟨s0, s1⟩ := hSw
                    go_simp
                    try with_reducible rfl
                  try simp only [Act.put, List.setIfInBounds_toArray, List.set_cons_zero, List.set_cons_succ]
                  refine wpAnyH_take (i := 8) (v := ?_) (by simp only [List.getElem?_toArray, List.getElem?_cons_succ, List.getElem?_cons_zero]; rfl) (by kernel_rfl) (by kernel_rfl) (by kernel_rfl) (by intro _ _ _ h; exact h) (Or.inl ⟨by rfl, ?_⟩) (by assumption) ?_
                  rotate_left
                  · intro w' hSw
                    obtain ⟨s0, s1⟩ := hSw
                    go_simp
                    try with_reducible rfl
                  try simp only [Act.put, List.setIfInBounds_toArray, List.set_cons_zero, List.set_cons_succ]
                  refine wpAnyH_take (i := 9) (v := ?_) (by simp only [List.getElem?_toArray, List.getElem?_cons_succ, List.getElem?_cons_zero]; rfl) (by kernel_rfl) (by kernel_rfl) (by kernel_rfl) (by intro _ _ _ h; exact h) (Or.inl ⟨by rfl, ?_⟩) (by assumption) ?_
                  rotate_left
                  · intro w' hSw
                    obtain ⟨s0, s1⟩ := hSw
                    go_simp
                    try with_reducible rfl
                  try simp only [Act.put, List.setIfInBounds_toArray, List.set_cons_zero, List.set_cons_succ]

                  refine wpAnyH_ready (rs := [11]) (by kernel_rfl) (by simp) ?_
                  refine AllReadyH.cons (by simp only [List.getElem?_toArray, List.getElem?_cons_succ, List.getElem?_cons_zero]; rfl) (fun K hK => ?_) AllReadyH.nil
                  refine step_store2 rfl 51 size51 (.tmp 22) (.tmp 129) rfl (wN3.heap.size) (.slice aoN5 8 capN5) (.string (strB X)) _ _ rfl rfl rfl rfl rowN5 ?_
                  intro wF hrF honF
                  have hlF := rowN5.lt
                  have BFF : Below w17.heap.size w17 wF := honF.below BFN5 (by first | exact Nat.le_refl _ | exact BFN3.size)
                  have hzF := honF.size
                  have sgF : SegNew wF _ aoN5 capN5 x := segN5.same (fun kk off e => honF.heap kk (by have := segN5.blk kk off e; omega))
                  refine hK.out _ _ (HSB.out _ BFF) (fun hHeld => ?_)
                  clear hK
                  try simp only [Act.put, List.setIfInBounds_toArray, List.set_cons_zero, List.set_cons_succ]
                  refine wpAnyH_take (i := 12) (v := ?_) (by simp only [List.getElem?_toArray, List.getElem?_cons_succ, List.getElem?_cons_zero]; rfl) (by kernel_rfl) (by kernel_rfl) (by kernel_rfl) (by intro _ _ _ h; exact h) (Or.inl ⟨by rfl, ?_⟩) (by assumption) ?_
                  rotate_left
                  · intro w' hSw
                    obtain ⟨s0, s1⟩ := hSw
                    go_simp
                    try with_reducible rfl
                  try simp only [Act.put, List.setIfInBounds_toArray, List.set_cons_zero, List.set_cons_succ]
                  refine wpAnyH_done (by kernel_rfl) ?_ _
                  have rF := r17.below BFF r17.lt
                  have qF := q17.below BFF q17.lt
                  have yF := hr17.below BFF hr17.lt
                  have hxF := hx17.below BFF
                  have hyF := hy17.below BFF
                  have hlF2 := hl17.below BFF
                  have m0 := qF.c0
                  have m1 := qF.c1
                  go_wp2_with (first
                    | (go_at_call 30; refine (Get_lit 8 _ x X b ll _ 0 ao12 cap12 so6 sc6 wF HGE.out HL.out.n5 rfl (by omega) HL.out.o5.ok.wf hxF.at hlF2.at (by have := HL.out.s2; omega)).mono ?_; rintro e wG ⟨rfl, hbG⟩; have qG := qF.below hbG qF.lt; have yG := yF.below hbG yF.lt; have fG := hrF.below hbG hrF.lt; have u0 := qG.c0; have u1 := qG.c1; have u2 := yG.c0; have u3 := yG.c1; have hxG := hxF.below hbG; have hyG := hyF.below hbG; have sgG := sgF.below hbG)
                    | (go_at_call 29; refine (rsame_lit 8 ao12 ao16 x cap12 cap16 X wG HL.out.n5 (by omega) hxG.at hyG.at).mono ?_; rintro e wH ⟨rfl, hbH⟩; have qH := qG.below hbH qG.lt; have fH := fG.below hbH fG.lt; have v0 := qH.c0; have v1 := qH.c1; have v2 := fH.c0; have v3 := fH.c1; have hxH := hxG.below hbH; have sgH := sgG.below hbH)
                    | (go_at_call 29; refine (rsame_lit 8 ao12 aoN5 x cap12 capN5 X wH HL.out.n5 (by omega) hxH.at sgH.at).mono ?_; rintro e wI ⟨rfl, hbI⟩))
                  go_ret
                  exact ⟨rfl, (H9.link H13).link ((H17.link BFF).link ((hbG.link hbH).link hbI))⟩
              · skip
                refine AllReadyH.cons (by simp only [List.getElem?_toArray, List.getElem?_cons_succ, List.getElem?_cons_zero]; rfl) (fun K hK => ?_) AllReadyH.nil
                have rowE3 := Row2.new wN2 51 (.slice none 0 0) (.string ⟨#[]⟩)
                have BFE3 := BFN2.alloc BFN2.size (.cells #[.slice none 0 0, .string ⟨#[]⟩] 51)
                have ownE3 := World.ownsRow.alloc ownN2 (.cells #[.slice none 0 0, .string ⟨#[]⟩] 51)
                go_simp
                obtain ⟨wE3, hwE3⟩ : ∃ wE3, wE3 = (wN2.alloc (.cells #[.slice none 0 0, .string ⟨#[]⟩] 51)) := ⟨_, rfl⟩
                rw [← hwE3] at rowE3 BFE3 ownE3 ⊢
                clear hwE3
                refine hK.out _ _ (HSB.out _ BFE3) (fun hHeld => ?_)
                clear hK
                try simp only [Act.put, List.setIfInBounds_toArray, List.set_cons_zero, List.set_cons_succ]
                refine wpAnyH_ready (rs := [5]) (by kernel_rfl) (by simp) ?_
                refine AllReadyH.cons (by simp only [List.getElem?_toArray, List.getElem?_cons_succ, List.getElem?_cons_zero]; rfl) (fun K hK => ?_) AllReadyH.nil
                have srcN4 := hk17.below BFE3
                refine step_slots rfl (.tmp 125) (.tmp 126) rfl w17.heap.size _ m.length (slC m) rfl ownE3 ⟨g4, 0, none⟩ k.length sc4 (slC k) rfl (slC_len k) (slot_news srcN4) (slC_one k) (by omega) BFE3.size ?_
                intro aoN4 capN4 wN4 ownN4 grN4 hbN4
                have BFN4 := BFE3.trans hbN4
                have rowN4 := Row2.grown rowE3 ownE3 (by decide) grN4
                refine hK.out _ _ (HSB.out _ BFN4) (fun hHeld => ?_)
                clear hK
                try simp only [Act.put, List.setIfInBounds_toArray, List.set_cons_zero, List.set_cons_succ, Nat.zero_add]
                refine wpAnyH_ready (rs := [6]) (by kernel_rfl) (by simp) ?_
                refine AllReadyH.cons (by simp only [List.getElem?_toArray, List.getElem?_cons_succ, List.getElem?_cons_zero]; rfl) (fun K hK => ?_) AllReadyH.nil
                have srcN5 := hS17.below BFN4
                have slN5 : SlotsAt wN4 _ (m ++ k) := SlotsNew.at (both_own ownN4)
                go_simp
                refine (Drop_lit 8 (m.length + k.length) l3 x B3 X (m ++ k) 0 ao8 cap8 _ _ wN4 HL.out.e8 HL.out.n3 HL.out.n5 (by rw [List.length_append]) (by omega) HL.out.o3.ok.wf srcN5.at srcN5.nil slN5 (by omega)).mono ?_
                rintro e wN5 ⟨⟨aoN5, capN5, rfl, segN5⟩, hbN5⟩
                have hzN5 := hbN5.size
                have BFN5 := BFN4.link hbN5
                have ltD := rowN4.lt
                have rowN5 := rowN4.below hbN5 rowN4.lt
                go_wp2_with fail
                refine hK.out _ _ (HSB.out _ BFN5) (fun hHeld => ?_)
                clear hK
                try simp only [Act.put, List.setIfInBounds_toArray, List.set_cons_zero, List.set_cons_succ]
                refine wpAnyH_take (i := 7) (v := ?_) (by simp only [List.getElem?_toArray, List.getElem?_cons_succ, List.getElem?_cons_zero]; rfl) (by kernel_rfl) (by kernel_rfl) (by kernel_rfl) (by intro _ _ _ h; exact h) (Or.inl ⟨by rfl, ?_⟩) (by assumption) ?_
                rotate_left
                · intro w' hSw
                  obtain ⟨s0, s1⟩ := hSw
                  go_simp
                  try with_reducible rfl
                try simp only [Act.put, List.setIfInBounds_toArray, List.set_cons_zero, List.set_cons_succ]
                refine wpAnyH_take (i := 8) (v := ?_) (by simp only [List.getElem?_toArray, List.getElem?_cons_succ, List.getElem?_cons_zero]; rfl) (by kernel_rfl) (by kernel_rfl) (by kernel_rfl) (by intro _ _ _ h; exact h) (Or.inl ⟨by rfl, ?_⟩) (by assumption) ?_
                rotate_left
                · intro w' hSw
                  obtain ⟨s0, s1⟩ := hSw
                  go_simp
                  try with_reducible rfl
                try simp only [Act.put, List.setIfInBounds_toArray, List.set_cons_zero, List.set_cons_succ]
                refine wpAnyH_take (i := 9) (v := ?_) (by simp only [List.getElem?_toArray, List.getElem?_cons_succ, List.getElem?_cons_zero]; rfl) (by kernel_rfl) (by kernel_rfl) (by kernel_rfl) (by intro _ _ _ h; exact h) (Or.inl ⟨by rfl, ?_⟩) (by assumption) ?_
                rotate_left
                · intro w' hSw
                  obtain ⟨s0, s1⟩ := hSw
                  go_simp
                  try with_reducible rfl
                try simp only [Act.put, List.setIfInBounds_toArray, List.set_cons_zero, List.set_cons_succ]

                refine wpAnyH_ready (rs := [11]) (by kernel_rfl) (by simp) ?_
                refine AllReadyH.cons (by simp only [List.getElem?_toArray, List.getElem?_cons_succ, List.getElem?_cons_zero]; rfl) (fun K hK => ?_) AllReadyH.nil
                refine step_store2 rfl 51 size51 (.tmp 22) (.tmp 129) rfl (wN2.heap.size) (.slice aoN5 8 capN5) (.string (strB X)) _ _ rfl rfl rfl rfl rowN5 ?_
                intro wF hrF honF
                have hlF := rowN5.lt
                have BFF : Below w17.heap.size w17 wF := honF.below BFN5 (by first | exact Nat.le_refl _ | exact BFN2.size)
                have hzF := honF.size
                have sgF : SegNew wF _ aoN5 capN5 x := segN5.same (fun kk off e => honF.heap kk (by have := segN5.blk kk off e; omega))
                refine hK.out _ _ (HSB.out _ BFF) (fun hHeld => ?_)
                clear hK
                try simp only [Act.put, List.setIfInBounds_toArray, List.set_cons_zero, List.set_cons_succ]
                refine wpAnyH_take (i := 12) (v := ?_) (by simp only [List.getElem?_toArray, List.getElem?_cons_succ, List.getElem?_cons_zero]; rfl) (by kernel_rfl) (by kernel_rfl) (by kernel_rfl) (by intro _ _ _ h; exact h) (Or.inl ⟨by rfl, ?_⟩) (by assumption) ?_
                rotate_left
                · intro w' hSw
                  obtain ⟨s0, s1⟩ := hSw
                  go_simp
                  try with_reducible rfl
                try simp only [Act.put, List.setIfInBounds_toArray, List.set_cons_zero, List.set_cons_succ]
                refine wpAnyH_done (by kernel_rfl) ?_ _
                have rF := r17.below BFF r17.lt
                have qF := q17.below BFF q17.lt
                have yF := hr17.below BFF hr17.lt
                have hxF := hx17.below BFF
                have hyF := hy17.below BFF
                have hlF2 := hl17.below BFF
                have m0 := qF.c0
                have m1 := qF.c1
                go_wp2_with (first
                  | (go_at_call 30; refine (Get_lit 8 _ x X b ll _ 0 ao12 cap12 so6 sc6 wF HGE.out HL.out.n5 rfl (by omega) HL.out.o5.ok.wf hxF.at hlF2.at (by have := HL.out.s2; omega)).mono ?_; rintro e wG ⟨rfl, hbG⟩; have qG := qF.below hbG qF.lt; have yG := yF.below hbG yF.lt; have fG := hrF.below hbG hrF.lt; have u0 := qG.c0; have u1 := qG.c1; have u2 := yG.c0; have u3 := yG.c1; have hxG := hxF.below hbG; have hyG := hyF.below hbG; have sgG := sgF.below hbG)
                  | (go_at_call 29; refine (rsame_lit 8 ao12 ao16 x cap12 cap16 X wG HL.out.n5 (by omega) hxG.at hyG.at).mono ?_; rintro e wH ⟨rfl, hbH⟩; have qH := qG.below hbH qG.lt; have fH := fG.below hbH fG.lt; have v0 := qH.c0; have v1 := qH.c1; have v2 := fH.c0; have v3 := fH.c1; have hxH := hxG.below hbH; have sgH := sgG.below hbH)
                  | (go_at_call 29; refine (rsame_lit 8 ao12 aoN5 x cap12 capN5 X wH HL.out.n5 (by omega) hxH.at sgH.at).mono ?_; rintro e wI ⟨rfl, hbI⟩))
                go_ret
                exact ⟨rfl, (H9.link H13).link ((H17.link BFF).link ((hbG.link hbH).link hbI))⟩
            · skip
              refine AllReadyH.cons (by simp only [List.getElem?_toArray, List.getElem?_cons_succ, List.getElem?_cons_zero]; rfl) (fun K hK => ?_) AllReadyH.nil
              have rowE2 := Row2.new wN1 51 (.slice none 0 0) (.string ⟨#[]⟩)
              have BFE2 := BFN1.alloc BFN1.size (.cells #[.slice none 0 0, .string ⟨#[]⟩] 51)
              have ownE2 := World.ownsRow.alloc ownN1 (.cells #[.slice none 0 0, .string ⟨#[]⟩] 51)
              go_simp
              obtain ⟨wE2, hwE2⟩ : ∃ wE2, wE2 = (wN1.alloc (.cells #[.slice none 0 0, .string ⟨#[]⟩] 51)) := ⟨_, rfl⟩
              rw [← hwE2] at rowE2 BFE2 ownE2 ⊢
              clear hwE2
              refine hK.out _ _ (HSB.out _ BFE2) (fun hHeld => ?_)
              clear hK
              try simp only [Act.put, List.setIfInBounds_toArray, List.set_cons_zero, List.set_cons_succ]
              refine wpAnyH_ready (rs := [3]) (by kernel_rfl) (by simp) ?_
              refine AllReadyH.cons (by simp only [List.getElem?_toArray, List.getElem?_cons_succ, List.getElem?_cons_zero]; rfl) (fun K hK => ?_) AllReadyH.nil
              have srcN3 := hm17.below BFE2
              refine step_slots rfl (.tmp 123) (.tmp 124) rfl w17.heap.size _ 0 [] rfl ownE2 ⟨g8, 0, none⟩ m.length sc8 (slC m) rfl (slC_len m) (slot_news srcN3) (slC_one m) (by omega) BFE2.size ?_
              intro aoN3 capN3 wN3 ownN3 grN3 hbN3
              have BFN3 := BFE2.trans hbN3
              have rowN3 := Row2.grown rowE2 ownE2 (by decide) grN3
              simp only [Nat.zero_add, List.nil_append] at ownN3
              refine hK.out _ _ (HSB.out _ BFN3) (fun hHeld => ?_)
              clear hK
              try simp only [Act.put, List.setIfInBounds_toArray, List.set_cons_zero, List.set_cons_succ, Nat.zero_add]
              refine wpAnyH_ready (rs := [5]) (by kernel_rfl) (by simp) ?_
              refine AllReadyH.cons (by simp only [List.getElem?_toArray, List.getElem?_cons_succ, List.getElem?_cons_zero]; rfl) (fun K hK => ?_) AllReadyH.nil
              have srcN4 := hk17.below BFN3
              refine step_slots rfl (.tmp 125) (.tmp 126) rfl w17.heap.size _ m.length (slC m) rfl ownN3 ⟨g4, 0, none⟩ k.length sc4 (slC k) rfl (slC_len k) (slot_news srcN4) (slC_one k) (by omega) BFN3.size ?_
              intro aoN4 capN4 wN4 ownN4 grN4 hbN4
              have BFN4 := BFN3.trans hbN4
              have rowN4 := Row2.grown rowN3 ownN3 (by decide) grN4
              refine hK.out _ _ (HSB.out _ BFN4) (fun hHeld => ?_)
              clear hK
              try simp only [Act.put, List.setIfInBounds_toArray, List.set_cons_zero, List.set_cons_succ, Nat.zero_add]
              refine wpAnyH_ready (rs := [6]) (by kernel_rfl) (by simp) ?_
              refine AllReadyH.cons (by simp only [List.getElem?_toArray, List.getElem?_cons_succ, List.getElem?_cons_zero]; rfl) (fun K hK => ?_) AllReadyH.nil
              have srcN5 := hS17.below BFN4
              have slN5 : SlotsAt wN4 _ (m ++ k) := SlotsNew.at (both_own ownN4)
              go_simp
              refine (Drop_lit 8 (m.length + k.length) l3 x B3 X (m ++ k) 0 ao8 cap8 _ _ wN4 HL.out.e8 HL.out.n3 HL.out.n5 (by rw [List.length_append]) (by omega) HL.out.o3.ok.wf srcN5.at srcN5.nil slN5 (by omega)).mono ?_
              rintro e wN5 ⟨⟨aoN5, capN5, rfl, segN5⟩, hbN5⟩
              have hzN5 := hbN5.size
              have BFN5 := BFN4.link hbN5
              have ltD := rowN4.lt
              have rowN5 := rowN4.below hbN5 rowN4.lt
              go_wp2_with fail
              refine hK.out _ _ (HSB.out _ BFN5) (fun hHeld => ?_)
              clear hK
              try simp only [Act.put, List.setIfInBounds_toArray, List.set_cons_zero, List.set_cons_succ]
              refine wpAnyH_take (i := 7) (v := ?_) (by simp only [List.getElem?_toArray, List.getElem?_cons_succ, List.getElem?_cons_zero]; rfl) (by kernel_rfl) (by kernel_rfl) (by kernel_rfl) (by intro _ _ _ h; exact h) (Or.inl ⟨by rfl, ?_⟩) (by assumption) ?_
              rotate_left
              · intro w' hSw
                obtain ⟨s0, s1⟩ := hSw
                go_simp
                try with_reducible rfl
              try simp only [Act.put, List.setIfInBounds_toArray, List.set_cons_zero, List.set_cons_succ]
              refine wpAnyH_take (i := 8) (v := ?_) (by simp only [List.getElem?_toArray, List.getElem?_cons_succ, List.getElem?_cons_zero]; rfl) (by kernel_rfl) (by kernel_rfl) (by kernel_rfl) (by intro _ _ _ h; exact h) (Or.inl ⟨by rfl, ?_⟩) (by assumption) ?_
              rotate_left
              · intro w' hSw
                obtain ⟨s0, s1⟩ := hSw
                go_simp
                try with_reducible rfl
              try simp only [Act.put, List.setIfInBounds_toArray, List.set_cons_zero, List.set_cons_succ]
              refine wpAnyH_take (i := 9) (v := ?_) (by simp only [List.getElem?_toArray, List.getElem?_cons_succ, List.getElem?_cons_zero]; rfl) (by kernel_rfl) (by kernel_rfl) (by kernel_rfl) (by intro _ _ _ h; exact h) (Or.inl ⟨by rfl, ?_⟩) (by assumption) ?_
              rotate_left
              · intro w' hSw
                obtain ⟨s0, s1⟩ := hSw
                go_simp
                try with_reducible rfl
              try simp only [Act.put, List.setIfInBounds_toArray, List.set_cons_zero, List.set_cons_succ]

              refine wpAnyH_ready (rs := [11]) (by kernel_rfl) (by simp) ?_
              refine AllReadyH.cons (by simp only [List.getElem?_toArray, List.getElem?_cons_succ, List.getElem?_cons_zero]; rfl) (fun K hK => ?_) AllReadyH.nil
              refine step_store2 rfl 51 size51 (.tmp 22) (.tmp 129) rfl (wN1.heap.size) (.slice aoN5 8 capN5) (.string (strB X)) _ _ rfl rfl rfl rfl rowN5 ?_
              intro wF hrF honF
              have hlF := rowN5.lt
              have BFF : Below w17.heap.size w17 wF := honF.below BFN5 (by first | exact Nat.le_refl _ | exact BFN1.size)
              have hzF := honF.size
              have sgF : SegNew wF _ aoN5 capN5 x := segN5.same (fun kk off e => honF.heap kk (by have := segN5.blk kk off e; omega))
              refine hK.out _ _ (HSB.out _ BFF) (fun hHeld => ?_)
              clear hK
              try simp only [Act.put, List.setIfInBounds_toArray, List.set_cons_zero, List.set_cons_succ]
              refine wpAnyH_take (i := 12) (v := ?_) (by simp only [List.getElem?_toArray, List.getElem?_cons_succ, List.getElem?_cons_zero]; rfl) (by kernel_rfl) (by kernel_rfl) (by kernel_rfl) (by intro _ _ _ h; exact h) (Or.inl ⟨by rfl, ?_⟩) (by assumption) ?_
              rotate_left
              · intro w' hSw
                obtain ⟨s0, s1⟩ := hSw
                go_simp
                try with_reducible rfl
              try simp only [Act.put, List.setIfInBounds_toArray, List.set_cons_zero, List.set_cons_succ]
              refine wpAnyH_done (by kernel_rfl) ?_ _
              have rF := r17.below BFF r17.lt
              have qF := q17.below BFF q17.lt
              have yF := hr17.below BFF hr17.lt
              have hxF := hx17.below BFF
              have hyF := hy17.below BFF
              have hlF2 := hl17.below BFF
              have m0 := qF.c0
              have m1 := qF.c1
              go_wp2_with (first
                | (go_at_call 30; refine (Get_lit 8 _ x X b ll _ 0 ao12 cap12 so6 sc6 wF HGE.out HL.out.n5 rfl (by omega) HL.out.o5.ok.wf hxF.at hlF2.at (by have := HL.out.s2; omega)).mono ?_; rintro e wG ⟨rfl, hbG⟩; have qG := qF.below hbG qF.lt; have yG := yF.below hbG yF.lt; have fG := hrF.below hbG hrF.lt; have u0 := qG.c0; have u1 := qG.c1; have u2 := yG.c0; have u3 := yG.c1; have hxG := hxF.below hbG; have hyG := hyF.below hbG; have sgG := sgF.below hbG)
                | (go_at_call 29; refine (rsame_lit 8 ao12 ao16 x cap12 cap16 X wG HL.out.n5 (by omega) hxG.at hyG.at).mono ?_; rintro e wH ⟨rfl, hbH⟩; have qH := qG.below hbH qG.lt; have fH := fG.below hbH fG.lt; have v0 := qH.c0; have v1 := qH.c1; have v2 := fH.c0; have v3 := fH.c1; have hxH := hxG.below hbH; have sgH := sgG.below hbH)
                | (go_at_call 29; refine (rsame_lit 8 ao12 aoN5 x cap12 capN5 X wH HL.out.n5 (by omega) hxH.at sgH.at).mono ?_; rintro e wI ⟨rfl, hbI⟩))
              go_ret
              exact ⟨rfl, (H9.link H13).link ((H17.link BFF).link ((hbG.link hbH).link hbI))⟩
          · skip
            refine AllReadyH.cons (by simp only [List.getElem?_toArray, List.getElem?_cons_succ, List.getElem?_cons_zero]; rfl) (fun K hK => ?_) AllReadyH.nil
            have rowE1 := Row2.new v0 51 (.slice none 0 0) (.string ⟨#[]⟩)
            have BFE1 := B0.alloc B0.size (.cells #[.slice none 0 0, .string ⟨#[]⟩] 51)
            go_simp
            obtain ⟨wE1, hwE1⟩ : ∃ wE1, wE1 = (v0.alloc (.cells #[.slice none 0 0, .string ⟨#[]⟩] 51)) := ⟨_, rfl⟩
            rw [← hwE1] at rowE1 BFE1 ⊢
            clear hwE1
            refine hK.out _ _ (HSB.out _ BFE1) (fun hHeld => ?_)
            clear hK
            try simp only [Act.put, List.setIfInBounds_toArray, List.set_cons_zero, List.set_cons_succ]
            refine wpAnyH_ready (rs := [1]) (by kernel_rfl) (by simp) ?_
            refine AllReadyH.cons (by simp only [List.getElem?_toArray, List.getElem?_cons_succ, List.getElem?_cons_zero]; rfl) (fun K hK => ?_) AllReadyH.nil
            have ownN2 := World.ownsRow_lit (base := w17.heap.size) (e := 24) (size := 2) wE1 #[] 0 BFE1.size (by unfold maxLen; omega) rfl
            have BFN2 := BFE1.alloc BFE1.size (.cells #[] 24)
            have rowN2 := rowE1.below ((Below.refl _ wE1).alloc (Nat.le_refl _) (.cells #[] 24)) rowE1.lt
            go_simp
            obtain ⟨wN2, hwN2⟩ : ∃ wN2, wN2 = wE1.alloc (.cells #[] 24) := ⟨_, rfl⟩
            rw [← hwN2] at ownN2 BFN2 rowN2 ⊢
            clear hwN2
            refine hK.out _ _ (HSB.out _ BFN2) (fun hHeld => ?_)
            clear hK
            try simp only [Act.put, List.setIfInBounds_toArray, List.set_cons_zero, List.set_cons_succ]
            refine wpAnyH_ready (rs := [3]) (by kernel_rfl) (by simp) ?_
            refine AllReadyH.cons (by simp only [List.getElem?_toArray, List.getElem?_cons_succ, List.getElem?_cons_zero]; rfl) (fun K hK => ?_) AllReadyH.nil
            have srcN3 := hm17.below BFN2
            refine step_slots rfl (.tmp 123) (.tmp 124) rfl w17.heap.size _ 0 [] rfl ownN2 ⟨g8, 0, none⟩ m.length sc8 (slC m) rfl (slC_len m) (slot_news srcN3) (slC_one m) (by omega) BFN2.size ?_
            intro aoN3 capN3 wN3 ownN3 grN3 hbN3
            have BFN3 := BFN2.trans hbN3
            have rowN3 := Row2.grown rowN2 ownN2 (by decide) grN3
            simp only [Nat.zero_add, List.nil_append] at ownN3
            refine hK.out _ _ (HSB.out _ BFN3) (fun hHeld => ?_)
            clear hK
            try simp only [Act.put, List.setIfInBounds_toArray, List.set_cons_zero, List.set_cons_succ, Nat.zero_add]
            refine wpAnyH_ready (rs := [5]) (by kernel_rfl) (by simp) ?_
            refine AllReadyH.cons (by simp only [List.getElem?_toArray, List.getElem?_cons_succ, List.getElem?_cons_zero]; rfl) (fun K hK => ?_) AllReadyH.nil
            have srcN4 := hk17.below BFN3
            refine step_slots rfl (.tmp 125) (.tmp 126) rfl w17.heap.size _ m.length (slC m) rfl ownN3 ⟨g4, 0, none⟩ k.length sc4 (slC k) rfl (slC_len k) (slot_news srcN4) (slC_one k) (by omega) BFN3.size ?_
            intro aoN4 capN4 wN4 ownN4 grN4 hbN4
            have BFN4 := BFN3.trans hbN4
            have rowN4 := Row2.grown rowN3 ownN3 (by decide) grN4
            refine hK.out _ _ (HSB.out _ BFN4) (fun hHeld => ?_)
            clear hK
            try simp only [Act.put, List.setIfInBounds_toArray, List.set_cons_zero, List.set_cons_succ, Nat.zero_add]
            refine wpAnyH_ready (rs := [6]) (by kernel_rfl) (by simp) ?_
            refine AllReadyH.cons (by simp only [List.getElem?_toArray, List.getElem?_cons_succ, List.getElem?_cons_zero]; rfl) (fun K hK => ?_) AllReadyH.nil
            have srcN5 := hS17.below BFN4
            have slN5 : SlotsAt wN4 _ (m ++ k) := SlotsNew.at (both_own ownN4)
            go_simp
            refine (Drop_lit 8 (m.length + k.length) l3 x B3 X (m ++ k) 0 ao8 cap8 _ _ wN4 HL.out.e8 HL.out.n3 HL.out.n5 (by rw [List.length_append]) (by omega) HL.out.o3.ok.wf srcN5.at srcN5.nil slN5 (by omega)).mono ?_
            rintro e wN5 ⟨⟨aoN5, capN5, rfl, segN5⟩, hbN5⟩
            have hzN5 := hbN5.size
            have BFN5 := BFN4.link hbN5
            have ltD := rowN4.lt
            have rowN5 := rowN4.below hbN5 rowN4.lt
            go_wp2_with fail
            refine hK.out _ _ (HSB.out _ BFN5) (fun hHeld => ?_)
            clear hK
            try simp only [Act.put, List.setIfInBounds_toArray, List.set_cons_zero, List.set_cons_succ]
            refine wpAnyH_take (i := 7) (v := ?_) (by simp only [List.getElem?_toArray, List.getElem?_cons_succ, List.getElem?_cons_zero]; rfl) (by kernel_rfl) (by kernel_rfl) (by kernel_rfl) (by intro _ _ _ h; exact h) (Or.inl ⟨by rfl, ?_⟩) (by assumption) ?_
            rotate_left
            · intro w' hSw
              obtain ⟨s0, s1⟩ := hSw
              go_simp
              try with_reducible rfl
            try simp only [Act.put, List.setIfInBounds_toArray, List.set_cons_zero, List.set_cons_succ]
            refine wpAnyH_take (i := 8) (v := ?_) (by simp only [List.getElem?_toArray, List.getElem?_cons_succ, List.getElem?_cons_zero]; rfl) (by kernel_rfl) (by kernel_rfl) (by kernel_rfl) (by intro _ _ _ h; exact h) (Or.inl ⟨by rfl, ?_⟩) (by assumption) ?_
            rotate_left
            · intro w' hSw
              obtain ⟨s0, s1⟩ := hSw
              go_simp
              try with_reducible rfl
            try simp only [Act.put, List.setIfInBounds_toArray, List.set_cons_zero, List.set_cons_succ]
            refine wpAnyH_take (i := 9) (v := ?_) (by simp only [List.getElem?_toArray, List.getElem?_cons_succ, List.getElem?_cons_zero]; rfl) (by kernel_rfl) (by kernel_rfl) (by kernel_rfl) (by intro _ _ _ h; exact h) (Or.inl ⟨by rfl, ?_⟩) (by assumption) ?_
            rotate_left
            · intro w' hSw
              obtain ⟨s0, s1⟩ := hSw
              go_simp
              try with_reducible rfl
            try simp only [Act.put, List.setIfInBounds_toArray, List.set_cons_zero, List.set_cons_succ]

            refine wpAnyH_ready (rs := [11]) (by kernel_rfl) (by simp) ?_
            refine AllReadyH.cons (by simp only [List.getElem?_toArray, List.getElem?_cons_succ, List.getElem?_cons_zero]; rfl) (fun K hK => ?_) AllReadyH.nil
            refine step_store2 rfl 51 size51 (.tmp 22) (.tmp 129) rfl (v0.heap.size) (.slice aoN5 8 capN5) (.string (strB X)) _ _ rfl rfl rfl rfl rowN5 ?_
            intro wF hrF honF
            have hlF := rowN5.lt
            have BFF : Below w17.heap.size w17 wF := honF.below BFN5 (by first | exact Nat.le_refl _ | exact B0.size)
            have hzF := honF.size
            have sgF : SegNew wF _ aoN5 capN5 x := segN5.same (fun kk off e => honF.heap kk (by have := segN5.blk kk off e; omega))
            refine hK.out _ _ (HSB.out _ BFF) (fun hHeld => ?_)
            clear hK
            try simp only [Act.put, List.setIfInBounds_toArray, List.set_cons_zero, List.set_cons_succ]
            refine wpAnyH_take (i := 12) (v := ?_) (by simp only [List.getElem?_toArray, List.getElem?_cons_succ, List.getElem?_cons_zero]; rfl) (by kernel_rfl) (by kernel_rfl) (by kernel_rfl) (by intro _ _ _ h; exact h) (Or.inl ⟨by rfl, ?_⟩) (by assumption) ?_
            rotate_left
            · intro w' hSw
              obtain ⟨s0, s1⟩ := hSw
              go_simp
              try with_reducible rfl
            try simp only [Act.put, List.setIfInBounds_toArray, List.set_cons_zero, List.set_cons_succ]
            refine wpAnyH_done (by kernel_rfl) ?_ _
            have rF := r17.below BFF r17.lt
            have qF := q17.below BFF q17.lt
            have yF := hr17.below BFF hr17.lt
            have hxF := hx17.below BFF
            have hyF := hy17.below BFF
            have hlF2 := hl17.below BFF
            have m0 := qF.c0
            have m1 := qF.c1
            go_wp2_with (first
              | (go_at_call 30; refine (Get_lit 8 _ x X b ll _ 0 ao12 cap12 so6 sc6 wF HGE.out HL.out.n5 rfl (by omega) HL.out.o5.ok.wf hxF.at hlF2.at (by have := HL.out.s2; omega)).mono ?_; rintro e wG ⟨rfl, hbG⟩; have qG := qF.below hbG qF.lt; have yG := yF.below hbG yF.lt; have fG := hrF.below hbG hrF.lt; have u0 := qG.c0; have u1 := qG.c1; have u2 := yG.c0; have u3 := yG.c1; have hxG := hxF.below hbG; have hyG := hyF.below hbG; have sgG := sgF.below hbG)
              | (go_at_call 29; refine (rsame_lit 8 ao12 ao16 x cap12 cap16 X wG HL.out.n5 (by omega) hxG.at hyG.at).mono ?_; rintro e wH ⟨rfl, hbH⟩; have qH := qG.below hbH qG.lt; have fH := fG.below hbH fG.lt; have v0 := qH.c0; have v1 := qH.c1; have v2 := fH.c0; have v3 := fH.c1; have hxH := hxG.below hbH; have sgH := sgG.below hbH)
              | (go_at_call 29; refine (rsame_lit 8 ao12 aoN5 x cap12 capN5 X wH HL.out.n5 (by omega) hxH.at sgH.at).mono ?_; rintro e wI ⟨rfl, hbI⟩))
            go_ret
            exact ⟨rfl, (H9.link H13).link ((H17.link BFF).link ((hbG.link hbH).link hbI))⟩
      · have hdc : decide ((300 : Int) < ((strB c).size : Int)) = true := decide_eq_true (by rw [strB_size]; omega)
        go_enter Tryd.func10, Tryd.ntmps10
        go_wp2_with (go_at_call 24; refine (awake12_any w hT).mono ?_; rintro e w1 ⟨rfl, hb1⟩)
        go_ret
        exact ⟨rfl, hb1⟩
    · have hdb : decide ((300 : Int) < ((strB b).size : Int)) = true := decide_eq_true (by rw [strB_size]; omega)
      go_enter Tryd.func10, Tryd.ntmps10
      go_wp2_with (go_at_call 24; refine (awake12_any w hT).mono ?_; rintro e w1 ⟨rfl, hb1⟩)
      go_ret
      exact ⟨rfl, hb1⟩
  · have hda : decide ((300 : Int) < ((strB a).size : Int)) = true := decide_eq_true (by rw [strB_size]; omega)
    go_enter Tryd.func10, Tryd.ntmps10
    go_wp2_with (go_at_call 24; refine (awake12_any w hT).mono ?_; rintro e w1 ⟨rfl, hb1⟩)
    go_ret
    exact ⟨rfl, hb1⟩
end Go.Proofs.YtfnokklcbmipgaaDoor
