/- StoreBack: the walk. -/
import Derived.Test.YtfnokklcbmipgaaDoorW2
namespace Go.Proofs.YtfnokklcbmipgaaDoor
open Go.RowKit Plain

attribute [local irreducible] Go.Calls
set_option linter.unusedSimpArgs false in
set_option maxRecDepth 20000 in
set_option maxHeartbeats 8000000 in
theorem back12_walk (ao : Option Addr) (n : Nat) (l : Segs) (cap : Nat) (B D : List UInt8) (so : Option Addr) (k : Nat) (o : Slots) (scap : Nat) (size : Int) (w : World) (hln : l.length = n) (hok_ : o.length = k) (hwf : Wf l) (h : SegAt w ao l) (hn : ao = none → cap = 0) (hs : SlotsAt w so o) (hT : TabAt w) :
    Calls Tryd.prog 8 #[.agg #[.slice ao n cap, .string (strB B)], .string (strB D), .slice so k scap, .int .i64 size] w fun e w' => e = .returned (.bool true) ∧ Below w.heap.size w w' := by
  have R0 := Row2.new w 51 (.slice ao n cap) (.string (strB B))
  have hb0 : Below w.heap.size w (w.alloc (.cells #[.slice ao n cap, .string (strB B)] 51)) := (Below.refl _ _).alloc (Nat.le_refl _) _
  obtain ⟨w1, hw1⟩ : ∃ w1, w1 = w.alloc (.cells #[.slice ao n cap, .string (strB B)] 51) := ⟨_, rfl⟩
  rw [← hw1] at R0 hb0
  have HS := Lib.hid (h.below hb0)
  have HO := Lib.hid (hs.below hb0)
  have T1 := hT.grow hb0
  have HW1 := Lib.hid hw1
  have hz0 := hb0.size
  clear h hs hw1
  by_cases hf : n ≤ 20 ∧ (strB B).size ≤ 12000
  · have HF := Lib.hid (decide_eq_true hf)
    have hn5 : n ≤ 5000 := by omega
    clear hf
    by_cases hd : D.length ≤ 5000
    · have hdd : decide ((5000 : Int) < ((strB D).size : Int)) = false := decide_eq_false (by rw [strB_size]; omega)
      by_cases hk : k ≤ 100
      · have HK := Lib.hid (decide_eq_true hk)
        by_cases hok : okSt l (strB B)
        · have HD := Lib.hid (decide_eq_true hok)
          by_cases he : (putS l B D).2.2.2 = 0
          · have HB := Lib.hid (back_law o size he)
            have HP := Lib.hid (putS_ok he)
            obtain ⟨m, C, ss, hE⟩ : ∃ m C ss, putS l B D = (m, C, ss, 0) := ⟨_, _, _, Prod.ext rfl (Prod.ext rfl (Prod.ext rfl he))⟩
            rw [hE] at HB HP
            have HB : Hid (BackLaw l B D o size m C ss) := HB
            have HP : Hid (PutOk l B D m C ss) := HP
            have hm : m.length = n := by rw [← HP.out.sub.len]; exact hln
            have hsl : ss.length ≤ 1000000 := by
              have := congrArg List.length HP.out.cls
              rw [cls_len] at this
              have := cutC_len D.length HP.out.d2
              omega
            obtain ⟨X, x, hX⟩ : ∃ X x, getS l B o size = (X, x) := ⟨_, _, rfl⟩
            obtain ⟨Y, y, hY⟩ : ∃ Y y, getS m C o size = (Y, y) := ⟨_, _, rfl⟩
            have HX := Lib.hid hX
            have HY := Lib.hid hY
            have HE := Lib.hid hE
            have HOK := Lib.hid hok
            have hcase : (x = 0 ∧ y = 0 ∧ X = Y) ∨ (x != 0) = true := by
              by_cases h0 : x = 0
              · left
                have := HB.out.other (by rw [hX]; exact h0)
                rw [hX, hY] at this
                simp only [Prod.mk.injEq] at this
                exact ⟨h0, this.2.trans h0, this.1.symm⟩
              · right
                simpa using h0
            have HGE : Hid (getS m C ss ((strB D).size : Int) = (D, 0)) := by show _ = _; rw [strB_size]; exact HB.out.get
            clear he hE hok hX hY
            rcases hcase with ⟨rfl, rfl, rfl⟩ | hx0
            all_goals (
              go_enter Tryd.func8, Tryd.ntmps8
              go_wp2_with (first
                | (rw [← HW1.out]; go_at_call 24; refine (awake12_any w1 T1).mono ?_; rintro e w2 ⟨rfl, hb2⟩; have hz2 := hb2.size; have r2 := R0.below hb2 R0.lt; have b0 := r2.c0; have b1 := r2.c1; have T2 := T1.grow hb2; have HS2 := Lib.hid (HS.out.below hb2); have HO2 := Lib.hid (HO.out.below hb2))
                | (go_at_call 25; refine (few12_any ao n cap (strB B) w2).mono ?_; rintro e w3 ⟨rfl, hb3⟩; rw [HF.out]; have hz3 := hb3.size; have r3 := r2.below hb3 r2.lt; have b30 := r3.c0; have b31 := r3.c1; have T3 := T2.grow hb3; have HS3 := Lib.hid (HS2.out.below hb3); have HO3 := Lib.hid (HO2.out.below hb3))
                | (go_at_call 26; refine (few_any so k scap w3).mono ?_; rintro e w3' ⟨rfl, rfl⟩; rw [HK.out])
                | (go_at_call 27; refine (scheck_lit n l B true ao cap w3 HD.out hln hn5 hwf HS3.out).mono ?_; rintro e w4 ⟨rfl, hb4⟩; have hz4 := hb4.size; have r4 := r3.below hb4 r3.lt; have b40 := r4.c0; have b41 := r4.c1; have T4 := T3.grow hb4; have HS4 := Lib.hid (HS3.out.below hb4); have HO4 := Lib.hid (HO3.out.below hb4))
                | (go_at_call 28; refine (Put_lit n l m B C D ss 0 ao cap w4 HE.out hln hm hn5 hwf HS4.out hn T4 (by omega)).mono ?_; rintro e w5 ⟨⟨ao5, cap5, so5, sc5, rfl, hs5, hq5⟩, hb5⟩; have hz5 := hb5.size; have r5 := r4.below hb5 r4.lt; have HS5 := Lib.hid (HS4.out.below hb5); have HO5 := Lib.hid (HO4.out.below hb5))
                | (refine wpList_store2 rfl 51 size51 (.tmp 10) (.tmp 45) rfl w5.heap.size _ _ (.slice none 0 0) (.string ⟨#[]⟩) rfl rfl rfl rfl (Row2.new w5 51 _ _) ?_; intro w6 hr6 hon6; have hb6 := hon6.fresh; have hz6 := hr6.lt; have r6 := r5.below hb6 r5.lt; have d0 := hr6.c0; have d1 := hr6.c1; have hs6 := hs5.below hb6; have hq6 := hq5.below hb6; have HS6 := Lib.hid (HS5.out.below hb6); have HO6 := Lib.hid (HO5.out.below hb6))
                | (go_at_call 30; refine (Get_lit n _ m C D ss _ 0 ao5 cap5 so5 sc5 w6 HGE.out hm rfl hn5 HB.out.ok.ok.wf hs6.at hq6.at hsl).mono ?_; rintro e w7 ⟨rfl, hb7⟩; have hz7 := hb7.size; have r7 := r6.below hb7 r6.lt; have q7 := hr6.below hb7 hr6.lt; have d70 := q7.c0; have d71 := q7.c1; have hs7 := hs6.below hb7; have hq7 := hq6.below hb7; have HS7 := Lib.hid (HS6.out.below hb7); have HO7 := Lib.hid (HO6.out.below hb7))
                | (go_at_call 31; refine (Drop_lit n _ m l C B ss 0 ao5 cap5 so5 sc5 w7 HB.out.drop hm hln rfl hn5 HB.out.ok.ok.wf hs7.at hs7.nil hq7.at hsl).mono ?_; rintro e w8 ⟨⟨ao8, cap8, rfl, hs8⟩, hb8⟩; have hz8 := hb8.size; have r8 := r7.below hb8 r7.lt; have q8 := q7.below hb8 q7.lt; have hs78 := hs7.below hb8; have HS8 := Lib.hid (HS7.out.below hb8); have HO8 := Lib.hid (HO7.out.below hb8))
                | (refine wpList_store2 rfl 51 size51 (.tmp 15) (.tmp 73) rfl w8.heap.size _ _ (.slice none 0 0) (.string ⟨#[]⟩) rfl rfl rfl rfl (Row2.new w8 51 _ _) ?_; intro w9 hr9 hon9; have hb9 := hon9.fresh; have hz9 := hr9.lt; have r9 := r8.below hb9 r8.lt; have q9 := q8.below hb9 q8.lt; have b90 := r9.c0; have b91 := r9.c1; have hs9 := hs8.below hb9; have hs79 := hs78.below hb9; have HS9 := Lib.hid (HS8.out.below hb9); have HO9 := Lib.hid (HO8.out.below hb9))
                | (go_at_call 30; refine (Get_lit n k l B _ o size _ ao cap so scap w9 HX.out hln hok_ hn5 hwf HS9.out HO9.out (by omega)).mono ?_; rintro e w10 ⟨rfl, hb10⟩; have hz10 := hb10.size; have r10 := r9.below hb10 r9.lt; have q10 := q9.below hb10 q9.lt; have t10 := hr9.below hb10 hr9.lt; have d100 := q10.c0; have d101 := q10.c1; have hs10 := hs9.below hb10; have hs710 := hs79.below hb10; have HS10 := Lib.hid (HS9.out.below hb10); have HO10 := Lib.hid (HO9.out.below hb10))
                | (go_at_call 30; refine (Get_lit n k m C _ o size _ ao5 cap5 so scap w10 HY.out hm hok_ hn5 HB.out.ok.ok.wf hs710.at HO10.out (by omega)).mono ?_; rintro e w11 ⟨rfl, hb11⟩; have hz11 := hb11.size; have r11 := r10.below hb11 r10.lt; have q11 := q10.below hb11 q10.lt; have t11 := t10.below hb11 t10.lt; have u0 := r11.c0; have u1 := r11.c1; have u2 := t11.c0; have u3 := t11.c1; have hs11 := hs10.below hb11; have hs711 := hs710.below hb11; have HS11 := Lib.hid (HS10.out.below hb11))
                | (go_at_call 29; refine (rsame_lit n ao8 ao l cap8 cap B w11 hln hn5 hs11.at HS11.out).mono ?_; rintro e w12 ⟨rfl, hb12⟩; have hz12 := hb12.size; have q12 := q11.below hb12 q11.lt; have v0 := q12.c0; have v1 := q12.c1; have hs712 := hs711.below hb12)
                | (go_at_call 27; refine (scheck_lit n m C true ao5 cap5 w12 (decide_eq_true HB.out.ok) hm hn5 HB.out.ok.ok.wf hs712.at).mono ?_; rintro e w13 ⟨rfl, hb13⟩))
              go_ret
              exact ⟨rfl, ((((((((((((hb0.link hb2).link hb3).link hb4).link hb5).link hb6).link hb7).link hb8).link hb9).link hb10).link hb11).link hb12).link hb13)⟩)
          · have hE := putS_err he
            obtain ⟨e0, he0⟩ : ∃ e0, e0 = (putS l B D).2.2.2 := ⟨_, rfl⟩
            rw [← he0] at hE he
            have HE := Lib.hid hE
            have HOK := Lib.hid hok
            have hne : (e0 != 0) = true := by simpa using he
            clear he hE he0 hok
            go_enter Tryd.func8, Tryd.ntmps8
            go_wp2_with (first
              | (rw [← HW1.out]; go_at_call 24; refine (awake12_any w1 T1).mono ?_; rintro e w2 ⟨rfl, hb2⟩; have hz2 := hb2.size; have r2 := R0.below hb2 R0.lt; have b0 := r2.c0; have b1 := r2.c1; have T2 := T1.grow hb2; have HS2 := Lib.hid (HS.out.below hb2))
              | (go_at_call 25; refine (few12_any ao n cap (strB B) w2).mono ?_; rintro e w3 ⟨rfl, hb3⟩; rw [HF.out]; have hz3 := hb3.size; have r3 := r2.below hb3 r2.lt; have b30 := r3.c0; have b31 := r3.c1; have T3 := T2.grow hb3; have HS3 := Lib.hid (HS2.out.below hb3))
              | (go_at_call 26; refine (few_any so k scap w3).mono ?_; rintro e w3' ⟨rfl, rfl⟩; rw [HK.out])
              | (go_at_call 27; refine (scheck_lit n l B true ao cap w3 HD.out hln hn5 hwf HS3.out).mono ?_; rintro e w4 ⟨rfl, hb4⟩; have hz4 := hb4.size; have r4 := r3.below hb4 r3.lt; have b40 := r4.c0; have b41 := r4.c1; have T4 := T3.grow hb4; have HS4 := Lib.hid (HS3.out.below hb4))
              | (go_at_call 28; refine (Put_lit n l l B B D [] e0 ao cap w4 HE.out hln hln hn5 hwf HS4.out hn T4 (by omega)).mono ?_; rintro e w5 ⟨⟨ao5, cap5, so5, sc5, rfl, hs5, hq5⟩, hb5⟩; have hz5 := hb5.size; have r5 := r4.below hb5 r4.lt; have HS5 := Lib.hid (HS4.out.below hb5))
              | (refine wpList_store2 rfl 51 size51 (.tmp 10) (.tmp 45) rfl w5.heap.size _ _ (.slice none 0 0) (.string ⟨#[]⟩) rfl rfl rfl rfl (Row2.new w5 51 _ _) ?_; intro w6 hr6 hon6; have hb6 := hon6.fresh; have hz6 := hr6.lt; have r6 := r5.below hb6 r5.lt; have d0 := hr6.c0; have d1 := hr6.c1; have u0 := r6.c0; have u1 := r6.c1; have hs6 := hs5.below hb6; have HS6 := Lib.hid (HS5.out.below hb6))
              | (go_at_call 29; refine (rsame_lit n ao5 ao l cap5 cap B w6 hln hn5 hs6.at HS6.out).mono ?_; rintro e w7 ⟨rfl, hb7⟩))
            go_ret
            exact ⟨rfl, ((((((hb0.link hb2).link hb3).link hb4).link hb5).link hb6).link hb7)⟩
        · have HD := Lib.hid (decide_eq_false hok)
          clear hok
          go_enter Tryd.func8, Tryd.ntmps8
          go_wp2_with (first
            | (rw [← HW1.out]; go_at_call 24; refine (awake12_any w1 T1).mono ?_; rintro e w2 ⟨rfl, hb2⟩; have r2 := R0.below hb2 R0.lt; have b0 := r2.c0; have b1 := r2.c1; have HS2 := Lib.hid (HS.out.below hb2))
            | (go_at_call 25; refine (few12_any ao n cap (strB B) w2).mono ?_; rintro e w3 ⟨rfl, hb3⟩; rw [HF.out]; have r3 := r2.below hb3 r2.lt; have b30 := r3.c0; have b31 := r3.c1; have HS3 := Lib.hid (HS2.out.below hb3))
            | (go_at_call 26; refine (few_any so k scap w3).mono ?_; rintro e w3' ⟨rfl, rfl⟩; rw [HK.out])
            | (go_at_call 27; refine (scheck_lit n l B false ao cap w3 HD.out hln hn5 hwf HS3.out).mono ?_; rintro e w4 ⟨rfl, hb4⟩))
          go_ret
          exact ⟨rfl, ((hb0.link hb2).link hb3).link hb4⟩
      · have HK := Lib.hid (decide_eq_false hk)
        clear hk
        go_enter Tryd.func8, Tryd.ntmps8
        go_wp2_with (first
          | (rw [← HW1.out]; go_at_call 24; refine (awake12_any w1 T1).mono ?_; rintro e w2 ⟨rfl, hb2⟩; have r2 := R0.below hb2 R0.lt; have b0 := r2.c0; have b1 := r2.c1)
          | (go_at_call 25; refine (few12_any ao n cap (strB B) w2).mono ?_; rintro e w3 ⟨rfl, hb3⟩; rw [HF.out])
          | (go_at_call 26; refine (few_any so k scap w3).mono ?_; rintro e w3' ⟨rfl, rfl⟩; rw [HK.out]))
        go_ret
        exact ⟨rfl, (hb0.link hb2).link hb3⟩
    · have hdd : decide ((5000 : Int) < ((strB D).size : Int)) = true := decide_eq_true (by rw [strB_size]; omega)
      go_enter Tryd.func8, Tryd.ntmps8
      go_wp2_with (first
        | (rw [← HW1.out]; go_at_call 24; refine (awake12_any w1 T1).mono ?_; rintro e w2 ⟨rfl, hb2⟩; have r2 := R0.below hb2 R0.lt; have b0 := r2.c0; have b1 := r2.c1)
        | (go_at_call 25; refine (few12_any ao n cap (strB B) w2).mono ?_; rintro e w3 ⟨rfl, hb3⟩; rw [HF.out]))
      go_ret
      exact ⟨rfl, (hb0.link hb2).link hb3⟩
  · have HF := Lib.hid (decide_eq_false hf)
    clear hf
    go_enter Tryd.func8, Tryd.ntmps8
    go_wp2_with (first
      | (rw [← HW1.out]; go_at_call 24; refine (awake12_any w1 T1).mono ?_; rintro e w2 ⟨rfl, hb2⟩; have r2 := R0.below hb2 R0.lt; have b0 := r2.c0; have b1 := r2.c1)
      | (go_at_call 25; refine (few12_any ao n cap (strB B) w2).mono ?_; rintro e w3 ⟨rfl, hb3⟩; rw [HF.out]))
    go_ret
    exact ⟨rfl, (hb0.link hb2).link hb3⟩
end Go.Proofs.YtfnokklcbmipgaaDoor
