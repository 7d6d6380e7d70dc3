/- StorePacks: the walk. -/
import Derived.Test.YtfnokklcbmipgaaDoorW6
namespace Go.Proofs.YtfnokklcbmipgaaDoor
open Go.RowKit Plain

attribute [local irreducible] Go.Calls
set_option linter.unusedSimpArgs false in
set_option linter.unusedVariables false in
set_option maxRecDepth 20000 in
set_option maxHeartbeats 16000000 in
theorem packs12_walk (a0 : Option Addr) (n0 : Nat) (tx : List (List UInt8)) (cap0 : Nat) (a1 : Option Addr) (n1 : Nat) (dr : List Int) (cap1 : Nat) (w : World) (hn0 : tx.length = n0) (hn1 : dr.length = n1) (hx : TextsAt w a0 tx) (hd : BytsAt w a1 dr) (hT : TabAt w) :
    Calls Tryd.prog 11 #[.slice a0 n0 cap0, .slice a1 n1 cap1] w fun e w' => e = .returned (.bool true) ∧ Below w.heap.size w w' := by
  have hw0 := hT.2
  obtain ⟨Z, hZ⟩ : ∃ Z, List.replicate (20 * 512) (0 : UInt8) = Z := ⟨_, rfl⟩
  have hZok := okSt_new (n := 20) (by omega)
  rw [hZ] at hZok
  have HZ := Lib.hid hZ
  have HZOK := Lib.hid hZok
  have HX := Lib.hid hx
  have HDR := Lib.hid hd
  clear hZ hZok hx hd
  by_cases h30 : n0 ≤ 30
  · have hd0 : decide ((30 : Int) < (n0 : Int)) = false := decide_eq_false (by omega)
    by_cases h31 : n1 ≤ 30
    · have hd1 : decide ((30 : Int) < (n1 : Int)) = false := decide_eq_false (by omega)
      go_enter Tryd.func11, Tryd.ntmps11
      go_wp2_with (first
        | (go_at_call 24; refine (awake12_any w hT).mono ?_; rintro e w1 ⟨rfl, hb1⟩; have hz1 := hb1.size; have T1 := hT.grow hb1)
        | (go_at_call 32; refine (New_lit 20 w1 (by omega)).mono ?_; rintro e w2 ⟨⟨ao2, cap2, rfl, hs2⟩, hb2⟩; rw [HZ.out]; have hz2 := hb2.size; have T2 := T1.grow hb2)
        | (refine wpList_store2 rfl 51 size51 (.tmp 6) (.tmp 28) rfl w2.heap.size _ _ (.slice none 0 0) (.string ⟨#[]⟩) rfl rfl rfl rfl (Row2.new w2 51 _ _) ?_; intro w3 hr3 hon3; have hb3 := hon3.fresh; have hz3 := hr3.lt; have HT3 := Lib.hid (T2.grow hb3); have HS2 := Lib.hid hs2; have HS3 := Lib.hid (hs2.below hb3)))
      go_loopw [8, 9, 10] (fun v8 v9 i wr => ∃ (t : Nat) (l : Segs) (B : List UInt8) (ps : Kept) (ao : Option Addr) (cap : Nat) (co8 co9 : Option Addr) (cc8 cc9 : Nat), t ≤ n0 ∧ i = .int .i64 t ∧ v8 = .slice co8 ps.length cc8 ∧ v9 = .slice co9 ps.length cc9 ∧ BoxAt w w3.heap.size w2.heap.size (.slice co8 ps.length cc8) (.slice co9 ps.length cc9) l B (ps.map (·.1)) (ps.map (·.2)) ao cap wr ∧ Keep l B ps ∧ ps.length ≤ t) (fun _ _ i _ => n0 - (intOf i).toNat)
      case atStart => exact ⟨0, newS 20, Z, [], ao2, cap2, none, none, 0, 0, Nat.zero_le _, rfl, rfl, rfl, ⟨hr3, HS3.out.mono (Nat.zero_le _), fun k off e => by have := (HS2.out.blk k off e).2; omega, ChainsNew.nil _ _, TextsNew.nil _ _, (hb1.link hb2).link hb3, HT3.out, Nat.le_refl _, by omega⟩, keep_new HZOK.out, Nat.le_refl _⟩
      case round =>
        obtain ⟨t, l, B, ps, ao, cap, co8, co9, cc8, cc9, ht, rfl, rfl, rfl, hK0, hKP, hPS⟩ := hrel
        have HK := Lib.hid hK0
        have HKP := Lib.hid hKP
        have HPS := Lib.hid hPS
        clear hK0
        by_cases hlt : t < n0
        · have HLT := Lib.hid hlt
          have hi : (t : Int) < (n0 : Int) := by omega
          obtain ⟨xb, xo, rfl, hxb, hxc⟩ := HX.out.cell t (by omega)
          obtain ⟨D, hD⟩ : ∃ D, D = tx.getD t [] := ⟨_, rfl⟩
          rw [← hD] at hxc
          have HXB := Lib.hid hxb
          have HXC := Lib.hid hxc
          have xc := (HK.out.bel.cell (p := ⟨xb, xo + t, none⟩) hxb).trans hxc
          clear hxc hD hxb
          by_cases hdl : D.length ≤ 300
          · have hdd : decide ((300 : Int) < ((strB D).size : Int)) = false := decide_eq_false (by rw [strB_size]; omega)
            have HSB : Hid (∀ w', Below wr.heap.size wr w' → w'.cell? ⟨w2.heap.size, 0, none⟩ = some (.slice ao 20 cap) ∧ w'.cell? ⟨w2.heap.size, 1, none⟩ = some (.string (strB B)) ∧ w'.cell? ⟨xb, xo + t, none⟩ = some (.string (strB D))) := fun w' hb => ⟨(HK.out.box.below hb HK.out.box.lt).c0, (HK.out.box.below hb HK.out.box.lt).c1, ((HK.out.bel.link hb).cell (p := ⟨xb, xo + t, none⟩) HXB.out).trans HXC.out⟩
            have HDL : Hid (D.length ≤ 1000000) := by show _ ≤ _; omega
            have HLL := Lib.hid hKP.len
            have HWF := Lib.hid hKP.ok.ok.wf
            by_cases he : (putS l B D).2.2.2 = 0
            · have hP := putS_ok he
              obtain ⟨m, C, ss, hE⟩ : ∃ m C ss, putS l B D = (m, C, ss, 0) := ⟨_, _, _, Prod.ext rfl (Prod.ext rfl (Prod.ext rfl he))⟩
              rw [hE] at hP
              have HP : Hid (PutOk l B D m C ss) := hP
              have HE := Lib.hid hE
              have HML : Hid (m.length = 20) := HP.out.sub.len.symm.trans HLL.out
              have HKN := Lib.hid (keep_put HKP.out HP.out hdl)
              have HMF := Lib.hid HP.out.ok.ok.wf
              have HDROP := Lib.hid (drop_back HP.out.sub HP.out.ok)
              have HSS : Hid (ss.length ≤ 1000000) := by have := (put_num HP.out).2; show _ ≤ _; omega
              clear he hE hP hPS hKP
              by_cases htn : t < n1
              · have hj : decide ((n1 : Int) ≤ (t : Int)) = false := decide_eq_false (by omega)
                have hj2 : decide ((t : Int) < (n1 : Int)) = true := decide_eq_true (by omega)
                have hj3 : (t : Int) < (n1 : Int) := by omega
                obtain ⟨db, dof, rfl, hdb, hdc, hd0', hd256⟩ := HDR.out.cell t (by omega)
                obtain ⟨x, hx⟩ : ∃ x, x = dr.getD t 0 := ⟨_, rfl⟩
                rw [← hx] at hdc hd0' hd256
                have HDB := Lib.hid hdb
                have HDC := Lib.hid hdc
                clear hx hdc hdb
                have hr2 : x % 2 = 0 ∨ x % 2 = 1 := by omega
                rcases hr2 with hr2 | hr2
                · have hr2' : (x % 2 == 0) = true := by simp [hr2]
                  go_wp2_with fail
                  have B0 := (Below.refl wr.heap.size wr).drew
                  refine wp_region_held_drew (S := fun w' => w'.cell? ⟨w2.heap.size, 0, none⟩ = some (.slice ao 20 cap) ∧ w'.cell? ⟨w2.heap.size, 1, none⟩ = some (.string (strB B)) ∧ w'.cell? ⟨xb, xo + t, none⟩ = some (.string (strB D))) (by kernel_rfl) (HSB.out _ B0) (fun hHeld => ?_)
                  generalize wr.drew = v0 at *
                  refine wpAnyH_take (i := 0) (v := ?_) (by simp only [List.getElem?_toArray, List.getElem?_cons_succ, List.getElem?_cons_zero]; rfl) (by kernel_rfl) (by kernel_rfl) (by kernel_rfl) (by intro _ _ _ h; exact h) (Or.inl ⟨by rfl, ?_⟩) (by assumption) ?_
                  rotate_left
                  · intro w' hSw
                    obtain ⟨s0, s1, s2⟩ := hSw
                    go_simp
                    try with_reducible rfl
                  try simp only [Act.put, List.setIfInBounds_toArray, List.set_cons_zero, List.set_cons_succ]
                  refine wpAnyH_take (i := 1) (v := ?_) (by simp only [List.getElem?_toArray, List.getElem?_cons_succ, List.getElem?_cons_zero]; rfl) (by kernel_rfl) (by kernel_rfl) (by kernel_rfl) (by intro _ _ _ h; exact h) (Or.inl ⟨by rfl, ?_⟩) (by assumption) ?_
                  rotate_left
                  · intro w' hSw
                    obtain ⟨s0, s1, s2⟩ := hSw
                    go_simp
                    try with_reducible rfl
                  try simp only [Act.put, List.setIfInBounds_toArray, List.set_cons_zero, List.set_cons_succ]
                  refine wpAnyH_take (i := 2) (v := ?_) (by simp only [List.getElem?_toArray, List.getElem?_cons_succ, List.getElem?_cons_zero]; rfl) (by kernel_rfl) (by kernel_rfl) (by kernel_rfl) (by intro _ _ _ h; exact h) (Or.inl ⟨by rfl, ?_⟩) (by assumption) ?_
                  rotate_left
                  · intro w' hSw
                    obtain ⟨s0, s1, s2⟩ := hSw
                    go_simp
                    try with_reducible rfl
                  try simp only [Act.put, List.setIfInBounds_toArray, List.set_cons_zero, List.set_cons_succ]
                  refine wpAnyH_take (i := 3) (v := ?_) (by simp only [List.getElem?_toArray, List.getElem?_cons_succ, List.getElem?_cons_zero]; rfl) (by kernel_rfl) (by kernel_rfl) (by kernel_rfl) (by intro _ _ _ h; exact h) (Or.inl ⟨by rfl, ?_⟩) (by assumption) ?_
                  rotate_left
                  · intro w' hSw
                    obtain ⟨s0, s1, s2⟩ := hSw
                    go_simp
                    try with_reducible rfl
                  try simp only [Act.put, List.setIfInBounds_toArray, List.set_cons_zero, List.set_cons_succ]
                  refine wpAnyH_take (i := 4) (v := ?_) (by simp only [List.getElem?_toArray, List.getElem?_cons_succ, List.getElem?_cons_zero]; rfl) (by kernel_rfl) (by kernel_rfl) (by kernel_rfl) (by intro _ _ _ h; exact h) (Or.inl ⟨by rfl, ?_⟩) (by assumption) ?_
                  rotate_left
                  · intro w' hSw
                    obtain ⟨s0, s1, s2⟩ := hSw
                    go_simp
                    try with_reducible rfl
                  try simp only [Act.put, List.setIfInBounds_toArray, List.set_cons_zero, List.set_cons_succ]
                  refine wpAnyH_ready (rs := [5, 10]) (by kernel_rfl) (by simp) ?_
                  refine AllReadyH.cons (by simp only [List.getElem?_toArray, List.getElem?_cons_succ, List.getElem?_cons_zero]; rfl) (fun K hK => ?_) ?_
                  · skip
                    have sgS := HK.out.seg.below B0
                    have tbS := HK.out.tab.grow B0
                    go_simp
                    refine (Put_lit 20 l m B C D ss _ ao cap v0 HE.out HLL.out HML.out (by omega) HWF.out sgS.at sgS.nil tbS HDL.out).mono ?_
                    rintro e wA ⟨⟨aoA, capA, soA, scA, rfl, sgA, sqA⟩, hbA⟩
                    have BFA := B0.link hbA
                    go_wp2_with fail
                    refine hK.out _ _ (HSB.out _ BFA) (fun hHeld => ?_)
                    clear hK
                    try simp only [Act.put, List.setIfInBounds_toArray, List.set_cons_zero, List.set_cons_succ]
                    refine wpAnyH_take (i := 6) (v := ?_) (by simp only [List.getElem?_toArray, List.getElem?_cons_succ, List.getElem?_cons_zero]; rfl) (by kernel_rfl) (by kernel_rfl) (by kernel_rfl) (by intro _ _ _ h; exact h) (Or.inl ⟨by rfl, ?_⟩) (by assumption) ?_
                    rotate_left
                    · intro w' hSw
                      obtain ⟨s0, s1, s2⟩ := hSw
                      go_simp
                      try with_reducible rfl
                    try simp only [Act.put, List.setIfInBounds_toArray, List.set_cons_zero, List.set_cons_succ]
                    refine wpAnyH_take (i := 7) (v := ?_) (by simp only [List.getElem?_toArray, List.getElem?_cons_succ, List.getElem?_cons_zero]; rfl) (by kernel_rfl) (by kernel_rfl) (by kernel_rfl) (by intro _ _ _ h; exact h) (Or.inl ⟨by rfl, ?_⟩) (by assumption) ?_
                    rotate_left
                    · intro w' hSw
                      obtain ⟨s0, s1, s2⟩ := hSw
                      go_simp
                      try with_reducible rfl
                    try simp only [Act.put, List.setIfInBounds_toArray, List.set_cons_zero, List.set_cons_succ]
                    refine wpAnyH_take (i := 8) (v := ?_) (by simp only [List.getElem?_toArray, List.getElem?_cons_succ, List.getElem?_cons_zero]; rfl) (by kernel_rfl) (by kernel_rfl) (by kernel_rfl) (by intro _ _ _ h; exact h) (Or.inl ⟨by rfl, ?_⟩) (by assumption) ?_
                    rotate_left
                    · intro w' hSw
                      obtain ⟨s0, s1, s2⟩ := hSw
                      go_simp
                      try with_reducible rfl
                    try simp only [Act.put, List.setIfInBounds_toArray, List.set_cons_zero, List.set_cons_succ]
                    refine wpAnyH_take (i := 9) (v := ?_) (by simp only [List.getElem?_toArray, List.getElem?_cons_succ, List.getElem?_cons_zero]; rfl) (by kernel_rfl) (by kernel_rfl) (by kernel_rfl) (by intro _ _ _ h; exact h) (Or.inl ⟨by rfl, ?_⟩) (by assumption) ?_
                    rotate_left
                    · intro w' hSw
                      obtain ⟨s0, s1, s2⟩ := hSw
                      go_simp
                      try with_reducible rfl
                    try simp only [Act.put, List.setIfInBounds_toArray, List.set_cons_zero, List.set_cons_succ]
                    refine wpAnyH_ready (rs := [10]) (by kernel_rfl) (by simp) ?_
                    refine AllReadyH.cons (by simp only [List.getElem?_toArray, List.getElem?_cons_succ, List.getElem?_cons_zero]; rfl) (fun K hK => ?_) AllReadyH.nil
                    have sgX := sgA.below ((Below.refl _ wA).alloc (Nat.le_refl _) (.cells #[.slice none 0 0, .string ⟨#[]⟩] 51))
                    have sqX := sqA.below ((Below.refl _ wA).alloc (Nat.le_refl _) (.cells #[.slice none 0 0, .string ⟨#[]⟩] 51))
                    have sgB := sgA
                    have sqB := sqA
                    have rowE := Row2.new wA 51 (.slice none 0 0) (.string ⟨#[]⟩)
                    have BFE := BFA.alloc BFA.size (.cells #[.slice none 0 0, .string ⟨#[]⟩] 51)
                    go_simp
                    obtain ⟨wE, hwE⟩ : ∃ wE, wE = (wA.alloc (.cells #[.slice none 0 0, .string ⟨#[]⟩] 51)) := ⟨_, rfl⟩
                    rw [← hwE] at rowE BFE sgX sqX ⊢
                    clear hwE
                    refine hK.out _ _ (HSB.out _ BFE) (fun hHeld => ?_)
                    clear hK
                    try simp only [Act.put, List.setIfInBounds_toArray, List.set_cons_zero, List.set_cons_succ]
                    have rowX := rowE
                    refine wpAnyH_ready (rs := [11]) (by kernel_rfl) (by simp) ?_
                    refine AllReadyH.cons (by simp only [List.getElem?_toArray, List.getElem?_cons_succ, List.getElem?_cons_zero]; rfl) (fun K hK => ?_) AllReadyH.nil
                    refine step_store2 rfl 51 size51 (.tmp 11) (.tmp 77) rfl (wA.heap.size) (.slice aoA 20 capA) (.string (strB C)) _ _ rfl rfl rfl rfl rowX ?_
                    intro wF hrF honF
                    have ltX := rowX.lt
                    have BF : Below wr.heap.size wr wF := honF.below BFE (by first | exact Nat.le_refl _ | exact BFA.size)
                    have sgF : SegNew wF w3.heap.size aoA capA m := (sgX.same (fun kk off e => honF.heap kk (by have := sgB.blk kk off e; omega))).mono (by have := HK.out.low; have := B0.size; omega)
                    have sqF : SlotsNew wF w3.heap.size soA scA ss := (sqX.same (fun kk off e => honF.heap kk (by have := sqB.blk kk off e; omega))).mono (by have := HK.out.low; have := B0.size; omega)
                    refine hK.out _ _ (HSB.out _ BF) (fun hHeld => ?_)
                    clear hK
                    try simp only [Act.put, List.setIfInBounds_toArray, List.set_cons_zero, List.set_cons_succ]
                    refine wpAnyH_take (i := 12) (v := ?_) (by simp only [List.getElem?_toArray, List.getElem?_cons_succ, List.getElem?_cons_zero]; rfl) (by kernel_rfl) (by kernel_rfl) (by kernel_rfl) (by intro _ _ _ h; exact h) (Or.inl ⟨by rfl, ?_⟩) (by assumption) ?_
                    rotate_left
                    · intro w' hSw
                      obtain ⟨s0, s1, s2⟩ := hSw
                      go_simp
                      try with_reducible rfl
                    try simp only [Act.put, List.setIfInBounds_toArray, List.set_cons_zero, List.set_cons_succ]
                    refine wpAnyH_take (i := 13) (v := ?_) (by simp only [List.getElem?_toArray, List.getElem?_cons_succ, List.getElem?_cons_zero]; rfl) (by kernel_rfl) (by kernel_rfl) (by kernel_rfl) (by intro _ _ _ h; exact h) (Or.inl ⟨by rfl, ?_⟩) (by assumption) ?_
                    rotate_left
                    · intro w' hSw
                      obtain ⟨s0, s1, s2⟩ := hSw
                      go_simp
                      try with_reducible rfl
                    try simp only [Act.put, List.setIfInBounds_toArray, List.set_cons_zero, List.set_cons_succ]
                    refine wpAnyH_done (by kernel_rfl) ?_ _

                    have KF := HK.out.below BF
                    have c11 := hrF.c0
                    have c12 := hrF.c1
                    have rbF := KF.box
                    go_wp2_with (first
                      | (refine wpList_store2 rfl 51 size51 (.tmp 6) (.tmp 80) rfl w2.heap.size _ _ _ _ rfl rfl rfl rfl rbF ?_; intro wG hrG honG; have KG := KF.put honG hrG sgF; have sqG := sqF.only honG hz3; have KGb := ((KG.bel.cell (p := ⟨db, dof + t, none⟩) HDB.out).trans HDC.out))
                      | (at_builtin; refine list_chain rfl (.tmp 97) (.tmp 99) rfl w3.heap.size _ (.slice soA ss.length scA) ps.length (ps.map (fun p : Slots × List UInt8 => p.1)) ss (List.length_map _) rfl KG.chs ⟨soA, scA, rfl, sqG⟩ rfl (by have := HPS.out; omega) KG.low ?_; intro ao8 cap8 wH hcH hgH hbH; have KH := KG.chain hcH hgH hbH; have xcH := (KH.bel.cell (p := ⟨xb, xo + t, none⟩) HXB.out).trans HXC.out; have KHb := ((KH.bel.cell (p := ⟨db, dof + t, none⟩) HDB.out).trans HDC.out))
                      | (at_builtin; refine list_text rfl (.tmp 101) (.tmp 106) rfl w3.heap.size _ ps.length (ps.map (fun p : Slots × List UInt8 => p.2)) D (List.length_map _) rfl KH.dat rfl (by have := HPS.out; omega) KH.low ?_; intro ao9 cap9 wI hcI hgI hbI; have KI := KH.text hcI hgI hbI; have KIb := ((KI.bel.cell (p := ⟨db, dof + t, none⟩) HDB.out).trans HDC.out)))
                    go_roundw
                    case rel =>
                      refine ⟨t + 1, m, C, ps ++ [(ss, D)], aoA, capA, ao8, ao9, cap8, cap9, by have := HLT.out; omega, by go_num, by rw [List.length_append]; rfl, by rw [List.length_append]; rfl, ?_, HKN.out, by have := HPS.out; rw [List.length_append]; simp; omega⟩
                      rw [List.map_append, List.map_append, List.length_append]
                      exact KI
                    case measure => have := HLT.out; simp [intOf]; omega
                  · skip
                    refine AllReadyH.cons (by simp only [List.getElem?_toArray, List.getElem?_cons_succ, List.getElem?_cons_zero]; rfl) (fun K hK => ?_) AllReadyH.nil
                    have rowE := Row2.new v0 51 (.slice none 0 0) (.string ⟨#[]⟩)
                    have BFE := B0.alloc B0.size (.cells #[.slice none 0 0, .string ⟨#[]⟩] 51)
                    go_simp
                    obtain ⟨wE, hwE⟩ : ∃ wE, wE = (v0.alloc (.cells #[.slice none 0 0, .string ⟨#[]⟩] 51)) := ⟨_, rfl⟩
                    rw [← hwE] at rowE BFE ⊢
                    clear hwE
                    refine hK.out _ _ (HSB.out _ BFE) (fun hHeld => ?_)
                    clear hK
                    try simp only [Act.put, List.setIfInBounds_toArray, List.set_cons_zero, List.set_cons_succ]
                    refine wpAnyH_ready (rs := [5]) (by kernel_rfl) (by simp) ?_
                    refine AllReadyH.cons (by simp only [List.getElem?_toArray, List.getElem?_cons_succ, List.getElem?_cons_zero]; rfl) (fun K hK => ?_) AllReadyH.nil
                    have ltE := rowE.lt
                    have sgS := HK.out.seg.below BFE
                    have tbS := HK.out.tab.grow BFE
                    go_simp
                    refine (Put_lit 20 l m B C D ss _ ao cap wE HE.out HLL.out HML.out (by omega) HWF.out sgS.at sgS.nil tbS HDL.out).mono ?_
                    rintro e wA ⟨⟨aoA, capA, soA, scA, rfl, sgA, sqA⟩, hbA⟩
                    have BFA := BFE.link hbA
                    have sgX := sgA
                    have sqX := sqA
                    have sgB := sgA
                    have sqB := sqA
                    have rowX := rowE.below hbA rowE.lt
                    go_wp2_with fail
                    refine hK.out _ _ (HSB.out _ BFA) (fun hHeld => ?_)
                    clear hK
                    try simp only [Act.put, List.setIfInBounds_toArray, List.set_cons_zero, List.set_cons_succ]
                    refine wpAnyH_take (i := 6) (v := ?_) (by simp only [List.getElem?_toArray, List.getElem?_cons_succ, List.getElem?_cons_zero]; rfl) (by kernel_rfl) (by kernel_rfl) (by kernel_rfl) (by intro _ _ _ h; exact h) (Or.inl ⟨by rfl, ?_⟩) (by assumption) ?_
                    rotate_left
                    · intro w' hSw
                      obtain ⟨s0, s1, s2⟩ := hSw
                      go_simp
                      try with_reducible rfl
                    try simp only [Act.put, List.setIfInBounds_toArray, List.set_cons_zero, List.set_cons_succ]
                    refine wpAnyH_take (i := 7) (v := ?_) (by simp only [List.getElem?_toArray, List.getElem?_cons_succ, List.getElem?_cons_zero]; rfl) (by kernel_rfl) (by kernel_rfl) (by kernel_rfl) (by intro _ _ _ h; exact h) (Or.inl ⟨by rfl, ?_⟩) (by assumption) ?_
                    rotate_left
                    · intro w' hSw
                      obtain ⟨s0, s1, s2⟩ := hSw
                      go_simp
                      try with_reducible rfl
                    try simp only [Act.put, List.setIfInBounds_toArray, List.set_cons_zero, List.set_cons_succ]
                    refine wpAnyH_take (i := 8) (v := ?_) (by simp only [List.getElem?_toArray, List.getElem?_cons_succ, List.getElem?_cons_zero]; rfl) (by kernel_rfl) (by kernel_rfl) (by kernel_rfl) (by intro _ _ _ h; exact h) (Or.inl ⟨by rfl, ?_⟩) (by assumption) ?_
                    rotate_left
                    · intro w' hSw
                      obtain ⟨s0, s1, s2⟩ := hSw
                      go_simp
                      try with_reducible rfl
                    try simp only [Act.put, List.setIfInBounds_toArray, List.set_cons_zero, List.set_cons_succ]
                    refine wpAnyH_take (i := 9) (v := ?_) (by simp only [List.getElem?_toArray, List.getElem?_cons_succ, List.getElem?_cons_zero]; rfl) (by kernel_rfl) (by kernel_rfl) (by kernel_rfl) (by intro _ _ _ h; exact h) (Or.inl ⟨by rfl, ?_⟩) (by assumption) ?_
                    rotate_left
                    · intro w' hSw
                      obtain ⟨s0, s1, s2⟩ := hSw
                      go_simp
                      try with_reducible rfl
                    try simp only [Act.put, List.setIfInBounds_toArray, List.set_cons_zero, List.set_cons_succ]
                    refine wpAnyH_ready (rs := [11]) (by kernel_rfl) (by simp) ?_
                    refine AllReadyH.cons (by simp only [List.getElem?_toArray, List.getElem?_cons_succ, List.getElem?_cons_zero]; rfl) (fun K hK => ?_) AllReadyH.nil
                    refine step_store2 rfl 51 size51 (.tmp 11) (.tmp 77) rfl (v0.heap.size) (.slice aoA 20 capA) (.string (strB C)) _ _ rfl rfl rfl rfl rowX ?_
                    intro wF hrF honF
                    have ltX := rowX.lt
                    have BF : Below wr.heap.size wr wF := honF.below BFA (by first | exact Nat.le_refl _ | exact B0.size)
                    have sgF : SegNew wF w3.heap.size aoA capA m := (sgX.same (fun kk off e => honF.heap kk (by have := sgB.blk kk off e; omega))).mono (by have := HK.out.low; have := BFE.size; omega)
                    have sqF : SlotsNew wF w3.heap.size soA scA ss := (sqX.same (fun kk off e => honF.heap kk (by have := sqB.blk kk off e; omega))).mono (by have := HK.out.low; have := BFE.size; omega)
                    refine hK.out _ _ (HSB.out _ BF) (fun hHeld => ?_)
                    clear hK
                    try simp only [Act.put, List.setIfInBounds_toArray, List.set_cons_zero, List.set_cons_succ]
                    refine wpAnyH_take (i := 12) (v := ?_) (by simp only [List.getElem?_toArray, List.getElem?_cons_succ, List.getElem?_cons_zero]; rfl) (by kernel_rfl) (by kernel_rfl) (by kernel_rfl) (by intro _ _ _ h; exact h) (Or.inl ⟨by rfl, ?_⟩) (by assumption) ?_
                    rotate_left
                    · intro w' hSw
                      obtain ⟨s0, s1, s2⟩ := hSw
                      go_simp
                      try with_reducible rfl
                    try simp only [Act.put, List.setIfInBounds_toArray, List.set_cons_zero, List.set_cons_succ]
                    refine wpAnyH_take (i := 13) (v := ?_) (by simp only [List.getElem?_toArray, List.getElem?_cons_succ, List.getElem?_cons_zero]; rfl) (by kernel_rfl) (by kernel_rfl) (by kernel_rfl) (by intro _ _ _ h; exact h) (Or.inl ⟨by rfl, ?_⟩) (by assumption) ?_
                    rotate_left
                    · intro w' hSw
                      obtain ⟨s0, s1, s2⟩ := hSw
                      go_simp
                      try with_reducible rfl
                    try simp only [Act.put, List.setIfInBounds_toArray, List.set_cons_zero, List.set_cons_succ]
                    refine wpAnyH_done (by kernel_rfl) ?_ _

                    have KF := HK.out.below BF
                    have c11 := hrF.c0
                    have c12 := hrF.c1
                    have rbF := KF.box
                    go_wp2_with (first
                      | (refine wpList_store2 rfl 51 size51 (.tmp 6) (.tmp 80) rfl w2.heap.size _ _ _ _ rfl rfl rfl rfl rbF ?_; intro wG hrG honG; have KG := KF.put honG hrG sgF; have sqG := sqF.only honG hz3; have KGb := ((KG.bel.cell (p := ⟨db, dof + t, none⟩) HDB.out).trans HDC.out))
                      | (at_builtin; refine list_chain rfl (.tmp 97) (.tmp 99) rfl w3.heap.size _ (.slice soA ss.length scA) ps.length (ps.map (fun p : Slots × List UInt8 => p.1)) ss (List.length_map _) rfl KG.chs ⟨soA, scA, rfl, sqG⟩ rfl (by have := HPS.out; omega) KG.low ?_; intro ao8 cap8 wH hcH hgH hbH; have KH := KG.chain hcH hgH hbH; have xcH := (KH.bel.cell (p := ⟨xb, xo + t, none⟩) HXB.out).trans HXC.out; have KHb := ((KH.bel.cell (p := ⟨db, dof + t, none⟩) HDB.out).trans HDC.out))
                      | (at_builtin; refine list_text rfl (.tmp 101) (.tmp 106) rfl w3.heap.size _ ps.length (ps.map (fun p : Slots × List UInt8 => p.2)) D (List.length_map _) rfl KH.dat rfl (by have := HPS.out; omega) KH.low ?_; intro ao9 cap9 wI hcI hgI hbI; have KI := KH.text hcI hgI hbI; have KIb := ((KI.bel.cell (p := ⟨db, dof + t, none⟩) HDB.out).trans HDC.out)))
                    go_roundw
                    case rel =>
                      refine ⟨t + 1, m, C, ps ++ [(ss, D)], aoA, capA, ao8, ao9, cap8, cap9, by have := HLT.out; omega, by go_num, by rw [List.length_append]; rfl, by rw [List.length_append]; rfl, ?_, HKN.out, by have := HPS.out; rw [List.length_append]; simp; omega⟩
                      rw [List.map_append, List.map_append, List.length_append]
                      exact KI
                    case measure => have := HLT.out; simp [intOf]; omega
                · have hr2' : (x % 2 == 0) = false := by simp [hr2]
                  go_wp2_with fail
                  have B0 := (Below.refl wr.heap.size wr).drew
                  refine wp_region_held_drew (S := fun w' => w'.cell? ⟨w2.heap.size, 0, none⟩ = some (.slice ao 20 cap) ∧ w'.cell? ⟨w2.heap.size, 1, none⟩ = some (.string (strB B)) ∧ w'.cell? ⟨xb, xo + t, none⟩ = some (.string (strB D))) (by kernel_rfl) (HSB.out _ B0) (fun hHeld => ?_)
                  generalize wr.drew = v0 at *
                  refine wpAnyH_take (i := 0) (v := ?_) (by simp only [List.getElem?_toArray, List.getElem?_cons_succ, List.getElem?_cons_zero]; rfl) (by kernel_rfl) (by kernel_rfl) (by kernel_rfl) (by intro _ _ _ h; exact h) (Or.inl ⟨by rfl, ?_⟩) (by assumption) ?_
                  rotate_left
                  · intro w' hSw
                    obtain ⟨s0, s1, s2⟩ := hSw
                    go_simp
                    try with_reducible rfl
                  try simp only [Act.put, List.setIfInBounds_toArray, List.set_cons_zero, List.set_cons_succ]
                  refine wpAnyH_take (i := 1) (v := ?_) (by simp only [List.getElem?_toArray, List.getElem?_cons_succ, List.getElem?_cons_zero]; rfl) (by kernel_rfl) (by kernel_rfl) (by kernel_rfl) (by intro _ _ _ h; exact h) (Or.inl ⟨by rfl, ?_⟩) (by assumption) ?_
                  rotate_left
                  · intro w' hSw
                    obtain ⟨s0, s1, s2⟩ := hSw
                    go_simp
                    try with_reducible rfl
                  try simp only [Act.put, List.setIfInBounds_toArray, List.set_cons_zero, List.set_cons_succ]
                  refine wpAnyH_take (i := 2) (v := ?_) (by simp only [List.getElem?_toArray, List.getElem?_cons_succ, List.getElem?_cons_zero]; rfl) (by kernel_rfl) (by kernel_rfl) (by kernel_rfl) (by intro _ _ _ h; exact h) (Or.inl ⟨by rfl, ?_⟩) (by assumption) ?_
                  rotate_left
                  · intro w' hSw
                    obtain ⟨s0, s1, s2⟩ := hSw
                    go_simp
                    try with_reducible rfl
                  try simp only [Act.put, List.setIfInBounds_toArray, List.set_cons_zero, List.set_cons_succ]
                  refine wpAnyH_take (i := 3) (v := ?_) (by simp only [List.getElem?_toArray, List.getElem?_cons_succ, List.getElem?_cons_zero]; rfl) (by kernel_rfl) (by kernel_rfl) (by kernel_rfl) (by intro _ _ _ h; exact h) (Or.inl ⟨by rfl, ?_⟩) (by assumption) ?_
                  rotate_left
                  · intro w' hSw
                    obtain ⟨s0, s1, s2⟩ := hSw
                    go_simp
                    try with_reducible rfl
                  try simp only [Act.put, List.setIfInBounds_toArray, List.set_cons_zero, List.set_cons_succ]
                  refine wpAnyH_take (i := 4) (v := ?_) (by simp only [List.getElem?_toArray, List.getElem?_cons_succ, List.getElem?_cons_zero]; rfl) (by kernel_rfl) (by kernel_rfl) (by kernel_rfl) (by intro _ _ _ h; exact h) (Or.inl ⟨by rfl, ?_⟩) (by assumption) ?_
                  rotate_left
                  · intro w' hSw
                    obtain ⟨s0, s1, s2⟩ := hSw
                    go_simp
                    try with_reducible rfl
                  try simp only [Act.put, List.setIfInBounds_toArray, List.set_cons_zero, List.set_cons_succ]
                  refine wpAnyH_ready (rs := [5, 10]) (by kernel_rfl) (by simp) ?_
                  refine AllReadyH.cons (by simp only [List.getElem?_toArray, List.getElem?_cons_succ, List.getElem?_cons_zero]; rfl) (fun K hK => ?_) ?_
                  · skip
                    have sgS := HK.out.seg.below B0
                    have tbS := HK.out.tab.grow B0
                    go_simp
                    refine (Put_lit 20 l m B C D ss _ ao cap v0 HE.out HLL.out HML.out (by omega) HWF.out sgS.at sgS.nil tbS HDL.out).mono ?_
                    rintro e wA ⟨⟨aoA, capA, soA, scA, rfl, sgA, sqA⟩, hbA⟩
                    have BFA := B0.link hbA
                    go_wp2_with fail
                    refine hK.out _ _ (HSB.out _ BFA) (fun hHeld => ?_)
                    clear hK
                    try simp only [Act.put, List.setIfInBounds_toArray, List.set_cons_zero, List.set_cons_succ]
                    refine wpAnyH_take (i := 6) (v := ?_) (by simp only [List.getElem?_toArray, List.getElem?_cons_succ, List.getElem?_cons_zero]; rfl) (by kernel_rfl) (by kernel_rfl) (by kernel_rfl) (by intro _ _ _ h; exact h) (Or.inl ⟨by rfl, ?_⟩) (by assumption) ?_
                    rotate_left
                    · intro w' hSw
                      obtain ⟨s0, s1, s2⟩ := hSw
                      go_simp
                      try with_reducible rfl
                    try simp only [Act.put, List.setIfInBounds_toArray, List.set_cons_zero, List.set_cons_succ]
                    refine wpAnyH_take (i := 7) (v := ?_) (by simp only [List.getElem?_toArray, List.getElem?_cons_succ, List.getElem?_cons_zero]; rfl) (by kernel_rfl) (by kernel_rfl) (by kernel_rfl) (by intro _ _ _ h; exact h) (Or.inl ⟨by rfl, ?_⟩) (by assumption) ?_
                    rotate_left
                    · intro w' hSw
                      obtain ⟨s0, s1, s2⟩ := hSw
                      go_simp
                      try with_reducible rfl
                    try simp only [Act.put, List.setIfInBounds_toArray, List.set_cons_zero, List.set_cons_succ]
                    refine wpAnyH_take (i := 8) (v := ?_) (by simp only [List.getElem?_toArray, List.getElem?_cons_succ, List.getElem?_cons_zero]; rfl) (by kernel_rfl) (by kernel_rfl) (by kernel_rfl) (by intro _ _ _ h; exact h) (Or.inl ⟨by rfl, ?_⟩) (by assumption) ?_
                    rotate_left
                    · intro w' hSw
                      obtain ⟨s0, s1, s2⟩ := hSw
                      go_simp
                      try with_reducible rfl
                    try simp only [Act.put, List.setIfInBounds_toArray, List.set_cons_zero, List.set_cons_succ]
                    refine wpAnyH_take (i := 9) (v := ?_) (by simp only [List.getElem?_toArray, List.getElem?_cons_succ, List.getElem?_cons_zero]; rfl) (by kernel_rfl) (by kernel_rfl) (by kernel_rfl) (by intro _ _ _ h; exact h) (Or.inl ⟨by rfl, ?_⟩) (by assumption) ?_
                    rotate_left
                    · intro w' hSw
                      obtain ⟨s0, s1, s2⟩ := hSw
                      go_simp
                      try with_reducible rfl
                    try simp only [Act.put, List.setIfInBounds_toArray, List.set_cons_zero, List.set_cons_succ]
                    refine wpAnyH_ready (rs := [10]) (by kernel_rfl) (by simp) ?_
                    refine AllReadyH.cons (by simp only [List.getElem?_toArray, List.getElem?_cons_succ, List.getElem?_cons_zero]; rfl) (fun K hK => ?_) AllReadyH.nil
                    have sgX := sgA.below ((Below.refl _ wA).alloc (Nat.le_refl _) (.cells #[.slice none 0 0, .string ⟨#[]⟩] 51))
                    have sqX := sqA.below ((Below.refl _ wA).alloc (Nat.le_refl _) (.cells #[.slice none 0 0, .string ⟨#[]⟩] 51))
                    have sgB := sgA
                    have sqB := sqA
                    have rowE := Row2.new wA 51 (.slice none 0 0) (.string ⟨#[]⟩)
                    have BFE := BFA.alloc BFA.size (.cells #[.slice none 0 0, .string ⟨#[]⟩] 51)
                    go_simp
                    obtain ⟨wE, hwE⟩ : ∃ wE, wE = (wA.alloc (.cells #[.slice none 0 0, .string ⟨#[]⟩] 51)) := ⟨_, rfl⟩
                    rw [← hwE] at rowE BFE sgX sqX ⊢
                    clear hwE
                    refine hK.out _ _ (HSB.out _ BFE) (fun hHeld => ?_)
                    clear hK
                    try simp only [Act.put, List.setIfInBounds_toArray, List.set_cons_zero, List.set_cons_succ]
                    have rowX := rowE
                    refine wpAnyH_ready (rs := [11]) (by kernel_rfl) (by simp) ?_
                    refine AllReadyH.cons (by simp only [List.getElem?_toArray, List.getElem?_cons_succ, List.getElem?_cons_zero]; rfl) (fun K hK => ?_) AllReadyH.nil
                    refine step_store2 rfl 51 size51 (.tmp 11) (.tmp 77) rfl (wA.heap.size) (.slice aoA 20 capA) (.string (strB C)) _ _ rfl rfl rfl rfl rowX ?_
                    intro wF hrF honF
                    have ltX := rowX.lt
                    have BF : Below wr.heap.size wr wF := honF.below BFE (by first | exact Nat.le_refl _ | exact BFA.size)
                    have sgF : SegNew wF w3.heap.size aoA capA m := (sgX.same (fun kk off e => honF.heap kk (by have := sgB.blk kk off e; omega))).mono (by have := HK.out.low; have := B0.size; omega)
                    have sqF : SlotsNew wF w3.heap.size soA scA ss := (sqX.same (fun kk off e => honF.heap kk (by have := sqB.blk kk off e; omega))).mono (by have := HK.out.low; have := B0.size; omega)
                    refine hK.out _ _ (HSB.out _ BF) (fun hHeld => ?_)
                    clear hK
                    try simp only [Act.put, List.setIfInBounds_toArray, List.set_cons_zero, List.set_cons_succ]
                    refine wpAnyH_take (i := 12) (v := ?_) (by simp only [List.getElem?_toArray, List.getElem?_cons_succ, List.getElem?_cons_zero]; rfl) (by kernel_rfl) (by kernel_rfl) (by kernel_rfl) (by intro _ _ _ h; exact h) (Or.inl ⟨by rfl, ?_⟩) (by assumption) ?_
                    rotate_left
                    · intro w' hSw
                      obtain ⟨s0, s1, s2⟩ := hSw
                      go_simp
                      try with_reducible rfl
                    try simp only [Act.put, List.setIfInBounds_toArray, List.set_cons_zero, List.set_cons_succ]
                    refine wpAnyH_take (i := 13) (v := ?_) (by simp only [List.getElem?_toArray, List.getElem?_cons_succ, List.getElem?_cons_zero]; rfl) (by kernel_rfl) (by kernel_rfl) (by kernel_rfl) (by intro _ _ _ h; exact h) (Or.inl ⟨by rfl, ?_⟩) (by assumption) ?_
                    rotate_left
                    · intro w' hSw
                      obtain ⟨s0, s1, s2⟩ := hSw
                      go_simp
                      try with_reducible rfl
                    try simp only [Act.put, List.setIfInBounds_toArray, List.set_cons_zero, List.set_cons_succ]
                    refine wpAnyH_done (by kernel_rfl) ?_ _

                    have KF := HK.out.below BF
                    have c11 := hrF.c0
                    have c12 := hrF.c1
                    have rbF := KF.box
                    go_wp2_with (first
                      | (refine wpList_store2 rfl 51 size51 (.tmp 6) (.tmp 80) rfl w2.heap.size _ _ _ _ rfl rfl rfl rfl rbF ?_; intro wG hrG honG; have KG := KF.put honG hrG sgF; have sqG := sqF.only honG hz3; have g0 := hrG.c0; have g1 := hrG.c1; have KGb := ((KG.bel.cell (p := ⟨db, dof + t, none⟩) HDB.out).trans HDC.out))
                      | (go_at_call 31; refine (Drop_lit 20 _ m l C B ss 0 aoA capA soA scA wG HDROP.out HML.out HLL.out rfl (by omega) HMF.out KG.seg.at KG.seg.nil sqG.at HSS.out).mono ?_; rintro e wH ⟨⟨aoH, capH, rfl, sgH⟩, hbH⟩; have KH := KG.below hbH; have lowG := KG.low)
                      | (refine wpList_store2 rfl 51 size51 (.tmp 14) (.tmp 128) rfl wH.heap.size _ _ (.slice none 0 0) (.string ⟨#[]⟩) rfl rfl rfl rfl (Row2.new wH 51 _ _) ?_; intro wI hrI honI; have hbI := honI.fresh; have KI := KH.below hbI; have i0 := hrI.c0; have i1 := hrI.c1; have sgI := (sgH.below hbI).mono lowG; have rbI := KI.box)
                      | (refine wpList_store2 rfl 51 size51 (.tmp 6) (.tmp 130) rfl w2.heap.size _ _ _ _ rfl rfl rfl rfl rbI ?_; intro wJ hrJ honJ; have KJ := KI.put honJ hrJ sgI))
                    go_roundw
                    case rel => exact ⟨t + 1, l, B, ps, aoH, capH, _, _, _, _, by have := HLT.out; omega, by go_num, rfl, rfl, KJ, HKP.out, by have := HPS.out; omega⟩
                    case measure => have := HLT.out; simp [intOf]; omega
                  · skip
                    refine AllReadyH.cons (by simp only [List.getElem?_toArray, List.getElem?_cons_succ, List.getElem?_cons_zero]; rfl) (fun K hK => ?_) AllReadyH.nil
                    have rowE := Row2.new v0 51 (.slice none 0 0) (.string ⟨#[]⟩)
                    have BFE := B0.alloc B0.size (.cells #[.slice none 0 0, .string ⟨#[]⟩] 51)
                    go_simp
                    obtain ⟨wE, hwE⟩ : ∃ wE, wE = (v0.alloc (.cells #[.slice none 0 0, .string ⟨#[]⟩] 51)) := ⟨_, rfl⟩
                    rw [← hwE] at rowE BFE ⊢
                    clear hwE
                    refine hK.out _ _ (HSB.out _ BFE) (fun hHeld => ?_)
                    clear hK
                    try simp only [Act.put, List.setIfInBounds_toArray, List.set_cons_zero, List.set_cons_succ]
                    refine wpAnyH_ready (rs := [5]) (by kernel_rfl) (by simp) ?_
                    refine AllReadyH.cons (by simp only [List.getElem?_toArray, List.getElem?_cons_succ, List.getElem?_cons_zero]; rfl) (fun K hK => ?_) AllReadyH.nil
                    have ltE := rowE.lt
                    have sgS := HK.out.seg.below BFE
                    have tbS := HK.out.tab.grow BFE
                    go_simp
                    refine (Put_lit 20 l m B C D ss _ ao cap wE HE.out HLL.out HML.out (by omega) HWF.out sgS.at sgS.nil tbS HDL.out).mono ?_
                    rintro e wA ⟨⟨aoA, capA, soA, scA, rfl, sgA, sqA⟩, hbA⟩
                    have BFA := BFE.link hbA
                    have sgX := sgA
                    have sqX := sqA
                    have sgB := sgA
                    have sqB := sqA
                    have rowX := rowE.below hbA rowE.lt
                    go_wp2_with fail
                    refine hK.out _ _ (HSB.out _ BFA) (fun hHeld => ?_)
                    clear hK
                    try simp only [Act.put, List.setIfInBounds_toArray, List.set_cons_zero, List.set_cons_succ]
                    refine wpAnyH_take (i := 6) (v := ?_) (by simp only [List.getElem?_toArray, List.getElem?_cons_succ, List.getElem?_cons_zero]; rfl) (by kernel_rfl) (by kernel_rfl) (by kernel_rfl) (by intro _ _ _ h; exact h) (Or.inl ⟨by rfl, ?_⟩) (by assumption) ?_
                    rotate_left
                    · intro w' hSw
                      obtain ⟨s0, s1, s2⟩ := hSw
                      go_simp
                      try with_reducible rfl
                    try simp only [Act.put, List.setIfInBounds_toArray, List.set_cons_zero, List.set_cons_succ]
                    refine wpAnyH_take (i := 7) (v := ?_) (by simp only [List.getElem?_toArray, List.getElem?_cons_succ, List.getElem?_cons_zero]; rfl) (by kernel_rfl) (by kernel_rfl) (by kernel_rfl) (by intro _ _ _ h; exact h) (Or.inl ⟨by rfl, ?_⟩) (by assumption) ?_
                    rotate_left
                    · intro w' hSw
                      obtain ⟨s0, s1, s2⟩ := hSw
                      go_simp
                      try with_reducible rfl
                    try simp only [Act.put, List.setIfInBounds_toArray, List.set_cons_zero, List.set_cons_succ]
                    refine wpAnyH_take (i := 8) (v := ?_) (by simp only [List.getElem?_toArray, List.getElem?_cons_succ, List.getElem?_cons_zero]; rfl) (by kernel_rfl) (by kernel_rfl) (by kernel_rfl) (by intro _ _ _ h; exact h) (Or.inl ⟨by rfl, ?_⟩) (by assumption) ?_
                    rotate_left
                    · intro w' hSw
                      obtain ⟨s0, s1, s2⟩ := hSw
                      go_simp
                      try with_reducible rfl
                    try simp only [Act.put, List.setIfInBounds_toArray, List.set_cons_zero, List.set_cons_succ]
                    refine wpAnyH_take (i := 9) (v := ?_) (by simp only [List.getElem?_toArray, List.getElem?_cons_succ, List.getElem?_cons_zero]; rfl) (by kernel_rfl) (by kernel_rfl) (by kernel_rfl) (by intro _ _ _ h; exact h) (Or.inl ⟨by rfl, ?_⟩) (by assumption) ?_
                    rotate_left
                    · intro w' hSw
                      obtain ⟨s0, s1, s2⟩ := hSw
                      go_simp
                      try with_reducible rfl
                    try simp only [Act.put, List.setIfInBounds_toArray, List.set_cons_zero, List.set_cons_succ]
                    refine wpAnyH_ready (rs := [11]) (by kernel_rfl) (by simp) ?_
                    refine AllReadyH.cons (by simp only [List.getElem?_toArray, List.getElem?_cons_succ, List.getElem?_cons_zero]; rfl) (fun K hK => ?_) AllReadyH.nil
                    refine step_store2 rfl 51 size51 (.tmp 11) (.tmp 77) rfl (v0.heap.size) (.slice aoA 20 capA) (.string (strB C)) _ _ rfl rfl rfl rfl rowX ?_
                    intro wF hrF honF
                    have ltX := rowX.lt
                    have BF : Below wr.heap.size wr wF := honF.below BFA (by first | exact Nat.le_refl _ | exact B0.size)
                    have sgF : SegNew wF w3.heap.size aoA capA m := (sgX.same (fun kk off e => honF.heap kk (by have := sgB.blk kk off e; omega))).mono (by have := HK.out.low; have := BFE.size; omega)
                    have sqF : SlotsNew wF w3.heap.size soA scA ss := (sqX.same (fun kk off e => honF.heap kk (by have := sqB.blk kk off e; omega))).mono (by have := HK.out.low; have := BFE.size; omega)
                    refine hK.out _ _ (HSB.out _ BF) (fun hHeld => ?_)
                    clear hK
                    try simp only [Act.put, List.setIfInBounds_toArray, List.set_cons_zero, List.set_cons_succ]
                    refine wpAnyH_take (i := 12) (v := ?_) (by simp only [List.getElem?_toArray, List.getElem?_cons_succ, List.getElem?_cons_zero]; rfl) (by kernel_rfl) (by kernel_rfl) (by kernel_rfl) (by intro _ _ _ h; exact h) (Or.inl ⟨by rfl, ?_⟩) (by assumption) ?_
                    rotate_left
                    · intro w' hSw
                      obtain ⟨s0, s1, s2⟩ := hSw
                      go_simp
                      try with_reducible rfl
                    try simp only [Act.put, List.setIfInBounds_toArray, List.set_cons_zero, List.set_cons_succ]
                    refine wpAnyH_take (i := 13) (v := ?_) (by simp only [List.getElem?_toArray, List.getElem?_cons_succ, List.getElem?_cons_zero]; rfl) (by kernel_rfl) (by kernel_rfl) (by kernel_rfl) (by intro _ _ _ h; exact h) (Or.inl ⟨by rfl, ?_⟩) (by assumption) ?_
                    rotate_left
                    · intro w' hSw
                      obtain ⟨s0, s1, s2⟩ := hSw
                      go_simp
                      try with_reducible rfl
                    try simp only [Act.put, List.setIfInBounds_toArray, List.set_cons_zero, List.set_cons_succ]
                    refine wpAnyH_done (by kernel_rfl) ?_ _

                    have KF := HK.out.below BF
                    have c11 := hrF.c0
                    have c12 := hrF.c1
                    have rbF := KF.box
                    go_wp2_with (first
                      | (refine wpList_store2 rfl 51 size51 (.tmp 6) (.tmp 80) rfl w2.heap.size _ _ _ _ rfl rfl rfl rfl rbF ?_; intro wG hrG honG; have KG := KF.put honG hrG sgF; have sqG := sqF.only honG hz3; have g0 := hrG.c0; have g1 := hrG.c1; have KGb := ((KG.bel.cell (p := ⟨db, dof + t, none⟩) HDB.out).trans HDC.out))
                      | (go_at_call 31; refine (Drop_lit 20 _ m l C B ss 0 aoA capA soA scA wG HDROP.out HML.out HLL.out rfl (by omega) HMF.out KG.seg.at KG.seg.nil sqG.at HSS.out).mono ?_; rintro e wH ⟨⟨aoH, capH, rfl, sgH⟩, hbH⟩; have KH := KG.below hbH; have lowG := KG.low)
                      | (refine wpList_store2 rfl 51 size51 (.tmp 14) (.tmp 128) rfl wH.heap.size _ _ (.slice none 0 0) (.string ⟨#[]⟩) rfl rfl rfl rfl (Row2.new wH 51 _ _) ?_; intro wI hrI honI; have hbI := honI.fresh; have KI := KH.below hbI; have i0 := hrI.c0; have i1 := hrI.c1; have sgI := (sgH.below hbI).mono lowG; have rbI := KI.box)
                      | (refine wpList_store2 rfl 51 size51 (.tmp 6) (.tmp 130) rfl w2.heap.size _ _ _ _ rfl rfl rfl rfl rbI ?_; intro wJ hrJ honJ; have KJ := KI.put honJ hrJ sgI))
                    go_roundw
                    case rel => exact ⟨t + 1, l, B, ps, aoH, capH, _, _, _, _, by have := HLT.out; omega, by go_num, rfl, rfl, KJ, HKP.out, by have := HPS.out; omega⟩
                    case measure => have := HLT.out; simp [intOf]; omega
              · have hj : decide ((n1 : Int) ≤ (t : Int)) = true := decide_eq_true (by omega)
                have hj2 : decide ((t : Int) < (n1 : Int)) = false := decide_eq_false (by omega)
                go_wp2_with fail
                have B0 := (Below.refl wr.heap.size wr).drew
                refine wp_region_held_drew (S := fun w' => w'.cell? ⟨w2.heap.size, 0, none⟩ = some (.slice ao 20 cap) ∧ w'.cell? ⟨w2.heap.size, 1, none⟩ = some (.string (strB B)) ∧ w'.cell? ⟨xb, xo + t, none⟩ = some (.string (strB D))) (by kernel_rfl) (HSB.out _ B0) (fun hHeld => ?_)
                generalize wr.drew = v0 at *
                refine wpAnyH_take (i := 0) (v := ?_) (by simp only [List.getElem?_toArray, List.getElem?_cons_succ, List.getElem?_cons_zero]; rfl) (by kernel_rfl) (by kernel_rfl) (by kernel_rfl) (by intro _ _ _ h; exact h) (Or.inl ⟨by rfl, ?_⟩) (by assumption) ?_
                rotate_left
                · intro w' hSw
                  obtain ⟨s0, s1, s2⟩ := hSw
                  go_simp
                  try with_reducible rfl
                try simp only [Act.put, List.setIfInBounds_toArray, List.set_cons_zero, List.set_cons_succ]
                refine wpAnyH_take (i := 1) (v := ?_) (by simp only [List.getElem?_toArray, List.getElem?_cons_succ, List.getElem?_cons_zero]; rfl) (by kernel_rfl) (by kernel_rfl) (by kernel_rfl) (by intro _ _ _ h; exact h) (Or.inl ⟨by rfl, ?_⟩) (by assumption) ?_
                rotate_left
                · intro w' hSw
                  obtain ⟨s0, s1, s2⟩ := hSw
                  go_simp
                  try with_reducible rfl
                try simp only [Act.put, List.setIfInBounds_toArray, List.set_cons_zero, List.set_cons_succ]
                refine wpAnyH_take (i := 2) (v := ?_) (by simp only [List.getElem?_toArray, List.getElem?_cons_succ, List.getElem?_cons_zero]; rfl) (by kernel_rfl) (by kernel_rfl) (by kernel_rfl) (by intro _ _ _ h; exact h) (Or.inl ⟨by rfl, ?_⟩) (by assumption) ?_
                rotate_left
                · intro w' hSw
                  obtain ⟨s0, s1, s2⟩ := hSw
                  go_simp
                  try with_reducible rfl
                try simp only [Act.put, List.setIfInBounds_toArray, List.set_cons_zero, List.set_cons_succ]
                refine wpAnyH_take (i := 3) (v := ?_) (by simp only [List.getElem?_toArray, List.getElem?_cons_succ, List.getElem?_cons_zero]; rfl) (by kernel_rfl) (by kernel_rfl) (by kernel_rfl) (by intro _ _ _ h; exact h) (Or.inl ⟨by rfl, ?_⟩) (by assumption) ?_
                rotate_left
                · intro w' hSw
                  obtain ⟨s0, s1, s2⟩ := hSw
                  go_simp
                  try with_reducible rfl
                try simp only [Act.put, List.setIfInBounds_toArray, List.set_cons_zero, List.set_cons_succ]
                refine wpAnyH_take (i := 4) (v := ?_) (by simp only [List.getElem?_toArray, List.getElem?_cons_succ, List.getElem?_cons_zero]; rfl) (by kernel_rfl) (by kernel_rfl) (by kernel_rfl) (by intro _ _ _ h; exact h) (Or.inl ⟨by rfl, ?_⟩) (by assumption) ?_
                rotate_left
                · intro w' hSw
                  obtain ⟨s0, s1, s2⟩ := hSw
                  go_simp
                  try with_reducible rfl
                try simp only [Act.put, List.setIfInBounds_toArray, List.set_cons_zero, List.set_cons_succ]
                refine wpAnyH_ready (rs := [5, 10]) (by kernel_rfl) (by simp) ?_
                refine AllReadyH.cons (by simp only [List.getElem?_toArray, List.getElem?_cons_succ, List.getElem?_cons_zero]; rfl) (fun K hK => ?_) ?_
                · skip
                  have sgS := HK.out.seg.below B0
                  have tbS := HK.out.tab.grow B0
                  go_simp
                  refine (Put_lit 20 l m B C D ss _ ao cap v0 HE.out HLL.out HML.out (by omega) HWF.out sgS.at sgS.nil tbS HDL.out).mono ?_
                  rintro e wA ⟨⟨aoA, capA, soA, scA, rfl, sgA, sqA⟩, hbA⟩
                  have BFA := B0.link hbA
                  go_wp2_with fail
                  refine hK.out _ _ (HSB.out _ BFA) (fun hHeld => ?_)
                  clear hK
                  try simp only [Act.put, List.setIfInBounds_toArray, List.set_cons_zero, List.set_cons_succ]
                  refine wpAnyH_take (i := 6) (v := ?_) (by simp only [List.getElem?_toArray, List.getElem?_cons_succ, List.getElem?_cons_zero]; rfl) (by kernel_rfl) (by kernel_rfl) (by kernel_rfl) (by intro _ _ _ h; exact h) (Or.inl ⟨by rfl, ?_⟩) (by assumption) ?_
                  rotate_left
                  · intro w' hSw
                    obtain ⟨s0, s1, s2⟩ := hSw
                    go_simp
                    try with_reducible rfl
                  try simp only [Act.put, List.setIfInBounds_toArray, List.set_cons_zero, List.set_cons_succ]
                  refine wpAnyH_take (i := 7) (v := ?_) (by simp only [List.getElem?_toArray, List.getElem?_cons_succ, List.getElem?_cons_zero]; rfl) (by kernel_rfl) (by kernel_rfl) (by kernel_rfl) (by intro _ _ _ h; exact h) (Or.inl ⟨by rfl, ?_⟩) (by assumption) ?_
                  rotate_left
                  · intro w' hSw
                    obtain ⟨s0, s1, s2⟩ := hSw
                    go_simp
                    try with_reducible rfl
                  try simp only [Act.put, List.setIfInBounds_toArray, List.set_cons_zero, List.set_cons_succ]
                  refine wpAnyH_take (i := 8) (v := ?_) (by simp only [List.getElem?_toArray, List.getElem?_cons_succ, List.getElem?_cons_zero]; rfl) (by kernel_rfl) (by kernel_rfl) (by kernel_rfl) (by intro _ _ _ h; exact h) (Or.inl ⟨by rfl, ?_⟩) (by assumption) ?_
                  rotate_left
                  · intro w' hSw
                    obtain ⟨s0, s1, s2⟩ := hSw
                    go_simp
                    try with_reducible rfl
                  try simp only [Act.put, List.setIfInBounds_toArray, List.set_cons_zero, List.set_cons_succ]
                  refine wpAnyH_take (i := 9) (v := ?_) (by simp only [List.getElem?_toArray, List.getElem?_cons_succ, List.getElem?_cons_zero]; rfl) (by kernel_rfl) (by kernel_rfl) (by kernel_rfl) (by intro _ _ _ h; exact h) (Or.inl ⟨by rfl, ?_⟩) (by assumption) ?_
                  rotate_left
                  · intro w' hSw
                    obtain ⟨s0, s1, s2⟩ := hSw
                    go_simp
                    try with_reducible rfl
                  try simp only [Act.put, List.setIfInBounds_toArray, List.set_cons_zero, List.set_cons_succ]
                  refine wpAnyH_ready (rs := [10]) (by kernel_rfl) (by simp) ?_
                  refine AllReadyH.cons (by simp only [List.getElem?_toArray, List.getElem?_cons_succ, List.getElem?_cons_zero]; rfl) (fun K hK => ?_) AllReadyH.nil
                  have sgX := sgA.below ((Below.refl _ wA).alloc (Nat.le_refl _) (.cells #[.slice none 0 0, .string ⟨#[]⟩] 51))
                  have sqX := sqA.below ((Below.refl _ wA).alloc (Nat.le_refl _) (.cells #[.slice none 0 0, .string ⟨#[]⟩] 51))
                  have sgB := sgA
                  have sqB := sqA
                  have rowE := Row2.new wA 51 (.slice none 0 0) (.string ⟨#[]⟩)
                  have BFE := BFA.alloc BFA.size (.cells #[.slice none 0 0, .string ⟨#[]⟩] 51)
                  go_simp
                  obtain ⟨wE, hwE⟩ : ∃ wE, wE = (wA.alloc (.cells #[.slice none 0 0, .string ⟨#[]⟩] 51)) := ⟨_, rfl⟩
                  rw [← hwE] at rowE BFE sgX sqX ⊢
                  clear hwE
                  refine hK.out _ _ (HSB.out _ BFE) (fun hHeld => ?_)
                  clear hK
                  try simp only [Act.put, List.setIfInBounds_toArray, List.set_cons_zero, List.set_cons_succ]
                  have rowX := rowE
                  refine wpAnyH_ready (rs := [11]) (by kernel_rfl) (by simp) ?_
                  refine AllReadyH.cons (by simp only [List.getElem?_toArray, List.getElem?_cons_succ, List.getElem?_cons_zero]; rfl) (fun K hK => ?_) AllReadyH.nil
                  refine step_store2 rfl 51 size51 (.tmp 11) (.tmp 77) rfl (wA.heap.size) (.slice aoA 20 capA) (.string (strB C)) _ _ rfl rfl rfl rfl rowX ?_
                  intro wF hrF honF
                  have ltX := rowX.lt
                  have BF : Below wr.heap.size wr wF := honF.below BFE (by first | exact Nat.le_refl _ | exact BFA.size)
                  have sgF : SegNew wF w3.heap.size aoA capA m := (sgX.same (fun kk off e => honF.heap kk (by have := sgB.blk kk off e; omega))).mono (by have := HK.out.low; have := B0.size; omega)
                  have sqF : SlotsNew wF w3.heap.size soA scA ss := (sqX.same (fun kk off e => honF.heap kk (by have := sqB.blk kk off e; omega))).mono (by have := HK.out.low; have := B0.size; omega)
                  refine hK.out _ _ (HSB.out _ BF) (fun hHeld => ?_)
                  clear hK
                  try simp only [Act.put, List.setIfInBounds_toArray, List.set_cons_zero, List.set_cons_succ]
                  refine wpAnyH_take (i := 12) (v := ?_) (by simp only [List.getElem?_toArray, List.getElem?_cons_succ, List.getElem?_cons_zero]; rfl) (by kernel_rfl) (by kernel_rfl) (by kernel_rfl) (by intro _ _ _ h; exact h) (Or.inl ⟨by rfl, ?_⟩) (by assumption) ?_
                  rotate_left
                  · intro w' hSw
                    obtain ⟨s0, s1, s2⟩ := hSw
                    go_simp
                    try with_reducible rfl
                  try simp only [Act.put, List.setIfInBounds_toArray, List.set_cons_zero, List.set_cons_succ]
                  refine wpAnyH_take (i := 13) (v := ?_) (by simp only [List.getElem?_toArray, List.getElem?_cons_succ, List.getElem?_cons_zero]; rfl) (by kernel_rfl) (by kernel_rfl) (by kernel_rfl) (by intro _ _ _ h; exact h) (Or.inl ⟨by rfl, ?_⟩) (by assumption) ?_
                  rotate_left
                  · intro w' hSw
                    obtain ⟨s0, s1, s2⟩ := hSw
                    go_simp
                    try with_reducible rfl
                  try simp only [Act.put, List.setIfInBounds_toArray, List.set_cons_zero, List.set_cons_succ]
                  refine wpAnyH_done (by kernel_rfl) ?_ _

                  have KF := HK.out.below BF
                  have c11 := hrF.c0
                  have c12 := hrF.c1
                  have rbF := KF.box
                  go_wp2_with (first
                    | (refine wpList_store2 rfl 51 size51 (.tmp 6) (.tmp 80) rfl w2.heap.size _ _ _ _ rfl rfl rfl rfl rbF ?_; intro wG hrG honG; have KG := KF.put honG hrG sgF; have sqG := sqF.only honG hz3)
                    | (at_builtin; refine list_chain rfl (.tmp 97) (.tmp 99) rfl w3.heap.size _ (.slice soA ss.length scA) ps.length (ps.map (fun p : Slots × List UInt8 => p.1)) ss (List.length_map _) rfl KG.chs ⟨soA, scA, rfl, sqG⟩ rfl (by have := HPS.out; omega) KG.low ?_; intro ao8 cap8 wH hcH hgH hbH; have KH := KG.chain hcH hgH hbH; have xcH := (KH.bel.cell (p := ⟨xb, xo + t, none⟩) HXB.out).trans HXC.out)
                    | (at_builtin; refine list_text rfl (.tmp 101) (.tmp 106) rfl w3.heap.size _ ps.length (ps.map (fun p : Slots × List UInt8 => p.2)) D (List.length_map _) rfl KH.dat rfl (by have := HPS.out; omega) KH.low ?_; intro ao9 cap9 wI hcI hgI hbI; have KI := KH.text hcI hgI hbI))
                  go_roundw
                  case rel =>
                    refine ⟨t + 1, m, C, ps ++ [(ss, D)], aoA, capA, ao8, ao9, cap8, cap9, by have := HLT.out; omega, by go_num, by rw [List.length_append]; rfl, by rw [List.length_append]; rfl, ?_, HKN.out, by have := HPS.out; rw [List.length_append]; simp; omega⟩
                    rw [List.map_append, List.map_append, List.length_append]
                    exact KI
                  case measure => have := HLT.out; simp [intOf]; omega
                · skip
                  refine AllReadyH.cons (by simp only [List.getElem?_toArray, List.getElem?_cons_succ, List.getElem?_cons_zero]; rfl) (fun K hK => ?_) AllReadyH.nil
                  have rowE := Row2.new v0 51 (.slice none 0 0) (.string ⟨#[]⟩)
                  have BFE := B0.alloc B0.size (.cells #[.slice none 0 0, .string ⟨#[]⟩] 51)
                  go_simp
                  obtain ⟨wE, hwE⟩ : ∃ wE, wE = (v0.alloc (.cells #[.slice none 0 0, .string ⟨#[]⟩] 51)) := ⟨_, rfl⟩
                  rw [← hwE] at rowE BFE ⊢
                  clear hwE
                  refine hK.out _ _ (HSB.out _ BFE) (fun hHeld => ?_)
                  clear hK
                  try simp only [Act.put, List.setIfInBounds_toArray, List.set_cons_zero, List.set_cons_succ]
                  refine wpAnyH_ready (rs := [5]) (by kernel_rfl) (by simp) ?_
                  refine AllReadyH.cons (by simp only [List.getElem?_toArray, List.getElem?_cons_succ, List.getElem?_cons_zero]; rfl) (fun K hK => ?_) AllReadyH.nil
                  have ltE := rowE.lt
                  have sgS := HK.out.seg.below BFE
                  have tbS := HK.out.tab.grow BFE
                  go_simp
                  refine (Put_lit 20 l m B C D ss _ ao cap wE HE.out HLL.out HML.out (by omega) HWF.out sgS.at sgS.nil tbS HDL.out).mono ?_
                  rintro e wA ⟨⟨aoA, capA, soA, scA, rfl, sgA, sqA⟩, hbA⟩
                  have BFA := BFE.link hbA
                  have sgX := sgA
                  have sqX := sqA
                  have sgB := sgA
                  have sqB := sqA
                  have rowX := rowE.below hbA rowE.lt
                  go_wp2_with fail
                  refine hK.out _ _ (HSB.out _ BFA) (fun hHeld => ?_)
                  clear hK
                  try simp only [Act.put, List.setIfInBounds_toArray, List.set_cons_zero, List.set_cons_succ]
                  refine wpAnyH_take (i := 6) (v := ?_) (by simp only [List.getElem?_toArray, List.getElem?_cons_succ, List.getElem?_cons_zero]; rfl) (by kernel_rfl) (by kernel_rfl) (by kernel_rfl) (by intro _ _ _ h; exact h) (Or.inl ⟨by rfl, ?_⟩) (by assumption) ?_
                  rotate_left
                  · intro w' hSw
                    obtain ⟨s0, s1, s2⟩ := hSw
                    go_simp
                    try with_reducible rfl
                  try simp only [Act.put, List.setIfInBounds_toArray, List.set_cons_zero, List.set_cons_succ]
                  refine wpAnyH_take (i := 7) (v := ?_) (by simp only [List.getElem?_toArray, List.getElem?_cons_succ, List.getElem?_cons_zero]; rfl) (by kernel_rfl) (by kernel_rfl) (by kernel_rfl) (by intro _ _ _ h; exact h) (Or.inl ⟨by rfl, ?_⟩) (by assumption) ?_
                  rotate_left
                  · intro w' hSw
                    obtain ⟨s0, s1, s2⟩ := hSw
                    go_simp
                    try with_reducible rfl
                  try simp only [Act.put, List.setIfInBounds_toArray, List.set_cons_zero, List.set_cons_succ]
                  refine wpAnyH_take (i := 8) (v := ?_) (by simp only [List.getElem?_toArray, List.getElem?_cons_succ, List.getElem?_cons_zero]; rfl) (by kernel_rfl) (by kernel_rfl) (by kernel_rfl) (by intro _ _ _ h; exact h) (Or.inl ⟨by rfl, ?_⟩) (by assumption) ?_
                  rotate_left
                  · intro w' hSw
                    obtain ⟨s0, s1, s2⟩ := hSw
                    go_simp
                    try with_reducible rfl
                  try simp only [Act.put, List.setIfInBounds_toArray, List.set_cons_zero, List.set_cons_succ]
                  refine wpAnyH_take (i := 9) (v := ?_) (by simp only [List.getElem?_toArray, List.getElem?_cons_succ, List.getElem?_cons_zero]; rfl) (by kernel_rfl) (by kernel_rfl) (by kernel_rfl) (by intro _ _ _ h; exact h) (Or.inl ⟨by rfl, ?_⟩) (by assumption) ?_
                  rotate_left
                  · intro w' hSw
                    obtain ⟨s0, s1, s2⟩ := hSw
                    go_simp
                    try with_reducible rfl
                  try simp only [Act.put, List.setIfInBounds_toArray, List.set_cons_zero, List.set_cons_succ]
                  refine wpAnyH_ready (rs := [11]) (by kernel_rfl) (by simp) ?_
                  refine AllReadyH.cons (by simp only [List.getElem?_toArray, List.getElem?_cons_succ, List.getElem?_cons_zero]; rfl) (fun K hK => ?_) AllReadyH.nil
                  refine step_store2 rfl 51 size51 (.tmp 11) (.tmp 77) rfl (v0.heap.size) (.slice aoA 20 capA) (.string (strB C)) _ _ rfl rfl rfl rfl rowX ?_
                  intro wF hrF honF
                  have ltX := rowX.lt
                  have BF : Below wr.heap.size wr wF := honF.below BFA (by first | exact Nat.le_refl _ | exact B0.size)
                  have sgF : SegNew wF w3.heap.size aoA capA m := (sgX.same (fun kk off e => honF.heap kk (by have := sgB.blk kk off e; omega))).mono (by have := HK.out.low; have := BFE.size; omega)
                  have sqF : SlotsNew wF w3.heap.size soA scA ss := (sqX.same (fun kk off e => honF.heap kk (by have := sqB.blk kk off e; omega))).mono (by have := HK.out.low; have := BFE.size; omega)
                  refine hK.out _ _ (HSB.out _ BF) (fun hHeld => ?_)
                  clear hK
                  try simp only [Act.put, List.setIfInBounds_toArray, List.set_cons_zero, List.set_cons_succ]
                  refine wpAnyH_take (i := 12) (v := ?_) (by simp only [List.getElem?_toArray, List.getElem?_cons_succ, List.getElem?_cons_zero]; rfl) (by kernel_rfl) (by kernel_rfl) (by kernel_rfl) (by intro _ _ _ h; exact h) (Or.inl ⟨by rfl, ?_⟩) (by assumption) ?_
                  rotate_left
                  · intro w' hSw
                    obtain ⟨s0, s1, s2⟩ := hSw
                    go_simp
                    try with_reducible rfl
                  try simp only [Act.put, List.setIfInBounds_toArray, List.set_cons_zero, List.set_cons_succ]
                  refine wpAnyH_take (i := 13) (v := ?_) (by simp only [List.getElem?_toArray, List.getElem?_cons_succ, List.getElem?_cons_zero]; rfl) (by kernel_rfl) (by kernel_rfl) (by kernel_rfl) (by intro _ _ _ h; exact h) (Or.inl ⟨by rfl, ?_⟩) (by assumption) ?_
                  rotate_left
                  · intro w' hSw
                    obtain ⟨s0, s1, s2⟩ := hSw
                    go_simp
                    try with_reducible rfl
                  try simp only [Act.put, List.setIfInBounds_toArray, List.set_cons_zero, List.set_cons_succ]
                  refine wpAnyH_done (by kernel_rfl) ?_ _

                  have KF := HK.out.below BF
                  have c11 := hrF.c0
                  have c12 := hrF.c1
                  have rbF := KF.box
                  go_wp2_with (first
                    | (refine wpList_store2 rfl 51 size51 (.tmp 6) (.tmp 80) rfl w2.heap.size _ _ _ _ rfl rfl rfl rfl rbF ?_; intro wG hrG honG; have KG := KF.put honG hrG sgF; have sqG := sqF.only honG hz3)
                    | (at_builtin; refine list_chain rfl (.tmp 97) (.tmp 99) rfl w3.heap.size _ (.slice soA ss.length scA) ps.length (ps.map (fun p : Slots × List UInt8 => p.1)) ss (List.length_map _) rfl KG.chs ⟨soA, scA, rfl, sqG⟩ rfl (by have := HPS.out; omega) KG.low ?_; intro ao8 cap8 wH hcH hgH hbH; have KH := KG.chain hcH hgH hbH; have xcH := (KH.bel.cell (p := ⟨xb, xo + t, none⟩) HXB.out).trans HXC.out)
                    | (at_builtin; refine list_text rfl (.tmp 101) (.tmp 106) rfl w3.heap.size _ ps.length (ps.map (fun p : Slots × List UInt8 => p.2)) D (List.length_map _) rfl KH.dat rfl (by have := HPS.out; omega) KH.low ?_; intro ao9 cap9 wI hcI hgI hbI; have KI := KH.text hcI hgI hbI))
                  go_roundw
                  case rel =>
                    refine ⟨t + 1, m, C, ps ++ [(ss, D)], aoA, capA, ao8, ao9, cap8, cap9, by have := HLT.out; omega, by go_num, by rw [List.length_append]; rfl, by rw [List.length_append]; rfl, ?_, HKN.out, by have := HPS.out; rw [List.length_append]; simp; omega⟩
                    rw [List.map_append, List.map_append, List.length_append]
                    exact KI
                  case measure => have := HLT.out; simp [intOf]; omega
            · have hE := putS_err he
              obtain ⟨e0, he0⟩ : ∃ e0, e0 = (putS l B D).2.2.2 := ⟨_, rfl⟩
              rw [← he0] at hE he
              obtain ⟨m, hm⟩ : ∃ m, m = l := ⟨_, rfl⟩
              obtain ⟨C, hC⟩ : ∃ C, C = B := ⟨_, rfl⟩
              obtain ⟨ss, hss⟩ : ∃ ss : Slots, ss = [] := ⟨_, rfl⟩
              have HE : Hid (putS l B D = (m, C, ss, e0)) := by show _ = _; rw [hm, hC, hss]; exact hE
              have HML : Hid (m.length = 20) := by show _ = _; rw [hm]; exact HLL.out
              have HMC : Hid (m = l ∧ C = B) := ⟨hm, hC⟩
              have hez : (e0 == 0) = false := by simpa using he
              clear he hE he0 hm hC hss hPS hKP
              go_wp2_with fail
              have B0 := (Below.refl wr.heap.size wr).drew
              refine wp_region_held_drew (S := fun w' => w'.cell? ⟨w2.heap.size, 0, none⟩ = some (.slice ao 20 cap) ∧ w'.cell? ⟨w2.heap.size, 1, none⟩ = some (.string (strB B)) ∧ w'.cell? ⟨xb, xo + t, none⟩ = some (.string (strB D))) (by kernel_rfl) (HSB.out _ B0) (fun hHeld => ?_)
              generalize wr.drew = v0 at *
              refine wpAnyH_take (i := 0) (v := ?_) (by simp only [List.getElem?_toArray, List.getElem?_cons_succ, List.getElem?_cons_zero]; rfl) (by kernel_rfl) (by kernel_rfl) (by kernel_rfl) (by intro _ _ _ h; exact h) (Or.inl ⟨by rfl, ?_⟩) (by assumption) ?_
              rotate_left
              · intro w' hSw
                obtain ⟨s0, s1, s2⟩ := hSw
                go_simp
                try with_reducible rfl
              try simp only [Act.put, List.setIfInBounds_toArray, List.set_cons_zero, List.set_cons_succ]
              refine wpAnyH_take (i := 1) (v := ?_) (by simp only [List.getElem?_toArray, List.getElem?_cons_succ, List.getElem?_cons_zero]; rfl) (by kernel_rfl) (by kernel_rfl) (by kernel_rfl) (by intro _ _ _ h; exact h) (Or.inl ⟨by rfl, ?_⟩) (by assumption) ?_
              rotate_left
              · intro w' hSw
                obtain ⟨s0, s1, s2⟩ := hSw
                go_simp
                try with_reducible rfl
              try simp only [Act.put, List.setIfInBounds_toArray, List.set_cons_zero, List.set_cons_succ]
              refine wpAnyH_take (i := 2) (v := ?_) (by simp only [List.getElem?_toArray, List.getElem?_cons_succ, List.getElem?_cons_zero]; rfl) (by kernel_rfl) (by kernel_rfl) (by kernel_rfl) (by intro _ _ _ h; exact h) (Or.inl ⟨by rfl, ?_⟩) (by assumption) ?_
              rotate_left
              · intro w' hSw
                obtain ⟨s0, s1, s2⟩ := hSw
                go_simp
                try with_reducible rfl
              try simp only [Act.put, List.setIfInBounds_toArray, List.set_cons_zero, List.set_cons_succ]
              refine wpAnyH_take (i := 3) (v := ?_) (by simp only [List.getElem?_toArray, List.getElem?_cons_succ, List.getElem?_cons_zero]; rfl) (by kernel_rfl) (by kernel_rfl) (by kernel_rfl) (by intro _ _ _ h; exact h) (Or.inl ⟨by rfl, ?_⟩) (by assumption) ?_
              rotate_left
              · intro w' hSw
                obtain ⟨s0, s1, s2⟩ := hSw
                go_simp
                try with_reducible rfl
              try simp only [Act.put, List.setIfInBounds_toArray, List.set_cons_zero, List.set_cons_succ]
              refine wpAnyH_take (i := 4) (v := ?_) (by simp only [List.getElem?_toArray, List.getElem?_cons_succ, List.getElem?_cons_zero]; rfl) (by kernel_rfl) (by kernel_rfl) (by kernel_rfl) (by intro _ _ _ h; exact h) (Or.inl ⟨by rfl, ?_⟩) (by assumption) ?_
              rotate_left
              · intro w' hSw
                obtain ⟨s0, s1, s2⟩ := hSw
                go_simp
                try with_reducible rfl
              try simp only [Act.put, List.setIfInBounds_toArray, List.set_cons_zero, List.set_cons_succ]
              refine wpAnyH_ready (rs := [5, 10]) (by kernel_rfl) (by simp) ?_
              refine AllReadyH.cons (by simp only [List.getElem?_toArray, List.getElem?_cons_succ, List.getElem?_cons_zero]; rfl) (fun K hK => ?_) ?_
              · skip
                have sgS := HK.out.seg.below B0
                have tbS := HK.out.tab.grow B0
                go_simp
                refine (Put_lit 20 l m B C D ss _ ao cap v0 HE.out HLL.out HML.out (by omega) HWF.out sgS.at sgS.nil tbS HDL.out).mono ?_
                rintro e wA ⟨⟨aoA, capA, soA, scA, rfl, sgA, sqA⟩, hbA⟩
                have BFA := B0.link hbA
                go_wp2_with fail
                refine hK.out _ _ (HSB.out _ BFA) (fun hHeld => ?_)
                clear hK
                try simp only [Act.put, List.setIfInBounds_toArray, List.set_cons_zero, List.set_cons_succ]
                refine wpAnyH_take (i := 6) (v := ?_) (by simp only [List.getElem?_toArray, List.getElem?_cons_succ, List.getElem?_cons_zero]; rfl) (by kernel_rfl) (by kernel_rfl) (by kernel_rfl) (by intro _ _ _ h; exact h) (Or.inl ⟨by rfl, ?_⟩) (by assumption) ?_
                rotate_left
                · intro w' hSw
                  obtain ⟨s0, s1, s2⟩ := hSw
                  go_simp
                  try with_reducible rfl
                try simp only [Act.put, List.setIfInBounds_toArray, List.set_cons_zero, List.set_cons_succ]
                refine wpAnyH_take (i := 7) (v := ?_) (by simp only [List.getElem?_toArray, List.getElem?_cons_succ, List.getElem?_cons_zero]; rfl) (by kernel_rfl) (by kernel_rfl) (by kernel_rfl) (by intro _ _ _ h; exact h) (Or.inl ⟨by rfl, ?_⟩) (by assumption) ?_
                rotate_left
                · intro w' hSw
                  obtain ⟨s0, s1, s2⟩ := hSw
                  go_simp
                  try with_reducible rfl
                try simp only [Act.put, List.setIfInBounds_toArray, List.set_cons_zero, List.set_cons_succ]
                refine wpAnyH_take (i := 8) (v := ?_) (by simp only [List.getElem?_toArray, List.getElem?_cons_succ, List.getElem?_cons_zero]; rfl) (by kernel_rfl) (by kernel_rfl) (by kernel_rfl) (by intro _ _ _ h; exact h) (Or.inl ⟨by rfl, ?_⟩) (by assumption) ?_
                rotate_left
                · intro w' hSw
                  obtain ⟨s0, s1, s2⟩ := hSw
                  go_simp
                  try with_reducible rfl
                try simp only [Act.put, List.setIfInBounds_toArray, List.set_cons_zero, List.set_cons_succ]
                refine wpAnyH_take (i := 9) (v := ?_) (by simp only [List.getElem?_toArray, List.getElem?_cons_succ, List.getElem?_cons_zero]; rfl) (by kernel_rfl) (by kernel_rfl) (by kernel_rfl) (by intro _ _ _ h; exact h) (Or.inl ⟨by rfl, ?_⟩) (by assumption) ?_
                rotate_left
                · intro w' hSw
                  obtain ⟨s0, s1, s2⟩ := hSw
                  go_simp
                  try with_reducible rfl
                try simp only [Act.put, List.setIfInBounds_toArray, List.set_cons_zero, List.set_cons_succ]
                refine wpAnyH_ready (rs := [10]) (by kernel_rfl) (by simp) ?_
                refine AllReadyH.cons (by simp only [List.getElem?_toArray, List.getElem?_cons_succ, List.getElem?_cons_zero]; rfl) (fun K hK => ?_) AllReadyH.nil
                have sgX := sgA.below ((Below.refl _ wA).alloc (Nat.le_refl _) (.cells #[.slice none 0 0, .string ⟨#[]⟩] 51))
                have sqX := sqA.below ((Below.refl _ wA).alloc (Nat.le_refl _) (.cells #[.slice none 0 0, .string ⟨#[]⟩] 51))
                have sgB := sgA
                have sqB := sqA
                have rowE := Row2.new wA 51 (.slice none 0 0) (.string ⟨#[]⟩)
                have BFE := BFA.alloc BFA.size (.cells #[.slice none 0 0, .string ⟨#[]⟩] 51)
                go_simp
                obtain ⟨wE, hwE⟩ : ∃ wE, wE = (wA.alloc (.cells #[.slice none 0 0, .string ⟨#[]⟩] 51)) := ⟨_, rfl⟩
                rw [← hwE] at rowE BFE sgX sqX ⊢
                clear hwE
                refine hK.out _ _ (HSB.out _ BFE) (fun hHeld => ?_)
                clear hK
                try simp only [Act.put, List.setIfInBounds_toArray, List.set_cons_zero, List.set_cons_succ]
                have rowX := rowE
                refine wpAnyH_ready (rs := [11]) (by kernel_rfl) (by simp) ?_
                refine AllReadyH.cons (by simp only [List.getElem?_toArray, List.getElem?_cons_succ, List.getElem?_cons_zero]; rfl) (fun K hK => ?_) AllReadyH.nil
                refine step_store2 rfl 51 size51 (.tmp 11) (.tmp 77) rfl (wA.heap.size) (.slice aoA 20 capA) (.string (strB C)) _ _ rfl rfl rfl rfl rowX ?_
                intro wF hrF honF
                have ltX := rowX.lt
                have BF : Below wr.heap.size wr wF := honF.below BFE (by first | exact Nat.le_refl _ | exact BFA.size)
                have sgF : SegNew wF w3.heap.size aoA capA m := (sgX.same (fun kk off e => honF.heap kk (by have := sgB.blk kk off e; omega))).mono (by have := HK.out.low; have := B0.size; omega)
                have sqF : SlotsNew wF w3.heap.size soA scA ss := (sqX.same (fun kk off e => honF.heap kk (by have := sqB.blk kk off e; omega))).mono (by have := HK.out.low; have := B0.size; omega)
                refine hK.out _ _ (HSB.out _ BF) (fun hHeld => ?_)
                clear hK
                try simp only [Act.put, List.setIfInBounds_toArray, List.set_cons_zero, List.set_cons_succ]
                refine wpAnyH_take (i := 12) (v := ?_) (by simp only [List.getElem?_toArray, List.getElem?_cons_succ, List.getElem?_cons_zero]; rfl) (by kernel_rfl) (by kernel_rfl) (by kernel_rfl) (by intro _ _ _ h; exact h) (Or.inl ⟨by rfl, ?_⟩) (by assumption) ?_
                rotate_left
                · intro w' hSw
                  obtain ⟨s0, s1, s2⟩ := hSw
                  go_simp
                  try with_reducible rfl
                try simp only [Act.put, List.setIfInBounds_toArray, List.set_cons_zero, List.set_cons_succ]
                refine wpAnyH_take (i := 13) (v := ?_) (by simp only [List.getElem?_toArray, List.getElem?_cons_succ, List.getElem?_cons_zero]; rfl) (by kernel_rfl) (by kernel_rfl) (by kernel_rfl) (by intro _ _ _ h; exact h) (Or.inl ⟨by rfl, ?_⟩) (by assumption) ?_
                rotate_left
                · intro w' hSw
                  obtain ⟨s0, s1, s2⟩ := hSw
                  go_simp
                  try with_reducible rfl
                try simp only [Act.put, List.setIfInBounds_toArray, List.set_cons_zero, List.set_cons_succ]
                refine wpAnyH_done (by kernel_rfl) ?_ _
                have KF := HK.out.below BF
                have c11 := hrF.c0
                have c12 := hrF.c1
                have rbF := KF.box
                go_wp2_with (refine wpList_store2 rfl 51 size51 (.tmp 6) (.tmp 80) rfl w2.heap.size _ _ _ _ rfl rfl rfl rfl rbF ?_; intro wG hrG honG; have KG := KF.put honG hrG sgF; have sqG := sqF.only honG hz3; have g0 := hrG.c0; have g1 := hrG.c1)
                go_roundw
                case rel => exact ⟨t + 1, m, C, ps, aoA, capA, _, _, _, _, by have := HLT.out; omega, by go_num, rfl, rfl, KG, by rw [HMC.out.1, HMC.out.2]; exact HKP.out, by have := HPS.out; omega⟩
                case measure => have := HLT.out; simp [intOf]; omega
              · skip
                refine AllReadyH.cons (by simp only [List.getElem?_toArray, List.getElem?_cons_succ, List.getElem?_cons_zero]; rfl) (fun K hK => ?_) AllReadyH.nil
                have rowE := Row2.new v0 51 (.slice none 0 0) (.string ⟨#[]⟩)
                have BFE := B0.alloc B0.size (.cells #[.slice none 0 0, .string ⟨#[]⟩] 51)
                go_simp
                obtain ⟨wE, hwE⟩ : ∃ wE, wE = (v0.alloc (.cells #[.slice none 0 0, .string ⟨#[]⟩] 51)) := ⟨_, rfl⟩
                rw [← hwE] at rowE BFE ⊢
                clear hwE
                refine hK.out _ _ (HSB.out _ BFE) (fun hHeld => ?_)
                clear hK
                try simp only [Act.put, List.setIfInBounds_toArray, List.set_cons_zero, List.set_cons_succ]
                refine wpAnyH_ready (rs := [5]) (by kernel_rfl) (by simp) ?_
                refine AllReadyH.cons (by simp only [List.getElem?_toArray, List.getElem?_cons_succ, List.getElem?_cons_zero]; rfl) (fun K hK => ?_) AllReadyH.nil
                have ltE := rowE.lt
                have sgS := HK.out.seg.below BFE
                have tbS := HK.out.tab.grow BFE
                go_simp
                refine (Put_lit 20 l m B C D ss _ ao cap wE HE.out HLL.out HML.out (by omega) HWF.out sgS.at sgS.nil tbS HDL.out).mono ?_
                rintro e wA ⟨⟨aoA, capA, soA, scA, rfl, sgA, sqA⟩, hbA⟩
                have BFA := BFE.link hbA
                have sgX := sgA
                have sqX := sqA
                have sgB := sgA
                have sqB := sqA
                have rowX := rowE.below hbA rowE.lt
                go_wp2_with fail
                refine hK.out _ _ (HSB.out _ BFA) (fun hHeld => ?_)
                clear hK
                try simp only [Act.put, List.setIfInBounds_toArray, List.set_cons_zero, List.set_cons_succ]
                refine wpAnyH_take (i := 6) (v := ?_) (by simp only [List.getElem?_toArray, List.getElem?_cons_succ, List.getElem?_cons_zero]; rfl) (by kernel_rfl) (by kernel_rfl) (by kernel_rfl) (by intro _ _ _ h; exact h) (Or.inl ⟨by rfl, ?_⟩) (by assumption) ?_
                rotate_left
                · intro w' hSw
                  obtain ⟨s0, s1, s2⟩ := hSw
                  go_simp
                  try with_reducible rfl
                try simp only [Act.put, List.setIfInBounds_toArray, List.set_cons_zero, List.set_cons_succ]
                refine wpAnyH_take (i := 7) (v := ?_) (by simp only [List.getElem?_toArray, List.getElem?_cons_succ, List.getElem?_cons_zero]; rfl) (by kernel_rfl) (by kernel_rfl) (by kernel_rfl) (by intro _ _ _ h; exact h) (Or.inl ⟨by rfl, ?_⟩) (by assumption) ?_
                rotate_left
                · intro w' hSw
                  obtain ⟨s0, s1, s2⟩ := hSw
                  go_simp
                  try with_reducible rfl
                try simp only [Act.put, List.setIfInBounds_toArray, List.set_cons_zero, List.set_cons_succ]
                refine wpAnyH_take (i := 8) (v := ?_) (by simp only [List.getElem?_toArray, List.getElem?_cons_succ, List.getElem?_cons_zero]; rfl) (by kernel_rfl) (by kernel_rfl) (by kernel_rfl) (by intro _ _ _ h; exact h) (Or.inl ⟨by rfl, ?_⟩) (by assumption) ?_
                rotate_left
                · intro w' hSw
                  obtain ⟨s0, s1, s2⟩ := hSw
                  go_simp
                  try with_reducible rfl
                try simp only [Act.put, List.setIfInBounds_toArray, List.set_cons_zero, List.set_cons_succ]
                refine wpAnyH_take (i := 9) (v := ?_) (by simp only [List.getElem?_toArray, List.getElem?_cons_succ, List.getElem?_cons_zero]; rfl) (by kernel_rfl) (by kernel_rfl) (by kernel_rfl) (by intro _ _ _ h; exact h) (Or.inl ⟨by rfl, ?_⟩) (by assumption) ?_
                rotate_left
                · intro w' hSw
                  obtain ⟨s0, s1, s2⟩ := hSw
                  go_simp
                  try with_reducible rfl
                try simp only [Act.put, List.setIfInBounds_toArray, List.set_cons_zero, List.set_cons_succ]
                refine wpAnyH_ready (rs := [11]) (by kernel_rfl) (by simp) ?_
                refine AllReadyH.cons (by simp only [List.getElem?_toArray, List.getElem?_cons_succ, List.getElem?_cons_zero]; rfl) (fun K hK => ?_) AllReadyH.nil
                refine step_store2 rfl 51 size51 (.tmp 11) (.tmp 77) rfl (v0.heap.size) (.slice aoA 20 capA) (.string (strB C)) _ _ rfl rfl rfl rfl rowX ?_
                intro wF hrF honF
                have ltX := rowX.lt
                have BF : Below wr.heap.size wr wF := honF.below BFA (by first | exact Nat.le_refl _ | exact B0.size)
                have sgF : SegNew wF w3.heap.size aoA capA m := (sgX.same (fun kk off e => honF.heap kk (by have := sgB.blk kk off e; omega))).mono (by have := HK.out.low; have := BFE.size; omega)
                have sqF : SlotsNew wF w3.heap.size soA scA ss := (sqX.same (fun kk off e => honF.heap kk (by have := sqB.blk kk off e; omega))).mono (by have := HK.out.low; have := BFE.size; omega)
                refine hK.out _ _ (HSB.out _ BF) (fun hHeld => ?_)
                clear hK
                try simp only [Act.put, List.setIfInBounds_toArray, List.set_cons_zero, List.set_cons_succ]
                refine wpAnyH_take (i := 12) (v := ?_) (by simp only [List.getElem?_toArray, List.getElem?_cons_succ, List.getElem?_cons_zero]; rfl) (by kernel_rfl) (by kernel_rfl) (by kernel_rfl) (by intro _ _ _ h; exact h) (Or.inl ⟨by rfl, ?_⟩) (by assumption) ?_
                rotate_left
                · intro w' hSw
                  obtain ⟨s0, s1, s2⟩ := hSw
                  go_simp
                  try with_reducible rfl
                try simp only [Act.put, List.setIfInBounds_toArray, List.set_cons_zero, List.set_cons_succ]
                refine wpAnyH_take (i := 13) (v := ?_) (by simp only [List.getElem?_toArray, List.getElem?_cons_succ, List.getElem?_cons_zero]; rfl) (by kernel_rfl) (by kernel_rfl) (by kernel_rfl) (by intro _ _ _ h; exact h) (Or.inl ⟨by rfl, ?_⟩) (by assumption) ?_
                rotate_left
                · intro w' hSw
                  obtain ⟨s0, s1, s2⟩ := hSw
                  go_simp
                  try with_reducible rfl
                try simp only [Act.put, List.setIfInBounds_toArray, List.set_cons_zero, List.set_cons_succ]
                refine wpAnyH_done (by kernel_rfl) ?_ _
                have KF := HK.out.below BF
                have c11 := hrF.c0
                have c12 := hrF.c1
                have rbF := KF.box
                go_wp2_with (refine wpList_store2 rfl 51 size51 (.tmp 6) (.tmp 80) rfl w2.heap.size _ _ _ _ rfl rfl rfl rfl rbF ?_; intro wG hrG honG; have KG := KF.put honG hrG sgF; have sqG := sqF.only honG hz3; have g0 := hrG.c0; have g1 := hrG.c1)
                go_roundw
                case rel => exact ⟨t + 1, m, C, ps, aoA, capA, _, _, _, _, by have := HLT.out; omega, by go_num, rfl, rfl, KG, by rw [HMC.out.1, HMC.out.2]; exact HKP.out, by have := HPS.out; omega⟩
                case measure => have := HLT.out; simp [intOf]; omega
          · have hdd : decide ((300 : Int) < ((strB D).size : Int)) = true := decide_eq_true (by rw [strB_size]; omega)
            have belr := Lib.hid HK.out.bel
            go_wp2_with fail
            go_ret
            exact ⟨rfl, belr.out⟩
        · have htn : t = n0 := by omega
          subst htn
          have hi : ¬ ((t : Int) < (t : Int)) := by omega
          have hps30 : ps.length ≤ 30 := by have := HPS.out; omega
          obtain ⟨m, C, mv, hE, hL⟩ := keep_pack HKP.out (by have := HPS.out; omega)
          have HE := Lib.hid hE
          have HL := Lib.hid hL
          have HLL := Lib.hid HKP.out.len
          have HLF := Lib.hid HKP.out.ok.ok.wf
          have HMF := Lib.hid hL.ok.ok.wf
          have HCH : Hid (ChainsAt wr co8 (ps.map (fun p : Slots × List UInt8 => p.1))) := by
            have h := HK.out.chs
            rw [show ps.length = (ps.map (fun p : Slots × List UInt8 => p.1)).length from (List.length_map _).symm] at h
            exact ChainsNew.at h
          have HCS : Hid (∀ ss ∈ ps.map (fun p : Slots × List UInt8 => p.1), ss.length ≤ 90000) := fun ss hs => by
            obtain ⟨p, hp, rfl⟩ := List.mem_map.1 hs
            have := (keep_num HKP.out p hp).2
            omega
          have rb := HK.out.box
          have b60 := rb.c0
          have b61 := rb.c1
          clear hE hL hKP hPS rb
          go_wp2_with (first
            | (go_at_call 33; refine (Pack_lit 20 ps.length ps.length l m B C (ps.map (fun p : Slots × List UInt8 => p.1)) mv 0 ao cap co8 cc8 wr HE.out HLL.out HL.out.len (List.length_map _) HL.out.num (by omega) HLF.out HK.out.seg.at HK.out.seg.nil HK.out.tab HCH.out (by have := HPS.out; omega) HCS.out).mono ?_; rintro e w4 ⟨⟨ao4, cap4, to4, tc4, rfl, hs4, hc4⟩, hb4⟩; have K4 := Lib.hid (HK.out.below hb4))
            | (refine wpList_store2 rfl 51 size51 (.tmp 16) (.tmp 137) rfl w4.heap.size _ _ (.slice none 0 0) (.string ⟨#[]⟩) rfl rfl rfl rfl (Row2.new w4 51 _ _) ?_; intro w5 hr5 hon5; have hb5 := hon5.fresh; have K5 := Lib.hid (K4.out.below hb5); have HS5 := Lib.hid (hs4.below hb5); have HC5 := Lib.hid (hc4.below hb5); have HR5 := Lib.hid hr5; clear hr5 hs4 hc4))
          have HMV : Hid (ChainsAt w5 to4 mv) := by
            have h := HC5.out
            rw [show ps.length = mv.length from HL.out.num.symm] at h
            exact ChainsNew.at h
          have HDT : Hid (TextsAt w5 co9 (ps.map (fun p : Slots × List UInt8 => p.2))) := by
            have h := K5.out.dat
            rw [show ps.length = (ps.map (fun p : Slots × List UInt8 => p.2)).length from (List.length_map _).symm] at h
            exact TextsNew.at h
          clear b60 b61
          go_loopw [19] (fun i wq => ∃ q : Nat, q ≤ ps.length ∧ i = .int .i64 q ∧ Below w5.heap.size w5 wq) (fun i _ => ps.length - (intOf i).toNat)
          case atStart => exact ⟨0, Nat.zero_le _, rfl, Below.refl _ _⟩
          case round =>
            rename World => wq
            obtain ⟨q, hq, rfl, hbq⟩ := hrel
            have HBQ := Lib.hid hbq
            by_cases hlt : q < ps.length
            · have HQ := Lib.hid hlt
              have hi : (q : Int) < (ps.length : Int) := by omega
              obtain ⟨d, hd⟩ : ∃ d, d = (ps.getD q ([], [])).2 := ⟨_, rfl⟩
              have HG := Lib.hid (HL.out.got q hlt)
              rw [← hd] at HG
              have HG : Hid (getS m C (mv.getD q []) ((strB d).size : Int) = (d, 0)) := by show _ = _; rw [strB_size]; exact HG.out
              obtain ⟨gt, go, sq, scq, rfl, hgt, hgc, hsq, hsl⟩ : ∃ gt go sq scq, to4 = some ⟨gt, go, none⟩ ∧ gt < w5.heap.size ∧ w5.cell? ⟨gt, go + q, none⟩ = some (.slice sq (mv.getD q []).length scq) ∧ SlotsAt w5 sq (mv.getD q []) ∧ (mv.getD q []).length ≤ 1000000 := by
                have hql : q < mv.length := by rw [HL.out.num]; exact hlt
                rcases HMV.out with h | ⟨b, off, h1, h2, h3⟩
                · rw [h] at hql; simp at hql
                · obtain ⟨v, h4, so, sc, rfl, h5⟩ := h3 q hql
                  refine ⟨b, off, so, sc, h1, h2, h4, h5, ?_⟩
                  have hm : mv.getD q [] ∈ mv := by
                    rw [List.getD_eq_getElem?_getD, List.getElem?_eq_getElem hql]
                    exact List.getElem_mem hql
                  have := HL.out.size _ hm
                  omega
              obtain ⟨gd, go2, rfl, hgd, hdc⟩ := HDT.out.cell q (by rw [List.length_map]; exact hlt)
              have hde : (ps.map (fun p : Slots × List UInt8 => p.2)).getD q [] = d := by
                rw [hd, List.getD_eq_getElem?_getD, List.getElem?_map, List.getD_eq_getElem?_getD, List.getElem?_eq_getElem hlt]
                rfl
              rw [hde] at hdc
              obtain ⟨kq, hkq⟩ : ∃ kq, (mv.getD q []).length = kq := ⟨_, rfl⟩
              rw [hkq] at hgc hsl
              have HSQ := Lib.hid hsq
              have HKQ := Lib.hid hkq
              have HGT := Lib.hid hgt
              have HGC := Lib.hid hgc
              have HGD := Lib.hid hgd
              have HDC := Lib.hid hdc
              have HSB : Hid (∀ w', Below wq.heap.size wq w' → w'.cell? ⟨w4.heap.size, 0, none⟩ = some (.slice ao4 20 cap4) ∧ w'.cell? ⟨w4.heap.size, 1, none⟩ = some (.string (strB C)) ∧ w'.cell? ⟨gt, go + q, none⟩ = some (.slice sq kq scq) ∧ w'.cell? ⟨gd, go2 + q, none⟩ = some (.string (strB d))) := fun w' hb => ⟨(HR5.out.below (HBQ.out.link hb) HR5.out.lt).c0, (HR5.out.below (HBQ.out.link hb) HR5.out.lt).c1, ((HBQ.out.link hb).cell (p := ⟨gt, go + q, none⟩) HGT.out).trans HGC.out, ((HBQ.out.link hb).cell (p := ⟨gd, go2 + q, none⟩) HGD.out).trans HDC.out⟩
              clear hd hde hlt hsq hkq hgt hgc hgd hdc
              have B0 := (Below.refl wq.heap.size wq).drew
              go_wp2_with fail
              refine wp_region_held_drew (S := fun w' => w'.cell? ⟨w4.heap.size, 0, none⟩ = some (.slice ao4 20 cap4) ∧ w'.cell? ⟨w4.heap.size, 1, none⟩ = some (.string (strB C)) ∧ w'.cell? ⟨gt, go + q, none⟩ = some (.slice sq kq scq) ∧ w'.cell? ⟨gd, go2 + q, none⟩ = some (.string (strB d))) (by kernel_rfl) (HSB.out _ B0) (fun hHeld => ?_)
              generalize wq.drew = v0 at *
              refine wpAnyH_take (i := 0) (v := ?_) (by simp only [List.getElem?_toArray, List.getElem?_cons_succ, List.getElem?_cons_zero]; rfl) (by kernel_rfl) (by kernel_rfl) (by kernel_rfl) (by intro _ _ _ h; exact h) (Or.inl ⟨by rfl, ?_⟩) (by assumption) ?_
              rotate_left
              · intro w' hSw
                obtain ⟨s0, s1, s2, s3⟩ := hSw
                go_simp
                try with_reducible rfl
              try simp only [Act.put, List.setIfInBounds_toArray, List.set_cons_zero, List.set_cons_succ]
              refine wpAnyH_take (i := 1) (v := ?_) (by simp only [List.getElem?_toArray, List.getElem?_cons_succ, List.getElem?_cons_zero]; rfl) (by kernel_rfl) (by kernel_rfl) (by kernel_rfl) (by intro _ _ _ h; exact h) (Or.inl ⟨by rfl, ?_⟩) (by assumption) ?_
              rotate_left
              · intro w' hSw
                obtain ⟨s0, s1, s2, s3⟩ := hSw
                go_simp
                try with_reducible rfl
              try simp only [Act.put, List.setIfInBounds_toArray, List.set_cons_zero, List.set_cons_succ]
              refine wpAnyH_take (i := 2) (v := ?_) (by simp only [List.getElem?_toArray, List.getElem?_cons_succ, List.getElem?_cons_zero]; rfl) (by kernel_rfl) (by kernel_rfl) (by kernel_rfl) (by intro _ _ _ h; exact h) (Or.inl ⟨by rfl, ?_⟩) (by assumption) ?_
              rotate_left
              · intro w' hSw
                obtain ⟨s0, s1, s2, s3⟩ := hSw
                go_simp
                try with_reducible rfl
              try simp only [Act.put, List.setIfInBounds_toArray, List.set_cons_zero, List.set_cons_succ]
              refine wpAnyH_take (i := 3) (v := ?_) (by simp only [List.getElem?_toArray, List.getElem?_cons_succ, List.getElem?_cons_zero]; rfl) (by kernel_rfl) (by kernel_rfl) (by kernel_rfl) (by intro _ _ _ h; exact h) (Or.inl ⟨by rfl, ?_⟩) (by assumption) ?_
              rotate_left
              · intro w' hSw
                obtain ⟨s0, s1, s2, s3⟩ := hSw
                go_simp
                try with_reducible rfl
              try simp only [Act.put, List.setIfInBounds_toArray, List.set_cons_zero, List.set_cons_succ]
              refine wpAnyH_take (i := 4) (v := ?_) (by simp only [List.getElem?_toArray, List.getElem?_cons_succ, List.getElem?_cons_zero]; rfl) (by kernel_rfl) (by kernel_rfl) (by kernel_rfl) (by intro _ _ _ h; exact h) (Or.inl ⟨by rfl, ?_⟩) (by assumption) ?_
              rotate_left
              · intro w' hSw
                obtain ⟨s0, s1, s2, s3⟩ := hSw
                go_simp
                try with_reducible rfl
              try simp only [Act.put, List.setIfInBounds_toArray, List.set_cons_zero, List.set_cons_succ]
              refine wpAnyH_take (i := 5) (v := ?_) (by simp only [List.getElem?_toArray, List.getElem?_cons_succ, List.getElem?_cons_zero]; rfl) (by kernel_rfl) (by kernel_rfl) (by kernel_rfl) (by intro _ _ _ h; exact h) (Or.inl ⟨by rfl, ?_⟩) (by assumption) ?_
              rotate_left
              · intro w' hSw
                obtain ⟨s0, s1, s2, s3⟩ := hSw
                go_simp
                try with_reducible rfl
              try simp only [Act.put, List.setIfInBounds_toArray, List.set_cons_zero, List.set_cons_succ]
              refine wpAnyH_take (i := 6) (v := ?_) (by simp only [List.getElem?_toArray, List.getElem?_cons_succ, List.getElem?_cons_zero]; rfl) (by kernel_rfl) (by kernel_rfl) (by kernel_rfl) (by intro _ _ _ h; exact h) (Or.inl ⟨by rfl, ?_⟩) (by assumption) ?_
              rotate_left
              · intro w' hSw
                obtain ⟨s0, s1, s2, s3⟩ := hSw
                go_simp
                try with_reducible rfl
              try simp only [Act.put, List.setIfInBounds_toArray, List.set_cons_zero, List.set_cons_succ]
              refine wpAnyH_take (i := 7) (v := ?_) (by simp only [List.getElem?_toArray, List.getElem?_cons_succ, List.getElem?_cons_zero]; rfl) (by kernel_rfl) (by kernel_rfl) (by kernel_rfl) (by intro _ _ _ h; exact h) (Or.inl ⟨by rfl, ?_⟩) (by assumption) ?_
              rotate_left
              · intro w' hSw
                obtain ⟨s0, s1, s2, s3⟩ := hSw
                go_simp
                try with_reducible rfl
              try simp only [Act.put, List.setIfInBounds_toArray, List.set_cons_zero, List.set_cons_succ]
              refine wpAnyH_take (i := 8) (v := ?_) (by simp only [List.getElem?_toArray, List.getElem?_cons_succ, List.getElem?_cons_zero]; rfl) (by kernel_rfl) (by kernel_rfl) (by kernel_rfl) (by intro _ _ _ h; exact h) (Or.inl ⟨by rfl, ?_⟩) (by assumption) ?_
              rotate_left
              · intro w' hSw
                obtain ⟨s0, s1, s2, s3⟩ := hSw
                go_simp
                try with_reducible rfl
              try simp only [Act.put, List.setIfInBounds_toArray, List.set_cons_zero, List.set_cons_succ]
              refine wpAnyH_take (i := 9) (v := ?_) (by simp only [List.getElem?_toArray, List.getElem?_cons_succ, List.getElem?_cons_zero]; rfl) (by kernel_rfl) (by kernel_rfl) (by kernel_rfl) (by intro _ _ _ h; exact h) (Or.inl ⟨by rfl, ?_⟩) (by assumption) ?_
              rotate_left
              · intro w' hSw
                obtain ⟨s0, s1, s2, s3⟩ := hSw
                go_simp
                try with_reducible rfl
              try simp only [Act.put, List.setIfInBounds_toArray, List.set_cons_zero, List.set_cons_succ]
              refine wpAnyH_ready (rs := [10]) (by kernel_rfl) (by simp) ?_
              refine AllReadyH.cons (by simp only [List.getElem?_toArray, List.getElem?_cons_succ, List.getElem?_cons_zero]; rfl) (fun K hK => ?_) AllReadyH.nil
              have sg0 := (HS5.out.below HBQ.out).below B0
              have sl0 := (HSQ.out.below HBQ.out).below B0
              go_simp
              refine (Get_lit 20 kq m C d _ _ 0 ao4 cap4 sq scq v0 HG.out HL.out.len HKQ.out (by omega) HMF.out sg0.at sl0 (by omega)).mono ?_
              rintro e wA ⟨rfl, hbA⟩
              have BFA := B0.link hbA
              go_wp2_with fail
              refine hK.out _ _ (HSB.out _ BFA) (fun hHeld => ?_)
              clear hK
              try simp only [Act.put, List.setIfInBounds_toArray, List.set_cons_zero, List.set_cons_succ]
              refine wpAnyH_take (i := 11) (v := ?_) (by simp only [List.getElem?_toArray, List.getElem?_cons_succ, List.getElem?_cons_zero]; rfl) (by kernel_rfl) (by kernel_rfl) (by kernel_rfl) (by intro _ _ _ h; exact h) (Or.inl ⟨by rfl, ?_⟩) (by assumption) ?_
              rotate_left
              · intro w' hSw
                obtain ⟨s0, s1, s2, s3⟩ := hSw
                go_simp
                try with_reducible rfl
              try simp only [Act.put, List.setIfInBounds_toArray, List.set_cons_zero, List.set_cons_succ]
              refine wpAnyH_take (i := 12) (v := ?_) (by simp only [List.getElem?_toArray, List.getElem?_cons_succ, List.getElem?_cons_zero]; rfl) (by kernel_rfl) (by kernel_rfl) (by kernel_rfl) (by intro _ _ _ h; exact h) (Or.inl ⟨by rfl, ?_⟩) (by assumption) ?_
              rotate_left
              · intro w' hSw
                obtain ⟨s0, s1, s2, s3⟩ := hSw
                go_simp
                try with_reducible rfl
              try simp only [Act.put, List.setIfInBounds_toArray, List.set_cons_zero, List.set_cons_succ]
              refine wpAnyH_take (i := 13) (v := ?_) (by simp only [List.getElem?_toArray, List.getElem?_cons_succ, List.getElem?_cons_zero]; rfl) (by kernel_rfl) (by kernel_rfl) (by kernel_rfl) (by intro _ _ _ h; exact h) (Or.inl ⟨by rfl, ?_⟩) (by assumption) ?_
              rotate_left
              · intro w' hSw
                obtain ⟨s0, s1, s2, s3⟩ := hSw
                go_simp
                try with_reducible rfl
              try simp only [Act.put, List.setIfInBounds_toArray, List.set_cons_zero, List.set_cons_succ]
              refine wpAnyH_take (i := 14) (v := ?_) (by simp only [List.getElem?_toArray, List.getElem?_cons_succ, List.getElem?_cons_zero]; rfl) (by kernel_rfl) (by kernel_rfl) (by kernel_rfl) (by intro _ _ _ h; exact h) (Or.inl ⟨by rfl, ?_⟩) (by assumption) ?_
              rotate_left
              · intro w' hSw
                obtain ⟨s0, s1, s2, s3⟩ := hSw
                go_simp
                try with_reducible rfl
              try simp only [Act.put, List.setIfInBounds_toArray, List.set_cons_zero, List.set_cons_succ]
              refine wpAnyH_take (i := 15) (v := ?_) (by simp only [List.getElem?_toArray, List.getElem?_cons_succ, List.getElem?_cons_zero]; rfl) (by kernel_rfl) (by kernel_rfl) (by kernel_rfl) (by intro _ _ _ h; exact h) (Or.inl ⟨by rfl, ?_⟩) (by assumption) ?_
              rotate_left
              · intro w' hSw
                obtain ⟨s0, s1, s2, s3⟩ := hSw
                go_simp
                try with_reducible rfl
              try simp only [Act.put, List.setIfInBounds_toArray, List.set_cons_zero, List.set_cons_succ]
              refine wpAnyH_done (by kernel_rfl) ?_ _
              obtain ⟨_, _, _, hdA⟩ := HSB.out _ BFA
              go_wp2_with fail
              go_roundw
              case rel => exact ⟨q + 1, by have := HQ.out; omega, by go_num, HBQ.out.link BFA⟩
              case measure => have := HQ.out; simp [intOf]; omega
            · have hqe : q = ps.length := by omega
              have hi : ¬ ((q : Int) < (ps.length : Int)) := by omega
              go_wp2_with fail
              go_loopw [22] (fun c wc => ∃ cc : Nat, cc ≤ 4 ∧ c = .int .i64 cc ∧ Below w5.heap.size w5 wc) (fun c _ => 4 - (intOf c).toNat)
              case atStart => exact ⟨0, Nat.zero_le _, rfl, hbq⟩
              case round =>
                rename World => wc
                obtain ⟨cc, hcc, rfl, hbc⟩ := hrel
                have HBC := Lib.hid hbc
                by_cases hlt : cc < 4
                · have HCC := Lib.hid hlt
                  have hi4 : (cc : Int) < 4 := by omega
                  clear hlt
                  go_wp2_with fail
                  go_loopw [23, 24] (fun o i wi => ∃ k op : Nat, k ≤ 20 ∧ i = .int .i64 k ∧ o = .int .i64 op ∧ op ≤ opn (m.take k) cc ∧ op ≤ k ∧ Below w5.heap.size w5 wi) (fun _ i _ => 20 - (intOf i).toNat)
                  case atStart => exact ⟨0, 0, Nat.zero_le _, rfl, rfl, Nat.zero_le _, Nat.zero_le _, HBC.out⟩
                  case round =>
                    rename World => wi
                    obtain ⟨k, op, hk, rfl, rfl, hop, hok, hbi⟩ := hrel
                    have HBI := Lib.hid hbi
                    have HOP := Lib.hid hop
                    have ri := HR5.out.below hbi HR5.out.lt
                    have t0 := ri.c0
                    have t1 := ri.c1
                    clear hop
                    by_cases hk20 : k < 20
                    · have HK20 := Lib.hid hk20
                      have hki : (k : Int) < 20 := by omega
                      have hkm : k < m.length := by rw [HL.out.len]; exact hk20
                      have HNX := Lib.hid (opn_succ m cc k hkm)
                      have HSI := Lib.hid (HS5.out.below hbi)
                      obtain ⟨gb, goff, rfl, hgb, hgc⟩ := HSI.out.at.cell k hkm
                      obtain ⟨g1, g2⟩ := hgc k hkm
                      obtain ⟨gc, gu, hgg⟩ : ∃ gc gu, (gc, gu) = m.getD k (0, 0) := ⟨_, _, rfl⟩
                      rw [← hgg] at g1 g2 HNX
                      have g1 : wi.cell? ⟨gb, goff + k * 2, none⟩ = some (.int .i64 gc) := g1
                      have HGG := Lib.hid hgg
                      have HGB := Lib.hid hgb
                      clear hk20 hkm hgc hgg hgb g2
                      by_cases hcl : gc = (cc : Int)
                      · have HSL := slotsC_nS (cc : Int)
                        obtain ⟨ns, hns⟩ : ∃ ns : Nat, ns = nS (cc : Int) := ⟨_, rfl⟩
                        have hns8 : 8 ≤ ns ∧ ns ≤ 64 := by
                          have := HCC.out
                          rw [hns]
                          obtain rfl | rfl | rfl | rfl : cc = 0 ∨ cc = 1 ∨ cc = 2 ∨ cc = 3 := by omega
                          all_goals decide
                        rw [← hns] at HSL
                        have HSL := Lib.hid HSL
                        have HNS := Lib.hid hns
                        obtain ⟨bh, hbh⟩ : ∃ bh, decide (okS m ∧ hasL m (k : Int) ((ns : Int) - 1)) = bh := ⟨_, rfl⟩
                        have HBH := Lib.hid hbh
                        have HNOT : Hid (bh = false → opnF cc (gc, gu) = 1) := by
                          intro h0
                          refine open_one ⟨by omega, by have := HCC.out; omega⟩ hcl ?_
                          rw [h0] at hbh
                          have h1 := of_decide_eq_false hbh
                          rw [← HNS.out]
                          have h2 : ¬ hasL m (k : Int) ((ns : Int) - 1) := fun x => h1 ⟨HL.out.ok.ok, x⟩
                          have h3 : ((ns : Int) - 1) = ((ns - 1 : Nat) : Int) := by omega
                          rw [h3, hasL_nat] at h2
                          have h4 : (m.getD k (0, 0)).2.testBit (ns - 1) = false := by
                            cases hb : (m.getD k (0, 0)).2.testBit (ns - 1) with
                            | false => rfl
                            | true => exact absurd ⟨by rw [HL.out.len]; exact HK20.out, hb⟩ h2
                          rw [← HGG.out] at h4
                          exact h4
                        have HSB : Hid (∀ w', Below wi.heap.size wi w' → w'.cell? ⟨w4.heap.size, 0, none⟩ = some (.slice (some ⟨gb, goff, none⟩) 20 cap4) ∧ w'.cell? ⟨gb, goff + k * 2, none⟩ = some (.int .i64 gc)) := by
                          have hg := g1
                          exact fun w' hb => ⟨(HR5.out.below (HBI.out.link hb) HR5.out.lt).c0, (hb.cell (p := ⟨gb, goff + k * 2, none⟩) HGB.out).trans hg⟩
                        have hsub : IntKind.i64.wrap ((ns : Int) - 1) = (ns : Int) - 1 := IntWalk.i64_in _ (by omega)
                        subst hcl
                        have B0 := (Below.refl wi.heap.size wi).drew
                        clear hns hbh
                        go_wp2_with fail
                        refine wp_region_held_drew (S := fun w' => w'.cell? ⟨w4.heap.size, 0, none⟩ = some (.slice (some ⟨gb, goff, none⟩) 20 cap4) ∧ w'.cell? ⟨gb, goff + k * 2, none⟩ = some (.int .i64 (cc : Int))) (by kernel_rfl) (HSB.out _ B0) (fun hHeld => ?_)
                        generalize wi.drew = v0 at *
                        refine wpAnyH_take (i := 0) (v := ?_) (by simp only [List.getElem?_toArray, List.getElem?_cons_succ, List.getElem?_cons_zero]; rfl) (by kernel_rfl) (by kernel_rfl) (by kernel_rfl) (by intro _ _ _ h; exact h) (Or.inl ⟨by rfl, ?_⟩) (by assumption) ?_
                        rotate_left
                        · intro w' hSw
                          obtain ⟨s0, s1⟩ := hSw
                          go_simp
                          try with_reducible rfl
                        try simp only [Act.put, List.setIfInBounds_toArray, List.set_cons_zero, List.set_cons_succ]
                        refine wpAnyH_take (i := 1) (v := ?_) (by simp only [List.getElem?_toArray, List.getElem?_cons_succ, List.getElem?_cons_zero]; rfl) (by kernel_rfl) (by kernel_rfl) (by kernel_rfl) (by intro _ _ _ h; exact h) (Or.inl ⟨by rfl, ?_⟩) (by assumption) ?_
                        rotate_left
                        · intro w' hSw
                          obtain ⟨s0, s1⟩ := hSw
                          go_simp
                          try with_reducible rfl
                        try simp only [Act.put, List.setIfInBounds_toArray, List.set_cons_zero, List.set_cons_succ]
                        refine wpAnyH_take (i := 2) (v := ?_) (by simp only [List.getElem?_toArray, List.getElem?_cons_succ, List.getElem?_cons_zero]; rfl) (by kernel_rfl) (by kernel_rfl) (by kernel_rfl) (by intro _ _ _ h; exact h) (Or.inl ⟨by rfl, ?_⟩) (by assumption) ?_
                        rotate_left
                        · intro w' hSw
                          obtain ⟨s0, s1⟩ := hSw
                          go_simp
                          try with_reducible rfl
                        try simp only [Act.put, List.setIfInBounds_toArray, List.set_cons_zero, List.set_cons_succ]
                        refine wpAnyH_take (i := 3) (v := ?_) (by simp only [List.getElem?_toArray, List.getElem?_cons_succ, List.getElem?_cons_zero]; rfl) (by kernel_rfl) (by kernel_rfl) (by kernel_rfl) (by intro _ _ _ h; exact h) (Or.inl ⟨by rfl, ?_⟩) (by assumption) ?_
                        rotate_left
                        · intro w' hSw
                          obtain ⟨s0, s1⟩ := hSw
                          go_simp
                          try with_reducible rfl
                        try simp only [Act.put, List.setIfInBounds_toArray, List.set_cons_zero, List.set_cons_succ]
                        refine wpAnyH_take (i := 4) (v := ?_) (by simp only [List.getElem?_toArray, List.getElem?_cons_succ, List.getElem?_cons_zero]; rfl) (by kernel_rfl) (by kernel_rfl) (by kernel_rfl) (by intro _ _ _ h; exact h) (Or.inl ⟨by rfl, ?_⟩) (by assumption) ?_
                        rotate_left
                        · intro w' hSw
                          obtain ⟨s0, s1⟩ := hSw
                          go_simp
                          try with_reducible rfl
                        try simp only [Act.put, List.setIfInBounds_toArray, List.set_cons_zero, List.set_cons_succ]
                        refine wpAnyH_take (i := 5) (v := ?_) (by simp only [List.getElem?_toArray, List.getElem?_cons_succ, List.getElem?_cons_zero]; rfl) (by kernel_rfl) (by kernel_rfl) (by kernel_rfl) (by intro _ _ _ h; exact h) (Or.inl ⟨by rfl, ?_⟩) (by assumption) ?_
                        rotate_left
                        · intro w' hSw
                          obtain ⟨s0, s1⟩ := hSw
                          go_simp
                          try with_reducible rfl
                        try simp only [Act.put, List.setIfInBounds_toArray, List.set_cons_zero, List.set_cons_succ]
                        refine wpAnyH_take (i := 6) (v := ?_) (by simp only [List.getElem?_toArray, List.getElem?_cons_succ, List.getElem?_cons_zero]; rfl) (by kernel_rfl) (by kernel_rfl) (by kernel_rfl) (by intro _ _ _ h; exact h) (Or.inl ⟨by rfl, ?_⟩) (by assumption) ?_
                        rotate_left
                        · intro w' hSw
                          obtain ⟨s0, s1⟩ := hSw
                          go_simp
                          try with_reducible rfl
                        try simp only [Act.put, List.setIfInBounds_toArray, List.set_cons_zero, List.set_cons_succ]
                        refine wpAnyH_take (i := 7) (v := ?_) (by simp only [List.getElem?_toArray, List.getElem?_cons_succ, List.getElem?_cons_zero]; rfl) (by kernel_rfl) (by kernel_rfl) (by kernel_rfl) (by intro _ _ _ h; exact h) (Or.inl ⟨by rfl, ?_⟩) (by assumption) ?_
                        rotate_left
                        · intro w' hSw
                          obtain ⟨s0, s1⟩ := hSw
                          go_simp
                          try with_reducible rfl
                        try simp only [Act.put, List.setIfInBounds_toArray, List.set_cons_zero, List.set_cons_succ]
                        refine wpAnyH_take (i := 8) (v := ?_) (by simp only [List.getElem?_toArray, List.getElem?_cons_succ, List.getElem?_cons_zero]; rfl) (by kernel_rfl) (by kernel_rfl) (by kernel_rfl) (by intro _ _ _ h; exact h) (Or.inl ⟨by rfl, ?_⟩) (by assumption) ?_
                        rotate_left
                        · intro w' hSw
                          obtain ⟨s0, s1⟩ := hSw
                          go_simp
                          try with_reducible rfl
                        try simp only [Act.put, List.setIfInBounds_toArray, List.set_cons_zero, List.set_cons_succ]
                        refine wpAnyH_take (i := 9) (v := ?_) (by simp only [List.getElem?_toArray, List.getElem?_cons_succ, List.getElem?_cons_zero]; rfl) (by kernel_rfl) (by kernel_rfl) (by kernel_rfl) (by intro _ _ _ h; exact h) (Or.inl ⟨by rfl, ?_⟩) (by assumption) ?_
                        rotate_left
                        · intro w' hSw
                          obtain ⟨s0, s1⟩ := hSw
                          go_simp
                          try with_reducible rfl
                        try simp only [Act.put, List.setIfInBounds_toArray, List.set_cons_zero, List.set_cons_succ]
                        refine wpAnyH_take (i := 10) (v := ?_) (by simp only [List.getElem?_toArray, List.getElem?_cons_succ, List.getElem?_cons_zero]; rfl) (by kernel_rfl) (by kernel_rfl) (by kernel_rfl) (by intro _ _ _ h; exact h) (Or.inl ⟨by rfl, ?_⟩) (by assumption) ?_
                        rotate_left
                        · intro w' hSw
                          obtain ⟨s0, s1⟩ := hSw
                          go_simp
                          try with_reducible rfl
                        try simp only [Act.put, List.setIfInBounds_toArray, List.set_cons_zero, List.set_cons_succ]
                        refine wpAnyH_take (i := 11) (v := ?_) (by simp only [List.getElem?_toArray, List.getElem?_cons_succ, List.getElem?_cons_zero]; rfl) (by kernel_rfl) (by kernel_rfl) (by kernel_rfl) (by intro _ _ _ h; exact h) (Or.inl ⟨by rfl, ?_⟩) (by assumption) ?_
                        rotate_left
                        · intro w' hSw
                          obtain ⟨s0, s1⟩ := hSw
                          go_simp
                          try with_reducible rfl
                        try simp only [Act.put, List.setIfInBounds_toArray, List.set_cons_zero, List.set_cons_succ]
                        refine wpAnyH_take (i := 12) (v := ?_) (by simp only [List.getElem?_toArray, List.getElem?_cons_succ, List.getElem?_cons_zero]; rfl) (by kernel_rfl) (by kernel_rfl) (by kernel_rfl) (by intro _ _ _ h; exact h) (Or.inl ⟨by rfl, ?_⟩) (by assumption) ?_
                        rotate_left
                        · intro w' hSw
                          obtain ⟨s0, s1⟩ := hSw
                          go_simp
                          try with_reducible rfl
                        try simp only [Act.put, List.setIfInBounds_toArray, List.set_cons_zero, List.set_cons_succ]
                        refine wpAnyH_ready (rs := [13]) (by kernel_rfl) (by simp) ?_
                        refine AllReadyH.cons (by simp only [List.getElem?_toArray, List.getElem?_cons_succ, List.getElem?_cons_zero]; rfl) (fun K hK => ?_) AllReadyH.nil
                        go_simp
                        refine (slots_any (cc : Int) v0).mono ?_
                        rintro e w' ⟨rfl, rfl⟩
                        rw [HSL.out]
                        go_wp2_with fail
                        refine hK.out _ _ (HSB.out _ B0) (fun hHeld => ?_)
                        clear hK
                        try simp only [Act.put, List.setIfInBounds_toArray, List.set_cons_zero, List.set_cons_succ]
                        refine wpAnyH_take (i := 14) (v := ?_) (by simp only [List.getElem?_toArray, List.getElem?_cons_succ, List.getElem?_cons_zero]; rfl) (by kernel_rfl) (by kernel_rfl) (by kernel_rfl) (by intro _ _ _ h; exact h) (Or.inl ⟨by rfl, ?_⟩) (by assumption) ?_
                        rotate_left
                        · intro w' hSw
                          obtain ⟨s0, s1⟩ := hSw
                          go_simp
                          try with_reducible rfl
                        try simp only [Act.put, List.setIfInBounds_toArray, List.set_cons_zero, List.set_cons_succ]
                        refine wpAnyH_take (i := 15) (v := ?_) (by simp only [List.getElem?_toArray, List.getElem?_cons_succ, List.getElem?_cons_zero]; rfl) (by kernel_rfl) (by kernel_rfl) (by kernel_rfl) (by intro _ _ _ h; exact h) (Or.inl ⟨by rfl, ?_⟩) (by assumption) ?_
                        rotate_left
                        · intro w' hSw
                          obtain ⟨s0, s1⟩ := hSw
                          go_simp
                          try with_reducible rfl
                        try simp only [Act.put, List.setIfInBounds_toArray, List.set_cons_zero, List.set_cons_succ]
                        refine wpAnyH_ready (rs := [16]) (by kernel_rfl) (by simp) ?_
                        refine AllReadyH.cons (by simp only [List.getElem?_toArray, List.getElem?_cons_succ, List.getElem?_cons_zero]; rfl) (fun K hK => ?_) AllReadyH.nil
                        have sg0 := HSI.out.below B0
                        go_simp
                        refine (has_lit 20 m (k : Int) ((ns : Int) - 1) bh _ cap4 _ HL.out.len HBH.out HMF.out sg0.at).mono ?_
                        rintro e wA ⟨rfl, hbA⟩
                        have BFA := B0.link hbA
                        go_wp2_with fail
                        refine hK.out _ _ (HSB.out _ BFA) (fun hHeld => ?_)
                        clear hK
                        try simp only [Act.put, List.setIfInBounds_toArray, List.set_cons_zero, List.set_cons_succ]
                        refine wpAnyH_take (i := 17) (v := ?_) (by simp only [List.getElem?_toArray, List.getElem?_cons_succ, List.getElem?_cons_zero]; rfl) (by kernel_rfl) (by kernel_rfl) (by kernel_rfl) (by intro _ _ _ h; exact h) (Or.inl ⟨by rfl, ?_⟩) (by assumption) ?_
                        rotate_left
                        · intro w' hSw
                          obtain ⟨s0, s1⟩ := hSw
                          go_simp
                          try with_reducible rfl
                        try simp only [Act.put, List.setIfInBounds_toArray, List.set_cons_zero, List.set_cons_succ]
                        refine wpAnyH_take (i := 18) (v := ?_) (by simp only [List.getElem?_toArray, List.getElem?_cons_succ, List.getElem?_cons_zero]; rfl) (by kernel_rfl) (by kernel_rfl) (by kernel_rfl) (by intro _ _ _ h; exact h) (Or.inl ⟨by rfl, ?_⟩) (by assumption) ?_
                        rotate_left
                        · intro w' hSw
                          obtain ⟨s0, s1⟩ := hSw
                          go_simp
                          try with_reducible rfl
                        try simp only [Act.put, List.setIfInBounds_toArray, List.set_cons_zero, List.set_cons_succ]
                        refine wpAnyH_done (by kernel_rfl) ?_ _
                        cases bh
                        · have h1 := HNOT.out rfl
                          have hopn : op + 1 ≤ opn (m.take (k + 1)) cc := by rw [HNX.out, h1]; have := HOP.out; omega
                          have HOPN := Lib.hid hopn
                          clear hopn h1
                          go_wp2_with fail
                          go_roundw
                          case rel => exact ⟨k + 1, op + 1, by have := HK20.out; omega, by go_num, by go_num, HOPN.out, by omega, HBI.out.link BFA⟩
                          case measure => have := HK20.out; simp [intOf]; omega
                        · have hopn : op ≤ opn (m.take (k + 1)) cc := by rw [HNX.out]; have := HOP.out; omega
                          have HOPN := Lib.hid hopn
                          clear hopn
                          go_wp2_with fail
                          go_roundw
                          case rel => exact ⟨k + 1, op, by have := HK20.out; omega, by go_num, rfl, HOPN.out, by omega, HBI.out.link BFA⟩
                          case measure => have := HK20.out; simp [intOf]; omega
                      · have hcl1 : (gc == (cc : Int)) = false := by simpa using hcl
                        have hcl2 : decide (gc = (cc : Int)) = false := decide_eq_false hcl
                        have hopn : op ≤ opn (m.take (k + 1)) cc := by rw [HNX.out]; have := HOP.out; omega
                        have HOPN := Lib.hid hopn
                        clear hopn
                        go_wp2_with fail
                        go_quiet (fail)
                        go_wp2_with fail
                        go_roundw
                        case rel => exact ⟨k + 1, op, by have := HK20.out; omega, by go_num, rfl, HOPN.out, by omega, below_drewN _ _ _ _ HBI.out⟩
                        case measure => have := HK20.out; simp [intOf]; omega
                    · have hke : k = 20 := by omega
                      subst hke
                      have hki : ¬ ((20 : Int) < 20) := by omega
                      have hop1 : op ≤ 1 := by
                        have h1 := HOP.out
                        have h2 := opn_take m cc 20
                        have h3 := HL.out.pk cc
                        omega
                      have hgt : ¬ ((1 : Int) < (op : Int)) := by omega
                      go_wp2_with fail
                      go_roundw
                      case rel => exact ⟨cc + 1, by have := HCC.out; omega, by go_num, HBI.out⟩
                      case measure => have := HCC.out; simp [intOf]; omega
                · have hce : cc = 4 := by omega
                  subst hce
                  have hi4 : ¬ ((4 : Int) < 4) := by omega
                  obtain ⟨tm, htm, htl⟩ : ∃ tm, takenR m = tm ∧ takenR l = tm := ⟨_, rfl, HL.out.taken.symm⟩
                  obtain ⟨hm, hhm⟩ : ∃ hm, heldR m = hm := ⟨_, rfl⟩
                  obtain ⟨hl, hhl⟩ : ∃ hl, heldR l = hl := ⟨_, rfl⟩
                  have hle : (hm : Int) ≤ (hl : Int) := by
                    have := HL.out.held
                    omega
                  have HTM := Lib.hid htm
                  have HTL := Lib.hid htl
                  have HHM := Lib.hid hhm
                  have HHL := Lib.hid hhl
                  have HSB : Hid (∀ w', Below wc.heap.size wc w' → w'.cell? ⟨w4.heap.size, 0, none⟩ = some (.slice ao4 20 cap4) ∧ w'.cell? ⟨w4.heap.size, 1, none⟩ = some (.string (strB C)) ∧ w'.cell? ⟨w2.heap.size, 0, none⟩ = some (.slice ao 20 cap)) := fun w' hb => ⟨(HR5.out.below (HBC.out.link hb) HR5.out.lt).c0, (HR5.out.below (HBC.out.link hb) HR5.out.lt).c1, (K5.out.box.below (HBC.out.link hb) K5.out.box.lt).c0⟩
                  have B0 := (Below.refl wc.heap.size wc).drew
                  have HBEL := Lib.hid (K5.out.bel.link HBC.out)
                  clear htm htl hhm hhl
                  go_wp2_with fail
                  refine wp_region_held_drew (S := fun w' => w'.cell? ⟨w4.heap.size, 0, none⟩ = some (.slice ao4 20 cap4) ∧ w'.cell? ⟨w4.heap.size, 1, none⟩ = some (.string (strB C)) ∧ w'.cell? ⟨w2.heap.size, 0, none⟩ = some (.slice ao 20 cap)) (by kernel_rfl) (HSB.out _ B0) (fun hHeld => ?_)
                  generalize wc.drew = v0 at *
                  refine wpAnyH_take (i := 0) (v := ?_) (by simp only [List.getElem?_toArray, List.getElem?_cons_succ, List.getElem?_cons_zero]; rfl) (by kernel_rfl) (by kernel_rfl) (by kernel_rfl) (by intro _ _ _ h; exact h) (Or.inl ⟨by rfl, ?_⟩) (by assumption) ?_
                  rotate_left
                  · intro w' hSw
                    obtain ⟨s0, s1, s2⟩ := hSw
                    go_simp
                    try with_reducible rfl
                  try simp only [Act.put, List.setIfInBounds_toArray, List.set_cons_zero, List.set_cons_succ]
                  refine wpAnyH_take (i := 1) (v := ?_) (by simp only [List.getElem?_toArray, List.getElem?_cons_succ, List.getElem?_cons_zero]; rfl) (by kernel_rfl) (by kernel_rfl) (by kernel_rfl) (by intro _ _ _ h; exact h) (Or.inl ⟨by rfl, ?_⟩) (by assumption) ?_
                  rotate_left
                  · intro w' hSw
                    obtain ⟨s0, s1, s2⟩ := hSw
                    go_simp
                    try with_reducible rfl
                  try simp only [Act.put, List.setIfInBounds_toArray, List.set_cons_zero, List.set_cons_succ]
                  refine wpAnyH_take (i := 2) (v := ?_) (by simp only [List.getElem?_toArray, List.getElem?_cons_succ, List.getElem?_cons_zero]; rfl) (by kernel_rfl) (by kernel_rfl) (by kernel_rfl) (by intro _ _ _ h; exact h) (Or.inl ⟨by rfl, ?_⟩) (by assumption) ?_
                  rotate_left
                  · intro w' hSw
                    obtain ⟨s0, s1, s2⟩ := hSw
                    go_simp
                    try with_reducible rfl
                  try simp only [Act.put, List.setIfInBounds_toArray, List.set_cons_zero, List.set_cons_succ]
                  refine wpAnyH_ready (rs := [3]) (by kernel_rfl) (by simp) ?_
                  refine AllReadyH.cons (by simp only [List.getElem?_toArray, List.getElem?_cons_succ, List.getElem?_cons_zero]; rfl) (fun K hK => ?_) AllReadyH.nil
                  have sg0 := (HS5.out.below HBC.out).below B0
                  go_simp
                  refine (scheck_lit 20 m C true ao4 cap4 v0 (decide_eq_true HL.out.ok) HL.out.len (by omega) HMF.out sg0.at).mono ?_
                  rintro e w6 ⟨rfl, hb6⟩
                  have BF0 := B0.link hb6
                  go_wp2_with fail
                  refine hK.out _ _ (HSB.out _ BF0) (fun hHeld => ?_)
                  clear hK
                  try simp only [Act.put, List.setIfInBounds_toArray, List.set_cons_zero, List.set_cons_succ]
                  refine wpAnyH_take (i := 4) (v := ?_) (by simp only [List.getElem?_toArray, List.getElem?_cons_succ, List.getElem?_cons_zero]; rfl) (by kernel_rfl) (by kernel_rfl) (by kernel_rfl) (by intro _ _ _ h; exact h) (Or.inl ⟨by rfl, ?_⟩) (by assumption) ?_
                  rotate_left
                  · intro w' hSw
                    obtain ⟨s0, s1, s2⟩ := hSw
                    go_simp
                    try with_reducible rfl
                  try simp only [Act.put, List.setIfInBounds_toArray, List.set_cons_zero, List.set_cons_succ]
                  refine wpAnyH_take (i := 5) (v := ?_) (by simp only [List.getElem?_toArray, List.getElem?_cons_succ, List.getElem?_cons_zero]; rfl) (by kernel_rfl) (by kernel_rfl) (by kernel_rfl) (by intro _ _ _ h; exact h) (Or.inl ⟨by rfl, ?_⟩) (by assumption) ?_
                  rotate_left
                  · intro w' hSw
                    obtain ⟨s0, s1, s2⟩ := hSw
                    go_simp
                    try with_reducible rfl
                  try simp only [Act.put, List.setIfInBounds_toArray, List.set_cons_zero, List.set_cons_succ]
                  refine wpAnyH_take (i := 6) (v := ?_) (by simp only [List.getElem?_toArray, List.getElem?_cons_succ, List.getElem?_cons_zero]; rfl) (by kernel_rfl) (by kernel_rfl) (by kernel_rfl) (by intro _ _ _ h; exact h) (Or.inl ⟨by rfl, ?_⟩) (by assumption) ?_
                  rotate_left
                  · intro w' hSw
                    obtain ⟨s0, s1, s2⟩ := hSw
                    go_simp
                    try with_reducible rfl
                  try simp only [Act.put, List.setIfInBounds_toArray, List.set_cons_zero, List.set_cons_succ]
                  refine wpAnyH_take (i := 7) (v := ?_) (by simp only [List.getElem?_toArray, List.getElem?_cons_succ, List.getElem?_cons_zero]; rfl) (by kernel_rfl) (by kernel_rfl) (by kernel_rfl) (by intro _ _ _ h; exact h) (Or.inl ⟨by rfl, ?_⟩) (by assumption) ?_
                  rotate_left
                  · intro w' hSw
                    obtain ⟨s0, s1, s2⟩ := hSw
                    go_simp
                    try with_reducible rfl
                  try simp only [Act.put, List.setIfInBounds_toArray, List.set_cons_zero, List.set_cons_succ]
                  refine wpAnyH_take (i := 9) (v := ?_) (by simp only [List.getElem?_toArray, List.getElem?_cons_succ, List.getElem?_cons_zero]; rfl) (by kernel_rfl) (by kernel_rfl) (by kernel_rfl) (by intro _ _ _ h; exact h) (Or.inl ⟨by rfl, ?_⟩) (by assumption) ?_
                  rotate_left
                  · intro w' hSw
                    obtain ⟨s0, s1, s2⟩ := hSw
                    go_simp
                    try with_reducible rfl
                  try simp only [Act.put, List.setIfInBounds_toArray, List.set_cons_zero, List.set_cons_succ]
                  refine wpAnyH_take (i := 10) (v := ?_) (by simp only [List.getElem?_toArray, List.getElem?_cons_succ, List.getElem?_cons_zero]; rfl) (by kernel_rfl) (by kernel_rfl) (by kernel_rfl) (by intro _ _ _ h; exact h) (Or.inl ⟨by rfl, ?_⟩) (by assumption) ?_
                  rotate_left
                  · intro w' hSw
                    obtain ⟨s0, s1, s2⟩ := hSw
                    go_simp
                    try with_reducible rfl
                  try simp only [Act.put, List.setIfInBounds_toArray, List.set_cons_zero, List.set_cons_succ]
                  refine wpAnyH_ready (rs := [8]) (by kernel_rfl) (by simp) ?_
                  refine AllReadyH.cons (by simp only [List.getElem?_toArray, List.getElem?_cons_succ, List.getElem?_cons_zero]; rfl) (fun K hK => ?_) AllReadyH.nil
                  have sgP1 := (HS5.out.below HBC.out).below BF0
                  go_simp
                  refine (taken_lit 20 m _ ao4 cap4 w6 HL.out.len HTM.out HMF.out sgP1.at).mono ?_
                  rintro e wP1 ⟨rfl, hbP1⟩
                  have P1 := BF0.link hbP1
                  go_wp2_with fail
                  refine hK.out _ _ (HSB.out _ P1) (fun hHeld => ?_)
                  clear hK
                  try simp only [Act.put, List.setIfInBounds_toArray, List.set_cons_zero, List.set_cons_succ]
                  refine wpAnyH_ready (rs := [11]) (by kernel_rfl) (by simp) ?_
                  refine AllReadyH.cons (by simp only [List.getElem?_toArray, List.getElem?_cons_succ, List.getElem?_cons_zero]; rfl) (fun K hK => ?_) AllReadyH.nil
                  have sgP2 := (K5.out.seg.below HBC.out).below P1
                  go_simp
                  refine (taken_lit 20 l _ ao cap wP1 HLL.out HTL.out HLF.out sgP2.at).mono ?_
                  rintro e wP2 ⟨rfl, hbP2⟩
                  have P2 := P1.link hbP2
                  go_wp2_with fail
                  refine hK.out _ _ (HSB.out _ P2) (fun hHeld => ?_)
                  clear hK
                  try simp only [Act.put, List.setIfInBounds_toArray, List.set_cons_zero, List.set_cons_succ]
                  refine wpAnyH_take (i := 12) (v := ?_) (by simp only [List.getElem?_toArray, List.getElem?_cons_succ, List.getElem?_cons_zero]; rfl) (by kernel_rfl) (by kernel_rfl) (by kernel_rfl) (by intro _ _ _ h; exact h) (Or.inl ⟨by rfl, ?_⟩) (by assumption) ?_
                  rotate_left
                  · intro w' hSw
                    obtain ⟨s0, s1, s2⟩ := hSw
                    go_simp
                    try with_reducible rfl
                  try simp only [Act.put, List.setIfInBounds_toArray, List.set_cons_zero, List.set_cons_succ]
                  refine wpAnyH_take (i := 13) (v := ?_) (by simp only [List.getElem?_toArray, List.getElem?_cons_succ, List.getElem?_cons_zero]; rfl) (by kernel_rfl) (by kernel_rfl) (by kernel_rfl) (by intro _ _ _ h; exact h) (Or.inl ⟨by rfl, ?_⟩) (by assumption) ?_
                  rotate_left
                  · intro w' hSw
                    obtain ⟨s0, s1, s2⟩ := hSw
                    go_simp
                    try with_reducible rfl
                  try simp only [Act.put, List.setIfInBounds_toArray, List.set_cons_zero, List.set_cons_succ]
                  refine wpAnyH_take (i := 14) (v := ?_) (by simp only [List.getElem?_toArray, List.getElem?_cons_succ, List.getElem?_cons_zero]; rfl) (by kernel_rfl) (by kernel_rfl) (by kernel_rfl) (by intro _ _ _ h; exact h) (Or.inl ⟨by rfl, ?_⟩) (by assumption) ?_
                  rotate_left
                  · intro w' hSw
                    obtain ⟨s0, s1, s2⟩ := hSw
                    go_simp
                    try with_reducible rfl
                  try simp only [Act.put, List.setIfInBounds_toArray, List.set_cons_zero, List.set_cons_succ]
                  refine wpAnyH_take (i := 15) (v := ?_) (by simp only [List.getElem?_toArray, List.getElem?_cons_succ, List.getElem?_cons_zero]; rfl) (by kernel_rfl) (by kernel_rfl) (by kernel_rfl) (by intro _ _ _ h; exact h) (Or.inl ⟨by rfl, ?_⟩) (by assumption) ?_
                  rotate_left
                  · intro w' hSw
                    obtain ⟨s0, s1, s2⟩ := hSw
                    go_simp
                    try with_reducible rfl
                  try simp only [Act.put, List.setIfInBounds_toArray, List.set_cons_zero, List.set_cons_succ]
                  refine wpAnyH_take (i := 16) (v := ?_) (by simp only [List.getElem?_toArray, List.getElem?_cons_succ, List.getElem?_cons_zero]; rfl) (by kernel_rfl) (by kernel_rfl) (by kernel_rfl) (by intro _ _ _ h; exact h) (Or.inl ⟨by rfl, ?_⟩) (by assumption) ?_
                  rotate_left
                  · intro w' hSw
                    obtain ⟨s0, s1, s2⟩ := hSw
                    go_simp
                    try with_reducible rfl
                  try simp only [Act.put, List.setIfInBounds_toArray, List.set_cons_zero, List.set_cons_succ]
                  refine wpAnyH_take (i := 18) (v := ?_) (by simp only [List.getElem?_toArray, List.getElem?_cons_succ, List.getElem?_cons_zero]; rfl) (by kernel_rfl) (by kernel_rfl) (by kernel_rfl) (by intro _ _ _ h; exact h) (Or.inl ⟨by rfl, ?_⟩) (by assumption) ?_
                  rotate_left
                  · intro w' hSw
                    obtain ⟨s0, s1, s2⟩ := hSw
                    go_simp
                    try with_reducible rfl
                  try simp only [Act.put, List.setIfInBounds_toArray, List.set_cons_zero, List.set_cons_succ]
                  refine wpAnyH_take (i := 19) (v := ?_) (by simp only [List.getElem?_toArray, List.getElem?_cons_succ, List.getElem?_cons_zero]; rfl) (by kernel_rfl) (by kernel_rfl) (by kernel_rfl) (by intro _ _ _ h; exact h) (Or.inl ⟨by rfl, ?_⟩) (by assumption) ?_
                  rotate_left
                  · intro w' hSw
                    obtain ⟨s0, s1, s2⟩ := hSw
                    go_simp
                    try with_reducible rfl
                  try simp only [Act.put, List.setIfInBounds_toArray, List.set_cons_zero, List.set_cons_succ]
                  refine wpAnyH_ready (rs := [17]) (by kernel_rfl) (by simp) ?_
                  refine AllReadyH.cons (by simp only [List.getElem?_toArray, List.getElem?_cons_succ, List.getElem?_cons_zero]; rfl) (fun K hK => ?_) AllReadyH.nil
                  have sgQ1 := (HS5.out.below HBC.out).below P2
                  go_simp
                  refine (held_lit 20 m _ ao4 cap4 wP2 HL.out.len HHM.out HMF.out sgQ1.at).mono ?_
                  rintro e wQ1 ⟨rfl, hbQ1⟩
                  have Q1 := P2.link hbQ1
                  go_wp2_with fail
                  refine hK.out _ _ (HSB.out _ Q1) (fun hHeld => ?_)
                  clear hK
                  try simp only [Act.put, List.setIfInBounds_toArray, List.set_cons_zero, List.set_cons_succ]
                  refine wpAnyH_ready (rs := [20]) (by kernel_rfl) (by simp) ?_
                  refine AllReadyH.cons (by simp only [List.getElem?_toArray, List.getElem?_cons_succ, List.getElem?_cons_zero]; rfl) (fun K hK => ?_) AllReadyH.nil
                  have sgQ2 := (K5.out.seg.below HBC.out).below Q1
                  go_simp
                  refine (held_lit 20 l _ ao cap wQ1 HLL.out HHL.out HLF.out sgQ2.at).mono ?_
                  rintro e wQ2 ⟨rfl, hbQ2⟩
                  have Q2 := Q1.link hbQ2
                  go_wp2_with fail
                  refine hK.out _ _ (HSB.out _ Q2) (fun hHeld => ?_)
                  clear hK
                  try simp only [Act.put, List.setIfInBounds_toArray, List.set_cons_zero, List.set_cons_succ]
                  refine wpAnyH_take (i := 21) (v := ?_) (by simp only [List.getElem?_toArray, List.getElem?_cons_succ, List.getElem?_cons_zero]; rfl) (by kernel_rfl) (by kernel_rfl) (by kernel_rfl) (by intro _ _ _ h; exact h) (Or.inl ⟨by rfl, ?_⟩) (by assumption) ?_
                  rotate_left
                  · intro w' hSw
                    obtain ⟨s0, s1, s2⟩ := hSw
                    go_simp
                    try with_reducible rfl
                  try simp only [Act.put, List.setIfInBounds_toArray, List.set_cons_zero, List.set_cons_succ]
                  refine wpAnyH_take (i := 22) (v := ?_) (by simp only [List.getElem?_toArray, List.getElem?_cons_succ, List.getElem?_cons_zero]; rfl) (by kernel_rfl) (by kernel_rfl) (by kernel_rfl) (by intro _ _ _ h; exact h) (Or.inl ⟨by rfl, ?_⟩) (by assumption) ?_
                  rotate_left
                  · intro w' hSw
                    obtain ⟨s0, s1, s2⟩ := hSw
                    go_simp
                    try with_reducible rfl
                  try simp only [Act.put, List.setIfInBounds_toArray, List.set_cons_zero, List.set_cons_succ]
                  refine wpAnyH_take (i := 23) (v := ?_) (by simp only [List.getElem?_toArray, List.getElem?_cons_succ, List.getElem?_cons_zero]; rfl) (by kernel_rfl) (by kernel_rfl) (by kernel_rfl) (by intro _ _ _ h; exact h) (Or.inl ⟨by rfl, ?_⟩) (by assumption) ?_
                  rotate_left
                  · intro w' hSw
                    obtain ⟨s0, s1, s2⟩ := hSw
                    go_simp
                    try with_reducible rfl
                  try simp only [Act.put, List.setIfInBounds_toArray, List.set_cons_zero, List.set_cons_succ]
                  refine wpAnyH_done (by kernel_rfl) ?_ _
                  go_wp2_with fail
                  go_ret
                  exact ⟨rfl, HBEL.out.link Q2⟩
    · have hd1 : decide ((30 : Int) < (n1 : Int)) = true := decide_eq_true (by omega)
      go_enter Tryd.func11, Tryd.ntmps11
      go_wp2_with (first
        | (go_at_call 24; refine (awake12_any w hT).mono ?_; rintro e w1 ⟨rfl, hb1⟩; have hz1 := hb1.size)
        | (go_at_call 32; refine (New_lit 20 w1 (by omega)).mono ?_; rintro e w2 ⟨⟨ao2, cap2, rfl, hs2⟩, hb2⟩; rw [HZ.out]; have hz2 := hb2.size)
        | (refine wpList_store2 rfl 51 size51 (.tmp 6) (.tmp 28) rfl w2.heap.size _ _ (.slice none 0 0) (.string ⟨#[]⟩) rfl rfl rfl rfl (Row2.new w2 51 _ _) ?_; intro w3 hr3 hon3; have hb3 := hon3.fresh))
      go_ret
      exact ⟨rfl, (hb1.link hb2).link hb3⟩
  · have hd0 : decide ((30 : Int) < (n0 : Int)) = true := decide_eq_true (by omega)
    go_enter Tryd.func11, Tryd.ntmps11
    go_wp2_with (first
      | (go_at_call 24; refine (awake12_any w hT).mono ?_; rintro e w1 ⟨rfl, hb1⟩; have hz1 := hb1.size)
      | (go_at_call 32; refine (New_lit 20 w1 (by omega)).mono ?_; rintro e w2 ⟨⟨ao2, cap2, rfl, hs2⟩, hb2⟩; rw [HZ.out]; have hz2 := hb2.size)
      | (refine wpList_store2 rfl 51 size51 (.tmp 6) (.tmp 28) rfl w2.heap.size _ _ (.slice none 0 0) (.string ⟨#[]⟩) rfl rfl rfl rfl (Row2.new w2 51 _ _) ?_; intro w3 hr3 hon3; have hb3 := hon3.fresh))
    go_ret
    exact ⟨rfl, (hb1.link hb2).link hb3⟩
end Go.Proofs.YtfnokklcbmipgaaDoor
