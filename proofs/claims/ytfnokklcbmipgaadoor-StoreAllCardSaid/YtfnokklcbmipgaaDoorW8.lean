/- StoreAll: the walk. -/
import Derived.Test.YtfnokklcbmipgaaDoorW6
import Derived.Deep.Cut
import Derived.Deep.CutRange
namespace Go.Proofs.YtfnokklcbmipgaaDoor
open Go.RowKit Plain

theorem rm_get {α : Type} (l : List α) (k i : Nat) (d : α) (hk : k ≤ l.length) : (l.take k ++ l.drop (k + 1)).getD i d = if i < k then l.getD i d else l.getD (i + 1) d := by
  simp only [List.getD_eq_getElem?_getD, List.getElem?_append, List.length_take, List.getElem?_take, List.getElem?_drop]
  have e : min k l.length = k := by omega
  rw [e]
  by_cases h : i < k
  · simp [h]
  · rw [if_neg h, if_neg h]
    congr 2
    omega
theorem rm_inner {w : World} {N : Nat} {vs : List Value} {chs : List Slots} (hl : vs.length = chs.length) {k : Nat} (hk : k < chs.length) (h : ∀ i, i < chs.length → ChainNew w N (vs.getD i undef) (chs.getD i [])) :
    ∀ i, i < (chs.take k ++ chs.drop (k + 1)).length → ChainNew w N ((vs.take k ++ vs.drop (k + 1)).getD i undef) ((chs.take k ++ chs.drop (k + 1)).getD i []) := by
  intro i hi
  rw [List.length_append, List.length_take, List.length_drop] at hi
  rw [rm_get _ _ _ _ (by omega), rm_get _ _ _ _ (by omega)]
  split
  · exact h i (by omega)
  · exact h (i + 1) (by omega)
theorem BoxAt.kept {w0 w w' : World} {N b cap n size base : Nat} {e : TypeId} {v v8 v9 : Value} {xs : List Value} {l : Segs} {B : List UInt8} {chs : List Slots} {ds : List (List UInt8)} {ao : Option Addr} (h : BoxAt w0 N b v8 v9 l B chs ds ao cap w) (own : w.ownsRow base e size v n xs) (h51 : (51 : TypeId) ≠ e) (h47 : (47 : TypeId) ≠ e) (h24 : (24 : TypeId) ≠ e) (h8 : v8.ownBlock = none ∨ v8.ownBlock ≠ v.ownBlock) (h9 : v9.ownBlock = none ∨ v9.ownBlock ≠ v.ownBlock) (hg : w.grownBy w' v.ownBlock) (hb : Below N w w') : BoxAt w0 N b v8 v9 l B chs ds ao cap w' := by
  obtain ⟨vs, o8, inn⟩ := h.chs
  have hord := h.ord
  exact ⟨Row2.grown h.box own h51 hg, h.seg.kept hg (own_ne h.seg own h47), h.nb, ⟨vs, o8.kept hg h8, fun i hi => (inn i hi).grown own h24 hg⟩, World.ownsRow.kept h.dat hg h9, h.bel.trans (hb.mono (by omega)), h.tab.below hb (by omega), Nat.le_trans h.low hb.size, h.ord⟩
theorem BoxAt.chain2 {w0 w w' : World} {N b cap n base : Nat} {v v8 v8' v9 : Value} {xs : List Value} {l : Segs} {B : List UInt8} {chs chs' : List Slots} {ds : List (List UInt8)} {ao : Option Addr} (h : BoxAt w0 N b v8 v9 l B chs ds ao cap w) (own : w.ownsRow base 39 1 v n xs) (hc : ChainsNew w' N v8' chs') (hg : w.grownBy w' v.ownBlock) (hb : Below N w w') : BoxAt w0 N b v8' v9 l B chs' ds ao cap w' := by
  have hord := h.ord
  exact ⟨Row2.grown h.box own (by decide) hg, h.seg.kept hg (own_ne h.seg own (by decide)), h.nb, hc, World.ownsRow.kept h.dat hg (own_ne h.dat own (by decide)), h.bel.trans (hb.mono (by omega)), h.tab.below hb (by omega), Nat.le_trans h.low hb.size, h.ord⟩
theorem BoxAt.text2 {w0 w w' : World} {N b cap n base : Nat} {v v8 v9 v9' : Value} {xs : List Value} {l : Segs} {B : List UInt8} {chs : List Slots} {ds ds' : List (List UInt8)} {ao : Option Addr} (h : BoxAt w0 N b v8 v9 l B chs ds ao cap w) (own : w.ownsRow base 9 1 v n xs) (hc : TextsNew w' N v9' ds') (hg : w.grownBy w' v.ownBlock) (hb : Below N w w') : BoxAt w0 N b v8 v9' l B chs ds' ao cap w' := by
  have hord := h.ord
  exact ⟨Row2.grown h.box own (by decide) hg, h.seg.kept hg (own_ne h.seg own (by decide)), h.nb, h.chs.grown own (by decide) (by decide) hg, hc, h.bel.trans (hb.mono (by omega)), h.tab.below hb (by omega), Nat.le_trans h.low hb.size, h.ord⟩
theorem rows_some {w : World} {N n cap size : Nat} {e : TypeId} {ao : Option Addr} {xs : List Value} (h : w.ownsRow N e size (.slice ao n cap) n xs) (hn : 0 < n) : ∃ g, ao = some ⟨g, 0, none⟩ ∧ g < w.heap.size := by
  rcases h.2 with ⟨_, h0⟩ | ⟨g, cap', cur, hv, _, hg, _⟩
  · omega
  · simp only [Value.slice.injEq] at hv
    exact ⟨g, hv.1, (Array.getElem?_eq_some_iff.1 hg).1⟩
theorem keptSum_succ (ps : Kept) (k : Nat) (hk : k < ps.length) : ((keptSum (ps.take (k + 1)) : Nat) : Int) = (keptSum (ps.take k) : Nat) + roomC (cutC (ps.getD k ([], [])).2.length) := by
  rw [room_bN]
  unfold keptSum
  rw [List.take_succ_eq_append_getElem hk, List.map_append, List.sum_append, List.getD_eq_getElem?_getD, List.getElem?_eq_getElem hk]
  simp
theorem keptSum_le (ps : Kept) (h : ∀ p ∈ ps, p.2.length ≤ 300) : keptSum ps ≤ ps.length * 4160 := by
  unfold keptSum
  induction ps with
  | nil => simp
  | cons p ps ih =>
    have h1 := ih fun q hq => h q (List.mem_cons_of_mem _ hq)
    have h2 := roomC_bd (cutC p.2.length)
    rw [room_bN] at h2
    have h3 := cutC_len p.2.length (by have := h p List.mem_cons_self; omega)
    rw [List.map_cons, List.sum_cons, List.length_cons, Nat.add_mul]
    omega
theorem vs_one {w : World} {N : Nat} {vs : List Value} {chs : List Slots} (hl : vs.length = chs.length) (h : ∀ i, i < chs.length → ChainNew w N (vs.getD i undef) (chs.getD i [])) : ∀ u ∈ vs, u.oneCell' = true := by
  intro u hu
  obtain ⟨i, hi, rfl⟩ := List.mem_iff_getElem.1 hu
  have := (h i (by omega)).one
  rw [List.getD_eq_getElem?_getD, List.getElem?_eq_getElem hi] at this
  exact this
theorem tx_one (ds : List (List UInt8)) : ∀ u ∈ txC ds, u.oneCell' = true := by
  intro u hu
  obtain ⟨d, _, rfl⟩ := List.mem_map.1 hu
  rfl
theorem map_rm {α β : Type} (f : α → β) (l : List α) (k : Nat) : (l.take k ++ l.drop (k + 1)).map f = (l.map f).take k ++ (l.map f).drop (k + 1) := by
  rw [List.map_append, List.map_take, List.map_drop]
attribute [local irreducible] Go.Calls
set_option linter.unusedSimpArgs false in
set_option linter.unusedVariables false in
set_option maxRecDepth 20000 in
set_option maxHeartbeats 16000000 in
theorem all12_walk (a0 : Option Addr) (n0 : Nat) (tx : List (List UInt8)) (cap0 : Nat) (a1 : Option Addr) (n1 : Nat) (dr : List Int) (cap1 : Nat) (w : World) (hn0 : tx.length = n0) (hn1 : dr.length = n1) (hx : TextsAt w a0 tx) (hd : BytsAt w a1 dr) (hT : TabAt w) :
    Calls Tryd.prog 12 #[.slice a0 n0 cap0, .slice a1 n1 cap1] w fun e w' => e = .returned (.bool true) ∧ Below w.heap.size w w' := by
  have hw0 := hT.2
  obtain ⟨Z, hZ⟩ : ∃ Z, List.replicate (20 * 512) (0 : UInt8) = Z := ⟨_, rfl⟩
  have hZok := okSt_new (n := 20) (by omega)
  rw [hZ] at hZok
  have HZ := Lib.hid hZ
  have HZOK := Lib.hid hZok
  have HX := Lib.hid hx
  have HDR := Lib.hid hd
  clear hZ hZok hx hd
  by_cases h30 : n0 ≤ 30
  · have hd0 : decide ((30 : Int) < (n0 : Int)) = false := decide_eq_false (by omega)
    by_cases h31 : n1 ≤ 30
    · have hd1 : decide ((30 : Int) < (n1 : Int)) = false := decide_eq_false (by omega)
      go_enter Tryd.func12, Tryd.ntmps12
      go_wp2_with (first
        | (go_at_call 24; refine (awake12_any w hT).mono ?_; rintro e w1 ⟨rfl, hb1⟩; have hz1 := hb1.size; have T1 := hT.grow hb1)
        | (go_at_call 32; refine (New_lit 20 w1 (by omega)).mono ?_; rintro e w2 ⟨⟨ao2, cap2, rfl, hs2⟩, hb2⟩; rw [HZ.out]; have hz2 := hb2.size; have T2 := T1.grow hb2)
        | (refine wpList_store2 rfl 51 size51 (.tmp 6) (.tmp 26) rfl w2.heap.size _ _ (.slice none 0 0) (.string ⟨#[]⟩) rfl rfl rfl rfl (Row2.new w2 51 _ _) ?_; intro w3 hr3 hon3; have hb3 := hon3.fresh; have hz3 := hr3.lt; have HT3 := Lib.hid (T2.grow hb3); have HS2 := Lib.hid hs2; have HS3 := Lib.hid (hs2.below hb3)))
      go_loopw [8, 9, 10] (fun v8 v9 i wr => ∃ (t : Nat) (l : Segs) (B : List UInt8) (ps : Kept) (ao : Option Addr) (cap : Nat) (co8 co9 : Option Addr) (cc8 cc9 : Nat), t ≤ n0 ∧ i = .int .i64 t ∧ v8 = .slice co8 ps.length cc8 ∧ v9 = .slice co9 ps.length cc9 ∧ BoxAt w w3.heap.size w2.heap.size (.slice co8 ps.length cc8) (.slice co9 ps.length cc9) l B ((ps : Kept).map (fun p : Slots × List UInt8 => p.1)) ((ps : Kept).map (fun p : Slots × List UInt8 => p.2)) ao cap wr ∧ Keep l B ps ∧ ps.length ≤ t) (fun _ _ i _ => n0 - (intOf i).toNat)
      case atStart => exact ⟨0, newS 20, Z, [], ao2, cap2, none, none, 0, 0, Nat.zero_le _, rfl, rfl, rfl, ⟨hr3, HS3.out.mono (Nat.zero_le _), fun k off e => by have := (HS2.out.blk k off e).2; omega, ChainsNew.nil _ _, TextsNew.nil _ _, (hb1.link hb2).link hb3, HT3.out, Nat.le_refl _, by omega⟩, keep_new HZOK.out, Nat.le_refl _⟩
      case round =>
        obtain ⟨t, l, B, ps, ao, cap, co8, co9, cc8, cc9, ht, rfl, rfl, rfl, hK0, hKP, hPS⟩ := hrel
        have HK := Lib.hid hK0
        have HKP := Lib.hid hKP
        have HPS := Lib.hid hPS
        clear hK0
        by_cases hlt : t < n0
        · have HLT := Lib.hid hlt
          have hi : (t : Int) < (n0 : Int) := by omega
          obtain ⟨xb, xo, rfl, hxb, hxc⟩ := HX.out.cell t (by omega)
          obtain ⟨D, hD⟩ : ∃ D, D = tx.getD t [] := ⟨_, rfl⟩
          rw [← hD] at hxc
          have HXB := Lib.hid hxb
          have HXC := Lib.hid hxc
          have xc := (HK.out.bel.cell (p := ⟨xb, xo + t, none⟩) hxb).trans hxc
          clear hxc hD hxb
          by_cases hdl : D.length ≤ 300
          · have hdd : decide ((300 : Int) < ((strB D).size : Int)) = false := decide_eq_false (by rw [strB_size]; omega)
            have HSB : Hid (∀ w', Below wr.heap.size wr w' → w'.cell? ⟨w2.heap.size, 0, none⟩ = some (.slice ao 20 cap) ∧ w'.cell? ⟨w2.heap.size, 1, none⟩ = some (.string (strB B)) ∧ w'.cell? ⟨xb, xo + t, none⟩ = some (.string (strB D))) := fun w' hb => ⟨(HK.out.box.below hb HK.out.box.lt).c0, (HK.out.box.below hb HK.out.box.lt).c1, ((HK.out.bel.link hb).cell (p := ⟨xb, xo + t, none⟩) HXB.out).trans HXC.out⟩
            have HDL : Hid (D.length ≤ 1000000) := by show _ ≤ _; omega
            have HLL := Lib.hid hKP.len
            have HWF := Lib.hid hKP.ok.ok.wf
            obtain ⟨m, C, ss, e0, hE⟩ : ∃ m C ss e0, putS l B D = (m, C, ss, e0) := ⟨_, _, _, _, rfl⟩
            have HE := Lib.hid hE
            have hmay := putS_may D hKP.ok
            rw [hE] at hmay
            have HML : Hid (m.length = 20) := hmay.2.trans HLL.out
            have HPO : Hid (e0 = 0 → PutOk l B D m C ss) := fun h0 => by
              have := putS_ok (l := l) (B := B) (D := D) (by rw [hE]; exact h0)
              rw [hE] at this
              exact this
            have HPE : Hid (e0 ≠ 0 → m = l ∧ C = B) := fun h0 => by
              have := putS_err (l := l) (B := B) (D := D) (by rw [hE]; exact h0)
              rw [hE] at this
              simp only [Prod.mk.injEq] at this
              exact ⟨this.1, this.2.1⟩
            clear hE hmay hPS hKP
            go_wp2_with fail
            go_cut [11, 12, 13] from 55 to 148 (fun p c f wx => ∃ (bE : Nat) (aoA : Option Addr) (capA : Nat) (soA : Option Addr) (scA : Nat), p = .pointer (some ⟨bE, 0, none⟩) ∧ c = .slice soA ss.length scA ∧ f = .int .i64 e0 ∧ Below wr.heap.size wr wx ∧ Row2 wx bE 51 (.slice aoA 20 capA) (.string (strB C)) ∧ SegNew wx w3.heap.size aoA capA m ∧ SlotsNew wx w3.heap.size soA scA ss ∧ wr.heap.size ≤ bE)
            case first =>
              have B0 := (Below.refl wr.heap.size wr).drew
              refine wp_region_held_drew (S := fun w' => w'.cell? ⟨w2.heap.size, 0, none⟩ = some (.slice ao 20 cap) ∧ w'.cell? ⟨w2.heap.size, 1, none⟩ = some (.string (strB B)) ∧ w'.cell? ⟨xb, xo + t, none⟩ = some (.string (strB D))) (by kernel_rfl) (HSB.out _ B0) (fun hHeld => ?_)
              generalize wr.drew = v0 at *
              refine wpAnyH_take (i := 0) (v := ?_) (by simp only [List.getElem?_toArray, List.getElem?_cons_succ, List.getElem?_cons_zero]; rfl) (by kernel_rfl) (by kernel_rfl) (by kernel_rfl) (by intro _ _ _ h; exact h) (Or.inl ⟨by rfl, ?_⟩) (by assumption) ?_
              rotate_left
              · intro w' hSw
                obtain ⟨s0, s1, s2⟩ := hSw
                go_simp
                try with_reducible rfl
              try simp only [Act.put, List.setIfInBounds_toArray, List.set_cons_zero, List.set_cons_succ]
              refine wpAnyH_take (i := 1) (v := ?_) (by simp only [List.getElem?_toArray, List.getElem?_cons_succ, List.getElem?_cons_zero]; rfl) (by kernel_rfl) (by kernel_rfl) (by kernel_rfl) (by intro _ _ _ h; exact h) (Or.inl ⟨by rfl, ?_⟩) (by assumption) ?_
              rotate_left
              · intro w' hSw
                obtain ⟨s0, s1, s2⟩ := hSw
                go_simp
                try with_reducible rfl
              try simp only [Act.put, List.setIfInBounds_toArray, List.set_cons_zero, List.set_cons_succ]
              refine wpAnyH_take (i := 2) (v := ?_) (by simp only [List.getElem?_toArray, List.getElem?_cons_succ, List.getElem?_cons_zero]; rfl) (by kernel_rfl) (by kernel_rfl) (by kernel_rfl) (by intro _ _ _ h; exact h) (Or.inl ⟨by rfl, ?_⟩) (by assumption) ?_
              rotate_left
              · intro w' hSw
                obtain ⟨s0, s1, s2⟩ := hSw
                go_simp
                try with_reducible rfl
              try simp only [Act.put, List.setIfInBounds_toArray, List.set_cons_zero, List.set_cons_succ]
              refine wpAnyH_take (i := 3) (v := ?_) (by simp only [List.getElem?_toArray, List.getElem?_cons_succ, List.getElem?_cons_zero]; rfl) (by kernel_rfl) (by kernel_rfl) (by kernel_rfl) (by intro _ _ _ h; exact h) (Or.inl ⟨by rfl, ?_⟩) (by assumption) ?_
              rotate_left
              · intro w' hSw
                obtain ⟨s0, s1, s2⟩ := hSw
                go_simp
                try with_reducible rfl
              try simp only [Act.put, List.setIfInBounds_toArray, List.set_cons_zero, List.set_cons_succ]
              refine wpAnyH_take (i := 4) (v := ?_) (by simp only [List.getElem?_toArray, List.getElem?_cons_succ, List.getElem?_cons_zero]; rfl) (by kernel_rfl) (by kernel_rfl) (by kernel_rfl) (by intro _ _ _ h; exact h) (Or.inl ⟨by rfl, ?_⟩) (by assumption) ?_
              rotate_left
              · intro w' hSw
                obtain ⟨s0, s1, s2⟩ := hSw
                go_simp
                try with_reducible rfl
              try simp only [Act.put, List.setIfInBounds_toArray, List.set_cons_zero, List.set_cons_succ]
              refine wpAnyH_ready (rs := [5, 10]) (by kernel_rfl) (by simp) ?_
              refine AllReadyH.cons (by simp only [List.getElem?_toArray, List.getElem?_cons_succ, List.getElem?_cons_zero]; rfl) (fun K hK => ?_) ?_
              · skip
                have sgS := HK.out.seg.below B0
                have tbS := HK.out.tab.grow B0
                go_simp
                refine (Put_lit 20 l m B C D ss _ ao cap v0 HE.out HLL.out HML.out (by omega) HWF.out sgS.at sgS.nil tbS HDL.out).mono ?_
                rintro e wA ⟨⟨aoA, capA, soA, scA, rfl, sgA, sqA⟩, hbA⟩
                have BFA := B0.link hbA
                go_wp2_with fail
                refine hK.out _ _ (HSB.out _ BFA) (fun hHeld => ?_)
                clear hK
                try simp only [Act.put, List.setIfInBounds_toArray, List.set_cons_zero, List.set_cons_succ]
                refine wpAnyH_take (i := 6) (v := ?_) (by simp only [List.getElem?_toArray, List.getElem?_cons_succ, List.getElem?_cons_zero]; rfl) (by kernel_rfl) (by kernel_rfl) (by kernel_rfl) (by intro _ _ _ h; exact h) (Or.inl ⟨by rfl, ?_⟩) (by assumption) ?_
                rotate_left
                · intro w' hSw
                  obtain ⟨s0, s1, s2⟩ := hSw
                  go_simp
                  try with_reducible rfl
                try simp only [Act.put, List.setIfInBounds_toArray, List.set_cons_zero, List.set_cons_succ]
                refine wpAnyH_take (i := 7) (v := ?_) (by simp only [List.getElem?_toArray, List.getElem?_cons_succ, List.getElem?_cons_zero]; rfl) (by kernel_rfl) (by kernel_rfl) (by kernel_rfl) (by intro _ _ _ h; exact h) (Or.inl ⟨by rfl, ?_⟩) (by assumption) ?_
                rotate_left
                · intro w' hSw
                  obtain ⟨s0, s1, s2⟩ := hSw
                  go_simp
                  try with_reducible rfl
                try simp only [Act.put, List.setIfInBounds_toArray, List.set_cons_zero, List.set_cons_succ]
                refine wpAnyH_take (i := 8) (v := ?_) (by simp only [List.getElem?_toArray, List.getElem?_cons_succ, List.getElem?_cons_zero]; rfl) (by kernel_rfl) (by kernel_rfl) (by kernel_rfl) (by intro _ _ _ h; exact h) (Or.inl ⟨by rfl, ?_⟩) (by assumption) ?_
                rotate_left
                · intro w' hSw
                  obtain ⟨s0, s1, s2⟩ := hSw
                  go_simp
                  try with_reducible rfl
                try simp only [Act.put, List.setIfInBounds_toArray, List.set_cons_zero, List.set_cons_succ]
                refine wpAnyH_take (i := 9) (v := ?_) (by simp only [List.getElem?_toArray, List.getElem?_cons_succ, List.getElem?_cons_zero]; rfl) (by kernel_rfl) (by kernel_rfl) (by kernel_rfl) (by intro _ _ _ h; exact h) (Or.inl ⟨by rfl, ?_⟩) (by assumption) ?_
                rotate_left
                · intro w' hSw
                  obtain ⟨s0, s1, s2⟩ := hSw
                  go_simp
                  try with_reducible rfl
                try simp only [Act.put, List.setIfInBounds_toArray, List.set_cons_zero, List.set_cons_succ]
                refine wpAnyH_ready (rs := [10]) (by kernel_rfl) (by simp) ?_
                refine AllReadyH.cons (by simp only [List.getElem?_toArray, List.getElem?_cons_succ, List.getElem?_cons_zero]; rfl) (fun K hK => ?_) AllReadyH.nil
                have sgX := sgA.below ((Below.refl _ wA).alloc (Nat.le_refl _) (.cells #[.slice none 0 0, .string ⟨#[]⟩] 51))
                have sqX := sqA.below ((Below.refl _ wA).alloc (Nat.le_refl _) (.cells #[.slice none 0 0, .string ⟨#[]⟩] 51))
                have sgB := sgA
                have sqB := sqA
                have rowE := Row2.new wA 51 (.slice none 0 0) (.string ⟨#[]⟩)
                have BFE := BFA.alloc BFA.size (.cells #[.slice none 0 0, .string ⟨#[]⟩] 51)
                go_simp
                obtain ⟨wE, hwE⟩ : ∃ wE, wE = (wA.alloc (.cells #[.slice none 0 0, .string ⟨#[]⟩] 51)) := ⟨_, rfl⟩
                rw [← hwE] at rowE BFE sgX sqX ⊢
                clear hwE
                refine hK.out _ _ (HSB.out _ BFE) (fun hHeld => ?_)
                clear hK
                try simp only [Act.put, List.setIfInBounds_toArray, List.set_cons_zero, List.set_cons_succ]
                have rowX := rowE
                refine wpAnyH_ready (rs := [11]) (by kernel_rfl) (by simp) ?_
                refine AllReadyH.cons (by simp only [List.getElem?_toArray, List.getElem?_cons_succ, List.getElem?_cons_zero]; rfl) (fun K hK => ?_) AllReadyH.nil
                refine step_store2 rfl 51 size51 (.tmp 11) (.tmp 75) rfl (wA.heap.size) (.slice aoA 20 capA) (.string (strB C)) _ _ rfl rfl rfl rfl rowX ?_
                intro wF hrF honF
                have ltX := rowX.lt
                have BF : Below wr.heap.size wr wF := honF.below BFE (by first | exact Nat.le_refl _ | exact BFA.size)
                have sgF : SegNew wF w3.heap.size aoA capA m := (sgX.same (fun kk off e => honF.heap kk (by have := sgB.blk kk off e; omega))).mono (by have := HK.out.low; have := B0.size; omega)
                have sqF : SlotsNew wF w3.heap.size soA scA ss := (sqX.same (fun kk off e => honF.heap kk (by have := sqB.blk kk off e; omega))).mono (by have := HK.out.low; have := B0.size; omega)
                refine hK.out _ _ (HSB.out _ BF) (fun hHeld => ?_)
                clear hK
                try simp only [Act.put, List.setIfInBounds_toArray, List.set_cons_zero, List.set_cons_succ]
                refine wpAnyH_take (i := 12) (v := ?_) (by simp only [List.getElem?_toArray, List.getElem?_cons_succ, List.getElem?_cons_zero]; rfl) (by kernel_rfl) (by kernel_rfl) (by kernel_rfl) (by intro _ _ _ h; exact h) (Or.inl ⟨by rfl, ?_⟩) (by assumption) ?_
                rotate_left
                · intro w' hSw
                  obtain ⟨s0, s1, s2⟩ := hSw
                  go_simp
                  try with_reducible rfl
                try simp only [Act.put, List.setIfInBounds_toArray, List.set_cons_zero, List.set_cons_succ]
                refine wpAnyH_take (i := 13) (v := ?_) (by simp only [List.getElem?_toArray, List.getElem?_cons_succ, List.getElem?_cons_zero]; rfl) (by kernel_rfl) (by kernel_rfl) (by kernel_rfl) (by intro _ _ _ h; exact h) (Or.inl ⟨by rfl, ?_⟩) (by assumption) ?_
                rotate_left
                · intro w' hSw
                  obtain ⟨s0, s1, s2⟩ := hSw
                  go_simp
                  try with_reducible rfl
                try simp only [Act.put, List.setIfInBounds_toArray, List.set_cons_zero, List.set_cons_succ]
                refine wpAnyH_done (by kernel_rfl) ?_ _
                go_wp2_with fail
                go_meet
                exact ⟨_, aoA, capA, soA, scA, rfl, rfl, rfl, BF, hrF, sgF, sqF, by first | exact B0.size | exact BFA.size⟩
              · skip
                refine AllReadyH.cons (by simp only [List.getElem?_toArray, List.getElem?_cons_succ, List.getElem?_cons_zero]; rfl) (fun K hK => ?_) AllReadyH.nil
                have rowE := Row2.new v0 51 (.slice none 0 0) (.string ⟨#[]⟩)
                have BFE := B0.alloc B0.size (.cells #[.slice none 0 0, .string ⟨#[]⟩] 51)
                go_simp
                obtain ⟨wE, hwE⟩ : ∃ wE, wE = (v0.alloc (.cells #[.slice none 0 0, .string ⟨#[]⟩] 51)) := ⟨_, rfl⟩
                rw [← hwE] at rowE BFE ⊢
                clear hwE
                refine hK.out _ _ (HSB.out _ BFE) (fun hHeld => ?_)
                clear hK
                try simp only [Act.put, List.setIfInBounds_toArray, List.set_cons_zero, List.set_cons_succ]
                refine wpAnyH_ready (rs := [5]) (by kernel_rfl) (by simp) ?_
                refine AllReadyH.cons (by simp only [List.getElem?_toArray, List.getElem?_cons_succ, List.getElem?_cons_zero]; rfl) (fun K hK => ?_) AllReadyH.nil
                have ltE := rowE.lt
                have sgS := HK.out.seg.below BFE
                have tbS := HK.out.tab.grow BFE
                go_simp
                refine (Put_lit 20 l m B C D ss _ ao cap wE HE.out HLL.out HML.out (by omega) HWF.out sgS.at sgS.nil tbS HDL.out).mono ?_
                rintro e wA ⟨⟨aoA, capA, soA, scA, rfl, sgA, sqA⟩, hbA⟩
                have BFA := BFE.link hbA
                have sgX := sgA
                have sqX := sqA
                have sgB := sgA
                have sqB := sqA
                have rowX := rowE.below hbA rowE.lt
                go_wp2_with fail
                refine hK.out _ _ (HSB.out _ BFA) (fun hHeld => ?_)
                clear hK
                try simp only [Act.put, List.setIfInBounds_toArray, List.set_cons_zero, List.set_cons_succ]
                refine wpAnyH_take (i := 6) (v := ?_) (by simp only [List.getElem?_toArray, List.getElem?_cons_succ, List.getElem?_cons_zero]; rfl) (by kernel_rfl) (by kernel_rfl) (by kernel_rfl) (by intro _ _ _ h; exact h) (Or.inl ⟨by rfl, ?_⟩) (by assumption) ?_
                rotate_left
                · intro w' hSw
                  obtain ⟨s0, s1, s2⟩ := hSw
                  go_simp
                  try with_reducible rfl
                try simp only [Act.put, List.setIfInBounds_toArray, List.set_cons_zero, List.set_cons_succ]
                refine wpAnyH_take (i := 7) (v := ?_) (by simp only [List.getElem?_toArray, List.getElem?_cons_succ, List.getElem?_cons_zero]; rfl) (by kernel_rfl) (by kernel_rfl) (by kernel_rfl) (by intro _ _ _ h; exact h) (Or.inl ⟨by rfl, ?_⟩) (by assumption) ?_
                rotate_left
                · intro w' hSw
                  obtain ⟨s0, s1, s2⟩ := hSw
                  go_simp
                  try with_reducible rfl
                try simp only [Act.put, List.setIfInBounds_toArray, List.set_cons_zero, List.set_cons_succ]
                refine wpAnyH_take (i := 8) (v := ?_) (by simp only [List.getElem?_toArray, List.getElem?_cons_succ, List.getElem?_cons_zero]; rfl) (by kernel_rfl) (by kernel_rfl) (by kernel_rfl) (by intro _ _ _ h; exact h) (Or.inl ⟨by rfl, ?_⟩) (by assumption) ?_
                rotate_left
                · intro w' hSw
                  obtain ⟨s0, s1, s2⟩ := hSw
                  go_simp
                  try with_reducible rfl
                try simp only [Act.put, List.setIfInBounds_toArray, List.set_cons_zero, List.set_cons_succ]
                refine wpAnyH_take (i := 9) (v := ?_) (by simp only [List.getElem?_toArray, List.getElem?_cons_succ, List.getElem?_cons_zero]; rfl) (by kernel_rfl) (by kernel_rfl) (by kernel_rfl) (by intro _ _ _ h; exact h) (Or.inl ⟨by rfl, ?_⟩) (by assumption) ?_
                rotate_left
                · intro w' hSw
                  obtain ⟨s0, s1, s2⟩ := hSw
                  go_simp
                  try with_reducible rfl
                try simp only [Act.put, List.setIfInBounds_toArray, List.set_cons_zero, List.set_cons_succ]
                refine wpAnyH_ready (rs := [11]) (by kernel_rfl) (by simp) ?_
                refine AllReadyH.cons (by simp only [List.getElem?_toArray, List.getElem?_cons_succ, List.getElem?_cons_zero]; rfl) (fun K hK => ?_) AllReadyH.nil
                refine step_store2 rfl 51 size51 (.tmp 11) (.tmp 75) rfl (v0.heap.size) (.slice aoA 20 capA) (.string (strB C)) _ _ rfl rfl rfl rfl rowX ?_
                intro wF hrF honF
                have ltX := rowX.lt
                have BF : Below wr.heap.size wr wF := honF.below BFA (by first | exact Nat.le_refl _ | exact B0.size)
                have sgF : SegNew wF w3.heap.size aoA capA m := (sgX.same (fun kk off e => honF.heap kk (by have := sgB.blk kk off e; omega))).mono (by have := HK.out.low; have := BFE.size; omega)
                have sqF : SlotsNew wF w3.heap.size soA scA ss := (sqX.same (fun kk off e => honF.heap kk (by have := sqB.blk kk off e; omega))).mono (by have := HK.out.low; have := BFE.size; omega)
                refine hK.out _ _ (HSB.out _ BF) (fun hHeld => ?_)
                clear hK
                try simp only [Act.put, List.setIfInBounds_toArray, List.set_cons_zero, List.set_cons_succ]
                refine wpAnyH_take (i := 12) (v := ?_) (by simp only [List.getElem?_toArray, List.getElem?_cons_succ, List.getElem?_cons_zero]; rfl) (by kernel_rfl) (by kernel_rfl) (by kernel_rfl) (by intro _ _ _ h; exact h) (Or.inl ⟨by rfl, ?_⟩) (by assumption) ?_
                rotate_left
                · intro w' hSw
                  obtain ⟨s0, s1, s2⟩ := hSw
                  go_simp
                  try with_reducible rfl
                try simp only [Act.put, List.setIfInBounds_toArray, List.set_cons_zero, List.set_cons_succ]
                refine wpAnyH_take (i := 13) (v := ?_) (by simp only [List.getElem?_toArray, List.getElem?_cons_succ, List.getElem?_cons_zero]; rfl) (by kernel_rfl) (by kernel_rfl) (by kernel_rfl) (by intro _ _ _ h; exact h) (Or.inl ⟨by rfl, ?_⟩) (by assumption) ?_
                rotate_left
                · intro w' hSw
                  obtain ⟨s0, s1, s2⟩ := hSw
                  go_simp
                  try with_reducible rfl
                try simp only [Act.put, List.setIfInBounds_toArray, List.set_cons_zero, List.set_cons_succ]
                refine wpAnyH_done (by kernel_rfl) ?_ _
                go_wp2_with fail
                go_meet
                exact ⟨_, aoA, capA, soA, scA, rfl, rfl, rfl, BF, hrF, sgF, sqF, by first | exact B0.size | exact BFA.size⟩
            case rest =>
              obtain ⟨bE, aoA, capA, soA, scA, rfl, rfl, rfl, hbF, hrF, hsF, hqF, hge⟩ := hcut
              have KF := Lib.hid (HK.out.below hbF)
              have HRF := Lib.hid hrF
              have HSF := Lib.hid hsF
              have HQF := Lib.hid hqF
              clear hbF hrF hsF hqF
              go_upto_if 79 with fail
              go_cut [8, 9] from 55 to 148 (fun v8 v9 wx => ∃ (co8' co9' : Option Addr) (cc8' cc9' : Nat) (ps' : Kept), v8 = .slice co8' ps'.length cc8' ∧ v9 = .slice co9' ps'.length cc9' ∧ BoxAt w w3.heap.size w2.heap.size (.slice co8' ps'.length cc8') (.slice co9' ps'.length cc9') l B ((ps' : Kept).map (fun p : Slots × List UInt8 => p.1)) ((ps' : Kept).map (fun p : Slots × List UInt8 => p.2)) ao cap wx ∧ Row2 wx bE 51 (.slice aoA 20 capA) (.string (strB C)) ∧ SegNew wx w3.heap.size aoA capA m ∧ Keep m C ps' ∧ ps'.length ≤ t + 1)
              case first =>
                by_cases he : e0 = 0
                · subst he
                  have HP := Lib.hid (HPO.out rfl)
                  have HKN := Lib.hid (keep_put HKP.out HP.out hdl)
                  go_wp2_with (first
                    | (at_builtin; refine list_chain rfl (.tmp 80) (.tmp 82) rfl w3.heap.size _ (.slice soA ss.length scA) ps.length (ps.map (fun p : Slots × List UInt8 => p.1)) ss (List.length_map _) rfl KF.out.chs ⟨soA, scA, rfl, HQF.out⟩ rfl (by have := HPS.out; omega) KF.out.low ?_; intro ao8 cap8 wH hcH hgH hbH; have KH := KF.out.chain hcH hgH hbH; obtain ⟨vsF, oF, _⟩ := KF.out.chs; have alF := (Below.refl wc.heap.size wc).alloc (Nat.le_refl _) (.cells #[.slice soA ss.length scA] 39); have own8 := World.ownsRow.alloc oF (.cells #[.slice soA ss.length scA] 39); have rH := Row2.grown (HRF.out.below alF HRF.out.lt) own8 (by decide) hgH; have sH : SegNew wH w3.heap.size aoA capA m := (HSF.out.below alF).kept hgH (own_ne (HSF.out.below alF) own8 (by decide)); have xcH := (KH.bel.cell (p := ⟨xb, xo + t, none⟩) HXB.out).trans HXC.out)
                    | (at_builtin; refine list_text rfl (.tmp 84) (.tmp 89) rfl w3.heap.size _ ps.length (ps.map (fun p : Slots × List UInt8 => p.2)) D (List.length_map _) rfl KH.dat rfl (by have := HPS.out; omega) KH.low ?_; intro ao9 cap9 wI hcI hgI hbI; have KI := KH.text hcI hgI hbI; have alH := (Below.refl wH.heap.size wH).alloc (Nat.le_refl _) (.cells #[.string (strB D)] 9); have own9 := World.ownsRow.alloc KH.dat (.cells #[.string (strB D)] 9); have rI := Row2.grown (rH.below alH rH.lt) own9 (by decide) hgI; have sI : SegNew wI w3.heap.size aoA capA m := (sH.below alH).kept hgI (own_ne (sH.below alH) own9 (by decide))))
                  go_meet
                  refine ⟨ao8, ao9, cap8, cap9, ps ++ [(ss, D)], by rw [List.length_append]; rfl, by rw [List.length_append]; rfl, ?_, rI, sI, HKN.out, by have := HPS.out; rw [List.length_append]; simp; omega⟩
                  rw [List.map_append, List.map_append, List.length_append]
                  exact KI
                · have hez : (e0 == 0) = false := by simpa using he
                  have HKO : Hid (Keep m C ps) := by show Keep m C ps; rw [(HPE.out he).1, (HPE.out he).2]; exact HKP.out
                  clear he
                  go_wp2_with fail
                  go_meet
                  exact ⟨co8, co9, cc8, cc9, ps, rfl, rfl, KF.out, HRF.out, HSF.out, HKO.out, by have := HPS.out; omega⟩
              case rest =>
                obtain ⟨co8', co9', cc8', cc9', ps', rfl, rfl, hK9, hrW, hsW, hKP9, hPS9⟩ := hcut
                have r6 := hK9.box
                have c11 := hrW.c0
                have c12 := hrW.c1
                have K9 := Lib.hid hK9
                have HSW := Lib.hid hsW
                have HRW := Lib.hid hrW
                have HKP9 := Lib.hid hKP9
                have HPS9 := Lib.hid hPS9
                clear hK9 hrW hsW hKP9 hPS9
                by_cases htn : t < n1
                · have hj2 : decide ((t : Int) < (n1 : Int)) = true := decide_eq_true (by omega)
                  have hj3 : (t : Int) < (n1 : Int) := by omega
                  obtain ⟨db, dof, rfl, hdb, hdc, hd0', hd256⟩ := HDR.out.cell t (by omega)
                  obtain ⟨xn, hx⟩ : ∃ xn : Nat, (xn : Int) = dr.getD t 0 := ⟨(dr.getD t 0).toNat, by omega⟩
                  rw [← hx] at hdc hd0' hd256
                  have HDB := Lib.hid hdb
                  have HDC := Lib.hid hdc
                  clear hx hdc hdb
                  by_cases hlen : 0 < ps'.length
                  · have hl1 : decide ((0 : Int) < (ps'.length : Int)) = true := decide_eq_true (by omega)
                    have hl2 : (0 : Int) < (ps'.length : Int) := by omega
                    by_cases hr3 : (xn : Int) % 3 = 0
                    · have hr3' : ((xn : Int) % 3 == 0) = true := by simp [hr3]
                      obtain ⟨k, hk⟩ : ∃ k, k = xn % ps'.length := ⟨_, rfl⟩
                      have hkl : k < ps'.length := by rw [hk]; exact Nat.mod_lt _ hlen
                      have hm1 : (xn : Int).tmod (ps'.length : Int) = (k : Int) := by rw [hk]; rfl
                      have hm2 : (xn : Int) % (ps'.length : Int) = (k : Int) := by rw [hk]; exact (Int.natCast_emod xn ps'.length).symm
                      have hz1 : ((ps'.length : Int) == 0) = false := by rw [beq_eq_false_iff_ne]; omega
                      have hz2 : ¬ ((ps'.length : Int) = 0) := by omega
                      have HKL := Lib.hid hkl
                      clear hk
                      go_wp2_with (first
                        | (refine wpList_store2 rfl 51 size51 (.tmp 6) (.tmp 91) rfl w2.heap.size _ _ _ _ rfl rfl rfl rfl r6 ?_; intro wG hrG honG; have KG := Lib.hid (K9.out.put honG hrG HSW.out); clear honG hrG; have KGb := ((KG.out.bel.cell (p := ⟨db, dof + t, none⟩) HDB.out).trans HDC.out)))
                      obtain ⟨m2, C2, hDR, hKD⟩ := keep_drop HKP9.out HKL.out
                      have hck65 := (keep_num HKP9.out _ (kept_mem HKL.out)).2
                      obtain ⟨ck, hck⟩ : ∃ ck, (ps'.getD k ([], [])).1 = ck := ⟨_, rfl⟩
                      rw [hck] at hDR hck65
                      obtain ⟨nk, hnk⟩ : ∃ nk, ck.length = nk := ⟨_, rfl⟩
                      rw [hnk] at hck65
                      have HDRP := Lib.hid hDR
                      have HKD := Lib.hid hKD
                      have HNK := Lib.hid hnk
                      obtain ⟨vs0, own80, inn0⟩ := KG.out.chs
                      rw [List.length_map] at own80
                      obtain ⟨g8, rfl, hg8⟩ := rows_some own80 hlen
                      have hvl : vs0.length = ps'.length := by have := own80.1; omega
                      obtain ⟨so, scap, hv, hsn⟩ := inn0 k (by rw [List.length_map]; exact HKL.out)
                      have hck2 : (ps'.map (fun p : Slots × List UInt8 => p.1)).getD k [] = ck := by
                        rw [List.getD_eq_getElem?_getD, List.getElem?_map, ← hck, List.getD_eq_getElem?_getD, List.getElem?_eq_getElem HKL.out]
                        rfl
                      rw [hck2] at hv hsn
                      have hcell : wG.cell? ⟨g8, k, none⟩ = some (.slice so nk scap) := by
                        have := World.ownsRow.cellAt own80 k (by have := HKL.out; omega)
                        rw [this, ← hnk, ← hv, List.getD_eq_getElem?_getD, List.getElem?_eq_getElem (by have := HKL.out; omega)]
                        rfl
                      have HG8 := Lib.hid hg8
                      have HCE := Lib.hid hcell
                      have HSD : Hid (∀ w', Below wG.heap.size wG w' → w'.cell? ⟨w2.heap.size, 0, none⟩ = some (.slice aoA 20 capA) ∧ w'.cell? ⟨w2.heap.size, 1, none⟩ = some (.string (strB C)) ∧ w'.cell? ⟨g8, k, none⟩ = some (.slice so nk scap)) := fun w' hb => ⟨(KG.out.box.below hb KG.out.box.lt).c0, (KG.out.box.below hb KG.out.box.lt).c1, (hb.cell (p := ⟨g8, k, none⟩) HG8.out).trans HCE.out⟩
                      have hki : (k : Int) < (ps'.length : Int) := by have := HKL.out; omega
                      clear hDR hKD hck hnk hck2 hv hcell hg8 own80 inn0 hvl
                      go_cut [15, 16] from 55 to 148 (fun p g wx => ∃ (bU : Nat) (aoU : Option Addr) (capU : Nat), p = .pointer (some ⟨bU, 0, none⟩) ∧ g = .int .i64 0 ∧ Below wG.heap.size wG wx ∧ Row2 wx bU 51 (.slice aoU 20 capU) (.string (strB C2)) ∧ SegNew wx w3.heap.size aoU capU m2)
                      case first =>
                        have B0 := (Below.refl wG.heap.size wG).drew
                        refine wp_region_held_drew (S := fun w' => w'.cell? ⟨w2.heap.size, 0, none⟩ = some (.slice aoA 20 capA) ∧ w'.cell? ⟨w2.heap.size, 1, none⟩ = some (.string (strB C)) ∧ w'.cell? ⟨g8, k, none⟩ = some (.slice so nk scap)) (by kernel_rfl) (HSD.out _ B0) (fun hHeld => ?_)
                        generalize wG.drew = v0 at *
                        refine wpAnyH_take (i := 0) (v := ?_) (by simp only [List.getElem?_toArray, List.getElem?_cons_succ, List.getElem?_cons_zero]; rfl) (by kernel_rfl) (by kernel_rfl) (by kernel_rfl) (by intro _ _ _ h; exact h) (Or.inl ⟨by rfl, ?_⟩) (by assumption) ?_
                        rotate_left
                        · intro w' hSw
                          obtain ⟨s0, s1, s2⟩ := hSw
                          go_simp
                          try with_reducible rfl
                        try simp only [Act.put, List.setIfInBounds_toArray, List.set_cons_zero, List.set_cons_succ]
                        refine wpAnyH_take (i := 1) (v := ?_) (by simp only [List.getElem?_toArray, List.getElem?_cons_succ, List.getElem?_cons_zero]; rfl) (by kernel_rfl) (by kernel_rfl) (by kernel_rfl) (by intro _ _ _ h; exact h) (Or.inl ⟨by rfl, ?_⟩) (by assumption) ?_
                        rotate_left
                        · intro w' hSw
                          obtain ⟨s0, s1, s2⟩ := hSw
                          go_simp
                          try with_reducible rfl
                        try simp only [Act.put, List.setIfInBounds_toArray, List.set_cons_zero, List.set_cons_succ]
                        refine wpAnyH_take (i := 2) (v := ?_) (by simp only [List.getElem?_toArray, List.getElem?_cons_succ, List.getElem?_cons_zero]; rfl) (by kernel_rfl) (by kernel_rfl) (by kernel_rfl) (by intro _ _ _ h; exact h) (Or.inl ⟨by rfl, ?_⟩) (by assumption) ?_
                        rotate_left
                        · intro w' hSw
                          obtain ⟨s0, s1, s2⟩ := hSw
                          go_simp
                          try with_reducible rfl
                        try simp only [Act.put, List.setIfInBounds_toArray, List.set_cons_zero, List.set_cons_succ]
                        refine wpAnyH_take (i := 3) (v := ?_) (by simp only [List.getElem?_toArray, List.getElem?_cons_succ, List.getElem?_cons_zero]; rfl) (by kernel_rfl) (by kernel_rfl) (by kernel_rfl) (by intro _ _ _ h; exact h) (Or.inl ⟨by rfl, ?_⟩) (by assumption) ?_
                        rotate_left
                        · intro w' hSw
                          obtain ⟨s0, s1, s2⟩ := hSw
                          go_simp
                          try with_reducible rfl
                        try simp only [Act.put, List.setIfInBounds_toArray, List.set_cons_zero, List.set_cons_succ]
                        refine wpAnyH_take (i := 4) (v := ?_) (by simp only [List.getElem?_toArray, List.getElem?_cons_succ, List.getElem?_cons_zero]; rfl) (by kernel_rfl) (by kernel_rfl) (by kernel_rfl) (by intro _ _ _ h; exact h) (Or.inl ⟨by rfl, ?_⟩) (by assumption) ?_
                        rotate_left
                        · intro w' hSw
                          obtain ⟨s0, s1, s2⟩ := hSw
                          go_simp
                          try with_reducible rfl
                        try simp only [Act.put, List.setIfInBounds_toArray, List.set_cons_zero, List.set_cons_succ]
                        refine wpAnyH_ready (rs := [5, 9]) (by kernel_rfl) (by simp) ?_
                        refine AllReadyH.cons (by simp only [List.getElem?_toArray, List.getElem?_cons_succ, List.getElem?_cons_zero]; rfl) (fun K hK => ?_) ?_
                        · skip
                          have sgS := KG.out.seg.below B0
                          have slS := (hsn.below B0).at
                          go_simp
                          refine (Drop_lit 20 nk m m2 C C2 ck 0 aoA capA so scap v0 HDRP.out HML.out HKD.out.len HNK.out (by omega) HKP9.out.ok.ok.wf sgS.at sgS.nil slS (by omega)).mono ?_
                          rintro e wA ⟨⟨aoU, capU, rfl, sgA⟩, hbA⟩
                          have BFA := B0.link hbA
                          go_wp2_with fail
                          refine hK.out _ _ (HSD.out _ BFA) (fun hHeld => ?_)
                          clear hK
                          try simp only [Act.put, List.setIfInBounds_toArray, List.set_cons_zero, List.set_cons_succ]
                          refine wpAnyH_take (i := 6) (v := ?_) (by simp only [List.getElem?_toArray, List.getElem?_cons_succ, List.getElem?_cons_zero]; rfl) (by kernel_rfl) (by kernel_rfl) (by kernel_rfl) (by intro _ _ _ h; exact h) (Or.inl ⟨by rfl, ?_⟩) (by assumption) ?_
                          rotate_left
                          · intro w' hSw
                            obtain ⟨s0, s1, s2⟩ := hSw
                            go_simp
                            try with_reducible rfl
                          try simp only [Act.put, List.setIfInBounds_toArray, List.set_cons_zero, List.set_cons_succ]
                          refine wpAnyH_take (i := 7) (v := ?_) (by simp only [List.getElem?_toArray, List.getElem?_cons_succ, List.getElem?_cons_zero]; rfl) (by kernel_rfl) (by kernel_rfl) (by kernel_rfl) (by intro _ _ _ h; exact h) (Or.inl ⟨by rfl, ?_⟩) (by assumption) ?_
                          rotate_left
                          · intro w' hSw
                            obtain ⟨s0, s1, s2⟩ := hSw
                            go_simp
                            try with_reducible rfl
                          try simp only [Act.put, List.setIfInBounds_toArray, List.set_cons_zero, List.set_cons_succ]
                          refine wpAnyH_take (i := 8) (v := ?_) (by simp only [List.getElem?_toArray, List.getElem?_cons_succ, List.getElem?_cons_zero]; rfl) (by kernel_rfl) (by kernel_rfl) (by kernel_rfl) (by intro _ _ _ h; exact h) (Or.inl ⟨by rfl, ?_⟩) (by assumption) ?_
                          rotate_left
                          · intro w' hSw
                            obtain ⟨s0, s1, s2⟩ := hSw
                            go_simp
                            try with_reducible rfl
                          try simp only [Act.put, List.setIfInBounds_toArray, List.set_cons_zero, List.set_cons_succ]
                          refine wpAnyH_ready (rs := [9]) (by kernel_rfl) (by simp) ?_
                          refine AllReadyH.cons (by simp only [List.getElem?_toArray, List.getElem?_cons_succ, List.getElem?_cons_zero]; rfl) (fun K hK => ?_) AllReadyH.nil
                          have sgX := sgA.below ((Below.refl _ wA).alloc (Nat.le_refl _) (.cells #[.slice none 0 0, .string ⟨#[]⟩] 51))
                          have sgB := sgA
                          have rowE := Row2.new wA 51 (.slice none 0 0) (.string ⟨#[]⟩)
                          have BFE := BFA.alloc BFA.size (.cells #[.slice none 0 0, .string ⟨#[]⟩] 51)
                          go_simp
                          obtain ⟨wE, hwE⟩ : ∃ wE, wE = (wA.alloc (.cells #[.slice none 0 0, .string ⟨#[]⟩] 51)) := ⟨_, rfl⟩
                          rw [← hwE] at rowE BFE sgX ⊢
                          clear hwE
                          refine hK.out _ _ (HSD.out _ BFE) (fun hHeld => ?_)
                          clear hK
                          try simp only [Act.put, List.setIfInBounds_toArray, List.set_cons_zero, List.set_cons_succ]
                          have rowX := rowE
                          refine wpAnyH_ready (rs := [10]) (by kernel_rfl) (by simp) ?_
                          refine AllReadyH.cons (by simp only [List.getElem?_toArray, List.getElem?_cons_succ, List.getElem?_cons_zero]; rfl) (fun K hK => ?_) AllReadyH.nil
                          refine step_store2 rfl 51 size51 (.tmp 15) (.tmp 124) rfl (wA.heap.size) (.slice aoU 20 capU) (.string (strB C2)) _ _ rfl rfl rfl rfl rowX ?_
                          intro wU hrU honU
                          have ltX := rowX.lt
                          have BU : Below wG.heap.size wG wU := honU.below BFE (by first | exact Nat.le_refl _ | exact BFA.size)
                          have sgU : SegNew wU w3.heap.size aoU capU m2 := (sgX.same (fun kk off e => honU.heap kk (by have := sgB.blk kk off e; omega))).mono (by have := KG.out.low; have := B0.size; omega)
                          refine hK.out _ _ (HSD.out _ BU) (fun hHeld => ?_)
                          clear hK
                          try simp only [Act.put, List.setIfInBounds_toArray, List.set_cons_zero, List.set_cons_succ]
                          refine wpAnyH_take (i := 11) (v := ?_) (by simp only [List.getElem?_toArray, List.getElem?_cons_succ, List.getElem?_cons_zero]; rfl) (by kernel_rfl) (by kernel_rfl) (by kernel_rfl) (by intro _ _ _ h; exact h) (Or.inl ⟨by rfl, ?_⟩) (by assumption) ?_
                          rotate_left
                          · intro w' hSw
                            obtain ⟨s0, s1, s2⟩ := hSw
                            go_simp
                            try with_reducible rfl
                          try simp only [Act.put, List.setIfInBounds_toArray, List.set_cons_zero, List.set_cons_succ]
                          refine wpAnyH_done (by kernel_rfl) ?_ _
                          go_wp2_with fail
                          go_meet
                          exact ⟨_, aoU, capU, rfl, rfl, BU, hrU, sgU⟩
                        · skip
                          refine AllReadyH.cons (by simp only [List.getElem?_toArray, List.getElem?_cons_succ, List.getElem?_cons_zero]; rfl) (fun K hK => ?_) AllReadyH.nil
                          have rowE := Row2.new v0 51 (.slice none 0 0) (.string ⟨#[]⟩)
                          have BFE := B0.alloc B0.size (.cells #[.slice none 0 0, .string ⟨#[]⟩] 51)
                          go_simp
                          obtain ⟨wE, hwE⟩ : ∃ wE, wE = (v0.alloc (.cells #[.slice none 0 0, .string ⟨#[]⟩] 51)) := ⟨_, rfl⟩
                          rw [← hwE] at rowE BFE ⊢
                          clear hwE
                          refine hK.out _ _ (HSD.out _ BFE) (fun hHeld => ?_)
                          clear hK
                          try simp only [Act.put, List.setIfInBounds_toArray, List.set_cons_zero, List.set_cons_succ]
                          refine wpAnyH_ready (rs := [5]) (by kernel_rfl) (by simp) ?_
                          refine AllReadyH.cons (by simp only [List.getElem?_toArray, List.getElem?_cons_succ, List.getElem?_cons_zero]; rfl) (fun K hK => ?_) AllReadyH.nil
                          have ltE := rowE.lt
                          have sgS := KG.out.seg.below BFE
                          have slS := (hsn.below BFE).at
                          go_simp
                          refine (Drop_lit 20 nk m m2 C C2 ck 0 aoA capA so scap wE HDRP.out HML.out HKD.out.len HNK.out (by omega) HKP9.out.ok.ok.wf sgS.at sgS.nil slS (by omega)).mono ?_
                          rintro e wA ⟨⟨aoU, capU, rfl, sgA⟩, hbA⟩
                          have BFA := BFE.link hbA
                          go_wp2_with fail
                          refine hK.out _ _ (HSD.out _ BFA) (fun hHeld => ?_)
                          clear hK
                          try simp only [Act.put, List.setIfInBounds_toArray, List.set_cons_zero, List.set_cons_succ]
                          have sgX := sgA
                          have sgB := sgA
                          have rowX := rowE.below hbA rowE.lt
                          refine wpAnyH_take (i := 6) (v := ?_) (by simp only [List.getElem?_toArray, List.getElem?_cons_succ, List.getElem?_cons_zero]; rfl) (by kernel_rfl) (by kernel_rfl) (by kernel_rfl) (by intro _ _ _ h; exact h) (Or.inl ⟨by rfl, ?_⟩) (by assumption) ?_
                          rotate_left
                          · intro w' hSw
                            obtain ⟨s0, s1, s2⟩ := hSw
                            go_simp
                            try with_reducible rfl
                          try simp only [Act.put, List.setIfInBounds_toArray, List.set_cons_zero, List.set_cons_succ]
                          refine wpAnyH_take (i := 7) (v := ?_) (by simp only [List.getElem?_toArray, List.getElem?_cons_succ, List.getElem?_cons_zero]; rfl) (by kernel_rfl) (by kernel_rfl) (by kernel_rfl) (by intro _ _ _ h; exact h) (Or.inl ⟨by rfl, ?_⟩) (by assumption) ?_
                          rotate_left
                          · intro w' hSw
                            obtain ⟨s0, s1, s2⟩ := hSw
                            go_simp
                            try with_reducible rfl
                          try simp only [Act.put, List.setIfInBounds_toArray, List.set_cons_zero, List.set_cons_succ]
                          refine wpAnyH_take (i := 8) (v := ?_) (by simp only [List.getElem?_toArray, List.getElem?_cons_succ, List.getElem?_cons_zero]; rfl) (by kernel_rfl) (by kernel_rfl) (by kernel_rfl) (by intro _ _ _ h; exact h) (Or.inl ⟨by rfl, ?_⟩) (by assumption) ?_
                          rotate_left
                          · intro w' hSw
                            obtain ⟨s0, s1, s2⟩ := hSw
                            go_simp
                            try with_reducible rfl
                          try simp only [Act.put, List.setIfInBounds_toArray, List.set_cons_zero, List.set_cons_succ]
                          refine wpAnyH_ready (rs := [10]) (by kernel_rfl) (by simp) ?_
                          refine AllReadyH.cons (by simp only [List.getElem?_toArray, List.getElem?_cons_succ, List.getElem?_cons_zero]; rfl) (fun K hK => ?_) AllReadyH.nil
                          refine step_store2 rfl 51 size51 (.tmp 15) (.tmp 124) rfl (v0.heap.size) (.slice aoU 20 capU) (.string (strB C2)) _ _ rfl rfl rfl rfl rowX ?_
                          intro wU hrU honU
                          have ltX := rowX.lt
                          have BU : Below wG.heap.size wG wU := honU.below BFA (by first | exact Nat.le_refl _ | exact B0.size)
                          have sgU : SegNew wU w3.heap.size aoU capU m2 := (sgX.same (fun kk off e => honU.heap kk (by have := sgB.blk kk off e; omega))).mono (by have := KG.out.low; have := BFE.size; omega)
                          refine hK.out _ _ (HSD.out _ BU) (fun hHeld => ?_)
                          clear hK
                          try simp only [Act.put, List.setIfInBounds_toArray, List.set_cons_zero, List.set_cons_succ]
                          refine wpAnyH_take (i := 11) (v := ?_) (by simp only [List.getElem?_toArray, List.getElem?_cons_succ, List.getElem?_cons_zero]; rfl) (by kernel_rfl) (by kernel_rfl) (by kernel_rfl) (by intro _ _ _ h; exact h) (Or.inl ⟨by rfl, ?_⟩) (by assumption) ?_
                          rotate_left
                          · intro w' hSw
                            obtain ⟨s0, s1, s2⟩ := hSw
                            go_simp
                            try with_reducible rfl
                          try simp only [Act.put, List.setIfInBounds_toArray, List.set_cons_zero, List.set_cons_succ]
                          refine wpAnyH_done (by kernel_rfl) ?_ _
                          go_wp2_with fail
                          go_meet
                          exact ⟨_, aoU, capU, rfl, rfl, BU, hrU, sgU⟩
                      case rest =>
                        obtain ⟨bU, aoU, capU, rfl, rfl, hbU, hrU, hsU⟩ := hcut
                        have KU := KG.out.below hbU
                        have r6U := KU.box
                        have u0 := hrU.c0
                        have u1 := hrU.c1
                        have HSU := Lib.hid hsU
                        have KU := Lib.hid KU
                        clear hsU hbU hrU
                        go_wp2_with (first
                          | (refine wpList_store2 rfl 51 size51 (.tmp 6) (.tmp 128) rfl w2.heap.size _ _ _ _ rfl rfl rfl rfl r6U ?_; intro wJ hrJ honJ; have KJ := Lib.hid (KU.out.put honJ hrJ HSU.out); clear hrJ honJ))
                        have hjA : (0 : Int) ≤ (k : Int) + 1 := by omega
                        have hjB : (k : Int) + 1 ≤ (ps'.length : Int) := by omega
                        have hkn : k < ps'.length := HKL.out
                        have hps31 : ps'.length ≤ 31 := by have := HPS9.out; omega
                        obtain ⟨vs, own8, inn8⟩ := KJ.out.chs
                        rw [List.length_map] at own8
                        have hvl : vs.length = ps'.length := by have := own8.1; omega
                        have vone := vs_one (by rw [List.length_map]; exact hvl) inn8
                        have capP : ps'.length ≤ cc8' := by
                          rcases own8.2 with ⟨h, _⟩ | ⟨g, cap, cur, h, _, _, h2, _⟩
                          · cases h
                          · simp only [Value.slice.injEq] at h
                            omega
                        have hkc8 : k ≤ cc8' := by omega
                        have hwr : IntKind.i64.wrap ((k : Int) + 1) = (k : Int) + 1 := IntWalk.i64_in _ (by omega)
                        have htn1 : ((k : Int) + 1).toNat = k + 1 := by omega
                        refine wp_region_held_drew (S := fun _ => True) (by kernel_rfl) trivial (fun hHeld => ?_)
                        have KVP := KJ.out.below ((Below.refl _ _).drew)
                        have ownP := own_below own8 ((Below.refl _ _).drew)
                        have innP := fun i hi => (inn8 i hi).below ((Below.refl _ _).drew)
                        generalize World.drew _ = vP at *
                        refine wpAnyH_take (i := 1) (v := ?_) (by simp only [List.getElem?_toArray, List.getElem?_cons_succ, List.getElem?_cons_zero]; rfl) (by kernel_rfl) (by kernel_rfl) (by kernel_rfl) (by intro _ _ _ h; exact h) (Or.inl ⟨by rfl, ?_⟩) (by assumption) ?_
                        rotate_left
                        · intro w' hSw
                          obtain _ := hSw
                          go_simp
                          try with_reducible rfl
                        try simp only [Act.put, List.setIfInBounds_toArray, List.set_cons_zero, List.set_cons_succ]
                        refine wpAnyH_take (i := 2) (v := ?_) (by simp only [List.getElem?_toArray, List.getElem?_cons_succ, List.getElem?_cons_zero]; rfl) (by kernel_rfl) (by kernel_rfl) (by kernel_rfl) (by intro _ _ _ h; exact h) (Or.inl ⟨by rfl, ?_⟩) (by assumption) ?_
                        rotate_left
                        · intro w' hSw
                          obtain _ := hSw
                          go_simp
                          try with_reducible rfl
                        try simp only [Act.put, List.setIfInBounds_toArray, List.set_cons_zero, List.set_cons_succ]
                        refine wpAnyH_take (i := 3) (v := ?_) (by simp only [List.getElem?_toArray, List.getElem?_cons_succ, List.getElem?_cons_zero]; rfl) (by kernel_rfl) (by kernel_rfl) (by kernel_rfl) (by intro _ _ _ h; exact h) (Or.inl ⟨by rfl, ?_⟩) (by assumption) ?_
                        rotate_left
                        · intro w' hSw
                          obtain _ := hSw
                          go_simp
                          try with_reducible rfl
                        try simp only [Act.put, List.setIfInBounds_toArray, List.set_cons_zero, List.set_cons_succ]
                        refine wpAnyH_take (i := 5) (v := ?_) (by simp only [List.getElem?_toArray, List.getElem?_cons_succ, List.getElem?_cons_zero]; rfl) (by kernel_rfl) (by kernel_rfl) (by kernel_rfl) (by intro _ _ _ h; exact h) (Or.inl ⟨by rfl, ?_⟩) (by assumption) ?_
                        rotate_left
                        · intro w' hSw
                          obtain _ := hSw
                          go_simp
                          try with_reducible rfl
                        try simp only [Act.put, List.setIfInBounds_toArray, List.set_cons_zero, List.set_cons_succ]
                        refine wpAnyH_take (i := 6) (v := ?_) (by simp only [List.getElem?_toArray, List.getElem?_cons_succ, List.getElem?_cons_zero]; rfl) (by kernel_rfl) (by kernel_rfl) (by kernel_rfl) (by intro _ _ _ h; exact h) (Or.inl ⟨by rfl, ?_⟩) (by assumption) ?_
                        rotate_left
                        · intro w' hSw
                          obtain _ := hSw
                          go_simp
                          try with_reducible rfl
                        try simp only [Act.put, List.setIfInBounds_toArray, List.set_cons_zero, List.set_cons_succ]
                        refine wpAnyH_take (i := 7) (v := ?_) (by simp only [List.getElem?_toArray, List.getElem?_cons_succ, List.getElem?_cons_zero]; rfl) (by kernel_rfl) (by kernel_rfl) (by kernel_rfl) (by intro _ _ _ h; exact h) (Or.inl ⟨by rfl, ?_⟩) (by assumption) ?_
                        rotate_left
                        · intro w' hSw
                          obtain _ := hSw
                          go_simp
                          try with_reducible rfl
                        try simp only [Act.put, List.setIfInBounds_toArray, List.set_cons_zero, List.set_cons_succ]
                        refine wpAnyH_take (i := 8) (v := ?_) (by simp only [List.getElem?_toArray, List.getElem?_cons_succ, List.getElem?_cons_zero]; rfl) (by kernel_rfl) (by kernel_rfl) (by kernel_rfl) (by intro _ _ _ h; exact h) (Or.inl ⟨by rfl, ?_⟩) (by assumption) ?_
                        rotate_left
                        · intro w' hSw
                          obtain _ := hSw
                          go_simp
                          try with_reducible rfl
                        try simp only [Act.put, List.setIfInBounds_toArray, List.set_cons_zero, List.set_cons_succ]
                        refine wpAnyH_ready (rs := [0]) (by kernel_rfl) (by simp) ?_
                        refine AllReadyH.cons (by simp only [List.getElem?_toArray, List.getElem?_cons_succ, List.getElem?_cons_zero]; rfl) (fun K hK => ?_) AllReadyH.nil
                        have litP := World.ownsRow_lit (base := w3.heap.size) (e := 39) (size := 1) vP #[] 0 KVP.low (by unfold maxLen; omega) rfl
                        have alP := (Below.refl _ vP).alloc (Nat.le_refl _) (.cells #[] 39)
                        have KAP := KVP.below alP
                        have ownAP := own_below ownP alP
                        have ltgP := (World.ownsRow.lt ownP g8 rfl).2
                        have innAP := fun i hi => (innP i hi).below alP
                        go_simp
                        obtain ⟨waP, hwaP⟩ : ∃ wa, wa = vP.alloc (.cells #[] 39) := ⟨_, rfl⟩
                        rw [← hwaP] at litP KAP ownAP innAP ⊢
                        clear hwaP
                        refine hK.out _ _ trivial (fun hHeld => ?_)
                        clear hK
                        try simp only [Act.put, List.setIfInBounds_toArray, List.set_cons_zero, List.set_cons_succ]
                        refine wpAnyH_ready (rs := [4]) (by kernel_rfl) (by simp) ?_
                        refine AllReadyH.cons (by simp only [List.getElem?_toArray, List.getElem?_cons_succ, List.getElem?_cons_zero]; rfl) (fun K hK => ?_) AllReadyH.nil
                        refine step_row 67 39 1 24 (.slice none 0 0) und67 info39 rfl (by decide) (by decide) rfl (.tmp 129) (.tmp 132) rfl w3.heap.size (.slice (some ⟨vP.heap.size, 0, none⟩) 0 0) 0 [] rfl litP ⟨g8, 0, none⟩ k cc8' (vs.take k) rfl (by rw [List.length_take]; omega) (row_first ownAP k) (fun u hu => vone u (List.mem_of_mem_take hu)) (by omega) KAP.low ?_
                        intro aobP capbP wbP ownbP grbP hbbP
                        have neP : (Value.slice (some ⟨g8, 0, none⟩) ps'.length cc8').ownBlock = none ∨ (Value.slice (some ⟨g8, 0, none⟩) ps'.length cc8').ownBlock ≠ (Value.slice (some ⟨vP.heap.size, 0, none⟩) 0 0).ownBlock := .inr (fun h => by have h2 : g8 = vP.heap.size := Option.some.inj h; omega)
                        have KBP := KAP.kept litP (by decide) (by decide) (by decide) neP (own_ne KAP.dat litP (by decide)) grbP hbbP
                        have ownBP := ownAP.kept grbP neP
                        have innBP := fun i hi => (innAP i hi).grown litP (by decide) grbP
                        obtain ⟨taP, htaP⟩ : ∃ ta, (if cc8' = k + 1 then some (⟨g8, 0, none⟩ : Addr) else some ⟨g8, k + 1, none⟩) = some ta := by split <;> exact ⟨_, rfl⟩
                        have hnewsP : ∀ q u, (vs.drop (k + 1))[q]? = some u → wbP.cell? (taP.add q) = some u := by
                          have h := htaP
                          split at h
                          · rename_i hcc
                            intro q u hu
                            rw [List.drop_eq_nil_of_le (by have := capP; omega)] at hu
                            simp at hu
                          · cases h
                            exact row_behind ownBP (k + 1)
                        refine hK.out _ _ trivial (fun hHeld => ?_)
                        clear hK
                        try simp only [Act.put, List.setIfInBounds_toArray, List.set_cons_zero, List.set_cons_succ]
                        refine wpAnyH_ready (rs := [9]) (by kernel_rfl) (by simp) ?_
                        refine AllReadyH.cons (by simp only [List.getElem?_toArray, List.getElem?_cons_succ, List.getElem?_cons_zero]; rfl) (fun K hK => ?_) AllReadyH.nil
                        refine step_row 67 39 1 24 (.slice none 0 0) und67 info39 rfl (by decide) (by decide) rfl (.tmp 133) (.tmp 137) rfl w3.heap.size _ (0 + k) _ rfl ownbP taP (ps'.length - (k + 1)) (cc8' - (k + 1)) (vs.drop (k + 1)) (by first | rfl | exact congrArg (fun z => Value.slice z _ _) htaP) (by rw [List.length_drop]; omega) hnewsP (fun u hu => vone u (List.mem_of_mem_drop hu)) (by omega) KBP.low ?_
                        intro aocP capcP wcP owncP grcP hbcP
                        have hcP : ChainsNew wcP w3.heap.size (.slice aocP (0 + k + (ps'.length - (k + 1))) capcP) ((ps'.map (fun p : Slots × List UInt8 => p.1)).take k ++ (ps'.map (fun p : Slots × List UInt8 => p.1)).drop (k + 1)) := by
                          have hlen2 : ((ps'.map (fun p : Slots × List UInt8 => p.1)).take k ++ (ps'.map (fun p : Slots × List UInt8 => p.1)).drop (k + 1)).length = 0 + k + (ps'.length - (k + 1)) := by rw [List.length_append, List.length_take, List.length_drop, List.length_map]; omega
                          refine ⟨[] ++ vs.take k ++ vs.drop (k + 1), by rw [hlen2]; exact owncP, ?_⟩
                          rw [List.nil_append]
                          refine rm_inner (by rw [List.length_map]; exact hvl) (by rw [List.length_map]; exact hkn) (fun i hi => ?_)
                          exact (innBP i hi).grown ownbP (by decide) grcP
                        have KC := Lib.hid (KBP.chain2 ownbP hcP grcP hbcP)
                        refine hK.out _ _ trivial (fun hHeld => ?_)
                        clear hK
                        try simp only [Act.put, List.setIfInBounds_toArray, List.set_cons_zero, List.set_cons_succ]
                        refine wpAnyH_take (i := 10) (v := ?_) (by simp only [List.getElem?_toArray, List.getElem?_cons_succ, List.getElem?_cons_zero]; rfl) (by kernel_rfl) (by kernel_rfl) (by kernel_rfl) (by intro _ _ _ h; exact h) (Or.inl ⟨by rfl, ?_⟩) (by assumption) ?_
                        rotate_left
                        · intro w' hSw
                          obtain _ := hSw
                          go_simp
                          try with_reducible rfl
                        try simp only [Act.put, List.setIfInBounds_toArray, List.set_cons_zero, List.set_cons_succ]
                        refine wpAnyH_done (by kernel_rfl) ?_ _
                        have own9 := KC.out.dat
                        unfold TextsNew at own9
                        rw [List.length_map] at own9
                        obtain ⟨g9, rfl, hg9⟩ := rows_some own9 (by omega)
                        have tone := tx_one (ps'.map (fun p : Slots × List UInt8 => p.2))
                        obtain ⟨ts, hts⟩ : ∃ ts, txC (ps'.map (fun p : Slots × List UInt8 => p.2)) = ts := ⟨_, rfl⟩
                        rw [hts] at own9 tone
                        have HTS := Lib.hid hts
                        have htl : ts.length = ps'.length := by have := own9.1; omega
                        have capQ : ps'.length ≤ cc9' := by
                          rcases own9.2 with ⟨h, _⟩ | ⟨g, cap, cur, h, _, _, h2, _⟩
                          · cases h
                          · simp only [Value.slice.injEq] at h
                            omega
                        clear hts
                        have hkc9 : k ≤ cc9' := by omega
                        go_wp2_with fail
                        refine wp_region_held_drew (S := fun _ => True) (by kernel_rfl) trivial (fun hHeld => ?_)
                        have KVQ := KC.out.below ((Below.refl _ _).drew)
                        have ownQ := own_below own9 ((Below.refl _ _).drew)
                        generalize World.drew _ = vQ at *
                        refine wpAnyH_take (i := 1) (v := ?_) (by simp only [List.getElem?_toArray, List.getElem?_cons_succ, List.getElem?_cons_zero]; rfl) (by kernel_rfl) (by kernel_rfl) (by kernel_rfl) (by intro _ _ _ h; exact h) (Or.inl ⟨by rfl, ?_⟩) (by assumption) ?_
                        rotate_left
                        · intro w' hSw
                          obtain _ := hSw
                          go_simp
                          try with_reducible rfl
                        try simp only [Act.put, List.setIfInBounds_toArray, List.set_cons_zero, List.set_cons_succ]
                        refine wpAnyH_take (i := 2) (v := ?_) (by simp only [List.getElem?_toArray, List.getElem?_cons_succ, List.getElem?_cons_zero]; rfl) (by kernel_rfl) (by kernel_rfl) (by kernel_rfl) (by intro _ _ _ h; exact h) (Or.inl ⟨by rfl, ?_⟩) (by assumption) ?_
                        rotate_left
                        · intro w' hSw
                          obtain _ := hSw
                          go_simp
                          try with_reducible rfl
                        try simp only [Act.put, List.setIfInBounds_toArray, List.set_cons_zero, List.set_cons_succ]
                        refine wpAnyH_take (i := 3) (v := ?_) (by simp only [List.getElem?_toArray, List.getElem?_cons_succ, List.getElem?_cons_zero]; rfl) (by kernel_rfl) (by kernel_rfl) (by kernel_rfl) (by intro _ _ _ h; exact h) (Or.inl ⟨by rfl, ?_⟩) (by assumption) ?_
                        rotate_left
                        · intro w' hSw
                          obtain _ := hSw
                          go_simp
                          try with_reducible rfl
                        try simp only [Act.put, List.setIfInBounds_toArray, List.set_cons_zero, List.set_cons_succ]
                        refine wpAnyH_take (i := 5) (v := ?_) (by simp only [List.getElem?_toArray, List.getElem?_cons_succ, List.getElem?_cons_zero]; rfl) (by kernel_rfl) (by kernel_rfl) (by kernel_rfl) (by intro _ _ _ h; exact h) (Or.inl ⟨by rfl, ?_⟩) (by assumption) ?_
                        rotate_left
                        · intro w' hSw
                          obtain _ := hSw
                          go_simp
                          try with_reducible rfl
                        try simp only [Act.put, List.setIfInBounds_toArray, List.set_cons_zero, List.set_cons_succ]
                        refine wpAnyH_take (i := 6) (v := ?_) (by simp only [List.getElem?_toArray, List.getElem?_cons_succ, List.getElem?_cons_zero]; rfl) (by kernel_rfl) (by kernel_rfl) (by kernel_rfl) (by intro _ _ _ h; exact h) (Or.inl ⟨by rfl, ?_⟩) (by assumption) ?_
                        rotate_left
                        · intro w' hSw
                          obtain _ := hSw
                          go_simp
                          try with_reducible rfl
                        try simp only [Act.put, List.setIfInBounds_toArray, List.set_cons_zero, List.set_cons_succ]
                        refine wpAnyH_take (i := 7) (v := ?_) (by simp only [List.getElem?_toArray, List.getElem?_cons_succ, List.getElem?_cons_zero]; rfl) (by kernel_rfl) (by kernel_rfl) (by kernel_rfl) (by intro _ _ _ h; exact h) (Or.inl ⟨by rfl, ?_⟩) (by assumption) ?_
                        rotate_left
                        · intro w' hSw
                          obtain _ := hSw
                          go_simp
                          try with_reducible rfl
                        try simp only [Act.put, List.setIfInBounds_toArray, List.set_cons_zero, List.set_cons_succ]
                        refine wpAnyH_take (i := 8) (v := ?_) (by simp only [List.getElem?_toArray, List.getElem?_cons_succ, List.getElem?_cons_zero]; rfl) (by kernel_rfl) (by kernel_rfl) (by kernel_rfl) (by intro _ _ _ h; exact h) (Or.inl ⟨by rfl, ?_⟩) (by assumption) ?_
                        rotate_left
                        · intro w' hSw
                          obtain _ := hSw
                          go_simp
                          try with_reducible rfl
                        try simp only [Act.put, List.setIfInBounds_toArray, List.set_cons_zero, List.set_cons_succ]
                        refine wpAnyH_ready (rs := [0]) (by kernel_rfl) (by simp) ?_
                        refine AllReadyH.cons (by simp only [List.getElem?_toArray, List.getElem?_cons_succ, List.getElem?_cons_zero]; rfl) (fun K hK => ?_) AllReadyH.nil
                        have litQ := World.ownsRow_lit (base := w3.heap.size) (e := 9) (size := 1) vQ #[] 0 KVQ.low (by unfold maxLen; omega) rfl
                        have alQ := (Below.refl _ vQ).alloc (Nat.le_refl _) (.cells #[] 9)
                        have KAQ := KVQ.below alQ
                        have ownAQ := own_below ownQ alQ
                        have ltgQ := (World.ownsRow.lt ownQ g9 rfl).2
                        go_simp
                        obtain ⟨waQ, hwaQ⟩ : ∃ wa, wa = vQ.alloc (.cells #[] 9) := ⟨_, rfl⟩
                        rw [← hwaQ] at litQ KAQ ownAQ ⊢
                        clear hwaQ
                        refine hK.out _ _ trivial (fun hHeld => ?_)
                        clear hK
                        try simp only [Act.put, List.setIfInBounds_toArray, List.set_cons_zero, List.set_cons_succ]
                        refine wpAnyH_ready (rs := [4]) (by kernel_rfl) (by simp) ?_
                        refine AllReadyH.cons (by simp only [List.getElem?_toArray, List.getElem?_cons_succ, List.getElem?_cons_zero]; rfl) (fun K hK => ?_) AllReadyH.nil
                        refine step_row 65 9 1 16 (.string ⟨#[]⟩) und65 info9 rfl (by decide) (by decide) rfl (.tmp 139) (.tmp 142) rfl w3.heap.size (.slice (some ⟨vQ.heap.size, 0, none⟩) 0 0) 0 [] rfl litQ ⟨g9, 0, none⟩ k cc9' (ts.take k) rfl (by rw [List.length_take]; omega) (row_first ownAQ k) (fun u hu => tone u (List.mem_of_mem_take hu)) (by omega) KAQ.low ?_
                        intro aobQ capbQ wbQ ownbQ grbQ hbbQ
                        have neQ : (Value.slice (some ⟨g9, 0, none⟩) ps'.length cc9').ownBlock = none ∨ (Value.slice (some ⟨g9, 0, none⟩) ps'.length cc9').ownBlock ≠ (Value.slice (some ⟨vQ.heap.size, 0, none⟩) 0 0).ownBlock := .inr (fun h => by have h2 : g9 = vQ.heap.size := Option.some.inj h; omega)
                        have KBQ := KAQ.kept litQ (by decide) (by decide) (by decide) (by obtain ⟨_, o8, _⟩ := KAQ.chs; exact own_ne o8 litQ (by decide)) neQ grbQ hbbQ
                        have ownBQ := ownAQ.kept grbQ neQ
                        obtain ⟨taQ, htaQ⟩ : ∃ ta, (if cc9' = k + 1 then some (⟨g9, 0, none⟩ : Addr) else some ⟨g9, k + 1, none⟩) = some ta := by split <;> exact ⟨_, rfl⟩
                        have hnewsQ : ∀ q u, (ts.drop (k + 1))[q]? = some u → wbQ.cell? (taQ.add q) = some u := by
                          have h := htaQ
                          split at h
                          · rename_i hcc
                            intro q u hu
                            rw [List.drop_eq_nil_of_le (by have := capQ; omega)] at hu
                            simp at hu
                          · cases h
                            exact row_behind ownBQ (k + 1)
                        refine hK.out _ _ trivial (fun hHeld => ?_)
                        clear hK
                        try simp only [Act.put, List.setIfInBounds_toArray, List.set_cons_zero, List.set_cons_succ]
                        refine wpAnyH_ready (rs := [9]) (by kernel_rfl) (by simp) ?_
                        refine AllReadyH.cons (by simp only [List.getElem?_toArray, List.getElem?_cons_succ, List.getElem?_cons_zero]; rfl) (fun K hK => ?_) AllReadyH.nil
                        refine step_row 65 9 1 16 (.string ⟨#[]⟩) und65 info9 rfl (by decide) (by decide) rfl (.tmp 143) (.tmp 147) rfl w3.heap.size _ (0 + k) _ rfl ownbQ taQ (ps'.length - (k + 1)) (cc9' - (k + 1)) (ts.drop (k + 1)) (by first | rfl | exact congrArg (fun z => Value.slice z _ _) htaQ) (by rw [List.length_drop]; omega) hnewsQ (fun u hu => tone u (List.mem_of_mem_drop hu)) (by omega) KBQ.low ?_
                        intro aocQ capcQ wcQ owncQ grcQ hbcQ
                        have hcQ : TextsNew wcQ w3.heap.size (.slice aocQ (0 + k + (ps'.length - (k + 1))) capcQ) ((ps'.map (fun p : Slots × List UInt8 => p.2)).take k ++ (ps'.map (fun p : Slots × List UInt8 => p.2)).drop (k + 1)) := by
                          have hlen2 : ((ps'.map (fun p : Slots × List UInt8 => p.2)).take k ++ (ps'.map (fun p : Slots × List UInt8 => p.2)).drop (k + 1)).length = 0 + k + (ps'.length - (k + 1)) := by rw [List.length_append, List.length_take, List.length_drop, List.length_map]; omega
                          have e : txC ((ps'.map (fun p : Slots × List UInt8 => p.2)).take k ++ (ps'.map (fun p : Slots × List UInt8 => p.2)).drop (k + 1)) = [] ++ ts.take k ++ ts.drop (k + 1) := by
                            rw [← HTS.out]
                            unfold txC
                            rw [List.map_append, List.map_take, List.map_drop, List.nil_append]
                          unfold TextsNew
                          rw [hlen2, e]
                          exact owncQ
                        have KD := Lib.hid (KBQ.text2 ownbQ hcQ grcQ hbcQ)
                        refine hK.out _ _ trivial (fun hHeld => ?_)
                        clear hK
                        try simp only [Act.put, List.setIfInBounds_toArray, List.set_cons_zero, List.set_cons_succ]
                        refine wpAnyH_take (i := 10) (v := ?_) (by simp only [List.getElem?_toArray, List.getElem?_cons_succ, List.getElem?_cons_zero]; rfl) (by kernel_rfl) (by kernel_rfl) (by kernel_rfl) (by intro _ _ _ h; exact h) (Or.inl ⟨by rfl, ?_⟩) (by assumption) ?_
                        rotate_left
                        · intro w' hSw
                          obtain _ := hSw
                          go_simp
                          try with_reducible rfl
                        try simp only [Act.put, List.setIfInBounds_toArray, List.set_cons_zero, List.set_cons_succ]
                        refine wpAnyH_done (by kernel_rfl) ?_ _
                        have hnl : (ps'.take k ++ ps'.drop (k + 1)).length = 0 + k + (ps'.length - (k + 1)) := by rw [List.length_append, List.length_take, List.length_drop]; omega
                        have HFIN : Hid (BoxAt w w3.heap.size w2.heap.size (.slice aocP (ps'.take k ++ ps'.drop (k + 1)).length capcP) (.slice aocQ (ps'.take k ++ ps'.drop (k + 1)).length capcQ) m2 C2 ((ps'.take k ++ ps'.drop (k + 1) : Kept).map (fun p : Slots × List UInt8 => p.1)) ((ps'.take k ++ ps'.drop (k + 1) : Kept).map (fun p : Slots × List UInt8 => p.2)) aoU capU wcQ) := by
                          have h := KD.out
                          rw [← map_rm, ← map_rm, ← hnl] at h
                          exact h
                        go_wp2_with fail
                        go_roundw
                        case rel => (first
                          | exact ⟨t + 1, m2, C2, ps'.take k ++ ps'.drop (k + 1), aoU, capU, aocP, aocQ, capcP, capcQ, by have := HLT.out; omega, by go_num, by rw [hnl, Nat.zero_add], by rw [hnl, Nat.zero_add], HFIN.out, HKD.out, by rw [hnl]; have := HPS9.out; omega⟩
                          | ((repeat apply Exists.intro); exact ⟨⟨t + 1, m2, C2, ps'.take k ++ ps'.drop (k + 1), aoU, capU, aocP, aocQ, capcP, capcQ, by have := HLT.out; omega, by go_num, by rw [hnl, Nat.zero_add], by rw [hnl, Nat.zero_add], HFIN.out, HKD.out, by rw [hnl]; have := HPS9.out; omega⟩, rfl⟩))
                        case measure => have := HLT.out; simp [intOf]; omega
                    · have hr3' : ((xn : Int) % 3 == 0) = false := by simpa using hr3
                      go_wp2_with (first
                        | (refine wpList_store2 rfl 51 size51 (.tmp 6) (.tmp 91) rfl w2.heap.size _ _ _ _ rfl rfl rfl rfl r6 ?_; intro wG hrG honG; have KG := Lib.hid (K9.out.put honG hrG HSW.out); clear honG hrG; have KGb := ((KG.out.bel.cell (p := ⟨db, dof + t, none⟩) HDB.out).trans HDC.out)))
                      go_roundw
                      case rel => (first
                        | exact ⟨t + 1, m, C, ps', aoA, capA, co8', co9', cc8', cc9', by have := HLT.out; omega, by go_num, rfl, rfl, KG.out, HKP9.out, HPS9.out⟩
                        | ((repeat apply Exists.intro); exact ⟨⟨t + 1, m, C, ps', aoA, capA, co8', co9', cc8', cc9', by have := HLT.out; omega, by go_num, rfl, rfl, KG.out, HKP9.out, HPS9.out⟩, rfl⟩))
                      case measure => have := HLT.out; simp [intOf]; omega
                  · have hl1 : decide ((0 : Int) < (ps'.length : Int)) = false := decide_eq_false (by omega)
                    go_wp2_with (first
                      | (refine wpList_store2 rfl 51 size51 (.tmp 6) (.tmp 91) rfl w2.heap.size _ _ _ _ rfl rfl rfl rfl r6 ?_; intro wG hrG honG; have KG := Lib.hid (K9.out.put honG hrG HSW.out); clear honG hrG))
                    go_roundw
                    case rel => (first
                      | exact ⟨t + 1, m, C, ps', aoA, capA, co8', co9', cc8', cc9', by have := HLT.out; omega, by go_num, rfl, rfl, KG.out, HKP9.out, HPS9.out⟩
                      | ((repeat apply Exists.intro); exact ⟨⟨t + 1, m, C, ps', aoA, capA, co8', co9', cc8', cc9', by have := HLT.out; omega, by go_num, rfl, rfl, KG.out, HKP9.out, HPS9.out⟩, rfl⟩))
                    case measure => have := HLT.out; simp [intOf]; omega
                · have hj2 : decide ((t : Int) < (n1 : Int)) = false := decide_eq_false (by omega)
                  go_wp2_with (first
                    | (refine wpList_store2 rfl 51 size51 (.tmp 6) (.tmp 91) rfl w2.heap.size _ _ _ _ rfl rfl rfl rfl r6 ?_; intro wG hrG honG; have KG := Lib.hid (K9.out.put honG hrG HSW.out); clear honG hrG))
                  go_roundw
                  case rel => (first
                    | exact ⟨t + 1, m, C, ps', aoA, capA, co8', co9', cc8', cc9', by have := HLT.out; omega, by go_num, rfl, rfl, KG.out, HKP9.out, HPS9.out⟩
                    | ((repeat apply Exists.intro); exact ⟨⟨t + 1, m, C, ps', aoA, capA, co8', co9', cc8', cc9', by have := HLT.out; omega, by go_num, rfl, rfl, KG.out, HKP9.out, HPS9.out⟩, rfl⟩))
                  case measure => have := HLT.out; simp [intOf]; omega
          · have hdd : decide ((300 : Int) < ((strB D).size : Int)) = true := decide_eq_true (by rw [strB_size]; omega)
            have belr := Lib.hid HK.out.bel
            go_wp2_with fail
            go_ret
            exact ⟨rfl, belr.out⟩
        · have htn : t = n0 := by omega
          subst htn
          have hi : ¬ ((t : Int) < (t : Int)) := by omega
          have hps30 : ps.length ≤ 30 := by have := HPS.out; omega
          have HLL := Lib.hid HKP.out.len
          have HLF := Lib.hid HKP.out.ok.ok.wf
          have HCH : Hid (ChainsAt wr co8 (ps.map (fun p : Slots × List UInt8 => p.1))) := by
            have h := HK.out.chs
            rw [show ps.length = (ps.map (fun p : Slots × List UInt8 => p.1)).length from (List.length_map _).symm] at h
            exact ChainsNew.at h
          have HDT : Hid (TextsAt wr co9 (ps.map (fun p : Slots × List UInt8 => p.2))) := by
            have h := HK.out.dat
            rw [show ps.length = (ps.map (fun p : Slots × List UInt8 => p.2)).length from (List.length_map _).symm] at h
            exact TextsNew.at h
          have HTK : Hid (takenR l = keptSum ps) := by
            show takenR l = _
            unfold takenR
            rw [if_pos HKP.out.ok.ok]
            exact keep_taken HKP.out
          have HSM : Hid (∀ q, keptSum (ps.take q) ≤ 124800) := fun q => by
            have h1 := keptSum_le (ps.take q) (fun p hp => (HKP.out.each p (List.mem_of_mem_take hp)).2.2.2.2.2)
            have h2 : (ps.take q).length ≤ 30 := by rw [List.length_take]; omega
            omega
          clear hKP hPS
          go_wp2_with fail
          go_loopw [17, 18] (fun n i wq => ∃ q sq : Nat, q ≤ ps.length ∧ i = .int .i64 q ∧ n = .int .i64 sq ∧ sq = keptSum (ps.take q) ∧ Below wr.heap.size wr wq) (fun _ i _ => ps.length - (intOf i).toNat)
          case atStart => exact ⟨0, 0, Nat.zero_le _, rfl, rfl, rfl, Below.refl _ _⟩
          case round =>
            rename World => wq
            obtain ⟨q, sq, hq, rfl, rfl, hsq, hbq⟩ := hrel
            have HBQ := Lib.hid hbq
            have hs12 : sq ≤ 124800 := by rw [hsq]; exact HSM.out q
            have HSQ := Lib.hid hsq
            clear hsq
            by_cases hlt : q < ps.length
            · have HQ := Lib.hid hlt
              have hi : (q : Int) < (ps.length : Int) := by omega
              have hmem := kept_mem hlt
              have hnx := keptSum_succ ps q hlt
              have hg := keep_get HKP.out hmem
              have he := HKP.out.each _ hmem
              have hkn := (keep_num HKP.out _ hmem).2
              obtain ⟨gt, go, sc, scq, rfl, hgt, hgc, hsc⟩ : ∃ gt go sc scq, co8 = some ⟨gt, go, none⟩ ∧ gt < wr.heap.size ∧ wr.cell? ⟨gt, go + q, none⟩ = some (.slice sc (ps.getD q ([], [])).1.length scq) ∧ SlotsAt wr sc (ps.getD q ([], [])).1 := by
                have hql : q < (ps.map (fun p : Slots × List UInt8 => p.1)).length := by rw [List.length_map]; exact hlt
                have e1 : (ps.map (fun p : Slots × List UInt8 => p.1)).getD q [] = (ps.getD q ([], [])).1 := by
                  rw [List.getD_eq_getElem?_getD, List.getElem?_map, List.getD_eq_getElem?_getD, List.getElem?_eq_getElem hlt]
                  rfl
                rcases HCH.out with h | ⟨b, off, h1, h2, h3⟩
                · rw [h] at hql; simp at hql
                · obtain ⟨v, h4, so, sc, rfl, h5⟩ := h3 q hql
                  rw [e1] at h4 h5
                  exact ⟨b, off, so, sc, h1, h2, h4, h5⟩
              obtain ⟨gd, go2, rfl, hgd, hdc⟩ := HDT.out.cell q (by rw [List.length_map]; exact hlt)
              have hde : (ps.map (fun p : Slots × List UInt8 => p.2)).getD q [] = (ps.getD q ([], [])).2 := by
                rw [List.getD_eq_getElem?_getD, List.getElem?_map, List.getD_eq_getElem?_getD, List.getElem?_eq_getElem hlt]
                rfl
              rw [hde] at hdc
              obtain ⟨d, hd⟩ : ∃ d, (ps.getD q ([], [])).2 = d := ⟨_, rfl⟩
              obtain ⟨ck, hck⟩ : ∃ ck, (ps.getD q ([], [])).1 = ck := ⟨_, rfl⟩
              obtain ⟨kq, hkq⟩ : ∃ kq, ck.length = kq := ⟨_, rfl⟩
              rw [hd] at hdc hg hnx he
              rw [hck] at hgc hsc hg hkn
              rw [hkq] at hgc hkn
              have hdl1 : 1 ≤ (strB d).size := by rw [strB_size]; exact he.2.2.2.2.1
              have hdl2 : (strB d).size ≤ 4096 := by rw [strB_size]; have := he.2.2.2.2.2; omega
              have hcl := cutC_len (strB d).size hdl2
              have hrb := roomC_bd (cutC (strB d).size)
              obtain ⟨cs, hcs⟩ : ∃ cs, cutC (strB d).size = cs := ⟨_, rfl⟩
              have hnx2 : ((keptSum (ps.take (q + 1)) : Nat) : Int) = sq + roomC cs := by rw [hnx, ← HSQ.out, ← hcs, strB_size]
              rw [hcs] at hcl hrb
              obtain ⟨rr, hrr⟩ : ∃ rr : Nat, roomC cs = (rr : Int) := ⟨(roomC cs).toNat, by omega⟩
              rw [hrr] at hrb hnx2
              have hrr2 : rr ≤ 4160 := by omega
              have HG : Hid (getS l B ck ((strB d).size : Int) = (d, 0)) := by show _ = _; rw [strB_size]; exact hg
              have HNX : Hid (keptSum (ps.take (q + 1)) = sq + rr) := by show _ = _; omega
              have HKQ := Lib.hid hkq
              have HCS := Lib.hid hcs
              have HRR := Lib.hid hrr
              have HCLN : Hid (cs.length ≤ 5000) := by show _ ≤ _; omega
              have HSC := Lib.hid hsc
              have HGT := Lib.hid hgt
              have HGC := Lib.hid hgc
              have HGD := Lib.hid hgd
              have HDC := Lib.hid hdc
              have HSB : Hid (∀ w', Below wq.heap.size wq w' → w'.cell? ⟨w2.heap.size, 0, none⟩ = some (.slice ao 20 cap) ∧ w'.cell? ⟨w2.heap.size, 1, none⟩ = some (.string (strB B)) ∧ w'.cell? ⟨gt, go + q, none⟩ = some (.slice sc kq scq) ∧ w'.cell? ⟨gd, go2 + q, none⟩ = some (.string (strB d))) := fun w' hb => ⟨(HK.out.box.below (HBQ.out.link hb) HK.out.box.lt).c0, (HK.out.box.below (HBQ.out.link hb) HK.out.box.lt).c1, ((HBQ.out.link hb).cell (p := ⟨gt, go + q, none⟩) HGT.out).trans HGC.out, ((HBQ.out.link hb).cell (p := ⟨gd, go2 + q, none⟩) HGD.out).trans HDC.out⟩
              clear hd hde hlt hsc hkq hgt hgc hgd hdc hmem hnx hnx2 hg he hck hcs hrr hrb hcl
              have B0 := (Below.refl wq.heap.size wq).drew
              go_wp2_with fail
              refine wp_region_held_drew (S := fun w' => w'.cell? ⟨w2.heap.size, 0, none⟩ = some (.slice ao 20 cap) ∧ w'.cell? ⟨w2.heap.size, 1, none⟩ = some (.string (strB B)) ∧ w'.cell? ⟨gt, go + q, none⟩ = some (.slice sc kq scq) ∧ w'.cell? ⟨gd, go2 + q, none⟩ = some (.string (strB d))) (by kernel_rfl) (HSB.out _ B0) (fun hHeld => ?_)
              generalize wq.drew = v0 at *
              refine wpAnyH_take (i := 0) (v := ?_) (by simp only [List.getElem?_toArray, List.getElem?_cons_succ, List.getElem?_cons_zero]; rfl) (by kernel_rfl) (by kernel_rfl) (by kernel_rfl) (by intro _ _ _ h; exact h) (Or.inl ⟨by rfl, ?_⟩) (by assumption) ?_
              rotate_left
              · intro w' hSw
                obtain ⟨s0, s1, s2, s3⟩ := hSw
                go_simp
                try with_reducible rfl
              try simp only [Act.put, List.setIfInBounds_toArray, List.set_cons_zero, List.set_cons_succ]
              refine wpAnyH_take (i := 1) (v := ?_) (by simp only [List.getElem?_toArray, List.getElem?_cons_succ, List.getElem?_cons_zero]; rfl) (by kernel_rfl) (by kernel_rfl) (by kernel_rfl) (by intro _ _ _ h; exact h) (Or.inl ⟨by rfl, ?_⟩) (by assumption) ?_
              rotate_left
              · intro w' hSw
                obtain ⟨s0, s1, s2, s3⟩ := hSw
                go_simp
                try with_reducible rfl
              try simp only [Act.put, List.setIfInBounds_toArray, List.set_cons_zero, List.set_cons_succ]
              refine wpAnyH_take (i := 2) (v := ?_) (by simp only [List.getElem?_toArray, List.getElem?_cons_succ, List.getElem?_cons_zero]; rfl) (by kernel_rfl) (by kernel_rfl) (by kernel_rfl) (by intro _ _ _ h; exact h) (Or.inl ⟨by rfl, ?_⟩) (by assumption) ?_
              rotate_left
              · intro w' hSw
                obtain ⟨s0, s1, s2, s3⟩ := hSw
                go_simp
                try with_reducible rfl
              try simp only [Act.put, List.setIfInBounds_toArray, List.set_cons_zero, List.set_cons_succ]
              refine wpAnyH_take (i := 3) (v := ?_) (by simp only [List.getElem?_toArray, List.getElem?_cons_succ, List.getElem?_cons_zero]; rfl) (by kernel_rfl) (by kernel_rfl) (by kernel_rfl) (by intro _ _ _ h; exact h) (Or.inl ⟨by rfl, ?_⟩) (by assumption) ?_
              rotate_left
              · intro w' hSw
                obtain ⟨s0, s1, s2, s3⟩ := hSw
                go_simp
                try with_reducible rfl
              try simp only [Act.put, List.setIfInBounds_toArray, List.set_cons_zero, List.set_cons_succ]
              refine wpAnyH_take (i := 4) (v := ?_) (by simp only [List.getElem?_toArray, List.getElem?_cons_succ, List.getElem?_cons_zero]; rfl) (by kernel_rfl) (by kernel_rfl) (by kernel_rfl) (by intro _ _ _ h; exact h) (Or.inl ⟨by rfl, ?_⟩) (by assumption) ?_
              rotate_left
              · intro w' hSw
                obtain ⟨s0, s1, s2, s3⟩ := hSw
                go_simp
                try with_reducible rfl
              try simp only [Act.put, List.setIfInBounds_toArray, List.set_cons_zero, List.set_cons_succ]
              refine wpAnyH_take (i := 5) (v := ?_) (by simp only [List.getElem?_toArray, List.getElem?_cons_succ, List.getElem?_cons_zero]; rfl) (by kernel_rfl) (by kernel_rfl) (by kernel_rfl) (by intro _ _ _ h; exact h) (Or.inl ⟨by rfl, ?_⟩) (by assumption) ?_
              rotate_left
              · intro w' hSw
                obtain ⟨s0, s1, s2, s3⟩ := hSw
                go_simp
                try with_reducible rfl
              try simp only [Act.put, List.setIfInBounds_toArray, List.set_cons_zero, List.set_cons_succ]
              refine wpAnyH_take (i := 6) (v := ?_) (by simp only [List.getElem?_toArray, List.getElem?_cons_succ, List.getElem?_cons_zero]; rfl) (by kernel_rfl) (by kernel_rfl) (by kernel_rfl) (by intro _ _ _ h; exact h) (Or.inl ⟨by rfl, ?_⟩) (by assumption) ?_
              rotate_left
              · intro w' hSw
                obtain ⟨s0, s1, s2, s3⟩ := hSw
                go_simp
                try with_reducible rfl
              try simp only [Act.put, List.setIfInBounds_toArray, List.set_cons_zero, List.set_cons_succ]
              refine wpAnyH_take (i := 7) (v := ?_) (by simp only [List.getElem?_toArray, List.getElem?_cons_succ, List.getElem?_cons_zero]; rfl) (by kernel_rfl) (by kernel_rfl) (by kernel_rfl) (by intro _ _ _ h; exact h) (Or.inl ⟨by rfl, ?_⟩) (by assumption) ?_
              rotate_left
              · intro w' hSw
                obtain ⟨s0, s1, s2, s3⟩ := hSw
                go_simp
                try with_reducible rfl
              try simp only [Act.put, List.setIfInBounds_toArray, List.set_cons_zero, List.set_cons_succ]
              refine wpAnyH_take (i := 8) (v := ?_) (by simp only [List.getElem?_toArray, List.getElem?_cons_succ, List.getElem?_cons_zero]; rfl) (by kernel_rfl) (by kernel_rfl) (by kernel_rfl) (by intro _ _ _ h; exact h) (Or.inl ⟨by rfl, ?_⟩) (by assumption) ?_
              rotate_left
              · intro w' hSw
                obtain ⟨s0, s1, s2, s3⟩ := hSw
                go_simp
                try with_reducible rfl
              try simp only [Act.put, List.setIfInBounds_toArray, List.set_cons_zero, List.set_cons_succ]
              refine wpAnyH_take (i := 9) (v := ?_) (by simp only [List.getElem?_toArray, List.getElem?_cons_succ, List.getElem?_cons_zero]; rfl) (by kernel_rfl) (by kernel_rfl) (by kernel_rfl) (by intro _ _ _ h; exact h) (Or.inl ⟨by rfl, ?_⟩) (by assumption) ?_
              rotate_left
              · intro w' hSw
                obtain ⟨s0, s1, s2, s3⟩ := hSw
                go_simp
                try with_reducible rfl
              try simp only [Act.put, List.setIfInBounds_toArray, List.set_cons_zero, List.set_cons_succ]
              refine wpAnyH_ready (rs := [10]) (by kernel_rfl) (by simp) ?_
              refine AllReadyH.cons (by simp only [List.getElem?_toArray, List.getElem?_cons_succ, List.getElem?_cons_zero]; rfl) (fun K hK => ?_) AllReadyH.nil
              have sg0 := (HK.out.seg.below HBQ.out).below B0
              have sl0 := (HSC.out.below HBQ.out).below B0
              go_simp
              refine (Get_lit 20 kq l B d ck _ 0 ao cap sc scq v0 HG.out HLL.out HKQ.out (by omega) HLF.out sg0.at sl0 (by omega)).mono ?_
              rintro e wA ⟨rfl, hbA⟩
              have BFA := B0.link hbA
              go_wp2_with fail
              refine hK.out _ _ (HSB.out _ BFA) (fun hHeld => ?_)
              clear hK
              try simp only [Act.put, List.setIfInBounds_toArray, List.set_cons_zero, List.set_cons_succ]
              refine wpAnyH_take (i := 11) (v := ?_) (by simp only [List.getElem?_toArray, List.getElem?_cons_succ, List.getElem?_cons_zero]; rfl) (by kernel_rfl) (by kernel_rfl) (by kernel_rfl) (by intro _ _ _ h; exact h) (Or.inl ⟨by rfl, ?_⟩) (by assumption) ?_
              rotate_left
              · intro w' hSw
                obtain ⟨s0, s1, s2, s3⟩ := hSw
                go_simp
                try with_reducible rfl
              try simp only [Act.put, List.setIfInBounds_toArray, List.set_cons_zero, List.set_cons_succ]
              refine wpAnyH_take (i := 12) (v := ?_) (by simp only [List.getElem?_toArray, List.getElem?_cons_succ, List.getElem?_cons_zero]; rfl) (by kernel_rfl) (by kernel_rfl) (by kernel_rfl) (by intro _ _ _ h; exact h) (Or.inl ⟨by rfl, ?_⟩) (by assumption) ?_
              rotate_left
              · intro w' hSw
                obtain ⟨s0, s1, s2, s3⟩ := hSw
                go_simp
                try with_reducible rfl
              try simp only [Act.put, List.setIfInBounds_toArray, List.set_cons_zero, List.set_cons_succ]
              refine wpAnyH_take (i := 13) (v := ?_) (by simp only [List.getElem?_toArray, List.getElem?_cons_succ, List.getElem?_cons_zero]; rfl) (by kernel_rfl) (by kernel_rfl) (by kernel_rfl) (by intro _ _ _ h; exact h) (Or.inl ⟨by rfl, ?_⟩) (by assumption) ?_
              rotate_left
              · intro w' hSw
                obtain ⟨s0, s1, s2, s3⟩ := hSw
                go_simp
                try with_reducible rfl
              try simp only [Act.put, List.setIfInBounds_toArray, List.set_cons_zero, List.set_cons_succ]
              refine wpAnyH_take (i := 14) (v := ?_) (by simp only [List.getElem?_toArray, List.getElem?_cons_succ, List.getElem?_cons_zero]; rfl) (by kernel_rfl) (by kernel_rfl) (by kernel_rfl) (by intro _ _ _ h; exact h) (Or.inl ⟨by rfl, ?_⟩) (by assumption) ?_
              rotate_left
              · intro w' hSw
                obtain ⟨s0, s1, s2, s3⟩ := hSw
                go_simp
                try with_reducible rfl
              try simp only [Act.put, List.setIfInBounds_toArray, List.set_cons_zero, List.set_cons_succ]
              refine wpAnyH_take (i := 15) (v := ?_) (by simp only [List.getElem?_toArray, List.getElem?_cons_succ, List.getElem?_cons_zero]; rfl) (by kernel_rfl) (by kernel_rfl) (by kernel_rfl) (by intro _ _ _ h; exact h) (Or.inl ⟨by rfl, ?_⟩) (by assumption) ?_
              rotate_left
              · intro w' hSw
                obtain ⟨s0, s1, s2, s3⟩ := hSw
                go_simp
                try with_reducible rfl
              try simp only [Act.put, List.setIfInBounds_toArray, List.set_cons_zero, List.set_cons_succ]
              refine wpAnyH_done (by kernel_rfl) ?_ _
              obtain ⟨_, _, _, hdA⟩ := HSB.out _ BFA
              go_wp2_with (first
                | (go_at_call 35; refine (cut_any (strB d).size wA hdl1 hdl2).mono ?_; rintro e wB ⟨ca, ccap, rfl, hcat, hbB, _⟩; rw [HCS.out] at hcat ⊢; have BFB := BFA.link hbB; have hdB := (HSB.out _ BFB).2.2.2)
                | (go_at_call 36; refine (room_any ca cs ccap wB HCLN.out hcat).mono ?_; rintro e wC ⟨rfl, rfl⟩; rw [HRR.out]))
              go_roundw
              case rel => exact ⟨q + 1, sq + rr, by have := HQ.out; omega, by go_num, by go_num, HNX.out.symm, HBQ.out.link BFB⟩
              case measure => have := HQ.out; simp [intOf]; omega
            · have hqe : q = ps.length := by omega
              have hi : ¬ ((q : Int) < (ps.length : Int)) := by omega
              have HTQ : Hid (takenR l = sq) := by
                show _ = _
                rw [HTK.out, HSQ.out, hqe, List.take_length]
              have rq := HK.out.box.below HBQ.out HK.out.box.lt
              have q0 := rq.c0
              have q1 := rq.c1
              have HSQ2 := Lib.hid (HK.out.seg.below HBQ.out)
              have HBEL := Lib.hid (HK.out.bel.link HBQ.out)
              clear hqe
              go_wp2_with (first
                | (go_at_call 19; refine (taken_lit 20 l sq ao cap wq HLL.out HTQ.out HLF.out HSQ2.out.at).mono ?_; rintro e w5 ⟨rfl, hb5⟩; have r5 := rq.below hb5 rq.lt; have q50 := r5.c0; have q51 := r5.c1; have sg5 := HSQ2.out.below hb5)
                | (go_at_call 27; refine (scheck_lit 20 l B true ao cap w5 (decide_eq_true HKP.out.ok) HLL.out (by omega) HLF.out sg5.at).mono ?_; rintro e w6 ⟨rfl, hb6⟩))
              go_ret
              exact ⟨rfl, HBEL.out.link (hb5.link hb6)⟩
    · have hd1 : decide ((30 : Int) < (n1 : Int)) = true := decide_eq_true (by omega)
      go_enter Tryd.func12, Tryd.ntmps12
      go_wp2_with (first
        | (go_at_call 24; refine (awake12_any w hT).mono ?_; rintro e w1 ⟨rfl, hb1⟩; have hz1 := hb1.size)
        | (go_at_call 32; refine (New_lit 20 w1 (by omega)).mono ?_; rintro e w2 ⟨⟨ao2, cap2, rfl, hs2⟩, hb2⟩; rw [HZ.out]; have hz2 := hb2.size)
        | (refine wpList_store2 rfl 51 size51 (.tmp 6) (.tmp 26) rfl w2.heap.size _ _ (.slice none 0 0) (.string ⟨#[]⟩) rfl rfl rfl rfl (Row2.new w2 51 _ _) ?_; intro w3 hr3 hon3; have hb3 := hon3.fresh))
      go_ret
      exact ⟨rfl, (hb1.link hb2).link hb3⟩
  · have hd0 : decide ((30 : Int) < (n0 : Int)) = true := decide_eq_true (by omega)
    go_enter Tryd.func12, Tryd.ntmps12
    go_wp2_with (first
      | (go_at_call 24; refine (awake12_any w hT).mono ?_; rintro e w1 ⟨rfl, hb1⟩; have hz1 := hb1.size)
      | (go_at_call 32; refine (New_lit 20 w1 (by omega)).mono ?_; rintro e w2 ⟨⟨ao2, cap2, rfl, hs2⟩, hb2⟩; rw [HZ.out]; have hz2 := hb2.size)
      | (refine wpList_store2 rfl 51 size51 (.tmp 6) (.tmp 26) rfl w2.heap.size _ _ (.slice none 0 0) (.string ⟨#[]⟩) rfl rfl rfl rfl (Row2.new w2 51 _ _) ?_; intro w3 hr3 hon3; have hb3 := hon3.fresh))
    go_ret
    exact ⟨rfl, (hb1.link hb2).link hb3⟩
end Go.Proofs.YtfnokklcbmipgaaDoor
