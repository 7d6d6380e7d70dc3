/- store.Pack: the walk. -/
import Derived.Test.YtfnokklcbmipgaaDoorT7
namespace Go.Proofs.YtfnokklcbmipgaaDoor
open Go.RowKit Plain

attribute [local irreducible] Go.Calls
def PackR (w : World) (x : Segs × List UInt8 × List Slots × Int) (e : Ending) (w' : World) : Prop := (∃ v tv, e = .returned (.tuple #[v, tv, .int .i64 x.2.2.2]) ∧ StoreR w' w.heap.size v x.1 x.2.1 ∧ ChainsNew w' w.heap.size tv x.2.2.1) ∧ Below w.heap.size w w'
/-- Chains that came in lie apart from what is changed. -/
def Apart (cao : Option Addr) (chs : List Slots) (w : World) (N : Nat) : Prop := chs = [] ∨ ∃ b off, cao = some ⟨b, off, none⟩ ∧ b < N ∧ ∀ i, i < chs.length → ∃ so scap, w.cell? ⟨b, off + i, none⟩ = some (.slice so (chs.getD i []).length scap) ∧ (chs.getD i [] = [] ∨ ∃ b2 off2, so = some ⟨b2, off2, none⟩ ∧ b2 < N ∧ ∀ j, j < (chs.getD i []).length → w.cell? ⟨b2, off2 + j * 2, none⟩ = some (.int .i64 ((chs.getD i []).getD j (0, 0)).1) ∧ w.cell? ⟨b2, off2 + j * 2 + 1, none⟩ = some (.int .i64 ((chs.getD i []).getD j (0, 0)).2))
theorem Apart.of {w : World} {cao : Option Addr} {chs : List Slots} (h : ChainsAt w cao chs) : Apart cao chs w w.heap.size := by
  rcases h with h | ⟨b, off, h1, h2, h3⟩
  · exact .inl h
  · refine .inr ⟨b, off, h1, h2, fun i hi => ?_⟩
    obtain ⟨v, h4, so, scap, rfl, h5⟩ := h3 i hi
    refine ⟨so, scap, h4, ?_⟩
    rcases h5 with h5 | ⟨b2, off2, e, hl, hc⟩
    · exact .inl h5
    · exact .inr ⟨b2, off2, e, hl, hc⟩
theorem Apart.keep {w w' : World} {cao : Option Addr} {chs : List Slots} {N : Nat} (h : Apart cao chs w N) (hb : Below N w w') : Apart cao chs w' N := by
  rcases h with h | ⟨b, off, h1, h2, h3⟩
  · exact .inl h
  · refine .inr ⟨b, off, h1, h2, fun i hi => ?_⟩
    obtain ⟨so, scap, h4, h5⟩ := h3 i hi
    refine ⟨so, scap, (hb.cell (p := ⟨b, off + i, none⟩) h2).trans h4, ?_⟩
    rcases h5 with h5 | ⟨b2, off2, e, hl, hc⟩
    · exact .inl h5
    · exact .inr ⟨b2, off2, e, hl, fun j hj => ⟨(hb.cell (p := ⟨b2, off2 + j * 2, none⟩) hl).trans (hc j hj).1, (hb.cell (p := ⟨b2, off2 + j * 2 + 1, none⟩) hl).trans (hc j hj).2⟩⟩
/-- The chain at a place: its value, its slots. -/
theorem Apart.get {w : World} {cao : Option Addr} {chs : List Slots} {N : Nat} (h : Apart cao chs w N) {k : Nat} (hk : k < chs.length) (hN : N ≤ w.heap.size) : ∃ b off so scap, cao = some ⟨b, off, none⟩ ∧ w.cell? ⟨b, off + k, none⟩ = some (.slice so (chs.getD k []).length scap) ∧ SlotsAt w so (chs.getD k []) ∧ (chs.getD k [] ≠ [] → ∀ b2 off2, so = some ⟨b2, off2, none⟩ → b2 < N) := by
  rcases h with h | ⟨b, off, h1, h2, h3⟩
  · rw [h] at hk; simp at hk
  · obtain ⟨so, scap, h4, h5⟩ := h3 k hk
    refine ⟨b, off, so, scap, h1, h4, ?_, ?_⟩
    · rcases h5 with h5 | ⟨b2, off2, e, hl, hc⟩
      · exact .inl h5
      · exact .inr ⟨b2, off2, e, by omega, hc⟩
    · intro hne b2 off2 e
      rcases h5 with h5 | ⟨b3, off3, e3, hl, hc⟩
      · exact absurd h5 hne
      · rw [e] at e3; cases e3; exact hl
set_option linter.unusedSimpArgs false in
set_option maxRecDepth 20000 in
set_option maxHeartbeats 8000000 in
theorem Pack_any (ao : Option Addr) (l : Segs) (cap : Nat) (B : List UInt8) (cao : Option Addr) (chs : List Slots) (ccap : Nat) (w : World) (hwf : Wf l) (hl : l.length ≤ 5000) (h : SegAt w ao l) (hn : ao = none → cap = 0) (hT : TabAt w) (hc : ChainsAt w cao chs) (hcl : chs.length ≤ 90000) (hsl : ∀ ss ∈ chs, ss.length ≤ 90000) :
    Calls Tryd.prog 33 #[.agg #[.slice ao l.length cap, .string (strB B)], .slice cao chs.length ccap] w (PackR w (packS l B chs)) := by
  have hmf : ∀ (fn : Fn) (first cap : Array Value) (w : World), (Instr.makeFunc fn first cap).run Tryd.prog w = .ok (.func fn first cap) w := fun _ _ _ _ => rfl
  obtain ⟨R0, R1, hb1, hz1⟩ := two_start w 51 51 (.slice ao l.length cap) (.string (strB B)) (.slice none 0 0) (.string ⟨#[]⟩)
  obtain ⟨w1, hw1⟩ : ∃ w1, w1 = (w.alloc (.cells #[.slice ao l.length cap, .string (strB B)] 51)).alloc (.cells #[.slice none 0 0, .string ⟨#[]⟩] 51) := ⟨_, rfl⟩
  rw [← hw1] at R0 R1 hb1 hz1
  have HA := Lib.hid (Apart.of hc)
  have HS := Lib.hid (h.below hb1)
  have HT1 := Lib.hid (hT.grow hb1)
  have b0 := R0.c0
  have b1 := R0.c1
  have HW1 := Lib.hid hw1
  have HSL := Lib.hid hsl
  have hw0 := hT.2
  have HNIL : Hid (∀ w' : World, ChainsNew w' w.heap.size (.slice none 0 0) []) := fun w' => ChainsNew.nil w' _
  clear h hw1 hT hc hsl
  by_cases hok : okSt l (strB B)
  · have HD := Lib.hid (decide_eq_true hok)
    have HOK := Lib.hid hok
    have HBL : Hid (B.length = l.length * 512) := by have := hok.size; rw [strB_size] at this; exact this
    clear hok
    go_enter Tryd.func33, Tryd.ntmps33
    go_wp2_with (first
      | (rw [← HW1.out]; go_at_call 27; refine (scheck_any ao l cap (strB B) _ hwf HS.out hl).mono ?_; rintro e w2 ⟨rfl, hb2⟩; rw [HD.out]; have R02 := R0.below hb2 R0.lt; have R12 := R1.below hb2 R1.lt; have hz2 := hb2.size; have b02 := R02.c0; have b12 := R02.c1)
      | (go_at_call 46; refine (begin_any ao l cap B w2 hl (HS.out.below hb2) hn).mono ?_; rintro e w3 ⟨⟨v3, g, rfl, ⟨ao3, cap3, capB, rfl, hn3, hcB, hby3, hg3, hne3⟩, hgl⟩, hb3⟩; have R03 := R02.below hb3 R02.lt; have R13 := R12.below hb3 R12.lt; have hz3 := hb3.size)
      | (refine wpList_store2 rfl 82 size82 (.tmp 7) (.tmp 28) rfl w3.heap.size _ _ (.slice none 0 0) (.slice none 0 0) rfl rfl rfl rfl (Row2.new w3 82 _ _) ?_; intro w4 hr4 hon4; have hb4 := hon4.fresh; have hz4 := hr4.lt; have R04 := R03.below hb4 R03.lt; have R14 := R13.below hb4 R13.lt; have HW4 := Lib.hid (WorkR.make hr4 (hn3.below hb4) hcB (hby3.same hb4.size (hb4.block g hgl)) hg3 (show w2.heap.size ≤ w3.heap.size by omega) (by omega) (fun k off e => by have := hne3 k off e; omega))))
    have hb24 : Below w2.heap.size w2 w4 := hb3.trans (hb4.mono (by omega))
    have HB04 := Lib.hid ((hb1.link hb2).link hb24)
    have HT4 := Lib.hid ((HT1.out.grow hb2).grow hb24)
    have HS2 := Lib.hid (HS.out.below hb2)
    clear b0 b1 b02 b12
    go_loopw [31] (fun i wr => ∃ k : Nat, ∃ lk Bk, k ≤ chs.length ∧ i = .int .i64 k ∧ WorkAt wr w2.heap.size w3.heap.size g lk Bk ∧ okS lk ∧ lk.length = l.length ∧ Bk.length = lk.length * 512 ∧ dropGo l B chs.flatten = dropGo lk Bk (chs.drop k).flatten ∧ Chg w3.heap.size g w4 wr) (fun i _ => chs.length - (intOf i).toNat)
    case atStart => exact ⟨0, l, B, Nat.zero_le _, rfl, HW4.out, HOK.out.ok, rfl, HBL.out, rfl, Chg.refl _ _ _⟩
    case round =>
      obtain ⟨k, lk, Bk, hk, rfl, hWk, hokk, hlk, hBk, hpk, hck⟩ := hrel
      have HWk := Lib.hid hWk
      have HOk := Lib.hid hokk
      have HPk := Lib.hid hpk
      have Rr0 := R04.chg hck (by omega) (by omega)
      have Rr1 := R14.chg hck (by omega) (by omega)
      have q0 := Rr0.c0
      have q1 := Rr0.c1
      have hzr := hck.size
      have hb2r : Below w2.heap.size w2 wr := hb24.trans (hck.below (by omega) (by omega) (by omega))
      have HB0r := Lib.hid (HB04.out.trans (hck.below (show w.heap.size ≤ _ by omega) (by omega) (by omega)))
      have HAr := Lib.hid (HA.out.keep HB0r.out)
      clear hWk hokk hpk
      by_cases hlt : k < chs.length
      · have hi : (k : Int) < (chs.length : Int) := by omega
        obtain ⟨b, off, so, scap, rfl, g1, hss, hsb⟩ := HAr.out.get hlt (by have := HB0r.out.size; omega)
        have HFL := Lib.hid (flat_at hlt)
        have HMEM : Hid (chs.getD k [] ∈ chs) := by
          show _ ∈ _
          rw [List.getD_eq_getElem?_getD, List.getElem?_eq_getElem hlt]
          exact List.getElem_mem hlt
        have hsl9 := HSL.out _ HMEM.out
        obtain ⟨ss, hse⟩ : ∃ ss, ss = chs.getD k [] := ⟨_, rfl⟩
        rw [← hse] at g1 hss hsb HFL hsl9
        have HSS := Lib.hid hss
        have HSB := Lib.hid hsb
        have HLT := Lib.hid hlt
        have HKP := Lib.hid (dropGo_keeps lk Bk ss HOk.out hBk)
        clear hss hsb hse
        by_cases hd : (dropGo lk Bk ss).2.2 = true
        · have HER : Hid (errD (dropGo lk Bk ss).2.2 = 0) := by show _ = _; rw [hd]; rfl
          have HPN : Hid (dropGo l B chs.flatten = dropGo (dropGo lk Bk ss).1 (dropGo lk Bk ss).2.1 (chs.drop (k + 1)).flatten) := by
            show _ = _
            rw [HPk.out, HFL.out, dropGo_append, if_pos hd]
          clear hd
          go_wp2_with (go_at_call 51; refine (drop_any w2.heap.size w3.heap.size g lk Bk so ss scap wr HWk.out HOk.out hBk HSS.out (fun hne b off e => by have := HSB.out hne b off e; omega) (by omega)).mono ?_; rintro e w5 ⟨rfl, hW5, hc5⟩; rw [HER.out]; have HW5 := Lib.hid hW5; clear hW5)
          go_roundw
          case rel => exact ⟨k + 1, _, _, by have := HLT.out; omega, by go_num, HW5.out, HKP.out.1, HKP.out.2.1.trans hlk, by rw [HKP.out.2.2, HKP.out.2.1]; exact hBk, HPN.out, hck.trans hc5⟩
          case measure => have := HLT.out; simp [intOf]; omega
        · have HER : Hid (errD (dropGo lk Bk ss).2.2 = 120) := by show _ = _; unfold errD; rw [if_neg hd]
          have HPN : Hid (packS l B chs = (l, B, [], 120)) := by
            refine if_neg (fun x => hd ?_)
            have := x.2.1
            rw [HPk.out, HFL.out, dropGo_append, if_neg hd] at this
            exact this
          clear hd
          go_wp2_with (first
            | (go_at_call 51; refine (drop_any w2.heap.size w3.heap.size g lk Bk so ss scap wr HWk.out HOk.out hBk HSS.out (fun hne b off e => by have := HSB.out hne b off e; omega) (by omega)).mono ?_; rintro e w5 ⟨rfl, hW5, hc5⟩; rw [HER.out]; clear hW5; have R05 := Rr0.chg hc5 (by omega) (by omega); have R15 := Rr1.chg hc5 (by omega) (by omega); have hz5 := hc5.size; have b05 := R05.c0; have b15 := R05.c1; have hc25 : Below w2.heap.size w2 w5 := hb2r.trans (hc5.below (by omega) (by omega) (by omega)); have HS5 := Lib.hid (HS2.out.below hc25))
            | (go_at_call 45; refine (ssame_any ao l cap B w5 hl HS5.out hn).mono ?_; rintro e w6 ⟨⟨v6, rfl, hS6⟩, hb6⟩; have R16 := R15.below hb6 R15.lt; have hz6 := hb6.size; obtain ⟨ao6, cap6, rfl, hn6⟩ := hS6)
            | (refine wpList_store2 rfl 51 size51 (.tmp 4) (.tmp 40) rfl (w.heap.size + 1) _ _ _ _ rfl rfl rfl rfl R16 ?_; intro w7 hr7 hon7))
          have hB7 : Below w.heap.size w w7 := hon7.below ((hb1.link hb2).link (hc25.trans (hb6.mono (by omega)))) (by omega)
          refine bodyPost_ret (res3_51 rfl _ _ (w.heap.size + 1) _ _ hr7 rfl) rfl ?_
          rw [HPN.out]
          exact ⟨⟨_, _, rfl, StoreR.mono (StoreR.only ⟨ao6, cap6, rfl, hn6⟩ hon7 (by omega)) (by omega), HNIL.out _⟩, hB7⟩
      · have hi : ¬ ((k : Int) < (chs.length : Int)) := by omega
        have HDG : Hid (dropGo l B chs.flatten = (lk, Bk, true)) := by
          show _ = _
          rw [HPk.out, List.drop_of_length_le (by omega)]
          rfl
        have HHAS : Hid (∀ ss ∈ chs, ∀ p ∈ ss, hasL l p.1 p.2) := fun ss hss p hp => dropGo_has (by rw [HDG.out]) p (List.mem_flatten.2 ⟨ss, hss, hp⟩)
        obtain ⟨aok, capk, s1, s2, s3⟩ := HWk.out.seg
        have HSk := Lib.hid s2.at
        have hwk := HOk.out.wf
        clear s2 s3
        by_cases hh : heldR lk = 0
        · have HPS : Hid (packS l B chs = packEnd l B (packAll l B lk Bk chs [])) := by
            show _ = _
            unfold packS
            rw [if_pos ⟨HOK.out, by rw [HDG.out], by rw [HDG.out]; exact hh⟩, HDG.out]
          have HHR : Hid (heldR lk = 0) := hh
          clear hh
          go_wp2_with (go_at_call 22; refine (held_lit l.length lk 0 aok capk wr hlk HHR.out hwk HSk.out).mono ?_; rintro e w5 ⟨rfl, hb5⟩)
          have HW5 := Lib.hid (HWk.out.below hb5)
          have RO0 := Rr0.below hb5 Rr0.lt
          have RO1 := Rr1.below hb5 Rr1.lt
          have hz5 := hb5.size
          have HB05 := Lib.hid (HB0r.out.link hb5)
          have HA5 := Lib.hid (HAr.out.keep (hb5.mono (by have := HB0r.out.size; omega)))
          have HT5 := Lib.hid ((HT4.out.chg hck (by omega) (by omega)).grow hb5)
          have hb25 : Below w2.heap.size w2 w5 := hb2r.trans (hb5.mono (by omega))
          clear q0 q1 s1
          go_loopw [12, 52] (fun t i wr => ∃ k : Nat, ∃ lj Bj td, k ≤ chs.length ∧ i = .int .i64 k ∧ (∃ to tcap, t = .slice to k tcap ∧ ChainsNew wr w5.heap.size (.slice to k tcap) td) ∧ td.length = k ∧ WorkAt wr w2.heap.size w3.heap.size g lj Bj ∧ okS lj ∧ lj.length = l.length ∧ Bj.length = lj.length * 512 ∧ packAll l B lk Bk chs [] = packAll l B lj Bj (chs.drop k) td ∧ Chg w3.heap.size g w5 wr) (fun _ i _ => chs.length - (intOf i).toNat)
          case atStart => exact ⟨0, lk, Bk, [], Nat.zero_le _, rfl, ⟨none, 0, rfl, ChainsNew.nil _ _⟩, rfl, HW5.out, HOk.out, hlk, hBk, rfl, Chg.refl _ _ _⟩
          case round =>
            rename World => wo
            obtain ⟨kk, lj, Bj, td, hkk, rfl, ⟨to, tcap, rfl, htd⟩, htl, hWj, hokj, hlj, hBj, hpj, hcj⟩ := hrel
            have HWj := Lib.hid hWj
            have HOj := Lib.hid hokj
            have HPj := Lib.hid hpj
            have HTD := Lib.hid htd
            have HTL := Lib.hid htl
            have Ro0 := RO0.chg hcj (by omega) (by omega)
            have Ro1 := RO1.chg hcj (by omega) (by omega)
            have hzo := hcj.size
            have hb2o : Below w2.heap.size w2 wo := hb25.trans (hcj.below (by omega) (by omega) (by omega))
            have HB0o := Lib.hid (HB05.out.trans (hcj.below (show w.heap.size ≤ _ by omega) (by omega) (by omega)))
            have HAo := Lib.hid (HA.out.keep HB0o.out)
            have HTo := Lib.hid (HT5.out.chg hcj (by omega) (by omega))
            clear hWj hokj hpj htd htl
            by_cases hlt2 : kk < chs.length
            · have hi2 : (kk : Int) < (chs.length : Int) := by omega
              obtain ⟨b, off, so, scap, rfl, g1, hss, hsb⟩ := HAo.out.get hlt2 (by have := HB0o.out.size; omega)
              have HMEM : Hid (chs.getD kk [] ∈ chs) := by
                show _ ∈ _
                rw [List.getD_eq_getElem?_getD, List.getElem?_eq_getElem hlt2]
                exact List.getElem_mem hlt2
              have HPA := Lib.hid (packAll_at (l0 := l) (B0 := B) (l := lj) (B := Bj) (told := td) hlt2)
              have hsl9 := HSL.out _ HMEM.out
              have HHS := Lib.hid (HHAS.out _ HMEM.out)
              obtain ⟨ss, hse⟩ : ∃ ss, ss = chs.getD kk [] := ⟨_, rfl⟩
              rw [← hse] at g1 hss hsb HPA hsl9 HHS
              have HSS := Lib.hid hss
              have HSB := Lib.hid hsb
              have HLT := Lib.hid hlt2
              clear hss hsb hse hlt2
              go_wp2_with fail
              go_loopw [15, 58] (fun t i wr => ∃ j : Nat, ∃ lq Bq sj, j ≤ ss.length ∧ i = .int .i64 j ∧ (∃ so scap, t = .slice so j scap ∧ SlotsNew wr wo.heap.size so scap sj) ∧ sj.length = j ∧ WorkAt wr w2.heap.size w3.heap.size g lq Bq ∧ okS lq ∧ lq.length = l.length ∧ Bq.length = lq.length * 512 ∧ packOne l B lj Bj ss [] = packOne l B lq Bq (ss.drop j) sj ∧ Chg w3.heap.size g wo wr) (fun _ i _ => ss.length - (intOf i).toNat)
              case atStart => exact ⟨0, lj, Bj, [], Nat.zero_le _, rfl, ⟨none, 0, rfl, World.ownsRow_nil _ _ _ _⟩, rfl, HWj.out, HOj.out, hlj, hBj, rfl, Chg.refl _ _ _⟩
              case round =>
                rename World => wi
                obtain ⟨j, lq, Bq, sj, hj, rfl, ⟨sq, sqcap, rfl, hsn⟩, hsk, hWq, hokq, hlq, hBq, hpq, hcq⟩ := hrel
                have HWq := Lib.hid hWq
                have HOq := Lib.hid hokq
                have HPq := Lib.hid hpq
                have HSN := Lib.hid hsn
                have HSK := Lib.hid hsk
                have Ri0 := Ro0.chg hcq (by omega) (by omega)
                have Ri1 := Ro1.chg hcq (by omega) (by omega)
                have hzi := hcq.size
                have hb2i : Below w2.heap.size w2 wi := hb2o.trans (hcq.below (by omega) (by omega) (by omega))
                have HB0i := Lib.hid (HB0o.out.trans (hcq.below (show w.heap.size ≤ _ by omega) (by omega) (by omega)))
                have HTi := Lib.hid (HTo.out.chg hcq (by omega) (by omega))
                have HSi := Lib.hid (HS2.out.below hb2i)
                clear hWq hokq hpq hsn hsk
                by_cases hlt3 : j < ss.length
                · have hi3 : (j : Int) < (ss.length : Int) := by omega
                  obtain ⟨b2, off2, rfl, hbl2, hc2⟩ := HSS.out.cell j hlt3
                  obtain ⟨g2, g3⟩ := hc2 j hlt3
                  have hd := HSB.out (by intro e; rw [e] at hlt3; simp at hlt3) b2 off2 rfl
                  have g2 := (hcq.cell (p := ⟨b2, off2 + j * 2, none⟩) hbl2 (by show b2 ≠ _; omega) (by show b2 ≠ _; omega)).trans g2
                  have g3 := (hcq.cell (p := ⟨b2, off2 + j * 2 + 1, none⟩) hbl2 (by show b2 ≠ _; omega) (by show b2 ≠ _; omega)).trans g3
                  have hh := HHS.out _ (getD_memS hlt3)
                  obtain ⟨s', n, e1, e2, hhn⟩ := (hasL_iff l _ _).1 hh
                  have HPP : Hid ((((s' : Int), (n : Int)) : Int × Int) = ss.getD j (0, 0)) := by show _ = _; rw [← e1, ← e2]
                  rw [e1] at g2
                  rw [e2] at g3
                  have hsl2 : s' < l.length := hhn.1
                  have HHN := Lib.hid hhn
                  obtain ⟨bs, offs, rfl, hbs, hcs⟩ := HSi.out.cell s' hsl2
                  obtain ⟨g4, _⟩ := hcs s' hsl2
                  obtain ⟨c, hc⟩ : ∃ c, c = (l.getD s' (0, 0)).1 := ⟨_, rfl⟩
                  rw [← hc] at g4
                  have HC := Lib.hid hc
                  have HLT3 := Lib.hid hlt3
                  have hs'i : (s' : Int) < (l.length : Int) := by omega
                  have hlq5 : lq.length ≤ 5000 := by omega
                  have hwq := HOq.out.wf
                  clear hh e1 e2 hhn hcs hc hc2 hlt3
                  by_cases he : (takeL lq c).2.2 = 0
                  · obtain ⟨i, q, hin, htk⟩ := take_ok HOq.out he
                    have hE : takeL lq c = ((takeL lq c).1, ((i : Int), (q : Int)), 0) := by rw [← hin, ← he]
                    obtain ⟨m, hm⟩ : ∃ m, m = (takeL lq c).1 := ⟨_, rfl⟩
                    rw [← hm] at hE htk
                    have HE := Lib.hid hE
                    have HTK := Lib.hid htk
                    have hBm : Bq.length = m.length * 512 := by rw [htk.len]; exact hBq
                    have HBM := Lib.hid hBm
                    have HPN : Hid (packOne l B lj Bj ss [] = packOne l B m (layB Bq (posN m i q) (lenN m i) (slotB l B s' n)) (ss.drop (j + 1)) (sj ++ [((i : Int), (q : Int))])) := by
                      show _ = _
                      rw [HPq.out, packOne_at HLT3.out s' n HPP.out m i q (by rw [← HC.out]; exact hE)]
                    have HFIT := Lib.hid (pos_fit htk.ok htk.is hBm)
                    have HLN := Lib.hid (hasN_lt htk.ok htk.is)
                    have HM0 := Lib.hid (geo HLN.out).1
                    have hn64 : q < 64 := Nat.lt_of_lt_of_le HLN.out (nS_64 _)
                    have him : i < m.length := htk.is.1
                    have hml : m.length = l.length := htk.len.trans hlq
                    have hn64' : n < 64 := Nat.lt_of_lt_of_le (hasN_lt HOK.out.ok HHN.out) (nS_64 _)
                    obtain ⟨f, hf⟩ : ∃ f, f = posN l s' n := ⟨_, rfl⟩
                    obtain ⟨ln, hln⟩ : ∃ ln, ln = lenN l s' := ⟨_, rfl⟩
                    obtain ⟨t, ht⟩ : ∃ t, t = f + ln := ⟨_, rfl⟩
                    have HF2 : Hid (f = s' * 512 + n * bN (l.getD s' (0, 0)).1 ∧ t = f + bN (l.getD s' (0, 0)).1) := ⟨hf, by rw [ht, hln]; rfl⟩
                    have hft : t ≤ B.length := by have := pos_fit HOK.out.ok HHN.out HBL.out; omega
                    have hcut := run_cut B f t (by omega) hft
                    have HSB2 : Hid ((B.drop f).take (t - f) = slotB l B s' n) := by show _ = _; rw [ht, Nat.add_sub_cancel_left, hf, hln]; rfl
                    rw [HSB2.out] at hcut
                    clear he hin htk hE hm hBm hf hln ht hft
                    go_wp2_with (first
                      | (refine wpList_store2 rfl 24 size24 (.tmp 17) (.tmp 61) rfl wi.heap.size (.int .i64 s') (.int .i64 n) (.int .i64 0) (.int .i64 0) rfl rfl rfl rfl (Row2.new wi 24 _ _) ?_; intro x1 hrx1 honx1; have hbx1 := honx1.fresh; have X0 := Ri0.below hbx1 Ri0.lt; have X1 := Ri1.below hbx1 Ri1.lt; have x0 := X0.c0; have x1' := X0.c1; have y0 := hrx1.c0; have y1 := hrx1.c1; have g5 := (hbx1.cell (p := ⟨bs, offs + s' * 2, none⟩) hbs).trans g4; have HWx1 := Lib.hid (HWq.out.below hbx1); have HTx1 := Lib.hid (HTi.out.grow hbx1); have hzx1 := hrx1.lt)
                      | (go_at_call 47; refine (wtake_any w2.heap.size w3.heap.size g lq m Bq c i q 0 x1 HWx1.out HE.out hlq5 hwq HTx1.out).mono ?_; rintro e x2 ⟨rfl, hWx2, hcx2⟩; have HWx2 := Lib.hid hWx2; have hltx2 := hWx2.lt; have hglx2 := hWx2.row.lt; have hzx2 := hcx2.size; clear hWx2; have Z0 := X0.chg hcx2 (by omega) (by omega); have Z1 := X1.chg hcx2 (by omega) (by omega); have rx2 := hrx1.chg hcx2 (by omega) (by omega))
                      | (refine wpList_store2 rfl 24 size24 (.tmp 18) (.tmp 72) rfl x2.heap.size (.int .i64 i) (.int .i64 q) (.int .i64 0) (.int .i64 0) rfl rfl rfl rfl (Row2.new x2 24 _ _) ?_; intro x3 hrx3 honx3; have hbx3 := honx3.fresh; have HWx3 := Lib.hid (HWx2.out.below hbx3); have hzx3 := hrx3.lt; have V0 := Z0.below hbx3 Z0.lt; have v0 := V0.c0; have v1 := V0.c1; have rx3 := rx2.below hbx3 rx2.lt; have u0' := rx3.c0; have u1' := rx3.c1; have HSx3 := Lib.hid (HS2.out.below (hb2i.trans (((hbx1.mono (by omega)).trans (hcx2.below (by omega) (by omega) (by omega))).trans (hbx3.mono (by omega))))))
                      | (go_at_call 50; refine (span_any _ l cap s' n f t x3 HSx3.out hsl2 hl hn64' HF2.out.1 HF2.out.2).mono ?_; rintro e x4 ⟨rfl, hbx4⟩; have V4 := V0.below hbx4 V0.lt; have rx4 := hrx3.below hbx4 hrx3.lt; have HWx4 := Lib.hid (HWx3.out.below hbx4); have hzx4 := hbx4.size))
                    have HWx5 := Lib.hid (HWx4.out.below (Below.refl _ _).drew)
                    have k0 := V4.c1
                    have k1 := rx4.c0
                    have k2 := rx4.c1
                    have HCX := Lib.hid (((((hcq.trans (Chg.of hbx1)).trans hcx2).trans (Chg.of hbx3)).trans (Chg.of hbx4)).trans (Chg.of (bw := w3.heap.size) (g := g) (Below.refl x4.heap.size x4).drew))
                    have HCY := Lib.hid (((((Chg.of (bw := w3.heap.size) (g := g) hbx1).trans hcx2).trans (Chg.of hbx3)).trans (Chg.of hbx4)).trans (Chg.of (bw := w3.heap.size) (g := g) (Below.refl x4.heap.size x4).drew))
                    refine wp_region_held_drew (S := fun w' => w'.cell? ⟨w.heap.size, 1, none⟩ = some (.string (strB B)) ∧ w'.cell? ⟨x2.heap.size, 0, none⟩ = some (.int .i64 i) ∧ w'.cell? ⟨x2.heap.size, 1, none⟩ = some (.int .i64 q)) (by kernel_rfl) ⟨k0, k1, k2⟩ (fun hHeld => ?_)
                    refine wpAnyH_take (i := 0) (v := ?_) (by simp only [List.getElem?_toArray, List.getElem?_cons_succ, List.getElem?_cons_zero]; rfl) (by kernel_rfl) (by kernel_rfl) (by kernel_rfl) (by intro _ _ _ h; exact h) (Or.inl ⟨by rfl, ?_⟩) (by assumption) ?_
                    rotate_left
                    · intro w' hSw
                      obtain ⟨s0, s1, s2⟩ := hSw
                      go_simp
                      try with_reducible rfl
                    try simp only [Act.put, List.setIfInBounds_toArray, List.set_cons_zero, List.set_cons_succ]
                    refine wpAnyH_take (i := 1) (v := ?_) (by simp only [List.getElem?_toArray, List.getElem?_cons_succ, List.getElem?_cons_zero]; rfl) (by kernel_rfl) (by kernel_rfl) (by kernel_rfl) (by intro _ _ _ h; exact h) (Or.inl ⟨by rfl, ?_⟩) (by assumption) ?_
                    rotate_left
                    · intro w' hSw
                      obtain ⟨s0, s1, s2⟩ := hSw
                      go_simp
                      try with_reducible rfl
                    try simp only [Act.put, List.setIfInBounds_toArray, List.set_cons_zero, List.set_cons_succ]
                    refine wpAnyH_take (i := 2) (v := ?_) (by simp only [List.getElem?_toArray, List.getElem?_cons_succ, List.getElem?_cons_zero]; rfl) (by kernel_rfl) (by kernel_rfl) (by kernel_rfl) (by intro _ _ _ h; exact h) (Or.inl ⟨by rfl, ?_⟩) (by assumption) ?_
                    rotate_left
                    · intro w' hSw
                      obtain ⟨s0, s1, s2⟩ := hSw
                      go_simp
                      try with_reducible rfl
                    try simp only [Act.put, List.setIfInBounds_toArray, List.set_cons_zero, List.set_cons_succ]
                    refine wpAnyH_take (i := 3) (v := ?_) (by simp only [List.getElem?_toArray, List.getElem?_cons_succ, List.getElem?_cons_zero]; rfl) (by kernel_rfl) (by kernel_rfl) (by kernel_rfl) (by intro _ _ _ h; exact h) (Or.inl ⟨by rfl, ?_⟩) (by assumption) ?_
                    rotate_left
                    · intro w' hSw
                      obtain ⟨s0, s1, s2⟩ := hSw
                      go_simp
                      try with_reducible rfl
                    try simp only [Act.put, List.setIfInBounds_toArray, List.set_cons_zero, List.set_cons_succ]
                    refine wpAnyH_take (i := 4) (v := ?_) (by simp only [List.getElem?_toArray, List.getElem?_cons_succ, List.getElem?_cons_zero]; rfl) (by kernel_rfl) (by kernel_rfl) (by kernel_rfl) (by intro _ _ _ h; exact h) (Or.inl ⟨by rfl, ?_⟩) (by assumption) ?_
                    rotate_left
                    · intro w' hSw
                      obtain ⟨s0, s1, s2⟩ := hSw
                      go_simp
                      try with_reducible rfl
                    try simp only [Act.put, List.setIfInBounds_toArray, List.set_cons_zero, List.set_cons_succ]
                    refine wpAnyH_take (i := 5) (v := ?_) (by simp only [List.getElem?_toArray, List.getElem?_cons_succ, List.getElem?_cons_zero]; rfl) (by kernel_rfl) (by kernel_rfl) (by kernel_rfl) (by intro _ _ _ h; exact h) (Or.inl ⟨by rfl, ?_⟩) (by assumption) ?_
                    rotate_left
                    · intro w' hSw
                      obtain ⟨s0, s1, s2⟩ := hSw
                      go_simp
                      try with_reducible rfl
                    try simp only [Act.put, List.setIfInBounds_toArray, List.set_cons_zero, List.set_cons_succ]
                    refine wpAnyH_ready (rs := [6]) (by kernel_rfl) (by simp) ?_
                    refine AllReadyH.cons (by simp only [List.getElem?_toArray, List.getElem?_cons_succ, List.getElem?_cons_zero]; rfl) (fun K hK => ?_) AllReadyH.nil
                    go_simp
                    refine (lay_any w2.heap.size w3.heap.size g m Bq (slotB l B s' n) i q (posN m i q) (lenN m i) _ HWx5.out him (by omega) hn64 rfl rfl HFIT.out HM0.out).mono ?_
                    rintro e x5 ⟨rfl, hWx6, hcx5⟩
                    have HWx6 := Lib.hid hWx6
                    clear hWx6
                    have l0 := (hcx5.cell (p := ⟨w.heap.size, 1, none⟩) (show w.heap.size < x4.heap.size by omega) (by show w.heap.size ≠ _; omega) (by show w.heap.size ≠ _; omega)).trans k0
                    have l1 := (hcx5.cell (p := ⟨x2.heap.size, 0, none⟩) (show x2.heap.size < x4.heap.size by omega) (by show x2.heap.size ≠ _; omega) (by show x2.heap.size ≠ _; omega)).trans k1
                    have l2 := (hcx5.cell (p := ⟨x2.heap.size, 1, none⟩) (show x2.heap.size < x4.heap.size by omega) (by show x2.heap.size ≠ _; omega) (by show x2.heap.size ≠ _; omega)).trans k2
                    have HCX5 := Lib.hid (HCX.out.trans hcx5)
                    have HSN5 := Lib.hid (HSN.out.same (w' := x5) (fun kk off e => ((HCY.out.trans hcx5).block kk (HSN.out.blk kk off e).2 (by have := (HSN.out.blk kk off e).1; omega) (by have := (HSN.out.blk kk off e).1; omega))))
                    go_wp2_with fail
                    refine hK.out _ _ ⟨l0, l1, l2⟩ (fun hHeld => ?_)
                    clear hK
                    try simp only [Act.put, List.setIfInBounds_toArray, List.set_cons_zero, List.set_cons_succ]
                    refine wpAnyH_done (by kernel_rfl) ?_ _
                    clear hHeld
                    have hown5 : x5.ownsRow wo.heap.size 24 2 (.slice sq j sqcap) j (slC sj) := by have := HSN5.out; unfold SlotsNew at this; rw [HSK.out] at this; exact this
                    have HOWN5 := Lib.hid hown5
                    clear hown5
                    go_wp2_with (at_builtin; refine list_slot rfl (.tmp 93) (.tmp 95) rfl wo.heap.size _ j sj i q HSK.out rfl HOWN5.out rfl (by omega) (by have := HCX5.out.size; omega) ?_; intro so9 scap9 w9 hs9 hg9 hb9; have HS9 := Lib.hid hs9; have HG9 := Lib.hid hg9; clear hs9 hg9)
                    go_roundw
                    case rel =>
                      have hW9 : WorkAt w9 w2.heap.size w3.heap.size g m (layB Bq (posN m i q) (lenN m i) (slotB l B s' n)) :=
                        (HWx6.out.below ((Below.refl _ _).alloc (Nat.le_refl _) (.cells #[.int .i64 i, .int .i64 q] 24))).grown (World.ownsRow.alloc HOWN5.out _) HG9.out (by omega) (by omega)
                      exact ⟨j + 1, m, _, sj ++ [((i : Int), (q : Int))], by have := HLT3.out; omega, by go_num, ⟨so9, scap9, rfl, HS9.out⟩, by rw [List.length_append, HSK.out]; rfl, hW9, HTK.out.ok, hml, by rw [layB_len _ HFIT.out]; exact HBM.out, HPN.out, HCX5.out.more hb9⟩
                    case measure => have := HLT3.out; simp [intOf]; omega
                  · have hE := take_err he
                    obtain ⟨e0, he0⟩ : ∃ e0, e0 = (takeL lq c).2.2 := ⟨_, rfl⟩
                    have HPN : Hid (packS l B chs = (l, B, [], e0)) := by
                      show _ = _
                      have h1 : packOne l B lj Bj ss [] = (lq, Bq, [], e0) := by
                        rw [HPq.out, packOne_err HLT3.out s' n HPP.out (by rw [← HC.out]; exact he), ← HC.out, he0]
                      rw [HPS.out, HPj.out, HPA.out, h1, if_neg (by rw [he0]; exact he)]
                      unfold packEnd
                      rw [if_neg (by rw [he0]; exact he)]
                    rw [← he0] at hE he
                    have HE := Lib.hid hE
                    have hne0 : (e0 != 0) = true := by simpa using he
                    clear he hE he0
                    go_wp2_with (first
                      | (refine wpList_store2 rfl 24 size24 (.tmp 17) (.tmp 61) rfl wi.heap.size (.int .i64 s') (.int .i64 n) (.int .i64 0) (.int .i64 0) rfl rfl rfl rfl (Row2.new wi 24 _ _) ?_; intro x1 hrx1 honx1; have hbx1 := honx1.fresh; have X0 := Ri0.below hbx1 Ri0.lt; have X1 := Ri1.below hbx1 Ri1.lt; have x0 := X0.c0; have x1' := X0.c1; have y0 := hrx1.c0; have y1 := hrx1.c1; have g5 := (hbx1.cell (p := ⟨bs, offs + s' * 2, none⟩) hbs).trans g4; have HWx1 := Lib.hid (HWq.out.below hbx1); have HTx1 := Lib.hid (HTi.out.grow hbx1); have hzx1 := hrx1.lt)
                      | (go_at_call 47; refine (wtake_any w2.heap.size w3.heap.size g lq lq Bq c 0 0 e0 x1 HWx1.out HE.out hlq5 hwq HTx1.out).mono ?_; rintro e x2 ⟨rfl, hWx2, hcx2⟩; have hltx2 := hWx2.lt; have hglx2 := hWx2.row.lt; have hzx2 := hcx2.size; clear hWx2; have Z0 := X0.chg hcx2 (by omega) (by omega); have Z1 := X1.chg hcx2 (by omega) (by omega))
                      | (refine wpList_store2 rfl 24 size24 (.tmp 18) (.tmp 72) rfl x2.heap.size (.int .i64 0) (.int .i64 0) (.int .i64 0) (.int .i64 0) rfl rfl rfl rfl (Row2.new x2 24 _ _) ?_; intro x3 hrx3 honx3; have hbx3 := honx3.fresh; have hzx3 := hrx3.lt; have V0 := Z0.below hbx3 Z0.lt; have V1 := Z1.below hbx3 Z1.lt; have v0 := V0.c0; have v1 := V0.c1; have HB23 := Lib.hid (hb2i.trans (((hbx1.mono (by omega)).trans (hcx2.below (by omega) (by omega) (by omega))).trans (hbx3.mono (by omega)))); have HSx3 := Lib.hid (HS2.out.below HB23.out))
                      | (go_at_call 45; refine (ssame_any _ l cap B x3 hl HSx3.out hn).mono ?_; rintro e w6 ⟨⟨v6, rfl, hS6⟩, hb6⟩; have R16 := V1.below hb6 V1.lt; have hz6 := hb6.size; obtain ⟨ao6, cap6, rfl, hn6⟩ := hS6)
                      | (refine wpList_store2 rfl 51 size51 (.tmp 4) (.tmp 77) rfl (w.heap.size + 1) _ _ _ _ rfl rfl rfl rfl R16 ?_; intro w7 hr7 hon7))
                    have hB7 : Below w.heap.size w w7 := hon7.below ((hb1.link hb2).link (HB23.out.trans (hb6.mono (by omega)))) (by omega)
                    refine bodyPost_ret (res3_51 rfl _ _ (w.heap.size + 1) _ _ hr7 rfl) rfl ?_
                    rw [HPN.out]
                    exact ⟨⟨_, _, rfl, StoreR.mono (StoreR.only ⟨ao6, cap6, rfl, hn6⟩ hon7 (by omega)) (by omega), HNIL.out _⟩, hB7⟩
                · have hi3 : ¬ ((j : Int) < (ss.length : Int)) := by omega
                  have HPN : Hid (packAll l B lk Bk chs [] = packAll l B lq Bq (chs.drop (kk + 1)) (td ++ [sj])) := by
                    show _ = _
                    have h1 : packOne l B lj Bj ss [] = (lq, Bq, sj, 0) := by
                      rw [HPq.out, List.drop_of_length_le (by omega)]
                      rfl
                    rw [HPj.out, HPA.out, h1, if_pos rfl]
                  have hown := HTD.out.chg hcq (by omega) (by omega)
                  have HTD2 := Lib.hid hown
                  have hcn : ChainNew wi w5.heap.size (.slice sq j sqcap) sj := ⟨sq, sqcap, by rw [HSK.out], HSN.out.mono (by omega)⟩
                  have HCN := Lib.hid hcn
                  clear hown hcn
                  go_wp2_with (at_builtin; refine list_chain rfl (.tmp 98) (.tmp 100) rfl w5.heap.size _ _ kk td sj HTL.out rfl HTD2.out HCN.out rfl (by have := HLT.out; omega) (by omega) ?_; intro to9 tcap9 w9 hs9 hg9 hb9; have HS9 := Lib.hid hs9; have HG9 := Lib.hid hg9; clear hs9 hg9)
                  go_roundw
                  case rel =>
                    obtain ⟨vs, ho, _⟩ := HTD2.out
                    have hW9 : WorkAt w9 w2.heap.size w3.heap.size g lq Bq :=
                      (HWq.out.below ((Below.refl _ _).alloc (Nat.le_refl _) (.cells #[.slice sq j sqcap] 39))).grown' (World.ownsRow.alloc ho _) (by decide) HG9.out (by omega) (by omega)
                    exact ⟨kk + 1, lq, Bq, td ++ [sj], by have := HLT.out; omega, by go_num, ⟨to9, tcap9, rfl, HS9.out⟩, by rw [List.length_append, HTL.out]; rfl, hW9, HOq.out, hlq, hBq, HPN.out, (hcj.trans hcq).more hb9⟩
                  case measure => have := HLT.out; simp [intOf]; omega
            · have hi2 : ¬ ((kk : Int) < (chs.length : Int)) := by omega
              have HPN : Hid (packS l B chs = (lj, Bj, td, 0)) := by
                show _ = _
                rw [HPS.out, HPj.out, List.drop_of_length_le (by omega)]
                rfl
              go_wp2_with (first
                | (go_at_call 49; refine (end_any w2.heap.size w3.heap.size g lj Bj wo HWj.out).mono ?_; rintro e w6 ⟨⟨v6, rfl, hS6⟩, hb6⟩; have Re1 := Ro1.below hb6 Ro1.lt; have hz6 := hb6.size; obtain ⟨ao6, cap6, rfl, hn6⟩ := hS6)
                | (refine wpList_store2 rfl 51 size51 (.tmp 4) (.tmp 103) rfl (w.heap.size + 1) _ _ _ _ rfl rfl rfl rfl Re1 ?_; intro w9 hr9 hon9))
              have hB9 : Below w.heap.size w w9 := hon9.below (HB0o.out.trans (hb6.mono (by have := HB0o.out.size; omega))) (by omega)
              have hs9 : ChainsNew w9 w.heap.size (.slice to kk tcap) td := by
                have h1 := HTD.out.below hb6
                obtain ⟨vs, h2, h3⟩ := h1
                refine ⟨vs, World.ownsRow.mono (own_same h2 (fun q hq _ => hon9.heap q (by omega))) (by omega), fun i hi => ?_⟩
                obtain ⟨so, scap, h4, h5⟩ := h3 i hi
                exact ⟨so, scap, h4, (h5.same (fun q off e => hon9.heap q (by have := (h5.blk q off e).1; omega))).mono (by omega)⟩
              have HLJ := Lib.hid hlj
              refine bodyPost_ret (res3_51 rfl _ _ (w.heap.size + 1) _ _ hr9 rfl) rfl ?_
              rw [HPN.out]
              have hfv : Value.agg #[.slice ao6 l.length cap6, .string (strB Bj)] = .agg #[.slice ao6 lj.length cap6, .string (strB Bj)] := by rw [hlj]
              exact ⟨⟨_, _, rfl, StoreR.mono (StoreR.only ⟨ao6, cap6, hfv, hn6⟩ hon9 (by omega)) (by omega), hs9⟩, hB9⟩
        · have HPS : Hid (packS l B chs = (l, B, [], 120)) := if_neg (fun x => hh (by have := x.2.2; rw [HDG.out] at this; exact this))
          have hne : (((heldR lk : Nat) : Int) != 0) = true := by
            simp
            omega
          obtain ⟨hd, hhd⟩ : ∃ hd, hd = heldR lk := ⟨_, rfl⟩
          have HHR : Hid (heldR lk = hd) := hhd.symm
          rw [← hhd] at hne
          clear hh hhd
          go_wp2_with (first
            | (go_at_call 22; refine (held_lit l.length lk hd aok capk wr hlk HHR.out hwk HSk.out).mono ?_; rintro e w5 ⟨rfl, hb5⟩; have R05 := Rr0.below hb5 Rr0.lt; have R15 := Rr1.below hb5 Rr1.lt; have hz5 := hb5.size; have b05 := R05.c0; have b15 := R05.c1; have hc25 : Below w2.heap.size w2 w5 := hb2r.trans (hb5.mono (by omega)); have HS5 := Lib.hid (HS2.out.below hc25))
            | (go_at_call 45; refine (ssame_any ao l cap B w5 hl HS5.out hn).mono ?_; rintro e w6 ⟨⟨v6, rfl, hS6⟩, hb6⟩; have R16 := R15.below hb6 R15.lt; have hz6 := hb6.size; obtain ⟨ao6, cap6, rfl, hn6⟩ := hS6)
            | (refine wpList_store2 rfl 51 size51 (.tmp 4) (.tmp 48) rfl (w.heap.size + 1) _ _ _ _ rfl rfl rfl rfl R16 ?_; intro w7 hr7 hon7))
          have hB7 : Below w.heap.size w w7 := hon7.below ((hb1.link hb2).link (hc25.trans (hb6.mono (by omega)))) (by omega)
          refine bodyPost_ret (res3_51 rfl _ _ (w.heap.size + 1) _ _ hr7 rfl) rfl ?_
          rw [HPS.out]
          exact ⟨⟨_, _, rfl, StoreR.mono (StoreR.only ⟨ao6, cap6, rfl, hn6⟩ hon7 (by omega)) (by omega), HNIL.out _⟩, hB7⟩
  · have HR : packS l B chs = (l, B, [], 120) := if_neg (fun x => hok x.1)
    rw [HR]
    clear HR
    have HD := Lib.hid (decide_eq_false hok)
    clear hok
    go_enter Tryd.func33, Tryd.ntmps33
    go_wp2_with (first
      | (rw [← HW1.out]; go_at_call 27; refine (scheck_any ao l cap (strB B) _ hwf HS.out hl).mono ?_; rintro e w2 ⟨rfl, hb2⟩; rw [HD.out]; have R02 := R0.below hb2 R0.lt; have R12 := R1.below hb2 R1.lt; have hz2 := hb2.size; have b02 := R02.c0; have b12 := R02.c1)
      | (go_at_call 45; refine (ssame_any ao l cap B w2 hl (HS.out.below hb2) hn).mono ?_; rintro e w6 ⟨⟨v6, rfl, hS6⟩, hb6⟩; have R16 := R12.below hb6 R12.lt; have hz6 := hb6.size; obtain ⟨ao6, cap6, rfl, hn6⟩ := hS6)
      | (refine wpList_store2 rfl 51 size51 (.tmp 4) (.tmp 26) rfl (w.heap.size + 1) _ _ _ _ rfl rfl rfl rfl R16 ?_; intro w7 hr7 hon7))
    have hB7 : Below w.heap.size w w7 := hon7.below ((hb1.link hb2).link hb6) (by omega)
    exact bodyPost_ret (res3_51 rfl _ _ (w.heap.size + 1) _ _ hr7 rfl) rfl ⟨⟨_, _, rfl, StoreR.mono (StoreR.only ⟨ao6, cap6, rfl, hn6⟩ hon7 (by omega)) (by omega), HNIL.out _⟩, hB7⟩
end Go.Proofs.YtfnokklcbmipgaaDoor
