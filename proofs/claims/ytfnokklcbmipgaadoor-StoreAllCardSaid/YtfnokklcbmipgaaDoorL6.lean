/- ArenaFirst: the law and the walk. -/
import Derived.Test.YtfnokklcbmipgaaDoorL3b
namespace Go.Proofs.YtfnokklcbmipgaaDoor
open Go.RowKit Plain

theorem fz_eq {u n at_ : Nat} (hn : n ≤ 64) (hu : u < 2 ^ n) (hb : u.testBit at_ = false) (hlt : at_ < n) (hall : ∀ j, j < at_ → u.testBit j = true) : u ≠ 2 ^ n - 1 ∧ fz u = at_ := by
  have hne : u ≠ 2 ^ n - 1 := by
    intro e
    rw [e, Nat.testBit_two_pow_sub_one] at hb
    simp at hb
    omega
  obtain ⟨h1, h2, h3⟩ := fz_spec u n hn hu hne
  refine ⟨hne, ?_⟩
  rcases Nat.lt_trichotomy (fz u) at_ with h | h | h
  · rw [hall _ h] at h2; cases h2
  · exact h
  · rw [h3 _ h] at hb; cases hb
theorem full_of {u n : Nat} (hu : u < 2 ^ n) (hall : ∀ j, j < n → u.testBit j = true) : u = 2 ^ n - 1 := by
  refine Nat.eq_of_testBit_eq fun i => ?_
  rw [Nat.testBit_two_pow_sub_one]
  by_cases hi : i < n
  · rw [hall i hi]; simp [hi]
  · rw [Nat.testBit_lt_two_pow (Nat.lt_of_lt_of_le hu (Nat.pow_le_pow_right (by decide) (by omega)))]
    simp [hi]
theorem fz_zero : fz 0 = 0 := by decide +kernel
theorem take_some {l : Segs} {c : Int} {i : Nat} (hok : okS l) (hb : bytesC c ≠ 0) (h : seek l c = some i) : (takeL l c).2 = (((i : Int), ((fz (l.getD i (0, 0)).2 : Nat) : Int)), 0) := by
  unfold takeL
  rw [if_neg (fun h => h hok), if_neg hb, h]
theorem take_none {l : Segs} {c : Int} (hok : okS l) (hb : bytesC c ≠ 0) (h : seek l c = none) : (takeL l c).2 = ((0, 0), 110) := by
  unfold takeL
  rw [if_neg (fun h => h hok), if_neg hb, h]
theorem first_hit {l : Segs} {c : Int} {i a : Nat} (hok : okS l) (hc : 0 ≤ c ∧ c ≤ 3) (hi : i < l.length) (h0 : (l.take i).findIdx? (openC c) = none) (hcl : (l.getD i (0, 0)).1 = c)
    (ha : a < nS c) (hb : (l.getD i (0, 0)).2.testBit a = false) (hall : ∀ j, j < a → (l.getD i (0, 0)).2.testBit j = true) : (takeL l c).2 = (((i : Int), (a : Int)), 0) := by
  have hcm : c ≠ -1 := by omega
  have hbn : bytesC c ≠ 0 := by unfold bytesC; (repeat' split) <;> omega
  have hokg := hok.2 _ (getD_mem hi)
  have hu : (l.getD i (0, 0)).2 < 2 ^ nS c := by
    generalize l.getD i (0, 0) = g at *
    obtain ⟨cc, u⟩ := g
    have hcl : cc = c := hcl
    subst hcl
    exact ((okSeg_class hcm u).1 hokg).2
  obtain ⟨h1, h2⟩ := fz_eq (nS_le c) hu hb ha hall
  have hop : openC c (l.getD i (0, 0)) = true := by
    unfold openC
    rw [decide_eq_true hcl, decide_eq_true (show (l.getD i (0, 0)).2 ≠ allN c from h1)]; rfl
  have hs : seek l c = some i := by
    unfold seek
    rw [find_hit (openC c) l i hi h0 hop]
  rw [take_some hok hbn hs, h2]
theorem next_open {l : Segs} {c : Int} {i : Nat} (hok : okS l) (hc : 0 ≤ c ∧ c ≤ 3) (hi : i < l.length) (h0 : (l.take i).findIdx? (openC c) = none) (h : (l.getD i (0, 0)).1 = c → ∀ j, j < nS c → (l.getD i (0, 0)).2.testBit j = true) : (l.take (i + 1)).findIdx? (openC c) = none := by
  have hcm : c ≠ -1 := by omega
  have hokg := hok.2 _ (getD_mem hi)
  have hop : openC c (l.getD i (0, 0)) = false := by
    unfold openC
    by_cases hcl : (l.getD i (0, 0)).1 = c
    · have hu : (l.getD i (0, 0)).2 < 2 ^ nS c := by
        generalize l.getD i (0, 0) = g at *
        obtain ⟨cc, u⟩ := g
        have hcl : cc = c := hcl
        subst hcl
        exact ((okSeg_class hcm u).1 hokg).2
      rw [decide_eq_false (fun hne : (l.getD i (0, 0)).2 ≠ allN c => hne (full_of hu (h hcl))), Bool.and_false]
    · rw [decide_eq_false hcl, Bool.false_and]
  rw [find_snoc _ _ _ hi, h0, hop]; rfl
theorem free_hit {l : Segs} {c : Int} {i : Nat} (hok : okS l) (hc : 0 ≤ c ∧ c ≤ 3) (hi : i < l.length) (h0 : l.findIdx? (openC c) = none) (h1 : (l.take i).findIdx? freeC = none) (hcl : (l.getD i (0, 0)).1 = -1) : (takeL l c).2 = (((i : Int), 0), 0) := by
  have hbn : bytesC c ≠ 0 := by unfold bytesC; (repeat' split) <;> omega
  have hs : seek l c = some i := by
    unfold seek
    rw [h0]
    exact find_hit freeC l i hi h1 (decide_eq_true hcl)
  have hokg := hok.2 _ (getD_mem hi)
  have h00 : (l.getD i (0, 0)).2 = 0 := by
    generalize l.getD i (0, 0) = g at *
    obtain ⟨cc, u⟩ := g
    have hcl : cc = -1 := hcl
    subst hcl
    exact (okSeg_free u).1 hokg
  rw [take_some hok hbn hs, h00, fz_zero]; rfl
theorem free_next {l : Segs} {i : Nat} (hi : i < l.length) (h1 : (l.take i).findIdx? freeC = none) (hcl : ¬ (l.getD i (0, 0)).1 = -1) : (l.take (i + 1)).findIdx? freeC = none := by
  rw [find_snoc _ _ _ hi, h1, show freeC (l.getD i (0, 0)) = false from decide_eq_false hcl]; rfl
theorem no_place {l : Segs} {c : Int} (hok : okS l) (hc : 0 ≤ c ∧ c ≤ 3) (h0 : l.findIdx? (openC c) = none) (h1 : l.findIdx? freeC = none) : (takeL l c).2 = ((0, 0), 110) := by
  have hbn : bytesC c ≠ 0 := by unfold bytesC; (repeat' split) <;> omega
  exact take_none hok hbn (by unfold seek; rw [h0]; exact h1)
attribute [local irreducible] Go.Calls
set_option linter.unusedSimpArgs false in
set_option maxRecDepth 20000 in
set_option maxHeartbeats 4000000 in
theorem first_walk (ao : Option Addr) (l : Segs) (cap : Nat) (x : Int) (w : World) (hx : 0 ≤ x ∧ x < 256) (hwf : Wf l) (h : SegAt w ao l) (hn : ao = none → cap = 0) (hT : TabAt w) :
    Calls Tryd.prog 6 #[.slice ao l.length cap, .int .u8 x] w fun e w' => e = .returned (.bool true) ∧ Below w.heap.size w w' := by
  have H := Lib.hid h
  have gd := guard24
  clear h
  by_cases hlen : l.length ≤ 100
  · have hd : decide ((100 : Int) < (l.length : Int)) = false := by rw [decide_eq_false_iff_not]; omega
    by_cases hok : okS l
    · have HD := Lib.hid (decide_eq_true hok)
      have HOK := Lib.hid hok
      obtain ⟨c, hxc⟩ : ∃ c, x % 4 = c := ⟨_, rfl⟩
      have hc : 0 ≤ c ∧ c ≤ 3 := by omega
      obtain ⟨m, ⟨s, a⟩, e0, htk⟩ : ∃ m sa e, takeL l c = (m, sa, e) := ⟨_, _, _, rfl⟩
      have HTK := Lib.hid htk
      have HH := Lib.hid (fun i a hi h0 hcl ha hb hall => first_hit (l := l) (c := c) (i := i) (a := a) hok hc hi h0 hcl ha hb hall)
      have HN := Lib.hid (fun i hi h0 h => next_open (l := l) (c := c) (i := i) hok hc hi h0 h)
      have HF := Lib.hid (fun i hi h0 h1 hcl => free_hit (l := l) (c := c) (i := i) hok hc hi h0 h1 hcl)
      have HP := Lib.hid (fun h0 h1 => no_place (l := l) (c := c) hok hc h0 h1)
      rw [htk] at HH HF HP
      have hnp := nS_le c
      clear hok htk
      go_enter Tryd.func6, Tryd.ntmps6
      go_wp2_with (first
        | (go_at_call 13; refine (awake_any _ hT).mono ?_; rintro e w1 ⟨rfl, hb1⟩; have H1 := H.out.below hb1; have T1 := hT.grow hb1)
        | (go_at_call 14; refine (check_any ao l _ _ hwf H1).mono ?_; rintro e w2 ⟨rfl, hb2⟩; rw [HD.out]; have H2 := H1.below hb2; have T2 := T1.grow hb2)
        | (go_at_call 15; refine (take_gen l c m s a e0 ao cap w2 HTK.out (by omega) hwf H2 hn T2).mono ?_; rintro e w3 ⟨⟨ao3, cap3, rfl, hs3⟩, hb3⟩; have H3 := H2.below hb3)
        | (refine wpList_storeSlot rfl (.tmp 8) (.tmp 31) rfl _ s a 0 0 rfl rfl (SlotRow.new w3 0 0) ?_; intro w4 hr4 hon4; have hb4 := hon4.fresh; have H4 := H3.below hb4))
      have K4 := (hb1.link hb2).link (hb3.link hb4)
      clear hb1 hb2 hb3 hb4 hon4 H1 H2 H3 hs3 T1 T2
      go_loopw [10] (fun i wr => ∃ k : Nat, k ≤ l.length ∧ i = .int .i64 k ∧ (l.take k).findIdx? (openC c) = none ∧ Below w4.heap.size w4 wr) (fun i _ => l.length - (intOf i).toNat)
      case atStart => exact ⟨0, Nat.zero_le _, rfl, rfl, Below.refl _ _⟩
      case round =>
        obtain ⟨k, hk, rfl, hopen, hbel⟩ := hrel
        have Hr := H4.below hbel
        have hrr := hr4.below hbel hr4.lt
        have HO := Lib.hid hopen
        clear hopen
        by_cases hlt : k < l.length
        · have hi : (k : Int) < (l.length : Int) := by omega
          obtain ⟨cc, u, hcu⟩ : ∃ cc u, (cc, u) = l.getD k (0, 0) := ⟨_, _, rfl⟩
          have HCU := Lib.hid hcu
          clear hcu
          go_wp2_with fail
          rename World => wo
          go_loopw [11] (fun i wi => ∃ j : Nat, j ≤ nS c ∧ i = .int .i64 j ∧ (cc = c → ∀ b, b < j → u.testBit b = true) ∧ (cc ≠ c → j = 0) ∧ Below wo.heap.size wo wi) (fun i _ => nS c - (intOf i).toNat)
          case atStart => exact ⟨0, Nat.zero_le _, rfl, fun _ b hb => by omega, fun _ => rfl, Below.refl _ _⟩
          case round =>
            obtain ⟨j, hj, rfl, hall, hz, hb2⟩ := hrel
            have HA := Lib.hid hall
            have Hr2 := Hr.below hb2
            obtain ⟨b, off, rfl, _, hcell⟩ := Hr2.cell k hlt
            obtain ⟨g1, g2⟩ := hcell k hlt
            rw [← HCU.out] at g1 g2
            have g1 : wr.cell? ⟨b, off + k * 2, none⟩ = some (.int .i64 cc) := g1
            clear hall hcell g2
            by_cases hcc : cc = c
            · have hcb : (cc == c) = true := by simpa using hcc
              have HCC := Lib.hid hcc
              by_cases hjn : j < nS c
              · have hj2 : (j : Int) < (nS c : Int) := by omega
                have HW := Lib.hid hwf
                by_cases hbit : u.testBit j = true
                · have HB := Lib.hid hbit
                  have HHAS : Hid (decide (okS l ∧ hasL l k j) = true) := decide_eq_true ⟨HOK.out, (hasL_nat _ _ _).2 ⟨hlt, by rw [← HCU.out]; exact hbit⟩⟩
                  clear hbit hz hcc
                  go_wp2_with (first
                    | (go_at_call 23; refine (rslots_any _ _).mono ?_; rintro e w5 ⟨rfl, rfl⟩; rw [slotsC_nS])
                    | (go_at_call 18; refine (has_lit l.length l k j true _ cap _ rfl HHAS.out HW.out Hr2).mono ?_; rintro e w6 ⟨rfl, hb6⟩))
                  go_roundw
                  case rel => exact ⟨j + 1, by omega, by go_num, (fun hcc b hb => by
                    rcases (by omega : b < j ∨ b = j) with h | h
                    · exact HA.out hcc b h
                    · rw [h]; exact HB.out), (fun h => absurd HCC.out h), hb2.link hb6⟩
                  case measure => simp [intOf]; omega
                · have hbf : u.testBit j = false := Bool.eq_false_iff.2 hbit
                  have hres := HH.out k j hlt HO.out (by rw [← HCU.out]; exact hcc) hjn (by rw [← HCU.out]; exact hbf) (fun b hb => by rw [← HCU.out]; exact HA.out hcc b hb)
                  simp only [Prod.mk.injEq] at hres
                  obtain ⟨⟨rfl, rfl⟩, rfl⟩ := hres
                  have HHAS : Hid (decide (okS l ∧ hasL l k j) = false) := decide_eq_false (fun h => by
                    have := ((hasL_nat _ _ _).1 h.2).2
                    rw [← HCU.out] at this
                    exact hbit this)
                  have q : ∀ w, (binOp .eql 24 (.agg #[.int .i64 k, .int .i64 j]) (.agg #[.int .i64 k, .int .i64 j])).run Tryd.prog w = .ok (.bool true) w := fun w => by rw [eql_slots, decide_eq_true ⟨rfl, rfl⟩]
                  have hrr2 := hrr.below hb2 hrr.lt
                  clear hbit hbf hz hcc
                  go_wp2_with (first
                    | (go_at_call 23; refine (rslots_any _ _).mono ?_; rintro e w5 ⟨rfl, rfl⟩; rw [slotsC_nS])
                    | (go_at_call 18; refine (has_lit l.length l k j false _ cap _ rfl HHAS.out HW.out Hr2).mono ?_; rintro e w6 ⟨rfl, hb6⟩; obtain ⟨c80, c81⟩ := (hrr2.below hb6 hrr2.lt).box))
                  go_ret
                  exact ⟨rfl, K4.link (hbel.link (hb2.link hb6))⟩
              · have hj2 : decide ((j : Int) < (nS c : Int)) = false := by rw [decide_eq_false_iff_not]; omega
                have HNX : Hid ((l.take (k + 1)).findIdx? (openC c) = none) := HN.out k hlt HO.out (fun _ b hb => by rw [← HCU.out]; exact HA.out hcc b (by omega))
                clear hz hcc
                go_wp2_with (first
                  | (go_at_call 23; refine (rslots_any _ _).mono ?_; rintro e w5 ⟨rfl, rfl⟩; rw [slotsC_nS]))
                go_roundw
                case rel => exact ⟨k + 1, by omega, by go_num, HNX.out, hbel.link hb2⟩
                case measure => simp [intOf]; omega
            · have hcb : (cc == c) = false := by simpa using hcc
              obtain rfl := hz hcc
              have hpos : 0 < nS c := nS_pos.2 hc
              have hj2 : (0 : Int) < (nS c : Int) := by omega
              have HNX : Hid ((l.take (k + 1)).findIdx? (openC c) = none) := HN.out k hlt HO.out (fun h => absurd (by rw [← HCU.out] at h; exact h) hcc)
              clear hz hcc
              go_wp2_with (first
                | (go_at_call 23; refine (rslots_any _ _).mono ?_; rintro e w5 ⟨rfl, rfl⟩; rw [slotsC_nS]))
              go_roundw
              case rel => exact ⟨k + 1, by omega, by go_num, HNX.out, hbel.link hb2⟩
              case measure => simp [intOf]; omega
        · have hi : ¬ ((k : Int) < (l.length : Int)) := by omega
          have HO2 : Hid (l.findIdx? (openC c) = none) := by
            have h := HO.out
            rwa [List.take_of_length_le (by omega)] at h
          have KB := K4.link hbel
          clear HO hbel
          go_wp2_with fail
          rename World => wo
          go_loopw [12] (fun i wi => ∃ j : Nat, j ≤ l.length ∧ i = .int .i64 j ∧ (l.take j).findIdx? freeC = none ∧ wo = wi) (fun i _ => l.length - (intOf i).toNat)
          case atStart => exact ⟨0, Nat.zero_le _, rfl, rfl, rfl⟩
          case round =>
            obtain ⟨j, hj, rfl, hfree, rfl⟩ := hrel
            have HFR := Lib.hid hfree
            clear hfree
            by_cases hjl : j < l.length
            · have hj2 : (j : Int) < (l.length : Int) := by omega
              obtain ⟨b, off, rfl, _, hcell⟩ := Hr.cell j hjl
              obtain ⟨g1, g2⟩ := hcell j hjl
              obtain ⟨cc, u, hcu⟩ : ∃ cc u, (cc, u) = l.getD j (0, 0) := ⟨_, _, rfl⟩
              rw [← hcu] at g1 g2
              have g1 : wo.cell? ⟨b, off + j * 2, none⟩ = some (.int .i64 cc) := g1
              by_cases hcc : cc = -1
              · have hres := HF.out j hjl HO2.out HFR.out (by rw [← hcu]; exact hcc)
                simp only [Prod.mk.injEq] at hres
                obtain ⟨⟨rfl, rfl⟩, rfl⟩ := hres
                have hcb : (cc == -1) = true := by simpa using hcc
                have q : ∀ w, (binOp .eql 24 (.agg #[.int .i64 j, .int .i64 0]) (.agg #[.int .i64 j, .int .i64 0])).run Tryd.prog w = .ok (.bool true) w := fun w => by rw [eql_slots, decide_eq_true ⟨rfl, rfl⟩]
                obtain ⟨c80, c81⟩ := hrr.box
                clear hcc hcu hcell g2
                go_wp2_with fail
                go_ret
                exact ⟨rfl, KB⟩
              · have hcb : (cc == -1) = false := by simpa using hcc
                have HNX := Lib.hid (free_next hjl HFR.out (by rw [← hcu]; exact hcc))
                clear hcc hcu hcell g2
                go_wp2_with fail
                go_roundw
                case rel => exact ⟨j + 1, by omega, by go_num, HNX.out, trivial⟩
                case measure => simp [intOf]; omega
            · have hj2 : ¬ ((j : Int) < (l.length : Int)) := by omega
              have hres := HP.out HO2.out (by have h := HFR.out; rwa [List.take_of_length_le (by omega)] at h)
              simp only [Prod.mk.injEq] at hres
              obtain ⟨_, rfl⟩ := hres
              go_wp2_with fail
              go_ret
              exact ⟨rfl, KB⟩
    · have HD := Lib.hid (decide_eq_false hok)
      clear hok
      go_enter Tryd.func6, Tryd.ntmps6
      go_wp2_with (first
        | (go_at_call 13; refine (awake_any _ hT).mono ?_; rintro e w1 ⟨rfl, hb1⟩)
        | (go_at_call 14; refine (check_any ao l _ _ hwf (H.out.below hb1)).mono ?_; rintro e w2 ⟨rfl, hb2⟩; rw [HD.out]))
      go_ret
      exact ⟨rfl, hb1.link hb2⟩
  · have hd : (100 : Int) < (l.length : Int) := by omega
    go_enter Tryd.func6, Tryd.ntmps6
    go_wp2_with (go_at_call 13; refine (awake_any _ hT).mono ?_; rintro e w1 ⟨rfl, hb1⟩)
    go_ret
    exact ⟨rfl, hb1⟩
end Go.Proofs.YtfnokklcbmipgaaDoor
