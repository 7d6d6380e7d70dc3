/- StoreNone: the walk. -/
import Derived.Test.YtfnokklcbmipgaaDoorW2
import Derived.BigQuiet
namespace Go.Proofs.YtfnokklcbmipgaaDoor
open Go.RowKit Plain

def onceN (ss : Slots) (i k : Nat) : Prop := (ss.take i).Nodup ∧ ∀ q ∈ ss.take k, q ≠ ss.getD i (0, 0)
noncomputable instance (ss : Slots) (i k : Nat) : Decidable (onceN ss i k) := Classical.propDecidable _
theorem once_zero (ss : Slots) (i : Nat) : onceN ss i 0 ↔ (ss.take i).Nodup := by simp [onceN]
theorem once_succ {ss : Slots} {i k : Nat} (hk : k < ss.length) : onceN ss i (k + 1) ↔ onceN ss i k ∧ ss.getD k (0, 0) ≠ ss.getD i (0, 0) := by
  unfold onceN
  rw [take_snocS ss k hk, and_assoc]
  refine and_congr_right fun _ => ?_
  simp only [List.mem_append, List.mem_singleton]
  constructor
  · intro h
    exact ⟨fun q hq => h q (.inl hq), h _ (.inr rfl)⟩
  · rintro ⟨h1, h2⟩ q (hq | rfl)
    · exact h1 q hq
    · exact h2
theorem once_end {ss : Slots} {i : Nat} (hi : i < ss.length) : onceN ss i i ↔ (ss.take (i + 1)).Nodup := by
  unfold onceN
  rw [take_snocS ss i hi, List.nodup_append]
  refine and_congr_right fun _ => ?_
  constructor
  · intro h
    refine ⟨by simp, fun q hq r hr => ?_⟩
    rw [List.mem_singleton.1 hr]
    exact h q hq
  · rintro ⟨_, h⟩ q hq
    exact h q hq _ (List.mem_singleton.2 rfl)
theorem all_succ {l : Segs} {ss : Slots} {i : Nat} (hi : i < ss.length) : allHas l (ss.take (i + 1)) ↔ allHas l (ss.take i) ∧ hasL l (ss.getD i (0, 0)).1 (ss.getD i (0, 0)).2 := by
  unfold allHas
  rw [take_snocS ss i hi]
  simp only [List.mem_append, List.mem_singleton]
  constructor
  · intro h
    exact ⟨fun q hq => h q (.inl hq), h _ (.inr rfl)⟩
  · rintro ⟨h1, h2⟩ q (hq | rfl)
    · exact h1 q hq
    · exact h2
/-- What is held while a slot is asked for. -/
def HasS (w0 : World) (b : Nat) (u : Value) (g o : Nat) (s a : Int) (ao : Option Addr) (l : Segs) (w : World) : Prop :=
  w.cell? ⟨b, 0, none⟩ = some u ∧ w.cell? ⟨g, o, none⟩ = some (.int .i64 s) ∧ w.cell? ⟨g, o + 1, none⟩ = some (.int .i64 a) ∧ SegAt w ao l ∧ Below w0.heap.size w0 w ∧ b < w.heap.size ∧ g < w.heap.size
theorem HasS.below {w0 w w' : World} {b g o : Nat} {u : Value} {s a : Int} {ao : Option Addr} {l : Segs} (h : HasS w0 b u g o s a ao l w) (hb : Below w.heap.size w w') : HasS w0 b u g o s a ao l w' :=
  ⟨(hb.cell (p := ⟨b, 0, none⟩) h.2.2.2.2.2.1).trans h.1, (hb.cell (p := ⟨g, o, none⟩) h.2.2.2.2.2.2).trans h.2.1, (hb.cell (p := ⟨g, o + 1, none⟩) h.2.2.2.2.2.2).trans h.2.2.1, h.2.2.2.1.below hb, h.2.2.2.2.1.link hb, Nat.lt_of_lt_of_le h.2.2.2.2.2.1 hb.size, Nat.lt_of_lt_of_le h.2.2.2.2.2.2 hb.size⟩
attribute [local irreducible] Go.Calls
set_option linter.unusedSimpArgs false in
set_option maxRecDepth 20000 in
set_option maxHeartbeats 8000000 in
theorem none12_walk (ao : Option Addr) (n : Nat) (l : Segs) (cap : Nat) (B : List UInt8) (so : Option Addr) (k : Nat) (ss : Slots) (scap : Nat) (size : Int) (w : World) (hln : l.length = n) (hsk : ss.length = k) (hwf : Wf l) (h : SegAt w ao l) (hn : ao = none → cap = 0) (hs : SlotsAt w so ss) (hT : TabAt w) :
    Calls Tryd.prog 9 #[.agg #[.slice ao n cap, .string (strB B)], .slice so k scap, .int .i64 size] w fun e w' => e = .returned (.bool true) ∧ Below w.heap.size w w' := by
  have R0 := Row2.new w 51 (.slice ao n cap) (.string (strB B))
  have hb0 : Below w.heap.size w (w.alloc (.cells #[.slice ao n cap, .string (strB B)] 51)) := (Below.refl _ _).alloc (Nat.le_refl _) _
  obtain ⟨w1, hw1⟩ : ∃ w1, w1 = w.alloc (.cells #[.slice ao n cap, .string (strB B)] 51) := ⟨_, rfl⟩
  rw [← hw1] at R0 hb0
  have HS := Lib.hid (h.below hb0)
  have HO := Lib.hid (hs.below hb0)
  have T1 := hT.grow hb0
  have HW1 := Lib.hid hw1
  have hz0 := hb0.size
  have gd2 := guard24
  clear h hs hw1
  by_cases hf : n ≤ 20 ∧ (strB B).size ≤ 12000
  · have HF := Lib.hid (decide_eq_true hf)
    have hn5 : n ≤ 5000 := by omega
    clear hf
    by_cases hk : k ≤ 100
    · have HK := Lib.hid (decide_eq_true hk)
      by_cases hok : okSt l (strB B)
      · have HD := Lib.hid (decide_eq_true hok)
        have HN := Lib.hid (none_law ss size hok)
        have HOK := Lib.hid hok
        have HSK := Lib.hid hsk
        clear hok hsk
        go_enter Tryd.func9, Tryd.ntmps9
        go_wp2_with (first
          | (rw [← HW1.out]; go_at_call 24; refine (awake12_any w1 T1).mono ?_; rintro e w2 ⟨rfl, hb2⟩; have hz2 := hb2.size; have r2 := R0.below hb2 R0.lt; have b0 := r2.c0; have b1 := r2.c1; have T2 := T1.grow hb2; have HS2 := Lib.hid (HS.out.below hb2); have HO2 := Lib.hid (HO.out.below hb2))
          | (go_at_call 25; refine (few12_any ao n cap (strB B) w2).mono ?_; rintro e w3 ⟨rfl, hb3⟩; rw [HF.out]; have hz3 := hb3.size; have r3 := r2.below hb3 r2.lt; have b30 := r3.c0; have b31 := r3.c1; have T3 := T2.grow hb3; have HS3 := Lib.hid (HS2.out.below hb3); have HO3 := Lib.hid (HO2.out.below hb3))
          | (go_at_call 26; refine (few_any so k scap w3).mono ?_; rintro e w3' ⟨rfl, rfl⟩; rw [HK.out])
          | (go_at_call 27; refine (scheck_lit n l B true ao cap w3 HD.out hln hn5 hwf HS3.out).mono ?_; rintro e w4 ⟨rfl, hb4⟩; have hz4 := hb4.size; have r4 := r3.below hb4 r3.lt; have T4 := T3.grow hb4; have HS4 := Lib.hid (HS3.out.below hb4); have HO4 := Lib.hid (HO3.out.below hb4)))
        clear b0 b1 b30 b31
        have HB4 := Lib.hid (((hb0.link hb2).link hb3).link hb4)
        go_loopw [8, 9, 10, 11] (fun a o i j wr => ∃ t : Nat, t ≤ k ∧ i = .int .i64 t ∧ a = .bool (decide (allHas l (ss.take t))) ∧ o = .bool (decide (ss.take t).Nodup) ∧ Below w4.heap.size w4 wr) (fun _ _ i _ _ => k - (intOf i).toNat)
        case atStart => exact ⟨0, Nat.zero_le _, rfl, by rw [decide_eq_true]; intro q hq; simp at hq, rfl, Below.refl _ _⟩
        case round =>
          rename World => wo
          obtain ⟨t, ht, rfl, rfl, rfl, hbr⟩ := hrel
          have rr := r4.below hbr r4.lt
          have Tr := T4.grow hbr
          have hzr := hbr.size
          have HSr := Lib.hid (HS4.out.below hbr)
          have HOr := Lib.hid (HO4.out.below hbr)
          by_cases hlt : t < k
          · have hlt2 : t < ss.length := by have := HSK.out; omega
            have hi : (t : Int) < (k : Int) := by omega
            obtain ⟨g, o, rfl, hg, hc⟩ := HOr.out.cell t hlt2
            have HC := Lib.hid hc
            obtain ⟨g1, g2⟩ := hc t hlt2
            have HA1 := Lib.hid (all_succ (l := l) hlt2)
            have HO1 := Lib.hid (once_end hlt2)
            have HO0 := Lib.hid (once_zero ss t)
            obtain ⟨s, a, hsa⟩ : ∃ s a, (s, a) = ss.getD t (0, 0) := ⟨_, _, rfl⟩
            have HSA := Lib.hid hsa
            rw [← hsa] at g1 g2 HA1
            have g1 : wo.cell? ⟨g, o + t * 2, none⟩ = some (.int .i64 s) := g1
            have g2 : wo.cell? ⟨g, o + t * 2 + 1, none⟩ = some (.int .i64 a) := g2
            have hb40 := rr.c0
            have HLT := Lib.hid hlt2
            obtain ⟨al, hal⟩ : ∃ al, al = decide (allHas l (ss.take t)) := ⟨_, rfl⟩
            obtain ⟨on, hon⟩ : ∃ on, on = decide (ss.take t).Nodup := ⟨_, rfl⟩
            rw [← hal, ← hon]
            have HALD := Lib.hid hal
            have HOND := Lib.hid hon
            clear hc hsa hlt2 hal hon
            cases al
            · have HA2 : Hid (decide (allHas l (ss.take (t + 1))) = false) := decide_eq_false (fun x => of_decide_eq_false HALD.out.symm (HA1.out.1 x).1)
              go_wp2_with fail
              go_quiet (fail)
              have HOx := Lib.hid (HOr.out.below (Below.refl wo.heap.size wo))
              have hzx := (Below.refl wo.heap.size wo).size
              go_wp2_with fail
              go_loopw [9, 11] (fun o j wi => ∃ q : Nat, q ≤ t ∧ j = .int .i64 q ∧ o = .bool (decide (onceN ss t q)) ∧ Below wo.heap.size wo wi) (fun _ j _ => t - (intOf j).toNat)
              case atStart => exact ⟨0, Nat.zero_le _, rfl, by rw [HOND.out]; exact congrArg Value.bool (decide_eq_decide.2 HO0.out.symm), below_drewN _ _ _ _ (Below.refl _ _)⟩
              case round =>
                obtain ⟨q, hq, rfl, rfl, hbi⟩ := hrel
                by_cases hqt : q < t
                · have hqi : (q : Int) < (t : Int) := by omega
                  have hqk : (q : Int) < (k : Int) := by omega
                  have hq2 : q < ss.length := by have := HLT.out; omega
                  have HBI := Lib.hid ((Below.refl wo.heap.size wo).link hbi)
                  obtain ⟨i1, i2⟩ := HC.out q hq2
                  have HOS := Lib.hid (once_succ (i := t) hq2)
                  obtain ⟨s', a', hsa'⟩ : ∃ s' a', (s', a') = ss.getD q (0, 0) := ⟨_, _, rfl⟩
                  have hst := HSA.out
                  rw [← hsa'] at i1 i2
                  rw [← hsa', ← hst] at HOS
                  have i1 : wo.cell? ⟨g, o + q * 2, none⟩ = some (.int .i64 s') := i1
                  have i2 : wo.cell? ⟨g, o + q * 2 + 1, none⟩ = some (.int .i64 a') := i2
                  have hgr := Lib.hid hg
                  have c1 := (HBI.out.cell (p := ⟨g, o + q * 2, none⟩) hgr.out).trans i1
                  have c2 := (HBI.out.cell (p := ⟨g, o + q * 2 + 1, none⟩) hgr.out).trans i2
                  have c3 := (HBI.out.cell (p := ⟨g, o + t * 2, none⟩) hgr.out).trans g1
                  have c4 := (HBI.out.cell (p := ⟨g, o + t * 2 + 1, none⟩) hgr.out).trans g2
                  obtain ⟨oq, hoq⟩ : ∃ oq, oq = decide (onceN ss t q) := ⟨_, rfl⟩
                  rw [← hoq]
                  have HOQ := Lib.hid hoq
                  have HQT := Lib.hid hqt
                  clear i1 i2 hst hsa' hoq hqt hq2
                  cases oq
                  · have HNX : Hid (decide (onceN ss t (q + 1)) = false) := decide_eq_false (fun x => of_decide_eq_false HOQ.out.symm (HOS.out.1 x).1)
                    go_wp2_with fail
                    go_quiet (fail)
                    go_wp2_with fail
                    go_roundw
                    case rel => exact ⟨q + 1, by have := HQT.out; omega, by go_num, by rw [HNX.out], below_drewN _ _ _ _ hbi⟩
                    case measure => have := HQT.out; simp [intOf]; omega
                  · by_cases heq : s' = s ∧ a' = a
                    · have hne : ∀ w, (binOp .neq 24 (.agg #[.int .i64 s', .int .i64 a']) (.agg #[.int .i64 s, .int .i64 a])).run Tryd.prog w = .ok (.bool false) w := fun w => by rw [neq_slots, decide_eq_true heq]; rfl
                      have HNX : Hid (decide (onceN ss t (q + 1)) = false) := decide_eq_false (fun x => (HOS.out.1 x).2 (Prod.ext heq.1 heq.2))
                      clear heq
                      go_wp2_with fail
                      go_quiet (fail)
                      go_wp2_with fail
                      go_roundw
                      case rel => exact ⟨q + 1, by have := HQT.out; omega, by go_num, by rw [HNX.out], below_drewN _ _ _ _ hbi⟩
                      case measure => have := HQT.out; simp [intOf]; omega
                    · have hne : ∀ w, (binOp .neq 24 (.agg #[.int .i64 s', .int .i64 a']) (.agg #[.int .i64 s, .int .i64 a])).run Tryd.prog w = .ok (.bool true) w := fun w => by rw [neq_slots, decide_eq_false heq]; rfl
                      have HNX : Hid (decide (onceN ss t (q + 1)) = true) := decide_eq_true (HOS.out.2 ⟨of_decide_eq_true HOQ.out.symm, fun x => heq ⟨congrArg Prod.fst x, congrArg Prod.snd x⟩⟩)
                      clear heq
                      go_wp2_with fail
                      go_quiet (fail)
                      go_wp2_with fail
                      go_roundw
                      case rel => exact ⟨q + 1, by have := HQT.out; omega, by go_num, by rw [HNX.out], below_drewN _ _ _ _ hbi⟩
                      case measure => have := HQT.out; simp [intOf]; omega
                · have hqe : q = t := by omega
                  subst hqe
                  have hqi : ¬ ((q : Int) < (q : Int)) := by omega
                  have HEND : Hid (decide (onceN ss q q) = decide (ss.take (q + 1)).Nodup) := decide_eq_decide.2 HO1.out
                  rw [HEND.out]
                  have HBI := Lib.hid ((Below.refl wo.heap.size wo).link hbi)
                  go_wp2_with fail
                  go_roundw
                  case rel => exact ⟨q + 1, by have := HLT.out; have := HSK.out; omega, by go_num, by rw [HA2.out], rfl, hbr.link HBI.out⟩
                  case measure => have := HLT.out; have := HSK.out; simp [intOf]; omega
            · obtain ⟨bh, hbh⟩ : ∃ bh, decide (okS l ∧ hasL l s a) = bh := ⟨_, rfl⟩
              have HBH := Lib.hid hbh
              have HA2 : Hid (decide (allHas l (ss.take (t + 1))) = bh) := by
                show _ = _
                rw [← hbh]
                exact decide_eq_decide.2 (HA1.out.trans ⟨fun x => ⟨HOK.out.ok, x.2⟩, fun x => ⟨of_decide_eq_true HALD.out.symm, x.2⟩⟩)
              clear hbh
              go_wp2_with fail
              refine wp_region_held_drew (S := HasS wo w.heap.size (.slice ao n cap) g (o + t * 2) s a ao l) (by kernel_rfl) ⟨hb40, g1, g2, HSr.out, (Below.refl _ _).drew, rr.lt, hg⟩ (fun hHeld => ?_)
              refine wpAnyH_take (i := 0) (v := ?_) (by simp only [List.getElem?_toArray, List.getElem?_cons_succ, List.getElem?_cons_zero]; rfl) (by kernel_rfl) (by kernel_rfl) (by kernel_rfl) (by intro _ _ _ h; exact h) (Or.inl ⟨by rfl, ?_⟩) (by assumption) ?_
              rotate_left
              · intro w' hSw
                obtain ⟨h0, h1, h2, _⟩ := hSw
                go_simp
                try with_reducible rfl
              try simp only [Act.put, List.setIfInBounds_toArray, List.set_cons_zero, List.set_cons_succ]
              refine wpAnyH_take (i := 1) (v := ?_) (by simp only [List.getElem?_toArray, List.getElem?_cons_succ, List.getElem?_cons_zero]; rfl) (by kernel_rfl) (by kernel_rfl) (by kernel_rfl) (by intro _ _ _ h; exact h) (Or.inl ⟨by rfl, ?_⟩) (by assumption) ?_
              rotate_left
              · intro w' hSw
                obtain ⟨h0, h1, h2, _⟩ := hSw
                go_simp
                try with_reducible rfl
              try simp only [Act.put, List.setIfInBounds_toArray, List.set_cons_zero, List.set_cons_succ]
              refine wpAnyH_take (i := 2) (v := ?_) (by simp only [List.getElem?_toArray, List.getElem?_cons_succ, List.getElem?_cons_zero]; rfl) (by kernel_rfl) (by kernel_rfl) (by kernel_rfl) (by intro _ _ _ h; exact h) (Or.inl ⟨by rfl, ?_⟩) (by assumption) ?_
              rotate_left
              · intro w' hSw
                obtain ⟨h0, h1, h2, _⟩ := hSw
                go_simp
                try with_reducible rfl
              try simp only [Act.put, List.setIfInBounds_toArray, List.set_cons_zero, List.set_cons_succ]
              refine wpAnyH_take (i := 3) (v := ?_) (by simp only [List.getElem?_toArray, List.getElem?_cons_succ, List.getElem?_cons_zero]; rfl) (by kernel_rfl) (by kernel_rfl) (by kernel_rfl) (by intro _ _ _ h; exact h) (Or.inl ⟨by rfl, ?_⟩) (by assumption) ?_
              rotate_left
              · intro w' hSw
                obtain ⟨h0, h1, h2, _⟩ := hSw
                go_simp
                try with_reducible rfl
              try simp only [Act.put, List.setIfInBounds_toArray, List.set_cons_zero, List.set_cons_succ]
              refine wpAnyH_take (i := 4) (v := ?_) (by simp only [List.getElem?_toArray, List.getElem?_cons_succ, List.getElem?_cons_zero]; rfl) (by kernel_rfl) (by kernel_rfl) (by kernel_rfl) (by intro _ _ _ h; exact h) (Or.inl ⟨by rfl, ?_⟩) (by assumption) ?_
              rotate_left
              · intro w' hSw
                obtain ⟨h0, h1, h2, _⟩ := hSw
                go_simp
                try with_reducible rfl
              try simp only [Act.put, List.setIfInBounds_toArray, List.set_cons_zero, List.set_cons_succ]
              refine wpAnyH_take (i := 5) (v := ?_) (by simp only [List.getElem?_toArray, List.getElem?_cons_succ, List.getElem?_cons_zero]; rfl) (by kernel_rfl) (by kernel_rfl) (by kernel_rfl) (by intro _ _ _ h; exact h) (Or.inl ⟨by rfl, ?_⟩) (by assumption) ?_
              rotate_left
              · intro w' hSw
                obtain ⟨h0, h1, h2, _⟩ := hSw
                go_simp
                try with_reducible rfl
              try simp only [Act.put, List.setIfInBounds_toArray, List.set_cons_zero, List.set_cons_succ]
              refine wpAnyH_take (i := 6) (v := ?_) (by simp only [List.getElem?_toArray, List.getElem?_cons_succ, List.getElem?_cons_zero]; rfl) (by kernel_rfl) (by kernel_rfl) (by kernel_rfl) (by intro _ _ _ h; exact h) (Or.inl ⟨by rfl, ?_⟩) (by assumption) ?_
              rotate_left
              · intro w' hSw
                obtain ⟨h0, h1, h2, _⟩ := hSw
                go_simp
                try with_reducible rfl
              try simp only [Act.put, List.setIfInBounds_toArray, List.set_cons_zero, List.set_cons_succ]
              refine wpAnyH_take (i := 7) (v := ?_) (by simp only [List.getElem?_toArray, List.getElem?_cons_succ, List.getElem?_cons_zero]; rfl) (by kernel_rfl) (by kernel_rfl) (by kernel_rfl) (by intro _ _ _ h; exact h) (Or.inl ⟨by rfl, ?_⟩) (by assumption) ?_
              rotate_left
              · intro w' hSw
                obtain ⟨h0, h1, h2, _⟩ := hSw
                go_simp
                try with_reducible rfl
              try simp only [Act.put, List.setIfInBounds_toArray, List.set_cons_zero, List.set_cons_succ]
              refine wpAnyH_ready (rs := [8]) (by kernel_rfl) (by simp) ?_
              refine AllReadyH.cons (by simp only [List.getElem?_toArray, List.getElem?_cons_succ, List.getElem?_cons_zero]; rfl) (fun K hK => ?_) AllReadyH.nil
              go_simp
              refine (has_lit n l s a bh ao cap _ hln HBH.out hwf hHeld.2.2.2.1).mono ?_
              rintro e w' ⟨rfl, hb⟩
              have hS := hHeld.below hb
              go_wp2_with fail
              refine hK.out _ _ hS (fun hHeld => ?_)
              clear hK
              try simp only [Act.put, List.setIfInBounds_toArray, List.set_cons_zero, List.set_cons_succ]
              refine wpAnyH_take (i := 9) (v := ?_) (by simp only [List.getElem?_toArray, List.getElem?_cons_succ, List.getElem?_cons_zero]; rfl) (by kernel_rfl) (by kernel_rfl) (by kernel_rfl) (by intro _ _ _ h; exact h) (Or.inl ⟨by rfl, ?_⟩) (by assumption) ?_
              rotate_left
              · intro w' hSw
                obtain ⟨h0, h1, h2, _⟩ := hSw
                go_simp
                try with_reducible rfl
              try simp only [Act.put, List.setIfInBounds_toArray, List.set_cons_zero, List.set_cons_succ]
              refine wpAnyH_take (i := 10) (v := ?_) (by simp only [List.getElem?_toArray, List.getElem?_cons_succ, List.getElem?_cons_zero]; rfl) (by kernel_rfl) (by kernel_rfl) (by kernel_rfl) (by intro _ _ _ h; exact h) (Or.inl ⟨by rfl, ?_⟩) (by assumption) ?_
              rotate_left
              · intro w' hSw
                obtain ⟨h0, h1, h2, _⟩ := hSw
                go_simp
                try with_reducible rfl
              try simp only [Act.put, List.setIfInBounds_toArray, List.set_cons_zero, List.set_cons_succ]
              refine wpAnyH_done (by kernel_rfl) ?_ _
              rename World => w5
              have hb5 := hHeld.2.2.2.2.1
              have HOx := Lib.hid (HOr.out.below hb5)
              have hzx := hb5.size
              go_wp2_with fail
              go_loopw [9, 11] (fun o j wi => ∃ q : Nat, q ≤ t ∧ j = .int .i64 q ∧ o = .bool (decide (onceN ss t q)) ∧ Below w5.heap.size w5 wi) (fun _ j _ => t - (intOf j).toNat)
              case atStart => exact ⟨0, Nat.zero_le _, rfl, by rw [HOND.out]; exact congrArg Value.bool (decide_eq_decide.2 HO0.out.symm), Below.refl _ _⟩
              case round =>
                obtain ⟨q, hq, rfl, rfl, hbi⟩ := hrel
                by_cases hqt : q < t
                · have hqi : (q : Int) < (t : Int) := by omega
                  have hqk : (q : Int) < (k : Int) := by omega
                  have hq2 : q < ss.length := by have := HLT.out; omega
                  have HBI := Lib.hid (hb5.link hbi)
                  obtain ⟨i1, i2⟩ := HC.out q hq2
                  have HOS := Lib.hid (once_succ (i := t) hq2)
                  obtain ⟨s', a', hsa'⟩ : ∃ s' a', (s', a') = ss.getD q (0, 0) := ⟨_, _, rfl⟩
                  have hst := HSA.out
                  rw [← hsa'] at i1 i2
                  rw [← hsa', ← hst] at HOS
                  have i1 : wo.cell? ⟨g, o + q * 2, none⟩ = some (.int .i64 s') := i1
                  have i2 : wo.cell? ⟨g, o + q * 2 + 1, none⟩ = some (.int .i64 a') := i2
                  have hgr := Lib.hid hg
                  have c1 := (HBI.out.cell (p := ⟨g, o + q * 2, none⟩) hgr.out).trans i1
                  have c2 := (HBI.out.cell (p := ⟨g, o + q * 2 + 1, none⟩) hgr.out).trans i2
                  have c3 := (HBI.out.cell (p := ⟨g, o + t * 2, none⟩) hgr.out).trans g1
                  have c4 := (HBI.out.cell (p := ⟨g, o + t * 2 + 1, none⟩) hgr.out).trans g2
                  obtain ⟨oq, hoq⟩ : ∃ oq, oq = decide (onceN ss t q) := ⟨_, rfl⟩
                  rw [← hoq]
                  have HOQ := Lib.hid hoq
                  have HQT := Lib.hid hqt
                  clear i1 i2 hst hsa' hoq hqt hq2
                  cases oq
                  · have HNX : Hid (decide (onceN ss t (q + 1)) = false) := decide_eq_false (fun x => of_decide_eq_false HOQ.out.symm (HOS.out.1 x).1)
                    go_wp2_with fail
                    go_quiet (fail)
                    go_wp2_with fail
                    go_roundw
                    case rel => exact ⟨q + 1, by have := HQT.out; omega, by go_num, by rw [HNX.out], below_drewN _ _ _ _ hbi⟩
                    case measure => have := HQT.out; simp [intOf]; omega
                  · by_cases heq : s' = s ∧ a' = a
                    · have hne : ∀ w, (binOp .neq 24 (.agg #[.int .i64 s', .int .i64 a']) (.agg #[.int .i64 s, .int .i64 a])).run Tryd.prog w = .ok (.bool false) w := fun w => by rw [neq_slots, decide_eq_true heq]; rfl
                      have HNX : Hid (decide (onceN ss t (q + 1)) = false) := decide_eq_false (fun x => (HOS.out.1 x).2 (Prod.ext heq.1 heq.2))
                      clear heq
                      go_wp2_with fail
                      go_quiet (fail)
                      go_wp2_with fail
                      go_roundw
                      case rel => exact ⟨q + 1, by have := HQT.out; omega, by go_num, by rw [HNX.out], below_drewN _ _ _ _ hbi⟩
                      case measure => have := HQT.out; simp [intOf]; omega
                    · have hne : ∀ w, (binOp .neq 24 (.agg #[.int .i64 s', .int .i64 a']) (.agg #[.int .i64 s, .int .i64 a])).run Tryd.prog w = .ok (.bool true) w := fun w => by rw [neq_slots, decide_eq_false heq]; rfl
                      have HNX : Hid (decide (onceN ss t (q + 1)) = true) := decide_eq_true (HOS.out.2 ⟨of_decide_eq_true HOQ.out.symm, fun x => heq ⟨congrArg Prod.fst x, congrArg Prod.snd x⟩⟩)
                      clear heq
                      go_wp2_with fail
                      go_quiet (fail)
                      go_wp2_with fail
                      go_roundw
                      case rel => exact ⟨q + 1, by have := HQT.out; omega, by go_num, by rw [HNX.out], below_drewN _ _ _ _ hbi⟩
                      case measure => have := HQT.out; simp [intOf]; omega
                · have hqe : q = t := by omega
                  subst hqe
                  have hqi : ¬ ((q : Int) < (q : Int)) := by omega
                  have HEND : Hid (decide (onceN ss q q) = decide (ss.take (q + 1)).Nodup) := decide_eq_decide.2 HO1.out
                  rw [HEND.out]
                  have HBI := Lib.hid (hb5.link hbi)
                  go_wp2_with fail
                  go_roundw
                  case rel => exact ⟨q + 1, by have := HLT.out; have := HSK.out; omega, by go_num, by rw [HA2.out], rfl, hbr.link HBI.out⟩
                  case measure => have := HLT.out; have := HSK.out; simp [intOf]; omega
          · have htk : t = k := by omega
            subst htk
            have hi : ¬ ((t : Int) < (t : Int)) := by omega
            have hb40 := rr.c0
            have hb41 := rr.c1
            have HTK : Hid (ss.take t = ss) := List.take_of_length_le (by have := HSK.out; omega)
            rw [HTK.out]
            obtain ⟨X0, e0, hX0⟩ : ∃ X0 e0, getS l B ss 0 = (X0, e0) := ⟨_, _, rfl⟩
            obtain ⟨X, f, hX⟩ : ∃ X f, getS l B ss size = (X, f) := ⟨_, _, rfl⟩
            obtain ⟨m, C, gg, hG⟩ : ∃ m C gg, dropS l B ss = (m, C, gg) := ⟨_, _, _, rfl⟩
            have n1 := HN.out.zero
            have n2 := HN.out.get
            have n3 := HN.out.drop
            have n4 := HN.out.err
            have n5 := HN.out.ok
            rw [hX0] at n1
            rw [hX] at n2
            rw [hG] at n3 n4 n5
            replace n1 : e0 = 0 ↔ allHas l ss := n1
            replace n2 : f = 0 → allHas l ss ∧ (X.length : Int) = size := n2
            replace n3 : gg = 0 ↔ allHas l ss ∧ ss.Nodup := n3
            replace n4 : gg ≠ 0 → (m, C, gg) = (l, B, 120) := n4
            replace n5 : okSt m (strB C) := n5
            have hml : m.length = n := by
              by_cases h0 : gg = 0
              · have hy := n3.1 h0
                have := (drop_sub HOK.out.ok (okSt_len HOK.out) (drop_yes (B := B) HOK.out.ok hy.1 hy.2)).len
                have hG2 : dropS l B ss = ((dropGo l B ss).1, (dropGo l B ss).2.1, 0) := if_pos ⟨HOK.out, drop_yes (B := B) HOK.out.ok hy.1 hy.2⟩
                rw [hG] at hG2
                rw [show m = (dropGo l B ss).1 from congrArg (fun x => x.1) hG2, this]
                exact hln
              · rw [show m = l from congrArg (fun x => x.1) (n4 h0)]
                exact hln
            have HX0 := Lib.hid hX0
            have HX := Lib.hid hX
            have HG := Lib.hid hG
            have HM := Lib.hid hml
            have HMC := Lib.hid n5
            clear hX0 hX hG hml n5
            by_cases hall : allHas l ss
            · have e00 : e0 = 0 := n1.2 hall
              subst e00
              have hA : decide (allHas l ss) = true := decide_eq_true hall
              rw [hA]
              by_cases hnd : ss.Nodup
              · have g0 : gg = 0 := n3.2 ⟨hall, hnd⟩
                subst g0
                have hO : decide ss.Nodup = true := decide_eq_true hnd
                rw [hO]
                clear hall hnd hA hO n1 n3 n4
                by_cases hf0 : f = 0
                · subst hf0
                  obtain rfl : size = ((strB X).size : Int) := by rw [strB_size]; exact (n2 rfl).2.symm
                  clear n2
                  go_wp2_with (first
                    | (go_at_call 30; refine (Get_lit n t l B _ ss 0 _ ao cap so scap wo HX0.out hln HSK.out hn5 hwf HSr.out HOr.out (by omega)).mono ?_; rintro e w5 ⟨rfl, hb5⟩; have hz5 := hb5.size; have r5 := rr.below hb5 rr.lt; have b50 := r5.c0; have b51 := r5.c1; have HS5 := Lib.hid (HSr.out.below hb5); have HO5 := Lib.hid (HOr.out.below hb5))
                    | (go_at_call 30; refine (Get_lit n t l B _ ss _ _ ao cap so scap w5 HX.out hln HSK.out hn5 hwf HS5.out HO5.out (by omega)).mono ?_; rintro e w6 ⟨rfl, hb6⟩; have hz6 := hb6.size; have r6 := r5.below hb6 r5.lt; have b60 := r6.c0; have b61 := r6.c1; have HS6 := Lib.hid (HS5.out.below hb6); have HO6 := Lib.hid (HO5.out.below hb6))
                    | (go_at_call 31; refine (Drop_lit n t l _ B _ ss _ ao cap so scap w6 HG.out hln HM.out HSK.out hn5 hwf HS6.out hn HO6.out (by omega)).mono ?_; rintro e w7 ⟨⟨ao7, cap7, rfl, hs7⟩, hb7⟩; have hz7 := hb7.size; have r7 := r6.below hb7 r6.lt; have HS7 := Lib.hid (HS6.out.below hb7))
                    | (refine wpList_store2 rfl 51 size51 (.tmp 16) (.tmp 83) rfl w7.heap.size _ _ (.slice none 0 0) (.string ⟨#[]⟩) rfl rfl rfl rfl (Row2.new w7 51 _ _) ?_; intro w8 hr8 hon8; have hb8 := hon8.fresh; have hz8 := hr8.lt; have r8 := r7.below hb8 r7.lt; have b80 := r8.c0; have b81 := r8.c1; have d0 := hr8.c0; have d1 := hr8.c1; have hs8 := hs7.below hb8; have HS8 := Lib.hid (HS7.out.below hb8))
                    | (go_at_call 27; refine (scheck_lit n _ _ true ao7 cap7 w8 (decide_eq_true HMC.out) HM.out hn5 HMC.out.ok.wf hs8.at).mono ?_; rintro e w9 ⟨rfl, hb9⟩))
                  go_ret
                  exact ⟨rfl, HB4.out.link (hbr.link ((((hb5.link hb6).link hb7).link hb8).link hb9))⟩
                · have hfn : (f != 0) = true := by simpa using hf0
                  clear n2 hf0
                  go_wp2_with (first
                    | (go_at_call 30; refine (Get_lit n t l B _ ss 0 _ ao cap so scap wo HX0.out hln HSK.out hn5 hwf HSr.out HOr.out (by omega)).mono ?_; rintro e w5 ⟨rfl, hb5⟩; have hz5 := hb5.size; have r5 := rr.below hb5 rr.lt; have b50 := r5.c0; have b51 := r5.c1; have HS5 := Lib.hid (HSr.out.below hb5); have HO5 := Lib.hid (HOr.out.below hb5))
                    | (go_at_call 30; refine (Get_lit n t l B _ ss _ _ ao cap so scap w5 HX.out hln HSK.out hn5 hwf HS5.out HO5.out (by omega)).mono ?_; rintro e w6 ⟨rfl, hb6⟩; have hz6 := hb6.size; have r6 := r5.below hb6 r5.lt; have b60 := r6.c0; have b61 := r6.c1; have HS6 := Lib.hid (HS5.out.below hb6); have HO6 := Lib.hid (HO5.out.below hb6))
                    | (go_at_call 31; refine (Drop_lit n t l _ B _ ss _ ao cap so scap w6 HG.out hln HM.out HSK.out hn5 hwf HS6.out hn HO6.out (by omega)).mono ?_; rintro e w7 ⟨⟨ao7, cap7, rfl, hs7⟩, hb7⟩; have hz7 := hb7.size; have r7 := r6.below hb7 r6.lt; have HS7 := Lib.hid (HS6.out.below hb7))
                    | (refine wpList_store2 rfl 51 size51 (.tmp 16) (.tmp 83) rfl w7.heap.size _ _ (.slice none 0 0) (.string ⟨#[]⟩) rfl rfl rfl rfl (Row2.new w7 51 _ _) ?_; intro w8 hr8 hon8; have hb8 := hon8.fresh; have hz8 := hr8.lt; have r8 := r7.below hb8 r7.lt; have b80 := r8.c0; have b81 := r8.c1; have d0 := hr8.c0; have d1 := hr8.c1; have hs8 := hs7.below hb8; have HS8 := Lib.hid (HS7.out.below hb8))
                    | (go_at_call 27; refine (scheck_lit n _ _ true ao7 cap7 w8 (decide_eq_true HMC.out) HM.out hn5 HMC.out.ok.wf hs8.at).mono ?_; rintro e w9 ⟨rfl, hb9⟩))
                  go_ret
                  exact ⟨rfl, HB4.out.link (hbr.link ((((hb5.link hb6).link hb7).link hb8).link hb9))⟩
              · have hgn : gg ≠ 0 := fun x => hnd (n3.1 x).2
                have hgl := n4 hgn
                simp only [Prod.mk.injEq] at hgl
                obtain ⟨rfl, rfl, rfl⟩ : l = m ∧ B = C ∧ gg = 120 := ⟨hgl.1.symm, hgl.2.1.symm, hgl.2.2⟩
                have hO : decide ss.Nodup = false := decide_eq_false hnd
                rw [hO]
                clear hall hnd hA hO n1 n3 n4 hgn
                by_cases hf0 : f = 0
                · subst hf0
                  obtain rfl : size = ((strB X).size : Int) := by rw [strB_size]; exact (n2 rfl).2.symm
                  clear n2
                  go_wp2_with (first
                    | (go_at_call 30; refine (Get_lit n t l B _ ss 0 _ ao cap so scap wo HX0.out hln HSK.out hn5 hwf HSr.out HOr.out (by omega)).mono ?_; rintro e w5 ⟨rfl, hb5⟩; have hz5 := hb5.size; have r5 := rr.below hb5 rr.lt; have b50 := r5.c0; have b51 := r5.c1; have HS5 := Lib.hid (HSr.out.below hb5); have HO5 := Lib.hid (HOr.out.below hb5))
                    | (go_at_call 30; refine (Get_lit n t l B _ ss _ _ ao cap so scap w5 HX.out hln HSK.out hn5 hwf HS5.out HO5.out (by omega)).mono ?_; rintro e w6 ⟨rfl, hb6⟩; have hz6 := hb6.size; have r6 := r5.below hb6 r5.lt; have b60 := r6.c0; have b61 := r6.c1; have HS6 := Lib.hid (HS5.out.below hb6); have HO6 := Lib.hid (HO5.out.below hb6))
                    | (go_at_call 31; refine (Drop_lit n t l _ B _ ss _ ao cap so scap w6 HG.out hln HM.out HSK.out hn5 hwf HS6.out hn HO6.out (by omega)).mono ?_; rintro e w7 ⟨⟨ao7, cap7, rfl, hs7⟩, hb7⟩; have hz7 := hb7.size; have r7 := r6.below hb7 r6.lt; have HS7 := Lib.hid (HS6.out.below hb7))
                    | (refine wpList_store2 rfl 51 size51 (.tmp 16) (.tmp 83) rfl w7.heap.size _ _ (.slice none 0 0) (.string ⟨#[]⟩) rfl rfl rfl rfl (Row2.new w7 51 _ _) ?_; intro w8 hr8 hon8; have hb8 := hon8.fresh; have hz8 := hr8.lt; have r8 := r7.below hb8 r7.lt; have b80 := r8.c0; have b81 := r8.c1; have d0 := hr8.c0; have d1 := hr8.c1; have hs8 := hs7.below hb8; have HS8 := Lib.hid (HS7.out.below hb8))
                    | (go_at_call 29; refine (rsame_lit n ao7 ao l cap7 cap B w8 hln hn5 hs8.at HS8.out).mono ?_; rintro e w9 ⟨rfl, hb9⟩; have hz9 := hb9.size; have r9 := hr8.below hb9 hr8.lt; have d90 := r9.c0; have d91 := r9.c1; have hs9 := hs8.below hb9)
                    | (go_at_call 27; refine (scheck_lit n _ _ true ao7 cap7 w9 (decide_eq_true HMC.out) HM.out hn5 HMC.out.ok.wf hs9.at).mono ?_; rintro e w10 ⟨rfl, hb10⟩))
                  go_ret
                  exact ⟨rfl, HB4.out.link (hbr.link (((((hb5.link hb6).link hb7).link hb8).link hb9).link hb10))⟩
                · have hfn : (f != 0) = true := by simpa using hf0
                  clear n2 hf0
                  go_wp2_with (first
                    | (go_at_call 30; refine (Get_lit n t l B _ ss 0 _ ao cap so scap wo HX0.out hln HSK.out hn5 hwf HSr.out HOr.out (by omega)).mono ?_; rintro e w5 ⟨rfl, hb5⟩; have hz5 := hb5.size; have r5 := rr.below hb5 rr.lt; have b50 := r5.c0; have b51 := r5.c1; have HS5 := Lib.hid (HSr.out.below hb5); have HO5 := Lib.hid (HOr.out.below hb5))
                    | (go_at_call 30; refine (Get_lit n t l B _ ss _ _ ao cap so scap w5 HX.out hln HSK.out hn5 hwf HS5.out HO5.out (by omega)).mono ?_; rintro e w6 ⟨rfl, hb6⟩; have hz6 := hb6.size; have r6 := r5.below hb6 r5.lt; have b60 := r6.c0; have b61 := r6.c1; have HS6 := Lib.hid (HS5.out.below hb6); have HO6 := Lib.hid (HO5.out.below hb6))
                    | (go_at_call 31; refine (Drop_lit n t l _ B _ ss _ ao cap so scap w6 HG.out hln HM.out HSK.out hn5 hwf HS6.out hn HO6.out (by omega)).mono ?_; rintro e w7 ⟨⟨ao7, cap7, rfl, hs7⟩, hb7⟩; have hz7 := hb7.size; have r7 := r6.below hb7 r6.lt; have HS7 := Lib.hid (HS6.out.below hb7))
                    | (refine wpList_store2 rfl 51 size51 (.tmp 16) (.tmp 83) rfl w7.heap.size _ _ (.slice none 0 0) (.string ⟨#[]⟩) rfl rfl rfl rfl (Row2.new w7 51 _ _) ?_; intro w8 hr8 hon8; have hb8 := hon8.fresh; have hz8 := hr8.lt; have r8 := r7.below hb8 r7.lt; have b80 := r8.c0; have b81 := r8.c1; have d0 := hr8.c0; have d1 := hr8.c1; have hs8 := hs7.below hb8; have HS8 := Lib.hid (HS7.out.below hb8))
                    | (go_at_call 29; refine (rsame_lit n ao7 ao l cap7 cap B w8 hln hn5 hs8.at HS8.out).mono ?_; rintro e w9 ⟨rfl, hb9⟩; have hz9 := hb9.size; have r9 := hr8.below hb9 hr8.lt; have d90 := r9.c0; have d91 := r9.c1; have hs9 := hs8.below hb9)
                    | (go_at_call 27; refine (scheck_lit n _ _ true ao7 cap7 w9 (decide_eq_true HMC.out) HM.out hn5 HMC.out.ok.wf hs9.at).mono ?_; rintro e w10 ⟨rfl, hb10⟩))
                  go_ret
                  exact ⟨rfl, HB4.out.link (hbr.link (((((hb5.link hb6).link hb7).link hb8).link hb9).link hb10))⟩
            · have hA : decide (allHas l ss) = false := decide_eq_false hall
              rw [hA]
              have hen : (e0 == 0) = false := by
                have : e0 ≠ 0 := fun x => hall (n1.1 x)
                simpa using this
              have hfn : (f != 0) = true := by
                have : f ≠ 0 := fun x => hall (n2 x).1
                simpa using this
              have hgn : gg ≠ 0 := fun x => hall (n3.1 x).1
              have hgl := n4 hgn
              simp only [Prod.mk.injEq] at hgl
              obtain ⟨rfl, rfl, rfl⟩ : l = m ∧ B = C ∧ gg = 120 := ⟨hgl.1.symm, hgl.2.1.symm, hgl.2.2⟩
              clear hall hA n1 n2 n3 n4 hgn
              go_wp2_with (first
                | (go_at_call 30; refine (Get_lit n t l B _ ss 0 _ ao cap so scap wo HX0.out hln HSK.out hn5 hwf HSr.out HOr.out (by omega)).mono ?_; rintro e w5 ⟨rfl, hb5⟩; have hz5 := hb5.size; have r5 := rr.below hb5 rr.lt; have b50 := r5.c0; have b51 := r5.c1; have HS5 := Lib.hid (HSr.out.below hb5); have HO5 := Lib.hid (HOr.out.below hb5))
                | (go_at_call 30; refine (Get_lit n t l B _ ss _ _ ao cap so scap w5 HX.out hln HSK.out hn5 hwf HS5.out HO5.out (by omega)).mono ?_; rintro e w6 ⟨rfl, hb6⟩; have hz6 := hb6.size; have r6 := r5.below hb6 r5.lt; have b60 := r6.c0; have b61 := r6.c1; have HS6 := Lib.hid (HS5.out.below hb6); have HO6 := Lib.hid (HO5.out.below hb6))
                | (go_at_call 31; refine (Drop_lit n t l _ B _ ss _ ao cap so scap w6 HG.out hln HM.out HSK.out hn5 hwf HS6.out hn HO6.out (by omega)).mono ?_; rintro e w7 ⟨⟨ao7, cap7, rfl, hs7⟩, hb7⟩; have hz7 := hb7.size; have r7 := r6.below hb7 r6.lt; have HS7 := Lib.hid (HS6.out.below hb7))
                | (refine wpList_store2 rfl 51 size51 (.tmp 16) (.tmp 83) rfl w7.heap.size _ _ (.slice none 0 0) (.string ⟨#[]⟩) rfl rfl rfl rfl (Row2.new w7 51 _ _) ?_; intro w8 hr8 hon8; have hb8 := hon8.fresh; have hz8 := hr8.lt; have r8 := r7.below hb8 r7.lt; have b80 := r8.c0; have b81 := r8.c1; have d0 := hr8.c0; have d1 := hr8.c1; have hs8 := hs7.below hb8; have HS8 := Lib.hid (HS7.out.below hb8))
                | (go_at_call 29; refine (rsame_lit n ao7 ao l cap7 cap B w8 hln hn5 hs8.at HS8.out).mono ?_; rintro e w9 ⟨rfl, hb9⟩; have hz9 := hb9.size; have r9 := hr8.below hb9 hr8.lt; have d90 := r9.c0; have d91 := r9.c1; have hs9 := hs8.below hb9)
                | (go_at_call 27; refine (scheck_lit n _ _ true ao7 cap7 w9 (decide_eq_true HMC.out) HM.out hn5 HMC.out.ok.wf hs9.at).mono ?_; rintro e w10 ⟨rfl, hb10⟩))
              go_ret
              exact ⟨rfl, HB4.out.link (hbr.link (((((hb5.link hb6).link hb7).link hb8).link hb9).link hb10))⟩
      · have HD := Lib.hid (decide_eq_false hok)
        clear hok
        go_enter Tryd.func9, Tryd.ntmps9
        go_wp2_with (first
          | (rw [← HW1.out]; go_at_call 24; refine (awake12_any w1 T1).mono ?_; rintro e w2 ⟨rfl, hb2⟩; have r2 := R0.below hb2 R0.lt; have b0 := r2.c0; have b1 := r2.c1; have HS2 := Lib.hid (HS.out.below hb2))
          | (go_at_call 25; refine (few12_any ao n cap (strB B) w2).mono ?_; rintro e w3 ⟨rfl, hb3⟩; rw [HF.out]; have r3 := r2.below hb3 r2.lt; have b30 := r3.c0; have b31 := r3.c1; have HS3 := Lib.hid (HS2.out.below hb3))
          | (go_at_call 26; refine (few_any so k scap w3).mono ?_; rintro e w3' ⟨rfl, rfl⟩; rw [HK.out])
          | (go_at_call 27; refine (scheck_lit n l B false ao cap w3 HD.out hln hn5 hwf HS3.out).mono ?_; rintro e w4 ⟨rfl, hb4⟩))
        go_ret
        exact ⟨rfl, ((hb0.link hb2).link hb3).link hb4⟩
    · have HK := Lib.hid (decide_eq_false hk)
      clear hk
      go_enter Tryd.func9, Tryd.ntmps9
      go_wp2_with (first
        | (rw [← HW1.out]; go_at_call 24; refine (awake12_any w1 T1).mono ?_; rintro e w2 ⟨rfl, hb2⟩; have r2 := R0.below hb2 R0.lt; have b0 := r2.c0; have b1 := r2.c1)
        | (go_at_call 25; refine (few12_any ao n cap (strB B) w2).mono ?_; rintro e w3 ⟨rfl, hb3⟩; rw [HF.out])
        | (go_at_call 26; refine (few_any so k scap w3).mono ?_; rintro e w3' ⟨rfl, rfl⟩; rw [HK.out]))
      go_ret
      exact ⟨rfl, (hb0.link hb2).link hb3⟩
  · have HF := Lib.hid (decide_eq_false hf)
    clear hf
    go_enter Tryd.func9, Tryd.ntmps9
    go_wp2_with (first
      | (rw [← HW1.out]; go_at_call 24; refine (awake12_any w1 T1).mono ?_; rintro e w2 ⟨rfl, hb2⟩; have r2 := R0.below hb2 R0.lt; have b0 := r2.c0; have b1 := r2.c1)
      | (go_at_call 25; refine (few12_any ao n cap (strB B) w2).mono ?_; rintro e w3 ⟨rfl, hb3⟩; rw [HF.out]))
    go_ret
    exact ⟨rfl, (hb0.link hb2).link hb3⟩
end Go.Proofs.YtfnokklcbmipgaaDoor
