/- ArenaAll: the walk. -/
import Derived.Test.YtfnokklcbmipgaaDoorL4
import Derived.Deep.AppendLies
namespace Go.Proofs.YtfnokklcbmipgaaDoor
open Go.RowKit Plain

def ActsAt (w : World) (ao : Option Addr) (acts : List (Bool × Int)) : Prop := acts = [] ∨ ∃ b off, ao = some ⟨b, off, none⟩ ∧ b < w.heap.size ∧ ∀ i, i < acts.length → w.cell? ⟨b, off + i * 2, none⟩ = some (.bool (acts.getD i (false, 0)).1) ∧ w.cell? ⟨b, off + i * 2 + 1, none⟩ = some (.int .i64 (acts.getD i (false, 0)).2)
theorem ActsAt.below {w w' : World} {ao : Option Addr} {l : List (Bool × Int)} (h : ActsAt w ao l) (hb : Below w.heap.size w w') : ActsAt w' ao l := by
  rcases h with h | ⟨b, off, h1, h2, h3⟩
  · exact .inl h
  · exact .inr ⟨b, off, h1, Nat.lt_of_lt_of_le h2 hb.size, fun i hi => ⟨(hb.cell (by exact h2)).trans (h3 i hi).1, (hb.cell (by exact h2)).trans (h3 i hi).2⟩⟩
theorem ActsAt.cell {w : World} {ao : Option Addr} {l : List (Bool × Int)} (h : ActsAt w ao l) (i : Nat) (hi : i < l.length) : ∃ b off, ao = some ⟨b, off, none⟩ ∧ b < w.heap.size ∧ ∀ i, i < l.length → w.cell? ⟨b, off + i * 2, none⟩ = some (.bool (l.getD i (false, 0)).1) ∧ w.cell? ⟨b, off + i * 2 + 1, none⟩ = some (.int .i64 (l.getD i (false, 0)).2) := by
  rcases h with h | ⟨b, off, h1, h2, h3⟩
  · subst h; simp at hi
  · exact ⟨b, off, h1, h2, h3⟩
theorem own_below {w w' : World} {base : Nat} {e : TypeId} {size : Nat} {v : Value} {n : Nat} {xs : List Value} (h : w.ownsRow base e size v n xs) (hb : Below w.heap.size w w') : w'.ownsRow base e size v n xs := by
  refine ⟨h.1, ?_⟩
  rcases h.2 with hn | ⟨g, cap, cur, hv, hbg, hg, rest⟩
  · exact .inl hn
  · exact .inr ⟨g, cap, cur, hv, hbg, by rw [hb.block g (Array.getElem?_eq_some_iff.1 hg).1]; exact hg, rest⟩
/-- What the loop over the acts holds. -/
structure AllS (w wr : World) (n : Nat) (l : Segs) (ao : Option Addr) (cap : Nat) (ps : Held) (vs vc : Value) : Prop where
  seg : SegNew wr w.heap.size ao cap l
  all : AllOk n l ps
  slots : wr.ownsRow w.heap.size 24 2 vs ps.length (slotCells ps)
  cls : wr.ownsRow w.heap.size 3 1 vc ps.length (clsCells ps)
  bel : Below w.heap.size w wr
theorem own_some {w : World} {base : Nat} {e : TypeId} {size : Nat} {ao : Option Addr} {n cap : Nat} {xs : List Value} (h : w.ownsRow base e size (.slice ao n cap) n xs) (hn : 0 < n) : ∃ g, ao = some ⟨g, 0, none⟩ ∧ base ≤ g ∧ g < w.heap.size ∧ n ≤ cap := by
  rcases h.2 with ⟨_, h0⟩ | ⟨g, cap', cur, hv, hb, hg, hc, _⟩
  · omega
  · simp only [Value.slice.injEq] at hv
    obtain ⟨rfl, _, rfl⟩ := hv
    exact ⟨g, rfl, hb, (Array.getElem?_eq_some_iff.1 hg).1, hc⟩
theorem sum_snoc (ps : Held) (j : Nat) (h : j < ps.length) : sumC (ps.take (j + 1)) = sumC (ps.take j) + (bytesC (ps.getD j ((0, 0), 0)).2).toNat := by
  rw [List.take_succ_eq_append_getElem h, sum_append, List.getD_eq_getElem?_getD, List.getElem?_eq_getElem h]; rfl
theorem sum_le (ps : Held) : sumC ps ≤ ps.length * 64 := by
  induction ps with
  | nil => exact Nat.zero_le _
  | cons p ps ih =>
    show (bytesC p.2).toNat + sumC ps ≤ (ps.length + 1) * 64
    have := bytesC_bd p.2
    omega
theorem getH_mem {ps : Held} {j : Nat} (h : j < ps.length) : ps.getD j ((0, 0), 0) ∈ ps := by
  rw [List.getD_eq_getElem?_getD, List.getElem?_eq_getElem h]
  exact List.getElem_mem h
theorem nodup_ne {ps : Held} (h : (ps.map (·.1)).Nodup) {a b : Nat} (hab : a < b) (hb : b < ps.length) : (ps.getD a ((0, 0), 0)).1 ≠ (ps.getD b ((0, 0), 0)).1 := by
  have ha : a < ps.length := by omega
  rw [List.getD_eq_getElem?_getD, List.getElem?_eq_getElem ha, List.getD_eq_getElem?_getD, List.getElem?_eq_getElem hb]
  intro e
  have h2 := (List.getElem_inj (xs := ps.map (·.1)) (i := a) (j := b) (h₀ := by simpa using ha) (h₁ := by simpa using hb) h).1 (by simpa using e)
  omega
attribute [local irreducible] Go.Calls
set_option linter.unusedSimpArgs false in
set_option maxRecDepth 20000 in
set_option maxHeartbeats 4000000 in
theorem all_walk (y : Int) (aa : Option Addr) (acts : List (Bool × Int)) (ca : Nat) (w : World) (hy : 0 ≤ y ∧ y < 256) (hacts : ActsAt w aa acts) (hT : TabAt w) :
    Calls Tryd.prog 4 #[.int .u8 y, .slice aa acts.length ca] w fun e w' => e = .returned (.bool true) ∧ Below w.heap.size w w' := by
  obtain ⟨n, hyn⟩ : ∃ n : Nat, y % 21 = n := ⟨(y % 21).toNat, by omega⟩
  have hn : n ≤ 20 := by omega
  have HA := Lib.hid hacts
  clear hacts
  by_cases hlen : acts.length ≤ 100
  · have hd : decide ((100 : Int) < (acts.length : Int)) = false := by rw [decide_eq_false_iff_not]; omega
    go_enter Tryd.func4, Tryd.ntmps4
    go_wp2_with (first
      | (go_at_call 13; refine (awake_any _ hT).mono ?_; rintro e w1 ⟨rfl, hb1⟩; have T1 := hT.grow hb1)
      | (go_at_call 21; refine (new_any n w1 (by omega)).mono ?_; rintro e w2 ⟨⟨ao2, cap2, rfl, hs2⟩, hb2⟩; have T2 := T1.grow hb2))
    have hsz1 := hb1.size
    go_loopw [6, 8, 9, 10] (fun vl vs vc iv wr => ∃ (l : Segs) (ao : Option Addr) (cap : Nat) (ps : Held) (aos aoc : Option Addr) (caps capc k : Nat), vl = .slice ao n cap ∧ vs = .slice aos ps.length caps ∧ vc = .slice aoc ps.length capc ∧ iv = .int .i64 k ∧ k ≤ acts.length ∧ ps.length ≤ k ∧ AllS w wr n l ao cap ps vs vc) (fun _ _ _ iv _ => acts.length - (intOf iv).toNat)
    case atStart => exact ⟨newS n, ao2, cap2, [], none, none, 0, 0, 0, rfl, rfl, rfl, rfl, Nat.zero_le _, Nat.zero_le _, hs2.mono hsz1, all_new n (by omega), World.ownsRow_nil _ _ _ _, World.ownsRow_nil _ _ _ _, hb1.link hb2⟩
    case round =>
      obtain ⟨l, ao, cap, ps, aos, aoc, caps, capc, k, rfl, rfl, rfl, rfl, hk, hpk, S⟩ := hrel
      have HS := Lib.hid S
      have hwf := S.all.ok.wf
      have hll := S.all.len
      have Tr := hT.grow S.bel
      have hszr := S.bel.size
      have hat := S.seg.at
      have hnil := S.seg.nil
      by_cases hlt : k < acts.length
      · have hi : (k : Int) < (acts.length : Int) := by omega
        obtain ⟨b, off, rfl, hbl, hc⟩ := HA.out.cell k hlt
        have hc' := hc k hlt
        have g1 := (S.bel.cell (p := ⟨b, off + k * 2, none⟩) hbl).trans hc'.1
        have g2 := (S.bel.cell (p := ⟨b, off + k * 2 + 1, none⟩) hbl).trans hc'.2
        obtain ⟨d, N, hdN⟩ : ∃ d N, (d, N) = acts.getD k (false, 0) := ⟨_, _, rfl⟩
        rw [← hdN] at g1 g2
        have g1 : wr.cell? ⟨b, off + k * 2, none⟩ = some (.bool d) := g1
        have g2 : wr.cell? ⟨b, off + k * 2 + 1, none⟩ = some (.int .i64 N) := g2
        have hpar : w.cell? ⟨b, off + k * 2 + 1, none⟩ = some (.int .i64 N) := by have h := hc'.2; rw [← hdN] at h; exact h
        clear hc hc' hdN S
        cases d with
        | true =>
          by_cases hN0 : N < 0
          · have hN0' : decide (N < 0) = true := decide_eq_true hN0
            clear hN0
            go_wp2_with fail
            go_roundw
            case rel => exact ⟨l, ao, cap, ps, aos, aoc, caps, capc, k + 1, rfl, rfl, rfl, by go_num, by omega, by omega, HS.out⟩
            case measure => simp [intOf]; omega
          · by_cases hNl : (ps.length : Int) ≤ N
            · have hN0' : decide (N < 0) = false := decide_eq_false hN0
              clear hN0
              go_wp2_with fail
              go_roundw
              case rel => exact ⟨l, ao, cap, ps, aos, aoc, caps, capc, k + 1, rfl, rfl, rfl, by go_num, by omega, by omega, HS.out⟩
              case measure => simp [intOf]; omega
            · obtain ⟨j, rfl⟩ : ∃ j : Nat, N = j := ⟨N.toNat, by omega⟩
              have hjl : j < ps.length := by omega
              have hN0' : decide ((j : Int) < 0) = false := decide_eq_false hN0
              have hNl' : decide ((ps.length : Int) ≤ (j : Int)) = false := decide_eq_false hNl
              have hjl2 : (j : Int) < (ps.length : Int) := by omega
              obtain ⟨hh, hall2⟩ := all_free HS.out.all j hjl
              obtain ⟨hf1, hf2⟩ := freeL_yes HS.out.all.ok hh
              obtain ⟨gs, rfl, hgs1, hgs2, hgs3⟩ := own_some HS.out.slots (by omega)
              obtain ⟨gc, rfl, hgc1, hgc2, hgc3⟩ := own_some HS.out.cls (by omega)
              have s1 := (World.ownsRow.cellAt HS.out.slots (j * 2) (by omega)).trans (slotCells_at ps j hjl).1
              have s2 := (World.ownsRow.cellAt HS.out.slots (j * 2 + 1) (by omega)).trans (slotCells_at ps j hjl).2
              obtain ⟨si, hsi⟩ : ∃ si, si = (ps.getD j ((0, 0), 0)).1.1 := ⟨_, rfl⟩
              obtain ⟨sa, hsa⟩ : ∃ sa, sa = (ps.getD j ((0, 0), 0)).1.2 := ⟨_, rfl⟩
              rw [← hsi, ← hsa] at hall2 hf1 hf2
              rw [← hsi] at s1
              rw [← hsa] at s2
              have HF := Lib.hid (And.intro hf1 hf2)
              have HALL := Lib.hid hall2
              clear hN0 hNl hh hall2 hf1 hf2 hsi hsa
              have hjc : j ≤ caps := by omega
              have hjc2 : j ≤ capc := by omega
              have hjp : j + 1 ≤ ps.length := by omega
              have hj1 : IntKind.i64.wrap ((j : Int) + 1) = (j : Int) + 1 := IntWalk.i64_in _ (by omega)
              go_wp2_with (first
                | (go_at_call 17; refine (free_lit n l _ si sa 0 ao cap wr hll HF.out.1 HF.out.2 (by omega) hwf hat hnil).mono ?_; rintro e w3 ⟨⟨ao3, cap3, rfl, hs3⟩, hb3⟩))
              have hjA : (0 : Int) ≤ (j : Int) + 1 := by omega
              have hjB : (j : Int) + 1 ≤ (ps.length : Int) := by omega
              obtain ⟨ta, hta⟩ : ∃ ta, (if caps = j + 1 then some (⟨gs, 0, none⟩ : Addr) else some ⟨gs, (j + 1) * 2, none⟩) = some ta := by split <;> exact ⟨_, rfl⟩
              obtain ⟨tb, htb⟩ : ∃ tb, (if capc = j + 1 then some (⟨gc, 0, none⟩ : Addr) else some ⟨gc, j + 1, none⟩) = some tb := by split <;> exact ⟨_, rfl⟩
              have HTA := Lib.hid hta
              have HTB := Lib.hid htb
              have hsz3 := hb3.size
              have os3 := own_below HS.out.slots hb3
              have oc3 := own_below HS.out.cls hb3
              have sg3 := hs3.mono hszr
              have B3 := HS.out.bel.link hb3
              have hsc := slotCells_len ps
              have hcc : (clsCells ps).length = ps.length := by simp [clsCells]
              refine wp_region_held_drew (S := fun _ => True) (by kernel_rfl) trivial (fun hHeld => ?_)
              refine wpAnyH_take (i := 1) (v := ?_) (by simp only [List.getElem?_toArray, List.getElem?_cons_succ, List.getElem?_cons_zero]; rfl) (by kernel_rfl) (by kernel_rfl) (by kernel_rfl) (by intro _ _ _ h; exact h) (Or.inl ⟨by rfl, ?_⟩) (by assumption) ?_
              rotate_left
              · intro w' hSw
                go_simp
                try with_reducible rfl
              try simp only [Act.put, List.setIfInBounds_toArray, List.set_cons_zero, List.set_cons_succ]
              refine wpAnyH_take (i := 2) (v := ?_) (by simp only [List.getElem?_toArray, List.getElem?_cons_succ, List.getElem?_cons_zero]; rfl) (by kernel_rfl) (by kernel_rfl) (by kernel_rfl) (by intro _ _ _ h; exact h) (Or.inl ⟨by rfl, ?_⟩) (by assumption) ?_
              rotate_left
              · intro w' hSw
                go_simp
                try with_reducible rfl
              try simp only [Act.put, List.setIfInBounds_toArray, List.set_cons_zero, List.set_cons_succ]
              refine wpAnyH_take (i := 3) (v := ?_) (by simp only [List.getElem?_toArray, List.getElem?_cons_succ, List.getElem?_cons_zero]; rfl) (by kernel_rfl) (by kernel_rfl) (by kernel_rfl) (by intro _ _ _ h; exact h) (Or.inl ⟨by rfl, ?_⟩) (by assumption) ?_
              rotate_left
              · intro w' hSw
                go_simp
                try with_reducible rfl
              try simp only [Act.put, List.setIfInBounds_toArray, List.set_cons_zero, List.set_cons_succ]
              refine wpAnyH_take (i := 5) (v := ?_) (by simp only [List.getElem?_toArray, List.getElem?_cons_succ, List.getElem?_cons_zero]; rfl) (by kernel_rfl) (by kernel_rfl) (by kernel_rfl) (by intro _ _ _ h; exact h) (Or.inl ⟨by rfl, ?_⟩) (by assumption) ?_
              rotate_left
              · intro w' hSw
                go_simp
                try with_reducible rfl
              try simp only [Act.put, List.setIfInBounds_toArray, List.set_cons_zero, List.set_cons_succ]
              refine wpAnyH_take (i := 6) (v := ?_) (by simp only [List.getElem?_toArray, List.getElem?_cons_succ, List.getElem?_cons_zero]; rfl) (by kernel_rfl) (by kernel_rfl) (by kernel_rfl) (by intro _ _ _ h; exact h) (Or.inl ⟨by rfl, ?_⟩) (by assumption) ?_
              rotate_left
              · intro w' hSw
                go_simp
                try with_reducible rfl
              try simp only [Act.put, List.setIfInBounds_toArray, List.set_cons_zero, List.set_cons_succ]
              refine wpAnyH_take (i := 7) (v := ?_) (by simp only [List.getElem?_toArray, List.getElem?_cons_succ, List.getElem?_cons_zero]; rfl) (by kernel_rfl) (by kernel_rfl) (by kernel_rfl) (by intro _ _ _ h; exact h) (Or.inl ⟨by rfl, ?_⟩) (by assumption) ?_
              rotate_left
              · intro w' hSw
                go_simp
                try with_reducible rfl
              try simp only [Act.put, List.setIfInBounds_toArray, List.set_cons_zero, List.set_cons_succ]
              refine wpAnyH_take (i := 8) (v := ?_) (by simp only [List.getElem?_toArray, List.getElem?_cons_succ, List.getElem?_cons_zero]; rfl) (by kernel_rfl) (by kernel_rfl) (by kernel_rfl) (by intro _ _ _ h; exact h) (Or.inl ⟨by rfl, ?_⟩) (by assumption) ?_
              rotate_left
              · intro w' hSw
                go_simp
                try with_reducible rfl
              try simp only [Act.put, List.setIfInBounds_toArray, List.set_cons_zero, List.set_cons_succ]
              refine wpAnyH_ready (rs := [0]) (by kernel_rfl) (by simp) ?_
              refine AllReadyH.cons (by simp only [List.getElem?_toArray, List.getElem?_cons_succ, List.getElem?_cons_zero]; rfl) (fun K hK => ?_) AllReadyH.nil
              have hlit := World.ownsRow_lit (base := w.heap.size) (e := 24) (size := 2) w3.drew #[] 0 (by show w.heap.size ≤ w3.heap.size; omega) (by unfold maxLen; omega) rfl
              have osA := (World.ownsRow.drew os3).alloc (.cells #[] 24)
              have ocA := (World.ownsRow.drew oc3).alloc (.cells #[] 24)
              have sgA : (w3.drew.alloc (.cells #[] 24)).ownsRow _ _ _ _ _ _ := (World.ownsRow.drew sg3).alloc (.cells #[] 24)
              have BA := ((below_drewN _ _ 1 _ B3).alloc (by show w.heap.size ≤ w3.heap.size; omega) (.cells #[] 24))
              go_simp
              refine hK.out _ _ trivial (fun hHeld => ?_)
              clear hK
              try simp only [Act.put, List.setIfInBounds_toArray, List.set_cons_zero, List.set_cons_succ]
              refine wpAnyH_ready (rs := [4]) (by kernel_rfl) (by simp) ?_
              refine AllReadyH.cons (by simp only [List.getElem?_toArray, List.getElem?_cons_succ, List.getElem?_cons_zero]; rfl) (fun K hK => ?_) AllReadyH.nil
              refine step_slots rfl (.tmp 81) (.tmp 84) rfl w.heap.size (.slice (some ⟨w3.drew.heap.size, 0, none⟩) 0 0) 0 [] rfl hlit ⟨gs, 0, none⟩ j caps ((slotCells ps).take (j * 2)) rfl (by rw [List.length_take]; omega) (row_first osA (j * 2)) (fun u hu => one_slots ps u (List.mem_of_mem_take hu)) (by omega) BA.size ?_
              intro ao4 cap4 w4 hown4 hgr4 hb4
              have os4 := osA.kept hgr4 (.inr (fun h => by have h2 : gs = w3.heap.size := Option.some.inj h; omega))
              have oc4 := ocA.kept hgr4 (own_ne ocA hlit (by decide))
              have sg4 := sgA.kept hgr4 (own_ne sgA hlit (by decide))
              have B4 := BA.trans hb4
              have hnews : ∀ q u, ((slotCells ps).drop ((j + 1) * 2))[q]? = some u → w4.cell? (ta.add q) = some u := by
                have h := HTA.out
                split at h
                · intro q u hu
                  rw [List.drop_eq_nil_of_le (by omega)] at hu
                  simp at hu
                · cases h
                  exact row_behind os4 ((j + 1) * 2)
              refine hK.out _ _ trivial (fun hHeld => ?_)
              clear hK
              try simp only [Act.put, List.setIfInBounds_toArray, List.set_cons_zero, List.set_cons_succ]
              refine wpAnyH_ready (rs := [9]) (by kernel_rfl) (by simp) ?_
              refine AllReadyH.cons (by simp only [List.getElem?_toArray, List.getElem?_cons_succ, List.getElem?_cons_zero]; rfl) (fun K hK => ?_) AllReadyH.nil
              refine step_slots rfl (.tmp 85) (.tmp 89) rfl w.heap.size _ (0 + j) _ rfl hown4 ta (ps.length - (j + 1)) (caps - (j + 1)) ((slotCells ps).drop ((j + 1) * 2)) rfl (by rw [List.length_drop]; omega) hnews (fun u hu => one_slots ps u (List.mem_of_mem_drop hu)) (by omega) B4.size ?_
              intro ao5 cap5 w5 hown5 hgr5 hb5
              have oc5 := oc4.kept hgr5 (own_ne oc4 hown4 (by decide))
              have sg5 := sg4.kept hgr5 (own_ne sg4 hown4 (by decide))
              have B5 := B4.trans hb5
              have hge5 := B5.size
              have hgcl := (World.ownsRow.lt oc5 gc rfl).2
              refine hK.out _ _ trivial (fun hHeld => ?_)
              clear hK
              try simp only [Act.put, List.setIfInBounds_toArray, List.set_cons_zero, List.set_cons_succ]
              refine wpAnyH_take (i := 10) (v := ?_) (by simp only [List.getElem?_toArray, List.getElem?_cons_succ, List.getElem?_cons_zero]; rfl) (by kernel_rfl) (by kernel_rfl) (by kernel_rfl) (by intro _ _ _ h; exact h) (Or.inl ⟨by rfl, ?_⟩) (by assumption) ?_
              rotate_left
              · intro w' hSw
                go_simp
                try with_reducible rfl
              try simp only [Act.put, List.setIfInBounds_toArray, List.set_cons_zero, List.set_cons_succ]
              refine wpAnyH_done (by kernel_rfl) ?_ _
              go_wp2_with fail
              refine wp_region_held_drew (S := fun _ => True) (by kernel_rfl) trivial (fun hHeld => ?_)
              refine wpAnyH_take (i := 1) (v := ?_) (by simp only [List.getElem?_toArray, List.getElem?_cons_succ, List.getElem?_cons_zero]; rfl) (by kernel_rfl) (by kernel_rfl) (by kernel_rfl) (by intro _ _ _ h; exact h) (Or.inl ⟨by rfl, ?_⟩) (by assumption) ?_
              rotate_left
              · intro w' hSw
                go_simp
                try with_reducible rfl
              try simp only [Act.put, List.setIfInBounds_toArray, List.set_cons_zero, List.set_cons_succ]
              refine wpAnyH_take (i := 2) (v := ?_) (by simp only [List.getElem?_toArray, List.getElem?_cons_succ, List.getElem?_cons_zero]; rfl) (by kernel_rfl) (by kernel_rfl) (by kernel_rfl) (by intro _ _ _ h; exact h) (Or.inl ⟨by rfl, ?_⟩) (by assumption) ?_
              rotate_left
              · intro w' hSw
                go_simp
                try with_reducible rfl
              try simp only [Act.put, List.setIfInBounds_toArray, List.set_cons_zero, List.set_cons_succ]
              refine wpAnyH_take (i := 3) (v := ?_) (by simp only [List.getElem?_toArray, List.getElem?_cons_succ, List.getElem?_cons_zero]; rfl) (by kernel_rfl) (by kernel_rfl) (by kernel_rfl) (by intro _ _ _ h; exact h) (Or.inl ⟨by rfl, ?_⟩) (by assumption) ?_
              rotate_left
              · intro w' hSw
                go_simp
                try with_reducible rfl
              try simp only [Act.put, List.setIfInBounds_toArray, List.set_cons_zero, List.set_cons_succ]
              refine wpAnyH_take (i := 5) (v := ?_) (by simp only [List.getElem?_toArray, List.getElem?_cons_succ, List.getElem?_cons_zero]; rfl) (by kernel_rfl) (by kernel_rfl) (by kernel_rfl) (by intro _ _ _ h; exact h) (Or.inl ⟨by rfl, ?_⟩) (by assumption) ?_
              rotate_left
              · intro w' hSw
                go_simp
                try with_reducible rfl
              try simp only [Act.put, List.setIfInBounds_toArray, List.set_cons_zero, List.set_cons_succ]
              refine wpAnyH_take (i := 6) (v := ?_) (by simp only [List.getElem?_toArray, List.getElem?_cons_succ, List.getElem?_cons_zero]; rfl) (by kernel_rfl) (by kernel_rfl) (by kernel_rfl) (by intro _ _ _ h; exact h) (Or.inl ⟨by rfl, ?_⟩) (by assumption) ?_
              rotate_left
              · intro w' hSw
                go_simp
                try with_reducible rfl
              try simp only [Act.put, List.setIfInBounds_toArray, List.set_cons_zero, List.set_cons_succ]
              refine wpAnyH_take (i := 7) (v := ?_) (by simp only [List.getElem?_toArray, List.getElem?_cons_succ, List.getElem?_cons_zero]; rfl) (by kernel_rfl) (by kernel_rfl) (by kernel_rfl) (by intro _ _ _ h; exact h) (Or.inl ⟨by rfl, ?_⟩) (by assumption) ?_
              rotate_left
              · intro w' hSw
                go_simp
                try with_reducible rfl
              try simp only [Act.put, List.setIfInBounds_toArray, List.set_cons_zero, List.set_cons_succ]
              refine wpAnyH_take (i := 8) (v := ?_) (by simp only [List.getElem?_toArray, List.getElem?_cons_succ, List.getElem?_cons_zero]; rfl) (by kernel_rfl) (by kernel_rfl) (by kernel_rfl) (by intro _ _ _ h; exact h) (Or.inl ⟨by rfl, ?_⟩) (by assumption) ?_
              rotate_left
              · intro w' hSw
                go_simp
                try with_reducible rfl
              try simp only [Act.put, List.setIfInBounds_toArray, List.set_cons_zero, List.set_cons_succ]
              refine wpAnyH_ready (rs := [0]) (by kernel_rfl) (by simp) ?_
              refine AllReadyH.cons (by simp only [List.getElem?_toArray, List.getElem?_cons_succ, List.getElem?_cons_zero]; rfl) (fun K hK => ?_) AllReadyH.nil
              have hlitc := World.ownsRow_lit (base := w.heap.size) (e := 3) (size := 1) w5.drew #[] 0 (by show w.heap.size ≤ w5.heap.size; omega) (by unfold maxLen; omega) rfl
              have osB := (World.ownsRow.drew hown5).alloc (.cells #[] 3)
              have ocB := (World.ownsRow.drew oc5).alloc (.cells #[] 3)
              have sgB := (World.ownsRow.drew sg5).alloc (.cells #[] 3)
              have BB := ((below_drewN _ _ 1 _ B5).alloc (by show w.heap.size ≤ w5.heap.size; omega) (.cells #[] 3))
              go_simp
              refine hK.out _ _ trivial (fun hHeld => ?_)
              clear hK
              try simp only [Act.put, List.setIfInBounds_toArray, List.set_cons_zero, List.set_cons_succ]
              refine wpAnyH_ready (rs := [4]) (by kernel_rfl) (by simp) ?_
              refine AllReadyH.cons (by simp only [List.getElem?_toArray, List.getElem?_cons_succ, List.getElem?_cons_zero]; rfl) (fun K hK => ?_) AllReadyH.nil
              refine step_cls rfl (.tmp 91) (.tmp 94) rfl w.heap.size (.slice (some ⟨w5.drew.heap.size, 0, none⟩) 0 0) 0 [] rfl hlitc ⟨gc, 0, none⟩ j capc ((clsCells ps).take j) rfl (by rw [List.length_take]; omega) (row_first ocB j) (fun u hu => one_cls ps u (List.mem_of_mem_take hu)) (by omega) BB.size ?_
              intro ao6 cap6 w6 hown6 hgr6 hb6
              have oc6 := ocB.kept hgr6 (.inr (fun h => by have h2 : gc = w5.heap.size := Option.some.inj h; omega))
              have os6 := osB.kept hgr6 (own_ne osB hlitc (by decide))
              have sg6 := sgB.kept hgr6 (own_ne sgB hlitc (by decide))
              have B6 := BB.trans hb6
              have hnews2 : ∀ q u, ((clsCells ps).drop (j + 1))[q]? = some u → w6.cell? (tb.add q) = some u := by
                have h := HTB.out
                split at h
                · intro q u hu
                  rw [List.drop_eq_nil_of_le (by omega)] at hu
                  simp at hu
                · cases h
                  exact row_behind oc6 (j + 1)
              refine hK.out _ _ trivial (fun hHeld => ?_)
              clear hK
              try simp only [Act.put, List.setIfInBounds_toArray, List.set_cons_zero, List.set_cons_succ]
              refine wpAnyH_ready (rs := [9]) (by kernel_rfl) (by simp) ?_
              refine AllReadyH.cons (by simp only [List.getElem?_toArray, List.getElem?_cons_succ, List.getElem?_cons_zero]; rfl) (fun K hK => ?_) AllReadyH.nil
              refine step_cls rfl (.tmp 95) (.tmp 99) rfl w.heap.size _ (0 + j) _ rfl hown6 tb (ps.length - (j + 1)) (capc - (j + 1)) ((clsCells ps).drop (j + 1)) rfl (by rw [List.length_drop]; omega) hnews2 (fun u hu => one_cls ps u (List.mem_of_mem_drop hu)) (by omega) B6.size ?_
              intro ao7 cap7 w7 hown7 hgr7 hb7
              have os7 := os6.kept hgr7 (own_ne os6 hown6 (by decide))
              have sg7 := sg6.kept hgr7 (own_ne sg6 hown6 (by decide))
              have B7 := B6.trans hb7
              refine hK.out _ _ trivial (fun hHeld => ?_)
              clear hK
              try simp only [Act.put, List.setIfInBounds_toArray, List.set_cons_zero, List.set_cons_succ]
              refine wpAnyH_take (i := 10) (v := ?_) (by simp only [List.getElem?_toArray, List.getElem?_cons_succ, List.getElem?_cons_zero]; rfl) (by kernel_rfl) (by kernel_rfl) (by kernel_rfl) (by intro _ _ _ h; exact h) (Or.inl ⟨by rfl, ?_⟩) (by assumption) ?_
              rotate_left
              · intro w' hSw
                go_simp
                try with_reducible rfl
              try simp only [Act.put, List.setIfInBounds_toArray, List.set_cons_zero, List.set_cons_succ]
              refine wpAnyH_done (by kernel_rfl) ?_ _
              go_wp2_with fail
              have hpl : (ps.take j ++ ps.drop (j + 1)).length = j + (ps.length - (j + 1)) := by rw [List.length_append, List.length_take, List.length_drop]; omega
              have hps : slotCells (ps.take j ++ ps.drop (j + 1)) = [] ++ (slotCells ps).take (j * 2) ++ (slotCells ps).drop ((j + 1) * 2) := by rw [slotCells_append, slotCells_take, slotCells_drop]; rfl
              have hpc : clsCells (ps.take j ++ ps.drop (j + 1)) = [] ++ (clsCells ps).take j ++ (clsCells ps).drop (j + 1) := by unfold clsCells; rw [List.map_append, List.map_take, List.map_drop]; rfl
              have e0j : 0 + j + (ps.length - (j + 1)) = j + (ps.length - (j + 1)) := by omega
              rw [e0j] at os7 hown7
              go_roundw
              case rel => exact ⟨_, ao3, cap3, ps.take j ++ ps.drop (j + 1), ao5, ao7, cap5, cap7, k + 1, rfl, by rw [hpl], by rw [hpl], by go_num, by omega, by omega, sg7, HALL.out, by rw [hpl, hps]; exact os7, by rw [hpl, hpc]; exact hown7, B7⟩
              case measure => simp [intOf]; omega
        | false =>
          have HG2 := Lib.hid hpar
          obtain ⟨m, ⟨s, a⟩, e0, hE⟩ : ∃ m sa e, takeL l N = (m, sa, e) := ⟨_, _, _, rfl⟩
          by_cases he : e0 = 0
          · subst he
            obtain ⟨si, sa, h1, hall2⟩ := all_take (c := N) HS.out.all (by rw [hE])
            rw [hE] at h1 hall2
            obtain ⟨rfl, rfl⟩ := Prod.mk.inj (show ((s, a) : Int × Int) = ((si : Int), (sa : Int)) from h1)
            have HALL : Hid (AllOk n m (ps ++ [((si, sa), N)])) := hall2
            have HE := Lib.hid hE
            clear hE h1 hall2
            go_wp2_with (first
              | (go_at_call 15; refine (take_lit n l m N si sa 0 ao cap wr hll HE.out (by omega) hwf hat hnil Tr).mono ?_; rintro e w3 ⟨⟨ao3, cap3, rfl, hs3⟩, hb3⟩)
              | (refine wpList_storeSlot rfl (.tmp 15) (.tmp 110) rfl _ si sa 0 0 rfl rfl (SlotRow.new w3 0 0) ?_; intro w4 hr4 hon4; have hb4 := hon4.fresh; have os4 := own_below (own_below HS.out.slots hb3) hb4; have oc4 := own_below (own_below HS.out.cls hb3) hb4; have sg4 := (hs3.below hb4).mono hszr; have B4 := (HS.out.bel.link hb3).link hb4; obtain ⟨c0, c1⟩ := hr4.box; have hsz4 := B4.size)
              | (at_builtin; refine list_slots rfl _ _ rfl w.heap.size _ ps.length (slotCells ps) rfl (os4.alloc (.cells #[.int .i64 si, .int .i64 sa] 24)) ⟨w4.heap.size, 0, none⟩ 1 1 [.int .i64 si, .int .i64 sa] rfl rfl (World.news_of_block (cs := #[.int .i64 si, .int .i64 sa]) (t := 24) (fr := (0, 0)) (heap_alloc_new w4 _)) (by simp [Value.oneCell']) (by omega) (by simp; omega) ?_; intro ao5 cap5 w5 hown5 hgr5 hb5; have oc5 := (oc4.alloc (.cells #[.int .i64 si, .int .i64 sa] 24)).kept hgr5 (own_ne (oc4.alloc (.cells #[.int .i64 si, .int .i64 sa] 24)) (os4.alloc (.cells #[.int .i64 si, .int .i64 sa] 24)) (by decide)); have sg5 := (World.ownsRow.alloc sg4 (.cells #[.int .i64 si, .int .i64 sa] 24)).kept hgr5 (own_ne (World.ownsRow.alloc sg4 (.cells #[.int .i64 si, .int .i64 sa] 24)) (os4.alloc (.cells #[.int .i64 si, .int .i64 sa] 24)) (by decide)); have B5 := (B4.alloc hsz4 (.cells #[.int .i64 si, .int .i64 sa] 24)).trans hb5; have g3 := (B5.cell (p := ⟨b, off + k * 2 + 1, none⟩) hbl).trans HG2.out; have hsz5 := B5.size)
              | (at_builtin; refine list_cls rfl _ _ rfl w.heap.size _ ps.length (clsCells ps) rfl (oc5.alloc (.cells #[.int .i64 N] 3)) ⟨w5.heap.size, 0, none⟩ 1 1 [.int .i64 N] rfl rfl (World.news_of_block (cs := #[.int .i64 N]) (t := 3) (fr := (0, 0)) (heap_alloc_new w5 _)) (by simp [Value.oneCell']) (by omega) (by simp; omega) ?_; intro ao6 cap6 w6 hown6 hgr6 hb6; have os6 := (World.ownsRow.alloc hown5 (.cells #[.int .i64 N] 3)).kept hgr6 (own_ne (World.ownsRow.alloc hown5 (.cells #[.int .i64 N] 3)) (oc5.alloc (.cells #[.int .i64 N] 3)) (by decide)); have sg6 := (World.ownsRow.alloc sg5 (.cells #[.int .i64 N] 3)).kept hgr6 (own_ne (World.ownsRow.alloc sg5 (.cells #[.int .i64 N] 3)) (oc5.alloc (.cells #[.int .i64 N] 3)) (by decide)); have B6 := (B5.alloc hsz5 (.cells #[.int .i64 N] 3)).trans hb6))
            have hpl : (ps ++ [((si, sa), N)]).length = ps.length + 1 := by simp
            have hps : slotCells (ps ++ [((si, sa), N)]) = slotCells ps ++ [.int .i64 si, .int .i64 sa] := by rw [slotCells_append]; rfl
            have hpc : clsCells (ps ++ [((si, sa), N)]) = clsCells ps ++ [.int .i64 N] := by unfold clsCells; rw [List.map_append]; rfl
            go_roundw
            case rel => exact ⟨m, ao3, cap3, ps ++ [((si, sa), N)], ao5, ao6, cap5, cap6, k + 1, rfl, by rw [hpl], by rw [hpl], by go_num, by omega, by omega, sg6, HALL.out, by rw [hpl, hps]; exact os6, by rw [hpl, hpc]; exact hown6, B6⟩
            case measure => simp [intOf]; omega
          · have hml : m = l := by
              have := take_err (l := l) (c := N) (by rw [hE]; exact he)
              rw [hE] at this
              simp only [Prod.mk.injEq] at this
              exact this.1
            subst hml
            have HE := Lib.hid hE
            have hez : (e0 == 0) = false := by simpa using he
            clear hE he
            go_wp2_with (first
              | (go_at_call 15; refine (take_lit n m m N s a e0 ao cap wr hll HE.out (by omega) hwf hat hnil Tr).mono ?_; rintro e w3 ⟨⟨ao3, cap3, rfl, hs3⟩, hb3⟩)
              | (refine wpList_storeSlot rfl (.tmp 15) (.tmp 110) rfl _ s a 0 0 rfl rfl (SlotRow.new w3 0 0) ?_; intro w4 hr4 hon4; have hb4 := hon4.fresh; have os4 := own_below (own_below HS.out.slots hb3) hb4; have oc4 := own_below (own_below HS.out.cls hb3) hb4; have sg4 := (hs3.below hb4).mono hszr; have B4 := (HS.out.bel.link hb3).link hb4))
            go_roundw
            case rel => exact ⟨m, ao3, cap3, ps, aos, aoc, caps, capc, k + 1, rfl, rfl, rfl, by go_num, by omega, by omega, sg4, HS.out.all, os4, oc4, B4⟩
            case measure => simp [intOf]; omega
      · have hi : ¬ ((k : Int) < (acts.length : Int)) := by omega
        have hpk' : ps.length ≤ 100 := by omega
        have hsum := sum_le ps
        have hok := S.all.ok
        have htk : takenR l = sumC ps := by unfold takenR; rw [if_pos hok]; exact S.all.taken
        have hhd : heldR l = heldL l := if_pos hok
        have hge := taken_held l hok.2
        rw [S.all.taken] at hge
        have hle := held_le l
        rw [hll] at hle
        have h512 : IntKind.i64.wrap (512 * (n : Int)) = ((512 * n : Nat) : Int) := by rw [IntWalk.i64_in _ (by omega)]; omega
        obtain ⟨hd1, hhd1⟩ : ∃ h, heldL l = h := ⟨_, rfl⟩
        rw [hhd1] at hhd hge hle
        have hge2 : (sumC ps : Int) ≤ (hd1 : Int) := by omega
        have hle2 : (hd1 : Int) ≤ ((512 * n : Nat) : Int) := by omega
        have hle3 : (hd1 : Int) ≤ 512 * (n : Int) := by omega
        have HOK := Lib.hid hok
        have HT := Lib.hid htk
        have HHD := Lib.hid hhd
        have HCK := Lib.hid (decide_eq_true hok)
        clear S hok htk hhd hhd1 hge hle
        go_wp2_with fail
        rename World => wl
        go_loopw [17, 18] (fun nv iv wi => ∃ j : Nat, j ≤ ps.length ∧ iv = .int .i64 j ∧ nv = .int .i64 (sumC (ps.take j) : Nat) ∧ Below wl.heap.size wl wi) (fun _ iv _ => ps.length - (intOf iv).toNat)
        case atStart => exact ⟨0, Nat.zero_le _, rfl, by rw [List.take_zero]; rfl, Below.refl _ _⟩
        case round =>
          obtain ⟨j, hj, rfl, rfl, hb2⟩ := hrel
          have BW := HS.out.bel.link hb2
          have HSeg := hat.below hb2
          by_cases hjl : j < ps.length
          · have hjl2 : (j : Int) < (ps.length : Int) := by omega
            have os := own_below HS.out.slots hb2
            have oc := own_below HS.out.cls hb2
            obtain ⟨gs, rfl, _, hgs2, hgs3⟩ := own_some HS.out.slots (by omega)
            obtain ⟨gc, rfl, _, hgc2, hgc3⟩ := own_some HS.out.cls (by omega)
            have hsn := sum_snoc ps j hjl
            have hsl := sum_le (ps.take j)
            rw [List.length_take] at hsl
            have s0 : ∀ q, q < ps.length → wr.cell? ⟨gs, q * 2, none⟩ = some (.int .i64 (ps.getD q ((0, 0), 0)).1.1) ∧ wr.cell? ⟨gs, q * 2 + 1, none⟩ = some (.int .i64 (ps.getD q ((0, 0), 0)).1.2) := fun q hq => ⟨(World.ownsRow.cellAt os (q * 2) (by omega)).trans (slotCells_at ps q hq).1, (World.ownsRow.cellAt os (q * 2 + 1) (by omega)).trans (slotCells_at ps q hq).2⟩
            have s3 : wr.cell? ⟨gc, j, none⟩ = some (.int .i64 (ps.getD j ((0, 0), 0)).2) := by
              rw [World.ownsRow.cellAt oc j (by omega)]
              unfold clsCells
              rw [List.getElem?_map, List.getD_eq_getElem?_getD, List.getElem?_eq_getElem hjl]; rfl
            have HAS := Lib.hid (HS.out.all.has _ (getH_mem hjl)).1
            have HND := Lib.hid (fun q (hq : q < j) => nodup_ne HS.out.all.nodup (a := q) (b := j) hq hjl)
            obtain ⟨s1, s2⟩ := s0 j hjl
            obtain ⟨cc, hcc⟩ : ∃ cc, cc = (ps.getD j ((0, 0), 0)).2 := ⟨_, rfl⟩
            obtain ⟨si, hsi⟩ : ∃ si, si = (ps.getD j ((0, 0), 0)).1.1 := ⟨_, rfl⟩
            obtain ⟨sa, hsa⟩ : ∃ sa, sa = (ps.getD j ((0, 0), 0)).1.2 := ⟨_, rfl⟩
            rw [← hcc] at s3 hsn
            rw [← hsi] at s1 HAS
            rw [← hsa] at s2 HAS
            have HSI := Lib.hid hsi
            have HSA := Lib.hid hsa
            have HS0 := Lib.hid s0
            have hbd := bytesC_bd cc
            obtain ⟨sm, hsm⟩ : ∃ sm, sm = sumC (ps.take j) := ⟨_, rfl⟩
            rw [← hsm] at hsn hsl
            rw [← hsm]
            have hw : IntKind.i64.wrap ((sm : Int) + bytesC cc) = ((sm + (bytesC cc).toNat : Nat) : Int) := by rw [IntWalk.i64_in _ (by omega)]; omega
            obtain ⟨s4, hs4⟩ : ∃ s4, s4 = sm + (bytesC cc).toNat := ⟨_, rfl⟩
            rw [← hs4] at hw hsn
            have HSN := Lib.hid hsn
            have gd := guard24
            clear s0 hcc hsi hsa hsn hsl hbd hsm hs4 os oc
            go_wp2_with (go_at_call 20; refine (rbytes_any _ _).mono ?_; rintro e w5 ⟨rfl, rfl⟩)
            rename World => wo
            go_loopw [19] (fun kv wi => ∃ q : Nat, q ≤ j ∧ kv = .int .i64 q ∧ Below wo.heap.size wo wi) (fun kv _ => j - (intOf kv).toNat)
            case atStart => exact ⟨0, Nat.zero_le _, rfl, Below.refl _ _⟩
            case round =>
              obtain ⟨q, hq, rfl, hb3⟩ := hrel
              have HSegi := HSeg.below hb3
              have e1 := (hb3.cell (p := ⟨gs, j * 2, none⟩) (World.block_lt_of_cell? _ _ s1)).trans s1
              have e2 := (hb3.cell (p := ⟨gs, j * 2 + 1, none⟩) (World.block_lt_of_cell? _ _ s2)).trans s2
              by_cases hqj : q < j
              · have hqj2 : (q : Int) < (j : Int) := by omega
                have hql : (q : Int) < (ps.length : Int) := by omega
                obtain ⟨t1, t2⟩ := HS0.out q (by omega)
                have e3 := (hb3.cell (p := ⟨gs, q * 2, none⟩) (World.block_lt_of_cell? _ _ t1)).trans t1
                have e4 := (hb3.cell (p := ⟨gs, q * 2 + 1, none⟩) (World.block_lt_of_cell? _ _ t2)).trans t2
                have hnd := HND.out q hqj
                have hne : ¬ ((((ps.getD q ((0, 0), 0)).1.1 : Nat) : Int) = (si : Int) ∧ (((ps.getD q ((0, 0), 0)).1.2 : Nat) : Int) = (sa : Int)) := by
                  rw [HSI.out, HSA.out]
                  intro h
                  exact hnd (Prod.ext (by omega) (by omega))
                obtain ⟨qi, hqi⟩ : ∃ qi, qi = (ps.getD q ((0, 0), 0)).1.1 := ⟨_, rfl⟩
                obtain ⟨qa, hqa⟩ : ∃ qa, qa = (ps.getD q ((0, 0), 0)).1.2 := ⟨_, rfl⟩
                rw [← hqi] at e3 hne
                rw [← hqa] at e4 hne
                have hb : ∀ w, (binOp .eql 24 (.agg #[.int .i64 qi, .int .i64 qa]) (.agg #[.int .i64 si, .int .i64 sa])).run Tryd.prog w = .ok (.bool false) w := fun w => by rw [eql_slots, decide_eq_false hne]
                clear t1 t2 hnd hne hqi hqa
                go_wp2_with fail
                go_quiet (fail)
                go_wp2_with fail
                go_roundw
                case rel => exact ⟨q + 1, by omega, by go_num, below_drewN _ _ _ _ hb3⟩
                case measure => simp [intOf]; omega
              · have hqj2 : ¬ ((q : Int) < (j : Int)) := by omega
                have HHAS : Hid (decide (okS l ∧ hasL l si sa) = true) := decide_eq_true ⟨HOK.out, (hasL_nat _ _ _).2 HAS.out⟩
                go_wp2_with (go_at_call 18; refine (has_lit n l si sa true ao cap _ hll HHAS.out hwf HSegi).mono ?_; rintro e w6 ⟨rfl, hb6⟩)
                go_roundw
                case rel => exact ⟨j + 1, by omega, by go_num, by rw [HSN.out], hb2.link (hb3.link hb6)⟩
                case measure => simp [intOf]; omega
          · have hjl2 : ¬ ((j : Int) < (ps.length : Int)) := by omega
            have hjp : j = ps.length := by omega
            rw [hjp, List.take_length]
            go_wp2_with (first
              | (go_at_call 14; refine (check_lit n l true ao cap _ hll HCK.out hwf HSeg).mono ?_; rintro e w6 ⟨rfl, hb6⟩; have HSeg6 := HSeg.below hb6)
              | (go_at_call 19; refine (taken_lit n l (sumC ps) ao cap _ hll HT.out hwf HSeg6).mono ?_; rintro e w7 ⟨rfl, hb7⟩; have HSeg7 := HSeg6.below hb7)
              | (go_at_call 22; refine (held_lit n l hd1 ao cap w7 hll HHD.out hwf HSeg7).mono ?_; rintro e w8 ⟨rfl, hb8⟩; have HSeg8 := HSeg7.below hb8)
              | (go_at_call 22; refine (held_lit n l hd1 ao cap w8 hll HHD.out hwf HSeg8).mono ?_; rintro e w9 ⟨rfl, hb9⟩))
            go_ret
            exact ⟨rfl, BW.link ((hb6.link hb7).link (hb8.link hb9))⟩
  · have hd : (100 : Int) < (acts.length : Int) := by omega
    go_enter Tryd.func4, Tryd.ntmps4
    go_wp2_with (first
      | (go_at_call 13; refine (awake_any _ hT).mono ?_; rintro e w1 ⟨rfl, hb1⟩; have T1 := hT.grow hb1)
      | (go_at_call 21; refine (new_any n w1 (by omega)).mono ?_; rintro e w2 ⟨⟨ao2, cap2, rfl, hs2⟩, hb2⟩))
    go_ret
    exact ⟨rfl, hb1.link hb2⟩
end Go.Proofs.YtfnokklcbmipgaaDoor
