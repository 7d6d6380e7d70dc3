/- The contract of drop. -/
import Derived.Test.YtfnokklcbmipgaaDoorS8
namespace Go.Proofs.YtfnokklcbmipgaaDoor
open Go.RowKit Plain

abbrev Slots := List (Int × Int)
def SlotsAt (w : World) (ao : Option Addr) (l : Slots) : Prop := l = [] ∨ ∃ b off, ao = some ⟨b, off, none⟩ ∧ b < w.heap.size ∧ ∀ i, i < l.length → w.cell? ⟨b, off + i * 2, none⟩ = some (.int .i64 (l.getD i (0, 0)).1) ∧ w.cell? ⟨b, off + i * 2 + 1, none⟩ = some (.int .i64 (l.getD i (0, 0)).2)
theorem SlotsAt.below {w w' : World} {ao : Option Addr} {l : Slots} (h : SlotsAt w ao l) (hb : Below w.heap.size w w') : SlotsAt w' ao l := by
  rcases h with h | ⟨b, off, h1, h2, h3⟩
  · exact .inl h
  · exact .inr ⟨b, off, h1, Nat.lt_of_lt_of_le h2 hb.size, fun i hi => ⟨(hb.cell (by exact h2)).trans (h3 i hi).1, (hb.cell (by exact h2)).trans (h3 i hi).2⟩⟩
theorem SlotsAt.cell {w : World} {ao : Option Addr} {l : Slots} (h : SlotsAt w ao l) (i : Nat) (hi : i < l.length) : ∃ b off, ao = some ⟨b, off, none⟩ ∧ b < w.heap.size ∧ ∀ i, i < l.length → w.cell? ⟨b, off + i * 2, none⟩ = some (.int .i64 (l.getD i (0, 0)).1) ∧ w.cell? ⟨b, off + i * 2 + 1, none⟩ = some (.int .i64 (l.getD i (0, 0)).2) := by
  rcases h with h | ⟨b, off, h1, h2, h3⟩
  · subst h; simp at hi
  · exact ⟨b, off, h1, h2, h3⟩
theorem SlotsAt.chg {w w' : World} {bw g : Nat} {ao : Option Addr} {l : Slots} (h : SlotsAt w ao l) (hc : Chg bw g w w') (hd : l ≠ [] → ∀ b off, ao = some ⟨b, off, none⟩ → b ≠ bw ∧ b ≠ g) : SlotsAt w' ao l := by
  by_cases hne : l = []
  · exact .inl hne
  rcases h with h | ⟨b, off, h1, h2, h3⟩
  · exact .inl h
  · obtain ⟨d1, d2⟩ := hd hne b off h1
    exact .inr ⟨b, off, h1, Nat.lt_of_lt_of_le h2 hc.size, fun i hi => ⟨(hc.cell (by exact h2) d1 d2).trans (h3 i hi).1, (hc.cell (by exact h2) d1 d2).trans (h3 i hi).2⟩⟩
/-- Slots given back, one by one, up to one that is not taken. -/
def dropGo : Segs → List UInt8 → Slots → Segs × List UInt8 × Bool
  | l, B, [] => (l, B, true)
  | l, B, (s, a) :: r => if okS l ∧ hasL l s a then dropGo (freeN l s.toNat a.toNat) (layB B (posN l s.toNat a.toNat) (lenN l s.toNat) []) r else (l, B, false)
theorem dropGo_at {l : Segs} {B : List UInt8} {ss : Slots} {k : Nat} (hk : k < ss.length) : dropGo l B (ss.drop k) = if okS l ∧ hasL l (ss.getD k (0, 0)).1 (ss.getD k (0, 0)).2 then dropGo (freeN l (ss.getD k (0, 0)).1.toNat (ss.getD k (0, 0)).2.toNat) (layB B (posN l (ss.getD k (0, 0)).1.toNat (ss.getD k (0, 0)).2.toNat) (lenN l (ss.getD k (0, 0)).1.toNat) []) (ss.drop (k + 1)) else (l, B, false) := by
  rw [List.drop_eq_getElem_cons hk]
  have e : ss.getD k (0, 0) = ss[k] := by rw [List.getD_eq_getElem?_getD, List.getElem?_eq_getElem hk]; rfl
  rw [e]
  rfl
theorem freeN_len (l : Segs) (k n : Nat) : (freeN l k n).length = l.length := by unfold freeN; rw [List.length_set]
def errD (b : Bool) : Int := if b = true then 0 else 120
attribute [local irreducible] Go.Calls
theorem und39 : Tryd.prog.underlying 39 = some (.slice 24) := Tryd.underlying39
set_option linter.unusedSimpArgs false in
set_option maxRecDepth 20000 in
set_option maxHeartbeats 4000000 in
theorem drop_any (base bw g : Nat) (l : Segs) (B : List UInt8) (ao : Option Addr) (ss : Slots) (cap : Nat) (w : World) (h : WorkAt w base bw g l B) (hok : okS l) (hB : B.length = l.length * 512) (hs : SlotsAt w ao ss) (hd : ss ≠ [] → ∀ b off, ao = some ⟨b, off, none⟩ → b ≠ bw ∧ b ≠ g) (hl : ss.length ≤ 1000000) :
    Calls Tryd.prog 51 #[.pointer (some ⟨bw, 0, none⟩), .slice ao ss.length cap] w fun e w' => e = .returned (.int .i64 (errD (dropGo l B ss).2.2)) ∧ WorkAt w' base bw g (dropGo l B ss).1 (dropGo l B ss).2.1 ∧ Chg bw g w w' := by
  have hmf : ∀ (fn : Fn) (first cap : Array Value) (w : World), (Instr.makeFunc fn first cap).run Tryd.prog w = .ok (.func fn first cap) w := fun _ _ _ _ => rfl
  have hb0 : Below w.heap.size w (w.alloc (.cells #[.pointer (some ⟨bw, 0, none⟩)] 95)) := (Below.refl _ _).alloc (Nat.le_refl _) _
  obtain ⟨w1, hw1⟩ : ∃ w1, w1 = w.alloc (.cells #[.pointer (some ⟨bw, 0, none⟩)] 95) := ⟨_, rfl⟩
  have p0 : w1.cell? ⟨w.heap.size, 0, none⟩ = some (.pointer (some ⟨bw, 0, none⟩)) := by rw [hw1]; simp
  rw [← hw1] at hb0
  have HW := Lib.hid (h.below hb0)
  have HS := Lib.hid (hs.below hb0)
  have HD := Lib.hid hd
  have HOK := Lib.hid hok
  have hlt := h.lt
  have hgl := h.row.lt
  have hsz1 : w1.heap.size = w.heap.size + 1 := by rw [hw1]; simp
  have HW1 := Lib.hid hw1
  clear h hs hd hok hw1
  go_enter Tryd.func51, Tryd.ntmps51
  go_wp2_with fail
  rw [← HW1.out]
  clear HW1
  go_loopw [12] (fun i wr => ∃ k : Nat, ∃ lk Bk, k ≤ ss.length ∧ i = .int .i64 k ∧ WorkAt wr base bw g lk Bk ∧ okS lk ∧ lk.length = l.length ∧ Bk.length = lk.length * 512 ∧ dropGo l B ss = dropGo lk Bk (ss.drop k) ∧ Chg bw g w1 wr) (fun i _ => ss.length - (intOf i).toNat)
  case atStart => exact ⟨0, l, B, Nat.zero_le _, rfl, HW.out, HOK.out, rfl, hB, rfl, Chg.refl _ _ _⟩
  case round =>
    obtain ⟨k, lk, Bk, hk, rfl, hWk, hokk, hlk, hBk, hdk, hck⟩ := hrel
    have HWk := Lib.hid hWk
    have HOk := Lib.hid hokk
    have HDk := Lib.hid hdk
    have pk := (hck.cell (p := ⟨w.heap.size, 0, none⟩) (by show w.heap.size < _; omega) (by show w.heap.size ≠ _; omega) (by show w.heap.size ≠ _; omega)).trans p0
    have hltk := hWk.lt
    have hglk := hWk.row.lt
    have hszk := hck.size
    by_cases hlt2 : k < ss.length
    · have hi : (k : Int) < (ss.length : Int) := by omega
      obtain ⟨b, off, rfl, hbl, hc⟩ := HS.out.cell k hlt2
      obtain ⟨g1, g2⟩ := hc k hlt2
      have d := HD.out (by intro e; rw [e] at hlt2; simp at hlt2) b off rfl
      have g1 := (hck.cell (p := ⟨b, off + k * 2, none⟩) hbl d.1 d.2).trans g1
      have g2 := (hck.cell (p := ⟨b, off + k * 2 + 1, none⟩) hbl d.1 d.2).trans g2
      have HAT := Lib.hid (dropGo_at (l := lk) (B := Bk) hlt2)
      obtain ⟨s, a, hsa⟩ : ∃ s a, (s, a) = ss.getD k (0, 0) := ⟨_, _, rfl⟩
      rw [← hsa] at g1 g2 HAT
      have g1 : wr.cell? ⟨b, off + k * 2, none⟩ = some (.int .i64 s) := g1
      have g2 : wr.cell? ⟨b, off + k * 2 + 1, none⟩ = some (.int .i64 a) := g2
      have HLT := Lib.hid hlt2
      clear hWk hokk hdk hsa hc
      by_cases hh : hasL lk s a
      · obtain ⟨s', n, rfl, rfl, hhn⟩ := (hasL_iff lk s a).1 hh
        have HE : Hid (dropGo l B ss = dropGo (freeN lk s' n) (layB Bk (posN lk s' n) (lenN lk s') []) (ss.drop (k + 1))) := by
          show _ = _
          rw [HDk.out, HAT.out, if_pos ⟨HOk.out, hh⟩]
          rfl
        have HHN := Lib.hid hhn
        have HF := Lib.hid (pos_fit HOk.out hhn hBk)
        clear hh hhn
        go_wp2_with (first
          | (refine wpList_store2 rfl 24 size24 (.tmp 7) (.tmp 15) rfl wr.heap.size (.int .i64 s') (.int .i64 n) (.int .i64 0) (.int .i64 0) rfl rfl rfl rfl (Row2.new wr 24 _ _) ?_; intro w2 hr2 hon2; have hb2 := hon2.fresh; have hW2 := HWk.out.below hb2; have d0 := hr2.c0; have d1 := hr2.c1; have p2 := (hb2.cell (p := ⟨w.heap.size, 0, none⟩) (by show w.heap.size < _; omega)).trans pk; have hlt3 := hr2.lt)
          | (go_at_call 55; refine (wipe_yes base bw g w.heap.size lk Bk s' n w2 hW2 p2 (by omega) (by omega) (by omega) HOk.out HHN.out hBk).mono ?_; rintro e w3 ⟨rfl, hW3, hc3⟩; have HW3 := Lib.hid hW3; clear hW3))
        go_roundw
        case rel => exact ⟨k + 1, _, _, by have := HLT.out; omega, by go_num, HW3.out, okS_free HOk.out HHN.out, by rw [freeN_len]; exact hlk, by rw [freeN_len, layB_len [] HF.out]; exact hBk, HE.out, (hck.trans (Chg.of hb2)).trans hc3⟩
        case measure => have := HLT.out; simp [intOf]; omega
      · have HE : Hid (dropGo l B ss = (lk, Bk, false)) := by
          show _ = _
          rw [HDk.out, HAT.out, if_neg (fun x => hh x.2)]
        have HN : Hid (¬ (okS lk ∧ hasL lk s a)) := fun x => hh x.2
        clear hh
        go_wp2_with (first
          | (refine wpList_store2 rfl 24 size24 (.tmp 7) (.tmp 15) rfl wr.heap.size (.int .i64 s) (.int .i64 a) (.int .i64 0) (.int .i64 0) rfl rfl rfl rfl (Row2.new wr 24 _ _) ?_; intro w2 hr2 hon2; have hb2 := hon2.fresh; have hW2 := HWk.out.below hb2; have d0 := hr2.c0; have d1 := hr2.c1; have p2 := (hb2.cell (p := ⟨w.heap.size, 0, none⟩) (by show w.heap.size < _; omega)).trans pk; have hlt3 := hr2.lt)
          | (go_at_call 55; refine (wipe_no base bw g w.heap.size lk Bk s a w2 hW2 p2 (by omega) HN.out HOk.out.wf).mono ?_; rintro e w3 ⟨rfl, hb3⟩))
        go_ret
        rw [HE.out]
        exact ⟨rfl, (HWk.out.below hb2).below hb3, (((Chg.of hb0).trans hck).trans (Chg.of hb2)).trans (Chg.of hb3)⟩
    · have hi : ¬ ((k : Int) < (ss.length : Int)) := by omega
      have HE : Hid (dropGo l B ss = (lk, Bk, true)) := by
        show _ = _
        rw [HDk.out, List.drop_of_length_le (by omega)]
        rfl
      clear hWk hokk hdk
      go_wp2_with fail
      go_ret
      rw [HE.out]
      exact ⟨rfl, HWk.out, (Chg.of hb0).trans hck⟩
end Go.Proofs.YtfnokklcbmipgaaDoor
