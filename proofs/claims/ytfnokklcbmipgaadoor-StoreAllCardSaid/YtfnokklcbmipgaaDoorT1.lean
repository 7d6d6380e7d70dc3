/- store.Drop. -/
import Derived.Test.YtfnokklcbmipgaaDoorS9
namespace Go.Proofs.YtfnokklcbmipgaaDoor
open Go.RowKit Plain

theorem byt_strB (B : List UInt8) (p : Nat) : byt (strB B) p = B.getD p 0 := by unfold byt; rw [strB_list]
/-- What Drop hands back. -/
noncomputable def dropS (l : Segs) (B : List UInt8) (ss : Slots) : Segs × List UInt8 × Int := if okSt l (strB B) ∧ (dropGo l B ss).2.2 = true then ((dropGo l B ss).1, (dropGo l B ss).2.1, 0) else (l, B, 120)
theorem SegNew.none_cap {w : World} {base cap : Nat} {ao : Option Addr} {l : Segs} (h : SegNew w base ao cap l) : ao = Option.none → cap = 0 := h.nil
attribute [local irreducible] Go.Calls
def StoreE (w : World) (x : Segs × List UInt8 × Int) (e : Ending) (w' : World) : Prop := (∃ v, e = .returned (.tuple #[v, .int .i64 x.2.2]) ∧ StoreR w' w.heap.size v x.1 x.2.1) ∧ Below w.heap.size w w'
theorem two_start (w : World) (T T' : TypeId) (v0 v1 z0 z1 : Value) : Row2 ((w.alloc (.cells #[v0, v1] T')).alloc (.cells #[z0, z1] T)) w.heap.size T' v0 v1 ∧ Row2 ((w.alloc (.cells #[v0, v1] T')).alloc (.cells #[z0, z1] T)) (w.heap.size + 1) T z0 z1 ∧ Below w.heap.size w ((w.alloc (.cells #[v0, v1] T')).alloc (.cells #[z0, z1] T)) ∧ ((w.alloc (.cells #[v0, v1] T')).alloc (.cells #[z0, z1] T)).heap.size = w.heap.size + 2 := by
  have r0 : Row2 ((w.alloc (.cells #[v0, v1] T')).alloc (.cells #[z0, z1] T)) w.heap.size T' v0 v1 := (Row2.new w T' _ _).below ((Below.refl _ _).alloc (Nat.le_refl _) _) (by simp)
  have r1 := Row2.new (w.alloc (.cells #[v0, v1] T')) T z0 z1
  have e : (w.alloc (.cells #[v0, v1] T')).heap.size = w.heap.size + 1 := by simp
  rw [e] at r1
  exact ⟨r0, r1, ((Below.refl _ _).alloc (Nat.le_refl _) _).alloc (by simp) _, by simp⟩
theorem StoreR.only {w w' : World} {base b : Nat} {v : Value} {l : Segs} {B : List UInt8} (h : StoreR w base v l B) (o : Only b w w') (hb : b < base) : StoreR w' base v l B := by
  obtain ⟨ao, cap, h1, h2⟩ := h
  exact ⟨ao, cap, h1, h2.same (fun k off e => o.heap k (by have := (h2.blk k off e).1; omega))⟩
theorem StoreR.mono {w : World} {base base' : Nat} {v : Value} {l : Segs} {B : List UInt8} (h : StoreR w base v l B) (hb : base' ≤ base) : StoreR w base' v l B := by
  obtain ⟨ao, cap, h1, h2⟩ := h
  exact ⟨ao, cap, h1, h2.mono hb⟩
set_option linter.unusedSimpArgs false in
set_option maxRecDepth 20000 in
set_option maxHeartbeats 4000000 in
theorem Drop_any (ao : Option Addr) (l : Segs) (cap : Nat) (B : List UInt8) (so : Option Addr) (ss : Slots) (scap : Nat) (w : World) (hwf : Wf l) (hl : l.length ≤ 5000) (h : SegAt w ao l) (hn : ao = none → cap = 0) (hs : SlotsAt w so ss) (hss : ss.length ≤ 1000000) :
    Calls Tryd.prog 31 #[.agg #[.slice ao l.length cap, .string (strB B)], .slice so ss.length scap] w (StoreE w (dropS l B ss)) := by
  obtain ⟨R0, R1, hb1, hz1⟩ := two_start w 51 51 (.slice ao l.length cap) (.string (strB B)) (.slice none 0 0) (.string ⟨#[]⟩)
  obtain ⟨w1, hw1⟩ : ∃ w1, w1 = (w.alloc (.cells #[.slice ao l.length cap, .string (strB B)] 51)).alloc (.cells #[.slice none 0 0, .string ⟨#[]⟩] 51) := ⟨_, rfl⟩
  rw [← hw1] at R0 R1 hb1 hz1
  have HS := Lib.hid (h.below hb1)
  have HSL := Lib.hid (hs.below hb1)
  have HB : Hid (∀ b off, so = some ⟨b, off, none⟩ → ss ≠ [] → b < w.heap.size) := by
    intro b off e hne
    rcases hs with hs | ⟨b', off', e', hlt, _⟩
    · exact absurd hs hne
    · rw [e] at e'; cases e'; exact hlt
  have b0 := R0.c0
  have b1 := R0.c1
  have HW1 := Lib.hid hw1
  clear h hs hw1
  by_cases hok : okSt l (strB B)
  · have HD := Lib.hid (decide_eq_true hok)
    have HOK := Lib.hid hok
    by_cases hd : (dropGo l B ss).2.2 = true
    · have HR : dropS l B ss = ((dropGo l B ss).1, (dropGo l B ss).2.1, 0) := if_pos ⟨hok, hd⟩
      rw [HR]
      clear HR
      have HER : Hid (errD (dropGo l B ss).2.2 = 0) := by show _ = _; rw [hd]; rfl
      clear hok hd
      go_enter Tryd.func31, Tryd.ntmps31
      go_wp2_with (first
        | (rw [← HW1.out]; go_at_call 27; refine (scheck_any ao l cap (strB B) _ hwf HS.out hl).mono ?_; rintro e w2 ⟨rfl, hb2⟩; rw [HD.out]; have R02 := R0.below hb2 R0.lt; have R12 := R1.below hb2 R1.lt; have hz2 := hb2.size; have b02 := R02.c0; have b12 := R02.c1)
        | (go_at_call 46; refine (begin_any ao l cap B w2 hl (HS.out.below hb2) hn).mono ?_; rintro e w3 ⟨⟨v3, g, rfl, ⟨ao3, cap3, capB, rfl, hn3, hcB, hby3, hg3, hne3⟩, hgl⟩, hb3⟩; have R03 := R02.below hb3 R02.lt; have R13 := R12.below hb3 R12.lt; have hz3 := hb3.size)
        | (refine wpList_store2 rfl 82 size82 (.tmp 6) (.tmp 14) rfl w3.heap.size _ _ (.slice none 0 0) (.slice none 0 0) rfl rfl rfl rfl (Row2.new w3 82 _ _) ?_; intro w4 hr4 hon4; have hb4 := hon4.fresh; have hz4 := hr4.lt; have R04 := R03.below hb4 R03.lt; have R14 := R13.below hb4 R13.lt; have HW4 := Lib.hid (WorkR.make hr4 (hn3.below hb4) hcB (hby3.same hb4.size (hb4.block g hgl)) hg3 (show w2.heap.size ≤ w3.heap.size by omega) (by omega) (fun k off e => by have := hne3 k off e; omega)); have HSL4 := Lib.hid (((HSL.out.below hb2).below hb3).below hb4))
        | (go_at_call 51; refine (drop_any w2.heap.size w3.heap.size g l B so ss scap w4 HW4.out HOK.out.ok (by have := HOK.out.size; rw [strB_size] at this; exact this) HSL4.out (fun hne b off e => by have := HB.out b off e hne; omega) hss).mono ?_; rintro e w5 ⟨rfl, hW5, hc5⟩; rw [HER.out]; have HW5 := Lib.hid hW5; clear hW5; have R05 := R04.chg hc5 (by omega) (by omega); have R15 := R14.chg hc5 (by omega) (by omega); have hz5 := hc5.size)
        | (go_at_call 49; refine (end_any w2.heap.size w3.heap.size g _ _ w5 HW5.out).mono ?_; rintro e w6 ⟨⟨v6, rfl, hS6⟩, hb6⟩; have R16 := R15.below hb6 R15.lt; have hz6 := hb6.size; obtain ⟨ao6, cap6, rfl, hn6⟩ := hS6)
        | (refine wpList_store2 rfl 51 size51 (.tmp 4) (.tmp 22) rfl (w.heap.size + 1) _ _ _ _ rfl rfl rfl rfl R16 ?_; intro w7 hr7 hon7))
      have hB7 : Below w.heap.size w w7 := by
        have h5 := (((Below.refl w2.heap.size w2).trans (hb3.trans (hb4.mono (by omega)))).trans (hc5.below (by omega) (by omega) (by omega))).trans (hb6.mono (by omega))
        exact hon7.below ((hb1.link hb2).link h5) (by omega)
      exact bodyPost_ret (res2_51 rfl _ _ (w.heap.size + 1) _ _ hr7 rfl) rfl ⟨⟨_, rfl, StoreR.mono (StoreR.only ⟨ao6, cap6, rfl, hn6⟩ hon7 (by omega)) (by omega)⟩, hB7⟩
    · have HR : dropS l B ss = (l, B, 120) := if_neg (fun x => hd x.2)
      rw [HR]
      clear HR
      have HER : Hid (errD (dropGo l B ss).2.2 = 120) := by show _ = _; unfold errD; rw [if_neg hd]
      clear hok hd
      go_enter Tryd.func31, Tryd.ntmps31
      go_wp2_with (first
        | (rw [← HW1.out]; go_at_call 27; refine (scheck_any ao l cap (strB B) _ hwf HS.out hl).mono ?_; rintro e w2 ⟨rfl, hb2⟩; rw [HD.out]; have R02 := R0.below hb2 R0.lt; have R12 := R1.below hb2 R1.lt; have hz2 := hb2.size; have b02 := R02.c0; have b12 := R02.c1)
        | (go_at_call 46; refine (begin_any ao l cap B w2 hl (HS.out.below hb2) hn).mono ?_; rintro e w3 ⟨⟨v3, g, rfl, ⟨ao3, cap3, capB, rfl, hn3, hcB, hby3, hg3, hne3⟩, hgl⟩, hb3⟩; have R03 := R02.below hb3 R02.lt; have R13 := R12.below hb3 R12.lt; have hz3 := hb3.size)
        | (refine wpList_store2 rfl 82 size82 (.tmp 6) (.tmp 14) rfl w3.heap.size _ _ (.slice none 0 0) (.slice none 0 0) rfl rfl rfl rfl (Row2.new w3 82 _ _) ?_; intro w4 hr4 hon4; have hb4 := hon4.fresh; have hz4 := hr4.lt; have R04 := R03.below hb4 R03.lt; have R14 := R13.below hb4 R13.lt; have HW4 := Lib.hid (WorkR.make hr4 (hn3.below hb4) hcB (hby3.same hb4.size (hb4.block g hgl)) hg3 (show w2.heap.size ≤ w3.heap.size by omega) (by omega) (fun k off e => by have := hne3 k off e; omega)); have HSL4 := Lib.hid (((HSL.out.below hb2).below hb3).below hb4))
        | (go_at_call 51; refine (drop_any w2.heap.size w3.heap.size g l B so ss scap w4 HW4.out HOK.out.ok (by have := HOK.out.size; rw [strB_size] at this; exact this) HSL4.out (fun hne b off e => by have := HB.out b off e hne; omega) hss).mono ?_; rintro e w5 ⟨rfl, hW5, hc5⟩; rw [HER.out]; clear hW5; have R05 := R04.chg hc5 (by omega) (by omega); have R15 := R14.chg hc5 (by omega) (by omega); have hz5 := hc5.size; have b05 := R05.c0; have b15 := R05.c1; have hc25 : Below w2.heap.size w2 w5 := (hb3.trans (hb4.mono (by omega))).trans (hc5.below (by omega) (by omega) (by omega)); have HS5 := Lib.hid ((HS.out.below hb2).below hc25))
        | (go_at_call 45; refine (ssame_any ao l cap B w5 hl HS5.out hn).mono ?_; rintro e w6 ⟨⟨v6, rfl, hS6⟩, hb6⟩; have R16 := R15.below hb6 R15.lt; have hz6 := hb6.size; obtain ⟨ao6, cap6, rfl, hn6⟩ := hS6)
        | (refine wpList_store2 rfl 51 size51 (.tmp 4) (.tmp 20) rfl (w.heap.size + 1) _ _ _ _ rfl rfl rfl rfl R16 ?_; intro w7 hr7 hon7))
      have hB7 : Below w.heap.size w w7 := hon7.below ((hb1.link hb2).link (hc25.link (hb6.mono (by omega)))) (by omega)
      exact bodyPost_ret (res2_51 rfl _ _ (w.heap.size + 1) _ _ hr7 rfl) rfl ⟨⟨_, rfl, StoreR.mono (StoreR.only ⟨ao6, cap6, rfl, hn6⟩ hon7 (by omega)) (by omega)⟩, hB7⟩
  · have HR : dropS l B ss = (l, B, 120) := if_neg (fun x => hok x.1)
    rw [HR]
    clear HR
    have HD := Lib.hid (decide_eq_false hok)
    clear hok
    go_enter Tryd.func31, Tryd.ntmps31
    go_wp2_with (first
      | (rw [← HW1.out]; go_at_call 27; refine (scheck_any ao l cap (strB B) _ hwf HS.out hl).mono ?_; rintro e w2 ⟨rfl, hb2⟩; rw [HD.out]; have R02 := R0.below hb2 R0.lt; have R12 := R1.below hb2 R1.lt; have hz2 := hb2.size; have b02 := R02.c0; have b12 := R02.c1)
      | (go_at_call 45; refine (ssame_any ao l cap B w2 hl (HS.out.below hb2) hn).mono ?_; rintro e w6 ⟨⟨v6, rfl, hS6⟩, hb6⟩; have R16 := R12.below hb6 R12.lt; have hz6 := hb6.size; obtain ⟨ao6, cap6, rfl, hn6⟩ := hS6)
      | (refine wpList_store2 rfl 51 size51 (.tmp 4) (.tmp 12) rfl (w.heap.size + 1) _ _ _ _ rfl rfl rfl rfl R16 ?_; intro w7 hr7 hon7))
    have hB7 : Below w.heap.size w w7 := hon7.below ((hb1.link hb2).link hb6) (by omega)
    exact bodyPost_ret (res2_51 rfl _ _ (w.heap.size + 1) _ _ hr7 rfl) rfl ⟨⟨_, rfl, StoreR.mono (StoreR.only ⟨ao6, cap6, rfl, hn6⟩ hon7 (by omega)) (by omega)⟩, hB7⟩
end Go.Proofs.YtfnokklcbmipgaaDoor
