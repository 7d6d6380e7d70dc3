/- store.Put. -/
import Derived.Test.YtfnokklcbmipgaaDoorT4
namespace Go.Proofs.YtfnokklcbmipgaaDoor
open Go.RowKit Plain

def slC (l : Slots) : List Value := l.flatMap fun p => [.int .i64 p.1, .int .i64 p.2]
theorem slC_len (l : Slots) : (slC l).length = l.length * 2 := by
  induction l with
  | nil => rfl
  | cons g l ih =>
    show (Value.int .i64 g.1 :: Value.int .i64 g.2 :: slC l).length = _
    simp only [List.length_cons]
    omega
theorem slC_at : ∀ (l : Slots) (i : Nat), i < l.length → (slC l)[i * 2]? = some (.int .i64 (l.getD i (0, 0)).1) ∧ (slC l)[i * 2 + 1]? = some (.int .i64 (l.getD i (0, 0)).2)
  | g :: l, 0, _ => ⟨rfl, rfl⟩
  | g :: l, i + 1, h => by
    have ih := slC_at l i (by simpa using h)
    rw [show slC (g :: l) = Value.int .i64 g.1 :: Value.int .i64 g.2 :: slC l from rfl, show (i + 1) * 2 = i * 2 + 2 by omega]
    simpa using ih
theorem slC_app (a b : Slots) : slC (a ++ b) = slC a ++ slC b := by simp [slC]
/-- Slots in a block of the call's own. -/
def SlotsNew (w : World) (base : Nat) (ao : Option Addr) (cap : Nat) (l : Slots) : Prop := w.ownsRow base 24 2 (.slice ao l.length cap) l.length (slC l)
theorem SlotsNew.at {w : World} {base cap : Nat} {ao : Option Addr} {l : Slots} (h : SlotsNew w base ao cap l) : SlotsAt w ao l := by
  rcases h.2 with ⟨hv, hn⟩ | ⟨g, cap', cur, hv, _, hg, hcap, _⟩
  · exact .inl (List.length_eq_zero_iff.1 hn)
  · simp only [Value.slice.injEq] at hv
    obtain ⟨rfl, _, rfl⟩ := hv
    right
    refine ⟨g, 0, rfl, (Array.getElem?_eq_some_iff.1 hg).1, ?_⟩
    intro i hi
    obtain ⟨h1, h2⟩ := slC_at l i hi
    rw [Nat.zero_add]
    exact ⟨(World.ownsRow.cellAt h (i * 2) (by omega)).trans h1, (World.ownsRow.cellAt h (i * 2 + 1) (by omega)).trans h2⟩
theorem SlotsNew.below {w w' : World} {base cap : Nat} {ao : Option Addr} {l : Slots} (h : SlotsNew w base ao cap l) (hb : Below w.heap.size w w') : SlotsNew w' base ao cap l := own_below h hb
theorem SlotsNew.blk {w : World} {base cap : Nat} {ao : Option Addr} {l : Slots} (h : SlotsNew w base ao cap l) : ∀ k off, ao = Option.some ⟨k, off, none⟩ → base ≤ k ∧ k < w.heap.size := by
  intro k off hk
  exact World.ownsRow.lt h k (by rw [hk]; rfl)
theorem SlotsNew.same {w w' : World} {base cap : Nat} {ao : Option Addr} {l : Slots} (h : SlotsNew w base ao cap l) (hb : ∀ k off, ao = Option.some ⟨k, off, none⟩ → w'.heap[k]? = w.heap[k]?) : SlotsNew w' base ao cap l := by
  refine ⟨h.1, ?_⟩
  rcases h.2 with hn | ⟨g, cap', cur, hv, hbg, hg, rest⟩
  · exact .inl hn
  · have e : ao = Option.some ⟨g, 0, none⟩ := by simp only [Value.slice.injEq] at hv; exact hv.1
    exact .inr ⟨g, cap', cur, hv, hbg, by rw [hb g 0 e]; exact hg, rest⟩
theorem SlotsNew.mono {w : World} {base base' cap : Nat} {ao : Option Addr} {l : Slots} (h : SlotsNew w base ao cap l) (hb : base' ≤ base) : SlotsNew w base' ao cap l := World.ownsRow.mono h hb
theorem Chg.more {bw g : Nat} {a b c : World} (h : Chg bw g a b) (k : Below a.heap.size b c) : Chg bw g a c :=
  ⟨k.os.trans h.os, k.tape.trans h.tape, k.output.trans h.output, Nat.le_trans h.size k.size, fun i hi h1 h2 => (k.block i hi).trans (h.block i hi h1 h2)⟩
theorem WorkAt.grown {w w' : World} {base bw g base2 n : Nat} {l : Segs} {B : List UInt8} {v : Value} {xs : List Value} (h : WorkAt w base bw g l B) (hown : w.ownsRow base2 24 2 v n xs) (hg : w.grownBy w' v.ownBlock) (h1 : bw < base2) (h2 : g < base2) : WorkAt w' base bw g l B := by
  obtain ⟨ao, cap, s1, s2, s3⟩ := h.seg
  obtain ⟨cap2, h4, h5⟩ := h.byt
  have nb : ∀ k, k < base2 → some k ≠ v.ownBlock := fun k hk e => by have := own_ge hown k e.symm; omega
  have e := hg.block bw h.lt (nb bw h1)
  exact ⟨⟨ao, cap, (World.cell?_of_block (a := ⟨bw, 0, none⟩) e).trans s1, s2.kept hg (own_ne s2 hown (by decide)), fun k off hk => ⟨(s3 k off hk).1, (s3 k off hk).2.1, Nat.lt_of_lt_of_le (s3 k off hk).2.2 hg.size⟩⟩, (World.frozen?_of_block (a := ⟨bw, 0, none⟩) e).trans h.fz, ⟨cap2, h4, (World.cell?_of_block (a := ⟨bw, 1, none⟩) e).trans h5⟩, h.row.same hg.size (hg.block g h.row.lt (nb g h2)), h.ne, h.lo, Nat.lt_of_lt_of_le h.lt hg.size⟩
theorem TabAt.chg {w w' : World} {bw g : Nat} (h : TabAt w) (hc : Chg bw g w w') (h1 : bw ≠ 0) (h2 : g ≠ 0) : TabAt w' :=
  ⟨fun j hj => (hc.cell (p := ⟨0, j, none⟩) h.2 (fun e => h1 e.symm) (fun e => h2 e.symm)).trans (h.1 j hj), Nat.lt_of_lt_of_le h.2 hc.size⟩
/-- 'append(slots, at)'. -/
theorem list_slot {ops : Array Oper} {rest : List Oper} {o : Oper} {a : Act} {w : World} {Q : Exit → Act → World → Prop} (hgd : o.guard = none) (s x : Operand)
    (ho : o.op = .call { callee := .builtin .append, args := #[s, x], argTypes := #[39, 39] }) (base : Nat) (v : Value) (n : Nat) (l : Slots) (si sa : Int) (hn : l.length = n) (hs : a.eval s = v) (hown : w.ownsRow base 24 2 v n (slC l))
    (hx : a.eval x = .slice (some ⟨w.heap.size, 0, none⟩) 1 1) (h63 : n + 1 ≤ 100000) (hbase : base ≤ w.heap.size)
    (h : ∀ ao cap w', SlotsNew w' base ao cap (l ++ [(si, sa)]) → (w.alloc (.cells #[.int .i64 si, .int .i64 sa] 24)).grownBy w' v.ownBlock → Below base w w' → wpList Tryd.prog ops Q rest (a.put o.dst (.slice ao (n + 1) cap)) w') : wpList Tryd.prog ops Q (o :: rest) a (w.alloc (.cells #[.int .i64 si, .int .i64 sa] 24)) := by
  refine list_slots hgd s x ho base v n (slC l) hs (World.ownsRow.alloc hown _) ⟨w.heap.size, 0, none⟩ 1 1 [.int .i64 si, .int .i64 sa] hx rfl (World.news_of_block (cs := #[.int .i64 si, .int .i64 sa]) (t := 24) (fr := (0, 0)) (heap_alloc_new w _)) (by simp [Value.oneCell']) h63 (by simp; omega) ?_
  intro ao cap w' h2 h3 h4
  refine h ao cap w' ?_ h3 (((Below.refl _ _).alloc hbase _).trans h4)
  have e : slC l ++ [Value.int .i64 si, .int .i64 sa] = slC (l ++ [(si, sa)]) := by rw [slC_app]; rfl
  rw [e] at h2
  unfold SlotsNew
  rw [List.length_append, hn]
  exact h2
/-- Classes taken, and data laid, one by one. -/
def putGo : Segs → List UInt8 → List Int → List UInt8 → Slots → Segs × List UInt8 × Slots × Int
  | l, B, [], _, ss => (l, B, ss, 0)
  | l, B, c :: cs, D, ss => if (takeL l c).2.2 = 0 then putGo (takeL l c).1 (layB B (posN (takeL l c).1 (takeL l c).2.1.1.toNat (takeL l c).2.1.2.toNat) (lenN (takeL l c).1 (takeL l c).2.1.1.toNat) D) cs (D.drop (lenN (takeL l c).1 (takeL l c).2.1.1.toNat)) (ss ++ [(takeL l c).2.1]) else (l, B, [], (takeL l c).2.2)
theorem putGo_at {l : Segs} {B : List UInt8} {cs : List Int} {D : List UInt8} {ss : Slots} {k : Nat} (hk : k < cs.length) : putGo l B (cs.drop k) D ss = if (takeL l (cs.getD k 0)).2.2 = 0 then putGo (takeL l (cs.getD k 0)).1 (layB B (posN (takeL l (cs.getD k 0)).1 (takeL l (cs.getD k 0)).2.1.1.toNat (takeL l (cs.getD k 0)).2.1.2.toNat) (lenN (takeL l (cs.getD k 0)).1 (takeL l (cs.getD k 0)).2.1.1.toNat) D) (cs.drop (k + 1)) (D.drop (lenN (takeL l (cs.getD k 0)).1 (takeL l (cs.getD k 0)).2.1.1.toNat)) (ss ++ [(takeL l (cs.getD k 0)).2.1]) else (l, B, [], (takeL l (cs.getD k 0)).2.2) := by
  rw [List.drop_eq_getElem_cons hk]
  have e : cs.getD k 0 = cs[k] := by rw [List.getD_eq_getElem?_getD, List.getElem?_eq_getElem hk]; rfl
  rw [e]
  rfl
/-- What Put hands back. -/
noncomputable def putS (l : Segs) (B : List UInt8) (D : List UInt8) : Segs × List UInt8 × Slots × Int :=
  if okSt l (strB B) then (if D.length < 1 ∨ 4096 < D.length then (l, B, [], 100) else if (putGo l B (cutC D.length) D []).2.2.2 = 0 then putGo l B (cutC D.length) D [] else (l, B, [], (putGo l B (cutC D.length) D []).2.2.2)) else (l, B, [], 120)
attribute [local irreducible] Go.Calls
def PutR (w : World) (x : Segs × List UInt8 × Slots × Int) (e : Ending) (w' : World) : Prop := (∃ v so scap, e = .returned (.tuple #[v, .slice so x.2.2.1.length scap, .int .i64 x.2.2.2]) ∧ StoreR w' w.heap.size v x.1 x.2.1 ∧ SlotsNew w' w.heap.size so scap x.2.2.1) ∧ Below w.heap.size w w'
set_option linter.unusedSimpArgs false in
set_option maxRecDepth 20000 in
set_option maxHeartbeats 4000000 in
theorem Put_any (ao : Option Addr) (l : Segs) (cap : Nat) (B D : List UInt8) (w : World) (hwf : Wf l) (hl : l.length ≤ 5000) (h : SegAt w ao l) (hn : ao = none → cap = 0) (hT : TabAt w) (hDl : D.length ≤ 1000000) :
    Calls Tryd.prog 28 #[.agg #[.slice ao l.length cap, .string (strB B)], .string (strB D)] w (PutR w (putS l B D)) := by
  have hmf : ∀ (fn : Fn) (first cap : Array Value) (w : World), (Instr.makeFunc fn first cap).run Tryd.prog w = .ok (.func fn first cap) w := fun _ _ _ _ => rfl
  obtain ⟨R0, R1, hb1, hz1⟩ := two_start w 51 51 (.slice ao l.length cap) (.string (strB B)) (.slice none 0 0) (.string ⟨#[]⟩)
  obtain ⟨w1, hw1⟩ : ∃ w1, w1 = (w.alloc (.cells #[.slice ao l.length cap, .string (strB B)] 51)).alloc (.cells #[.slice none 0 0, .string ⟨#[]⟩] 51) := ⟨_, rfl⟩
  rw [← hw1] at R0 R1 hb1 hz1
  have HS := Lib.hid (h.below hb1)
  have HT1 := Lib.hid (hT.grow hb1)
  have b0 := R0.c0
  have b1 := R0.c1
  have HW1 := Lib.hid hw1
  have hDs := strB_size D
  have nilS : ∀ w' : World, SlotsNew w' w.heap.size none 0 [] := fun w' => World.ownsRow_nil _ _ _ _
  have HNIL := Lib.hid nilS
  have hw0 := hT.2
  clear h hw1 hT nilS
  by_cases hok : okSt l (strB B)
  · have HD := Lib.hid (decide_eq_true hok)
    have HOK := Lib.hid hok
    by_cases hd : D.length < 1 ∨ 4096 < D.length
    · have HR : putS l B D = (l, B, [], 100) := by unfold putS; rw [if_pos hok, if_pos hd]
      rw [HR]
      clear HR
      have HBAD : Hid ((D.length : Int) < 1 ∨ 4096 < (D.length : Int)) := by show _ ∨ _; omega
      clear hok hd
      go_enter Tryd.func28, Tryd.ntmps28
      go_wp2_with (first
        | (rw [← HW1.out]; go_at_call 27; refine (scheck_any ao l cap (strB B) _ hwf HS.out hl).mono ?_; rintro e w2 ⟨rfl, hb2⟩; rw [HD.out]; have R02 := R0.below hb2 R0.lt; have R12 := R1.below hb2 R1.lt; have hz2 := hb2.size; have b02 := R02.c0; have b12 := R02.c1)
        | (go_at_call 35; refine (cut_bad _ _ HBAD.out).mono ?_; rintro e w3 ⟨rfl, rfl⟩)
        | (go_at_call 45; refine (ssame_any ao l cap B w2 hl (HS.out.below hb2) hn).mono ?_; rintro e w6 ⟨⟨v6, rfl, hS6⟩, hb6⟩; have R16 := R12.below hb6 R12.lt; have hz6 := hb6.size; obtain ⟨ao6, cap6, rfl, hn6⟩ := hS6)
        | (refine wpList_store2 rfl 51 size51 (.tmp 4) (.tmp 30) rfl (w.heap.size + 1) _ _ _ _ rfl rfl rfl rfl R16 ?_; intro w7 hr7 hon7))
      have hB7 : Below w.heap.size w w7 := hon7.below ((hb1.link hb2).link hb6) (by omega)
      exact bodyPost_ret (res3_51 rfl _ _ (w.heap.size + 1) _ _ hr7 rfl) rfl ⟨⟨_, none, 0, rfl, StoreR.mono (StoreR.only ⟨ao6, cap6, rfl, hn6⟩ hon7 (by omega)) (by omega), HNIL.out _⟩, hB7⟩
    · have hB4 : 1 ≤ D.length ∧ D.length ≤ 4096 := by omega
      have HCL := Lib.hid (cutC_len D.length hB4.2)
      have HBL : Hid (B.length = l.length * 512) := by have := hok.size; rw [strB_size] at this; exact this
      have HPE : Hid (putS l B D = if (putGo l B (cutC D.length) D []).2.2.2 = 0 then putGo l B (cutC D.length) D [] else (l, B, [], (putGo l B (cutC D.length) D []).2.2.2)) := by
        show _ = _
        unfold putS
        rw [if_pos hok, if_neg hd]
      clear hok hd
      go_enter Tryd.func28, Tryd.ntmps28
      go_wp2_with (first
        | (rw [← HW1.out]; go_at_call 27; refine (scheck_any ao l cap (strB B) _ hwf HS.out hl).mono ?_; rintro e w2 ⟨rfl, hb2⟩; rw [HD.out]; have R02 := R0.below hb2 R0.lt; have R12 := R1.below hb2 R1.lt; have hz2 := hb2.size; have b02 := R02.c0; have b12 := R02.c1)
        | (go_at_call 35; refine (cut_any D.length w2 hB4.1 hB4.2).mono ?_; rintro e w3 ⟨ca, ccap, rfl, hcat, hb3, hccap⟩; have HCAT := Lib.hid hcat; clear hcat hccap; have R03 := R02.below hb3 R02.lt; have R13 := R12.below hb3 R12.lt; have hz3 := hb3.size; have b03 := R03.c0; have b13 := R03.c1; have HS3 := Lib.hid ((HS.out.below hb2).below hb3))
        | (go_at_call 46; refine (begin_any ao l cap B w3 hl HS3.out hn).mono ?_; rintro e w4 ⟨⟨v3, g, rfl, ⟨ao3, cap3, capB, rfl, hn3, hcB, hby3, hg3, hne3⟩, hgl⟩, hb4⟩; have R04 := R03.below hb4 R03.lt; have R14 := R13.below hb4 R13.lt; have hz4 := hb4.size)
        | (refine wpList_store2 rfl 82 size82 (.tmp 9) (.tmp 33) rfl w4.heap.size _ _ (.slice none 0 0) (.slice none 0 0) rfl rfl rfl rfl (Row2.new w4 82 _ _) ?_; intro w5 hr5 hon5; have hb5 := hon5.fresh; have hz5 := hr5.lt; have R05 := R04.below hb5 R04.lt; have R15 := R14.below hb5 R14.lt; have HW5 := Lib.hid (WorkR.make hr5 (hn3.below hb5) hcB (hby3.same hb5.size (hb5.block g hgl)) hg3 (show w3.heap.size ≤ w4.heap.size by omega) (by omega) (fun k off e => by have := hne3 k off e; omega))))
      have hb35 : Below w3.heap.size w3 w5 := hb4.trans (hb5.mono (by omega))
      have HB03 := Lib.hid ((hb1.link hb2).link hb3)
      have HT5 := Lib.hid (((HT1.out.grow hb2).grow hb3).grow hb35)
      obtain ⟨cs, hcs⟩ : ∃ cs, cs = cutC D.length := ⟨_, rfl⟩
      rw [← hcs] at HCL HCAT HPE ⊢
      have hcl := HCL.out
      clear hcs b0 b1 b02 b12 b03 b13
      go_loopw [1, 11, 37] (fun d t i wr => ∃ k : Nat, ∃ lk Bk Dk sk, k ≤ cs.length ∧ i = .int .i64 k ∧ d = .string (strB Dk) ∧ (∃ so scap, t = .slice so k scap ∧ SlotsNew wr w5.heap.size so scap sk) ∧ sk.length = k ∧ WorkAt wr w3.heap.size w4.heap.size g lk Bk ∧ okS lk ∧ lk.length = l.length ∧ Bk.length = lk.length * 512 ∧ putGo l B cs D [] = putGo lk Bk (cs.drop k) Dk sk ∧ Chg w4.heap.size g w5 wr) (fun _ _ i _ => cs.length - (intOf i).toNat)
      case atStart => exact ⟨0, l, B, D, [], Nat.zero_le _, rfl, rfl, ⟨none, 0, rfl, World.ownsRow_nil _ _ _ _⟩, rfl, HW5.out, HOK.out.ok, rfl, HBL.out, rfl, Chg.refl _ _ _⟩
      case round =>
        obtain ⟨k, lk, Bk, Dk, sk, hk, rfl, rfl, ⟨so, scap, rfl, hsn⟩, hsk, hWk, hokk, hlk, hBk, hpk, hck⟩ := hrel
        have HWk := Lib.hid hWk
        have HOk := Lib.hid hokk
        have HPk := Lib.hid hpk
        have HSN := Lib.hid hsn
        have HSK := Lib.hid hsk
        have hDk := strB_size Dk
        have Rr0 := R05.chg hck (by omega) (by omega)
        have Rr1 := R15.chg hck (by omega) (by omega)
        have hzr := hck.size
        have HTr := Lib.hid (HT5.out.chg hck (by omega) (by omega))
        have hb3r : Below w3.heap.size w3 wr := hb35.trans (hck.below (by omega) (by omega) (by omega))
        clear hWk hokk hpk hsn hsk
        by_cases hlt : k < cs.length
        · have hi : (k : Int) < (cs.length : Int) := by omega
          have hcell : ∃ b off, ca = some ⟨b, off, none⟩ ∧ wr.cell? ⟨b, off + k, none⟩ = some (.int .i64 (cs.getD k 0)) := by
            rcases HCAT.out with hc | ⟨b, off, e, hbl, hc⟩
            · rw [hc] at hlt; simp at hlt
            · exact ⟨b, off, e, (hb3r.cell (p := ⟨b, off + k, none⟩) hbl).trans (hc k hlt)⟩
          obtain ⟨b, off, rfl, g1⟩ := hcell
          have HAT := Lib.hid (putGo_at (l := lk) (B := Bk) (D := Dk) (ss := sk) hlt)
          obtain ⟨c, hc⟩ : ∃ c, c = cs.getD k 0 := ⟨_, rfl⟩
          rw [← hc] at g1 HAT
          have HLT := Lib.hid hlt
          clear hc
          by_cases he : (takeL lk c).2.2 = 0
          · obtain ⟨i, n, hin, htk⟩ := take_ok HOk.out he
            have hE : takeL lk c = ((takeL lk c).1, ((i : Int), (n : Int)), 0) := by rw [← hin, ← he]
            obtain ⟨m, hm⟩ : ∃ m, m = (takeL lk c).1 := ⟨_, rfl⟩
            rw [← hm] at hE htk
            have HE := Lib.hid hE
            have HTK := Lib.hid htk
            have hBm : Bk.length = m.length * 512 := by rw [htk.len]; exact hBk
            have HBM := Lib.hid hBm
            have HPN : Hid (putGo l B cs D [] = putGo m (layB Bk (posN m i n) (lenN m i) Dk) (cs.drop (k + 1)) (Dk.drop (lenN m i)) (sk ++ [((i : Int), (n : Int))])) := by
              show _ = _
              rw [HPk.out, HAT.out, hE, if_pos rfl]
              rfl
            have HFIT := Lib.hid (pos_fit htk.ok htk.is hBm)
            have HLN := Lib.hid (hasN_lt htk.ok htk.is)
            have HM0 := Lib.hid (geo HLN.out).1
            have hn64 : n < 64 := Nat.lt_of_lt_of_le HLN.out (nS_64 _)
            have him : i < m.length := htk.is.1
            have hml : m.length = l.length := htk.len.trans hlk
            have hlk5 : lk.length ≤ 5000 := by omega
            have hwk := HOk.out.wf
            clear he hin htk hE hm hBm
            go_wp2_with (first
              | (go_at_call 47; refine (wtake_any w3.heap.size w4.heap.size g lk m Bk c i n 0 wr HWk.out HE.out hlk5 hwk HTr.out).mono ?_; rintro e w6 ⟨rfl, hW6, hc6⟩; have HW6 := Lib.hid hW6; have hlt6 := hW6.lt; have hgl6 := hW6.row.lt; have hz6 := hc6.size; clear hW6)
              | (refine wpList_store2 rfl 24 size24 (.tmp 14) (.tmp 45) rfl w6.heap.size (.int .i64 i) (.int .i64 n) (.int .i64 0) (.int .i64 0) rfl rfl rfl rfl (Row2.new w6 24 _ _) ?_; intro w7 hr7 hon7; have hb7 := hon7.fresh; have HW7 := Lib.hid (HW6.out.below hb7); have hz7 := hr7.lt; have e0 := hr7.c0; have e1 := hr7.c1)
              | (go_at_call 48; refine (lay_any w3.heap.size w4.heap.size g m Bk Dk i n (posN m i n) (lenN m i) w7 HW7.out him (by omega) hn64 rfl rfl HFIT.out HM0.out).mono ?_; rintro e w8 ⟨rfl, hW8, hc8⟩; have HW8 := Lib.hid hW8; clear hW8; have r8 := hr7.chg hc8 (by omega) (by omega); have e2 := r8.c0; have e3 := r8.c1; have hz8 := hc8.size; have HC8 := Lib.hid (((hck.trans hc6).trans (Chg.of hb7)).trans hc8); have HSN8 := Lib.hid (HSN.out.same (w' := w8) (fun kk off e => (((hc6.trans (Chg.of hb7)).trans hc8).block kk (HSN.out.blk kk off e).2 (by have := (HSN.out.blk kk off e).1; omega) (by have := (HSN.out.blk kk off e).1; omega)))))
              | (at_builtin; refine list_slot rfl (.tmp 55) (.tmp 57) rfl w5.heap.size _ k sk i n HSK.out rfl (by have := HSN8.out; unfold SlotsNew at this; rw [HSK.out] at this; exact this) rfl (by omega) (by have := HC8.out.size; omega) ?_; intro so9 scap9 w9 hs9 hg9 hb9; have HS9 := Lib.hid hs9; have HG9 := Lib.hid hg9; clear hs9 hg9))
            go_roundw
            case rel =>
              have hown8 : w8.ownsRow w5.heap.size 24 2 (.slice so k scap) k (slC sk) := by have := HSN8.out; unfold SlotsNew at this; rw [HSK.out] at this; exact this
              have hW9 : WorkAt w9 w3.heap.size w4.heap.size g m (layB Bk (posN m i n) (lenN m i) Dk) :=
                (HW8.out.below ((Below.refl _ _).alloc (Nat.le_refl _) (.cells #[.int .i64 i, .int .i64 n] 24))).grown (World.ownsRow.alloc hown8 _) HG9.out (by omega) (by omega)
              refine ⟨k + 1, m, _, Dk.drop (lenN m i), sk ++ [((i : Int), (n : Int))], by have := HLT.out; omega, by go_num, rfl, ⟨so9, scap9, rfl, HS9.out⟩, by rw [List.length_append, HSK.out]; rfl, hW9, HTK.out.ok, hml, by rw [layB_len _ HFIT.out]; exact HBM.out, HPN.out, HC8.out.more hb9⟩
            case measure => have := HLT.out; simp [intOf]; omega
          · have hE := take_err he
            obtain ⟨e0, he0⟩ : ∃ e0, e0 = (takeL lk c).2.2 := ⟨_, rfl⟩
            rw [← he0] at hE he
            have HE := Lib.hid hE
            have hne0 : (e0 != 0) = true := by simpa using he
            have HEE := Lib.hid he
            have HPN : Hid (putGo l B cs D [] = (lk, Bk, [], e0)) := by
              show _ = _
              rw [HPk.out, HAT.out, hE, if_neg he]
            have hlk5 : lk.length ≤ 5000 := by omega
            have hwk := HOk.out.wf
            clear he hE he0
            go_wp2_with (first
              | (go_at_call 47; refine (wtake_any w3.heap.size w4.heap.size g lk lk Bk c 0 0 e0 wr HWk.out HE.out hlk5 hwk HTr.out).mono ?_; rintro e w6 ⟨rfl, hW6, hc6⟩; clear hW6; have Rc0 := Rr0.chg hc6 (by omega) (by omega); have Rc1 := Rr1.chg hc6 (by omega) (by omega); have hz6 := hc6.size)
              | (refine wpList_store2 rfl 24 size24 (.tmp 14) (.tmp 45) rfl w6.heap.size (.int .i64 0) (.int .i64 0) (.int .i64 0) (.int .i64 0) rfl rfl rfl rfl (Row2.new w6 24 _ _) ?_; intro w7 hr7 hon7; have hb7 := hon7.fresh; have Rd0 := Rc0.below hb7 Rc0.lt; have Rd1 := Rc1.below hb7 Rc1.lt; have q0 := Rd0.c0; have q1 := Rd0.c1; have hb37 : Below w3.heap.size w3 w7 := (hb3r.trans (hc6.below (by omega) (by omega) (by omega))).trans (hb7.mono (by omega)); have HS7 := Lib.hid (HS3.out.below hb37); have hz7 := hb7.size)
              | (go_at_call 45; refine (ssame_any ao l cap B w7 hl HS7.out hn).mono ?_; rintro e w8 ⟨⟨v8, rfl, hS8⟩, hb8⟩; have Re1 := Rd1.below hb8 Rd1.lt; have hz8 := hb8.size; obtain ⟨ao8, cap8, rfl, hn8⟩ := hS8)
              | (refine wpList_store2 rfl 51 size51 (.tmp 4) (.tmp 50) rfl (w.heap.size + 1) _ _ _ _ rfl rfl rfl rfl Re1 ?_; intro w9 hr9 hon9))
            have hB9 : Below w.heap.size w w9 := hon9.below (HB03.out.link (hb37.trans (hb8.mono (by omega)))) (by omega)
            refine bodyPost_ret (res3_51 rfl _ _ (w.heap.size + 1) _ _ hr9 rfl) rfl ?_
            rw [HPE.out, HPN.out, if_neg HEE.out]
            exact ⟨⟨_, none, 0, rfl, StoreR.mono (StoreR.only ⟨ao8, cap8, rfl, hn8⟩ hon9 (by omega)) (by omega), HNIL.out _⟩, hB9⟩
        · have hi : ¬ ((k : Int) < (cs.length : Int)) := by omega
          have HPN : Hid (putGo l B cs D [] = (lk, Bk, sk, 0)) := by
            show _ = _
            rw [HPk.out, List.drop_of_length_le (by omega)]
            rfl
          have HSL : Hid (sk.length = cs.length) := HSK.out.trans (by omega)
          have hkc : k = cs.length := by omega
          go_wp2_with (first
            | (go_at_call 49; refine (end_any w3.heap.size w4.heap.size g lk Bk wr HWk.out).mono ?_; rintro e w6 ⟨⟨v6, rfl, hS6⟩, hb6⟩; have Re1 := Rr1.below hb6 Rr1.lt; have hz6 := hb6.size; obtain ⟨ao6, cap6, rfl, hn6⟩ := hS6)
            | (refine wpList_store2 rfl 51 size51 (.tmp 4) (.tmp 60) rfl (w.heap.size + 1) _ _ _ _ rfl rfl rfl rfl Re1 ?_; intro w9 hr9 hon9))
          have hB9 : Below w.heap.size w w9 := hon9.below (HB03.out.link (hb3r.trans (hb6.mono (by omega)))) (by omega)
          have hs9 := ((HSN.out.below hb6).same (w' := w9) (fun kk off e => hon9.heap kk (by have := (HSN.out.blk kk off e).1; omega))).mono (show w.heap.size ≤ w5.heap.size by omega)
          refine bodyPost_ret (res3_51 rfl _ _ (w.heap.size + 1) _ _ hr9 rfl) rfl ?_
          rw [HPE.out, HPN.out, if_pos rfl]
          have hfin : Ending.returned (.tuple #[.agg #[.slice ao6 l.length cap6, .string (strB Bk)], .slice so cs.length scap, .int .i64 0]) = .returned (.tuple #[.agg #[.slice ao6 l.length cap6, .string (strB Bk)], .slice so sk.length scap, .int .i64 0]) := by rw [HSL.out]
          have hfv : Value.agg #[.slice ao6 l.length cap6, .string (strB Bk)] = .agg #[.slice ao6 lk.length cap6, .string (strB Bk)] := by rw [hlk]
          exact ⟨⟨_, so, scap, hfin, StoreR.mono (StoreR.only ⟨ao6, cap6, hfv, hn6⟩ hon9 (by omega)) (by omega), hs9⟩, hB9⟩
  · have HR : putS l B D = (l, B, [], 120) := if_neg hok
    rw [HR]
    clear HR
    have HD := Lib.hid (decide_eq_false hok)
    clear hok
    go_enter Tryd.func28, Tryd.ntmps28
    go_wp2_with (first
      | (rw [← HW1.out]; go_at_call 27; refine (scheck_any ao l cap (strB B) _ hwf HS.out hl).mono ?_; rintro e w2 ⟨rfl, hb2⟩; rw [HD.out]; have R02 := R0.below hb2 R0.lt; have R12 := R1.below hb2 R1.lt; have hz2 := hb2.size; have b02 := R02.c0; have b12 := R02.c1)
      | (go_at_call 45; refine (ssame_any ao l cap B w2 hl (HS.out.below hb2) hn).mono ?_; rintro e w6 ⟨⟨v6, rfl, hS6⟩, hb6⟩; have R16 := R12.below hb6 R12.lt; have hz6 := hb6.size; obtain ⟨ao6, cap6, rfl, hn6⟩ := hS6)
      | (refine wpList_store2 rfl 51 size51 (.tmp 4) (.tmp 20) rfl (w.heap.size + 1) _ _ _ _ rfl rfl rfl rfl R16 ?_; intro w7 hr7 hon7))
    have hB7 : Below w.heap.size w w7 := hon7.below ((hb1.link hb2).link hb6) (by omega)
    exact bodyPost_ret (res3_51 rfl _ _ (w.heap.size + 1) _ _ hr7 rfl) rfl ⟨⟨_, none, 0, rfl, StoreR.mono (StoreR.only ⟨ao6, cap6, rfl, hn6⟩ hon7 (by omega)) (by omega), HNIL.out _⟩, hB7⟩
end Go.Proofs.YtfnokklcbmipgaaDoor
