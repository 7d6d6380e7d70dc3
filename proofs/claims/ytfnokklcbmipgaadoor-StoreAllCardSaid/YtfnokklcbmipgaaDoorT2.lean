/- store.Get. -/
import Derived.Test.YtfnokklcbmipgaaDoorT1
import Derived.Lib.AppendStr
namespace Go.Proofs.YtfnokklcbmipgaaDoor
open Go.RowKit Plain

/-- A slot's bytes. -/
def slotB (l : Segs) (B : List UInt8) (k n : Nat) : List UInt8 := (B.drop (posN l k n)).take (lenN l k)
def gather (l : Segs) (B : List UInt8) (ss : Slots) : List UInt8 := ss.flatMap fun p => slotB l B p.1.toNat p.2.toNat
def allHas (l : Segs) (ss : Slots) : Prop := ∀ p ∈ ss, hasL l p.1 p.2
theorem slotB_len {l : Segs} {B : List UInt8} {k n : Nat} (hok : okS l) (hh : hasN l k n) (hB : B.length = l.length * 512) : (slotB l B k n).length = lenN l k := by
  have := pos_fit hok hh hB
  unfold slotB
  rw [List.length_take, List.length_drop]
  omega
theorem gather_snoc (l : Segs) (B : List UInt8) (ss : Slots) (p : Int × Int) : gather l B (ss ++ [p]) = gather l B ss ++ slotB l B p.1.toNat p.2.toNat := by simp [gather]
theorem gather_le (l : Segs) (B : List UInt8) (ss : Slots) : (gather l B ss).length ≤ ss.length * 64 := by
  unfold gather
  induction ss with
  | nil => simp
  | cons p r ih =>
    rw [List.flatMap_cons, List.length_append, List.length_cons]
    have : (slotB l B p.1.toNat p.2.toNat).length ≤ 64 := by
      unfold slotB
      rw [List.length_take]
      have := bN_le (l.getD p.1.toNat (0, 0)).1
      unfold lenN
      omega
    omega
noncomputable instance (l : Segs) (ss : Slots) : Decidable (allHas l ss) := Classical.propDecidable _
/-- What Get hands back. -/
noncomputable def getS (l : Segs) (B : List UInt8) (ss : Slots) (size : Int) : List UInt8 × Int := if okSt l (strB B) ∧ 0 ≤ size ∧ allHas l ss ∧ size ≤ ((gather l B ss).length : Int) then ((gather l B ss).take size.toNat, 0) else ([], 120)
theorem take_snocS (ss : Slots) (k : Nat) (h : k < ss.length) : ss.take (k + 1) = ss.take k ++ [ss.getD k (0, 0)] := by
  rw [List.take_succ_eq_append_getElem h, List.getD_eq_getElem?_getD, List.getElem?_eq_getElem h]; rfl
theorem getD_memS {ss : Slots} {k : Nat} (h : k < ss.length) : ss.getD k (0, 0) ∈ ss := by
  rw [List.getD_eq_getElem?_getD, List.getElem?_eq_getElem h]
  exact List.getElem_mem h
theorem own_below {w w' : World} {base : Nat} {e : TypeId} {size : Nat} {v : Value} {n : Nat} {xs : List Value} (h : w.ownsRow base e size v n xs) (hb : Below w.heap.size w w') : w'.ownsRow base e size v n xs := by
  refine ⟨h.1, ?_⟩
  rcases h.2 with hn | ⟨g, cap, cur, hv, hbg, hg, rest⟩
  · exact .inl hn
  · exact .inr ⟨g, cap, cur, hv, hbg, by rw [hb.block g (Array.getElem?_eq_some_iff.1 hg).1]; exact hg, rest⟩
theorem info5 : (Tryd.prog.info? 5).map (fun i => (i.zero, i.size, i.bytes)) = some (some (.int .u8 0), 1, 1) := by kernel_rfl
theorem strCells_u8 (D : List UInt8) : Lib.strCells (strB D) = u8 D := by
  unfold Lib.strCells
  simp [strB, u8]
/-- 's[f:t]'. -/
theorem run_cut (B : List UInt8) (f t : Nat) (h1 : f ≤ t) (h2 : t ≤ B.length) (W : World) :
    (Instr.slice 9 (.string (strB B)) (some (.int .i64 f)) (some (.int .i64 t)) none).run Tryd.prog W = .ok (.string (strB ((B.drop f).take (t - f)))) W := by
  rw [run_slice_string W 9 _ .i64 .i64 _ _ und9 (by omega) (by omega) (by rw [strB_size]; omega), strB_cut]
  simp only [Int.toNat_natCast]
  rw [List.drop_take]
/-- 'b[:n]', as a string. -/
theorem told_cut {w : World} {base : Nat} {v : Value} {D : List UInt8} (h : w.ownsRow base 5 1 v D.length (u8 D)) (n : Nat) (hn : n ≤ D.length) :
    ∃ v', (∀ W, (Instr.slice 66 v none (some (.int .i64 n)) none).run Tryd.prog W = .ok v' W) ∧ (convert 66 9 v').run Tryd.prog w = .ok (.string (strB (D.take n))) w := by
  rcases h.2 with ⟨rfl, h0⟩ | ⟨g, cap, cur, rfl, hbg, hg, hcap, _⟩
  · have hn0 : n = 0 := by omega
    subst hn0
    refine ⟨.slice none 0 0, fun W => ?_, ?_⟩
    · rw [run_slice_h W 66 _ _ _ und66' .i64 _ (by omega) (by omega), elem66, size5]
      simp [Result.andThen, sliced]
    · rw [run_convert_bytes_string w 66 9 5 none 0 0 und66 Tryd.underlying5 und9]
      rfl
  · refine ⟨.slice (some ⟨g, 0, none⟩) n cap, fun W => ?_, ?_⟩
    · rw [run_slice_h W 66 _ _ _ und66' .i64 _ (by omega) (by omega), elem66, size5]
      simp [Result.andThen, sliced, add_off']
    · have e : (D.take n).length = n := by rw [List.length_take]; omega
      have hc : ∀ j (hj : j < (D.take n).length), w.cell? ((⟨g, 0, none⟩ : Addr).add j) = some (.int .u8 ((D.take n)[j].toNat : Int)) := by
        intro j hj
        rw [e] at hj
        have hjD : j < D.length := by omega
        have h2 := h.cells (g := g) rfl j (.int .u8 (D[j].toNat : Int)) (by unfold u8; rw [List.getElem?_map, List.getElem?_eq_getElem hjD]; rfl)
        rw [h2]
        simp
      have key := run_convert_bytes_back (P := Tryd.prog) w 66 9 5 ⟨g, 0, none⟩ cap (D.take n) und66 Tryd.underlying5 und9 hc
      rw [e] at key
      exact key
/-- 'append(b, s..)'. -/
theorem list_str {ops : Array Oper} {rest : List Oper} {o : Oper} {a : Act} {Q : Exit → Act → World → Prop} {w : World} (hgd : o.guard = none) (sl x : Operand)
    (ho : o.op = .call { callee := .builtin .append, args := #[sl, x], argTypes := #[66, 9] }) (base : Nat) (v : Value) (n : Nat) (D D' : List UInt8) (hn : D.length = n) (hs : a.eval sl = v) (hown : w.ownsRow base 5 1 v D.length (u8 D)) (hx : a.eval x = .string (strB D'))
    (hle : D.length + D'.length ≤ 1000000000) (hbase : base ≤ w.heap.size)
    (h : ∀ ao cap w', w'.ownsRow base 5 1 (.slice ao (D ++ D').length cap) (D ++ D').length (u8 (D ++ D')) → Below base w w' → wpList Tryd.prog ops Q rest (a.put o.dst (.slice ao (D ++ D').length cap)) w') : wpList Tryd.prog ops Q (o :: rest) a w := by
  obtain ⟨i5, hi, hz, h1, h2⟩ := info_parts info5
  refine Lib.wpList_append_own_string w hgd sl x 66 9 ho base 5 i5 und66 und9 hi hz h1 h2 v _ _ hs hown (strB D') hx (by rw [strB_size]; unfold maxLen; omega) (by rw [strB_size]; omega) hbase ?_
  intro v' w' ho' hg _
  have hb := (Below.refl _ _).grown hg hbase (own_ge hown)
  have e : D.length + (strB D').size = (D ++ D').length := by rw [strB_size, List.length_append]
  have e2 : u8 D ++ Lib.strCells (strB D') = u8 (D ++ D') := by rw [strCells_u8]; unfold u8; rw [List.map_append]
  rw [e, e2] at ho'
  obtain ⟨ao, cap, rfl⟩ := own_slice ho'
  exact h ao cap w' ho' hb
attribute [local irreducible] Go.Calls
def GetR (w : World) (x : List UInt8 × Int) (e : Ending) (w' : World) : Prop := e = .returned (.tuple #[.string (strB x.1), .int .i64 x.2]) ∧ Below w.heap.size w w'
set_option linter.unusedSimpArgs false in
set_option maxRecDepth 20000 in
set_option maxHeartbeats 4000000 in
theorem Get_any (ao : Option Addr) (l : Segs) (cap : Nat) (B : List UInt8) (so : Option Addr) (ss : Slots) (scap : Nat) (size : Int) (w : World) (hwf : Wf l) (hl : l.length ≤ 5000) (h : SegAt w ao l) (hs : SlotsAt w so ss) (hss : ss.length ≤ 1000000) :
    Calls Tryd.prog 30 #[.agg #[.slice ao l.length cap, .string (strB B)], .slice so ss.length scap, .int .i64 size] w (GetR w (getS l B ss size)) := by
  have hb1 : Below w.heap.size w (w.alloc (.cells #[.slice ao l.length cap, .string (strB B)] 51)) := (Below.refl _ _).alloc (Nat.le_refl _) _
  have R0 := Row2.new w 51 (.slice ao l.length cap) (.string (strB B))
  obtain ⟨w1, hw1⟩ : ∃ w1, w1 = w.alloc (.cells #[.slice ao l.length cap, .string (strB B)] 51) := ⟨_, rfl⟩
  rw [← hw1] at R0 hb1
  have HS := Lib.hid (h.below hb1)
  have HSL := Lib.hid (hs.below hb1)
  have b0 := R0.c0
  have b1 := R0.c1
  have HW1 := Lib.hid hw1
  clear h hs hw1
  by_cases hok : okSt l (strB B)
  · have HD := Lib.hid (decide_eq_true hok)
    by_cases hz : size < 0
    · have HR : getS l B ss size = ([], 120) := if_neg (fun x => by have := x.2.1; omega)
      rw [HR]
      clear HR hok
      go_enter Tryd.func30, Tryd.ntmps30
      go_wp2_with (rw [← HW1.out]; go_at_call 27; refine (scheck_any ao l cap (strB B) _ hwf HS.out hl).mono ?_; rintro e w2 ⟨rfl, hb2⟩; rw [HD.out])
      go_ret2
      exact ⟨rfl, hb1.link hb2⟩
    · have HOK := Lib.hid hok
      have HBL : Hid (B.length = l.length * 512) := by have := hok.size; rw [strB_size] at this; exact this
      have hl200 := hok.ok.1
      have HZ := Lib.hid hz
      clear hok
      go_enter Tryd.func30, Tryd.ntmps30
      go_wp2_with (rw [← HW1.out]; go_at_call 27; refine (scheck_any ao l cap (strB B) _ hwf HS.out hl).mono ?_; rintro e w2 ⟨rfl, hb2⟩; rw [HD.out]; have R02 := R0.below hb2 R0.lt)
      clear b0 b1
      go_loopw [8, 22] (fun t i wr => ∃ k : Nat, k ≤ ss.length ∧ i = .int .i64 k ∧ wr.ownsRow w2.heap.size 5 1 t (gather l B (ss.take k)).length (u8 (gather l B (ss.take k))) ∧ allHas l (ss.take k) ∧ Below w2.heap.size w2 wr) (fun _ i _ => ss.length - (intOf i).toNat)
      case atStart => exact ⟨0, Nat.zero_le _, rfl, World.ownsRow_nil _ _ _ _, fun p hp => by simp at hp, Below.refl _ _⟩
      case round =>
        obtain ⟨k, hk, rfl, hown, hall, hbr⟩ := hrel
        obtain ⟨to, tcap, rfl⟩ := own_slice hown
        have HOWN := Lib.hid hown
        have HALL := Lib.hid hall
        have Rr := R02.below hbr R02.lt
        have c0 := Rr.c0
        have c1 := Rr.c1
        have hszr := hbr.size
        have hgl := gather_le l B (ss.take k)
        have hkl : (ss.take k).length = k := by rw [List.length_take]; omega
        by_cases hlt : k < ss.length
        · have hi : (k : Int) < (ss.length : Int) := by omega
          obtain ⟨b, off, rfl, hbl, hc⟩ := ((HSL.out.below hb2).below hbr).cell k hlt
          obtain ⟨g1, g2⟩ := hc k hlt
          obtain ⟨s, a, hsa⟩ : ∃ s a, (s, a) = ss.getD k (0, 0) := ⟨_, _, rfl⟩
          have HTK := Lib.hid (take_snocS ss k hlt)
          rw [← hsa] at g1 g2 HTK
          have HMEM : Hid ((s, a) ∈ ss) := by show _ ∈ _; rw [hsa]; exact getD_memS hlt
          have g1 : wr.cell? ⟨b, off + k * 2, none⟩ = some (.int .i64 s) := g1
          have g2 : wr.cell? ⟨b, off + k * 2 + 1, none⟩ = some (.int .i64 a) := g2
          have HLT := Lib.hid hlt
          clear hown hall hsa hc
          by_cases hh : hasL l s a
          · obtain ⟨s', n, rfl, rfl, hhn⟩ := (hasL_iff l s a).1 hh
            have HHD := Lib.hid (decide_eq_true (⟨HOK.out.ok, hh⟩ : okS l ∧ hasL l s' n))
            have HHN := Lib.hid hhn
            have HFIT := Lib.hid (pos_fit HOK.out.ok hhn HBL.out)
            have hn64 : n < 64 := Nat.lt_of_lt_of_le (hasN_lt HOK.out.ok hhn) (nS_64 _)
            have hkl2 := hhn.1
            have HLEN := Lib.hid (slotB_len HOK.out.ok hhn HBL.out)
            have HPT : Hid ((B.drop (posN l s' n)).take (posN l s' n + lenN l s' - posN l s' n) = slotB l B s' n) := by show _ = _; rw [Nat.add_sub_cancel_left]; rfl
            obtain ⟨f, hf⟩ : ∃ f, f = posN l s' n := ⟨_, rfl⟩
            obtain ⟨m, hm⟩ : ∃ m, m = lenN l s' := ⟨_, rfl⟩
            have hm64 : m ≤ 64 := by rw [hm]; exact bN_le _
            have HM : Hid (lenN l s' = m) := hm.symm
            rw [← hf, ← hm] at HFIT HPT
            obtain ⟨t, ht⟩ : ∃ t, t = f + m := ⟨_, rfl⟩
            rw [← ht] at HFIT HPT
            have hcut := run_cut B f t (by omega) HFIT.out
            rw [HPT.out] at hcut
            have HF2 : Hid (f = s' * 512 + n * bN (l.getD s' (0, 0)).1 ∧ t = f + bN (l.getD s' (0, 0)).1) := ⟨hf, by rw [ht, hm]; rfl⟩
            clear hf hm ht
            have HH := Lib.hid hh
            clear hh hhn
            go_wp2_with (first
              | (refine wpList_store2 rfl 24 size24 (.tmp 10) (.tmp 25) rfl wr.heap.size (.int .i64 s') (.int .i64 n) (.int .i64 0) (.int .i64 0) rfl rfl rfl rfl (Row2.new wr 24 _ _) ?_; intro w3 hr3 hon3; have hb3 := hon3.fresh; have R03 := Rr.below hb3 Rr.lt; have d0 := R03.c0; have d1 := R03.c1; have e0 := hr3.c0; have e1 := hr3.c1; have hz3 := hr3.lt; have HS3 := Lib.hid ((((HS.out).below hb2).below hbr).below hb3))
              | (go_at_call 18; refine (has_any ao l cap s' n w3 hwf HS3.out).mono ?_; rintro e w4 ⟨rfl, hb4⟩; rw [HHD.out]; have R04 := R03.below hb4 R03.lt; have r4 := hr3.below hb4 hr3.lt; have d2 := R04.c0; have d3 := R04.c1; have e2 := r4.c0; have e3 := r4.c1)
              | (go_at_call 50; refine (span_any ao l cap s' n f t w4 (HS3.out.below hb4) hkl2 hl hn64 HF2.out.1 HF2.out.2).mono ?_; rintro e w5 ⟨rfl, hb5⟩; have R05 := R04.below hb5 R04.lt; have d4 := R05.c0; have d5 := R05.c1; have HO5 := Lib.hid (own_below (own_below (own_below HOWN.out hb3) hb4) hb5); have hz4 := hb4.size; have hz5 := hb5.size)
              | (at_builtin; refine list_str rfl (.tmp 38) (.tmp 43) rfl w2.heap.size _ _ (gather l B (ss.take k)) (slotB l B s' n) rfl rfl HO5.out rfl (by rw [HLEN.out, HM.out]; omega) (by omega) ?_; intro ao6 cap6 w6 ho6 hb6))
            go_roundw
            case rel =>
              refine ⟨k + 1, by have := HLT.out; omega, by go_num, ?_, ?_, (((hbr.trans (hb3.mono (by omega))).trans (hb4.mono (by omega))).trans (hb5.mono (by omega))).trans hb6⟩
              · rw [HTK.out, gather_snoc]
                have h7 := ho6
                simp only [List.length_append] at h7 ⊢
                exact h7
              · rw [HTK.out]
                intro p hp
                rcases List.mem_append.1 hp with hp | hp
                · exact HALL.out p hp
                · rw [List.mem_singleton.1 hp]; exact HH.out
            case measure => have := HLT.out; simp [intOf]; omega
          · have HR : Hid (getS l B ss size = ([], 120)) := if_neg (fun x => hh (x.2.2.1 (s, a) HMEM.out))
            have HHD := Lib.hid (decide_eq_false (fun x => hh x.2 : ¬ (okS l ∧ hasL l s a)))
            clear hh
            go_wp2_with (first
              | (refine wpList_store2 rfl 24 size24 (.tmp 10) (.tmp 25) rfl wr.heap.size (.int .i64 s) (.int .i64 a) (.int .i64 0) (.int .i64 0) rfl rfl rfl rfl (Row2.new wr 24 _ _) ?_; intro w3 hr3 hon3; have hb3 := hon3.fresh; have R03 := Rr.below hb3 Rr.lt; have d0 := R03.c0; have d1 := R03.c1; have e0 := hr3.c0; have e1 := hr3.c1; have hz3 := hr3.lt; have HS3 := Lib.hid ((((HS.out).below hb2).below hbr).below hb3))
              | (go_at_call 18; refine (has_any ao l cap s a w3 hwf HS3.out).mono ?_; rintro e w4 ⟨rfl, hb4⟩; rw [HHD.out]))
            go_ret2
            rw [HR.out]
            exact ⟨rfl, (hb1.link hb2).link (hbr.link (hb3.link hb4))⟩
        · have hkk : k = ss.length := by omega
          subst hkk
          have hi : ¬ ((ss.length : Int) < (ss.length : Int)) := by omega
          rw [List.take_length] at hown hall hgl
          have HALL2 := Lib.hid hall
          by_cases hsz : size ≤ ((gather l B ss).length : Int)
          · obtain ⟨m, rfl⟩ : ∃ m : Nat, size = m := ⟨size.toNat, by have := HZ.out; omega⟩
            have HR : Hid (getS l B ss m = ((gather l B ss).take m, 0)) := if_pos ⟨HOK.out, by omega, HALL2.out, hsz⟩
            obtain ⟨v', hsl, hcv⟩ := told_cut hown m (by omega)
            have hgt : ¬ (((gather l B ss).length : Int) < (m : Int)) := by omega
            clear hown hall HOWN HALL hsz
            go_wp2_with fail
            go_ret2
            rw [HR.out]
            exact ⟨rfl, (hb1.link hb2).link hbr⟩
          · have HR : Hid (getS l B ss size = ([], 120)) := if_neg (fun x => hsz x.2.2.2)
            have hgt : ((gather l B ss).length : Int) < size := by omega
            clear hown hall HOWN HALL hsz
            go_wp2_with fail
            go_ret2
            rw [HR.out]
            exact ⟨rfl, (hb1.link hb2).link hbr⟩
  · have HD := Lib.hid (decide_eq_false hok)
    have HR : getS l B ss size = ([], 120) := if_neg (fun x => hok x.1)
    rw [HR]
    clear HR hok
    go_enter Tryd.func30, Tryd.ntmps30
    go_wp2_with (rw [← HW1.out]; go_at_call 27; refine (scheck_any ao l cap (strB B) _ hwf HS.out hl).mono ?_; rintro e w2 ⟨rfl, hb2⟩; rw [HD.out])
    go_ret2
    exact ⟨rfl, hb1.link hb2⟩
end Go.Proofs.YtfnokklcbmipgaaDoor
