/- ListUses: the walk. -/
import Derived.Test.YtafkbbjmbbimpaaU1
import Derived.Test.YtafkbbjmbbimpaaL6
namespace Go.Proofs.Ytafkbbjmbbimpaa
open Go.RowKit Plain

def ActsAt (w : World) (ao : Option Addr) (acts : List (Bool × Int)) : Prop := acts = [] ∨ ∃ b off, ao = some ⟨b, off, none⟩ ∧ b < w.heap.size ∧ ∀ i, i < acts.length → w.cell? ⟨b, off + i * 2, none⟩ = some (.bool (acts.getD i (false, 0)).1) ∧ w.cell? ⟨b, off + i * 2 + 1, none⟩ = some (.int .i64 (acts.getD i (false, 0)).2)
theorem ActsAt.below {w w' : World} {ao : Option Addr} {l : List (Bool × Int)} (h : ActsAt w ao l) (hb : Below w.heap.size w w') : ActsAt w' ao l := by
  rcases h with h | ⟨b, off, h1, h2, h3⟩
  · exact .inl h
  · exact .inr ⟨b, off, h1, Nat.lt_of_lt_of_le h2 hb.size, fun i hi => ⟨(hb.cell (by exact h2)).trans (h3 i hi).1, (hb.cell (by exact h2)).trans (h3 i hi).2⟩⟩
theorem ActsAt.cell {w : World} {ao : Option Addr} {l : List (Bool × Int)} (h : ActsAt w ao l) (i : Nat) (hi : i < l.length) : ∃ b off, ao = some ⟨b, off, none⟩ ∧ b < w.heap.size ∧ ∀ i, i < l.length → w.cell? ⟨b, off + i * 2, none⟩ = some (.bool (l.getD i (false, 0)).1) ∧ w.cell? ⟨b, off + i * 2 + 1, none⟩ = some (.int .i64 (l.getD i (false, 0)).2) := by
  rcases h with h | ⟨b, off, h1, h2, h3⟩
  · subst h; simp at hi
  · exact ⟨b, off, h1, h2, h3⟩
/-- What the region of an act holds. -/
def ActS (wr : World) (b4 : Nat) (T1 : LC) (b o : Nat) (d : Bool) (id : Int) (w' : World) : Prop :=
  At w' b4 T1 ∧ Below wr.heap.size wr w' ∧ w'.cell? ⟨b, o, none⟩ = some (.bool d) ∧ w'.cell? ⟨b, o + 1, none⟩ = some (.int .i64 id)
theorem ActS.below {wr : World} {b4 : Nat} {T1 : LC} {b o : Nat} {d : Bool} {id : Int} {w' w'' : World} (h : ActS wr b4 T1 b o d id w') (hb : Below w'.heap.size w' w'') : ActS wr b4 T1 b o d id w'' := by
  obtain ⟨h1, h2, h3, h4⟩ := h
  have hl : b < w'.heap.size := World.block_lt_of_cell? _ _ h3
  exact ⟨h1.below hb h1.lt, h2.trans (hb.mono h2.size), (hb.cell (p := ⟨b, o, none⟩) hl).trans h3, (hb.cell (p := ⟨b, o + 1, none⟩) hl).trans h4⟩
theorem ActS.only {wr : World} {b4 : Nat} {T1 : LC} {b o : Nat} {d : Bool} {id : Int} {w' w'' : World} {c : Nat} (h : ActS wr b4 T1 b o d id w') (ho : Only c w' w'') (hc : wr.heap.size ≤ c) (h4 : b4 < wr.heap.size) (hbl : b < wr.heap.size) : ActS wr b4 T1 b o d id w'' := by
  obtain ⟨h1, h2, h3, h5⟩ := h
  exact ⟨h1.only ho (by omega), ho.below h2 hc, by rw [World.cell?_of_block (w := w') (ho.heap b (by omega))]; exact h3, by rw [World.cell?_of_block (w := w') (ho.heap b (by omega))]; exact h5⟩
theorem step_storeT {ops : Array Oper} {op : Oper} {a : Act} {w : World} {K : Act → World → Prop} {Q : Exit → Act → World → Prop} {E : Prop} (hw : Region.wanted op (yielded ops a.tmps) = true) (x y : Operand) (ho : op.op = .store 26 x y)
    (b : Nat) (t : LC) (hx : a.eval x = .pointer (some ⟨b, 0, none⟩)) (hy : a.eval y = .agg (cellsT t)) (ht : t.ok) (hr : Row w b)
    (h : ∀ w', At w' b t → Only b w w' → K (a.put op.dst undef) w') : if Region.wanted op (yielded ops a.tmps) = true then Oper.wp Try.prog op a w K Q else E := by
  obtain ⟨c, hc, hs⟩ := hr
  have h1 := run_storeVar_row (P := Try.prog) w b 26 26 c (cellsT t) hc (by rw [size26, cellsT_size ht]) (by rw [hs, cellsT_size ht]) (cellsT_one t)
  rw [if_pos hw]
  unfold Oper.wp execOp
  simp only [ho, hx, hy, Instr.storeAt, Instr.sureAddr, Sem.run_bind, Sem.run_pure, Result.andThen_ok, h1]
  exact h _ ⟨setRow_heap w b c _ 26 (0, 0) hc, ht⟩ (Only.setRow w b _)
def lateTo (acts : List (Bool × Int)) (i k : Nat) : Bool := ((acts.drop (i + 1)).take (k - (i + 1))).any fun a => decide (a.2 = (acts.getD i (false, 0)).2)
theorem lateTo_start (acts : List (Bool × Int)) (i : Nat) : lateTo acts i (i + 1) = false := by unfold lateTo; rw [Nat.sub_self, List.take_zero]; rfl
theorem lateTo_succ (acts : List (Bool × Int)) (i k : Nat) (h1 : i + 1 ≤ k) (h2 : k < acts.length) : lateTo acts i (k + 1) = (lateTo acts i k || decide ((acts.getD k (false, 0)).2 = (acts.getD i (false, 0)).2)) := by
  unfold lateTo
  have e : k + 1 - (i + 1) = (k - (i + 1)) + 1 := by omega
  have hl : k - (i + 1) < (acts.drop (i + 1)).length := by rw [List.length_drop]; omega
  rw [e, List.take_succ_eq_append_getElem hl, List.any_append, List.getElem_drop]
  have e2 : i + 1 + (k - (i + 1)) = k := by omega
  have e3 : acts.getD k (false, 0) = acts[k] := by rw [List.getD_eq_getElem?_getD, List.getElem?_eq_getElem h2]; rfl
  rw [e3]
  simp [e2]
theorem lateTo_end (acts : List (Bool × Int)) (i k : Nat) (h : acts.length ≤ k) : lateTo acts i k = lateB acts i := by
  unfold lateTo lateB
  rw [List.take_of_length_le (by rw [List.length_drop]; omega)]
theorem want_len (acts : List (Bool × Int)) : ∀ m, (wantTo acts m).length ≤ m
  | 0 => Nat.le_refl _
  | m + 1 => by
    show (wantTo acts m ++ _).length ≤ m + 1
    rw [List.length_append]
    have := want_len acts m
    split <;> simp <;> omega
set_option linter.unusedSimpArgs false in
set_option maxRecDepth 20000 in
set_option maxHeartbeats 1000000 in
theorem uses_walk (ao : Option Addr) (acts : List (Bool × Int)) (cap : Nat) (hlen : acts.length ≤ 100) (w : World) (hacts : ActsAt w ao acts) : Calls Try.prog 4 #[.slice ao acts.length cap] w fun e w' => e = .returned (.bool true) ∧ Below w.heap.size w w' := by
  obtain ⟨z26, s26⟩ := zero_of_info zero26
  have sz := cellsT_size zeroT_ok
  obtain ⟨cz, hcz⟩ : ∃ cz, cz = cellsT zeroT := ⟨_, rfl⟩
  rw [← hcz] at z26 sz
  clear hcz s26
  have hd : ¬ (100 : Int) < (acts.length : Int) := by omega
  have HA := Lib.hid hacts
  have okn := newT_ok
  clear hacts
  go_enter Try.func4, Try.ntmps4
  go_wp2_with (first
    | (go_at_call 9; refine (awake_any _).mono ?_; rintro e w1 ⟨rfl, hb1⟩)
    | (go_at_call 21; refine (new_any _).mono ?_; rintro e w2 ⟨rfl, hb2⟩)
    | (refine wpList_storeT rfl (.tmp 4) (.tmp 19) rfl _ newT rfl rfl okn (Row.last _ _ sz) ?_; intro w3 hat3 hon3; have hb3 := hon3.fresh))
  have K3 := (hb1.link hb2).link hb3
  have hl2 := (hb1.link hb2).size
  go_loopw [5] (fun i wr => ∃ k : Nat, k ≤ acts.length ∧ i = .int .i64 k ∧ At wr w2.heap.size (tell (runL (acts.take k))) ∧ Below w.heap.size w wr) (fun i _ => acts.length - (intOf i).toNat)
  case atStart => exact ⟨0, Nat.zero_le _, rfl, hat3, K3⟩
  case round =>
    obtain ⟨k, hk, rfl, hat, hbel⟩ := hrel
    by_cases hlt : k < acts.length
    · obtain ⟨b, off, rfl, hbl, hc⟩ := HA.out.cell k hlt
      have g1 := (hbel.cell (p := ⟨b, off + k * 2, none⟩) hbl).trans (hc k hlt).1
      have g2 := (hbel.cell (p := ⟨b, off + k * 2 + 1, none⟩) hbl).trans (hc k hlt).2
      have hi : (k : Int) < (acts.length : Int) := by omega
      have HR := Lib.hid (runL_take acts k hlt)
      have hge : acts.getD k (false, 0) = acts[k] := by rw [List.getD_eq_getElem?_getD, List.getElem?_eq_getElem hlt]; rfl
      rw [hge] at g1 g2
      have HM := Lib.hid (may_runL (acts.take k))
      have HD := Lib.hid (do_any (runL (acts.take k)) HM.out acts[k].1 acts[k].2)
      obtain ⟨d, hdd⟩ : ∃ d, d = acts[k].1 := ⟨_, rfl⟩
      obtain ⟨id, hid⟩ : ∃ id, id = acts[k].2 := ⟨_, rfl⟩
      have hok2 := tell_ok (runL (acts.take (k + 1)))
      have hE : doL (runL (acts.take k)) (acts[k].1, acts[k].2) = runL (acts.take (k + 1)) := HR.out.symm
      rw [hE, ← hdd, ← hid] at HD
      rw [← hdd] at g1
      rw [← hid] at g2
      clear hc hE hge hdd hid
      generalize tell (runL (acts.take k)) = T1 at *
      obtain ⟨T2, hT2⟩ : ∃ T, T = tell (runL (acts.take (k + 1))) := ⟨_, rfl⟩
      rw [← hT2] at HD hok2
      have HT2 := Lib.hid hT2
      clear hT2
      go_wp2_with fail
      refine wp_region_held_drew (S := ActS wr w2.heap.size T1 b (off + k * 2) d id) (by kernel_rfl) ⟨hat, (Below.refl _ _).drew, g1, g2⟩ (fun hHeld => ?_)
      refine wpAnyH_take (i := 0) (v := .agg (cellsT T1)) rfl (by kernel_rfl) (by kernel_rfl) (by kernel_rfl) (fun _ _ _ h => h) (yields26 (by rfl) (.tmp 4) rfl w2.heap.size (by rfl) T1 (fun w' h => h.1)) (by assumption) ?_
      try simp only [Act.put, List.setIfInBounds_toArray, List.set_cons_zero, List.set_cons_succ]
      refine wpAnyH_take (i := 1) (v := ?_) (by simp only [List.getElem?_toArray, List.getElem?_cons_succ, List.getElem?_cons_zero]; rfl) (by kernel_rfl) (by kernel_rfl) (by kernel_rfl) (by intro _ _ _ h; exact h) (Or.inl ⟨by rfl, ?_⟩) (by assumption) ?_
      rotate_left
      · intro w' hSw
        obtain ⟨_, _, hc1, hc2⟩ := hSw
        go_simp
        try with_reducible rfl
      try simp only [Act.put, List.setIfInBounds_toArray, List.set_cons_zero, List.set_cons_succ]
      refine wpAnyH_take (i := 2) (v := ?_) (by simp only [List.getElem?_toArray, List.getElem?_cons_succ, List.getElem?_cons_zero]; rfl) (by kernel_rfl) (by kernel_rfl) (by kernel_rfl) (by intro _ _ _ h; exact h) (Or.inl ⟨by rfl, ?_⟩) (by assumption) ?_
      rotate_left
      · intro w' hSw
        obtain ⟨_, _, hc1, hc2⟩ := hSw
        go_simp
        try with_reducible rfl
      try simp only [Act.put, List.setIfInBounds_toArray, List.set_cons_zero, List.set_cons_succ]
      refine wpAnyH_take (i := 3) (v := ?_) (by simp only [List.getElem?_toArray, List.getElem?_cons_succ, List.getElem?_cons_zero]; rfl) (by kernel_rfl) (by kernel_rfl) (by kernel_rfl) (by intro _ _ _ h; exact h) (Or.inl ⟨by rfl, ?_⟩) (by assumption) ?_
      rotate_left
      · intro w' hSw
        obtain ⟨_, _, hc1, hc2⟩ := hSw
        go_simp
        try with_reducible rfl
      try simp only [Act.put, List.setIfInBounds_toArray, List.set_cons_zero, List.set_cons_succ]
      refine wpAnyH_take (i := 4) (v := ?_) (by simp only [List.getElem?_toArray, List.getElem?_cons_succ, List.getElem?_cons_zero]; rfl) (by kernel_rfl) (by kernel_rfl) (by kernel_rfl) (by intro _ _ _ h; exact h) (Or.inl ⟨by rfl, ?_⟩) (by assumption) ?_
      rotate_left
      · intro w' hSw
        obtain ⟨_, _, hc1, hc2⟩ := hSw
        go_simp
        try with_reducible rfl
      try simp only [Act.put, List.setIfInBounds_toArray, List.set_cons_zero, List.set_cons_succ]
      have hb4r := hat.lt
      have hblr : b < wr.heap.size := Nat.lt_of_lt_of_le hbl hbel.size
      refine wpAnyH_ready (rs := [5, 9]) (by kernel_rfl) (by simp) ?_
      refine AllReadyH.cons (by simp only [List.getElem?_toArray, List.getElem?_cons_succ, List.getElem?_cons_zero]; rfl) (fun K hK => ?_) (AllReadyH.cons (by simp only [List.getElem?_toArray, List.getElem?_cons_succ, List.getElem?_cons_zero]; rfl) (fun K hK => ?_) AllReadyH.nil)
      · go_simp
        refine (HD.out _).mono ?_
        rintro e w5 ⟨⟨nn, rfl⟩, hb5⟩
        have hS5 := hHeld.below hb5
        go_wp2_with fail
        refine hK.out _ _ hS5 (fun hHeld => ?_)
        clear hK
        try simp only [Act.put, List.setIfInBounds_toArray, List.set_cons_zero, List.set_cons_succ]
        refine wpAnyH_take (i := 6) (v := ?_) (by simp only [List.getElem?_toArray, List.getElem?_cons_succ, List.getElem?_cons_zero]; rfl) (by kernel_rfl) (by kernel_rfl) (by kernel_rfl) (by intro _ _ _ h; exact h) (Or.inl ⟨by rfl, ?_⟩) (by assumption) ?_
        rotate_left
        · intro w' hSw
          go_simp
          try with_reducible rfl
        try simp only [Act.put, List.setIfInBounds_toArray, List.set_cons_zero, List.set_cons_succ]
        refine wpAnyH_take (i := 7) (v := ?_) (by simp only [List.getElem?_toArray, List.getElem?_cons_succ, List.getElem?_cons_zero]; rfl) (by kernel_rfl) (by kernel_rfl) (by kernel_rfl) (by intro _ _ _ h; exact h) (Or.inl ⟨by rfl, ?_⟩) (by assumption) ?_
        rotate_left
        · intro w' hSw
          go_simp
          try with_reducible rfl
        try simp only [Act.put, List.setIfInBounds_toArray, List.set_cons_zero, List.set_cons_succ]
        refine wpAnyH_take (i := 8) (v := ?_) (by simp only [List.getElem?_toArray, List.getElem?_cons_succ, List.getElem?_cons_zero]; rfl) (by kernel_rfl) (by kernel_rfl) (by kernel_rfl) (by intro _ _ _ h; exact h) (Or.inl ⟨by rfl, ?_⟩) (by assumption) ?_
        rotate_left
        · intro w' hSw
          go_simp
          try with_reducible rfl
        try simp only [Act.put, List.setIfInBounds_toArray, List.set_cons_zero, List.set_cons_succ]
        refine wpAnyH_ready (rs := [9]) (by kernel_rfl) (by simp) ?_
        refine AllReadyH.cons (by simp only [List.getElem?_toArray, List.getElem?_cons_succ, List.getElem?_cons_zero]; rfl) (fun K hK => ?_) AllReadyH.nil
        go_simp
        have hS6 := hHeld.below ((Below.refl _ _).alloc (Nat.le_refl _) (.cells cz 26))
        have hrow := Row.last w5 cz sz
        have hl5 := hHeld.2.1.size
        refine hK.out _ _ hS6 (fun hHeld => ?_)
        clear hK
        try simp only [Act.put, List.setIfInBounds_toArray, List.set_cons_zero, List.set_cons_succ]
        refine wpAnyH_ready (rs := [10]) (by kernel_rfl) (by simp) ?_
        refine AllReadyH.cons (by simp only [List.getElem?_toArray, List.getElem?_cons_succ, List.getElem?_cons_zero]; rfl) (fun K hK => ?_) AllReadyH.nil
        refine step_storeT (by rfl) (.tmp 6) (.tmp 33) rfl w5.heap.size T2 (by rfl) (by rfl) hok2 hrow ?_
        intro w7 hat7 hon7
        have hS7 := hHeld.only hon7 hl5 hb4r hblr
        refine hK.out _ _ hS7 (fun hHeld => ?_)
        clear hK
        try simp only [Act.put, List.setIfInBounds_toArray, List.set_cons_zero, List.set_cons_succ]
        refine wpAnyH_take (i := 11) (v := ?_) (by simp only [List.getElem?_toArray, List.getElem?_cons_succ, List.getElem?_cons_zero]; rfl) (by kernel_rfl) (by kernel_rfl) (by kernel_rfl) (by intro _ _ _ h; exact h) (Or.inl ⟨by rfl, ?_⟩) (by assumption) ?_
        rotate_left
        · intro w' hSw
          go_simp
          try with_reducible rfl
        try simp only [Act.put, List.setIfInBounds_toArray, List.set_cons_zero, List.set_cons_succ]
        refine wpAnyH_done (by kernel_rfl) ?_ _
        have hat4 := hHeld.1
        have hb67 := hHeld.2.1
        go_wp2_with (first
          | (refine wpList_loadA hat7 rfl _ rfl rfl ?_)
          | (refine wpList_storeT rfl (.tmp 4) (.tmp 35) rfl _ T2 rfl rfl hok2 hat4.row ?_; intro w8 hat8 hon8))
        go_roundw
        case rel => exact ⟨k + 1, by omega, by go_num, by rw [← HT2.out]; exact hat8, hon8.below (hbel.trans (hb67.mono hbel.size)) hl2⟩
        case measure => simp [intOf]; omega
      · go_simp
        have hS6 := hHeld.below ((Below.refl _ _).alloc (Nat.le_refl _) (.cells cz 26))
        have hrow0 := Row.last wr.drew cz sz
        refine hK.out _ _ hS6 (fun hHeld => ?_)
        clear hK
        try simp only [Act.put, List.setIfInBounds_toArray, List.set_cons_zero, List.set_cons_succ]
        refine wpAnyH_ready (rs := [5]) (by kernel_rfl) (by simp) ?_
        refine AllReadyH.cons (by simp only [List.getElem?_toArray, List.getElem?_cons_succ, List.getElem?_cons_zero]; rfl) (fun K hK => ?_) AllReadyH.nil
        go_simp
        refine (HD.out _).mono ?_
        rintro e w5 ⟨⟨nn, rfl⟩, hb5⟩
        have hS5 := hHeld.below hb5
        have hrow : Row w5 wr.heap.size := hrow0.below hb5 hrow0.lt
        go_wp2_with fail
        refine hK.out _ _ hS5 (fun hHeld => ?_)
        clear hK
        try simp only [Act.put, List.setIfInBounds_toArray, List.set_cons_zero, List.set_cons_succ]
        refine wpAnyH_take (i := 6) (v := ?_) (by simp only [List.getElem?_toArray, List.getElem?_cons_succ, List.getElem?_cons_zero]; rfl) (by kernel_rfl) (by kernel_rfl) (by kernel_rfl) (by intro _ _ _ h; exact h) (Or.inl ⟨by rfl, ?_⟩) (by assumption) ?_
        rotate_left
        · intro w' hSw
          go_simp
          try with_reducible rfl
        try simp only [Act.put, List.setIfInBounds_toArray, List.set_cons_zero, List.set_cons_succ]
        refine wpAnyH_take (i := 7) (v := ?_) (by simp only [List.getElem?_toArray, List.getElem?_cons_succ, List.getElem?_cons_zero]; rfl) (by kernel_rfl) (by kernel_rfl) (by kernel_rfl) (by intro _ _ _ h; exact h) (Or.inl ⟨by rfl, ?_⟩) (by assumption) ?_
        rotate_left
        · intro w' hSw
          go_simp
          try with_reducible rfl
        try simp only [Act.put, List.setIfInBounds_toArray, List.set_cons_zero, List.set_cons_succ]
        refine wpAnyH_take (i := 8) (v := ?_) (by simp only [List.getElem?_toArray, List.getElem?_cons_succ, List.getElem?_cons_zero]; rfl) (by kernel_rfl) (by kernel_rfl) (by kernel_rfl) (by intro _ _ _ h; exact h) (Or.inl ⟨by rfl, ?_⟩) (by assumption) ?_
        rotate_left
        · intro w' hSw
          go_simp
          try with_reducible rfl
        try simp only [Act.put, List.setIfInBounds_toArray, List.set_cons_zero, List.set_cons_succ]
        refine wpAnyH_ready (rs := [10]) (by kernel_rfl) (by simp) ?_
        refine AllReadyH.cons (by simp only [List.getElem?_toArray, List.getElem?_cons_succ, List.getElem?_cons_zero]; rfl) (fun K hK => ?_) AllReadyH.nil
        refine step_storeT (by rfl) (.tmp 6) (.tmp 33) rfl wr.heap.size T2 (by rfl) (by rfl) hok2 hrow ?_
        intro w7 hat7 hon7
        have hS7 := hHeld.only hon7 (Nat.le_refl _) hb4r hblr
        refine hK.out _ _ hS7 (fun hHeld => ?_)
        clear hK
        try simp only [Act.put, List.setIfInBounds_toArray, List.set_cons_zero, List.set_cons_succ]
        refine wpAnyH_take (i := 11) (v := ?_) (by simp only [List.getElem?_toArray, List.getElem?_cons_succ, List.getElem?_cons_zero]; rfl) (by kernel_rfl) (by kernel_rfl) (by kernel_rfl) (by intro _ _ _ h; exact h) (Or.inl ⟨by rfl, ?_⟩) (by assumption) ?_
        rotate_left
        · intro w' hSw
          go_simp
          try with_reducible rfl
        try simp only [Act.put, List.setIfInBounds_toArray, List.set_cons_zero, List.set_cons_succ]
        refine wpAnyH_done (by kernel_rfl) ?_ _
        have hat4 := hHeld.1
        have hb67 := hHeld.2.1
        go_wp2_with (first
          | (refine wpList_loadA hat7 rfl _ rfl rfl ?_)
          | (refine wpList_storeT rfl (.tmp 4) (.tmp 35) rfl _ T2 rfl rfl hok2 hat4.row ?_; intro w8 hat8 hon8))
        go_roundw
        case rel => exact ⟨k + 1, by omega, by go_num, by rw [← HT2.out]; exact hat8, hon8.below (hbel.trans (hb67.mono hbel.size)) hl2⟩
        case measure => simp [intOf]; omega
    · have hi : ¬ ((k : Int) < (acts.length : Int)) := by omega
      have hkl : k = acts.length := by omega
      rw [hkl, List.take_length] at hat
      have hw0 : IntKind.i64.wrap ((acts.length : Int) - 1) = (acts.length : Int) - 1 := IntWalk.i64_in _ (by omega)
      have hb4r := hat.lt
      have HMR := Lib.hid (may_runL acts)
      have HWR := Lib.hid (want_run acts)
      have HC5 := Lib.hid (order_yes (runL acts) HMR.out)
      obtain ⟨T5, hT5⟩ : ∃ T, T = tell (runL acts) := ⟨_, rfl⟩
      rw [← hT5] at hat HC5
      clear hkl hT5
      go_wp2_with fail
      rename World => wl
      go_loopw [8, 9] (fun v iv wr => ∃ m : Nat, m ≤ acts.length ∧ iv = .int .i64 ((acts.length : Int) - 1 - m) ∧ wr.ownsRow wl.heap.size 3 1 v (wantTo acts m).length (ints (wantTo acts m)) ∧ At wr w2.heap.size T5 ∧ wl.heap.size ≤ wr.heap.size ∧ Below w.heap.size w wr) (fun _ iv _ => (intOf iv + 1).toNat)
      case atStart => exact ⟨0, Nat.zero_le _, by simp, World.ownsRow_nil _ _ _ _, hat, Nat.le_refl _, hbel⟩
      case round =>
        obtain ⟨m, hm, rfl, hown, hato, hszo, hbelo⟩ := hrel
        by_cases hlt : m < acts.length
        · obtain ⟨i, hi0⟩ : ∃ i, i = acts.length - 1 - m := ⟨_, rfl⟩
          have hiv : ((acts.length : Int) - 1 - (m : Int)) = (i : Int) := by omega
          rw [hiv]
          have HIV := Lib.hid hiv
          have hil : i < acts.length := by omega
          obtain ⟨b, off, rfl, hbl, hc⟩ := HA.out.cell i hil
          have hc' : ∀ j, j < acts.length → wr.cell? ⟨b, off + j * 2, none⟩ = some (.bool (acts.getD j (false, 0)).1) ∧ wr.cell? ⟨b, off + j * 2 + 1, none⟩ = some (.int .i64 (acts.getD j (false, 0)).2) := fun j hj => ⟨(hbelo.cell (p := ⟨b, off + j * 2, none⟩) hbl).trans (hc j hj).1, (hbelo.cell (p := ⟨b, off + j * 2 + 1, none⟩) hbl).trans (hc j hj).2⟩
          have hblr : b < wr.heap.size := Nat.lt_of_lt_of_le hbl hbelo.size
          have HCC := Lib.hid hc'
          have HO := Lib.hid hown
          have hge : (0 : Int) ≤ (i : Int) := by omega
          have hili : (i : Int) < (acts.length : Int) := by omega
          have hwk1 : IntKind.i64.wrap ((i : Int) + 1) = (i : Int) + 1 := IntWalk.i64_in _ (by omega)
          have hwk2 : IntKind.i64.wrap ((i : Int) - 1) = (i : Int) - 1 := IntWalk.i64_in _ (by omega)
          have HK0 : Hid (keepB acts i = false → wantTo acts (m + 1) = wantTo acts m) := fun h => by
            show wantTo acts m ++ _ = _
            rw [← hi0, if_neg (by rw [h]; simp), List.append_nil]
          have HK1 : Hid (keepB acts i = true → wantTo acts (m + 1) = wantTo acts m ++ [(acts.getD i (false, 0)).2]) := fun h => by
            show wantTo acts m ++ _ = _
            rw [← hi0, if_pos h]
          have HLS := Lib.hid (lateTo_start acts i)
          have HI0 := Lib.hid hi0
          clear hc hc' hown hiv hi0
          go_wp2_with fail
          rename World => wo
          go_loopw [10, 11] (fun lv kv wk => ∃ k : Nat, i + 1 ≤ k ∧ k ≤ acts.length ∧ kv = .int .i64 k ∧ lv = .bool (lateTo acts i k) ∧ Below wo.heap.size wo wk) (fun _ kv _ => acts.length - (intOf kv).toNat)
          case atStart => exact ⟨i + 1, Nat.le_refl _, by omega, by simp, by rw [HLS.out], Below.refl _ _⟩
          case round =>
            obtain ⟨k, hk1, hk2, rfl, rfl, hbk⟩ := hrel
            by_cases hkl : k < acts.length
            · have hki : (k : Int) < (acts.length : Int) := by omega
              have gk := (hbk.cell (p := ⟨b, off + k * 2 + 1, none⟩) hblr).trans (HCC.out k hkl).2
              have gi := (hbk.cell (p := ⟨b, off + i * 2 + 1, none⟩) hblr).trans (HCC.out i hil).2
              have hsucc := lateTo_succ acts i k hk1 hkl
              obtain ⟨x, hx⟩ : ∃ x, x = (acts.getD k (false, 0)).2 := ⟨_, rfl⟩
              obtain ⟨y, hy⟩ : ∃ y, y = (acts.getD i (false, 0)).2 := ⟨_, rfl⟩
              rw [← hx] at gk hsucc
              rw [← hy] at gi hsucc
              obtain ⟨lt, hlt2⟩ : ∃ lt, lt = lateTo acts i k := ⟨_, rfl⟩
              rw [← hlt2] at hsucc ⊢
              have HSU := Lib.hid hsucc
              clear hsucc hx hy hlt2
              cases lt
              · by_cases hxy : x = y
                · have hb : (x == y) = true := by simpa using hxy
                  have HE : Hid (lateTo acts i (k + 1) = true) := by show _ = _; rw [HSU.out, decide_eq_true hxy]; rfl
                  clear hxy
                  go_wp2_with fail
                  go_quiet (fail)
                  go_wp2_with fail
                  go_roundw
                  case rel => exact ⟨k + 1, by omega, by omega, by go_num, by rw [HE.out], below_drewN _ _ _ _ hbk⟩
                  case measure => simp [intOf]; omega
                · have hb : (x == y) = false := by simpa using hxy
                  have HE : Hid (lateTo acts i (k + 1) = false) := by show _ = _; rw [HSU.out, decide_eq_false hxy]; rfl
                  clear hxy
                  go_wp2_with fail
                  go_quiet (fail)
                  go_wp2_with fail
                  go_roundw
                  case rel => exact ⟨k + 1, by omega, by omega, by go_num, by rw [HE.out], below_drewN _ _ _ _ hbk⟩
                  case measure => simp [intOf]; omega
              · have HE : Hid (lateTo acts i (k + 1) = true) := by show _ = _; rw [HSU.out]; rfl
                go_wp2_with fail
                go_quiet (fail)
                go_wp2_with fail
                go_roundw
                case rel => exact ⟨k + 1, by omega, by omega, by go_num, by rw [HE.out], below_drewN _ _ _ _ hbk⟩
                case measure => simp [intOf]; omega
            · have hki : ¬ ((k : Int) < (acts.length : Int)) := by omega
              have hend := lateTo_end acts i k (by omega)
              rw [hend]
              have gd := (hbk.cell (p := ⟨b, off + i * 2, none⟩) hblr).trans (HCC.out i hil).1
              have gi := (hbk.cell (p := ⟨b, off + i * 2 + 1, none⟩) hblr).trans (HCC.out i hil).2
              have hatl := hato.lt
              have hkeep : keepB acts i = (!lateB acts i && !(acts.getD i (false, 0)).1 && decide (inR (acts.getD i (false, 0)).2)) := rfl
              obtain ⟨d, hdd⟩ : ∃ d, d = (acts.getD i (false, 0)).1 := ⟨_, rfl⟩
              obtain ⟨y, hy⟩ : ∃ y, y = (acts.getD i (false, 0)).2 := ⟨_, rfl⟩
              rw [← hdd] at gd hkeep
              rw [← hy] at gi hkeep HK1
              obtain ⟨lt, hlt2⟩ : ∃ lt, lt = lateB acts i := ⟨_, rfl⟩
              rw [← hlt2] at hkeep ⊢
              have HKP := Lib.hid hkeep
              clear hkeep hdd hy hlt2 hend
              cases lt
              · cases d
                · by_cases h0 : 0 ≤ y
                  · by_cases h1 : y < 64
                    · have HW : Hid (wantTo acts (m + 1) = wantTo acts m ++ [y]) := HK1.out (by rw [HKP.out, decide_eq_true (show inR y from ⟨h0, h1⟩)]; rfl)
                      have hwl := want_len acts m
                      go_wp2_with (first
                        | (at_builtin; refine append_ints rfl _ _ rfl wl.heap.size _ (wantTo acts m) rfl ((own_below HO.out hbk).alloc _) _ [y] 1 rfl (lit1 _ _) (by intro h; cases h) (by rw [List.length_append, List.length_singleton]; omega) (by have := hbk.size; simp; omega) ?_; intro ao2 cap2 w9 hown9 hb9))
                      go_roundw
                      case rel =>
                        have hsz := hbk.size
                        exact ⟨m + 1, by omega, by have := HIV.out; go_num, by rw [HW.out]; have h := hown9; rw [List.length_append, List.length_singleton] at h ⊢; exact h, ((hato.below hbk hatl).more (.cells #[.int .i64 y] 3)).below hb9 (by omega), by have := hb9.size; rw [World.size_alloc] at this; omega, (hbelo.link hbk).trans (((Below.refl _ _).alloc (by have := hbelo.size; omega) (.cells #[.int .i64 y] 3)).trans (hb9.mono (by have := hbel.size; omega)))⟩
                      case measure => simp [intOf]
                    · have d1 : decide (y < 64) = false := by simpa using h1
                      have HW : Hid (wantTo acts (m + 1) = wantTo acts m) := HK0.out (by rw [HKP.out, decide_eq_false (fun h : inR y => h1 h.2)]; rfl)
                      clear h1
                      go_wp2_with fail
                      go_roundw
                      case rel => exact ⟨m + 1, by omega, by have := HIV.out; go_num, by rw [HW.out]; exact own_below HO.out hbk, hato.below hbk hatl, by have := hbk.size; omega, hbelo.link hbk⟩
                      case measure => simp [intOf]
                  · have d1 : decide (0 ≤ y) = false := by simpa using h0
                    have HW : Hid (wantTo acts (m + 1) = wantTo acts m) := HK0.out (by rw [HKP.out, decide_eq_false (fun h : inR y => h0 h.1)]; rfl)
                    clear h0
                    go_wp2_with fail
                    go_roundw
                    case rel => exact ⟨m + 1, by omega, by have := HIV.out; go_num, by rw [HW.out]; exact own_below HO.out hbk, hato.below hbk hatl, by have := hbk.size; omega, hbelo.link hbk⟩
                    case measure => simp [intOf]
                · have HW : Hid (wantTo acts (m + 1) = wantTo acts m) := HK0.out (by rw [HKP.out]; rfl)
                  go_wp2_with fail
                  go_roundw
                  case rel => exact ⟨m + 1, by omega, by have := HIV.out; go_num, by rw [HW.out]; exact own_below HO.out hbk, hato.below hbk hatl, by have := hbk.size; omega, hbelo.link hbk⟩
                  case measure => simp [intOf]
              · have HW : Hid (wantTo acts (m + 1) = wantTo acts m) := HK0.out (by rw [HKP.out]; rfl)
                go_wp2_with fail
                go_roundw
                case rel => exact ⟨m + 1, by omega, by have := HIV.out; go_num, by rw [HW.out]; exact own_below HO.out hbk, hato.below hbk hatl, by have := hbk.size; omega, hbelo.link hbk⟩
                case measure => simp [intOf]
        · have hml : m = acts.length := by omega
          rw [hml, HWR.out] at hown
          have hge : ¬ ((0 : Int) ≤ (acts.length : Int) - 1 - (m : Int)) := by omega
          obtain ⟨ao2, cap2, rfl, hint2, hn2, hc2⟩ := own_int hown
          have HI2 := Lib.hid hint2
          have hrl := may_len HMR.out
          clear hown hml hint2
          go_wp2_with (first
            | (refine wpList_loadA hato rfl _ rfl rfl ?_)
            | (go_at_call 12; refine (HC5.out _).mono ?_; rintro e w6 ⟨⟨ao1, cap1, rfl, hsl1⟩, hb6⟩)
            | (go_at_call 20; refine (same_any ao1 ao2 (runL acts) (runL acts) _ _ w6 (by omega) (by omega) hsl1.1 (HI2.out.below hb6)).mono ?_; rintro e w7 ⟨rfl, hb7⟩; rw [decide_eq_true (rfl : runL acts = runL acts)]))
          go_ret
          exact ⟨rfl, (hbelo.link hb6).link hb7⟩
end Go.Proofs.Ytafkbbjmbbimpaa
