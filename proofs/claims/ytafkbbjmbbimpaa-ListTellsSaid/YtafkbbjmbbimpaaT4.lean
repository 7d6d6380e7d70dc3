/- The document's answer: Order. -/
import Derived.Test.YtafkbbjmbbimpaaT3
import Derived.Test.YtafkbbjmbbimpaaL6
namespace Go.Proofs.Ytafkbbjmbbimpaa
open Go.RowKit Plain

def HypB (t : LC) (out : List Int) (id : Int) : Prop := ∀ l, may l → tell l = t → ∃ m, m ≤ l.length ∧ out = l.drop (l.length - m) ∧ id = if m = l.length then -1 else l.getD (l.length - 1 - m) 0
theorem hypB_start (t : LC) : HypB t [] t.tail := by
  intro l hl ht
  have T := told_tell l hl
  rw [ht] at T
  refine ⟨0, Nat.zero_le _, by simp, ?_⟩
  rw [T.tail]
  split
  · rename_i h
    rw [List.length_eq_zero_iff.1 h.symm]; rfl
  · rename_i h
    rw [getD_of_lt _ _ _ (by omega), List.getLastD_eq_getLast?, List.getLast?_eq_getElem?, List.getElem?_eq_getElem (by omega)]; rfl
theorem hypB_end {t : LC} {out : List Int} {id : Int} (h : HypB t out id) (he : ¬ inR id ∨ out.length = 64) {l : List Int} (hl : may l) (ht : tell l = t) : out = l := by
  obtain ⟨m, hm, ho, hi⟩ := h l hl ht
  have h64 := may_len hl
  have hml : m = l.length := by
    rcases he with he | he
    · by_cases e : m = l.length
      · exact e
      · rw [if_neg e, getD_of_lt _ _ _ (by omega)] at hi
        exact absurd (hi ▸ hl.1 _ (List.getElem_mem _)) he
    · rw [ho, List.length_drop] at he
      omega
  rw [ho, hml]
  simp
theorem hypB_step {t : LC} {out : List Int} {id : Int} (h : HypB t out id) (hr : inR id) : HypB t (id :: out) (t.prev.getD id.toNat 0) := by
  intro l hl ht
  obtain ⟨m, hm, ho, hi⟩ := h l hl ht
  have T := told_tell l hl
  rw [ht] at T
  have hml : m ≠ l.length := by
    intro e
    rw [if_pos e] at hi
    unfold inR at hr; omega
  rw [if_neg hml, getD_of_lt _ _ _ (by omega)] at hi
  refine ⟨m + 1, by omega, ?_, ?_⟩
  · have e : l.length - (m + 1) = l.length - 1 - m := by omega
    have e2 : l.length - 1 - m + 1 = l.length - m := by omega
    rw [e, List.drop_eq_getElem_cons (by omega), hi, ho, e2]
  · rw [hi, T.prev _ (by omega)]
    by_cases e : m + 1 = l.length
    · rw [if_pos e, if_pos (by omega)]
    · rw [if_neg e, if_neg (by omega), getD_of_lt _ _ _ (by omega), getD_of_lt _ _ _ (by omega)]
      congr 1
def SlI (w : World) (ao : Option Addr) (cap : Nat) (l : List Int) : Prop := SlOk w ao cap l
set_option linter.unusedSimpArgs false in
set_option maxRecDepth 20000 in
set_option maxHeartbeats 1000000 in
theorem rorder_any (t : LC) (hok : t.ok) (w : World) : Calls Try.prog 13 #[.agg (cellsT t)] w (OrderOk t w) := by
  have g26 := guard26
  have hat0 : At (w.alloc (.cells (cellsT t) 26)) w.heap.size t := At.alloc hok
  have gt := hat0.tail
  have hh0 := hypB_start t
  obtain ⟨tl, htl⟩ : ∃ tl, tl = t.tail := ⟨_, rfl⟩
  rw [← htl] at gt hh0
  clear htl
  go_enter Try.func13, Try.ntmps13
  go_wp2_with fail
  go_loopw [4, 5] (fun v i wr => ∃ (out : List Int) (id : Int) (ao : Option Addr) (cap : Nat), v = .slice ao out.length cap ∧ i = .int .i64 id ∧ HypB t out id ∧ SlI wr ao cap out ∧ At wr w.heap.size t ∧ out.length ≤ 64 ∧ Below w.heap.size w wr) (fun v _ _ => 64 - (match v with | .slice _ n _ => n | _ => 0))
  case atStart => exact ⟨[], tl, none, 0, rfl, rfl, hh0, ⟨.inl rfl, fun _ => rfl, Nat.le_refl _⟩, hat0, by simp, (Below.refl _ _).alloc (Nat.le_refl _) _⟩
  case round =>
    obtain ⟨out, id, ao, cap, rfl, rfl, hyp, hsl, hat, h64, hbel⟩ := hrel
    by_cases hgo : inR id ∧ out.length < 64
    · obtain ⟨n, rfl⟩ : ∃ n : Nat, id = n := ⟨id.toNat, by have := hgo.1; unfold inR at this; omega⟩
      have hn64 : n < 64 := by have := hgo.1; unfold inR at this; omega
      have hn64' : (n : Int) < 64 := by omega
      have hl64 : (out.length : Int) < 64 := by have := hgo.2; omega
      have HY : Hid (HypB t ((n : Int) :: out) (t.prev.getD n 0)) := hypB_step hyp hgo.1
      have HS := Lib.hid hsl
      have HA := Lib.hid hat
      have HL := Lib.hid hgo.2
      have hlt := hat.lt
      have hown := World.ownsRow_lit (base := w.heap.size + 1) (e := 3) (size := 1) wr #[.int .i64 n] 1 (by omega) (by unfold maxLen; omega) rfl
      have HO := Lib.hid hown
      clear hgo hyp hsl hat hown
      go_wp2_with (first
        | (at_builtin; refine append_ints rfl _ _ rfl (w.heap.size + 1) _ [(n : Int)] rfl HO.out ao out cap rfl (HS.out.1.more _) HS.out.2.1 (by have := HL.out; simp; omega) (by simp; omega) ?_; intro ao2 cap2 w2 hown1 hb3; have hA2 := ((HA.out.more (.cells #[.int .i64 n] 3)).below hb3 (by omega)); have gp := hA2.prev n hn64))
      go_roundw
      case rel => exact ⟨(n : Int) :: out, t.prev.getD n 0, ao2, cap2, rfl, rfl, HY.out, own_sl hown1, hA2, by have := HL.out; simp; omega, (hbel.alloc hbel.size _).trans (hb3.mono (by omega))⟩
      case measure => have := HL.out; simp; omega
    · have hor : ¬ inR id ∨ out.length = 64 := by
        by_cases h : inR id
        · right
          have : ¬ out.length < 64 := fun h2 => hgo ⟨h, h2⟩
          omega
        · exact .inl h
      have HE : Hid (∀ l, may l → tell l = t → out = l) := fun l hl ht => hypB_end hyp hor hl ht
      clear hor
      have hcase : decide (0 ≤ id) = false ∨ (0 ≤ id ∧ decide (id < 64) = false) ∨ (0 ≤ id ∧ id < 64 ∧ decide ((out.length : Int) < 64) = false) := by
        simp only [decide_eq_false_iff_not]
        unfold inR at hgo
        omega
      have HS := Lib.hid hsl
      clear hyp hgo hsl
      by_cases hm : may out
      · have HM := Lib.hid hm
        have HD := Lib.hid (decide_eq_true hm)
        by_cases heq : tell out = t
        · have h26 : ∀ w, (binOp .neq 26 (.agg (cellsT (tell out))) (.agg (cellsT t))).run Try.prog w = .ok (.bool false) w := fun w => by
            rw [neq_lists _ _ (tell_ok out) hok w, decide_eq_true heq]; rfl
          have HQ := Lib.hid heq
          clear hm heq
          rcases hcase with d1 | ⟨d1, d2⟩ | ⟨d1, d2, d3⟩
          all_goals (
          go_wp2_with (first
            | (go_at_call 26; refine (may_any ao out cap _ (by omega) HS.out.1).mono ?_; rintro e w3 ⟨rfl, hb3⟩; rw [HD.out]; have hat3 := hat.below hb3 hat.lt; have hint3 := HS.out.1.below hb3))
          have hm := may_len HM.out
          refine wp_region_held_drew (S := fun w' => At w' w.heap.size t ∧ Below w3.heap.size w3 w' ∧ IntAt w' ao out) (by kernel_rfl) ⟨hat3, (Below.refl _ _).drew, hint3⟩ (fun hHeld => ?_)
          refine wpAnyH_take (i := 0) (v := ?_) (by simp only [List.getElem?_toArray, List.getElem?_cons_succ, List.getElem?_cons_zero]; rfl) (by kernel_rfl) (by kernel_rfl) (by kernel_rfl) (by intro _ _ _ h; exact h) (Or.inl ⟨by rfl, ?_⟩) (by assumption) ?_
          rotate_left
          · intro w' hSw
            go_simp
            try with_reducible rfl
          try simp only [Act.put, List.setIfInBounds_toArray, List.set_cons_zero, List.set_cons_succ]
          refine wpAnyH_take (i := 1) (v := ?_) (by simp only [List.getElem?_toArray, List.getElem?_cons_succ, List.getElem?_cons_zero]; rfl) (by kernel_rfl) (by kernel_rfl) (by kernel_rfl) (by intro _ _ _ h; exact h) (Or.inl ⟨by rfl, ?_⟩) (by assumption) ?_
          rotate_left
          · intro w' hSw
            go_simp
            try with_reducible rfl
          try simp only [Act.put, List.setIfInBounds_toArray, List.set_cons_zero, List.set_cons_succ]
          refine wpAnyH_take (i := 2) (v := ?_) (by simp only [List.getElem?_toArray, List.getElem?_cons_succ, List.getElem?_cons_zero]; rfl) (by kernel_rfl) (by kernel_rfl) (by kernel_rfl) (by intro _ _ _ h; exact h) (Or.inl ⟨by rfl, ?_⟩) (by assumption) ?_
          rotate_left
          · intro w' hSw
            go_simp
            try with_reducible rfl
          try simp only [Act.put, List.setIfInBounds_toArray, List.set_cons_zero, List.set_cons_succ]
          refine wpAnyH_take (i := 3) (v := ?_) (by simp only [List.getElem?_toArray, List.getElem?_cons_succ, List.getElem?_cons_zero]; rfl) (by kernel_rfl) (by kernel_rfl) (by kernel_rfl) (by intro _ _ _ h; exact h) (Or.inl ⟨by rfl, ?_⟩) (by assumption) ?_
          rotate_left
          · intro w' hSw
            go_simp
            try with_reducible rfl
          try simp only [Act.put, List.setIfInBounds_toArray, List.set_cons_zero, List.set_cons_succ]
          refine wpAnyH_take (i := 5) (v := .agg (cellsT t)) (by simp only [List.getElem?_toArray, List.getElem?_cons_succ, List.getElem?_cons_zero]; rfl) (by kernel_rfl) (by kernel_rfl) (by kernel_rfl) (by intro _ _ _ h; exact h) (yields26 (by rfl) (.tmp 1) rfl w.heap.size (by rfl) t (fun w' h => h.1)) (by assumption) ?_
          try simp only [Act.put, List.setIfInBounds_toArray, List.set_cons_zero, List.set_cons_succ]
          refine wpAnyH_ready (rs := [4]) (by kernel_rfl) (by simp) ?_
          refine AllReadyH.cons (by simp only [List.getElem?_toArray, List.getElem?_cons_succ, List.getElem?_cons_zero]; rfl) (fun K hK => ?_) AllReadyH.nil
          go_simp
          refine (told_any ao out cap _ HM.out hHeld.2.2).mono ?_
          rintro e w5 ⟨rfl, hb5⟩
          have hS5 : At w5 w.heap.size t ∧ Below w3.heap.size w3 w5 ∧ IntAt w5 ao out := ⟨At.below hHeld.1 hb5 hHeld.1.lt, hHeld.2.1.trans (hb5.mono hHeld.2.1.size), hHeld.2.2.below hb5⟩
          go_wp2_with fail
          refine hK.out _ _ hS5 (fun hHeld => ?_)
          clear hK
          try simp only [Act.put, List.setIfInBounds_toArray, List.set_cons_zero, List.set_cons_succ]
          refine wpAnyH_take (i := 6) (v := ?_) (by simp only [List.getElem?_toArray, List.getElem?_cons_succ, List.getElem?_cons_zero]; rfl) (by kernel_rfl) (by kernel_rfl) (by kernel_rfl) (by intro _ _ _ h; exact h) (Or.inl ⟨by rfl, ?_⟩) (by assumption) ?_
          rotate_left
          · intro w' hSw
            go_simp
            try with_reducible rfl
          try simp only [Act.put, List.setIfInBounds_toArray, List.set_cons_zero, List.set_cons_succ]
          refine wpAnyH_take (i := 7) (v := ?_) (by simp only [List.getElem?_toArray, List.getElem?_cons_succ, List.getElem?_cons_zero]; rfl) (by kernel_rfl) (by kernel_rfl) (by kernel_rfl) (by intro _ _ _ h; exact h) (Or.inl ⟨by rfl, ?_⟩) (by assumption) ?_
          rotate_left
          · intro w' hSw
            go_simp
            try with_reducible rfl
          try simp only [Act.put, List.setIfInBounds_toArray, List.set_cons_zero, List.set_cons_succ]
          refine wpAnyH_done (by kernel_rfl) ?_ _
          go_wp2_with fail
          go_ret2
          exact ⟨.inl ⟨out, ao, cap, HM.out, HQ.out, rfl, hHeld.2.2, HS.out.2⟩, hbel.link (hb3.link hHeld.2.1)⟩)
        · have h26 : ∀ w, (binOp .neq 26 (.agg (cellsT (tell out))) (.agg (cellsT t))).run Try.prog w = .ok (.bool true) w := fun w => by
            rw [neq_lists _ _ (tell_ok out) hok w, decide_eq_false heq]; rfl
          have HQ : Hid (NoL t) := fun l hl ht => heq (by rw [HE.out l hl ht, ht])
          clear hm heq
          rcases hcase with d1 | ⟨d1, d2⟩ | ⟨d1, d2, d3⟩
          all_goals (
          go_wp2_with (first
            | (go_at_call 26; refine (may_any ao out cap _ (by omega) HS.out.1).mono ?_; rintro e w3 ⟨rfl, hb3⟩; rw [HD.out]; have hat3 := hat.below hb3 hat.lt; have hint3 := HS.out.1.below hb3))
          have hm := may_len HM.out
          refine wp_region_held_drew (S := fun w' => At w' w.heap.size t ∧ Below w3.heap.size w3 w' ∧ IntAt w' ao out) (by kernel_rfl) ⟨hat3, (Below.refl _ _).drew, hint3⟩ (fun hHeld => ?_)
          refine wpAnyH_take (i := 0) (v := ?_) (by simp only [List.getElem?_toArray, List.getElem?_cons_succ, List.getElem?_cons_zero]; rfl) (by kernel_rfl) (by kernel_rfl) (by kernel_rfl) (by intro _ _ _ h; exact h) (Or.inl ⟨by rfl, ?_⟩) (by assumption) ?_
          rotate_left
          · intro w' hSw
            go_simp
            try with_reducible rfl
          try simp only [Act.put, List.setIfInBounds_toArray, List.set_cons_zero, List.set_cons_succ]
          refine wpAnyH_take (i := 1) (v := ?_) (by simp only [List.getElem?_toArray, List.getElem?_cons_succ, List.getElem?_cons_zero]; rfl) (by kernel_rfl) (by kernel_rfl) (by kernel_rfl) (by intro _ _ _ h; exact h) (Or.inl ⟨by rfl, ?_⟩) (by assumption) ?_
          rotate_left
          · intro w' hSw
            go_simp
            try with_reducible rfl
          try simp only [Act.put, List.setIfInBounds_toArray, List.set_cons_zero, List.set_cons_succ]
          refine wpAnyH_take (i := 2) (v := ?_) (by simp only [List.getElem?_toArray, List.getElem?_cons_succ, List.getElem?_cons_zero]; rfl) (by kernel_rfl) (by kernel_rfl) (by kernel_rfl) (by intro _ _ _ h; exact h) (Or.inl ⟨by rfl, ?_⟩) (by assumption) ?_
          rotate_left
          · intro w' hSw
            go_simp
            try with_reducible rfl
          try simp only [Act.put, List.setIfInBounds_toArray, List.set_cons_zero, List.set_cons_succ]
          refine wpAnyH_take (i := 3) (v := ?_) (by simp only [List.getElem?_toArray, List.getElem?_cons_succ, List.getElem?_cons_zero]; rfl) (by kernel_rfl) (by kernel_rfl) (by kernel_rfl) (by intro _ _ _ h; exact h) (Or.inl ⟨by rfl, ?_⟩) (by assumption) ?_
          rotate_left
          · intro w' hSw
            go_simp
            try with_reducible rfl
          try simp only [Act.put, List.setIfInBounds_toArray, List.set_cons_zero, List.set_cons_succ]
          refine wpAnyH_take (i := 5) (v := .agg (cellsT t)) (by simp only [List.getElem?_toArray, List.getElem?_cons_succ, List.getElem?_cons_zero]; rfl) (by kernel_rfl) (by kernel_rfl) (by kernel_rfl) (by intro _ _ _ h; exact h) (yields26 (by rfl) (.tmp 1) rfl w.heap.size (by rfl) t (fun w' h => h.1)) (by assumption) ?_
          try simp only [Act.put, List.setIfInBounds_toArray, List.set_cons_zero, List.set_cons_succ]
          refine wpAnyH_ready (rs := [4]) (by kernel_rfl) (by simp) ?_
          refine AllReadyH.cons (by simp only [List.getElem?_toArray, List.getElem?_cons_succ, List.getElem?_cons_zero]; rfl) (fun K hK => ?_) AllReadyH.nil
          go_simp
          refine (told_any ao out cap _ HM.out hHeld.2.2).mono ?_
          rintro e w5 ⟨rfl, hb5⟩
          have hS5 : At w5 w.heap.size t ∧ Below w3.heap.size w3 w5 ∧ IntAt w5 ao out := ⟨At.below hHeld.1 hb5 hHeld.1.lt, hHeld.2.1.trans (hb5.mono hHeld.2.1.size), hHeld.2.2.below hb5⟩
          go_wp2_with fail
          refine hK.out _ _ hS5 (fun hHeld => ?_)
          clear hK
          try simp only [Act.put, List.setIfInBounds_toArray, List.set_cons_zero, List.set_cons_succ]
          refine wpAnyH_take (i := 6) (v := ?_) (by simp only [List.getElem?_toArray, List.getElem?_cons_succ, List.getElem?_cons_zero]; rfl) (by kernel_rfl) (by kernel_rfl) (by kernel_rfl) (by intro _ _ _ h; exact h) (Or.inl ⟨by rfl, ?_⟩) (by assumption) ?_
          rotate_left
          · intro w' hSw
            go_simp
            try with_reducible rfl
          try simp only [Act.put, List.setIfInBounds_toArray, List.set_cons_zero, List.set_cons_succ]
          refine wpAnyH_take (i := 7) (v := ?_) (by simp only [List.getElem?_toArray, List.getElem?_cons_succ, List.getElem?_cons_zero]; rfl) (by kernel_rfl) (by kernel_rfl) (by kernel_rfl) (by intro _ _ _ h; exact h) (Or.inl ⟨by rfl, ?_⟩) (by assumption) ?_
          rotate_left
          · intro w' hSw
            go_simp
            try with_reducible rfl
          try simp only [Act.put, List.setIfInBounds_toArray, List.set_cons_zero, List.set_cons_succ]
          refine wpAnyH_done (by kernel_rfl) ?_ _
          go_wp2_with fail
          go_ret2
          exact ⟨.inr ⟨HQ.out, rfl⟩, hbel.link (hb3.link hHeld.2.1)⟩)
      · have HD := Lib.hid (decide_eq_false hm)
        have HQ : Hid (NoL t) := fun l hl ht => hm (by rw [HE.out l hl ht]; exact hl)
        clear hm
        rcases hcase with d1 | ⟨d1, d2⟩ | ⟨d1, d2, d3⟩
        all_goals (
        go_wp2_with (first
          | (go_at_call 26; refine (may_any ao out cap _ (by omega) HS.out.1).mono ?_; rintro e w3 ⟨rfl, hb3⟩; rw [HD.out]))
        go_quiet (fail)
        go_wp2_with fail
        go_ret2
        exact ⟨.inr ⟨HQ.out, rfl⟩, hbel.link (below_drewN _ _ _ _ hb3)⟩)
end Go.Proofs.Ytafkbbjmbbimpaa
