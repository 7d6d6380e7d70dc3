/- list.Order: what it hands back lies in new memory. -/
import Derived.Test.YtafkbbjmbbimpaaC7
namespace Go.Proofs.Ytafkbbjmbbimpaa
open Go.RowKit Plain

def FreshA (B : Nat) (ao : Option Addr) : Prop := ∀ x, ao = some x → B ≤ x.block
def OrderOkF (t : LC) (w : World) (e : Ending) (w' : World) : Prop :=
  ((∃ l ao cap, may l ∧ tell l = t ∧ e = .returned (.tuple #[.slice ao l.length cap, .bool true]) ∧ SlOk w' ao cap l ∧ FreshA w.heap.size ao) ∨ (NoL t ∧ e = .returned (.tuple #[.slice none 0 0, .bool false]))) ∧ Below w.heap.size w w'
set_option maxHeartbeats 400000 in
theorem order_anyF (t : LC) (hok : t.ok) (w : World) : Calls Try.prog 12 #[.agg (cellsT t)] w (OrderOkF t w) := by
  have hmf : ∀ (fn : Fn) (first cap : Array Value) (w : World), (Instr.makeFunc fn first cap).run Try.prog w = .ok (.func fn first cap) w := fun _ _ _ _ => rfl
  have g24 := guard24
  have g26 := guard26
  obtain ⟨z26, s26⟩ := zero_of_info zero26
  obtain ⟨z24, s24⟩ := zero_of_info zero24
  have sz := cellsT_size zeroT_ok
  obtain ⟨cz, hcz⟩ : ∃ cz, cz = cellsT zeroT := ⟨_, rfl⟩
  rw [← hcz] at z26 sz
  obtain ⟨sn, hsn⟩ : ∃ sn, sn = boolsA (List.replicate 64 false) := ⟨_, rfl⟩
  rw [← hsn] at z24
  have hat0 : At ((w.alloc (.cells (cellsT t) 26)).alloc (.cells sn 24)) w.heap.size t := (At.alloc hok).more _
  have hs0 : SeenAt ((w.alloc (.cells (cellsT t) 26)).alloc (.cells sn 24)) (w.heap.size + 1) (seenL []) := by
    rw [seenL_nil]
    refine ⟨?_, by simp⟩
    have := heap_alloc_last (w.alloc (.cells (cellsT t) 26)) (.cells sn 24)
    rw [World.size_alloc] at this
    rw [this, hsn]
  clear hcz hsn s26 s24
  have gh := hat0.head
  obtain ⟨hd, hhd⟩ : ∃ hd, hd = t.head := ⟨_, rfl⟩
  rw [← hhd] at gh
  have hh0 : Hyp t [] hd := by rw [hhd]; exact hyp_start t
  clear hhd
  go_enter Try.func12, Try.ntmps12
  go_wp2_with fail
  go_loopw [6, 7] (fun v i wr => ∃ (m : List Int) (a : Int), i = .int .i64 a ∧ may m ∧ Hyp t m a ∧ wr.ownsRow (w.heap.size + 2) 3 1 v m.length (ints m) ∧ At wr w.heap.size t ∧ SeenAt wr (w.heap.size + 1) (seenL m) ∧ w.heap.size + 2 ≤ wr.heap.size ∧ Below w.heap.size w wr) (fun v _ _ => 64 - (match v with | .slice _ n _ => n | _ => 0))
  case atStart => exact ⟨[], hd, rfl, may_nil, hh0, World.ownsRow_nil _ _ _ _, hat0, hs0, by simp, ((Below.refl _ _).alloc (Nat.le_refl _) _).alloc (by simp) _⟩
  case round =>
    obtain ⟨m, a, rfl, hmay, hyp, hown, hat, hse, hsz, hbel⟩ := hrel
    obtain ⟨ao, cap, rfl, hint, hnone, hcap⟩ := own_int hown
    have HG : Hid (FreshA w.heap.size ao) := fun x hx => by have := own_ge hown x.block (by rw [hx]; rfl); omega
    by_cases hne : a = -1
    · subst hne
      have hml := may_len hmay
      have HS := Lib.hid hse
      have HA := Lib.hid hat
      have HY := Lib.hid hyp
      have HM := Lib.hid hmay
      have HI := Lib.hid hint
      have sr := hse.range
      have ar := hat.innRange
      by_cases hin : seenL m = t.inn
      · by_cases heq : tell m = t
        · have h24 : ∀ w, (binOp .neq 24 (.agg (boolsA (seenL m))) (.agg (boolsA t.inn))).run Try.prog w = .ok (.bool false) w := fun w => by
            rw [neq_bools _ _ (seenL_len m) hok.2.2 w, decide_eq_true hin]; rfl
          have h26 : ∀ w, (binOp .neq 26 (.agg (cellsT (tell m))) (.agg (cellsT t))).run Try.prog w = .ok (.bool false) w := fun w => by
            rw [neq_lists _ _ (tell_ok m) hok w, decide_eq_true heq]; rfl
          have ofm : Hid (ofT m = tell m ∧ ofE m = 0) := ⟨if_pos hmay, if_pos hmay⟩
          have okm := tell_ok m
          have HE := Lib.hid heq
          clear hin hyp hmay hown hat hse hint heq
          go_wp2_with (first
            | (refine wpList_load24 rfl _ rfl _ _ rfl (seenL m) (seenL_len m) sr ?_)
            | (refine wpList_load24 rfl _ rfl _ _ rfl t.inn hok.2.2 ar ?_)
            | (go_at_call 10; refine (of_any _ m _ _ (by omega) HI.out).mono ?_; rintro e w3 ⟨rfl, hb3⟩; rw [ofm.out.1, ofm.out.2])
            | (refine wpList_storeT rfl _ _ rfl _ (tell m) rfl rfl okm (Row.last _ _ sz) ?_; intro w4 hat4 hon4; have hlt3 := hb3.size; have hat5 := (((HA.out.below hb3 (by omega)).more (.cells cz 26)).only hon4 (by omega)))
            | (refine wpList_loadG rfl _ rfl _ rfl (tell m) hat4 ?_)
            | (refine wpList_loadG rfl _ rfl _ rfl t hat5 ?_))
          go_ret2
          have hb4 : Below wr.heap.size wr w4 := hon4.below (hb3.alloc hb3.size _) hb3.size
          exact ⟨.inl ⟨m, ao, cap, HM.out, HE.out, rfl, ⟨HI.out.below hb4, hnone, hcap⟩, HG.out⟩, hbel.trans (hb4.mono hbel.size)⟩
        · have HNO : Hid (NoL t) := fun l hl ht => heq (by rw [hyp_end hyp hl ht, ht])
          have h24 : ∀ w, (binOp .neq 24 (.agg (boolsA (seenL m))) (.agg (boolsA t.inn))).run Try.prog w = .ok (.bool false) w := fun w => by
            rw [neq_bools _ _ (seenL_len m) hok.2.2 w, decide_eq_true hin]; rfl
          have h26 : ∀ w, (binOp .neq 26 (.agg (cellsT (tell m))) (.agg (cellsT t))).run Try.prog w = .ok (.bool true) w := fun w => by
            rw [neq_lists _ _ (tell_ok m) hok w, decide_eq_false heq]; rfl
          have ofm : Hid (ofT m = tell m ∧ ofE m = 0) := ⟨if_pos hmay, if_pos hmay⟩
          have okm := tell_ok m
          have HE := Lib.hid heq
          clear hin hyp hmay hown hat hse hint heq
          go_wp2_with (first
            | (refine wpList_load24 rfl _ rfl _ _ rfl (seenL m) (seenL_len m) sr ?_)
            | (refine wpList_load24 rfl _ rfl _ _ rfl t.inn hok.2.2 ar ?_)
            | (go_at_call 10; refine (of_any _ m _ _ (by omega) HI.out).mono ?_; rintro e w3 ⟨rfl, hb3⟩; rw [ofm.out.1, ofm.out.2])
            | (refine wpList_storeT rfl _ _ rfl _ (tell m) rfl rfl okm (Row.last _ _ sz) ?_; intro w4 hat4 hon4; have hlt3 := hb3.size; have hat5 := (((HA.out.below hb3 (by omega)).more (.cells cz 26)).only hon4 (by omega)))
            | (refine wpList_loadG rfl _ rfl _ rfl (tell m) hat4 ?_)
            | (refine wpList_loadG rfl _ rfl _ rfl t hat5 ?_))
          go_ret2
          have hb4 : Below wr.heap.size wr w4 := hon4.below (hb3.alloc hb3.size _) hb3.size
          exact ⟨.inr ⟨HNO.out, rfl⟩, hbel.trans (hb4.mono hbel.size)⟩
      · have hno : NoL t := by
          intro l hl ht
          have e := hyp_end hyp hl ht
          exact hin (by rw [e, ← ht, inn_eq hl])
        have HNO := Lib.hid hno
        have h24 : ∀ w, (binOp .neq 24 (.agg (boolsA (seenL m))) (.agg (boolsA t.inn))).run Try.prog w = .ok (.bool true) w := fun w => by
          rw [neq_bools _ _ (seenL_len m) hok.2.2 w, decide_eq_false hin]; rfl
        clear hno hin hyp hmay hown hat hse hint
        go_wp2_with (first
          | (refine wpList_load24 rfl _ rfl _ _ rfl (seenL m) (seenL_len m) sr ?_)
          | (refine wpList_load24 rfl _ rfl _ _ rfl t.inn hok.2.2 ar ?_))
        go_ret2
        exact ⟨.inr ⟨HNO.out, rfl⟩, hbel⟩
    · by_cases hfr : inR a ∧ a ∉ m
      · obtain ⟨n, hn⟩ : ∃ n : Nat, a = n := ⟨a.toNat, by have := hfr.1; unfold inR at this; omega⟩
        subst hn
        have hn64 : n < 64 := by have := hfr.1; unfold inR at this; omega
        have hn64' : (n : Int) < 64 := by omega
        have hnb : ((n : Int) != -1) = true := by simp
        have hdec : (decide (inR (n : Int)) && !(seenL m).getD (n : Int).toNat false) = true := by
          rw [decide_eq_true hfr.1, show ((n : Int)).toNat = n from rfl, seenL_at m n hn64, decide_eq_false hfr.2]; rfl
        have HM2 : Hid (may (m ++ [(n : Int)])) := may_snoc_mk hmay hfr.1 hfr.2
        have HY : Hid (Hyp t (m ++ [(n : Int)]) (t.next.getD n 0)) := hyp_step hyp hne
        have hml : (m ++ [(n : Int)]).length ≤ 64 := may_len HM2.out
        have gs := hse.cell n hn64
        have fs := hse.frozen n
        have gn := hat.next n hn64
        have HO := Lib.hid hown
        have HA := Lib.hid hat
        have HS := Lib.hid hse
        obtain ⟨nx, hnx⟩ : ∃ nx, nx = t.next.getD n 0 := ⟨_, rfl⟩
        rw [← hnx] at gn HY
        have HNX := Lib.hid hnx
        have HL : Hid (m.length < 64) := by show _ < _; simp at hml; omega
        clear hown hat hse hyp hfr hmay hne hnx hml
        go_wp2_with (first
          | (go_at_call 27; refine (sfresh_any _ _ _ _ HS.out).mono ?_; rintro e w3 ⟨rfl, rfl⟩; rw [hdec])
          | (at_builtin; refine append_ints rfl _ _ rfl (w.heap.size + 2) _ m rfl ((own_other HO.out _ _ _ (by omega)).alloc _) _ [(n : Int)] 1 rfl (by have := lit1 (wr.setCell ⟨w.heap.size + 1, n, none⟩ (.bool true)) (n : Int); rwa [World.size_setCell] at this) (by intro h; cases h) (by have := HM2.out; have := may_len this; omega) (by simp; omega) ?_; intro ao2 cap2 w2 hown1 hb3; have hA2 := ((HA.out.other (w.heap.size + 1) n (.bool true) (by omega)).more (.cells #[.int .i64 n] 3)).below hb3 (by omega); have gn2 : w2.cell? ⟨w.heap.size, n, none⟩ = some (.int .i64 nx) := by rw [HNX.out]; exact hA2.next n hn64))
        have hS2 := ((HS.out.set n true).more (.cells #[.int .i64 n] 3)).below hb3 (by omega)
        rw [seenL_set m n hn64] at hS2
        have hB2 : Below w.heap.size w w2 := ((hbel.setCell (p := ⟨w.heap.size + 1, n, none⟩) (by simp) (.bool true)).alloc (by simp; omega) (.cells #[.int .i64 n] 3)).trans (hb3.mono (by omega))
        have hsz2 := hb3.size
        simp only [World.size_alloc, World.size_setCell] at hsz2
        go_roundw
        case rel => exact ⟨m ++ [(n : Int)], nx, rfl, HM2.out, HY.out, by have h := hown1; rw [List.length_append, List.length_singleton] at h ⊢; exact h, hA2, hS2, by omega, hB2⟩
        case measure =>
          have := HL.out
          simp
          omega
      · have hdec : (decide (inR a) && !(seenL m).getD a.toNat false) = false := by
          by_cases hx : inR a
          · have hx' := hx
            unfold inR at hx'
            rw [seenL_at m _ (by omega), decide_eq_true (show ((a.toNat : Nat) : Int) ∈ m by
              rw [Int.toNat_of_nonneg hx'.1]
              exact Classical.not_not.1 (fun h => hfr ⟨hx, h⟩))]; simp
          · rw [decide_eq_false hx]; rfl
        have hno : NoL t := fun l hl ht => hfr ⟨(hyp_fresh hyp hne hl ht).1, (hyp_fresh hyp hne hl ht).2.1⟩
        have HNO := Lib.hid hno
        have hnb : (a != -1) = true := by simpa using hne
        have HS := Lib.hid hse
        clear hno hfr hyp hmay hown hat hse hne hint
        go_wp2_with (first
          | (go_at_call 27; refine (sfresh_any _ _ _ _ HS.out).mono ?_; rintro e w3 ⟨rfl, rfl⟩; rw [hdec]))
        go_ret2
        exact ⟨.inr ⟨HNO.out, rfl⟩, hbel⟩
theorem order_yesF (l : List Int) (hl : may l) (w : World) : Calls Try.prog 12 #[.agg (cellsT (tell l))] w (fun e w' => (∃ ao cap, e = .returned (.tuple #[.slice ao l.length cap, .bool true]) ∧ SlOk w' ao cap l ∧ FreshA w.heap.size ao) ∧ Below w.heap.size w w') := by
  refine (order_anyF _ (tell_ok l) w).mono ?_
  rintro e w' ⟨h | ⟨h, _⟩, hb⟩
  · obtain ⟨m, ao, cap, hm, ht, he, hs⟩ := h
    obtain rfl := tell_inj hm hl ht
    exact ⟨⟨ao, cap, he, hs⟩, hb⟩
  · exact absurd rfl (h l hl)
end Go.Proofs.Ytafkbbjmbbimpaa
