/- list.Of. -/
import Derived.Test.YtafkbbjmbbimpaaC3
import Derived.Deep.QuietTactic
import Derived.BigQuiet
namespace Go.Proofs.Ytafkbbjmbbimpaa
open Go.RowKit Plain

def IntAt (w : World) (ao : Option Addr) (l : List Int) : Prop := l = [] ∨ ∃ b off, ao = some ⟨b, off, none⟩ ∧ b < w.heap.size ∧ ∀ i, i < l.length → w.cell? ⟨b, off + i, none⟩ = some (.int .i64 (l.getD i 0))
theorem IntAt.below {w w' : World} {ao : Option Addr} {l : List Int} (h : IntAt w ao l) (hb : Below w.heap.size w w') : IntAt w' ao l := by
  rcases h with h | ⟨b, off, h1, h2, h3⟩
  · exact .inl h
  · exact .inr ⟨b, off, h1, Nat.lt_of_lt_of_le h2 hb.size, fun i hi => (hb.cell (by exact h2)).trans (h3 i hi)⟩
theorem IntAt.cell {w : World} {ao : Option Addr} {l : List Int} (h : IntAt w ao l) (i : Nat) (hi : i < l.length) : ∃ b off, ao = some ⟨b, off, none⟩ ∧ ∀ i, i < l.length → w.cell? ⟨b, off + i, none⟩ = some (.int .i64 (l.getD i 0)) := by
  rcases h with h | ⟨b, off, h1, _, h3⟩
  · subst h; simp at hi
  · exact ⟨b, off, h1, h3⟩
theorem below_drewN (w w' : World) (n : Nat) (B : Nat) (h : Below B w w') : Below B w (w'.drewN n) := ⟨h.os, h.tape, h.output, h.size, h.block⟩
theorem take_getD (l : List Int) (k : Nat) (h : k < l.length) : l.take (k + 1) = l.take k ++ [l.getD k 0] := by
  rw [List.take_succ_eq_append_getElem h, List.getD_eq_getElem?_getD, List.getElem?_eq_getElem h]; rfl

set_option maxHeartbeats 400000 in
theorem fresh_any (x : Int) (b : Nat) (t : LC) (w : World) (hat : At w b t) : Calls Try.prog 24 #[.int .i64 x, .pointer (some ⟨b, 0, none⟩)] w fun e w' => e = .returned (.bool (decide (inR x) && !t.inn.getD x.toNat false)) ∧ w = w' := by
  by_cases hx : inR x
  · obtain ⟨n, hn⟩ : ∃ n : Nat, x = n := ⟨x.toNat, by unfold inR at hx; omega⟩
    subst hn
    have hn : n < 64 := by unfold inR at hx; omega
    have g := hat.inn n hn
    have HX := Lib.hid (decide_eq_true hx)
    have HA := Lib.hid hat
    have hlt : (n : Int) < 64 := by omega
    clear hat hx
    obtain ⟨v, hv⟩ : ∃ v, v = t.inn.getD n false := ⟨_, rfl⟩
    rw [← hv] at g
    have HV := Lib.hid hv
    clear hv
    cases v
    · go_enter Try.func24, Try.ntmps24
      go_wp2_with (go_at_call 25; refine (named_any _ _).mono ?_; rintro e w' ⟨rfl, rfl⟩; rw [HX.out])
      go_ret
      refine ⟨?_, rfl⟩
      rw [HX.out, show ((n : Int)).toNat = n from rfl, ← HV.out]; rfl
    · go_enter Try.func24, Try.ntmps24
      go_wp2_with (go_at_call 25; refine (named_any _ _).mono ?_; rintro e w' ⟨rfl, rfl⟩; rw [HX.out])
      go_ret
      refine ⟨?_, rfl⟩
      rw [HX.out, show ((n : Int)).toNat = n from rfl, ← HV.out]; rfl
  · have HX := Lib.hid (decide_eq_false hx)
    have HA := Lib.hid hat
    clear hat hx
    go_enter Try.func24, Try.ntmps24
    go_wp2_with (go_at_call 25; refine (named_any _ _).mono ?_; rintro e w' ⟨rfl, rfl⟩; rw [HX.out])
    go_ret
    refine ⟨?_, rfl⟩
    rw [HX.out]; rfl

def ofT (l : List Int) : LC := if may l then tell l else newT
def ofE (l : List Int) : Int := if may l then 0 else 110
def OfOk (l : List Int) (w : World) (e : Ending) (w' : World) : Prop := e = .returned (.tuple #[.agg (cellsT (ofT l)), .int .i64 (ofE l)]) ∧ Below w.heap.size w w'
theorem not_may_take {l : List Int} {k : Nat} (hk : k < l.length) (h : ¬ (inR (l.getD k 0) ∧ l.getD k 0 ∉ l.take k)) : ¬ may l := by
  intro hm
  have h1 := may_take hm (k + 1)
  rw [take_getD l k hk] at h1
  exact h (may_snoc h1).2
set_option maxHeartbeats 400000 in
theorem of_any (ao : Option Addr) (l : List Int) (cap : Nat) (w : World) (_hl : l.length ≤ 100000) (h : IntAt w ao l) : Calls Try.prog 10 #[.slice ao l.length cap] w (OfOk l w) := by
  have hmf : ∀ (fn : Fn) (first cap : Array Value) (w : World), (Instr.makeFunc fn first cap).run Try.prog w = .ok (.func fn first cap) w := fun _ _ _ _ => rfl
  obtain ⟨z26, s26⟩ := zero_of_info zero26
  have sz := cellsT_size zeroT_ok
  obtain ⟨cz, hcz⟩ : ∃ cz, cz = cellsT zeroT := ⟨_, rfl⟩
  rw [← hcz] at z26 sz
  clear hcz s26
  have H1 := Lib.hid h
  clear h
  have hok := newT_ok
  go_enter Try.func10, Try.ntmps10
  go_wp2_with (first
    | (go_at_call 21; refine (new_any _).mono ?_; rintro e w1 ⟨rfl, hb1⟩)
    | (refine wpList_storeT rfl _ _ rfl _ newT rfl rfl hok (Row.last _ _ sz) ?_; intro w2 hat2 hon2))
  have hB : w.heap.size + 1 ≤ w1.heap.size := by have := hb1.size; simpa using this
  have hb2 : Below w.heap.size w w2 := hon2.below ((((Below.refl _ _).alloc (Nat.le_refl _) _).trans (hb1.mono (by simp))).alloc (by omega) _) (by omega)
  have hr2 : Row w2 w.heap.size := (((Row.last w cz sz).below hb1 (by simp)).more _).only hon2 (by omega)
  go_loopw [12] (fun i wr => ∃ k : Nat, k ≤ l.length ∧ i = .int .i64 k ∧ may (l.take k) ∧ At wr w1.heap.size (tell (l.take k)) ∧ Row wr w.heap.size ∧ Below w.heap.size w wr) (fun i _ => l.length - (intOf i).toNat)
  case atStart => exact ⟨0, Nat.zero_le _, rfl, by rw [List.take_zero]; exact may_nil, hat2, hr2, hb2⟩
  case round =>
    obtain ⟨k, hk, rfl, hmay, hat, hrow, hbel⟩ := hrel
    by_cases hlt : k < l.length
    · obtain ⟨b, off, rfl, hc⟩ := (H1.out.below hbel).cell k hlt
      have g1 := hc k hlt
      have hi : (k : Int) < (l.length : Int) := by omega
      have HM := Lib.hid hmay
      by_cases hfr : inR (l.getD k 0) ∧ l.getD k 0 ∉ l.take k
      · have T := told_tell _ hmay
        have HF := Lib.hid hfr
        have hx := hfr.1
        have hinn := T.inn _ hx
        rw [decide_eq_false hfr.2] at hinn
        have hdec : (decide (inR (l.getD k 0)) && !(tell (l.take k)).inn.getD (l.getD k 0).toNat false) = true := by rw [hinn, decide_eq_true hx]; rfl
        obtain ⟨n, hn⟩ : ∃ n : Nat, l.getD k 0 = n := ⟨(l.getD k 0).toNat, by unfold inR at hx; omega⟩
        have hn64 : n < 64 := by unfold inR at hx; omega
        have hn64' : (n : Int) < 64 := by omega
        have HS : Hid (tell (l.take (k + 1)) = Plain.stepT (tell (l.take k)) n) := by show _ = _; rw [take_getD l k hlt, tell_snoc, hn]
        have HM2 : Hid (may (l.take (k + 1))) := by show may _; rw [take_getD l k hlt]; exact may_snoc_mk hmay hx hfr.2
        have HT := Lib.hid T
        rw [hn] at hdec g1
        obtain ⟨t, ht⟩ : ∃ t, t = tell (l.take k) := ⟨_, rfl⟩
        rw [← ht] at hat hdec
        have HTT := Lib.hid ht
        have gi := hat.inn n hn64
        have gp := hat.prev n hn64
        have gt := hat.tail
        have gh := hat.head
        have fi := hat.frozen (128 + n)
        have fp := hat.frozen (64 + n)
        have ft := hat.frozen 193
        have fh := hat.frozen 192
        have n1 : ¬ (128 + n = 193) := by omega
        have n2 : ¬ (64 + n = 193) := by omega
        have n3 : ¬ (193 = 128 + n) := by omega
        have n4 : ¬ (193 = 64 + n) := by omega
        obtain ⟨tv, htv⟩ : ∃ tv, tv = t.tail := ⟨_, rfl⟩
        rw [← htv] at gt
        have HV := Lib.hid htv
        clear hmay hfr T hx hinn hn hc ht htv
        by_cases htl : tv < 0
        · have HA := Lib.hid hat
          go_wp2_with (first
            | (go_at_call 24; refine (fresh_any _ _ _ _ HA.out).mono ?_; rintro e w3 ⟨rfl, rfl⟩; rw [hdec]))
          go_roundw
          case rel =>
            refine ⟨k + 1, by omega, by go_num, HM2.out, ?_, ?_, ?_⟩
            · have h5 := (((HA.out.setIn n hn64 true).setPrev n hn64 tv).setHead n).setTail n
              have e : Plain.stepT t n = { { { { t with inn := t.inn.set n true } with prev := t.prev.set n tv } with head := (n : Int) } with tail := (n : Int) } := by
                simp [Plain.stepT, ← HV.out, htl]
              rw [HS.out, ← HTT.out, e]
              exact h5
            · exact (((hrow.other _ _ _ (by omega)).other _ _ _ (by omega)).other _ _ _ (by omega)).other _ _ _ (by omega)
            · exact (((hbel.setCell (by simp; omega) _).setCell (by simp; omega) _).setCell (by simp; omega) _).setCell (by simp; omega) _
          case measure => simp [intOf]; omega
        · have hmr : inR tv := by
            have h6 := HT.out.tail
            rw [← HTT.out, ← HV.out] at h6
            have hne : l.take k ≠ [] := by
              intro e
              rw [e] at h6
              simp at h6
              omega
            have : tv ∈ l.take k := by
              rw [h6, List.getLastD_eq_getLast?, List.getLast?_eq_some_getLast hne]
              exact List.getLast_mem hne
            exact HM.out.1 _ this
          obtain ⟨m, hm⟩ : ∃ m : Nat, tv = m := ⟨tv.toNat, by unfold inR at hmr; omega⟩
          subst hm
          have hm64 : m < 64 := by unfold inR at hmr; omega
          have hm64' : (m : Int) < 64 := by omega
          have hm0 : ¬ ((m : Int) < 0) := by omega
          have gm := hat.next m hm64
          have fm := hat.frozen m
          have n5 : ¬ (128 + n = m) := by omega
          have n6 : ¬ (64 + n = m) := by omega
          have n7 : ¬ (m = 193) := by omega
          have n8 : ¬ (m = 128 + n) := by omega
          have n9 : ¬ (m = 64 + n) := by omega
          have HA := Lib.hid hat
          clear hmr htl
          go_wp2_with (first
            | (go_at_call 24; refine (fresh_any _ _ _ _ HA.out).mono ?_; rintro e w3 ⟨rfl, rfl⟩; rw [hdec]))
          go_roundw
          case rel =>
            refine ⟨k + 1, by omega, by go_num, HM2.out, ?_, ?_, ?_⟩
            · have h5 := (((HA.out.setIn n hn64 true).setPrev n hn64 m).setNext m hm64 n).setTail n
              have e : Plain.stepT t n = { { { { t with inn := t.inn.set n true } with prev := t.prev.set n (m : Int) } with next := t.next.set m (n : Int) } with tail := (n : Int) } := by
                have h7 : ¬ ((m : Int) < 0) := by omega
                simp [Plain.stepT, ← HV.out, h7]
              rw [HS.out, ← HTT.out, e]
              exact h5
            · exact (((hrow.other _ _ _ (by omega)).other _ _ _ (by omega)).other _ _ _ (by omega)).other _ _ _ (by omega)
            · exact (((hbel.setCell (by simp; omega) _).setCell (by simp; omega) _).setCell (by simp; omega) _).setCell (by simp; omega) _
          case measure => simp [intOf]; omega
      · have hno := not_may_take hlt hfr
        have T := told_tell _ hmay
        have hdec : (decide (inR (l.getD k 0)) && !(tell (l.take k)).inn.getD (l.getD k 0).toNat false) = false := by
          by_cases hx : inR (l.getD k 0)
          · rw [T.inn _ hx, decide_eq_true (Classical.not_not.1 (fun h => hfr ⟨hx, h⟩))]; simp
          · rw [decide_eq_false hx]; rfl
        have HN := Lib.hid hno
        obtain ⟨x, hx⟩ : ∃ x, x = l.getD k 0 := ⟨_, rfl⟩
        rw [← hx] at hdec g1
        have HX := Lib.hid hx
        have HF := Lib.hid hfr
        have HT := Lib.hid T
        have HA := Lib.hid hat
        clear hx hno hfr hmay T hat hc
        go_wp2_with (first
          | (go_at_call 24; refine (fresh_any _ _ _ _ HA.out).mono ?_; rintro e w3 ⟨rfl, rfl⟩; rw [hdec])
          | (go_at_call 21; refine (new_any _).mono ?_; rintro e w4 ⟨rfl, hb4⟩)
          | (refine wpList_storeT rfl _ _ rfl _ newT rfl rfl hok (hrow.below hb4 hrow.lt) ?_; intro w5 hat5 hon5))
        refine bodyPost_ret (results_list2 rfl _ _ _ newT hat5 rfl) rfl ⟨?_, ?_⟩
        · unfold ofT ofE
          rw [if_neg HN.out, if_neg HN.out]; rfl
        · exact hon5.below (hbel.trans (hb4.mono hbel.size)) (Nat.le_refl _)
    · have hi : ¬ ((k : Int) < (l.length : Int)) := by omega
      have hkl : k = l.length := by omega
      rw [hkl, List.take_length] at hmay hat
      have hokt := tell_ok l
      have HM := Lib.hid hmay
      have HT : Hid (ofT l = tell l ∧ ofE l = 0) := ⟨if_pos hmay, if_pos hmay⟩
      obtain ⟨t, ht⟩ : ∃ t, t = tell l := ⟨_, rfl⟩
      rw [← ht] at hat hokt
      have HTT := Lib.hid ht
      clear hmay ht
      go_wp2_with (first
        | (refine wpList_loadT rfl _ rfl _ rfl t hat ?_)
        | (refine wpList_storeT rfl _ _ rfl _ t rfl rfl hokt hrow ?_; intro w5 hat5 hon5))
      refine bodyPost_ret (results_list2 rfl _ _ _ t hat5 rfl) rfl ⟨?_, ?_⟩
      · rw [HT.out.1, HT.out.2, ← HTT.out]; rfl
      · exact hon5.below hbel (Nat.le_refl _)
end Go.Proofs.Ytafkbbjmbbimpaa
