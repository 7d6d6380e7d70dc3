/- ArenaBack: the law and the walk. -/
import Derived.Test.YtfnokklcbmipgaaDoorL7
import Derived.Deep.RegionHeld3
namespace Go.Proofs.YtfnokklcbmipgaaDoor
open Go.RowKit Plain

theorem seek_cls {l : Segs} {c : Int} {i : Nat} (h : seek l c = some i) : (l.getD i (0, 0)).1 = c ∨ (l.getD i (0, 0)).1 = -1 := by
  unfold seek at h
  cases h1 : l.findIdx? (openC c) with
  | some j =>
    rw [h1] at h
    cases h
    have h3 := (find_lt h1).2.1
    unfold openC at h3
    simp only [Bool.and_eq_true, decide_eq_true_eq] at h3
    exact .inl h3.1
  | none =>
    rw [h1] at h
    have h3 := (find_lt h).2.1
    unfold freeC at h3
    exact .inr (by simpa using h3)
/-- What Take does where there is a place. -/
structure Took (l m : Segs) (c : Int) (i n : Nat) : Prop where
  lt : i < l.length
  ok : okS m
  len : m.length = l.length
  was : ¬ hasN l i n
  is : hasN m i n
  cls : (m.getD i (0, 0)).1 = c
  back : freeN m i n = l
  other : ∀ j k, ¬ (j = i ∧ k = n) → (hasN l j k ↔ hasN m j k)
  taken : takenL m = takenL l + (bytesC c).toNat
  least : ∀ k, k < n → hasN l i k
  only : ∀ j, j ≠ i → m.getD j (0, 0) = l.getD j (0, 0)
theorem took_of {l : Segs} {c : Int} {i : Nat} (hok : okS l) (hb : bytesC c ≠ 0) (h : seek l c = some i) :
    Took l (l.set i (c, (l.getD i (0, 0)).2 + 2 ^ fz (l.getD i (0, 0)).2)) c i (fz (l.getD i (0, 0)).2) := by
  obtain ⟨hi, hu1, hu2⟩ := seek_facts hok hb h
  have hcl := seek_cls h
  obtain ⟨hn1, hn2, hn3⟩ := fz_spec (l.getD i (0, 0)).2 (nS c) (nS_le c) hu1 hu2
  have hc : c ≠ -1 := by rintro rfl; exact hb rfl
  have hokg := hok.2 _ (getD_mem hi)
  have hset := taken_set l i (c, (l.getD i (0, 0)).2 + 2 ^ fz (l.getD i (0, 0)).2) hi
  have hself : l.set i (l.getD i (0, 0)) = l := by
    rw [List.getD_eq_getElem?_getD, List.getElem?_eq_getElem hi]
    exact List.set_getElem_self hi
  have hn64 : fz (l.getD i (0, 0)).2 < 64 := Nat.lt_of_lt_of_le hn1 (nS_le c)
  have hu64 : (l.getD i (0, 0)).2 < 18446744073709551616 := okS.wf hok _ (getD_mem hi)
  have hp := pop_add _ _ hn64 hu64 (bit_off hn2)
  have hlt2 := bit_add_lt hn2 hn1 hu1
  have hpos := Nat.two_pow_pos (fz (l.getD i (0, 0)).2)
  generalize hn : fz (l.getD i (0, 0)).2 = n at *
  obtain ⟨cc, u, hg⟩ : ∃ cc u, l.getD i (0, 0) = (cc, u) := ⟨_, _, rfl⟩
  have hgm : (l.set i (c, (l.getD i (0, 0)).2 + 2 ^ n)).getD i (0, 0) = (c, (l.getD i (0, 0)).2 + 2 ^ n) := by rw [getS_set _ _ _ _ hi, if_pos rfl]
  rw [hg] at hgm hcl hokg hset hself hu1 hn2 hn3 hu64 hp hlt2 ⊢
  have hn2 : u.testBit n = false := hn2
  have hgm : (l.set i (c, u + 2 ^ n)).getD i (0, 0) = (c, u + 2 ^ n) := hgm
  have hfree : (if u = 0 then ((-1 : Int), 0) else (c, u)) = (cc, u) := by
    by_cases h0 : u = 0
    · subst h0
      rw [if_pos rfl]
      rcases hcl with h1 | h1
      · have h1 : cc = c := h1
        subst h1
        exact absurd rfl ((okSeg_class hc 0).1 hokg).1
      · have h1 : cc = -1 := h1
        rw [h1]
    · rw [if_neg h0]
      rcases hcl with h1 | h1
      · have h1 : cc = c := h1
        rw [h1]
      · have h1 : cc = -1 := h1
        subst h1
        exact absurd ((okSeg_free u).1 hokg) h0
  refine ⟨hi, okS_set hok ((okSeg_class hc _).2 ⟨by show u + 2 ^ n ≠ 0; omega, hlt2⟩), List.length_set, ?_, ?_, by rw [hgm], ?_, ?_, ?_, ?_, ?_⟩
  · rintro ⟨_, h2⟩
    rw [hg] at h2
    have h2 : u.testBit n = true := h2
    rw [hn2] at h2; cases h2
  · refine ⟨by rw [List.length_set]; exact hi, ?_⟩
    rw [hgm, show ((c, u + 2 ^ n) : Int × Nat).2 = u + 2 ^ n from rfl, bit_add u n n hn2, if_pos rfl]
  · unfold freeN
    rw [hgm, List.set_set, freeSeg_eq, hfree]
    exact hself
  · intro j k hne
    unfold hasN
    rw [List.length_set, getS_set _ _ _ _ hi]
    by_cases hj : j = i
    · subst hj
      rw [if_pos rfl, hg, show ((c, u + 2 ^ n) : Int × Nat).2 = u + 2 ^ n from rfl, bit_add u n k hn2, if_neg (fun e => hne ⟨rfl, e⟩)]
    · rw [if_neg hj]
  · have hset : takenL (l.set i (c, u + 2 ^ n)) + pop u * (bytesC cc).toNat = takenL l + pop (u + 2 ^ n) * (bytesC c).toNat := hset
    have hp : pop (u + 2 ^ n) = pop u + 1 := hp
    rw [hp, Nat.add_mul, Nat.one_mul] at hset
    rcases hcl with h1 | h1
    · have h1 : cc = c := h1
      rw [h1] at hset
      show takenL (l.set i (c, u + 2 ^ n)) = _
      generalize (bytesC c).toNat = B at *
      generalize pop u * B = P at *
      omega
    · have h1 : cc = -1 := h1
      subst h1
      have h0 : u = 0 := (okSeg_free u).1 hokg
      subst h0
      rw [pop_zero] at hset
      show takenL (l.set i (c, 0 + 2 ^ n)) = _
      generalize (bytesC c).toNat = B at *
      omega
  · intro k hk
    exact ⟨hi, by rw [hg]; exact hn3 k hk⟩
  · intro j hj
    rw [getS_set _ _ _ _ hi, if_neg hj]
theorem take_err {l : Segs} {c : Int} (h : (takeL l c).2.2 ≠ 0) : takeL l c = (l, (0, 0), (takeL l c).2.2) := by
  unfold takeL at h ⊢
  split
  · rfl
  · split
    · rfl
    · split
      · rfl
      · rename_i h1 h2 _ i hs
        rw [if_neg h1, if_neg h2, hs] at h
        exact absurd rfl h
theorem take_ok {l : Segs} {c : Int} (hok : okS l) (h : (takeL l c).2.2 = 0) : ∃ i n : Nat, (takeL l c).2.1 = ((i : Int), (n : Int)) ∧ Took l (takeL l c).1 c i n := by
  unfold takeL at h ⊢
  rw [if_neg (fun h => h hok)] at h ⊢
  split at h
  · cases h
  · rename_i hb
    rw [if_neg hb]
    cases hs : seek l c with
    | none => rw [hs] at h; cases h
    | some i => exact ⟨i, _, rfl, took_of hok hb hs⟩
end Go.Proofs.YtfnokklcbmipgaaDoor
