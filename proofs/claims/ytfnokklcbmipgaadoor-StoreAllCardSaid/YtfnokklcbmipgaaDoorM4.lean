/- ArenaAll: the plain law. -/
import Derived.Test.YtfnokklcbmipgaaDoorL5
namespace Go.Proofs.YtfnokklcbmipgaaDoor
open Plain

/-- What was taken: where, and of which class. -/
abbrev Held := List ((Nat × Nat) × Int)
def sumC (ps : Held) : Nat := (ps.map fun p => (bytesC p.2).toNat).foldr (· + ·) 0
structure AllOk (n : Nat) (l : Segs) (ps : Held) : Prop where
  ok : okS l
  len : l.length = n
  has : ∀ p ∈ ps, hasN l p.1.1 p.1.2 ∧ (l.getD p.1.1 (0, 0)).1 = p.2
  nodup : (ps.map (·.1)).Nodup
  taken : takenL l = sumC ps
theorem sum_append (a b : Held) : sumC (a ++ b) = sumC a + sumC b := by
  unfold sumC
  rw [List.map_append, List.foldr_append]
  induction a with
  | nil => simp
  | cons g l ih => simp only [List.map_cons, List.foldr_cons, ih]; omega
theorem all_new (n : Nat) (h : n ≤ 200) : AllOk n (newS n) [] := ⟨okS_new n h, by simp [newS], fun p hp => by simp at hp, List.nodup_nil, by rw [taken_new]; rfl⟩
theorem free_keeps {l : Segs} {k n : Nat} (_h : okS l) (hh : hasN l k n) {j m : Nat} (hj : hasN (freeN l k n) j m) : ((freeN l k n).getD j (0, 0)).1 = (l.getD j (0, 0)).1 := by
  unfold freeN at hj ⊢
  rw [getS_set _ _ _ _ hh.1]
  by_cases e : j = k
  · subst e
    rw [if_pos rfl]
    have hb := hj.2
    rw [getS_set _ _ _ _ hh.1, if_pos rfl] at hb
    unfold freeSeg at hb ⊢
    split
    · rename_i h0
      rw [if_pos h0] at hb
      simp at hb
    · rfl
  · rw [if_neg e]
theorem took_keeps {l : Segs} {c : Int} (hok : okS l) {i : Nat} (h : seek l c = some i) (m : Segs) {n : Nat} (hk : Took l m c i n) {j k : Nat} (hj : hasN l j k) : (m.getD j (0, 0)).1 = (l.getD j (0, 0)).1 := by
  by_cases e : j = i
  · subst e
    rw [hk.cls]
    rcases seek_cls h with h1 | h1
    · exact h1.symm
    · exact absurd h1 (okSeg_bit (hok.2 _ (getD_mem hj.1)) hj.2).1
  · rw [hk.only j e]
theorem take_ok2 {l : Segs} {c : Int} (hok : okS l) (h : (takeL l c).2.2 = 0) : ∃ i n : Nat, (takeL l c).2.1 = ((i : Int), (n : Int)) ∧ Took l (takeL l c).1 c i n ∧ ∀ j k, hasN l j k → ((takeL l c).1.getD j (0, 0)).1 = (l.getD j (0, 0)).1 := by
  obtain ⟨i, n, h1, h2⟩ := take_ok hok h
  refine ⟨i, n, h1, h2, ?_⟩
  unfold takeL at h h1
  rw [if_neg (fun h => h hok)] at h h1
  split at h
  · cases h
  · rename_i hb
    rw [if_neg hb] at h1
    cases hs : seek l c with
    | none => rw [hs] at h; cases h
    | some i' =>
      rw [hs] at h1
      have hi : (i' : Int) = (i : Int) := (Prod.mk.inj (show (((i' : Int), _) : Int × Int) = ((i : Int), (n : Int)) from h1)).1
      have hi : i' = i := by omega
      subst hi
      exact fun j k hj => took_keeps hok hs _ h2 hj
/-- One more is taken. -/
theorem all_take {n : Nat} {l : Segs} {ps : Held} {c : Int} (h : AllOk n l ps) (he : (takeL l c).2.2 = 0) : ∃ i a : Nat, (takeL l c).2.1 = ((i : Int), (a : Int)) ∧ AllOk n (takeL l c).1 (ps ++ [((i, a), c)]) := by
  obtain ⟨i, a, h1, h2, h3⟩ := take_ok2 h.ok he
  refine ⟨i, a, h1, h2.ok, h2.len.trans h.len, ?_, ?_, ?_⟩
  · intro p hp
    rcases List.mem_append.1 hp with hp | hp
    · obtain ⟨g1, g2⟩ := h.has p hp
      refine ⟨(h2.other _ _ (fun e => h2.was ?_)).1 g1, by rw [h3 _ _ g1]; exact g2⟩
      obtain ⟨e1, e2⟩ := e
      rw [← e1, ← e2]; exact g1
    · rw [List.mem_singleton.1 hp]
      exact ⟨h2.is, h2.cls⟩
  · rw [List.map_append, List.nodup_append]
    refine ⟨h.nodup, by simp, ?_⟩
    intro x hx y hy e
    simp at hy
    obtain ⟨p, hp, rfl⟩ := List.mem_map.1 hx
    have g := (h.has p hp).1
    have e : p.1 = (i, a) := e.trans hy
    rw [e] at g
    exact h2.was g
  · rw [h2.taken, h.taken, sum_append]; rfl
/-- One is given back. -/
theorem all_free {n : Nat} {l : Segs} {ps : Held} (h : AllOk n l ps) (k : Nat) (hk : k < ps.length) : hasN l (ps.getD k ((0, 0), 0)).1.1 (ps.getD k ((0, 0), 0)).1.2 ∧ AllOk n (freeN l (ps.getD k ((0, 0), 0)).1.1 (ps.getD k ((0, 0), 0)).1.2) (ps.take k ++ ps.drop (k + 1)) := by
  have hg : ps.getD k ((0, 0), 0) = ps[k] := by rw [List.getD_eq_getElem?_getD, List.getElem?_eq_getElem hk]; rfl
  rw [hg]
  obtain ⟨g1, g2⟩ := h.has ps[k] (List.getElem_mem hk)
  have hsplit : ps = ps.take k ++ (ps[k] :: ps.drop (k + 1)) := by rw [← List.drop_eq_getElem_cons hk, List.take_append_drop]
  have hnd := h.nodup
  rw [hsplit, List.map_append, List.map_cons, List.nodup_append, List.nodup_cons] at hnd
  obtain ⟨n1, ⟨n2, n3⟩, n4⟩ := hnd
  have hne : ∀ p ∈ ps.take k ++ ps.drop (k + 1), ¬ (p.1.1 = ps[k].1.1 ∧ p.1.2 = ps[k].1.2) := by
    intro p hp e
    have e : p.1 = ps[k].1 := Prod.ext e.1 e.2
    rcases List.mem_append.1 hp with hp | hp
    · exact n4 p.1 (List.mem_map.2 ⟨p, hp, rfl⟩) ps[k].1 (by simp) e
    · exact n2 (by rw [← e]; exact List.mem_map.2 ⟨p, hp, rfl⟩)
  refine ⟨g1, okS_free h.ok g1, by unfold freeN; rw [List.length_set]; exact h.len, ?_, ?_, ?_⟩
  · intro p hp
    have hpm : p ∈ ps := by
      rcases List.mem_append.1 hp with hp | hp
      · exact List.mem_of_mem_take hp
      · exact List.mem_of_mem_drop hp
    obtain ⟨h1, h2⟩ := h.has p hpm
    have h3 := (has_free g1 p.1.1 p.1.2).2 ⟨h1, hne p hp⟩
    exact ⟨h3, by rw [free_keeps h.ok g1 h3]; exact h2⟩
  · rw [List.map_append, List.nodup_append]
    refine ⟨n1, n3, ?_⟩
    intro x hx y hy
    exact n4 x hx y (by simp only [List.mem_cons]; exact .inr hy)
  · have ht := taken_free h.ok g1
    have hs := h.taken
    rw [g2] at ht
    have e : sumC ps = sumC (ps.take k) + ((bytesC ps[k].2).toNat + sumC (ps.drop (k + 1))) := by
      conv => lhs; rw [hsplit]
      rw [sum_append]; rfl
    rw [sum_append]
    omega
theorem taken_held : ∀ l : Segs, (∀ g ∈ l, okSeg g) → takenL l ≤ heldL l
  | [], _ => Nat.zero_le _
  | g :: l, h => by
    have ih := taken_held l (fun x hx => h x (by simp [hx]))
    have hk := h g (by simp)
    obtain ⟨c, u⟩ := g
    have e1 : takenL ((c, u) :: l) = pop u * (bytesC c).toNat + takenL l := rfl
    by_cases hc : c = -1
    · subst hc
      have e2 : heldL ((-1, u) :: l) = heldL l := by
        unfold heldL
        rw [List.filter_cons, if_neg (by simp)]
      rw [e1, e2]
      show pop u * 0 + _ ≤ _
      omega
    · have e2 : heldL ((c, u) :: l) = 512 + heldL l := by
        unfold heldL
        rw [List.filter_cons, if_pos (decide_eq_true hc), List.length_cons, Nat.add_mul, Nat.one_mul, Nat.add_comm]
      have h2 := (okSeg_class hc u).1 hk
      have hcr : 0 ≤ c ∧ c ≤ 3 := by
        refine nS_pos.1 ?_
        rcases Nat.eq_zero_or_pos (nS c) with h0 | h0
        · rw [h0] at h2; omega
        · exact h0
      have h3 : pop u * (bytesC c).toNat ≤ 512 := by
        rw [← room_seg hcr]
        exact Nat.mul_le_mul_right _ (pop_small hcr h2.2)
      rw [e1, e2]
      generalize pop u * (bytesC c).toNat = P at *
      omega
end Go.Proofs.YtfnokklcbmipgaaDoor
