/- The plain law of list.Order. -/
import Derived.Test.YtafkbbjmbbimpaaMath
import Derived.Test.YtafkbbjmbbimpaaC1
namespace Go.Proofs.Ytafkbbjmbbimpaa.Plain

def NoL (t : LC) : Prop := ∀ l, may l → tell l ≠ t
def Hyp (t : LC) (m : List Int) (a : Int) : Prop := ∀ l, may l → tell l = t → m = l.take m.length ∧ m.length ≤ l.length ∧ a = l.getD m.length (-1)
theorem hyp_start (t : LC) : Hyp t [] t.head := by
  intro l hl ht
  have T := told_tell l hl
  rw [ht] at T
  refine ⟨by simp, Nat.zero_le _, ?_⟩
  rw [T.head]
  cases l <;> rfl
theorem getD_of_lt (l : List Int) (k : Nat) (d : Int) (h : k < l.length) : l.getD k d = l[k] := by
  rw [List.getD_eq_getElem?_getD, List.getElem?_eq_getElem h]; rfl
theorem getD_of_ge (l : List Int) (k : Nat) (d : Int) (h : l.length ≤ k) : l.getD k d = d := by
  rw [List.getD_eq_getElem?_getD, List.getElem?_eq_none h]; rfl
theorem hyp_fresh {t : LC} {m : List Int} {a : Int} (h : Hyp t m a) (hne : a ≠ -1) {l : List Int} (hl : may l) (ht : tell l = t) : inR a ∧ a ∉ m ∧ m.length < l.length := by
  obtain ⟨h1, h2, h3⟩ := h l hl ht
  rcases Nat.lt_or_ge m.length l.length with hlt | hge
  · rw [getD_of_lt _ _ _ hlt] at h3
    refine ⟨h3 ▸ hl.1 _ (List.getElem_mem hlt), ?_, hlt⟩
    have h4 := (may_take hl (m.length + 1))
    rw [List.take_succ_eq_append_getElem hlt, ← h1, ← h3] at h4
    exact (may_snoc h4).2.2
  · rw [getD_of_ge _ _ _ hge] at h3
    exact absurd h3 hne
theorem hyp_step {t : LC} {m : List Int} {a : Int} (h : Hyp t m a) (hne : a ≠ -1) : Hyp t (m ++ [a]) (t.next.getD a.toNat 0) := by
  intro l hl ht
  obtain ⟨h4, h5, hlt⟩ := hyp_fresh h hne hl ht
  obtain ⟨h1, h2, h3⟩ := h l hl ht
  rw [getD_of_lt _ _ _ hlt] at h3
  have T := told_tell l hl
  rw [ht] at T
  rw [List.length_append, List.length_singleton]
  refine ⟨?_, hlt, ?_⟩
  · rw [List.take_succ_eq_append_getElem hlt, ← h1, ← h3]
  · rw [h3, T.next _ hlt]
theorem hyp_end {t : LC} {m : List Int} (h : Hyp t m (-1)) {l : List Int} (hl : may l) (ht : tell l = t) : m = l := by
  obtain ⟨h1, h2, h3⟩ := h l hl ht
  rcases Nat.lt_or_ge m.length l.length with hlt | hge
  · rw [getD_of_lt _ _ _ hlt] at h3
    have := hl.1 _ (List.getElem_mem hlt)
    unfold inR at this
    omega
  · rw [h1, List.take_of_length_le hge]
def seenL (m : List Int) : List Bool := (List.range 64).map fun (i : Nat) => decide ((i : Int) ∈ m)
theorem seenL_len (m : List Int) : (seenL m).length = 64 := by simp [seenL]
theorem seenL_at (m : List Int) (i : Nat) (h : i < 64) : (seenL m).getD i false = decide ((i : Int) ∈ m) := by
  unfold seenL
  rw [List.getD_eq_getElem?_getD, List.getElem?_map, List.getElem?_range h]; rfl
theorem seenL_nil : seenL [] = List.replicate 64 false := by decide
theorem seenL_set (m : List Int) (n : Nat) (h : n < 64) : (seenL m).set n true = seenL (m ++ [(n : Int)]) := by
  refine (ext_getDB (by simp [seenL_len]) (seenL_len _)).2 ?_
  intro i hi
  have hi := List.mem_range.1 hi
  rw [getD_setB _ _ _ _ _ (by rw [seenL_len]; exact h), seenL_at _ _ hi, seenL_at _ _ hi]
  by_cases e : n = i
  · subst e; simp
  · rw [if_neg e]
    have : ¬ ((i : Int) = n) := by omega
    simp [this]
theorem inn_eq {l : List Int} (h : may l) : (tell l).inn = seenL l := by
  have T := told_tell l h
  refine (ext_getDB T.ok.2.2 (seenL_len _)).2 ?_
  intro i hi
  have hi := List.mem_range.1 hi
  rw [seenL_at _ _ hi]
  exact T.inn (i : Int) (by unfold inR; omega)
end Go.Proofs.Ytafkbbjmbbimpaa.Plain
