/- The plain law of slots given back. -/
import Derived.Test.YtfnokklcbmipgaaDoorA8
namespace Go.Proofs.YtfnokklcbmipgaaDoor
open Plain

theorem getS_set (l : Segs) (k j : Nat) (g : Int × Nat) (hk : k < l.length) : (l.set k g).getD j (0, 0) = if j = k then g else l.getD j (0, 0) := by
  rw [List.getD_eq_getElem?_getD]
  by_cases h : j = k
  · subst h; rw [if_pos rfl, List.getElem?_set_self hk]; rfl
  · rw [if_neg h, List.getElem?_set_ne (fun e => h e.symm), ← List.getD_eq_getElem?_getD]
theorem okS_set {l : Segs} {k : Nat} {g : Int × Nat} (h : okS l) (hg : okSeg g) : okS (l.set k g) := by
  refine ⟨by rw [List.length_set]; exact h.1, ?_⟩
  intro x hx
  rcases List.mem_or_eq_of_mem_set hx with hx | hx
  · exact h.2 x hx
  · rw [hx]; exact hg
def hasN (l : Segs) (k n : Nat) : Prop := k < l.length ∧ (l.getD k (0, 0)).2.testBit n = true
instance (l : Segs) (k n : Nat) : Decidable (hasN l k n) := by unfold hasN; exact inferInstance
theorem hasL_iff (l : Segs) (s a : Int) : hasL l s a ↔ ∃ k n : Nat, s = k ∧ a = n ∧ hasN l k n := by
  unfold hasL hasN
  constructor
  · rintro ⟨h1, h2, h3, h4⟩
    exact ⟨s.toNat, a.toNat, by omega, by omega, by omega, h4⟩
  · rintro ⟨k, n, rfl, rfl, h1, h2⟩
    exact ⟨by omega, by omega, by omega, h2⟩
theorem hasL_nat (l : Segs) (k n : Nat) : hasL l k n ↔ hasN l k n := by
  rw [hasL_iff]
  constructor
  · rintro ⟨k', n', h1, h2, h3⟩
    obtain rfl : k = k' := by omega
    obtain rfl : n = n' := by omega
    exact h3
  · intro h; exact ⟨k, n, rfl, rfl, h⟩
theorem okSeg_lt {g : Int × Nat} (h : okSeg g) : g.2 < 2 ^ 64 := by
  unfold okSeg at h
  split at h
  · rw [h]; exact Nat.two_pow_pos _
  · exact Nat.lt_of_lt_of_le h.2 (Nat.pow_le_pow_right (by decide) (nS_le _))
/-- A segment with a slot that is taken has a class. -/
theorem okSeg_bit {g : Int × Nat} {n : Nat} (h : okSeg g) (hb : g.2.testBit n = true) : g.1 ≠ -1 ∧ g.2 < 2 ^ nS g.1 := by
  unfold okSeg at h
  split at h
  · rw [h] at hb; simp at hb
  · exact ⟨by assumption, h.2⟩
theorem freeSeg_eq {c : Int} {v n : Nat} : freeSeg (c, v + 2 ^ n) n = if v = 0 then (-1, 0) else (c, v) := by
  unfold freeSeg
  show (if v + 2 ^ n - 2 ^ n = 0 then _ else (c, v + 2 ^ n - 2 ^ n)) = _
  rw [Nat.add_sub_cancel]
theorem okSeg_freed {g : Int × Nat} {n : Nat} (h : okSeg g) (hb : g.2.testBit n = true) : okSeg (freeSeg g n) := by
  obtain ⟨hc, hlt⟩ := okSeg_bit h hb
  obtain ⟨c, u⟩ := g
  obtain ⟨v, hv, hvb⟩ := bit_sub hb
  have hv : u = v + 2 ^ n := hv
  subst hv
  rw [freeSeg_eq]
  split
  · exact (okSeg_free 0).2 rfl
  · exact (okSeg_class hc v).2 ⟨by assumption, Nat.lt_of_le_of_lt (Nat.le_add_right _ _) hlt⟩
/-- What is left of the bits. -/
theorem freeSeg_bit {g : Int × Nat} {n : Nat} (hb : g.2.testBit n = true) (m : Nat) : (freeSeg g n).2.testBit m = if m = n then false else g.2.testBit m := by
  obtain ⟨c, u⟩ := g
  obtain ⟨v, hv, hvb⟩ := bit_sub hb
  have hv : u = v + 2 ^ n := hv
  subst hv
  rw [freeSeg_eq]
  have h1 := bit_add v n m hvb
  show _ = if m = n then false else (v + 2 ^ n).testBit m
  rw [h1]
  have e : (if v = 0 then ((-1 : Int), 0) else (c, v)).2 = v := by
    split
    · rename_i h; exact h.symm
    · rfl
  rw [e]
  split
  · rename_i h; rw [h]; exact hvb
  · rfl
def freeN (l : Segs) (k n : Nat) : Segs := l.set k (freeSeg (l.getD k (0, 0)) n)
theorem okS_free {l : Segs} {k n : Nat} (h : okS l) (hh : hasN l k n) : okS (freeN l k n) := okS_set h (okSeg_freed (h.2 _ (getD_mem hh.1)) hh.2)
theorem has_free {l : Segs} {k n : Nat} (hh : hasN l k n) (j m : Nat) : hasN (freeN l k n) j m ↔ hasN l j m ∧ ¬ (j = k ∧ m = n) := by
  unfold hasN freeN
  rw [List.length_set, getS_set _ _ _ _ hh.1]
  by_cases hj : j = k
  · subst hj
    rw [if_pos rfl, freeSeg_bit hh.2]
    by_cases hm : m = n
    · subst hm; simp
    · rw [if_neg hm]; simp [hm]
  · rw [if_neg hj]; simp [hj]
theorem free_two {g : Int × Nat} {n m : Nat} (hn : g.2.testBit n = true) (hm : g.2.testBit m = true) (hne : n ≠ m) : freeSeg (freeSeg g n) m = freeSeg (freeSeg g m) n := by
  have key : ∀ n m : Nat, g.2.testBit n = true → g.2.testBit m = true → n ≠ m → freeSeg (freeSeg g n) m = if g.2 - 2 ^ n - 2 ^ m = 0 then (-1, 0) else (g.1, g.2 - 2 ^ n - 2 ^ m) := by
    intro n m hn hm hne
    have h1 := freeSeg_bit hn m
    rw [if_neg (fun e => hne e.symm), hm] at h1
    have h0 : ¬ g.2 - 2 ^ n = 0 := by
      intro e
      unfold freeSeg at h1
      rw [if_pos e] at h1
      simp at h1
    have e : freeSeg g n = (g.1, g.2 - 2 ^ n) := if_neg h0
    rw [e]; rfl
  rw [key n m hn hm hne, key m n hm hn (fun e => hne e.symm), Nat.sub_right_comm]
theorem free_comm {l : Segs} {k n j m : Nat} (h1 : hasN l k n) (h2 : hasN l j m) (hne : ¬ (j = k ∧ m = n)) : freeN (freeN l k n) j m = freeN (freeN l j m) k n := by
  unfold freeN
  rw [getS_set _ _ _ _ h1.1, getS_set _ _ _ _ h2.1]
  by_cases hj : j = k
  · subst hj
    rw [if_pos rfl, if_pos rfl, List.set_set, List.set_set, free_two h1.2 h2.2 (fun e => hne ⟨rfl, e.symm⟩)]
  · rw [if_neg hj, if_neg (fun e => hj e.symm), List.set_comm _ _ (fun e => hj e.symm)]
theorem taken_set (l : Segs) (k : Nat) (g : Int × Nat) (hk : k < l.length) : takenL (l.set k g) + pop (l.getD k (0, 0)).2 * (bytesC (l.getD k (0, 0)).1).toNat = takenL l + pop g.2 * (bytesC g.1).toNat := by
  induction l generalizing k with
  | nil => simp at hk
  | cons x l ih =>
    cases k with
    | zero =>
      show pop g.2 * (bytesC g.1).toNat + takenL l + pop x.2 * (bytesC x.1).toNat = pop x.2 * (bytesC x.1).toNat + takenL l + _
      omega
    | succ k =>
      have := ih k (by simpa using hk)
      show pop x.2 * (bytesC x.1).toNat + takenL (l.set k g) + pop (l.getD k (0, 0)).2 * (bytesC (l.getD k (0, 0)).1).toNat = pop x.2 * (bytesC x.1).toNat + takenL l + _
      omega
theorem pop_freeSeg {g : Int × Nat} {n : Nat} (h : okSeg g) (hb : g.2.testBit n = true) : pop (freeSeg g n).2 * (bytesC (freeSeg g n).1).toNat + (bytesC g.1).toNat = pop g.2 * (bytesC g.1).toNat := by
  have hlt := okSeg_lt h
  have hn : n < 64 := bit_lt hb hlt
  obtain ⟨c, u⟩ := g
  obtain ⟨v, hv, hvb⟩ := bit_sub hb
  have hv : u = v + 2 ^ n := hv
  subst hv
  have hlt : v + 2 ^ n < 2 ^ 64 := hlt
  have e64 := Nat.two_pow_pos n
  have hp := pop_add v n hn (by omega) (bit_off hvb)
  rw [freeSeg_eq]
  show _ + (bytesC c).toNat = pop (v + 2 ^ n) * (bytesC c).toNat
  rw [hp, Nat.add_mul, Nat.one_mul]
  by_cases h0 : v = 0
  · subst h0
    rw [if_pos rfl]
    show pop 0 * _ + _ = pop 0 * _ + _
    rw [pop_zero]; simp
  · rw [if_neg h0]
theorem taken_free {l : Segs} {k n : Nat} (h : okS l) (hh : hasN l k n) : takenL (freeN l k n) + (bytesC (l.getD k (0, 0)).1).toNat = takenL l := by
  have h1 := taken_set l k (freeSeg (l.getD k (0, 0)) n) hh.1
  have h2 := pop_freeSeg (h.2 _ (getD_mem hh.1)) hh.2
  unfold freeN
  omega
theorem freeL_yes {l : Segs} {k n : Nat} (h : okS l) (hh : hasN l k n) : freeL l k n = freeN l k n ∧ freeE l k n = 0 := ⟨if_pos ⟨h, (hasL_nat l k n).2 hh⟩, if_pos ⟨h, (hasL_nat l k n).2 hh⟩⟩
theorem freeL_no {l : Segs} {s a : Int} (hh : ¬ hasL l s a) : freeL l s a = l ∧ freeE l s a = 120 := ⟨if_neg (fun h => hh h.2), if_neg (fun h => hh h.2)⟩
/-- The law of two slots that are given back. -/
theorem turns_law {l : Segs} (h : okS l) (s1 a1 s2 a2 : Int) (hne : ¬ (s1 = s2 ∧ a1 = a2)) :
    freeE l s1 a1 = freeE (freeL l s2 a2) s1 a1 ∧ freeE (freeL l s1 a1) s2 a2 = freeE l s2 a2 ∧ freeL (freeL l s1 a1) s2 a2 = freeL (freeL l s2 a2) s1 a1 ∧
    freeE (freeL (freeL l s1 a1) s2 a2) s1 a1 = 120 ∧ okS (freeL l s1 a1) ∧ okS (freeL l s2 a2) ∧ okS (freeL (freeL l s1 a1) s2 a2) ∧ takenL (freeL (freeL l s1 a1) s2 a2) ≤ takenL l := by
  by_cases h1 : hasL l s1 a1
  · obtain ⟨k, n, rfl, rfl, h1'⟩ := (hasL_iff _ _ _).1 h1
    have h1 := h1'
    obtain ⟨f1, e1⟩ := freeL_yes h h1
    have o1 := okS_free h h1
    by_cases h2 : hasL l s2 a2
    · obtain ⟨j, m, rfl, rfl, h2'⟩ := (hasL_iff _ _ _).1 h2
      have h2 := h2'
      have hne : ¬ (j = k ∧ m = n) := fun e => hne ⟨by omega, by omega⟩
      obtain ⟨f2, e2⟩ := freeL_yes h h2
      have o2 := okS_free h h2
      have h12 := (has_free h1 j m).2 ⟨h2, hne⟩
      have h21 := (has_free h2 k n).2 ⟨h1, fun e => hne ⟨e.1.symm, e.2.symm⟩⟩
      obtain ⟨f12, e12⟩ := freeL_yes o1 h12
      obtain ⟨f21, e21⟩ := freeL_yes o2 h21
      have hc := free_comm h1 h2 hne
      have o12 := okS_free o1 h12
      have hno : ¬ hasL (freeN (freeN l k n) j m) k n := by
        rw [hasL_nat, has_free h12, has_free h1]
        simp
      have t1 := taken_free h h1
      have t2 := taken_free o1 h12
      rw [f1, f2, f12, f21, e1, e2, e12, e21]
      exact ⟨rfl, rfl, hc, (freeL_no hno).2, o1, o2, o12, by omega⟩
    · obtain ⟨f2, e2⟩ := freeL_no h2
      have h12 : ¬ hasL (freeN l k n) s2 a2 := by
        rw [hasL_iff] at h2 ⊢
        rintro ⟨j, m, rfl, rfl, h3⟩
        exact h2 ⟨j, m, rfl, rfl, ((has_free h1 j m).1 h3).1⟩
      obtain ⟨f12, e12⟩ := freeL_no h12
      have hno : ¬ hasL (freeN l k n) k n := by
        rw [hasL_nat, has_free h1]
        simp
      have t1 := taken_free h h1
      rw [f1, f2, f12, f1, e1, e2, e12]
      exact ⟨rfl, rfl, rfl, (freeL_no hno).2, o1, h, o1, by omega⟩
  · obtain ⟨f1, e1⟩ := freeL_no h1
    by_cases h2 : hasL l s2 a2
    · obtain ⟨j, m, rfl, rfl, h2'⟩ := (hasL_iff _ _ _).1 h2
      have h2 := h2'
      obtain ⟨f2, e2⟩ := freeL_yes h h2
      have o2 := okS_free h h2
      have h21 : ¬ hasL (freeN l j m) s1 a1 := by
        rw [hasL_iff] at h1 ⊢
        rintro ⟨k, n, rfl, rfl, h3⟩
        exact h1 ⟨k, n, rfl, rfl, ((has_free h2 k n).1 h3).1⟩
      obtain ⟨f21, e21⟩ := freeL_no h21
      have t2 := taken_free h h2
      rw [f1, f2, f21, e1, e2, e21]
      exact ⟨rfl, rfl, rfl, rfl, h, o2, o2, by omega⟩
    · obtain ⟨f2, e2⟩ := freeL_no h2
      rw [f1, f2, f1, e1, e2]
      exact ⟨rfl, rfl, rfl, rfl, h, h, h, Nat.le_refl _⟩
end Go.Proofs.YtfnokklcbmipgaaDoor
