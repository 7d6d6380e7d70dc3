/- Sums over segments: slots that are taken, segments that have a class, segments that have room. -/
import Derived.Test.YtfnokklcbmipgaaDoorT7
import Derived.Test.YtfnokklcbmipgaaDoorM4
namespace Go.Proofs.YtfnokklcbmipgaaDoor
open Plain

def sumF (f : Int × Nat → Nat) (l : Segs) : Nat := (l.map f).sum
theorem sumF_set (f : Int × Nat → Nat) (l : Segs) (k : Nat) (g : Int × Nat) (hk : k < l.length) : sumF f (l.set k g) + f (l.getD k (0, 0)) = sumF f l + f g := by
  unfold sumF
  induction l generalizing k with
  | nil => simp at hk
  | cons x l ih =>
    cases k with
    | zero => simp only [List.set_cons_zero, List.map_cons, List.sum_cons, List.getD_cons_zero]; omega
    | succ k =>
      have := ih k (by simpa using hk)
      simp only [List.set_cons_succ, List.map_cons, List.sum_cons, List.getD_cons_succ]
      omega
def cntF (c : Int) (g : Int × Nat) : Nat := if g.1 = c then pop g.2 else 0
def segF (c : Int) (g : Int × Nat) : Nat := if g.1 = c then 1 else 0
def opnF (c : Int) (g : Int × Nat) : Nat := if openC c g = true then 1 else 0
/-- How many slots of a class are taken; how many segments have it; how many of these have room. -/
def cnt (l : Segs) (c : Int) : Nat := sumF (cntF c) l
def seg (l : Segs) (c : Int) : Nat := sumF (segF c) l
def opn (l : Segs) (c : Int) : Nat := sumF (opnF c) l
def clsOf (l : Segs) (ss : Slots) : List Int := ss.map fun q => (l.getD q.1.toNat (0, 0)).1
def one (b c : Int) : Nat := if b = c then 1 else 0
theorem pop_bit {u n : Nat} (hu : u < 2 ^ 64) (hb : u.testBit n = true) : pop (u - 2 ^ n) + 1 = pop u := by
  obtain ⟨v, rfl, hv⟩ := bit_sub hb
  have hn : n < 64 := bit_lt hb hu
  have hp := Nat.two_pow_pos n
  have h2 := pop_add v n hn (by omega) (bit_off hv)
  rw [Nat.add_sub_cancel, h2]
theorem pop_pos {u : Nat} (hu : u < 2 ^ 64) (h : u ≠ 0) : 1 ≤ pop u := by
  obtain ⟨n, hn⟩ := Nat.exists_testBit_of_ne_zero h
  have := pop_bit hu hn
  omega
theorem cnt_free {l : Segs} {k n : Nat} (hok : okS l) (hh : hasN l k n) (c : Int) : cnt (freeN l k n) c + one (l.getD k (0, 0)).1 c = cnt l c := by
  have h1 := sumF_set (cntF c) l k (freeSeg (l.getD k (0, 0)) n) hh.1
  have hg := hok.2 _ (getD_mem hh.1)
  have hb := hh.2
  have hu := okSeg_lt hg
  have hc := (okSeg_bit hg hb).1
  unfold cnt freeN
  generalize l.getD k (0, 0) = g at *
  have hp := pop_bit hu hb
  have key : cntF c (freeSeg g n) + one g.1 c = cntF c g := by
    unfold cntF freeSeg one
    split
    · rename_i h0
      rw [h0, pop_zero] at hp
      simp only [pop_zero, ite_self]
      split <;> omega
    · show (if g.1 = c then pop (g.2 - 2 ^ n) else 0) + _ = _
      split <;> omega
  omega
theorem okSeg_cls {g : Int × Nat} (h : okSeg g) : (g.1 = -1 ∧ g.2 = 0) ∨ (0 ≤ g.1 ∧ g.1 ≤ 3 ∧ g.2 ≠ 0 ∧ g.2 < 2 ^ nS g.1) := by
  unfold okSeg at h
  split at h
  · rename_i h1; exact .inl ⟨h1, h⟩
  · right
    have : 0 < nS g.1 := by
      rcases Nat.eq_zero_or_pos (nS g.1) with h0 | h0
      · rw [h0] at h; omega
      · exact h0
    exact ⟨(nS_pos.1 this).1, (nS_pos.1 this).2, h⟩
theorem seg_all : ∀ l : Segs, (∀ g ∈ l, okSeg g) → seg l 0 + seg l 1 + seg l 2 + seg l 3 + seg l (-1) = l.length
  | [], _ => rfl
  | g :: l, h => by
    have ih := seg_all l fun x hx => h x (List.mem_cons_of_mem _ hx)
    have hg := okSeg_cls (h g List.mem_cons_self)
    unfold seg sumF at ih ⊢
    simp only [List.map_cons, List.sum_cons, List.length_cons]
    have : segF 0 g + segF 1 g + segF 2 g + segF 3 g + segF (-1) g = 1 := by
      unfold segF
      (repeat' split) <;> omega
    omega
theorem held_seg : ∀ l : Segs, (∀ g ∈ l, okSeg g) → heldL l = (seg l 0 + seg l 1 + seg l 2 + seg l 3) * 512
  | [], _ => rfl
  | g :: l, h => by
    have ih := held_seg l fun x hx => h x (List.mem_cons_of_mem _ hx)
    have hg := okSeg_cls (h g List.mem_cons_self)
    unfold heldL seg sumF at ih ⊢
    rw [List.filter_cons]
    simp only [List.map_cons, List.sum_cons]
    have e : (if decide (g.1 ≠ -1) = true then g :: l.filter (fun g => decide (g.1 ≠ -1)) else l.filter (fun g => decide (g.1 ≠ -1))).length = (segF 0 g + segF 1 g + segF 2 g + segF 3 g) + (l.filter (fun g => decide (g.1 ≠ -1))).length := by
      unfold segF
      rcases hg with ⟨h1, _⟩ | ⟨h1, h2, _⟩
      · rw [if_neg (by simp [h1])]
        (repeat' split) <;> omega
      · rw [if_pos (by simp; omega), List.length_cons]
        (repeat' split) <;> omega
    rw [e, Nat.add_mul, ih, ← Nat.add_mul]
    congr 1
    omega
theorem cnt_le {c : Int} (hc : 0 ≤ c ∧ c ≤ 3) : ∀ l : Segs, (∀ g ∈ l, okSeg g) → cnt l c ≤ nS c * seg l c ∧ seg l c ≤ cnt l c
  | [], _ => ⟨Nat.zero_le _, Nat.zero_le _⟩
  | g :: l, h => by
    have ih := cnt_le hc l fun x hx => h x (List.mem_cons_of_mem _ hx)
    have ho := h g List.mem_cons_self
    have hg := okSeg_cls ho
    have hu := okSeg_lt ho
    unfold cnt seg sumF at ih ⊢
    simp only [List.map_cons, List.sum_cons]
    rw [Nat.mul_add]
    have : cntF c g ≤ nS c * segF c g ∧ segF c g ≤ cntF c g := by
      unfold segF cntF
      split
      · rename_i e
        subst e
        rcases hg with ⟨h1, _⟩ | ⟨_, _, h3, h4⟩
        · omega
        · have := pop_small hc h4
          have := pop_pos hu h3
          omega
      · omega
    omega
theorem cnt_full {c : Int} (hc : 0 ≤ c ∧ c ≤ 3) : ∀ l : Segs, (∀ g ∈ l, okSeg g) → nS c * seg l c + opn l c ≤ cnt l c + nS c * opn l c
  | [], _ => Nat.le_refl _
  | g :: l, h => by
    have ih := cnt_full hc l fun x hx => h x (List.mem_cons_of_mem _ hx)
    have ho := h g List.mem_cons_self
    have hg := okSeg_cls ho
    have hu := okSeg_lt ho
    unfold cnt seg opn sumF at ih ⊢
    simp only [List.map_cons, List.sum_cons]
    rw [Nat.mul_add, Nat.mul_add]
    have : nS c * segF c g + opnF c g ≤ cntF c g + nS c * opnF c g := by
      unfold segF cntF opnF openC
      by_cases e : g.1 = c
      · subst e
        have h3 := pop_full hc
        rcases hg with ⟨h1, _⟩ | ⟨_, _, h5, h4⟩
        · omega
        · have := pop_pos hu h5
          by_cases e2 : g.2 = allN g.1
          · rw [e2] at *
            simp [h3]
          · simp [e2]
            omega
      · simp [e]
    omega
/-- At most one segment of each class has room. -/
def Pk (l : Segs) : Prop := ∀ c : Int, opn l c ≤ 1
theorem sumF_zero {f : Int × Nat → Nat} : ∀ {l : Segs}, (∀ g ∈ l, f g = 0) → sumF f l = 0
  | [], _ => rfl
  | g :: l, h => by
    have := sumF_zero fun x hx => h x (List.mem_cons_of_mem g hx)
    unfold sumF at this ⊢
    rw [List.map_cons, List.sum_cons, this, h g List.mem_cons_self]
theorem allN_zero {c : Int} (h : ¬ (0 ≤ c ∧ c ≤ 3)) : allN c = 0 := by
  unfold allN nS
  rw [if_neg (by omega), if_neg (by omega), if_neg (by omega), if_neg (by omega)]
theorem opn_free (c : Int) : opnF c (-1, 0) = 0 := by
  unfold opnF openC
  by_cases h : (-1 : Int) = c
  · subst h
    simp [allN_zero (c := -1) (by omega)]
  · simp [h]
theorem Pk_new (n : Nat) : Pk (newS n) := fun c => by
  have : opn (newS n) c = 0 := sumF_zero fun g hg => by rw [List.eq_of_mem_replicate hg]; exact opn_free c
  omega
theorem find_none {p : Int × Nat → Bool} {l : Segs} (h : l.findIdx? p = none) : ∀ g ∈ l, p g = false := by
  rw [List.findIdx?_eq_none_iff] at h
  exact h
theorem Pk_take {l : Segs} {c : Int} (hok : okS l) (h : Pk l) (he : (takeL l c).2.2 = 0) : Pk (takeL l c).1 := by
  unfold takeL at he ⊢
  rw [if_neg (fun x => x hok)] at he ⊢
  split at he
  · simp at he
  · rename_i hb
    rw [if_neg hb]
    cases hs : seek l c with
    | none => rw [hs] at he; simp at he
    | some i =>
      obtain ⟨hi, _, _⟩ := seek_facts hok hb hs
      intro c'
      show opn (l.set i (c, _)) c' ≤ 1
      have h1 := sumF_set (opnF c') l i (c, (l.getD i (0, 0)).2 + 2 ^ fz (l.getD i (0, 0)).2) hi
      have h2 := h c'
      unfold opn at h2 ⊢
      by_cases hcc : c = c'
      · subst hcc
        have h3 : opnF c (c, (l.getD i (0, 0)).2 + 2 ^ fz (l.getD i (0, 0)).2) ≤ 1 := by unfold opnF; split <;> omega
        unfold seek at hs
        cases hf : l.findIdx? (openC c) with
        | some j =>
          rw [hf] at hs
          cases hs
          have h4 := (find_lt hf).2.1
          have h5 : opnF c (l.getD i (0, 0)) = 1 := by unfold opnF; rw [if_pos h4]
          omega
        | none =>
          have h4 : sumF (opnF c) l = 0 := sumF_zero fun g hg => by unfold opnF; rw [find_none hf g hg]; rfl
          omega
      · have h3 : opnF c' (c, (l.getD i (0, 0)).2 + 2 ^ fz (l.getD i (0, 0)).2) = 0 := by
          unfold opnF openC
          simp [hcc]
        omega
/-- Where no slot of a class is to be had. -/
theorem take_full {l : Segs} {c : Int} (hok : okS l) (hc : 0 ≤ c ∧ c ≤ 3) (he : (takeL l c).2.2 ≠ 0) : opn l c = 0 ∧ seg l (-1) = 0 := by
  have hb : bytesC c ≠ 0 := by
    obtain rfl | rfl | rfl | rfl : c = 0 ∨ c = 1 ∨ c = 2 ∨ c = 3 := by omega
    all_goals decide
  unfold takeL at he
  rw [if_neg (fun x => x hok), if_neg hb] at he
  cases hs : seek l c with
  | some i => rw [hs] at he; simp at he
  | none =>
    unfold seek at hs
    cases hf : l.findIdx? (openC c) with
    | some j => rw [hf] at hs; simp at hs
    | none =>
      rw [hf] at hs
      refine ⟨sumF_zero fun g hg => ?_, sumF_zero fun g hg => ?_⟩
      · unfold opnF; rw [find_none hf g hg]; rfl
      · have := find_none hs g hg
        unfold freeC at this
        unfold segF
        rw [if_neg (by simpa using this)]
/-- What is packed has room for what lay loose. -/
theorem room_packed {l l0 : Segs} {c : Int} (hok : okS l) (h0 : okS l0) (hp : Pk l) (hl : l.length = l0.length) (hc : 0 ≤ c ∧ c ≤ 3) (hle : ∀ c', cnt l c' ≤ cnt l0 c') (hlt : cnt l c < cnt l0 c) : (takeL l c).2.2 = 0 := by
  refine Classical.byContradiction fun he => ?_
  obtain ⟨h1, h2⟩ := take_full hok hc he
  have s1 := seg_all l hok.2
  have s2 := seg_all l0 h0.2
  have a0 := cnt_full (c := 0) (by omega) l hok.2
  have a1 := cnt_full (c := 1) (by omega) l hok.2
  have a2 := cnt_full (c := 2) (by omega) l hok.2
  have a3 := cnt_full (c := 3) (by omega) l hok.2
  have b0 := (cnt_le (c := 0) (by omega) l0 h0.2).1
  have b1 := (cnt_le (c := 1) (by omega) l0 h0.2).1
  have b2 := (cnt_le (c := 2) (by omega) l0 h0.2).1
  have b3 := (cnt_le (c := 3) (by omega) l0 h0.2).1
  have p0 := hp 0
  have p1 := hp 1
  have p2 := hp 2
  have p3 := hp 3
  have e0 := hle 0
  have e1 := hle 1
  have e2 := hle 2
  have e3 := hle 3
  simp only [show nS 0 = 64 from rfl, show nS 1 = 32 from rfl, show nS 2 = 16 from rfl, show nS 3 = 8 from rfl] at a0 a1 a2 a3 b0 b1 b2 b3
  obtain rfl | rfl | rfl | rfl : c = 0 ∨ c = 1 ∨ c = 2 ∨ c = 3 := by omega
  all_goals omega
/-- What is packed holds no more. -/
theorem held_packed {l l0 : Segs} (hok : okS l) (h0 : okS l0) (hp : Pk l) (hle : ∀ c', cnt l c' ≤ cnt l0 c') : heldL l ≤ heldL l0 := by
  rw [held_seg l hok.2, held_seg l0 h0.2]
  have a0 := cnt_full (c := 0) (by omega) l hok.2
  have a1 := cnt_full (c := 1) (by omega) l hok.2
  have a2 := cnt_full (c := 2) (by omega) l hok.2
  have a3 := cnt_full (c := 3) (by omega) l hok.2
  have b0 := (cnt_le (c := 0) (by omega) l0 h0.2).1
  have b1 := (cnt_le (c := 1) (by omega) l0 h0.2).1
  have b2 := (cnt_le (c := 2) (by omega) l0 h0.2).1
  have b3 := (cnt_le (c := 3) (by omega) l0 h0.2).1
  have p0 := hp 0
  have p1 := hp 1
  have p2 := hp 2
  have p3 := hp 3
  have e0 := hle 0
  have e1 := hle 1
  have e2 := hle 2
  have e3 := hle 3
  simp only [show nS 0 = 64 from rfl, show nS 1 = 32 from rfl, show nS 2 = 16 from rfl, show nS 3 = 8 from rfl] at a0 a1 a2 a3 b0 b1 b2 b3
  omega
/-- Room for few slots. -/
theorem room_few {l : Segs} {c : Int} (hok : okS l) (hc : 0 ≤ c ∧ c ≤ 3) (hlt : cnt l 0 + cnt l 1 + cnt l 2 + cnt l 3 < l.length) : (takeL l c).2.2 = 0 := by
  refine Classical.byContradiction fun he => ?_
  obtain ⟨_, h2⟩ := take_full hok hc he
  have s1 := seg_all l hok.2
  have b0 := (cnt_le (c := 0) (by omega) l hok.2).2
  have b1 := (cnt_le (c := 1) (by omega) l hok.2).2
  have b2 := (cnt_le (c := 2) (by omega) l hok.2).2
  have b3 := (cnt_le (c := 3) (by omega) l hok.2).2
  omega
theorem room_15 {l : Segs} {c : Int} (hok : okS l) (hp : Pk l) (hl : l.length = 8) (hc : 0 ≤ c ∧ c ≤ 3) (hlt : cnt l 0 + cnt l 1 + cnt l 2 + cnt l 3 < 15) : (takeL l c).2.2 = 0 := by
  refine Classical.byContradiction fun he => ?_
  obtain ⟨_, h2⟩ := take_full hok hc he
  have s1 := seg_all l hok.2
  have a0 := cnt_full (c := 0) (by omega) l hok.2
  have a1 := cnt_full (c := 1) (by omega) l hok.2
  have a2 := cnt_full (c := 2) (by omega) l hok.2
  have a3 := cnt_full (c := 3) (by omega) l hok.2
  have p0 := hp 0
  have p1 := hp 1
  have p2 := hp 2
  have p3 := hp 3
  simp only [show nS 0 = 64 from rfl, show nS 1 = 32 from rfl, show nS 2 = 16 from rfl, show nS 3 = 8 from rfl] at a0 a1 a2 a3
  omega
theorem cnt_new (n : Nat) (c : Int) : cnt (newS n) c = 0 := sumF_zero fun g hg => by
  rw [List.eq_of_mem_replicate hg]
  unfold cntF
  split
  · exact pop_zero
  · rfl
end Go.Proofs.YtfnokklcbmipgaaDoor
