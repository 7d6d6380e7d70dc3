/- Stores: what Put, Drop and Get do, in plain words. -/
import Derived.Test.YtfnokklcbmipgaaDoorV0
namespace Go.Proofs.YtfnokklcbmipgaaDoor
open Plain

/-- Is a byte in a slot? -/
def cov (l : Segs) (k n p : Nat) : Prop := posN l k n ≤ p ∧ p < posN l k n + lenN l k
theorem cov_cls {l m : Segs} {k : Nat} (h : (m.getD k (0, 0)).1 = (l.getD k (0, 0)).1) (n p : Nat) : cov m k n p ↔ cov l k n p := by
  unfold cov posN lenN
  rw [h]
theorem cov_seg {l : Segs} (hok : okS l) {k n p : Nat} (hh : hasN l k n) (hc : cov l k n p) : p / 512 = k ∧ p % 512 / bN (l.getD k (0, 0)).1 = n ∧ 0 < bN (l.getD k (0, 0)).1 := by
  have hlt := hasN_lt hok hh
  have h1 := geo_in hlt
  have h2 := (geo hlt).1
  unfold cov posN lenN at hc
  generalize bN (l.getD k (0, 0)).1 = b at *
  obtain ⟨c1, c2⟩ := hc
  have h3 : p / 512 = k := by omega
  have h4 : p % 512 = p - k * 512 := by omega
  refine ⟨h3, ?_, h2⟩
  rw [h4]
  refine Nat.div_eq_of_lt_le ?_ ?_
  · omega
  · rw [Nat.add_mul, Nat.one_mul]; omega
theorem inN_iff {l : Segs} (hok : okS l) (p : Nat) : inN l p ↔ ∃ k n, hasN l k n ∧ cov l k n p := by
  constructor
  · rintro ⟨h0, hb⟩
    refine ⟨p / 512, p % 512 / bN (l.getD (p / 512) (0, 0)).1, ⟨?_, hb⟩, ?_⟩
    · by_cases h : p / 512 < l.length
      · exact h
      · rw [List.getD_eq_getElem?_getD, List.getElem?_eq_none (by omega)] at hb
        simp at hb
    · unfold cov posN lenN
      generalize bN (l.getD (p / 512) (0, 0)).1 = b at *
      have h1 := Nat.div_add_mod (p % 512) b
      have h2 := Nat.mod_lt (p % 512) h0
      rw [Nat.mul_comm] at h1
      omega
  · rintro ⟨k, n, hh, hc⟩
    obtain ⟨h1, h2, h3⟩ := cov_seg hok hh hc
    unfold inN inSeg
    rw [h1, h2]
    exact ⟨h3, hh.2⟩
theorem cov_disj {l : Segs} (hok : okS l) {k n j m p : Nat} (h1 : hasN l k n) (h2 : hasN l j m) (c1 : cov l k n p) (c2 : cov l j m p) : j = k ∧ m = n := by
  obtain ⟨a1, a2, _⟩ := cov_seg hok h1 c1
  obtain ⟨b1, b2, _⟩ := cov_seg hok h2 c2
  obtain rfl : j = k := b1.symm.trans a1
  exact ⟨rfl, b2.symm.trans a2⟩
theorem ext_segs {l m : Segs} (h1 : okS l) (h2 : okS m) (hl : l.length = m.length) (hh : ∀ k n, hasN l k n ↔ hasN m k n) (hc : ∀ k n, hasN l k n → (l.getD k (0, 0)).1 = (m.getD k (0, 0)).1) : l = m := by
  refine List.ext_getElem hl fun i hi1 hi2 => ?_
  have e1 : l.getD i (0, 0) = l[i] := by rw [List.getD_eq_getElem?_getD, List.getElem?_eq_getElem hi1]; rfl
  have e2 : m.getD i (0, 0) = m[i] := by rw [List.getD_eq_getElem?_getD, List.getElem?_eq_getElem hi2]; rfl
  have o1 := h1.2 _ (getD_mem hi1)
  have o2 := h2.2 _ (getD_mem hi2)
  have hu : (l.getD i (0, 0)).2 = (m.getD i (0, 0)).2 := by
    refine Nat.eq_of_testBit_eq fun n => ?_
    have := hh i n
    unfold hasN at this
    rw [Bool.eq_iff_iff]
    constructor
    · intro h; exact (this.1 ⟨hi1, h⟩).2
    · intro h; exact (this.2 ⟨hi2, h⟩).2
  rw [← e1, ← e2]
  have hcl : (l.getD i (0, 0)).1 = (m.getD i (0, 0)).1 := by
    by_cases h0 : (l.getD i (0, 0)).2 = 0
    · have h0' := hu ▸ h0
      unfold okSeg at o1 o2
      rw [h0] at o1
      rw [h0'] at o2
      split at o1
      · rename_i g1
        split at o2
        · rename_i g2; rw [g1, g2]
        · exact absurd rfl o2.1
      · exact absurd rfl o1.1
    · obtain ⟨n, hn⟩ := Nat.exists_testBit_of_ne_zero h0
      exact hc i n ⟨hi1, hn⟩
  exact Prod.ext hcl hu
/-- A store's part after slots were dropped. -/
structure Sub (l : Segs) (B : List UInt8) (m : Segs) (C : List UInt8) (ss : Slots) : Prop where
  ok : okS m
  len : m.length = l.length
  siz : C.length = B.length
  all : allHas l ss
  has : ∀ j k : Nat, hasN m j k ↔ hasN l j k ∧ ((j : Int), (k : Int)) ∉ ss
  cls : ∀ j k : Nat, hasN m j k → (m.getD j (0, 0)).1 = (l.getD j (0, 0)).1
  zer : ∀ p j k : Nat, ((j : Int), (k : Int)) ∈ ss → cov l j k p → C.getD p 0 = 0
  byt : ∀ p : Nat, (∀ j k : Nat, ((j : Int), (k : Int)) ∈ ss → ¬ cov l j k p) → C.getD p 0 = B.getD p 0
  nod : ss.Nodup
  taken : takenL m + (ss.map fun q => lenN l q.1.toNat).sum = takenL l
  cnt : ∀ c, cnt m c + (clsOf l ss).count c = cnt l c
theorem count_one (a c : Int) : [a].count c = one a c := by
  rw [List.count_singleton]
  unfold one
  by_cases h : a = c <;> simp [h]
theorem allHas_nat {l : Segs} {ss : Slots} (h : allHas l ss) {q : Int × Int} (hq : q ∈ ss) : ∃ j k : Nat, q = ((j : Int), (k : Int)) ∧ hasN l j k := by
  obtain ⟨j, k, h1, h2, h3⟩ := (hasL_iff _ _ _).1 (h q hq)
  exact ⟨j, k, Prod.ext h1 h2, h3⟩
theorem Sub.nil {l : Segs} (B : List UInt8) (h : okS l) : Sub l B l B [] :=
  ⟨h, rfl, rfl, fun q hq => by simp at hq, fun j k => by simp, fun _ _ _ => rfl, fun p j k h => by simp at h, fun _ _ => rfl, List.nodup_nil, by simp, fun _ => rfl⟩
theorem Sub.perm {l m : Segs} {B C : List UInt8} {ss tt : Slots} (h : Sub l B m C ss) (hp : ss.Perm tt) : Sub l B m C tt :=
  ⟨h.ok, h.len, h.siz, fun q hq => h.all q (hp.mem_iff.2 hq), fun j k => (h.has j k).trans (by rw [hp.mem_iff]), h.cls, fun p j k hq => h.zer p j k (hp.mem_iff.2 hq), fun p hq => h.byt p (fun j k hm => hq j k (hp.mem_iff.1 hm)), hp.nodup_iff.1 h.nod, by rw [← h.taken, (hp.map _).sum_nat], fun c => by rw [← h.cnt c]; unfold clsOf; rw [(hp.map _).count_eq]⟩
theorem Sub.one {l : Segs} {B : List UInt8} {k n : Nat} (hok : okS l) (hh : hasN l k n) (hB : B.length = l.length * 512) : Sub l B (freeN l k n) (layB B (posN l k n) (lenN l k) []) [((k : Int), (n : Int))] := by
  have hfit := pos_fit hok hh hB
  refine ⟨okS_free hok hh, freeN_len _ _ _, layB_len _ hfit, ?_, ?_, fun j i h => free_keeps hok hh h, ?_, ?_, by simp, ?_, ?_⟩
  · intro q hq
    rw [List.mem_singleton.1 hq]
    exact (hasL_nat _ _ _).2 hh
  · intro j i
    rw [has_free hh, List.mem_singleton, Prod.mk.injEq]
    refine and_congr_right fun _ => not_congr ?_
    omega
  · intro p j i hq hc
    rw [List.mem_singleton, Prod.mk.injEq] at hq
    obtain ⟨rfl, rfl⟩ : j = k ∧ i = n := by omega
    unfold cov at hc
    rw [layB_get _ hfit, if_pos hc]
    rfl
  · intro p hq
    have hc := hq k n (List.mem_singleton.2 rfl)
    unfold cov at hc
    rw [layB_get _ hfit, if_neg hc]
  · have := taken_free hok hh
    simpa [lenN, bN] using this
  · intro c
    rw [← cnt_free hok hh c]
    exact congrArg _ (count_one _ _)
theorem Sub.trans {l m n : Segs} {B C E : List UInt8} {ss tt : Slots} (h : Sub l B m C ss) (k : Sub m C n E tt) : Sub l B n E (ss ++ tt) := by
  have hall : ∀ j i : Nat, ((j : Int), (i : Int)) ∈ tt → hasN m j i := fun j i hq => (hasL_nat _ _ _).1 (k.all _ hq)
  refine ⟨k.ok, k.len.trans h.len, k.siz.trans h.siz, ?_, ?_, fun j i hn => (k.cls j i hn).trans (h.cls j i ((k.has j i).1 hn).1), ?_, ?_, ?_, ?_, ?_⟩
  · intro q hq
    rcases List.mem_append.1 hq with hq | hq
    · exact h.all q hq
    · obtain ⟨j, i, rfl, hh⟩ := allHas_nat k.all hq
      exact (hasL_nat _ _ _).2 ((h.has j i).1 hh).1
  · intro j i
    rw [k.has, h.has, List.mem_append, not_or, and_assoc]
  · intro p j i hq hc
    by_cases ht : ∃ j i : Nat, ((j : Int), (i : Int)) ∈ tt ∧ cov m j i p
    · obtain ⟨j, i, h1, h2⟩ := ht
      exact k.zer p j i h1 h2
    · rw [k.byt p (fun j i h1 h2 => ht ⟨j, i, h1, h2⟩)]
      rcases List.mem_append.1 hq with hq | hq
      · exact h.zer p j i hq hc
      · exact absurd ⟨j, i, hq, (cov_cls (h.cls j i (hall j i hq)) i p).2 hc⟩ ht
  · intro p hq
    rw [k.byt p, h.byt p]
    · exact fun j i hm => hq j i (List.mem_append.2 (.inl hm))
    · exact fun j i hm hc => hq j i (List.mem_append.2 (.inr hm)) ((cov_cls (h.cls j i (hall j i hm)) i p).1 hc)
  · rw [List.nodup_append]
    refine ⟨h.nod, k.nod, ?_⟩
    intro q hq r hr e
    subst e
    obtain ⟨j, i, rfl, hh⟩ := allHas_nat k.all hr
    exact ((h.has j i).1 hh).2 hq
  · have e : (tt.map fun q => lenN m q.1.toNat) = tt.map fun q => lenN l q.1.toNat := by
      refine List.map_congr_left fun q hq => ?_
      obtain ⟨j, i, rfl, hh⟩ := allHas_nat k.all hq
      unfold lenN
      rw [show ((j : Int), (i : Int)).1.toNat = j from rfl, h.cls j i hh]
    have h1 := h.taken
    have h2 := k.taken
    rw [e] at h2
    rw [List.map_append, List.sum_append]
    omega
  · intro c
    have e : clsOf m tt = clsOf l tt := by
      refine List.map_congr_left fun q hq => ?_
      obtain ⟨j, i, rfl, hh⟩ := allHas_nat k.all hq
      rw [show ((j : Int), (i : Int)).1.toNat = j from rfl, h.cls j i hh]
    have e2 : clsOf l (ss ++ tt) = clsOf l ss ++ clsOf l tt := List.map_append
    have h1 := h.cnt c
    have h2 := k.cnt c
    rw [e] at h2
    rw [e2, List.count_append]
    omega
theorem Sub.ext {l m n : Segs} {B C E : List UInt8} {ss tt : Slots} (h : Sub l B m C ss) (k : Sub l B n E tt) (hm : ∀ q, q ∈ ss ↔ q ∈ tt) : m = n ∧ C = E := by
  constructor
  · refine ext_segs h.ok k.ok (h.len.trans k.len.symm) (fun j i => by rw [h.has, k.has, hm]) fun j i hh => ?_
    rw [h.cls j i hh, k.cls j i]
    rw [k.has, ← hm, ← h.has]
    exact hh
  · refine List.ext_getElem (h.siz.trans k.siz.symm) fun p h1 h2 => ?_
    have e : C.getD p 0 = E.getD p 0 := by
      by_cases ht : ∃ j i : Nat, ((j : Int), (i : Int)) ∈ ss ∧ cov l j i p
      · obtain ⟨j, i, g1, g2⟩ := ht
        rw [h.zer p j i g1 g2, k.zer p j i ((hm _).1 g1) g2]
      · rw [h.byt p (fun j i g1 g2 => ht ⟨j, i, g1, g2⟩), k.byt p (fun j i g1 g2 => ht ⟨j, i, (hm _).2 g1, g2⟩)]
    rw [List.getD_eq_getElem?_getD, List.getElem?_eq_getElem h1, List.getD_eq_getElem?_getD, List.getElem?_eq_getElem h2] at e
    exact e
theorem okSt_len {l : Segs} {B : List UInt8} (h : okSt l (strB B)) : B.length = l.length * 512 := by
  have := h.size
  rw [strB_size] at this
  exact this
theorem okSt_mk {l : Segs} {B : List UInt8} (h1 : okS l) (h2 : B.length = l.length * 512) (h3 : ∀ p, B.getD p 0 ≠ 0 → ∃ k n, hasN l k n ∧ cov l k n p) : okSt l (strB B) :=
  ⟨h1, by rw [strB_size]; exact h2, fun p _ hne => (inN_iff h1 p).2 (h3 p (by rw [byt_strB] at hne; exact hne))⟩
theorem okSt_in {l : Segs} {B : List UInt8} (h : okSt l (strB B)) {p : Nat} (hp : B.getD p 0 ≠ 0) : ∃ k n, hasN l k n ∧ cov l k n p := by
  have hl : p < B.length := by
    rcases Nat.lt_or_ge p B.length with h | h
    · exact h
    · exact absurd (getD_end B h) hp
  exact (inN_iff h.ok p).1 (h.zero p (by rw [strB_size]; exact hl) (by rw [byt_strB]; exact hp))
theorem Sub.okst {l m : Segs} {B C : List UInt8} {ss : Slots} (h : Sub l B m C ss) (hk : okSt l (strB B)) : okSt m (strB C) := by
  refine okSt_mk h.ok (by rw [h.siz, h.len]; exact okSt_len hk) fun p hp => ?_
  have hno : ∀ j i : Nat, ((j : Int), (i : Int)) ∈ ss → ¬ cov l j i p := fun j i h1 h2 => hp (h.zer p j i h1 h2)
  rw [h.byt p hno] at hp
  obtain ⟨k, n, hh, hc⟩ := okSt_in hk hp
  have hm : hasN m k n := (h.has k n).2 ⟨hh, fun hm => hno k n hm hc⟩
  exact ⟨k, n, hm, (cov_cls (h.cls k n hm) n p).2 hc⟩
theorem drop_sub {l : Segs} {B : List UInt8} {ss : Slots} (hok : okS l) (hB : B.length = l.length * 512) (h : (dropGo l B ss).2.2 = true) : Sub l B (dropGo l B ss).1 (dropGo l B ss).2.1 ss := by
  induction ss generalizing l B with
  | nil => exact Sub.nil B hok
  | cons q r ih =>
    obtain ⟨s, a⟩ := q
    rw [dropGo_cons] at h ⊢
    split at h
    · rename_i h1
      rw [if_pos h1]
      obtain ⟨k, n, rfl, rfl, hh⟩ := (hasL_iff l s a).1 h1.2
      have h2 := Sub.one hok hh hB
      exact h2.trans (ih (okS_free hok hh) (by rw [freeN_len, layB_len [] (pos_fit hok hh hB)]; exact hB) h)
    · cases h
theorem drop_yes {l : Segs} {B : List UInt8} {ss : Slots} (hok : okS l) (h : allHas l ss) (hn : ss.Nodup) : (dropGo l B ss).2.2 = true := by
  induction ss generalizing l B with
  | nil => rfl
  | cons q r ih =>
    obtain ⟨j, i, rfl, hh⟩ := allHas_nat h List.mem_cons_self
    rw [dropGo_cons, if_pos ⟨hok, (hasL_nat _ _ _).2 hh⟩]
    refine ih (okS_free hok hh) (fun p hp => ?_) (List.nodup_cons.1 hn).2
    obtain ⟨j2, i2, rfl, h2⟩ := allHas_nat h (List.mem_cons_of_mem _ hp)
    refine (hasL_nat _ _ _).2 ((has_free hh j2 i2).2 ⟨h2, ?_⟩)
    rintro ⟨rfl, rfl⟩
    exact (List.nodup_cons.1 hn).1 hp
theorem drop_iff {l : Segs} {B : List UInt8} {ss : Slots} (hok : okS l) (hB : B.length = l.length * 512) : (dropGo l B ss).2.2 = true ↔ allHas l ss ∧ ss.Nodup :=
  ⟨fun h => ⟨(drop_sub hok hB h).all, (drop_sub hok hB h).nod⟩, fun h => drop_yes hok h.1 h.2⟩
theorem slotB_get (l : Segs) (B : List UInt8) (k n p : Nat) : (slotB l B k n).getD p 0 = if p < lenN l k then B.getD (posN l k n + p) 0 else 0 := by
  unfold slotB
  rw [getD_take', getD_drop']
/-- What is left is as it was. -/
theorem Sub.slot {l m : Segs} {B C : List UInt8} {ss : Slots} (h : Sub l B m C ss) (hok : okS l) {j k : Nat} (hh : hasN m j k) : slotB m C j k = slotB l B j k := by
  have hc := h.cls j k hh
  have e1 : lenN m j = lenN l j := by unfold lenN; rw [hc]
  have e2 : posN m j k = posN l j k := by unfold posN; rw [hc]
  obtain ⟨hl, hn⟩ := (h.has j k).1 hh
  have key : ∀ p, p < lenN l j → C.getD (posN l j k + p) 0 = B.getD (posN l j k + p) 0 := by
    intro p hp
    refine h.byt _ fun j2 k2 hm hcv => ?_
    obtain ⟨r1, r2⟩ := cov_disj hok ((hasL_nat _ _ _).1 (h.all _ hm)) hl hcv ⟨Nat.le_add_right _ _, by omega⟩
    subst r1 r2
    exact hn hm
  unfold slotB
  rw [e1, e2]
  refine List.ext_getElem (by simp only [List.length_take, List.length_drop, h.siz]) fun p h1 h2 => ?_
  have hp : p < lenN l j := by rw [List.length_take] at h1; omega
  have h3 : posN l j k + p < C.length := by rw [List.length_take, List.length_drop] at h1; omega
  have h4 : posN l j k + p < B.length := by rw [← h.siz]; exact h3
  have := key p hp
  rw [List.getD_eq_getElem?_getD, List.getElem?_eq_getElem h3, List.getD_eq_getElem?_getD, List.getElem?_eq_getElem h4] at this
  simp only [List.getElem_take, List.getElem_drop]
  exact this
theorem Sub.gath {l m : Segs} {B C : List UInt8} {ss tt : Slots} (h : Sub l B m C ss) (hok : okS l) (ht : allHas m tt) : gather m C tt = gather l B tt := by
  unfold gather
  induction tt with
  | nil => rfl
  | cons q r ih =>
    rw [List.flatMap_cons, List.flatMap_cons, ih (fun p hp => ht p (List.mem_cons_of_mem _ hp))]
    obtain ⟨j, i, rfl, hh⟩ := allHas_nat ht List.mem_cons_self
    rw [show ((j : Int), (i : Int)).1.toNat = j from rfl, show ((j : Int), (i : Int)).2.toNat = i from rfl, h.slot hok hh]
theorem Sub.hasA {l m : Segs} {B C : List UInt8} {ss tt : Slots} (h : Sub l B m C ss) (ht : allHas l tt) (hd : ∀ q ∈ tt, q ∉ ss) : allHas m tt := by
  intro q hq
  obtain ⟨j, i, rfl, hh⟩ := allHas_nat ht hq
  exact (hasL_nat _ _ _).2 ((h.has j i).2 ⟨hh, hd _ hq⟩)
theorem Sub.hasA2 {l m : Segs} {B C : List UInt8} {ss tt : Slots} (h : Sub l B m C ss) (ht : allHas m tt) : allHas l tt := by
  intro q hq
  obtain ⟨j, i, rfl, hh⟩ := allHas_nat ht hq
  exact (hasL_nat _ _ _).2 ((h.has j i).1 hh).1
end Go.Proofs.YtfnokklcbmipgaaDoor
