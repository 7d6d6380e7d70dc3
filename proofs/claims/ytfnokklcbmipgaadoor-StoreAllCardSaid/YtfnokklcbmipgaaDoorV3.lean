/- Stores: the laws of StoreBack, StoreNone, and of the order of drops. -/
import Derived.Test.YtfnokklcbmipgaaDoorV2
namespace Go.Proofs.YtfnokklcbmipgaaDoor
open Plain

structure PutOk (l : Segs) (B D : List UInt8) (m : Segs) (C : List UInt8) (ss : Slots) : Prop where
  was : okSt l (strB B)
  d1 : 1 ≤ D.length
  d2 : D.length ≤ 4096
  sub : Sub m C l B ss
  ok : okSt m (strB C)
  got : (gather m C ss).take D.length = D
  room : D.length ≤ (gather m C ss).length
  cls : clsOf m ss = cutC D.length
theorem putS_ok {l : Segs} {B D : List UInt8} (he : (putS l B D).2.2.2 = 0) : PutOk l B D (putS l B D).1 (putS l B D).2.1 (putS l B D).2.2.1 := by
  unfold putS at he ⊢
  split at he
  · rename_i hst
    rw [if_pos hst]
    split at he
    · simp at he
    · rename_i hd
      rw [if_neg hd]
      split at he
      · rename_i h0
        rw [if_pos h0]
        obtain ⟨ss, g1, g2⟩ := put_law (ss0 := []) hst h0
        rw [List.nil_append] at g1
        rw [← g1] at g2
        have hr := @cut_room D.length
        exact ⟨hst, by omega, by omega, g2.sub, g2.ok, by rw [g2.got]; exact (chunk_take hr).1, by rw [g2.got]; exact (chunk_take hr).2, g2.cls⟩
      · rename_i h0
        exact absurd he h0
  · simp at he
theorem putS_err {l : Segs} {B D : List UInt8} (he : (putS l B D).2.2.2 ≠ 0) : putS l B D = (l, B, [], (putS l B D).2.2.2) := by
  unfold putS at he ⊢
  split
  · rename_i hst
    rw [if_pos hst] at he
    split
    · rfl
    · rename_i hd
      rw [if_neg hd] at he
      split
      · rename_i h0
        rw [if_pos h0] at he
        exact absurd h0 he
      · rfl
  · rfl
theorem getS_yes {l : Segs} {B : List UInt8} {ss : Slots} {n : Nat} (h1 : okSt l (strB B)) (h2 : allHas l ss) (h3 : n ≤ (gather l B ss).length) : getS l B ss n = ((gather l B ss).take n, 0) := by
  unfold getS
  rw [if_pos ⟨h1, by omega, h2, by omega⟩, Int.toNat_natCast]
theorem getS_ok {l : Segs} {B : List UInt8} {ss : Slots} {size : Int} (h : (getS l B ss size).2 = 0) : okSt l (strB B) ∧ 0 ≤ size ∧ allHas l ss ∧ size ≤ ((gather l B ss).length : Int) := by
  unfold getS at h
  split at h
  · assumption
  · simp at h
theorem drop_back {l m : Segs} {B C : List UInt8} {ss : Slots} (h : Sub m C l B ss) (hst : okSt m (strB C)) : dropS m C ss = (l, B, 0) := by
  have hd := drop_yes (B := C) hst.ok h.all h.nod
  have hs := drop_sub hst.ok (okSt_len hst) hd
  obtain ⟨e1, e2⟩ := hs.ext h (fun q => Iff.rfl)
  unfold dropS
  rw [if_pos ⟨hst, hd⟩, e1, e2]
/-- Two stores that share slots hand out the same. -/
theorem get_same {l m : Segs} {B C : List UInt8} {ss tt : Slots} {size : Int} (h : Sub l B m C ss) (hst : okSt l (strB B)) (hm : okSt m (strB C)) (ht : allHas m tt) : getS m C tt size = getS l B tt size := by
  unfold getS
  rw [h.gath hst.ok ht]
  by_cases hz : 0 ≤ size ∧ size ≤ ((gather l B tt).length : Int)
  · rw [if_pos ⟨hm, hz.1, ht, hz.2⟩, if_pos ⟨hst, hz.1, h.hasA2 ht, hz.2⟩]
  · rw [if_neg (fun x => hz ⟨x.2.1, x.2.2.2⟩), if_neg (fun x => hz ⟨x.2.1, x.2.2.2⟩)]
structure BackLaw (l : Segs) (B D : List UInt8) (o : Slots) (size : Int) (m : Segs) (C : List UInt8) (ss : Slots) : Prop where
  ok : okSt m (strB C)
  get : getS m C ss D.length = (D, 0)
  drop : dropS m C ss = (l, B, 0)
  other : (getS l B o size).2 = 0 → getS m C o size = getS l B o size
theorem back_law {l : Segs} {B D : List UInt8} (o : Slots) (size : Int) (he : (putS l B D).2.2.2 = 0) : BackLaw l B D o size (putS l B D).1 (putS l B D).2.1 (putS l B D).2.2.1 := by
  have h := putS_ok he
  refine ⟨h.ok, ?_, drop_back h.sub h.ok, fun h0 => ?_⟩
  · rw [getS_yes h.ok h.sub.all h.room, h.got]
  · exact (get_same h.sub h.ok h.was (getS_ok h0).2.2.1).symm
theorem gather_len0 (l : Segs) (B : List UInt8) (ss : Slots) : (0 : Int) ≤ ((gather l B ss).length : Int) := by omega
structure NoneLaw (l : Segs) (B : List UInt8) (ss : Slots) (size : Int) : Prop where
  zero : (getS l B ss 0).2 = 0 ↔ allHas l ss
  get : (getS l B ss size).2 = 0 → allHas l ss ∧ ((getS l B ss size).1.length : Int) = size
  drop : (dropS l B ss).2.2 = 0 ↔ allHas l ss ∧ ss.Nodup
  err : (dropS l B ss).2.2 ≠ 0 → dropS l B ss = (l, B, 120)
  ok : okSt (dropS l B ss).1 (strB (dropS l B ss).2.1)
theorem none_law {l : Segs} {B : List UInt8} (ss : Slots) (size : Int) (h : okSt l (strB B)) : NoneLaw l B ss size := by
  have hd := drop_iff (B := B) (ss := ss) h.ok (okSt_len h)
  refine ⟨⟨fun g => (getS_ok g).2.2.1, fun g => ?_⟩, fun g => ?_, ?_, fun g => ?_, ?_⟩
  · have := getS_yes (n := 0) h g (Nat.zero_le _)
    rw [Int.natCast_zero] at this
    rw [this]
  · obtain ⟨h1, h2, h3, h4⟩ := getS_ok g
    refine ⟨h3, ?_⟩
    unfold getS
    rw [if_pos ⟨h1, h2, h3, h4⟩, List.length_take]
    omega
  · unfold dropS
    rw [← hd]
    split
    · rename_i g; simp [g.2]
    · rename_i g
      simp only [show ((120 : Int) = 0) = False from by simp, false_iff]
      exact fun x => g ⟨h, x⟩
  · unfold dropS at g ⊢
    split
    · rename_i g2; rw [if_pos g2] at g; exact absurd rfl g
    · rfl
  · unfold dropS
    split
    · rename_i g
      exact (drop_sub h.ok (okSt_len h) g.2).okst h
    · exact h
/-- Drops of parts that lie apart. -/
theorem drop_two {l : Segs} {B : List UInt8} {ss tt : Slots} (hst : okSt l (strB B)) (h1 : allHas l ss) (h2 : allHas l tt) (n1 : ss.Nodup) (n2 : tt.Nodup) (hd : ∀ q ∈ tt, q ∉ ss) :
    ∃ m C n E, dropS l B ss = (m, C, 0) ∧ dropS m C tt = (n, E, 0) ∧ Sub l B m C ss ∧ Sub l B n E (ss ++ tt) ∧ okSt m (strB C) ∧ okSt n (strB E) := by
  have d1 := drop_yes (B := B) hst.ok h1 n1
  have s1 := drop_sub hst.ok (okSt_len hst) d1
  have o1 := s1.okst hst
  have d2 := drop_yes (B := (dropGo l B ss).2.1) o1.ok (s1.hasA h2 hd) n2
  have s2 := drop_sub o1.ok (okSt_len o1) d2
  refine ⟨_, _, _, _, ?_, ?_, s1, s1.trans s2, o1, s2.okst o1⟩
  · unfold dropS; rw [if_pos ⟨hst, d1⟩]
  · unfold dropS; rw [if_pos ⟨o1, d2⟩]
theorem drop_one {l : Segs} {B : List UInt8} {ss : Slots} (hst : okSt l (strB B)) (h1 : allHas l ss) (n1 : ss.Nodup) :
    ∃ m C, dropS l B ss = (m, C, 0) ∧ Sub l B m C ss ∧ okSt m (strB C) := by
  have d1 := drop_yes (B := B) hst.ok h1 n1
  have s1 := drop_sub hst.ok (okSt_len hst) d1
  exact ⟨_, _, by unfold dropS; rw [if_pos ⟨hst, d1⟩], s1, s1.okst hst⟩
end Go.Proofs.YtfnokklcbmipgaaDoor
