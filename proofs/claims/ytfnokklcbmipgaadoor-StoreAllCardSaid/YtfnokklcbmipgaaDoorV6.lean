/- StoreOrder: the plain law. -/
import Derived.Test.YtfnokklcbmipgaaDoorV5
namespace Go.Proofs.YtfnokklcbmipgaaDoor
open Plain

/-- What Put leaves may be. -/
theorem putS_may {l : Segs} {B : List UInt8} (D : List UInt8) (h : okSt l (strB B)) : okSt (putS l B D).1 (strB (putS l B D).2.1) ∧ (putS l B D).1.length = l.length := by
  by_cases he : (putS l B D).2.2.2 = 0
  · have p := putS_ok he
    exact ⟨p.ok, p.sub.len.symm⟩
  · rw [putS_err he]
    exact ⟨h, rfl⟩
theorem putS_nil {l : Segs} {B : List UInt8} (h : okSt l (strB B)) : putS l B [] = (l, B, [], 100) := by
  unfold putS
  rw [if_pos h, if_pos (by simp)]
theorem cut_five {n : Nat} (h : n ≤ 300) : (cutC n).length ≤ 5 := by
  rw [cut_len]
  split <;> omega
structure OrderLaw (Z a b c : List UInt8) (l1 : Segs) (B1 : List UInt8) (k : Slots) (l2 : Segs) (B2 : List UInt8) (ll : Slots) (l3 : Segs) (B3 : List UInt8) (m : Slots) (x1 : Segs) (X1 : List UInt8) (x : Segs) (X : List UInt8) (y1 : Segs) (Y1 : List UInt8) : Prop where
  e1 : putS (newS 8) Z a = (l1, B1, k, 0)
  e2 : putS l1 B1 b = (l2, B2, ll, 0)
  e3 : putS l2 B2 c = (l3, B3, m, 0)
  e4 : dropS l3 B3 k = (x1, X1, 0)
  e5 : dropS x1 X1 m = (x, X, 0)
  e6 : dropS l3 B3 m = (y1, Y1, 0)
  e7 : dropS y1 Y1 k = (x, X, 0)
  e8 : dropS l3 B3 (m ++ k) = (x, X, 0)
  e9 : getS x X ll b.length = (b, 0)
  o1 : okSt l1 (strB B1)
  o2 : okSt l2 (strB B2)
  o3 : okSt l3 (strB B3)
  o4 : okSt x1 (strB X1)
  o5 : okSt x (strB X)
  o6 : okSt y1 (strB Y1)
  n1 : l1.length = 8
  n2 : l2.length = 8
  n3 : l3.length = 8
  n4 : x1.length = 8
  n5 : x.length = 8
  n6 : y1.length = 8
  s1 : 0 < k.length ∧ k.length ≤ 65
  s2 : ll.length ≤ 65
  s3 : 0 < m.length ∧ m.length ≤ 65
theorem put_num {l : Segs} {B D : List UInt8} {m : Segs} {C : List UInt8} {ss : Slots} (h : PutOk l B D m C ss) : 0 < ss.length ∧ ss.length ≤ 65 := by
  have h1 := congrArg List.length h.cls
  rw [cls_len] at h1
  have h2 := cutC_len D.length h.d2
  have h3 := h.d1
  rw [cut_len] at h1
  have h4 : 0 < ss.length := by
    rw [h1]
    split <;> omega
  refine ⟨h4, ?_⟩
  rw [cut_len] at h2
  omega
/-- Slots that were put later are others. -/
theorem put_apart {l m : Segs} {B C : List UInt8} {ss tt : Slots} (h : Sub m C l B ss) (ht : allHas l tt) : ∀ q ∈ tt, q ∉ ss := by
  intro q hq
  obtain ⟨j, i, rfl, hj⟩ := allHas_nat ht hq
  exact ((h.has j i).1 hj).2
theorem order_law {Z a b c : List UInt8} (hZ : okSt (newS 8) (strB Z)) (ha : 1 ≤ a.length ∧ a.length ≤ 300) (hb : 1 ≤ b.length ∧ b.length ≤ 300) (hc : 1 ≤ c.length ∧ c.length ≤ 300) :
    ∃ l1 B1 k l2 B2 ll l3 B3 m x1 X1 x X y1 Y1, OrderLaw Z a b c l1 B1 k l2 B2 ll l3 B3 m x1 X1 x X y1 Y1 := by
  have fa := cut_five ha.2
  have fb := cut_five hb.2
  have fc := cut_five hc.2
  obtain ⟨a1, a2, a3⟩ := putS_room room_eight hZ ⟨by simp [newS], Pk_new 8⟩ ha.1 (by omega) (by rw [tot_new]; omega)
  have p1 := putS_ok a1
  rw [tot_new] at a3
  obtain ⟨l1, B1, k, e1⟩ : ∃ l1 B1 k, putS (newS 8) Z a = (l1, B1, k, 0) := ⟨_, _, _, Prod.ext rfl (Prod.ext rfl (Prod.ext rfl a1))⟩
  rw [e1] at a2 a3 p1
  have a2 : l1.length = 8 ∧ Pk l1 := a2
  have a3 : tot l1 = 0 + (cutC a.length).length := a3
  have p1 : PutOk (newS 8) Z a l1 B1 k := p1
  obtain ⟨b1, b2, b3⟩ := putS_room room_eight p1.ok a2 hb.1 (by omega) (by omega)
  have p2 := putS_ok b1
  obtain ⟨l2, B2, ll, e2⟩ : ∃ l2 B2 ll, putS l1 B1 b = (l2, B2, ll, 0) := ⟨_, _, _, Prod.ext rfl (Prod.ext rfl (Prod.ext rfl b1))⟩
  rw [e2] at b2 b3 p2
  have b2 : l2.length = 8 ∧ Pk l2 := b2
  have b3 : tot l2 = tot l1 + (cutC b.length).length := b3
  have p2 : PutOk l1 B1 b l2 B2 ll := p2
  obtain ⟨c1, c2, c3⟩ := putS_room room_eight p2.ok b2 hc.1 (by omega) (by omega)
  have p3 := putS_ok c1
  obtain ⟨l3, B3, m, e3⟩ : ∃ l3 B3 m, putS l2 B2 c = (l3, B3, m, 0) := ⟨_, _, _, Prod.ext rfl (Prod.ext rfl (Prod.ext rfl c1))⟩
  rw [e3] at c2 p3
  have c2 : l3.length = 8 ∧ Pk l3 := c2
  have p3 : PutOk l2 B2 c l3 B3 m := p3
  have k2 : allHas l2 k := p2.sub.hasA2 p1.sub.all
  have k3 : allHas l3 k := p3.sub.hasA2 k2
  have ll2 : allHas l2 ll := p2.sub.all
  have ll3 : allHas l3 ll := p3.sub.hasA2 ll2
  have m3 : allHas l3 m := p3.sub.all
  have dkl := put_apart p2.sub p1.sub.all
  have dkm := put_apart p3.sub k2
  have dlm := put_apart p3.sub ll2
  obtain ⟨x1, X1, x, X, e4, e5, q1, q2, o4, o5⟩ := drop_two p3.ok k3 m3 p1.sub.nod p3.sub.nod (fun q hm hk => dkm q hk hm)
  obtain ⟨y1, Y1, y, Y, e6, e7, q3, q4, o6, _⟩ := drop_two p3.ok m3 k3 p3.sub.nod p1.sub.nod dkm
  obtain ⟨z, Z', e8, q5, _⟩ := drop_one p3.ok q4.all q4.nod
  obtain ⟨rfl, rfl⟩ := q2.ext q4 (fun q => by simp only [List.mem_append]; exact Or.comm)
  obtain ⟨rfl, rfl⟩ := q4.ext q5 (fun q => Iff.rfl)
  have hx : allHas x ll := q2.hasA ll3 (fun q hq hm => by
    rcases List.mem_append.1 hm with h | h
    · exact dkl q h hq
    · exact dlm q hq h)
  have e9 : getS x X ll b.length = (b, 0) := by
    rw [get_same q2 p3.ok o5 hx, ← get_same p3.sub p3.ok p2.ok ll2, getS_yes p2.ok ll2 p2.room, p2.got]
  exact ⟨l1, B1, k, l2, B2, ll, l3, B3, m, x1, X1, x, X, y1, Y1, e1, e2, e3, e4, e5, e6, e7, e8, e9, p1.ok, p2.ok, p3.ok, o4, o5, o6, a2.1, b2.1, c2.1, q1.len.trans c2.1, q2.len.trans c2.1, q3.len.trans c2.1, put_num p1, (put_num p2).2, put_num p3⟩
/-- Where one of three is empty. -/
theorem order_bad {Z a b c : List UInt8} (hZ : okSt (newS 8) (strB Z)) (ha : a.length ≤ 300) (hb : b.length ≤ 300) (h : a = [] ∨ b = [] ∨ c = []) :
    ∃ l1 B1 k f l2 B2 ll g l3 B3 m e, putS (newS 8) Z a = (l1, B1, k, f) ∧ putS l1 B1 b = (l2, B2, ll, g) ∧ putS l2 B2 c = (l3, B3, m, e) ∧ okSt l1 (strB B1) ∧ okSt l2 (strB B2) ∧ l1.length = 8 ∧ l2.length = 8 ∧ l3.length = 8 ∧
      ((a = [] ∧ f = 100) ∨ (a ≠ [] ∧ b = [] ∧ f = 0 ∧ g = 100) ∨ (a ≠ [] ∧ b ≠ [] ∧ c = [] ∧ f = 0 ∧ g = 0 ∧ e = 100)) := by
  have hn : (newS 8).length = 8 := List.length_replicate
  obtain ⟨o1, n1⟩ := putS_may a hZ
  obtain ⟨l1, B1, k, f, e1⟩ : ∃ l1 B1 k f, putS (newS 8) Z a = (l1, B1, k, f) := ⟨_, _, _, _, rfl⟩
  have hroom := fun l0 : 1 ≤ a.length => putS_room (D := a) room_eight hZ ⟨by simp [newS], Pk_new 8⟩ l0 (by omega) (by rw [tot_new]; have := cut_five ha; omega)
  rw [tot_new] at hroom
  rw [e1] at o1 n1 hroom
  have o1 : okSt l1 (strB B1) := o1
  have n1 : l1.length = (newS 8).length := n1
  have hroom : 1 ≤ a.length → f = 0 ∧ (l1.length = 8 ∧ Pk l1) ∧ tot l1 = 0 + (cutC a.length).length := hroom
  obtain ⟨o2, n2⟩ := putS_may b o1
  obtain ⟨l2, B2, ll, g, e2⟩ : ∃ l2 B2 ll g, putS l1 B1 b = (l2, B2, ll, g) := ⟨_, _, _, _, rfl⟩
  have hroom2 := fun (hp : l1.length = 8 ∧ Pk l1) (l0 : 1 ≤ b.length) (ht : tot l1 ≤ 5) => putS_room (D := b) room_eight o1 hp l0 (by omega) (by have := cut_five hb; omega)
  rw [e2] at o2 n2 hroom2
  have o2 : okSt l2 (strB B2) := o2
  have n2 : l2.length = l1.length := n2
  obtain ⟨o3, n3⟩ := putS_may c o2
  obtain ⟨l3, B3, m, e, e3⟩ : ∃ l3 B3 m e, putS l2 B2 c = (l3, B3, m, e) := ⟨_, _, _, _, rfl⟩
  rw [e3] at n3
  have n3 : l3.length = l2.length := n3
  refine ⟨_, _, _, _, _, _, _, _, _, _, _, _, e1, e2, e3, o1, o2, n1.trans hn, (n2.trans n1).trans hn, ((n3.trans n2).trans n1).trans hn, ?_⟩
  by_cases h1 : a = []
  · left
    refine ⟨h1, ?_⟩
    rw [h1, putS_nil hZ] at e1
    exact (congrArg (fun x => x.2.2.2) e1).symm
  right
  obtain ⟨r1, r2, r3⟩ := hroom (List.length_pos_iff.2 h1)
  have fa := cut_five ha
  by_cases h2 : b = []
  · left
    refine ⟨h1, h2, r1, ?_⟩
    rw [h2, putS_nil o1] at e2
    exact (congrArg (fun x => x.2.2.2) e2).symm
  right
  obtain ⟨q1, _, _⟩ := hroom2 r2 (List.length_pos_iff.2 h2) (by omega)
  obtain h3 : c = [] := by
    rcases h with h | h | h
    · exact absurd h h1
    · exact absurd h h2
    · exact h
  refine ⟨h1, h2, h3, r1, q1, ?_⟩
  rw [h3, putS_nil o2] at e3
  exact (congrArg (fun x => x.2.2.2) e3).symm
end Go.Proofs.YtfnokklcbmipgaaDoor
