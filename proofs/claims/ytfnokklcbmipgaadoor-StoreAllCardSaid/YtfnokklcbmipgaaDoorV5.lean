/- Stores: room for few objects; what the head of all statements computes. -/
import Derived.Test.YtfnokklcbmipgaaDoorV4
namespace Go.Proofs.YtfnokklcbmipgaaDoor
open Plain

theorem okSt_new {n : Nat} (h : n ≤ 200) : okSt (newS n) (strB (List.replicate (n * 512) 0)) :=
  okSt_mk (okS_new n h) (by simp [newS]) fun p hp => absurd (getD_rep _ p) hp
def tot (l : Segs) : Nat := cnt l 0 + cnt l 1 + cnt l 2 + cnt l 3
theorem tot_new (n : Nat) : tot (newS n) = 0 := by unfold tot; rw [cnt_new, cnt_new, cnt_new, cnt_new]
theorem tot_took {l m : Segs} {c : Int} {i n : Nat} (hk : Took l m c i n) (hc : 0 ≤ c ∧ c ≤ 3) : tot m = tot l + 1 := by
  unfold tot
  rw [cnt_took hk, cnt_took hk, cnt_took hk, cnt_took hk]
  unfold one
  obtain rfl | rfl | rfl | rfl : c = 0 ∨ c = 1 ∨ c = 2 ∨ c = 3 := by omega
  all_goals simp
  all_goals omega
/-- Where slots of any class are to be had, as long as few are taken. -/
def RoomFor (P : Segs → Prop) (k : Nat) : Prop := ∀ (l : Segs) (c : Int), okS l → P l → tot l < k → 0 ≤ c ∧ c ≤ 3 → (takeL l c).2.2 = 0 ∧ P (takeL l c).1
theorem put_room {P : Segs → Prop} {k : Nat} (hr : RoomFor P k) {cs : List Int} : ∀ (l : Segs) (B D : List UInt8) (ss : Slots), okSt l (strB B) → P l → tot l + cs.length ≤ k → (∀ c ∈ cs, 0 ≤ c ∧ c ≤ 3) →
    (putGo l B cs D ss).2.2.2 = 0 ∧ P (putGo l B cs D ss).1 ∧ tot (putGo l B cs D ss).1 = tot l + cs.length := by
  induction cs with
  | nil => exact fun l B D ss _ hp _ _ => ⟨rfl, hp, rfl⟩
  | cons c cs ih =>
    intro l B D ss hst hp hk hc
    rw [List.length_cons] at hk ⊢
    obtain ⟨he, hp2⟩ := hr l c hst.ok hp (by omega) (hc c List.mem_cons_self)
    obtain ⟨i, n, h1, hk2, hkeep⟩ := take_ok2 hst.ok he
    have ht := tot_took hk2 (hc c List.mem_cons_self)
    rw [putGo_cons, if_pos he, h1]
    simp only [Int.toNat_natCast]
    obtain ⟨g1, g2, g3⟩ := ih _ _ (D.drop (lenN (takeL l c).1 i)) (ss ++ [((i : Int), (n : Int))]) (hk2.sub hst hkeep D).2 hp2 (by omega) (fun c' h => hc c' (List.mem_cons_of_mem _ h))
    exact ⟨g1, g2, by rw [g3]; omega⟩
theorem fit_cls {n : Int} (h1 : 1 ≤ n) (h2 : n ≤ 64) : 0 ≤ fitC n ∧ fitC n ≤ 3 := by
  unfold fitC
  (repeat' split) <;> omega
theorem cut_cls (n : Nat) : ∀ c ∈ cutC n, 0 ≤ c ∧ c ≤ 3 := by
  intro c hc
  unfold cutC at hc
  rcases List.mem_append.1 hc with h | h
  · rw [List.eq_of_mem_replicate h]; omega
  · split at h
    · simp at h
    · rw [List.mem_singleton.1 h]
      exact fit_cls (by omega) (by omega)
theorem cut_len (n : Nat) : (cutC n).length = n / 64 + if n % 64 = 0 then 0 else 1 := by
  unfold cutC
  rw [List.length_append, List.length_replicate]
  split <;> rfl
theorem putS_room {P : Segs → Prop} {k : Nat} (hr : RoomFor P k) {l : Segs} {B D : List UInt8} (hst : okSt l (strB B)) (hp : P l) (h1 : 1 ≤ D.length) (h2 : D.length ≤ 4096) (hk : tot l + (cutC D.length).length ≤ k) :
    (putS l B D).2.2.2 = 0 ∧ P (putS l B D).1 ∧ tot (putS l B D).1 = tot l + (cutC D.length).length := by
  obtain ⟨g1, g2, g3⟩ := put_room hr l B D [] hst hp hk (cut_cls _)
  unfold putS
  rw [if_pos hst, if_neg (by omega), if_pos g1]
  exact ⟨g1, g2, g3⟩
theorem room_two : RoomFor (fun l => l.length = 2) 2 := fun l c hok hp ht hc => by
  have he := room_few hok hc (show _ < l.length by unfold tot at ht; omega)
  obtain ⟨i, n, _, hk, _⟩ := take_ok2 hok he
  exact ⟨he, hk.len.trans hp⟩
theorem room_eight : RoomFor (fun l => l.length = 8 ∧ Pk l) 15 := fun l c hok hp ht hc => by
  have he := room_15 hok hp.2 hp.1 hc ht
  obtain ⟨i, n, _, hk, _⟩ := take_ok2 hok he
  exact ⟨he, hk.len.trans hp.1, Pk_take hok hp.2 he⟩
def hello : List UInt8 := [104, 101, 108, 108, 111, 44, 32, 119, 111, 114, 108, 100]
structure AwakeLaw (l1 : Segs) (B1 : List UInt8) (s1 : Slots) (l2 : Segs) (B2 : List UInt8) (s2 : Slots) (l3 : Segs) (B3 : List UInt8) (l4 : Segs) (B4 : List UInt8) (s4 : Slots) : Prop where
  e1 : putS (newS 2) (List.replicate (2 * 512) 0) hello = (l1, B1, s1, 0)
  e2 : putS l1 B1 [120] = (l2, B2, s2, 0)
  e3 : getS l2 B2 s1 12 = (hello, 0)
  e4 : dropS l2 B2 s1 = (l3, B3, 0)
  e5 : getS l3 B3 s1 1 = ([], 120)
  e6 : packS l3 B3 [s2] = (l4, B4, [s4], 0)
  e7 : getS l4 B4 s4 1 = ([120], 0)
  e8 : putS l3 B3 [] = (l3, B3, [], 100)
  o1 : okSt l1 (strB B1)
  o2 : okSt l2 (strB B2)
  o3 : okSt l3 (strB B3)
  o4 : okSt l4 (strB B4)
  n1 : l1.length = 2
  n2 : l2.length = 2
  n3 : l3.length = 2
  n4 : l4.length = 2
  m1 : s1.length ≤ 65
  m2 : s2.length ≤ 65
  m4 : s4.length ≤ 65
theorem cls_len (l : Segs) (ss : Slots) : (clsOf l ss).length = ss.length := List.length_map _
theorem awake_law : ∃ l1 B1 s1 l2 B2 s2 l3 B3 l4 B4 s4, AwakeLaw l1 B1 s1 l2 B2 s2 l3 B3 l4 B4 s4 := by
  have o0 := okSt_new (n := 2) (by omega)
  have hh : hello.length = 12 := rfl
  obtain ⟨a1, a2, a3⟩ := putS_room room_two o0 rfl (D := hello) (by omega) (by omega) (by rw [tot_new, cut_len, hh]; decide)
  have p1 := putS_ok a1
  rw [tot_new, cut_len, hh] at a3
  obtain ⟨l1, B1, s1, e1⟩ : ∃ l1 B1 s1, putS (newS 2) (List.replicate (2 * 512) 0) hello = (l1, B1, s1, 0) := ⟨_, _, _, Prod.ext rfl (Prod.ext rfl (Prod.ext rfl a1))⟩
  rw [e1] at a2 a3 p1
  obtain ⟨b1, b2, b3⟩ := putS_room room_two p1.ok a2 (D := [120]) (by simp) (by simp) (by rw [a3, cut_len]; decide)
  have p2 := putS_ok b1
  obtain ⟨l2, B2, s2, e2⟩ : ∃ l2 B2 s2, putS l1 B1 [120] = (l2, B2, s2, 0) := ⟨_, _, _, Prod.ext rfl (Prod.ext rfl (Prod.ext rfl b1))⟩
  have e2' : putS (l1, B1, s1, (0 : Int)).1 (l1, B1, s1, (0 : Int)).2.1 [120] = (l2, B2, s2, 0) := e2
  rw [e2'] at b2 b3 p2
  have hs1 : allHas l1 s1 := p1.sub.all
  have hs12 : allHas l2 s1 := p2.sub.hasA2 hs1
  have hs2 : allHas l2 s2 := p2.sub.all
  have c1 : clsOf l1 s1 = cutC 12 := p1.cls
  have c2 : clsOf l2 s2 = cutC 1 := p2.cls
  have n1 : s1.length = 1 := by rw [← cls_len l1, c1, cut_len]; rfl
  have n2 : s2.length = 1 := by rw [← cls_len l2, c2, cut_len]; rfl
  have g1 : getS l1 B1 s1 12 = (hello, 0) := by
    have := getS_yes (n := 12) p1.ok hs1 p1.room
    rw [show ((12 : Nat) : Int) = 12 from rfl] at this
    rw [this]
    exact Prod.ext p1.got rfl
  have e3 : getS l2 B2 s1 12 = (hello, 0) := by rw [← get_same p2.sub p2.ok p1.ok hs1]; exact g1
  obtain ⟨l3, B3, e4, q3, o3⟩ := drop_one p2.ok hs12 p1.sub.nod
  have hd : ∀ q ∈ s2, q ∉ s1 := by
    intro q h2 h1
    obtain ⟨j, i, rfl, hj⟩ := allHas_nat hs1 h1
    exact ((p2.sub.has j i).1 hj).2 h2
  have hs3 : allHas l3 s2 := q3.hasA hs2 hd
  have e5 : getS l3 B3 s1 1 = ([], 120) := by
    unfold getS
    rw [if_neg]
    rintro ⟨_, _, h, _⟩
    obtain ⟨q, r, rfl⟩ : ∃ q r, s1 = q :: r := by
      cases s1 with
      | nil => simp at n1
      | cons q r => exact ⟨q, r, rfl⟩
    obtain ⟨j, i, rfl, hj⟩ := allHas_nat h List.mem_cons_self
    exact ((q3.has j i).1 hj).2 List.mem_cons_self
  have hev : ∀ j k : Nat, hasN l3 j k → ((j : Int), (k : Int)) ∈ [s2].flatten := by
    intro j k h
    rw [List.flatten_cons, List.flatten_nil, List.append_nil]
    obtain ⟨h1, h2⟩ := (q3.has j k).1 h
    refine Classical.byContradiction fun hn => ?_
    have h3 := (p2.sub.has j k).2 ⟨h1, hn⟩
    refine Classical.byContradiction fun _ => ?_
    refine new_none 2 j k ((p1.sub.has j k).2 ⟨h3, h2⟩)
  have ef : [s2].flatten = s2 := by rw [List.flatten_cons, List.flatten_nil, List.append_nil]
  obtain ⟨l4, B4, mv, e6, p4⟩ := pack_law (chs := [s2]) o3 (by rw [ef]; exact hs3) (by rw [ef]; exact p2.sub.nod) hev
  obtain ⟨s4, rfl⟩ : ∃ s4, mv = [s4] := by
    have := p4.num
    match mv, this with
    | [s4], _ => exact ⟨s4, rfl⟩
  have hg := p4.got 0 (by simp)
  have hg1 : gather l4 B4 s4 = gather l3 B3 s2 := hg.1
  have hg2 : allHas l4 s4 := hg.2
  have hg3 : gather l3 B3 s2 = gather l2 B2 s2 := q3.gath p2.ok.ok hs3
  have hr : 1 ≤ (gather l2 B2 s2).length := p2.room
  have ht : (gather l2 B2 s2).take 1 = [120] := p2.got
  have e7 : getS l4 B4 s4 1 = ([120], 0) := by
    have := getS_yes (n := 1) p4.ok hg2 (by rw [hg1, hg3]; exact hr)
    rw [show ((1 : Nat) : Int) = 1 from rfl, hg1, hg3, ht] at this
    exact this
  have e8 : putS l3 B3 [] = (l3, B3, [], 100) := by
    unfold putS
    rw [if_pos o3, if_pos (by simp)]
  have m4 : s4.length ≤ 65 := by
    have hnum := congrArg List.length p4.cls
    rw [cls_len, cls_len, ef] at hnum
    simp only [List.flatten_cons, List.flatten_nil, List.append_nil] at hnum
    omega
  exact ⟨l1, B1, s1, l2, B2, s2, l3, B3, l4, B4, s4, e1, e2, e3, e4, e5, e6, e7, e8, p1.ok, p2.ok, o3, p4.ok, a2, b2, q3.len.trans b2, p4.len.trans (q3.len.trans b2), by omega, by omega, m4⟩
end Go.Proofs.YtfnokklcbmipgaaDoor
