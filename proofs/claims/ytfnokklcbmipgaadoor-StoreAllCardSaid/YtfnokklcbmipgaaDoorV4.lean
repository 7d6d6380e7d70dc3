/- Stores: what Pack does, in plain words. -/
import Derived.Test.YtfnokklcbmipgaaDoorV3
namespace Go.Proofs.YtfnokklcbmipgaaDoor
open Plain

theorem has_cls {l : Segs} (hok : okS l) {j i : Nat} (h : hasN l j i) : 0 ≤ (l.getD j (0, 0)).1 ∧ (l.getD j (0, 0)).1 ≤ 3 := by
  have := hasN_lt hok h
  exact nS_pos.1 (by omega)
theorem count_cons' (a : Int) (t : List Int) (c : Int) : (a :: t).count c = t.count c + one a c := by
  rw [List.count_cons]
  unfold one
  by_cases h : a = c <;> simp [h]
theorem cnt_took {l m : Segs} {c : Int} {i n : Nat} (hk : Took l m c i n) (c' : Int) : cnt m c' = cnt l c' + one c c' := by
  have := cnt_free hk.ok hk.is c'
  rw [hk.back, hk.cls] at this
  exact this.symm
theorem pack_one {l0 : Segs} {B0 : List UInt8} (h0 : okS l0) (hB0 : B0.length = l0.length * 512) (ss : Slots) (hall : allHas l0 ss) : ∀ (l : Segs) (B : List UInt8) (an : Slots), okSt l (strB B) → Pk l → l.length = l0.length → (∀ c, cnt l c + (clsOf l0 ss).count c ≤ cnt l0 c) →
    (packOne l0 B0 l B ss an).2.2.2 = 0 ∧ ∃ tt, (packOne l0 B0 l B ss an).2.2.1 = an ++ tt ∧ Laid l B (packOne l0 B0 l B ss an).1 (packOne l0 B0 l B ss an).2.1 (clsOf l0 ss) tt (gather l0 B0 ss) ∧ Pk (packOne l0 B0 l B ss an).1 ∧ (∀ c, cnt (packOne l0 B0 l B ss an).1 c = cnt l c + (clsOf l0 ss).count c) ∧ (packOne l0 B0 l B ss an).1.length = l.length := by
  induction ss with
  | nil => exact fun l B an hst hp hl hc => ⟨rfl, [], (List.append_nil _).symm, ⟨Sub.nil B hst.ok, hst, rfl, rfl⟩, hp, fun c => rfl, rfl⟩
  | cons q r ih =>
    intro l B an hst hp hl hc
    obtain ⟨j, i, rfl, hh⟩ := allHas_nat hall List.mem_cons_self
    have hcl := has_cls h0 hh
    have hlen := slotB_len (B := B0) h0 hh hB0
    have e0 : clsOf l0 (((j : Int), (i : Int)) :: r) = (l0.getD j (0, 0)).1 :: clsOf l0 r := rfl
    have e1 : gather l0 B0 (((j : Int), (i : Int)) :: r) = slotB l0 B0 j i ++ gather l0 B0 r := gather_cons l0 B0 j i r
    rw [e0, e1]
    rw [e0] at hc
    rw [packOne_cons]
    simp only [Int.toNat_natCast]
    have hbn : lenN l0 j = bN (l0.getD j (0, 0)).1 := rfl
    rw [hbn] at hlen
    generalize (l0.getD j (0, 0)).1 = c at *
    have hle : ∀ c', cnt l c' ≤ cnt l0 c' := fun c' => by have := hc c'; omega
    have hlt : cnt l c < cnt l0 c := by
      have := hc c
      rw [count_cons'] at this
      unfold one at this
      simp at this
      omega
    have he := room_packed hst.ok h0 hp hl hcl hle hlt
    rw [if_pos he]
    obtain ⟨i', n', h1, hk, hkeep⟩ := take_ok2 hst.ok he
    rw [h1]
    simp only [Int.toNat_natCast]
    have hs := (hk.sub hst hkeep (slotB l0 B0 j i)).2
    have hcnt := cnt_took hk
    obtain ⟨g0, tt, g1, g2, g3, g4, g5⟩ := ih (fun p hp => hall p (List.mem_cons_of_mem _ hp)) _ _ (an ++ [((i' : Int), (n' : Int))]) hs (Pk_take hst.ok hp he) (hk.len.trans hl) (fun c' => by
      have := hc c'
      rw [count_cons'] at this
      rw [hcnt]
      omega)
    refine ⟨g0, ((i' : Int), (n' : Int)) :: tt, by rw [g1, List.append_assoc]; rfl, ?_, g3, fun c' => by rw [g4, hcnt, count_cons']; omega, g5.trans hk.len⟩
    have := Laid.cons hk hst hkeep rfl g2
    rw [hlen, Nat.sub_self, List.replicate_zero, List.append_nil, List.take_of_length_le (by omega)] at this
    exact this
theorem packAll_cons (l0 : Segs) (B0 : List UInt8) (l : Segs) (B : List UInt8) (ss : Slots) (r told : List Slots) : packAll l0 B0 l B (ss :: r) told = if (packOne l0 B0 l B ss []).2.2.2 = 0 then packAll l0 B0 (packOne l0 B0 l B ss []).1 (packOne l0 B0 l B ss []).2.1 r (told ++ [(packOne l0 B0 l B ss []).2.2.1]) else (l, B, [], (packOne l0 B0 l B ss []).2.2.2) := rfl
theorem clsOf_append (l : Segs) (a b : Slots) : clsOf l (a ++ b) = clsOf l a ++ clsOf l b := List.map_append
theorem Sub.clsOf {l m : Segs} {B C : List UInt8} {ss tt : Slots} (h : Sub l B m C ss) (ht : allHas m tt) : clsOf m tt = clsOf l tt := by
  refine List.map_congr_left fun q hq => ?_
  obtain ⟨j, i, rfl, hh⟩ := allHas_nat ht hq
  rw [show ((j : Int), (i : Int)).1.toNat = j from rfl, h.cls j i hh]
structure Packed (l0 : Segs) (B0 : List UInt8) (chs : List Slots) (l : Segs) (B : List UInt8) (m : Segs) (C : List UInt8) (mv : List Slots) : Prop where
  num : mv.length = chs.length
  sub : Sub m C l B mv.flatten
  ok : okSt m (strB C)
  pk : Pk m
  cls : clsOf m mv.flatten = clsOf l0 chs.flatten
  got : ∀ i, i < chs.length → gather m C (mv.getD i []) = gather l0 B0 (chs.getD i []) ∧ allHas m (mv.getD i [])
theorem pack_all {l0 : Segs} {B0 : List UInt8} (h0 : okS l0) (hB0 : B0.length = l0.length * 512) (chs : List Slots) (hall : ∀ ss ∈ chs, allHas l0 ss) : ∀ (l : Segs) (B : List UInt8) (told : List Slots), okSt l (strB B) → Pk l → l.length = l0.length → (∀ c, cnt l c + (clsOf l0 chs.flatten).count c ≤ cnt l0 c) →
    (packAll l0 B0 l B chs told).2.2.2 = 0 ∧ ∃ mv, (packAll l0 B0 l B chs told).2.2.1 = told ++ mv ∧ Packed l0 B0 chs l B (packAll l0 B0 l B chs told).1 (packAll l0 B0 l B chs told).2.1 mv := by
  induction chs with
  | nil => exact fun l B told hst hp hl hc => ⟨rfl, [], (List.append_nil _).symm, rfl, Sub.nil B hst.ok, hst, hp, rfl, fun i hi => absurd hi (Nat.not_lt_zero _)⟩
  | cons ss r ih =>
    intro l B told hst hp hl hc
    have hfl : clsOf l0 (ss :: r).flatten = clsOf l0 ss ++ clsOf l0 r.flatten := by rw [List.flatten_cons, clsOf_append]
    rw [hfl] at hc
    obtain ⟨g0, tt, g1, g2, g3, g4, g5⟩ := pack_one h0 hB0 ss (hall ss List.mem_cons_self) l B [] hst hp hl (fun c => by have := hc c; rw [List.count_append] at this; omega)
    rw [List.nil_append] at g1
    rw [packAll_cons, if_pos g0]
    obtain ⟨k0, mv, k1, k2⟩ := ih (fun s hs => hall s (List.mem_cons_of_mem _ hs)) _ _ (told ++ [(packOne l0 B0 l B ss []).2.2.1]) g2.ok g3 (g5.trans hl) (fun c => by have := hc c; rw [List.count_append] at this; rw [g4]; omega)
    refine ⟨k0, tt :: mv, by rw [k1, g1, List.append_assoc]; rfl, by rw [List.length_cons, k2.num, List.length_cons], ?_, k2.ok, k2.pk, ?_, ?_⟩
    · rw [List.flatten_cons]
      exact (k2.sub.trans g2.sub).perm List.perm_append_comm
    · rw [List.flatten_cons, clsOf_append, k2.cls, ← k2.sub.clsOf g2.sub.all, g2.cls, hfl]
    · intro i hi
      cases i with
      | zero =>
        rw [List.getD_cons_zero, List.getD_cons_zero]
        exact ⟨(k2.sub.gath k2.ok.ok g2.sub.all).symm.trans g2.got, k2.sub.hasA2 g2.sub.all⟩
      | succ i =>
        rw [List.getD_cons_succ, List.getD_cons_succ]
        exact k2.got i (by simpa using hi)
theorem len_cls (l : Segs) (ss : Slots) : (ss.map fun q => lenN l q.1.toNat).sum = ((clsOf l ss).map bN).sum := by
  unfold clsOf
  rw [List.map_map]
  rfl
theorem new_none (n k m : Nat) : ¬ hasN (newS n) k m := by
  rintro ⟨_, h⟩
  have : (newS n).getD k (0, 0) = (-1, 0) ∨ (newS n).getD k (0, 0) = (0, 0) := by
    unfold newS
    rw [List.getD_eq_getElem?_getD, List.getElem?_replicate]
    split
    · exact .inl rfl
    · exact .inr rfl
  rcases this with e | e <;> rw [e] at h <;> simp at h
theorem held_new (n : Nat) : heldL (newS n) = 0 := by
  unfold heldL newS
  rw [List.filter_replicate]
  simp
/-- Nothing taken: as new. -/
theorem none_new {l : Segs} (h : okS l) (hn : ∀ j k, ¬ hasN l j k) : l = newS l.length :=
  ext_segs h (okS_new _ h.1) (by simp [newS]) (fun j k => ⟨fun x => absurd x (hn j k), fun x => absurd x (new_none _ j k)⟩) fun j k x => absurd x (hn j k)
structure PackLaw (l0 : Segs) (B0 : List UInt8) (chs : List Slots) (m : Segs) (C : List UInt8) (mv : List Slots) : Prop where
  len : m.length = l0.length
  num : mv.length = chs.length
  ok : okSt m (strB C)
  got : ∀ i, i < chs.length → gather m C (mv.getD i []) = gather l0 B0 (chs.getD i []) ∧ allHas m (mv.getD i [])
  pk : Pk m
  taken : takenL m = takenL l0
  held : heldL m ≤ heldL l0
  cls : clsOf m mv.flatten = clsOf l0 chs.flatten
theorem pack_law {l0 : Segs} {B0 : List UInt8} {chs : List Slots} (hst : okSt l0 (strB B0)) (hall : allHas l0 chs.flatten) (hnd : chs.flatten.Nodup) (hev : ∀ j k : Nat, hasN l0 j k → ((j : Int), (k : Int)) ∈ chs.flatten) :
    ∃ m C mv, packS l0 B0 chs = (m, C, mv, 0) ∧ PackLaw l0 B0 chs m C mv := by
  have hB0 := okSt_len hst
  have hd := drop_yes (B := B0) hst.ok hall hnd
  have hs := drop_sub hst.ok hB0 hd
  have ho := hs.okst hst
  have hnone : ∀ j k, ¬ hasN (dropGo l0 B0 chs.flatten).1 j k := fun j k h => by
    have := (hs.has j k).1 h
    exact this.2 (hev j k this.1)
  have hnew := none_new hs.ok hnone
  have hp : Pk (dropGo l0 B0 chs.flatten).1 := by rw [hnew]; exact Pk_new _
  have hh : heldR (dropGo l0 B0 chs.flatten).1 = 0 := by
    unfold heldR
    rw [if_pos hs.ok, hnew]
    exact held_new _
  obtain ⟨g0, mv, g1, g2⟩ := pack_all hst.ok hB0 chs (fun ss hss p hp => hall p (List.mem_flatten.2 ⟨ss, hss, hp⟩)) _ _ [] ho hp hs.len (fun c => by rw [hs.cnt c]; exact Nat.le_refl _)
  rw [List.nil_append] at g1
  refine ⟨_, _, mv, ?_, (g2.sub.len.symm.trans hs.len), g2.num, g2.ok, g2.got, g2.pk, ?_, ?_, g2.cls⟩
  · unfold packS
    rw [if_pos ⟨hst, hd, hh⟩]
    unfold packEnd
    rw [if_pos g0]
    refine Prod.ext rfl (Prod.ext rfl (Prod.ext g1 g0))
  · have h1 := hs.taken
    have h2 := g2.sub.taken
    rw [len_cls] at h1 h2
    rw [g2.cls] at h2
    omega
  · refine held_packed g2.ok.ok hst.ok g2.pk fun c => ?_
    have h1 := hs.cnt c
    have h2 := g2.sub.cnt c
    rw [g2.cls] at h2
    omega
end Go.Proofs.YtfnokklcbmipgaaDoor
