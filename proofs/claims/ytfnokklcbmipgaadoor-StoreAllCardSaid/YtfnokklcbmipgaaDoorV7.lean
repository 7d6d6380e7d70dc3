/- Stores: objects that are kept; the laws of StorePacks and StoreAll. -/
import Derived.Test.YtfnokklcbmipgaaDoorV6
namespace Go.Proofs.YtfnokklcbmipgaaDoor
open Plain

/-- What is kept: slots, and the object in them. -/
abbrev Kept := List (Slots × List UInt8)
structure Keep (l : Segs) (B : List UInt8) (ps : Kept) : Prop where
  ok : okSt l (strB B)
  len : l.length = 20
  each : ∀ p ∈ ps, allHas l p.1 ∧ (gather l B p.1).take p.2.length = p.2 ∧ p.2.length ≤ (gather l B p.1).length ∧ clsOf l p.1 = cutC p.2.length ∧ 1 ≤ p.2.length ∧ p.2.length ≤ 300
  nod : (ps.map (·.1)).flatten.Nodup
  ev : ∀ j k : Nat, hasN l j k → ((j : Int), (k : Int)) ∈ (ps.map (·.1)).flatten
theorem keep_new {Z : List UInt8} (h : okSt (newS 20) (strB Z)) : Keep (newS 20) Z [] :=
  ⟨h, List.length_replicate, fun p hp => by simp at hp, List.nodup_nil, fun j k hj => absurd hj (new_none 20 j k)⟩
theorem Keep.all {l : Segs} {B : List UInt8} {ps : Kept} (h : Keep l B ps) : allHas l (ps.map (·.1)).flatten := by
  intro q hq
  obtain ⟨ss, hs, hq⟩ := List.mem_flatten.1 hq
  obtain ⟨p, hp, rfl⟩ := List.mem_map.1 hs
  exact (h.each p hp).1 q hq
theorem keep_put {l m : Segs} {B C D : List UInt8} {ps : Kept} {ss : Slots} (h : Keep l B ps) (hp : PutOk l B D m C ss) (hD : D.length ≤ 300) : Keep m C (ps ++ [(ss, D)]) := by
  refine ⟨hp.ok, hp.sub.len.symm.trans h.len, ?_, ?_, ?_⟩
  · intro p hm
    rcases List.mem_append.1 hm with hm | hm
    · obtain ⟨h1, h2, h3, h4, h5⟩ := h.each p hm
      have e := hp.sub.gath hp.ok.ok h1
      rw [e] at h2 h3
      exact ⟨hp.sub.hasA2 h1, h2, h3, by rw [← hp.sub.clsOf h1]; exact h4, h5⟩
    · rw [List.mem_singleton.1 hm]
      exact ⟨hp.sub.all, hp.got, hp.room, hp.cls, hp.d1, hD⟩
  · rw [List.map_append, List.flatten_append]
    show ((ps.map (·.1)).flatten ++ [ss].flatten).Nodup
    rw [List.flatten_cons, List.flatten_nil, List.append_nil, List.nodup_append]
    refine ⟨h.nod, hp.sub.nod, fun q hq r hr e => ?_⟩
    subst e
    exact put_apart hp.sub h.all q hq hr
  · intro j k hj
    rw [List.map_append, List.flatten_append]
    show _ ∈ (ps.map (·.1)).flatten ++ [ss].flatten
    rw [List.flatten_cons, List.flatten_nil, List.append_nil, List.mem_append]
    by_cases hm : ((j : Int), (k : Int)) ∈ ss
    · exact .inr hm
    · exact .inl (h.ev j k ((hp.sub.has j k).2 ⟨hj, hm⟩))
theorem kept_at {ps : Kept} {k : Nat} (hk : k < ps.length) : ps = ps.take k ++ ps.getD k ([], []) :: ps.drop (k + 1) := by
  conv => lhs; rw [← List.take_append_drop k ps]
  rw [List.drop_eq_getElem_cons hk]
  rw [List.getD_eq_getElem?_getD, List.getElem?_eq_getElem hk]
  rfl
theorem kept_mem {ps : Kept} {k : Nat} (hk : k < ps.length) : ps.getD k ([], []) ∈ ps := by
  rw [List.getD_eq_getElem?_getD, List.getElem?_eq_getElem hk]
  exact List.getElem_mem hk
theorem keep_drop {l : Segs} {B : List UInt8} {ps : Kept} (h : Keep l B ps) {k : Nat} (hk : k < ps.length) :
    ∃ m C, dropS l B (ps.getD k ([], [])).1 = (m, C, 0) ∧ Keep m C (ps.take k ++ ps.drop (k + 1)) := by
  obtain ⟨p, hp⟩ : ∃ p, ps.getD k ([], []) = p := ⟨_, rfl⟩
  have hsplit := kept_at hk
  have hmem := kept_mem hk
  rw [hp] at hsplit hmem ⊢
  have hperm : (ps.map (·.1)).flatten.Perm (p.1 ++ ((ps.take k ++ ps.drop (k + 1)).map (·.1)).flatten) := by
    conv => lhs; rw [hsplit]
    rw [List.map_append, List.map_cons, List.flatten_append, List.flatten_cons, List.map_append, List.flatten_append]
    exact List.perm_append_comm_assoc _ _ _
  have hnd := hperm.nodup_iff.1 h.nod
  rw [List.nodup_append] at hnd
  obtain ⟨n1, n2, n3⟩ := hnd
  obtain ⟨e1, e2, e3, e4, e5, e6⟩ := h.each p hmem
  obtain ⟨m, C, d1, d2, d3⟩ := drop_one h.ok e1 n1
  have hsub : ∀ p' ∈ ps.take k ++ ps.drop (k + 1), p' ∈ ps := by
    intro p' hp'
    rcases List.mem_append.1 hp' with hp' | hp'
    · exact List.mem_of_mem_take hp'
    · exact List.mem_of_mem_drop hp'
  refine ⟨m, C, d1, d3, d2.len.trans h.len, ?_, n2, ?_⟩
  · intro p' hp'
    obtain ⟨g1, g2, g3, g4, g5⟩ := h.each p' (hsub p' hp')
    have hm : allHas m p'.1 := d2.hasA g1 (fun q hq hqp => n3 q hqp q (List.mem_flatten.2 ⟨p'.1, List.mem_map.2 ⟨p', hp', rfl⟩, hq⟩) rfl)
    have e := d2.gath h.ok.ok hm
    exact ⟨hm, by rw [e]; exact g2, by rw [e]; exact g3, by rw [d2.clsOf hm]; exact g4, g5⟩
  · intro j i hj
    obtain ⟨h1, h2⟩ := (d2.has j i).1 hj
    have := hperm.mem_iff.1 (h.ev j i h1)
    rcases List.mem_append.1 this with h3 | h3
    · exact absurd h3 h2
    · exact h3
theorem keep_num {l : Segs} {B : List UInt8} {ps : Kept} (h : Keep l B ps) : ∀ p ∈ ps, 0 < p.1.length ∧ p.1.length ≤ 65 := by
  intro p hp
  obtain ⟨_, _, _, h4, h5, h6⟩ := h.each p hp
  have h1 := congrArg List.length h4
  rw [cls_len] at h1
  have h2 := cutC_len p.2.length (by omega)
  have h3 : 0 < p.1.length := by
    rw [h1, cut_len]
    split <;> omega
  omega
theorem keep_get {l : Segs} {B : List UInt8} {ps : Kept} (h : Keep l B ps) {p : Slots × List UInt8} (hp : p ∈ ps) : getS l B p.1 p.2.length = (p.2, 0) := by
  obtain ⟨h1, h2, h3, _⟩ := h.each p hp
  rw [getS_yes h.ok h1 h3, h2]
theorem sum_flatten (f : Int × Int → Nat) (L : List Slots) : (L.flatten.map f).sum = (L.map fun ss => (ss.map f).sum).sum := by
  induction L with
  | nil => rfl
  | cons ss L ih => rw [List.flatten_cons, List.map_append, List.sum_append, ih, List.map_cons, List.sum_cons]
/-- How many bytes are taken by what is kept. -/
def keptSum (ps : Kept) : Nat := (ps.map fun p => ((cutC p.2.length).map bN).sum).sum
theorem keep_taken {l : Segs} {B : List UInt8} {ps : Kept} (h : Keep l B ps) : takenL l = keptSum ps := by
  have hd := drop_yes (B := B) h.ok.ok h.all h.nod
  have hs := drop_sub h.ok.ok (okSt_len h.ok) hd
  have hnew := none_new hs.ok fun j k hj => by
    have := (hs.has j k).1 hj
    exact this.2 (h.ev j k this.1)
  have h1 := hs.taken
  rw [hnew, taken_new, sum_flatten] at h1
  rw [← h1, Nat.zero_add, List.map_map]
  unfold keptSum
  congr 1
  refine List.map_congr_left fun p hp => ?_
  obtain ⟨_, _, _, h4, _⟩ := h.each p hp
  show (p.1.map fun q => lenN l q.1.toNat).sum = _
  rw [len_cls, h4]
theorem room_bN (cs : List Int) : roomC cs = ((cs.map bN).sum : Nat) := by
  unfold roomC
  induction cs with
  | nil => rfl
  | cons c cs ih => rw [List.map_cons, List.sum_cons, List.map_cons, List.sum_cons, ih, bN_cast c]; omega
/-- Behind Pack. -/
structure EndLaw (l : Segs) (B : List UInt8) (ps : Kept) (m : Segs) (C : List UInt8) (mv : List Slots) : Prop where
  len : m.length = 20
  num : mv.length = ps.length
  ok : okSt m (strB C)
  got : ∀ i, i < ps.length → getS m C (mv.getD i []) (ps.getD i ([], [])).2.length = ((ps.getD i ([], [])).2, 0)
  size : ∀ ss ∈ mv, ss.length ≤ 20000
  pk : Pk m
  taken : takenR m = takenR l
  held : heldR m ≤ heldR l
theorem keep_pack {l : Segs} {B : List UInt8} {ps : Kept} (h : Keep l B ps) (hps : ps.length ≤ 30) : ∃ m C mv, packS l B (ps.map (·.1)) = (m, C, mv, 0) ∧ EndLaw l B ps m C mv := by
  obtain ⟨m, C, mv, e, p⟩ := pack_law h.ok h.all h.nod h.ev
  refine ⟨m, C, mv, e, p.len.trans h.len, by rw [p.num, List.length_map], p.ok, ?_, ?_, p.pk, ?_, ?_⟩
  · intro i hi
    obtain ⟨g1, g2⟩ := p.got i (by rw [List.length_map]; exact hi)
    have e1 : (ps.map (·.1)).getD i [] = (ps.getD i ([], [])).1 := by
      rw [List.getD_eq_getElem?_getD, List.getElem?_map, List.getD_eq_getElem?_getD, List.getElem?_eq_getElem hi]
      rfl
    rw [e1] at g1
    obtain ⟨h1, h2, h3, _⟩ := h.each _ (kept_mem hi)
    rw [getS_yes p.ok g2 (by rw [g1]; exact h3), g1, h2]
  · intro ss hs
    have h1 := congrArg List.length p.cls
    rw [cls_len, cls_len] at h1
    have h2 : ss.length ≤ mv.flatten.length := by
      obtain ⟨a, b, rfl⟩ := List.append_of_mem hs
      rw [List.flatten_append, List.flatten_cons, List.length_append, List.length_append]
      omega
    have h3 : (ps.map (·.1)).flatten.length ≤ ps.length * 65 := by
      have hn := keep_num h
      clear h h1 h2 hps e p
      induction ps with
      | nil => simp
      | cons p ps ih =>
        have h4 := (hn p List.mem_cons_self).2
        have h5 := ih (fun q hq => hn q (List.mem_cons_of_mem _ hq))
        rw [List.map_cons, List.flatten_cons, List.length_append, List.length_cons, Nat.add_mul]
        omega
    omega
  · unfold takenR
    rw [if_pos p.ok.ok, if_pos h.ok.ok]
    exact p.taken
  · unfold heldR
    rw [if_pos p.ok.ok, if_pos h.ok.ok]
    exact p.held
/-! ### segments that have room, counted -/
theorem opn_succ (l : Segs) (c : Int) (k : Nat) (hk : k < l.length) : opn (l.take (k + 1)) c = opn (l.take k) c + opnF c (l.getD k (0, 0)) := by
  unfold opn sumF
  rw [List.take_succ_eq_append_getElem hk, List.map_append, List.sum_append, List.getD_eq_getElem?_getD, List.getElem?_eq_getElem hk]
  simp
theorem opn_take (l : Segs) (c : Int) (k : Nat) : opn (l.take k) c ≤ opn l c := by
  have : opn l c = opn (l.take k) c + opn (l.drop k) c := by
    unfold opn sumF
    rw [← List.sum_append, ← List.map_append, List.take_append_drop]
  omega
theorem last_bit {c : Int} (hc : 0 ≤ c ∧ c ≤ 3) : (allN c).testBit (nS c - 1) = true := by
  obtain rfl | rfl | rfl | rfl : c = 0 ∨ c = 1 ∨ c = 2 ∨ c = 3 := by omega
  all_goals decide +kernel
theorem open_one {g : Int × Nat} {c : Int} (hc : 0 ≤ c ∧ c ≤ 3) (h1 : g.1 = c) (h2 : g.2.testBit (nS c - 1) = false) : opnF c g = 1 := by
  unfold opnF openC
  rw [if_pos]
  simp only [Bool.and_eq_true, decide_eq_true_eq]
  refine ⟨h1, fun x => ?_⟩
  rw [x, last_bit hc] at h2
  cases h2
end Go.Proofs.YtfnokklcbmipgaaDoor
