/- store.Pack. -/
import Derived.Test.YtfnokklcbmipgaaDoorT6
namespace Go.Proofs.YtfnokklcbmipgaaDoor
open Go.RowKit Plain

theorem dropGo_cons (l : Segs) (B : List UInt8) (s a : Int) (r : Slots) : dropGo l B ((s, a) :: r) = if okS l ∧ hasL l s a then dropGo (freeN l s.toNat a.toNat) (layB B (posN l s.toNat a.toNat) (lenN l s.toNat) []) r else (l, B, false) := rfl
theorem dropGo_append (l : Segs) (B : List UInt8) (a b : Slots) : dropGo l B (a ++ b) = if (dropGo l B a).2.2 = true then dropGo (dropGo l B a).1 (dropGo l B a).2.1 b else dropGo l B a := by
  induction a generalizing l B with
  | nil => simp [dropGo]
  | cons p r ih =>
    obtain ⟨s, n⟩ := p
    rw [List.cons_append, dropGo_cons, dropGo_cons]
    split
    · exact ih _ _
    · simp
theorem dropGo_keeps (l : Segs) (B : List UInt8) (ss : Slots) (hok : okS l) (hB : B.length = l.length * 512) : okS (dropGo l B ss).1 ∧ (dropGo l B ss).1.length = l.length ∧ (dropGo l B ss).2.1.length = B.length := by
  induction ss generalizing l B with
  | nil => exact ⟨hok, rfl, rfl⟩
  | cons p r ih =>
    obtain ⟨s, n⟩ := p
    unfold dropGo
    split
    · rename_i h
      obtain ⟨k, m, rfl, rfl, hh⟩ := (hasL_iff l s n).1 h.2
      have h2 := ih (freeN l k m) (layB B (posN l k m) (lenN l k) []) (okS_free hok hh) (by rw [freeN_len, layB_len [] (pos_fit hok hh hB)]; exact hB)
      refine ⟨h2.1, h2.2.1.trans (freeN_len _ _ _), h2.2.2.trans (layB_len [] (pos_fit hok hh hB))⟩
    · exact ⟨hok, rfl, rfl⟩
theorem dropGo_has {l : Segs} {B : List UInt8} {ss : Slots} (h : (dropGo l B ss).2.2 = true) : ∀ p ∈ ss, hasL l p.1 p.2 := by
  induction ss generalizing l B with
  | nil => intro p hp; simp at hp
  | cons q r ih =>
    obtain ⟨s, n⟩ := q
    unfold dropGo at h
    split at h
    · rename_i h1
      obtain ⟨k, m, rfl, rfl, hh⟩ := (hasL_iff l s n).1 h1.2
      intro p hp
      rcases List.mem_cons.1 hp with rfl | hp
      · exact h1.2
      · have h2 := ih h p hp
        obtain ⟨k2, m2, e1, e2, hh2⟩ := (hasL_iff _ p.1 p.2).1 h2
        exact (hasL_iff l p.1 p.2).2 ⟨k2, m2, e1, e2, ((has_free hh k2 m2).1 hh2).1⟩
    · cases h
/-- One chain laid anew. -/
def packOne (l0 : Segs) (B0 : List UInt8) : Segs → List UInt8 → Slots → Slots → Segs × List UInt8 × Slots × Int
  | l, B, [], an => (l, B, an, 0)
  | l, B, p :: r, an => if (takeL l (l0.getD p.1.toNat (0, 0)).1).2.2 = 0 then packOne l0 B0 (takeL l (l0.getD p.1.toNat (0, 0)).1).1 (layB B (posN (takeL l (l0.getD p.1.toNat (0, 0)).1).1 (takeL l (l0.getD p.1.toNat (0, 0)).1).2.1.1.toNat (takeL l (l0.getD p.1.toNat (0, 0)).1).2.1.2.toNat) (lenN (takeL l (l0.getD p.1.toNat (0, 0)).1).1 (takeL l (l0.getD p.1.toNat (0, 0)).1).2.1.1.toNat) (slotB l0 B0 p.1.toNat p.2.toNat)) r (an ++ [(takeL l (l0.getD p.1.toNat (0, 0)).1).2.1]) else (l, B, [], (takeL l (l0.getD p.1.toNat (0, 0)).1).2.2)
theorem packOne_cons (l0 : Segs) (B0 : List UInt8) (l : Segs) (B : List UInt8) (p : Int × Int) (r an : Slots) : packOne l0 B0 l B (p :: r) an = if (takeL l (l0.getD p.1.toNat (0, 0)).1).2.2 = 0 then packOne l0 B0 (takeL l (l0.getD p.1.toNat (0, 0)).1).1 (layB B (posN (takeL l (l0.getD p.1.toNat (0, 0)).1).1 (takeL l (l0.getD p.1.toNat (0, 0)).1).2.1.1.toNat (takeL l (l0.getD p.1.toNat (0, 0)).1).2.1.2.toNat) (lenN (takeL l (l0.getD p.1.toNat (0, 0)).1).1 (takeL l (l0.getD p.1.toNat (0, 0)).1).2.1.1.toNat) (slotB l0 B0 p.1.toNat p.2.toNat)) r (an ++ [(takeL l (l0.getD p.1.toNat (0, 0)).1).2.1]) else (l, B, [], (takeL l (l0.getD p.1.toNat (0, 0)).1).2.2) := rfl
/-- All chains laid anew. -/
def packAll (l0 : Segs) (B0 : List UInt8) : Segs → List UInt8 → List Slots → List Slots → Segs × List UInt8 × List Slots × Int
  | l, B, [], told => (l, B, told, 0)
  | l, B, ss :: r, told => if (packOne l0 B0 l B ss []).2.2.2 = 0 then packAll l0 B0 (packOne l0 B0 l B ss []).1 (packOne l0 B0 l B ss []).2.1 r (told ++ [(packOne l0 B0 l B ss []).2.2.1]) else (l, B, [], (packOne l0 B0 l B ss []).2.2.2)
def packEnd (l : Segs) (B : List UInt8) (P : Segs × List UInt8 × List Slots × Int) : Segs × List UInt8 × List Slots × Int := if P.2.2.2 = 0 then P else (l, B, [], P.2.2.2)
noncomputable def packS (l : Segs) (B : List UInt8) (chs : List Slots) : Segs × List UInt8 × List Slots × Int :=
  if okSt l (strB B) ∧ (dropGo l B chs.flatten).2.2 = true ∧ heldR (dropGo l B chs.flatten).1 = 0 then packEnd l B (packAll l B (dropGo l B chs.flatten).1 (dropGo l B chs.flatten).2.1 chs []) else (l, B, [], 120)
theorem packOne_at {l0 : Segs} {B0 : List UInt8} {l : Segs} {B : List UInt8} {ss an : Slots} {k : Nat} (hk : k < ss.length) (s n : Nat) (hp : (((s : Int), (n : Int)) : Int × Int) = ss.getD k (0, 0)) (m : Segs) (i j : Nat) (he : takeL l (l0.getD s (0, 0)).1 = (m, ((i : Int), (j : Int)), 0)) :
    packOne l0 B0 l B (ss.drop k) an = packOne l0 B0 m (layB B (posN m i j) (lenN m i) (slotB l0 B0 s n)) (ss.drop (k + 1)) (an ++ [((i : Int), (j : Int))]) := by
  rw [List.drop_eq_getElem_cons hk]
  have e : ss.getD k (0, 0) = ss[k] := by rw [List.getD_eq_getElem?_getD, List.getElem?_eq_getElem hk]; rfl
  rw [← e, ← hp, packOne_cons]
  simp only [Int.toNat_natCast, he]
  rfl
theorem packOne_err {l0 : Segs} {B0 : List UInt8} {l : Segs} {B : List UInt8} {ss an : Slots} {k : Nat} (hk : k < ss.length) (s n : Nat) (hp : (((s : Int), (n : Int)) : Int × Int) = ss.getD k (0, 0)) (he : (takeL l (l0.getD s (0, 0)).1).2.2 ≠ 0) :
    packOne l0 B0 l B (ss.drop k) an = (l, B, [], (takeL l (l0.getD s (0, 0)).1).2.2) := by
  rw [List.drop_eq_getElem_cons hk]
  have e : ss.getD k (0, 0) = ss[k] := by rw [List.getD_eq_getElem?_getD, List.getElem?_eq_getElem hk]; rfl
  rw [← e, ← hp]
  unfold packOne
  simp only [Int.toNat_natCast]
  rw [if_neg he]
theorem packAll_at {l0 : Segs} {B0 : List UInt8} {l : Segs} {B : List UInt8} {chs told : List Slots} {k : Nat} (hk : k < chs.length) : packAll l0 B0 l B (chs.drop k) told = if (packOne l0 B0 l B (chs.getD k []) []).2.2.2 = 0 then packAll l0 B0 (packOne l0 B0 l B (chs.getD k []) []).1 (packOne l0 B0 l B (chs.getD k []) []).2.1 (chs.drop (k + 1)) (told ++ [(packOne l0 B0 l B (chs.getD k []) []).2.2.1]) else (l, B, [], (packOne l0 B0 l B (chs.getD k []) []).2.2.2) := by
  rw [List.drop_eq_getElem_cons hk]
  have e : chs.getD k [] = chs[k] := by rw [List.getD_eq_getElem?_getD, List.getElem?_eq_getElem hk]; rfl
  rw [e]
  conv => lhs; unfold packAll
theorem flat_at {chs : List Slots} {k : Nat} (hk : k < chs.length) : (chs.drop k).flatten = chs.getD k [] ++ (chs.drop (k + 1)).flatten := by
  rw [List.drop_eq_getElem_cons hk, List.flatten_cons, List.getD_eq_getElem?_getD, List.getElem?_eq_getElem hk]
  rfl
end Go.Proofs.YtfnokklcbmipgaaDoor
