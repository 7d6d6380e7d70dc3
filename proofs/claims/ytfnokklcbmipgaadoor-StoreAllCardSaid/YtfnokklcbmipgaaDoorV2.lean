/- Stores: what is put is got; StoreBack's law, StoreNone's law. -/
import Derived.Test.YtfnokklcbmipgaaDoorV1
namespace Go.Proofs.YtfnokklcbmipgaaDoor
open Plain

def chunkB : List Int → List UInt8 → List UInt8
  | [], _ => []
  | c :: cs, D => (D.take (bN c) ++ List.replicate (bN c - D.length) 0) ++ chunkB cs (D.drop (bN c))
theorem chunk_eq (cs : List Int) (D : List UInt8) : chunkB cs D = D.take (cs.map bN).sum ++ List.replicate ((cs.map bN).sum - D.length) 0 := by
  induction cs generalizing D with
  | nil => simp [chunkB]
  | cons c cs ih =>
    unfold chunkB
    rw [ih, List.map_cons, List.sum_cons, List.length_drop]
    by_cases h : bN c ≤ D.length
    · have e : bN c - D.length = 0 := by omega
      rw [e, List.replicate_zero, List.append_nil, ← List.append_assoc, ← List.take_add]
      congr 2
      omega
    · have e1 : D.take (bN c) = D := List.take_of_length_le (by omega)
      have e2 : D.drop (bN c) = [] := List.drop_of_length_le (by omega)
      have e3 : D.take (bN c + (cs.map bN).sum) = D := List.take_of_length_le (by omega)
      rw [e1, e2, e3, List.take_nil, List.nil_append, List.append_assoc, List.replicate_append_replicate]
      congr 2
      omega
theorem chunk_take {cs : List Int} {D : List UInt8} (h : D.length ≤ (cs.map bN).sum) : (chunkB cs D).take D.length = D ∧ D.length ≤ (chunkB cs D).length := by
  rw [chunk_eq, List.take_of_length_le h]
  refine ⟨?_, by simp⟩
  rw [List.take_append, List.take_length, Nat.sub_self]
  simp
theorem cut_room {n : Nat} : n ≤ ((cutC n).map bN).sum := by
  unfold cutC
  rw [List.map_append, List.sum_append, List.map_replicate, show bN 3 = 64 from rfl, List.sum_replicate_nat]
  have h1 := Nat.div_add_mod n 64
  have h2 := Nat.mod_lt n (show 0 < 64 by decide)
  split
  · simp; omega
  · rename_i h0
    have h3 : n % 64 ≤ bN (fitC (n % 64 : Nat)) := by
      generalize n % 64 = r at *
      unfold fitC
      (repeat' split) <;> (first | (exfalso; omega) | (show r ≤ 8; omega) | (show r ≤ 16; omega) | (show r ≤ 32; omega) | (show r ≤ 64; omega))
    simp only [List.map_cons, List.map_nil, List.sum_cons, List.sum_nil]
    omega
theorem lay_slot {l : Segs} {B : List UInt8} (k n : Nat) (D : List UInt8) (h : posN l k n + lenN l k ≤ B.length) : slotB l (layB B (posN l k n) (lenN l k) D) k n = D.take (lenN l k) ++ List.replicate (lenN l k - D.length) 0 := by
  unfold slotB layB
  have e : (D.take (lenN l k) ++ List.replicate (lenN l k - D.length) (0 : UInt8)).length = lenN l k := by simp only [List.length_append, List.length_take, List.length_replicate]; omega
  rw [List.append_assoc, List.drop_left' (by rw [List.length_take]; omega), List.take_left' e]
/-- One slot taken, and laid. -/
theorem Took.sub {l m : Segs} {c : Int} {i n : Nat} {B : List UInt8} (hk : Took l m c i n) (hst : okSt l (strB B)) (hcl : ∀ j k, hasN l j k → (m.getD j (0, 0)).1 = (l.getD j (0, 0)).1) (D : List UInt8) :
    Sub m (layB B (posN m i n) (lenN m i) D) l B [((i : Int), (n : Int))] ∧ okSt m (strB (layB B (posN m i n) (lenN m i) D)) := by
  have hBl := okSt_len hst
  have hBm : B.length = m.length * 512 := by rw [hk.len]; exact hBl
  have hfit := pos_fit hk.ok hk.is hBm
  have hup : ∀ j k, hasN l j k → hasN m j k := by
    intro j k h
    by_cases e : j = i ∧ k = n
    · obtain ⟨rfl, rfl⟩ := e
      exact hk.is
    · exact (hk.other j k e).1 h
  refine ⟨⟨hst.ok, hk.len.symm, (layB_len _ hfit).symm, ?_, ?_, fun j k h => (hcl j k h).symm, ?_, ?_, by simp, ?_, ?_⟩, ?_⟩
  · intro q hq
    rw [List.mem_singleton.1 hq]
    exact (hasL_nat _ _ _).2 hk.is
  · intro j k
    rw [List.mem_singleton, Prod.mk.injEq]
    constructor
    · intro h
      refine ⟨hup j k h, fun e => ?_⟩
      obtain ⟨rfl, rfl⟩ : j = i ∧ k = n := by omega
      exact hk.was h
    · rintro ⟨h, e⟩
      exact (hk.other j k (fun e2 => e (by omega))).2 h
  · intro p j k hq hc
    rw [List.mem_singleton, Prod.mk.injEq] at hq
    obtain ⟨rfl, rfl⟩ : j = i ∧ k = n := by omega
    refine Classical.byContradiction fun hne => ?_
    obtain ⟨j2, k2, h1, h2⟩ := okSt_in hst hne
    obtain ⟨r1, r2⟩ := cov_disj hk.ok hk.is (hup _ _ h1) hc ((cov_cls (hcl j2 k2 h1) k2 p).2 h2)
    subst r1 r2
    exact hk.was h1
  · intro p hq
    have hc := hq i n (List.mem_singleton.2 rfl)
    unfold cov at hc
    rw [layB_get _ hfit, if_neg hc]
  · have h1 := hk.taken
    have h2 : lenN m i = (bytesC c).toNat := by unfold lenN bN; rw [hk.cls]
    simp only [List.map_cons, List.map_nil, List.sum_cons, List.sum_nil, Int.toNat_natCast]
    omega
  · intro c'
    have := cnt_free hk.ok hk.is c'
    rw [hk.back] at this
    rw [← this]
    exact congrArg _ (count_one _ _)
  · refine okSt_mk hk.ok (by rw [layB_len _ hfit]; exact hBm) fun p hp => ?_
    by_cases hc : cov m i n p
    · exact ⟨i, n, hk.is, hc⟩
    · have hc2 := hc
      unfold cov at hc2
      rw [layB_get _ hfit, if_neg hc2] at hp
      obtain ⟨j2, k2, h1, h2⟩ := okSt_in hst hp
      exact ⟨j2, k2, hup _ _ h1, (cov_cls (hcl j2 k2 h1) k2 p).2 h2⟩
theorem gather_cons (l : Segs) (B : List UInt8) (j i : Nat) (r : Slots) : gather l B (((j : Int), (i : Int)) :: r) = slotB l B j i ++ gather l B r := by
  unfold gather
  rw [List.flatMap_cons]
  rfl
theorem putGo_cons (l : Segs) (B : List UInt8) (c : Int) (cs : List Int) (D : List UInt8) (ss : Slots) : putGo l B (c :: cs) D ss = if (takeL l c).2.2 = 0 then putGo (takeL l c).1 (layB B (posN (takeL l c).1 (takeL l c).2.1.1.toNat (takeL l c).2.1.2.toNat) (lenN (takeL l c).1 (takeL l c).2.1.1.toNat) D) cs (D.drop (lenN (takeL l c).1 (takeL l c).2.1.1.toNat)) (ss ++ [(takeL l c).2.1]) else (l, B, [], (takeL l c).2.2) := rfl
structure Laid (l : Segs) (B : List UInt8) (m : Segs) (C : List UInt8) (cs : List Int) (ss : Slots) (G : List UInt8) : Prop where
  sub : Sub m C l B ss
  ok : okSt m (strB C)
  got : gather m C ss = G
  cls : clsOf m ss = cs
theorem Laid.cons {l l1 m : Segs} {B B1 C : List UInt8} {c : Int} {i n : Nat} {cs : List Int} {ss : Slots} {G : List UInt8} (hk : Took l l1 c i n) (hst : okSt l (strB B)) (hcl : ∀ j k, hasN l j k → (l1.getD j (0, 0)).1 = (l.getD j (0, 0)).1) {D : List UInt8} (hB1 : B1 = layB B (posN l1 i n) (lenN l1 i) D) (h : Laid l1 B1 m C cs ss G) :
    Laid l B m C (c :: cs) (((i : Int), (n : Int)) :: ss) ((D.take (bN c) ++ List.replicate (bN c - D.length) 0) ++ G) := by
  subst hB1
  obtain ⟨s1, s2⟩ := hk.sub hst hcl D
  have h2 := h.sub.cls i n hk.is
  have hlen : lenN l1 i = bN c := by unfold lenN; rw [hk.cls]
  refine ⟨(h.sub.trans s1).perm (List.perm_append_comm (l₂ := [((i : Int), (n : Int))])), h.ok, ?_, ?_⟩
  · rw [gather_cons, h.got, ← h.sub.slot h.ok.ok hk.is, lay_slot, hlen]
    refine pos_fit hk.ok hk.is ?_
    rw [hk.len]
    exact okSt_len hst
  · unfold clsOf
    rw [List.map_cons]
    have := h.cls
    unfold clsOf at this
    rw [this, show ((i : Int), (n : Int)).1.toNat = i from rfl, ← h2, hk.cls]
theorem put_law {l : Segs} {B : List UInt8} {cs : List Int} {D : List UInt8} {ss0 : Slots} (hst : okSt l (strB B)) (he : (putGo l B cs D ss0).2.2.2 = 0) :
    ∃ ss, (putGo l B cs D ss0).2.2.1 = ss0 ++ ss ∧ Laid l B (putGo l B cs D ss0).1 (putGo l B cs D ss0).2.1 cs ss (chunkB cs D) := by
  induction cs generalizing l B D ss0 with
  | nil => exact ⟨[], (List.append_nil _).symm, Sub.nil B hst.ok, hst, rfl, rfl⟩
  | cons c cs ih =>
    rw [putGo_cons] at he ⊢
    by_cases h0 : (takeL l c).2.2 = 0
    · rw [if_pos h0] at he ⊢
      obtain ⟨i, n, h1, hk, hcl⟩ := take_ok2 hst.ok h0
      rw [h1] at he ⊢
      have hs := (hk.sub hst hcl D).2
      have hlen : lenN (takeL l c).1 i = bN c := by unfold lenN; rw [hk.cls]
      obtain ⟨ss, g1, g2⟩ := ih (D := D.drop (lenN (takeL l c).1 i)) (ss0 := ss0 ++ [((i : Int), (n : Int))]) hs he
      refine ⟨((i : Int), (n : Int)) :: ss, by rw [show ∀ a b : Int, ((a, b) : Int × Int).1 = a from fun _ _ => rfl, show ∀ a b : Int, ((a, b) : Int × Int).2 = b from fun _ _ => rfl, Int.toNat_natCast, Int.toNat_natCast, g1, List.append_assoc]; rfl, ?_⟩
      have := Laid.cons hk hst hcl rfl g2
      rw [hlen] at this
      simp only [Int.toNat_natCast, hlen]
      rw [hlen] at g1
      exact this
    · rw [if_neg h0] at he
      exact absurd he h0
end Go.Proofs.YtfnokklcbmipgaaDoor
