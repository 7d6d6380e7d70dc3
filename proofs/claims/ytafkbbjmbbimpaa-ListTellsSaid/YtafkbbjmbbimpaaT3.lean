/- The document's answer: Told. -/
import Derived.Test.YtafkbbjmbbimpaaT2
import Derived.BigRegion
namespace Go.Proofs.Ytafkbbjmbbimpaa
open Go.RowKit Plain

theorem IntAt.cellB {w : World} {ao : Option Addr} {l : List Int} (h : IntAt w ao l) (i : Nat) (hi : i < l.length) : ∃ b off, ao = some ⟨b, off, none⟩ ∧ b < w.heap.size ∧ ∀ i, i < l.length → w.cell? ⟨b, off + i, none⟩ = some (.int .i64 (l.getD i 0)) := by
  rcases h with h | ⟨b, off, h1, h2, h3⟩
  · subst h; simp at hi
  · exact ⟨b, off, h1, h2, h3⟩
theorem set_rep (n i : Nat) (a : Int) : (List.replicate n a).set i a = List.replicate n a := by
  refine List.ext_getElem (by simp) ?_
  intro j h1 h2
  rw [List.getElem_set]
  split <;> simp
theorem tail_take {l : List Int} {k : Nat} (hk : k + 1 ≤ l.length) : (tell (l.take (k + 1))).tail = l.getD k 0 := by
  rw [take_getD l k (by omega), tell_snoc]; rfl
theorem told_first {l : List Int} (h0 : 0 < l.length) : tell (l.take 1) = { { { newT with inn := newT.inn.set (l.getD 0 0).toNat true } with tail := l.getD 0 0 } with head := l.getD 0 0 } := by
  have e := take_getD l 0 h0
  rw [List.take_zero, List.nil_append] at e
  rw [e]
  show Plain.stepT newT _ = _
  have hp : newT.prev.set (l.getD 0 0).toNat (-1) = newT.prev := by
    exact set_rep 64 _ (-1)
  have hn : newT.tail = -1 := rfl
  unfold Plain.stepT
  rw [hn, hp]
  simp
theorem told_next {l : List Int} (hl : may l) {k : Nat} (hk : k + 1 < l.length) : tell (l.take (k + 2)) = { { { { tell (l.take (k + 1)) with inn := (tell (l.take (k + 1))).inn.set (l.getD (k + 1) 0).toNat true } with tail := l.getD (k + 1) 0 } with prev := (tell (l.take (k + 1))).prev.set (l.getD (k + 1) 0).toNat (l.getD k 0) } with next := (tell (l.take (k + 1))).next.set (l.getD k 0).toNat (l.getD (k + 1) 0) } := by
  have ht := tail_take (l := l) (k := k) (by omega)
  have hr : inR (l.getD k 0) := by rw [getD_of_lt _ _ _ (by omega)]; exact hl.1 _ (List.getElem_mem _)
  rw [take_getD l (k + 1) hk, tell_snoc]
  generalize tell (l.take (k + 1)) = T at *
  unfold Plain.stepT
  unfold inR at hr
  rw [ht]
  have hng : ¬ l.getD k 0 < 0 := by omega
  rw [if_neg hng, if_neg hng]
set_option maxHeartbeats 400000 in
theorem told_any (ao : Option Addr) (l : List Int) (cap : Nat) (w : World) (hl : may l) (h : IntAt w ao l) : Calls Try.prog 22 #[.slice ao l.length cap] w (fun e w' => e = .returned (.agg (cellsT (tell l))) ∧ Below w.heap.size w w') := by
  obtain ⟨z26, s26⟩ := zero_of_info zero26
  have sz := cellsT_size zeroT_ok
  have hcb := begin_cells
  have sb := cellsT_size beginT_ok
  have ob := cellsT_one beginT
  obtain ⟨cz, hcz⟩ : ∃ cz, cz = cellsT zeroT := ⟨_, rfl⟩
  obtain ⟨cb, hcb2⟩ : ∃ cb, cb = cellsT beginT := ⟨_, rfl⟩
  rw [← hcz] at z26 sz hcb
  rw [← hcb2] at hcb sb ob
  have st : (storeCells ⟨w.heap.size + 1, 0, none⟩ ((cz.toList.set 192 (.int .i64 (-1))).set 193 (.int .i64 (-1))) 0).run Try.prog ((w.alloc (.cells cz 26)).alloc (.cells cz 26)) = .ok () ((w.alloc (.cells cz 26)).alloc (.cells cb 26)) := by
    have h1 := store_at ((w.alloc (.cells cz 26)).alloc (.cells cz 26)) (w.heap.size + 1) cz cb ((cz.toList.set 192 (.int .i64 (-1))).set 193 (.int .i64 (-1))) (by have := heap_alloc_last (w.alloc (.cells cz 26)) (.cells cz 26); rwa [World.size_alloc] at this) sz (by rw [hcb]; simp) sb ob
    have h2 := setRow_last (w.alloc (.cells cz 26)) cz cb 26
    rw [World.size_alloc] at h2
    rw [h1, h2]
  have HB : Hid (cb = cellsT beginT) := Lib.hid hcb2
  have HZ : Hid (cz = cellsT zeroT) := Lib.hid hcz
  have H1 := Lib.hid h
  have HL := Lib.hid hl
  have hlen := may_len hl
  clear hcz hcb2 hcb s26 ob h hl
  go_enter Try.func22, Try.ntmps22
  go_wp2_with fail
  go_loopw [4] (fun i wr => ∃ k : Nat, k ≤ 64 ∧ i = .int .i64 k ∧ At wr (w.heap.size + 1) (newAt k) ∧ At wr w.heap.size zeroT ∧ Below w.heap.size w wr) (fun i _ => 64 - (intOf i).toNat)
  case atStart =>
    refine ⟨0, Nat.zero_le _, rfl, ?_, ?_, ?_⟩
    · rw [HB.out]
      have := At.alloc (w := w.alloc (.cells cz 26)) beginT_ok
      rwa [World.size_alloc] at this
    · rw [HZ.out]
      exact (At.alloc zeroT_ok).more _
    · exact ((Below.refl _ _).alloc (Nat.le_refl _) _).alloc (by simp) _
  case round =>
    obtain ⟨k, hk, rfl, hat, hz, hbel⟩ := hrel
    by_cases hlt : k < 64
    · have g1 := hat.next k hlt
      have g2 := hat.prev k hlt
      have f1 := hat.frozen k
      have f2 := hat.frozen (64 + k)
      have HA := Lib.hid hat
      clear hat
      go_wp2_with fail
      go_roundw
      case rel =>
        refine ⟨k + 1, by omega, by go_num, ?_, ?_, ?_⟩
        · rw [← newAt_succ k hlt]
          exact (HA.out.setNext k hlt (-1)).setPrev k hlt (-1)
        · exact (hz.other _ _ _ (by omega)).other _ _ _ (by omega)
        · exact (hbel.setCell (by simp) _).setCell (by simp) _
      case measure => simp [intOf]; omega
    · have hk64 : k = 64 := by omega
      rw [hk64, newAt_64] at hat
      have hl : ¬ ((k : Int) < 64) := by omega
      have HA := Lib.hid hat
      have HBEL := Lib.hid hbel
      have HZR := Lib.hid hz
      clear hat hbel hz
      go_wp2_with fail
      clear hl hk hk64 HZ HB
      rename World => w1
      go_loopw [5] (fun i wi => ∃ j : Nat, j ≤ l.length ∧ i = .int .i64 j ∧ At wi (w.heap.size + 1) (tell (l.take j)) ∧ At wi w.heap.size zeroT ∧ Below w.heap.size w wi) (fun i _ => l.length - (intOf i).toNat)
      case atStart => exact ⟨0, Nat.zero_le _, rfl, by rw [List.take_zero]; exact HA.out, HZR.out, HBEL.out⟩
      case round =>
        obtain ⟨j, hj, rfl, hat, hz, hbel⟩ := hrel
        by_cases hlt : j < l.length
        · obtain ⟨b, off, rfl, hbl, hc0⟩ := H1.out.cellB j hlt
          have hc := fun i hi => (hbel.cell (p := ⟨b, off + i, none⟩) hbl).trans (hc0 i hi)
          have hne : ¬ (b = w.heap.size + 1) := by omega
          have hne' : ¬ (w.heap.size + 1 = b) := by omega
          have hi : (j : Int) < (l.length : Int) := by omega
          by_cases hj0 : j = 0
          · subst hj0
            have g1 := hc 0 hlt
            have HS := Lib.hid (told_first (l := l) hlt)
            have hx : inR (l.getD 0 0) := by rw [getD_of_lt _ _ _ hlt]; exact HL.out.1 _ (List.getElem_mem _)
            obtain ⟨n, hn⟩ : ∃ n : Nat, l.getD 0 0 = n := ⟨(l.getD 0 0).toNat, by unfold inR at hx; omega⟩
            have hn64 : n < 64 := by unfold inR at hx; omega
            have hn64' : (n : Int) < 64 := by omega
            rw [hn, Nat.add_zero] at g1
            rw [hn] at HS
            rw [List.take_zero] at hat
            have hat : At wr (w.heap.size + 1) newT := hat
            generalize newT = T at *
            have gi := hat.inn n hn64
            have gt := hat.tail
            have gh := hat.head
            have n1 : ¬ (128 + n = 193) := by omega
            have n3 : ¬ (193 = 128 + n) := by omega
            have n2 : ¬ (128 + n = 192) := by omega
            have n4 : ¬ (192 = 128 + n) := by omega
            have fi := hat.frozen (128 + n)
            have ft := hat.frozen 193
            have fh := hat.frozen 192
            have HA := Lib.hid hat
            clear hx hn hc hc0 hat
            go_wp2_with fail
            go_roundw
            case rel =>
              refine ⟨1, by omega, by go_num, ?_, ?_, ?_⟩
              · rw [HS.out]
                exact ((HA.out.setIn n hn64 true).setTail n).setHead n
              · exact ((hz.other _ _ _ (by omega)).other _ _ _ (by omega)).other _ _ _ (by omega)
              · exact ((hbel.setCell (by simp) _).setCell (by simp) _).setCell (by simp) _
            case measure => simp [intOf]; omega
          · obtain ⟨p, hp⟩ : ∃ p, j = p + 1 := ⟨j - 1, by omega⟩
            have hT := told_next (l := l) HL.out (k := p) (by omega)
            have hS : tell (l.take (j + 1)) = { { { { tell (l.take j) with inn := (tell (l.take j)).inn.set (l.getD j 0).toNat true } with tail := l.getD j 0 } with prev := (tell (l.take j)).prev.set (l.getD j 0).toNat (l.getD p 0) } with next := (tell (l.take j)).next.set (l.getD p 0).toNat (l.getD j 0) } := by rw [hp]; exact hT
            have hx : inR (l.getD j 0) := by rw [getD_of_lt _ _ _ hlt]; exact HL.out.1 _ (List.getElem_mem _)
            have hy : inR (l.getD p 0) := by rw [getD_of_lt _ _ _ (by omega)]; exact HL.out.1 _ (List.getElem_mem _)
            have g1 := hc j hlt
            have g2 := hc p (by omega)
            obtain ⟨n, hn⟩ : ∃ n : Nat, l.getD j 0 = n := ⟨(l.getD j 0).toNat, by unfold inR at hx; omega⟩
            obtain ⟨m, hm⟩ : ∃ m : Nat, l.getD p 0 = m := ⟨(l.getD p 0).toNat, by unfold inR at hy; omega⟩
            have hn64 : n < 64 := by unfold inR at hx; omega
            have hn64' : (n : Int) < 64 := by omega
            have hm64 : m < 64 := by unfold inR at hy; omega
            have hm64' : (m : Int) < 64 := by omega
            have hpl : (p : Int) < (l.length : Int) := by omega
            have hj0' : ((j : Int) == 0) = false := by simp; exact hj0
            have hw : IntKind.i64.wrap ((j : Int) - 1) = (p : Int) := by rw [IntWalk.i64_in _ (by omega)]; omega
            rw [hn] at g1 hS
            rw [hm] at g2 hS
            have HS := Lib.hid hS
            generalize tell (l.take j) = T at *
            have gi := hat.inn n hn64
            have gt := hat.tail
            have gp := hat.prev n hn64
            have gn := hat.next m hm64
            have n1 : ¬ (128 + n = 193) := by omega
            have n2 : ¬ (193 = 128 + n) := by omega
            have n3 : ¬ (64 + n = 193) := by omega
            have n4 : ¬ (193 = 64 + n) := by omega
            have n5 : ¬ (m = 193) := by omega
            have n6 : ¬ (193 = m) := by omega
            have n7 : ¬ (64 + n = 128 + n) := by omega
            have n8 : ¬ (128 + n = 64 + n) := by omega
            have n9 : ¬ (m = 64 + n) := by omega
            have n10 : ¬ (64 + n = m) := by omega
            have n11 : ¬ (m = 128 + n) := by omega
            have n12 : ¬ (128 + n = m) := by omega
            have fi := hat.frozen (128 + n)
            have ft := hat.frozen 193
            have fp := hat.frozen (64 + n)
            have fn := hat.frozen m
            have HA := Lib.hid hat
            have HJ := Lib.hid hj0
            clear hx hy hn hm hc hc0 hat hT hS hp hj0
            go_wp2_with fail
            go_region
            go_wp2_with fail
            go_region
            go_wp2_with fail
            go_roundw
            case rel =>
              refine ⟨j + 1, by omega, by go_num, ?_, ?_, ?_⟩
              · rw [HS.out]
                exact ((((HA.out.setIn n hn64 true).setTail n).setPrev n hn64 m).setNext m hm64 n).drewN 2
              · exact ((((hz.other _ _ _ (by omega)).other _ _ _ (by omega)).other _ _ _ (by omega)).other _ _ _ (by omega)).drewN 2
              · exact below_drewN _ _ 2 _ ((((hbel.setCell (by simp) _).setCell (by simp) _).setCell (by simp) _).setCell (by simp) _)
            case measure => simp [intOf]; omega
        · have hi : ¬ ((j : Int) < (l.length : Int)) := by omega
          have hjl : j = l.length := by omega
          rw [hjl, List.take_length] at hat
          have ok := tell_ok l
          have hr := hz.row
          obtain ⟨t, ht⟩ : ∃ t, t = tell l := ⟨_, rfl⟩
          rw [← ht] at hat ok
          have HT := Lib.hid ht
          clear ht
          go_wp2_with (first
            | (refine wpList_loadT rfl _ rfl _ rfl _ (by assumption) ?_)
            | (refine wpList_storeT rfl _ _ rfl _ t rfl rfl (by assumption) (by assumption) ?_; intro w2 hat2 hon2))
          refine bodyPost_ret (results_list rfl _ _ _ t hat2 rfl) rfl ⟨by rw [HT.out], ?_⟩
          exact hon2.below hbel (Nat.le_refl _)
end Go.Proofs.Ytafkbbjmbbimpaa
