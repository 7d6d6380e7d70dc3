/- without, slices.Contains, Same; the contracts of list.Order by what is known. -/
import Derived.Test.YtafkbbjmbbimpaaC6
namespace Go.Proofs.Ytafkbbjmbbimpaa
open Go.RowKit Plain

theorem IntAt.more {w : World} {ao : Option Addr} {l : List Int} (h : IntAt w ao l) (o : Obj) : IntAt (w.alloc o) ao l := h.below ((Below.refl _ _).alloc (Nat.le_refl _) _)
theorem SlOk.below {w w' : World} {ao : Option Addr} {cap : Nat} {l : List Int} (h : SlOk w ao cap l) (hb : Below w.heap.size w w') : SlOk w' ao cap l := ⟨h.1.below hb, h.2⟩
def SliceOut (l : List Int) (w : World) (e : Ending) (w' : World) : Prop := (∃ ao cap, e = .returned (.slice ao l.length cap) ∧ SlOk w' ao cap l) ∧ Below w.heap.size w w'
theorem wo_take (l : List Int) (id : Int) (k : Nat) (hk : k < l.length) : wo (l.take (k + 1)) id = wo (l.take k) id ++ (if l.getD k 0 = id then [] else [l.getD k 0]) := by rw [take_getD l k hk, wo_snoc]
theorem wo_len (l : List Int) (id : Int) : (wo l id).length ≤ l.length := List.length_filter_le _ _
set_option maxHeartbeats 400000 in
theorem without_any (ao : Option Addr) (l : List Int) (cap : Nat) (id : Int) (w : World) (hl : l.length ≤ 5000) (h : IntAt w ao l) : Calls Try.prog 28 #[.slice ao l.length cap, .int .i64 id] w (SliceOut (wo l id) w) := by
  have H1 := Lib.hid h
  clear h
  go_enter Try.func28, Try.ntmps28
  go_wp2_with fail
  go_loopw [5, 10] (fun v i wr => ∃ k : Nat, k ≤ l.length ∧ i = .int .i64 k ∧ wr.ownsRow w.heap.size 3 1 v (wo (l.take k) id).length (ints (wo (l.take k) id)) ∧ Below w.heap.size w wr) (fun _ i _ => l.length - (intOf i).toNat)
  case atStart => exact ⟨0, Nat.zero_le _, rfl, World.ownsRow_nil _ _ _ _, Below.refl _ _⟩
  case round =>
    obtain ⟨k, hk, rfl, hown, hbel⟩ := hrel
    have hsz := hbel.size
    by_cases hlt : k < l.length
    · obtain ⟨b, off, rfl, hc⟩ := (H1.out.below hbel).cell k hlt
      have g1 := hc k hlt
      have hi : (k : Int) < (l.length : Int) := by omega
      have HT := Lib.hid (wo_take l id k hlt)
      have HLen : Hid ((wo (l.take (k + 1)) id).length ≤ 5000) := Nat.le_trans (wo_len _ _) (Nat.le_trans (by rw [List.length_take]; omega) hl)
      obtain ⟨m, hm⟩ : ∃ m, m = wo (l.take k) id := ⟨_, rfl⟩
      obtain ⟨x, hx⟩ : ∃ x, x = l.getD k 0 := ⟨_, rfl⟩
      rw [← hm] at hown HT
      rw [← hx] at g1 HT
      have HO := Lib.hid hown
      clear hown hc hm hx
      by_cases hne : x = id
      · have hb : (x != id) = false := by simpa using hne
        have HT2 : Hid (wo (l.take (k + 1)) id = m) := by show _ = _; rw [HT.out, if_pos hne, List.append_nil]
        clear hne
        go_wp2_with fail
        go_roundw
        case rel => exact ⟨k + 1, by omega, by go_num, by rw [HT2.out]; exact HO.out, hbel⟩
        case measure => simp [intOf]; omega
      · have hb : (x != id) = true := by simpa using hne
        have HT2 : Hid (wo (l.take (k + 1)) id = m ++ [x]) := by show _ = _; rw [HT.out, if_neg hne]
        clear hne
        go_wp2_with (first
          | (at_builtin; refine append_ints rfl _ _ rfl w.heap.size _ m rfl (HO.out.alloc _) _ [x] 1 rfl (lit1 _ _) (by intro h; cases h) (by rw [← HT2.out]; have := HLen.out; omega) (by simp; omega) ?_; intro ao2 cap2 w2 hown1 hb3))
        go_roundw
        case rel => exact ⟨k + 1, by omega, by go_num, by rw [HT2.out]; have h := hown1; rw [List.length_append, List.length_singleton] at h ⊢; exact h, (hbel.alloc hsz _).trans hb3⟩
        case measure => simp [intOf]; omega
    · have hi : ¬ ((k : Int) < (l.length : Int)) := by omega
      rw [List.take_of_length_le (by omega)] at hown
      have HO := Lib.hid hown
      obtain ⟨ao2, cap2, rfl, hint, hn, hcap⟩ := own_int HO.out
      clear hown
      go_wp2_with fail
      go_ret
      exact ⟨⟨ao2, cap2, rfl, hint, hn, hcap⟩, hbel⟩

set_option maxHeartbeats 400000 in
theorem index_any (ao : Option Addr) (l : List Int) (cap : Nat) (id : Int) (w : World) (hl : l.length ≤ 5000) (h : IntAt w ao l) : Calls Try.prog 31 #[.slice ao l.length cap, .int .i64 id] w (fun e w' => (∃ r : Int, e = .returned (.int .i64 r) ∧ (0 ≤ r ↔ id ∈ l)) ∧ w = w') := by
  have H1 := Lib.hid h
  clear h
  go_enter Try.func31, Try.ntmps31
  go_wp2_with fail
  go_loopw [8] (fun i wr => ∃ k : Nat, k ≤ l.length ∧ i = .int .i64 k ∧ id ∉ l.take k ∧ w = wr) (fun i _ => l.length - (intOf i).toNat)
  case atStart => exact ⟨0, Nat.zero_le _, rfl, by simp, rfl⟩
  case round =>
    obtain ⟨k, hk, rfl, hno, rfl⟩ := hrel
    have HN := Lib.hid hno
    clear hno
    by_cases hlt : k < l.length
    · obtain ⟨b, off, rfl, hc⟩ := H1.out.cell k hlt
      have g1 := hc k hlt
      have hi : (k : Int) < (l.length : Int) := by omega
      have HT := Lib.hid (take_getD l k hlt)
      have HM : Hid (l.getD k 0 ∈ l) := by
        show _ ∈ _
        rw [getD_of_lt _ _ _ hlt]; exact List.getElem_mem hlt
      obtain ⟨x, hx⟩ : ∃ x, x = l.getD k 0 := ⟨_, rfl⟩
      rw [← hx] at g1 HT HM
      clear hc hx
      by_cases hne : id = x
      · have hb : (id == x) = true := by simpa using hne
        have HE := Lib.hid hne
        clear hne
        go_wp2_with fail
        go_ret
        exact ⟨⟨k, rfl, by rw [HE.out]; exact ⟨fun _ => HM.out, fun _ => by omega⟩⟩, rfl⟩
      · have hb : (id == x) = false := by simpa using hne
        have HE := Lib.hid hne
        clear hne
        go_wp2_with fail
        go_roundw
        case rel => exact ⟨k + 1, by omega, by go_num, by rw [HT.out, List.mem_append, not_or]; exact ⟨HN.out, by simpa using HE.out⟩, trivial⟩
        case measure => simp [intOf]; omega
    · have hi : ¬ ((k : Int) < (l.length : Int)) := by omega
      have HE : Hid (id ∉ l) := by
        have h := HN.out
        rwa [List.take_of_length_le (by omega)] at h
      go_wp2_with fail
      go_ret
      exact ⟨⟨-1, rfl, ⟨fun h => absurd h (by omega), fun h => absurd h HE.out⟩⟩, rfl⟩
set_option maxHeartbeats 400000 in
theorem contains_any (ao : Option Addr) (l : List Int) (cap : Nat) (id : Int) (w : World) (hl : l.length ≤ 5000) (h : IntAt w ao l) : Calls Try.prog 30 #[.slice ao l.length cap, .int .i64 id] w (fun e w' => e = .returned (.bool (decide (id ∈ l))) ∧ w = w') := by
  go_enter Try.func30, Try.ntmps30
  go_wp2_with (go_at_call 31; refine (index_any _ l _ _ _ hl h).mono ?_; rintro e w1 ⟨⟨r, rfl, hr⟩, rfl⟩)
  go_ret
  refine ⟨?_, rfl⟩
  have hd : decide (id ∈ l) = decide (0 ≤ r) := decide_eq_decide.2 hr.symm
  rw [hd]; rfl

set_option maxHeartbeats 400000 in
theorem same_any (ao bo : Option Addr) (x y : List Int) (cap cap2 : Nat) (w : World) (hx : x.length ≤ 100000) (_hy : y.length ≤ 100000) (h1 : IntAt w ao x) (h2 : IntAt w bo y) :
    Calls Try.prog 20 #[.slice ao x.length cap, .slice bo y.length cap2] w fun e w' => e = .returned (.bool (decide (x = y))) ∧ Below w.heap.size w w' := by
  by_cases hne : x.length = y.length
  · have hlen : ((x.length : Int) != (y.length : Int)) = false := by simp [hne]
    have HN := Lib.hid hne
    have H1 := Lib.hid h1
    have H2 := Lib.hid h2
    clear hne h1 h2
    go_enter Try.func20, Try.ntmps20
    go_wp2_with fail
    go_loopw [5] (fun i wr => ∃ k : Nat, k ≤ x.length ∧ i = .int .i64 k ∧ x.take k = y.take k ∧ Below w.heap.size w wr) (fun i _ => x.length - (intOf i).toNat)
    case atStart => exact ⟨0, Nat.zero_le _, rfl, rfl, Below.refl _ _⟩
    case round =>
      obtain ⟨k, hk, rfl, htake, hbel⟩ := hrel
      have HT := Lib.hid htake
      clear htake
      by_cases hlt : k < x.length
      · have hlt2 : k < y.length := by have := HN.out; omega
        obtain ⟨b, off, rfl, hc⟩ := (H1.out.below hbel).cell k hlt
        obtain ⟨b2, off2, rfl, hc2⟩ := (H2.out.below hbel).cell k hlt2
        have g1 := hc k hlt
        have g2 := hc2 k hlt2
        obtain ⟨p, hp⟩ : ∃ p, p = x.getD k 0 := ⟨_, rfl⟩
        obtain ⟨q, hq⟩ : ∃ q, q = y.getD k 0 := ⟨_, rfl⟩
        rw [← hp] at g1
        rw [← hq] at g2
        have HP := Lib.hid hp
        have HQ := Lib.hid hq
        have hi : (k : Int) < (x.length : Int) := by omega
        have hi2 : (k : Int) < (y.length : Int) := by omega
        clear hc hc2 hp hq
        by_cases hpq : p = q
        · have hb : (p != q) = false := by simpa using hpq
          have HE := Lib.hid hpq
          clear hpq
          go_wp2_with fail
          go_quiet (fail)
          go_wp2_with fail
          go_roundw
          case rel => exact ⟨k + 1, by omega, by go_num, by rw [take_getD _ _ hlt, take_getD _ _ hlt2, HT.out, ← HP.out, ← HQ.out, HE.out], below_drewN _ _ _ _ hbel⟩
          case measure => simp [intOf]; omega
        · have hb : (p != q) = true := by simpa using hpq
          have HE := Lib.hid hpq
          clear hpq
          go_wp2_with fail
          go_quiet (fail)
          go_wp2_with fail
          go_ret
          refine ⟨?_, below_drewN _ _ _ _ hbel⟩
          rw [decide_eq_false (fun e => HE.out (by rw [HP.out, HQ.out, e]))]; rfl
      · have hxy : x = y := by
          have h3 := HT.out
          rwa [List.take_of_length_le (by omega), List.take_of_length_le (by have := HN.out; omega)] at h3
        have HE := Lib.hid (decide_eq_true hxy)
        clear hxy
        go_wp2_with fail
        go_ret
        exact ⟨by rw [HE.out]; rfl, hbel⟩
  · have hlen : ((x.length : Int) != (y.length : Int)) = true := by simp; omega
    have HE := Lib.hid (decide_eq_false (fun e : x = y => hne (by rw [e])))
    clear hne
    go_enter Try.func20, Try.ntmps20
    go_wp2_with fail
    go_ret
    exact ⟨by rw [HE.out]; rfl, Below.refl _ _⟩

def OrderYes (l : List Int) (w : World) (e : Ending) (w' : World) : Prop := (∃ ao cap, e = .returned (.tuple #[.slice ao l.length cap, .bool true]) ∧ SlOk w' ao cap l) ∧ Below w.heap.size w w'
theorem order_yes (l : List Int) (hl : may l) (w : World) : Calls Try.prog 12 #[.agg (cellsT (tell l))] w (OrderYes l w) := by
  refine (order_any _ (tell_ok l) w).mono ?_
  rintro e w' ⟨h | ⟨h, _⟩, hb⟩
  · obtain ⟨m, ao, cap, hm, ht, he, hs⟩ := h
    obtain rfl := tell_inj hm hl ht
    exact ⟨⟨ao, cap, he, hs⟩, hb⟩
  · exact absurd rfl (h l hl)
theorem order_no (t : LC) (hok : t.ok) (hn : NoL t) (w : World) : Calls Try.prog 12 #[.agg (cellsT t)] w (fun e w' => e = .returned (.tuple #[.slice none 0 0, .bool false]) ∧ Below w.heap.size w w') := by
  refine (order_any _ hok w).mono ?_
  rintro e w' ⟨h | ⟨_, h⟩, hb⟩
  · obtain ⟨m, ao, cap, hm, ht, he, hs⟩ := h
    exact absurd ht (hn m hm)
  · exact ⟨h, hb⟩
end Go.Proofs.Ytafkbbjmbbimpaa
