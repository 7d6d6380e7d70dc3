/- ArenaRoom: the law and the walk. -/
import Derived.Test.YtfnokklcbmipgaaDoorL6
namespace Go.Proofs.YtfnokklcbmipgaaDoor
open Go.RowKit Plain

theorem p8_zero : p8 0 = 0 := by decide
theorem pop_small {c : Int} (hc : 0 ≤ c ∧ c ≤ 3) {u : Nat} (hu : u < 2 ^ nS c) : pop u ≤ nS c := by
  have h8 := fun b hb => p8_le b hb
  have hcase : c = 0 ∨ c = 1 ∨ c = 2 ∨ c = 3 := by omega
  rw [pop_bs]
  rcases hcase with rfl | rfl | rfl | rfl
  · have := pop_le u
    rw [pop_bs] at this
    exact this
  · have hu : u < 4294967296 := hu
    have e4 : u / 4294967296 % 256 = 0 := by omega
    have e5 : u / 1099511627776 % 256 = 0 := by omega
    have e6 : u / 281474976710656 % 256 = 0 := by omega
    have e7 : u / 72057594037927936 % 256 = 0 := by omega
    rw [e4, e5, e6, e7, p8_zero]
    have a0 := h8 (u % 256) (by omega)
    have a1 := h8 (u / 256 % 256) (by omega)
    have a2 := h8 (u / 65536 % 256) (by omega)
    have a3 := h8 (u / 16777216 % 256) (by omega)
    show _ ≤ 32
    omega
  · have hu : u < 65536 := hu
    have e2 : u / 65536 % 256 = 0 := by omega
    have e3 : u / 16777216 % 256 = 0 := by omega
    have e4 : u / 4294967296 % 256 = 0 := by omega
    have e5 : u / 1099511627776 % 256 = 0 := by omega
    have e6 : u / 281474976710656 % 256 = 0 := by omega
    have e7 : u / 72057594037927936 % 256 = 0 := by omega
    rw [e2, e3, e4, e5, e6, e7, p8_zero]
    have a0 := h8 (u % 256) (by omega)
    have a1 := h8 (u / 256 % 256) (by omega)
    show _ ≤ 16
    omega
  · have hu : u < 256 := hu
    have e1 : u / 256 % 256 = 0 := by omega
    have e2 : u / 65536 % 256 = 0 := by omega
    have e3 : u / 16777216 % 256 = 0 := by omega
    have e4 : u / 4294967296 % 256 = 0 := by omega
    have e5 : u / 1099511627776 % 256 = 0 := by omega
    have e6 : u / 281474976710656 % 256 = 0 := by omega
    have e7 : u / 72057594037927936 % 256 = 0 := by omega
    rw [e1, e2, e3, e4, e5, e6, e7, p8_zero]
    have a0 := h8 (u % 256) (by omega)
    show _ ≤ 8
    omega
theorem pop_full {c : Int} (hc : 0 ≤ c ∧ c ≤ 3) : pop (allN c) = nS c := by
  have hcase : c = 0 ∨ c = 1 ∨ c = 2 ∨ c = 3 := by omega
  rcases hcase with rfl | rfl | rfl | rfl <;> decide +kernel
theorem room_seg {c : Int} (hc : 0 ≤ c ∧ c ≤ 3) : nS c * (bytesC c).toNat = 512 := by
  have hcase : c = 0 ∨ c = 1 ∨ c = 2 ∨ c = 3 := by omega
  rcases hcase with rfl | rfl | rfl | rfl <;> decide
def Of (c : Int) (l : Segs) : Prop := ∀ g ∈ l, g.1 = c ∨ g.1 = -1
theorem room_le {c : Int} (hc : 0 ≤ c ∧ c ≤ 3) : ∀ l : Segs, (∀ g ∈ l, okSeg g) → Of c l → takenL l ≤ l.length * 512
  | [], _, _ => Nat.zero_le _
  | g :: l, h1, h2 => by
    have ih := room_le hc l (fun x hx => h1 x (by simp [hx])) (fun x hx => h2 x (by simp [hx]))
    have hk := h1 g (by simp)
    have hp : pop g.2 * (bytesC g.1).toNat ≤ 512 := by
      obtain ⟨cc, u⟩ := g
      rcases h2 (cc, u) (by simp) with h | h
      · have h : cc = c := h
        subst h
        have hu := ((okSeg_class (by omega) u).1 hk).2
        rw [← room_seg hc]
        exact Nat.mul_le_mul_right _ (pop_small hc hu)
      · have h : cc = -1 := h
        subst h
        show pop u * 0 ≤ 512
        omega
    show pop g.2 * (bytesC g.1).toNat + takenL l ≤ (l.length + 1) * 512
    omega
theorem room_full {c : Int} (hc : 0 ≤ c ∧ c ≤ 3) : ∀ l : Segs, (∀ g ∈ l, g.1 = c ∧ g.2 = allN c) → takenL l = l.length * 512 ∧ heldL l = l.length * 512
  | [], _ => ⟨rfl, rfl⟩
  | g :: l, h1 => by
    obtain ⟨i1, i2⟩ := room_full hc l (fun x hx => h1 x (by simp [hx]))
    obtain ⟨h2, h3⟩ := h1 g (by simp)
    constructor
    · show pop g.2 * (bytesC g.1).toNat + takenL l = (l.length + 1) * 512
      have e : pop g.2 * (bytesC g.1).toNat = 512 := by
        rw [h2, h3, pop_full hc]
        exact room_seg hc
      generalize pop g.2 * (bytesC g.1).toNat = P at *
      omega
    · have hne : decide (g.1 ≠ -1) = true := decide_eq_true (by rw [h2]; omega)
      have e : heldL (g :: l) = 512 + heldL l := by
        unfold heldL
        rw [List.filter_cons, if_pos hne, List.length_cons, Nat.add_mul, Nat.one_mul, Nat.add_comm]
      rw [e, i2, List.length_cons, Nat.add_mul, Nat.one_mul, Nat.add_comm]
theorem getD_of_mem {l : Segs} {g : Int × Nat} (h : g ∈ l) : ∃ j, j < l.length ∧ l.getD j (0, 0) = g := by
  obtain ⟨j, hj, rfl⟩ := List.mem_iff_getElem.1 h
  exact ⟨j, hj, by rw [List.getD_eq_getElem?_getD, List.getElem?_eq_getElem hj]; rfl⟩
theorem of_took {l m : Segs} {c : Int} {i n : Nat} (h : Took l m c i n) (ho : Of c l) : Of c m := by
  intro g hg
  obtain ⟨j, hj, rfl⟩ := getD_of_mem hg
  by_cases e : j = i
  · subst e; exact .inl h.cls
  · rw [h.only j e]
    exact ho _ (getD_mem (by rw [h.len] at hj; exact hj))
theorem room_end {l : Segs} {c : Int} (hok : okS l) (hc : 0 ≤ c ∧ c ≤ 3) (ho : Of c l) (h : (takeL l c).2.2 ≠ 0) : takenL l = l.length * 512 ∧ heldL l = l.length * 512 := by
  have hbn : bytesC c ≠ 0 := by unfold bytesC; (repeat' split) <;> omega
  have hs : seek l c = none := by
    cases hs : seek l c with
    | none => rfl
    | some i => rw [take_some hok hbn hs] at h; exact absurd rfl h
  refine room_full hc l fun g hg => ?_
  unfold seek at hs
  cases h1 : l.findIdx? (openC c) with
  | some i => rw [h1] at hs; cases hs
  | none =>
    rw [h1] at hs
    have hs : l.findIdx? freeC = none := hs
    rw [List.findIdx?_eq_none_iff] at h1 hs
    have h2 := h1 g hg
    have h3 := hs g hg
    unfold openC at h2
    unfold freeC at h3
    simp only [decide_eq_false_iff_not] at h3
    rcases ho g hg with h4 | h4
    · refine ⟨h4, ?_⟩
      rw [decide_eq_true h4, Bool.true_and, decide_eq_false_iff_not, Classical.not_not] at h2
      exact h2
    · exact absurd h4 h3
theorem okS_new (n : Nat) (h : n ≤ 200) : okS (newS n) := by
  refine ⟨by simp [newS]; exact h, fun g hg => ?_⟩
  rw [List.eq_of_mem_replicate hg]
  exact (okSeg_free 0).2 rfl
theorem of_new (c : Int) (n : Nat) : Of c (newS n) := fun g hg => by rw [List.eq_of_mem_replicate hg]; exact .inr rfl
theorem taken_new (n : Nat) : takenL (newS n) = 0 := by
  induction n with
  | zero => rfl
  | succ n ih =>
    show pop 0 * _ + takenL (newS n) = 0
    rw [ih, pop_zero]; simp
attribute [local irreducible] Go.Calls
set_option linter.unusedSimpArgs false in
set_option maxRecDepth 20000 in
set_option maxHeartbeats 4000000 in
theorem room_walk (y x : Int) (w : World) (hy : 0 ≤ y ∧ y < 256) (hx : 0 ≤ x ∧ x < 256) (hT : TabAt w) :
    Calls Tryd.prog 5 #[.int .u8 y, .int .u8 x] w fun e w' => e = .returned (.bool true) ∧ Below w.heap.size w w' := by
  obtain ⟨c, hxc⟩ : ∃ c, x % 4 = c := ⟨_, rfl⟩
  have hc : 0 ≤ c ∧ c ≤ 3 := by omega
  obtain ⟨n, hyn⟩ : ∃ n : Nat, y % 4 = n := ⟨(y % 4).toNat, by omega⟩
  have hn : n ≤ 3 := by omega
  have hbn : bytesC c ≠ 0 := by unfold bytesC; (repeat' split) <;> omega
  have hBp : 0 < (bytesC c).toNat := by have := bytesC_bd c; omega
  have hrs := room_seg hc
  have HC := Lib.hid hc
  have hnS := nS_le c
  go_enter Tryd.func5, Tryd.ntmps5
  go_wp2_with (first
    | (go_at_call 13; refine (awake_any _ hT).mono ?_; rintro e w1 ⟨rfl, hb1⟩; have T1 := hT.grow hb1)
    | (go_at_call 21; refine (new_any n w1 (by omega)).mono ?_; rintro e w2 ⟨⟨ao2, cap2, rfl, hs2⟩, hb2⟩; have T2 := T1.grow hb2))
  have K2 := hb1.link hb2
  have hnl : (newS n).length = n := by simp [newS]
  go_loopw [8, 10, 11] (fun v i f wr => ∃ (l : Segs) (ao : Option Addr) (cap many : Nat) (fi : Int), v = .slice ao n cap ∧ i = .int .i64 many ∧ f = .int .i64 fi ∧ SegAt wr ao l ∧ (ao = none → cap = 0) ∧ okS l ∧ l.length = n ∧ Of c l ∧ takenL l = many * (bytesC c).toNat ∧ (fi = 0 ∨ (takeL l c).2.2 ≠ 0) ∧ Below w2.heap.size w2 wr) (fun _ i f _ => if intOf f = 0 then 401 - (intOf i).toNat else 0)
  case atStart => exact ⟨newS n, ao2, cap2, 0, 0, rfl, rfl, rfl, hs2.at, hs2.nil, okS_new n (by omega), hnl, of_new c n, by rw [taken_new, Nat.zero_mul], .inl rfl, Below.refl _ _⟩
  case round =>
    obtain ⟨l, ao, cap, many, fi, rfl, rfl, rfl, hat, hnil, hok, hll, hof, htk, hfi, hbel⟩ := hrel
    have hle := room_le hc l hok.2 hof
    rw [hll, htk] at hle
    have hmany : many ≤ 192 := by
      have h1 : many * (bytesC c).toNat ≤ n * nS c * (bytesC c).toNat := by rw [Nat.mul_assoc, hrs]; exact hle
      have h2 := Nat.le_of_mul_le_mul_right h1 hBp
      have h3 : n * nS c ≤ 3 * 64 := Nat.mul_le_mul hn hnS
      omega
    by_cases hf : fi = 0
    · subst hf
      have hm4 : (many : Int) < 400 := by omega
      obtain ⟨m, ⟨s, a⟩, e0, hE⟩ : ∃ m sa e, takeL l c = (m, sa, e) := ⟨_, _, _, rfl⟩
      have hwf := hok.wf
      have T3 := T2.grow hbel
      by_cases he : e0 = 0
      · subst he
        obtain ⟨i, k, _, hk⟩ := take_ok (c := c) hok (by rw [hE])
        rw [hE] at hk
        have hk : Took l m c i k := hk
        have HM := Lib.hid (And.intro hk.ok (And.intro (hk.len.trans hll) (And.intro (of_took hk hof) (show takenL m = (many + 1) * (bytesC c).toNat by rw [hk.taken, htk, Nat.add_mul, Nat.one_mul]))))
        have HE := Lib.hid hE
        clear hok hof htk hfi hle hk hE hrs hBp hc hxc hyn
        go_wp2_with (first
          | (go_at_call 15; refine (take_lit n l m c s a 0 ao cap wr hll HE.out (by omega) hwf hat hnil T3).mono ?_; rintro e w3 ⟨⟨ao3, cap3, rfl, hs3⟩, hb3⟩)
          | (refine wpList_storeSlot rfl (.tmp 13) (.tmp 38) rfl _ s a 0 0 rfl rfl (SlotRow.new w3 0 0) ?_; intro w4 hr4 hon4; have hb4 := hon4.fresh; have hs4 := hs3.below hb4))
        go_roundw
        case rel => exact ⟨m, ao3, cap3, many + 1, 0, rfl, by go_num, rfl, hs4.at, hs4.nil, HM.out.1, HM.out.2.1, HM.out.2.2.1, HM.out.2.2.2, .inl rfl, hbel.link (hb3.link hb4)⟩
        case measure => simp [intOf]; omega
      · have hml : m = l := by
          have := take_err (l := l) (c := c) (by rw [hE]; exact he)
          rw [hE] at this
          simp only [Prod.mk.injEq] at this
          exact this.1
        subst hml
        have HM := Lib.hid (And.intro hok (And.intro hof (And.intro htk (show (takeL m c).2.2 ≠ 0 by rw [hE]; exact he))))
        have HE := Lib.hid hE
        have hez : (e0 == 0) = false := by simpa using he
        have HEN := Lib.hid he
        clear hok hof htk hfi hle hE hrs hBp hc hxc hyn he
        go_wp2_with (first
          | (go_at_call 15; refine (take_lit n m m c s a e0 ao cap wr hll HE.out (by omega) hwf hat hnil T3).mono ?_; rintro e w3 ⟨⟨ao3, cap3, rfl, hs3⟩, hb3⟩)
          | (refine wpList_storeSlot rfl (.tmp 13) (.tmp 38) rfl _ s a 0 0 rfl rfl (SlotRow.new w3 0 0) ?_; intro w4 hr4 hon4; have hb4 := hon4.fresh; have hs4 := hs3.below hb4))
        go_roundw
        case rel => exact ⟨m, ao3, cap3, many, e0, rfl, rfl, rfl, hs4.at, hs4.nil, HM.out.1, hll, HM.out.2.1, HM.out.2.2.1, .inr HM.out.2.2.2, hbel.link (hb3.link hb4)⟩
        case measure => have := HEN.out; simp [intOf, this]; omega
    · have hfz : (fi == 0) = false := by simpa using hf
      obtain ⟨h1, h2⟩ := room_end hok hc hof (hfi.resolve_left hf)
      rw [hll] at h1 h2
      have hmn : many = n * nS c := by
        have h3 : many * (bytesC c).toNat = n * nS c * (bytesC c).toNat := by rw [Nat.mul_assoc, hrs, ← htk, h1]
        exact Nat.eq_of_mul_eq_mul_right hBp h3
      have hmul : IntKind.i64.wrap ((n : Int) * (nS c : Int)) = (many : Int) := by
        rw [hmn, ← Int.natCast_mul, IntWalk.i64_in _ (by omega)]
      have HR1 : Hid (takenR l = n * 512) := by show _ = _; unfold takenR; rw [if_pos hok]; exact h1
      have HR2 : Hid (heldR l = n * 512) := by show _ = _; unfold heldR; rw [if_pos hok]; exact h2
      obtain ⟨t, ht⟩ : ∃ t : Nat, n * 512 = t := ⟨_, rfl⟩
      have h512 : IntKind.i64.wrap (512 * (n : Int)) = (t : Int) := by rw [IntWalk.i64_in _ (by omega)]; omega
      rw [ht] at HR1 HR2
      have hwf := hok.wf
      clear hok hof htk hfi hle hrs hBp hc hxc hyn hf h1 h2 hmn ht
      go_wp2_with (first
        | (go_at_call 23; refine (rslots_any _ _).mono ?_; rintro e w5 ⟨rfl, rfl⟩; rw [slotsC_nS])
        | (go_at_call 19; refine (taken_lit n l t ao cap _ hll HR1.out hwf hat).mono ?_; rintro e w6 ⟨rfl, hb6⟩; have hat6 := hat.below hb6)
        | (go_at_call 22; refine (held_lit n l t ao cap _ hll HR2.out hwf hat6).mono ?_; rintro e w7 ⟨rfl, hb7⟩))
      go_ret
      exact ⟨rfl, K2.link (hbel.link (hb6.link hb7))⟩
end Go.Proofs.YtfnokklcbmipgaaDoor
