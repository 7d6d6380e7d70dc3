/- The walk of ClassSegments. -/
import Derived.Test.YthhhdgomhlmlmaaL2
import Derived.Laws.AppendOwnNone
namespace Go.Proofs.Ythhhdgomhlmlmaa
open Go.RowKit

/-- append(v, l...) where the call owns v, and l is any list of integers. -/
theorem append_ints {ops : Array Oper} {rest : List Oper} {o : Oper} {a : Act} {Q : Exit → Act → World → Prop} {w : World} (hgd : o.guard = none) (s x : Operand)
    (ho : o.op = .call { callee := .builtin .append, args := #[s, x], argTypes := #[22, 22] })
    (base : Nat) (v : Value) (xs : List Int) (hs : a.eval s = v) (hown : w.ownsRow base 3 1 v xs.length (ints xs))
    (ao : Option Addr) (l : List Int) (c : Nat) (hx : a.eval x = .slice ao l.length c) (hat : IntAt w ao l) (hnone : ao = none → c = 0)
    (h63 : (xs ++ l).length ≤ 100000) (hbase : base ≤ w.heap.size)
    (h : ∀ ao' cap' w', w'.ownsRow base 3 1 (.slice ao' (xs ++ l).length cap') (xs ++ l).length (ints (xs ++ l)) → Below base w w' → wpList Try.prog ops Q rest (a.put o.dst (.slice ao' (xs ++ l).length cap')) w') : wpList Try.prog ops Q (o :: rest) a w := by
  obtain ⟨i0, hi0, hz0, hz1, hz2⟩ := info_parts info3
  have fin : ∀ v' w', w'.ownsRow base 3 1 v' (xs ++ l).length (ints (xs ++ l)) → Below base w w' → wpList Try.prog ops Q rest (a.put o.dst v') w' := by
    intro v' w' ho' hb
    obtain ⟨ao', cap', hv, _, _⟩ := own_int ho'
    rw [hv] at ho' ⊢
    exact h ao' cap' w' ho' hb
  cases ao with
  | none =>
    have hl : l = [] := by rcases hat with h | ⟨_, _, h, _⟩
                           · exact h
                           · cases h
    subst hl
    have hc := hnone rfl
    subst hc
    refine wpList_append_own_none hgd s x 22 ho base 3 i0 1 Try.underlying22 hi0 v _ _ hs hown hx ?_
    exact fin v w (by simpa using hown) (Below.refl _ _)
  | some ad =>
    rw [List.length_append] at h63
    refine wpList_append_own w hgd s x 22 ho base 3 i0 (.int .i64 0) 1 8 Try.underlying22 hi0 hz0 hz1 hz2 rfl (by decide) v _ _ hs hown ad l.length c (ints l) hx (by simp [ints]) ?_ ?_ (by unfold maxLen; omega) (by omega) hbase ?_
    · intro j u hj
      have hjl : j < l.length := by
        have := (List.getElem?_eq_some_iff.1 hj).1
        simpa [ints] using this
      obtain ⟨b, off, hao, hcell⟩ := hat.cell j hjl
      cases hao
      have e : (⟨b, off, none⟩ : Addr).add j = ⟨b, off + j, none⟩ := by unfold Addr.add; split <;> simp_all
      rw [e, hcell j hjl]
      unfold ints at hj
      rw [List.getElem?_map, List.getElem?_eq_getElem hjl] at hj
      rw [← hj, List.getD_eq_getElem?_getD, List.getElem?_eq_getElem hjl]
      rfl
    · intro u hu
      unfold ints at hu
      obtain ⟨z, _, rfl⟩ := List.mem_map.1 hu
      rfl
    · intro v' w' ho' hg _
      refine fin v' w' ?_ ((Below.refl _ _).grown hg hbase (own_ge hown))
      rw [List.length_append]
      have e : ints (xs ++ l) = ints xs ++ ints l := by simp [ints]
      rw [e]
      exact ho'
theorem empty_row (w : World) (base : Nat) (hb : base ≤ w.heap.size) : (w.alloc (.cells #[] 3)).ownsRow base 3 1 (.slice (some ⟨w.heap.size, 0, none⟩) 0 0) ([] : List Int).length (ints []) := World.ownsRow_lit w #[] 0 hb (by unfold maxLen; omega) rfl
theorem four_facts (k : Nat) (hk : k ≤ 3) : bytesC k * slotsC k = 512 ∧ (k = 0 ∨ bytesC k = 2 * bytesC ((k : Int) - 1)) ∧ fitC (bytesC k) = k := by
  match k, hk with
  | 0, _ => decide
  | 1, _ => decide
  | 2, _ => decide
  | 3, _ => decide
set_option maxHeartbeats 1600000 in
theorem segs_walk (c : Nat) (ao bo : Option Addr) (l m : List Int) (cap cap2 : Nat) (w : World) (hc : c < 256) (hl : l.length ≤ maxLen) (hm : m.length ≤ maxLen) (h1 : IntAt w ao l) (h2 : IntAt w bo m) (n1 : ao = none → cap = 0) (n2 : bo = none → cap2 = 0) :
    Calls Try.prog 7 #[.int .u8 c, .slice ao l.length cap, .slice bo m.length cap2] w fun e w' => e = .returned (.bool true) ∧ Below w.heap.size w w' := by
  unfold maxLen at hl hm
  have H1 := Lib.hid h1
  have H2 := Lib.hid h2
  have N1 := Lib.hid n1
  have N2 := Lib.hid n2
  clear h1 h2 n1 n2
  obtain ⟨k, hk, hk3⟩ : ∃ k : Nat, (c : Int) % 4 = k ∧ k ≤ 3 := ⟨c % 4, by omega, by omega⟩
  go_enter Try.func7, Try.ntmps7
  go_wp2_with fail
  refine (awake_any _).mono ?_
  rintro e w1 ⟨rfl, hb1⟩
  by_cases b1 : 1000 < l.length
  · have d1 : decide ((1000 : Int) < l.length) = true := by simp; omega
    go_wp2_with fail
    go_ret
    exact ⟨rfl, hb1⟩
  have d1 : decide ((1000 : Int) < l.length) = false := by simp; omega
  by_cases b2 : 1000 < m.length
  · have d2 : decide ((1000 : Int) < m.length) = true := by simp; omega
    go_wp2_with fail
    go_ret
    exact ⟨rfl, hb1⟩
  have d2 : decide ((1000 : Int) < m.length) = false := by simp; omega
  have hs1 := hb1.size
  go_wp2_with (first
    | (refine append_ints rfl (.tmp 23) (.tmp 24) rfl w.heap.size _ [] rfl (empty_row w1 _ hs1) _ l _ rfl (H1.out.below (hb1.alloc hs1 _)) N1.out (by simp; omega) (by simp; omega) ?_; intro a1 c1 w2 hown1 hbel1; simp only [List.nil_append] at hown1)
    | (refine append_ints rfl (.tmp 25) (.tmp 26) rfl w.heap.size _ l rfl hown1 _ m _ rfl (H2.out.below ((hb1.alloc hs1 _).trans hbel1)) N2.out (by simp; omega) (by have := hbel1.size; simp at this; omega) ?_; intro a2 c2 w3 hown2 hbel2))
  have hat2 : IntAt w3 a2 (l ++ m) := by
    obtain ⟨ao', cap', hv, h, _⟩ := own_int hown2
    injection hv with h1
    rw [h1]; exact h
  have hb3 : Below w.heap.size w w3 := ((hb1.alloc hs1 _).trans hbel1).trans hbel2
  have HX := Lib.hid hat2
  have HL := Lib.hid (H1.out.below hb3)
  have HM := Lib.hid (H2.out.below hb3)
  have hrl := roomC_bd l
  have hrm := roomC_bd m
  clear hat2 hown1 hown2 hbel1 hbel2
  rcases (show k = 0 ∨ k = 1 ∨ k = 2 ∨ k = 3 by omega) with rfl | rfl | rfl | rfl
  · refine (bytes_any _ _).mono ?_
    rintro e w' ⟨rfl, rfl⟩
    rw [show bytesC ((0 : Nat) : Int) = 8 from rfl]
    go_wp2_with (first
      | (go_at_call 11; refine (bytes_any _ _).mono ?_; rintro e w' ⟨rfl, rfl⟩; first | rw [show bytesC 0 = 8 from rfl] | rw [show bytesC 1 = 16 from rfl] | rw [show bytesC 2 = 32 from rfl] | rw [show bytesC 3 = 64 from rfl])
      | (go_at_call 13; refine (slots_any _ _).mono ?_; rintro e w' ⟨rfl, rfl⟩; rw [show slotsC 0 = 64 from rfl])
      | (go_at_call 15; refine (fit_any _ _).mono ?_; rintro e w' ⟨rfl, rfl⟩; rw [show fitC 8 = 0 from rfl]))
    refine (room_len a2 (l ++ m) (l.length + m.length) c2 _ (by simp) (by omega) HX.out).mono ?_
    rintro e w' ⟨rfl, rfl⟩
    rw [roomC_append]
    go_wp2_with fail
    refine (room_len ao l l.length cap _ rfl (by omega) HL.out).mono ?_
    rintro e w' ⟨rfl, rfl⟩
    go_wp2_with fail
    refine (room_len bo m m.length cap2 _ rfl (by omega) HM.out).mono ?_
    rintro e w' ⟨rfl, rfl⟩
    go_wp2_with fail
    go_ret
    exact ⟨rfl, hb3⟩
  · refine (bytes_any _ _).mono ?_
    rintro e w' ⟨rfl, rfl⟩
    rw [show bytesC ((1 : Nat) : Int) = 16 from rfl]
    go_wp2_with (first
      | (go_at_call 11; refine (bytes_any _ _).mono ?_; rintro e w' ⟨rfl, rfl⟩; first | rw [show bytesC 0 = 8 from rfl] | rw [show bytesC 1 = 16 from rfl] | rw [show bytesC 2 = 32 from rfl] | rw [show bytesC 3 = 64 from rfl])
      | (go_at_call 13; refine (slots_any _ _).mono ?_; rintro e w' ⟨rfl, rfl⟩; rw [show slotsC 1 = 32 from rfl])
      | (go_at_call 15; refine (fit_any _ _).mono ?_; rintro e w' ⟨rfl, rfl⟩; rw [show fitC 16 = 1 from rfl]))
    refine (room_len a2 (l ++ m) (l.length + m.length) c2 _ (by simp) (by omega) HX.out).mono ?_
    rintro e w' ⟨rfl, rfl⟩
    rw [roomC_append]
    go_wp2_with fail
    refine (room_len ao l l.length cap _ rfl (by omega) HL.out).mono ?_
    rintro e w' ⟨rfl, rfl⟩
    go_wp2_with fail
    refine (room_len bo m m.length cap2 _ rfl (by omega) HM.out).mono ?_
    rintro e w' ⟨rfl, rfl⟩
    go_wp2_with fail
    go_ret
    exact ⟨rfl, hb3⟩
  · refine (bytes_any _ _).mono ?_
    rintro e w' ⟨rfl, rfl⟩
    rw [show bytesC ((2 : Nat) : Int) = 32 from rfl]
    go_wp2_with (first
      | (go_at_call 11; refine (bytes_any _ _).mono ?_; rintro e w' ⟨rfl, rfl⟩; first | rw [show bytesC 0 = 8 from rfl] | rw [show bytesC 1 = 16 from rfl] | rw [show bytesC 2 = 32 from rfl] | rw [show bytesC 3 = 64 from rfl])
      | (go_at_call 13; refine (slots_any _ _).mono ?_; rintro e w' ⟨rfl, rfl⟩; rw [show slotsC 2 = 16 from rfl])
      | (go_at_call 15; refine (fit_any _ _).mono ?_; rintro e w' ⟨rfl, rfl⟩; rw [show fitC 32 = 2 from rfl]))
    refine (room_len a2 (l ++ m) (l.length + m.length) c2 _ (by simp) (by omega) HX.out).mono ?_
    rintro e w' ⟨rfl, rfl⟩
    rw [roomC_append]
    go_wp2_with fail
    refine (room_len ao l l.length cap _ rfl (by omega) HL.out).mono ?_
    rintro e w' ⟨rfl, rfl⟩
    go_wp2_with fail
    refine (room_len bo m m.length cap2 _ rfl (by omega) HM.out).mono ?_
    rintro e w' ⟨rfl, rfl⟩
    go_wp2_with fail
    go_ret
    exact ⟨rfl, hb3⟩
  · refine (bytes_any _ _).mono ?_
    rintro e w' ⟨rfl, rfl⟩
    rw [show bytesC ((3 : Nat) : Int) = 64 from rfl]
    go_wp2_with (first
      | (go_at_call 11; refine (bytes_any _ _).mono ?_; rintro e w' ⟨rfl, rfl⟩; first | rw [show bytesC 0 = 8 from rfl] | rw [show bytesC 1 = 16 from rfl] | rw [show bytesC 2 = 32 from rfl] | rw [show bytesC 3 = 64 from rfl])
      | (go_at_call 13; refine (slots_any _ _).mono ?_; rintro e w' ⟨rfl, rfl⟩; rw [show slotsC 3 = 8 from rfl])
      | (go_at_call 15; refine (fit_any _ _).mono ?_; rintro e w' ⟨rfl, rfl⟩; rw [show fitC 64 = 3 from rfl]))
    refine (room_len a2 (l ++ m) (l.length + m.length) c2 _ (by simp) (by omega) HX.out).mono ?_
    rintro e w' ⟨rfl, rfl⟩
    rw [roomC_append]
    go_wp2_with fail
    refine (room_len ao l l.length cap _ rfl (by omega) HL.out).mono ?_
    rintro e w' ⟨rfl, rfl⟩
    go_wp2_with fail
    refine (room_len bo m m.length cap2 _ rfl (by omega) HM.out).mono ?_
    rintro e w' ⟨rfl, rfl⟩
    go_wp2_with fail
    go_ret
    exact ⟨rfl, hb3⟩
end Go.Proofs.Ythhhdgomhlmlmaa
