/- arena.all, math/bits.TrailingZeros64, OnesCount64. -/
import Derived.Test.YtfnokklcbmipgaaDoorA1
namespace Go.Proofs.YtfnokklcbmipgaaDoor
open Go.RowKit Plain

def nS (c : Int) : Nat := if c = 0 then 64 else if c = 1 then 32 else if c = 2 then 16 else if c = 3 then 8 else 0
theorem slotsC_nS (c : Int) : slotsC c = (nS c : Int) := by unfold slotsC nS; (repeat' split) <;> rfl
theorem nS_le (c : Int) : nS c ≤ 64 := by unfold nS; (repeat' split) <;> omega
theorem nS_pos {c : Int} : 0 < nS c ↔ 0 ≤ c ∧ c ≤ 3 := by unfold nS; (repeat' split) <;> omega
def allN (c : Int) : Nat := 2 ^ nS c - 1

set_option maxHeartbeats 400000 in
theorem all_any (c : Int) (w : World) : Calls Tryd.prog 38 #[.int .i64 c] w fun e w' => e = .returned (.int .u64 (allN c)) ∧ w = w' := by
  by_cases h3 : c = 3
  · subst h3; go_enter Tryd.func38, Tryd.ntmps38
    go_wp2_with (go_at_call 34; refine (slots_any _ _).mono ?_; rintro e w' ⟨rfl, rfl⟩; rw [show slotsC 3 = 8 from rfl])
    go_ret
    exact ⟨rfl, rfl⟩
  by_cases h2 : c = 2
  · subst h2; go_enter Tryd.func38, Tryd.ntmps38
    go_wp2_with (go_at_call 34; refine (slots_any _ _).mono ?_; rintro e w' ⟨rfl, rfl⟩; rw [show slotsC 2 = 16 from rfl])
    go_ret
    exact ⟨rfl, rfl⟩
  by_cases h1 : c = 1
  · subst h1; go_enter Tryd.func38, Tryd.ntmps38
    go_wp2_with (go_at_call 34; refine (slots_any _ _).mono ?_; rintro e w' ⟨rfl, rfl⟩; rw [show slotsC 1 = 32 from rfl])
    go_ret
    exact ⟨rfl, rfl⟩
  by_cases h0 : c = 0
  · subst h0; go_enter Tryd.func38, Tryd.ntmps38
    go_wp2_with (go_at_call 34; refine (slots_any _ _).mono ?_; rintro e w' ⟨rfl, rfl⟩; rw [show slotsC 0 = 64 from rfl])
    go_ret
    exact ⟨rfl, rfl⟩
  have H : Hid (slotsC c = 0) := by show _ = _; simp [slotsC, h0, h1, h2, h3]
  have H2 : Hid (allN c = 0) := by show _ = _; simp [allN, nS, h0, h1, h2, h3]
  clear h0 h1 h2 h3
  go_enter Tryd.func38, Tryd.ntmps38
  go_wp2_with (go_at_call 34; refine (slots_any _ _).mono ?_; rintro e w' ⟨rfl, rfl⟩; rw [H.out])
  go_ret
  exact ⟨by rw [H2.out]; rfl, rfl⟩

/-- The library's table in its variable. -/
def TabAt (w : World) : Prop := (∀ j, j < 64 → w.cell? ⟨0, j, none⟩ = some (.int .u8 (Lib.deBruijn64tab.getD j 0))) ∧ 0 < w.heap.size
theorem TabAt.below {w w' : World} {B : Nat} (h : TabAt w) (hb : Below B w w') (hB : 0 < B) : TabAt w' :=
  ⟨fun j hj => (hb.cell (p := ⟨0, j, none⟩) hB).trans (h.1 j hj), Nat.lt_of_lt_of_le h.2 hb.size⟩
theorem tz64_key (x a : Nat) (hx : x < 18446744073709551616) (hx0 : x ≠ 0) (hlow : x &&& (18446744073709551616 - x) = a) :
    IntKind.u64.wrap (bits BinOp.and IntKind.u64 (x : Int) (IntKind.u64.wrap (-(x : Int))) * 285870213051353865) / 288230376151711744 = ((a * 285870213051353865 % 18446744073709551616 / 288230376151711744 : Nat) : Int) := by
  have e1 : IntKind.u64.wrap (-(x : Int)) = ((18446744073709551616 - x : Nat) : Int) := by rw [IntKind.wrap_u64]; omega
  rw [e1, bits_and_u64_nat x _ hx (by omega), hlow, IntKind.wrap_u64]
  omega
set_option maxHeartbeats 1000000 in
theorem tz64_core (x k idx : Nat) (w : World) (hx0 : ((x : Int) == 0) = false)
    (key : IntKind.u64.wrap (bits BinOp.and IntKind.u64 (x : Int) (IntKind.u64.wrap (-(x : Int))) * 285870213051353865) / 288230376151711744 = (idx : Int))
    (hi : idx < 64) (hk : k < 64) (hcell : w.cell? ⟨0, idx, none⟩ = some (.int .u8 k)) :
    Calls Tryd.prog 42 #[.int .u64 x] w fun e w' => e = .returned (.int .i64 k) ∧ w = w' := by
  go_enter Tryd.func42, Tryd.ntmps42
  go_wp2_with (simp only [key])
  go_ret
  exact ⟨rfl, rfl⟩
theorem tz64_any (x : Nat) (h0 : x ≠ 0) (hx : x < 18446744073709551616) (w : World) (hT : TabAt w) :
    Calls Tryd.prog 42 #[.int .u64 x] w fun e w' => e = .returned (.int .i64 (Lib.ctz 64 x)) ∧ w = w' := by
  obtain ⟨hlow, hk⟩ := Lib.lowest_bit 64 x h0 hx
  obtain ⟨hi, htab⟩ := Lib.deBruijn64_at _ hk
  have hcell := hT.1 _ hi
  rw [htab] at hcell
  exact tz64_core x _ _ w (by simp; omega) (tz64_key x _ hx h0 hlow) hi hk hcell

theorem and_cast (a m : Nat) (d : Int) (x : Int) (hx : x = (a : Int)) (ha : a < 18446744073709551616) (hm : m < 18446744073709551616) (hd : d = (m : Int)) : bits .and .u64 x d = ((a &&& m : Nat) : Int) := by
  rw [hx, hd, bits_and_u64_nat a m ha hm]
theorem wrap_cast (a : Nat) (x : Int) (hx : x = (a : Int)) (ha : a < 18446744073709551616) : IntKind.u64.wrap x = (a : Int) := by
  rw [hx, IntKind.wrap_u64]
  omega
theorem bits_and_i64_127 (x : Int) (h0 : 0 ≤ x) (h1 : x < 2 ^ 63) : bits .and .i64 x 127 = x % 128 :=
  bits_mask .i64 63 (by decide) (fun n h₀ h₁ => by rw [IntKind.wrap_i64]; omega) 7 (by decide) x h0 h1
set_option maxHeartbeats 1000000 in
theorem ones_core (x y1 y2 y3 y4 y5 y6 p : Nat) (w : World)
    (k1 : IntKind.u64.wrap (bits .and .u64 ((x : Int) / 2) 6148914691236517205 + bits .and .u64 (x : Int) 6148914691236517205) = (y1 : Int))
    (k2 : IntKind.u64.wrap (bits .and .u64 ((y1 : Int) / 4) 3689348814741910323 + bits .and .u64 (y1 : Int) 3689348814741910323) = (y2 : Int))
    (k3 : bits .and .u64 (IntKind.u64.wrap ((y2 : Int) / 16 + (y2 : Int))) 1085102592571150095 = (y3 : Int))
    (k4 : IntKind.u64.wrap ((y3 : Int) + (y3 : Int) / 256) = (y4 : Int))
    (k5 : IntKind.u64.wrap ((y4 : Int) + (y4 : Int) / 65536) = (y5 : Int))
    (k6 : IntKind.u64.wrap ((y5 : Int) + (y5 : Int) / 4294967296) = (y6 : Int))
    (k7 : bits .and .i64 (wrap64 (y6 : Int)) 127 = (p : Int)) :
    Calls Tryd.prog 43 #[.int .u64 x] w fun e w' => e = .returned (.int .i64 p) ∧ w = w' := by
  go_enter Tryd.func43, Tryd.ntmps43
  go_wp2_with fail
  go_ret
  exact ⟨rfl, rfl⟩
theorem pop_bs (x : Nat) : pop x = p8 (x % 256) + p8 (x / 256 % 256) + p8 (x / 65536 % 256) + p8 (x / 16777216 % 256) + p8 (x / 4294967296 % 256) + p8 (x / 1099511627776 % 256) + p8 (x / 281474976710656 % 256) + p8 (x / 72057594037927936 % 256) := by
  unfold pop
  simp only [bs, List.map_cons, List.map_nil, List.foldr_cons, List.foldr_nil]
  omega
theorem hor_bnd (l : List Nat) (hl : l.length = 8) (h : ∀ b ∈ l, b < 256) : hor l < 18446744073709551616 := by
  have h2 := hor_lt l h
  rw [hl] at h2
  exact Nat.lt_of_lt_of_le h2 (by decide)
theorem hor_le2 : ∀ (k : Nat) (l : List Nat), l.length = k + 1 → (∀ b ∈ l, b < 128) → hor l < 128 * 256 ^ k
  | 0, [b], _, h => by
    have := h b (by simp)
    simp only [hor]
    omega
  | k + 1, b :: l, hl, h => by
    have h1 := hor_le2 k l (by simpa using hl) (fun x hx => h x (by simp [hx]))
    have h2 := h b (by simp)
    show b + 256 * hor l < 128 * 256 ^ (k + 1)
    rw [Nat.pow_succ]
    generalize 256 ^ k = t at *
    omega
set_option maxHeartbeats 2000000 in
theorem ones_any (x : Nat) (hx : x < 18446744073709551616) (w : World) :
    Calls Tryd.prog 43 #[.int .u64 x] w fun e w' => e = .returned (.int .i64 (pop x)) ∧ w = w' := by
  have s1 := st1 x hx
  have s2 := st2 x
  have s3 := st3 x
  have b1 : hor ((bs x).map q1) < 18446744073709551616 := hor_bnd _ (by simp [bs]) (fun b hb => by obtain ⟨c, hc, rfl⟩ := List.mem_map.1 hb; exact q1_lt c (bs_lt x c hc))
  have b2 : hor ((bs x).map fun b => q2 (q1 b)) < 18446744073709551616 := hor_bnd _ (by simp [bs]) (fun b hb => by obtain ⟨c, hc, rfl⟩ := List.mem_map.1 hb; have := q2_nib c (bs_lt x c hc); omega)
  have b2' : hor ((bs x).map fun b => q2 (q1 b)) < 9223372036854775808 := hor_le2 7 _ (by simp [bs]) (fun b hb => by obtain ⟨c, hc, rfl⟩ := List.mem_map.1 hb; exact (q2_nib c (bs_lt x c hc)).1)
  have h8 := fun b hb => p8_le b (bs_lt x b hb)
  simp only [bs, List.mem_cons, List.not_mem_nil, or_false, forall_eq_or_imp, forall_eq] at h8
  obtain ⟨h0, h1, h2, h3, h4, h5, h6, h7⟩ := h8
  have s4 := st6 _ _ _ _ _ _ _ _ h0 h1 h2 h3 h4 h5 h6 h7 _ _ _ rfl rfl rfl
  have e3 : hor ((bs x).map p8) = hor [p8 (x % 256), p8 (x / 256 % 256), p8 (x / 65536 % 256), p8 (x / 16777216 % 256), p8 (x / 4294967296 % 256), p8 (x / 1099511627776 % 256), p8 (x / 281474976710656 % 256), p8 (x / 72057594037927936 % 256)] := rfl
  rw [← e3, ← pop_bs] at s4
  generalize hor ((bs x).map q1) = y1 at *
  generalize hor ((bs x).map fun b => q2 (q1 b)) = y2 at *
  generalize hor ((bs x).map p8) = y3 at *
  obtain ⟨l4, l5, l6, hp⟩ := s4
  generalize h4' : y3 + y3 / 256 = y4 at *
  generalize h5' : y4 + y4 / 65536 = y5 at *
  generalize h6' : y5 + y5 / 4294967296 = y6 at *
  refine ones_core x y1 y2 y3 y4 y5 y6 (pop x) w ?_ ?_ ?_ ?_ ?_ ?_ ?_
  · have a1 := and_cast (x / 2) 6148914691236517205 6148914691236517205 ((x : Int) / 2) (by omega) (by omega) (by decide) rfl
    have a2 := and_cast x 6148914691236517205 6148914691236517205 (x : Int) rfl hx (by decide) rfl
    rw [a1, a2]
    exact wrap_cast y1 _ (by rw [← s1]; rfl) b1
  · have a1 := and_cast (y1 / 4) 3689348814741910323 3689348814741910323 ((y1 : Int) / 4) (by omega) (by omega) (by decide) rfl
    have a2 := and_cast y1 3689348814741910323 3689348814741910323 (y1 : Int) rfl b1 (by decide) rfl
    rw [a1, a2]
    exact wrap_cast y2 _ (by rw [← s2]; rfl) b2
  · have a1 := and_cast (y2 / 16 + y2) 1085102592571150095 1085102592571150095 (IntKind.u64.wrap ((y2 : Int) / 16 + (y2 : Int))) (wrap_cast _ _ (by omega) (by omega)) (by omega) (by decide) rfl
    rw [a1, s3]
  · exact wrap_cast _ _ (by omega) l4
  · exact wrap_cast _ _ (by omega) l5
  · exact wrap_cast _ _ (by omega) (by omega)
  · have hy6 : y6 < 2 ^ 63 := by omega
    rw [IntWalk.wrap64_in _ (by omega), bits_and_i64_127 _ (by omega) (by omega)]
    omega
end Go.Proofs.YtfnokklcbmipgaaDoor
