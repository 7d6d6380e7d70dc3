import Derived.Lib.TrailingZeros
namespace Go.Proofs.YtfnokklcbmipgaaDoor.Plain

/-! ### how many bits are 1 -/
def p8 (b : Nat) : Nat := b % 2 + b / 2 % 2 + b / 4 % 2 + b / 8 % 2 + b / 16 % 2 + b / 32 % 2 + b / 64 % 2 + b / 128 % 2
def hor : List Nat → Nat
  | [] => 0
  | b :: l => b + 256 * hor l
theorem hor_lt (l : List Nat) (h : ∀ b ∈ l, b < 256) : hor l < 256 ^ l.length := by
  induction l with
  | nil => simp [hor]
  | cons b l ih =>
    have h1 := ih (fun x hx => h x (by simp [hx]))
    have h2 := h b (by simp)
    show b + 256 * hor l < 256 ^ (l.length + 1)
    rw [Nat.pow_succ]
    omega
theorem and_split (x M : Nat) : x &&& M = (x % 256 &&& M % 256) + 256 * (x / 256 &&& M / 256) := by
  have h := Nat.mod_add_div (x &&& M) 256
  rw [show (256 : Nat) = 2 ^ 8 from rfl, Nat.and_mod_two_pow, Nat.and_div_two_pow] at h
  exact h.symm
theorem cons_mod (b h : Nat) (hb : b < 256) : (b + 256 * h) % 256 = b := by omega
theorem cons_div (b h : Nat) (hb : b < 256) : (b + 256 * h) / 256 = h := by omega
theorem hor_and (m : Nat) (hm : m < 256) : ∀ l : List Nat, (∀ b ∈ l, b < 256) → hor l &&& hor (List.replicate l.length m) = hor (l.map (· &&& m))
  | [], _ => by simp [hor]
  | b :: l, h => by
    have hb := h b (by simp)
    have ih := hor_and m hm l (fun x hx => h x (by simp [hx]))
    show (b + 256 * hor l) &&& (m + 256 * hor (List.replicate l.length m)) = (b &&& m) + 256 * hor (l.map (· &&& m))
    rw [and_split, cons_mod _ _ hb, cons_div _ _ hb, cons_mod _ _ hm, cons_div _ _ hm, ih]
theorem hor_shift1 (m : Nat) (hm : m < 128) : ∀ l : List Nat, (∀ b ∈ l, b < 256) → hor l / 2 &&& hor (List.replicate l.length m) = hor (l.map fun b => b / 2 &&& m)
  | [], _ => by simp [hor]
  | b :: l, h => by
    have hb := h b (by simp)
    have ih := hor_shift1 m hm l (fun x hx => h x (by simp [hx]))
    show (b + 256 * hor l) / 2 &&& (m + 256 * hor (List.replicate l.length m)) = (b / 2 &&& m) + 256 * hor (l.map fun b => b / 2 &&& m)
    have e1 : (b + 256 * hor l) / 2 % 256 = b / 2 + 128 * (hor l % 2) := by omega
    have e2 : (b + 256 * hor l) / 2 / 256 = hor l / 2 := by omega
    have e3 : (b / 2 + 128 * (hor l % 2)) &&& m = b / 2 &&& m := by
      have h1 := Nat.mod_add_div ((b / 2 + 128 * (hor l % 2)) &&& m) 128
      rw [show (128 : Nat) = 2 ^ 7 from rfl, Nat.and_mod_two_pow, Nat.and_div_two_pow, show (2 : Nat) ^ 7 = 128 from rfl, Nat.div_eq_of_lt hm, Nat.mod_eq_of_lt hm, Nat.and_zero, show (b / 2 + 128 * (hor l % 2)) % 128 = b / 2 by omega] at h1
      omega
    rw [and_split, e1, e2, cons_mod _ _ (by omega), cons_div _ _ (by omega), e3, ih]
theorem hor_shift2 (m : Nat) (hm : m < 64) : ∀ l : List Nat, (∀ b ∈ l, b < 256) → hor l / 4 &&& hor (List.replicate l.length m) = hor (l.map fun b => b / 4 &&& m)
  | [], _ => by simp [hor]
  | b :: l, h => by
    have hb := h b (by simp)
    have ih := hor_shift2 m hm l (fun x hx => h x (by simp [hx]))
    show (b + 256 * hor l) / 4 &&& (m + 256 * hor (List.replicate l.length m)) = (b / 4 &&& m) + 256 * hor (l.map fun b => b / 4 &&& m)
    have e1 : (b + 256 * hor l) / 4 % 256 = b / 4 + 64 * (hor l % 4) := by omega
    have e2 : (b + 256 * hor l) / 4 / 256 = hor l / 4 := by omega
    have e3 : (b / 4 + 64 * (hor l % 4)) &&& m = b / 4 &&& m := by
      have h1 := Nat.mod_add_div ((b / 4 + 64 * (hor l % 4)) &&& m) 64
      rw [show (64 : Nat) = 2 ^ 6 from rfl, Nat.and_mod_two_pow, Nat.and_div_two_pow, show (2 : Nat) ^ 6 = 64 from rfl, Nat.div_eq_of_lt hm, Nat.mod_eq_of_lt hm, Nat.and_zero, show (b / 4 + 64 * (hor l % 4)) % 64 = b / 4 by omega] at h1
      omega
    rw [and_split, e1, e2, cons_mod _ _ (by omega), cons_div _ _ (by omega), e3, ih]
theorem hor_add (f g : Nat → Nat) : ∀ l : List Nat, hor (l.map f) + hor (l.map g) = hor (l.map fun b => f b + g b)
  | [] => rfl
  | b :: l => by
    have ih := hor_add f g l
    show f b + 256 * hor (l.map f) + (g b + 256 * hor (l.map g)) = f b + g b + 256 * hor (l.map fun b => f b + g b)
    omega
theorem hor_nib (l : List Nat) (h : ∀ b ∈ l, b < 128 ∧ b % 16 < 8) : (hor l / 16 + hor l) &&& hor (List.replicate l.length 15) = hor (l.map fun b => b / 16 + b % 16) := by
  induction l with
  | nil => rfl
  | cons b l ih =>
    have hb := h b (by simp)
    have ih := ih (fun x hx => h x (by simp [hx]))
    have hn : hor l % 16 < 8 := by
      cases l with
      | nil => simp [hor]
      | cons c l =>
        have hc := h c (by simp)
        show (c + 256 * hor l) % 16 < 8
        omega
    show ((b + 256 * hor l) / 16 + (b + 256 * hor l)) &&& (15 + 256 * hor (List.replicate l.length 15)) = (b / 16 + b % 16) + 256 * hor (l.map fun b => b / 16 + b % 16)
    have e1 : ((b + 256 * hor l) / 16 + (b + 256 * hor l)) % 256 = b / 16 + b + 16 * (hor l % 16) := by omega
    have e2 : ((b + 256 * hor l) / 16 + (b + 256 * hor l)) / 256 = hor l / 16 + hor l := by omega
    have e3 : (b / 16 + b + 16 * (hor l % 16)) &&& 15 = b / 16 + b % 16 := by
      rw [show (15 : Nat) = 2 ^ 4 - 1 from rfl, Nat.and_two_pow_sub_one_eq_mod]
      omega
    rw [and_split, e1, e2, cons_mod _ _ (by omega), cons_div _ _ (by omega), e3, ih]
/-- The eight bytes. -/
def bs (x : Nat) : List Nat := [x % 256, x / 256 % 256, x / 65536 % 256, x / 16777216 % 256, x / 4294967296 % 256, x / 1099511627776 % 256, x / 281474976710656 % 256, x / 72057594037927936 % 256]
theorem bs_lt (x : Nat) : ∀ b ∈ bs x, b < 256 := by
  intro b hb
  simp only [bs, List.mem_cons, List.not_mem_nil, or_false] at hb
  omega
theorem hor_bs (x : Nat) (h : x < 18446744073709551616) : hor (bs x) = x := by
  simp only [bs, hor]
  omega
def pop (x : Nat) : Nat := ((bs x).map p8).foldr (· + ·) 0
def q1 (b : Nat) : Nat := (b / 2 &&& 85) + (b &&& 85)
def q2 (b : Nat) : Nat := (b / 4 &&& 51) + (b &&& 51)
theorem q1_lt : ∀ b, b < 256 → q1 b < 256 := by decide +kernel
theorem q2_nib : ∀ b, b < 256 → q2 (q1 b) < 128 ∧ q2 (q1 b) % 16 < 8 := by decide +kernel
theorem q3_eq : ∀ b, b < 256 → q2 (q1 b) / 16 + q2 (q1 b) % 16 = p8 b := by decide +kernel
theorem p8_le : ∀ b, b < 256 → p8 b ≤ 8 := by decide +kernel
theorem st1 (x : Nat) (h : x < 18446744073709551616) : (x / 2 &&& 6148914691236517205) + (x &&& 6148914691236517205) = hor ((bs x).map q1) := by
  have e : (6148914691236517205 : Nat) = hor (List.replicate (bs x).length 85) := by simp only [bs, List.length_cons, List.length_nil]; decide
  rw [e]
  conv => lhs; rw [← hor_bs x h]
  rw [show bs (hor (bs x)) = bs x by rw [hor_bs x h], hor_shift1 85 (by decide) _ (bs_lt x), hor_and 85 (by decide) _ (bs_lt x), hor_add]
  rfl
theorem st2 (x : Nat) : (hor ((bs x).map q1) / 4 &&& 3689348814741910323) + (hor ((bs x).map q1) &&& 3689348814741910323) = hor ((bs x).map fun b => q2 (q1 b)) := by
  have e : (3689348814741910323 : Nat) = hor (List.replicate ((bs x).map q1).length 51) := by simp only [bs, List.map_cons, List.map_nil, List.length_cons, List.length_nil]; decide
  have hl : ∀ b ∈ (bs x).map q1, b < 256 := by
    intro b hb
    obtain ⟨c, hc, rfl⟩ := List.mem_map.1 hb
    exact q1_lt c (bs_lt x c hc)
  rw [e, hor_shift2 51 (by decide) _ hl, hor_and 51 (by decide) _ hl, hor_add, List.map_map]
  rfl
theorem st3 (x : Nat) : (hor ((bs x).map fun b => q2 (q1 b)) / 16 + hor ((bs x).map fun b => q2 (q1 b))) &&& 1085102592571150095 = hor ((bs x).map p8) := by
  have e : (1085102592571150095 : Nat) = hor (List.replicate ((bs x).map fun b => q2 (q1 b)).length 15) := by simp only [bs, List.map_cons, List.map_nil, List.length_cons, List.length_nil]; decide
  have hl : ∀ b ∈ (bs x).map fun b => q2 (q1 b), b < 128 ∧ b % 16 < 8 := by
    intro b hb
    obtain ⟨c, hc, rfl⟩ := List.mem_map.1 hb
    exact q2_nib c (bs_lt x c hc)
  rw [e, hor_nib _ hl, List.map_map]
  congr 1
  refine List.map_congr_left ?_
  intro b hb
  exact q3_eq b (bs_lt x b hb)
theorem st6 (a b c d e f g h : Nat) (ha : a ≤ 8) (hb : b ≤ 8) (hc : c ≤ 8) (hd : d ≤ 8) (he : e ≤ 8) (hf : f ≤ 8) (hg : g ≤ 8) (hh : h ≤ 8) (y4 y5 y6 : Nat) (h4 : y4 = hor [a, b, c, d, e, f, g, h] + hor [a, b, c, d, e, f, g, h] / 256) (h5 : y5 = y4 + y4 / 65536) (h6 : y6 = y5 + y5 / 4294967296) :
    y4 < 18446744073709551616 ∧ y5 < 18446744073709551616 ∧ y6 < 9223372036854775808 ∧ y6 % 128 = a + b + c + d + e + f + g + h := by
  have e4 : y4 = hor [a + b, b + c, c + d, d + e, e + f, f + g, g + h, h] := by
    rw [h4]
    simp only [hor]
    omega
  have e5 : y5 = hor [a + b + c + d, b + c + d + e, c + d + e + f, d + e + f + g, e + f + g + h, f + g + h, g + h, h] := by
    rw [h5, e4]
    simp only [hor]
    omega
  have e6 : y6 = hor [a + b + c + d + e + f + g + h, b + c + d + e + f + g + h, c + d + e + f + g + h, d + e + f + g + h, e + f + g + h, f + g + h, g + h, h] := by
    rw [h6, e5]
    simp only [hor]
    omega
  clear h4 h5 h6
  subst e4 e5 e6
  simp only [hor]
  omega
theorem bs_hor (a b c d e f g h : Nat) (ha : a < 256) (hb : b < 256) (hc : c < 256) (hd : d < 256) (he : e < 256) (hf : f < 256) (hg : g < 256) (hh : h < 256) : bs (hor [a, b, c, d, e, f, g, h]) = [a, b, c, d, e, f, g, h] := by
  simp only [bs, hor, List.cons.injEq, and_true]
  omega
theorem pop_hor (a b c d e f g h : Nat) (ha : a < 256) (hb : b < 256) (hc : c < 256) (hd : d < 256) (he : e < 256) (hf : f < 256) (hg : g < 256) (hh : h < 256) : pop (hor [a, b, c, d, e, f, g, h]) = p8 a + (p8 b + (p8 c + (p8 d + (p8 e + (p8 f + (p8 g + (p8 h + 0))))))) := by
  unfold pop
  rw [bs_hor a b c d e f g h ha hb hc hd he hf hg hh]
  rfl
theorem p8_add : ∀ j, j < 8 → ∀ b, b < 256 → b / 2 ^ j % 2 = 0 → b + 2 ^ j < 256 ∧ p8 (b + 2 ^ j) = p8 b + 1 := by decide +kernel
theorem pop_split (x : Nat) (h : x < 18446744073709551616) : ∃ a b c d e f g i, x = hor [a, b, c, d, e, f, g, i] ∧ a < 256 ∧ b < 256 ∧ c < 256 ∧ d < 256 ∧ e < 256 ∧ f < 256 ∧ g < 256 ∧ i < 256 :=
  ⟨_, _, _, _, _, _, _, _, (hor_bs x h).symm, by omega, by omega, by omega, by omega, by omega, by omega, by omega, by omega⟩
theorem byte_bit (x i j : Nat) (hj : j < 8) : x / 2 ^ (8 * i + j) % 2 = x / 256 ^ i % 256 / 2 ^ j % 2 := by
  rw [Nat.pow_add, Nat.pow_mul, show (2 : Nat) ^ 8 = 256 from rfl, ← Nat.div_div_eq_div_mul]
  generalize x / 256 ^ i = y
  have h : ∀ j, j < 8 → y / 2 ^ j % 2 = y % 256 / 2 ^ j % 2 := by
    intro j hj
    have : j = 0 ∨ j = 1 ∨ j = 2 ∨ j = 3 ∨ j = 4 ∨ j = 5 ∨ j = 6 ∨ j = 7 := by omega
    rcases this with rfl | rfl | rfl | rfl | rfl | rfl | rfl | rfl <;> omega
  exact h j hj
theorem pop_add (u k : Nat) (hk : k < 64) (hu : u < 18446744073709551616) (hb : u / 2 ^ k % 2 = 0) : pop (u + 2 ^ k) = pop u + 1 := by
  obtain ⟨i, j, rfl, hi, hj⟩ : ∃ i j, k = 8 * i + j ∧ i < 8 ∧ j < 8 := ⟨k / 8, k % 8, by omega, by omega, by omega⟩
  rw [byte_bit u i j hj] at hb
  obtain ⟨a, b, c, d, e, f, g, h, rfl, ha, hb', hc, hd, he, hf, hg, hh⟩ := pop_split u hu
  rw [pop_hor a b c d e f g h ha hb' hc hd he hf hg hh, Nat.pow_add, Nat.pow_mul, show (2 : Nat) ^ 8 = 256 from rfl]
  have hcase : i = 0 ∨ i = 1 ∨ i = 2 ∨ i = 3 ∨ i = 4 ∨ i = 5 ∨ i = 6 ∨ i = 7 := by omega
  have bb := bs_hor a b c d e f g h ha hb' hc hd he hf hg hh
  simp only [bs, List.cons.injEq, and_true] at bb
  obtain ⟨b0, b1, b2, b3, b4, b5, b6, b7⟩ := bb
  generalize ht : 2 ^ j = t at *
  rcases hcase with rfl | rfl | rfl | rfl | rfl | rfl | rfl | rfl
  · rw [show hor [a, b, c, d, e, f, g, h] / 256 ^ 0 % 256 = a from by simpa using b0] at hb
    obtain ⟨h1, h2⟩ := p8_add j hj a ha (by rw [ht]; exact hb)
    rw [ht] at h1 h2
    rw [show hor [a, b, c, d, e, f, g, h] + 256 ^ 0 * t = hor [a + t, b, c, d, e, f, g, h] by simp only [hor]; omega, pop_hor _ _ _ _ _ _ _ _ h1 hb' hc hd he hf hg hh, h2]
    omega
  · rw [show hor [a, b, c, d, e, f, g, h] / 256 ^ 1 % 256 = b from b1] at hb
    obtain ⟨h1, h2⟩ := p8_add j hj b hb' (by rw [ht]; exact hb)
    rw [ht] at h1 h2
    rw [show hor [a, b, c, d, e, f, g, h] + 256 ^ 1 * t = hor [a, b + t, c, d, e, f, g, h] by simp only [hor]; omega, pop_hor _ _ _ _ _ _ _ _ ha h1 hc hd he hf hg hh, h2]
    omega
  · rw [show hor [a, b, c, d, e, f, g, h] / 256 ^ 2 % 256 = c from b2] at hb
    obtain ⟨h1, h2⟩ := p8_add j hj c hc (by rw [ht]; exact hb)
    rw [ht] at h1 h2
    rw [show hor [a, b, c, d, e, f, g, h] + 256 ^ 2 * t = hor [a, b, c + t, d, e, f, g, h] by simp only [hor]; omega, pop_hor _ _ _ _ _ _ _ _ ha hb' h1 hd he hf hg hh, h2]
    omega
  · rw [show hor [a, b, c, d, e, f, g, h] / 256 ^ 3 % 256 = d from b3] at hb
    obtain ⟨h1, h2⟩ := p8_add j hj d hd (by rw [ht]; exact hb)
    rw [ht] at h1 h2
    rw [show hor [a, b, c, d, e, f, g, h] + 256 ^ 3 * t = hor [a, b, c, d + t, e, f, g, h] by simp only [hor]; omega, pop_hor _ _ _ _ _ _ _ _ ha hb' hc h1 he hf hg hh, h2]
    omega
  · rw [show hor [a, b, c, d, e, f, g, h] / 256 ^ 4 % 256 = e from b4] at hb
    obtain ⟨h1, h2⟩ := p8_add j hj e he (by rw [ht]; exact hb)
    rw [ht] at h1 h2
    rw [show hor [a, b, c, d, e, f, g, h] + 256 ^ 4 * t = hor [a, b, c, d, e + t, f, g, h] by simp only [hor]; omega, pop_hor _ _ _ _ _ _ _ _ ha hb' hc hd h1 hf hg hh, h2]
    omega
  · rw [show hor [a, b, c, d, e, f, g, h] / 256 ^ 5 % 256 = f from b5] at hb
    obtain ⟨h1, h2⟩ := p8_add j hj f hf (by rw [ht]; exact hb)
    rw [ht] at h1 h2
    rw [show hor [a, b, c, d, e, f, g, h] + 256 ^ 5 * t = hor [a, b, c, d, e, f + t, g, h] by simp only [hor]; omega, pop_hor _ _ _ _ _ _ _ _ ha hb' hc hd he h1 hg hh, h2]
    omega
  · rw [show hor [a, b, c, d, e, f, g, h] / 256 ^ 6 % 256 = g from b6] at hb
    obtain ⟨h1, h2⟩ := p8_add j hj g hg (by rw [ht]; exact hb)
    rw [ht] at h1 h2
    rw [show hor [a, b, c, d, e, f, g, h] + 256 ^ 6 * t = hor [a, b, c, d, e, f, g + t, h] by simp only [hor]; omega, pop_hor _ _ _ _ _ _ _ _ ha hb' hc hd he hf h1 hh, h2]
    omega
  · rw [show hor [a, b, c, d, e, f, g, h] / 256 ^ 7 % 256 = h from b7] at hb
    obtain ⟨h1, h2⟩ := p8_add j hj h hh (by rw [ht]; exact hb)
    rw [ht] at h1 h2
    rw [show hor [a, b, c, d, e, f, g, h] + 256 ^ 7 * t = hor [a, b, c, d, e, f, g, h + t] by simp only [hor]; omega, pop_hor _ _ _ _ _ _ _ _ ha hb' hc hd he hf hg h1, h2]
    omega
theorem pop_zero : pop 0 = 0 := by decide
theorem pop_le (x : Nat) : pop x ≤ 64 := by
  have h := fun b hb => p8_le b (bs_lt x b hb)
  simp only [bs, List.mem_cons, List.not_mem_nil, or_false, forall_eq_or_imp, forall_eq] at h
  obtain ⟨h0, h1, h2, h3, h4, h5, h6, h7⟩ := h
  unfold pop
  simp only [bs, List.map_cons, List.map_nil, List.foldr_cons, List.foldr_nil]
  omega

/-! ### one bit -/
theorem bit_def (u k : Nat) : u.testBit k = decide (u / 2 ^ k % 2 = 1) := Nat.testBit_eq_decide_div_mod_eq
theorem bit_off {u k : Nat} (h : u.testBit k = false) : u / 2 ^ k % 2 = 0 := by
  rw [bit_def, decide_eq_false_iff_not] at h
  omega
theorem bit_add (u k j : Nat) (h : u.testBit k = false) : (u + 2 ^ k).testBit j = if j = k then true else u.testBit j := by
  have h0 := bit_off h
  have hp : 0 < 2 ^ k := Nat.two_pow_pos k
  have hr : u % 2 ^ k < 2 ^ k := Nat.mod_lt _ hp
  have e1 : u = 2 ^ (k + 1) * (u / 2 ^ k / 2) + u % 2 ^ k := by
    have h1 := Nat.div_add_mod u (2 ^ k)
    have h2 : u / 2 ^ k = 2 * (u / 2 ^ k / 2) := by omega
    rw [Nat.pow_succ, Nat.mul_assoc, ← h2, h1]
  generalize u / 2 ^ k / 2 = a at e1
  generalize u % 2 ^ k = r at e1 hr
  have hr1 : r < 2 ^ (k + 1) := by rw [Nat.pow_succ]; omega
  have hr2 : 2 ^ k + r < 2 ^ (k + 1) := by rw [Nat.pow_succ]; omega
  have e2 : u + 2 ^ k = 2 ^ (k + 1) * a + (2 ^ k + r) := by rw [e1]; omega
  rw [e2, Nat.testBit_two_pow_mul_add a hr2, e1, Nat.testBit_two_pow_mul_add a hr1]
  have e3 : 2 ^ k + r = 2 ^ k * 1 + r := by omega
  rw [e3, Nat.testBit_two_pow_mul_add 1 hr]
  by_cases hjk : j = k
  · subst hjk
    rw [if_pos (Nat.lt_succ_self _), if_neg (Nat.lt_irrefl _), Nat.sub_self, if_pos rfl]
    decide
  · rw [if_neg hjk]
    by_cases hlt : j < k
    · rw [if_pos (by omega), if_pos hlt, if_pos (by omega)]
    · rw [if_neg (by omega), if_neg (by omega)]
theorem or_add (u k : Nat) (h : u.testBit k = false) : u ||| 2 ^ k = u + 2 ^ k := by
  refine Nat.eq_of_testBit_eq fun j => ?_
  rw [bit_add u k j h, Nat.testBit_or, Nat.testBit_two_pow]
  by_cases hjk : j = k
  · subst hjk; simp
  · rw [if_neg hjk, decide_eq_false (fun e => hjk e.symm), Bool.or_false]
theorem bit_sub {u k : Nat} (h : u.testBit k = true) : ∃ v, u = v + 2 ^ k ∧ v.testBit k = false := by
  rw [bit_def, decide_eq_true_eq] at h
  have hp : 0 < 2 ^ k := Nat.two_pow_pos k
  have hge : 2 ^ k ≤ u := by
    rcases Nat.lt_or_ge u (2 ^ k) with hlt | hge
    · rw [Nat.div_eq_of_lt hlt] at h; omega
    · exact hge
  refine ⟨u - 2 ^ k, by omega, ?_⟩
  rw [bit_def, decide_eq_false_iff_not]
  have e : (u - 2 ^ k) / 2 ^ k = u / 2 ^ k - 1 := by
    have := Nat.sub_mul_div u (2 ^ k) 1
    simpa using this
  rw [e]
  omega
theorem bit_lt {u k n : Nat} (h : u.testBit k = true) (hu : u < 2 ^ n) : k < n := by
  rcases Nat.lt_or_ge k n with hlt | hge
  · exact hlt
  · rw [Nat.testBit_lt_two_pow (Nat.lt_of_lt_of_le hu (Nat.pow_le_pow_right (by decide) hge))] at h
    cases h
theorem bit_add_lt {u k n : Nat} (h : u.testBit k = false) (hk : k < n) (hu : u < 2 ^ n) : u + 2 ^ k < 2 ^ n := by
  rw [← or_add u k h]
  exact Nat.or_lt_two_pow hu (Nat.pow_lt_pow_right (by decide) hk)
theorem andNot_sub {u k : Nat} (hk : k < 64) (h : u.testBit k = false) (hu : u + 2 ^ k < 2 ^ 64) : (u + 2 ^ k) &&& (2 ^ 64 - (2 ^ k + 1)) = u := by
  refine Nat.eq_of_testBit_eq fun j => ?_
  rw [Nat.testBit_and, bit_add u k j h, Nat.testBit_two_pow_sub_succ (Nat.pow_lt_pow_right (by decide) hk), Nat.testBit_two_pow]
  by_cases hjk : j = k
  · subst hjk; simp [h]
  · have hkj : decide (k = j) = false := decide_eq_false (fun e => hjk e.symm)
    rw [if_neg hjk, hkj]
    by_cases hj : j < 64
    · simp [hj]
    · have h64 : u < 2 ^ 64 := Nat.lt_of_le_of_lt (Nat.le_add_right _ _) hu
      rw [Nat.testBit_lt_two_pow (i := j) (x := u) (Nat.lt_of_lt_of_le h64 (Nat.pow_le_pow_right (by decide) (by omega)))]
      simp
theorem andNot_all (u n : Nat) (hn : n ≤ 64) (hu : u < 2 ^ 64) : u &&& (2 ^ 64 - (2 ^ n - 1 + 1)) = 0 ↔ u < 2 ^ n := by
  have hp : 0 < 2 ^ n := Nat.two_pow_pos n
  have hle : 2 ^ n ≤ 2 ^ 64 := Nat.pow_le_pow_right (by decide) hn
  constructor
  · intro h
    refine Nat.lt_of_not_le fun hge => ?_
    obtain ⟨i, hi, hb⟩ := Nat.exists_ge_and_testBit_of_ge_two_pow hge
    have h1 : (u &&& (2 ^ 64 - (2 ^ n - 1 + 1))).testBit i = false := by rw [h]; simp
    rw [Nat.testBit_and, hb, Nat.testBit_two_pow_sub_succ (by omega), Nat.testBit_two_pow_sub_one] at h1
    have h2 := bit_lt hb hu
    simp [h2] at h1
    omega
  · intro h
    refine Nat.eq_of_testBit_eq fun i => ?_
    rw [Nat.testBit_and, Nat.testBit_two_pow_sub_succ (by omega), Nat.testBit_two_pow_sub_one, Nat.zero_testBit]
    by_cases hi : i < n
    · simp [hi]
    · rw [Nat.testBit_lt_two_pow (Nat.lt_of_lt_of_le h (Nat.pow_le_pow_right (by decide) (by omega)))]
      simp
/-- The least place whose bit is 0. -/
def fz (u : Nat) : Nat := Lib.ctz 64 (18446744073709551615 - u)
theorem fz_spec (u n : Nat) (hn : n ≤ 64) (hu : u < 2 ^ n) (hne : u ≠ 2 ^ n - 1) : fz u < n ∧ u.testBit (fz u) = false ∧ ∀ j, j < fz u → u.testBit j = true := by
  have hp : 0 < 2 ^ n := Nat.two_pow_pos n
  have hle : 2 ^ n ≤ 2 ^ 64 := Nat.pow_le_pow_right (by decide) hn
  have h64 : (2 : Nat) ^ 64 = 18446744073709551616 := by decide
  have hx : 18446744073709551615 - u ≠ 0 := by omega
  have hx2 : 18446744073709551615 - u = 2 ^ 64 - (u + 1) := by omega
  obtain ⟨m, hm, hk⟩ := Lib.ctzFrom_spec 64 (18446744073709551615 - u) (by omega) (by omega)
  have hf : fz u = Lib.ctzFrom 64 (18446744073709551615 - u) := by unfold fz Lib.ctz; rw [if_neg hx]
  rw [← hf] at hm hk
  generalize fz u = k at *
  have tb : ∀ j, j < 64 → u.testBit j = !(18446744073709551615 - u).testBit j := by
    intro j hj
    rw [hx2, Nat.testBit_two_pow_sub_succ (by omega)]
    simp [hj]
  have hk1 : (18446744073709551615 - u).testBit k = true := by
    rw [hm, bit_def, Nat.mul_div_cancel_left _ (Nat.two_pow_pos k), decide_eq_true_eq]
    omega
  have hk2 : u.testBit k = false := by rw [tb k hk, hk1]; rfl
  have hk3 : ∀ j, j < k → u.testBit j = true := by
    intro j hj
    rw [tb j (by omega), hm, Nat.testBit_two_pow_mul]
    simp
    omega
  refine ⟨?_, hk2, hk3⟩
  refine Nat.lt_of_not_le fun hge => hne ?_
  refine Nat.eq_of_testBit_eq fun i => ?_
  rw [Nat.testBit_two_pow_sub_one]
  by_cases hi : i < n
  · rw [hk3 i (by omega)]; simp [hi]
  · rw [Nat.testBit_lt_two_pow (Nat.lt_of_lt_of_le hu (Nat.pow_le_pow_right (by decide) (by omega)))]
    simp [hi]
end Go.Proofs.YtfnokklcbmipgaaDoor.Plain
