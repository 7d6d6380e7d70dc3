namespace Go.Proofs.Ytogakapokgddiaa.Plain

/-! The sum of a text as a division of polynomials over two elements: bit by bit. -/
def polyW : BitVec 32 := 0x814141ab#32
def highW : BitVec 32 := 0x80000000#32
def stepW (n : BitVec 32) : BitVec 32 := if n.msb then (n <<< 1) ^^^ polyW else n <<< 1
def iter : Nat → BitVec 32 → BitVec 32
  | 0, n => n
  | k + 1, n => iter k (stepW n)
def lift8 (c : UInt8) : BitVec 32 := c.toBitVec.setWidth 32 <<< 24
def byteW (n : BitVec 32) (c : UInt8) : BitVec 32 := iter 8 (n ^^^ lift8 c)
def crc (n : BitVec 32) (l : List UInt8) : BitVec 32 := l.foldl byteW n
def ofW (l : List UInt8) : BitVec 32 := crc 0 l

def bitW (n : BitVec 32) (b : Bool) : BitVec 32 := stepW (n ^^^ (if b then highW else 0))
def crcBits (n : BitVec 32) (l : List Bool) : BitVec 32 := l.foldl bitW n
def bitsOf (c : UInt8) : List Bool := [c.toBitVec.getLsbD 7, c.toBitVec.getLsbD 6, c.toBitVec.getLsbD 5, c.toBitVec.getLsbD 4, c.toBitVec.getLsbD 3, c.toBitVec.getLsbD 2, c.toBitVec.getLsbD 1, c.toBitVec.getLsbD 0]
def bitsAll (l : List UInt8) : List Bool := l.flatMap bitsOf

theorem step_xor (a b : BitVec 32) : stepW (a ^^^ b) = stepW a ^^^ stepW b := by
  unfold stepW
  rw [BitVec.msb_xor, BitVec.shiftLeft_xor_distrib]
  cases ha : a.msb <;> cases hb : b.msb <;> simp [BitVec.xor_assoc]
  · rw [BitVec.xor_comm polyW (b <<< 1)]
  · rw [BitVec.xor_comm (b <<< 1) polyW, ← BitVec.xor_assoc polyW polyW, BitVec.xor_self, BitVec.zero_xor]
theorem zx (x : BitVec 32) : (0 : BitVec 32) ^^^ x = x := by simp
theorem step_zero : stepW 0 = 0 := by decide
theorem iter_xor (k : Nat) : ∀ a b, iter k (a ^^^ b) = iter k a ^^^ iter k b := by
  induction k with
  | zero => intro a b; rfl
  | succ k ih => intro a b; show iter k (stepW (a ^^^ b)) = _; rw [step_xor, ih]; rfl
theorem iter_zero (k : Nat) : iter k 0 = 0 := by
  induction k with
  | zero => rfl
  | succ k ih => show iter k (stepW 0) = 0; rw [step_zero, ih]
theorem step_inj (a : BitVec 32) (h : stepW a = 0) : a = 0 := by
  unfold stepW at h
  split at h
  · have := congrArg (fun x => x.getLsbD 0) h
    simp [polyW] at this
  · apply BitVec.eq_of_getLsbD_eq
    intro i hi
    by_cases h31 : i = 31
    · subst h31
      rename_i hm
      rw [BitVec.msb_eq_getLsbD_last] at hm
      simpa using hm
    · have := congrArg (fun x => x.getLsbD (i + 1)) h
      simp at this
      simpa [show i + 1 < 32 by omega] using this
theorem iter_inj (k : Nat) : ∀ a, iter k a = 0 → a = 0 := by
  induction k with
  | zero => intro a h; exact h
  | succ k ih => intro a h; exact step_inj a (ih _ h)

theorem lift_bits (c : UInt8) : iter 8 (lift8 c) = crcBits 0 (bitsOf c) := by
  have h : ∀ v : BitVec 8, iter 8 (v.setWidth 32 <<< 24) = crcBits 0 [v.getLsbD 7, v.getLsbD 6, v.getLsbD 5, v.getLsbD 4, v.getLsbD 3, v.getLsbD 2, v.getLsbD 1, v.getLsbD 0] := by decide +kernel
  exact h c.toBitVec

theorem crcBits_split (l : List Bool) : ∀ n, crcBits n l = iter l.length n ^^^ crcBits 0 l := by
  induction l with
  | nil => intro n; simp [crcBits, iter]
  | cons b l ih =>
    intro n
    show crcBits (bitW n b) l = iter l.length (stepW n) ^^^ crcBits (bitW 0 b) l
    rw [ih (bitW n b), ih (bitW 0 b), ← BitVec.xor_assoc]
    congr 1
    unfold bitW
    rw [← iter_xor]
    congr 1
    rw [step_xor n, zx]

theorem byte_bits (n : BitVec 32) (c : UInt8) : byteW n c = crcBits n (bitsOf c) := by
  rw [crcBits_split]
  unfold byteW
  rw [iter_xor, lift_bits]; rfl
theorem crcBits_append (n : BitVec 32) (a b : List Bool) : crcBits n (a ++ b) = crcBits (crcBits n a) b := by simp [crcBits]
theorem crc_append (n : BitVec 32) (a b : List UInt8) : crc n (a ++ b) = crc (crc n a) b := by simp [crc]
theorem crc_bits (l : List UInt8) : ∀ n, crc n l = crcBits n (bitsAll l) := by
  induction l with
  | nil => intro n; rfl
  | cons c l ih =>
    intro n
    show crc (byteW n c) l = crcBits n (bitsOf c ++ bitsAll l)
    rw [ih, crcBits_append, byte_bits]

theorem crcBits_xor (x : List Bool) : ∀ (y : List Bool) (a b : BitVec 32), x.length = y.length → crcBits (a ^^^ b) (List.zipWith (· ^^ ·) x y) = crcBits a x ^^^ crcBits b y := by
  induction x with
  | nil => intro y a b h; cases y with
    | nil => simp [crcBits]
    | cons _ _ => simp at h
  | cons p x ih => intro y a b h; cases y with
    | nil => simp at h
    | cons q y =>
      simp only [List.length_cons, Nat.add_right_cancel_iff] at h
      show crcBits (bitW (a ^^^ b) (p ^^ q)) (List.zipWith (· ^^ ·) x y) = crcBits (bitW a p) x ^^^ crcBits (bitW b q) y
      rw [← ih y _ _ h]
      congr 1
      unfold bitW
      rw [← step_xor]
      congr 1
      have : (if (p ^^ q) then highW else 0) = (if p then highW else 0) ^^^ (if q then highW else (0 : BitVec 32)) := by cases p <;> cases q <;> decide
      rw [this]
      ac_rfl

theorem lift_xor (p q : UInt8) : lift8 (p ^^^ q) = lift8 p ^^^ lift8 q := by
  unfold lift8
  rw [UInt8.toBitVec_xor, BitVec.setWidth_xor, BitVec.shiftLeft_xor_distrib]
theorem xor4 (a b c d : BitVec 32) : (a ^^^ b) ^^^ (c ^^^ d) = (a ^^^ c) ^^^ (b ^^^ d) := by ac_rfl
theorem byteW_xor (a b : BitVec 32) (p q : UInt8) : byteW (a ^^^ b) (p ^^^ q) = byteW a p ^^^ byteW b q := by
  unfold byteW
  rw [lift_xor, xor4, iter_xor]
theorem crc_cons (n : BitVec 32) (c : UInt8) (l : List UInt8) : crc n (c :: l) = crc (byteW n c) l := rfl
/-- The sums of two texts of one length, changed by one another. -/
theorem crc_xor (x : List UInt8) : ∀ (y : List UInt8) (a b : BitVec 32), x.length = y.length → crc (a ^^^ b) (List.zipWith (· ^^^ ·) x y) = crc a x ^^^ crc b y := by
  induction x with
  | nil => intro y a b h; cases y with
    | nil => simp [crc]
    | cons _ _ => simp at h
  | cons p x ih => intro y a b h; cases y with
    | nil => simp at h
    | cons q y =>
      simp only [List.length_cons, Nat.add_right_cancel_iff] at h
      rw [List.zipWith_cons_cons, crc_cons, crc_cons, crc_cons, byteW_xor, ih y _ _ h]

/-! ### bursts -/
def wordOf : List Bool → BitVec 32
  | [] => 0
  | b :: l => (if b then highW else 0) ^^^ (wordOf l >>> 1)
theorem wordOf_low (l : List Bool) : ∀ i, i + l.length < 32 → (wordOf l).getLsbD i = false := by
  induction l with
  | nil => intro i _; simp [wordOf]
  | cons b l ih =>
    intro i h
    simp only [List.length_cons] at h
    simp only [wordOf, BitVec.getLsbD_xor, BitVec.getLsbD_ushiftRight]
    rw [ih (1 + i) (by omega)]
    have : (if b then highW else 0).getLsbD i = false := by
      cases b
      · simp
      · simp only [if_true, highW]
        have : i < 31 := by omega
        rw [show (0x80000000#32) = (1#32 <<< 31) by decide, BitVec.getLsbD_shiftLeft]
        simp [this]
    rw [this]; rfl
theorem crcBits_word (l : List Bool) : ∀ n, l.length ≤ 32 → crcBits n l = iter l.length (n ^^^ wordOf l) := by
  induction l with
  | nil => intro n _; simp [crcBits, wordOf, iter]
  | cons b l ih =>
    intro n h
    simp only [List.length_cons] at h
    show crcBits (bitW n b) l = iter l.length (stepW (n ^^^ ((if b then highW else 0) ^^^ (wordOf l >>> 1))))
    rw [ih _ (by omega), ← BitVec.xor_assoc, step_xor]
    congr 2
    unfold stepW
    have hm : (wordOf l >>> 1).msb = false := by rw [BitVec.msb_eq_getLsbD_last]; simp
    rw [hm]
    simp only [Bool.false_eq_true, if_false]
    apply BitVec.eq_of_getLsbD_eq
    intro i hi
    by_cases h0 : i = 0
    · subst h0; rw [wordOf_low l 0 (by omega)]; simp
    · simp [show ¬ i < 1 by omega, show 1 + (i - 1) = i by omega, hi]
theorem wordOf_zero (l : List Bool) : l.length ≤ 32 → wordOf l = 0 → ∀ b ∈ l, b = false := by
  induction l with
  | nil => intro _ _ b hb; simp at hb
  | cons b l ih =>
    intro h hz
    simp only [List.length_cons] at h
    have hb : b = false := by
      have := congrArg (fun x => x.getLsbD 31) hz
      simp only [wordOf, BitVec.getLsbD_xor, BitVec.getLsbD_ushiftRight] at this
      cases b
      · rfl
      · simp [highW] at this
    subst hb
    have hl : wordOf l = 0 := by
      apply BitVec.eq_of_getLsbD_eq
      intro i hi
      by_cases h0 : i = 0
      · subst h0; rw [wordOf_low l 0 (by omega)]; simp
      · have := congrArg (fun x => x.getLsbD (i - 1)) hz
        simp [wordOf, show 1 + (i - 1) = i by omega] at this
        simpa using this
    intro c hc
    rcases List.mem_cons.1 hc with rfl | hc
    · rfl
    · exact ih (by omega) hl c hc
theorem crcBits_false (k : Nat) : ∀ n, crcBits n (List.replicate k false) = iter k n := by
  induction k with
  | zero => intro n; rfl
  | succ k ih =>
    intro n
    show crcBits (bitW n false) (List.replicate k false) = iter k (stepW n)
    rw [ih]; simp [bitW]
/-- A burst of at most 32 bits in a row has a sum that is not 0. -/
theorem burst_seen (i k : Nat) (l : List Bool) (h : l.length ≤ 32) (hz : crcBits 0 (List.replicate i false ++ (l ++ List.replicate k false)) = 0) : ∀ b ∈ l, b = false := by
  rw [crcBits_append, crcBits_append, crcBits_false, crcBits_false, iter_zero] at hz
  have := iter_inj _ _ hz
  rw [crcBits_word l 0 h, zx] at this
  exact wordOf_zero l h (iter_inj _ _ this)


/-! ### what is sealed -/
def bytesW (n : BitVec 32) : List UInt8 := [⟨n.extractLsb' 24 8⟩, ⟨n.extractLsb' 16 8⟩, ⟨n.extractLsb' 8 8⟩, ⟨n.extractLsb' 0 8⟩]
def lenW (s : List UInt8) : BitVec 32 := BitVec.ofNat 32 s.length
def headW (s : List UInt8) : List UInt8 := bytesW (lenW s) ++ s
def sealW (s : List UInt8) : List UInt8 := headW s ++ bytesW (ofW (headW s))
def midW (s : List UInt8) : List UInt8 := (s.drop 4).take (s.length - 8)
def openB (s : List UInt8) : Bool := decide (8 ≤ s.length) && decide (sealW (midW s) = s)

theorem bytesW_length (n : BitVec 32) : (bytesW n).length = 4 := rfl
theorem sealW_length (s : List UInt8) : (sealW s).length = s.length + 8 := by
  simp [sealW, headW, bytesW_length]; omega
theorem midW_seal (s : List UInt8) : midW (sealW s) = s := by
  unfold midW
  rw [sealW_length]
  unfold sealW headW
  rw [List.append_assoc, List.drop_append_of_le_length (by simp [bytesW_length])]
  have : (bytesW (lenW s)).drop 4 = [] := rfl
  rw [this, List.nil_append, show s.length + 8 - 8 = s.length by omega, List.take_left']
  rfl
theorem openB_seal (s : List UInt8) : openB (sealW s) = true := by
  unfold openB
  rw [midW_seal, sealW_length]
  simp
theorem openB_iff (s : List UInt8) : openB s = true ↔ ∃ m, s = sealW m := by
  constructor
  · intro h
    unfold openB at h
    simp only [Bool.and_eq_true, decide_eq_true_eq] at h
    exact ⟨_, h.2.symm⟩
  · rintro ⟨m, rfl⟩; exact openB_seal m

def bitsW (c : BitVec 32) : List Bool := (List.range 32).map fun i => c.getLsbD (31 - i)
theorem bits_bytes (c : BitVec 32) : bitsAll (bytesW c) = bitsW c := by
  simp [bitsAll, bytesW, bitsOf, bitsW, List.range_succ]
theorem wordOf_get (l : List Bool) : ∀ i, i < 32 → l.length ≤ 32 → (wordOf l).getLsbD i = l.getD (31 - i) false := by
  induction l with
  | nil => intro i _ _; simp [wordOf]
  | cons b l ih =>
    intro i hi h
    simp only [List.length_cons] at h
    simp only [wordOf, BitVec.getLsbD_xor, BitVec.getLsbD_ushiftRight]
    by_cases h31 : i = 31
    · subst h31
      cases b <;> simp [highW]
    · rw [ih (1 + i) (by omega) (by omega), show 31 - i = (31 - (1 + i)) + 1 by omega, List.getD_cons_succ]
      have : (if b then highW else 0).getLsbD i = false := by
        cases b
        · simp
        · simp only [if_true, highW]
          rw [show (0x80000000#32) = (1#32 <<< 31) by decide, BitVec.getLsbD_shiftLeft]
          simp [show i < 31 by omega]
      rw [this, Bool.false_xor]
theorem wordOf_bits (c : BitVec 32) : wordOf (bitsW c) = c := by
  apply BitVec.eq_of_getLsbD_eq
  intro i hi
  rw [wordOf_get _ _ hi (by simp [bitsW])]
  simp only [bitsW, List.getD_eq_getElem?_getD, List.getElem?_map, List.getElem?_range (show 31 - i < 32 by omega), Option.map_some, Option.getD_some]
  congr 1; omega
theorem crc_own (c : BitVec 32) : crc c (bytesW c) = 0 := by
  rw [crc_bits, bits_bytes, crcBits_word _ _ (by simp [bitsW]), wordOf_bits, BitVec.xor_self]
  exact iter_zero _
theorem ofW_seal (s : List UInt8) : ofW (sealW s) = 0 := by
  unfold sealW ofW
  rw [crc_append]
  exact crc_own _

/-! ### bits of a text -/
theorem bitsAll_length (l : List UInt8) : (bitsAll l).length = 8 * l.length := by
  induction l with
  | nil => rfl
  | cons c l ih => simp only [bitsAll, List.flatMap_cons, List.length_append, List.length_cons] at *; rw [ih]; simp [bitsOf]; omega
theorem bitsAll_cons (c : UInt8) (l : List UInt8) : bitsAll (c :: l) = bitsOf c ++ bitsAll l := rfl
theorem bitsOf_getD (c : UInt8) (j : Nat) (h : j < 8) : (bitsOf c).getD j false = c.toBitVec.getLsbD (7 - j) := by
  match j, h with
  | 0, _ => rfl
  | 1, _ => rfl
  | 2, _ => rfl
  | 3, _ => rfl
  | 4, _ => rfl
  | 5, _ => rfl
  | 6, _ => rfl
  | 7, _ => rfl
theorem bitsAll_getD (l : List UInt8) : ∀ j, (bitsAll l).getD j false = (l.getD (j / 8) 0).toBitVec.getLsbD (7 - j % 8) := by
  induction l with
  | nil => intro j; simp [bitsAll]
  | cons c l ih =>
    intro j
    rw [bitsAll_cons]
    by_cases h : j < 8
    · rw [List.getD_eq_getElem?_getD, List.getElem?_append_left (by simp [bitsOf]; omega), ← List.getD_eq_getElem?_getD, bitsOf_getD c j h]
      rw [show j / 8 = 0 by omega, show j % 8 = j by omega]; rfl
    · rw [List.getD_eq_getElem?_getD, List.getElem?_append_right (by simp [bitsOf]; omega), ← List.getD_eq_getElem?_getD]
      rw [show (bitsOf c).length = 8 from rfl, ih]
      rw [show j / 8 = (j - 8) / 8 + 1 by omega, List.getD_cons_succ, show (j - 8) % 8 = j % 8 by omega]

/-- Bit k of a text, changed. -/
def flipAt (b : List UInt8) (k : Nat) : List UInt8 := b.set (k / 8) (b.getD (k / 8) 0 ^^^ (128 >>> UInt8.ofNat (k % 8)))
theorem flipAt_length (b : List UInt8) (k : Nat) : (flipAt b k).length = b.length := by simp [flipAt]
theorem mask_bit (j k : Nat) (hj : j < 8) (hk : k < 8) : (128 >>> UInt8.ofNat k : UInt8).toBitVec.getLsbD (7 - j) = decide (j = k) := by
  have h : ∀ j, j < 8 → ∀ k, k < 8 → (128 >>> UInt8.ofNat k : UInt8).toBitVec.getLsbD (7 - j) = decide (j = k) := by decide
  exact h j hj k hk
theorem flipAt_bits (b : List UInt8) (k j : Nat) (hk : k < 8 * b.length) : (bitsAll (flipAt b k)).getD j false = ((bitsAll b).getD j false ^^ decide (j = k)) := by
  rw [bitsAll_getD, bitsAll_getD]
  unfold flipAt
  by_cases h : j / 8 = k / 8
  · have e : (b.set (k / 8) (b.getD (k / 8) 0 ^^^ (128 >>> UInt8.ofNat (k % 8)))).getD (j / 8) 0 = b.getD (k / 8) 0 ^^^ (128 >>> UInt8.ofNat (k % 8)) := by
      rw [h, List.getD_eq_getElem?_getD, List.getElem?_set_self (by omega)]; rfl
    rw [e, UInt8.toBitVec_xor, BitVec.getLsbD_xor, mask_bit _ _ (by omega) (by omega), h]
    congr 1
    by_cases e2 : j = k
    · subst e2; simp
    · simp [e2]; omega
  · have e : (b.set (k / 8) (b.getD (k / 8) 0 ^^^ (128 >>> UInt8.ofNat (k % 8)))).getD (j / 8) 0 = b.getD (j / 8) 0 := by
      rw [List.getD_eq_getElem?_getD, List.getElem?_set_ne (by omega), ← List.getD_eq_getElem?_getD]
    rw [e]
    have : j ≠ k := fun e => h (by rw [e])
    simp [this]

/-- What the first i bits of a burst make of a text. -/
def burstTo (from0 burst : Nat) (b : List UInt8) : Nat → List UInt8
  | 0 => b
  | i + 1 => if burst / 2 ^ i % 2 = 1 then flipAt (burstTo from0 burst b i) (from0 + i) else burstTo from0 burst b i
theorem burstTo_length (from0 burst : Nat) (b : List UInt8) (i : Nat) : (burstTo from0 burst b i).length = b.length := by
  induction i with
  | zero => rfl
  | succ i ih => unfold burstTo; split <;> simp [flipAt_length, ih]
theorem burstTo_bits (from0 burst : Nat) (b : List UInt8) (j : Nat) : ∀ i, from0 + i ≤ 8 * b.length → (bitsAll (burstTo from0 burst b i)).getD j false = ((bitsAll b).getD j false ^^ (decide (from0 ≤ j ∧ j < from0 + i) && burst.testBit (j - from0))) := by
  intro i
  induction i with
  | zero =>
    intro _
    rw [decide_eq_false (show ¬ (from0 ≤ j ∧ j < from0 + 0) by omega)]
    simp [burstTo]
  | succ i ih =>
    intro h
    have ih := ih (by omega)
    have tb : burst.testBit i = decide (burst / 2 ^ i % 2 = 1) := by rw [Nat.testBit_eq_decide_div_mod_eq]
    unfold burstTo
    split
    · rename_i hb
      rw [flipAt_bits _ _ _ (by rw [burstTo_length]; omega), ih, Bool.xor_assoc]
      congr 1
      by_cases e : j = from0 + i
      · subst e
        simp [tb, hb]
      · simp only [e, decide_false, Bool.xor_false]
        rw [decide_eq_decide.2 (show (from0 ≤ j ∧ j < from0 + i) ↔ (from0 ≤ j ∧ j < from0 + (i + 1)) by omega)]
    · rename_i hb
      rw [ih]
      congr 1
      by_cases e : j = from0 + i
      · subst e
        simp [tb, hb]
      · rw [decide_eq_decide.2 (show (from0 ≤ j ∧ j < from0 + i) ↔ (from0 ≤ j ∧ j < from0 + (i + 1)) by omega)]
def burstBits (burst : Nat) : List Bool := (List.range 32).map fun i => burst.testBit i
theorem burst_zip (from0 burst : Nat) (b : List UInt8) (h : from0 + 32 ≤ 8 * b.length) : bitsAll (burstTo from0 burst b 32) = List.zipWith (· ^^ ·) (bitsAll b) (List.replicate from0 false ++ (burstBits burst ++ List.replicate (8 * b.length - (from0 + 32)) false)) := by
  have hl : (List.replicate from0 false ++ (burstBits burst ++ List.replicate (8 * b.length - (from0 + 32)) false)).length = 8 * b.length := by simp [burstBits]; omega
  apply List.ext_getElem?
  intro j
  by_cases hj : j < 8 * b.length
  · have l1 : j < (bitsAll (burstTo from0 burst b 32)).length := by rw [bitsAll_length, burstTo_length]; exact hj
    have l2 : j < (bitsAll b).length := by rw [bitsAll_length]; exact hj
    have := burstTo_bits from0 burst b j 32 h
    rw [List.getD_eq_getElem?_getD, List.getD_eq_getElem?_getD, List.getElem?_eq_getElem l1, List.getElem?_eq_getElem l2] at this
    simp only [Option.getD_some] at this
    rw [List.getElem?_zipWith, List.getElem?_eq_getElem l1, this, List.getElem?_eq_getElem l2, List.getElem?_eq_getElem (by omega)]
    simp only [Option.some.injEq]
    congr 1
    by_cases a : j < from0
    · rw [List.getElem_append_left (by simpa using a)]; simp; omega
    · rw [List.getElem_append_right (by simpa using a)]
      by_cases a2 : j < from0 + 32
      · rw [List.getElem_append_left (by simp [burstBits]; omega)]
        simp [burstBits]; omega
      · rw [List.getElem_append_right (by simp [burstBits]; omega)]; simp; omega
  · rw [List.getElem?_eq_none (by rw [bitsAll_length, burstTo_length]; omega), List.getElem?_eq_none (by simp [bitsAll_length]; omega)]
theorem burstTo_zero (from0 : Nat) (b : List UInt8) (i : Nat) : burstTo from0 0 b i = b := by
  induction i with
  | zero => rfl
  | succ i ih => unfold burstTo; simp [ih]
/-- THE LAW OF BURSTS. -/
theorem burst_law (s : List UInt8) (from0 burst : Nat) (hb : burst < 2 ^ 32) (h : from0 + 32 ≤ 8 * (sealW s).length) : openB (burstTo from0 burst (sealW s) 32) = decide (burst = 0) := by
  by_cases h0 : burst = 0
  · subst h0
    rw [burstTo_zero, openB_seal]; rfl
  · rw [decide_eq_false h0]
    by_cases ho : openB (burstTo from0 burst (sealW s) 32) = true
    · exfalso
      obtain ⟨m, hm⟩ := (openB_iff _).1 ho
      have z := burst_zip from0 burst (sealW s) h
      have e1 : crcBits 0 (bitsAll (burstTo from0 burst (sealW s) 32)) = 0 := by rw [hm, ← crc_bits]; exact ofW_seal m
      have e2 : crcBits 0 (bitsAll (sealW s)) = 0 := by rw [← crc_bits]; exact ofW_seal s
      have e3 := crcBits_xor (bitsAll (sealW s)) (List.replicate from0 false ++ (burstBits burst ++ List.replicate (8 * (sealW s).length - (from0 + 32)) false)) 0 0 (by rw [bitsAll_length]; simp [burstBits]; omega)
      rw [← z, zx, e1, e2, zx] at e3
      have := burst_seen from0 _ (burstBits burst) (by simp [burstBits]) e3.symm
      apply h0
      apply Nat.eq_of_testBit_eq
      intro i
      rw [Nat.zero_testBit]
      by_cases hi : i < 32
      · exact this _ (by simp only [burstBits, List.mem_map, List.mem_range]; exact ⟨i, hi, rfl⟩)
      · exact Nat.testBit_lt_two_pow (Nat.lt_of_lt_of_le hb (Nat.pow_le_pow_right (by omega) (by omega)))
    · simpa using ho

/-! ### what is cut, or longer -/
theorem bytesW_inj (a b : BitVec 32) (h : bytesW a = bytesW b) : a = b := by
  have ha := wordOf_bits a
  rw [← bits_bytes, h, bits_bytes, wordOf_bits] at ha
  exact ha.symm
theorem seal_take (s t : List UInt8) (hs : s.length < 2 ^ 32) (ht : t.length < 2 ^ 32) (h : (sealW s).take 4 = (sealW t).take 4) : s.length = t.length := by
  have e : ∀ u : List UInt8, (sealW u).take 4 = bytesW (lenW u) := by
    intro u; unfold sealW headW; rw [List.append_assoc]; exact List.take_left' rfl
  rw [e, e] at h
  have := congrArg BitVec.toNat (bytesW_inj _ _ h)
  simpa [lenW, Nat.mod_eq_of_lt hs, Nat.mod_eq_of_lt ht] using this
theorem cut_short (s : List UInt8) (hs : s.length ≤ 1000) (k : Nat) (hk : k < (sealW s).length) : openB ((sealW s).take k) = false := by
  by_cases ho : openB ((sealW s).take k) = true
  · exfalso
    obtain ⟨m, hm⟩ := (openB_iff _).1 ho
    have hl := congrArg List.length hm
    rw [List.length_take, sealW_length, sealW_length] at hl
    rw [sealW_length] at hk
    have : s.length = m.length := by
      apply seal_take s m (by omega) (by omega)
      rw [← hm, List.take_take, Nat.min_eq_left (by omega)]
    omega
  · simpa using ho
theorem cut_long (s more : List UInt8) (hs : s.length ≤ 1000) (hm : 1 ≤ more.length) (hm2 : more.length ≤ 1000) : openB (sealW s ++ more) = false := by
  by_cases ho : openB (sealW s ++ more) = true
  · exfalso
    obtain ⟨m, he⟩ := (openB_iff _).1 ho
    have hl := congrArg List.length he
    rw [List.length_append, sealW_length, sealW_length] at hl
    have : s.length = m.length := by
      apply seal_take s m (by omega) (by omega)
      rw [← he, List.take_append_of_le_length (by rw [sealW_length]; omega)]
    omega
  · simpa using ho

end Go.Proofs.Ytogakapokgddiaa.Plain
