namespace Go.Proofs.Ytafkbbjmbbimpaa.Plain

/-- What tells a list. -/
structure LC where
  next : List Int
  prev : List Int
  inn : List Bool
  head : Int
  tail : Int
instance : DecidableEq LC := fun a b => decidable_of_iff (a.next = b.next ∧ a.prev = b.prev ∧ a.inn = b.inn ∧ a.head = b.head ∧ a.tail = b.tail) (by cases a; cases b; simp)
def LC.ok (t : LC) : Prop := t.next.length = 64 ∧ t.prev.length = 64 ∧ t.inn.length = 64
def newT : LC := ⟨List.replicate 64 (-1), List.replicate 64 (-1), List.replicate 64 false, -1, -1⟩
def stepT (t : LC) (id : Int) : LC :=
  { next := if t.tail < 0 then t.next else t.next.set t.tail.toNat id
    prev := t.prev.set id.toNat t.tail
    inn := t.inn.set id.toNat true
    head := if t.tail < 0 then id else t.head
    tail := id }
def tell (l : List Int) : LC := l.foldl stepT newT
def inR (x : Int) : Prop := 0 ≤ x ∧ x < 64
def may (l : List Int) : Prop := (∀ x ∈ l, inR x) ∧ l.Nodup
instance (x : Int) : Decidable (inR x) := by unfold inR; exact inferInstance
instance (l : List Int) : Decidable (may l) := by unfold may; exact inferInstance

theorem tell_snoc (l : List Int) (x : Int) : tell (l ++ [x]) = stepT (tell l) x := by simp [tell]
theorem stepT_ok (t : LC) (x : Int) (h : t.ok) : (stepT t x).ok := by
  obtain ⟨h1, h2, h3⟩ := h
  refine ⟨?_, by simp [stepT, h2], by simp [stepT, h3]⟩
  unfold stepT
  show (if t.tail < 0 then t.next else t.next.set t.tail.toNat x).length = 64
  split <;> simp [h1]
theorem newT_ok : newT.ok := ⟨rfl, rfl, rfl⟩
theorem fold_ok (l : List Int) : ∀ t : LC, t.ok → (l.foldl stepT t).ok := by
  induction l with
  | nil => intro t h; exact h
  | cons x l ih => intro t h; exact ih _ (stepT_ok t x h)
theorem tell_ok (l : List Int) : (tell l).ok := fold_ok l _ newT_ok

theorem may_snoc {l : List Int} {x : Int} (h : may (l ++ [x])) : may l ∧ inR x ∧ x ∉ l := by
  obtain ⟨h1, h2⟩ := h
  rw [List.nodup_append] at h2
  refine ⟨⟨fun y hy => h1 y (by simp [hy]), h2.1⟩, h1 x (by simp), fun hx => h2.2.2 x hx x (by simp) rfl⟩
theorem may_cons {l : List Int} {x : Int} (h : may (x :: l)) : may l ∧ inR x ∧ x ∉ l := by
  obtain ⟨h1, h2⟩ := h
  rw [List.nodup_cons] at h2
  exact ⟨⟨fun y hy => h1 y (by simp [hy]), h2.2⟩, h1 x (by simp), h2.1⟩
theorem snoc_ind {p : List Int → Prop} (h0 : p []) (h1 : ∀ l x, p l → p (l ++ [x])) : ∀ l, p l := by
  intro l
  have : ∀ n, ∀ l : List Int, l.length = n → p l := by
    intro n
    induction n with
    | zero => intro l hl; rw [List.length_eq_zero_iff.1 hl]; exact h0
    | succ n ih =>
      intro l hl
      have hne : l ≠ [] := by intro e; rw [e] at hl; simp at hl
      rw [← List.dropLast_concat_getLast hne]
      exact h1 _ _ (ih _ (by simp; omega))
  exact this _ l rfl

/-- All that is known of what tells a list. -/
structure Told (l : List Int) (t : LC) : Prop where
  ok : t.ok
  tail : t.tail = l.getLastD (-1)
  head : t.head = l.headD (-1)
  inn : ∀ x, inR x → t.inn.getD x.toNat false = decide (x ∈ l)
  nextOut : ∀ x, inR x → x ∉ l → t.next.getD x.toNat 0 = -1
  prevOut : ∀ x, inR x → x ∉ l → t.prev.getD x.toNat 0 = -1
  next : ∀ k (h : k < l.length), t.next.getD (l[k]).toNat 0 = l.getD (k + 1) (-1)
  prev : ∀ k (h : k < l.length), t.prev.getD (l[k]).toNat 0 = if k = 0 then -1 else l.getD (k - 1) (-1)

theorem getD_set (l : List Int) (i j : Nat) (v d : Int) (hi : i < l.length) : (l.set i v).getD j d = if i = j then v else l.getD j d := by
  by_cases h : i = j
  · subst h; rw [if_pos rfl, List.getD_eq_getElem?_getD, List.getElem?_set_self hi]; rfl
  · rw [if_neg h, List.getD_eq_getElem?_getD, List.getElem?_set_ne h, ← List.getD_eq_getElem?_getD]
theorem getD_setB (l : List Bool) (i j : Nat) (v d : Bool) (hi : i < l.length) : (l.set i v).getD j d = if i = j then v else l.getD j d := by
  by_cases h : i = j
  · subst h; rw [if_pos rfl, List.getD_eq_getElem?_getD, List.getElem?_set_self hi]; rfl
  · rw [if_neg h, List.getD_eq_getElem?_getD, List.getElem?_set_ne h, ← List.getD_eq_getElem?_getD]
theorem getD_rep (n j : Nat) (h : j < n) : (List.replicate n (-1 : Int)).getD j 0 = -1 := by
  rw [List.getD_eq_getElem?_getD, List.getElem?_replicate, if_pos h]; rfl
theorem getD_repB (n j : Nat) : (List.replicate n false).getD j false = false := by
  rw [List.getD_eq_getElem?_getD, List.getElem?_replicate]; split <;> rfl
theorem toNat_inj {x y : Int} (hx : inR x) (hy : inR y) (h : x.toNat = y.toNat) : x = y := by
  unfold inR at hx hy; omega

theorem told_tell (l : List Int) : may l → Told l (tell l) := by
  refine snoc_ind (p := fun l => may l → Told l (tell l)) ?_ ?_ l
  · intro _
    refine ⟨newT_ok, rfl, rfl, ?_, ?_, ?_, ?_, ?_⟩
    · intro x _; exact getD_repB _ _
    · intro x hx _; unfold inR at hx; exact getD_rep 64 _ (by omega)
    · intro x hx _; unfold inR at hx; exact getD_rep 64 _ (by omega)
    · intro k h; simp at h
    · intro k h; simp at h
  · intro l x ih hm
    obtain ⟨hml, hx, hnot⟩ := may_snoc hm
    have T := ih hml
    rw [tell_snoc]
    obtain ⟨o1, o2, o3⟩ := T.ok
    have hxr := hx
    unfold inR at hxr
    -- the one ahead
    have hlast : ∀ y, l ≠ [] → y = l.getLastD (-1) → inR y ∧ y ∈ l := by
      intro y hne hy
      have : y ∈ l := by
        rw [hy, List.getLastD_eq_getLast?, List.getLast?_eq_some_getLast hne]
        exact List.getLast_mem hne
      exact ⟨hml.1 y this, this⟩
    have htail : l ≠ [] → ¬ (tell l).tail < 0 := by
      intro hne h
      rw [T.tail] at h
      have := (hlast _ hne rfl).1
      unfold inR at this
      omega
    have hnil : l = [] → (tell l).tail = -1 := by intro h; rw [T.tail, h]; rfl
    have hnextGet : ∀ j, j < 64 → (stepT (tell l) x).next.getD j 0 = if l ≠ [] ∧ (l.getLastD (-1)).toNat = j then x else (tell l).next.getD j 0 := by
      intro j hj
      unfold stepT
      show (if (tell l).tail < 0 then (tell l).next else (tell l).next.set (tell l).tail.toNat x).getD j 0 = _
      by_cases hne : l = []
      · rw [if_pos (by rw [hnil hne]; omega), if_neg (by simp [hne])]
      · rw [if_neg (htail hne)]
        have hb := (hlast _ hne rfl).1
        unfold inR at hb
        rw [getD_set _ _ _ _ _ (by rw [o1, T.tail]; omega), T.tail]
        simp [hne]
    refine ⟨stepT_ok _ _ T.ok, ?_, ?_, ?_, ?_, ?_, ?_, ?_⟩
    · simp [stepT]
    · unfold stepT
      show (if (tell l).tail < 0 then x else (tell l).head) = _
      by_cases hne : l = []
      · rw [if_pos (by rw [hnil hne]; omega), hne]; rfl
      · rw [if_neg (htail hne), T.head]
        cases l with
        | nil => exact absurd rfl hne
        | cons a l => rfl
    · intro y hy
      have hyr := hy
      unfold inR at hyr
      show ((tell l).inn.set x.toNat true).getD y.toNat false = _
      rw [getD_setB _ _ _ _ _ (by rw [o3]; omega)]
      by_cases e : x = y
      · subst e; simp
      · rw [if_neg (fun h => e (toNat_inj hx hy h)), T.inn y hy]
        simp [show ¬ y = x from fun h => e h.symm]
    · intro y hy hny
      rw [List.mem_append, not_or] at hny
      rw [hnextGet _ (by unfold inR at hy; omega), if_neg, T.nextOut y hy hny.1]
      rintro ⟨hne, he⟩
      have hb := hlast _ hne rfl
      exact hny.1 (toNat_inj hb.1 hy he ▸ hb.2)
    · intro y hy hny
      rw [List.mem_append, not_or] at hny
      show ((tell l).prev.set x.toNat (tell l).tail).getD y.toNat 0 = _
      rw [getD_set _ _ _ _ _ (by rw [o2]; omega), if_neg, T.prevOut y hy hny.1]
      intro he
      exact hny.2 (by simp [toNat_inj hx hy he])
    · intro k hk
      have hkr : inR (l ++ [x])[k] := hm.1 _ (List.getElem_mem hk)
      rw [hnextGet _ (by unfold inR at hkr; omega)]
      by_cases hkl : k < l.length
      · have e1 : (l ++ [x])[k] = l[k] := List.getElem_append_left hkl
        rw [e1] at hkr ⊢
        have hne : l ≠ [] := by intro e; rw [e] at hkl; simp at hkl
        have hlg : l.getLastD (-1) = l[l.length - 1] := by
          rw [List.getLastD_eq_getLast?, List.getLast?_eq_getElem?, List.getElem?_eq_getElem (by omega)]; rfl
        by_cases hend : k + 1 = l.length
        · have : l[l.length - 1] = l[k] := by congr 1; omega
          rw [if_pos ⟨hne, by rw [hlg, this]⟩, List.getD_eq_getElem?_getD, List.getElem?_append_right (by omega)]
          simp [hend]
        · rw [if_neg, T.next k hkl, List.getD_eq_getElem?_getD, List.getD_eq_getElem?_getD, List.getElem?_append_left (by omega)]
          rintro ⟨_, he⟩
          have := toNat_inj (hlast _ hne rfl).1 hkr he
          rw [hlg] at this
          have := (List.getElem_inj hml.2).1 this
          omega
      · have hkl' : k = l.length := by rw [List.length_append] at hk; simp at hk; omega
        subst hkl'
        have e1 : (l ++ [x])[l.length] = x := by simp
        rw [e1]
        rw [if_neg, T.nextOut x hx hnot, List.getD_eq_getElem?_getD, List.getElem?_eq_none (by simp)]; rfl
        rintro ⟨hne, he⟩
        have hb := hlast _ hne rfl
        exact hnot (toNat_inj hb.1 hx he ▸ hb.2)
    · intro k hk
      have hkr : inR (l ++ [x])[k] := hm.1 _ (List.getElem_mem hk)
      show ((tell l).prev.set x.toNat (tell l).tail).getD _ 0 = _
      rw [getD_set _ _ _ _ _ (by rw [o2]; omega)]
      by_cases hkl : k < l.length
      · have e1 : (l ++ [x])[k] = l[k] := List.getElem_append_left hkl
        rw [e1] at hkr ⊢
        rw [if_neg (fun he => hnot (toNat_inj hx hkr he ▸ List.getElem_mem hkl)), T.prev k hkl]
        split
        · rfl
        · rw [List.getD_eq_getElem?_getD, List.getD_eq_getElem?_getD, List.getElem?_append_left (by omega)]
      · have hkl' : k = l.length := by rw [List.length_append] at hk; simp at hk; omega
        subst hkl'
        have e1 : (l ++ [x])[l.length] = x := by simp
        rw [e1, if_pos rfl, T.tail]
        by_cases hne : l = []
        · subst hne; rfl
        · have h0 : ¬ l.length = 0 := by intro e; exact hne (List.length_eq_zero_iff.1 e)
          rw [if_neg h0, List.getD_eq_getElem?_getD, List.getElem?_append_left (by omega), List.getLastD_eq_getLast?, List.getLast?_eq_getElem?]


theorem nat_pigeon (n : Nat) : ∀ l : List Nat, l.Nodup → (∀ x ∈ l, x < n) → l.length ≤ n := by
  induction n with
  | zero => intro l _ h; cases l with
    | nil => simp
    | cons x l => exact absurd (h x (by simp)) (by omega)
  | succ n ih =>
    intro l hn h
    have h1 := ih (l.erase n) (hn.erase n) (fun x hx => by
      have h2 := h x (List.mem_of_mem_erase hx)
      have h3 : x ≠ n := by
        intro e; subst e
        exact (List.Nodup.not_mem_erase hn) hx
      omega)
    have h2 : l.length ≤ (l.erase n).length + 1 := by
      rw [List.length_erase]; split <;> omega
    omega
theorem may_len {l : List Int} (h : may l) : l.length ≤ 64 := by
  have h1 := nat_pigeon 64 (l.map Int.toNat) (by
    unfold List.Nodup
    rw [List.pairwise_map]
    refine List.Pairwise.imp_of_mem ?_ h.2
    intro a b ha hb hab e
    exact hab (toNat_inj (h.1 a ha) (h.1 b hb) e)) (fun x hx => by
    obtain ⟨y, hy, rfl⟩ := List.mem_map.1 hx
    have := h.1 y hy
    unfold inR at this; omega)
  simpa using h1
theorem may_take {l : List Int} (h : may l) (k : Nat) : may (l.take k) := ⟨fun x hx => h.1 x (List.mem_of_mem_take hx), h.2.sublist (List.take_sublist k l)⟩
theorem may_snoc_mk {l : List Int} {x : Int} (h : may l) (hx : inR x) (hn : x ∉ l) : may (l ++ [x]) := by
  refine ⟨fun y hy => ?_, ?_⟩
  · rcases List.mem_append.1 hy with hy | hy
    · exact h.1 y hy
    · rw [List.mem_singleton.1 hy]; exact hx
  · rw [List.nodup_append]
    exact ⟨h.2, by simp, fun a ha b hb e => hn (by rw [← List.mem_singleton.1 hb, ← e]; exact ha)⟩
theorem may_cons_mk {l : List Int} {x : Int} (h : may l) (hx : inR x) (hn : x ∉ l) : may (x :: l) := by
  refine ⟨fun y hy => ?_, List.nodup_cons.2 ⟨hn, h.2⟩⟩
  rcases List.mem_cons.1 hy with rfl | hy
  · exact hx
  · exact h.1 y hy
/-- What the numbers tell, they alone tell. -/
theorem tell_inj {l m : List Int} (hl : may l) (hm : may m) (h : tell l = tell m) : l = m := by
  have L := told_tell l hl
  have M := told_tell m hm
  rw [h] at L
  have key : ∀ k, l.take k = m.take k := by
    intro k
    induction k with
    | zero => simp
    | succ k ih =>
      have e : l.getD k (-1) = m.getD k (-1) := by
        cases k with
        | zero =>
          have h1 := L.head
          rw [M.head] at h1
          cases l <;> cases m <;> first | rfl | (simpa using h1.symm)
        | succ k =>
          by_cases a : k < l.length
          · have hlen : k < m.length := by
              have h1 := congrArg List.length ih
              rw [List.length_take, List.length_take] at h1
              omega
            have e1 : l[k] = m[k] := by
              have h2 := congrArg (fun z => z.getD k 0) ih
              simp only [List.getD_eq_getElem?_getD, List.getElem?_take_of_lt (Nat.lt_succ_self k), List.getElem?_eq_getElem a, List.getElem?_eq_getElem hlen] at h2
              exact h2
            rw [← L.next k a, ← M.next k hlen, e1]
          · have hlen : ¬ k < m.length := by
              have h1 := congrArg List.length ih
              rw [List.length_take, List.length_take] at h1
              omega
            rw [List.getD_eq_getElem?_getD, List.getElem?_eq_none (by omega), List.getD_eq_getElem?_getD, List.getElem?_eq_none (by omega)]
      by_cases a : k < l.length
      · have b : k < m.length := by
          rcases Nat.lt_or_ge k m.length with b | b
          · exact b
          · rw [List.getD_eq_getElem?_getD, List.getElem?_eq_getElem a, List.getD_eq_getElem?_getD, List.getElem?_eq_none b] at e
            have h1 := hl.1 _ (List.getElem_mem a)
            unfold inR at h1
            simp at e; omega
        rw [List.take_succ_eq_append_getElem a, List.take_succ_eq_append_getElem b, ih]
        congr 2
        simpa [List.getD_eq_getElem?_getD, List.getElem?_eq_getElem a, List.getElem?_eq_getElem b] using e
      · have b : ¬ k < m.length := by
          intro b
          rw [List.getD_eq_getElem?_getD, List.getElem?_eq_none (by omega), List.getD_eq_getElem?_getD, List.getElem?_eq_getElem b] at e
          have h1 := hm.1 _ (List.getElem_mem b)
          unfold inR at h1
          simp at e; omega
        rw [List.take_of_length_le (by omega), List.take_of_length_le (by omega)]
        rw [List.take_of_length_le (by omega), List.take_of_length_le (by omega)] at ih
        exact ih
  have := key (l.length + m.length)
  rwa [List.take_of_length_le (by omega), List.take_of_length_le (by omega)] at this

/-- All but one number. -/
def wo (l : List Int) (id : Int) : List Int := l.filter (fun x => decide (x ≠ id))
theorem may_wo {l : List Int} (h : may l) (id : Int) : may (wo l id) := ⟨fun x hx => h.1 x (List.mem_filter.1 hx).1, h.2.filter _⟩
theorem not_mem_wo (l : List Int) (id : Int) : id ∉ wo l id := by simp [wo]
theorem wo_of_not_mem {l : List Int} {id : Int} (h : id ∉ l) : wo l id = l := by
  unfold wo
  rw [List.filter_eq_self]
  intro a ha
  simp only [decide_eq_true_eq]
  intro e; exact h (e ▸ ha)
theorem wo_snoc (l : List Int) (x id : Int) : wo (l ++ [x]) id = wo l id ++ (if x = id then [] else [x]) := by
  unfold wo
  rw [List.filter_append]
  congr 1
  by_cases h : x = id <;> simp [h]
def touchL (l : List Int) (id : Int) : List Int := id :: wo l id
theorem may_touch {l : List Int} (h : may l) {id : Int} (hi : inR id) : may (touchL l id) := may_cons_mk (may_wo h id) hi (not_mem_wo l id)


/-! ### acts -/
def doL (s : List Int) (a : Bool × Int) : List Int := if a.1 = true then wo s a.2 else if inR a.2 then touchL s a.2 else s
def runL (acts : List (Bool × Int)) : List Int := acts.foldl doL []
theorem may_doL {s : List Int} (h : may s) (a : Bool × Int) : may (doL s a) := by
  unfold doL
  split
  · exact may_wo h _
  · split
    · exact may_touch h ‹_›
    · exact h
theorem runL_snoc (acts : List (Bool × Int)) (a : Bool × Int) : runL (acts ++ [a]) = doL (runL acts) a := by simp [runL]
theorem may_nil : may [] := ⟨fun x hx => by simp at hx, List.nodup_nil⟩
theorem may_fold (acts : List (Bool × Int)) : ∀ s, may s → may (acts.foldl doL s) := by
  induction acts with
  | nil => intro s h; exact h
  | cons a acts ih => intro s h; exact ih _ (may_doL h a)
theorem may_runL (acts : List (Bool × Int)) : may (runL acts) := may_fold acts _ may_nil
theorem runL_take (acts : List (Bool × Int)) (k : Nat) (h : k < acts.length) : runL (acts.take (k + 1)) = doL (runL (acts.take k)) acts[k] := by
  rw [List.take_succ_eq_append_getElem h, runL_snoc]

def lateB (acts : List (Bool × Int)) (i : Nat) : Bool := (acts.drop (i + 1)).any fun a => decide (a.2 = (acts.getD i (false, 0)).2)
def keepB (acts : List (Bool × Int)) (i : Nat) : Bool := !lateB acts i && !(acts.getD i (false, 0)).1 && decide (inR (acts.getD i (false, 0)).2)
def wantTo (acts : List (Bool × Int)) : Nat → List Int
  | 0 => []
  | m + 1 => wantTo acts m ++ (if keepB acts (acts.length - 1 - m) = true then [(acts.getD (acts.length - 1 - m) (false, 0)).2] else [])
theorem getD_snocP (acts : List (Bool × Int)) (a : Bool × Int) (i : Nat) (h : i < acts.length) : (acts ++ [a]).getD i (false, 0) = acts.getD i (false, 0) := by
  rw [List.getD_eq_getElem?_getD, List.getElem?_append_left h, ← List.getD_eq_getElem?_getD]
theorem late_snoc (acts : List (Bool × Int)) (a : Bool × Int) (i : Nat) (h : i < acts.length) : lateB (acts ++ [a]) i = (lateB acts i || decide (a.2 = (acts.getD i (false, 0)).2)) := by
  unfold lateB
  rw [getD_snocP _ _ _ h, List.drop_append_of_le_length (by omega), List.any_append]
  simp
theorem want_snoc (acts : List (Bool × Int)) (a : Bool × Int) : ∀ m, m ≤ acts.length → wantTo (acts ++ [a]) (m + 1) = (if a.1 = false ∧ inR a.2 then [a.2] else []) ++ wo (wantTo acts m) a.2 := by
  intro m
  induction m with
  | zero =>
    intro _
    have e0 : (acts ++ [a]).length - 1 - 0 = acts.length := by simp
    have e1 : (acts ++ [a]).getD acts.length (false, 0) = a := by
      rw [List.getD_eq_getElem?_getD, List.getElem?_append_right (by omega)]; simp
    have e2 : lateB (acts ++ [a]) acts.length = false := by
      unfold lateB
      rw [List.drop_eq_nil_of_le (by simp)]; rfl
    show [] ++ (if keepB (acts ++ [a]) ((acts ++ [a]).length - 1 - 0) = true then [((acts ++ [a]).getD ((acts ++ [a]).length - 1 - 0) (false, 0)).2] else []) = _
    rw [e0]
    unfold keepB
    rw [e1, e2]
    simp only [wantTo, wo, List.filter_nil, List.append_nil, List.nil_append, Bool.not_false, Bool.true_and, Bool.and_eq_true, Bool.not_eq_true', decide_eq_true_eq]
  | succ m ih =>
    intro hm
    have hi : acts.length - 1 - m < acts.length := by omega
    have e0 : (acts ++ [a]).length - 1 - (m + 1) = acts.length - 1 - m := by simp; omega
    show wantTo (acts ++ [a]) (m + 1) ++ _ = _
    rw [ih (by omega), e0, List.append_assoc]
    congr 1
    show _ = wo (wantTo acts m ++ _) a.2
    unfold wo
    rw [List.filter_append]
    congr 1
    unfold keepB
    rw [getD_snocP _ _ _ hi, late_snoc _ _ _ hi]
    generalize acts.getD (acts.length - 1 - m) (false, 0) = b
    by_cases h1 : a.2 = b.2
    · rw [decide_eq_true h1]
      simp only [Bool.or_true, Bool.not_true, Bool.false_and, Bool.false_eq_true, if_false]
      split
      · simp [h1]
      · rfl
    · rw [decide_eq_false h1, Bool.or_false]
      split
      · simp [show ¬ b.2 = a.2 from fun e => h1 e.symm]
      · rfl
theorem want_run (acts : List (Bool × Int)) : wantTo acts acts.length = runL acts := by
  have key : ∀ n (acts : List (Bool × Int)), acts.length = n → wantTo acts acts.length = runL acts := by
    intro n
    induction n with
    | zero => intro acts h; rw [List.length_eq_zero_iff.1 h]; rfl
    | succ n ih =>
      intro acts h
      have hne : acts ≠ [] := by intro e; rw [e] at h; simp at h
      have hd : acts.dropLast.length = n := by simp; omega
      have e := List.dropLast_concat_getLast hne
      generalize acts.getLast hne = a at e
      generalize acts.dropLast = b at e hd
      subst e
      rw [List.length_append, List.length_singleton, want_snoc b a _ (Nat.le_refl _), runL_snoc, ih b hd]
      unfold doL
      by_cases h1 : a.1 = true
      · rw [if_pos h1, if_neg (by simp [h1])]; rfl
      · rw [if_neg h1]
        have h1' : a.1 = false := by simpa using h1
        by_cases h2 : inR a.2
        · rw [if_pos h2, if_pos ⟨h1', h2⟩]; rfl
        · rw [if_neg h2, if_neg (fun h => h2 h.2), List.nil_append]
          refine wo_of_not_mem (fun hmem => h2 ((may_runL b).1 _ hmem))
  exact key _ acts rfl

/-! ### the last one, each time -/
theorem getLast_take {l : List Int} (h : may l) (k : Nat) (hk : k < l.length) : wo (l.take (k + 1)) l[k] = l.take k := by
  rw [List.take_succ_eq_append_getElem hk, wo_snoc, if_pos rfl, List.append_nil]
  refine wo_of_not_mem ?_
  have h1 := (may_take h (k + 1)).2
  rw [List.take_succ_eq_append_getElem hk, List.nodup_append] at h1
  intro hmem
  exact h1.2.2 _ hmem _ (by simp) rfl
/-- What stands behind j turns. -/
def turnL (l : List Int) (j : Nat) : List Int := l.drop (l.length - j) ++ l.take (l.length - j)
theorem may_turn {l : List Int} (h : may l) (j : Nat) : may (turnL l j) := by
  have hp : List.Perm (turnL l j) l := by
    unfold turnL
    exact List.perm_append_comm.trans (by rw [List.take_append_drop])
  exact ⟨fun x hx => h.1 x (hp.mem_iff.1 hx), hp.nodup_iff.2 h.2⟩
theorem turn_last {l : List Int} (j : Nat) (hj : j < l.length) : turnL l j = (l.drop (l.length - j) ++ l.take (l.length - 1 - j)) ++ [l.getD (l.length - 1 - j) 0] := by
  unfold turnL
  have e : l.length - j = (l.length - 1 - j) + 1 := by omega
  rw [List.append_assoc]
  congr 1
  rw [e, List.take_succ_eq_append_getElem (by omega), List.getD_eq_getElem?_getD, List.getElem?_eq_getElem (by omega)]; rfl
theorem turn_succ {l : List Int} (h : may l) (j : Nat) (hj : j < l.length) : touchL (turnL l j) (l.getD (l.length - 1 - j) 0) = turnL l (j + 1) := by
  have hm := may_turn h j
  rw [turn_last j hj] at hm ⊢
  unfold touchL
  rw [wo_snoc, if_pos rfl, List.append_nil, wo_of_not_mem (may_snoc hm).2.2]
  unfold turnL
  have e : l.length - (j + 1) = l.length - 1 - j := by omega
  rw [e]
  have e2 : l.drop (l.length - 1 - j) = l.getD (l.length - 1 - j) 0 :: l.drop (l.length - j) := by
    rw [List.drop_eq_getElem_cons (by omega), List.getD_eq_getElem?_getD, List.getElem?_eq_getElem (by omega)]
    have : l.length - 1 - j + 1 = l.length - j := by omega
    rw [this]; rfl
  rw [e2]; rfl
theorem turn_zero (l : List Int) : turnL l 0 = l := by simp [turnL]
theorem turn_all (l : List Int) : turnL l l.length = l := by simp [turnL]

end Go.Proofs.Ytafkbbjmbbimpaa.Plain
