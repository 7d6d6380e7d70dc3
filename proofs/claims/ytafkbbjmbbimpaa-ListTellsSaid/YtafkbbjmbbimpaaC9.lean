/- The head of all statements: awake. -/
import Derived.Test.YtafkbbjmbbimpaaC8
namespace Go.Proofs.Ytafkbbjmbbimpaa
open Go.RowKit Plain

theorem Only.fresh {w w' : World} {cz : Array Value} (h : Only w.heap.size (w.alloc (.cells cz 26)) w') : Below w.heap.size w w' := h.below ((Below.refl _ _).alloc (Nat.le_refl _) _) (Nat.le_refl _)
theorem _root_.Go.RowKit.Below.link {w a b : World} (h : Below w.heap.size w a) (k : Below a.heap.size a b) : Below w.heap.size w b := h.trans (k.mono h.size)
theorem noL_zero : NoL zeroT := by
  intro l hl ht
  have T := told_tell l hl
  rw [ht] at T
  have h1 : (0 : Int) = l.headD (-1) := T.head
  cases l with
  | nil => cases h1
  | cons x l =>
    have hx : x = 0 := h1.symm
    have := T.inn 0 (by decide)
    rw [decide_eq_true (by rw [hx]; simp)] at this
    exact absurd this (by decide)
theorem ofT_ok (l : List Int) : (ofT l).ok := by unfold ofT; split; exact tell_ok l; exact newT_ok
theorem lit_at (w : World) (l : List Int) (cs : Array Value) (h : cs = (ints l).toArray) : IntAt (w.alloc (.cells cs 3)) (some ⟨w.heap.size, 0, none⟩) l := by
  subst h
  refine .inr ⟨_, _, rfl, by simp, ?_⟩
  intro i hi
  rw [Nat.zero_add, cell_of_row _ _ _ _ _ _ (heap_alloc_last w _), List.getElem?_toArray]
  unfold ints
  rw [List.getElem?_map, List.getD_eq_getElem?_getD, List.getElem?_eq_getElem hi]; rfl
theorem k1 : touchL [] 1 = [1] := by decide
theorem k2 : touchL [1] 2 = [2, 1] := by decide
theorem k3 : touchL [2, 1] 3 = [3, 2, 1] := by decide
theorem k4 : touchL [3, 2, 1] 1 = [1, 3, 2] := by decide
theorem k5 : wo [1, 3, 2] 3 = [1, 2] := by decide
theorem k6 : ofE [1, 1] = 110 := by decide
theorem m1 : may [1] := by decide
theorem m2 : may [2, 1] := by decide
theorem m3 : may [3, 2, 1] := by decide
theorem m4 : may [1, 3, 2] := by decide
theorem m5 : may [1, 2] := by decide
theorem aw1 (w : World) : Calls Try.prog 14 #[.agg (cellsT (tell [])), .int .i64 1] w (TE (tell [1]) 0 w) := by
  have h := touch_yes [] may_nil 1 (by decide) w
  rwa [k1] at h
theorem aw2 (w : World) : Calls Try.prog 14 #[.agg (cellsT (tell [1])), .int .i64 2] w (TE (tell [2, 1]) 0 w) := by
  have h := touch_yes [1] m1 2 (by decide) w
  rwa [k2] at h
theorem aw3 (w : World) : Calls Try.prog 14 #[.agg (cellsT (tell [2, 1])), .int .i64 3] w (TE (tell [3, 2, 1]) 0 w) := by
  have h := touch_yes [2, 1] m2 3 (by decide) w
  rwa [k3] at h
theorem aw4 (w : World) : Calls Try.prog 14 #[.agg (cellsT (tell [3, 2, 1])), .int .i64 1] w (TE (tell [1, 3, 2]) 0 w) := by
  have h := touch_yes [3, 2, 1] m3 1 (by decide) w
  rwa [k4] at h
theorem aw6 (w : World) : Calls Try.prog 18 #[.agg (cellsT (tell [1, 3, 2]))] w (IB 2 true w) := by
  have h := last_yes [1, 3, 2] m4 2 (by decide) w
  rwa [show ([1, 3, 2] : List Int).getD 2 0 = 2 by decide] at h
theorem aw7 (w : World) : Calls Try.prog 16 #[.agg (cellsT (tell [1, 3, 2])), .int .i64 3] w (TE (tell [1, 2]) 0 w) := by
  have h := drop_yes [1, 3, 2] m4 3 (by decide) w
  rwa [k5] at h
theorem aw9 (w : World) : Calls Try.prog 16 #[.agg (cellsT (tell [1, 2])), .int .i64 3] w (TE (tell [1, 2]) 120 w) := drop_none [1, 2] m5 3 (by decide) w
theorem aw10 (w : World) : Calls Try.prog 14 #[.agg (cellsT (tell [1, 2])), .int .i64 64] w (TE (tell [1, 2]) 110 w) := touch_room [1, 2] m5 64 (by decide) w
theorem aw11 (w : World) : Calls Try.prog 10 #[.slice (some ⟨w.heap.size, 0, none⟩) 2 2] (w.alloc (.cells #[.int .i64 1, .int .i64 1] 3)) (TE (ofT [1, 1]) 110 (w.alloc (.cells #[.int .i64 1, .int .i64 1] 3))) := by
  have h := of_any (some ⟨w.heap.size, 0, none⟩) [1, 1] 2 _ (by decide) (lit_at w [1, 1] #[.int .i64 1, .int .i64 1] rfl)
  unfold OfOk at h
  rw [k6] at h
  exact h
theorem awS1 (ao : Option Addr) (cap : Nat) (w : World) (h : IntAt w ao [1, 3, 2]) : Calls Try.prog 20 #[.slice ao 3 cap, .slice (some ⟨w.heap.size, 0, none⟩) 3 3] (w.alloc (.cells #[.int .i64 1, .int .i64 3, .int .i64 2] 3)) (fun e w' => e = .returned (.bool true) ∧ Below (w.alloc (.cells #[.int .i64 1, .int .i64 3, .int .i64 2] 3)).heap.size (w.alloc (.cells #[.int .i64 1, .int .i64 3, .int .i64 2] 3)) w') := by
  have h2 := same_any ao _ [1, 3, 2] [1, 3, 2] cap 3 _ (by decide) (by decide) (h.more _) (lit_at w [1, 3, 2] #[.int .i64 1, .int .i64 3, .int .i64 2] rfl)
  rwa [decide_eq_true (show ([1, 3, 2] : List Int) = [1, 3, 2] from rfl)] at h2
theorem awS2 (ao : Option Addr) (cap : Nat) (w : World) (h : IntAt w ao [1, 2]) : Calls Try.prog 20 #[.slice ao 2 cap, .slice (some ⟨w.heap.size, 0, none⟩) 2 2] (w.alloc (.cells #[.int .i64 1, .int .i64 2] 3)) (fun e w' => e = .returned (.bool true) ∧ Below (w.alloc (.cells #[.int .i64 1, .int .i64 2] 3)).heap.size (w.alloc (.cells #[.int .i64 1, .int .i64 2] 3)) w') := by
  have h2 := same_any ao _ [1, 2] [1, 2] cap 2 _ (by decide) (by decide) (h.more _) (lit_at w [1, 2] #[.int .i64 1, .int .i64 2] rfl)
  rwa [decide_eq_true (show ([1, 2] : List Int) = [1, 2] from rfl)] at h2
structure AwakeFacts (cz : Array Value) (Z T0 T1 T2 T3 T4 T5 T6 : LC) : Prop where
  e0 : newT = T0
  sz : cz.size = 194
  z26 : ∀ w, (zeroValue 26).run Try.prog w = .ok (.agg cz) w
  okz : Z.ok
  o1 : T1.ok
  o2 : T2.ok
  o3 : T3.ok
  o4 : T4.ok
  o5 : T5.ok
  o6 : T6.ok
  x1 : ∀ w, Calls Try.prog 14 #[.agg cz, .int .i64 1] w (TE Z 120 w)
  x2 : ∀ w, Calls Try.prog 12 #[.agg cz] w (fun e w' => e = .returned (.tuple #[.slice none 0 0, .bool false]) ∧ Below w.heap.size w w')
  c1 : ∀ w, Calls Try.prog 14 #[.agg (cellsT T0), .int .i64 1] w (TE T1 0 w)
  c2 : ∀ w, Calls Try.prog 14 #[.agg (cellsT T1), .int .i64 2] w (TE T2 0 w)
  c3 : ∀ w, Calls Try.prog 14 #[.agg (cellsT T2), .int .i64 3] w (TE T3 0 w)
  c4 : ∀ w, Calls Try.prog 14 #[.agg (cellsT T3), .int .i64 1] w (TE T4 0 w)
  c5 : ∀ w, Calls Try.prog 12 #[.agg (cellsT T4)] w (fun e w' => (∃ ao cap, e = .returned (.tuple #[.slice ao 3 cap, .bool true]) ∧ IntAt w' ao [1, 3, 2]) ∧ Below w.heap.size w w')
  c6 : ∀ w, Calls Try.prog 18 #[.agg (cellsT T4)] w (IB 2 true w)
  c7 : ∀ w, Calls Try.prog 16 #[.agg (cellsT T4), .int .i64 3] w (TE T5 0 w)
  c8 : ∀ w, Calls Try.prog 12 #[.agg (cellsT T5)] w (fun e w' => (∃ ao cap, e = .returned (.tuple #[.slice ao 2 cap, .bool true]) ∧ IntAt w' ao [1, 2]) ∧ Below w.heap.size w w')
  c9 : ∀ w, Calls Try.prog 16 #[.agg (cellsT T5), .int .i64 3] w (TE T5 120 w)
  c10 : ∀ w, Calls Try.prog 14 #[.agg (cellsT T5), .int .i64 64] w (TE T5 110 w)
  c11 : ∀ w : World, Calls Try.prog 10 #[.slice (some ⟨w.heap.size, 0, none⟩) 2 2] (w.alloc (.cells #[.int .i64 1, .int .i64 1] 3)) (TE T6 110 (w.alloc (.cells #[.int .i64 1, .int .i64 1] 3)))
theorem awake_facts : ∃ cz Z T0 T1 T2 T3 T4 T5 T6, AwakeFacts cz Z T0 T1 T2 T3 T4 T5 T6 :=
  ⟨cellsT zeroT, zeroT, tell [], tell [1], tell [2, 1], tell [3, 2, 1], tell [1, 3, 2], tell [1, 2], ofT [1, 1], rfl, cellsT_size zeroT_ok, (zero_of_info zero26).1, zeroT_ok, tell_ok _, tell_ok _, tell_ok _, tell_ok _, tell_ok _, ofT_ok _,
    fun w => touch_no zeroT zeroT_ok noL_zero 1 w, fun w => order_no zeroT zeroT_ok noL_zero w, aw1, aw2, aw3, aw4,
    fun w => (order_yes [1, 3, 2] m4 w).mono (by rintro e w' ⟨⟨ao, cap, he, hs⟩, hb⟩; exact ⟨⟨ao, cap, he, hs.1⟩, hb⟩), aw6, aw7,
    fun w => (order_yes [1, 2] m5 w).mono (by rintro e w' ⟨⟨ao, cap, he, hs⟩, hb⟩; exact ⟨⟨ao, cap, he, hs.1⟩, hb⟩), aw9, aw10, aw11⟩
theorem wpList_loadA {ops : Array Oper} {rest : List Oper} {op : Oper} {a : Act} {w : World} {Q : Exit → Act → World → Prop} {b : Nat} {t : LC} (hat : At w b t) (hgd : op.guard = none) (x : Operand) (ho : op.op = .load 26 x)
    (hx : a.eval x = .pointer (some ⟨b, 0, none⟩))
    (h : wpList Try.prog ops Q rest (a.put op.dst (.agg (cellsT t))) w) : wpList Try.prog ops Q (op :: rest) a w := wpList_loadT hgd x ho b hx t hat h
attribute [local irreducible] cellsT At Go.Calls
set_option maxRecDepth 20000 in
set_option maxHeartbeats 1000000 in
theorem awake_any (w : World) : Calls Try.prog 9 #[] w fun e w' => e = .returned (.bool true) ∧ Below w.heap.size w w' := by
  obtain ⟨cz, Z, T0, T1, T2, T3, T4, T5, T6, F⟩ := awake_facts
  have z26 := F.z26
  have sz := F.sz
  go_enter Try.func9, Try.ntmps9
  go_wp2_with (first
    | (go_at_call 21; refine (new_any _).mono ?_; rintro e w1 ⟨rfl, hb1⟩; rw [F.e0])
    | (go_at_call 14; refine (F.c1 _).mono ?_; rintro e w2 ⟨rfl, hb2⟩)
    | (refine wpList_storeT rfl (.tmp 1) (.tmp 24) rfl _ T1 rfl rfl F.o1 (Row.last _ _ sz) ?_; intro w3 hat3 hon3; have hb3 := hon3.fresh; have hB3 := (Below.link hb1 hb2).link hb3; have hl3 := hB3.size)
    | (refine wpList_loadA hat3 rfl _ rfl rfl ?_)
    | (go_at_call 14; refine (F.c2 _).mono ?_; rintro e w4 ⟨rfl, hb4⟩; have hat4 := hat3.below hb4 hat3.lt)
    | (refine wpList_storeT rfl (.tmp 1) (.tmp 29) rfl _ T2 rfl rfl F.o2 hat4.row ?_; intro w5 hat5 hon5)
    | (refine wpList_loadA hat5 rfl _ rfl rfl ?_)
    | (go_at_call 14; refine (F.c3 _).mono ?_; rintro e w6 ⟨rfl, hb6⟩; have hat6 := hat5.below hb6 hat5.lt)
    | (refine wpList_storeT rfl (.tmp 1) (.tmp 34) rfl _ T3 rfl rfl F.o3 hat6.row ?_; intro w7 hat7 hon7)
    | (refine wpList_loadA hat7 rfl _ rfl rfl ?_)
    | (go_at_call 14; refine (F.c4 _).mono ?_; rintro e w8 ⟨rfl, hb8⟩; have hat8 := hat7.below hb8 hat7.lt)
    | (refine wpList_storeT rfl (.tmp 1) (.tmp 39) rfl _ T4 rfl rfl F.o4 hat8.row ?_; intro w9 hat9 hon9)
    | (refine wpList_loadA hat9 rfl _ rfl rfl ?_)
    | (go_at_call 12; refine (F.c5 _).mono ?_; rintro e w10 ⟨⟨ao, cap, rfl, hint⟩, hb10⟩; have hat10 := hat9.below hb10 hat9.lt)
    | (refine wpList_loadA hat10 rfl _ rfl rfl ?_)
    | (go_at_call 18; refine (F.c6 _).mono ?_; rintro e w11 ⟨rfl, hb11⟩; have hat11 := hat10.below hb11 hat10.lt)
    | (refine wpList_loadA hat11 rfl _ rfl rfl ?_)
    | (go_at_call 16; refine (F.c7 _).mono ?_; rintro e w12 ⟨rfl, hb12⟩)
    | (refine wpList_storeT rfl (.tmp 7) (.tmp 54) rfl _ T5 rfl rfl F.o5 (Row.last _ _ sz) ?_; intro w13 hat13 hon13; have hb13 := hon13.fresh)
    | (refine wpList_loadA hat13 rfl _ rfl rfl ?_)
    | (go_at_call 12; refine (F.c8 _).mono ?_; rintro e w14 ⟨⟨ao2, cap2, rfl, hint2⟩, hb14⟩; have hat14 := hat13.below hb14 hat13.lt)
    | (refine wpList_loadA hat14 rfl _ rfl rfl ?_)
    | (go_at_call 16; refine (F.c9 _).mono ?_; rintro e w15 ⟨rfl, hb15⟩; have hat15 := hat14.below hb15 hat14.lt)
    | (refine wpList_storeT rfl (.tmp 11) (.tmp 64) rfl _ T5 rfl rfl F.o5 (Row.last w15 _ sz) ?_; intro w16 hat16 hon16; have hb16 := hon16.fresh; have hat16' := hat15.below hb16 hat15.lt)
    | (refine wpList_loadA hat16' rfl _ rfl rfl ?_)
    | (go_at_call 14; refine (F.c10 _).mono ?_; rintro e w17 ⟨rfl, hb17⟩)
    | (refine wpList_storeT rfl (.tmp 13) (.tmp 69) rfl _ T5 rfl rfl F.o5 (Row.last w17 _ sz) ?_; intro w18 hat18 hon18; have hb18 := hon18.fresh)
    | (go_at_call 14; refine (F.x1 _).mono ?_; rintro e w19 ⟨rfl, hb19⟩)
    | (refine wpList_storeT rfl (.tmp 15) (.tmp 74) rfl _ Z rfl rfl F.okz (Row.last _ _ sz) ?_; intro w20 hat20 hon20; have hb20 := hon20.fresh)
    | (go_at_call 12; refine (F.x2 _).mono ?_; rintro e w21 ⟨rfl, hb21⟩)
    | (go_at_call 10; refine (F.c11 _).mono ?_; rintro e w22 ⟨rfl, hb22⟩)
    | (refine wpList_storeT rfl (.tmp 19) (.tmp 84) rfl _ T6 rfl rfl F.o6 (Row.last _ _ sz) ?_; intro w23 hat23 hon23; have hb23 := hon23.fresh; have hb22' : Below w21.heap.size w21 w22 := ((Below.refl _ _).alloc (Nat.le_refl _) _).trans (hb22.mono (by simp)); have K14 := ((((((((hb15).link hb16).link hb17).link hb18).link hb19).link hb20).link hb21).link hb22').link hb23; have K10 := (((hb11.link hb12).link hb13).link hb14).link K14)
    | (go_at_call 20; refine (awS1 _ _ _ (hint.below K10)).mono ?_; rintro e w24 ⟨rfl, hb24⟩; have hb24' : Below w23.heap.size w23 w24 := ((Below.refl _ _).alloc (Nat.le_refl _) _).trans (hb24.mono (by simp)))
    | (go_at_call 20; refine (awS2 _ _ _ (hint2.below (K14.link hb24'))).mono ?_; rintro e w25 ⟨rfl, hb25⟩))
  go_ret
  refine ⟨rfl, ?_⟩
  have hl2 : w.heap.size ≤ w2.heap.size := (hb1.link hb2).size
  have B5 : Below w.heap.size w w5 := hon5.below (hB3.link hb4) hl2
  have B7 : Below w.heap.size w w7 := hon7.below (B5.link hb6) hl2
  have B9 : Below w.heap.size w w9 := hon9.below (B7.link hb8) hl2
  have B24 : Below w.heap.size w w24 := ((B9.link hb10).link K10).link hb24'
  exact B24.link (((Below.refl _ _).alloc (Nat.le_refl _) _).trans (hb25.mono (by simp)))
end Go.Proofs.Ytafkbbjmbbimpaa
