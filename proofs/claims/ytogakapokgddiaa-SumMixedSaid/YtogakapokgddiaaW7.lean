/- The walk of SumMixed. -/
import Derived.Test.YtogakapokgddiaaW6
import Derived.Deep.RegionHeld3
import Derived.Deep.AppendLies
import Derived.Deep.DrawnRows
namespace Go.Proofs.Ytogakapokgddiaa
open Go.RowKit
attribute [local go_sem ↓] Go.wp_at_zero Go.wp_at_succ

def mixD (a b : ByteArray) (m : Nat) : List UInt8 := (List.zipWith (· ^^^ ·) a.data.toList b.data.toList).take m
def cellsU (l : List UInt8) : List Value := l.map fun c => .int .u8 c.toNat
theorem mixD_snoc (a b : ByteArray) (m : Nat) (ha : m < a.size) (hb : m < b.size) (x : Int) (hx : x = bits .xor .u8 (a[m].toNat : Int) (b[m].toNat : Int)) : cellsU (mixD a b (m + 1)) = cellsU (mixD a b m) ++ [.int .u8 x] := by
  have e : x = ((a[m] ^^^ b[m]).toNat : Int) := by
    rw [hx, u8_xor_nat _ _ a[m].toNat_lt b[m].toNat_lt, UInt8.toNat_xor]
  subst e
  unfold cellsU mixD
  have ha' : m < a.data.toList.length := by simpa using ha
  have hb' : m < b.data.toList.length := by simpa using hb
  rw [List.take_succ_eq_append_getElem (by simp; omega), List.map_append, List.getElem_zipWith]
  rfl
theorem own_ge {w : World} {base : Nat} {e : TypeId} {size : Nat} {v : Value} {n : Nat} {xs : List Value} (h : w.ownsRow base e size v n xs) : ∀ k, v.ownBlock = some k → base ≤ k := by
  intro k hk
  rcases h.2 with ⟨hv, _⟩ | ⟨g, cap, cur, hv, hb, _⟩
  · rw [hv] at hk; simp [Value.ownBlock] at hk
  · rw [hv] at hk; simp [Value.ownBlock] at hk; omega
/-- What a row of bytes reads as, in every later world. -/
theorem own_conv {W w' : World} {base : Nat} {v : Value} {n : Nat} {l : List UInt8} (h : W.ownsRow base 5 1 v n (cellsU l)) (hb : Below W.heap.size W w') : (convert 34 9 v).run Try.prog w' = .ok (.string (txt l)) w' := by
  rcases h.2 with ⟨hv, hn⟩ | ⟨g, cap, cur, hv, _, hg, _⟩
  · have hl := h.1
    subst hv
    subst hn
    have : l = [] := by cases l with
      | nil => rfl
      | cons _ _ => simp [cellsU] at hl
    subst this
    exact run_convert_bytes_nil w' 34 5 Try.underlying34 Try.underlying5 0 0 9 Try.underlying9
  · subst hv
    have hl := h.1
    simp only [cellsU, List.length_map, Nat.mul_one] at hl
    have hgl : g < W.heap.size := by
      rcases Nat.lt_or_ge g W.heap.size with hlt | hge
      · exact hlt
      · rw [Array.getElem?_eq_none hge] at hg; cases hg
    rw [run_convert_bytes_arg w' 34 5 Try.underlying34 Try.underlying5 g 0 n cap (l.map fun c => (c.toNat : Int)) (by simpa using hl) (fun i hi => by
      rw [Nat.zero_add, hb.cell (by exact hgl), h.cellAt i (by omega)]
      simp [cellsU, show i < l.length by omega]) 9 Try.underlying9]
    congr 2
    have e : (fun n => UInt8.ofNat n.toNat) ∘ (fun c : UInt8 => (c.toNat : Int)) = id := by funext c; simp
    simp only [strOfNums, txt, List.map_map, e, List.map_id]
theorem and_of {p q : Prop} (hp : p) (h : p → q) : p ∧ q := ⟨hp, h hp⟩
theorem keep_call {a W w' : World} (hb : Below W.heap.size W w') (h : Below a.heap.size a W) : Below a.heap.size a w' := h.trans (hb.mono h.size)
theorem keep_alloc {a W : World} (h : Below a.heap.size a W) (o : Obj) : Below a.heap.size a (W.alloc o) := h.alloc h.size o
/-- A world behind a call. -/
structure Aft (W w' : World) : Prop where
  out : Below W.heap.size W w'
theorem aft_cell {W w' : World} {a : Addr} {v : Value} (h : Aft W w') (hc : W.cell? a = some v) : w'.cell? a = some v := (h.out.cell (World.block_lt_of_cell? _ _ hc)).trans hc
theorem aft_lt {W w' : World} {k : Nat} (h : Aft W w') (hk : k < W.heap.size) : k < w'.heap.size := Nat.lt_of_lt_of_le hk h.out.size
theorem aft_keep {a W w' : World} (hb : Aft W w') (h : Below a.heap.size a W) : Below a.heap.size a w' := keep_call hb.out h
theorem cell_more {W : World} {a : Addr} {v : Value} (o : Obj) (hc : W.cell? a = some v) : (W.alloc o).cell? a = some v := (World.cell?_alloc_lt _ _ _ (World.block_lt_of_cell? _ _ hc)).trans hc
theorem cell_here {W : World} {k : Nat} {v : Value} (t : TypeId) (hk : k = W.heap.size) : (W.alloc (.cells #[v] t)).cell? ⟨k, 0, none⟩ = some v := by subst hk; simp
theorem lt_more {W : World} {k : Nat} (o : Obj) (hk : k < W.heap.size) : k < (W.alloc o).heap.size := by simp; omega
/-- The sum of one text. -/
theorem of_one (s : ByteArray) (x : Int) (hs : s.size ≤ 1000) (hx : x = ofI 0 s.data.toList) (b : Nat) (w : World) (hb : b < w.heap.size) (hc : w.cell? ⟨b, 0, none⟩ = some (.string s)) :
    Calls Try.prog 12 #[.slice (some ⟨b, 0, none⟩) 1 1] w fun e w' => e = .returned (.int .u32 x) ∧ Aft w w' := by
  subst hx
  have := of_any b [s] w (by simp) (by simp; omega) hb (by intro i hi; match i, hi with | 0, _ => exact hc)
  rw [show allOf [s] = s.data.toList from by simp [allOf]] at this
  exact this.mono fun _ _ ⟨he, hb⟩ => ⟨he, ⟨hb⟩⟩
theorem mixed_eq (a b : ByteArray) (n : Nat) (na : n ≤ a.size) (nb : n ≤ b.size) : ofI 0 (mixD a b n) = bits .xor .u32 (ofI 0 (a.extract 0 n).data.toList) (ofI 0 (b.extract 0 n).data.toList) := by
  have ea : (a.extract 0 n).data.toList = a.data.toList.take n := by
    rw [ByteArray.data_extract, Array.toList_extract, List.extract_eq_take_drop]; simp
  have eb : (b.extract 0 n).data.toList = b.data.toList.take n := by
    rw [ByteArray.data_extract, Array.toList_extract, List.extract_eq_take_drop]; simp
  have em : mixD a b n = List.zipWith (· ^^^ ·) (a.data.toList.take n) (b.data.toList.take n) := by
    unfold mixD
    rw [List.take_zipWith]
  rw [ea, eb, em]
  have hx := Plain.crc_xor (a.data.toList.take n) (b.data.toList.take n) 0 0 (by simp; omega)
  rw [Plain.zx] at hx
  have hw : wordI 0 = 0 := by decide
  unfold ofI
  rw [hw, hx, BitVec.toNat_xor]
  exact (u32_xor_nat _ _ (Plain.crc 0 (a.data.toList.take n)).isLt (Plain.crc 0 (b.data.toList.take n)).isLt).symm
set_option maxHeartbeats 8000000 in
theorem mixed_walk (a b : ByteArray) (w : World) (hsa : a.size ≤ maxLen) (_hsb : b.size ≤ maxLen) :
    Calls Try.prog 7 #[.string a, .string b] w fun e w' => e = .returned (.bool true) ∧ Below w.heap.size w w' := by
  unfold maxLen at hsa
  obtain ⟨i0, hi0, hz0, hz1, hz2⟩ := info_parts info5
  obtain ⟨n, hn, na, nb⟩ : ∃ n : Nat, (if b.size < a.size then (b.size : Int) else (a.size : Int)) = n ∧ n ≤ a.size ∧ n ≤ b.size := by
    by_cases h : b.size < a.size
    · exact ⟨b.size, by rw [if_pos h], by omega, by omega⟩
    · exact ⟨a.size, by rw [if_neg h], by omega, by omega⟩
  go_enter Try.func7, Try.ntmps7
  go_wp2_with fail
  refine (awake_any _).mono ?_
  rintro e w1 ⟨rfl, hb1⟩
  by_cases hl : 300 < n
  · go_wp2_with fail
    go_ret
    exact ⟨rfl, hb1⟩
  go_wp2_with fail
  go_loopw [7, 8] (fun v i wr => ∃ m : Nat, m ≤ n ∧ i = .int .i64 m ∧ wr.ownsRow w.heap.size 5 1 v m (cellsU (mixD a b m)) ∧ Below w.heap.size w wr) (fun _ i _ => n - (intOf i).toNat)
  case atStart => exact ⟨0, Nat.zero_le _, rfl, World.ownsRow_nil _ _ _ _, hb1⟩
  case round =>
    obtain ⟨m, hm, rfl, hown, hbel⟩ := hrel
    by_cases hlt : m < n
    · have ia : m < a.size := by omega
      have ib : m < b.size := by omega
      have ja : (m : Int) < (a.size : Int) := by omega
      have jb : (m : Int) < (b.size : Int) := by omega
      have HO := Lib.hid hown
      have hsz := hbel.size
      clear hown
      go_wp2_with fail
      go_region_held3 (fun _ => True) (trivial) ((refine step_append_lies _ (by rfl) _ _ _ (by rfl) w.heap.size 5 i0 _ 1 1 Try.underlying34 hi0 hz0 hz1 hz2 rfl (by decide) _ m (cellsU (mixD a b m)) (by rfl) ((HO.out.alloc _).drew) ⟨wr.heap.size, 0, none⟩ 1 1 [.int .u8 (bits .xor .u8 (a[m].toNat : Int) (b[m].toNat : Int))] (by rfl) (by rfl) (World.news_of_block (cs := #[.int .u8 (bits .xor .u8 (a[m].toNat : Int) (b[m].toNat : Int))]) (t := 5) (fr := (0, 0)) (heap_alloc_new wr _)) (by simp [Value.oneCell']) (by omega) (by unfold maxLen; omega) (by omega) (by simp; omega) (wr.heap.size + 1) (by simp) ?_; intro gg cap w2 hown1 hgrow hat hlt2))
      all_goals
        have HN := Lib.hid (mixD_snoc a b m ia ib _ rfl)
        rw [← HN.out] at hown1
        have hb2 : Below w.heap.size w w2 := (((hbel.alloc hsz _).drew).grown hgrow (by simp; omega) (own_ge HO.out))
        have HO2 := Lib.hid hown1
        clear hown1 hgrow hat
        go_wp2_with fail
        go_roundw
        case rel => exact ⟨m + 1, by omega, by go_num, HO2.out, hb2⟩
        case measure => simp [intOf]; omega
    · have hmn : m = n := by omega
      subst hmn
      have zA : (a.extract 0 m).size ≤ 300 := by simp; omega
      have zB : (b.extract 0 m).size ≤ 300 := by simp; omega
      have zD : (txt (mixD a b m)).size ≤ 300 := by rw [txt_size]; unfold mixD; simp; omega
      obtain ⟨x, hx⟩ : ∃ x, x = ofI 0 (txt (mixD a b m)).data.toList := ⟨_, rfl⟩
      obtain ⟨y, hy⟩ : ∃ y, y = ofI 0 (a.extract 0 m).data.toList := ⟨_, rfl⟩
      obtain ⟨z, hz⟩ : ∃ z, z = ofI 0 (b.extract 0 m).data.toList := ⟨_, rfl⟩
      have hxyz : (x == bits BinOp.xor IntKind.u32 y z) = true := by
        rw [hx, hy, hz, txt_data, mixed_eq a b m (by omega) (by omega)]; simp
      have cx := Lib.hid (of_one (txt (mixD a b m)) x (by omega) hx)
      have cy := Lib.hid (of_one (a.extract 0 m) y (by omega) hy)
      have cz := Lib.hid (of_one (b.extract 0 m) z (by omega) hz)
      have HO := Lib.hid hown
      clear hown hx hy hz
      have hconv := Lib.hid (fun w' => @own_conv wr w' _ _ _ _ HO.out)
      generalize txt (mixD a b m) = D at *
      go_wp2_with fail
      go_region_held3 (fun w' => Below wr.heap.size wr w' ∧ (convert 34 9 u7).run Try.prog w' = .ok (.string D) w')
        ((go_split_ands; refine and_of ?_ (hconv.out _); repeat' (first | assumption | exact Below.refl _ _ | refine Below.drew ?_ | refine keep_alloc ?_ _ | refine aft_keep (by assumption) ?_)))
       ((first
          | (go_at_call 12; refine Calls.mono (cx.out _ _ ?_ ?_) ?_; (focus (repeat' (first | (simp; done) | refine aft_lt (by assumption) ?_ | refine lt_more _ ?_))); (focus (repeat' (first | (refine cell_here _ ?_; simp; done) | (simp; done) | refine aft_cell (by assumption) ?_ | refine cell_more _ ?_))); rintro e w' ⟨rfl, hb⟩)
          | (go_at_call 12; refine Calls.mono (cy.out _ _ ?_ ?_) ?_; (focus (repeat' (first | (simp; done) | refine aft_lt (by assumption) ?_ | refine lt_more _ ?_))); (focus (repeat' (first | (refine cell_here _ ?_; simp; done) | (simp; done) | refine aft_cell (by assumption) ?_ | refine cell_more _ ?_))); rintro e w' ⟨rfl, hb⟩)
          | (go_at_call 12; refine Calls.mono (cz.out _ _ ?_ ?_) ?_; (focus (repeat' (first | (simp; done) | refine aft_lt (by assumption) ?_ | refine lt_more _ ?_))); (focus (repeat' (first | (refine cell_here _ ?_; simp; done) | (simp; done) | refine aft_cell (by assumption) ?_ | refine cell_more _ ?_))); rintro e w' ⟨rfl, hb⟩)))
      all_goals
        go_wp2_with fail
        go_ret
        go_split_ands
        exact ⟨rfl, hbel.trans (Below.mono (by assumption) hbel.size)⟩
end Go.Proofs.Ytogakapokgddiaa
