/- store.New. -/
import Derived.Test.YtfnokklcbmipgaaDoorT3
namespace Go.Proofs.YtfnokklcbmipgaaDoor
open Go.RowKit Plain

theorem run_back_own {w : World} {base : Nat} {ao : Option Addr} {cap : Nat} {D : List UInt8} (h : w.ownsRow base 5 1 (.slice ao D.length cap) D.length (u8 D)) : (convert 66 9 (.slice ao D.length cap)).run Tryd.prog w = .ok (.string (strB D)) w := by
  rcases h.2 with ⟨hv, h0⟩ | ⟨g, cap', cur, hv, _⟩
  · simp only [Value.slice.injEq] at hv
    obtain ⟨rfl, _, rfl⟩ := hv
    have : D = [] := List.length_eq_zero_iff.1 h0
    subst this
    rw [run_convert_bytes_string w 66 9 5 none _ 0 und66 Tryd.underlying5 und9]
    rfl
  · simp only [Value.slice.injEq] at hv
    obtain ⟨rfl, _, rfl⟩ := hv
    refine run_convert_bytes_back (P := Tryd.prog) w 66 9 5 ⟨g, 0, none⟩ cap D und66 Tryd.underlying5 und9 (fun j hj => ?_)
    have h2 := h.cells (g := g) rfl j (.int .u8 (D[j].toNat : Int)) (by unfold u8; rw [List.getElem?_map, List.getElem?_eq_getElem hj]; rfl)
    rw [h2]
theorem made_bytes (n : Nat) : (madeCells #[.int .u8 0] (n * 1)).toList = u8 (List.replicate n 0) := by
  refine List.ext_getElem? fun j => ?_
  unfold madeCells u8
  rw [Array.getElem?_toList, Array.getElem?_map, Array.getElem?_range, List.getElem?_map, List.getElem?_replicate]
  by_cases h : j < n
  · rw [if_pos (by omega), if_pos h]
    simp [Nat.mod_one]
  · rw [if_neg (by omega), if_neg h]
    rfl
attribute [local irreducible] Go.Calls
set_option linter.unusedSimpArgs false in
set_option maxHeartbeats 1000000 in
theorem New_bad (n : Int) (w : World) (h : n < 0 ∨ 200 < n) : Calls Tryd.prog 32 #[.int .i64 n] w fun e w' => e = .returned (.tuple #[.agg #[.slice none 0 0, .string (strB [])], .int .i64 110]) ∧ Below w.heap.size w w' := by
  have hb0 : Below w.heap.size w (w.alloc (.cells #[.slice none 0 0, .string ⟨#[]⟩] 51)) := (Below.refl _ _).alloc (Nat.le_refl _) _
  have R0 := Row2.new w 51 (.slice none 0 0) (.string ⟨#[]⟩)
  have H := Lib.hid h
  clear h
  go_enter Tryd.func32, Tryd.ntmps32
  go_wp2_with (first
    | (go_at_call 21; refine (new_bad n _ H.out).mono ?_; rintro e w1 ⟨rfl, rfl⟩)
    | (refine wpList_store2 rfl 51 size51 (.tmp 2) (.tmp 13) rfl w.heap.size _ _ _ _ rfl rfl rfl rfl R0 ?_; intro w7 hr7 hon7))
  exact bodyPost_ret (res2_51 rfl _ _ w.heap.size _ _ hr7 rfl) rfl ⟨rfl, hon7.fresh⟩
set_option linter.unusedSimpArgs false in
set_option maxRecDepth 20000 in
set_option maxHeartbeats 1000000 in
theorem New_any (n : Nat) (w : World) (hn : n ≤ 200) : Calls Tryd.prog 32 #[.int .i64 n] w (StoreE w (newS n, List.replicate (n * 512) 0, 0)) := by
  have hb0 : Below w.heap.size w (w.alloc (.cells #[.slice none 0 0, .string ⟨#[]⟩] 51)) := (Below.refl _ _).alloc (Nat.le_refl _) _
  have R0 := Row2.new w 51 (.slice none 0 0) (.string ⟨#[]⟩)
  have hsz : (w.alloc (.cells #[.slice none 0 0, .string ⟨#[]⟩] 51)).heap.size = w.heap.size + 1 := by simp
  obtain ⟨m, hm⟩ : ∃ m, m = n * 512 := ⟨_, rfl⟩
  have hw : IntKind.i64.wrap ((n : Int) * 512) = (m : Int) := by rw [IntWalk.i64_in _ (by omega)]; omega
  have hm2 : m ≤ 200 * 512 := by omega
  obtain ⟨i5, hi, hz, h1, h2⟩ := info_parts info5
  have HI := Lib.hid hi
  have HZ := Lib.hid hz
  have H1 := Lib.hid h1
  have H2 := Lib.hid h2
  rw [← hm]
  clear hi hz h1 h2 hm
  go_enter Tryd.func32, Tryd.ntmps32
  go_wp2_with (first
    | (go_at_call 21; refine (new_any n _ hn).mono ?_; rintro e w1 ⟨⟨ao1, cap1, rfl, hs1⟩, hb1⟩; have hz1 := hb1.size; have R1 := R0.below hb1 R0.lt)
    | (refine wpList_make_full w1 rfl _ _ 66 rfl w1.heap.size 5 i5 _ 1 und66 HI.out HZ.out H1.out .i64 .i64 m m m rfl rfl rfl rfl (by rw [H2.out]; omega) (by unfold maxLen; omega) (Nat.le_refl _) ?_; intro w2 hown hg; have hb2 : Below w1.heap.size w1 w2 := (Below.refl _ _).grown hg (Nat.le_refl _) (fun k hk => by cases hk); have hcv : (convert 66 9 (.slice (some ⟨w1.heap.size, 0, none⟩) m m)).run Tryd.prog w2 = .ok (.string (strB (List.replicate m 0))) w2 := (by have key := run_back_own (w := w2) (base := w1.heap.size) (ao := some ⟨w1.heap.size, 0, none⟩) (cap := m) (D := List.replicate m 0) (by rw [List.length_replicate, ← made_bytes]; exact hown); rw [List.length_replicate] at key; exact key); have R2 := R1.below hb2 R1.lt)
    | (refine wpList_store2 rfl 51 size51 (.tmp 2) (.tmp 20) rfl w.heap.size _ _ _ _ rfl rfl rfl rfl R2 ?_; intro w7 hr7 hon7))
  have hb7 := hon7.below (hb0.link (hb1.link hb2)) (Nat.le_refl _)
  have hs7 : SegNew w7 (w.heap.size + 1) ao1 cap1 (newS n) := ((hs1.mono (by omega)).below hb2).same (fun k off e => hon7.heap k (by have := (hs1.blk k off e).1; omega))
  have hl : (newS n).length = n := by simp [newS]
  have hv : Value.agg #[.slice ao1 n cap1, .string (strB (List.replicate m 0))] = .agg #[.slice ao1 (newS n).length cap1, .string (strB (List.replicate m 0))] := by rw [hl]
  exact bodyPost_ret (res2_51 rfl _ _ w.heap.size _ _ hr7 rfl) rfl ⟨⟨_, rfl, ao1, cap1, hv, hs7.mono (by omega)⟩, hb7⟩
end Go.Proofs.YtfnokklcbmipgaaDoor
