/- class.Cut, Room, Fit; store.New. (Layer 10's contracts, by their numbers here.) -/
import Derived.Test.YtfnokklcbmipgaaDoorT2
import Derived.Deep.AppendLies
namespace Go.Proofs.YtfnokklcbmipgaaDoor
open Go.RowKit Plain

set_option maxHeartbeats 400000 in
theorem fit_any (n : Int) (w : World) : Calls Tryd.prog 52 #[.int .i64 n] w fun e w' => e = .returned (.int .i64 (fitC n)) ∧ w = w' := by
  by_cases h1 : n < 1
  · have H : Hid (fitC n = -1) := by show _ = _; simp [fitC, h1]
    go_enter Tryd.func52, Tryd.ntmps52
    go_wp2_with fail
    go_ret
    exact ⟨ret_int H.out.symm, rfl⟩
  by_cases g0 : n ≤ 8
  · have H : Hid (fitC n = 0) := by
      show _ = _
      unfold fitC
      (repeat' split) <;> omega
    go_enter Tryd.func52, Tryd.ntmps52
    go_wp2_with fail
    refine wp_loop_rounds 5 ?_
    rw [rounds_succ]
    go_wp2_with (go_at_call 41; refine (bytes_any _ _).mono ?_; rintro e w' ⟨rfl, rfl⟩; rw [show bytesC 0 = 8 from rfl])
    go_ret
    exact ⟨ret_int H.out.symm, rfl⟩
  by_cases g1 : n ≤ 16
  · have H : Hid (fitC n = 1) := by
      show _ = _
      unfold fitC
      (repeat' split) <;> omega
    go_enter Tryd.func52, Tryd.ntmps52
    go_wp2_with fail
    refine wp_loop_rounds 5 ?_
    rw [rounds_succ]
    go_wp2_with (go_at_call 41; refine (bytes_any _ _).mono ?_; rintro e w' ⟨rfl, rfl⟩; rw [show bytesC 0 = 8 from rfl])
    rw [rounds_succ]
    go_wp2_with (go_at_call 41; refine (bytes_any _ _).mono ?_; rintro e w' ⟨rfl, rfl⟩; rw [show bytesC 1 = 16 from rfl])
    go_ret
    exact ⟨ret_int H.out.symm, rfl⟩
  by_cases g2 : n ≤ 32
  · have H : Hid (fitC n = 2) := by
      show _ = _
      unfold fitC
      (repeat' split) <;> omega
    go_enter Tryd.func52, Tryd.ntmps52
    go_wp2_with fail
    refine wp_loop_rounds 5 ?_
    rw [rounds_succ]
    go_wp2_with (go_at_call 41; refine (bytes_any _ _).mono ?_; rintro e w' ⟨rfl, rfl⟩; rw [show bytesC 0 = 8 from rfl])
    rw [rounds_succ]
    go_wp2_with (go_at_call 41; refine (bytes_any _ _).mono ?_; rintro e w' ⟨rfl, rfl⟩; rw [show bytesC 1 = 16 from rfl])
    rw [rounds_succ]
    go_wp2_with (go_at_call 41; refine (bytes_any _ _).mono ?_; rintro e w' ⟨rfl, rfl⟩; rw [show bytesC 2 = 32 from rfl])
    go_ret
    exact ⟨ret_int H.out.symm, rfl⟩
  by_cases g3 : n ≤ 64
  · have H : Hid (fitC n = 3) := by
      show _ = _
      unfold fitC
      (repeat' split) <;> omega
    go_enter Tryd.func52, Tryd.ntmps52
    go_wp2_with fail
    refine wp_loop_rounds 5 ?_
    rw [rounds_succ]
    go_wp2_with (go_at_call 41; refine (bytes_any _ _).mono ?_; rintro e w' ⟨rfl, rfl⟩; rw [show bytesC 0 = 8 from rfl])
    rw [rounds_succ]
    go_wp2_with (go_at_call 41; refine (bytes_any _ _).mono ?_; rintro e w' ⟨rfl, rfl⟩; rw [show bytesC 1 = 16 from rfl])
    rw [rounds_succ]
    go_wp2_with (go_at_call 41; refine (bytes_any _ _).mono ?_; rintro e w' ⟨rfl, rfl⟩; rw [show bytesC 2 = 32 from rfl])
    rw [rounds_succ]
    go_wp2_with (go_at_call 41; refine (bytes_any _ _).mono ?_; rintro e w' ⟨rfl, rfl⟩; rw [show bytesC 3 = 64 from rfl])
    go_ret
    exact ⟨ret_int H.out.symm, rfl⟩
  · have H : Hid (fitC n = -1) := by
      show _ = _
      unfold fitC
      (repeat' split) <;> omega
    go_enter Tryd.func52, Tryd.ntmps52
    go_wp2_with fail
    refine wp_loop_rounds 5 ?_
    rw [rounds_succ]
    go_wp2_with (go_at_call 41; refine (bytes_any _ _).mono ?_; rintro e w' ⟨rfl, rfl⟩; rw [show bytesC 0 = 8 from rfl])
    rw [rounds_succ]
    go_wp2_with (go_at_call 41; refine (bytes_any _ _).mono ?_; rintro e w' ⟨rfl, rfl⟩; rw [show bytesC 1 = 16 from rfl])
    rw [rounds_succ]
    go_wp2_with (go_at_call 41; refine (bytes_any _ _).mono ?_; rintro e w' ⟨rfl, rfl⟩; rw [show bytesC 2 = 32 from rfl])
    rw [rounds_succ]
    go_wp2_with (go_at_call 41; refine (bytes_any _ _).mono ?_; rintro e w' ⟨rfl, rfl⟩; rw [show bytesC 3 = 64 from rfl])
    rw [rounds_succ]
    go_wp2_with fail
    go_ret
    exact ⟨ret_int H.out.symm, rfl⟩

/-- What an address has for a list of integers that lies there. -/
def IntAt (w : World) (ao : Option Addr) (l : List Int) : Prop := l = [] ∨ ∃ b off, ao = some ⟨b, off, none⟩ ∧ b < w.heap.size ∧ ∀ i, i < l.length → w.cell? ⟨b, off + i, none⟩ = some (.int .i64 (l.getD i 0))
def roomC (l : List Int) : Int := (l.map bytesC).sum
theorem roomC_bd (l : List Int) : 0 ≤ roomC l ∧ roomC l ≤ 64 * l.length := by
  unfold roomC
  induction l with
  | nil => simp
  | cons c l ih => have := bytesC_bd c; simp only [List.map_cons, List.sum_cons, List.length_cons]; omega
theorem roomC_take (l : List Int) (k : Nat) (h : k < l.length) : roomC (l.take (k + 1)) = roomC (l.take k) + bytesC (l.getD k 0) := by
  unfold roomC
  rw [List.take_succ_eq_append_getElem h, List.map_append, List.sum_append, List.getD_eq_getElem?_getD, List.getElem?_eq_getElem h]
  simp
set_option maxHeartbeats 400000 in
theorem together_any (ao : Option Addr) (l : List Int) (cap : Nat) (w : World) (hl : l.length ≤ 5000) (h : IntAt w ao l) :
    Calls Tryd.prog 53 #[.slice ao l.length cap] w fun e w' => e = .returned (.int .i64 (roomC l)) ∧ w = w' := by
  rcases h with rfl | ⟨b, off, rfl, _, hc⟩
  · go_enter Tryd.func53, Tryd.ntmps53
    go_wp2_with fail
    refine wp_loop_rounds 1 ?_
    rw [rounds_succ]
    go_wp2_with fail
    go_ret
    exact ⟨rfl, rfl⟩
  · have HC := Lib.hid hc
    clear hc
    go_enter Tryd.func53, Tryd.ntmps53
    go_wp2_with fail
    go_loop [3, 8] (fun n i => ∃ k : Nat, k ≤ l.length ∧ i = .int .i64 k ∧ n = .int .i64 (roomC (l.take k))) (fun _ i => l.length - (intOf i).toNat)
    case atStart => exact ⟨0, Nat.zero_le _, rfl, rfl⟩
    case round =>
      obtain ⟨k, hk, rfl, rfl⟩ := hrel
      by_cases hlt : k < l.length
      · have hr := roomC_bd (l.take k)
        have hlen : (l.take k).length ≤ 5000 := by rw [List.length_take]; omega
        obtain ⟨c, hcc⟩ : ∃ c, c = l.getD k 0 := ⟨_, rfl⟩
        have hcell : w.cell? ⟨b, off + k, none⟩ = some (.int .i64 c) := by rw [HC.out k hlt, hcc]
        have HR := Lib.hid (roomC_take l k hlt)
        have HE := Lib.hid hcc
        have hbd := bytesC_bd c
        clear hcc
        go_wp2_with fail
        refine (bytes_any _ _).mono ?_
        rintro e w' ⟨rfl, rfl⟩
        go_wp2_with fail
        go_round
        case rel => exact ⟨k + 1, by omega, by go_num, by rw [HR.out, ← HE.out]⟩
        case measure => simp [intOf]; omega
      · have HK := Lib.hid (show l.take k = l from List.take_of_length_le (by omega))
        go_wp2_with fail
        go_ret
        exact ⟨ret_int (by rw [HK.out]), rfl⟩
theorem room_any (ao : Option Addr) (l : List Int) (cap : Nat) (w : World) (hl : l.length ≤ 5000) (h : IntAt w ao l) :
    Calls Tryd.prog 36 #[.slice ao l.length cap] w fun e w' => e = .returned (.int .i64 (roomC l)) ∧ w = w' := by
  go_enter Tryd.func36, Tryd.ntmps36
  go_wp2_with fail
  refine (together_any _ _ _ _ hl h).mono ?_
  rintro e w' ⟨rfl, rfl⟩
  go_wp2_with fail
  go_ret
  exact ⟨rfl, rfl⟩

def cutC (n : Nat) : List Int := List.replicate (n / 64) 3 ++ (if n % 64 = 0 then [] else [fitC (n % 64 : Nat)])
theorem cutC_len (n : Nat) (h : n ≤ 4096) : (cutC n).length ≤ 65 := by
  unfold cutC
  rw [List.length_append, List.length_replicate]
  split <;> simp <;> omega
def ints (l : List Int) : List Value := l.map (Value.int .i64)
theorem own_int {w : World} {base : Nat} {v : Value} {n : Nat} {l : List Int} (h : w.ownsRow base 3 1 v n (ints l)) : ∃ ao cap, v = .slice ao l.length cap ∧ IntAt w ao l ∧ l.length ≤ cap := by
  have hl : l.length = n := by have := h.1; simpa [ints] using this
  rcases h.2 with ⟨hv, hn⟩ | ⟨g, cap, cur, hv, _, hg, hcap, _⟩
  · exact ⟨none, 0, by rw [hv, hl, hn], .inl (List.length_eq_zero_iff.1 (by omega)), by omega⟩
  · subst hv
    refine ⟨some ⟨g, 0, none⟩, cap, by rw [hl], ?_, by omega⟩
    cases l with
    | nil => exact .inl rfl
    | cons x l =>
      right
      refine ⟨g, 0, rfl, ?_, ?_⟩
      · rcases Nat.lt_or_ge g w.heap.size with hlt | hge
        · exact hlt
        · rw [Array.getElem?_eq_none hge] at hg; cases hg
      · intro i hi
        rw [Nat.zero_add, h.cellAt i (by omega)]
        rw [List.getD_eq_getElem?_getD]
        unfold ints
        rw [List.getElem?_map, List.getElem?_eq_getElem hi]
        rfl
theorem ret_sl {ao : Option Addr} {n m cap : Nat} {x : Value} (h : n = m) : Ending.returned (.tuple #[.slice ao n cap, x]) = .returned (.tuple #[.slice ao m cap, x]) := by rw [h]
def CutOk (n : Nat) (w : World) (e : Ending) (w' : World) : Prop := ∃ ao cap, e = .returned (.tuple #[.slice ao (cutC n).length cap, .int .i64 0]) ∧ IntAt w' ao (cutC n) ∧ Below w.heap.size w w' ∧ (cutC n).length ≤ cap
set_option maxHeartbeats 400000 in
theorem cut_bad (n : Int) (w : World) (h : n < 1 ∨ 4096 < n) : Calls Tryd.prog 35 #[.int .i64 n] w fun e w' => e = .returned (.tuple #[.slice none 0 0, .int .i64 100]) ∧ w = w' := by
  by_cases h1 : n < 1
  · have d1 : decide (n < 1) = true := by simpa using h1
    go_enter Tryd.func35, Tryd.ntmps35
    go_wp2_with fail
    go_ret2
    exact ⟨rfl, rfl⟩
  · have d1 : decide (n < 1) = false := by simpa using h1
    have d2 : decide (4096 < n) = true := by simp; omega
    go_enter Tryd.func35, Tryd.ntmps35
    go_wp2_with fail
    go_ret2
    exact ⟨rfl, rfl⟩
set_option maxRecDepth 20000 in
set_option maxHeartbeats 4000000 in
theorem cut_any (n : Nat) (w : World) (h1 : 1 ≤ n) (h2 : n ≤ 4096) : Calls Tryd.prog 35 #[.int .i64 n] w (CutOk n w) := by
  have d1 : decide ((n : Int) < 1) = false := by simp; omega
  have d2 : decide (4096 < (n : Int)) = false := by simp; omega
  obtain ⟨i0, hi0, hz0, hz1, hz2⟩ := info_parts info3
  go_enter Tryd.func35, Tryd.ntmps35
  go_wp2_with fail
  go_loopw [0, 4] (fun s v wr => ∃ k : Nat, 64 * k ≤ n ∧ s = .int .i64 (n - 64 * k) ∧ wr.ownsRow w.heap.size 3 1 v k (ints (List.replicate k 3)) ∧ Below w.heap.size w wr) (fun s _ _ => (intOf s).toNat)
  case atStart => exact ⟨0, by omega, by simp, World.ownsRow_nil _ _ _ _, Below.refl _ _⟩
  case round =>
    obtain ⟨k, hk, rfl, hown, hbel⟩ := hrel
    have hsz := hbel.size
    have HO := Lib.hid hown
    clear hown
    by_cases hlt : 64 * (k + 1) ≤ n
    · go_wp2_with (first
        | (go_at_call 41; refine (bytes_any _ _).mono ?_; rintro e w' ⟨rfl, rfl⟩; rw [show bytesC 3 = 64 from rfl])
        | (at_builtin; refine wpList_append_lies _ rfl _ _ 40 rfl w.heap.size 3 i0 (.int .i64 0) 1 8 Tryd.underlying40 hi0 hz0 hz1 hz2 rfl (by decide) _ k (ints (List.replicate k 3)) rfl (HO.out.alloc _) ⟨wr.heap.size, 0, none⟩ 1 1 [.int .i64 3] rfl rfl (World.news_of_block (cs := #[.int .i64 3]) (t := 3) (fr := (0, 0)) (heap_alloc_new wr _)) (by simp [Value.oneCell']) (by omega) (by unfold maxLen; omega) (by omega) (by simp; omega) (wr.heap.size + 1) (by simp) ?_; intro gg cap w2 hown1 hgrow hat hlt2))
      have hb2 : Below w.heap.size w w2 := ((hbel.alloc hsz _).grown hgrow (by simp; omega) (own_ge HO.out))
      have HN := Lib.hid (show ints (List.replicate k 3) ++ [Value.int .i64 3] = ints (List.replicate (k + 1) 3) from by rw [List.replicate_succ']; simp [ints])
      rw [HN.out] at hown1
      go_roundw
      case rel => exact ⟨k + 1, by omega, by go_num, hown1, hb2⟩
      case measure => simp [intOf]; omega
    · have hk : k = n / 64 := by omega
      have hr : n - 64 * k = n % 64 := by omega
      by_cases h0 : n - 64 * k = 0
      · have HL := Lib.hid (show cutC n = List.replicate k 3 from by unfold cutC; rw [if_pos (by omega), List.append_nil, hk])
        have hle : (n : Int) - 64 * k ≤ 0 := by omega
        clear hk hr h0
        obtain ⟨ao, cap, rfl, hat, hcap⟩ := own_int HO.out
        go_wp2_with (go_at_call 41; refine (bytes_any _ _).mono ?_; rintro e w' ⟨rfl, rfl⟩; rw [show bytesC 3 = 64 from rfl])
        go_ret2
        exact ⟨ao, cap, ret_sl (by rw [HL.out]; simp), by rw [HL.out]; exact hat, hbel, by rw [HL.out]; exact hcap⟩
      · have HL := Lib.hid (show cutC n = List.replicate k 3 ++ [fitC ((n : Int) - 64 * k)] from by unfold cutC; rw [if_neg (by omega), hk]; congr 3; omega)
        have hpos : (0 : Int) < (n : Int) - 64 * k := by omega
        have hle : (n : Int) - 64 * k ≤ 63 := by omega
        clear hk hr h0
        go_wp2_with (first
          | (go_at_call 41; refine (bytes_any _ _).mono ?_; rintro e w' ⟨rfl, rfl⟩; rw [show bytesC 3 = 64 from rfl])
          | (go_at_call 52; refine (fit_any _ _).mono ?_; rintro e w' ⟨rfl, rfl⟩)
          | (at_builtin; refine wpList_append_lies _ rfl _ _ 40 rfl w.heap.size 3 i0 (.int .i64 0) 1 8 Tryd.underlying40 hi0 hz0 hz1 hz2 rfl (by decide) _ k (ints (List.replicate k 3)) rfl (HO.out.alloc _) ⟨wr.heap.size, 0, none⟩ 1 1 [.int .i64 (fitC ((n : Int) - 64 * k))] rfl rfl (World.news_of_block (cs := #[.int .i64 (fitC ((n : Int) - 64 * k))]) (t := 3) (fr := (0, 0)) (heap_alloc_new wr _)) (by simp [Value.oneCell']) (by omega) (by unfold maxLen; omega) (by omega) (by simp; omega) (wr.heap.size + 1) (by simp) ?_; intro gg cap w2 hown1 hgrow hat hlt2))
        have hb2 : Below w.heap.size w w2 := ((hbel.alloc hsz _).grown hgrow (by simp; omega) (own_ge HO.out))
        have HN := Lib.hid (show ints (List.replicate k 3) ++ [Value.int .i64 (fitC ((n : Int) - 64 * k))] = ints (List.replicate k 3 ++ [fitC ((n : Int) - 64 * k)]) from by simp [ints])
        rw [HN.out, ← HL.out] at hown1
        obtain ⟨ao, cap', hv, hat2, hcap⟩ := own_int hown1
        go_ret2
        exact ⟨ao, cap', by rw [← hv]; rfl, hat2, hb2, hcap⟩
end Go.Proofs.YtfnokklcbmipgaaDoor
