/- The contracts of the document's answers for layer 10. -/
import Derived.Test.YthhhdgomhlmlmaaC3
namespace Go.Proofs.Ythhhdgomhlmlmaa
open Go.RowKit

set_option maxHeartbeats 400000 in
theorem rbytes_any (c : Int) (w : World) : Calls Try.prog 12 #[.int .i64 c] w fun e w' => e = .returned (.int .i64 (bytesC c)) ∧ w = w' := by
  by_cases h0 : c = 0
  · subst h0; go_enter Try.func12, Try.ntmps12
    go_wp2_with fail
    refine wp_loop_rounds 1 ?_
    rw [rounds_succ]
    go_wp2_with fail
    go_ret
    exact ⟨rfl, rfl⟩
  by_cases h1 : c = 1
  · subst h1; go_enter Try.func12, Try.ntmps12
    go_wp2_with fail
    refine wp_loop_rounds 2 ?_
    rw [rounds_succ]
    go_wp2_with fail
    rw [rounds_succ]
    go_wp2_with fail
    go_ret
    exact ⟨rfl, rfl⟩
  by_cases h2 : c = 2
  · subst h2; go_enter Try.func12, Try.ntmps12
    go_wp2_with fail
    refine wp_loop_rounds 3 ?_
    rw [rounds_succ]
    go_wp2_with fail
    rw [rounds_succ]
    go_wp2_with fail
    rw [rounds_succ]
    go_wp2_with fail
    go_ret
    exact ⟨rfl, rfl⟩
  by_cases h3 : c = 3
  · subst h3; go_enter Try.func12, Try.ntmps12
    go_wp2_with fail
    refine wp_loop_rounds 4 ?_
    rw [rounds_succ]
    go_wp2_with fail
    rw [rounds_succ]
    go_wp2_with fail
    rw [rounds_succ]
    go_wp2_with fail
    rw [rounds_succ]
    go_wp2_with fail
    go_ret
    exact ⟨rfl, rfl⟩
  have H : Hid (bytesC c = 0) := by show _ = _; simp [bytesC, h0, h1, h2, h3]
  by_cases hn : c < 0
  · have d1 : decide (c < 0) = true := by simpa using hn
    clear h0 h1 h2 h3
    go_enter Try.func12, Try.ntmps12
    go_wp2_with fail
    go_ret
    exact ⟨ret_int H.out.symm, rfl⟩
  · have d1 : decide (c < 0) = false := by simpa using hn
    have d2 : decide (3 < c) = true := by simp; omega
    clear h0 h1 h2 h3
    go_enter Try.func12, Try.ntmps12
    go_wp2_with fail
    go_ret
    exact ⟨ret_int H.out.symm, rfl⟩

set_option maxHeartbeats 400000 in
theorem rslots_any (c : Int) (w : World) : Calls Try.prog 14 #[.int .i64 c] w fun e w' => e = .returned (.int .i64 (slotsC c)) ∧ w = w' := by
  by_cases h3 : c = 3
  · subst h3; go_enter Try.func14, Try.ntmps14
    go_wp2_with (go_at_call 12; refine (rbytes_any _ _).mono ?_; rintro e w' ⟨rfl, rfl⟩; rw [show bytesC 3 = 64 from rfl])
    go_ret
    exact ⟨rfl, rfl⟩
  by_cases h2 : c = 2
  · subst h2; go_enter Try.func14, Try.ntmps14
    go_wp2_with (go_at_call 12; refine (rbytes_any _ _).mono ?_; rintro e w' ⟨rfl, rfl⟩; rw [show bytesC 2 = 32 from rfl])
    go_ret
    exact ⟨rfl, rfl⟩
  by_cases h1 : c = 1
  · subst h1; go_enter Try.func14, Try.ntmps14
    go_wp2_with (go_at_call 12; refine (rbytes_any _ _).mono ?_; rintro e w' ⟨rfl, rfl⟩; rw [show bytesC 1 = 16 from rfl])
    go_ret
    exact ⟨rfl, rfl⟩
  by_cases h0 : c = 0
  · subst h0; go_enter Try.func14, Try.ntmps14
    go_wp2_with (go_at_call 12; refine (rbytes_any _ _).mono ?_; rintro e w' ⟨rfl, rfl⟩; rw [show bytesC 0 = 8 from rfl])
    go_ret
    exact ⟨rfl, rfl⟩
  have H : Hid (bytesC c = 0) := by show _ = _; simp [bytesC, h0, h1, h2, h3]
  have H2 : Hid (slotsC c = 0) := by show _ = _; simp [slotsC, h0, h1, h2, h3]
  clear h0 h1 h2 h3
  go_enter Try.func14, Try.ntmps14
  go_wp2_with (go_at_call 12; refine (rbytes_any _ _).mono ?_; rintro e w' ⟨rfl, rfl⟩; rw [H.out])
  go_ret
  exact ⟨ret_int H2.out.symm, rfl⟩

set_option maxHeartbeats 400000 in
theorem rfit_any (n : Int) (w : World) : Calls Try.prog 16 #[.int .i64 n] w fun e w' => e = .returned (.int .i64 (fitC n)) ∧ w = w' := by
  by_cases h1 : n < 1
  · have H : Hid (fitC n = -1) := by show _ = _; simp [fitC, h1]
    have d1 : decide (1 ≤ n) = false := by simp; omega
    go_enter Try.func16, Try.ntmps16
    go_wp2_with fail
    refine wp_loop_rounds 5 ?_
    rw [rounds_succ]
    go_wp2_with fail
    rw [rounds_succ]
    go_wp2_with fail
    rw [rounds_succ]
    go_wp2_with fail
    rw [rounds_succ]
    go_wp2_with fail
    rw [rounds_succ]
    go_wp2_with fail
    go_ret
    exact ⟨ret_int H.out.symm, rfl⟩
  have d1 : decide (1 ≤ n) = true := by simp; omega
  by_cases g0 : n ≤ 8
  · have H : Hid (fitC n = 0) := by
      show _ = _
      unfold fitC
      (repeat' split) <;> omega
    have f0 : decide (n ≤ 8) = true := by simp; omega
    go_enter Try.func16, Try.ntmps16
    go_wp2_with fail
    refine wp_loop_rounds 5 ?_
    rw [rounds_succ]
    go_wp2_with (go_at_call 12; refine (rbytes_any _ _).mono ?_; rintro e w' ⟨rfl, rfl⟩; rw [show bytesC 0 = 8 from rfl])
    go_ret
    exact ⟨ret_int H.out.symm, rfl⟩
  by_cases g1 : n ≤ 16
  · have H : Hid (fitC n = 1) := by
      show _ = _
      unfold fitC
      (repeat' split) <;> omega
    have f0 : decide (n ≤ 8) = false := by simp; omega
    have f1 : decide (n ≤ 16) = true := by simp; omega
    go_enter Try.func16, Try.ntmps16
    go_wp2_with fail
    refine wp_loop_rounds 5 ?_
    rw [rounds_succ]
    go_wp2_with (go_at_call 12; refine (rbytes_any _ _).mono ?_; rintro e w' ⟨rfl, rfl⟩; rw [show bytesC 0 = 8 from rfl])
    rw [rounds_succ]
    go_wp2_with (go_at_call 12; refine (rbytes_any _ _).mono ?_; rintro e w' ⟨rfl, rfl⟩; rw [show bytesC 1 = 16 from rfl])
    go_ret
    exact ⟨ret_int H.out.symm, rfl⟩
  by_cases g2 : n ≤ 32
  · have H : Hid (fitC n = 2) := by
      show _ = _
      unfold fitC
      (repeat' split) <;> omega
    have f0 : decide (n ≤ 8) = false := by simp; omega
    have f1 : decide (n ≤ 16) = false := by simp; omega
    have f2 : decide (n ≤ 32) = true := by simp; omega
    go_enter Try.func16, Try.ntmps16
    go_wp2_with fail
    refine wp_loop_rounds 5 ?_
    rw [rounds_succ]
    go_wp2_with (go_at_call 12; refine (rbytes_any _ _).mono ?_; rintro e w' ⟨rfl, rfl⟩; rw [show bytesC 0 = 8 from rfl])
    rw [rounds_succ]
    go_wp2_with (go_at_call 12; refine (rbytes_any _ _).mono ?_; rintro e w' ⟨rfl, rfl⟩; rw [show bytesC 1 = 16 from rfl])
    rw [rounds_succ]
    go_wp2_with (go_at_call 12; refine (rbytes_any _ _).mono ?_; rintro e w' ⟨rfl, rfl⟩; rw [show bytesC 2 = 32 from rfl])
    go_ret
    exact ⟨ret_int H.out.symm, rfl⟩
  by_cases g3 : n ≤ 64
  · have H : Hid (fitC n = 3) := by
      show _ = _
      unfold fitC
      (repeat' split) <;> omega
    have f0 : decide (n ≤ 8) = false := by simp; omega
    have f1 : decide (n ≤ 16) = false := by simp; omega
    have f2 : decide (n ≤ 32) = false := by simp; omega
    have f3 : decide (n ≤ 64) = true := by simp; omega
    go_enter Try.func16, Try.ntmps16
    go_wp2_with fail
    refine wp_loop_rounds 5 ?_
    rw [rounds_succ]
    go_wp2_with (go_at_call 12; refine (rbytes_any _ _).mono ?_; rintro e w' ⟨rfl, rfl⟩; rw [show bytesC 0 = 8 from rfl])
    rw [rounds_succ]
    go_wp2_with (go_at_call 12; refine (rbytes_any _ _).mono ?_; rintro e w' ⟨rfl, rfl⟩; rw [show bytesC 1 = 16 from rfl])
    rw [rounds_succ]
    go_wp2_with (go_at_call 12; refine (rbytes_any _ _).mono ?_; rintro e w' ⟨rfl, rfl⟩; rw [show bytesC 2 = 32 from rfl])
    rw [rounds_succ]
    go_wp2_with (go_at_call 12; refine (rbytes_any _ _).mono ?_; rintro e w' ⟨rfl, rfl⟩; rw [show bytesC 3 = 64 from rfl])
    go_ret
    exact ⟨ret_int H.out.symm, rfl⟩
  · have H : Hid (fitC n = -1) := by
      show _ = _
      unfold fitC
      (repeat' split) <;> omega
    have f0 : decide (n ≤ 8) = false := by simp; omega
    have f1 : decide (n ≤ 16) = false := by simp; omega
    have f2 : decide (n ≤ 32) = false := by simp; omega
    have f3 : decide (n ≤ 64) = false := by simp; omega
    go_enter Try.func16, Try.ntmps16
    go_wp2_with fail
    refine wp_loop_rounds 5 ?_
    rw [rounds_succ]
    go_wp2_with (go_at_call 12; refine (rbytes_any _ _).mono ?_; rintro e w' ⟨rfl, rfl⟩; rw [show bytesC 0 = 8 from rfl])
    rw [rounds_succ]
    go_wp2_with (go_at_call 12; refine (rbytes_any _ _).mono ?_; rintro e w' ⟨rfl, rfl⟩; rw [show bytesC 1 = 16 from rfl])
    rw [rounds_succ]
    go_wp2_with (go_at_call 12; refine (rbytes_any _ _).mono ?_; rintro e w' ⟨rfl, rfl⟩; rw [show bytesC 2 = 32 from rfl])
    rw [rounds_succ]
    go_wp2_with (go_at_call 12; refine (rbytes_any _ _).mono ?_; rintro e w' ⟨rfl, rfl⟩; rw [show bytesC 3 = 64 from rfl])
    rw [rounds_succ]
    go_wp2_with fail
    go_ret
    exact ⟨ret_int H.out.symm, rfl⟩
set_option maxHeartbeats 400000 in
theorem rroom_any (ao : Option Addr) (l : List Int) (cap : Nat) (w : World) (hl : l.length ≤ 5000) (h : IntAt w ao l) :
    Calls Try.prog 19 #[.slice ao l.length cap] w fun e w' => e = .returned (.int .i64 (roomC l)) ∧ w = w' := by
  rcases h with rfl | ⟨b, off, rfl, _, hc⟩
  · go_enter Try.func19, Try.ntmps19
    go_wp2_with fail
    refine wp_loop_rounds 1 ?_
    rw [rounds_succ]
    go_wp2_with fail
    go_ret
    exact ⟨rfl, rfl⟩
  · have HC := Lib.hid hc
    clear hc
    go_enter Try.func19, Try.ntmps19
    go_wp2_with fail
    go_loop [3, 4] (fun n i => ∃ k : Nat, k ≤ l.length ∧ i = .int .i64 k ∧ n = .int .i64 (roomC (l.take k))) (fun _ i => l.length - (intOf i).toNat)
    case atStart => exact ⟨0, Nat.zero_le _, rfl, rfl⟩
    case round =>
      obtain ⟨k, hk, rfl, rfl⟩ := hrel
      by_cases hlt : k < l.length
      · have hr := roomC_bd (l.take k)
        have hlen : (l.take k).length ≤ 5000 := by rw [List.length_take]; omega
        obtain ⟨c, hcc⟩ : ∃ c, c = l.getD k 0 := ⟨_, rfl⟩
        have hcell : w.cell? ⟨b, off + k, none⟩ = some (.int .i64 c) := by rw [HC.out k hlt, hcc]
        have HR := Lib.hid (roomC_take l k hlt)
        have HE := Lib.hid hcc
        have hbd := bytesC_bd c
        clear hcc
        go_wp2_with fail
        refine (rbytes_any _ _).mono ?_
        rintro e w' ⟨rfl, rfl⟩
        go_wp2_with fail
        go_round
        case rel => exact ⟨k + 1, by omega, by go_num, by rw [HR.out, ← HE.out]⟩
        case measure => simp [intOf]; omega
      · have HK := Lib.hid (show l.take k = l from List.take_of_length_le (by omega))
        go_wp2_with fail
        go_ret
        exact ⟨ret_int (by rw [HK.out]), rfl⟩
set_option maxHeartbeats 400000 in
theorem rcut_bad (n : Int) (w : World) (h : n < 1 ∨ 4096 < n) : Calls Try.prog 10 #[.int .i64 n] w fun e w' => e = .returned (.tuple #[.slice none 0 0, .int .i64 100]) ∧ w = w' := by
  by_cases h1 : n < 1
  · have d1 : decide (n < 1) = true := by simpa using h1
    go_enter Try.func10, Try.ntmps10
    go_wp2_with fail
    go_ret2
    exact ⟨rfl, rfl⟩
  · have d1 : decide (n < 1) = false := by simpa using h1
    have d2 : decide (4096 < n) = true := by simp; omega
    go_enter Try.func10, Try.ntmps10
    go_wp2_with fail
    go_ret2
    exact ⟨rfl, rfl⟩
set_option maxHeartbeats 400000 in
theorem rcut_any (n : Nat) (w : World) (h1 : 1 ≤ n) (h2 : n ≤ 4096) : Calls Try.prog 10 #[.int .i64 n] w (CutOk n w) := by
  have d1 : decide ((n : Int) < 1) = false := by simp; omega
  have d2 : decide (4096 < (n : Int)) = false := by simp; omega
  obtain ⟨i0, hi0, hz0, hz1, hz2⟩ := info_parts info3
  go_enter Try.func10, Try.ntmps10
  go_wp2_with fail
  go_loopw [4, 5] (fun v i wr => ∃ k : Nat, k ≤ n / 64 ∧ i = .int .i64 k ∧ wr.ownsRow w.heap.size 3 1 v k (ints (List.replicate k 3)) ∧ Below w.heap.size w wr) (fun _ i _ => n / 64 - (intOf i).toNat)
  case atStart => exact ⟨0, Nat.zero_le _, rfl, World.ownsRow_nil _ _ _ _, Below.refl _ _⟩
  case round =>
    obtain ⟨k, hk, rfl, hown, hbel⟩ := hrel
    have hsz := hbel.size
    have HO := Lib.hid hown
    clear hown
    by_cases hlt : k < n / 64
    · go_wp2_with (at_builtin; refine wpList_append_lies _ rfl _ _ 22 rfl w.heap.size 3 i0 (.int .i64 0) 1 8 Try.underlying22 hi0 hz0 hz1 hz2 rfl (by decide) _ k (ints (List.replicate k 3)) rfl (HO.out.alloc _) ⟨wr.heap.size, 0, none⟩ 1 1 [.int .i64 3] rfl rfl (World.news_of_block (cs := #[.int .i64 3]) (t := 3) (fr := (0, 0)) (heap_alloc_new wr _)) (by simp [Value.oneCell']) (by omega) (by unfold maxLen; omega) (by omega) (by simp; omega) (wr.heap.size + 1) (by simp) ?_; intro gg cap w2 hown1 hgrow hat hlt2)
      have hb2 : Below w.heap.size w w2 := ((hbel.alloc hsz _).grown hgrow (by simp; omega) (own_ge HO.out))
      have HN := Lib.hid (show ints (List.replicate k 3) ++ [Value.int .i64 3] = ints (List.replicate (k + 1) 3) from by rw [List.replicate_succ']; simp [ints])
      rw [HN.out] at hown1
      go_roundw
      case rel => exact ⟨k + 1, by omega, by go_num, hown1, hb2⟩
      case measure => simp [intOf]; omega
    · have hk : k = n / 64 := by omega
      by_cases h0 : n % 64 = 0
      · have HL := Lib.hid (show cutC n = List.replicate k 3 from by unfold cutC; rw [if_pos (by omega), List.append_nil, hk])
        have hle : (n : Int) % 64 ≤ 0 := by omega
        clear hk h0
        obtain ⟨ao, cap, rfl, hat, hcap⟩ := own_int HO.out
        go_wp2_with fail
        go_ret2
        exact ⟨ao, cap, ret_sl (congrArg List.length HL.out).symm, by rw [HL.out]; exact hat, hbel, by rw [HL.out]; exact hcap⟩
      · have HL := Lib.hid (show cutC n = List.replicate k 3 ++ [fitC ((n : Int) % 64)] from by unfold cutC; rw [if_neg (by omega), hk]; rfl)
        have hpos : (0 : Int) < (n : Int) % 64 := by omega
        have hle : (n : Int) % 64 ≤ 63 := by omega
        clear hk h0
        go_wp2_with (first
          | (go_at_call 16; refine (rfit_any _ _).mono ?_; rintro e w' ⟨rfl, rfl⟩)
          | (at_builtin; refine wpList_append_lies _ rfl _ _ 22 rfl w.heap.size 3 i0 (.int .i64 0) 1 8 Try.underlying22 hi0 hz0 hz1 hz2 rfl (by decide) _ k (ints (List.replicate k 3)) rfl (HO.out.alloc _) ⟨wr.heap.size, 0, none⟩ 1 1 [.int .i64 (fitC ((n : Int) % 64))] rfl rfl (World.news_of_block (cs := #[.int .i64 (fitC ((n : Int) % 64))]) (t := 3) (fr := (0, 0)) (heap_alloc_new wr _)) (by simp [Value.oneCell']) (by omega) (by unfold maxLen; omega) (by omega) (by simp; omega) (wr.heap.size + 1) (by simp) ?_; intro gg cap w2 hown1 hgrow hat hlt2))
        have hb2 : Below w.heap.size w w2 := ((hbel.alloc hsz _).grown hgrow (by simp; omega) (own_ge HO.out))
        have HN := Lib.hid (show ints (List.replicate k 3) ++ [Value.int .i64 (fitC ((n : Int) % 64))] = ints (List.replicate k 3 ++ [fitC ((n : Int) % 64)]) from by simp [ints])
        rw [HN.out, ← HL.out] at hown1
        obtain ⟨ao, cap', hv, hat2, hcap⟩ := own_int hown1
        go_ret2
        exact ⟨ao, cap', by rw [← hv]; rfl, hat2, hb2, hcap⟩
end Go.Proofs.Ythhhdgomhlmlmaa
