/- The document's answer: Without, May. -/
import Derived.Test.YtafkbbjmbbimpaaC9
namespace Go.Proofs.Ytafkbbjmbbimpaa
open Go.RowKit Plain

set_option maxHeartbeats 400000 in
theorem rwithout_any (ao : Option Addr) (l : List Int) (cap : Nat) (id : Int) (w : World) (hl : l.length ≤ 5000) (h : IntAt w ao l) : Calls Try.prog 29 #[.slice ao l.length cap, .int .i64 id] w (SliceOut (wo l id) w) := by
  have H1 := Lib.hid h
  clear h
  go_enter Try.func29, Try.ntmps29
  go_wp2_with fail
  go_loopw [5, 6] (fun v i wr => ∃ k : Nat, k ≤ l.length ∧ i = .int .i64 k ∧ wr.ownsRow w.heap.size 3 1 v (wo (l.take k) id).length (ints (wo (l.take k) id)) ∧ Below w.heap.size w wr) (fun _ i _ => l.length - (intOf i).toNat)
  case atStart => exact ⟨0, Nat.zero_le _, rfl, World.ownsRow_nil _ _ _ _, Below.refl _ _⟩
  case round =>
    obtain ⟨k, hk, rfl, hown, hbel⟩ := hrel
    have hsz := hbel.size
    by_cases hlt : k < l.length
    · obtain ⟨b, off, rfl, hc⟩ := (H1.out.below hbel).cell k hlt
      have g1 := hc k hlt
      have hi : (k : Int) < (l.length : Int) := by omega
      have HT := Lib.hid (wo_take l id k hlt)
      have HLen : Hid ((wo (l.take (k + 1)) id).length ≤ 5000) := Nat.le_trans (wo_len _ _) (Nat.le_trans (by rw [List.length_take]; omega) hl)
      obtain ⟨m, hm⟩ : ∃ m, m = wo (l.take k) id := ⟨_, rfl⟩
      obtain ⟨x, hx⟩ : ∃ x, x = l.getD k 0 := ⟨_, rfl⟩
      rw [← hm] at hown HT
      rw [← hx] at g1 HT
      have HO := Lib.hid hown
      clear hown hc hm hx
      by_cases hne : x = id
      · have hb : (x != id) = false := by simpa using hne
        have HT2 : Hid (wo (l.take (k + 1)) id = m) := by show _ = _; rw [HT.out, if_pos hne, List.append_nil]
        clear hne
        go_wp2_with fail
        go_roundw
        case rel => exact ⟨k + 1, by omega, by go_num, by rw [HT2.out]; exact HO.out, hbel⟩
        case measure => simp [intOf]; omega
      · have hb : (x != id) = true := by simpa using hne
        have HT2 : Hid (wo (l.take (k + 1)) id = m ++ [x]) := by show _ = _; rw [HT.out, if_neg hne]
        clear hne
        go_wp2_with (first
          | (at_builtin; refine append_ints rfl _ _ rfl w.heap.size _ m rfl (HO.out.alloc _) _ [x] 1 rfl (lit1 _ _) (by intro h; cases h) (by rw [← HT2.out]; have := HLen.out; omega) (by simp; omega) ?_; intro ao2 cap2 w2 hown1 hb3))
        go_roundw
        case rel => exact ⟨k + 1, by omega, by go_num, by rw [HT2.out]; have h := hown1; rw [List.length_append, List.length_singleton] at h ⊢; exact h, (hbel.alloc hsz _).trans hb3⟩
        case measure => simp [intOf]; omega
    · have hi : ¬ ((k : Int) < (l.length : Int)) := by omega
      rw [List.take_of_length_le (by omega)] at hown
      have HO := Lib.hid hown
      obtain ⟨ao2, cap2, rfl, hint, hn, hcap⟩ := own_int HO.out
      clear hown
      go_wp2_with fail
      go_ret
      exact ⟨⟨ao2, cap2, rfl, hint, hn, hcap⟩, hbel⟩

end Go.Proofs.Ytafkbbjmbbimpaa
