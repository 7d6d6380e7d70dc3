/- arena.New, Held, Taken; the document's Same. -/
import Derived.Test.YtfnokklcbmipgaaDoorA7
namespace Go.Proofs.YtfnokklcbmipgaaDoor
open Go.RowKit Plain

theorem take_any (ao : Option Addr) (l : Segs) (cap : Nat) (c : Int) (w : World) (hl5 : l.length ≤ 5000) (hwf : Wf l) (h : SegAt w ao l) (hn : ao = none → cap = 0) (hT : TabAt w) : Calls Tryd.prog 15 #[.slice ao l.length cap, .int .i64 c] w (TakeOk l c w) := by
  by_cases hok : okS l
  · by_cases hc : bytesC c = 0
    · exact take_size ao l cap c w hl5 hwf h hn hok hc
    · exact take_main ao l cap c w hl5 hwf h hn hok hc hT
  · exact take_no ao l cap c w hl5 hwf h hn hok

def heldL (l : Segs) : Nat := (l.filter fun g => decide (g.1 ≠ -1)).length * 512
def heldR (l : Segs) : Nat := if okS l then heldL l else 0
theorem held_snoc (l : Segs) (k : Nat) (hk : k < l.length) : heldL (l.take (k + 1)) = heldL (l.take k) + if (l.getD k (0, 0)).1 = -1 then 0 else 512 := by
  rw [take_getS l k hk]
  unfold heldL
  rw [List.filter_append, List.length_append, Nat.add_mul]
  congr 1
  generalize l.getD k (0, 0) = g
  by_cases h : g.1 = -1 <;> simp [h]
theorem held_le (l : Segs) : heldL l ≤ l.length * 512 := Nat.mul_le_mul_right _ (List.length_filter_le _ _)
set_option maxHeartbeats 1000000 in
theorem held_any (ao : Option Addr) (l : Segs) (cap : Nat) (w : World) (hwf : Wf l) (h : SegAt w ao l) : Calls Tryd.prog 22 #[.slice ao l.length cap] w fun e w' => e = .returned (.int .i64 (heldR l)) ∧ Below w.heap.size w w' := by
  have H1 := Lib.hid h
  by_cases hok : okS l
  · have HD := Lib.hid (decide_eq_true hok)
    have HL : Hid (heldR l = heldL l) := if_pos hok
    have hlen := hok.1
    clear hok
    go_enter Tryd.func22, Tryd.ntmps22
    go_wp2_with (go_at_call 14; refine (check_any _ l _ _ hwf H1.out).mono ?_; rintro e w1 ⟨rfl, hb1⟩; rw [HD.out])
    go_loopw [3, 11] (fun n i wr => ∃ k : Nat, k ≤ l.length ∧ i = .int .i64 k ∧ n = .int .i64 (heldL (l.take k) : Nat) ∧ Below w.heap.size w wr) (fun _ i _ => l.length - (intOf i).toNat)
    case atStart => exact ⟨0, Nat.zero_le _, rfl, by rw [List.take_zero]; rfl, hb1⟩
    case round =>
      obtain ⟨k, hk, rfl, rfl, hbel⟩ := hrel
      by_cases hlt : k < l.length
      · obtain ⟨b, off, rfl, hbl, hc⟩ := (H1.out.below hbel).cell k hlt
        obtain ⟨g1, g2⟩ := hc k hlt
        have hi : (k : Int) < (l.length : Int) := by omega
        have HS := Lib.hid (held_snoc l k hlt)
        have hle := held_le (l.take k)
        rw [List.length_take] at hle
        obtain ⟨cc, u, hcu⟩ : ∃ cc u, (cc, u) = l.getD k (0, 0) := ⟨_, _, rfl⟩
        rw [← hcu] at g1 g2 HS
        have g1 : wr.cell? ⟨b, off + k * 2, none⟩ = some (.int .i64 cc) := g1
        have g2 : wr.cell? ⟨b, off + k * 2 + 1, none⟩ = some (.int .u64 u) := g2
        clear hc hcu
        generalize heldL (l.take k) = n at *
        by_cases hcc : cc = -1
        · have hb : (cc != -1) = false := by simpa using hcc
          have HE : Hid (heldL (l.take (k + 1)) = n) := by show _ = _; rw [HS.out, if_pos hcc]; rfl
          clear hcc
          go_wp2_with fail
          go_roundw
          case rel => exact ⟨k + 1, by omega, by go_num, by rw [HE.out], hbel.alloc hbel.size _⟩
          case measure => simp [intOf]; omega
        · have hb : (cc != -1) = true := by simpa using hcc
          have HE : Hid (heldL (l.take (k + 1)) = n + 512) := by show _ = _; rw [HS.out, if_neg hcc]
          have hw : IntKind.i64.wrap ((n : Int) + 512) = ((n + 512 : Nat) : Int) := by rw [IntWalk.i64_in _ (by omega)]; omega
          clear hcc
          go_wp2_with fail
          go_roundw
          case rel => exact ⟨k + 1, by omega, by go_num, by rw [HE.out]; go_num, hbel.alloc hbel.size _⟩
          case measure => simp [intOf]; omega
      · have hi : ¬ ((k : Int) < (l.length : Int)) := by omega
        have hkl : k = l.length := by omega
        rw [hkl, List.take_length]
        go_wp2_with fail
        go_ret
        exact ⟨by rw [HL.out]; rfl, hbel⟩
  · have HD := Lib.hid (decide_eq_false hok)
    have HL : Hid (heldR l = 0) := if_neg hok
    clear hok
    go_enter Tryd.func22, Tryd.ntmps22
    go_wp2_with (go_at_call 14; refine (check_any _ l _ _ hwf H1.out).mono ?_; rintro e w1 ⟨rfl, hb1⟩; rw [HD.out])
    go_ret
    exact ⟨by rw [HL.out]; rfl, hb1⟩

def takenL (l : Segs) : Nat := (l.map fun g => pop g.2 * (bytesC g.1).toNat).foldr (· + ·) 0
def takenR (l : Segs) : Nat := if okS l then takenL l else 0
theorem taken_append (l m : Segs) : takenL (l ++ m) = takenL l + takenL m := by
  unfold takenL
  rw [List.map_append, List.foldr_append]
  induction l with
  | nil => simp
  | cons g l ih => simp only [List.map_cons, List.foldr_cons, ih]; omega
theorem taken_snoc (l : Segs) (k : Nat) (hk : k < l.length) : takenL (l.take (k + 1)) = takenL (l.take k) + pop (l.getD k (0, 0)).2 * (bytesC (l.getD k (0, 0)).1).toNat := by
  rw [take_getS l k hk, taken_append]; rfl
theorem taken_le (l : Segs) : takenL l ≤ l.length * 4096 := by
  induction l with
  | nil => simp [takenL]
  | cons g l ih =>
    show pop g.2 * (bytesC g.1).toNat + takenL l ≤ (l.length + 1) * 4096
    have h1 := pop_le g.2
    have h2 := bytesC_bd g.1
    have h3 : pop g.2 * (bytesC g.1).toNat ≤ 64 * 64 := Nat.mul_le_mul h1 (by omega)
    omega
set_option maxHeartbeats 1000000 in
theorem taken_any (ao : Option Addr) (l : Segs) (cap : Nat) (w : World) (hwf : Wf l) (h : SegAt w ao l) : Calls Tryd.prog 19 #[.slice ao l.length cap] w fun e w' => e = .returned (.int .i64 (takenR l)) ∧ Below w.heap.size w w' := by
  have H1 := Lib.hid h
  by_cases hok : okS l
  · have HD := Lib.hid (decide_eq_true hok)
    have HL : Hid (takenR l = takenL l) := if_pos hok
    have hlen := hok.1
    clear hok
    go_enter Tryd.func19, Tryd.ntmps19
    go_wp2_with (go_at_call 14; refine (check_any _ l _ _ hwf H1.out).mono ?_; rintro e w1 ⟨rfl, hb1⟩; rw [HD.out])
    go_loopw [3, 11] (fun n i wr => ∃ k : Nat, k ≤ l.length ∧ i = .int .i64 k ∧ n = .int .i64 (takenL (l.take k) : Nat) ∧ Below w.heap.size w wr) (fun _ i _ => l.length - (intOf i).toNat)
    case atStart => exact ⟨0, Nat.zero_le _, rfl, by rw [List.take_zero]; rfl, hb1⟩
    case round =>
      obtain ⟨k, hk, rfl, rfl, hbel⟩ := hrel
      by_cases hlt : k < l.length
      · obtain ⟨b, off, rfl, hbl, hc⟩ := (H1.out.below hbel).cell k hlt
        obtain ⟨g1, g2⟩ := hc k hlt
        have hi : (k : Int) < (l.length : Int) := by omega
        have HS := Lib.hid (taken_snoc l k hlt)
        have hle := taken_le (l.take k)
        rw [List.length_take] at hle
        have HU := Lib.hid (hwf _ (getD_mem hlt))
        obtain ⟨cc, u, hcu⟩ : ∃ cc u, (cc, u) = l.getD k (0, 0) := ⟨_, _, rfl⟩
        rw [← hcu] at g1 g2 HS HU
        have g1 : wr.cell? ⟨b, off + k * 2, none⟩ = some (.int .i64 cc) := g1
        have g2 : wr.cell? ⟨b, off + k * 2 + 1, none⟩ = some (.int .u64 u) := g2
        have HU : Hid (u < 18446744073709551616) := HU
        have HE : Hid (takenL (l.take (k + 1)) = takenL (l.take k) + pop u * (bytesC cc).toNat) := HS
        clear hc hcu HS
        generalize takenL (l.take k) = n at *
        have hbd := bytesC_bd cc
        have hpl := pop_le u
        have hmul : pop u * (bytesC cc).toNat ≤ 64 * 64 := Nat.mul_le_mul hpl (by omega)
        have hw : IntKind.i64.wrap ((pop u : Int) * bytesC cc) = ((pop u * (bytesC cc).toNat : Nat) : Int) := by
          have e : (pop u : Int) * bytesC cc = ((pop u * (bytesC cc).toNat : Nat) : Int) := by
            rw [Int.natCast_mul, Int.toNat_of_nonneg hbd.1]
          rw [e, IntWalk.i64_in _ (by omega)]
        generalize pop u * (bytesC cc).toNat = m at *
        have hw2 : IntKind.i64.wrap ((n : Int) + (m : Int)) = ((n + m : Nat) : Int) := by rw [IntWalk.i64_in _ (by omega)]; omega
        clear hbd hpl hmul hle
        go_wp2_with fail
        go_quiet ((first | (go_at_call 43; exact Calls.quiet_of_same ((ones_any _ HU.out _).mono fun _ _ ⟨h, h2⟩ => ⟨h, h2.symm⟩)) | (go_at_call 41; exact Calls.quiet_of_same ((bytes_any _ _).mono fun _ _ ⟨h, h2⟩ => ⟨h, h2.symm⟩))))
        go_wp2_with fail
        go_roundw
        case rel => exact ⟨k + 1, by omega, by go_num, by rw [HE.out]; go_num, below_drewN _ _ _ _ (hbel.alloc hbel.size _)⟩
        case measure => simp [intOf]; omega
      · have hi : ¬ ((k : Int) < (l.length : Int)) := by omega
        have hkl : k = l.length := by omega
        rw [hkl, List.take_length]
        go_wp2_with fail
        go_ret
        exact ⟨by rw [HL.out]; rfl, hbel⟩
  · have HD := Lib.hid (decide_eq_false hok)
    have HL : Hid (takenR l = 0) := if_neg hok
    clear hok
    go_enter Tryd.func19, Tryd.ntmps19
    go_wp2_with (go_at_call 14; refine (check_any _ l _ _ hwf H1.out).mono ?_; rintro e w1 ⟨rfl, hb1⟩; rw [HD.out])
    go_ret
    exact ⟨by rw [HL.out]; rfl, hb1⟩
end Go.Proofs.YtfnokklcbmipgaaDoor
