/- ListUses: an act, carried out. -/
import Derived.Test.YtafkbbjmbbimpaaC9
namespace Go.Proofs.Ytafkbbjmbbimpaa
open Go.RowKit Plain

set_option maxRecDepth 20000 in
set_option maxHeartbeats 1000000 in
theorem do_any (s : List Int) (hs : may s) (d : Bool) (id : Int) (w : World) : Calls Try.prog 23 #[.agg (cellsT (tell s)), .agg #[.bool d, .int .i64 id]] w fun e w' => (∃ n : Int, e = .returned (.tuple #[.agg (cellsT (tell (doL s (d, id)))), .int .i64 n])) ∧ Below w.heap.size w w' := by
  have C : (d = true → ∃ n : Int, ∀ w, Calls Try.prog 16 #[.agg (cellsT (tell s)), .int .i64 id] w (TE (tell (doL s (d, id))) n w)) ∧ (d = false → ∃ n : Int, ∀ w, Calls Try.prog 14 #[.agg (cellsT (tell s)), .int .i64 id] w (TE (tell (doL s (d, id))) n w)) := by
    constructor
    · intro h
      subst h
      by_cases hm : id ∈ s
      · exact ⟨0, fun w => drop_yes s hs id hm w⟩
      · refine ⟨120, fun w => ?_⟩
        have h := drop_none s hs id hm w
        have e : doL s (true, id) = s := by unfold doL; rw [if_pos rfl]; exact wo_of_not_mem hm
        rwa [e]
    · intro h
      subst h
      by_cases hm : inR id
      · refine ⟨0, fun w => ?_⟩
        have h := touch_yes s hs id hm w
        have e : doL s (false, id) = touchL s id := by unfold doL; rw [if_neg (by simp), if_pos hm]
        rwa [e]
      · refine ⟨110, fun w => ?_⟩
        have h := touch_room s hs id hm w
        have e : doL s (false, id) = s := by unfold doL; rw [if_neg (by simp), if_neg hm]
        rwa [e]
  obtain ⟨z26, s26⟩ := zero_of_info zero26
  have sz := cellsT_size zeroT_ok
  obtain ⟨cz, hcz⟩ : ∃ cz, cz = cellsT zeroT := ⟨_, rfl⟩
  rw [← hcz] at z26 sz
  have ok1 := tell_ok s
  have ok2 := tell_ok (doL s (d, id))
  generalize tell s = T1 at *
  generalize tell (doL s (d, id)) = T2 at *
  clear hcz s26 hs
  have hat0 : At ((((w.alloc (.cells (cellsT T1) 26)).alloc (.cells #[.bool d, .int .i64 id] 43)).alloc (.cells cz 26))) w.heap.size T1 := ((At.alloc ok1).more _).more _
  have hr0 : Row ((((w.alloc (.cells (cellsT T1) 26)).alloc (.cells #[.bool d, .int .i64 id] 43)).alloc (.cells cz 26))) (w.heap.size + 2) := by
    have := Row.last ((w.alloc (.cells (cellsT T1) 26)).alloc (.cells #[.bool d, .int .i64 id] 43)) cz sz
    rwa [World.size_alloc, World.size_alloc] at this
  have hB0 : Below w.heap.size w ((((w.alloc (.cells (cellsT T1) 26)).alloc (.cells #[.bool d, .int .i64 id] 43)).alloc (.cells cz 26))) := (((Below.refl _ _).alloc (Nat.le_refl _) _).alloc (by simp) _).alloc (by simp; omega) _
  have hs0 : ((((w.alloc (.cells (cellsT T1) 26)).alloc (.cells #[.bool d, .int .i64 id] 43)).alloc (.cells cz 26))).heap.size = w.heap.size + 3 := by simp
  cases d
  · obtain ⟨n, c⟩ := C.2 rfl
    have HC := Lib.hid c
    clear C c
    go_enter Try.func23, Try.ntmps23
    go_wp2_with (first
      | (refine wpList_loadA hat0 rfl _ rfl rfl ?_)
      | (go_at_call 14; refine (HC.out _).mono ?_; rintro e w3 ⟨rfl, hb3⟩; have hl := hb3.size; have hrow := hr0.below hb3 (by omega))
      | (refine wpList_storeT rfl (.tmp 4) (.tmp 18) rfl _ T2 rfl rfl ok2 hrow ?_; intro w5 hat5 hon5))
    refine bodyPost_ret (results_list2 rfl _ _ _ T2 hat5 rfl) rfl ⟨⟨n, rfl⟩, ?_⟩
    exact hon5.below (hB0.trans (hb3.mono (by omega))) (by omega)
  · obtain ⟨n, c⟩ := C.1 rfl
    have HC := Lib.hid c
    clear C c
    go_enter Try.func23, Try.ntmps23
    go_wp2_with (first
      | (refine wpList_loadA hat0 rfl _ rfl rfl ?_)
      | (go_at_call 16; refine (HC.out _).mono ?_; rintro e w3 ⟨rfl, hb3⟩; have hl := hb3.size; have hrow := hr0.below hb3 (by omega))
      | (refine wpList_storeT rfl (.tmp 4) (.tmp 12) rfl _ T2 rfl rfl ok2 hrow ?_; intro w5 hat5 hon5))
    refine bodyPost_ret (results_list2 rfl _ _ _ T2 hat5 rfl) rfl ⟨⟨n, rfl⟩, ?_⟩
    exact hon5.below (hB0.trans (hb3.mono (by omega))) (by omega)
end Go.Proofs.Ytafkbbjmbbimpaa
