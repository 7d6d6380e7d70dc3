/- The store's functions, at what is known of their results. -/
import Derived.Test.YtfnokklcbmipgaaDoorW0
import Derived.Test.YtfnokklcbmipgaaDoorV5
namespace Go.Proofs.YtfnokklcbmipgaaDoor
open Go.RowKit Plain

/-- A store's value, of n segments. -/
def stV (ao : Option Addr) (n cap : Nat) (B : List UInt8) : Value := .agg #[.slice ao n cap, .string (strB B)]
def PutK (n : Nat) (m : Segs) (C : List UInt8) (ss : Slots) (e : Int) (w : World) (r : Ending) (w' : World) : Prop := (∃ ao cap so scap, r = .returned (.tuple #[.agg #[.slice ao n cap, .string (strB C)], .slice so ss.length scap, .int .i64 e]) ∧ SegNew w' w.heap.size ao cap m ∧ SlotsNew w' w.heap.size so scap ss) ∧ Below w.heap.size w w'
theorem Put_lit (n : Nat) (l m : Segs) (B C D : List UInt8) (ss : Slots) (e : Int) (ao : Option Addr) (cap : Nat) (w : World) (hE : putS l B D = (m, C, ss, e)) (hl : l.length = n) (hm : m.length = n) (hn5 : n ≤ 5000) (hwf : Wf l) (h : SegAt w ao l) (hn : ao = none → cap = 0) (hT : TabAt w) (hDl : D.length ≤ 1000000) :
    Calls Tryd.prog 28 #[.agg #[.slice ao n cap, .string (strB B)], .string (strB D)] w (PutK n m C ss e w) := by
  subst hl
  refine (Put_any ao l cap B D w hwf hn5 h hn hT hDl).mono ?_
  rw [hE]
  rintro r w' ⟨⟨v, so, scap, rfl, ⟨ao', cap', rfl, h1⟩, h2⟩, hb⟩
  rw [show (m, C, ss, e).1 = m from rfl] at h1
  refine ⟨⟨ao', cap', so, scap, ?_, h1, h2⟩, hb⟩
  rw [← hm]
def DropK (n : Nat) (m : Segs) (C : List UInt8) (e : Int) (w : World) (r : Ending) (w' : World) : Prop := (∃ ao cap, r = .returned (.tuple #[.agg #[.slice ao n cap, .string (strB C)], .int .i64 e]) ∧ SegNew w' w.heap.size ao cap m) ∧ Below w.heap.size w w'
theorem Drop_lit (n k : Nat) (l m : Segs) (B C : List UInt8) (ss : Slots) (e : Int) (ao : Option Addr) (cap : Nat) (so : Option Addr) (scap : Nat) (w : World) (hE : dropS l B ss = (m, C, e)) (hl : l.length = n) (hm : m.length = n) (hk : ss.length = k) (hn5 : n ≤ 5000) (hwf : Wf l) (h : SegAt w ao l) (hn : ao = none → cap = 0) (hs : SlotsAt w so ss) (hss : k ≤ 1000000) :
    Calls Tryd.prog 31 #[.agg #[.slice ao n cap, .string (strB B)], .slice so k scap] w (DropK n m C e w) := by
  subst hl hk
  refine (Drop_any ao l cap B so ss scap w hwf hn5 h hn hs hss).mono ?_
  rw [hE]
  rintro r w' ⟨⟨v, rfl, ao', cap', rfl, h1⟩, hb⟩
  refine ⟨⟨ao', cap', ?_, h1⟩, hb⟩
  rw [← hm]
theorem Get_lit (n k : Nat) (l : Segs) (B D : List UInt8) (ss : Slots) (size e : Int) (ao : Option Addr) (cap : Nat) (so : Option Addr) (scap : Nat) (w : World) (hE : getS l B ss size = (D, e)) (hl : l.length = n) (hk : ss.length = k) (hn5 : n ≤ 5000) (hwf : Wf l) (h : SegAt w ao l) (hs : SlotsAt w so ss) (hss : k ≤ 1000000) :
    Calls Tryd.prog 30 #[.agg #[.slice ao n cap, .string (strB B)], .slice so k scap, .int .i64 size] w fun r w' => r = .returned (.tuple #[.string (strB D), .int .i64 e]) ∧ Below w.heap.size w w' := by
  subst hl hk
  refine (Get_any ao l cap B so ss scap size w hwf hn5 h hs hss).mono ?_
  rw [hE]
  exact fun r w' h => h
theorem scheck_lit (n : Nat) (l : Segs) (B : List UInt8) (b : Bool) (ao : Option Addr) (cap : Nat) (w : World) (hE : decide (okSt l (strB B)) = b) (hl : l.length = n) (hn5 : n ≤ 5000) (hwf : Wf l) (h : SegAt w ao l) :
    Calls Tryd.prog 27 #[.agg #[.slice ao n cap, .string (strB B)]] w fun r w' => r = .returned (.bool b) ∧ Below w.heap.size w w' := by
  subst hl
  rw [← hE]
  exact scheck_any ao l cap (strB B) w hwf h hn5
def PackK (n k : Nat) (m : Segs) (C : List UInt8) (mv : List Slots) (e : Int) (w : World) (r : Ending) (w' : World) : Prop := (∃ ao cap to tcap, r = .returned (.tuple #[.agg #[.slice ao n cap, .string (strB C)], .slice to k tcap, .int .i64 e]) ∧ SegNew w' w.heap.size ao cap m ∧ ChainsNew w' w.heap.size (.slice to k tcap) mv) ∧ Below w.heap.size w w'
theorem Pack_lit (n k q : Nat) (l m : Segs) (B C : List UInt8) (chs mv : List Slots) (e : Int) (ao : Option Addr) (cap : Nat) (co : Option Addr) (ccap : Nat) (w : World) (hE : packS l B chs = (m, C, mv, e)) (hl : l.length = n) (hm : m.length = n) (hq : chs.length = q) (hk : mv.length = k) (hn5 : n ≤ 5000) (hwf : Wf l) (h : SegAt w ao l) (hn : ao = none → cap = 0) (hT : TabAt w) (hs : ChainsAt w co chs) (hcs : q ≤ 90000) (hss : ∀ ss ∈ chs, ss.length ≤ 90000) :
    Calls Tryd.prog 33 #[.agg #[.slice ao n cap, .string (strB B)], .slice co q ccap] w (PackK n k m C mv e w) := by
  subst hl hq hk
  refine (Pack_any ao l cap B co chs ccap w hwf hn5 h hn hT hs hcs hss).mono ?_
  rw [hE]
  rintro r w' ⟨⟨v, tv, rfl, ⟨ao', cap', rfl, h1⟩, h2⟩, hb⟩
  obtain ⟨to, tcap, rfl⟩ := ChainsNew.slice h2
  refine ⟨⟨ao', cap', to, tcap, ?_, h1, h2⟩, hb⟩
  rw [← hm]
theorem New_lit (n : Nat) (w : World) (hn : n ≤ 200) : Calls Tryd.prog 32 #[.int .i64 n] w fun r w' => (∃ ao cap, r = .returned (.tuple #[.agg #[.slice ao n cap, .string (strB (List.replicate (n * 512) 0))], .int .i64 0]) ∧ SegNew w' w.heap.size ao cap (newS n)) ∧ Below w.heap.size w w' := by
  refine (New_any n w hn).mono ?_
  rintro r w' ⟨⟨v, rfl, ao', cap', rfl, h1⟩, hb⟩
  refine ⟨⟨ao', cap', ?_, h1⟩, hb⟩
  show Ending.returned (.tuple #[.agg #[.slice ao' (newS n).length cap', _], _]) = _
  rw [show (newS n).length = n from List.length_replicate]
theorem rsame_lit (n : Nat) (ao bo : Option Addr) (l : Segs) (cap cap2 : Nat) (B : List UInt8) (w : World) (hl : l.length = n) (hn5 : n ≤ 5000) (h1 : SegAt w ao l) (h2 : SegAt w bo l) :
    Calls Tryd.prog 29 #[.agg #[.slice ao n cap, .string (strB B)], .agg #[.slice bo n cap2, .string (strB B)]] w fun e w' => e = .returned (.bool true) ∧ Below w.heap.size w w' := by
  subst hl
  exact rsame_yes ao bo l cap cap2 B w hn5 h1 h2
/-- A box of a store, made just now. -/
theorem Row2.only {w w' : World} {b c : Nat} {T : TypeId} {u v : Value} (h : Row2 w b T u v) (o : Only c w w') (hb : b ≠ c) : Row2 w' b T u v := (o.heap b hb).trans h
theorem TabAt.only {w w' : World} {c : Nat} (h : TabAt w) (o : Only c w w') (hc : c ≠ 0) : TabAt w' :=
  ⟨fun j hj => (World.cell?_of_block (a := ⟨0, j, none⟩) (o.heap 0 (Ne.symm hc))).trans (h.1 j hj), by rw [o.size]; exact h.2⟩
theorem SegNew.only {w w' : World} {base cap c : Nat} {ao : Option Addr} {l : Segs} (h : SegNew w base ao cap l) (o : Only c w w') (hc : c < base) : SegNew w' base ao cap l := h.same (fun k off e => o.heap k (by have := (h.blk k off e).1; omega))
theorem SlotsNew.only {w w' : World} {base cap c : Nat} {ao : Option Addr} {l : Slots} (h : SlotsNew w base ao cap l) (o : Only c w w') (hc : c < base) : SlotsNew w' base ao cap l := h.same (fun k off e => o.heap k (by have := (h.blk k off e).1; omega))
theorem chain_one {w : World} {so : Option Addr} {scap : Nat} {ss : Slots} (h : SlotsAt w so ss) : ChainsAt (w.alloc (.cells #[.slice so ss.length scap] 39)) (some ⟨w.heap.size, 0, none⟩) [ss] := by
  refine .inr ⟨w.heap.size, 0, rfl, by simp, fun i hi => ?_⟩
  have : i = 0 := by simpa using hi
  subst this
  exact ⟨_, by simp, so, scap, rfl, h.below ((Below.refl _ _).alloc (Nat.le_refl _) _)⟩
end Go.Proofs.YtfnokklcbmipgaaDoor
