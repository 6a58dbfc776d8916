/- Package hier: Use, at, Node. -/
import Derived.Test.YtmiidiijhhjabaaHier
namespace Go.Proofs.Ytmiidiijhhjabaa.Hier
open Go Go.RowKit Go.Proofs.Ytmiidiijhhjabaa.Heap Go.Proofs.Ytmiidiijhhjabaa.Open Go.Proofs.Ytmiidiijhhjabaa.Seat Go.Proofs.Ytmiidiijhhjabaa.Mach Go.Proofs.Ytmiidiijhhjabaa.Has Go.Proofs.Ytmiidiijhhjabaa.StepU Go.Proofs.Ytmiidiijhhjabaa.Cells
variable {l s lb pb cap p : Nat} {SP : Nat → Prop} {k : Nat} {hs : List Int} {tl : Int}
theorem At.use {w : World} {pv : Value} {sl : List (Int × Int)} {pl : List P} (h : At w l s lb pb cap pv tl sl pl) (v : Value) : At (w.setCell ⟨l, 1, none⟩ v) l s lb pb cap v tl sl pl := by
  have hu := Upd.one w l 1 v
  exact ⟨by simpa using h.top.set 1 v, h.seat.upd hu (fun e => h.e1.1 e.symm) (fun e => h.e1.2.1 e.symm), h.plc.upd hu (fun e => h.e1.2.2 e.symm), h.l1, h.e1, h.e2, h.ok, h.tl0⟩
theorem useC (w : World) (pv : Value) (sl : List (Int × Int)) (pl : List P) (h : At w l s lb pb cap pv tl sl pl) :
    Calls Try.prog 35 #[.pointer (some ⟨l, 0, none⟩), .pointer (some ⟨p, 0, none⟩)] w fun e w' => e = .returned (.tuple #[]) ∧ At w' l s lb pb cap (.pointer (some ⟨p, 0, none⟩)) tl sl pl ∧ Upd (fun k => k = l) w w' := by
  have h1 := h.top.cell (i := 1) rfl
  have f1 := h.top.frozen 1
  go_enter Try.func35, Try.ntmps35
  go_wp2
  go_end0
  exact ⟨rfl, h.use _, Upd.one _ _ _ _⟩
theorem atC (w : World) (hc : w.cell? ⟨l, 2, none⟩ = some (.int .i64 tl)) (h0 : 0 ≤ tl ∧ tl ≤ 100000) (x : Int) (hx : 0 ≤ x ∧ x < 4294967296) :
    Calls Try.prog 50 #[.pointer (some ⟨l, 0, none⟩), .int .i64 x] w fun e w' => e = .returned (.int .i64 (nodeA tl x)) ∧ w = w' := by
  unfold nodeA
  go_enter Try.func50, Try.ntmps50
  go_wp2
  go_ret
  exact ⟨rfl, rfl⟩
/-- A context's node. -/
theorem nodeC {w : World} {sl : List (Int × Int)} {pl : List P} {pv : Value} (h : At w l s lb pb cap pv tl sl pl) (t : Nat) (ht : t < sl.length) :
    Calls Try.prog 15 #[.pointer (some ⟨l, 0, none⟩), .int .i64 t] w fun e w' => e = .returned (.int .i64 (pl.getD t p0).n) ∧ w = w' := by
  have c3 := h.top.cell (i := 3) rfl
  have c0 := h.cell ht 1 (by decide) _ rfl
  have h1 : (0 : Int) ≤ (t : Int) := by omega
  have h2 : (t : Int) < (sl.length : Int) := by omega
  go_enter Try.func15, Try.ntmps15
  go_wp2
  go_ret
  exact ⟨rfl, rfl⟩
theorem nodeN {w : World} {sl : List (Int × Int)} {pl : List P} {pv : Value} (h : At w l s lb pb cap pv tl sl pl) (t : Int) (ht : t < 0 ∨ (sl.length : Int) ≤ t) :
    Calls Try.prog 15 #[.pointer (some ⟨l, 0, none⟩), .int .i64 t] w fun e w' => e = .returned (.int .i64 (-1)) ∧ w = w' := by
  have c3 := h.top.cell (i := 3) rfl
  by_cases h1 : t < 0
  · clear ht
    go_enter Try.func15, Try.ntmps15
    go_wp2
    go_ret
    exact ⟨rfl, rfl⟩
  · have h2 : (sl.length : Int) ≤ t := by omega
    have h1' : decide (t < 0) = false := by simpa using h1
    clear ht
    go_enter Try.func15, Try.ntmps15
    go_wp2
    go_ret
    exact ⟨rfl, rfl⟩
end Go.Proofs.Ytmiidiijhhjabaa.Hier
