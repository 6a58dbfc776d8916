/- The laws' Ordered, walked for whatever lock keeps an invariant with a queue. -/
import Derived.Test.YtmiidiijhhjabaaMach
import Derived.Deep.QuietTactic
import Derived.Deep.CutRange
import Derived.Deep.CutBlock
import Derived.Deep.DeepMust
namespace Go.Proofs.Ytmiidiijhhjabaa.Mach
open Go Go.RowKit Go.Proofs.Ytmiidiijhhjabaa.Heap Go.Proofs.Ytmiidiijhhjabaa.Open Go.Proofs.Ytmiidiijhhjabaa.Seat

/-- The queue behind a step. -/
def queue1 (q : List Int) (t : Int) (d : Did) : List Int := if d.2.1 = true then q ++ [t] else q
def queue2 (q : List Int) (t : Int) (d : Did) : List Int := if d.1 = 1 ∨ d.1 = 2 then (queue1 q t d).filter (· != t) else queue1 q t d
/-- How many hold the lock, of the first k. -/
def holders (l : List (Int × Int)) (k : Nat) : Nat := (l.take k).countP fun p => decide (p.1 = 2)
theorem holders_next (l : List (Int × Int)) (k : Nat) (h : k < l.length) : holders l (k + 1) = holders l k + if (l.getD k (0, -1)).1 = 2 then 1 else 0 := by
  unfold holders
  rw [List.take_succ_eq_append_getElem h, List.countP_append, getD_lt _ _ _ h]
  congr 1
  by_cases e : (l[k]).1 = 2
  · simp [e]
  · simp [e]
theorem holders_le (l : List (Int × Int)) (k : Nat) : holders l k ≤ k := Nat.le_trans List.countP_le_length (List.length_take_le _ _)
/-- What an ordered lock keeps. -/
structure Keeps {σ : Type} (td pd : Bool) (n : Nat) (seats : σ → List (Int × Int)) (setS : σ → List (Int × Int) → σ) (step : σ → Int → Int → Int → Did × σ) (Inv : σ → List Int → Prop) : Prop where
  lock : ∀ st q t d, Inv st q → Inv (setS st (Seat.lock (seats st) td t d).2) q
  unlock : ∀ st q t, Inv st q → Inv (setS st (turn (seats st) t 3).2) q
  probe : ∀ st q t, Inv st q → Inv (setS st (Seat.probe (seats st) pd t).2) q
  step : ∀ st q t now, Inv st q → ((step st t t now).1.1 = 1 → (queue1 q t (step st t t now).1).head? = some t) ∧ Inv (step st t t now).2 (queue2 q t (step st t t now).1)
  one : ∀ st q, Inv st q → holders (seats st) n ≤ 1

theorem filter_take_next (q : List Int) (t : Int) (k : Nat) (h : k < q.length) : (q.take (k + 1)).filter (· != t) = (q.take k).filter (· != t) ++ if q.getD k 0 = t then [] else [q.getD k 0] := by
  rw [List.take_succ_eq_append_getElem h, List.filter_append, getD_lt _ _ _ h]
  congr 1
  by_cases e : q[k] = t
  · simp [e]
  · simp [e]
theorem state_getD {l : List (Int × Int)} {k : Nat} (h : k < l.length) : state l k = (l.getD k (0, -1)).1 := by unfold state; rw [inB_mk h, if_pos rfl, Int.toNat_natCast]
theorem info_i64 : (Try.prog.info? 3).map (fun i => (i.zero, i.size, i.bytes)) = some (some (.int .i64 0), 1, 8) := by kernel_rfl
theorem cell_newAt (w : World) (v : Value) (T : TypeId) (b : Nat) (hb : b = w.heap.size) : ∀ j u, [v][j]? = some u → (w.alloc (.cells #[v] T)).cell? ((⟨b, 0, none⟩ : Addr).add j) = some u := by subst hb; exact cell_new1 w v T
theorem ints_snoc {k : IntKind} (xs : List Int) (x : Int) : ints k xs ++ [.int k x] = ints k (xs ++ [x]) := by simp [ints]

end Go.Proofs.Ytmiidiijhhjabaa.Mach
