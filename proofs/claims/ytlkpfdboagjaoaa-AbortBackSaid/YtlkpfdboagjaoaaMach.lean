/- What a lock is, for the laws of layers 10 to 15: its methods' contracts; calls through the interface. -/
import Derived.Test.YtlkpfdboagjaoaaSeat
import Derived.Test.YtlkpfdboagjaoaaSrc
namespace Go.Proofs.Ytlkpfdboagjaoaa.Mach
open Go Go.RowKit Go.Proofs.Ytlkpfdboagjaoaa.Heap Go.Proofs.Ytlkpfdboagjaoaa.Open Go.Proofs.Ytlkpfdboagjaoaa.Seat

/-- The lock's interface value. -/
def val (l : Nat) : Value := .iface 28 (.pointer (some ⟨l, 0, none⟩))
section
variable (l s : Nat) (w : World)
theorem nil_use : (nilAhead 289 28 (.pointer (some ⟨l, 0, none⟩)) "Use").run Try.prog w = .ok (some false) w := by kernel_rfl
theorem nil_step : (nilAhead 289 28 (.pointer (some ⟨l, 0, none⟩)) "Step").run Try.prog w = .ok (some false) w := by kernel_rfl
theorem nil_lock : (nilAhead 289 28 (.pointer (some ⟨l, 0, none⟩)) "Lock").run Try.prog w = .ok (some false) w := by kernel_rfl
theorem nil_unlock : (nilAhead 289 28 (.pointer (some ⟨l, 0, none⟩)) "Unlock").run Try.prog w = .ok (some false) w := by kernel_rfl
theorem nil_probe : (nilAhead 289 28 (.pointer (some ⟨l, 0, none⟩)) "Probe").run Try.prog w = .ok (some false) w := by kernel_rfl
theorem nil_state : (nilAhead 289 28 (.pointer (some ⟨l, 0, none⟩)) "State").run Try.prog w = .ok (some false) w := by kernel_rfl
theorem nil_len : (nilAhead 289 28 (.pointer (some ⟨l, 0, none⟩)) "Len").run Try.prog w = .ok (some false) w := by kernel_rfl
theorem m_use : (method 289 28 (.pointer (some ⟨l, 0, none⟩)) "Use").run Try.prog w = .ok (37, .pointer (some ⟨l, 0, none⟩)) w := by kernel_rfl
theorem m_step : (method 289 28 (.pointer (some ⟨l, 0, none⟩)) "Step").run Try.prog w = .ok (20, .pointer (some ⟨l, 0, none⟩)) w := by kernel_rfl
variable (h : w.cell? ⟨l, 0, none⟩ = some (.pointer (some ⟨s, 0, none⟩)))
include h
theorem m_lock : (method 289 28 (.pointer (some ⟨l, 0, none⟩)) "Lock").run Try.prog w = .ok (18, .pointer (some ⟨s, 0, none⟩)) w := by
  have e : (method 289 28 (.pointer (some ⟨l, 0, none⟩)) "Lock").run Try.prog w = (do let v ← loadVar 34 ⟨l, 0, none⟩; pure (18, v) : Sem (FuncId × Value)).run Try.prog w := by kernel_rfl
  rw [e]; simp [loadVar, h]
theorem m_unlock : (method 289 28 (.pointer (some ⟨l, 0, none⟩)) "Unlock").run Try.prog w = .ok (19, .pointer (some ⟨s, 0, none⟩)) w := by
  have e : (method 289 28 (.pointer (some ⟨l, 0, none⟩)) "Unlock").run Try.prog w = (do let v ← loadVar 34 ⟨l, 0, none⟩; pure (19, v) : Sem (FuncId × Value)).run Try.prog w := by kernel_rfl
  rw [e]; simp [loadVar, h]
theorem m_probe : (method 289 28 (.pointer (some ⟨l, 0, none⟩)) "Probe").run Try.prog w = .ok (102, .pointer (some ⟨s, 0, none⟩)) w := by
  have e : (method 289 28 (.pointer (some ⟨l, 0, none⟩)) "Probe").run Try.prog w = (do let v ← loadVar 34 ⟨l, 0, none⟩; pure (102, v) : Sem (FuncId × Value)).run Try.prog w := by kernel_rfl
  rw [e]; simp [loadVar, h]
theorem m_state : (method 289 28 (.pointer (some ⟨l, 0, none⟩)) "State").run Try.prog w = .ok (21, .pointer (some ⟨s, 0, none⟩)) w := by
  have e : (method 289 28 (.pointer (some ⟨l, 0, none⟩)) "State").run Try.prog w = (do let v ← loadVar 34 ⟨l, 0, none⟩; pure (21, v) : Sem (FuncId × Value)).run Try.prog w := by kernel_rfl
  rw [e]; simp [loadVar, h]
theorem m_len : (method 289 28 (.pointer (some ⟨l, 0, none⟩)) "Len").run Try.prog w = .ok (15, .pointer (some ⟨s, 0, none⟩)) w := by
  have e : (method 289 28 (.pointer (some ⟨l, 0, none⟩)) "Len").run Try.prog w = (do let v ← loadVar 34 ⟨l, 0, none⟩; pure (15, v) : Sem (FuncId × Value)).run Try.prog w := by kernel_rfl
  rw [e]; simp [loadVar, h]
end

/-- What a step tells: the event; whether it got its place in the queue, its node did, its node's time began. -/
abbrev Did := Int × Bool × Bool × Bool
def didv (d : Did) : Value := .agg #[.int .i64 d.1, .bool d.2.1, .bool d.2.2.1, .bool d.2.2.2]
/-- A lock over its port, as objects: of the state st, behind b accesses. -/
structure Mach {σ : Type} (l s : Nat) (td pd : Bool) (ft : Nat → Prop) (n : Nat) (seats : σ → List (Int × Int)) (setS : σ → List (Int × Int) → σ) (step : σ → Int → Int → Int → Did × σ) (O : World → Nat → σ → Prop) : Prop where
  keep : ∀ {w w' : World} {b : Nat} {st : σ} {T : Nat → Prop}, O w b st → Upd T w w' → (∀ i, ft i → ¬ T i) → O w' b st
  ptr : ∀ {w : World} {b : Nat} {st : σ}, O w b st → w.cell? ⟨l, 0, none⟩ = some (.pointer (some ⟨s, 0, none⟩))
  lt : ∀ {w : World} {b : Nat} {st : σ}, O w b st → ∀ i, ft i → i < w.heap.size
  len : ∀ {w : World} {b : Nat} {st : σ}, O w b st → (seats st).length = n
  get : ∀ (st : σ) x, seats (setS st x) = x
  lockC : ∀ {w : World} {b : Nat} {st : σ}, O w b st → ∀ t d : Int, Calls Try.prog 18 #[.pointer (some ⟨s, 0, none⟩), .int .i64 t, .int .i64 d] w fun e w' =>
    e = .returned (.int .i64 (lock (seats st) td t d).1) ∧ O w' b (setS st (lock (seats st) td t d).2) ∧ Upd ft w w'
  unlockC : ∀ {w : World} {b : Nat} {st : σ}, O w b st → ∀ t : Int, Calls Try.prog 19 #[.pointer (some ⟨s, 0, none⟩), .int .i64 t] w fun e w' =>
    e = .returned (.int .i64 (turn (seats st) t 3).1) ∧ O w' b (setS st (turn (seats st) t 3).2) ∧ Upd ft w w'
  probeC : ∀ {w : World} {b : Nat} {st : σ}, O w b st → ∀ t : Int, Calls Try.prog 102 #[.pointer (some ⟨s, 0, none⟩), .int .i64 t] w fun e w' =>
    e = .returned (.int .i64 (probe (seats st) pd t).1) ∧ O w' b (setS st (probe (seats st) pd t).2) ∧ Upd ft w w'
  stateC : ∀ {w : World} {b : Nat} {st : σ}, O w b st → ∀ t : Int, Calls Try.prog 21 #[.pointer (some ⟨s, 0, none⟩), .int .i64 t] w fun e w' => e = .returned (.int .i64 (state (seats st) t)) ∧ w = w'
  lenC : ∀ {w : World} {b : Nat} {st : σ}, O w b st → Calls Try.prog 15 #[.pointer (some ⟨s, 0, none⟩)] w fun e w' => e = .returned (.int .i64 n) ∧ w = w'
  stepC : ∀ {w : World} {b : Nat} {st : σ}, O w b st → b < 1000000 → ∀ t a now : Int, Calls Try.prog 20 #[.pointer (some ⟨l, 0, none⟩), .int .i64 t, .int .i64 a, .int .i64 now] w fun e w' =>
    e = .returned (didv (step st t a now).1) ∧ O w' (b + 1) (step st t a now).2 ∧ Upd ft w w'
end Go.Proofs.Ytlkpfdboagjaoaa.Mach
