/- What the document's lock is, for the laws' Plays; calls of it by the interface; what a step tells, as the document has it. -/
import Derived.Test.YtlkpfdboagjaoaaM09
import Derived.Test.YtlkpfdboagjaoaaM04
import Derived.Test.YtlkpfdboagjaoaaSeatP
namespace Go.Proofs.Ytlkpfdboagjaoaa.Modl
open Go Go.RowKit Go.Proofs.Ytlkpfdboagjaoaa.Heap Go.Proofs.Ytlkpfdboagjaoaa.Open Go.Proofs.Ytlkpfdboagjaoaa.Seat Go.Proofs.Ytlkpfdboagjaoaa.Mach Go.Proofs.Ytlkpfdboagjaoaa.Has Go.Proofs.Ytlkpfdboagjaoaa.Ref09 Go.Proofs.Ytlkpfdboagjaoaa.SeatP

/-- The document's lock as an interface value. -/
def mval (x : Nat) : Value := .iface 67 (.pointer (some ⟨x, 0, none⟩))
section
variable (x : Nat) (w : World)
theorem nil_seats : (nilAhead 289 67 (.pointer (some ⟨x, 0, none⟩)) "Seats").run Try.prog w = .ok (some false) w := by kernel_rfl
theorem nil_mstep : (nilAhead 289 67 (.pointer (some ⟨x, 0, none⟩)) "Step").run Try.prog w = .ok (some false) w := by kernel_rfl
theorem m_seats : (method 289 67 (.pointer (some ⟨x, 0, none⟩)) "Seats").run Try.prog w = .ok (105, .pointer (some ⟨x, 0, none⟩)) w := by kernel_rfl
theorem m_mstep : (method 289 67 (.pointer (some ⟨x, 0, none⟩)) "Step").run Try.prog w = .ok (106, .pointer (some ⟨x, 0, none⟩)) w := by kernel_rfl
end
/-- What a step did, in the document's words. -/
def didm (d : Did) : Value := .agg #[.int .i64 d.1, .int .i64 (b2i d.2.1), .int .i64 (b2i d.2.2.1), .int .i64 (b2i d.2.2.2)]
def dmcells (d : Did) : List Value := [.int .i64 d.1, .int .i64 (b2i d.2.1), .int .i64 (b2i d.2.2.1), .int .i64 (b2i d.2.2.2)]
set_option maxHeartbeats 1000000 in
theorem eq_did (a b c d : Int) (w : World) : (binOp .eql 138 (.agg #[.int .i64 a, .int .i64 b, .int .i64 c, .int .i64 d]) (.agg #[.int .i64 a, .int .i64 b, .int .i64 c, .int .i64 d])).run Try.prog w = .ok (.bool true) w := by
  have hu : Try.prog.underlying 3 = some (.int .i64) := Try.underlying3
  rw [run_eql_struct, run_equalIn_agg w 9999 138 _ _ (by kernel_rfl) (by kernel_rfl)]
  have hd := Try.underlying138
  have he : ∀ (x : Int), (Op.equalIn 9999 3 (.int .i64 x) (.int .i64 x)).run Try.prog w = .ok true w := fun x => by
    rw [run_equalIn_int w 9998 3 .i64 .i64 x x hu, beq_self_eq_true]
  simp [Program.fieldsOf, hd, Op.eqFields, part, isAgg, run_underlying hu, he]
/-- How calls turn seats. -/
def Shift (l l' : List (Int × Int)) : Prop := l' = l ∨ ∃ k, k < l.length ∧ ∃ a d, l' = l.set k (a, d) ∧ ((stt l k = 0 ∧ a = 1) ∨ (stt l k = 2 ∧ (a = 3 ∨ a = 4)))
theorem shift_lock (l : List (Int × Int)) (td : Bool) (t d : Int) : Shift l (lock l td t d).2 := by
  rcases lock_cases l td t d with e | ⟨k, _, hk, h0, e, _⟩
  · exact .inl e
  · exact .inr ⟨k, hk, 1, d, e, .inl ⟨h0, rfl⟩⟩
theorem shift_turn (l : List (Int × Int)) (t : Int) : Shift l (turn l t 3).2 := by
  rcases turn_cases l t 3 with e | ⟨k, _, hk, h0, d, e⟩
  · exact .inl e
  · exact .inr ⟨k, hk, 3, d, e, .inr ⟨h0, .inl rfl⟩⟩
theorem shift_probe (l : List (Int × Int)) (pd : Bool) (t : Int) : Shift l (probe l pd t).2 := by
  rcases probe_cases l pd t with e | ⟨k, _, hk, h0, d, e⟩
  · exact .inl e
  · exact .inr ⟨k, hk, 4, d, e, .inr ⟨h0, .inr rfl⟩⟩
structure Modl {σ : Type} (x sx sb db : Nat) (td pd : Bool) (fm : Nat → Prop) (n : Nat) (seats : σ → List (Int × Int)) (setS : σ → List (Int × Int) → σ) (step : σ → Int → Int → Int → Did × σ) (ws : σ → List Int) (ts : σ → List T) (OM : World → σ → Prop) : Prop where
  keep : ∀ {w w' : World} {st : σ} {U : Nat → Prop}, OM w st → Upd U w w' → (∀ i, fm i → ¬ U i) → OM w' st
  lt : ∀ {w : World} {st : σ}, OM w st → ∀ i, fm i → i < w.heap.size
  seat : ∀ {w : World} {st : σ}, OM w st → RAt w sx sb db (seats st) td pd
  fs : fm sx ∧ fm sb ∧ fm db
  len : ∀ {w : World} {st : σ}, OM w st → (seats st).length = n
  turn : ∀ {w w' : World} {st : σ} {l' : List (Int × Int)}, OM w st → Shift (seats st) l' → RAt w' sx sb db l' td pd → Upd (fun i => i = sb ∨ i = db) w w' → OM w' (setS st l')
  seatsC : ∀ {w : World} {st : σ}, OM w st → Calls Try.prog 105 #[.pointer (some ⟨x, 0, none⟩)] w fun e w' => e = .returned (.pointer (some ⟨sx, 0, none⟩)) ∧ w = w'
  wsS : ∀ (st : σ) l, ws (setS st l) = ws st
  tsS : ∀ (st : σ) l, ts (setS st l) = ts st
  stepC : ∀ {w : World} {st : σ} {y : Nat} {R : Nat → Prop}, OM w st → Ref04.RO w y R n (ws st) (ts st) → (∀ i, R i → ¬ fm i) → (ts st).length < 1000000 → ∀ t now : Int,
    Calls Try.prog 106 #[.pointer (some ⟨x, 0, none⟩), .pointer (some ⟨y, 0, none⟩), .int .i64 t, .int .i64 t, .int .i64 now] w fun e w' =>
      e = .returned (didm (step st t t now).1) ∧ OM w' (step st t t now).2 ∧ ∃ R', Ref04.RO w' y R' n (ws (step st t t now).2) (ts (step st t t now).2) ∧ Upd (fun i => fm i ∨ R i) w w' ∧ ∀ i, R' i → R i ∨ w.heap.size ≤ i
set_option maxHeartbeats 1000000 in
theorem didC (w : World) (d : Did) : Calls Try.prog 65 #[didv d] w fun e w' => e = .returned (didm d) ∧ Below w.heap.size w w' := by
  obtain ⟨ev, b1, b2, b3⟩ := d
  have hb : ∀ (o1 o2 o3 : Obj), Below w.heap.size w (((w.alloc o1).alloc o2).alloc o3) := fun o1 o2 o3 => (((Below.refl _ _).alloc (Nat.le_refl _) _).alloc (by simp) _).alloc (by simp; omega) _
  obtain ⟨d', hd⟩ : ∃ d', didm (ev, b1, b2, b3) = d' := ⟨_, rfl⟩
  rw [hd]
  have HD := Lib.hid hd
  clear hd
  unfold didv
  cases b1 <;> cases b2 <;> cases b3
  all_goals
    go_enter Try.func65, Try.ntmps65
    go_wp2
    refine bodyPost_ret (v := d') (by rw [← HD.out]; simp [results, Try.results65, go_sem, didm, b2i]) rfl ?_
    exact ⟨rfl, hb _ _ _⟩
end Go.Proofs.Ytlkpfdboagjaoaa.Modl
