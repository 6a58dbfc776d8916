/- Package mem: what each function does to a memory that is known whole. -/
import Derived.Test.YtlkpfdboagjaoaaProg
import Derived.Test.YtlkpfdboagjaoaaArr
import Derived.Test.YtlkpfdboagjaoaaVec
import Derived.BigQuiet
import Derived.Lib.Hide
import Derived.Deep.QuietTactic
import Derived.Lib.SliceRun
import Derived.Laws.LoneSync
namespace Go.Proofs.Ytlkpfdboagjaoaa.Mem
open Go Go.RowKit Go.Proofs.Ytlkpfdboagjaoaa.Heap

/-- A memory: its block, that of its words, and its homes. -/
structure At (w : World) (m wb : Nat) (hv : Value) (ws hs : List Int) : Prop where
  top : Row w m [.slice (some ⟨wb, 0, none⟩) ws.length ws.length, hv]
  words : Row w wb (ints .u32 ws)
  homes : w.ownsRow 0 3 1 hv hs.length (ints .i64 hs)
  len : hs.length = ws.length
  ne : m ≠ wb
  ne1 : hv.ownBlock ≠ some m
  ne2 : hv.ownBlock ≠ some wb

theorem At.upd {S : Nat → Prop} {w w' : World} {m wb : Nat} {hv : Value} {ws hs : List Int} (h : At w m wb hv ws hs) (hu : Upd S w w') (h1 : ¬ S m) (h2 : ¬ S wb) (h3 : ∀ b, hv.ownBlock = some b → ¬ S b) : At w' m wb hv ws hs :=
  ⟨h.top.upd hu h1, h.words.upd hu h2, own_upd h.homes hu h3, h.len, h.ne, h.ne1, h.ne2⟩
theorem At.alloc {w : World} {m wb : Nat} {hv : Value} {ws hs : List Int} (h : At w m wb hv ws hs) (o : Obj) : At (w.alloc o) m wb hv ws hs := ⟨h.top.alloc o, h.words.alloc o, h.homes.alloc o, h.len, h.ne, h.ne1, h.ne2⟩
theorem At.drewN {w : World} {m wb : Nat} {hv : Value} {ws hs : List Int} (h : At w m wb hv ws hs) (n : Nat) : At (w.drewN n) m wb hv ws hs := ⟨h.top, h.words, h.homes, h.len, h.ne, h.ne1, h.ne2⟩
theorem At.set {w : World} {m wb : Nat} {hv : Value} {ws hs : List Int} (h : At w m wb hv ws hs) (a : Nat) (x : Int) : At (w.setCell ⟨wb, a, none⟩ (.int .u32 x)) m wb hv (ws.set a x) hs := by
  refine ⟨by simpa using h.top.set_ne h.ne a _, by rw [ints_set]; exact h.words.set a _, own_upd h.homes (Upd.one _ _ _ _) (fun b hb e => h.ne2 (by rw [hb, e])), by simpa using h.len, h.ne, h.ne1, h.ne2⟩

theorem at_in (w : World) (m wb : Nat) (hv : Value) (ws hs : List Int) (h : At w m wb hv ws hs) (a : Nat) (ha : a < ws.length) :
    Calls Try.prog 47 #[.pointer (some ⟨m, 0, none⟩), .int .i64 a] w fun e w' => e = .returned (.pointer (some ⟨wb, a, none⟩)) ∧ w = w' := by
  have h0 := h.top.cell (i := 0) rfl
  have ha' : (a : Int) < ws.length := by omega
  clear h
  go_enter Try.func47, Try.ntmps47
  go_wp2
  go_ret
  exact ⟨rfl, rfl⟩
theorem at_out (w : World) (m wb : Nat) (hv : Value) (ws hs : List Int) (h : At w m wb hv ws hs) (a : Int) (ha : a < 0 ∨ (ws.length : Int) ≤ a) :
    Calls Try.prog 47 #[.pointer (some ⟨m, 0, none⟩), .int .i64 a] w fun e w' => e = .returned (.pointer none) ∧ w = w' := by
  have h0 := h.top.cell (i := 0) rfl
  clear h
  rcases ha with ha | ha
  · go_enter Try.func47, Try.ntmps47
    go_wp2
    go_ret
    exact ⟨rfl, rfl⟩
  · have hp : 0 ≤ a := by omega
    go_enter Try.func47, Try.ntmps47
    go_wp2
    go_ret
    exact ⟨rfl, rfl⟩
theorem run_call_swap {P : Program} {f : FuncId} {fn : Func} (hf : P.funcs[f]? = some fn) (hname : (fn.name == "runtime.NumGoroutine") = false) (hb : fn.body.isNone = true) (hn : Extern.findNext fn = none) (k : IntKind)
    (he : Extern.find fn = some (Extern.Atomic.swapT (.int k))) {a : Addr} {x y : Int} {w : World} (hc : w.cell? a = some (.int k x)) (hz : w.frozen? a = false) :
    (callFunc f #[.pointer (some a), .int k y]).run P w = .ok (.value (.int k x)) (w.setCell a (.int k y)) := by
  rw [run_callFunc_extern hf hname hb hn he]
  change (Sem.run P (do
    let a' ← asAddr (.pointer (some a))
    let old ← Extern.Atomic.read (.int k) a'
    store a' (.int k y) .atomic
    pure old) w).andThen _ = _
  simp [Extern.Atomic.read, asAddr, hc, hz, run_store P w a (.int k y) .atomic rfl, Result.andThen]

theorem load_in (w : World) (m wb : Nat) (hv : Value) (ws hs : List Int) (h : At w m wb hv ws hs) (a : Nat) (ha : a < ws.length) :
    Calls Try.prog 75 #[.pointer (some ⟨m, 0, none⟩), .int .i64 a] w fun e w' => e = .returned (.int .u32 (ws.getD a 0)) ∧ w = w' := by
  have c0 := h.words.cell (ints_get (k := .u32) ha)
  obtain ⟨y, hy⟩ : ∃ y, ws.getD a 0 = y := ⟨_, rfl⟩
  rw [hy] at c0 ⊢
  clear hy
  have L := run_call_load (P := Try.prog) Try.func61 (by kernel_rfl) (by kernel_rfl) (by kernel_rfl) .u32 (by kernel_rfl) c0
  go_enter Try.func75, Try.ntmps75
  go_wp2_with fail
  refine (at_in _ _ _ _ _ _ h a ha).mono ?_
  rintro e w' ⟨rfl, rfl⟩
  go_wp2
  go_ret
  exact ⟨rfl, rfl⟩
theorem load_out (w : World) (m wb : Nat) (hv : Value) (ws hs : List Int) (h : At w m wb hv ws hs) (a : Int) (ha : a < 0 ∨ (ws.length : Int) ≤ a) :
    Calls Try.prog 75 #[.pointer (some ⟨m, 0, none⟩), .int .i64 a] w fun e w' => e = .returned (.int .u32 0) ∧ w = w' := by
  go_enter Try.func75, Try.ntmps75
  go_wp2_with fail
  refine (at_out _ _ _ _ _ _ h a ha).mono ?_
  rintro e w' ⟨rfl, rfl⟩
  go_wp2
  go_ret
  exact ⟨rfl, rfl⟩
theorem store_in (w : World) (m wb : Nat) (hv : Value) (ws hs : List Int) (h : At w m wb hv ws hs) (a : Nat) (ha : a < ws.length) (x : Int) :
    Calls Try.prog 71 #[.pointer (some ⟨m, 0, none⟩), .int .i64 a, .int .u32 x] w fun e w' => e = .returned (.tuple #[]) ∧ At w' m wb hv (ws.set a x) hs ∧ Upd (fun k => k = wb) w w' := by
  have c0 := h.words.cell (ints_get (k := .u32) ha)
  have L := run_call_store (P := Try.prog) Try.func82 (by kernel_rfl) (by kernel_rfl) (by kernel_rfl) (by kernel_rfl) (k := .u32) (y := x) c0 (h.words.frozen a)
  go_enter Try.func71, Try.ntmps71
  go_wp2_with fail
  refine (at_in _ _ _ _ _ _ h a ha).mono ?_
  rintro e w' ⟨rfl, rfl⟩
  go_wp2
  go_end0
  go_wp2
  go_end0
  exact ⟨rfl, h.set a x, Upd.one _ _ _ _⟩
theorem swap_in (w : World) (m wb : Nat) (hv : Value) (ws hs : List Int) (h : At w m wb hv ws hs) (a : Nat) (ha : a < ws.length) (x : Int) :
    Calls Try.prog 74 #[.pointer (some ⟨m, 0, none⟩), .int .i64 a, .int .u32 x] w fun e w' => e = .returned (.int .u32 (ws.getD a 0)) ∧ At w' m wb hv (ws.set a x) hs ∧ Upd (fun k => k = wb) w w' := by
  have c0 := h.words.cell (ints_get (k := .u32) ha)
  obtain ⟨y, hy⟩ : ∃ y, ws.getD a 0 = y := ⟨_, rfl⟩
  rw [hy] at c0 ⊢
  clear hy
  have L := run_call_swap (P := Try.prog) Try.func84 (by kernel_rfl) (by kernel_rfl) (by kernel_rfl) .u32 (by kernel_rfl) (y := x) c0 (h.words.frozen a)
  go_enter Try.func74, Try.ntmps74
  go_wp2_with fail
  refine (at_in _ _ _ _ _ _ h a ha).mono ?_
  rintro e w' ⟨rfl, rfl⟩
  go_wp2
  go_ret
  exact ⟨rfl, h.set a x, Upd.one _ _ _ _⟩
theorem wrapU (x : Int) : IntKind.u32.wrap x = x % 4294967296 := by simp [IntKind.wrap, IntKind.signed, IntKind.bits]
theorem ret_int {k : IntKind} {a b : Int} (h : a = b) : Ending.returned (.int k a) = .returned (.int k b) := by rw [h]
theorem cas_in (w : World) (m wb : Nat) (hv : Value) (ws hs : List Int) (h : At w m wb hv ws hs) (a : Nat) (ha : a < ws.length) (o x : Int) :
    Calls Try.prog 76 #[.pointer (some ⟨m, 0, none⟩), .int .i64 a, .int .u32 o, .int .u32 x] w fun e w' => e = .returned (.bool (ws.getD a 0 == o)) ∧ At w' m wb hv (if ws.getD a 0 = o then ws.set a x else ws) hs ∧ Upd (fun k => k = wb) w w' := by
  have c0 := h.words.cell (ints_get (k := .u32) ha)
  obtain ⟨y, hy⟩ : ∃ y, ws.getD a 0 = y := ⟨_, rfl⟩
  rw [hy] at c0 ⊢
  clear hy
  by_cases e : y = o
  · subst e
    rw [if_pos rfl]
    have L := run_call_cas_hit (P := Try.prog) Try.func85 (by kernel_rfl) (by kernel_rfl) (by kernel_rfl) .u32 (by kernel_rfl) (y := x) c0 (h.words.frozen a)
    go_enter Try.func76, Try.ntmps76
    go_wp2_with fail
    refine (at_in _ _ _ _ _ _ h a ha).mono ?_
    rintro e w' ⟨rfl, rfl⟩
    go_wp2
    go_ret
    exact ⟨by simp, h.set a x, Upd.one _ _ _ _⟩
  · rw [if_neg e]
    have L := run_call_cas_miss (P := Try.prog) Try.func85 (by kernel_rfl) (by kernel_rfl) (by kernel_rfl) .u32 (by kernel_rfl) (y := x) c0 (h.words.frozen a) e
    have E : (y == o) = false := by simpa using e
    have HE := Lib.hid E
    clear E e
    go_enter Try.func76, Try.ntmps76
    go_wp2_with fail
    refine (at_in _ _ _ _ _ _ h a ha).mono ?_
    rintro e w' ⟨rfl, rfl⟩
    go_wp2
    go_ret
    exact ⟨by rw [HE.out]; rfl, h, Upd.refl _ _⟩
theorem store_out (w : World) (m wb : Nat) (hv : Value) (ws hs : List Int) (h : At w m wb hv ws hs) (a : Int) (ha : a < 0 ∨ (ws.length : Int) ≤ a) (x : Int) :
    Calls Try.prog 71 #[.pointer (some ⟨m, 0, none⟩), .int .i64 a, .int .u32 x] w fun e w' => e = .returned (.tuple #[]) ∧ w = w' := by
  go_enter Try.func71, Try.ntmps71
  go_wp2_with fail
  refine (at_out _ _ _ _ _ _ h a ha).mono ?_
  rintro e w' ⟨rfl, rfl⟩
  go_wp2
  go_end0
  exact ⟨rfl, rfl⟩
theorem swap_out (w : World) (m wb : Nat) (hv : Value) (ws hs : List Int) (h : At w m wb hv ws hs) (a : Int) (ha : a < 0 ∨ (ws.length : Int) ≤ a) (x : Int) :
    Calls Try.prog 74 #[.pointer (some ⟨m, 0, none⟩), .int .i64 a, .int .u32 x] w fun e w' => e = .returned (.int .u32 0) ∧ w = w' := by
  go_enter Try.func74, Try.ntmps74
  go_wp2_with fail
  refine (at_out _ _ _ _ _ _ h a ha).mono ?_
  rintro e w' ⟨rfl, rfl⟩
  go_wp2
  go_ret
  exact ⟨rfl, rfl⟩
theorem cas_out (w : World) (m wb : Nat) (hv : Value) (ws hs : List Int) (h : At w m wb hv ws hs) (a : Int) (ha : a < 0 ∨ (ws.length : Int) ≤ a) (o x : Int) :
    Calls Try.prog 76 #[.pointer (some ⟨m, 0, none⟩), .int .i64 a, .int .u32 o, .int .u32 x] w fun e w' => e = .returned (.bool false) ∧ w = w' := by
  go_enter Try.func76, Try.ntmps76
  go_wp2_with fail
  refine (at_out _ _ _ _ _ _ h a ha).mono ?_
  rintro e w' ⟨rfl, rfl⟩
  go_wp2
  go_ret
  exact ⟨rfl, rfl⟩
theorem len_all (w : World) (m wb : Nat) (hv : Value) (ws hs : List Int) (h : At w m wb hv ws hs) :
    Calls Try.prog 67 #[.pointer (some ⟨m, 0, none⟩)] w fun e w' => e = .returned (.int .i64 ws.length) ∧ w = w' := by
  have h0 := h.top.cell (i := 0) rfl
  clear h
  go_enter Try.func67, Try.ntmps67
  go_wp2
  go_ret
  exact ⟨rfl, rfl⟩
end Go.Proofs.Ytlkpfdboagjaoaa.Mem
