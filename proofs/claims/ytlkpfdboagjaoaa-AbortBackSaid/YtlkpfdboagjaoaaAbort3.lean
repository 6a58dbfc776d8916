/- Package abort: New; the lock as the laws take it. -/
import Derived.Test.YtlkpfdboagjaoaaAbort2
import Derived.Test.YtlkpfdboagjaoaaLk
namespace Go.Proofs.Ytlkpfdboagjaoaa.Abort
open Go Go.RowKit Go.Proofs.Ytlkpfdboagjaoaa.Heap Go.Proofs.Ytlkpfdboagjaoaa.Open Go.Proofs.Ytlkpfdboagjaoaa.Seat Go.Proofs.Ytlkpfdboagjaoaa.Mach Go.Proofs.Ytlkpfdboagjaoaa.Has Go.Proofs.Ytlkpfdboagjaoaa.StepU Go.Proofs.Ytlkpfdboagjaoaa.Lk Go.Proofs.Ytlkpfdboagjaoaa.Cells
variable {l s lb pb cap q p c : Nat} {SP SQ : Nat → Prop} {k : Nat} {hs : List Int} {tl : Int}

def setS (st : St) (x : List (Int × Int)) : St := { st with seats := x }
theorem mach (n : Nat) : Mach l s true false (ft l s lb pb SP SQ) n St.seats setS (fun st t a now => step k tl c st t a now) (fun w b st => O l s lb pb cap q SQ c p SP k hs tl w b st ∧ RR c st.pls ∧ st.seats.length = n) where
  keep := fun h hu hd => ⟨h.1.keep hu hd, h.2⟩
  ptr := fun h => h.1.at_.top.cell (i := 0) rfl
  lt := fun h => h.1.lt
  len := fun h => h.2.2
  get := fun _ _ => rfl
  lockC := fun {w b st} h t d => (lock_all w s lb st.seats true false h.1.at_.seat t d).mono fun e w' ⟨he, ha, hu⟩ =>
    ⟨he, ⟨h.1.seats _ (lock_len _ _ _ _) ha hu, h.2.1, (lock_len _ _ _ _).trans h.2.2⟩, hu.mono fun i _ e => by rw [e]; simp [ft, fa]⟩
  unlockC := fun {w b st} h t => (unlock_all w s lb st.seats true false h.1.at_.seat t).mono fun e w' ⟨he, ha, hu⟩ =>
    ⟨he, ⟨h.1.seats _ (turn_len _ _ _) ha hu, h.2.1, (turn_len _ _ _).trans h.2.2⟩, hu.mono fun i _ e => by rw [e]; simp [ft, fa]⟩
  probeC := fun {w b st} h t => (probe_all w s lb st.seats true false h.1.at_.seat t).mono fun e w' ⟨he, ha, hu⟩ =>
    ⟨he, ⟨h.1.seats _ (probe_len _ _ _) ha hu, h.2.1, (probe_len _ _ _).trans h.2.2⟩, hu.mono fun i _ e => by rw [e]; simp [ft, fa]⟩
  stateC := fun {w b st} h t => state_all w s lb st.seats true false h.1.at_.seat t
  lenC := fun {w b st} h => (len_all w s lb st.seats true false h.1.at_.seat).mono fun e w' ⟨he, hw⟩ => ⟨by rw [he, h.2.2], hw⟩
  stepC := fun {w b st} h hb t a now => (stepC h.1 h.2.1 hb t a now).mono fun e w' ⟨he, ho, hu⟩ => ⟨he, ⟨ho, step_rr h.2.1 h.1.at_.c8.1 h.1.at_.l1 t a now, (step_seats_len st t a now).trans h.2.2⟩, hu⟩
theorem new_no (w : World) (pl : Nat) (v : Value) (hs : List Int) (n : Int) (h : Src1 w v .i64 hs) (hl : hs.length ≤ 100000) (hn : hs.length < 1 ∨ 64 < hs.length ∨ Mem.homesOk hs = false) :
    Calls Try.prog 12 #[.pointer (some ⟨pl, 0, none⟩), v, .int .i64 n] w fun e w' => e = .returned (.tuple #[.pointer none, .int .i64 1]) ∧ Below w.heap.size w w' := by
  have hsrc := h
  obtain ⟨a, c, rfl, -, -⟩ := h
  by_cases c1 : hs.length < 1 ∨ 64 < hs.length
  · have HN := Lib.hid (Seat.new_no w (hs.length : Int) true false (by omega))
    clear hn c1
    go_enter Try.func12, Try.ntmps12
    go_wp2_with (go_at_call 31; refine HN.out.mono ?_; rintro e w' ⟨rfl, rfl⟩)
    all_goals
      go_ret2
      exact ⟨rfl, Below.refl _ _⟩
  · have hb : Mem.homesOk hs = false := by rcases hn with h | h | h; exact absurd (.inl h) c1; exact absurd (.inr h) c1; exact h
    have HN := Lib.hid (Seat.new_yes w hs.length true false (by omega) (by omega))
    clear hn c1
    go_enter Try.func12, Try.ntmps12
    go_wp2_with fail
    refine HN.out.mono ?_
    rintro e w1 ⟨s, lb, rfl, hat, h1, h2, hB⟩
    have KB := badC w1 _ hs (hsrc.below hB) (by omega)
    rw [hb] at KB
    have HB := Lib.hid KB
    clear KB hb
    go_wp2_with (go_at_call 32; refine HB.out.mono ?_; rintro e w' ⟨rfl, rfl⟩)
    all_goals
      go_ret2
      exact ⟨rfl, hB⟩
/-- Numbers of nodes that may not be. -/
theorem new_cfg (w : World) (pl : Nat) (v : Value) (hs : List Int) (n : Int) (h : Src1 w v .i64 hs) (n1 : 1 ≤ hs.length) (n2 : hs.length ≤ 64) (hok : Mem.homesOk hs = true) (hn : n < 1 ∨ 8 < n) :
    Calls Try.prog 12 #[.pointer (some ⟨pl, 0, none⟩), v, .int .i64 n] w fun e w' => e = .returned (.tuple #[.pointer none, .int .i64 7]) ∧ Below w.heap.size w w' := by
  have hsrc := h
  obtain ⟨a, c, rfl, -, -⟩ := h
  have HN := Lib.hid (Seat.new_yes w hs.length true false n1 n2)
  have HP := Lib.hid (fun w' : World => Pool.new_no w' (hs.length : Int) n (by omega))
  clear hn
  go_enter Try.func12, Try.ntmps12
  go_wp2_with fail
  refine HN.out.mono ?_
  rintro e w1 ⟨s, lb, rfl, hat, h1, h2, hB⟩
  have KB := badC w1 _ hs (hsrc.below hB) (by omega)
  rw [hok] at KB
  have HB := Lib.hid KB
  clear KB hok
  go_wp2_with (go_at_call 32; refine HB.out.mono ?_; rintro e w' ⟨rfl, rfl⟩)
  refine (HP.out _).mono ?_
  rintro e w' ⟨rfl, rfl⟩
  go_wp2_with fail
  go_ret2
  exact ⟨rfl, hB⟩
theorem info_place : (Try.prog.info? 91).map (fun i => (i.zero, i.size, i.bytes)) = some (some (.agg #[.int .i64 0, .int .i64 0, .int .i64 0, .int .i64 0]), 4, 32) := by kernel_rfl
theorem made4 (n : Nat) : (madeCells #[Value.int .i64 0, Value.int .i64 0, Value.int .i64 0, Value.int .i64 0] (n * 4)).toList = pcells (List.replicate n p0) := by
  apply List.ext_getElem?
  intro i
  by_cases hi : i < n * 4
  · have hg : (List.replicate n p0).getD (i / 4) p0 = p0 := by
      rw [List.getD, List.getElem?_replicate]; split <;> rfl
    have e := co_get pcell 4 pcell_len p0 (List.replicate n p0) (i / 4) (i % 4) (by simp; omega) (by omega)
    rw [hg, show i / 4 * 4 + i % 4 = i by omega] at e
    rw [show pcells (List.replicate n p0) = cellsOf pcell (List.replicate n p0) from rfl, e]
    rcases (show i % 4 = 0 ∨ i % 4 = 1 ∨ i % 4 = 2 ∨ i % 4 = 3 by omega) with h | h | h | h <;> simp [madeCells, hi, h, pcell, p0]
  · rw [List.getElem?_eq_none (by simp [madeCells]; omega), List.getElem?_eq_none (by rw [show pcells (List.replicate n p0) = cellsOf pcell (List.replicate n p0) from rfl, co_len pcell 4 pcell_len]; simp; omega)]
theorem run_make_places (n : Nat) (hn : n ≤ 64) (W : World) : (Instr.makeSlice 37 (.int .i64 (n : Int)) (.int .i64 (n : Int))).run Try.prog W = .ok (.slice (some ⟨W.heap.size, 0, none⟩) n n) (W.alloc (.cells (madeCells #[Value.int .i64 0, Value.int .i64 0, Value.int .i64 0, Value.int .i64 0] (n * 4)) 91)) := by
  obtain ⟨i, hi, hz0, hz1, hz2⟩ := info_parts info_place
  have hr := run_make (P := Try.prog) W 37 91 i _ Try.underlying37 hi hz0 .i64 .i64 n n (by omega) (Int.le_refl _) (by rw [hz2]; omega) (by omega)
  simp only [Int.toNat_natCast, hz1] at hr
  exact hr
theorem zeros_ok (n : Nat) : Ok (List.replicate n p0) := fun t _ => by
  have : (List.replicate n p0).getD t p0 = p0 := by
    rw [List.getD, List.getElem?_replicate]; split <;> rfl
  rw [this]; exact ⟨by decide, by decide, by decide, by decide⟩
theorem zeros_rr (n : Nat) (hc : 1 ≤ c) : RR c (List.replicate n p0) := fun t _ _ => by
  have : (List.replicate n p0).getD t p0 = p0 := by
    rw [List.getD, List.getElem?_replicate]; split <;> rfl
  rw [this]; show (0 : Int) < (c : Int); omega
/-- The homes of the nodes' words. -/
def nodeH (c : Nat) (hs : List Int) : List Int := hs.flatMap fun h => List.replicate (3 * c) h
theorem nodeH_len (c : Nat) (hs : List Int) : (nodeH c hs).length = hs.length * (3 * c) := by
  unfold nodeH
  generalize 3 * c = m
  induction hs with
  | nil => simp
  | cons x r ih => rw [List.flatMap_cons, List.length_append, ih, List.length_replicate, List.length_cons, Nat.add_one_mul, Nat.add_comm]
theorem nodeH_snoc (c : Nat) (hs : List Int) (x : Int) : nodeH c (hs ++ [x]) = nodeH c hs ++ List.replicate (3 * c) x := by simp [nodeH]
theorem rep_next (j m : Nat) (z : Int) : List.replicate ((j + 1) * m) z = List.replicate (j * m) z ++ List.replicate m z := by rw [Nat.succ_mul, List.replicate_append_replicate]
def st0 (n : Nat) (ws : List Int) : St := ⟨List.replicate n (0, -1), List.replicate n p0, ws, []⟩
/-- Where New stands behind its making. -/
structure Pre (pl : Nat) (S : Nat → Prop) (kt : Int) (hh xx : List Int) (n c : Nat) (tl0 : Int) (l s lb pb q : Nat) (SQ : Nat → Prop) (w0 w : World) (S3 : Nat → Prop) : Prop where
  plan : Plan.O w pl S3 kt hh xx
  sub : ∀ b, S3 b → S b ∨ w0.heap.size ≤ b
  no : ∀ i, fa l s lb pb SQ i → ¬ S3 i
  at_ : At w l s lb pb n q SQ c (.pointer none) tl0 (List.replicate n (0, -1)) (List.replicate n p0)
  upd : Upd S w0 w
  lo : ∀ i, fa l s lb pb SQ i → w0.heap.size ≤ i
theorem Pre.row {pl n c : Nat} {S S3 S4 : Nat → Prop} {kt tl0 : Int} {hh xx hh' xx' : List Int} {l s lb pb q : Nat} {SQ : Nat → Prop} {w0 w w' : World} (h : Pre pl S kt hh xx n c tl0 l s lb pb q SQ w0 w S3) (hp : Plan.O w' pl S4 kt hh' xx') (hu : Upd S3 w w') (hS : ∀ b, S4 b → S3 b ∨ w.heap.size ≤ b) : Pre pl S kt hh' xx' n c tl0 l s lb pb q SQ w0 w' S4 := by
  have hz := h.upd.size
  refine ⟨hp, fun b hb => ?_, fun i hi e => ?_, h.at_.keep hu h.no, h.upd.then hu (fun i hi e => ?_), h.lo⟩
  · rcases hS b hb with e | e
    · exact h.sub b e
    · exact .inr (by omega)
  · rcases hS i e with e | e
    · exact h.no i hi e
    · have := h.at_.lt i hi; omega
  · rcases h.sub i e with e | e
    · exact e
    · omega
set_option maxHeartbeats 8000000 in
theorem new_yes (w : World) (pl : Nat) (S : Nat → Prop) (kt : Int) (hs0 xs0 : List Int) (hp : Plan.O w pl S kt hs0 xs0) (hx : xs0.length ≤ 1000) (v : Value) (hs : List Int) (c : Nat) (h : Src1 w v .i64 hs) (n1 : 1 ≤ hs.length) (n2 : hs.length ≤ 64) (hok : Mem.homesOk hs = true)
    (hvS : ∀ b, v.ownBlock = some b → ¬ S b) (hc1 : 1 ≤ c) (hc8 : c ≤ 8) :
    Calls Try.prog 12 #[.pointer (some ⟨pl, 0, none⟩), v, .int .i64 (c : Int)] w fun e w' => ∃ l s lb pb q SQ S3, e = .returned (.tuple #[.pointer (some ⟨l, 0, none⟩), .int .i64 0]) ∧
      Pre pl S kt (hs0 ++ [hs.getD 0 0] ++ nodeH c hs) (xs0 ++ [0] ++ List.replicate (hs.length * (3 * c)) 0) hs.length c xs0.length l s lb pb q SQ w w' S3 := by
  have hsrc := h
  obtain ⟨a, cv, rfl, -, hcell⟩ := h
  obtain ⟨hb, off, rfl, hbw, hcell⟩ := hcell (by omega)
  have c0 := hcell 0 (by omega)
  obtain ⟨y, hy⟩ : ∃ y, hs.getD 0 0 = y := ⟨_, rfl⟩
  rw [hy] at c0 ⊢
  have hvS := hvS hb rfl
  have HN := Lib.hid (Seat.new_yes w hs.length true false n1 n2)
  have HQ := Lib.hid (fun w' : World => Pool.new_yes w' hs.length c n1 n2 hc1 hc8)
  have HC := Lib.hid hcell
  have n3 : (0 : Int) < hs.length := by omega
  have hmk := run_make_places hs.length n2
  have h3c : IntKind.i64.wrap (3 * (c : Int)) = ((3 * c : Nat) : Int) := by push_cast; exact IntWalk.i64_in _ (by omega)
  clear hcell hy
  go_enter Try.func12, Try.ntmps12
  go_wp2_with fail
  refine HN.out.mono ?_
  rintro e w1 ⟨s, lb, rfl, hat, hs1, hs2, hB⟩
  have KB := badC w1 _ hs (hsrc.below hB) (by omega)
  rw [hok] at KB
  have HB := Lib.hid KB
  have hz1 := hB.size
  have hsw := hat.top.lt
  have hlw := hat.row.lt
  clear KB hok hsrc
  go_wp2_with (go_at_call 32; refine HB.out.mono ?_; rintro e w' ⟨rfl, rfl⟩)
  refine (HQ.out _).mono ?_
  rintro e w2 ⟨q, rfl, hpool, hB2⟩
  have hz2 := hB2.size
  have hB3 := hB.trans (hB2.mono hz1)
  have hp2 := hp.below hB3
  have hat2 := hat.upd (Upd.of_below (S := fun _ => False) hB2) id id
  have c1 : w2.cell? ⟨hb, off, none⟩ = some (.int .i64 y) := (hB3.cell (p := ⟨hb, off + 0, none⟩) hbw).trans c0
  have HKW : Hid (∀ w' : World, Plan.O w' pl S kt hs0 xs0 → Calls Try.prog 35 #[.pointer (some ⟨pl, 0, none⟩), .int .i64 y, .int .u32 0] w' fun e w'' => e = .returned (.int .i64 xs0.length) ∧ ∃ S', Plan.O w'' pl S' kt (hs0 ++ [y]) (xs0 ++ [0]) ∧ Upd S w' w'' ∧ (∀ b, S' b → S b ∨ w'.heap.size ≤ b)) := Lib.hid fun w' hp' => Plan.wordPl w' pl S kt hs0 xs0 hp' (by omega) y 0
  have hplt := hp.lt
  have hlen : ∀ {w'' : World} {S' : Nat → Prop}, Plan.O w'' pl S' kt (hs0 ++ [y]) (xs0 ++ [0]) → (xs0.length : Int) ≤ 100000 := fun _ => by omega
  have fin : ∀ (w5 : World) (pb : Nat) (S1 : Nat → Prop), Plan.O w5 pl S1 kt (hs0 ++ [y]) (xs0 ++ [0]) → Upd S w w5 → (∀ b, S1 b → S b ∨ w.heap.size ≤ b) → (∀ i, (w.heap.size ≤ i ∧ i < w2.heap.size) ∨ i = pb → ¬ S1 i) → w2.heap.size ≤ pb →
      Seat.At w5 s lb (List.replicate hs.length (0, -1)) true false → Pool.O w5 q (fun b => w1.heap.size ≤ b ∧ b < w2.heap.size) (Pool.newRows hs.length c (hs.length * c)) (List.replicate (1 + hs.length * c) false) → Row w5 pb (pcells (List.replicate hs.length p0)) →
      Pre pl S kt (hs0 ++ [y]) (xs0 ++ [0]) hs.length c xs0.length w5.heap.size s lb pb q (fun b => w1.heap.size ≤ b ∧ b < w2.heap.size) w (w5.alloc (.cells #[.pointer (some ⟨s, 0, none⟩), .pointer none, .pointer (some ⟨q, 0, none⟩), .int .i64 xs0.length, .slice (some ⟨pb, 0, none⟩) hs.length hs.length] 39)) S1 := by
    intro w5 pb S1 k1 k2 k3 k4 k5 k6 k7 k8
    have k9 := k8.lt
    have k10 := k1.lt
    refine ⟨k1.alloc _, k3, ?_, ⟨by simpa using Row.new' rfl, k6.alloc _, k8.toP.alloc _, by simpa using k7.alloc _, by simp, ⟨by omega, by omega, by omega⟩, ⟨by omega, by omega⟩, ⟨by omega, by omega, by omega, by omega⟩, zeros_ok _, by omega, ⟨hc1, hc8⟩⟩, k2.alloc _, ?_⟩
    · intro i hi e
      rcases hi with hi | rfl | rfl | rfl | rfl
      · exact k4 i (.inl ⟨by omega, hi.2⟩) e
      · have := k10 _ e; omega
      · exact k4 _ (.inl ⟨by omega, by omega⟩) e
      · exact k4 _ (.inl ⟨by omega, by omega⟩) e
      · exact k4 _ (.inr rfl) e
    · intro i hi
      rcases hi with hi | rfl | rfl | rfl | rfl <;> omega
  have FIN := Lib.hid fin
  have hat2d := hat2.upd ((Upd.refl (fun _ => False) w2).drewN 1) id id
  have hpoold := hpool.drewN 1
  have hp2d := hp2.keep ((Upd.refl (fun _ => False) w2).drewN 1) (fun _ _ => id)
  have hup2d : Upd S w (w2.drewN 1) := (Upd.of_below hB3).drewN 1
  have hzd : (w2.drewN 1).heap.size = w2.heap.size := rfl
  have hzd' : w2.drew.heap.size = w2.heap.size := rfl
  clear HB HN HQ hB hat hat2 hpool hp2 fin hlen
  go_wp2_with fail
  have n3n : 0 < hs.length := by omega
  have n4' : decide (0 < hs.length) = true := by simpa using n3n
  have c1d : w2.drew.cell? ⟨hb, off, none⟩ = some (.int .i64 y) := c1
  have c1a : (w2.drew.alloc (.cells (madeCells #[Value.int .i64 0, Value.int .i64 0, Value.int .i64 0, Value.int .i64 0] (hs.length * 4)) 91)).cell? ⟨hb, off, none⟩ = some (.int .i64 y) := cell_upd ((Upd.refl (fun _ => False) w2.drew).alloc _) c1d id
  have hpd : Plan.O w2.drew pl S kt hs0 xs0 := hp2d
  have KW1 := HKW.out _ hpd
  have KW2 := HKW.out _ (hpd.alloc (.cells (madeCells #[Value.int .i64 0, Value.int .i64 0, Value.int .i64 0, Value.int .i64 0] (hs.length * 4)) 91))
  have HK1 := Lib.hid KW1
  have HK2 := Lib.hid KW2
  clear KW1 KW2 HKW
  have nS : ∀ i, w.heap.size ≤ i → ¬ S i := fun i hi h => by have := hplt i h; omega
  go_region_held3 (fun w' => w'.cell? ⟨hb, off, none⟩ = some (.int .i64 y)) ((first | exact c1d | exact c1a | exact e3 | exact cell_upd ((Upd.refl (fun _ => False) _).alloc _) e3 id | exact cell_upd (((Upd.refl (fun _ => False) _).alloc _).alloc _) e3 id | exact cell_upd ((Upd.refl (fun _ => False) _).alloc _) c1d id))
    ((go_at_call 35; first | (refine HK1.out.mono ?_; rintro e w3 ⟨rfl, S1, hp3, hu3, hS1⟩; have e3 := cell_upd hu3 c1d hvS) | (refine HK2.out.mono ?_; rintro e w3 ⟨rfl, S1, hp3, hu3, hS1⟩; have e3 := cell_upd hu3 c1a hvS)))
  · have P := FIN.out (w3.alloc (.cells (madeCells #[Value.int .i64 0, Value.int .i64 0, Value.int .i64 0, Value.int .i64 0] (hs.length * 4)) 91)) w3.heap.size S1 (hp3.alloc _) ((hup2d.trans hu3).alloc _) (fun b hb => by rcases hS1 b hb with h | h; exact .inl h; exact .inr (by omega)) (fun i hi e => by
      rcases hi with hi | hi
      · rcases hS1 i e with h | h
        · exact nS i hi.1 h
        · omega
      · have := hp3.lt i e; omega) (by have := hu3.size; omega) ((hat2d.upd hu3 (nS _ hs1) (nS _ hs2)).alloc _) ((hpoold.keep hu3 (fun i hi => nS i (by have := hi.1; omega))).alloc _) (by rw [← made4]; exact Row.new' rfl)
    rw [show (w3.alloc (.cells (madeCells #[Value.int .i64 0, Value.int .i64 0, Value.int .i64 0, Value.int .i64 0] (hs.length * 4)) 91)).heap.size = w3.heap.size + 1 by simp] at P
    revert P
    generalize (w3.alloc (.cells (madeCells #[Value.int .i64 0, Value.int .i64 0, Value.int .i64 0, Value.int .i64 0] (hs.length * 4)) 91)).alloc (.cells #[.pointer (some ⟨s, 0, none⟩), .pointer none, .pointer (some ⟨q, 0, none⟩), .int .i64 xs0.length, .slice (some ⟨w3.heap.size, 0, none⟩) hs.length hs.length] 39) = W
    generalize w3.heap.size + 1 = L
    generalize w3.heap.size = pb
    generalize (fun b => w1.heap.size ≤ b ∧ b < w2.heap.size) = SQ
    intro P
    clear FIN HK1 HK2 hp3 hu3 hS1 e3 c1 c1d c1a hp2d hpd hat2d hpoold hup2d hmk
    go_wp2_with fail
    go_loopw [49] (fun i wr => ∃ j : Nat, j ≤ hs.length ∧ i = .int .i64 j ∧ ∃ S3, Pre pl S kt (hs0 ++ [y] ++ nodeH c (hs.take j)) (xs0 ++ [0] ++ List.replicate (j * (3 * c)) 0) hs.length c xs0.length L s lb pb q SQ w wr S3) (fun i _ => hs.length - (intOf i).toNat)
    case atStart => exact ⟨0, Nat.zero_le _, rfl, S1, by simpa [nodeH] using P⟩
    case round =>
      clear P
      obtain ⟨j, hj, rfl, S3, P⟩ := hrel
      by_cases hlt : j < hs.length
      · have cj := cell_upd P.upd (HC.out j hlt) hvS
        obtain ⟨yj, hyj⟩ : ∃ yj, hs.getD j 0 = yj := ⟨_, rfl⟩
        rw [hyj] at cj
        have hjc : j * (3 * c) ≤ 64 * 24 := Nat.mul_le_mul (by omega) (by omega)
        have KW := Plan.rowPl wr pl S3 kt _ _ P.plan (by rw [List.length_append, List.length_append, List.length_replicate, List.length_singleton]; omega) ((3 * c : Nat) : Int) yj 0
        rw [show Plan.cnt ((3 * c : Nat) : Int) = 3 * c by unfold Plan.cnt; omega] at KW
        have HKW := Lib.hid KW
        have HP := Lib.hid P
        have hlt' : (j : Int) < (hs.length : Int) := by omega
        have HY := Lib.hid hyj
        clear KW P hyj
        go_wp2_with fail
        refine HKW.out.mono ?_
        rintro e w5 ⟨rfl, S4, hp5, hu5, hS4⟩
        have P5 := HP.out.row hp5 hu5 hS4
        go_wp2_with fail
        go_round
        case rel =>
          refine ⟨j + 1, by omega, by go_num, S4, ?_⟩
          have e1 : hs.take (j + 1) = hs.take j ++ [yj] := by rw [List.take_succ_eq_append_getElem hlt, ← HY.out, getD_lt _ _ _ hlt]
          rw [e1, nodeH_snoc, rep_next j (3 * c) 0, ← List.append_assoc, ← List.append_assoc]
          exact P5
        case measure => simp [intOf]; omega
      · obtain rfl : j = hs.length := by omega
        rw [List.take_length] at P
        go_wp2_with fail
        go_ret2
        exact ⟨L, s, lb, pb, q, SQ, S3, rfl, P⟩
  · have hsz : (w2.drew.alloc (.cells (madeCells #[Value.int .i64 0, Value.int .i64 0, Value.int .i64 0, Value.int .i64 0] (hs.length * 4)) 91)).heap.size = w2.heap.size + 1 := by simp
    have hrow : Row (w2.drew.alloc (.cells (madeCells #[Value.int .i64 0, Value.int .i64 0, Value.int .i64 0, Value.int .i64 0] (hs.length * 4)) 91)) w2.heap.size (pcells (List.replicate hs.length p0)) := by rw [← made4]; exact Row.new' rfl
    rw [hsz] at hS1
    have hw3 := hu3.size
    rw [hsz] at hw3
    have P := FIN.out w3 w2.heap.size S1 hp3 ((hup2d.alloc _).trans hu3) (fun b hb => by rcases hS1 b hb with h | h; exact .inl h; exact .inr (by omega)) (fun i hi e => by
      rcases hS1 i e with h | h
      · exact nS i (by omega) h
      · omega) (Nat.le_refl _) ((hat2d.alloc _).upd hu3 (nS _ hs1) (nS _ hs2)) ((hpoold.alloc _).keep hu3 (fun i hi => nS i (by have := hi.1; omega))) (hrow.upd hu3 (nS _ (by omega)))
    clear hrow hw3 hsz
    revert P
    generalize w3.alloc (.cells #[.pointer (some ⟨s, 0, none⟩), .pointer none, .pointer (some ⟨q, 0, none⟩), .int .i64 xs0.length, .slice (some ⟨w2.heap.size, 0, none⟩) hs.length hs.length] 39) = W
    generalize w3.heap.size = L
    generalize (fun b => w1.heap.size ≤ b ∧ b < w2.heap.size) = SQ
    generalize w2.heap.size = pb
    intro P
    clear FIN HK1 HK2 hp3 hu3 hS1 e3 c1 c1d c1a hp2d hpd hat2d hpoold hup2d hmk
    go_wp2_with fail
    go_loopw [49] (fun i wr => ∃ j : Nat, j ≤ hs.length ∧ i = .int .i64 j ∧ ∃ S3, Pre pl S kt (hs0 ++ [y] ++ nodeH c (hs.take j)) (xs0 ++ [0] ++ List.replicate (j * (3 * c)) 0) hs.length c xs0.length L s lb pb q SQ w wr S3) (fun i _ => hs.length - (intOf i).toNat)
    case atStart => exact ⟨0, Nat.zero_le _, rfl, S1, by simpa [nodeH] using P⟩
    case round =>
      clear P
      obtain ⟨j, hj, rfl, S3, P⟩ := hrel
      by_cases hlt : j < hs.length
      · have cj := cell_upd P.upd (HC.out j hlt) hvS
        obtain ⟨yj, hyj⟩ : ∃ yj, hs.getD j 0 = yj := ⟨_, rfl⟩
        rw [hyj] at cj
        have hjc : j * (3 * c) ≤ 64 * 24 := Nat.mul_le_mul (by omega) (by omega)
        have KW := Plan.rowPl wr pl S3 kt _ _ P.plan (by rw [List.length_append, List.length_append, List.length_replicate, List.length_singleton]; omega) ((3 * c : Nat) : Int) yj 0
        rw [show Plan.cnt ((3 * c : Nat) : Int) = 3 * c by unfold Plan.cnt; omega] at KW
        have HKW := Lib.hid KW
        have HP := Lib.hid P
        have hlt' : (j : Int) < (hs.length : Int) := by omega
        have HY := Lib.hid hyj
        clear KW P hyj
        go_wp2_with fail
        refine HKW.out.mono ?_
        rintro e w5 ⟨rfl, S4, hp5, hu5, hS4⟩
        have P5 := HP.out.row hp5 hu5 hS4
        go_wp2_with fail
        go_round
        case rel =>
          refine ⟨j + 1, by omega, by go_num, S4, ?_⟩
          have e1 : hs.take (j + 1) = hs.take j ++ [yj] := by rw [List.take_succ_eq_append_getElem hlt, ← HY.out, getD_lt _ _ _ hlt]
          rw [e1, nodeH_snoc, rep_next j (3 * c) 0, ← List.append_assoc, ← List.append_assoc]
          exact P5
        case measure => simp [intOf]; omega
      · obtain rfl : j = hs.length := by omega
        rw [List.take_length] at P
        go_wp2_with fail
        go_ret2
        exact ⟨L, s, lb, pb, q, SQ, S3, rfl, P⟩
end Go.Proofs.Ytlkpfdboagjaoaa.Abort
