/- Package slots: New; the lock as the laws take it. -/
import Derived.Test.YtamchnaifmoklaaSlots2
import Derived.Test.YtamchnaifmoklaaLk
import Derived.Test.YtamchnaifmoklaaMPk
namespace Go.Proofs.Ytamchnaifmoklaa.Slots
open Go Go.RowKit Go.Proofs.Ytamchnaifmoklaa.Pack Go.Proofs.Ytamchnaifmoklaa.Sizes Go.Proofs.Ytamchnaifmoklaa.Heap Go.Proofs.Ytamchnaifmoklaa.Open Go.Proofs.Ytamchnaifmoklaa.Seat Go.Proofs.Ytamchnaifmoklaa.Mach Go.Proofs.Ytamchnaifmoklaa.Has Go.Proofs.Ytamchnaifmoklaa.StepU Go.Proofs.Ytamchnaifmoklaa.Lk
variable {l s lb pb p : Nat} {SP : Nat → Prop} {k : Nat} {hs : List Int} {tl kn : Int}

def setS (st : St) (x : List (Int × Int)) : St := { st with seats := x }
theorem mach (n : Nat) : Mach l s false false (ft l s lb pb SP) n St.seats setS (fun st t a now => step k tl kn st t a now) (fun w b st => O l s lb pb p SP k hs tl kn w b st ∧ st.seats.length = n) where
  keep := fun h hu hd => ⟨h.1.keep hu hd, h.2⟩
  ptr := fun h => h.1.at_.top.cell (i := 0) rfl
  lt := fun h => h.1.lt
  len := fun h => h.2
  get := fun _ _ => rfl
  lockC := fun {w b st} h t d => (lock_all w s lb st.seats false false h.1.at_.seat t d).mono fun e w' ⟨he, ha, hu⟩ =>
    ⟨he, ⟨h.1.seats _ (lock_len _ _ _ _) ha hu, (lock_len _ _ _ _).trans h.2⟩, hu.mono fun i _ e => by rw [e]; simp [ft]⟩
  unlockC := fun {w b st} h t => (unlock_all w s lb st.seats false false h.1.at_.seat t).mono fun e w' ⟨he, ha, hu⟩ =>
    ⟨he, ⟨h.1.seats _ (turn_len _ _ _) ha hu, (turn_len _ _ _).trans h.2⟩, hu.mono fun i _ e => by rw [e]; simp [ft]⟩
  probeC := fun {w b st} h t => (probe_all w s lb st.seats false false h.1.at_.seat t).mono fun e w' ⟨he, ha, hu⟩ =>
    ⟨he, ⟨h.1.seats _ (probe_len _ _ _) ha hu, (probe_len _ _ _).trans h.2⟩, hu.mono fun i _ e => by rw [e]; simp [ft]⟩
  stateC := fun {w b st} h t => state_all w s lb st.seats false false h.1.at_.seat t
  lenC := fun {w b st} h => (len_all w s lb st.seats false false h.1.at_.seat).mono fun e w' ⟨he, hw⟩ => ⟨by rw [he, h.2], hw⟩
  stepC := fun {w b st} h hb t a now => (stepC h.1 hb t a now).mono fun e w' ⟨he, ho, hu⟩ => ⟨he, ⟨ho, by
    rw [← h.2]
    show (fin (midS k tl kn st t a).2.seats t (midS k tl kn st t a).1.1).2.length = _
    rw [fin_len]
    unfold midS lockS
    dsimp only
    (repeat' split) <;> rfl⟩, hu⟩
theorem new_no (w : World) (pl : Nat) (v : Value) (hs : List Int) (n x : Int) (h : Src1 w v .i64 hs) (hl : hs.length ≤ 100000) (hn : hs.length < 1 ∨ 64 < hs.length ∨ Mem.homesOk hs = false) :
    Calls Try.prog 11 #[.pointer (some ⟨pl, 0, none⟩), v, .int .i64 n, .int .u32 x] w fun e w' => e = .returned (.tuple #[.pointer none, .int .i64 1]) ∧ Below w.heap.size w w' := by
  have hsrc := h
  obtain ⟨a, c, rfl, -, -⟩ := h
  by_cases c1 : hs.length < 1 ∨ 64 < hs.length
  · have HN := Lib.hid (Seat.new_no w (hs.length : Int) false false (by omega))
    clear hn c1
    go_enter Try.func11, Try.ntmps11
    go_wp2_with (go_at_call 32; refine HN.out.mono ?_; rintro e w' ⟨rfl, rfl⟩)
    all_goals
      go_ret2
      exact ⟨rfl, Below.refl _ _⟩
  · have hb : Mem.homesOk hs = false := by rcases hn with h | h | h; exact absurd (.inl h) c1; exact absurd (.inr h) c1; exact h
    have HN := Lib.hid (Seat.new_yes w hs.length false false (by omega) (by omega))
    clear hn c1
    go_enter Try.func11, Try.ntmps11
    go_wp2_with fail
    refine HN.out.mono ?_
    rintro e w1 ⟨s, lb, rfl, hat, h1, h2, hB⟩
    have KB := badC w1 _ hs (hsrc.below hB) (by omega)
    rw [hb] at KB
    have HB := Lib.hid KB
    clear KB hb
    go_wp2_with (go_at_call 33; refine HB.out.mono ?_; rintro e w' ⟨rfl, rfl⟩)
    all_goals
      go_ret2
      exact ⟨rfl, hB⟩
/-- Slots that may not be. -/
theorem new_cfg (w : World) (pl : Nat) (v : Value) (hs : List Int) (n x : Int) (h : Src1 w v .i64 hs) (n1 : 1 ≤ hs.length) (n2 : hs.length ≤ 64) (hok : Mem.homesOk hs = true) (hn : n < hs.length ∨ sizeB n = false) :
    Calls Try.prog 11 #[.pointer (some ⟨pl, 0, none⟩), v, .int .i64 n, .int .u32 x] w fun e w' => e = .returned (.tuple #[.pointer none, .int .i64 7]) ∧ Below w.heap.size w w' := by
  have hsrc := h
  obtain ⟨a, c, rfl, -, -⟩ := h
  have HN := Lib.hid (Seat.new_yes w hs.length false false n1 n2)
  by_cases c1 : n < (hs.length : Int)
  · clear hn
    go_enter Try.func11, Try.ntmps11
    go_wp2_with fail
    refine HN.out.mono ?_
    rintro e w1 ⟨s, lb, rfl, hat, h1, h2, hB⟩
    have KB := badC w1 _ hs (hsrc.below hB) (by omega)
    rw [hok] at KB
    have HB := Lib.hid KB
    clear KB hok
    go_wp2_with (go_at_call 33; refine HB.out.mono ?_; rintro e w' ⟨rfl, rfl⟩)
    all_goals
      go_ret2
      exact ⟨rfl, hB⟩
  · have hs7 : sizeB n = false := hn.resolve_left c1
    have d1 : (hs.length : Int) ≤ n := by omega
    clear hn c1
    go_enter Try.func11, Try.ntmps11
    go_wp2_with fail
    refine HN.out.mono ?_
    rintro e w1 ⟨s, lb, rfl, hat, h1, h2, hB⟩
    have KB := badC w1 _ hs (hsrc.below hB) (by omega)
    rw [hok] at KB
    have HB := Lib.hid KB
    have hz := hB.size
    clear KB hok
    go_wp2_with (go_at_call 33; refine HB.out.mono ?_; rintro e w' ⟨rfl, rfl⟩)
    refine (sizesC _).mono ?_
    rintro e w2 ⟨v2, rfl, hv2, hB2⟩
    have KC := Sl.contains_all w2 v2 szs n hv2 (by decide)
    rw [szs_has, hs7] at KC
    have HC := Lib.hid KC
    clear KC hs7 hv2
    go_wp2_with fail
    refine HC.out.mono ?_
    rintro e w3 ⟨rfl, rfl⟩
    go_wp2_with fail
    go_ret2
    exact ⟨rfl, hB.trans (hB2.mono hz)⟩
theorem info_place : (Try.prog.info? 92).map (fun i => (i.zero, i.size, i.bytes)) = some (some (.agg #[.int .u32 0, .int .i64 0]), 2, 16) := by kernel_rfl
theorem made2 (n : Nat) : (madeCells #[Value.int .u32 0, Value.int .i64 0] (n * 2)).toList = cells2 (List.replicate n (0, 0)) := by
  apply List.ext_getElem?
  intro i
  by_cases hi : i < n * 2
  · have ht : i / 2 < (List.replicate n ((0 : Int), (0 : Int))).length := by simp; omega
    have hg : (List.replicate n ((0 : Int), (0 : Int))).getD (i / 2) (0, 0) = (0, 0) := by
      rw [List.getD, List.getElem?_replicate]; split <;> rfl
    have e0 := cells2_0 _ (i / 2) ht
    have e1 := cells2_1 _ (i / 2) ht
    rw [hg] at e0 e1
    rcases (show i % 2 = 0 ∨ i % 2 = 1 by omega) with h | h
    · rw [show i / 2 * 2 = i by omega] at e0
      rw [e0]; simp [madeCells, hi, h]
    · rw [show i / 2 * 2 + 1 = i by omega] at e1
      rw [e1]; simp [madeCells, hi, h]
  · rw [List.getElem?_eq_none (by simp [madeCells]; omega), List.getElem?_eq_none (by rw [cells2_len]; simp; omega)]
theorem run_make_places (n : Nat) (hn : n ≤ 64) (W : World) : (Instr.makeSlice 37 (.int .i64 (n : Int)) (.int .i64 (n : Int))).run Try.prog W = .ok (.slice (some ⟨W.heap.size, 0, none⟩) n n) (W.alloc (.cells (madeCells #[Value.int .u32 0, Value.int .i64 0] (n * 2)) 92)) := by
  obtain ⟨i, hi, hz0, hz1, hz2⟩ := info_parts info_place
  have hr := run_make (P := Try.prog) W 37 92 i _ Try.underlying37 hi hz0 .i64 .i64 n n (by omega) (Int.le_refl _) (by rw [hz2]; omega) (by omega)
  simp only [Int.toNat_natCast, hz1] at hr
  exact hr
theorem zeros_ok (n : Nat) : Ok (List.replicate n (0, 0)) := fun t _ => by
  have : (List.replicate n ((0 : Int), (0 : Int))).getD t (0, 0) = (0, 0) := by
    rw [List.getD, List.getElem?_replicate]; split <;> rfl
  rw [this]; exact ⟨by decide, .inl rfl⟩
/-- The words of a new lock's slots, and their homes. -/
def flags (kn x : Int) (n : Nat) : List Int := (List.range n).map fun (i : Nat) => if (i : Int) = x % kn then 1 else 0
def homesOf (hs : List Int) (n : Nat) : List Int := (List.range n).map fun i => hs.getD (i % hs.length) 0
theorem flags_next (kn x : Int) (n : Nat) : flags kn x (n + 1) = flags kn x n ++ [if (n : Int) = x % kn then 1 else 0] := by simp [flags, List.range_succ]
theorem homesOf_next (hs : List Int) (n : Nat) : homesOf hs (n + 1) = homesOf hs n ++ [hs.getD (n % hs.length) 0] := by simp [homesOf, List.range_succ]
def st0 (n : Nat) (ws : List Int) : St := ⟨List.replicate n (0, -1), List.replicate n (0, 0), ws, []⟩
set_option maxHeartbeats 4000000 in
theorem new_yes (w : World) (pl : Nat) (S : Nat → Prop) (kt : Int) (hs0 xs0 : List Int) (hp : Plan.O w pl S kt hs0 xs0) (hx : xs0.length ≤ 1000) (v : Value) (hs : List Int) (m : Nat) (x : Int) (x0 : 0 ≤ x ∧ x < 4294967296) (h : Src1 w v .i64 hs) (n1 : 1 ≤ hs.length) (n2 : hs.length ≤ 64) (hok : Mem.homesOk hs = true)
    (hvS : ∀ b, v.ownBlock = some b → ¬ S b) (hm1 : hs.length ≤ m) (hsz : IsSize (m : Int)) :
    Calls Try.prog 11 #[.pointer (some ⟨pl, 0, none⟩), v, .int .i64 (m : Int), .int .u32 x] w fun e w' => ∃ l s lb pb, e = .returned (.tuple #[.pointer (some ⟨l, 0, none⟩), .int .i64 0]) ∧
      At w' l s lb pb (.pointer none) xs0.length m (List.replicate hs.length (0, -1)) (List.replicate hs.length (0, 0)) ∧
      (∃ S', Plan.O w' pl S' kt (hs0 ++ [hs.getD 0 0] ++ homesOf hs m) (xs0 ++ [x] ++ flags m x m) ∧ (∀ b, S' b → S b ∨ w.heap.size ≤ b) ∧ ¬ S' l ∧ ¬ S' s ∧ ¬ S' lb ∧ ¬ S' pb) ∧
      w.heap.size ≤ l ∧ w.heap.size ≤ s ∧ w.heap.size ≤ lb ∧ w.heap.size ≤ pb ∧ Upd S w w' := by
  have hsrc := h
  obtain ⟨a, c, rfl, -, hcell⟩ := h
  obtain ⟨hb, off, rfl, hbw, hcell⟩ := hcell (by omega)
  have c0 := hcell 0 (by omega)
  obtain ⟨y, hy⟩ : ∃ y, hs.getD 0 0 = y := ⟨_, rfl⟩
  rw [hy] at c0 ⊢
  have hvS := hvS hb rfl
  have HN := Lib.hid (Seat.new_yes w hs.length false false n1 n2)
  have HC := Lib.hid hcell
  have n3 : (0 : Int) < hs.length := by omega
  have hm2 : (hs.length : Int) ≤ (m : Int) := by omega
  have hms := size_pos hsz
  have hszb : sizeB (m : Int) = true := (sizeB_iff _).2 hsz
  have HSZ := Lib.hid hsz
  have hmk := run_make_places hs.length n2
  obtain ⟨mi, hmi⟩ : ∃ mi : Int, (m : Int) = mi := ⟨_, rfl⟩
  rw [hmi] at hm2 hms hszb HSZ ⊢
  have HMI := Lib.hid hmi
  clear hcell hy hsz hmi
  go_enter Try.func11, Try.ntmps11
  go_wp2_with fail
  refine HN.out.mono ?_
  rintro e w1 ⟨s, lb, rfl, hat, hs1, hs2, hB⟩
  have KB := badC w1 _ hs (hsrc.below hB) (by omega)
  rw [hok] at KB
  have HB := Lib.hid KB
  have hz1 := hB.size
  have hsw := hat.top.lt
  have hlw := hat.row.lt
  clear KB hok hsrc
  go_wp2_with (go_at_call 33; refine HB.out.mono ?_; rintro e w' ⟨rfl, rfl⟩)
  refine (sizesC _).mono ?_
  rintro e w2 ⟨v2, rfl, hv2, hB2⟩
  have hz2 := hB2.size
  have KC := Sl.contains_all w2 v2 szs mi hv2 (by decide)
  rw [szs_has, hszb] at KC
  have HK := Lib.hid KC
  have hp2 := (hp.below hB).below hB2
  have hBB := hB.trans (hB2.mono hz1)
  have hat2 := hat.upd (Upd.of_below (S := fun _ => False) hB2) id id
  clear KC hszb hv2 hat hB2 hB HN HB
  go_wp2_with fail
  refine HK.out.mono ?_
  rintro e w3 ⟨rfl, rfl⟩
  have z2 : w.heap.size ≤ w2.heap.size := by omega
  have hplt2 := hp2.lt
  have hp3 := (hp2.alloc (.cells (madeCells #[Value.int .u32 0, Value.int .i64 0] (hs.length * 2)) 92)).alloc (.cells #[.pointer (some ⟨s, 0, none⟩), .pointer none, .int .i64 0, .int .i64 mi, .slice (some ⟨w2.heap.size, 0, none⟩) hs.length hs.length] 39)
  have hat3 := (hat2.alloc (.cells (madeCells #[Value.int .u32 0, Value.int .i64 0] (hs.length * 2)) 92)).alloc (.cells #[.pointer (some ⟨s, 0, none⟩), .pointer none, .int .i64 0, .int .i64 mi, .slice (some ⟨w2.heap.size, 0, none⟩) hs.length hs.length] 39)
  have hpl3 : Row ((w2.alloc (.cells (madeCells #[Value.int .u32 0, Value.int .i64 0] (hs.length * 2)) 92)).alloc (.cells #[.pointer (some ⟨s, 0, none⟩), .pointer none, .int .i64 0, .int .i64 mi, .slice (some ⟨w2.heap.size, 0, none⟩) hs.length hs.length] 39)) w2.heap.size (cells2 (List.replicate hs.length (0, 0))) := by
    rw [← made2]; exact (Row.new' rfl).alloc _
  have hrow3 : Row ((w2.alloc (.cells (madeCells #[Value.int .u32 0, Value.int .i64 0] (hs.length * 2)) 92)).alloc (.cells #[.pointer (some ⟨s, 0, none⟩), .pointer none, .int .i64 0, .int .i64 mi, .slice (some ⟨w2.heap.size, 0, none⟩) hs.length hs.length] 39)) (w2.heap.size + 1) [.pointer (some ⟨s, 0, none⟩), .pointer none, .int .i64 0, .int .i64 mi, .slice (some ⟨w2.heap.size, 0, none⟩) hs.length hs.length] := Row.new' (by simp)
  have hup3 : Upd S w ((w2.alloc (.cells (madeCells #[Value.int .u32 0, Value.int .i64 0] (hs.length * 2)) 92)).alloc (.cells #[.pointer (some ⟨s, 0, none⟩), .pointer none, .int .i64 0, .int .i64 mi, .slice (some ⟨w2.heap.size, 0, none⟩) hs.length hs.length] 39)) := ((Upd.of_below hBB).alloc _).alloc _
  go_upto_region 7 with (fail)
  obtain ⟨w3, hw3⟩ : ∃ w3, (w2.alloc (.cells (madeCells #[Value.int .u32 0, Value.int .i64 0] (hs.length * 2)) 92)).alloc (.cells #[.pointer (some ⟨s, 0, none⟩), .pointer none, .int .i64 0, .int .i64 mi, .slice (some ⟨w2.heap.size, 0, none⟩) hs.length hs.length] 39) = w3 := ⟨_, rfl⟩
  have hz3 : w3.heap.size = w2.heap.size + 2 := by rw [← hw3]; simp
  rw [hw3] at hp3 hat3 hpl3 hrow3 hup3 ⊢
  obtain ⟨pb, hpb⟩ : ∃ pb, w2.heap.size = pb := ⟨_, rfl⟩
  rw [hpb] at hpl3 hrow3 hz3 z2 hz2 hplt2 ⊢
  clear hw3 hpb hat2 hp2 hBB HK hmk
  have c3 : w3.cell? ⟨hb, off, none⟩ = some (.int .i64 y) := by
    exact cell_upd hup3 c0 hvS
  have KW := Plan.wordPl _ pl S kt hs0 xs0 hp3 (by omega) y x
  have HKW := Lib.hid KW
  clear KW
  go_wp2_with fail
  refine HKW.out.mono ?_
  rintro e w4 ⟨rfl, S1, hp4, hu4, hS1⟩
  have hz4 := hu4.size
  have hu4' : Upd S w w4 := hup3.trans hu4
  have lS : ∀ i, w.heap.size ≤ i → i < w3.heap.size → ¬ S1 i := fun i hi hj h => by
    rcases hS1 i h with h | h
    · have := hp.lt i h; omega
    · omega
  have l1 := lS s hs1 (by omega)
  have l2 := lS lb hs2 (by omega)
  have l3 := lS pb (by omega) (by omega)
  have l4 := lS (pb + 1) (by omega) (by omega)
  have nS : ∀ i, w.heap.size ≤ i → ¬ S i := fun i hi h => by have := hp.lt i h; omega
  have hrow4 := hrow3.upd hu4 (nS _ (by omega))
  have hat4 := hat3.upd hu4 (nS _ hs1) (nS _ hs2)
  have hpl4 := hpl3.upd hu4 (nS _ (by omega))
  have t2 := hrow4.cell (i := 2) rfl
  have f2 := hrow4.frozen 2
  have U5 := Upd.one w4 (pb + 1) 2 (.int .i64 (xs0.length : Int))
  have hrow5 := hrow4.set 2 (.int .i64 (xs0.length : Int))
  have hat5 := hat4.upd U5 (by omega) (by omega)
  have hpl5 := hpl4.upd U5 (by omega)
  have hp5 := hp4.keep U5 (fun i hi e => l4 (e ▸ hi))
  have hup5 : Upd S w (w4.setCell ⟨pb + 1, 2, none⟩ (.int .i64 (xs0.length : Int))) := hu4'.then U5 (fun i hi e => by omega)
  have hA : At (w4.setCell ⟨pb + 1, 2, none⟩ (.int .i64 (xs0.length : Int))) (pb + 1) s lb pb (.pointer none) xs0.length mi (List.replicate hs.length (0, -1)) (List.replicate hs.length (0, 0)) :=
    ⟨by simpa using hrow5, hat5, hpl5, by simp, ⟨by omega, by omega, by omega⟩, ⟨by omega, by omega⟩, zeros_ok _, by omega, HSZ.out⟩
  have hS1' : ∀ b, S1 b → S b ∨ w.heap.size ≤ b := fun b h => by rcases hS1 b h with h | h; exact .inl h; exact .inr (by omega)
  have hz5 : pb + 2 ≤ (w4.setCell ⟨pb + 1, 2, none⟩ (.int .i64 (xs0.length : Int))).heap.size := by simp; omega
  clear hrow3 hat3 hpl3 hup3 hu4 hu4' hrow4 hat4 hpl4 hrow5 hat5 hpl5 hp4 hp3 c3 lS HKW U5 hS1
  go_wp2_with fail
  go_loopw [54] (fun i wr => ∃ j : Nat, j ≤ m ∧ i = .int .i64 j ∧ ∃ S3, Plan.O wr pl S3 kt (hs0 ++ [y] ++ homesOf hs j) (xs0 ++ [x] ++ flags mi x j) ∧ (∀ b, S3 b → S b ∨ w.heap.size ≤ b) ∧ ¬ S3 (pb + 1) ∧ ¬ S3 s ∧ ¬ S3 lb ∧ ¬ S3 pb ∧ At wr (pb + 1) s lb pb (.pointer none) xs0.length mi (List.replicate hs.length (0, -1)) (List.replicate hs.length (0, 0)) ∧ Upd S w wr ∧ pb + 2 ≤ wr.heap.size) (fun i _ => m - (intOf i).toNat)
  case atStart => exact ⟨0, Nat.zero_le _, rfl, S1, by simpa [homesOf, flags] using hp5, hS1', l4, l1, l2, l3, hA, hup5, hz5⟩
  case round =>
    obtain ⟨j, hj, rfl, S3, hpo, hS3, q1, q2, q3, q4, hA', hup, hz⟩ := hrel
    clear hA hup5 hz5 hp5
    by_cases hlt : j < m
    · have hlt' : (j : Int) < mi := by have := HMI.out; omega
      obtain ⟨q, hq⟩ : ∃ q, j % hs.length = q := ⟨_, rfl⟩
      have hqn : q < hs.length := by rw [← hq]; exact Nat.mod_lt _ (by omega)
      have hmod : Int.tmod (j : Int) (hs.length : Int) = (q : Int) := by
        rw [Int.tmod_eq_emod_of_nonneg (by omega), ← hq]; first | exact (Int.natCast_emod _ _).symm | exact (Int.natCast_mod _ _).symm | rfl
      have hqi : (q : Int) < (hs.length : Int) := by omega
      have hq0 : (0 : Int) ≤ (q : Int) := by omega
      have hn0 : ((hs.length : Int) == 0) = false := by rw [beq_eq_false_iff_ne]; omega
      obtain ⟨yj, hyj⟩ : ∃ yj, hs.getD q 0 = yj := ⟨_, rfl⟩
      have cj := cell_upd hup (HC.out q hqn) hvS
      rw [hyj] at cj
      obtain ⟨r, hr⟩ : ∃ r, x % mi = r := ⟨_, rfl⟩
      have KS := slot_yes x mi wr HSZ.out x0.1 x0.2 r hr.symm
      have HKS := Lib.hid KS
      have EH := Lib.hid (show homesOf hs (j + 1) = homesOf hs j ++ [yj] by rw [homesOf_next, hq, hyj])
      have next : ∀ (v : Int) (wq : World) (S4 : Nat → Prop), flags mi x (j + 1) = flags mi x j ++ [v] → Plan.O wq pl S4 kt (hs0 ++ [y] ++ homesOf hs j ++ [yj]) (xs0 ++ [x] ++ flags mi x j ++ [v]) → Upd S3 wr wq → (∀ b, S4 b → S3 b ∨ wr.heap.size ≤ b) →
          ∃ S3, Plan.O wq pl S3 kt (hs0 ++ [y] ++ homesOf hs (j + 1)) (xs0 ++ [x] ++ flags mi x (j + 1)) ∧ (∀ b, S3 b → S b ∨ w.heap.size ≤ b) ∧ ¬ S3 (pb + 1) ∧ ¬ S3 s ∧ ¬ S3 lb ∧ ¬ S3 pb ∧ At wq (pb + 1) s lb pb (.pointer none) xs0.length mi (List.replicate hs.length (0, -1)) (List.replicate hs.length (0, 0)) ∧ Upd S w wq ∧ pb + 2 ≤ wq.heap.size := by
        intro v wq S4 ev ho hu hS4
        have hzq := hu.size
        have no : ∀ i, ¬ S3 i → i < wr.heap.size → ¬ S4 i := fun i h1 h2 h => by rcases hS4 i h with h | h; exact h1 h; omega
        refine ⟨S4, by rw [EH.out, ev, ← List.append_assoc, ← List.append_assoc]; exact ho, ?_, no _ q1 (by omega), no _ q2 (by omega), no _ q3 (by omega), no _ q4 (by omega), hA'.keep hu q1 q2 q3 q4, ?_, by omega⟩
        · intro b hb
          rcases hS4 b hb with h | h
          · exact hS3 b h
          · exact .inr (by omega)
        · exact hup.then hu (fun i hi e => by rcases hS3 i e with h | h; exact h; omega)
      have HNX := Lib.hid next
      have HPO := Lib.hid hpo
      have hfl : (xs0 ++ [x] ++ flags mi x j).length ≤ 1000000 := by simp [flags]; omega
      by_cases hjr : (j : Int) = r
      · have hjr' : ((j : Int) == r) = true := by simpa using hjr
        have EF := Lib.hid (show flags mi x (j + 1) = flags mi x j ++ [1] by rw [flags_next, hr, if_pos hjr])
        have KW := Plan.wordPl wr pl S3 kt _ _ hpo hfl yj 1
        have HKW := Lib.hid KW
        clear KW KS hpo next hyj hq hr hjr hA'
        go_wp2_with fail
        refine HKS.out.mono ?_
        rintro e w' ⟨rfl, rfl⟩
        go_wp2_with fail
        refine HKW.out.mono ?_
        rintro e w5 ⟨rfl, S4, hp5, hu5, hS4⟩
        have hfin := HNX.out 1 w5 S4 EF.out hp5 hu5 hS4
        go_wp2_with fail
        go_round
        case rel => exact ⟨j + 1, by omega, by go_num, hfin⟩
        case measure => simp [intOf]; omega
      · have hjr' : ((j : Int) == r) = false := by simpa using hjr
        have EF := Lib.hid (show flags mi x (j + 1) = flags mi x j ++ [0] by rw [flags_next, hr, if_neg hjr])
        have KW := Plan.wordPl wr pl S3 kt _ _ hpo hfl yj 0
        have HKW := Lib.hid KW
        clear KW KS hpo next hyj hq hr hjr hA'
        go_wp2_with fail
        refine HKS.out.mono ?_
        rintro e w' ⟨rfl, rfl⟩
        go_wp2_with fail
        refine HKW.out.mono ?_
        rintro e w5 ⟨rfl, S4, hp5, hu5, hS4⟩
        have hfin := HNX.out 0 w5 S4 EF.out hp5 hu5 hS4
        go_wp2_with fail
        go_round
        case rel => exact ⟨j + 1, by omega, by go_num, hfin⟩
        case measure => simp [intOf]; omega
    · obtain rfl : j = m := by omega
      have hge : ¬ (j : Int) < mi := by have := HMI.out; omega
      go_wp2_with fail
      go_ret2
      exact ⟨pb + 1, rfl, s, lb, pb, hA', ⟨S3, by simpa using hpo, hS3, q1, q2, q3, q4⟩, by omega, hs1, hs2, by omega, hup⟩
end Go.Proofs.Ytamchnaifmoklaa.Slots
