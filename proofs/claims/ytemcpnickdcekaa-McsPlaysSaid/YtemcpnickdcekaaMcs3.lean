/- Package mcs: New; the lock as the laws take it. -/
import Derived.Test.YtemcpnickdcekaaMcs2
import Derived.Test.YtemcpnickdcekaaLk
namespace Go.Proofs.Ytemcpnickdcekaa.Mcs
open Go Go.RowKit Go.Proofs.Ytemcpnickdcekaa.Heap Go.Proofs.Ytemcpnickdcekaa.Open Go.Proofs.Ytemcpnickdcekaa.Seat Go.Proofs.Ytemcpnickdcekaa.Mach Go.Proofs.Ytemcpnickdcekaa.Has Go.Proofs.Ytemcpnickdcekaa.StepU Go.Proofs.Ytemcpnickdcekaa.Lk
variable {l s lb pb p : Nat} {SP : Nat → Prop} {k : Nat} {hs : List Int} {tl : Int}

def setS (st : St) (x : List (Int × Int)) : St := { st with seats := x }
theorem step_len (st : St) (t a now : Int) : (step k tl st t a now).2.seats.length = st.seats.length := by
  show (fin (midS k tl st t a).2.seats t (midS k tl st t a).1.1).2.length = _
  rw [fin_len]
  unfold midS
  (repeat' split)
  · rw [(lockS_len st _ a).1]
  · exact congrArg List.length (unlS_len st _ a).1
  all_goals rfl
theorem mach (n : Nat) (h64 : n ≤ 64) : Mach l s false true (ft l s lb pb SP) n St.seats setS (fun st t a now => step k tl st t a now) (fun w b st => O l s lb pb p SP k hs tl w b st ∧ st.seats.length = n) where
  keep := fun h hu hd => ⟨h.1.keep hu hd, h.2⟩
  ptr := fun h => h.1.at_.top.cell (i := 0) rfl
  lt := fun h => h.1.lt
  len := fun h => h.2
  get := fun _ _ => rfl
  lockC := fun {w b st} h t d => (lock_all w s lb st.seats false true h.1.at_.seat t d).mono fun e w' ⟨he, ha, hu⟩ =>
    ⟨he, ⟨h.1.seats _ (lock_len _ _ _ _) ha hu, (lock_len _ _ _ _).trans h.2⟩, hu.mono fun i _ e => by rw [e]; simp [ft]⟩
  unlockC := fun {w b st} h t => (unlock_all w s lb st.seats false true h.1.at_.seat t).mono fun e w' ⟨he, ha, hu⟩ =>
    ⟨he, ⟨h.1.seats _ (turn_len _ _ _) ha hu, (turn_len _ _ _).trans h.2⟩, hu.mono fun i _ e => by rw [e]; simp [ft]⟩
  probeC := fun {w b st} h t => (probe_all w s lb st.seats false true h.1.at_.seat t).mono fun e w' ⟨he, ha, hu⟩ =>
    ⟨he, ⟨h.1.seats _ (probe_len _ _ _) ha hu, (probe_len _ _ _).trans h.2⟩, hu.mono fun i _ e => by rw [e]; simp [ft]⟩
  stateC := fun {w b st} h t => state_all w s lb st.seats false true h.1.at_.seat t
  lenC := fun {w b st} h => (len_all w s lb st.seats false true h.1.at_.seat).mono fun e w' ⟨he, hw⟩ => ⟨by rw [he, h.2], hw⟩
  stepC := fun {w b st} h hb t a now => (stepC h.1 hb (by rw [h.2]; exact h64) t a now).mono fun e w' ⟨he, ho, hu⟩ => ⟨he, ⟨ho, (step_len _ _ _ _).trans h.2⟩, hu⟩
theorem new_no (w : World) (pl : Nat) (v : Value) (hs : List Int) (h : Src1 w v .i64 hs) (hl : hs.length ≤ 100000) (hn : hs.length < 1 ∨ 64 < hs.length ∨ Mem.homesOk hs = false) :
    Calls Try.prog 10 #[.pointer (some ⟨pl, 0, none⟩), v] w fun e w' => e = .returned (.tuple #[.pointer none, .int .i64 1]) ∧ Below w.heap.size w w' := by
  have hsrc := h
  obtain ⟨a, c, rfl, -, -⟩ := h
  by_cases c1 : hs.length < 1 ∨ 64 < hs.length
  · have HN := Lib.hid (Seat.new_no w (hs.length : Int) false true (by omega))
    clear hn c1
    go_enter Try.func10, Try.ntmps10
    go_wp2_with (go_at_call 27; refine HN.out.mono ?_; rintro e w' ⟨rfl, rfl⟩)
    all_goals
      go_ret2
      exact ⟨rfl, Below.refl _ _⟩
  · have hb : Mem.homesOk hs = false := by rcases hn with h | h | h; exact absurd (.inl h) c1; exact absurd (.inr h) c1; exact h
    have HN := Lib.hid (Seat.new_yes w hs.length false true (by omega) (by omega))
    clear hn c1
    go_enter Try.func10, Try.ntmps10
    go_wp2_with fail
    refine HN.out.mono ?_
    rintro e w1 ⟨s, lb, rfl, hat, h1, h2, hB⟩
    have KB := badC w1 _ hs (hsrc.below hB) (by omega)
    rw [hb] at KB
    have HB := Lib.hid KB
    clear KB hb
    go_wp2_with (go_at_call 28; refine HB.out.mono ?_; rintro e w' ⟨rfl, rfl⟩)
    all_goals
      go_ret2
      exact ⟨rfl, hB⟩
theorem info_place : (Try.prog.info? 106).map (fun i => (i.zero, i.size, i.bytes)) = some (some (.agg #[.int .i64 0, .int .u32 0]), 2, 16) := by kernel_rfl
theorem made2 (n : Nat) : (madeCells #[Value.int .i64 0, Value.int .u32 0] (n * 2)).toList = cells2 (List.replicate n (0, 0)) := by
  apply List.ext_getElem?
  intro i
  by_cases hi : i < n * 2
  · have ht : i / 2 < (List.replicate n ((0 : Int), (0 : Int))).length := by simp; omega
    have hg : (List.replicate n ((0 : Int), (0 : Int))).getD (i / 2) (0, 0) = (0, 0) := by
      rw [List.getD, List.getElem?_replicate]; split <;> rfl
    have e0 := cells2_0 _ (i / 2) ht
    have e1 := cells2_1 _ (i / 2) ht
    rw [hg] at e0 e1
    rcases (show i % 2 = 0 ∨ i % 2 = 1 by omega) with h | h
    · rw [show i / 2 * 2 = i by omega] at e0
      rw [e0]; simp [madeCells, hi, h]
    · rw [show i / 2 * 2 + 1 = i by omega] at e1
      rw [e1]; simp [madeCells, hi, h]
  · rw [List.getElem?_eq_none (by simp [madeCells]; omega), List.getElem?_eq_none (by rw [cells2_len]; simp; omega)]
theorem run_make_places (n : Nat) (hn : n ≤ 64) (W : World) : (Instr.makeSlice 36 (.int .i64 (n : Int)) (.int .i64 (n : Int))).run Try.prog W = .ok (.slice (some ⟨W.heap.size, 0, none⟩) n n) (W.alloc (.cells (madeCells #[Value.int .i64 0, Value.int .u32 0] (n * 2)) 106)) := by
  obtain ⟨i, hi, hz0, hz1, hz2⟩ := info_parts info_place
  have hr := run_make (P := Try.prog) W 36 106 i _ Try.underlying36 hi hz0 .i64 .i64 n n (by omega) (Int.le_refl _) (by rw [hz2]; omega) (by omega)
  simp only [Int.toNat_natCast, hz1] at hr
  exact hr
theorem zeros_ok (n : Nat) : Ok (List.replicate n (0, 0)) := fun t _ => by
  have : (List.replicate n ((0 : Int), (0 : Int))).getD t (0, 0) = (0, 0) := by
    rw [List.getD, List.getElem?_replicate]; split <;> rfl
  rw [this]; exact ⟨by decide, by decide⟩
/-- The homes of a new lock's nexts and lockeds. -/
def twice : List Int → List Int
  | [] => []
  | h :: r => h :: h :: twice r
theorem twice_append (l r : List Int) : twice (l ++ r) = twice l ++ twice r := by
  induction l with
  | nil => rfl
  | cons x r ih => simp [twice, ih]
theorem twice_len (l : List Int) : (twice l).length = 2 * l.length := by
  induction l with
  | nil => rfl
  | cons x r ih => simp [twice, ih]; omega
def st0 (n : Nat) (ws : List Int) : St := ⟨List.replicate n (0, -1), List.replicate n (0, 0), ws, []⟩
set_option maxHeartbeats 4000000 in
theorem new_yes (w : World) (pl : Nat) (S : Nat → Prop) (kt : Int) (hs0 xs0 : List Int) (hp : Plan.O w pl S kt hs0 xs0) (hx : xs0.length ≤ 1000) (v : Value) (hs : List Int) (h : Src1 w v .i64 hs) (n1 : 1 ≤ hs.length) (n2 : hs.length ≤ 64) (hok : Mem.homesOk hs = true)
    (hvS : ∀ b, v.ownBlock = some b → ¬ S b) :
    Calls Try.prog 10 #[.pointer (some ⟨pl, 0, none⟩), v] w fun e w' => ∃ l s lb pb, e = .returned (.tuple #[.pointer (some ⟨l, 0, none⟩), .int .i64 0]) ∧
      At w' l s lb pb (.pointer none) xs0.length (List.replicate hs.length (0, -1)) (List.replicate hs.length (0, 0)) ∧
      (∃ S', Plan.O w' pl S' kt (hs0 ++ [hs.getD 0 0] ++ twice hs) (xs0 ++ [0] ++ List.replicate (2 * hs.length) 0) ∧ (∀ b, S' b → S b ∨ w.heap.size ≤ b) ∧ ¬ S' l ∧ ¬ S' s ∧ ¬ S' lb ∧ ¬ S' pb) ∧
      w.heap.size ≤ l ∧ w.heap.size ≤ s ∧ w.heap.size ≤ lb ∧ w.heap.size ≤ pb ∧ Upd S w w' := by
  have hsrc := h
  obtain ⟨a, c, rfl, -, hcell⟩ := h
  obtain ⟨hb, off, rfl, hbw, hcell⟩ := hcell (by omega)
  have c0 := hcell 0 (by omega)
  obtain ⟨y, hy⟩ : ∃ y, hs.getD 0 0 = y := ⟨_, rfl⟩
  rw [hy] at c0 ⊢
  have hvS := hvS hb rfl
  have HN := Lib.hid (Seat.new_yes w hs.length false true n1 n2)
  have HC := Lib.hid hcell
  have n3 : (0 : Int) < hs.length := by omega
  have hmk := run_make_places hs.length n2
  clear hcell hy
  go_enter Try.func10, Try.ntmps10
  go_wp2_with fail
  refine HN.out.mono ?_
  rintro e w1 ⟨s, lb, rfl, hat, hs1, hs2, hB⟩
  have KB := badC w1 _ hs (hsrc.below hB) (by omega)
  rw [hok] at KB
  have HB := Lib.hid KB
  have hp1 := hp.below hB
  have c1 : w1.cell? ⟨hb, off, none⟩ = some (.int .i64 y) := (hB.cell (p := ⟨hb, off + 0, none⟩) hbw).trans c0
  have hz1 := hB.size
  have hplt0 := hp.lt
  have hsw := hat.top.lt
  have hlw := hat.row.lt
  have hbw1 : hb < w1.heap.size := by omega
  have HKW := Lib.hid (fun (wz : World) (hz : Plan.O wz pl S kt hs0 xs0) => Plan.wordPl wz pl S kt hs0 xs0 hz (by omega) y 0)
  have c1a : ∀ o, (w1.alloc o).cell? ⟨hb, off, none⟩ = some (.int .i64 y) := fun o => cell_upd ((Upd.refl (fun _ => False) w1).alloc o) c1 id
  clear KB hok c0 hsrc
  go_wp2_with (go_at_call 28; refine HB.out.mono ?_; rintro e w' ⟨rfl, rfl⟩)
  have nS : ∀ i, w.heap.size ≤ i → ¬ S i := fun i hi h => by have := hplt0 i h; omega
  have fin1 : ∀ (wz : World) (l pb : Nat) (S1 : Nat → Prop), l = wz.heap.size → Plan.O wz pl S1 kt (hs0 ++ [y]) (xs0 ++ [0]) → Seat.At wz s lb (List.replicate hs.length (0, -1)) false true → Upd S w wz → Row wz pb (cells2 (List.replicate hs.length (0, 0))) → (∀ b, S1 b → S b ∨ w1.heap.size ≤ b) → ¬ S1 pb → w1.heap.size ≤ pb →
      At (wz.alloc (.cells #[.pointer (some ⟨s, 0, none⟩), .pointer none, .int .i64 xs0.length, .slice (some ⟨pb, 0, none⟩) hs.length hs.length] 38)) l s lb pb (.pointer none) xs0.length (List.replicate hs.length (0, -1)) (List.replicate hs.length (0, 0)) ∧
      Plan.O (wz.alloc (.cells #[.pointer (some ⟨s, 0, none⟩), .pointer none, .int .i64 xs0.length, .slice (some ⟨pb, 0, none⟩) hs.length hs.length] 38)) pl S1 kt (hs0 ++ [y]) (xs0 ++ [0]) ∧ (∀ b, S1 b → S b ∨ w.heap.size ≤ b) ∧ ¬ S1 l ∧ ¬ S1 s ∧ ¬ S1 lb ∧ ¬ S1 pb ∧ w.heap.size ≤ l ∧ w.heap.size ≤ pb ∧ Upd S w (wz.alloc (.cells #[.pointer (some ⟨s, 0, none⟩), .pointer none, .int .i64 xs0.length, .slice (some ⟨pb, 0, none⟩) hs.length hs.length] 38)) := by
    rintro wz l pb S1 rfl ho ha hu hr hS h1 h2
    have hl := ho.lt
    have hpz := hr.lt
    have hsz := ha.top.lt
    have hlz := ha.row.lt
    have hzz := hu.size
    have no : ∀ i, w.heap.size ≤ i → i < w1.heap.size → ¬ S1 i := fun i hi hj h => by rcases hS i h with h | h; exact nS i hi h; omega
    exact ⟨⟨by simpa using Row.new' rfl, ha.alloc _, hr.alloc _, by simp, ⟨by omega, by omega, by omega⟩, ⟨by omega, by omega⟩, zeros_ok _, by omega⟩, ho.alloc _, fun b hb => by rcases hS b hb with h | h; exact .inl h; exact .inr (by omega), fun h => by have := hl _ h; omega, no s hs1 hsw, no lb hs2 hlw, h1, hzz, by omega, hu.alloc _⟩
  have fin2 : ∀ (wz : World) (S1 : Nat → Prop), Plan.O wz pl S1 kt (hs0 ++ [y]) (xs0 ++ [0]) → Upd S (w1.alloc (.cells (madeCells #[Value.int .i64 0, Value.int .u32 0] (hs.length * 2)) 106)).drew wz → (∀ b, S1 b → S b ∨ (w1.alloc (.cells (madeCells #[Value.int .i64 0, Value.int .u32 0] (hs.length * 2)) 106)).drew.heap.size ≤ b) → _ := fun wz S1 ho hu hS => by
    have hz : (w1.alloc (.cells (madeCells #[Value.int .i64 0, Value.int .u32 0] (hs.length * 2)) 106)).drew.heap.size = w1.heap.size + 1 := by show (w1.alloc _).heap.size = _; simp
    rw [hz] at hS
    have u0 : Upd (fun _ => False) w1 (w1.alloc (.cells (madeCells #[Value.int .i64 0, Value.int .u32 0] (hs.length * 2)) 106)).drew := ((Upd.refl _ w1).alloc _).drew
    exact fin1 wz wz.heap.size w1.heap.size S1 rfl ho ((hat.upd u0 id id).upd hu (nS s hs1) (nS lb hs2)) ((Upd.of_below hB).trans ((u0.mono fun _ _ z => z.elim).trans hu)) ((by rw [← made2]; exact (Row.new' rfl).drew : Row (w1.alloc (.cells (madeCells #[Value.int .i64 0, Value.int .u32 0] (hs.length * 2)) 106)).drew w1.heap.size (cells2 (List.replicate hs.length (0, 0)))).upd hu (nS _ hz1)) (fun b hb => by rcases hS b hb with h | h; exact .inl h; exact .inr (by omega)) (fun h => by rcases hS _ h with h | h; exact nS _ hz1 h; omega) (Nat.le_refl _)
  have HFIN2 := Lib.hid fin2
  have fin3 : ∀ (wz : World) (S1 : Nat → Prop), Plan.O wz pl S1 kt (hs0 ++ [y]) (xs0 ++ [0]) → Upd S w1.drew wz → (∀ b, S1 b → S b ∨ w1.drew.heap.size ≤ b) → _ := fun wz S1 ho hu hS => by
    have hz : w1.drew.heap.size = w1.heap.size := rfl
    rw [hz] at hS
    have hzz := hu.size
    rw [hz] at hzz
    have u0 : Upd (fun _ => False) w1 w1.drew := (Upd.refl _ w1).drew
    exact fin1 (wz.alloc (.cells (madeCells #[Value.int .i64 0, Value.int .u32 0] (hs.length * 2)) 106)) (wz.heap.size + 1) wz.heap.size S1 (by simp) (ho.alloc _) (((hat.upd u0 id id).upd hu (nS s hs1) (nS lb hs2)).alloc _) (((Upd.of_below hB).trans ((u0.mono fun _ _ z => z.elim).trans hu)).alloc _) (by rw [← made2]; exact Row.new' rfl) hS (fun h => by have := ho.lt _ h; omega) hzz
  have HFIN3 := Lib.hid fin3
  clear nS fin1 fin2 fin3
  go_cut [8] from 11 to 34 (fun s8 wx => ∃ l pb S1, s8 = .pointer (some ⟨l, 0, none⟩) ∧ At wx l s lb pb (.pointer none) xs0.length (List.replicate hs.length (0, -1)) (List.replicate hs.length (0, 0)) ∧ Plan.O wx pl S1 kt (hs0 ++ [y]) (xs0 ++ [0]) ∧ (∀ b, S1 b → S b ∨ w.heap.size ≤ b) ∧ ¬ S1 l ∧ ¬ S1 s ∧ ¬ S1 lb ∧ ¬ S1 pb ∧ w.heap.size ≤ l ∧ w.heap.size ≤ pb ∧ Upd S w wx)
  case first =>
    go_upto_region 4 with (fail)
    go_region_with ((first | (go_at_call 30; refine (HKW.out _ ?_).mono ?_; (first | exact hp1.drewN 1 | exact (hp1.drewN 1).alloc _ | exact (hp1.alloc _).drewN 1); rintro e w2 ⟨rfl, S1, hp2, hu2, hS1⟩)))
    all_goals
      go_wp2_with fail
      go_meet
      case rel => first
        | exact ⟨_, _, S1, rfl, HFIN3.out _ S1 hp2 hu2 hS1⟩
        | exact ⟨_, _, S1, rfl, HFIN2.out _ S1 hp2 hu2 hS1⟩
  case rest =>
    obtain ⟨l, pb, S1, rfl, hA, hp2, hS1, q1, q2, q3, q4, hl1, hl2, hup⟩ := hcut
    obtain ⟨w2, hw2⟩ : ∃ w2, wc = w2 := ⟨_, rfl⟩
    rw [hw2] at hA hp2 hup ⊢
    clear hw2 hmk HFIN3 HFIN2 HN HB HKW c1a hat
    go_wp2_with fail
    go_loopw [36] (fun i wr => ∃ j : Nat, j ≤ hs.length ∧ i = .int .i64 j ∧ ∃ S3, Plan.O wr pl S3 kt (hs0 ++ [y] ++ twice (hs.take j)) (xs0 ++ [0] ++ List.replicate (2 * j) 0) ∧ (∀ b, S3 b → S b ∨ w.heap.size ≤ b) ∧ ¬ S3 l ∧ ¬ S3 s ∧ ¬ S3 lb ∧ ¬ S3 pb ∧ At wr l s lb pb (.pointer none) xs0.length (List.replicate hs.length (0, -1)) (List.replicate hs.length (0, 0)) ∧ Upd S w wr) (fun i _ => hs.length - (intOf i).toNat)
    case atStart => exact ⟨0, Nat.zero_le _, rfl, S1, by simpa [twice] using hp2, hS1, q1, q2, q3, q4, hA, hup⟩
    case round =>
      obtain ⟨j, hj, rfl, S3, hpo, hS3, q1, q2, q3, q4, hA', hup'⟩ := hrel
      by_cases hlt : j < hs.length
      · have cj := cell_upd hup' (HC.out j hlt) hvS
        obtain ⟨x, hx⟩ : ∃ x, hs.getD j 0 = x := ⟨_, rfl⟩
        rw [hx] at cj
        have HX := Lib.hid hx
        have KW := Plan.rowPl wr pl S3 kt _ _ hpo (by simp; omega) 2 x 0
        have HKW := Lib.hid KW
        have hlt' : (j : Int) < (hs.length : Int) := by omega
        have l1 := hA'.top.lt
        have l2 := hA'.seat.top.lt
        have l3 := hA'.seat.row.lt
        have l4 := hA'.plc.lt
        clear hx KW hp2 hA hup hpo
        go_wp2_with fail
        refine HKW.out.mono ?_
        rintro e w5 ⟨rfl, S4, hp5, hu5, hS4⟩
        have hz5 := hu5.size
        have A5 := hA'.keep hu5 q1 q2 q3 q4
        have up5 : Upd S w w5 := hup'.then hu5 (fun i hi e => by rcases hS3 i e with h | h; exact h; omega)
        have hzw := hup'.size
        go_wp2_with fail
        go_round
        case rel =>
          refine ⟨j + 1, by omega, by go_num, S4, ?_, ?_, ?_, ?_, ?_, ?_, A5, up5⟩
          · have e1 : hs.take (j + 1) = hs.take j ++ [x] := by rw [List.take_succ_eq_append_getElem hlt, ← HX.out, getD_lt _ _ _ hlt]
            have e2 : List.replicate (2 * (j + 1)) (0 : Int) = List.replicate (2 * j) 0 ++ [0, 0] := by
              rw [show 2 * (j + 1) = 2 * j + 2 by omega, ← List.replicate_append_replicate]; rfl
            rw [e1, e2, twice_append, ← List.append_assoc, ← List.append_assoc]
            exact hp5
          · intro b hb
            rcases hS4 b hb with h | h
            · exact hS3 b h
            · exact .inr (by omega)
          · intro h; rcases hS4 _ h with h | h; exact q1 h; omega
          · intro h; rcases hS4 _ h with h | h; exact q2 h; omega
          · intro h; rcases hS4 _ h with h | h; exact q3 h; omega
          · intro h; rcases hS4 _ h with h | h; exact q4 h; omega
        case measure => simp [intOf]; omega
      · obtain rfl : j = hs.length := by omega
        clear hp2 hA hup
        go_wp2_with fail
        go_ret2
        exact ⟨l, s, lb, pb, rfl, hA', ⟨S3, by simpa using hpo, hS3, q1, q2, q3, q4⟩, hl1, hs1, hs2, hl2, hup'⟩
end Go.Proofs.Ytemcpnickdcekaa.Mcs
