/- Package hier: New; the lock as the laws take it. -/
import Derived.Test.YtmiidiijhhjabaaHier2
import Derived.Test.YtmiidiijhhjabaaLk
namespace Go.Proofs.Ytmiidiijhhjabaa.Hier
open Go Go.RowKit Go.Proofs.Ytmiidiijhhjabaa.Heap Go.Proofs.Ytmiidiijhhjabaa.Open Go.Proofs.Ytmiidiijhhjabaa.Seat Go.Proofs.Ytmiidiijhhjabaa.Mach Go.Proofs.Ytmiidiijhhjabaa.Has Go.Proofs.Ytmiidiijhhjabaa.StepU Go.Proofs.Ytmiidiijhhjabaa.Lk Go.Proofs.Ytmiidiijhhjabaa.Cells
variable {l s lb pb cap p : Nat} {SP : Nat → Prop} {k : Nat} {hs : List Int} {tl : Int}

def setS (st : St) (x : List (Int × Int)) : St := { st with seats := x }
theorem mach (n : Nat) : Mach l s false false (ft l s lb pb SP) n St.seats setS (fun st t a now => step k tl st t a now) (fun w b st => O l s lb pb cap p SP k hs tl w b st ∧ st.seats.length = n) where
  keep := fun h hu hd => ⟨h.1.keep hu hd, h.2⟩
  ptr := fun h => h.1.at_.top.cell (i := 0) rfl
  lt := fun h => h.1.lt
  len := fun h => h.2
  get := fun _ _ => rfl
  lockC := fun {w b st} h t d => (lock_all w s lb st.seats false false h.1.at_.seat t d).mono fun e w' ⟨he, ha, hu⟩ =>
    ⟨he, ⟨h.1.seats _ (lock_len _ _ _ _) ha hu, (lock_len _ _ _ _).trans h.2⟩, hu.mono fun i _ e => by rw [e]; simp [ft]⟩
  unlockC := fun {w b st} h t => (unlock_all w s lb st.seats false false h.1.at_.seat t).mono fun e w' ⟨he, ha, hu⟩ =>
    ⟨he, ⟨h.1.seats _ (turn_len _ _ _) ha hu, (turn_len _ _ _).trans h.2⟩, hu.mono fun i _ e => by rw [e]; simp [ft]⟩
  probeC := fun {w b st} h t => (probe_all w s lb st.seats false false h.1.at_.seat t).mono fun e w' ⟨he, ha, hu⟩ =>
    ⟨he, ⟨h.1.seats _ (probe_len _ _ _) ha hu, (probe_len _ _ _).trans h.2⟩, hu.mono fun i _ e => by rw [e]; simp [ft]⟩
  stateC := fun {w b st} h t => state_all w s lb st.seats false false h.1.at_.seat t
  lenC := fun {w b st} h => (len_all w s lb st.seats false false h.1.at_.seat).mono fun e w' ⟨he, hw⟩ => ⟨by rw [he, h.2], hw⟩
  stepC := fun {w b st} h hb t a now => (stepC h.1 hb t a now).mono fun e w' ⟨he, ho, hu⟩ => ⟨he, ⟨ho, by
    rw [← h.2]
    show (fin (midS k tl st t a).2.seats t (midS k tl st t a).1.1).2.length = _
    rw [fin_len]
    unfold midS
    split
    · rw [(lockS_len st t.toNat a).1]
    · split
      · rw [(unlS_len st t.toNat a).1]
      · rfl⟩, hu⟩
theorem new_no (w : World) (pl : Nat) (v : Value) (hs : List Int) (h : Src1 w v .i64 hs) (hl : hs.length ≤ 100000) (hn : hs.length < 1 ∨ 64 < hs.length ∨ Mem.homesOk hs = false) :
    Calls Try.prog 11 #[.pointer (some ⟨pl, 0, none⟩), v] w fun e w' => e = .returned (.tuple #[.pointer none, .int .i64 1]) ∧ Below w.heap.size w w' := by
  have hsrc := h
  obtain ⟨a, c, rfl, -, -⟩ := h
  by_cases c1 : hs.length < 1 ∨ 64 < hs.length
  · have HN := Lib.hid (Seat.new_no w (hs.length : Int) false false (by omega))
    clear hn c1
    go_enter Try.func11, Try.ntmps11
    go_wp2_with (go_at_call 29; refine HN.out.mono ?_; rintro e w' ⟨rfl, rfl⟩)
    all_goals
      go_ret2
      exact ⟨rfl, Below.refl _ _⟩
  · have hb : Mem.homesOk hs = false := by rcases hn with h | h | h; exact absurd (.inl h) c1; exact absurd (.inr h) c1; exact h
    have HN := Lib.hid (Seat.new_yes w hs.length false false (by omega) (by omega))
    clear hn c1
    go_enter Try.func11, Try.ntmps11
    go_wp2_with fail
    refine HN.out.mono ?_
    rintro e w1 ⟨s, lb, rfl, hat, h1, h2, hB⟩
    have KB := badC w1 _ hs (hsrc.below hB) (by omega)
    rw [hb] at KB
    have HB := Lib.hid KB
    clear KB hb
    go_wp2_with (go_at_call 30; refine HB.out.mono ?_; rintro e w' ⟨rfl, rfl⟩)
    all_goals
      go_ret2
      exact ⟨rfl, hB⟩
/-- The places of a new lock, the first n. -/
def news (hs : List Int) (n : Nat) : List P := (List.range n).map fun (t : Nat) => ⟨hs.getD t 0, (t : Int) + 1, 0, 0, 0, 0⟩
theorem news_next (hs : List Int) (n : Nat) : news hs (n + 1) = news hs n ++ [⟨hs.getD n 0, (n : Int) + 1, 0, 0, 0, 0⟩] := by simp [news, List.range_succ]
theorem news_len (hs : List Int) (n : Nat) : (news hs n).length = n := by simp [news]
theorem news_get {hs : List Int} {n t : Nat} (h : t < n) : (news hs n).getD t p0 = ⟨hs.getD t 0, (t : Int) + 1, 0, 0, 0, 0⟩ := by simp [news, List.getD, h]
theorem news_ok (hs : List Int) (n : Nat) (hn : n ≤ hs.length) (h : n ≤ 1000) (hok : Mem.homesOk hs = true) : Ok (news hs n) := fun t ht => by
  rw [news_len] at ht
  rw [news_get ht]
  unfold Mem.homesOk at hok
  rw [List.all_eq_true] at hok
  have hm := hok (hs.getD t 0) (by rw [getD_lt _ _ _ (by omega)]; exact List.getElem_mem _)
  simp only [Bool.and_eq_true, decide_eq_true_eq] at hm
  refine ⟨hm, ?_, ?_, ?_, ?_, ?_⟩ <;> dsimp only <;> omega
/-- The clusters' numbers. -/
def idx (n : Nat) : List Int := (List.range n).map fun (i : Nat) => (i : Int)
theorem idx_next (n : Nat) : idx (n + 1) = idx n ++ [(n : Int)] := by simp [idx, List.range_succ]
theorem idx_len (n : Nat) : (idx n).length = n := by simp [idx]
theorem info_place : (Try.prog.info? 79).map (fun i => (i.zero, i.size, i.bytes)) = some (some (.agg #[.int .i64 0, .int .i64 0, .int .i64 0, .int .i64 0, .int .u32 0, .int .i64 0]), 6, 48) := by kernel_rfl
theorem cell_new6 (w : World) (c0 c1 c2 c3 c4 c5 : Value) (T : TypeId) : ∀ j u, [c0, c1, c2, c3, c4, c5][j]? = some u → (w.alloc (.cells #[c0, c1, c2, c3, c4, c5] T)).cell? ((⟨w.heap.size, 0, none⟩ : Addr).add j) = some u := by
  intro j u hj
  match j, hj with
  | 0, hj => simp at hj; subst hj; simp [Addr.add]
  | 1, hj => simp at hj; subst hj; simp [Addr.add]
  | 2, hj => simp at hj; subst hj; simp [Addr.add]
  | 3, hj => simp at hj; subst hj; simp [Addr.add]
  | 4, hj => simp at hj; subst hj; simp [Addr.add]
  | 5, hj => simp at hj; subst hj; simp [Addr.add]
/-- A new lock's words. -/
def ws0 (n : Nat) : List Int := [(n : Int) + 1] ++ List.replicate 8 0 ++ List.replicate n 0 ++ [4294967292]
def st0 (hs : List Int) (ws : List Int) : St := ⟨List.replicate hs.length (0, -1), news hs hs.length, ws, []⟩
/-- Where New stands in its loops: the plan, the lock's block, its seats'. -/
structure Pre (pl : Nat) (S0 : Nat → Prop) (kt : Int) (hh xx : List Int) (n tl0 : Nat) (l s lb : Nat) (v3 : Value) (w0 w : World) (S3 : Nat → Prop) : Prop where
  plan : Plan.O w pl S3 kt hh xx
  sub : ∀ b, S3 b → S0 b ∨ w0.heap.size ≤ b
  n1 : ¬ S3 s
  n2 : ¬ S3 lb
  n3 : ¬ S3 l
  row : Row w l [.pointer (some ⟨s, 0, none⟩), .pointer none, .int .i64 tl0, v3]
  seat : Seat.At w s lb (List.replicate n (0, -1)) false false
  upd : Upd S0 w0 w
  big : l + 1 ≤ w.heap.size
  lz : w0.heap.size ≤ l ∧ w0.heap.size ≤ s ∧ w0.heap.size ≤ lb
theorem Pre.word {pl n tl0 l s lb : Nat} {S0 S3 S4 : Nat → Prop} {kt : Int} {hh xx hh' xx' : List Int} {v3 : Value} {w0 w w' : World} (h : Pre pl S0 kt hh xx n tl0 l s lb v3 w0 w S3) (hp : Plan.O w' pl S4 kt hh' xx') (hu : Upd S3 w w') (hS : ∀ b, S4 b → S3 b ∨ w.heap.size ≤ b) : Pre pl S0 kt hh' xx' n tl0 l s lb v3 w0 w' S4 := by
  have hz := hu.size
  have hb := h.big
  have hs := h.seat.top.lt
  have hl := h.seat.row.lt
  refine ⟨hp, fun b hb => ?_, fun e => ?_, fun e => ?_, fun e => ?_, h.row.upd hu h.n3, h.seat.upd hu h.n1 h.n2, h.upd.then hu (fun i hi e => ?_), by omega, h.lz⟩
  · rcases hS b hb with e | e
    · exact h.sub b e
    · have := h.upd.size; exact .inr (by omega)
  · rcases hS _ e with e | e
    · exact h.n1 e
    · omega
  · rcases hS _ e with e | e
    · exact h.n2 e
    · omega
  · rcases hS _ e with e | e
    · exact h.n3 e
    · omega
  · rcases h.sub i e with e | e
    · exact e
    · omega
theorem Pre.drewN {pl n tl0 l s lb : Nat} {S0 S3 : Nat → Prop} {kt : Int} {hh xx : List Int} {v3 : Value} {w0 w : World} (h : Pre pl S0 kt hh xx n tl0 l s lb v3 w0 w S3) (m : Nat) : Pre pl S0 kt hh xx n tl0 l s lb v3 w0 (w.drewN m) S3 :=
  ⟨h.plan.keep ((Upd.refl (fun _ => False) w).drewN m) (fun _ _ => id), h.sub, h.n1, h.n2, h.n3, h.row.drewN m, h.seat.upd ((Upd.refl (fun _ => False) w).drewN m) id id, h.upd.drewN m, h.big, h.lz⟩
set_option maxHeartbeats 8000000 in
theorem new_yes (w : World) (pl : Nat) (S : Nat → Prop) (kt : Int) (hs0 xs0 : List Int) (hp : Plan.O w pl S kt hs0 xs0) (hx : xs0.length ≤ 1000) (v : Value) (hs : List Int) (h : Src1 w v .i64 hs) (n1 : 1 ≤ hs.length) (n2 : hs.length ≤ 64) (hok : Mem.homesOk hs = true)
    (hvS : ∀ b, v.ownBlock = some b → ¬ S b) :
    Calls Try.prog 11 #[.pointer (some ⟨pl, 0, none⟩), v] w fun e w' => ∃ l s lb pb cap, e = .returned (.tuple #[.pointer (some ⟨l, 0, none⟩), .int .i64 0]) ∧
      At w' l s lb pb cap (.pointer none) xs0.length (List.replicate hs.length (0, -1)) (news hs hs.length) ∧
      (∃ S', Plan.O w' pl S' kt (hs0 ++ [hs.getD 0 0] ++ idx 8 ++ hs ++ [hs.getD 0 0]) (xs0 ++ [(hs.length : Int) + 1] ++ List.replicate 8 0 ++ List.replicate hs.length 0 ++ [4294967292]) ∧ (∀ b, S' b → S b ∨ w.heap.size ≤ b) ∧ ¬ S' l ∧ ¬ S' s ∧ ¬ S' lb ∧ ¬ S' pb) ∧
      w.heap.size ≤ l ∧ w.heap.size ≤ s ∧ w.heap.size ≤ lb ∧ w.heap.size ≤ pb ∧ Upd S w w' := by
  have hsrc := h
  obtain ⟨a, c, rfl, -, hcell⟩ := h
  obtain ⟨hb, off, rfl, hbw, hcell⟩ := hcell (by omega)
  have c0 := hcell 0 (by omega)
  obtain ⟨y, hy⟩ : ∃ y, hs.getD 0 0 = y := ⟨_, rfl⟩
  rw [hy] at c0 ⊢
  have hvS := hvS hb rfl
  have HN := Lib.hid (Seat.new_yes w hs.length false false n1 n2)
  have HC := Lib.hid hcell
  have HC0 := Lib.hid c0
  have HOK := Lib.hid (news_ok hs hs.length (Nat.le_refl _) (by omega) hok)
  have n3 : (0 : Int) < hs.length := by omega
  have hnw : IntKind.u32.wrap ((hs.length : Int) + 1) = (hs.length : Int) + 1 := by rw [show IntKind.u32.wrap ((hs.length : Int) + 1) = ((hs.length : Int) + 1) % 4294967296 from rfl]; omega
  have hnw2 : IntKind.i64.wrap ((hs.length : Int) + 1) = (hs.length : Int) + 1 := IntWalk.i64_in _ (by omega)
  clear hcell hy
  go_enter Try.func11, Try.ntmps11
  go_wp2_with fail
  refine HN.out.mono ?_
  rintro e w1 ⟨s, lb, rfl, hat, hs1, hs2, hB⟩
  have KB := badC w1 _ hs (hsrc.below hB) (by omega)
  rw [hok] at KB
  have HB := Lib.hid KB
  have hp1 := hp.below hB
  have c1 : w1.cell? ⟨hb, off, none⟩ = some (.int .i64 y) := (hB.cell (p := ⟨hb, off + 0, none⟩) hbw).trans c0
  have hz1 := hB.size
  have hplt := hp1.lt
  have hplt0 := hp.lt
  have hsw := hat.top.lt
  have hlw := hat.row.lt
  have KW := Plan.wordPl _ pl S kt hs0 xs0 hp1 (by omega) y ((hs.length : Int) + 1)
  have HKW := Lib.hid KW
  clear KB hok c0 hsrc KW
  go_wp2_with (go_at_call 30; refine HB.out.mono ?_; rintro e w' ⟨rfl, rfl⟩)
  refine HKW.out.mono ?_
  rintro e w2 ⟨rfl, S1, hp2, hu2, hS1⟩
  have hz2 := hu2.size
  have hup2 : Upd S w w2 := (Upd.of_below hB).trans hu2
  have l1 : ¬ S1 s := fun h => by rcases hS1 _ h with h | h; exact absurd (hplt0 _ h) (by omega); omega
  have l2 : ¬ S1 lb := fun h => by rcases hS1 _ h with h | h; exact absurd (hplt0 _ h) (by omega); omega
  have hS1' : ∀ b, S1 b → S b ∨ w.heap.size ≤ b := fun b h => by rcases hS1 b h with h | h; exact .inl h; exact .inr (by omega)
  have hat2 := hat.upd hu2 (fun h => absurd (hplt0 _ h) (by omega)) (fun h => absurd (hplt0 _ h) (by omega))
  have hplt2 := hp2.lt
  obtain ⟨l, hl⟩ : ∃ l, w2.heap.size = l := ⟨_, rfl⟩
  have hPre : Pre pl S kt (hs0 ++ [y]) (xs0 ++ [(hs.length : Int) + 1]) hs.length xs0.length l s lb (.slice none 0 0) w (w2.alloc (.cells #[.pointer (some ⟨s, 0, none⟩), .pointer none, .int .i64 xs0.length, .slice none 0 0] 38)) S1 :=
    ⟨hp2.alloc _, hS1', l1, l2, fun h => by have := hplt2 _ h; omega, by rw [← hl]; exact Row.new' rfl, hat2.alloc _, hup2.alloc _, by simp; omega, by omega⟩
  have hls : l ≠ s ∧ l ≠ lb := by omega
  have hsl : s < l ∧ lb < l := by omega
  obtain ⟨w3, hw3⟩ : ∃ w3, w2.alloc (.cells #[.pointer (some ⟨s, 0, none⟩), .pointer none, .int .i64 xs0.length, .slice none 0 0] 38) = w3 := ⟨_, rfl⟩
  rw [hw3] at hPre
  have HL := Lib.hid hl
  have HW3 := Lib.hid hw3
  have hlw2 : w.heap.size ≤ l := by omega
  clear hl hw3 c1 HKW HB HN hu2 hup2 hp2 hat2 hat hp1 hB hS1 hS1' hplt2
  go_upto_region 6 with (fail)
  rw [HL.out, HW3.out]
  go_wp2_with fail
  go_loopw [38] (fun i wr => ∃ j : Nat, j ≤ 8 ∧ i = .int .i64 j ∧ ∃ S3, Pre pl S kt (hs0 ++ [y] ++ idx j) (xs0 ++ [(hs.length : Int) + 1] ++ List.replicate j 0) hs.length xs0.length l s lb (.slice none 0 0) w wr S3) (fun i _ => 8 - (intOf i).toNat)
  case atStart => exact ⟨0, Nat.zero_le _, rfl, S1, by simpa [idx] using hPre⟩
  case round =>
    clear hPre
    obtain ⟨j, hj, rfl, S3, hPre⟩ := hrel
    by_cases hlt : j < 8
    · have KW := Plan.wordPl wr pl S3 kt _ _ hPre.plan (by simp; omega) j 0
      have HKW := Lib.hid KW
      have HP := Lib.hid hPre
      have hlt' : (j : Int) < 8 := by omega
      clear KW hPre
      go_wp2_with fail
      refine HKW.out.mono ?_
      rintro e w5 ⟨rfl, S4, hp5, hu5, hS4⟩
      have P5 := HP.out.word hp5 hu5 hS4
      go_wp2_with fail
      go_round
      case rel => exact ⟨j + 1, by omega, by go_num, S4, by rw [idx_next, List.replicate_succ', ← List.append_assoc, ← List.append_assoc]; exact P5⟩
      case measure => simp [intOf]; omega
    · have HJ8 := Lib.hid (show j = 8 by omega)
      have hge : (8 : Int) ≤ (j : Int) := by omega
      go_wp2_with fail
      go_loopw [47] (fun i wr => ∃ j : Nat, j ≤ hs.length ∧ i = .int .i64 j ∧ ∃ v3 S3, Pre pl S kt (hs0 ++ [y] ++ idx 8 ++ hs.take j) (xs0 ++ [(hs.length : Int) + 1] ++ List.replicate 8 0 ++ List.replicate j 0) hs.length xs0.length l s lb v3 w wr S3 ∧ (∀ b, v3.ownBlock = some b → ¬ S3 b) ∧ wr.ownsRow (l + 1) 79 6 v3 j (pcells (news hs j))) (fun i _ => hs.length - (intOf i).toNat)
      case atStart => exact ⟨0, Nat.zero_le _, rfl, .slice none 0 0, S3, by rw [← HJ8.out]; simpa using hPre, (fun b hb => by simp [Value.ownBlock] at hb), World.ownsRow_nil _ _ _ _⟩
      case round =>
        clear hPre hj hlt hge
        rename_i j0
        obtain ⟨j, hj, rfl, v3, S3, hPre, q4, hown⟩ := hrel
        by_cases hlt : j < hs.length
        · have cj := cell_upd hPre.upd (HC.out j hlt) hvS
          obtain ⟨x, hx⟩ : ∃ x, hs.getD j 0 = x := ⟨_, rfl⟩
          rw [hx] at cj
          have HX := Lib.hid hx
          have KW := Plan.wordPl wr pl S3 kt _ _ hPre.plan (by simp; omega) x 0
          have HKW := Lib.hid KW
          obtain ⟨va, vc, rfl⟩ := owned_len1 hown
          have hlt' : (j : Int) < (hs.length : Int) := by omega
          have HP := Lib.hid hPre
          have hM := hPre.big
          clear hx KW hPre
          go_wp2_with fail
          refine HKW.out.mono ?_
          rintro e w5 ⟨rfl, S4, hp5, hu5, hS4⟩
          have P5 := HP.out.word hp5 hu5 hS4
          have hz5 := hu5.size
          have own5 := own_upd hown hu5 q4
          have u3 := P5.row.cell (i := 3) rfl
          have f3 := P5.row.frozen 3
          have hlb : ∀ b, (Value.slice va j vc).ownBlock = some b → l + 1 ≤ b ∧ b < wr.heap.size := fun b hb => ⟨(own_lt hown hb).2, (own_lt hown hb).1⟩
          have hS4lt := hp5.lt
          have HLB := Lib.hid hlb
          have HP5 := Lib.hid P5
          have row5 := P5.row
          clear HKW hlb cj hown hu5 P5
          go_wp2_with (at_builtin; refine wpList_append_near rfl (.tmp 59) (.tmp 64) 36 rfl (l + 1) 79 (.agg #[.int .i64 0, .int .i64 0, .int .i64 0, .int .i64 0, .int .u32 0, .int .i64 0]) 6 48 Try.underlying36 info_place rfl (by decide) (.slice va j vc) j (pcells (news hs j)) rfl (own_upd own5 ((Upd.refl (fun _ => False) _).alloc _) (fun _ _ => id)) ⟨w5.heap.size, 0, none⟩ 1 1 [.int .i64 x, .int .i64 ((j : Int) + 1), .int .i64 0, .int .i64 0, .int .u32 0, .int .i64 0] rfl rfl (cell_new6 _ _ _ _ _ _ _ _) (by intro u hu; simp at hu; rcases hu with rfl | rfl | rfl | rfl | rfl <;> rfl) (by unfold maxLen; omega) (by omega) (by simp; omega) ?_; intro v7 w7 hown7 hg7 near7; obtain ⟨va7, vc7, rfl⟩ := owned_len1 hown7; have u7 : Upd (fun i => (Value.slice va j vc).ownBlock = some i) w5 w7 := ((Upd.refl _ _).alloc _).trans (Upd.grown hg7); have row7 := row5.upd u7 (fun e => by have := (HLB.out _ e).1; omega); have t7 := row7.cell (i := 3) rfl; have g7 := row7.frozen 3; clear hg7)
          have hz7 := u7.size
          have row8 := row7.set 3 (.slice va7 (j + 1) vc7)
          have U8 := Upd.one w7 l 3 (.slice va7 (j + 1) vc7)
          have hm3 := HP5.out.n3
          have hv7 : ∀ b, (Value.slice va7 (j + 1) vc7).ownBlock = some b → ¬ S4 b ∧ b ≠ l := by
            intro b hb
            have hb2 := (own_lt hown7 hb).2
            refine ⟨fun h => ?_, by omega⟩
            rcases near7 with e | ⟨g, hg, e⟩
            · rw [e] at hb
              rcases hS4 b h with h | h
              · exact q4 b hb h
              · have := (HLB.out b hb).2; omega
            · rw [e] at hb
              simp only [Option.some.injEq] at hb
              subst hb
              have := hS4lt _ h
              simp at hg
              omega
          have p8 := (hp5.keep u7 (fun b hb e => by
            rcases hS4 b hb with h | h
            · exact q4 b e h
            · have := (HLB.out b e).2; omega)).keep U8 (fun b hb e => hm3 (e ▸ hb))
          have at8 := (HP5.out.seat.upd u7 (fun e => by have := (HLB.out _ e).1; omega) (fun e => by have := (HLB.out _ e).1; omega)).upd U8 (fun e => hls.1 e.symm) (fun e => hls.2 e.symm)
          have own8 := own_upd hown7 U8 (fun b hb e => (hv7 b hb).2 e)
          have up8 : Upd S w (w7.setCell ⟨l, 3, none⟩ (.slice va7 (j + 1) vc7)) := (HP5.out.upd.then u7 (fun i hi e => by have := (HLB.out _ e).1; omega)).then U8 (fun i hi e => by omega)
          have z8 := U8.size
          go_round
          case rel =>
            refine ⟨j + 1, by omega, by go_num, .slice va7 (j + 1) vc7, S4, ⟨?_, HP5.out.sub, HP5.out.n1, HP5.out.n2, hm3, by simpa using row8, at8, up8, by omega, HP5.out.lz⟩, fun b hb => (hv7 b hb).1, ?_⟩
            · have e1 : hs.take (j + 1) = hs.take j ++ [x] := by rw [List.take_succ_eq_append_getElem hlt, ← HX.out, getD_lt _ _ _ hlt]
              rw [e1, show List.replicate (j + 1) (0 : Int) = List.replicate j 0 ++ [0] from List.replicate_succ', ← List.append_assoc, ← List.append_assoc]
              exact p8
            · rw [news_next, show pcells (news hs j ++ [⟨hs.getD j 0, (j : Int) + 1, 0, 0, 0, 0⟩]) = pcells (news hs j) ++ pcells [⟨hs.getD j 0, (j : Int) + 1, 0, 0, 0, 0⟩] from co_append pcell _ _, HX.out]
              exact own8
          case measure => simp [intOf]; omega
        · obtain rfl : j = hs.length := by omega
          obtain ⟨pb, cap, rfl, hpb, hrp⟩ := owned hown (by omega)
          rw [List.take_length] at hPre
          have KP := fun w => Pack.pack_to 1073741823 false false w 4294967292 (by decide)
          have HKP := Lib.hid KP
          have KW := Plan.wordPl (wr.drewN 1) pl S3 kt _ _ (hPre.drewN 1).plan (by simp; omega) y 4294967292
          have HKW := Lib.hid KW
          have c9 : wr.cell? ⟨hb, off, none⟩ = some (.int .i64 y) := cell_upd hPre.upd HC0.out hvS
          have HP := Lib.hid (hPre.drewN 1)
          have hrp1 := hrp.drewN 1
          have q4' := q4 pb rfl
          have hpl := hrp.lt
          have n3' : (0 : Int) < (hs.length : Int) := by omega
          have n4' : decide ((0 : Int) < (hs.length : Int)) = true := by simpa using n3'
          clear KP KW hPre hown hrp q4 hlt
          go_wp2_with fail
          have c10 : wr.drew.cell? ⟨hb, off, none⟩ = some (.int .i64 y) := c9
          go_region_with ((first | (go_at_call 33; refine (HKP.out _).mono ?_; rintro e w4 ⟨rfl, rfl⟩) | (go_at_call 32; refine HKW.out.mono ?_; rintro e w5 ⟨rfl, S4, hp5, hu5, hS4⟩)))
          all_goals
            have P5 := HP.out.word hp5 hu5 hS4
            have hrp5 := hrp1.upd hu5 q4'
            have hS4p : ¬ S4 pb := fun e => by rcases hS4 _ e with h | h; exact q4' h; (have : (wr.drewN 1).heap.size = wr.heap.size := rfl); omega
            go_wp2_with fail
            go_ret2
            exact ⟨l, s, lb, pb, cap, rfl, ⟨by simpa using P5.row, P5.seat, hrp5, by simp [news_len], ⟨hls.1, hls.2, by omega⟩, ⟨by omega, by omega⟩, HOK.out, by omega⟩, ⟨S4, P5.plan, P5.sub, P5.n3, P5.n1, P5.n2, hS4p⟩, hlw2, hs1, hs2, by omega, P5.upd⟩
end Go.Proofs.Ytmiidiijhhjabaa.Hier
