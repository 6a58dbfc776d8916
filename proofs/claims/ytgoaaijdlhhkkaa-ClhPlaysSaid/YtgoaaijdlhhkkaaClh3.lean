/- Package clh: New, Node; the lock as the laws take it. -/
import Derived.Test.YtgoaaijdlhhkkaaClh2
import Derived.Test.YtgoaaijdlhhkkaaLk
namespace Go.Proofs.Ytgoaaijdlhhkkaa.Clh
open Go Go.RowKit Go.Proofs.Ytgoaaijdlhhkkaa.Heap Go.Proofs.Ytgoaaijdlhhkkaa.Open Go.Proofs.Ytgoaaijdlhhkkaa.Seat Go.Proofs.Ytgoaaijdlhhkkaa.Mach Go.Proofs.Ytgoaaijdlhhkkaa.Has Go.Proofs.Ytgoaaijdlhhkkaa.StepU Go.Proofs.Ytgoaaijdlhhkkaa.Lk
variable {l s lb pb cap p : Nat} {SP : Nat → Prop} {k : Nat} {hs : List Int} {tl : Int}

def setS (st : St) (x : List (Int × Int)) : St := { st with seats := x }
theorem mach (n : Nat) : Mach l s false true (ft l s lb pb SP) n St.seats setS (fun st t a now => step k tl st t a now) (fun w b st => O l s lb pb cap p SP k hs tl w b st ∧ st.seats.length = n) where
  keep := fun h hu hd => ⟨h.1.keep hu hd, h.2⟩
  ptr := fun h => h.1.at_.top.cell (i := 0) rfl
  lt := fun h => h.1.lt
  len := fun h => h.2
  get := fun _ _ => rfl
  lockC := fun {w b st} h t d => (lock_all w s lb st.seats false true h.1.at_.seat t d).mono fun e w' ⟨he, ha, hu⟩ =>
    ⟨he, ⟨h.1.seats _ (lock_len _ _ _ _) ha hu, (lock_len _ _ _ _).trans h.2⟩, hu.mono fun i _ e => by rw [e]; simp [ft]⟩
  unlockC := fun {w b st} h t => (unlock_all w s lb st.seats false true h.1.at_.seat t).mono fun e w' ⟨he, ha, hu⟩ =>
    ⟨he, ⟨h.1.seats _ (turn_len _ _ _) ha hu, (turn_len _ _ _).trans h.2⟩, hu.mono fun i _ e => by rw [e]; simp [ft]⟩
  probeC := fun {w b st} h t => (probe_all w s lb st.seats false true h.1.at_.seat t).mono fun e w' ⟨he, ha, hu⟩ =>
    ⟨he, ⟨h.1.seats _ (probe_len _ _ _) ha hu, (probe_len _ _ _).trans h.2⟩, hu.mono fun i _ e => by rw [e]; simp [ft]⟩
  stateC := fun {w b st} h t => state_all w s lb st.seats false true h.1.at_.seat t
  lenC := fun {w b st} h => (len_all w s lb st.seats false true h.1.at_.seat).mono fun e w' ⟨he, hw⟩ => ⟨by rw [he, h.2], hw⟩
  stepC := fun {w b st} h hb t a now => (stepC h.1 hb t a now).mono fun e w' ⟨he, ho, hu⟩ => ⟨he, ⟨ho, by
    rw [← h.2]
    show (fin (midS k tl st t a).2.seats t (midS k tl st t a).1.1).2.length = _
    rw [fin_len]
    unfold midS lockS
    dsimp only
    (repeat' split) <;> rfl⟩, hu⟩
theorem new_no (w : World) (pl : Nat) (v : Value) (hs : List Int) (h : Src1 w v .i64 hs) (hl : hs.length ≤ 100000) (hn : hs.length < 1 ∨ 64 < hs.length ∨ Mem.homesOk hs = false) :
    Calls Try.prog 11 #[.pointer (some ⟨pl, 0, none⟩), v] w fun e w' => e = .returned (.tuple #[.pointer none, .int .i64 1]) ∧ Below w.heap.size w w' := by
  have hsrc := h
  obtain ⟨a, c, rfl, -, -⟩ := h
  by_cases c1 : hs.length < 1 ∨ 64 < hs.length
  · have HN := Lib.hid (Seat.new_no w (hs.length : Int) false true (by omega))
    clear hn c1
    go_enter Try.func11, Try.ntmps11
    go_wp2_with (go_at_call 31; refine HN.out.mono ?_; rintro e w' ⟨rfl, rfl⟩)
    all_goals
      go_ret2
      exact ⟨rfl, Below.refl _ _⟩
  · have hb : Mem.homesOk hs = false := by rcases hn with h | h | h; exact absurd (.inl h) c1; exact absurd (.inr h) c1; exact h
    have HN := Lib.hid (Seat.new_yes w hs.length false true (by omega) (by omega))
    clear hn c1
    go_enter Try.func11, Try.ntmps11
    go_wp2_with fail
    refine HN.out.mono ?_
    rintro e w1 ⟨s, lb, rfl, hat, h1, h2, hB⟩
    have KB := badC w1 _ hs (hsrc.below hB) (by omega)
    rw [hb] at KB
    have HB := Lib.hid KB
    clear KB hb
    go_wp2_with (go_at_call 32; refine HB.out.mono ?_; rintro e w' ⟨rfl, rfl⟩)
    all_goals
      go_ret2
      exact ⟨rfl, hB⟩
/-- The places of a new lock. -/
def news (n : Nat) : List P3 := (List.range n).map fun (t : Nat) => ((t : Int) + 1, (0 : Int), (0 : Int))
theorem news_next (n : Nat) : news (n + 1) = news n ++ [((n : Int) + 1, 0, 0)] := by simp [news, List.range_succ]
theorem news_len (n : Nat) : (news n).length = n := by simp [news]
theorem news_get {n t : Nat} (h : t < n) : (news n).getD t (0, 0, 0) = ((t : Int) + 1, 0, 0) := by simp [news, List.getD, h]
theorem news_ok (n : Nat) (h : n ≤ 1000) : Ok (news n) := fun t ht => by
  rw [news_len] at ht
  rw [news_get ht]
  dsimp only
  omega
theorem info_place : (Try.prog.info? 80).map (fun i => (i.zero, i.size, i.bytes)) = some (some (.agg #[.int .i64 0, .int .i64 0, .int .i64 0]), 3, 24) := by kernel_rfl
theorem cell_new3 (w : World) (a b c : Value) (T : TypeId) : ∀ j u, [a, b, c][j]? = some u → (w.alloc (.cells #[a, b, c] T)).cell? ((⟨w.heap.size, 0, none⟩ : Addr).add j) = some u := by
  intro j u hj
  match j, hj with
  | 0, hj => simp at hj; subst hj; simp [Addr.add]
  | 1, hj => simp at hj; subst hj; simp [Addr.add]
  | 2, hj => simp at hj; subst hj; simp [Addr.add]
def st0 (n : Nat) (ws : List Int) : St := ⟨List.replicate n (0, -1), news n, ws, []⟩
set_option maxHeartbeats 4000000 in
theorem new_yes (w : World) (pl : Nat) (S : Nat → Prop) (kt : Int) (hs0 xs0 : List Int) (hp : Plan.O w pl S kt hs0 xs0) (hx : xs0.length ≤ 1000) (v : Value) (hs : List Int) (h : Src1 w v .i64 hs) (n1 : 1 ≤ hs.length) (n2 : hs.length ≤ 64) (hok : Mem.homesOk hs = true)
    (hvS : ∀ b, v.ownBlock = some b → ¬ S b) :
    Calls Try.prog 11 #[.pointer (some ⟨pl, 0, none⟩), v] w fun e w' => ∃ l s lb pb cap, e = .returned (.tuple #[.pointer (some ⟨l, 0, none⟩), .int .i64 0]) ∧
      At w' l s lb pb cap (.pointer none) xs0.length (List.replicate hs.length (0, -1)) (news hs.length) ∧
      (∃ S', Plan.O w' pl S' kt (hs0 ++ [hs.getD 0 0, hs.getD 0 0] ++ hs) (xs0 ++ [0, 0] ++ List.replicate hs.length 0) ∧ (∀ b, S' b → S b ∨ w.heap.size ≤ b) ∧ ¬ S' l ∧ ¬ S' s ∧ ¬ S' lb ∧ ¬ S' pb) ∧
      w.heap.size ≤ l ∧ w.heap.size ≤ s ∧ w.heap.size ≤ lb ∧ w.heap.size ≤ pb ∧ Upd S w w' := by
  have hsrc := h
  obtain ⟨a, c, rfl, -, hcell⟩ := h
  obtain ⟨hb, off, rfl, hbw, hcell⟩ := hcell (by omega)
  have c0 := hcell 0 (by omega)
  obtain ⟨y, hy⟩ : ∃ y, hs.getD 0 0 = y := ⟨_, rfl⟩
  rw [hy] at c0 ⊢
  have hvS := hvS hb rfl
  have HN := Lib.hid (Seat.new_yes w hs.length false true n1 n2)
  have HC := Lib.hid hcell
  have n3 : (0 : Int) < hs.length := by omega
  clear hcell hy
  go_enter Try.func11, Try.ntmps11
  go_wp2_with fail
  refine HN.out.mono ?_
  rintro e w1 ⟨s, lb, rfl, hat, hs1, hs2, hB⟩
  have KB := badC w1 _ hs (hsrc.below hB) (by omega)
  rw [hok] at KB
  have HB := Lib.hid KB
  have hp1 := hp.below hB
  have c1 : w1.cell? ⟨hb, off, none⟩ = some (.int .i64 y) := (hB.cell (p := ⟨hb, off + 0, none⟩) hbw).trans c0
  have hz1 := hB.size
  have hplt := hp1.lt
  have hplt0 := hp.lt
  have hsw := hat.top.lt
  have hlw := hat.row.lt
  have KW := Plan.wordPl _ pl S kt hs0 xs0 hp1 (by omega) y 0
  have HKW := Lib.hid KW
  clear KB hok c0 hsrc KW
  go_wp2_with (go_at_call 32; refine HB.out.mono ?_; rintro e w' ⟨rfl, rfl⟩)
  refine HKW.out.mono ?_
  rintro e w2 ⟨rfl, S1, hp2, hu2, hS1⟩
  have hz2 := hu2.size
  have hup2 : Upd S w w2 := (Upd.of_below hB).trans hu2
  have l1 : ¬ S1 s := fun h => by rcases hS1 _ h with h | h; exact absurd (hplt0 _ h) (by omega); omega
  have l2 : ¬ S1 lb := fun h => by rcases hS1 _ h with h | h; exact absurd (hplt0 _ h) (by omega); omega
  have hS1' : ∀ b, S1 b → S b ∨ w.heap.size ≤ b := fun b h => by rcases hS1 b h with h | h; exact .inl h; exact .inr (by omega)
  have hat2 := hat.upd hu2 (fun h => absurd (hplt0 _ h) (by omega)) (fun h => absurd (hplt0 _ h) (by omega))
  have hplt2 := hp2.lt
  have hp3 := hp2.alloc (.cells #[.pointer (some ⟨s, 0, none⟩), .pointer none, .int .i64 xs0.length, .slice none 0 0] 38)
  have hat3 := hat2.alloc (.cells #[.pointer (some ⟨s, 0, none⟩), .pointer none, .int .i64 xs0.length, .slice none 0 0] 38)
  have hrow3 : Row (w2.alloc (.cells #[.pointer (some ⟨s, 0, none⟩), .pointer none, .int .i64 xs0.length, .slice none 0 0] 38)) w2.heap.size [.pointer (some ⟨s, 0, none⟩), .pointer none, .int .i64 xs0.length, .slice none 0 0] := Row.new' rfl
  have hup3 : Upd S w (w2.alloc (.cells #[.pointer (some ⟨s, 0, none⟩), .pointer none, .int .i64 xs0.length, .slice none 0 0] 38)) := hup2.alloc _
  have hl1 : ¬ S1 w2.heap.size := fun h => absurd (hplt2 _ h) (by omega)
  obtain ⟨l, hl⟩ : ∃ l, w2.heap.size = l := ⟨_, rfl⟩
  obtain ⟨w3, hw3⟩ : ∃ w3, w2.alloc (.cells #[.pointer (some ⟨s, 0, none⟩), .pointer none, .int .i64 xs0.length, .slice none 0 0] 38) = w3 := ⟨_, rfl⟩
  have hz3 : w3.heap.size = l + 1 := by rw [← hw3, ← hl]; simp
  have HL := Lib.hid hl
  have HW3 := Lib.hid hw3
  have hlw2 : w.heap.size ≤ l := by omega
  have hls : l ≠ s ∧ l ≠ lb := by omega
  have hsl : s < l ∧ lb < l := by omega
  rw [hl] at hrow3 hl1
  rw [hw3] at hp3 hat3 hrow3 hup3
  have hplt3 := hp3.lt
  have c3 : w3.cell? ⟨hb, off, none⟩ = some (.int .i64 y) := by
    rw [← hw3]
    exact cell_upd ((Upd.refl (fun _ => False) w2).alloc _) (cell_upd hu2 c1 hvS) id
  have KW2 := Plan.wordPl _ pl S1 kt _ _ hp3 (by simp; omega) y 0
  have HKW2 := Lib.hid KW2
  clear hl hw3 KW2 c1 HKW HB HN
  go_upto_region 5 with (fail)
  rw [HL.out, HW3.out]
  go_wp2_with fail
  refine HKW2.out.mono ?_
  rintro e w4 ⟨rfl, S2, hp4, hu4, hS2⟩
  have hz4 := hu4.size
  have hS2' : ∀ b, S2 b → S b ∨ w.heap.size ≤ b := fun b h => by rcases hS2 b h with h | h; exact hS1' b h; exact .inr (by omega)
  have m1 : ¬ S2 s := fun h => by rcases hS2 _ h with h | h; exact l1 h; omega
  have m2 : ¬ S2 lb := fun h => by rcases hS2 _ h with h | h; exact l2 h; omega
  have m3 : ¬ S2 l := fun h => by rcases hS2 _ h with h | h; exact hl1 h; omega
  have hup4 : Upd S w w4 := hup3.then hu4 (fun i hi e => by rcases hS1' i e with h | h; exact h; omega)
  have hrow4 := hrow3.upd hu4 hl1
  have hat4 := hat3.upd hu4 l1 l2
  have HOK := Lib.hid (news_ok hs.length (by omega))
  clear hp3 hrow3 hat3 hup3 hu4 hu2 hup2 hp2 hat2 hat HKW2 hp1 hB c3 hS2 hS1 hS1' hplt2 hplt3
  go_wp2_with fail
  go_loopw [38] (fun i wr => ∃ j : Nat, j ≤ hs.length ∧ i = .int .i64 j ∧ ∃ v3 S3, Plan.O wr pl S3 kt (hs0 ++ [y] ++ [y] ++ hs.take j) (xs0 ++ [0] ++ [0] ++ List.replicate j 0) ∧ (∀ b, S3 b → S b ∨ w.heap.size ≤ b) ∧ ¬ S3 s ∧ ¬ S3 lb ∧ ¬ S3 l ∧ (∀ b, v3.ownBlock = some b → ¬ S3 b) ∧ Row wr l [.pointer (some ⟨s, 0, none⟩), .pointer none, .int .i64 xs0.length, v3] ∧ Seat.At wr s lb (List.replicate hs.length (0, -1)) false true ∧ wr.ownsRow (l + 1) 80 3 v3 j (cells3 (news j)) ∧ Upd S w wr ∧ l + 1 ≤ wr.heap.size) (fun i _ => hs.length - (intOf i).toNat)
  case atStart =>
    exact ⟨0, Nat.zero_le _, rfl, .slice none 0 0, S2, by simpa using hp4, hS2', m1, m2, m3, (fun b hb => by simp [Value.ownBlock] at hb), hrow4, hat4, World.ownsRow_nil _ _ _ _, hup4, by omega⟩
  case round =>
    obtain ⟨j, hj, rfl, v3, S3, hpo, hS3, q1, q2, q3, q4, hrow, hat, hown, hup, hM⟩ := hrel
    by_cases hlt : j < hs.length
    · have cj := cell_upd hup (HC.out j hlt) hvS
      obtain ⟨x, hx⟩ : ∃ x, hs.getD j 0 = x := ⟨_, rfl⟩
      rw [hx] at cj
      have HX := Lib.hid hx
      have KW := Plan.wordPl wr pl S3 kt _ _ hpo (by simp; omega) x 0
      have HKW := Lib.hid KW
      obtain ⟨va, vc, rfl⟩ := owned_len1 hown
      have hlt' : (j : Int) < (hs.length : Int) := by omega
      clear hx KW hp4 hrow4 hat4 hup4 hpo
      go_wp2_with fail
      refine HKW.out.mono ?_
      rintro e w5 ⟨rfl, S4, hp5, hu5, hS4⟩
      have hz5 := hu5.size
      have row5 := hrow.upd hu5 q3
      have at5 := hat.upd hu5 q1 q2
      have own5 := own_upd hown hu5 q4
      have u3 := row5.cell (i := 3) rfl
      have f3 := row5.frozen 3
      have hlb : ∀ b, (Value.slice va j vc).ownBlock = some b → l + 1 ≤ b ∧ b < wr.heap.size := fun b hb => ⟨(own_lt hown hb).2, (own_lt hown hb).1⟩
      have hS4lt := hp5.lt
      have hup5 : Upd S w w5 := hup.then hu5 (fun i hi e => by rcases hS3 i e with h | h; exact h; omega)
      have HLB := Lib.hid hlb
      clear HKW hlb cj hat hrow hown hup hu5
      go_wp2_with (at_builtin; refine wpList_append_near rfl (.tmp 50) (.tmp 54) 36 rfl (l + 1) 80 (.agg #[.int .i64 0, .int .i64 0, .int .i64 0]) 3 24 Try.underlying36 info_place rfl (by decide) (.slice va j vc) j (cells3 (news j)) rfl (own_upd own5 ((Upd.refl (fun _ => False) _).alloc _) (fun _ _ => id)) ⟨w5.heap.size, 0, none⟩ 1 1 [.int .i64 ((j : Int) + 1), .int .i64 0, .int .i64 0] rfl rfl (cell_new3 _ _ _ _ _) (by intro u hu; simp at hu; rcases hu with rfl | rfl | rfl <;> rfl) (by unfold maxLen; omega) (by omega) (by simp; omega) ?_; intro v7 w7 hown7 hg7 near7; obtain ⟨va7, vc7, rfl⟩ := owned_len1 hown7; have u7 : Upd (fun i => (Value.slice va j vc).ownBlock = some i) w5 w7 := ((Upd.refl _ _).alloc _).trans (Upd.grown hg7); have row7 := row5.upd u7 (fun e => by have := (HLB.out _ e).1; omega); have t7 := row7.cell (i := 3) rfl; have g7 := row7.frozen 3; clear hg7)
      have hz7 := u7.size
      have row8 := row7.set 3 (.slice va7 (j + 1) vc7)
      have U8 := Upd.one w7 l 3 (.slice va7 (j + 1) vc7)
      have hv7 : ∀ b, (Value.slice va7 (j + 1) vc7).ownBlock = some b → ¬ S4 b ∧ b ≠ l := by
        intro b hb
        have hb2 := (own_lt hown7 hb).2
        refine ⟨fun h => ?_, by omega⟩
        rcases near7 with e | ⟨g, hg, e⟩
        · rw [e] at hb
          rcases hS4 b h with h | h
          · exact q4 b hb h
          · have := (HLB.out b hb).2; omega
        · rw [e] at hb
          simp only [Option.some.injEq] at hb
          subst hb
          have := hS4lt _ h
          simp at hg
          omega
      have hm3 : ¬ S4 l := fun h => by rcases hS4 _ h with h | h; exact q3 h; omega
      have p8 := (hp5.keep u7 (fun b hb e => by
        rcases hS4 b hb with h | h
        · exact q4 b e h
        · have := (HLB.out b e).2; omega)).keep U8 (fun b hb e => hm3 (e ▸ hb))
      have at8 := (at5.upd u7 (fun e => by have := (HLB.out _ e).1; omega) (fun e => by have := (HLB.out _ e).1; omega)).upd U8 (fun e => hls.1 e.symm) (fun e => hls.2 e.symm)
      have own8 := own_upd hown7 U8 (fun b hb e => (hv7 b hb).2 e)
      have up8 : Upd S w (w7.setCell ⟨l, 3, none⟩ (.slice va7 (j + 1) vc7)) := (hup5.then u7 (fun i hi e => by have := (HLB.out _ e).1; omega)).then U8 (fun i hi e => by omega)
      go_round
      case rel =>
        refine ⟨j + 1, by omega, by go_num, .slice va7 (j + 1) vc7, S4, ?_, ?_, ?_, ?_, hm3, fun b hb => (hv7 b hb).1, by simpa using row8, at8, ?_, up8, ?_⟩
        · have e1 : hs.take (j + 1) = hs.take j ++ [x] := by rw [List.take_succ_eq_append_getElem hlt, ← HX.out, getD_lt _ _ _ hlt]
          rw [e1, List.replicate_succ', ← List.append_assoc, ← List.append_assoc]
          exact p8
        · intro b hb
          rcases hS4 b hb with h | h
          · exact hS3 b h
          · exact .inr (by omega)
        · intro h; rcases hS4 _ h with h | h; exact q1 h; omega
        · intro h; rcases hS4 _ h with h | h; exact q2 h; omega
        · rw [news_next, cells3_append]
          exact own8
        · have := U8.size; omega
      case measure => simp [intOf]; omega
    · obtain rfl : j = hs.length := by omega
      obtain ⟨pb, cap, rfl, hpb, hrp⟩ := owned hown (by omega)
      clear hp4 hrow4 hat4 hup4
      go_wp2_with fail
      go_ret2
      refine ⟨l, s, lb, pb, cap, rfl, ⟨by simpa using hrow, hat, hrp, by simp [news_len], ⟨hls.1, hls.2, by omega⟩, ⟨by omega, by omega⟩, HOK.out, by omega⟩, ⟨S3, by simpa using hpo, hS3, q3, q1, q2, q4 pb rfl⟩, hlw2, hs1, hs2, by omega, hup⟩
end Go.Proofs.Ytgoaaijdlhhkkaa.Clh
