/- Package flat: New; the lock as the laws take it. -/
import Derived.Test.YtoohkcpkodpnmaaFlat2
import Derived.Test.YtoohkcpkodpnmaaLk
namespace Go.Proofs.Ytoohkcpkodpnmaa.Flat
open Go Go.RowKit Go.Proofs.Ytoohkcpkodpnmaa.Heap Go.Proofs.Ytoohkcpkodpnmaa.Open Go.Proofs.Ytoohkcpkodpnmaa.Seat Go.Proofs.Ytoohkcpkodpnmaa.Mach Go.Proofs.Ytoohkcpkodpnmaa.Has Go.Proofs.Ytoohkcpkodpnmaa.Lk
variable {l s lb nb db p : Nat} {SP : Nat → Prop} {k : Nat} {hs : List Int} {nx ow : Int}

def setS (st : St) (x : List (Int × Int)) : St := { st with seats := x }
theorem mach (n : Nat) : Mach l s false true (ft l s lb nb db SP) n St.seats setS (fun st t a now => step k nx ow st t a now) (fun w b st => O l s lb nb db p SP k hs nx ow w b st ∧ st.seats.length = n) where
  keep := fun h hu hd => ⟨h.1.keep hu hd, h.2⟩
  ptr := fun h => h.1.at_.top.cell (i := 0) rfl
  lt := fun h => h.1.lt
  len := fun h => h.2
  get := fun _ _ => rfl
  lockC := fun {w b st} h t d => (lock_all w s lb st.seats false true h.1.at_.seat t d).mono fun e w' ⟨he, ha, hu⟩ =>
    ⟨he, ⟨h.1.seats _ (lock_len _ _ _ _) ha hu, (lock_len _ _ _ _).trans h.2⟩, hu.mono fun i _ e => by rw [e]; simp [ft]⟩
  unlockC := fun {w b st} h t => (unlock_all w s lb st.seats false true h.1.at_.seat t).mono fun e w' ⟨he, ha, hu⟩ =>
    ⟨he, ⟨h.1.seats _ (turn_len _ _ _) ha hu, (turn_len _ _ _).trans h.2⟩, hu.mono fun i _ e => by rw [e]; simp [ft]⟩
  probeC := fun {w b st} h t => (probe_all w s lb st.seats false true h.1.at_.seat t).mono fun e w' ⟨he, ha, hu⟩ =>
    ⟨he, ⟨h.1.seats _ (probe_len _ _ _) ha hu, (probe_len _ _ _).trans h.2⟩, hu.mono fun i _ e => by rw [e]; simp [ft]⟩
  stateC := fun {w b st} h t => state_all w s lb st.seats false true h.1.at_.seat t
  lenC := fun {w b st} h => (len_all w s lb st.seats false true h.1.at_.seat).mono fun e w' ⟨he, hw⟩ => ⟨by rw [he, h.2], hw⟩
  stepC := fun {w b st} h hb t a now => (stepC h.1 hb t a now).mono fun e w' ⟨he, ho, hu⟩ => ⟨he, ⟨ho, by
    rw [← h.2]
    show (fin (midS k nx ow st t a).2.seats t (midS k nx ow st t a).1.1).2.length = _
    rw [fin_len]
    unfold midS lockS
    (repeat' split) <;> rfl⟩, hu⟩
theorem new_no (w : World) (pl : Nat) (v : Value) (hs : List Int) (x : Int) (h : Src1 w v .i64 hs) (hl : hs.length ≤ 100000) (hn : hs.length < 1 ∨ 64 < hs.length ∨ Mem.homesOk hs = false) :
    Calls Try.prog 9 #[.pointer (some ⟨pl, 0, none⟩), v, .int .u32 x] w fun e w' => e = .returned (.tuple #[.pointer none, .int .i64 1]) ∧ Below w.heap.size w w' := by
  have hsrc := h
  obtain ⟨a, c, rfl, -, -⟩ := h
  by_cases c1 : hs.length < 1 ∨ 64 < hs.length
  · have HN := Lib.hid (Seat.new_no w (hs.length : Int) false true (by omega))
    clear hn c1
    go_enter Try.func9, Try.ntmps9
    go_wp2_with (go_at_call 23; refine HN.out.mono ?_; rintro e w' ⟨rfl, rfl⟩)
    all_goals
      go_ret2
      exact ⟨rfl, Below.refl _ _⟩
  · have hb : Mem.homesOk hs = false := by rcases hn with h | h | h; exact absurd (.inl h) c1; exact absurd (.inr h) c1; exact h
    have HN := Lib.hid (Seat.new_yes w hs.length false true (by omega) (by omega))
    clear hn c1
    go_enter Try.func9, Try.ntmps9
    go_wp2_with fail
    refine HN.out.mono ?_
    rintro e w1 ⟨s, lb, rfl, hat, h1, h2, hB⟩
    have KB := badC w1 _ hs (hsrc.below hB) (by omega)
    rw [hb] at KB
    have HB := Lib.hid KB
    clear KB hb
    go_wp2_with (go_at_call 24; refine HB.out.mono ?_; rintro e w' ⟨rfl, rfl⟩)
    all_goals
      go_ret2
      exact ⟨rfl, hB⟩
theorem info_u32 : (Try.prog.info? 23).map (fun i => (i.zero, i.size, i.bytes)) = some (some (.int .u32 0), 1, 4) := by kernel_rfl
theorem info_bool : (Try.prog.info? 4).map (fun i => (i.zero, i.size, i.bytes)) = some (some (.bool false), 1, 1) := by kernel_rfl
def st0 (n : Nat) (ws : List Int) : St := ⟨List.replicate n (0, -1), List.replicate n 0, List.replicate n false, ws, []⟩

theorem At.made {w : World} (n : Nat) (h1 : Row w l [.pointer (some ⟨s, 0, none⟩), .pointer none, .int .i64 0, .int .i64 0, .slice (some ⟨nb, 0, none⟩) n n, .slice (some ⟨db, 0, none⟩) n n]) (h2 : Seat.At w s lb (List.replicate n (0, -1)) false true)
    (h3 : Row w nb (List.replicate n (.int .u32 0))) (h4 : Row w db (List.replicate n (.bool false))) (e1 : l ≠ s ∧ l ≠ lb ∧ l ≠ nb ∧ l ≠ db) (e2 : nb ≠ s ∧ nb ≠ lb ∧ nb ≠ db ∧ db ≠ s ∧ db ≠ lb) :
    At w l s lb nb db (.pointer none) 0 0 (List.replicate n (0, -1)) (List.replicate n 0) (List.replicate n false) :=
  ⟨by simpa using h1, h2, by simpa [ints] using h3, by simpa using h4, by simp, by simp, e1, e2, Mem.Wd.zeros n⟩
theorem At.words {w : World} {pv : Value} {sl : List (Int × Int)} {nums : List Int} {drew : List Bool} (h : At w l s lb nb db pv nx ow sl nums drew) (a b : Int) :
    At ((w.setCell ⟨l, 2, none⟩ (.int .i64 a)).setCell ⟨l, 3, none⟩ (.int .i64 b)) l s lb nb db pv a b sl nums drew := by
  have hu := Upd.two w l 2 3 (.int .i64 a) (.int .i64 b)
  exact ⟨by simpa using (h.top.set 2 (.int .i64 a)).set 3 (.int .i64 b), h.seat.upd hu (fun e => h.e1.1 e.symm) (fun e => h.e1.2.1 e.symm), h.num.upd hu (fun e => h.e1.2.2.1 e.symm), h.drw.upd hu (fun e => h.e1.2.2.2 e.symm), h.l1, h.l2, h.e1, h.e2, h.wd⟩
set_option maxHeartbeats 4000000 in
theorem new_yes (w : World) (pl : Nat) (S : Nat → Prop) (kt : Int) (hs0 xs0 : List Int) (hp : Plan.O w pl S kt hs0 xs0) (hx : xs0.length ≤ 1000) (v : Value) (hs : List Int) (x : Int) (h : Src1 w v .i64 hs) (n1 : 1 ≤ hs.length) (n2 : hs.length ≤ 64) (hok : Mem.homesOk hs = true)
    (hvS : ∀ b, v.ownBlock = some b → ¬ S b) :
    Calls Try.prog 9 #[.pointer (some ⟨pl, 0, none⟩), v, .int .u32 x] w fun e w' => ∃ l s lb nb db, e = .returned (.tuple #[.pointer (some ⟨l, 0, none⟩), .int .i64 0]) ∧
      At w' l s lb nb db (.pointer none) xs0.length (xs0.length + 1 : Nat) (List.replicate hs.length (0, -1)) (List.replicate hs.length 0) (List.replicate hs.length false) ∧
      (∃ S', Plan.O w' pl S' kt (hs0 ++ [hs.getD 0 0, hs.getD 0 0]) (xs0 ++ [x, x]) ∧ (∀ b, S' b → S b ∨ w.heap.size ≤ b) ∧ ¬ S' l ∧ ¬ S' s ∧ ¬ S' lb ∧ ¬ S' nb ∧ ¬ S' db) ∧
      w.heap.size ≤ l ∧ w.heap.size ≤ s ∧ w.heap.size ≤ lb ∧ w.heap.size ≤ nb ∧ w.heap.size ≤ db ∧ Upd S w w' := by
  have hsrc := h
  obtain ⟨a, c, rfl, -, hcell⟩ := h
  obtain ⟨hb, off, rfl, hbw, hcell⟩ := hcell (by omega)
  have c0 := hcell 0 (by omega)
  obtain ⟨y, hy⟩ : ∃ y, hs.getD 0 0 = y := ⟨_, rfl⟩
  rw [hy] at c0 ⊢
  have hvS := hvS hb rfl
  have HN := Lib.hid (Seat.new_yes w hs.length false true n1 n2)
  have m1 := run_make_zeros (P := Try.prog) 51 23 (.int .u32 0) 4 Try.underlying51 info_u32 rfl hs.length (by omega) (by omega)
  have m2 := run_make_zeros (P := Try.prog) 57 4 (.bool false) 1 Try.underlying57 info_bool rfl hs.length (by omega) (by omega)
  have n1' : (1 : Int) ≤ hs.length := by omega
  have n2' : (hs.length : Int) ≤ 64 := by omega
  have n3 : (0 : Int) < hs.length := by omega
  have n4 : 0 < hs.length := by omega
  clear hcell hy
  go_enter Try.func9, Try.ntmps9
  go_wp2_with fail
  refine HN.out.mono ?_
  rintro e w1 ⟨s, lb, rfl, hat, hs1, hs2, hB⟩
  have KB := badC w1 _ hs (hsrc.below hB) (by omega)
  rw [hok] at KB
  have HB := Lib.hid KB
  have hp1 := hp.below hB
  have c1 := (hB.cell (p := ⟨hb, off + 0, none⟩) hbw).trans c0
  have hbw1 : hb < w1.heap.size := Nat.lt_of_lt_of_le hbw hB.size
  have hz1 := hB.size
  have hplt := hp1.lt
  have hplt0 := hp.lt
  have hsw := hat.top.lt
  have hlw := hat.row.lt
  clear KB hok c0 hsrc
  go_wp2_with (go_at_call 24; refine HB.out.mono ?_; rintro e w' ⟨rfl, rfl⟩)
  go_cut [11] from 26 to 32 (fun s11 wx => ∃ l nb db, s11 = .pointer (some ⟨l, 0, none⟩) ∧ At wx l s lb nb db (.pointer none) 0 0 (List.replicate hs.length (0, -1)) (List.replicate hs.length 0) (List.replicate hs.length false) ∧ w1.heap.size ≤ l ∧ w1.heap.size ≤ nb ∧ w1.heap.size ≤ db ∧ Below w1.heap.size w1 wx)
  case first =>
    go_wp2_with fail
    go_region
    all_goals
      go_wp2_with fail
      go_meet
      case rel => first
        | exact ⟨w1.heap.size + 1 + 1, w1.heap.size, w1.heap.size + 1, rfl, At.made hs.length (Row.new' (by simp)).drew (hat.upd (S := fun _ => False) ((((Upd.refl _ _).alloc _).alloc _).alloc _).drew id id) (((Row.ofZeros rfl).alloc _).alloc _).drew ((Row.ofZeros (by simp)).alloc _).drew (by omega) (by omega), by omega, by omega, by omega, below_drewN ((((Below.refl _ _).alloc (Nat.le_refl _) _).alloc (by simp) _).alloc (by simp; omega) _) 1⟩
        | exact ⟨w1.heap.size + 1 + 1, w1.heap.size + 1, w1.heap.size, rfl, At.made hs.length (Row.new' (by simp)).drew (hat.upd (S := fun _ => False) ((((Upd.refl _ _).alloc _).alloc _).alloc _).drew id id) ((Row.ofZeros (by simp)).alloc _).drew (((Row.ofZeros rfl).alloc _).alloc _).drew (by omega) (by omega), by omega, by omega, by omega, below_drewN ((((Below.refl _ _).alloc (Nat.le_refl _) _).alloc (by simp) _).alloc (by simp; omega) _) 1⟩
  case rest =>
    obtain ⟨l, nb, db, rfl, ha, hl1, hl2, hl3, hB2⟩ := hcut
    obtain ⟨w2, hw2⟩ : ∃ w2, wc = w2 := ⟨_, rfl⟩
    rw [hw2] at ha hB2 ⊢
    have hp2 := hp1.below hB2
    have c2 := (hB2.cell (p := ⟨hb, off + 0, none⟩) hbw1).trans c1
    have KW := Plan.wordPl _ pl S kt hs0 xs0 (hp2.drewN 1) (by omega) y x
    have HKW := Lib.hid KW
    have ha2 := ha.keep ((Upd.refl (fun _ => False) w2).drewN 1) id id id id id
    have hne : ∀ i, S i → i < w1.heap.size := fun i hi => Nat.lt_of_lt_of_le (hplt0 i hi) (by omega)
    have hne0 := hplt0
    have Sl : ¬ S l := fun h => by have := hne _ h; omega
    have Ss : ¬ S s := fun h => by have := hne0 _ h; omega
    have Slb : ¬ S lb := fun h => by have := hne0 _ h; omega
    have Snb : ¬ S nb := fun h => by have := hne _ h; omega
    have Sdb : ¬ S db := fun h => by have := hne _ h; omega
    have hbl : hb ≠ l := by omega
    clear hw2 KW m1 m2 hat HB HN
    go_wp2_with fail
    go_region_held3 (fun w' => w'.cell? ⟨hb, off, none⟩ = some (.int .i64 y)) ((first | exact c2 | exact c3 | exact c5 | exact c6 _ | exact c7 _ _))
      ((first
        | (go_at_call 26; refine HKW.out.mono ?_; rintro e w4 ⟨rfl, S1, hp4, hu4, hS1⟩; have c3 := cell_upd hu4 c2 hvS; have hp4d := hp4; have KW2 := Plan.wordPl w4 pl S1 kt (hs0 ++ [y]) (xs0 ++ [x]) hp4d (by simp; omega) y x)
        | (go_at_call 26; refine KW2.mono ?_; rintro e w5 ⟨rfl, S2, hp5, hu5, hS2⟩; have c5 := cell_upd hu5 c3 (fun h => by rcases hS1 _ h with h | h; exact hvS h; have := hB2.size; simp at h; omega); have A4 := ha2.keep hu4 Sl Ss Slb Snb Sdb; have A5 := A4.keep hu5 (fun h => by rcases hS1 _ h with h | h; exact Sl h; have := ha2.top.lt; omega) (fun h => by rcases hS1 _ h with h | h; exact Ss h; have := ha2.seat.top.lt; omega) (fun h => by rcases hS1 _ h with h | h; exact Slb h; have := ha2.seat.row.lt; omega) (fun h => by rcases hS1 _ h with h | h; exact Snb h; have := ha2.num.lt; omega) (fun h => by rcases hS1 _ h with h | h; exact Sdb h; have := ha2.drw.lt; omega); have t2 := A5.top.cell (i := 2) rfl; have f2 := A5.top.frozen 2; have t3 := A5.top.cell (i := 3) rfl; have f3 := A5.top.frozen 3; have c6 := fun v => cell_upd (Upd.one w5 l 2 v) c5 hbl; have c7 := fun v u => cell_upd (Upd.one _ l 3 u) (c6 v) hbl)))
    have hz2 := hB2.size
    have hz4 := hu4.size
    simp only [World.drewN] at hz4
    have hz5 := hu5.size
    have ll := ha2.top.lt
    have ls := ha2.seat.top.lt
    have llb := ha2.seat.row.lt
    have lnb := ha2.num.lt
    have ldb := ha2.drw.lt
    have n2S : ∀ i, ¬ S i → i < (w2.drewN 1).heap.size → ¬ S2 i := by
      intro i hi hlt h
      have h9 : (w2.drewN 1).heap.size ≤ w4.heap.size := hu4.size
      rcases hS2 i h with h | h
      · rcases hS1 i h with h | h
        · exact hi h
        · omega
      · omega
    have A6 := A5.words (xs0.length : Int) ((xs0.length : Int) + 1)
    have UW := Upd.two w5 l 2 3 (.int .i64 (xs0.length : Int)) (.int .i64 ((xs0.length : Int) + 1))
    have hp6 := hp5.keep UW (fun i hi e => n2S l Sl ll (e ▸ hi))
    have hupd : Upd S w ((w5.setCell ⟨l, 2, none⟩ (.int .i64 (xs0.length : Int))).setCell ⟨l, 3, none⟩ (.int .i64 ((xs0.length : Int) + 1))) := by
      have h9 : w2.heap.size = (w2.drewN 1).heap.size := rfl
      exact (((((Upd.of_below hB).trans (Upd.of_below hB2)).drewN 1).trans hu4).then hu5 (fun i hi e => by rcases hS1 i e with h | h; exact h; omega)).then UW (fun i hi e => by omega)
    go_wp2_with fail
    go_ret2
    refine ⟨l, s, lb, nb, db, rfl, by simpa using A6, ⟨S2, by simpa using hp6, ?_, n2S l Sl ll, n2S s Ss ls, n2S lb Slb llb, n2S nb Snb lnb, n2S db Sdb ldb⟩, by omega, hs1, hs2, by omega, by omega, hupd⟩
    intro b hb
    have h9 : w2.heap.size = (w2.drewN 1).heap.size := rfl
    rcases hS2 b hb with h | h
    · rcases hS1 b h with h | h
      · exact .inl h
      · exact .inr (by omega)
    · exact .inr (by omega)
end Go.Proofs.Ytoohkcpkodpnmaa.Flat
