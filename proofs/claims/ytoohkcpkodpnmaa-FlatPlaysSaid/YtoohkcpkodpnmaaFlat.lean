/- Package flat: the ticket lock, as an object over its port: Use, Step. -/
import Derived.Test.YtoohkcpkodpnmaaPlanO
import Derived.Test.YtoohkcpkodpnmaaMach
import Derived.Deep.RegionHeld3
import Derived.Deep.QuietTactic
import Derived.Deep.CutRange
import Derived.Deep.CutBlock
namespace Go.Proofs.Ytoohkcpkodpnmaa.Flat
open Go Go.RowKit Go.Proofs.Ytoohkcpkodpnmaa.Heap Go.Proofs.Ytoohkcpkodpnmaa.Open Go.Proofs.Ytoohkcpkodpnmaa.Seat Go.Proofs.Ytoohkcpkodpnmaa.Mach Go.Proofs.Ytoohkcpkodpnmaa.Has

/-- A lock: its block, its seats' two, that of the numbers, that of what was drawn. -/
structure At (w : World) (l s lb nb db : Nat) (pv : Value) (nx ow : Int) (sl : List (Int × Int)) (nums : List Int) (drew : List Bool) : Prop where
  top : Row w l [.pointer (some ⟨s, 0, none⟩), pv, .int .i64 nx, .int .i64 ow, .slice (some ⟨nb, 0, none⟩) sl.length sl.length, .slice (some ⟨db, 0, none⟩) sl.length sl.length]
  seat : Seat.At w s lb sl false true
  num : Row w nb (ints .u32 nums)
  drw : Row w db (drew.map .bool)
  l1 : nums.length = sl.length
  l2 : drew.length = sl.length
  e1 : l ≠ s ∧ l ≠ lb ∧ l ≠ nb ∧ l ≠ db
  e2 : nb ≠ s ∧ nb ≠ lb ∧ nb ≠ db ∧ db ≠ s ∧ db ≠ lb
  wd : Mem.Wd nums

theorem At.keep {w w' : World} {l s lb nb db : Nat} {pv : Value} {nx ow : Int} {sl : List (Int × Int)} {nums : List Int} {drew : List Bool} {T : Nat → Prop} (h : At w l s lb nb db pv nx ow sl nums drew) (hu : Upd T w w') (h1 : ¬ T l) (h2 : ¬ T s) (h3 : ¬ T lb) (h4 : ¬ T nb) (h5 : ¬ T db) :
    At w' l s lb nb db pv nx ow sl nums drew := ⟨h.top.upd hu h1, h.seat.upd hu h2 h3, h.num.upd hu h4, h.drw.upd hu h5, h.l1, h.l2, h.e1, h.e2, h.wd⟩
theorem At.seats {w w' : World} {l s lb nb db : Nat} {pv : Value} {nx ow : Int} {sl sl' : List (Int × Int)} {nums : List Int} {drew : List Bool} (h : At w l s lb nb db pv nx ow sl nums drew) (hu : Upd (fun k => k = lb) w w') (hs : Seat.At w' s lb sl' false true) (hl : sl'.length = sl.length) :
    At w' l s lb nb db pv nx ow sl' nums drew :=
  ⟨by rw [hl]; exact h.top.upd hu h.e1.2.1, hs, h.num.upd hu h.e2.2.1, h.drw.upd hu h.e2.2.2.2.2, by rw [hl]; exact h.l1, by rw [hl]; exact h.l2, h.e1, h.e2, h.wd⟩
/-- A number turns. -/
theorem At.setNum {w : World} {l s lb nb db : Nat} {pv : Value} {nx ow : Int} {sl : List (Int × Int)} {nums : List Int} {drew : List Bool} (h : At w l s lb nb db pv nx ow sl nums drew) (t : Nat) (x : Int) (x0 : 0 ≤ x) (x1 : x < 4294967296) :
    At (w.setCell ⟨nb, t, none⟩ (.int .u32 x)) l s lb nb db pv nx ow sl (nums.set t x) drew := by
  have hu := Upd.one w nb t (.int .u32 x)
  exact ⟨h.top.upd hu h.e1.2.2.1, h.seat.upd hu (fun e => h.e2.1 e.symm) (fun e => h.e2.2.1 e.symm), by rw [ints_set]; exact h.num.set _ _, h.drw.upd hu (fun e => h.e2.2.2.1 e.symm), by simpa using h.l1, h.l2, h.e1, h.e2, Mem.Wd.set h.wd t x0 x1⟩
theorem At.setDrew {w : World} {l s lb nb db : Nat} {pv : Value} {nx ow : Int} {sl : List (Int × Int)} {nums : List Int} {drew : List Bool} (h : At w l s lb nb db pv nx ow sl nums drew) (t : Nat) (b : Bool) :
    At (w.setCell ⟨db, t, none⟩ (.bool b)) l s lb nb db pv nx ow sl nums (drew.set t b) := by
  have hu := Upd.one w db t (.bool b)
  exact ⟨h.top.upd hu h.e1.2.2.2, h.seat.upd hu (fun e => h.e2.2.2.2.1 e.symm) (fun e => h.e2.2.2.2.2 e.symm), h.num.upd hu h.e2.2.2.1, by rw [List.map_set]; exact h.drw.set _ _, h.l1, by simpa using h.l2, h.e1, h.e2, h.wd⟩
theorem At.use {w : World} {l s lb nb db : Nat} {pv : Value} {nx ow : Int} {sl : List (Int × Int)} {nums : List Int} {drew : List Bool} (h : At w l s lb nb db pv nx ow sl nums drew) (v : Value) :
    At (w.setCell ⟨l, 1, none⟩ v) l s lb nb db v nx ow sl nums drew := by
  have hu := Upd.one w l 1 v
  exact ⟨by simpa using h.top.set 1 v, h.seat.upd hu (fun e => h.e1.1 e.symm) (fun e => h.e1.2.1 e.symm), h.num.upd hu (fun e => h.e1.2.2.1 e.symm), h.drw.upd hu (fun e => h.e1.2.2.2 e.symm), h.l1, h.l2, h.e1, h.e2, h.wd⟩
theorem useC (w : World) (l s lb nb db p : Nat) (pv : Value) (nx ow : Int) (sl : List (Int × Int)) (nums : List Int) (drew : List Bool) (h : At w l s lb nb db pv nx ow sl nums drew) :
    Calls Try.prog 19 #[.pointer (some ⟨l, 0, none⟩), .pointer (some ⟨p, 0, none⟩)] w fun e w' => e = .returned (.tuple #[]) ∧ At w' l s lb nb db (.pointer (some ⟨p, 0, none⟩)) nx ow sl nums drew ∧ Upd (fun k => k = l) w w' := by
  have h1 := h.top.cell (i := 1) rfl
  have f1 := h.top.frozen 1
  go_enter Try.func19, Try.ntmps19
  go_wp2
  go_end0
  exact ⟨rfl, h.use _, Upd.one _ _ _ _⟩

/-- What a lock over its port does, by value: what contexts do, their numbers, whether they drew; the words, all touches. -/
structure St where
  seats : List (Int × Int)
  nums : List Int
  drew : List Bool
  ws : List Int
  ts : List T
def rd (k : Nat) (ws : List Int) (a x : Int) : Int := if Mem.inB a k = true then Mem.get ws x else 0
def wrt (k : Nat) (ws : List Int) (a x v : Int) : List Int := if Mem.inB a k = true then Mem.put ws x v else ws
/-- The step of a call for the lock. -/
def lockS (k : Nat) (nx ow : Int) (st : St) (t : Nat) (a : Int) : Did × St :=
  if st.drew.getD t false = false then
    ((0, true, false, false), { st with nums := st.nums.set t (rd k st.ws a nx), drew := st.drew.set t true, ws := wrt k st.ws a nx ((Mem.get st.ws nx + 1) % 4294967296), ts := Cache.after k st.ws.length st.ts a nx true })
  else ((if rd k st.ws a ow = st.nums.getD t 0 then 1 else 0, false, false, false), { st with ts := Cache.after k st.ws.length st.ts a ow false })
/-- The step, but for its end. -/
def midS (k : Nat) (nx ow : Int) (st : St) (t a : Int) : Did × St :=
  if state st.seats t = 1 then lockS k nx ow st t.toNat a
  else if state st.seats t = 3 then
    ((3, false, false, false), { st with drew := st.drew.set t.toNat false, ws := wrt k st.ws a ow ((st.nums.getD t.toNat 0 + 1) % 4294967296), ts := Cache.after k st.ws.length st.ts a ow true })
  else if state st.seats t = 4 then
    ((if rd k st.ws a nx = (st.nums.getD t.toNat 0 + 1) % 4294967296 then 4 else 5, false, false, false), { st with ts := Cache.after k st.ws.length st.ts a nx false })
  else ((0, false, false, false), st)
def step (k : Nat) (nx ow : Int) (st : St) (t a _now : Int) : Did × St :=
  let r := midS k nx ow st t a
  (r.1, { r.2 with seats := (fin r.2.seats t r.1.1).2 })

/-- A lock over its port, as objects. -/
structure O (l s lb nb db p : Nat) (SP : Nat → Prop) (k : Nat) (hs : List Int) (nx ow : Int) (w : World) (b : Nat) (st : St) : Prop where
  at_ : At w l s lb nb db (.pointer (some ⟨p, 0, none⟩)) nx ow st.seats st.nums st.drew
  port : Port.O w p SP k st.ws hs st.ts
  few : st.ts.length ≤ b
  sep : ¬ SP l ∧ ¬ SP s ∧ ¬ SP lb ∧ ¬ SP nb ∧ ¬ SP db
def ft (l s lb nb db : Nat) (SP : Nat → Prop) : Nat → Prop := fun i => SP i ∨ i = l ∨ i = s ∨ i = lb ∨ i = nb ∨ i = db
theorem state_in {l : List (Int × Int)} {t : Int} (h : state l t ≠ 0) : inB t l.length = true := by
  unfold state at h
  cases hb : inB t l.length with
  | true => rfl
  | false => rw [hb] at h; exact absurd rfl h
variable {l s lb nb db p : Nat} {SP : Nat → Prop} {k : Nat} {hs : List Int} {nx ow : Int}
theorem rd_wd {ws : List Int} (h : Mem.Wd ws) (k : Nat) (a x : Int) : 0 ≤ rd k ws a x ∧ rd k ws a x < 4294967296 := by
  unfold rd; split
  · exact Mem.Wd.get h x
  · omega
theorem bools_get {l : List Bool} {i : Nat} (h : i < l.length) : (l.map Value.bool)[i]? = some (.bool (l.getD i false)) := by simp [List.getD, h]

theorem cell_upd {S : Nat → Prop} {w w' : World} (hu : Upd S w w') {b i : Nat} {v : Value} (h : w.cell? ⟨b, i, none⟩ = some v) (hs : ¬ S b) : w'.cell? ⟨b, i, none⟩ = some v := by
  have hlt : b < w.heap.size := by
    rcases Nat.lt_or_ge b w.heap.size with h' | h'
    · exact h'
    · simp [World.cell?, Array.getElem?_eq_none h'] at h
  have e := hu.block b hlt hs
  simp only [World.cell?] at h ⊢
  rw [e]; exact h
theorem did4 {w : World} {D : Nat} {a0 a1 a2 a3 : Value} (h : Row w D [a0, a1, a2, a3]) (v0 v1 v2 v3 : Value) : Row ((((w.setCell ⟨D, 0, none⟩ v0).setCell ⟨D, 1, none⟩ v1).setCell ⟨D, 2, none⟩ v2).setCell ⟨D, 3, none⟩ v3) D [v0, v1, v2, v3] := by
  simpa using (((h.set 0 v0).set 1 v1).set 2 v2).set 3 v3
theorem upd4 (w : World) (D : Nat) (v0 v1 v2 v3 : Value) : Upd (fun i => i = D) w ((((w.setCell ⟨D, 0, none⟩ v0).setCell ⟨D, 1, none⟩ v1).setCell ⟨D, 2, none⟩ v2).setCell ⟨D, 3, none⟩ v3) :=
  Upd.setCell (p := ⟨D, 3, none⟩) (Upd.setCell (p := ⟨D, 2, none⟩) (Upd.two w D 0 1 v0 v1) (.inl rfl) v2) (.inl rfl) v3
theorem At.keepD {w w' : World} {pv : Value} {sl : List (Int × Int)} {nums : List Int} {drew : List Bool} {D : Nat} (h : At w l s lb nb db pv nx ow sl nums drew) (hu : Upd (fun i => i = D) w w') (hD : ∀ i, ft l s lb nb db SP i → i ≠ D) : At w' l s lb nb db pv nx ow sl nums drew :=
  h.keep hu (fun e => hD l (by simp [ft]) e) (fun e => hD s (by simp [ft]) e) (fun e => hD lb (by simp [ft]) e) (fun e => hD nb (by simp [ft]) e) (fun e => hD db (by simp [ft]) e)
set_option maxHeartbeats 2000000 in
theorem lockC {w : World} {b : Nat} {st : St} (h : O l s lb nb db p SP k hs nx ow w b st) (hb : b < 1000000) (t : Nat) (ht : t < st.seats.length) (a : Int) :
    Calls Try.prog 34 #[.pointer (some ⟨l, 0, none⟩), .int .i64 t, .int .i64 a] w fun e w' =>
      e = .returned (didv (lockS k nx ow st t a).1) ∧ O l s lb nb db p SP k hs nx ow w' (b + 1) (lockS k nx ow st t a).2 ∧ Upd (ft l s lb nb db SP) w w' := by
  obtain ⟨ha, hp, hf, hsep⟩ := h
  have hup0 : Upd (ft l s lb nb db SP) w (w.alloc (.cells #[.int .i64 0, .bool false, .bool false, .bool false] 61)) := (Upd.refl _ _).alloc _
  have ha1 := ha.keep ((Upd.refl (fun _ => False) w).alloc (.cells #[.int .i64 0, .bool false, .bool false, .bool false] 61)) id id id id id
  have hp1 := hp.alloc (.cells #[.int .i64 0, .bool false, .bool false, .bool false] 61)
  have R1 : Row (w.alloc (.cells #[.int .i64 0, .bool false, .bool false, .bool false] 61)) w.heap.size [.int .i64 0, .bool false, .bool false, .bool false] := Row.new' rfl
  obtain ⟨D, hD⟩ : ∃ D, w.heap.size = D := ⟨_, rfl⟩
  have hlD : ∀ i, ft l s lb nb db SP i → i < D := by
    intro i hi
    rw [← hD]
    rcases hi with hi | rfl | rfl | rfl | rfl | rfl
    · obtain ⟨_, hl⟩ := hp; exact hl i hi
    · exact ha.top.lt
    · exact ha.seat.top.lt
    · exact ha.seat.row.lt
    · exact ha.num.lt
    · exact ha.drw.lt
  have HD := Lib.hid hD
  obtain ⟨W, hW⟩ : ∃ W, w.alloc (.cells #[.int .i64 0, .bool false, .bool false, .bool false] 61) = W := ⟨_, rfl⟩
  rw [hD] at R1
  rw [hW] at hup0 ha1 hp1 R1
  have HW := Lib.hid hW
  clear hD hW ha hp
  have c1 := ha1.top.cell (i := 1) rfl
  have c2 := ha1.top.cell (i := 2) rfl
  have c3 := ha1.top.cell (i := 3) rfl
  have c4 := ha1.top.cell (i := 4) rfl
  have c5 := ha1.top.cell (i := 5) rfl
  have n0 := ha1.num.cell (ints_get (k := .u32) (i := t) (xs := st.nums) (by rw [ha1.l1]; exact ht))
  have d0 := ha1.drw.cell (bools_get (l := st.drew) (i := t) (by rw [ha1.l2]; exact ht))
  have hwd := Mem.Wd.get ha1.wd (t : Int)
  have ht1 : (0 : Int) ≤ (t : Int) := by omega
  have ht2 : (t : Int) < (st.seats.length : Int) := by omega
  have hpw := hp1.wd
  cases hd : st.drew.getD t false with
  | false =>
    rw [hd] at d0
    have E := Lib.hid (show lockS k nx ow st t a = ((0, true, false, false), { st with nums := st.nums.set t (rd k st.ws a nx), drew := st.drew.set t true, ws := wrt k st.ws a nx ((Mem.get st.ws nx + 1) % 4294967296), ts := Cache.after k st.ws.length st.ts a nx true }) by unfold lockS; rw [if_pos hd])
    have KA := Port.addP _ p SP k st.ws hs st.ts (hp1.drewN 1) (by omega) a nx 1
    obtain ⟨g, hg⟩ : ∃ g, rd k st.ws a nx = g := ⟨_, rfl⟩
    have hgw := rd_wd hpw k a nx
    rw [hg] at hgw
    have HG := Lib.hid hg
    unfold rd at hg
    rw [hg] at KA
    have HKA := Lib.hid KA
    obtain ⟨nv, hnv⟩ : ∃ nv, st.nums.getD t 0 = nv := ⟨_, rfl⟩
    rw [hnv] at n0
    have ha2 := ha1.keep ((Upd.refl (fun _ => False) W).drewN 1) id id id id id
    clear KA hd hg hwd hpw hnv
    go_enter Try.func34, Try.ntmps34
    go_upto_region 1 with (fail)
    rw [HW.out, HD.out]
    have hsl := hlD l (.inr (.inl rfl))
    have hKA : ∀ w5, Port.O w5 p SP k (if Mem.inB a k = true then Mem.put st.ws nx ((Mem.get st.ws nx + 1) % 4294967296) else st.ws) hs (Cache.after k st.ws.length st.ts a nx true) → Upd SP (W.drewN 1) w5 → At w5 l s lb nb db (.pointer (some ⟨p, 0, none⟩)) nx ow st.seats st.nums st.drew := fun w5 _ u5 => ha2.keep u5 hsep.1 hsep.2.1 hsep.2.2.1 hsep.2.2.2.1 hsep.2.2.2.2
    have HA5 := Lib.hid hKA
    clear hKA
    go_wp2_with fail
    go_region_held3 (fun w' => w'.cell? ⟨l, 1, none⟩ = some (.pointer (some ⟨p, 0, none⟩)) ∧ w'.cell? ⟨l, 2, none⟩ = some (.int .i64 nx) ∧ w'.cell? ⟨l, 4, none⟩ = some (.slice (some ⟨nb, 0, none⟩) st.seats.length st.seats.length) ∧ w'.cell? ⟨l, 5, none⟩ = some (.slice (some ⟨db, 0, none⟩) st.seats.length st.seats.length)) ((first | exact ⟨c1, c2, c4, c5⟩ | exact ⟨q1, q2, q4, q5⟩ | exact ⟨r1, r2, r4, r5⟩ | exact ⟨s1, s2, s4, s5⟩))
      ((first | (go_at_call 52; refine HKA.out.mono ?_; rintro e w5 ⟨rfl, hp5, u5⟩; have A5 := HA5.out w5 hp5 u5; have q1 := A5.top.cell (i := 1) rfl; have q2 := A5.top.cell (i := 2) rfl; have q4 := A5.top.cell (i := 4) rfl; have q5 := A5.top.cell (i := 5) rfl; have A6 := A5.setNum t g hgw.1 hgw.2; have r1 := A6.top.cell (i := 1) rfl; have r2 := A6.top.cell (i := 2) rfl; have r4 := A6.top.cell (i := 4) rfl; have r5 := A6.top.cell (i := 5) rfl; have A7 := A6.setDrew t true; have s1 := A7.top.cell (i := 1) rfl; have s2 := A7.top.cell (i := 2) rfl; have s4 := A7.top.cell (i := 4) rfl; have s5 := A7.top.cell (i := 5) rfl; have n5 := A5.num.cell (ints_get (k := .u32) (i := t) (xs := st.nums) (by rw [A5.l1]; exact ht)); have m5 := A5.num.frozen t; have d6 := A6.drw.cell (bools_get (l := st.drew) (i := t) (by rw [A6.l2]; exact ht)); have m6 := A6.drw.frozen t)))
    have hDn : ∀ i, ft l s lb nb db SP i → i ≠ D := fun i hi e => by have := hlD i hi; omega
    have RD := (((R1.drewN 1).upd u5 (fun e => hDn D (.inl e) rfl)).set_ne (fun e => hDn nb (by simp [ft]) e.symm) t (.int .u32 g)).set_ne (fun e => hDn db (by simp [ft]) e.symm) t (.bool true)
    have y0 := RD.cell (i := 0) rfl
    have y1 := RD.cell (i := 1) rfl
    have y2 := RD.cell (i := 2) rfl
    have y3 := RD.cell (i := 3) rfl
    have f0 := RD.frozen 0
    have f1 := RD.frozen 1
    have f2 := RD.frozen 2
    have f3 := RD.frozen 3
    obtain ⟨w7, hw7⟩ : ∃ w7, (w5.setCell ⟨nb, t, none⟩ (.int .u32 g)).setCell ⟨db, t, none⟩ (.bool true) = w7 := ⟨_, rfl⟩
    have hp7 := (hp5.keep (Upd.one w5 nb t (.int .u32 g)) (fun i hi e => hsep.2.2.2.1 (e ▸ hi))).keep (Upd.one _ db t (.bool true)) (fun i hi e => hsep.2.2.2.2 (e ▸ hi))
    have hup7 : Upd (ft l s lb nb db SP) w ((w5.setCell ⟨nb, t, none⟩ (.int .u32 g)).setCell ⟨db, t, none⟩ (.bool true)) := Upd.setCell (p := ⟨db, t, none⟩) (Upd.setCell (p := ⟨nb, t, none⟩) ((hup0.drewN 1).trans (u5.mono fun i _ h => .inl h)) (.inl (by simp [ft])) _) (.inl (by simp [ft])) _
    rw [hw7] at RD y0 y1 y2 y3 f0 f1 f2 f3 A7 hp7 hup7 ⊢
    have h9 : ∀ i, i = D → ¬ ft l s lb nb db SP i := fun i e h => hDn i h e
    clear hw7 A5 A6 hp5 u5 q1 q2 q4 q5 r1 r2 r4 r5 s1 s2 s4 s5 n5 m5 d6 m6 c1 c2 c3 c4 c5 n0 d0 HKA ha1 ha2 hp1 hup0 HA5
    go_wp2_with fail
    have RE := did4 RD (.int .i64 0) (.bool true) (.bool false) (.bool false)
    have UE := upd4 w7 D (.int .i64 0) (.bool true) (.bool false) (.bool false)
    obtain ⟨w8, hw8⟩ : ∃ w8, (((w7.setCell ⟨D, 0, none⟩ (.int .i64 0)).setCell ⟨D, 1, none⟩ (.bool true)).setCell ⟨D, 2, none⟩ (.bool false)).setCell ⟨D, 3, none⟩ (.bool false) = w8 := ⟨_, rfl⟩
    rw [hw8] at RE UE ⊢
    have g0 := RE.cell (i := 0) rfl
    have g1 := RE.cell (i := 1) rfl
    have g2 := RE.cell (i := 2) rfl
    have g3 := RE.cell (i := 3) rfl
    refine bodyPost_ret (v := didv (0, true, false, false)) (by simp [results, Try.results34, go_sem, didv, g0, g1, g2, g3]) rfl ?_
    rw [E.out, HG.out]
    refine ⟨rfl, ⟨A7.keepD UE hDn, hp7.keep UE (fun i hi e => hDn i (.inl hi) e), ?_, hsep⟩, hup7.then UE (fun i hi e => by have := HD.out; omega)⟩
    exact Nat.le_trans (Cache.after_len _ _ _ _ _ _) (by omega)
  | true =>
    rw [hd] at d0
    have E := Lib.hid (show lockS k nx ow st t a = ((if rd k st.ws a ow = st.nums.getD t 0 then 1 else 0, false, false, false), { st with ts := Cache.after k st.ws.length st.ts a ow false }) by unfold lockS; rw [if_neg (by rw [hd]; simp)])
    have KA := Port.loadP _ p SP k st.ws hs st.ts (hp1.drewN 1) (by omega) a ow
    obtain ⟨g, hg⟩ : ∃ g, rd k st.ws a ow = g := ⟨_, rfl⟩
    have HG := Lib.hid hg
    unfold rd at hg
    rw [hg] at KA
    have HKA := Lib.hid KA
    obtain ⟨nv, hnv⟩ : ∃ nv, st.nums.getD t 0 = nv := ⟨_, rfl⟩
    rw [hnv] at n0 E
    have ha2 := ha1.keep ((Upd.refl (fun _ => False) W).drewN 1) id id id id id
    have hDn : ∀ i, ft l s lb nb db SP i → i ≠ D := fun i hi e => by have := hlD i hi; omega
    clear KA hd hg hwd hpw hnv
    go_enter Try.func34, Try.ntmps34
    go_upto_region 1 with (fail)
    rw [HW.out, HD.out]
    have hKA : ∀ w5, Upd SP (W.drewN 1) w5 → At w5 l s lb nb db (.pointer (some ⟨p, 0, none⟩)) nx ow st.seats st.nums st.drew := fun w5 u5 => ha2.keep u5 hsep.1 hsep.2.1 hsep.2.2.1 hsep.2.2.2.1 hsep.2.2.2.2
    have HA5 := Lib.hid hKA
    clear hKA
    go_wp2_with fail
    go_region_held3 (fun w' => w'.cell? ⟨l, 1, none⟩ = some (.pointer (some ⟨p, 0, none⟩)) ∧ w'.cell? ⟨l, 3, none⟩ = some (.int .i64 ow) ∧ w'.cell? ⟨l, 4, none⟩ = some (.slice (some ⟨nb, 0, none⟩) st.seats.length st.seats.length) ∧ w'.cell? ⟨nb, t, none⟩ = some (.int .u32 nv)) ((first | exact ⟨c1, c3, c4, n0⟩ | exact ⟨q1, q3, q4, q5⟩))
      ((first | (go_at_call 36; refine HKA.out.mono ?_; rintro e w5 ⟨rfl, hp5, u5⟩; have A5 := HA5.out w5 u5; have q1 := A5.top.cell (i := 1) rfl; have q3 := A5.top.cell (i := 3) rfl; have q4 := A5.top.cell (i := 4) rfl; have q5 := cell_upd u5 n0 hsep.2.2.2.1)))
    have RD := (R1.drewN 1).upd u5 (fun e => hDn D (.inl e) rfl)
    have y0 := RD.cell (i := 0) rfl
    have y1 := RD.cell (i := 1) rfl
    have y2 := RD.cell (i := 2) rfl
    have y3 := RD.cell (i := 3) rfl
    have f0 := RD.frozen 0
    have f1 := RD.frozen 1
    have f2 := RD.frozen 2
    have f3 := RD.frozen 3
    have hup7 : Upd (ft l s lb nb db SP) w w5 := (hup0.drewN 1).trans (u5.mono fun i _ h => .inl h)
    clear u5 q1 q3 q4 q5 c1 c2 c3 c4 c5 n0 d0 HKA ha1 ha2 hp1 hup0 HA5
    by_cases hgn : g = nv
    · have hgn' : (g == nv) = true := by simpa using hgn
      rw [HG.out, if_pos hgn] at E
      clear hgn
      go_wp2_with fail
      have RE := did4 RD (.int .i64 1) (.bool false) (.bool false) (.bool false)
      have UE := upd4 w5 D (.int .i64 1) (.bool false) (.bool false) (.bool false)
      obtain ⟨w8, hw8⟩ : ∃ w8, (((w5.setCell ⟨D, 0, none⟩ (.int .i64 1)).setCell ⟨D, 1, none⟩ (.bool false)).setCell ⟨D, 2, none⟩ (.bool false)).setCell ⟨D, 3, none⟩ (.bool false) = w8 := ⟨_, rfl⟩
      rw [hw8] at RE UE ⊢
      have g0 := RE.cell (i := 0) rfl
      have g1 := RE.cell (i := 1) rfl
      have g2 := RE.cell (i := 2) rfl
      have g3 := RE.cell (i := 3) rfl
      refine bodyPost_ret (v := didv (1, false, false, false)) (by simp [results, Try.results34, go_sem, didv, g0, g1, g2, g3]) rfl ?_
      rw [E.out]
      refine ⟨rfl, ⟨A5.keepD UE hDn, hp5.keep UE (fun i hi e => hDn i (.inl hi) e), ?_, hsep⟩, hup7.then UE (fun i hi e => by have := HD.out; omega)⟩
      exact Nat.le_trans (Cache.after_len _ _ _ _ _ _) (by omega)
    · have hgn' : (g == nv) = false := by simpa using hgn
      rw [HG.out, if_neg hgn] at E
      clear hgn
      go_wp2_with fail
      have RE := did4 RD (.int .i64 0) (.bool false) (.bool false) (.bool false)
      have UE := upd4 w5 D (.int .i64 0) (.bool false) (.bool false) (.bool false)
      obtain ⟨w8, hw8⟩ : ∃ w8, (((w5.setCell ⟨D, 0, none⟩ (.int .i64 0)).setCell ⟨D, 1, none⟩ (.bool false)).setCell ⟨D, 2, none⟩ (.bool false)).setCell ⟨D, 3, none⟩ (.bool false) = w8 := ⟨_, rfl⟩
      rw [hw8] at RE UE ⊢
      have g0 := RE.cell (i := 0) rfl
      have g1 := RE.cell (i := 1) rfl
      have g2 := RE.cell (i := 2) rfl
      have g3 := RE.cell (i := 3) rfl
      refine bodyPost_ret (v := didv (0, false, false, false)) (by simp [results, Try.results34, go_sem, didv, g0, g1, g2, g3]) rfl ?_
      rw [E.out]
      refine ⟨rfl, ⟨A5.keepD UE hDn, hp5.keep UE (fun i hi e => hDn i (.inl hi) e), ?_, hsep⟩, hup7.then UE (fun i hi e => by have := HD.out; omega)⟩
      exact Nat.le_trans (Cache.after_len _ _ _ _ _ _) (by omega)
end Go.Proofs.Ytoohkcpkodpnmaa.Flat
