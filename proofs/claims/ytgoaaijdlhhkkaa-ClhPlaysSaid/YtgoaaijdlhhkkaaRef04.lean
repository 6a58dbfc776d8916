/- The document's port, as an object: New, Do. -/
import Derived.Test.YtgoaaijdlhhkkaaDo02
import Derived.Test.YtgoaaijdlhhkkaaRef03
import Derived.Deep.RegionHeld3
namespace Go.Proofs.Ytgoaaijdlhhkkaa.Ref04
open Go Go.RowKit Go.Proofs.Ytgoaaijdlhhkkaa.Heap Go.Proofs.Ytgoaaijdlhhkkaa.Open Go.Proofs.Ytgoaaijdlhhkkaa.Has Go.Proofs.Ytgoaaijdlhhkkaa.Mem

/-- The document's counts of k threads behind the touches l. -/
def Cnts3 (k : Nat) (l : List T) (cs : List Value) : Prop := cs.length = k * 3 ∧ ∀ t : Nat, t < k → cs[t * 3]? = some (.int .i64 (acc l t : Nat)) ∧ cs[t * 3 + 1]? = some (.int .i64 (wrs l t : Nat)) ∧ cs[t * 3 + 2]? = some (.int .i64 (misses k l t : Nat))
structure Parts (w : World) (p : Nat) (S : Nat → Prop) (k : Nat) (ws : List Int) (l : List T) (wv tv : Value) (cb : Nat) : Prop where
  top : Row w p [wv, .int .i64 k, tv, .slice (some ⟨cb, 0, none⟩) k k]
  words : Src1 w wv .u32 ws
  wl : Lies wv (fun b => S b ∧ b ≠ p ∧ b ≠ cb)
  touched : OwnS w 0 164 3 tv (l.map T.cells)
  tl : Lies tv (fun b => S b ∧ b ≠ p ∧ b ≠ cb)
  apart : ∀ b, wv.ownBlock = some b → tv.ownBlock ≠ some b
  cnts : ∃ cs, Row w cb cs ∧ Cnts3 k l cs
  sp : S p
  sc : S cb
  ne : p ≠ cb
structure RO (w : World) (p : Nat) (S : Nat → Prop) (k : Nat) (ws : List Int) (l : List T) : Prop where
  ex : ∃ wv tv cb, Parts w p S k ws l wv tv cb
  lt : ∀ b, S b → b < w.heap.size
theorem lies_mono {v : Value} {S S' : Nat → Prop} (h : Lies v S) (hs : ∀ b, S b → S' b) : Lies v S' := fun b hb => hs b (h b hb)
theorem Parts.keep {U S : Nat → Prop} {w w' : World} {p k : Nat} {ws : List Int} {l : List T} {wv tv : Value} {cb : Nat} (h : Parts w p S k ws l wv tv cb) (hu : Upd U w w') (hd : ∀ b, S b → ¬ U b) : Parts w' p S k ws l wv tv cb :=
  ⟨h.top.upd hu (hd _ h.sp), Mem.Src1.keep h.words h.wl hu (fun b hb => hd b hb.1), h.wl, ⟨own_upd h.touched.1 hu (fun b hb => hd b (h.tl b hb).1), h.touched.2⟩, h.tl, h.apart,
    by obtain ⟨cs, h1, h2⟩ := h.cnts; exact ⟨cs, h1.upd hu (hd _ h.sc), h2⟩, h.sp, h.sc, h.ne⟩
theorem RO.keep {U S : Nat → Prop} {w w' : World} {p k : Nat} {ws : List Int} {l : List T} (h : RO w p S k ws l) (hu : Upd U w w') (hd : ∀ b, S b → ¬ U b) : RO w' p S k ws l := by
  obtain ⟨⟨wv, tv, cb, hp⟩, hl⟩ := h
  exact ⟨⟨wv, tv, cb, hp.keep hu hd⟩, fun b hb => Nat.lt_of_lt_of_le (hl b hb) hu.size⟩
theorem RO.alloc {S : Nat → Prop} {w : World} {p k : Nat} {ws : List Int} {l : List T} (h : RO w p S k ws l) (o : Obj) : RO (w.alloc o) p S k ws l := h.keep ((Upd.refl (fun _ => False) w).alloc o) fun _ _ => id
theorem RO.drewN {S : Nat → Prop} {w : World} {p k : Nat} {ws : List Int} {l : List T} (h : RO w p S k ws l) (n : Nat) : RO (w.drewN n) p S k ws l := h.keep ((Upd.refl (fun _ => False) w).drewN n) fun _ _ => id
theorem RO.below {S : Nat → Prop} {w w' : World} {p k : Nat} {ws : List Int} {l : List T} (h : RO w p S k ws l) (hb : Below w.heap.size w w') : RO w' p S k ws l := h.keep (Upd.of_below (S := fun _ => False) hb) fun _ _ => id

theorem Cnts3.step {k : Nat} {l : List T} {cs : List Value} (h : Cnts3 k l cs) (t : Nat) (a : Int) (wr r : Bool) (hr : miss l ⟨t, a, wr⟩ k = r) (ht : t < k) :
    Cnts3 k (l ++ [⟨t, a, wr⟩]) (((cs.set (t * 3) (.int .i64 ((acc l t : Nat) + 1))).set (t * 3 + 1) (.int .i64 (if wr = true then (wrs l t : Nat) + 1 else (wrs l t : Nat)))).set (t * 3 + 2) (.int .i64 (if r = true then (misses k l t : Nat) + 1 else (misses k l t : Nat)))) := by
  obtain ⟨hl, hc⟩ := h
  refine ⟨by simpa using hl, fun u hu => ?_⟩
  obtain ⟨e1, e2, e3⟩ := hc u hu
  rw [acc_snoc, wrs_snoc, misses_snoc, hr]
  by_cases e : t = u
  · subst e
    refine ⟨?_, ?_, ?_⟩
    · rw [List.getElem?_set_ne (by omega), List.getElem?_set_ne (by omega), List.getElem?_set_self (by omega), if_pos rfl]; push_cast; rfl
    · rw [List.getElem?_set_ne (by omega), List.getElem?_set_self (by simp; omega)]
      cases wr with
      | true => rw [if_pos rfl, if_pos ⟨rfl, rfl⟩]; push_cast; rfl
      | false => rw [if_neg (by decide), if_neg (by simp), Nat.add_zero]
    · rw [List.getElem?_set_self (by simp; omega)]
      cases r with
      | true => rw [if_pos rfl, if_pos ⟨rfl, rfl⟩]; push_cast; rfl
      | false => rw [if_neg (by decide), if_neg (by simp), Nat.add_zero]
  · have hne : ¬ (t : Int) = u := by omega
    have n1 : ¬ ((T.mk t a wr).t = (u : Int) ∧ (T.mk t a wr).wr = true) := by rintro ⟨h, _⟩; exact hne h
    have n2 : ¬ ((T.mk t a wr).t = (u : Int) ∧ r = true) := by rintro ⟨h, _⟩; exact hne h
    rw [if_neg hne, if_neg n1, if_neg n2]
    simp only [Nat.add_zero]
    refine ⟨?_, ?_, ?_⟩
    · rw [List.getElem?_set_ne (by omega), List.getElem?_set_ne (by omega), List.getElem?_set_ne (by omega)]; exact e1
    · rw [List.getElem?_set_ne (by omega), List.getElem?_set_ne (by omega), List.getElem?_set_ne (by omega)]; exact e2
    · rw [List.getElem?_set_ne (by omega), List.getElem?_set_ne (by omega), List.getElem?_set_ne (by omega)]; exact e3

set_option maxHeartbeats 4000000 in
set_option maxRecDepth 100000 in
theorem do_no0 (w : World) (p : Nat) (S : Nat → Prop) (k : Nat) (ws : List Int) (l : List T) (h : RO w p S k ws l) (t q a o x : Int)  (h1 : decide (t < 0) = true) :
    Calls Try.prog 99 #[.pointer (some ⟨p, 0, none⟩), .int .i64 t, .agg #[.int .i64 q, .int .i64 a, .int .u32 o, .int .u32 x]] w fun e w' => e = .returned (.tuple #[.int .u32 0, .int .i64 0]) ∧ Below w.heap.size w w' := by
  obtain ⟨⟨wv, tv, cb, hp⟩, hl⟩ := h
  have B0 : ∀ n, Below w.heap.size w ((w.alloc (.cells #[.int .i64 q, .int .i64 a, .int .u32 o, .int .u32 x] 161)).drewN n) := fun n => below_drewN ((Below.refl _ _).alloc (Nat.le_refl _) _) n
  have t0 := hp.top.alloc (.cells #[.int .i64 q, .int .i64 a, .int .u32 o, .int .u32 x] 161)
  have q0 := t0.cell (i := 0) rfl
  have q1 := t0.cell (i := 1) rfl
  obtain ⟨wa, wc, hwv⟩ : ∃ a c, wv = .slice a ws.length c := by obtain ⟨a, cap, e, _⟩ := hp.words; exact ⟨a, cap, e⟩
  rw [hwv] at q0
  clear hwv t0 hl hp
  go_enter Try.func99, Try.ntmps99
  go_wp2
  go_quiet (fail)
  go_wp2
  go_ret2
  exact ⟨rfl, B0 _⟩
set_option maxHeartbeats 4000000 in
set_option maxRecDepth 100000 in
theorem do_no1 (w : World) (p : Nat) (S : Nat → Prop) (k : Nat) (ws : List Int) (l : List T) (h : RO w p S k ws l) (t q a o x : Int) (h1 : decide (t < 0) = false) (h2 : decide ((k : Int) ≤ t) = true) :
    Calls Try.prog 99 #[.pointer (some ⟨p, 0, none⟩), .int .i64 t, .agg #[.int .i64 q, .int .i64 a, .int .u32 o, .int .u32 x]] w fun e w' => e = .returned (.tuple #[.int .u32 0, .int .i64 0]) ∧ Below w.heap.size w w' := by
  obtain ⟨⟨wv, tv, cb, hp⟩, hl⟩ := h
  have B0 : ∀ n, Below w.heap.size w ((w.alloc (.cells #[.int .i64 q, .int .i64 a, .int .u32 o, .int .u32 x] 161)).drewN n) := fun n => below_drewN ((Below.refl _ _).alloc (Nat.le_refl _) _) n
  have t0 := hp.top.alloc (.cells #[.int .i64 q, .int .i64 a, .int .u32 o, .int .u32 x] 161)
  have q0 := t0.cell (i := 0) rfl
  have q1 := t0.cell (i := 1) rfl
  obtain ⟨wa, wc, hwv⟩ : ∃ a c, wv = .slice a ws.length c := by obtain ⟨a, cap, e, _⟩ := hp.words; exact ⟨a, cap, e⟩
  rw [hwv] at q0
  clear hwv t0 hl hp
  go_enter Try.func99, Try.ntmps99
  go_wp2
  go_quiet (fail)
  go_wp2
  go_ret2
  exact ⟨rfl, B0 _⟩
set_option maxHeartbeats 4000000 in
set_option maxRecDepth 100000 in
theorem do_no2 (w : World) (p : Nat) (S : Nat → Prop) (k : Nat) (ws : List Int) (l : List T) (h : RO w p S k ws l) (t q a o x : Int) (h1 : decide (t < 0) = false) (h2 : decide ((k : Int) ≤ t) = false) (h3 : decide (a < 0) = true) :
    Calls Try.prog 99 #[.pointer (some ⟨p, 0, none⟩), .int .i64 t, .agg #[.int .i64 q, .int .i64 a, .int .u32 o, .int .u32 x]] w fun e w' => e = .returned (.tuple #[.int .u32 0, .int .i64 0]) ∧ Below w.heap.size w w' := by
  obtain ⟨⟨wv, tv, cb, hp⟩, hl⟩ := h
  have B0 : ∀ n, Below w.heap.size w ((w.alloc (.cells #[.int .i64 q, .int .i64 a, .int .u32 o, .int .u32 x] 161)).drewN n) := fun n => below_drewN ((Below.refl _ _).alloc (Nat.le_refl _) _) n
  have t0 := hp.top.alloc (.cells #[.int .i64 q, .int .i64 a, .int .u32 o, .int .u32 x] 161)
  have q0 := t0.cell (i := 0) rfl
  have q1 := t0.cell (i := 1) rfl
  obtain ⟨wa, wc, hwv⟩ : ∃ a c, wv = .slice a ws.length c := by obtain ⟨a, cap, e, _⟩ := hp.words; exact ⟨a, cap, e⟩
  rw [hwv] at q0
  clear hwv t0 hl hp
  go_enter Try.func99, Try.ntmps99
  go_wp2
  go_quiet (fail)
  go_wp2
  go_ret2
  exact ⟨rfl, B0 _⟩
set_option maxHeartbeats 4000000 in
set_option maxRecDepth 100000 in
theorem do_no3 (w : World) (p : Nat) (S : Nat → Prop) (k : Nat) (ws : List Int) (l : List T) (h : RO w p S k ws l) (t q a o x : Int) (h1 : decide (t < 0) = false) (h2 : decide ((k : Int) ≤ t) = false) (h3 : decide (a < 0) = false) (h4 : decide ((ws.length : Int) ≤ a) = true) :
    Calls Try.prog 99 #[.pointer (some ⟨p, 0, none⟩), .int .i64 t, .agg #[.int .i64 q, .int .i64 a, .int .u32 o, .int .u32 x]] w fun e w' => e = .returned (.tuple #[.int .u32 0, .int .i64 0]) ∧ Below w.heap.size w w' := by
  obtain ⟨⟨wv, tv, cb, hp⟩, hl⟩ := h
  have B0 : ∀ n, Below w.heap.size w ((w.alloc (.cells #[.int .i64 q, .int .i64 a, .int .u32 o, .int .u32 x] 161)).drewN n) := fun n => below_drewN ((Below.refl _ _).alloc (Nat.le_refl _) _) n
  have t0 := hp.top.alloc (.cells #[.int .i64 q, .int .i64 a, .int .u32 o, .int .u32 x] 161)
  have q0 := t0.cell (i := 0) rfl
  have q1 := t0.cell (i := 1) rfl
  obtain ⟨wa, wc, hwv⟩ : ∃ a c, wv = .slice a ws.length c := by obtain ⟨a, cap, e, _⟩ := hp.words; exact ⟨a, cap, e⟩
  rw [hwv] at q0
  clear hwv t0 hl hp
  go_enter Try.func99, Try.ntmps99
  go_wp2
  go_quiet (fail)
  go_wp2
  go_ret2
  exact ⟨rfl, B0 _⟩
set_option maxHeartbeats 4000000 in
set_option maxRecDepth 100000 in
theorem do_no4 (w : World) (p : Nat) (S : Nat → Prop) (k : Nat) (ws : List Int) (l : List T) (h : RO w p S k ws l) (t q a o x : Int) (h1 : decide (t < 0) = false) (h2 : decide ((k : Int) ≤ t) = false) (h3 : decide (a < 0) = false) (h4 : decide ((ws.length : Int) ≤ a) = false) (h5 : decide (q < 1) = true) :
    Calls Try.prog 99 #[.pointer (some ⟨p, 0, none⟩), .int .i64 t, .agg #[.int .i64 q, .int .i64 a, .int .u32 o, .int .u32 x]] w fun e w' => e = .returned (.tuple #[.int .u32 0, .int .i64 0]) ∧ Below w.heap.size w w' := by
  obtain ⟨⟨wv, tv, cb, hp⟩, hl⟩ := h
  have B0 : ∀ n, Below w.heap.size w ((w.alloc (.cells #[.int .i64 q, .int .i64 a, .int .u32 o, .int .u32 x] 161)).drewN n) := fun n => below_drewN ((Below.refl _ _).alloc (Nat.le_refl _) _) n
  have t0 := hp.top.alloc (.cells #[.int .i64 q, .int .i64 a, .int .u32 o, .int .u32 x] 161)
  have q0 := t0.cell (i := 0) rfl
  have q1 := t0.cell (i := 1) rfl
  obtain ⟨wa, wc, hwv⟩ : ∃ a c, wv = .slice a ws.length c := by obtain ⟨a, cap, e, _⟩ := hp.words; exact ⟨a, cap, e⟩
  rw [hwv] at q0
  clear hwv t0 hl hp
  go_enter Try.func99, Try.ntmps99
  go_wp2
  go_quiet (fail)
  go_wp2
  go_ret2
  exact ⟨rfl, B0 _⟩
set_option maxHeartbeats 4000000 in
set_option maxRecDepth 100000 in
theorem do_no5 (w : World) (p : Nat) (S : Nat → Prop) (k : Nat) (ws : List Int) (l : List T) (h : RO w p S k ws l) (t q a o x : Int) (h1 : decide (t < 0) = false) (h2 : decide ((k : Int) ≤ t) = false) (h3 : decide (a < 0) = false) (h4 : decide ((ws.length : Int) ≤ a) = false) (h5 : decide (q < 1) = false) (h6 : decide (5 < q) = true) :
    Calls Try.prog 99 #[.pointer (some ⟨p, 0, none⟩), .int .i64 t, .agg #[.int .i64 q, .int .i64 a, .int .u32 o, .int .u32 x]] w fun e w' => e = .returned (.tuple #[.int .u32 0, .int .i64 0]) ∧ Below w.heap.size w w' := by
  obtain ⟨⟨wv, tv, cb, hp⟩, hl⟩ := h
  have B0 : ∀ n, Below w.heap.size w ((w.alloc (.cells #[.int .i64 q, .int .i64 a, .int .u32 o, .int .u32 x] 161)).drewN n) := fun n => below_drewN ((Below.refl _ _).alloc (Nat.le_refl _) _) n
  have t0 := hp.top.alloc (.cells #[.int .i64 q, .int .i64 a, .int .u32 o, .int .u32 x] 161)
  have q0 := t0.cell (i := 0) rfl
  have q1 := t0.cell (i := 1) rfl
  obtain ⟨wa, wc, hwv⟩ : ∃ a c, wv = .slice a ws.length c := by obtain ⟨a, cap, e, _⟩ := hp.words; exact ⟨a, cap, e⟩
  rw [hwv] at q0
  clear hwv t0 hl hp
  go_enter Try.func99, Try.ntmps99
  go_wp2
  go_quiet (fail)
  go_wp2
  go_ret2
  exact ⟨rfl, B0 _⟩
/-- Is there such a thread, such a word, such an access? -/
def inR (k n : Nat) (t q a : Int) : Bool := inB t k && inB a n && decide (1 ≤ q) && decide (q ≤ 5)
theorem do_no (w : World) (p : Nat) (S : Nat → Prop) (k : Nat) (ws : List Int) (l : List T) (h : RO w p S k ws l) (t q a o x : Int) (hn : inR k ws.length t q a = false) :
    Calls Try.prog 99 #[.pointer (some ⟨p, 0, none⟩), .int .i64 t, .agg #[.int .i64 q, .int .i64 a, .int .u32 o, .int .u32 x]] w fun e w' => e = .returned (.tuple #[.int .u32 0, .int .i64 0]) ∧ Below w.heap.size w w' := by
  by_cases c0 : t < 0
  · exact do_no0 w p S k ws l h t q a o x (by simpa using c0)
  by_cases c1 : (k : Int) ≤ t
  · exact do_no1 w p S k ws l h t q a o x (by simpa using c0) (by simpa using c1)
  by_cases c2 : a < 0
  · exact do_no2 w p S k ws l h t q a o x (by simpa using c0) (by simpa using c1) (by simpa using c2)
  by_cases c3 : (ws.length : Int) ≤ a
  · exact do_no3 w p S k ws l h t q a o x (by simpa using c0) (by simpa using c1) (by simpa using c2) (by simpa using c3)
  by_cases c4 : q < 1
  · exact do_no4 w p S k ws l h t q a o x (by simpa using c0) (by simpa using c1) (by simpa using c2) (by simpa using c3) (by simpa using c4)
  have c5 : 5 < q := by simp [inR, inB] at hn; omega
  exact do_no5 w p S k ws l h t q a o x (by simpa using c0) (by simpa using c1) (by simpa using c2) (by simpa using c3) (by simpa using c4) (by simpa using c5)
end Go.Proofs.Ytgoaaijdlhhkkaa.Ref04
