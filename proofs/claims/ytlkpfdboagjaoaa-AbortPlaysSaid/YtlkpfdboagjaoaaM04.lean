/- The document's port, as an object: New, Do. -/
import Derived.Test.YtlkpfdboagjaoaaDo02
import Derived.Test.YtlkpfdboagjaoaaRef03
import Derived.Deep.RegionHeld3
import Derived.Deep.DeepMust
import Derived.Deep.AppendLies
import Derived.Deep.RegionLaw
import Derived.Deep.CutRange
import Derived.Test.YtlkpfdboagjaoaaPortO
import Derived.Test.YtlkpfdboagjaoaaStepU
namespace Go.Proofs.Ytlkpfdboagjaoaa.Ref04
open Go Go.RowKit Go.Proofs.Ytlkpfdboagjaoaa.Heap Go.Proofs.Ytlkpfdboagjaoaa.Open Go.Proofs.Ytlkpfdboagjaoaa.Has Go.Proofs.Ytlkpfdboagjaoaa.Mem

/-- The document's counts of k threads behind the touches l. -/
def Cnts3 (k : Nat) (l : List T) (cs : List Value) : Prop := cs.length = k * 3 ∧ ∀ t : Nat, t < k → cs[t * 3]? = some (.int .i64 (acc l t : Nat)) ∧ cs[t * 3 + 1]? = some (.int .i64 (wrs l t : Nat)) ∧ cs[t * 3 + 2]? = some (.int .i64 (misses k l t : Nat))
structure Parts (w : World) (p : Nat) (S : Nat → Prop) (k : Nat) (ws : List Int) (l : List T) (wv tv : Value) (cb : Nat) : Prop where
  top : Row w p [wv, .int .i64 k, tv, .slice (some ⟨cb, 0, none⟩) k k]
  words : Src1 w wv .u32 ws
  wl : Lies wv (fun b => S b ∧ b ≠ p ∧ b ≠ cb)
  touched : OwnS w 0 183 3 tv (l.map T.cells)
  tl : Lies tv (fun b => S b ∧ b ≠ p ∧ b ≠ cb)
  apart : ∀ b, wv.ownBlock = some b → tv.ownBlock ≠ some b
  cnts : ∃ cs, Row w cb cs ∧ Cnts3 k l cs
  sp : S p
  sc : S cb
  ne : p ≠ cb
structure RO (w : World) (p : Nat) (S : Nat → Prop) (k : Nat) (ws : List Int) (l : List T) : Prop where
  ex : ∃ wv tv cb, Parts w p S k ws l wv tv cb
  lt : ∀ b, S b → b < w.heap.size
theorem lies_mono {v : Value} {S S' : Nat → Prop} (h : Lies v S) (hs : ∀ b, S b → S' b) : Lies v S' := fun b hb => hs b (h b hb)
theorem Parts.keep {U S : Nat → Prop} {w w' : World} {p k : Nat} {ws : List Int} {l : List T} {wv tv : Value} {cb : Nat} (h : Parts w p S k ws l wv tv cb) (hu : Upd U w w') (hd : ∀ b, S b → ¬ U b) : Parts w' p S k ws l wv tv cb :=
  ⟨h.top.upd hu (hd _ h.sp), Mem.Src1.keep h.words h.wl hu (fun b hb => hd b hb.1), h.wl, ⟨own_upd h.touched.1 hu (fun b hb => hd b (h.tl b hb).1), h.touched.2⟩, h.tl, h.apart,
    by obtain ⟨cs, h1, h2⟩ := h.cnts; exact ⟨cs, h1.upd hu (hd _ h.sc), h2⟩, h.sp, h.sc, h.ne⟩
theorem RO.keep {U S : Nat → Prop} {w w' : World} {p k : Nat} {ws : List Int} {l : List T} (h : RO w p S k ws l) (hu : Upd U w w') (hd : ∀ b, S b → ¬ U b) : RO w' p S k ws l := by
  obtain ⟨⟨wv, tv, cb, hp⟩, hl⟩ := h
  exact ⟨⟨wv, tv, cb, hp.keep hu hd⟩, fun b hb => Nat.lt_of_lt_of_le (hl b hb) hu.size⟩
theorem RO.alloc {S : Nat → Prop} {w : World} {p k : Nat} {ws : List Int} {l : List T} (h : RO w p S k ws l) (o : Obj) : RO (w.alloc o) p S k ws l := h.keep ((Upd.refl (fun _ => False) w).alloc o) fun _ _ => id
theorem RO.drewN {S : Nat → Prop} {w : World} {p k : Nat} {ws : List Int} {l : List T} (h : RO w p S k ws l) (n : Nat) : RO (w.drewN n) p S k ws l := h.keep ((Upd.refl (fun _ => False) w).drewN n) fun _ _ => id
theorem RO.below {S : Nat → Prop} {w w' : World} {p k : Nat} {ws : List Int} {l : List T} (h : RO w p S k ws l) (hb : Below w.heap.size w w') : RO w' p S k ws l := h.keep (Upd.of_below (S := fun _ => False) hb) fun _ _ => id

theorem Cnts3.step {k : Nat} {l : List T} {cs : List Value} (h : Cnts3 k l cs) (t : Nat) (a : Int) (wr r : Bool) (hr : miss l ⟨t, a, wr⟩ k = r) (ht : t < k) :
    Cnts3 k (l ++ [⟨t, a, wr⟩]) (((cs.set (t * 3) (.int .i64 ((acc l t : Nat) + 1))).set (t * 3 + 1) (.int .i64 (if wr = true then (wrs l t : Nat) + 1 else (wrs l t : Nat)))).set (t * 3 + 2) (.int .i64 (if r = true then (misses k l t : Nat) + 1 else (misses k l t : Nat)))) := by
  obtain ⟨hl, hc⟩ := h
  refine ⟨by simpa using hl, fun u hu => ?_⟩
  obtain ⟨e1, e2, e3⟩ := hc u hu
  rw [acc_snoc, wrs_snoc, misses_snoc, hr]
  by_cases e : t = u
  · subst e
    refine ⟨?_, ?_, ?_⟩
    · rw [List.getElem?_set_ne (by omega), List.getElem?_set_ne (by omega), List.getElem?_set_self (by omega), if_pos rfl]; push_cast; rfl
    · rw [List.getElem?_set_ne (by omega), List.getElem?_set_self (by simp; omega)]
      cases wr with
      | true => rw [if_pos rfl, if_pos ⟨rfl, rfl⟩]; push_cast; rfl
      | false => rw [if_neg (by decide), if_neg (by simp), Nat.add_zero]
    · rw [List.getElem?_set_self (by simp; omega)]
      cases r with
      | true => rw [if_pos rfl, if_pos ⟨rfl, rfl⟩]; push_cast; rfl
      | false => rw [if_neg (by decide), if_neg (by simp), Nat.add_zero]
  · have hne : ¬ (t : Int) = u := by omega
    have n1 : ¬ ((T.mk t a wr).t = (u : Int) ∧ (T.mk t a wr).wr = true) := by rintro ⟨h, _⟩; exact hne h
    have n2 : ¬ ((T.mk t a wr).t = (u : Int) ∧ r = true) := by rintro ⟨h, _⟩; exact hne h
    rw [if_neg hne, if_neg n1, if_neg n2]
    simp only [Nat.add_zero]
    refine ⟨?_, ?_, ?_⟩
    · rw [List.getElem?_set_ne (by omega), List.getElem?_set_ne (by omega), List.getElem?_set_ne (by omega)]; exact e1
    · rw [List.getElem?_set_ne (by omega), List.getElem?_set_ne (by omega), List.getElem?_set_ne (by omega)]; exact e2
    · rw [List.getElem?_set_ne (by omega), List.getElem?_set_ne (by omega), List.getElem?_set_ne (by omega)]; exact e3

set_option maxHeartbeats 4000000 in
set_option maxRecDepth 100000 in
theorem do_no0 (w : World) (p : Nat) (S : Nat → Prop) (k : Nat) (ws : List Int) (l : List T) (h : RO w p S k ws l) (t q a o x : Int)  (h1 : decide (t < 0) = true) :
    Calls Try.prog 115 #[.pointer (some ⟨p, 0, none⟩), .int .i64 t, .agg #[.int .i64 q, .int .i64 a, .int .u32 o, .int .u32 x]] w fun e w' => e = .returned (.tuple #[.int .u32 0, .int .i64 0]) ∧ Below w.heap.size w w' := by
  obtain ⟨⟨wv, tv, cb, hp⟩, hl⟩ := h
  have B0 : ∀ n, Below w.heap.size w ((w.alloc (.cells #[.int .i64 q, .int .i64 a, .int .u32 o, .int .u32 x] 181)).drewN n) := fun n => below_drewN ((Below.refl _ _).alloc (Nat.le_refl _) _) n
  have t0 := hp.top.alloc (.cells #[.int .i64 q, .int .i64 a, .int .u32 o, .int .u32 x] 181)
  have q0 := t0.cell (i := 0) rfl
  have q1 := t0.cell (i := 1) rfl
  obtain ⟨wa, wc, hwv⟩ : ∃ a c, wv = .slice a ws.length c := by obtain ⟨a, cap, e, _⟩ := hp.words; exact ⟨a, cap, e⟩
  rw [hwv] at q0
  clear hwv t0 hl hp
  go_enter Try.func115, Try.ntmps115
  go_wp2
  go_quiet (fail)
  go_wp2
  go_ret2
  exact ⟨rfl, B0 _⟩
set_option maxHeartbeats 4000000 in
set_option maxRecDepth 100000 in
theorem do_no1 (w : World) (p : Nat) (S : Nat → Prop) (k : Nat) (ws : List Int) (l : List T) (h : RO w p S k ws l) (t q a o x : Int) (h1 : decide (t < 0) = false) (h2 : decide ((k : Int) ≤ t) = true) :
    Calls Try.prog 115 #[.pointer (some ⟨p, 0, none⟩), .int .i64 t, .agg #[.int .i64 q, .int .i64 a, .int .u32 o, .int .u32 x]] w fun e w' => e = .returned (.tuple #[.int .u32 0, .int .i64 0]) ∧ Below w.heap.size w w' := by
  obtain ⟨⟨wv, tv, cb, hp⟩, hl⟩ := h
  have B0 : ∀ n, Below w.heap.size w ((w.alloc (.cells #[.int .i64 q, .int .i64 a, .int .u32 o, .int .u32 x] 181)).drewN n) := fun n => below_drewN ((Below.refl _ _).alloc (Nat.le_refl _) _) n
  have t0 := hp.top.alloc (.cells #[.int .i64 q, .int .i64 a, .int .u32 o, .int .u32 x] 181)
  have q0 := t0.cell (i := 0) rfl
  have q1 := t0.cell (i := 1) rfl
  obtain ⟨wa, wc, hwv⟩ : ∃ a c, wv = .slice a ws.length c := by obtain ⟨a, cap, e, _⟩ := hp.words; exact ⟨a, cap, e⟩
  rw [hwv] at q0
  clear hwv t0 hl hp
  go_enter Try.func115, Try.ntmps115
  go_wp2
  go_quiet (fail)
  go_wp2
  go_ret2
  exact ⟨rfl, B0 _⟩
set_option maxHeartbeats 4000000 in
set_option maxRecDepth 100000 in
theorem do_no2 (w : World) (p : Nat) (S : Nat → Prop) (k : Nat) (ws : List Int) (l : List T) (h : RO w p S k ws l) (t q a o x : Int) (h1 : decide (t < 0) = false) (h2 : decide ((k : Int) ≤ t) = false) (h3 : decide (a < 0) = true) :
    Calls Try.prog 115 #[.pointer (some ⟨p, 0, none⟩), .int .i64 t, .agg #[.int .i64 q, .int .i64 a, .int .u32 o, .int .u32 x]] w fun e w' => e = .returned (.tuple #[.int .u32 0, .int .i64 0]) ∧ Below w.heap.size w w' := by
  obtain ⟨⟨wv, tv, cb, hp⟩, hl⟩ := h
  have B0 : ∀ n, Below w.heap.size w ((w.alloc (.cells #[.int .i64 q, .int .i64 a, .int .u32 o, .int .u32 x] 181)).drewN n) := fun n => below_drewN ((Below.refl _ _).alloc (Nat.le_refl _) _) n
  have t0 := hp.top.alloc (.cells #[.int .i64 q, .int .i64 a, .int .u32 o, .int .u32 x] 181)
  have q0 := t0.cell (i := 0) rfl
  have q1 := t0.cell (i := 1) rfl
  obtain ⟨wa, wc, hwv⟩ : ∃ a c, wv = .slice a ws.length c := by obtain ⟨a, cap, e, _⟩ := hp.words; exact ⟨a, cap, e⟩
  rw [hwv] at q0
  clear hwv t0 hl hp
  go_enter Try.func115, Try.ntmps115
  go_wp2
  go_quiet (fail)
  go_wp2
  go_ret2
  exact ⟨rfl, B0 _⟩
set_option maxHeartbeats 4000000 in
set_option maxRecDepth 100000 in
theorem do_no3 (w : World) (p : Nat) (S : Nat → Prop) (k : Nat) (ws : List Int) (l : List T) (h : RO w p S k ws l) (t q a o x : Int) (h1 : decide (t < 0) = false) (h2 : decide ((k : Int) ≤ t) = false) (h3 : decide (a < 0) = false) (h4 : decide ((ws.length : Int) ≤ a) = true) :
    Calls Try.prog 115 #[.pointer (some ⟨p, 0, none⟩), .int .i64 t, .agg #[.int .i64 q, .int .i64 a, .int .u32 o, .int .u32 x]] w fun e w' => e = .returned (.tuple #[.int .u32 0, .int .i64 0]) ∧ Below w.heap.size w w' := by
  obtain ⟨⟨wv, tv, cb, hp⟩, hl⟩ := h
  have B0 : ∀ n, Below w.heap.size w ((w.alloc (.cells #[.int .i64 q, .int .i64 a, .int .u32 o, .int .u32 x] 181)).drewN n) := fun n => below_drewN ((Below.refl _ _).alloc (Nat.le_refl _) _) n
  have t0 := hp.top.alloc (.cells #[.int .i64 q, .int .i64 a, .int .u32 o, .int .u32 x] 181)
  have q0 := t0.cell (i := 0) rfl
  have q1 := t0.cell (i := 1) rfl
  obtain ⟨wa, wc, hwv⟩ : ∃ a c, wv = .slice a ws.length c := by obtain ⟨a, cap, e, _⟩ := hp.words; exact ⟨a, cap, e⟩
  rw [hwv] at q0
  clear hwv t0 hl hp
  go_enter Try.func115, Try.ntmps115
  go_wp2
  go_quiet (fail)
  go_wp2
  go_ret2
  exact ⟨rfl, B0 _⟩
set_option maxHeartbeats 4000000 in
set_option maxRecDepth 100000 in
theorem do_no4 (w : World) (p : Nat) (S : Nat → Prop) (k : Nat) (ws : List Int) (l : List T) (h : RO w p S k ws l) (t q a o x : Int) (h1 : decide (t < 0) = false) (h2 : decide ((k : Int) ≤ t) = false) (h3 : decide (a < 0) = false) (h4 : decide ((ws.length : Int) ≤ a) = false) (h5 : decide (q < 1) = true) :
    Calls Try.prog 115 #[.pointer (some ⟨p, 0, none⟩), .int .i64 t, .agg #[.int .i64 q, .int .i64 a, .int .u32 o, .int .u32 x]] w fun e w' => e = .returned (.tuple #[.int .u32 0, .int .i64 0]) ∧ Below w.heap.size w w' := by
  obtain ⟨⟨wv, tv, cb, hp⟩, hl⟩ := h
  have B0 : ∀ n, Below w.heap.size w ((w.alloc (.cells #[.int .i64 q, .int .i64 a, .int .u32 o, .int .u32 x] 181)).drewN n) := fun n => below_drewN ((Below.refl _ _).alloc (Nat.le_refl _) _) n
  have t0 := hp.top.alloc (.cells #[.int .i64 q, .int .i64 a, .int .u32 o, .int .u32 x] 181)
  have q0 := t0.cell (i := 0) rfl
  have q1 := t0.cell (i := 1) rfl
  obtain ⟨wa, wc, hwv⟩ : ∃ a c, wv = .slice a ws.length c := by obtain ⟨a, cap, e, _⟩ := hp.words; exact ⟨a, cap, e⟩
  rw [hwv] at q0
  clear hwv t0 hl hp
  go_enter Try.func115, Try.ntmps115
  go_wp2
  go_quiet (fail)
  go_wp2
  go_ret2
  exact ⟨rfl, B0 _⟩
set_option maxHeartbeats 4000000 in
set_option maxRecDepth 100000 in
theorem do_no5 (w : World) (p : Nat) (S : Nat → Prop) (k : Nat) (ws : List Int) (l : List T) (h : RO w p S k ws l) (t q a o x : Int) (h1 : decide (t < 0) = false) (h2 : decide ((k : Int) ≤ t) = false) (h3 : decide (a < 0) = false) (h4 : decide ((ws.length : Int) ≤ a) = false) (h5 : decide (q < 1) = false) (h6 : decide (5 < q) = true) :
    Calls Try.prog 115 #[.pointer (some ⟨p, 0, none⟩), .int .i64 t, .agg #[.int .i64 q, .int .i64 a, .int .u32 o, .int .u32 x]] w fun e w' => e = .returned (.tuple #[.int .u32 0, .int .i64 0]) ∧ Below w.heap.size w w' := by
  obtain ⟨⟨wv, tv, cb, hp⟩, hl⟩ := h
  have B0 : ∀ n, Below w.heap.size w ((w.alloc (.cells #[.int .i64 q, .int .i64 a, .int .u32 o, .int .u32 x] 181)).drewN n) := fun n => below_drewN ((Below.refl _ _).alloc (Nat.le_refl _) _) n
  have t0 := hp.top.alloc (.cells #[.int .i64 q, .int .i64 a, .int .u32 o, .int .u32 x] 181)
  have q0 := t0.cell (i := 0) rfl
  have q1 := t0.cell (i := 1) rfl
  obtain ⟨wa, wc, hwv⟩ : ∃ a c, wv = .slice a ws.length c := by obtain ⟨a, cap, e, _⟩ := hp.words; exact ⟨a, cap, e⟩
  rw [hwv] at q0
  clear hwv t0 hl hp
  go_enter Try.func115, Try.ntmps115
  go_wp2
  go_quiet (fail)
  go_wp2
  go_ret2
  exact ⟨rfl, B0 _⟩
/-- Is there such a thread, such a word, such an access? -/
def inR (k n : Nat) (t q a : Int) : Bool := inB t k && inB a n && decide (1 ≤ q) && decide (q ≤ 5)
theorem do_no (w : World) (p : Nat) (S : Nat → Prop) (k : Nat) (ws : List Int) (l : List T) (h : RO w p S k ws l) (t q a o x : Int) (hn : inR k ws.length t q a = false) :
    Calls Try.prog 115 #[.pointer (some ⟨p, 0, none⟩), .int .i64 t, .agg #[.int .i64 q, .int .i64 a, .int .u32 o, .int .u32 x]] w fun e w' => e = .returned (.tuple #[.int .u32 0, .int .i64 0]) ∧ Below w.heap.size w w' := by
  by_cases c0 : t < 0
  · exact do_no0 w p S k ws l h t q a o x (by simpa using c0)
  by_cases c1 : (k : Int) ≤ t
  · exact do_no1 w p S k ws l h t q a o x (by simpa using c0) (by simpa using c1)
  by_cases c2 : a < 0
  · exact do_no2 w p S k ws l h t q a o x (by simpa using c0) (by simpa using c1) (by simpa using c2)
  by_cases c3 : (ws.length : Int) ≤ a
  · exact do_no3 w p S k ws l h t q a o x (by simpa using c0) (by simpa using c1) (by simpa using c2) (by simpa using c3)
  by_cases c4 : q < 1
  · exact do_no4 w p S k ws l h t q a o x (by simpa using c0) (by simpa using c1) (by simpa using c2) (by simpa using c3) (by simpa using c4)
  have c5 : 5 < q := by simp [inR, inB] at hn; omega
  exact do_no5 w p S k ws l h t q a o x (by simpa using c0) (by simpa using c1) (by simpa using c2) (by simpa using c3) (by simpa using c4) (by simpa using c5)
end Go.Proofs.Ytlkpfdboagjaoaa.Ref04

namespace Go.Proofs.Ytlkpfdboagjaoaa.Ref04
open Go Go.RowKit Go.Proofs.Ytlkpfdboagjaoaa.Heap Go.Proofs.Ytlkpfdboagjaoaa.Open Go.Proofs.Ytlkpfdboagjaoaa.Has Go.Proofs.Ytlkpfdboagjaoaa.Mem

/-- The document's port in the midst of an access: its counts are the cells cs; bo and bx are the call's own boxes. -/
structure Mid (w0 W : World) (p cb bo bx : Nat) (S : Nat → Prop) (k : Nat) (ws : List Int) (l : List T) (wv tv : Value) (oc xc cs : List Value) : Prop where
  top : Row W p [wv, .int .i64 k, tv, .slice (some ⟨cb, 0, none⟩) k k]
  words : Src1 W wv .u32 ws
  touched : OwnS W 0 183 3 tv (l.map T.cells)
  row : Row W cb cs
  obo : Row W bo oc
  obx : Row W bx xc
  upd : Upd S w0 W
  sc : S cb
  npc : p ≠ cb
  nob : bo ≠ cb
  nxb : bx ≠ cb
  nw : wv.ownBlock ≠ some cb
  nt : tv.ownBlock ≠ some cb
theorem Mid.keep {U : Nat → Prop} {w0 W W' : World} {p cb bo bx : Nat} {S : Nat → Prop} {k : Nat} {ws : List Int} {l : List T} {wv tv : Value} {oc xc cs : List Value} (h : Mid w0 W p cb bo bx S k ws l wv tv oc xc cs) (hu : Upd U W W') (hn : ∀ b, b < W.heap.size → ¬ U b) : Mid w0 W' p cb bo bx S k ws l wv tv oc xc cs := by
  have hu' : Upd (fun _ => False) W W' := hu.mono fun i hi hU => hn i hi hU
  exact ⟨h.top.upd hu' id, Mem.Src1.keep (S := fun _ => True) h.words (fun _ _ => trivial) hu' (fun _ _ => id), ⟨own_upd h.touched.1 hu' (fun _ _ => id), h.touched.2⟩, h.row.upd hu' id, h.obo.upd hu' id, h.obx.upd hu' id, h.upd.trans (hu'.mono fun _ _ e => e.elim), h.sc, h.npc, h.nob, h.nxb, h.nw, h.nt⟩
theorem Mid.drew {w0 W : World} {p cb bo bx : Nat} {S : Nat → Prop} {k : Nat} {ws : List Int} {l : List T} {wv tv : Value} {oc xc cs : List Value} (h : Mid w0 W p cb bo bx S k ws l wv tv oc xc cs) : Mid w0 W.drew p cb bo bx S k ws l wv tv oc xc cs := h.keep (U := fun _ => False) ((Upd.refl _ _).drew) fun _ _ => id
theorem Mid.set {w0 W : World} {p cb bo bx : Nat} {S : Nat → Prop} {k : Nat} {ws : List Int} {l : List T} {wv tv : Value} {oc xc cs : List Value} (h : Mid w0 W p cb bo bx S k ws l wv tv oc xc cs) (i : Nat) (v : Value) : Mid w0 (W.setCell ⟨cb, i, none⟩ v) p cb bo bx S k ws l wv tv oc xc (cs.set i v) := by
  have hu := Upd.one W cb i v
  exact ⟨h.top.upd hu h.npc, Mem.Src1.keep (S := fun b => b ≠ cb) h.words (fun b hb e => h.nw (by rw [hb, e])) hu (fun _ hb => hb), ⟨own_upd h.touched.1 hu (fun b hb e => h.nt (by rw [hb, e])), h.touched.2⟩, h.row.set i v, h.obo.upd hu h.nob, h.obx.upd hu h.nxb, h.upd.setCell (p := ⟨cb, i, none⟩) (.inl h.sc) v, h.sc, h.npc, h.nob, h.nxb, h.nw, h.nt⟩
theorem info_touch : (Try.prog.info? 183).map (fun i => (i.zero, i.size, i.bytes)) = some (some (.agg #[.int .i64 0, .int .i64 0, .bool false]), 3, 24) := by kernel_rfl
theorem set_same {cs : List Value} {i : Nat} {v : Value} (h : cs[i]? = some v) : cs.set i v = cs := by
  apply List.ext_getElem?
  intro j
  by_cases e : i = j
  · subst e
    rw [List.getElem?_set_self (List.getElem?_eq_some_iff.1 h).1, h]
  · rw [List.getElem?_set_ne e]

set_option maxHeartbeats 8000000 in
set_option maxRecDepth 100000 in
theorem do_yes (w : World) (p : Nat) (S : Nat → Prop) (k : Nat) (ws : List Int) (l : List T) (h : RO w p S k ws l) (hf : l.length < 1000000) (hk : k ≤ 64) (hws : ws.length ≤ 100000) (t : Nat) (q : Int) (a : Nat) (o x : Int) (wr r : Bool) (ht : t < k) (ha : a < ws.length) (q1 : 1 ≤ q) (q5 : q ≤ 5)
    (hq : decide (1 < q) = wr) (hr : miss l ⟨t, a, wr⟩ k = r) (us : List Int) (u d : Int) (hst : step02 ws q a o x = ((u, d), us)) :
    Calls Try.prog 115 #[.pointer (some ⟨p, 0, none⟩), .int .i64 t, .agg #[.int .i64 q, .int .i64 a, .int .u32 o, .int .u32 x]] w fun e w' => e = .returned (.tuple #[.int .u32 u, .int .i64 d]) ∧
      RO w' p (fun b => S b ∨ Btw w w' b) k us (l ++ [⟨t, a, wr⟩]) ∧ Upd S w w' := by
  obtain ⟨⟨wv, tv, cb, hp⟩, hl⟩ := h
  have t0 := hp.top.alloc (.cells #[.int .i64 q, .int .i64 a, .int .u32 o, .int .u32 x] 181)
  have g0 := t0.cell (i := 0) rfl
  have g1 := t0.cell (i := 1) rfl
  obtain ⟨cs, hrow, hc⟩ := hp.cnts
  obtain ⟨e0, e1, e2⟩ := hc.2 t ht
  obtain ⟨wa, wcap, hwv⟩ : ∃ a c, wv = .slice a ws.length c := by obtain ⟨a, cap, e, _⟩ := hp.words; exact ⟨a, cap, e⟩
  have HWV := Lib.hid hwv
  rw [hwv] at g0
  have h1 : decide ((t : Int) < 0) = false := by simp
  have h2 : decide ((k : Int) ≤ t) = false := by simp; omega
  have h3 : decide ((a : Int) < 0) = false := by simp
  have h4 : decide ((ws.length : Int) ≤ a) = false := by simp; omega
  have h7 : decide (k ≤ t) = false := by simp; omega
  have h8 : decide (ws.length ≤ a) = false := by simp; omega
  have h5 : decide (q < 1) = false := by simp; omega
  have h6 : decide (5 < q) = false := by simp; omega
  have HC := Lib.hid (hc.step t a wr r hr ht)
  have HR := Lib.hid hr
  have HST := Lib.hid hst
  have hA := acc_le l t
  have hW := wrs_le l t
  have hM := misses_acc k l t
  have ht' : (t : Int) < k := by omega
  have hk' : (k : Int) ≤ 64 := by omega
  have lp := hl _ hp.sp
  have lc := hl _ hp.sc
  have M1 : ∀ n, Mid w (((w.alloc (.cells #[.int .i64 q, .int .i64 a, .int .u32 o, .int .u32 x] 181)).drewN n).alloc (.cells #[.int .i64 t, .int .i64 a, .bool wr] 183)) p cb w.heap.size (w.heap.size + 1) S k ws l wv tv [.int .i64 q, .int .i64 a, .int .u32 o, .int .u32 x] [.int .i64 t, .int .i64 a, .bool wr] cs := by
    intro n
    have hu : Upd (fun _ => False) w (((w.alloc (.cells #[.int .i64 q, .int .i64 a, .int .u32 o, .int .u32 x] 181)).drewN n).alloc (.cells #[.int .i64 t, .int .i64 a, .bool wr] 183)) := (((Upd.refl _ _).alloc _).drewN n).alloc _
    exact ⟨hp.top.upd hu id, Mem.Src1.keep (S := fun _ => True) hp.words (fun _ _ => trivial) hu (fun _ _ => id), ⟨own_upd hp.touched.1 hu (fun _ _ => id), hp.touched.2⟩, hrow.upd hu id, ((Row.new' rfl).drewN n).alloc _, Row.new' (by simp [World.drewN]), hu.mono fun _ _ e => e.elim, hp.sc, hp.ne, by omega, by omega, fun e => (hp.wl _ e).2.2 rfl, fun e => (hp.tl _ e).2.2 rfl⟩
  obtain ⟨y0, hy0⟩ : ∃ y, acc l t = y := ⟨_, rfl⟩
  obtain ⟨y1, hy1⟩ : ∃ y, wrs l t = y := ⟨_, rfl⟩
  obtain ⟨y2, hy2⟩ : ∃ y, misses k l t = y := ⟨_, rfl⟩
  rw [hy0] at e0 hA hW hM
  rw [hy1] at e1 hW
  rw [hy2] at e2 hM
  have HCC := HC.out
  rw [hy0, hy1, hy2] at HCC
  have HC2 := Lib.hid HCC
  have E0 := Lib.hid e0
  have E1 := Lib.hid e1
  have E2 := Lib.hid e2
  have b0 : (y0 : Int) ≤ 1000000 := by omega
  have b1 : (y1 : Int) ≤ 1000000 := by omega
  have b2 : (y2 : Int) ≤ 1000000 := by omega
  clear hwv hr hst HC HCC hy0 hy1 hy2 e0 e1 e2 hc t0
  go_enter Try.func115, Try.ntmps115
  go_wp2
  go_quiet (fail)
  have M2 := M1 nq
  clear M1 g0 g1 h1 h2 h3 h4 h5 h6 h7 h8
  go_wp2_with fail
  obtain ⟨W2, hW2⟩ : ∃ W, (((w.alloc (.cells #[.int .i64 q, .int .i64 a, .int .u32 o, .int .u32 x] 181)).drewN nq).alloc (.cells #[.int .i64 t, .int .i64 a, .bool wr] 183)) = W := ⟨_, rfl⟩
  rw [hW2] at M2 ⊢
  clear hW2
  have c3 := M2.top.cell (i := 3) rfl
  have d0 := M2.row.cell E0.out
  have z0 := M2.row.frozen (t * 3)
  go_region
  clear c3 d0 z0
  obtain ⟨W3, hW3⟩ : ∃ W, (W2.setCell ⟨cb, t * 3, none⟩ (.int .i64 ((y0 : Nat) + 1))).drew = W := ⟨_, rfl⟩
  have M3 := (M2.set (t * 3) (.int .i64 ((y0 : Nat) + 1))).drew
  rw [hW3] at M3 ⊢
  clear hW3 M2
  have c2 := M3.obx.cell (i := 2) rfl
  go_upto_if 66 with (fail)
  go_cut [] from 67 to 77 (fun wx => Mid w wx p cb w.heap.size (w.heap.size + 1) S k ws l wv tv [.int .i64 q, .int .i64 a, .int .u32 o, .int .u32 x] [.int .i64 t, .int .i64 a, .bool wr] ((cs.set (t * 3) (.int .i64 ((y0 : Nat) + 1))).set (t * 3 + 1) (.int .i64 (if wr = true then (y1 : Nat) + 1 else (y1 : Nat)))))
  case first =>
    have d1 := M3.row.cell (i := t * 3 + 1) (by rw [List.getElem?_set_ne (by omega)]; exact E1.out)
    have z1 := M3.row.frozen (t * 3 + 1)
    have c3 := M3.top.cell (i := 3) rfl
    cases wr
    · go_wp2_with fail
      go_meet
      case rel =>
        have M4 := M3
        rw [← set_same (show (cs.set (t * 3) (.int .i64 ((y0 : Nat) + 1)))[t * 3 + 1]? = some (.int .i64 (y1 : Nat)) by rw [List.getElem?_set_ne (by omega)]; exact E1.out)] at M4
        simpa using M4
    · go_wp2_with fail
      go_region
      go_wp2_with fail
      go_meet
      case rel =>
        have M4 := (M3.set (t * 3 + 1) (.int .i64 ((y1 : Nat) + 1))).drew
        simpa using M4
  case rest =>
  clear M3 c2
  have M4 := hcut
  clear hcut
  obtain ⟨W4, hW4⟩ : ∃ W, wc = W := ⟨_, rfl⟩
  rw [hW4] at M4 ⊢
  clear hW4
  have KM := fun W (hh : SrcS W tv 3 (l.map T.cells)) => Ref03.miss_all W tv l hh (by omega) t a wr k (by omega)
  rw [HR.out] at KM
  have HKM := Lib.hid KM
  clear KM
  have c2 := M4.top.cell (i := 2) rfl
  have c1 := M4.top.cell (i := 1) rfl
  have x0 := M4.obx.cell (i := 0) rfl
  have x1 := M4.obx.cell (i := 1) rfl
  have x2 := M4.obx.cell (i := 2) rfl
  have N4 := M4.drew
  go_wp2_with fail
  go_region_held3 (fun w' => w'.cell? ⟨p, 2, none⟩ = some tv ∧ w'.cell? ⟨p, 1, none⟩ = some (.int .i64 k) ∧ w'.cell? ⟨w.heap.size + 1, 0, none⟩ = some (.int .i64 t) ∧ w'.cell? ⟨w.heap.size + 1, 1, none⟩ = some (.int .i64 a) ∧ w'.cell? ⟨w.heap.size + 1, 2, none⟩ = some (.bool wr)) ((first | exact ⟨c2, c1, x0, x1, x2⟩ | exact ⟨n2, n1, n3, n4, n5⟩))
    ((first
      | (go_at_call 116; refine (HKM.out _ (by first | exact N4.touched.src | exact M4.touched.src)).mono ?_; rintro e w5 ⟨rfl, b5⟩; have M5 := Mid.keep (U := fun _ => False) N4 (Upd.of_below b5) (fun _ _ => id); have n2 := M5.top.cell (i := 2) rfl; have n1 := M5.top.cell (i := 1) rfl; have n3 := M5.obx.cell (i := 0) rfl; have n4 := M5.obx.cell (i := 1) rfl; have n5 := M5.obx.cell (i := 2) rfl)))
  clear c2 c1 x0 x1 x2 N4 M4 n2 n1 n3 n4 n5
  go_upto_if 87 with (fail)
  go_cut [] from 88 to 98 (fun wx => Mid w wx p cb w.heap.size (w.heap.size + 1) S k ws l wv tv [.int .i64 q, .int .i64 a, .int .u32 o, .int .u32 x] [.int .i64 t, .int .i64 a, .bool wr] (((cs.set (t * 3) (.int .i64 ((y0 : Nat) + 1))).set (t * 3 + 1) (.int .i64 (if wr = true then (y1 : Nat) + 1 else (y1 : Nat)))).set (t * 3 + 2) (.int .i64 (if r = true then (y2 : Nat) + 1 else (y2 : Nat)))))
  case first =>
    have c3 := M5.top.cell (i := 3) rfl
    have d2 := M5.row.cell (i := t * 3 + 2) (by rw [List.getElem?_set_ne (by omega), List.getElem?_set_ne (by omega)]; exact E2.out)
    have z2 := M5.row.frozen (t * 3 + 2)
    cases r
    · go_wp2_with fail
      go_meet
      case rel =>
        have M6 := M5
        rw [← set_same (show ((cs.set (t * 3) (.int .i64 ((y0 : Nat) + 1))).set (t * 3 + 1) (.int .i64 (if wr = true then (y1 : Nat) + 1 else (y1 : Nat))))[t * 3 + 2]? = some (.int .i64 (y2 : Nat)) by rw [List.getElem?_set_ne (by omega), List.getElem?_set_ne (by omega)]; exact E2.out)] at M6
        simpa using M6
    · go_wp2_with fail
      go_region
      go_wp2_with fail
      go_meet
      case rel =>
        have M6 := (M5.set (t * 3 + 2) (.int .i64 ((y2 : Nat) + 1))).drew
        simpa using M6
  case rest =>
  clear M5
  have M6 := hcut
  clear hcut
  obtain ⟨W6, hW6⟩ : ∃ W, wc = W := ⟨_, rfl⟩
  rw [hW6] at M6 ⊢
  clear hW6
  go_upto_region 9 with (fail)
  go_cut [] from 99 to 108 (fun wx => ∃ tv', Mid w wx p cb w.heap.size (w.heap.size + 1) S k ws (l ++ [⟨t, a, wr⟩]) wv tv' [.int .i64 q, .int .i64 a, .int .u32 o, .int .u32 x] [.int .i64 t, .int .i64 a, .bool wr] (((cs.set (t * 3) (.int .i64 ((y0 : Nat) + 1))).set (t * 3 + 1) (.int .i64 (if wr = true then (y1 : Nat) + 1 else (y1 : Nat)))).set (t * 3 + 2) (.int .i64 (if r = true then (y2 : Nat) + 1 else (y2 : Nat)))) ∧ ∀ b, tv'.ownBlock = some b → (S b ∨ w.heap.size ≤ b) ∧ b < wx.heap.size ∧ b ≠ p ∧ wv.ownBlock ≠ some b)
  case first =>
    have c2 := M6.top.cell (i := 2) rfl
    have x0 := M6.obx.cell (i := 0) rfl
    have x1 := M6.obx.cell (i := 1) rfl
    have x2 := M6.obx.cell (i := 2) rfl
    have M7 := (M6.keep (U := fun _ => False) ((Upd.refl _ _).alloc (.cells #[.int .i64 t, .int .i64 a, .bool wr] 183)) (fun _ _ => id)).drew
    have n7 : Row ((W6.alloc (.cells #[.int .i64 t, .int .i64 a, .bool wr] 183)).drew) W6.heap.size [.int .i64 t, .int .i64 a, .bool wr] := (Row.new' rfl).drew
    obtain ⟨ti, i1, i2, i3, i4⟩ := info_parts info_touch
    have tlt : ∀ b, tv.ownBlock = some b → b < W6.heap.size := fun b hb => (own_lt M6.touched.1 hb).1
    have wlt : ∀ b, wv.ownBlock = some b → b < W6.heap.size := fun b hb => Nat.lt_of_lt_of_le (hl b (hp.wl b hb).1) M6.upd.size
    have s7 : W6.heap.size < ((W6.alloc (.cells #[.int .i64 t, .int .i64 a, .bool wr] 183)).drew).heap.size := by simp [World.drew]
    obtain ⟨W7, hW7⟩ : ∃ W, (W6.alloc (.cells #[.int .i64 t, .int .i64 a, .bool wr] 183)).drew = W := ⟨_, rfl⟩
    rw [hW7] at M7 n7 s7
    have c27 := M7.top.cell (i := 2) rfl
    go_wp2_with fail
    go_region_law (refine step_append_lies _ rfl (.tmp 103) (.tmp 105) 119 rfl 0 183 ti (.agg #[.int .i64 0, .int .i64 0, .bool false]) 3 24 Try.underlying119 i1 i2 i3 i4 rfl (by decide) tv (l.map T.cells).length (l.map T.cells).flatten rfl M7.touched.1 ⟨W6.heap.size, 0, none⟩ 1 1 [.int .i64 t, .int .i64 a, .bool wr] rfl rfl (row_news n7) (by intro u hu; simp at hu; rcases hu with rfl | rfl | rfl <;> rfl) (by decide) (by rw [List.length_map]; unfold maxLen; omega) (by rw [List.length_map]; omega) (Nat.zero_le _) _ rfl ?_; intro g gc w8 hown8 hgrow hat hlt8; have u8 := Upd.grown hgrow; have top8 := M7.top.upd u8 (fun e => by exact (hp.tl _ e).2.1 rfl); have y2' := top8.cell (i := 2) rfl; have yz := top8.frozen 2)
    all_goals
      go_wp2_with fail
      go_meet
      case rel =>
        have hup : Upd (fun k => k = p) w8 (w8.setCell ⟨p, 2, none⟩ (.slice (some ⟨g, 0, none⟩) (l.length + 1) gc)) := Upd.one _ _ _ _
        have hgp : g ≠ p := by rcases hat with e | e; exact (hp.tl _ e).2.1; have := M6.upd.size; omega
        have hgc : g ≠ cb := by rcases hat with e | e; exact (hp.tl _ e).2.2; have := M6.upd.size; omega
        have top9 := top8.set 2 (.slice (some ⟨g, 0, none⟩) (l.length + 1) gc)
        have hs8 : OwnS w8 0 183 3 (.slice (some ⟨g, 0, none⟩) (l.length + 1) gc) (List.map T.cells (l ++ [(⟨t, a, wr⟩ : T)])) := by
          rw [List.map_append]
          refine OwnS.snoc M6.touched.2 rfl ?_
          simpa [T.cells] using hown8
        have nwp : ∀ b, wv.ownBlock = some b → b ≠ p := fun b hb => (hp.wl b hb).2.1
        have bo6 := M6.obo.lt
        have bx6 := M6.obx.lt
        refine ⟨_, ⟨top9, ?_, ?_, ?_, ?_, ?_, ?_, M6.sc, M6.npc, M6.nob, M6.nxb, M6.nw, ?_⟩, ?_⟩
        · exact Mem.Src1.keep (S := fun b => b ≠ p) (Mem.Src1.keep (S := fun b => tv.ownBlock ≠ some b) M7.words (fun b hb e => hp.apart b hb e) u8 (fun _ hb e => hb e)) (fun b hb => nwp b hb) hup (fun _ hb => hb)
        · exact ⟨own_upd hs8.1 hup (fun b hb e => by simp [Value.ownBlock] at hb; omega), hs8.2⟩
        · exact (M7.row.upd u8 (fun e => M6.nt e)).upd hup (fun e => M6.npc e.symm)
        · exact (M7.obo.upd u8 (fun e => Nat.lt_irrefl _ (hl _ (hp.tl _ e).1))).upd hup (fun e => Nat.lt_irrefl w.heap.size (by have e2 : w.heap.size = p := e; omega))
        · exact (M7.obx.upd u8 (fun e => Nat.lt_irrefl w.heap.size (Nat.lt_of_succ_lt (hl _ (hp.tl _ e).1)))).upd hup (fun e => Nat.lt_irrefl w.heap.size (by have e2 : w.heap.size + 1 = p := e; omega))
        · exact (M7.upd.trans (u8.mono fun i _ e => (hp.tl _ e).1)).setCell (p := ⟨p, 2, none⟩) (.inl hp.sp) _
        · intro e; simp [Value.ownBlock] at e; omega
        · intro b hb
          simp [Value.ownBlock] at hb
          subst hb
          have hz := M6.upd.size
          refine ⟨?_, by simpa using hlt8, hgp, ?_⟩
          · rcases hat with e | e
            · exact .inl (hp.tl _ e).1
            · exact .inr (by omega)
          · intro e
            rcases hat with e2 | e2
            · exact hp.apart _ e e2
            · have := wlt _ e; omega
  case rest =>
  obtain ⟨tv', M9, T9⟩ := hcut
  clear M6
  obtain ⟨W9, hW9⟩ : ∃ W, wc = W := ⟨_, rfl⟩
  rw [hW9] at M9 T9 ⊢
  clear hW9
  have KD := fun W (hh : Src1 W wv .u32 ws) => do_all W wv ws hh q a o x hws
  simp only [HST.out] at KD
  have HKD := Lib.hid KD
  clear KD
  have c0 := M9.top.cell (i := 0) rfl
  have x0 := M9.obo.cell (i := 0) rfl
  have x1 := M9.obo.cell (i := 1) rfl
  have x2 := M9.obo.cell (i := 2) rfl
  have x3 := M9.obo.cell (i := 3) rfl
  have N9 := M9.drew
  go_wp2_with fail
  go_region_held3 (fun w' => w'.cell? ⟨p, 0, none⟩ = some wv ∧ w'.cell? ⟨w.heap.size, 0, none⟩ = some (.int .i64 q) ∧ w'.cell? ⟨w.heap.size, 1, none⟩ = some (.int .i64 a) ∧ w'.cell? ⟨w.heap.size, 2, none⟩ = some (.int .u32 o) ∧ w'.cell? ⟨w.heap.size, 3, none⟩ = some (.int .u32 x)) ((first | exact ⟨c0, x0, x1, x2, x3⟩ | exact ⟨n0, n1, n2, n3, n4⟩))
    ((first
      | (go_at_call 117; refine (HKD.out _ (by first | exact N9.words | exact M9.words)).mono ?_; rintro e w10 ⟨v', rfl, hsrc, b10, hv'⟩; obtain ⟨va, vcap, hvv⟩ : ∃ a c, v' = .slice a us.length c := (by obtain ⟨sa, sc, e, _, _⟩ := hsrc; exact ⟨sa, sc, e⟩); subst hvv; have M10 := Mid.keep (U := fun _ => False) N9 (Upd.of_below b10) (fun _ _ => id); have n0 := M10.top.cell (i := 0) rfl; have n1 := M10.obo.cell (i := 0) rfl; have n2 := M10.obo.cell (i := 1) rfl; have n3 := M10.obo.cell (i := 2) rfl; have n4 := M10.obo.cell (i := 3) rfl)))
  clear c0 x0 x1 x2 x3 n1 n2 n3 n4
  have z0 := M10.top.frozen 0
  go_wp2_with fail
  go_ret2
  have hup : Upd (fun k => k = p) w10 (w10.setCell ⟨p, 0, none⟩ (.slice va us.length vcap)) := Upd.one _ _ _ _
  have hz9 : W9.heap.size ≤ w10.heap.size := b10.size
  have hzw : w.heap.size ≤ W9.heap.size := M9.upd.size
  have hvp : ∀ b, (Value.slice va us.length vcap).ownBlock = some b → (S b ∨ W9.heap.size ≤ b) ∧ b ≠ p ∧ b ≠ cb ∧ tv'.ownBlock ≠ some b := by
    intro b hb
    rcases hv' with rfl | hv'
    · obtain ⟨s1, s2, s3⟩ := hp.wl b hb
      exact ⟨.inl s1, s2, s3, fun e => (T9 b e).2.2.2 hb⟩
    · have hb2 : W9.heap.size ≤ b := hv' b hb
      exact ⟨.inr hb2, by omega, by omega, fun e => by have := (T9 b e).2.1; omega⟩
  refine ⟨rfl, ⟨⟨.slice va us.length vcap, tv', cb, M10.top.set 0 (.slice va us.length vcap), Mem.Src1.keep (S := fun b => b ≠ p) hsrc (fun b hb => (hvp b hb).2.1) hup (fun _ hb => hb), ?_, ⟨own_upd M10.touched.1 hup (fun b hb e => (T9 b hb).2.2.1 e), M10.touched.2⟩, ?_, fun b hb => (hvp b hb).2.2.2, ⟨_, M10.row.upd hup (fun e => M10.npc e.symm), HC2.out⟩, .inl hp.sp, .inl hp.sc, hp.ne⟩, ?_⟩, M10.upd.setCell (p := ⟨p, 0, none⟩) (.inl hp.sp) (.slice va us.length vcap)⟩
  · intro b hb
    obtain ⟨s1, s2, s3, _⟩ := hvp b hb
    refine ⟨?_, s2, s3⟩
    rcases s1 with s1 | s1
    · exact .inl s1
    · refine .inr ⟨by omega, ?_⟩
      have hne : 0 < us.length ∨ us.length = 0 := by omega
      obtain ⟨sa, sc, e, h0, hcell⟩ := hsrc
      rcases hne with hne | hne
      · obtain ⟨sb, so, rfl, hlt, _⟩ := hcell hne
        rw [e] at hb
        simp [Value.ownBlock] at hb
        subst hb
        simpa using hlt
      · have hl0 := step02_len ws q a o x
        rw [HST.out] at hl0
        simp at hl0; omega
  · intro b hb
    obtain ⟨s1, s2, s3, _⟩ := T9 b hb
    refine ⟨?_, s3, fun e => M10.nt (e ▸ hb)⟩
    rcases s1 with s1 | s1
    · exact .inl s1
    · exact .inr ⟨s1, by simp; omega⟩
  · intro b hb
    rcases hb with hb | hb
    · have := hl b hb; simp; omega
    · exact hb.2
end Go.Proofs.Ytlkpfdboagjaoaa.Ref04

namespace Go.Proofs.Ytlkpfdboagjaoaa.Ref04
open Go Go.RowKit Go.Proofs.Ytlkpfdboagjaoaa.Heap Go.Proofs.Ytlkpfdboagjaoaa.Open Go.Proofs.Ytlkpfdboagjaoaa.Has Go.Proofs.Ytlkpfdboagjaoaa.Mem

/-- An access of the document's port: what it tells, the words and the touches behind it. -/
def step04 (k : Nat) (ws : List Int) (l : List T) (t q a o x : Int) : (Int × Int) × List Int × List T :=
  if inR k ws.length t q a = true then ((step02 ws q a o x).1, (step02 ws q a o x).2, l ++ [⟨t, a, decide (1 < q)⟩]) else ((0, 0), ws, l)
theorem inR_nat {k n : Nat} {t q a : Int} (h : inR k n t q a = true) : ∃ t' a' : Nat, t = t' ∧ a = a' ∧ t' < k ∧ a' < n ∧ 1 ≤ q ∧ q ≤ 5 := by
  simp [inR, inB] at h
  exact ⟨t.toNat, a.toNat, by omega, by omega, by omega, by omega, by omega, by omega⟩
theorem doR (w : World) (p : Nat) (S : Nat → Prop) (k : Nat) (ws : List Int) (l : List T) (h : RO w p S k ws l) (hf : l.length < 1000000) (hk : k ≤ 64) (hws : ws.length ≤ 100000) (t q a o x : Int) :
    Calls Try.prog 115 #[.pointer (some ⟨p, 0, none⟩), .int .i64 t, .agg #[.int .i64 q, .int .i64 a, .int .u32 o, .int .u32 x]] w fun e w' =>
      e = .returned (.tuple #[.int .u32 (step04 k ws l t q a o x).1.1, .int .i64 (step04 k ws l t q a o x).1.2]) ∧ ∃ S', RO w' p S' k (step04 k ws l t q a o x).2.1 (step04 k ws l t q a o x).2.2 ∧ Upd S w w' ∧ (∀ b, S' b → S b ∨ w.heap.size ≤ b) := by
  unfold step04
  cases hi : inR k ws.length t q a with
  | false =>
    rw [if_neg (by decide)]
    exact (do_no w p S k ws l h t q a o x hi).mono fun e w' ⟨he, hb⟩ => ⟨he, S, h.below hb, Upd.of_below hb, fun _ hb => .inl hb⟩
  | true =>
    rw [if_pos rfl]
    obtain ⟨t', a', rfl, rfl, h1, h2, h3, h4⟩ := inR_nat hi
    exact (do_yes w p S k ws l h hf hk hws t' q a' o x _ _ h1 h2 h3 h4 rfl rfl _ _ _ rfl).mono fun e w' ⟨he, ho, hu⟩ => ⟨he, _, ho, hu, fun b hb => hb.imp id fun x => x.1⟩
theorem info_three : (Try.prog.info? 141).map (fun i => (i.zero, i.size, i.bytes)) = some (some (.agg #[.int .i64 0, .int .i64 0, .int .i64 0]), 3, 24) := by kernel_rfl
theorem cnts3_zero (k : Nat) : Cnts3 k [] (List.replicate (k * 3) (.int .i64 0)) := by
  refine ⟨by simp, fun t ht => ⟨?_, ?_, ?_⟩⟩
  · rw [List.getElem?_replicate_of_lt (by omega)]; rfl
  · rw [List.getElem?_replicate_of_lt (by omega)]; rfl
  · rw [List.getElem?_replicate_of_lt (by omega)]; rfl
set_option maxHeartbeats 1000000 in
theorem newR (w : World) (k : Nat) (v : Value) (ws : List Int) (h : Src1 w v .u32 ws) (hk : k ≤ 64) (hws : ws.length ≤ 100000) :
    Calls Try.prog 30 #[.int .i64 k, v] w fun e w' => ∃ p, e = .returned (.pointer (some ⟨p, 0, none⟩)) ∧ RO w' p (Btw w w') k ws [] ∧ Below w.heap.size w w' := by
  have hread := h.readable
  obtain ⟨ad, cap, rfl, -, -⟩ := h
  have hmk := run_make_many (P := Try.prog) 118 141 (.agg #[.int .i64 0, .int .i64 0, .int .i64 0]) (.int .i64 0) 3 24 Try.underlying118 info_three (by intro i hi; match i, hi with | 0, _ => rfl | 1, _ => rfl | 2, _ => rfl) (by decide) k (by omega) (by omega)
  have A0 : ∀ o1 o2, Below w.heap.size w ((w.alloc o1).alloc o2) := fun o1 o2 => ((Below.refl _ _).alloc (Nat.le_refl _) _).alloc (by simp) _
  have R0 : ∀ o1 o2, Readable ((w.alloc o1).alloc o2) (.slice ad ws.length cap) ws.length (ints .u32 ws) := by
    intro o1 o2
    rcases hread with h | ⟨ad', c', e, hc⟩
    · exact .inl h
    · exact .inr ⟨ad', c', e, fun j u hj => ((A0 o1 o2).cell (World.block_lt_of_cell? w _ (hc j u hj))).trans (hc j u hj)⟩
  clear hread
  go_enter Try.func30, Try.ntmps30
  go_wp2_with (at_builtin; refine wpList_append_src rfl (.tmp 15) (.tmp 16) 55 rfl (w.heap.size + 1 + 1) 27 (.int .u32 0) 1 4 Try.underlying55 info_u32 rfl (by decide) (.slice none 0 0) 0 [] rfl (World.ownsRow_nil _ _ _ _) _ ws.length (ints .u32 ws) rfl (R0 _ _) (ints_len1 ws) (ints_one ws) (by unfold maxLen; omega) (by omega) (by simp) ?_; intro v' w1 hown1 u1 hnear; rw [Nat.zero_add, List.nil_append] at hown1; have hcn : Row w1 w.heap.size (List.replicate (k * 3) (.int .i64 0)) := ((Row.ofZeros rfl).alloc _).upd u1 (by simp [Value.ownBlock]); have htop : Row w1 (w.heap.size + 1) [.slice none 0 0, .int .i64 k, .slice none 0 0, .slice (some ⟨w.heap.size, 0, none⟩) k k] := (Row.new' (by simp)).upd u1 (by simp [Value.ownBlock]); have B1 : Below w.heap.size w w1 := u1.below (A0 _ _) (by simp; omega) (by intro i hi; simp [Value.ownBlock] at hi); obtain ⟨ua, uc, rfl⟩ := owned_len1 hown1; have q0 := htop.cell (i := 0) rfl; have qz := htop.frozen 0; clear hnear u1)
  clear hmk
  go_ret
  have hup : Upd (fun k => k = w.heap.size + 1) w1 (w1.setCell ⟨w.heap.size + 1, 0, none⟩ (.slice ua ws.length uc)) := Upd.one _ _ _ _
  have hl1 := htop.lt
  have hob : ∀ b, (Value.slice ua ws.length uc).ownBlock = some b → w.heap.size + 1 + 1 ≤ b ∧ b < w1.heap.size := fun b hb => ⟨(own_lt hown1 hb).2, (own_lt hown1 hb).1⟩
  refine ⟨_, rfl, ⟨⟨.slice ua ws.length uc, .slice none 0 0, w.heap.size, htop.set 0 _, ?_, ?_, OwnS.nil _ _ _ _, lies_none, ?_, ⟨_, hcn.upd hup (by omega), cnts3_zero k⟩, ?_, ?_, by omega⟩, fun b hb => hb.2⟩, B1.setCell (show w.heap.size ≤ w.heap.size + 1 by omega) _⟩
  · exact Mem.Src1.keep (S := fun b => b ≠ w.heap.size + 1) (Src1.of_owned hown1) (fun b hb => by have := hob b hb; omega) hup (fun _ hb => hb)
  · intro b hb
    have := hob b hb
    exact ⟨⟨by omega, by simp; omega⟩, by omega, by omega⟩
  · intro b _; simp [Value.ownBlock]
  · exact ⟨by omega, by simp; omega⟩
  · exact ⟨Nat.le_refl _, by simp; omega⟩
end Go.Proofs.Ytlkpfdboagjaoaa.Ref04

namespace Go.Proofs.Ytlkpfdboagjaoaa.Same04
open Go Go.RowKit Go.Proofs.Ytlkpfdboagjaoaa.Heap Go.Proofs.Ytlkpfdboagjaoaa.Open Go.Proofs.Ytlkpfdboagjaoaa.Has Go.Proofs.Ytlkpfdboagjaoaa.Ref04

theorem three_same (a b c : Int) (w : World) : (binOp .neq 141 (.agg #[.int .i64 a, .int .i64 b, .int .i64 c]) (.agg #[.int .i64 a, .int .i64 b, .int .i64 c])).run Try.prog w = .ok (.bool false) w := by
  obtain ⟨i, hi, _⟩ := info_parts (show (Try.prog.info? 3).map (fun i => (i.zero, i.size, i.bytes)) = some (some (.int .i64 0), 1, 8) by kernel_rfl)
  have := run_neq_ints w 141 3 3 .i64 Try.underlying141 Try.underlying3 hi (by kernel_rfl) [a, b, c] [a, b, c] rfl rfl
  rw [beq_self_eq_true] at this
  exact this
set_option maxHeartbeats 4000000 in
theorem same_all (w : World) (p x : Nat) (S R : Nat → Prop) (k : Nat) (ws hs : List Int) (l : List T) (h : Port.O w p S k ws hs l) (g : RO w x R k ws l) (hws : ws.length ≤ 4096) :
    Calls Try.prog 50 #[.pointer (some ⟨p, 0, none⟩), .pointer (some ⟨x, 0, none⟩)] w fun e w' => e = .returned (.bool true) ∧ Below w.heap.size w w' := by
  have hk := h.k64
  have hk' : (k : Int) ≤ 64 := by omega
  have hws' : (ws.length : Int) ≤ 4096 := by omega
  obtain ⟨m, S1, q0, hm, -⟩ := h.step
  go_enter Try.func50, Try.ntmps50
  go_wp2_with fail
  refine (Mem.wordsO _ _ _ _ _ hm hws).mono ?_
  rintro e w1 ⟨rfl, hrow, b1⟩
  have h1 := h.below b1
  have g1 := g.below b1
  obtain ⟨m', S1', q1, hm1, -⟩ := h1.step
  obtain ⟨⟨wv, tv, cb, P⟩, Pl⟩ := g1
  obtain ⟨wa, wcap, hwv⟩ : ∃ a c, wv = .slice a ws.length c := by obtain ⟨a, cap, e, _⟩ := P.words; exact ⟨a, cap, e⟩
  subst hwv
  have r0 := P.top.cell (i := 0) rfl
  have r1 := P.top.cell (i := 1) rfl
  have r3 := P.top.cell (i := 3) rfl
  have hs1 := b1.size
  obtain ⟨H, hH⟩ : ∃ H, w.heap.size = H := ⟨_, rfl⟩
  rw [hH] at hrow b1 hs1 ⊢
  have HH := Lib.hid hH
  clear hH q0 hm
  have HT := Lib.hid (fun n => Port.threadsP _ _ _ _ _ _ _ (h1.drewN n))
  have HL := Lib.hid (fun n => Mem.lenO _ _ _ _ _ (hm1.drewN n))
  go_wp2_with fail
  go_quiet ((first | (go_at_call 66; exact Calls.quiet_of_same ((HT.out _).mono fun e w' ⟨he, hw⟩ => ⟨he, hw.symm⟩)) | (go_at_call 67; exact Calls.quiet_of_same ((HL.out _).mono fun e w' ⟨he, hw⟩ => ⟨he, hw.symm⟩))))
  clear HT HL
  go_wp2_with fail
  go_loopw [45] (fun i wr => ∃ j : Nat, j ≤ ws.length ∧ i = .int .i64 j ∧ Below w1.heap.size w1 wr) (fun i _ => ws.length - (intOf i).toNat)
  case atStart => exact ⟨0, Nat.zero_le _, rfl, below_drewN (Below.refl _ _) _⟩
  case round =>
    obtain ⟨j, hj, rfl, b2⟩ := hrel
    have r0' := (b2.cell (p := ⟨x, 0, none⟩) P.top.lt).trans r0
    have r1' := (b2.cell (p := ⟨x, 1, none⟩) P.top.lt).trans r1
    by_cases hlt : j < ws.length
    · have c1 := (b2.cell (p := ⟨H, j, none⟩) hrow.lt).trans (hrow.cell (ints_get (k := .u32) hlt))
      obtain ⟨sa, sc, e, -, hx⟩ := P.words
      obtain ⟨xb, xo, rfl, hxb, hcx⟩ := hx (by omega)
      simp only [Value.slice.injEq] at e
      obtain ⟨rfl, -, -⟩ := e
      have c2 := (b2.cell (p := ⟨xb, xo + j, none⟩) hxb).trans (hcx j hlt)
      have hj' : (j : Int) < ws.length := by omega
      obtain ⟨z, hz⟩ : ∃ z, ws.getD j 0 = z := ⟨_, rfl⟩
      rw [hz] at c1 c2
      clear hz hcx hx
      go_wp2_with fail
      go_quiet (fail)
      go_wp2
      go_roundw
      case rel => exact ⟨j + 1, by omega, by go_num, below_drewN b2 _⟩
      case measure => simp [intOf]; omega
    · clear r0'
      go_wp2_with fail
      go_loopw [65] (fun i wr => ∃ t : Nat, t ≤ k ∧ i = .int .i64 t ∧ Below w1.heap.size w1 wr) (fun i _ => k - (intOf i).toNat)
      case atStart => exact ⟨0, Nat.zero_le _, rfl, b2⟩
      case round =>
        obtain ⟨t, ht, rfl, b3⟩ := hrel
        by_cases hlt2 : t < k
        · obtain ⟨cs, hrc, hc3⟩ := P.cnts
          obtain ⟨e0, e1, e2⟩ := hc3.2 t hlt2
          have rr := hrc.below b3 hrc.lt
          have d0 := rr.cell e0
          have d1 := rr.cell e1
          have d2 := rr.cell e2
          have r3' := (b3.cell (p := ⟨x, 3, none⟩) P.top.lt).trans r3
          have h3 := h1.below b3
          have KA := fun n => Port.accessesP _ _ _ _ _ _ _ (h3.drewN n) (t : Int)
          have KW := fun n => Port.writesP _ _ _ _ _ _ _ (h3.drewN n) (t : Int)
          have KM := fun n => Port.missesP _ _ _ _ _ _ _ (h3.drewN n) (t : Int)
          simp only [show Mem.inB (t : Int) k = true from Cache.inB_mk hlt2, if_true] at KA KW KM
          obtain ⟨y0, hy0⟩ : ∃ y : Int, ((acc l t : Nat) : Int) = y := ⟨_, rfl⟩
          obtain ⟨y1, hy1⟩ : ∃ y : Int, ((wrs l t : Nat) : Int) = y := ⟨_, rfl⟩
          obtain ⟨y2, hy2⟩ : ∃ y : Int, ((misses k l t : Nat) : Int) = y := ⟨_, rfl⟩
          rw [hy0] at d0
          rw [hy1] at d1
          rw [hy2] at d2
          simp only [hy0] at KA
          simp only [hy1] at KW
          simp only [hy2] at KM
          have HA := Lib.hid KA
          have HW := Lib.hid KW
          have HM := Lib.hid KM
          have E3 := three_same y0 y1 y2
          have ht' : (t : Int) < k := by omega
          clear KA KW KM hy0 hy1 hy2 e0 e1 e2 hc3 hrc
          go_wp2_with fail
          go_quiet ((first | (go_at_call 48; exact Calls.quiet_of_same ((HA.out _).mono fun e w' ⟨he, hw⟩ => ⟨he, hw.symm⟩)) | (go_at_call 68; exact Calls.quiet_of_same ((HW.out _).mono fun e w' ⟨he, hw⟩ => ⟨he, hw.symm⟩)) | (go_at_call 69; exact Calls.quiet_of_same ((HM.out _).mono fun e w' ⟨he, hw⟩ => ⟨he, hw.symm⟩))))
          go_wp2
          go_roundw
          case rel => exact ⟨t + 1, by omega, by go_num, below_drewN b3 _⟩
          case measure => simp [intOf]; omega
        · go_wp2
          go_ret
          exact ⟨rfl, by rw [HH.out]; exact b1.trans (b3.mono hs1)⟩

/-- What the program's accesses come to, in the document's words. -/
theorem two (x y : Bool) : (x = true ∧ y = true) ∨ (x = true ∧ y = false) ∨ x = false := by cases x <;> cases y <;> simp
theorem inR5 (k n : Nat) (t q a : Int) (h1 : 1 ≤ q) (h5 : q ≤ 5) : inR k n t q a = (Mem.inB t k && Mem.inB a n) := by unfold inR; simp [h1, h5]
theorem after_def (k n : Nat) (l : List T) (t a : Int) (wr : Bool) : Cache.after k n l t a wr = if (Mem.inB t k && Mem.inB a n) = true then l ++ [⟨t, a, wr⟩] else l := rfl
section
variable (k : Nat) (ws : List Int) (l : List T) (t a o x : Int)
theorem p1 : step04 k ws l t 1 a o x = ((if Mem.inB t k = true then Mem.get ws a else 0, 0), ws, Cache.after k ws.length l t a false) := by
  unfold step04; rw [inR5 _ _ _ _ _ (by decide) (by decide), after_def]
  rcases two (Mem.inB t k) (Mem.inB a ws.length) with ⟨e1, e2⟩ | ⟨e1, e2⟩ | e1
  · simp [e1, e2, Mem.step02]
  · simp [e1, e2, Mem.get_out e2]
  · simp [e1]
theorem p2 : step04 k ws l t 2 a o x = ((0, 0), (if Mem.inB t k = true then Mem.put ws a x else ws), Cache.after k ws.length l t a true) := by
  unfold step04; rw [inR5 _ _ _ _ _ (by decide) (by decide), after_def]
  rcases two (Mem.inB t k) (Mem.inB a ws.length) with ⟨e1, e2⟩ | ⟨e1, e2⟩ | e1
  · simp [e1, e2, Mem.step02]
  · simp [e1, e2, Mem.put_out e2]
  · simp [e1]
theorem p3 : step04 k ws l t 3 a o x = ((if Mem.inB t k = true then Mem.get ws a else 0, 0), (if Mem.inB t k = true then Mem.put ws a x else ws), Cache.after k ws.length l t a true) := by
  unfold step04; rw [inR5 _ _ _ _ _ (by decide) (by decide), after_def]
  rcases two (Mem.inB t k) (Mem.inB a ws.length) with ⟨e1, e2⟩ | ⟨e1, e2⟩ | e1
  · simp [e1, e2, Mem.step02]
  · simp [e1, e2, Mem.put_out e2, Mem.get_out e2]
  · simp [e1]
theorem p4 : step04 k ws l t 4 a o x = ((0, if (Mem.inB t k && Mem.casB ws a o) = true then 1 else 0), (if (Mem.inB t k && Mem.casB ws a o) = true then Mem.put ws a x else ws), Cache.after k ws.length l t a true) := by
  unfold step04; rw [inR5 _ _ _ _ _ (by decide) (by decide), after_def]
  rcases two (Mem.inB t k) (Mem.inB a ws.length) with ⟨e1, e2⟩ | ⟨e1, e2⟩ | e1
  · cases hc : Mem.casB ws a o <;> simp [e1, e2, Mem.step02, hc]
  · have hc : Mem.casB ws a o = false := by unfold Mem.casB; rw [e2]; rfl
    simp [e1, e2, hc]
  · simp [e1]
theorem p5 : step04 k ws l t 5 a o x = ((if Mem.inB t k = true then Mem.get ws a else 0, 0), (if Mem.inB t k = true then Mem.put ws a ((Mem.get ws a + x) % 4294967296) else ws), Cache.after k ws.length l t a true) := by
  unfold step04; rw [inR5 _ _ _ _ _ (by decide) (by decide), after_def]
  rcases two (Mem.inB t k) (Mem.inB a ws.length) with ⟨e1, e2⟩ | ⟨e1, e2⟩ | e1
  · simp [e1, e2, Mem.step02]
  · simp [e1, e2, Mem.put_out e2, Mem.get_out e2]
  · simp [e1]
theorem p0 (q : Int) (h : q < 1 ∨ 5 < q) : step04 k ws l t q a o x = ((0, 0), ws, l) := by
  unfold step04; rw [if_neg]; unfold inR; simp; omega
end
end Go.Proofs.Ytlkpfdboagjaoaa.Same04

namespace Go.Proofs.Ytlkpfdboagjaoaa.Ref04
open Go Go.RowKit Go.Proofs.Ytlkpfdboagjaoaa.Heap Go.Proofs.Ytlkpfdboagjaoaa.Open Go.Proofs.Ytlkpfdboagjaoaa.Has Go.Proofs.Ytlkpfdboagjaoaa.Same04 Go.Proofs.Ytlkpfdboagjaoaa.StepU
variable {p : Nat} {S : Nat → Prop} {k : Nat} {ws : List Int} {l : List T}
/-- What an access of the document's port leaves. -/
def After (p : Nat) (S : Nat → Prop) (k : Nat) (ws : List Int) (l : List T) (w w' : World) : Prop := ∃ S', RO w' p S' k ws l ∧ Upd S w w' ∧ (∀ b, S' b → S b ∨ w.heap.size ≤ b)
theorem loadR (w : World) (h : RO w p S k ws l) (hf : l.length < 1000000) (hk : k ≤ 64) (hws : ws.length ≤ 100000) (t a : Int) :
    Calls Try.prog 111 #[.pointer (some ⟨p, 0, none⟩), .int .i64 t, .int .i64 a] w fun e w' => e = .returned (.int .u32 (rd k ws t a)) ∧ After p S k ws (Cache.after k ws.length l t a false) w w' := by
  have K := doR w p S k ws l h hf hk hws t 1 a 0 0
  rw [p1] at K
  rw [show (if Mem.inB t k = true then Mem.get ws a else 0) = rd k ws t a from rfl] at K
  obtain ⟨g, hg⟩ : ∃ g, rd k ws t a = g := ⟨_, rfl⟩
  rw [hg] at K ⊢
  have HK := Lib.hid K
  clear K
  go_enter Try.func111, Try.ntmps111
  go_wp2_with fail
  refine HK.out.mono ?_
  rintro e w1 ⟨rfl, h1⟩
  go_wp2_with fail
  go_ret
  exact ⟨rfl, h1⟩
theorem storeR (w : World) (h : RO w p S k ws l) (hf : l.length < 1000000) (hk : k ≤ 64) (hws : ws.length ≤ 100000) (t a x : Int) :
    Calls Try.prog 112 #[.pointer (some ⟨p, 0, none⟩), .int .i64 t, .int .i64 a, .int .u32 x] w fun e w' => e = .returned (.tuple #[]) ∧ After p S k (wrt k ws t a x) (Cache.after k ws.length l t a true) w w' := by
  have K := doR w p S k ws l h hf hk hws t 2 a 0 x
  rw [p2] at K
  rw [show (if Mem.inB t k = true then Mem.put ws a x else ws) = wrt k ws t a x from rfl] at K
  obtain ⟨us, hus⟩ : ∃ us, wrt k ws t a x = us := ⟨_, rfl⟩
  rw [hus] at K ⊢
  have HK := Lib.hid K
  clear K
  go_enter Try.func112, Try.ntmps112
  go_wp2_with fail
  refine HK.out.mono ?_
  rintro e w1 ⟨rfl, h1⟩
  go_wp2_with fail
  go_end0
  exact ⟨rfl, h1⟩
theorem swapR (w : World) (h : RO w p S k ws l) (hf : l.length < 1000000) (hk : k ≤ 64) (hws : ws.length ≤ 100000) (t a x : Int) :
    Calls Try.prog 113 #[.pointer (some ⟨p, 0, none⟩), .int .i64 t, .int .i64 a, .int .u32 x] w fun e w' => e = .returned (.int .u32 (rd k ws t a)) ∧ After p S k (wrt k ws t a x) (Cache.after k ws.length l t a true) w w' := by
  have K := doR w p S k ws l h hf hk hws t 3 a 0 x
  rw [p3] at K
  rw [show (if Mem.inB t k = true then Mem.get ws a else 0) = rd k ws t a from rfl] at K
  obtain ⟨g, hg⟩ : ∃ g, rd k ws t a = g := ⟨_, rfl⟩
  rw [hg] at K ⊢
  rw [show (if Mem.inB t k = true then Mem.put ws a x else ws) = wrt k ws t a x from rfl] at K
  obtain ⟨us, hus⟩ : ∃ us, wrt k ws t a x = us := ⟨_, rfl⟩
  rw [hus] at K ⊢
  have HK := Lib.hid K
  clear K
  go_enter Try.func113, Try.ntmps113
  go_wp2_with fail
  refine HK.out.mono ?_
  rintro e w1 ⟨rfl, h1⟩
  go_wp2_with fail
  go_ret
  exact ⟨rfl, h1⟩
theorem casR (w : World) (h : RO w p S k ws l) (hf : l.length < 1000000) (hk : k ≤ 64) (hws : ws.length ≤ 100000) (t a o x : Int) :
    Calls Try.prog 114 #[.pointer (some ⟨p, 0, none⟩), .int .i64 t, .int .i64 a, .int .u32 o, .int .u32 x] w fun e w' => e = .returned (.bool (Mem.inB t k && Mem.casB ws a o)) ∧ After p S k (if (Mem.inB t k && Mem.casB ws a o) = true then Mem.put ws a x else ws) (Cache.after k ws.length l t a true) w w' := by
  have K := doR w p S k ws l h hf hk hws t 4 a o x
  rw [p4] at K
  obtain ⟨g, hg⟩ : ∃ g, (Mem.inB t k && Mem.casB ws a o) = g := ⟨_, rfl⟩
  rw [hg] at K ⊢
  have HK := Lib.hid K
  clear K hg
  cases g with
  | true =>
    go_enter Try.func114, Try.ntmps114
    go_wp2_with fail
    refine HK.out.mono ?_
    rintro e w1 ⟨rfl, h1⟩
    go_wp2_with fail
    go_ret
    exact ⟨rfl, h1⟩
  | false =>
    go_enter Try.func114, Try.ntmps114
    go_wp2_with fail
    refine HK.out.mono ?_
    rintro e w1 ⟨rfl, h1⟩
    go_wp2_with fail
    go_ret
    exact ⟨rfl, h1⟩
end Go.Proofs.Ytlkpfdboagjaoaa.Ref04
