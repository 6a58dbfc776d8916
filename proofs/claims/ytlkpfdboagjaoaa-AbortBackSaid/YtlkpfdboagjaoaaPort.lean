/- Package port: ports as objects. -/
import Derived.Test.YtlkpfdboagjaoaaMemO
import Derived.Test.YtlkpfdboagjaoaaCacheO
namespace Go.Proofs.Ytlkpfdboagjaoaa.Port
open Go Go.RowKit Go.Proofs.Ytlkpfdboagjaoaa.Heap Go.Proofs.Ytlkpfdboagjaoaa.Open Go.Proofs.Ytlkpfdboagjaoaa.Has

/-- The counts of k threads behind the touches l. -/
def Cnts (k : Nat) (l : List T) (cs : List Value) : Prop := cs.length = k * 2 ∧ ∀ t : Nat, t < k → cs[t * 2]? = some (.int .i64 (acc l t : Nat)) ∧ cs[t * 2 + 1]? = some (.int .i64 (wrs l t : Nat))
/-- A port at p: its memory, its cache, its counts, each in blocks of its own. -/
structure Parts (w : World) (p : Nat) (S : Nat → Prop) (k : Nat) (ws hs : List Int) (l : List T) (m c cb : Nat) (S1 S2 : Nat → Prop) : Prop where
  top : Row w p [.pointer (some ⟨m, 0, none⟩), .pointer (some ⟨c, 0, none⟩), .slice (some ⟨cb, 0, none⟩) k k]
  mem : Mem.O w m S1 ws hs
  cache : Cache.O w c S2 k ws.length l
  cnts : ∃ cs, Row w cb cs ∧ Cnts k l cs
  s1 : ∀ b, S1 b → S b
  s2 : ∀ b, S2 b → S b
  sp : S p
  sc : S cb
  d12 : ∀ b, S1 b → ¬ S2 b
  d1p : ¬ S1 p
  d2p : ¬ S2 p
  d1c : ¬ S1 cb
  d2c : ¬ S2 cb
  dpc : p ≠ cb
structure O (w : World) (p : Nat) (S : Nat → Prop) (k : Nat) (ws hs : List Int) (l : List T) : Prop where
  ex : ∃ m c cb S1 S2, Parts w p S k ws hs l m c cb S1 S2
  lt : ∀ b, S b → b < w.heap.size
theorem Parts.keep {U S : Nat → Prop} {w w' : World} {p k : Nat} {ws hs : List Int} {l : List T} {m c cb : Nat} {S1 S2 : Nat → Prop} (h : Parts w p S k ws hs l m c cb S1 S2) (hu : Upd U w w') (hd : ∀ b, S b → ¬ U b) : Parts w' p S k ws hs l m c cb S1 S2 :=
  ⟨h.top.upd hu (hd _ h.sp), h.mem.keep hu (fun b hb => hd b (h.s1 b hb)), h.cache.keep hu (fun b hb => hd b (h.s2 b hb)), by obtain ⟨cs, h1, h2⟩ := h.cnts; exact ⟨cs, h1.upd hu (hd _ h.sc), h2⟩,
    h.s1, h.s2, h.sp, h.sc, h.d12, h.d1p, h.d2p, h.d1c, h.d2c, h.dpc⟩
theorem O.keep {U S : Nat → Prop} {w w' : World} {p k : Nat} {ws hs : List Int} {l : List T} (h : O w p S k ws hs l) (hu : Upd U w w') (hd : ∀ b, S b → ¬ U b) : O w' p S k ws hs l := by
  obtain ⟨⟨m, c, cb, S1, S2, hp⟩, hl⟩ := h
  exact ⟨⟨m, c, cb, S1, S2, hp.keep hu hd⟩, fun b hb => Nat.lt_of_lt_of_le (hl b hb) hu.size⟩
theorem O.alloc {S : Nat → Prop} {w : World} {p k : Nat} {ws hs : List Int} {l : List T} (h : O w p S k ws hs l) (o : Obj) : O (w.alloc o) p S k ws hs l := h.keep ((Upd.refl (fun _ => False) w).alloc o) fun _ _ => id
theorem O.drewN {S : Nat → Prop} {w : World} {p k : Nat} {ws hs : List Int} {l : List T} (h : O w p S k ws hs l) (n : Nat) : O (w.drewN n) p S k ws hs l := h.keep ((Upd.refl (fun _ => False) w).drewN n) fun _ _ => id
theorem O.below {S : Nat → Prop} {w w' : World} {p k : Nat} {ws hs : List Int} {l : List T} (h : O w p S k ws hs l) (hb : Below w.heap.size w w') : O w' p S k ws hs l := h.keep (Upd.of_below (S := fun _ => False) hb) fun _ _ => id
theorem O.mem {S : Nat → Prop} {w : World} {p k : Nat} {ws hs : List Int} {l : List T} (h : O w p S k ws hs l) : S p := by obtain ⟨⟨m, c, cb, S1, S2, hp⟩, _⟩ := h; exact hp.sp
theorem O.few {S : Nat → Prop} {w : World} {p k : Nat} {ws hs : List Int} {l : List T} (h : O w p S k ws hs l) : l.length ≤ 1000000 := by obtain ⟨⟨m, c, cb, S1, S2, hp⟩, _⟩ := h; exact hp.cache.few
theorem O.k64 {S : Nat → Prop} {w : World} {p k : Nat} {ws hs : List Int} {l : List T} (h : O w p S k ws hs l) : k ≤ 64 := by obtain ⟨⟨m, c, cb, S1, S2, hp⟩, _⟩ := h; exact hp.cache.k64
theorem O.wd {S : Nat → Prop} {w : World} {p k : Nat} {ws hs : List Int} {l : List T} (h : O w p S k ws hs l) : Mem.Wd ws := by obtain ⟨⟨m, c, cb, S1, S2, hp⟩, _⟩ := h; exact hp.mem.wd

theorem Cnts.step {k : Nat} {l : List T} {cs : List Value} (h : Cnts k l cs) (t : Nat) (a : Int) (wr : Bool) (ht : t < k) :
    Cnts k (l ++ [⟨t, a, wr⟩]) (if wr = true then (cs.set (t * 2) (.int .i64 ((acc l t : Nat) + 1))).set (t * 2 + 1) (.int .i64 ((wrs l t : Nat) + 1)) else cs.set (t * 2) (.int .i64 ((acc l t : Nat) + 1))) := by
  obtain ⟨hl, hc⟩ := h
  cases wr with
  | true =>
    rw [if_pos rfl]
    refine ⟨by simpa using hl, fun u hu => ?_⟩
    obtain ⟨e1, e2⟩ := hc u hu
    rw [acc_snoc, wrs_snoc]
    by_cases e : t = u
    · subst e
      rw [if_pos rfl, if_pos ⟨rfl, rfl⟩]
      refine ⟨?_, ?_⟩
      · rw [List.getElem?_set_ne (by omega), List.getElem?_set_self (by omega)]; push_cast; rfl
      · rw [List.getElem?_set_self (by simp; omega)]; push_cast; rfl
    · have hne : ¬ (t : Int) = u := by omega
      rw [if_neg hne, if_neg (by rintro ⟨h, _⟩; exact hne h), List.getElem?_set_ne (by omega), List.getElem?_set_ne (by omega), List.getElem?_set_ne (by omega), List.getElem?_set_ne (by omega)]
      exact ⟨e1, e2⟩
  | false =>
    rw [if_neg (by decide)]
    refine ⟨by simpa using hl, fun u hu => ?_⟩
    obtain ⟨e1, e2⟩ := hc u hu
    rw [acc_snoc, wrs_snoc, if_neg (show ¬ ((T.mk t a false).t = (u : Int) ∧ (T.mk t a false).wr = true) by rintro ⟨_, h⟩; exact absurd h (by show ¬ (false = true); decide)), Nat.add_zero]
    by_cases e : t = u
    · subst e
      rw [if_pos rfl]
      refine ⟨?_, ?_⟩
      · rw [List.getElem?_set_self (by omega)]; push_cast; rfl
      · rw [List.getElem?_set_ne (by omega)]; exact e2
    · have hne : ¬ (t : Int) = u := by omega
      rw [if_neg hne, List.getElem?_set_ne (by omega), List.getElem?_set_ne (by omega)]
      exact ⟨e1, e2⟩

theorem touch_no (w : World) (p : Nat) (S : Nat → Prop) (k : Nat) (ws hs : List Int) (l : List T) (h : O w p S k ws hs l) (t a : Int) (wr : Bool) (hn : t < 0 ∨ (k : Int) ≤ t ∨ a < 0 ∨ (ws.length : Int) ≤ a) :
    Calls Try.prog 73 #[.pointer (some ⟨p, 0, none⟩), .int .i64 t, .int .i64 a, .bool wr] w fun e w' => e = .returned (.bool false) ∧ w = w' := by
  obtain ⟨⟨m, c, cb, S1, S2, hp⟩, hl⟩ := h
  have q0 := hp.top.cell (i := 0) rfl
  have q2 := hp.top.cell (i := 2) rfl
  by_cases c1 : t < 0
  · clear hn
    go_enter Try.func73, Try.ntmps73
    go_wp2
    go_ret
    exact ⟨rfl, rfl⟩
  have c1' : 0 ≤ t := by omega
  by_cases c2 : (k : Int) ≤ t
  · clear hn
    go_enter Try.func73, Try.ntmps73
    go_wp2
    go_ret
    exact ⟨rfl, rfl⟩
  have c2' : t < (k : Int) := by omega
  by_cases c3 : a < 0
  · clear hn
    go_enter Try.func73, Try.ntmps73
    go_wp2
    go_ret
    exact ⟨rfl, rfl⟩
  have c3' : 0 ≤ a := by omega
  have c4 : (ws.length : Int) ≤ a := by omega
  clear hn
  go_enter Try.func73, Try.ntmps73
  go_wp2_with fail
  refine (Mem.lenO _ _ _ _ _ hp.mem).mono ?_
  rintro e w' ⟨rfl, rfl⟩
  go_wp2
  go_ret
  exact ⟨rfl, rfl⟩
set_option maxHeartbeats 1000000 in
theorem touch_yes (w : World) (p : Nat) (S : Nat → Prop) (k : Nat) (ws hs : List Int) (l : List T) (h : O w p S k ws hs l) (hf : l.length < 1000000) (t a : Nat) (wr : Bool) (ht : t < k) (ha : a < ws.length) :
    Calls Try.prog 73 #[.pointer (some ⟨p, 0, none⟩), .int .i64 t, .int .i64 a, .bool wr] w fun e w' => e = .returned (.bool true) ∧ O w' p S k ws hs (l ++ [⟨t, a, wr⟩]) ∧ Upd S w w' := by
  obtain ⟨⟨m, c, cb, S1, S2, hp⟩, hl⟩ := h
  have q0 := hp.top.cell (i := 0) rfl
  have q1 := hp.top.cell (i := 1) rfl
  have q2 := hp.top.cell (i := 2) rfl
  obtain ⟨cs, hr, hc⟩ := hp.cnts
  obtain ⟨e0, e1⟩ := hc.2 t ht
  have d0 := hr.cell e0
  have d1 := hr.cell e1
  have z0 := hr.frozen (t * 2)
  have z1 := hr.frozen (t * 2 + 1)
  have ht' : (t : Int) < k := by omega
  have ha' : (a : Int) < ws.length := by omega
  have hst := hc.step t a wr ht
  have hA := acc_le l t
  have hW := wrs_le l t
  have npc := hp.dpc
  have KT := fun W (hh : Cache.O W c S2 k ws.length l) => Cache.touchO W c S2 k ws.length l hh hf t a wr
  rw [Cache.told_in l wr ht ha, Cache.after_in l wr ht ha] at KT
  obtain ⟨r, hr1⟩ : ∃ r, Has.miss l ⟨t, a, wr⟩ k = r := ⟨_, rfl⟩
  rw [hr1] at KT
  have HKT := Lib.hid KT
  obtain ⟨x, hx⟩ : ∃ x, acc l t = x := ⟨_, rfl⟩
  obtain ⟨y, hy⟩ : ∃ y, wrs l t = y := ⟨_, rfl⟩
  rw [hx] at d0 hA hst hW
  rw [hy] at d1 hW hst
  have hA' : (x : Int) ≤ 1000000 := by omega
  have hW' : (y : Int) ≤ 1000000 := by omega
  have HST := Lib.hid hst
  have fin : ∀ W1, Upd (fun b => b = cb) w W1 → Row W1 cb (if wr = true then (cs.set (t * 2) (.int .i64 ((x : Nat) + 1))).set (t * 2 + 1) (.int .i64 ((y : Nat) + 1)) else cs.set (t * 2) (.int .i64 ((x : Nat) + 1))) →
      Cache.O W1 c S2 k ws.length l ∧ ∀ W2, Upd S2 W1 W2 → Cache.O W2 c S2 k ws.length (l ++ [⟨t, a, wr⟩]) → O W2 p S k ws hs (l ++ [⟨t, a, wr⟩]) ∧ Upd S w W2 := by
    intro W1 u1 r1
    refine ⟨hp.cache.keep u1 (fun b hb e => hp.d2c (e ▸ hb)), fun W2 u2 hc2 => ?_⟩
    have us : Upd S w W2 := (u1.mono fun i _ e => e ▸ hp.sc).trans (u2.mono fun i _ hi => hp.s2 i hi)
    refine ⟨⟨⟨m, c, cb, S1, S2, (hp.top.upd u1 npc).upd u2 hp.d2p, (hp.mem.keep u1 (fun b hb e => hp.d1c (e ▸ hb))).keep u2 hp.d12, hc2, ⟨_, r1.upd u2 hp.d2c, HST.out⟩, hp.s1, hp.s2, hp.sp, hp.sc, hp.d12, hp.d1p, hp.d2p, hp.d1c, hp.d2c, npc⟩, fun b hb => Nat.lt_of_lt_of_le (hl b hb) us.size⟩, us⟩
  have FIN := Lib.hid fin
  clear KT hr1 hx hy hst e0 e1 hc fin
  have hr2 := hr.set (t * 2) (.int .i64 ((x : Nat) + 1))
  have u1 := Upd.one w cb (t * 2) (.int .i64 ((x : Nat) + 1))
  cases wr with
  | false =>
    go_enter Try.func73, Try.ntmps73
    go_wp2_with fail
    refine (Mem.lenO _ _ _ _ _ hp.mem).mono ?_
    rintro e w' ⟨rfl, rfl⟩
    go_wp2_with fail
    go_region
    go_wp2_with fail
    refine (HKT.out _ (FIN.out _ (by exact u1.drew) (by rw [if_neg (by decide)]; exact hr2.drew)).1).mono ?_
    rintro e w2 ⟨rfl, hc2, u2⟩
    go_wp2
    go_ret
    exact ⟨rfl, (FIN.out _ (by exact u1.drew) (by rw [if_neg (by decide)]; exact hr2.drew)).2 _ u2 hc2⟩
  | true =>
    have hr3 := hr2.set (t * 2 + 1) (.int .i64 ((y : Nat) + 1))
    have u3 := u1.setCell (p := ⟨cb, t * 2 + 1, none⟩) (.inl rfl) (.int .i64 ((y : Nat) + 1))
    go_enter Try.func73, Try.ntmps73
    go_wp2_with fail
    refine (Mem.lenO _ _ _ _ _ hp.mem).mono ?_
    rintro e w' ⟨rfl, rfl⟩
    go_wp2_with fail
    go_region
    go_wp2_with fail
    go_region
    go_wp2_with fail
    refine (HKT.out _ (FIN.out _ (by exact u3.drew.drew) (by first | (rw [if_pos trivial]; exact hr3.drew.drew) | (rw [if_pos rfl]; exact hr3.drew.drew))).1).mono ?_
    rintro e w2 ⟨rfl, hc2, u2⟩
    go_wp2
    go_ret
    exact ⟨rfl, (FIN.out _ (by exact u3.drew.drew) (by first | (rw [if_pos trivial]; exact hr3.drew.drew) | (rw [if_pos rfl]; exact hr3.drew.drew))).2 _ u2 hc2⟩
/-- The touches behind an access, and whether there is such a thread. -/
theorem touchP (w : World) (p : Nat) (S : Nat → Prop) (k : Nat) (ws hs : List Int) (l : List T) (h : O w p S k ws hs l) (hf : l.length < 1000000) (t a : Int) (wr : Bool) :
    Calls Try.prog 73 #[.pointer (some ⟨p, 0, none⟩), .int .i64 t, .int .i64 a, .bool wr] w fun e w' => e = .returned (.bool (Mem.inB t k && Mem.inB a ws.length)) ∧ O w' p S k ws hs (Cache.after k ws.length l t a wr) ∧ Upd S w w' := by
  by_cases hin : 0 ≤ t ∧ t < k ∧ 0 ≤ a ∧ a < ws.length
  · obtain ⟨h1, h2, h3, h4⟩ := hin
    obtain ⟨t, rfl⟩ := Int.eq_ofNat_of_zero_le h1
    obtain ⟨a, rfl⟩ := Int.eq_ofNat_of_zero_le h3
    have ht : t < k := by omega
    have ha : a < ws.length := by omega
    rw [Cache.after_in l wr ht ha, show Mem.inB (t : Int) k = true from Cache.inB_mk ht, show Mem.inB (a : Int) ws.length = true from Cache.inB_mk ha]
    exact touch_yes w p S k ws hs l h hf t a wr ht ha
  · have hout : t < 0 ∨ (k : Int) ≤ t ∨ a < 0 ∨ (ws.length : Int) ≤ a := by omega
    have e : (Mem.inB t k && Mem.inB a ws.length) = false := by
      cases hh : Mem.inB t k && Mem.inB a ws.length with
      | false => rfl
      | true => simp [Mem.inB] at hh; omega
    rw [(Cache.told_out l wr hout).2, e]
    exact (touch_no w p S k ws hs l h t a wr hout).mono fun e w' ⟨he, hw⟩ => ⟨he, hw ▸ h, hw ▸ Upd.refl _ _⟩
/-- What an access of the memory makes of a port. -/
theorem O.step {S : Nat → Prop} {w : World} {p k : Nat} {ws hs : List Int} {l : List T} (h : O w p S k ws hs l) :
    ∃ m S1, w.cell? ⟨p, 0, none⟩ = some (.pointer (some ⟨m, 0, none⟩)) ∧ Mem.O w m S1 ws hs ∧ ∀ w' ws', Mem.O w' m S1 ws' hs → ws'.length = ws.length → Upd S1 w w' → O w' p S k ws' hs l ∧ Upd S w w' := by
  obtain ⟨⟨m, c, cb, S1, S2, hp⟩, hl⟩ := h
  refine ⟨m, S1, hp.top.cell (i := 0) rfl, hp.mem, fun w' ws' hm' hlen hu => ?_⟩
  have us : Upd S w w' := hu.mono fun i _ hi => hp.s1 i hi
  refine ⟨⟨⟨m, c, cb, S1, S2, hp.top.upd hu hp.d1p, hm', ?_, ?_, hp.s1, hp.s2, hp.sp, hp.sc, hp.d12, hp.d1p, hp.d2p, hp.d1c, hp.d2c, hp.dpc⟩, fun b hb => Nat.lt_of_lt_of_le (hl b hb) us.size⟩, us⟩
  · rw [hlen]; exact hp.cache.keep hu (fun b hb e => hp.d12 b e hb)
  · obtain ⟨cs, h1, h2⟩ := hp.cnts; exact ⟨cs, h1.upd hu hp.d1c, h2⟩
end Go.Proofs.Ytlkpfdboagjaoaa.Port
