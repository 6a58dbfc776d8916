/- Package cache: what each function does to a cache that is known whole. -/
import Derived.Test.YtlkpfdboagjaoaaProg
import Derived.Test.YtlkpfdboagjaoaaHeap
import Derived.BigQuiet
import Derived.Lib.Hide
import Derived.Laws.BitsLemmas
namespace Go.Proofs.Ytlkpfdboagjaoaa.Cache
open Go Go.RowKit Go.Proofs.Ytlkpfdboagjaoaa.Heap

theorem ret_bool {a b : Bool} (h : a = b) : Ending.returned (.bool a) = .returned (.bool b) := by rw [h]
theorem wraps_u64 (n : Int) (h0 : 0 ≤ n) (h1 : n < 2 ^ 64) : IntKind.u64.wrap n = n := by
  simp [IntKind.wrap, IntKind.bits, IntKind.signed]; omega
theorem and_two_pow (a t : Nat) : (((a &&& 2 ^ t : Nat) : Int) == 0) = !a.testBit t := by
  by_cases h : a.testBit t = true
  · have h1 : (a &&& 2 ^ t).testBit t = true := by rw [Nat.testBit_and, h, Nat.testBit_two_pow_self]; rfl
    have h2 : (a &&& 2 ^ t) ≠ 0 := by intro e; rw [e, Nat.zero_testBit] at h1; exact absurd h1 (by decide)
    rw [h, beq_eq_false_iff_ne.2 (by omega)]; rfl
  · have h2 : (a &&& 2 ^ t) = 0 := by
      refine Nat.eq_of_testBit_eq fun i => ?_
      rw [Nat.testBit_and, Nat.zero_testBit, Nat.testBit_two_pow]
      by_cases e : t = i
      · subst e; simp at h; simp [h]
      · simp [e]
    simp at h; rw [h, h2]; rfl
theorem shr_bit (was t : Nat) (hc : was < 2 ^ 64) : (bits .and .u64 ((was : Int) / 2 ^ t) 1 == 1) = was.testBit t := by
  have e : ((was : Int) / 2 ^ t) = ((was / 2 ^ t : Nat) : Int) := by push_cast; rfl
  have hl : was / 2 ^ t < 2 ^ 64 := Nat.lt_of_le_of_lt (Nat.div_le_self _ _) hc
  have hb := (bits_nat .u64 64 (by decide) wraps_u64 (was / 2 ^ t) 1 hl (by decide)).1
  rw [e]
  have e1 : bits .and .u64 ((was / 2 ^ t : Nat) : Int) 1 = ((was / 2 ^ t &&& 1 : Nat) : Int) := hb
  rw [e1, Nat.and_one_is_mod, Nat.testBit_eq_decide_div_mod_eq, Bool.eq_iff_iff]
  simp; omega
structure Aside0 (p : Prop) : Prop where mk :: out : p
theorem ret_int {k : IntKind} {a b : Int} (h : a = b) : Ending.returned (.int k a) = .returned (.int k b) := by rw [h]

/-- A cache: its block, that of the copies (of each word a bit for each thread), that of the misses. -/
structure At (w : World) (c cb mb : Nat) (cs : List Nat) (ms : List Int) : Prop where
  top : Row w c [.slice (some ⟨cb, 0, none⟩) cs.length cs.length, .slice (some ⟨mb, 0, none⟩) ms.length ms.length]
  copies : Row w cb (cs.map fun (m : Nat) => Value.int .u64 (m : Int))
  misses : Row w mb (ms.map (Value.int .i64))
  ne1 : c ≠ cb
  ne2 : c ≠ mb
  ne3 : cb ≠ mb

/-- Is a number a place of a list of n? -/
def inB (t : Int) (n : Nat) : Bool := decide (0 ≤ t) && decide (t < n)
theorem inB_nat {t : Int} {n : Nat} (h : inB t n = true) : ∃ k : Nat, t = k ∧ k < n := by
  simp [inB] at h; exact ⟨t.toNat, by omega, by omega⟩
theorem inB_mk {k n : Nat} (h : k < n) : inB (k : Int) n = true := by simp [inB]; omega

theorem At.setCopy {w : World} {c cb mb : Nat} {cs : List Nat} {ms : List Int} (h : At w c cb mb cs ms) (a x : Nat) : At (w.setCell ⟨cb, a, none⟩ (.int .u64 x)) c cb mb (cs.set a x) ms :=
  ⟨by simpa using h.top.set_ne h.ne1 a _, by simpa [List.map_set] using h.copies.set a _, h.misses.set_ne h.ne3.symm a _, h.ne1, h.ne2, h.ne3⟩
theorem At.setMiss {w : World} {c cb mb : Nat} {cs : List Nat} {ms : List Int} (h : At w c cb mb cs ms) (t : Nat) (x : Int) : At (w.setCell ⟨mb, t, none⟩ (.int .i64 x)) c cb mb cs (ms.set t x) :=
  ⟨by simpa using h.top.set_ne h.ne2 t _, h.copies.set_ne h.ne3 t _, by simpa [List.map_set] using h.misses.set t _, h.ne1, h.ne2, h.ne3⟩
theorem At.upd {S : Nat → Prop} {w w' : World} {c cb mb : Nat} {cs : List Nat} {ms : List Int} (h : At w c cb mb cs ms) (hu : Upd S w w') (h1 : ¬ S c) (h2 : ¬ S cb) (h3 : ¬ S mb) : At w' c cb mb cs ms :=
  ⟨h.top.upd hu h1, h.copies.upd hu h2, h.misses.upd hu h3, h.ne1, h.ne2, h.ne3⟩

theorem At.alloc {w : World} {c cb mb : Nat} {cs : List Nat} {ms : List Int} (h : At w c cb mb cs ms) (o : Obj) : At (w.alloc o) c cb mb cs ms :=
  ⟨h.top.alloc o, h.copies.alloc o, h.misses.alloc o, h.ne1, h.ne2, h.ne3⟩

theorem At.drewN {w : World} {c cb mb : Nat} {cs : List Nat} {ms : List Int} (h : At w c cb mb cs ms) (n : Nat) : At (w.drewN n) c cb mb cs ms :=
  ⟨h.top, h.copies, h.misses, h.ne1, h.ne2, h.ne3⟩

theorem there (w : World) (c cb mb : Nat) (cs : List Nat) (ms : List Int) (h : At w c cb mb cs ms) (t a : Int) :
    Calls Try.prog 83 #[.pointer (some ⟨c, 0, none⟩), .int .i64 t, .int .i64 a] w fun e w' =>
      e = .returned (.bool (inB t ms.length && inB a cs.length)) ∧ w = w' := by
  have h0 := h.top.cell (i := 0) rfl
  have h1 := h.top.cell (i := 1) rfl
  clear h
  go_enter Try.func83, Try.ntmps83
  go_wp2
  all_goals
    go_ret
    exact ⟨ret_bool (by simp [inB, *] <;> omega), rfl⟩
theorem there_yes (w : World) (c cb mb : Nat) (cs : List Nat) (ms : List Int) (h : At w c cb mb cs ms) (t a : Nat) (ht : t < ms.length) (ha : a < cs.length) :
    Calls Try.prog 83 #[.pointer (some ⟨c, 0, none⟩), .int .i64 t, .int .i64 a] w fun e w' => e = .returned (.bool true) ∧ w = w' :=
  (there w c cb mb cs ms h t a).mono fun e w' ⟨he, hw⟩ => ⟨by rw [he, inB_mk ht, inB_mk ha]; rfl, hw⟩
theorem there_no (w : World) (c cb mb : Nat) (cs : List Nat) (ms : List Int) (h : At w c cb mb cs ms) (t a : Int) (hn : (inB t ms.length && inB a cs.length) = false) :
    Calls Try.prog 83 #[.pointer (some ⟨c, 0, none⟩), .int .i64 t, .int .i64 a] w fun e w' => e = .returned (.bool false) ∧ w = w' :=
  (there w c cb mb cs ms h t a).mono fun e w' ⟨he, hw⟩ => ⟨by rw [he, hn], hw⟩
/-- What a touch tells: was it a miss? -/
def miss (cs : List Nat) (t a : Nat) (write : Bool) : Bool := if write then cs.getD a 0 != 2 ^ t else !(cs.getD a 0).testBit t
/-- The copies behind it. -/
def copies (cs : List Nat) (t a : Nat) (write : Bool) : List Nat := cs.set a (if write then 2 ^ t else cs.getD a 0 ||| 2 ^ t)
/-- The misses behind it. -/
def misses (cs : List Nat) (ms : List Int) (t a : Nat) (write : Bool) : List Int := if miss cs t a write then ms.set t (wrap64 (ms.getD t 0 + 1)) else ms

set_option maxHeartbeats 1000000 in
theorem touch_in (w : World) (c cb mb : Nat) (cs : List Nat) (ms : List Int) (h : At w c cb mb cs ms) (t a : Nat) (write : Bool) (ht : t < ms.length) (ha : a < cs.length)
    (h64 : t < 64) (hc : cs.getD a 0 < 2 ^ 64) :
    Calls Try.prog 79 #[.pointer (some ⟨c, 0, none⟩), .int .i64 t, .int .i64 a, .bool write] w fun e w' =>
      e = .returned (.bool (miss cs t a write)) ∧ At w' c cb mb (copies cs t a write) (misses cs ms t a write) ∧ Upd (fun k => k = cb ∨ k = mb) w w' := by
  have h0 := h.top.cell (i := 0) rfl
  have h1 := h.top.cell (i := 1) rfl
  have hca : (cs.map fun (m : Nat) => Value.int .u64 (m : Int))[a]? = some (.int .u64 (cs.getD a 0 : Nat)) := by simp [List.getD, ha]
  have hmt : (ms.map (Value.int .i64))[t]? = some (.int .i64 (ms.getD t 0)) := by simp [List.getD, ht]
  have h2 := h.copies.cell hca
  have h3 := h.misses.cell hmt
  have f2 := h.copies.frozen a
  have f3 := h.misses.frozen t
  have n1 := h.ne1
  have n2 := h.ne2
  have n3 := h.ne3
  obtain ⟨was, hwas⟩ : ∃ x, cs.getD a 0 = x := ⟨_, rfl⟩
  obtain ⟨m, hm⟩ : ∃ x, ms.getD t 0 = x := ⟨_, rfl⟩
  obtain ⟨p, hp⟩ : ∃ p : Nat, p = 2 ^ t := ⟨_, rfl⟩
  have hpl : p < 2 ^ 64 := by rw [hp]; exact Nat.pow_lt_pow_right (by decide) h64
  have e1 : IntKind.u64.wrap (2 ^ t) = (p : Int) := by
    have e0 : ((2 : Int) ^ t) = (p : Int) := by rw [hp]; push_cast; rfl
    rw [e0]; exact wraps_u64 _ (by omega) (by omega)
  rw [hwas] at h2 hc
  rw [hm] at h3
  have hb := bits_nat .u64 64 (by decide) wraps_u64 was p hc hpl
  obtain ⟨q, hq⟩ : ∃ q : Nat, q = was ||| p := ⟨_, rfl⟩
  have e2 : bits .or .u64 was p = (q : Int) := by rw [hb.2, hq]
  obtain ⟨m1, hm1⟩ : ∃ x, (bits .and .u64 was p == 0) = x := ⟨_, rfl⟩
  obtain ⟨m2, hm2⟩ : ∃ x, ((was : Int) != p) = x := ⟨_, rfl⟩
  have M : Aside0 (miss cs t a write = if write then m2 else m1) := ⟨by
    unfold miss; rw [hwas, ← hm1, ← hm2, hb.1, ← hp]
    cases write
    · simp only [Bool.false_eq_true, if_false]
      rw [hp]; exact (and_two_pow was t).symm
    · simp only [if_true]; rw [Bool.eq_iff_iff]; simp; omega⟩
  clear hb
  have HP := Lib.hid hp; have HQ := Lib.hid hq; have HW := Lib.hid hwas; have HM := Lib.hid hm
  clear hp hq hwas hm
  cases write <;> cases m1 <;> cases m2
  all_goals
    go_enter Try.func79, Try.ntmps79
    go_wp2_with (go_at_call 83; refine (there_yes _ _ _ _ _ _ h _ _ ht ha).mono ?_; rintro e w' ⟨rfl, rfl⟩)
    go_ret
    refine ⟨by rw [M.out]; rfl, ?_, by repeat (first | exact Upd.refl _ _ | (refine Upd.setCell ?_ (by simp) _))⟩
    unfold copies misses
    rw [M.out, HW.out, HM.out, ← HP.out, ← HQ.out]
    first
    | exact h.setCopy a q
    | exact (h.setCopy a q).setMiss t _
    | (have A := (h.setCopy a q).setCopy a p; rw [List.set_set] at A; first | exact A | exact A.setMiss t _)
theorem info_u64 : (Try.prog.info? 159).map (fun i => (i.zero, i.size, i.bytes)) = some (some (.int .u64 0), 1, 8) := by kernel_rfl
theorem info_int : (Try.prog.info? 3).map (fun i => (i.zero, i.size, i.bytes)) = some (some (.int .i64 0), 1, 8) := by kernel_rfl

theorem At.made1 (w : World) (n k : Nat) (T1 T2 T3 : TypeId) :
    At (((w.alloc (.cells (zeros n (.int .u64 0)) T1)).alloc (.cells (zeros k (.int .i64 0)) T2)).alloc (.cells #[.slice (some ⟨w.heap.size, 0, none⟩) n n, .slice (some ⟨w.heap.size + 1, 0, none⟩) k k] T3)).drew
      (w.heap.size + 1 + 1) w.heap.size (w.heap.size + 1) (List.replicate n 0) (List.replicate k 0) :=
  ⟨by simpa using (Row.new' (w := (w.alloc (.cells (zeros n (.int .u64 0)) T1)).alloc (.cells (zeros k (.int .i64 0)) T2)) (a := #[.slice (some ⟨w.heap.size, 0, none⟩) n n, .slice (some ⟨w.heap.size + 1, 0, none⟩) k k]) (T := T3) (n := w.heap.size + 1 + 1) (by simp)).drew,
   by simpa using (((Row.ofZeros (w := w) (T := T1) (n := n) (z := .int .u64 0) rfl).alloc _).alloc _).drew,
   by simpa using ((Row.ofZeros (w := w.alloc (.cells (zeros n (.int .u64 0)) T1)) (T := T2) (n := k) (z := .int .i64 0) (b := w.heap.size + 1) (by simp)).alloc _).drew,
   by omega, by omega, by omega⟩
theorem At.made2 (w : World) (n k : Nat) (T1 T2 T3 : TypeId) :
    At (((w.alloc (.cells (zeros k (.int .i64 0)) T2)).alloc (.cells (zeros n (.int .u64 0)) T1)).alloc (.cells #[.slice (some ⟨w.heap.size + 1, 0, none⟩) n n, .slice (some ⟨w.heap.size, 0, none⟩) k k] T3)).drew
      (w.heap.size + 1 + 1) (w.heap.size + 1) w.heap.size (List.replicate n 0) (List.replicate k 0) :=
  ⟨by simpa using (Row.new' (w := (w.alloc (.cells (zeros k (.int .i64 0)) T2)).alloc (.cells (zeros n (.int .u64 0)) T1)) (a := #[.slice (some ⟨w.heap.size + 1, 0, none⟩) n n, .slice (some ⟨w.heap.size, 0, none⟩) k k]) (T := T3) (n := w.heap.size + 1 + 1) (by simp)).drew,
   by simpa using ((Row.ofZeros (w := w.alloc (.cells (zeros k (.int .i64 0)) T2)) (T := T1) (n := n) (z := .int .u64 0) (b := w.heap.size + 1) (by simp)).alloc _).drew,
   by simpa using (((Row.ofZeros (w := w) (T := T2) (n := k) (z := .int .i64 0) rfl).alloc _).alloc _).drew,
   by omega, by omega, by omega⟩

set_option maxHeartbeats 400000 in
theorem new_yes (w : World) (k n : Nat) (h1 : 1 ≤ k) (h2 : k ≤ 64) (h3 : n ≤ 4096) :
    Calls Try.prog 72 #[.int .i64 k, .int .i64 n] w fun e w' => ∃ c cb mb, e = .returned (.tuple #[.pointer (some ⟨c, 0, none⟩), .int .i64 0]) ∧
      At w' c cb mb (List.replicate n 0) (List.replicate k 0) ∧ w.heap.size ≤ c ∧ w.heap.size ≤ cb ∧ w.heap.size ≤ mb ∧ Upd (fun _ => False) w w' := by
  have k1 := run_make_zeros (P := Try.prog) 153 159 (.int .u64 0) 8 Try.underlying153 info_u64 rfl n (by omega) (by omega)
  have k2 := run_make_zeros (P := Try.prog) 22 3 (.int .i64 0) 8 Try.underlying22 info_int rfl k (by omega) (by omega)
  go_enter Try.func72, Try.ntmps72
  go_wp2
  go_region
  all_goals go_wp2
  all_goals go_ret2
  · exact ⟨_, _, _, rfl, At.made1 w n k _ _ _, by omega, by omega, by omega, by repeat (first | exact Upd.refl _ _ | apply Upd.alloc | apply Upd.drew)⟩
  · exact ⟨_, _, _, rfl, At.made2 w n k _ _ _, by omega, by omega, by omega, by repeat (first | exact Upd.refl _ _ | apply Upd.alloc | apply Upd.drew)⟩
theorem new_no (w : World) (k n : Int) (h : k < 1 ∨ 64 < k ∨ n < 0 ∨ 4096 < n) :
    Calls Try.prog 72 #[.int .i64 k, .int .i64 n] w fun e w' => e = .returned (.tuple #[.pointer none, .int .i64 1]) ∧ w = w' := by
  have hd : (decide (k < 1) || decide (64 < k) || decide (n < 0) || decide (4096 < n)) = true := by simp; omega
  by_cases c1 : k < 1
  · go_enter Try.func72, Try.ntmps72
    go_wp2
    all_goals (go_ret2; exact ⟨rfl, rfl⟩)
  by_cases c2 : 64 < k
  · go_enter Try.func72, Try.ntmps72
    go_wp2
    all_goals (go_ret2; exact ⟨rfl, rfl⟩)
  by_cases c3 : n < 0
  · go_enter Try.func72, Try.ntmps72
    go_wp2
    all_goals (go_ret2; exact ⟨rfl, rfl⟩)
  have c4 : 4096 < n := by omega
  go_enter Try.func72, Try.ntmps72
  go_wp2
  all_goals (go_ret2; exact ⟨rfl, rfl⟩)
/-- Has a thread a valid copy? -/
def has (cs : List Nat) (k : Nat) (t a : Int) : Bool := inB t k && inB a cs.length && (cs.getD a.toNat 0).testBit t.toNat

/-- The same, what it tells and leaves under names of the caller's. -/
theorem touch_to (w : World) (c cb mb : Nat) (cs : List Nat) (ms : List Int) (h : At w c cb mb cs ms) (t a : Int) (write : Bool) (t' a' : Nat) (et : t = t') (ea : a = a') (ht : t' < ms.length) (ha : a' < cs.length)
    (h64 : t' < 64) (hc : cs.getD a' 0 < 2 ^ 64) (r : Bool) (cs' : List Nat) (ms' : List Int) (hr : miss cs t' a' write = r) (h1 : copies cs t' a' write = cs') (h2 : misses cs ms t' a' write = ms') :
    Calls Try.prog 79 #[.pointer (some ⟨c, 0, none⟩), .int .i64 t, .int .i64 a, .bool write] w fun e w' =>
      e = .returned (.bool r) ∧ At w' c cb mb cs' ms' ∧ Upd (fun k => k = cb ∨ k = mb) w w' := by
  subst et ea hr h1 h2; exact touch_in w c cb mb cs ms h t' a' write ht ha h64 hc
theorem touch_no (w : World) (c cb mb : Nat) (cs : List Nat) (ms : List Int) (h : At w c cb mb cs ms) (t a : Int) (write : Bool) (hn : (inB t ms.length && inB a cs.length) = false) :
    Calls Try.prog 79 #[.pointer (some ⟨c, 0, none⟩), .int .i64 t, .int .i64 a, .bool write] w fun e w' => e = .returned (.bool false) ∧ w = w' := by
  go_enter Try.func79, Try.ntmps79
  go_wp2_with (go_at_call 83; refine (there_no _ _ _ _ _ _ h _ _ hn).mono ?_; rintro e w' ⟨rfl, rfl⟩)
  go_ret
  exact ⟨rfl, rfl⟩
theorem misses_no (w : World) (c cb mb : Nat) (cs : List Nat) (ms : List Int) (h : At w c cb mb cs ms) (t : Int) (hn : inB t ms.length = false) :
    Calls Try.prog 77 #[.pointer (some ⟨c, 0, none⟩), .int .i64 t] w fun e w' => e = .returned (.int .i64 0) ∧ w = w' := by
  have h1 := h.top.cell (i := 1) rfl
  clear h
  by_cases c1 : t < 0
  · go_enter Try.func77, Try.ntmps77
    go_wp2
    all_goals (go_ret; exact ⟨rfl, rfl⟩)
  · have c2 : (ms.length : Int) ≤ t := by simp [inB] at hn; omega
    go_enter Try.func77, Try.ntmps77
    go_wp2
    all_goals (go_ret; exact ⟨rfl, rfl⟩)
theorem misses_in (w : World) (c cb mb : Nat) (cs : List Nat) (ms : List Int) (h : At w c cb mb cs ms) (t : Nat) (ht : t < ms.length) :
    Calls Try.prog 77 #[.pointer (some ⟨c, 0, none⟩), .int .i64 t] w fun e w' => e = .returned (.int .i64 (ms.getD t 0)) ∧ w = w' := by
  have h1 := h.top.cell (i := 1) rfl
  have hmt : (ms.map (Value.int .i64))[t]? = some (.int .i64 (ms.getD t 0)) := by simp [List.getD, ht]
  have h3 := h.misses.cell hmt
  clear h hmt
  obtain ⟨m, hm⟩ : ∃ x, ms.getD t 0 = x := ⟨_, rfl⟩
  rw [hm] at h3 ⊢
  clear hm
  go_enter Try.func77, Try.ntmps77
  go_wp2
  all_goals (go_ret; exact ⟨rfl, rfl⟩)
/-- The sum of all misses, as ints are added. -/
def total (ms : List Int) : Int := ms.foldl (fun n k => wrap64 (n + k)) 0
theorem total_snoc (ms : List Int) (k : Nat) (h : k < ms.length) : total (ms.take (k + 1)) = wrap64 (total (ms.take k) + ms.getD k 0) := by
  unfold total
  rw [List.take_succ_eq_append_getElem h, List.foldl_append, getD_lt _ _ _ h]; rfl
end Go.Proofs.Ytlkpfdboagjaoaa.Cache
