/- Package cache: caches as objects: the touches that there were, and in which blocks they lie. -/
import Derived.Test.YtlkpfdboagjaoaaCache
import Derived.Test.YtlkpfdboagjaoaaHas
namespace Go.Proofs.Ytlkpfdboagjaoaa.Cache
open Go Go.RowKit Go.Proofs.Ytlkpfdboagjaoaa.Heap Go.Proofs.Ytlkpfdboagjaoaa.Has

/-- A cache at c of k threads and n words, behind the touches l; all its blocks in S. -/
structure O (w : World) (c : Nat) (S : Nat → Prop) (k n : Nat) (l : List T) : Prop where
  ex : ∃ cb mb cs ms, At w c cb mb cs ms ∧ S c ∧ S cb ∧ S mb ∧ cs.length = n ∧ ms.length = k ∧ (∀ a : Nat, a < n → Bits k (cs.getD a 0) (fun u => Has.has l u a)) ∧ (∀ t : Nat, t < k → ms.getD t 0 = (Has.misses k l t : Nat))
  lt : ∀ b, S b → b < w.heap.size
  k64 : k ≤ 64
  few : l.length ≤ 1000000
theorem O.keep {T S : Nat → Prop} {w w' : World} {c k n : Nat} {l : List Has.T} (h : O w c S k n l) (hu : Upd T w w') (hd : ∀ b, S b → ¬ T b) : O w' c S k n l := by
  obtain ⟨⟨cb, mb, cs, ms, ha, h1, h2, h3, r⟩, hl, h64, hf⟩ := h
  exact ⟨⟨cb, mb, cs, ms, ha.upd hu (hd _ h1) (hd _ h2) (hd _ h3), h1, h2, h3, r⟩, fun b hb => Nat.lt_of_lt_of_le (hl b hb) hu.size, h64, hf⟩
theorem O.alloc {S : Nat → Prop} {w : World} {c k n : Nat} {l : List T} (h : O w c S k n l) (o : Obj) : O (w.alloc o) c S k n l :=
  h.keep ((Upd.refl (fun _ => False) w).alloc o) fun _ _ => id
theorem O.drewN {S : Nat → Prop} {w : World} {c k n : Nat} {l : List T} (h : O w c S k n l) (m : Nat) : O (w.drewN m) c S k n l :=
  h.keep ((Upd.refl (fun _ => False) w).drewN m) fun _ _ => id
theorem O.below {S : Nat → Prop} {w w' : World} {c k n : Nat} {l : List T} (h : O w c S k n l) (hb : Below w.heap.size w w') : O w' c S k n l :=
  h.keep (Upd.of_below (S := fun _ => False) hb) fun _ _ => id
theorem O.mem {S : Nat → Prop} {w : World} {c k n : Nat} {l : List T} (h : O w c S k n l) : S c := by
  obtain ⟨⟨cb, mb, cs, ms, ha, h1, _⟩, _⟩ := h; exact h1

theorem wrap_small (n : Nat) (h : n ≤ 1000000) : wrap64 ((n : Int) + 1) = (n : Int) + 1 := by
  unfold wrap64; omega
/-- What a touch in range makes of the touches so far. -/
theorem step_at {k n : Nat} {cs : List Nat} {ms : List Int} {l : List T} (hcs : cs.length = n) (hms : ms.length = k) (hb : ∀ a : Nat, a < n → Bits k (cs.getD a 0) (fun u => Has.has l u a)) (hm : ∀ t : Nat, t < k → ms.getD t 0 = (Has.misses k l t : Nat))
    (hf : l.length < 1000000) (t a : Nat) (wr : Bool) (ht : t < k) (ha : a < n) :
    miss cs t a wr = Has.miss l ⟨t, a, wr⟩ k ∧ (∀ b : Nat, b < n → Bits k ((copies cs t a wr).getD b 0) (fun u => Has.has (l ++ [⟨t, a, wr⟩]) u b)) ∧ (∀ u : Nat, u < k → (misses cs ms t a wr).getD u 0 = (Has.misses k (l ++ [⟨t, a, wr⟩]) u : Nat)) := by
  have hba := hb a ha
  have e1 : miss cs t a wr = Has.miss l ⟨t, a, wr⟩ k := by
    unfold miss Has.miss
    cases wr with
    | true => rw [if_pos rfl, Bool.true_and]; exact hba.only ht
    | false => rw [if_neg (by decide), Bool.false_and, Bool.or_false, hba.2 t ht]
  refine ⟨e1, fun b hbn => ?_, fun u hu => ?_⟩
  · unfold copies
    by_cases e : a = b
    · subst e
      have eg : ∀ x, (cs.set a x).getD a 0 = x := by intro x; simp [List.getD, hcs, ha]
      rw [eg]
      cases wr with
      | true =>
        rw [if_pos rfl]
        refine Bits.one ht fun u hu => ?_
        rw [has_snoc, if_pos rfl]
        by_cases e2 : t = u
        · subst e2; simp
        · have : ¬ ((t : Int) = (u : Int)) := by omega
          rw [if_neg this, if_pos rfl]; simp; omega
      | false =>
        rw [if_neg (by decide)]
        refine hba.or ht fun u hu => ?_
        show Has.has (l ++ [_]) u a = _
        rw [has_snoc, if_pos rfl]
        by_cases e2 : t = u
        · subst e2; simp
        · have : ¬ ((t : Int) = (u : Int)) := by omega
          rw [if_neg this, if_neg (by show ¬ (false = true); decide)]
          have : decide (u = t) = false := by simp; omega
          rw [this, Bool.false_or]
    · have eg : ∀ x, (cs.set a x).getD b 0 = cs.getD b 0 := by intro x; simp only [List.getD]; rw [List.getElem?_set_ne e]
      rw [eg]
      refine (hb b hbn).congr fun u hu => ?_
      rw [has_snoc, if_neg (by show ¬ (a : Int) = b; omega)]
  · unfold misses
    rw [misses_snoc, e1]
    by_cases hmi : Has.miss l ⟨t, a, wr⟩ k = true
    · rw [if_pos hmi]
      by_cases e : t = u
      · subst e
        rw [if_pos ⟨rfl, hmi⟩]
        have eg : ∀ x, (ms.set t x).getD t 0 = x := by intro x; simp [List.getD, hms, ht]
        rw [eg, hm t ht, wrap_small _ (Nat.le_trans (misses_le _ _ _) (Nat.le_of_lt hf))]
        push_cast; rfl
      · have eg : ∀ x, (ms.set t x).getD u 0 = ms.getD u 0 := by intro x; simp only [List.getD]; rw [List.getElem?_set_ne e]
        rw [eg, hm u hu, if_neg (by rintro ⟨h1, _⟩; have : (t : Int) = u := h1; omega), Nat.add_zero]
    · rw [if_neg hmi, hm u hu, if_neg (by rintro ⟨_, h2⟩; exact hmi h2), Nat.add_zero]

/-- The touches behind one more. -/
def after (k n : Nat) (l : List T) (t a : Int) (wr : Bool) : List T := if (inB t k && inB a n) = true then l ++ [⟨t, a, wr⟩] else l
/-- What it tells. -/
def told (k n : Nat) (l : List T) (t a : Int) (wr : Bool) : Bool := inB t k && inB a n && Has.miss l ⟨t, a, wr⟩ k
theorem told_in {k n t a : Nat} (l : List T) (wr : Bool) (ht : t < k) (ha : a < n) : told k n l t a wr = Has.miss l ⟨t, a, wr⟩ k := by unfold told; rw [inB_mk ht, inB_mk ha]; rfl
theorem after_in {k n t a : Nat} (l : List T) (wr : Bool) (ht : t < k) (ha : a < n) : after k n l t a wr = l ++ [⟨t, a, wr⟩] := by unfold after; rw [inB_mk ht, inB_mk ha]; rfl
theorem told_out {k n : Nat} {t a : Int} (l : List T) (wr : Bool) (h : t < 0 ∨ (k : Int) ≤ t ∨ a < 0 ∨ (n : Int) ≤ a) : told k n l t a wr = false ∧ after k n l t a wr = l := by
  have e : (inB t k && inB a n) = false := by
    cases hh : inB t k && inB a n with
    | false => rfl
    | true => simp [inB] at hh; omega
  unfold told after; rw [e]; exact ⟨rfl, rfl⟩
theorem after_len (k n : Nat) (l : List T) (t a : Int) (wr : Bool) : (after k n l t a wr).length ≤ l.length + 1 := by unfold after; split <;> simp
theorem touchO (w : World) (c : Nat) (S : Nat → Prop) (k n : Nat) (l : List T) (h : O w c S k n l) (hf : l.length < 1000000) (t a : Int) (wr : Bool) :
    Calls Try.prog 79 #[.pointer (some ⟨c, 0, none⟩), .int .i64 t, .int .i64 a, .bool wr] w fun e w' =>
      e = .returned (.bool (told k n l t a wr)) ∧ O w' c S k n (after k n l t a wr) ∧ Upd S w w' := by
  have hO := h
  obtain ⟨⟨cb, mb, cs, ms, ha, h1, h2, h3, hcs, hms, hb, hm⟩, hl, h64, _⟩ := h
  cases hn : inB t k && inB a n with
  | false =>
    have e1 : told k n l t a wr = false := by unfold told; rw [hn]; rfl
    have e2 : after k n l t a wr = l := by unfold after; rw [hn]; rfl
    rw [e1, e2]
    exact (touch_no w c cb mb cs ms ha t a wr (by rw [hms, hcs]; exact hn)).mono fun e w' ⟨he, hw⟩ => ⟨he, hw ▸ hO, hw ▸ Upd.refl _ _⟩
  | true =>
    have hn2 := hn
    rw [Bool.and_eq_true] at hn2
    obtain ⟨t, rfl, ht⟩ := inB_nat hn2.1
    obtain ⟨a, rfl, hat⟩ := inB_nat hn2.2
    obtain ⟨s1, s2, s3⟩ := step_at hcs hms hb hm hf t a wr ht hat
    have e1 : told k n l t a wr = Has.miss l ⟨t, a, wr⟩ k := by unfold told; rw [hn]; rfl
    have e2 : after k n l t a wr = l ++ [⟨t, a, wr⟩] := by unfold after; rw [hn]; rfl
    rw [e1, e2]
    have hlt : cs.getD a 0 < 2 ^ 64 := Nat.lt_of_lt_of_le (hb a hat).1 (Nat.pow_le_pow_right (by decide) h64)
    refine (touch_in w c cb mb cs ms ha t a wr (by omega) (by omega) (by omega) hlt).mono fun e w' ⟨he, ha', hu⟩ => ?_
    have hu' : Upd S w w' := hu.mono fun i _ hi => by rcases hi with rfl | rfl <;> assumption
    refine ⟨by rw [he, s1], ⟨⟨cb, mb, _, _, ha', h1, h2, h3, ?_, ?_, s2, s3⟩, fun b hb => Nat.lt_of_lt_of_le (hl b hb) hu.size, h64, ?_⟩, hu'⟩
    · unfold copies; simpa using hcs
    · unfold misses; split <;> simpa using hms
    · simp; omega
theorem missesO (w : World) (c : Nat) (S : Nat → Prop) (k n : Nat) (l : List T) (h : O w c S k n l) (t : Int) :
    Calls Try.prog 77 #[.pointer (some ⟨c, 0, none⟩), .int .i64 t] w fun e w' =>
      e = .returned (.int .i64 (if inB t k = true then (Has.misses k l t : Nat) else 0)) ∧ w = w' := by
  obtain ⟨⟨cb, mb, cs, ms, ha, h1, h2, h3, hcs, hms, hb, hm⟩, hl, h64, _⟩ := h
  cases hn : inB t k with
  | false => exact misses_no w c cb mb cs ms ha t (by rw [hms]; exact hn)
  | true =>
    obtain ⟨t, rfl, ht⟩ := inB_nat hn
    rw [if_pos rfl, ← hm t ht]
    exact misses_in w c cb mb cs ms ha t (by omega)
theorem newO (w : World) (k n : Nat) (h1 : 1 ≤ k) (h2 : k ≤ 64) (h3 : n ≤ 4096) :
    Calls Try.prog 72 #[.int .i64 k, .int .i64 n] w fun e w' => ∃ c, e = .returned (.tuple #[.pointer (some ⟨c, 0, none⟩), .int .i64 0]) ∧
      O w' c (fun b => w.heap.size ≤ b ∧ b < w'.heap.size) k n [] ∧ Below w.heap.size w w' :=
  (new_yes w k n h1 h2 h3).mono fun _ _ ⟨c, cb, mb, he, ha, b1, b2, b3, hu⟩ => ⟨c, he, ⟨⟨cb, mb, _, _, ha, ⟨b1, ha.top.lt⟩, ⟨b2, ha.copies.lt⟩, ⟨b3, ha.misses.lt⟩, by simp, by simp,
    fun a hn => by
      have : (List.replicate n 0).getD a 0 = 0 := by simp [List.getD, hn]
      rw [this]; exact Bits.zero _ fun _ => rfl,
    fun t ht => by simp [List.getD, ht, Has.misses_nil]⟩, fun _ hb => hb.2, h2, by simp⟩, hu.none⟩
end Go.Proofs.Ytlkpfdboagjaoaa.Cache
