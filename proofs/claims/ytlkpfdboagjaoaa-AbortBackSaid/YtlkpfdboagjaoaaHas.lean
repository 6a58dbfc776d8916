/- Touches of words by threads: who has a valid copy behind them, and which of them were misses. No program in sight. -/
import Derived.Test.YtlkpfdboagjaoaaHeap
namespace Go.Proofs.Ytlkpfdboagjaoaa.Has
open Go Go.Proofs.Ytlkpfdboagjaoaa.Heap

/-- A touch: by whom, of which word, and whether it is a write. -/
structure T where
  t : Int
  a : Int
  wr : Bool
instance : Inhabited T := ⟨⟨0, 0, false⟩⟩
def T.cells (x : T) : List Value := [.int .i64 x.t, .int .i64 x.a, .bool x.wr]
/-- Has a thread a valid copy? Of touches, the last one first. -/
def hasR : List T → Int → Int → Bool
  | [], _, _ => false
  | x :: l, t, a => if x.a = a then (if x.t = t then true else if x.wr = true then false else hasR l t a) else hasR l t a
def has (l : List T) (t a : Int) : Bool := hasR l.reverse t a
theorem has_nil (t a : Int) : has [] t a = false := rfl
theorem has_snoc (l : List T) (x : T) (t a : Int) : has (l ++ [x]) t a = if x.a = a then (if x.t = t then true else if x.wr = true then false else has l t a) else has l t a := by
  unfold has; rw [List.reverse_append]; rfl
/-- Is a touch behind these a miss, of so many threads? -/
def miss (l : List T) (x : T) (n : Nat) : Bool := !has l x.t x.a || (x.wr && (List.range n).any fun u => decide ((u : Int) ≠ x.t) && has l u x.a)
/-- Of touches, the last one first: how many of a thread's were misses. -/
def missesR (n : Nat) : List T → Int → Nat
  | [], _ => 0
  | x :: l, t => missesR n l t + if x.t = t ∧ miss l.reverse x n = true then 1 else 0
def misses (n : Nat) (l : List T) (t : Int) : Nat := missesR n l.reverse t
theorem misses_nil (n : Nat) (t : Int) : misses n [] t = 0 := rfl
theorem misses_snoc (n : Nat) (l : List T) (x : T) (t : Int) : misses n (l ++ [x]) t = misses n l t + if x.t = t ∧ miss l x n = true then 1 else 0 := by
  unfold misses
  have e : (l ++ [x]).reverse = x :: l.reverse := by simp
  rw [e]
  show missesR n l.reverse t + (if x.t = t ∧ miss l.reverse.reverse x n = true then 1 else 0) = _
  rw [List.reverse_reverse]
theorem misses_le (n : Nat) (l : List T) (t : Int) : misses n l t ≤ l.length := by
  have : ∀ l : List T, missesR n l t ≤ l.length := by
    intro l
    induction l with
    | nil => exact Nat.le_refl _
    | cons x l ih => unfold missesR; rw [List.length_cons]; split <;> omega
  have h := this l.reverse
  rwa [List.length_reverse] at h

/-- All misses of the threads below j. -/
def sumTo (n : Nat) (l : List T) : Nat → Nat
  | 0 => 0
  | j + 1 => sumTo n l j + misses n l j
theorem sumTo_nil (n j : Nat) : sumTo n [] j = 0 := by
  induction j with
  | zero => rfl
  | succ j ih => show sumTo n [] j + misses n [] j = 0; rw [ih, misses_nil]
theorem sumTo_snoc (n : Nat) (l : List T) (x : T) (j : Nat) : sumTo n (l ++ [x]) j = sumTo n l j + if (0 ≤ x.t ∧ x.t < j) ∧ miss l x n = true then 1 else 0 := by
  induction j with
  | zero => rw [if_neg (by omega)]; rfl
  | succ j ih =>
    show sumTo n (l ++ [x]) j + misses n (l ++ [x]) j = sumTo n l j + misses n l j + _
    rw [ih, misses_snoc]
    by_cases hm : miss l x n = true
    · by_cases h1 : x.t = j
      · rw [if_neg (by omega), if_pos ⟨h1, hm⟩, if_pos ⟨by omega, hm⟩]; omega
      · by_cases h2 : 0 ≤ x.t ∧ x.t < j
        · rw [if_pos ⟨h2, hm⟩, if_neg (by rintro ⟨h, _⟩; exact h1 h), if_pos ⟨by omega, hm⟩]; omega
        · rw [if_neg (by rintro ⟨h, _⟩; exact h2 h), if_neg (by rintro ⟨h, _⟩; exact h1 h), if_neg (by rintro ⟨h, _⟩; omega)]; omega
    · rw [if_neg (by rintro ⟨_, h⟩; exact hm h), if_neg (by rintro ⟨_, h⟩; exact hm h), if_neg (by rintro ⟨_, h⟩; exact hm h)]; omega
theorem sumTo_le (n j : Nat) (l : List T) : sumTo n l j ≤ l.length := by
  have : ∀ l : List T, sumTo n l.reverse j ≤ l.length := by
    intro l
    induction l with
    | nil => rw [List.reverse_nil, sumTo_nil]; exact Nat.le_refl _
    | cons x l ih => rw [List.reverse_cons, sumTo_snoc, List.length_cons]; split <;> omega
  have h := this l.reverse
  rwa [List.reverse_reverse, List.length_reverse] at h

/-- A word's copies: bit u is set just if thread u has one. -/
def Bits (k : Nat) (m : Nat) (f : Int → Bool) : Prop := m < 2 ^ k ∧ ∀ u : Nat, u < k → m.testBit u = f u
theorem Bits.zero (k : Nat) {f : Int → Bool} (h : ∀ u, f u = false) : Bits k 0 f := ⟨Nat.two_pow_pos _, fun u _ => by rw [Nat.zero_testBit, h]⟩
theorem Bits.high {k m : Nat} {f : Int → Bool} (h : Bits k m f) {u : Nat} (hu : k ≤ u) : m.testBit u = false :=
  Nat.testBit_lt_two_pow (Nat.lt_of_lt_of_le h.1 (Nat.pow_le_pow_right (by decide) hu))
theorem Bits.only {k m : Nat} {f : Int → Bool} (h : Bits k m f) {t : Nat} (ht : t < k) : (m != 2 ^ t) = (!f t || (List.range k).any fun u => decide ((u : Int) ≠ t) && f u) := by
  rw [Bool.eq_iff_iff]
  constructor
  · intro hne
    by_cases hb : f t = true
    · rw [hb, Bool.not_true, Bool.false_or]
      by_cases hall : ∀ u : Nat, u < k → u ≠ t → f u = false
      · exfalso
        have : m = 2 ^ t := by
          refine Nat.eq_of_testBit_eq fun i => ?_
          rw [Nat.testBit_two_pow]
          by_cases hi : i < k
          · rw [h.2 i hi]
            by_cases e : t = i
            · subst e; simp [hb]
            · rw [hall i hi (fun x => e x.symm)]; simp [e]
          · rw [h.high (by omega)]; simp; omega
        simp [this] at hne
      · have hex : ∃ u : Nat, u < k ∧ u ≠ t ∧ f u = true := by
          apply Classical.byContradiction
          intro hn
          apply hall
          intro u hu hut
          cases hf : f u with
          | false => rfl
          | true => exact absurd ⟨u, hu, hut, hf⟩ hn
        obtain ⟨u, hu, hut, hf⟩ := hex
        rw [List.any_eq_true]
        exact ⟨u, List.mem_range.2 hu, by simp [hf]; omega⟩
    · simp at hb; rw [hb]; rfl
  · intro hor
    rw [bne_iff_ne]
    intro e
    subst e
    have h1 : f t = true := by rw [← h.2 t ht, Nat.testBit_two_pow_self]
    rw [h1, Bool.not_true, Bool.false_or, List.any_eq_true] at hor
    obtain ⟨u, hu, hh⟩ := hor
    simp only [Bool.and_eq_true, decide_eq_true_eq] at hh
    have hu := List.mem_range.1 hu
    rw [← h.2 u hu, Nat.testBit_two_pow] at hh
    simp at hh
    omega
theorem Bits.or {k m : Nat} {f g : Int → Bool} (h : Bits k m f) {t : Nat} (ht : t < k) (hg : ∀ u : Nat, u < k → g u = (decide (u = t) || f u)) : Bits k (m ||| 2 ^ t) g := by
  refine ⟨Nat.or_lt_two_pow h.1 (Nat.pow_lt_pow_right (by decide) ht), fun u hu => ?_⟩
  rw [Nat.testBit_or, Nat.testBit_two_pow, hg u hu, h.2 u hu, Bool.or_comm]
  congr 1
  simp [eq_comm]
theorem Bits.one {k : Nat} {g : Int → Bool} {t : Nat} (ht : t < k) (hg : ∀ u : Nat, u < k → g u = decide (u = t)) : Bits k (2 ^ t) g := by
  refine ⟨Nat.pow_lt_pow_right (by decide) ht, fun u hu => ?_⟩
  rw [Nat.testBit_two_pow, hg u hu]
  simp [eq_comm]
/-- Bits that say the same. -/
theorem Bits.congr {k m : Nat} {f g : Int → Bool} (h : Bits k m f) (hg : ∀ u : Nat, u < k → g u = f u) : Bits k m g := ⟨h.1, fun u hu => by rw [hg u hu]; exact h.2 u hu⟩
/-- How many touches, and how many writes, a thread had. -/
def acc (l : List T) (t : Int) : Nat := l.countP fun x => x.t == t
def wrs (l : List T) (t : Int) : Nat := l.countP fun x => x.t == t && x.wr
theorem acc_snoc (l : List T) (x : T) (t : Int) : acc (l ++ [x]) t = acc l t + if x.t = t then 1 else 0 := by
  unfold acc; rw [List.countP_append]; congr 1; simp [List.countP_cons]
theorem wrs_snoc (l : List T) (x : T) (t : Int) : wrs (l ++ [x]) t = wrs l t + if x.t = t ∧ x.wr = true then 1 else 0 := by
  unfold wrs; rw [List.countP_append]; congr 1; simp [List.countP_cons]
theorem acc_le (l : List T) (t : Int) : acc l t ≤ l.length := List.countP_le_length
theorem wrs_le (l : List T) (t : Int) : wrs l t ≤ acc l t := List.countP_mono_left (by intro x _ h; simp at h ⊢; exact h.1)
theorem misses_acc (n : Nat) (l : List T) (t : Int) : misses n l t ≤ acc l t := by
  have : ∀ l : List T, misses n l.reverse t ≤ acc l.reverse t := by
    intro l
    induction l with
    | nil => exact Nat.le_refl _
    | cons x l ih =>
      rw [List.reverse_cons, misses_snoc, acc_snoc]
      by_cases h : x.t = t
      · rw [if_pos h]; split <;> omega
      · rw [if_neg h, if_neg (by rintro ⟨e, _⟩; exact h e)]; omega
  have h := this l.reverse
  rwa [List.reverse_reverse] at h
end Go.Proofs.Ytlkpfdboagjaoaa.Has
