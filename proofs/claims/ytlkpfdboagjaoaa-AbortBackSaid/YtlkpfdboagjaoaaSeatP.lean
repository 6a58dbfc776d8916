/- What calls make of seats, as lists. No program in sight. -/
import Derived.Test.YtlkpfdboagjaoaaOrd
namespace Go.Proofs.Ytlkpfdboagjaoaa.SeatP
open Go Go.Proofs.Ytlkpfdboagjaoaa.Heap Go.Proofs.Ytlkpfdboagjaoaa.Seat Go.Proofs.Ytlkpfdboagjaoaa.Mach

/-- What a context does. -/
def stt (l : List (Int × Int)) (k : Nat) : Int := (l.getD k (0, -1)).1
theorem state_nat (l : List (Int × Int)) (k : Nat) : state l (k : Int) = stt l k := by
  unfold state stt
  by_cases h : k < l.length
  · rw [inB_mk h, if_pos rfl, Int.toNat_natCast]
  · have : inB (k : Int) l.length = false := by simp [inB]; omega
    rw [this]
    simp [List.getD, show l.length ≤ k by omega]
theorem state_out (l : List (Int × Int)) (t : Int) (h : ¬ ∃ k : Nat, t = k ∧ k < l.length) : state l t = 0 := by
  unfold state
  cases hb : inB t l.length with
  | true => exact absurd (inB_nat hb) h
  | false => rfl
theorem stt_set (l : List (Int × Int)) (k : Nat) (x : Int × Int) (hk : k < l.length) (u : Nat) : stt (l.set k x) u = if u = k then x.1 else stt l u := by
  unfold stt
  by_cases e : u = k
  · subst e; simp [List.getD, List.getElem?_set_self hk]
  · rw [if_neg e, List.getD, List.getElem?_set_ne (fun z => e z.symm)]; rfl
theorem stt_lt {l : List (Int × Int)} {k : Nat} (h : stt l k ≠ 0) : k < l.length := by
  rcases Nat.lt_or_ge k l.length with h' | h'
  · exact h'
  · exact absurd (by simp [stt, List.getD, h']) h
theorem lock_cases (l : List (Int × Int)) (td : Bool) (t d : Int) : (lock l td t d).2 = l ∨ ∃ k : Nat, t = k ∧ k < l.length ∧ stt l k = 0 ∧ (lock l td t d).2 = l.set k (1, d) ∧ -1 ≤ d ∧ (td = false → d = -1) := by
  unfold lock
  cases hb : inB t l.length with
  | false => exact .inl rfl
  | true =>
    obtain ⟨k, rfl, hk⟩ := inB_nat hb
    rw [if_pos rfl]
    by_cases h1 : d < -1
    · rw [if_pos h1]; exact .inl rfl
    · rw [if_neg h1]
      by_cases h2 : 0 ≤ d ∧ td = false
      · rw [if_pos h2]; exact .inl rfl
      · rw [if_neg h2, Int.toNat_natCast]
        by_cases h3 : (l.getD k (0, -1)).1 ≠ 0
        · rw [if_pos h3]; exact .inl rfl
        · rw [if_neg h3]
          refine .inr ⟨k, rfl, hk, Decidable.not_not.1 h3, rfl, by omega, fun e => ?_⟩
          rcases Int.lt_or_le d 0 with h | h
          · omega
          · exact absurd ⟨h, e⟩ h2
theorem turn_cases (l : List (Int × Int)) (t s : Int) : (turn l t s).2 = l ∨ ∃ k : Nat, t = k ∧ k < l.length ∧ stt l k = 2 ∧ ∃ d, (turn l t s).2 = l.set k (s, d) := by
  unfold turn
  dsimp only
  by_cases h : holds l t = 0
  · rw [if_pos h]
    obtain ⟨k, rfl, hk⟩ := inB_nat (holds_in h)
    right
    refine ⟨k, rfl, hk, ?_, _, rfl⟩
    unfold holds at h
    rw [inB_mk hk, if_pos rfl, Int.toNat_natCast] at h
    by_cases h0 : (l.getD k (0, -1)).1 = 0
    · rw [if_pos h0] at h; omega
    · rw [if_neg h0] at h
      by_cases h2 : (l.getD k (0, -1)).1 = 2
      · exact h2
      · rw [if_neg h2] at h; omega
  · rw [if_neg h]; exact .inl rfl
theorem turn_ok (l : List (Int × Int)) (k : Nat) (s : Int) (hk : k < l.length) (h : stt l k = 2) : (turn l k s).1 = 0 := by
  show holds l k = 0
  unfold holds
  unfold stt at h
  rw [inB_mk hk, if_pos rfl, Int.toNat_natCast, h, if_neg (by omega), if_pos rfl]
theorem turn_eq (l : List (Int × Int)) (k : Nat) (s : Int) (hk : k < l.length) (h : stt l k = 2) : ∃ d, (turn l k s).2 = l.set k (s, d) := by
  have := turn_ok l k s hk h
  have h' : holds l k = 0 := this
  unfold turn
  dsimp only
  rw [if_pos h', Int.toNat_natCast]
  exact ⟨_, rfl⟩
theorem lock_eq (l : List (Int × Int)) (td : Bool) (k : Nat) (hk : k < l.length) (h : stt l k = 0) : (lock l td k (-1)).2 = l.set k (1, -1) := by
  unfold stt at h
  unfold lock
  rw [inB_mk hk, if_pos rfl, if_neg (by omega), if_neg (by omega), Int.toNat_natCast, h, if_neg (by omega)]
theorem probe_cases (l : List (Int × Int)) (pd : Bool) (t : Int) : (probe l pd t).2 = l ∨ ∃ k : Nat, t = k ∧ k < l.length ∧ stt l k = 2 ∧ ∃ d, (probe l pd t).2 = l.set k (4, d) := by
  unfold probe
  cases pd with
  | true => exact turn_cases l t 4
  | false => exact .inl rfl
theorem fin_cases (l : List (Int × Int)) (t ev : Int) : (next (state l t) ev < 0 ∧ (fin l t ev).2 = l) ∨ ∃ k : Nat, t = k ∧ k < l.length ∧ 0 ≤ next (stt l k) ev ∧ (fin l t ev).2 = l.set k (next (stt l k) ev, -1) := by
  unfold fin
  by_cases h : next (state l t) ev < 0
  · rw [if_pos h]; exact .inl ⟨h, rfl⟩
  · rw [if_neg h]
    right
    cases hb : inB t l.length with
    | false =>
      have : state l t = 0 := by unfold state; rw [hb]; rfl
      rw [this, next_zero] at h; omega
    | true =>
      obtain ⟨k, rfl, hk⟩ := inB_nat hb
      rw [state_nat] at h ⊢
      exact ⟨k, rfl, hk, by omega, rfl⟩
theorem fin_none (l : List (Int × Int)) (t : Int) : (fin l t 0).2 = l := by
  unfold fin
  rw [if_pos]
  unfold next
  (repeat' split) <;> simp_all
theorem fin_eq (l : List (Int × Int)) (k : Nat) (ev : Int) (h : 0 ≤ next (stt l k) ev) : (fin l k ev).2 = l.set k (next (stt l k) ev, -1) := by
  unfold fin
  rw [state_nat, if_neg (by omega), Int.toNat_natCast]
/-- Different numbers below n are n at most. -/
theorem nodup_le : ∀ (n : Nat) (q : List Int), q.Nodup → (∀ x ∈ q, ∃ t : Nat, x = t ∧ t < n) → q.length ≤ n
  | 0, q, _, h => by
    cases q with
    | nil => simp
    | cons a r => obtain ⟨t, _, ht⟩ := h a (by simp); omega
  | n + 1, q, hd, h => by
    by_cases hm : (n : Int) ∈ q
    · have h1 := nodup_le n (q.erase (n : Int)) (hd.erase _) (fun x hx => by
        have h2 := (List.Nodup.mem_erase_iff hd).1 hx
        obtain ⟨t, e, ht⟩ := h x h2.2
        refine ⟨t, e, ?_⟩
        rcases Nat.lt_or_ge t n with h3 | h3
        · exact h3
        · exact absurd (by rw [e]; congr 1; omega) h2.1)
      rw [List.length_erase_of_mem hm] at h1
      have := List.length_pos_of_mem hm
      omega
    · have h1 := nodup_le n q hd (fun x hx => by
        obtain ⟨t, e, ht⟩ := h x hx
        refine ⟨t, e, ?_⟩
        rcases Nat.lt_or_ge t n with h3 | h3
        · exact h3
        · exact absurd (by have : (n : Int) = x := by omega
                           rw [this]; exact hx) hm)
      omega
/-- At most one holds, if all that hold are one. -/
theorem holders_one (l : List (Int × Int)) (n : Nat) (hn : l.length = n) (h : Option Nat) (hh : ∀ t, t < n → stt l t = 2 → h = some t) : holders l n ≤ 1 := by
  have key : ∀ k, k ≤ n → holders l k ≤ 1 ∧ (∀ t, h = some t → k ≤ t → holders l k = 0) ∧ (h = none → holders l k = 0) := by
    intro k
    induction k with
    | zero => intro _; simp [holders]
    | succ k ih =>
      intro hk
      obtain ⟨i1, i2, i3⟩ := ih (by omega)
      have e := holders_next l k (by omega)
      by_cases h2 : (l.getD k (0, -1)).1 = 2
      · have hs := hh k (by omega) h2
        rw [if_pos h2] at e
        have := i2 k hs (Nat.le_refl _)
        refine ⟨by omega, fun t ht hkt => ?_, fun hn => by rw [hs] at hn; cases hn⟩
        rw [hs] at ht
        simp at ht
        omega
      · rw [if_neg h2] at e
        exact ⟨by omega, fun t ht hkt => by have := i2 t ht (by omega); omega, fun hn => by have := i3 hn; omega⟩
  exact (key n (Nat.le_refl _)).1
end Go.Proofs.Ytlkpfdboagjaoaa.SeatP
