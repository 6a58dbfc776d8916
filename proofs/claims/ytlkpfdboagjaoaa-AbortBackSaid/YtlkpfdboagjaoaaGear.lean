/- A lock that makes headway serves all: what the law needs, out of what one step does. No program in sight. -/
import Derived.Test.YtlkpfdboagjaoaaServW
namespace Go.Proofs.Ytlkpfdboagjaoaa.Mach
open Go Go.Proofs.Ytlkpfdboagjaoaa.Heap Go.Proofs.Ytlkpfdboagjaoaa.Seat

def tot (f : Nat → Nat) : Nat → Nat
  | 0 => 0
  | n + 1 => tot f n + f n
theorem tot_same {f g : Nat → Nat} : ∀ n, (∀ u, u < n → f u = g u) → tot f n = tot g n
  | 0, _ => rfl
  | n + 1, h => by unfold tot; rw [tot_same n (fun u hu => h u (by omega)), h n (by omega)]
theorem tot_le {f g : Nat → Nat} (t : Nat) : ∀ n, t < n → (∀ u, u < n → u ≠ t → f u = g u) → tot f n + g t = tot g n + f t
  | 0, h, _ => by omega
  | n + 1, h, hs => by
    unfold tot
    by_cases e : t = n
    · subst e
      rw [tot_same t (fun u hu => hs u (by omega) (by omega))]; omega
    · have := tot_le t n (by omega) (fun u hu => hs u (by omega))
      rw [hs n (by omega) (Ne.symm e)]; omega
theorem tot_bound {f : Nat → Nat} (c : Nat) : ∀ n, (∀ u, u < n → f u ≤ c) → tot f n ≤ c * n
  | 0, _ => by simp [tot]
  | n + 1, h => by
    unfold tot
    have := tot_bound c n (fun u hu => h u (by omega))
    have := h n (by omega)
    rw [Nat.mul_succ]; omega

section
variable {σ : Type} (td : Bool) (n : Nat) (seats : σ → List (Int × Int)) (setS : σ → List (Int × Int) → σ) (step : σ → Int → Int → Int → Did × σ)
/-- The call for the lock. -/
def callS (st : σ) (t : Nat) : σ := setS st (lock (seats st) td t (-1)).2
/-- A step, and the unlock where it was granted. -/
def go1 (st : σ) (t : Nat) : σ := if (step st t t 0).1.1 = 1 then setS (step st t t 0).2 (turn (seats (step st t t 0).2) t 3).2 else (step st t t 0).2
structure Gear (c : Nat) (GI : σ → Prop) (ph : σ → Nat → Nat) (En0 : σ → Nat → Prop) : Prop where
  states : ∀ st t, GI st → t < n → state (seats st) t = 0 ∨ state (seats st) t = 1 ∨ state (seats st) t = 3
  call : ∀ st t, GI st → t < n → state (seats st) t = 0 → GI (callS td seats setS st t) ∧ state (seats (callS td seats setS st t)) t = 1 ∧ ph (callS td seats setS st t) t < c ∧ ∀ u, u < n → u ≠ t → state (seats (callS td seats setS st t)) u = state (seats st) u ∧ ph (callS td seats setS st t) u = ph st u
  rest : ∀ st t, GI st → t < n → state (seats st) t = 0 → (step st t t 0).1.1 ≠ 1 ∧ (step st t t 0).2 = st
  act : ∀ st t, GI st → t < n → state (seats st) t ≠ 0 → GI (go1 seats setS step st t) ∧ (∀ u, u < n → u ≠ t → state (seats (go1 seats setS step st t)) u = state (seats st) u ∧ ph (go1 seats setS step st t) u = ph st u) ∧
    ph (go1 seats setS step st t) t ≤ ph st t ∧ (En0 st t → ph (go1 seats setS step st t) t < ph st t) ∧ (∀ u, u < n → u ≠ t → En0 st u → ph (go1 seats setS step st t) t < ph st t ∨ En0 (go1 seats setS step st t) u) ∧
    (((step st t t 0).1.1 = 1 ∧ (turn (seats (step st t t 0).2) t 3).1 = 0 ∧ state (seats st) t = 1 ∧ state (seats (go1 seats setS step st t)) t = 3) ∨ ((step st t t 0).1.1 ≠ 1 ∧ (state (seats (go1 seats setS step st t)) t = state (seats st) t ∨ (state (seats st) t = 3 ∧ state (seats (go1 seats setS step st t)) t = 0))))
  live : ∀ st, GI st → (∃ t, t < n ∧ state (seats st) t ≠ 0) → ∃ u, u < n ∧ state (seats st) u ≠ 0 ∧ En0 st u
def pend (s : Int) : Int := if s = 1 then 1 else 0
theorem pend0 : pend 0 = 0 := rfl
theorem pend1 : pend 1 = 1 := rfl
theorem pend3 : pend 3 = 0 := rfl
def GInv (GI : σ → Prop) (calls : Int) (st : σ) (lf gr : List Int) : Prop :=
  GI st ∧ lf.length = 8 ∧ gr.length = 8 ∧ (∀ t, t < n → 0 ≤ lf.getD t 0 ∧ 0 ≤ gr.getD t 0 ∧ gr.getD t 0 + lf.getD t 0 + pend (state (seats st) t) = calls) ∧ ∀ t, n ≤ t → lf.getD t 0 = 0 ∧ gr.getD t 0 = 0
def gμ (c : Nat) (ph : σ → Nat → Nat) (st : σ) (lf : List Int) : Nat := tot (fun t => c * (lf.getD t 0).toNat + ph st t) n
def gEn (En0 : σ → Nat → Prop) (st : σ) (lf : List Int) (u : Nat) : Prop := (state (seats st) u = 0 ∧ 0 < lf.getD u 0) ∨ (state (seats st) u ≠ 0 ∧ En0 st u)
variable {td n seats setS step} {c : Nat} {GI : σ → Prop} {ph : σ → Nat → Nat} {En0 : σ → Nat → Prop}
theorem iset8 (l : List Int) (k : Nat) (hk : k < l.length) (b : Int) (u : Nat) : (l.set k b).getD u 0 = if u = k then b else l.getD u 0 := by
  by_cases e : u = k
  · subst e; simp [List.getD, List.getElem?_set_self hk]
  · rw [if_neg e, List.getD, List.getElem?_set_ne (fun z => e z.symm)]; rfl
/-- A turn, in three ways. -/
theorem Gear.tick (G : Gear td n seats setS step c GI ph En0) (n8 : n ≤ 8) (calls : Int) (st : σ) (lf gr : List Int) (t : Nat) (h : GInv n seats GI calls st lf gr) (ht : t < n) :
    ((state (seats st) t = 0 ∧ lf.getD t 0 ≤ 0) ∧ tick td seats setS step st lf gr t = (st, lf, gr)) ∨
    (∃ st' lf' gr', tick td seats setS step st lf gr t = (st', lf', gr') ∧ (¬ (state (seats st) t = 0 ∧ lf.getD t 0 ≤ 0)) ∧ GInv n seats GI calls st' lf' gr' ∧ (∀ u, u < n → u ≠ t → state (seats st') u = state (seats st) u) ∧
      ((step (pre td seats setS st lf t).1 t t 0).1.1 = 1 → (turn (seats (step (pre td seats setS st lf t).1 t t 0).2) t 3).1 = 0) ∧
      (gμ n c ph st' lf' < gμ n c ph st lf ∨ (gμ n c ph st' lf' ≤ gμ n c ph st lf ∧ lf' = lf ∧ state (seats st) t ≠ 0 ∧ ¬ En0 st t ∧ ∀ u, u < n → u ≠ t → En0 st u → En0 st' u))) := by
  obtain ⟨hg, l8, g8, hb, ho⟩ := h
  obtain ⟨b1, b2, b3⟩ := hb t ht
  by_cases hi : state (seats st) t = 0
  · by_cases hl : lf.getD t 0 ≤ 0
    · left
      refine ⟨⟨hi, hl⟩, ?_⟩
      obtain ⟨r1, r2⟩ := G.rest st t hg ht hi
      unfold Mach.tick pre post
      rw [if_neg (by omega)]
      simp only [if_neg r1, r2]
    · right
      obtain ⟨k1, k2, k3, k4⟩ := G.call st t hg ht hi
      obtain ⟨a1, a2, a3, _, _, a6⟩ := G.act _ t k1 ht (by omega)
      have e0 : pre td seats setS st lf t = (callS td seats setS st t, lf.set t (lf.getD t 0 - 1)) := by unfold pre; rw [if_pos (by omega)]; rfl
      have gl := iset8 lf t (by omega) (lf.getD t 0 - 1)
      have gg := iset8 gr t (by omega) (gr.getD t 0 + 1)
      have hμ : gμ n c ph (go1 seats setS step (callS td seats setS st t) t) (lf.set t (lf.getD t 0 - 1)) < gμ n c ph st lf := by
        have := tot_le (f := fun u => c * ((lf.set t (lf.getD t 0 - 1)).getD u 0).toNat + ph (go1 seats setS step (callS td seats setS st t) t) u) (g := fun u => c * (lf.getD u 0).toNat + ph st u) t n ht (fun u hu hne => by
          show c * ((lf.set t (lf.getD t 0 - 1)).getD u 0).toNat + ph (go1 seats setS step (callS td seats setS st t) t) u = c * (lf.getD u 0).toNat + ph st u
          rw [gl, if_neg hne, (a2 u hu hne).2, (k4 u hu hne).2])
        have e1 : (lf.getD t 0).toNat = ((lf.set t (lf.getD t 0 - 1)).getD t 0).toNat + 1 := by rw [gl, if_pos rfl]; omega
        have e2 : c * (lf.getD t 0).toNat = c * ((lf.set t (lf.getD t 0 - 1)).getD t 0).toNat + c := by rw [e1, Nat.mul_succ]
        unfold gμ
        omega
      rcases a6 with ⟨r1, r2, r3, r4⟩ | ⟨r1, r2⟩
      · refine ⟨_, lf.set t (lf.getD t 0 - 1), gr.set t (gr.getD t 0 + 1), ?_, by omega, ⟨a1, by simpa using l8, by simpa using g8, ?_, ?_⟩, fun u hu hne => by rw [(a2 u hu hne).1, (k4 u hu hne).1], ?_, .inl hμ⟩
        · unfold Mach.tick
          rw [e0]
          unfold post go1
          simp only [if_pos r1]
        · intro u hu
          rw [gl, gg]
          by_cases e : u = t
          · subst e
            rw [if_pos rfl, if_pos rfl, r4, pend3]
            rw [hi, pend0] at b3
            omega
          · rw [if_neg e, if_neg e, (a2 u hu e).1, (k4 u hu e).1]; exact hb u hu
        · intro u hu
          rw [gl, gg, if_neg (by omega), if_neg (by omega)]; exact ho u hu
        · rw [e0]; intro _; exact r2
      · have r3 : state (seats (go1 seats setS step (callS td seats setS st t) t)) t = 1 := by omega
        refine ⟨_, lf.set t (lf.getD t 0 - 1), gr, ?_, by omega, ⟨a1, by simpa using l8, g8, ?_, ?_⟩, fun u hu hne => by rw [(a2 u hu hne).1, (k4 u hu hne).1], ?_, .inl hμ⟩
        · unfold Mach.tick
          rw [e0]
          unfold post go1
          simp only [if_neg r1]
        · intro u hu
          rw [gl]
          by_cases e : u = t
          · subst e
            rw [if_pos rfl, r3, pend1]
            rw [hi, pend0] at b3
            omega
          · rw [if_neg e, (a2 u hu e).1, (k4 u hu e).1]; exact hb u hu
        · intro u hu
          rw [gl, if_neg (by omega)]; exact ho u hu
        · rw [e0]; intro z; exact absurd z r1
  · right
    obtain ⟨a1, a2, a3, a4, a5, a6⟩ := G.act st t hg ht hi
    have e0 : pre td seats setS st lf t = (st, lf) := by unfold pre; rw [if_neg (by omega)]
    have gg := iset8 gr t (by omega) (gr.getD t 0 + 1)
    have hμ := tot_le (f := fun u => c * (lf.getD u 0).toNat + ph (go1 seats setS step st t) u) (g := fun u => c * (lf.getD u 0).toNat + ph st u) t n ht (fun u hu hne => by
      show c * (lf.getD u 0).toNat + ph (go1 seats setS step st t) u = c * (lf.getD u 0).toNat + ph st u
      rw [(a2 u hu hne).2])
    have hend : gμ n c ph (go1 seats setS step st t) lf < gμ n c ph st lf ∨ (gμ n c ph (go1 seats setS step st t) lf ≤ gμ n c ph st lf ∧ lf = lf ∧ state (seats st) t ≠ 0 ∧ ¬ En0 st t ∧ ∀ u, u < n → u ≠ t → En0 st u → En0 (go1 seats setS step st t) u) := by
      unfold gμ
      by_cases hlt : ph (go1 seats setS step st t) t < ph st t
      · left; omega
      · right
        exact ⟨by omega, rfl, hi, fun z => hlt (a4 z), fun u hu hne z => (a5 u hu hne z).resolve_left hlt⟩
    rcases a6 with ⟨r1, r2, r3, r4⟩ | ⟨r1, r2⟩
    · refine ⟨_, lf, gr.set t (gr.getD t 0 + 1), ?_, by omega, ⟨a1, l8, by simpa using g8, ?_, ?_⟩, fun u hu hne => (a2 u hu hne).1, ?_, hend⟩
      · unfold Mach.tick
        rw [e0]
        unfold post go1
        simp only [if_pos r1]
      · intro u hu
        rw [gg]
        by_cases e : u = t
        · subst e
          rw [if_pos rfl, r4, pend3]
          rw [r3, pend1] at b3
          omega
        · rw [if_neg e, (a2 u hu e).1]; exact hb u hu
      · intro u hu
        rw [gg, if_neg (by omega)]; exact ho u hu
      · rw [e0]; intro _; exact r2
    · refine ⟨_, lf, gr, ?_, by omega, ⟨a1, l8, g8, ?_, ho⟩, fun u hu hne => (a2 u hu hne).1, ?_, hend⟩
      · unfold Mach.tick
        rw [e0]
        unfold post go1
        simp only [if_neg r1]
      · intro u hu
        by_cases e : u = t
        · subst e
          rcases r2 with r2 | ⟨r2, r3⟩
          · rw [r2]; exact ⟨b1, b2, b3⟩
          · rw [r3, pend0]; rw [r2, pend3] at b3; exact ⟨b1, b2, by omega⟩
        · rw [(a2 u hu e).1]; exact hb u hu
      · rw [e0]; intro z; exact absurd z r1
theorem Gear.serves (G : Gear td n seats setS step c GI ph En0) (n8 : n ≤ 8) (calls : Nat) (hc : calls ≤ 20) : Serves td n seats setS step calls (GInv n seats GI calls) (gμ n c ph) (gEn seats En0) where
  len := fun st lf gr h => ⟨h.2.1, h.2.2.1⟩
  low := fun st lf gr h t => by
    obtain ⟨hg, _, _, hb, ho⟩ := h
    rcases Nat.lt_or_ge t n with ht | ht
    · have := hb t ht
      have hp : 0 ≤ pend (state (seats st) t) := by unfold pend; split <;> omega
      omega
    · have := ho t ht; omega
  ok := fun st lf gr t h ht => by
    rcases G.tick n8 calls st lf gr t h ht with ⟨⟨h0, h1⟩, e⟩ | ⟨_, _, _, _, _, _, _, hk, _⟩
    · have e0 : pre td seats setS st lf t = (st, lf) := by unfold pre; rw [if_neg (by omega)]
      rw [e0]
      intro z
      exact absurd z (G.rest st t h.1 ht h0).1
    · exact hk
  inv := fun st lf gr t h ht => by
    rcases G.tick n8 calls st lf gr t h ht with ⟨_, e⟩ | ⟨_, _, _, e, _, hi, _⟩
    · rw [e]; exact h
    · rw [e]; exact hi
  other := fun st lf gr t u h ht hu hne => by
    rcases G.tick n8 calls st lf gr t h ht with ⟨_, e⟩ | ⟨_, _, _, e, _, _, ho, _⟩
    · rw [e]
    · rw [e]; exact ho u hu hne
  idle := fun st lf gr t h ht h0 hl => by
    rcases G.tick n8 calls st lf gr t h ht with ⟨_, e⟩ | ⟨_, _, _, _, hn, _⟩
    · rw [e]; exact h0
    · exact absurd ⟨h0, hl⟩ hn
  mono := fun st lf gr t h ht => by
    rcases G.tick n8 calls st lf gr t h ht with ⟨_, e⟩ | ⟨_, _, _, e, _, _, _, _, hm⟩
    · rw [e]; exact Nat.le_refl _
    · rw [e]
      rcases hm with hm | ⟨hm, _⟩
      · exact Nat.le_of_lt hm
      · exact hm
  prog := fun st lf gr t h ht he => by
    rcases G.tick n8 calls st lf gr t h ht with ⟨⟨h0, h1⟩, e⟩ | ⟨_, _, _, e, _, _, _, _, hm⟩
    · rcases he with ⟨_, z⟩ | ⟨z, _⟩
      · omega
      · exact absurd h0 z
    · rw [e]
      rcases hm with hm | ⟨_, _, z1, z2, _⟩
      · exact hm
      · rcases he with ⟨z, _⟩ | ⟨_, z⟩
        · exact absurd z z1
        · exact absurd z z2
  keep := fun st lf gr t u h ht hu hne he => by
    rcases G.tick n8 calls st lf gr t h ht with ⟨⟨h0, h1⟩, e⟩ | ⟨_, _, _, e, _, _, ho, _, hm⟩
    · rw [e]; exact .inr he
    · rw [e]
      rcases hm with hm | ⟨_, rfl, _, _, z⟩
      · exact .inl hm
      · right
        have hs := ho u hu hne
        rcases he with ⟨y1, y2⟩ | ⟨y1, y2⟩
        · exact .inl ⟨by rw [hs]; exact y1, y2⟩
        · exact .inr ⟨by rw [hs]; exact y1, z u hu hne y2⟩
  live := fun st lf gr h hb => by
    obtain ⟨t, ht, hz⟩ := hb
    by_cases hs : state (seats st) t = 0
    · rcases hz with hz | hz
      · exact ⟨t, ht, .inl ⟨hs, hz⟩⟩
      · exact absurd hs hz
    · obtain ⟨u, hu, h1, h2⟩ := G.live st h.1 ⟨t, ht, hs⟩
      exact ⟨u, hu, .inr ⟨h1, h2⟩⟩
  done := fun st lf gr h hb t ht => by
    obtain ⟨b1, b2, b3⟩ := h.2.2.2.1 t ht
    have h0 : state (seats st) t = 0 := Decidable.byContradiction fun z => hb ⟨t, ht, .inr z⟩
    have h1 : ¬ 0 < lf.getD t 0 := fun z => hb ⟨t, ht, .inl z⟩
    rw [h0, pend0] at b3
    omega
theorem fill_getD (c : Int) (n t : Nat) : (List.replicate n c ++ List.replicate (8 - n) 0).getD t 0 = if t < n then c else 0 := by
  by_cases h : t < n
  · rw [if_pos h, List.getD, List.getElem?_append_left (by simpa using h)]; simp [h]
  · rw [if_neg h, List.getD, List.getElem?_append_right (by simp; omega)]
    rw [List.length_replicate, List.getElem?_replicate]
    split <;> rfl
theorem GInv.start (n8 : n ≤ 8) (calls : Nat) (st : σ) (hg : GI st) (h0 : ∀ t, t < n → state (seats st) t = 0) : GInv n seats GI calls st (List.replicate n (calls : Int) ++ List.replicate (8 - n) 0) (List.replicate 8 0) := by
  have g0 : ∀ t, (List.replicate 8 (0 : Int)).getD t 0 = 0 := fun t => by
    rw [List.getD, List.getElem?_replicate]
    split <;> rfl
  refine ⟨hg, by simp; omega, by simp, ?_, ?_⟩
  · intro t ht
    rw [fill_getD, g0, if_pos ht, h0 t ht, pend0]
    omega
  · intro t ht
    rw [fill_getD, g0, if_neg (by omega)]
    exact ⟨rfl, rfl⟩
theorem gμ_start (c : Nat) (hc : c ≤ 99) (ph : σ → Nat → Nat) (calls : Nat) (st : σ) (h0 : ∀ t, t < n → ph st t = 0) : gμ n c ph st (List.replicate n (calls : Int) ++ List.replicate (8 - n) 0) < 100 * (n + 1) * (calls + 1) := by
  have h : gμ n c ph st (List.replicate n (calls : Int) ++ List.replicate (8 - n) 0) ≤ (c * calls) * n := by
    unfold gμ
    refine tot_bound _ n fun u hu => ?_
    show c * (List.getD (List.replicate n (calls : Int) ++ List.replicate (8 - n) 0) u 0).toNat + ph st u ≤ _
    rw [fill_getD, if_pos hu, h0 u hu, Int.toNat_natCast]; omega
  have h1 : c * calls * n ≤ 99 * calls * n := Nat.mul_le_mul (Nat.mul_le_mul hc (Nat.le_refl _)) (Nat.le_refl _)
  have hx : 100 * (n + 1) * (calls + 1) = 100 * (n * calls) + 100 * n + 100 * calls + 100 := by
    rw [Nat.mul_assoc, show (n + 1) * (calls + 1) = n * calls + n + calls + 1 by rw [Nat.add_mul, Nat.mul_add, Nat.one_mul, Nat.mul_one]; omega]
    omega
  have h2 : 99 * calls * n ≤ 100 * (n + 1) * (calls + 1) - 100 := by
    have := hx
    have : 99 * calls * n = 99 * (n * calls) := by rw [Nat.mul_assoc, Nat.mul_comm calls n]
    omega
  have h3 : 100 ≤ 100 * (n + 1) * (calls + 1) := by
    have := hx
    omega
  omega
end
end Go.Proofs.Ytlkpfdboagjaoaa.Mach
