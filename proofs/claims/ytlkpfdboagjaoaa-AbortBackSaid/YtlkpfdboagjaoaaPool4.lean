/- Package pool: Give, New. -/
import Derived.Test.YtlkpfdboagjaoaaPool3
import Derived.Test.YtlkpfdboagjaoaaSrcS
import Derived.Deep.CutRange
import Derived.Deep.CutBlock
namespace Go.Proofs.Ytlkpfdboagjaoaa.Pool
open Go Go.RowKit Go.Proofs.Ytlkpfdboagjaoaa.Heap Go.Proofs.Ytlkpfdboagjaoaa.Open Go.Proofs.Ytlkpfdboagjaoaa.Sl

/-- A row's slice turns: another value that owns another row, in the same block or in a new one. -/
theorem At.setVal {w w' : World} {p rb ob : Nat} {vs : List Value} {S S' : Nat → Prop} {rows : List (List Int)} {out : List Bool} (h : At w p rb ob vs S rows out) (t : Nat) (ht : t < rows.length) (v' : Value) (xs' : List Int)
    (hu : Upd (fun k => (vs.getD t nilv).ownBlock = some k) w w') (ho : w'.ownsRow 0 3 1 v' xs'.length (ints .i64 xs'))
    (hl : ∀ b, v'.ownBlock = some b → (vs.getD t nilv).ownBlock = some b ∨ w.heap.size ≤ b) (hS : ∀ b, S b ∨ v'.ownBlock = some b → S' b) (hl2 : ∀ b, S' b → b < w'.heap.size)
    (hx : xs'.length ≤ 100000 ∧ ∀ x ∈ xs', 1 ≤ x ∧ x < (out.length : Int)) :
    At (w'.setCell ⟨rb, t, none⟩ v') p rb ob (vs.set t v') S' (rows.set t xs') out := by
  have hvl := h.vl
  have ne : ∀ b, b = p ∨ b = rb ∨ b = ob → ¬ (vs.getD t nilv).ownBlock = some b := fun b hb e => by
    have := h.off t b ht e
    rcases hb with rfl | rfl | rfl
    · exact this.1 rfl
    · exact this.2.1 rfl
    · exact this.2.2.1 rfl
  have hu2 := Upd.one w' rb t v'
  have hsr := h.lt _ h.sr
  have hvne : ∀ b, v'.ownBlock = some b → b ≠ p ∧ b ≠ rb ∧ b ≠ ob := fun b hb => by
    rcases hl b hb with e | e
    · have := h.off t b ht e; exact ⟨this.1, this.2.1, this.2.2.1⟩
    · have h1 := h.lt _ h.sp; have h2 := h.lt _ h.sr; have h3 := h.lt _ h.so
      exact ⟨by omega, by omega, by omega⟩
  have gv : ∀ u, (vs.set t v').getD u nilv = if u = t then v' else vs.getD u nilv := fun u => by
    by_cases e : u = t
    · subst e; simp [List.getD, List.getElem?_set_self (show u < vs.length by omega)]
    · rw [if_neg e, List.getD, List.getElem?_set_ne (fun z => e z.symm)]; rfl
  have gr : ∀ u, (rows.set t xs').getD u [] = if u = t then xs' else rows.getD u [] := fun u => by
    by_cases e : u = t
    · subst e; simp [List.getD, List.getElem?_set_self ht]
    · rw [if_neg e, List.getD, List.getElem?_set_ne (fun z => e z.symm)]; rfl
  refine ⟨?_, ?_, by simpa using h.vl, ?_, ?_, ?_, ?_, h.ne1, h.ne2, h.ne3, hS _ (.inl h.sp), hS _ (.inl h.sr), hS _ (.inl h.so), ?_, ?_, by simpa using h.size⟩
  · rw [List.length_set]; exact (h.top.upd hu (ne _ (.inl rfl))).upd hu2 h.ne1
  · exact (h.row.upd hu (ne _ (.inr (.inl rfl)))).set _ _
  · exact (h.outs.upd hu (ne _ (.inr (.inr rfl)))).upd hu2 (fun e => h.ne3 e.symm)
  · intro u hu'
    rw [List.length_set] at hu'
    rw [gv, gr]
    by_cases e : u = t
    · rw [if_pos e, if_pos e]; exact own_upd ho hu2 (fun b hb => (hvne b hb).2.1)
    · rw [if_neg e, if_neg e]
      exact own_upd (own_upd (h.own u hu') hu (fun b hb e2 => e (h.sep u t b hu' ht hb e2))) hu2 (fun b hb => (h.off u b hu' hb).2.1)
  · intro u u' b hu1 hu2
    rw [List.length_set] at hu1 hu2
    rw [gv, gv]
    by_cases e : u = t
    · by_cases e' : u' = t
      · intro _ _; rw [e, e']
      · rw [if_pos e, if_neg e']
        intro h1 h2
        rcases hl b h1 with h3 | h3
        · exact absurd (h.sep u' t b hu2 ht h2 h3) e'
        · have := h.lt b (h.off u' b hu2 h2).2.2.2; omega
    · by_cases e' : u' = t
      · rw [if_neg e, if_pos e']
        intro h1 h2
        rcases hl b h2 with h3 | h3
        · exact absurd (h.sep u t b hu1 ht h1 h3) e
        · have := h.lt b (h.off u b hu1 h1).2.2.2; omega
      · rw [if_neg e, if_neg e']; exact h.sep u u' b hu1 hu2
  · intro u b hu1
    rw [List.length_set] at hu1
    rw [gv]
    by_cases e : u = t
    · rw [if_pos e]; intro h1; have := hvne b h1; exact ⟨this.1, this.2.1, this.2.2, hS _ (.inr h1)⟩
    · rw [if_neg e]; intro h1; have := h.off u b hu1 h1; exact ⟨this.1, this.2.1, this.2.2.1, hS _ (.inl this.2.2.2)⟩
  · intro b hb
    show b < (w'.setCell _ _).heap.size
    simp only [World.setCell, Array.size_modify]
    exact hl2 b hb
  · intro r hr
    rcases List.mem_or_eq_of_mem_set hr with hr | rfl
    · exact h.ids r hr
    · exact hx

/-- What is left of the rows when a node is struck. -/
def strike (rows : List (List Int)) (id : Int) : List (List Int) := if 0 ≤ whose rows id then rows.set (whose rows id).toNat ((rows.getD (whose rows id).toNat []).filter (· != id)) else rows
def put (rows : List (List Int)) (id dt : Int) : List (List Int) := if 0 ≤ dt then rows.set dt.toNat (rows.getD dt.toNat [] ++ [id]) else rows
/-- A node is given away: the error, the rows then. -/
def give (rows : List (List Int)) (n : Nat) (id dt : Int) : Int × List (List Int) := if isNode id n = true ∧ -1 ≤ dt ∧ dt < rows.length then (0, put (strike rows id) id dt) else (1, rows)
theorem strike_len (rows : List (List Int)) (id : Int) : (strike rows id).length = rows.length := by unfold strike; split <;> simp

end Go.Proofs.Ytlkpfdboagjaoaa.Pool
