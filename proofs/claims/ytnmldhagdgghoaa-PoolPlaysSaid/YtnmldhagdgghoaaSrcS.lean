/- Slices of structs that can be read, and those of one's own. No program in sight. -/
import Derived.Test.YtnmldhagdgghoaaVec
namespace Go.Proofs.Ytnmldhagdgghoaa.Heap
open Go Go.RowKit

theorem flat_get (s : Nat) : ∀ (xs : List (List Value)), (∀ x ∈ xs, x.length = s) → ∀ (i j : Nat), i < xs.length → j < s → xs.flatten[i * s + j]? = (xs.getD i [])[j]?
  | [], _, i, _, hi, _ => absurd hi (Nat.not_lt_zero i)
  | x :: xs, h, i, j, hi, hj => by
    have hx := h x (by simp)
    rw [List.flatten_cons]
    match i with
    | 0 => rw [Nat.zero_mul, Nat.zero_add, List.getElem?_append_left (by omega)]; rfl
    | i + 1 =>
      have e : (i + 1) * s + j = x.length + (i * s + j) := by rw [hx, Nat.add_mul]; omega
      rw [e, List.getElem?_append_right (by omega), Nat.add_sub_cancel_left, flat_get s xs (fun y hy => h y (by simp [hy])) i j (by simpa using hi) hj]; rfl
theorem flat_len (s : Nat) : ∀ (xs : List (List Value)), (∀ x ∈ xs, x.length = s) → xs.flatten.length = xs.length * s
  | [], _ => by simp
  | x :: xs, h => by
    rw [List.flatten_cons, List.length_append, flat_len s xs (fun y hy => h y (by simp [hy])), h x (by simp), List.length_cons, Nat.add_mul]; omega
/-- A slice of structs of s cells that can be read. -/
def SrcS (w : World) (v : Value) (s : Nat) (xs : List (List Value)) : Prop :=
  ∃ (a : Option Addr) (cap : Nat), v = .slice a xs.length cap ∧
    (0 < xs.length → ∃ b off, a = some ⟨b, off, none⟩ ∧ b < w.heap.size ∧ ∀ i j x, i < xs.length → j < s → (xs.getD i [])[j]? = some x → w.cell? ⟨b, off + i * s + j, none⟩ = some x)
theorem SrcS.below {w w' : World} {v : Value} {s : Nat} {xs : List (List Value)} (h : SrcS w v s xs) (hb : Below w.heap.size w w') : SrcS w' v s xs := by
  obtain ⟨a, cap, hv, hc⟩ := h
  refine ⟨a, cap, hv, fun hp => ?_⟩
  obtain ⟨b, off, e, hlt, hcell⟩ := hc hp
  exact ⟨b, off, e, Nat.lt_of_lt_of_le hlt hb.size, fun i j x hi hj hx => (hb.cell (p := ⟨b, off + i * s + j, none⟩) hlt).trans (hcell i j x hi hj hx)⟩
theorem SrcS.keep {w w' : World} {v : Value} {s : Nat} {xs : List (List Value)} {T S : Nat → Prop} (h : SrcS w v s xs) (hl : ∀ b, v.ownBlock = some b → S b) (hu : Upd T w w') (hd : ∀ b, S b → ¬ T b) : SrcS w' v s xs := by
  obtain ⟨a, cap, rfl, h2⟩ := h
  refine ⟨a, cap, rfl, fun hp => ?_⟩
  obtain ⟨b, off, rfl, hb, hc⟩ := h2 hp
  refine ⟨b, off, rfl, Nat.lt_of_lt_of_le hb hu.size, fun i j x hi hj hx => ?_⟩
  have e := hu.block b hb (hd b (hl b rfl))
  have := hc i j x hi hj hx
  simp only [World.cell?] at this ⊢
  rw [e]; exact this
/-- A slice of structs of one's own. -/
def OwnS (w : World) (B : Nat) (e : TypeId) (s : Nat) (v : Value) (xs : List (List Value)) : Prop := w.ownsRow B e s v xs.length xs.flatten ∧ ∀ x ∈ xs, x.length = s
theorem OwnS.nil (w : World) (B : Nat) (e : TypeId) (s : Nat) : OwnS w B e s (.slice none 0 0) [] := ⟨World.ownsRow_nil _ _ _ _, fun x hx => by cases hx⟩
theorem OwnS.src {w : World} {B : Nat} {e : TypeId} {s : Nat} {v : Value} {xs : List (List Value)} (h : OwnS w B e s v xs) : SrcS w v s xs := by
  obtain ⟨ho, hl⟩ := h
  rcases id ho.2 with ⟨rfl, h0⟩ | ⟨g, cap, cur, rfl, _⟩
  · exact ⟨none, 0, by rw [h0], fun hp => by omega⟩
  · refine ⟨some ⟨g, 0, none⟩, cap, rfl, fun hp => ?_⟩
    obtain ⟨g', cap', hv, _, hr⟩ := owned ho hp
    simp only [Value.slice.injEq, Option.some.injEq, Addr.mk.injEq] at hv
    obtain ⟨⟨rfl, -, -⟩, -, -⟩ := hv
    refine ⟨g, 0, rfl, hr.lt, fun i j x hi hj hx => ?_⟩
    rw [Nat.zero_add]
    exact hr.cell (by rw [flat_get s xs hl i j hi hj]; exact hx)
theorem OwnS.keep {w w' : World} {S : Nat → Prop} {B : Nat} {e : TypeId} {s : Nat} {v : Value} {xs : List (List Value)} (h : OwnS w B e s v xs) (hu : Upd S w w') (hs : ∀ k, B ≤ k → ¬ S k) : OwnS w' B e s v xs :=
  ⟨own_upd h.1 hu (fun k hk => hs k (own_lt h.1 hk).2), h.2⟩
theorem OwnS.below {w w' : World} {B : Nat} {e : TypeId} {s : Nat} {v : Value} {xs : List (List Value)} (h : OwnS w B e s v xs) (hb : Below w.heap.size w w') : OwnS w' B e s v xs :=
  h.keep (Upd.of_below (S := fun _ => False) hb) fun _ _ => id
theorem OwnS.alloc {w : World} {B : Nat} {e : TypeId} {s : Nat} {v : Value} {xs : List (List Value)} (h : OwnS w B e s v xs) (o : Obj) : OwnS (w.alloc o) B e s v xs := h.below ((Below.refl _ _).alloc (Nat.le_refl _) o)
theorem OwnS.drewN {w : World} {B : Nat} {e : TypeId} {s : Nat} {v : Value} {xs : List (List Value)} (h : OwnS w B e s v xs) (n : Nat) : OwnS (w.drewN n) B e s v xs := h.below (below_drewN (Below.refl _ _) n)
theorem OwnS.len {w : World} {B : Nat} {e : TypeId} {s : Nat} {v : Value} {xs : List (List Value)} (h : OwnS w B e s v xs) : ∃ a cap, v = .slice a xs.length cap := by
  rcases h.1.2 with ⟨rfl, h0⟩ | ⟨g, cap, cur, rfl, _⟩
  · exact ⟨_, _, by rw [h0]⟩
  · exact ⟨_, _, rfl⟩
/-- One struct more, as append leaves it. -/
theorem OwnS.snoc {w : World} {B : Nat} {e : TypeId} {s : Nat} {v : Value} {xs : List (List Value)} {x : List Value} (hx : ∀ y ∈ xs, y.length = s) (hl : x.length = s) (h : w.ownsRow B e s v (xs.length + 1) (xs.flatten ++ x)) : OwnS w B e s v (xs ++ [x]) := by
  refine ⟨?_, ?_⟩
  · simpa using h
  · intro y hy
    rcases List.mem_append.1 hy with hy | hy
    · exact hx y hy
    · simp at hy; rw [hy]; exact hl
theorem readable_row {w : World} {b m c : Nat} {l : List Value} (h : Row w b l) : Readable w (.slice (some ⟨b, 0, none⟩) m c) m l := by
  refine .inr ⟨⟨b, 0, none⟩, c, rfl, fun j u hj => ?_⟩
  have e : (⟨b, 0, none⟩ : Addr).add j = ⟨b, j, none⟩ := by
    unfold Addr.add; split
    · rename_i h0; subst h0; rfl
    · simp
  rw [e]; exact h.cell hj
theorem row_news {w : World} {b : Nat} {l : List Value} (h : Row w b l) : ∀ j u, l[j]? = some u → w.cell? ((⟨b, 0, none⟩ : Addr).add j) = some u := by
  intro j u hj
  have e : (⟨b, 0, none⟩ : Addr).add j = ⟨b, j, none⟩ := by
    unfold Addr.add; split
    · rename_i h0; subst h0; rfl
    · simp
  rw [e]; exact h.cell hj
end Go.Proofs.Ytnmldhagdgghoaa.Heap
