/- What the steps of all locks share. -/
import Derived.Test.YtlkpfdboagjaoaaPlanO
import Derived.Test.YtlkpfdboagjaoaaMach
import Derived.Test.YtlkpfdboagjaoaaVec
import Derived.Deep.RegionHeld3
import Derived.Deep.QuietTactic
import Derived.Deep.CutRange
import Derived.Deep.CutBlock
namespace Go.Proofs.Ytlkpfdboagjaoaa.StepU
open Go Go.RowKit Go.Proofs.Ytlkpfdboagjaoaa.Heap Go.Proofs.Ytlkpfdboagjaoaa.Open Go.Proofs.Ytlkpfdboagjaoaa.Seat Go.Proofs.Ytlkpfdboagjaoaa.Mach Go.Proofs.Ytlkpfdboagjaoaa.Has

def rd (k : Nat) (ws : List Int) (a x : Int) : Int := if Mem.inB a k = true then Mem.get ws x else 0
def wrt (k : Nat) (ws : List Int) (a x v : Int) : List Int := if Mem.inB a k = true then Mem.put ws x v else ws
theorem state_in {l : List (Int × Int)} {t : Int} (h : state l t ≠ 0) : inB t l.length = true := by
  unfold state at h
  cases hb : inB t l.length with
  | true => rfl
  | false => rw [hb] at h; exact absurd rfl h
theorem rd_wd {ws : List Int} (h : Mem.Wd ws) (k : Nat) (a x : Int) : 0 ≤ rd k ws a x ∧ rd k ws a x < 4294967296 := by
  unfold rd; split
  · exact Mem.Wd.get h x
  · omega
theorem cell_upd {S : Nat → Prop} {w w' : World} (hu : Upd S w w') {b i : Nat} {v : Value} (h : w.cell? ⟨b, i, none⟩ = some v) (hs : ¬ S b) : w'.cell? ⟨b, i, none⟩ = some v := by
  have hlt : b < w.heap.size := by
    rcases Nat.lt_or_ge b w.heap.size with h' | h'
    · exact h'
    · simp [World.cell?, Array.getElem?_eq_none h'] at h
  have e := hu.block b hlt hs
  simp only [World.cell?] at h ⊢
  rw [e]; exact h
theorem did4 {w : World} {D : Nat} {a0 a1 a2 a3 : Value} (h : Row w D [a0, a1, a2, a3]) (v0 v1 v2 v3 : Value) : Row ((((w.setCell ⟨D, 0, none⟩ v0).setCell ⟨D, 1, none⟩ v1).setCell ⟨D, 2, none⟩ v2).setCell ⟨D, 3, none⟩ v3) D [v0, v1, v2, v3] := by
  simpa using (((h.set 0 v0).set 1 v1).set 2 v2).set 3 v3
theorem upd4 (w : World) (D : Nat) (v0 v1 v2 v3 : Value) : Upd (fun i => i = D) w ((((w.setCell ⟨D, 0, none⟩ v0).setCell ⟨D, 1, none⟩ v1).setCell ⟨D, 2, none⟩ v2).setCell ⟨D, 3, none⟩ v3) :=
  Upd.setCell (p := ⟨D, 3, none⟩) (Upd.setCell (p := ⟨D, 2, none⟩) (Upd.two w D 0 1 v0 v1) (.inl rfl) v2) (.inl rfl) v3
theorem upd3 (w : World) (D i j k : Nat) (v0 v1 v2 : Value) : Upd (fun i => i = D) w (((w.setCell ⟨D, i, none⟩ v0).setCell ⟨D, j, none⟩ v1).setCell ⟨D, k, none⟩ v2) :=
  Upd.setCell (p := ⟨D, k, none⟩) (Upd.two w D i j v0 v1) (.inl rfl) v2
def dcells (d : Did) : List Value := [.int .i64 d.1, .bool d.2.1, .bool d.2.2.1, .bool d.2.2.2]
theorem lock_len (x : List (Int × Int)) (td : Bool) (t d : Int) : (Seat.lock x td t d).2.length = x.length := by unfold Seat.lock; (repeat' split) <;> simp
theorem turn_len (x : List (Int × Int)) (t st : Int) : (turn x t st).2.length = x.length := by unfold turn; dsimp only; split <;> simp
theorem probe_len (x : List (Int × Int)) (pd : Bool) (t : Int) : (probe x pd t).2.length = x.length := by unfold probe; split; exact turn_len _ _ _; rfl
theorem fin_len (x : List (Int × Int)) (t ev : Int) : (fin x t ev).2.length = x.length := by unfold fin; split <;> simp

/-- Places of three numbers each, as cells. -/
abbrev P3 := Int × Int × Int
def cells3 : List P3 → List Value
  | [] => []
  | (a, b, c) :: r => .int .i64 a :: .int .i64 b :: .int .i64 c :: cells3 r
theorem cells3_len (l : List P3) : (cells3 l).length = l.length * 3 := by
  induction l with
  | nil => rfl
  | cons x r ih => obtain ⟨a, b, c⟩ := x; simp [cells3, ih]; omega
theorem cells3_0 : ∀ (l : List P3) (t : Nat), t < l.length → (cells3 l)[t * 3]? = some (.int .i64 (l.getD t (0, 0, 0)).1)
  | (a, b, c) :: r, 0, _ => by simp [cells3]
  | (a, b, c) :: r, t + 1, h => by
    have := cells3_0 r t (by simpa using h)
    rw [show (t + 1) * 3 = t * 3 + 3 by omega]; simpa [cells3] using this
theorem cells3_1 : ∀ (l : List P3) (t : Nat), t < l.length → (cells3 l)[t * 3 + 1]? = some (.int .i64 (l.getD t (0, 0, 0)).2.1)
  | (a, b, c) :: r, 0, _ => by simp [cells3]
  | (a, b, c) :: r, t + 1, h => by
    have := cells3_1 r t (by simpa using h)
    rw [show (t + 1) * 3 + 1 = t * 3 + 1 + 3 by omega]; simpa [cells3] using this
theorem cells3_2 : ∀ (l : List P3) (t : Nat), t < l.length → (cells3 l)[t * 3 + 2]? = some (.int .i64 (l.getD t (0, 0, 0)).2.2)
  | (a, b, c) :: r, 0, _ => by simp [cells3]
  | (a, b, c) :: r, t + 1, h => by
    have := cells3_2 r t (by simpa using h)
    rw [show (t + 1) * 3 + 2 = t * 3 + 2 + 3 by omega]; simpa [cells3] using this
theorem cells3_set1 : ∀ (l : List P3) (t : Nat) (y : Int), (cells3 l).set (t * 3 + 1) (.int .i64 y) = cells3 (l.set t ((l.getD t (0, 0, 0)).1, y, (l.getD t (0, 0, 0)).2.2))
  | [], t, y => by simp [cells3]
  | (a, b, c) :: r, 0, y => by simp [cells3]
  | (a, b, c) :: r, t + 1, y => by
    have := cells3_set1 r t y
    rw [show (t + 1) * 3 + 1 = t * 3 + 1 + 3 by omega]; simpa [cells3] using this
theorem cells3_set2 : ∀ (l : List P3) (t : Nat) (y : Int), (cells3 l).set (t * 3 + 2) (.int .i64 y) = cells3 (l.set t ((l.getD t (0, 0, 0)).1, (l.getD t (0, 0, 0)).2.1, y))
  | [], t, y => by simp [cells3]
  | (a, b, c) :: r, 0, y => by simp [cells3]
  | (a, b, c) :: r, t + 1, y => by
    have := cells3_set2 r t y
    rw [show (t + 1) * 3 + 2 = t * 3 + 2 + 3 by omega]; simpa [cells3] using this
theorem cells3_set3 : ∀ (l : List P3) (t : Nat) (x y z : Int), (((cells3 l).set (t * 3) (.int .i64 x)).set (t * 3 + 1) (.int .i64 y)).set (t * 3 + 2) (.int .i64 z) = cells3 (l.set t (x, y, z))
  | [], t, x, y, z => by simp [cells3]
  | (a, b, c) :: r, 0, x, y, z => by simp [cells3]
  | (a, b, c) :: r, t + 1, x, y, z => by
    have := cells3_set3 r t x y z
    rw [show (t + 1) * 3 + 2 = t * 3 + 2 + 3 by omega, show (t + 1) * 3 + 1 = t * 3 + 1 + 3 by omega, show (t + 1) * 3 = t * 3 + 3 by omega]; simpa [cells3] using this
theorem cells3_append (l r : List P3) : cells3 (l ++ r) = cells3 l ++ cells3 r := by
  induction l with
  | nil => rfl
  | cons x r ih => obtain ⟨a, b, c⟩ := x; simp [cells3, ih]
end Go.Proofs.Ytlkpfdboagjaoaa.StepU
