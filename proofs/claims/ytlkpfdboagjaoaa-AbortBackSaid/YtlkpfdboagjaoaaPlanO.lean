/- Package plan: the port of a plan. -/
import Derived.Test.YtlkpfdboagjaoaaPlan
import Derived.Deep.RegionHeld3
namespace Go.Proofs.Ytlkpfdboagjaoaa.Plan
open Go Go.RowKit Go.Proofs.Ytlkpfdboagjaoaa.Heap Go.Proofs.Ytlkpfdboagjaoaa.Open Go.Proofs.Ytlkpfdboagjaoaa.Mem

/-- A call of port.New, as Port makes it: whatever it tells, and whatever it leaves. -/
theorem portAny (w : World) (p : Nat) (S : Nat → Prop) (k : Int) (hs xs : List Int) (h : O w p S k hs xs) (r : World → Value → World → Prop)
    (HN : ∀ W hv wv, Below w.heap.size w W → Src1 W hv .i64 hs → Src1 W wv .u32 xs → Calls Try.prog 53 #[.int .i64 k, hv, wv] W fun e w' => ∃ a b, e = .returned (.tuple #[a, b]) ∧ Below W.heap.size W w' ∧ r W (.tuple #[a, b]) w') :
    Calls Try.prog 36 #[.pointer (some ⟨p, 0, none⟩)] w fun e w' => ∃ W a b, Below w.heap.size w W ∧ W.heap.size = w.heap.size ∧ e = .returned (.tuple #[a, b]) ∧ Below w.heap.size w w' ∧ r W (.tuple #[a, b]) w' := by
  obtain ⟨⟨hv, wv, hp⟩, hl, hn⟩ := h
  have s1 : Src1 w hv .i64 hs := Src1.of_owned hp.homes
  have s2 : Src1 w wv .u32 xs := Src1.of_owned hp.words
  have q0 := hp.top.cell (i := 0) rfl
  have q1 := hp.top.cell (i := 1) rfl
  have q2 := hp.top.cell (i := 2) rfl
  have pl := hl _ hp.sp
  have HH := Lib.hid HN
  clear HN
  go_enter Try.func36, Try.ntmps36
  go_wp2_with fail
  go_region_held3 (fun w' => w'.cell? ⟨p, 0, none⟩ = some (.int .i64 k) ∧ w'.cell? ⟨p, 1, none⟩ = some hv ∧ w'.cell? ⟨p, 2, none⟩ = some wv) ((first | exact ⟨q0, q1, q2⟩ | exact ⟨n0, n1, n2⟩))
    ((first
      | (go_at_call 53; refine (HH.out _ hv wv (by first | exact below_drewN (Below.refl _ _) 1 | exact Below.refl _ _) (by first | exact s1) (by first | exact s2)).mono ?_; rintro e w1 ⟨a, b, rfl, b1, hr⟩; have n0 := (b1.cell (p := ⟨p, 0, none⟩) pl).trans q0; have n1 := (b1.cell (p := ⟨p, 1, none⟩) pl).trans q1; have n2 := (b1.cell (p := ⟨p, 2, none⟩) pl).trans q2)))
  go_wp2
  go_ret2
  exact ⟨_, _, _, below_drewN (Below.refl _ _) 1, rfl, rfl, (below_drewN (Below.refl w.heap.size w) 1).trans b1, hr⟩
theorem portPl (w : World) (p : Nat) (S : Nat → Prop) (k : Nat) (hs xs : List Int) (h : O w p S k hs xs) (hx : xs.length ≤ 4096) (hok : Mem.homesOk hs = true) (hw : Mem.Wd xs) (k1 : 1 ≤ k) (k2 : k ≤ 64) :
    Calls Try.prog 36 #[.pointer (some ⟨p, 0, none⟩)] w fun e w' => ∃ q, e = .returned (.tuple #[.pointer (some ⟨q, 0, none⟩), .int .i64 0]) ∧ Port.O w' q (Btw w w') k xs hs [] ∧ Below w.heap.size w w' := by
  refine (portAny w p S k hs xs h (fun W v w' => ∃ q, v = .tuple #[.pointer (some ⟨q, 0, none⟩), .int .i64 0] ∧ Port.O w' q (Btw W w') k xs hs []) ?_).mono ?_
  · intro W hv wv hb s1 s2
    exact (Port.newP W k hv wv hs xs s1 s2 h.len hx hok hw k1 k2).mono fun e w' ⟨q, he, ho, hb⟩ => ⟨_, _, he, hb, q, rfl, ho⟩
  · rintro e w' ⟨W, a, b, hb, hz, he, hb2, q, e2, ho⟩
    refine ⟨q, by rw [he, e2], ?_, hb2⟩
    have : Btw W w' = Btw w w' := by funext x; unfold Btw; rw [hz]
    rwa [this] at ho
/-- What is refused, and why. -/
theorem portPl_no (w : World) (p : Nat) (S : Nat → Prop) (k : Int) (hs xs : List Int) (h : O w p S k hs xs) (c : Int) (hc : ((k < 1 ∨ 64 < k) ∧ c = 1) ∨ ((1 ≤ k ∧ k ≤ 64) ∧ 4096 < xs.length ∧ c = 5) ∨ ((1 ≤ k ∧ k ≤ 64) ∧ xs.length ≤ 4096 ∧ Mem.homesOk hs = false ∧ c = 1)) :
    Calls Try.prog 36 #[.pointer (some ⟨p, 0, none⟩)] w fun e w' => e = .returned (.tuple #[.pointer none, .int .i64 c]) ∧ Below w.heap.size w w' := by
  refine (portAny w p S k hs xs h (fun _ v _ => v = .tuple #[.pointer none, .int .i64 c]) ?_).mono ?_
  · intro W hv wv hb s1 s2
    rcases hc with ⟨hk, rfl⟩ | ⟨⟨k1, k2⟩, hl, rfl⟩ | ⟨⟨k1, k2⟩, hl, hok, rfl⟩
    · obtain ⟨a1, c1, rfl, -, -⟩ := s1
      obtain ⟨a2, c2, rfl, -, -⟩ := s2
      exact (Port.newP_no W k a1 a2 _ c1 _ c2 (by omega)).mono fun e w' ⟨he, hw⟩ => ⟨_, _, he, hw ▸ Below.refl _ _, rfl⟩
    · exact (Port.newP_big W k hv wv hs xs s1 s2 h.len hl k1 k2).mono fun e w' ⟨he, hw⟩ => ⟨_, _, he, hw ▸ Below.refl _ _, rfl⟩
    · exact (Port.newP_bad W k hv wv hs xs s1 s2 h.len hl hok k1 k2).mono fun e w' ⟨he, hw⟩ => ⟨_, _, he, hw ▸ Below.refl _ _, rfl⟩
  · rintro e w' ⟨W, a, b, hb, hz, he, hb2, e2⟩
    exact ⟨by rw [he, e2], hb2⟩
end Go.Proofs.Ytlkpfdboagjaoaa.Plan
