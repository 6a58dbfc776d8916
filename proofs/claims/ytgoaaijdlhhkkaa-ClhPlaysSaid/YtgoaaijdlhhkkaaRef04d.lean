/- The document's port: its methods' contracts, in the port's own words. -/
import Derived.Test.YtgoaaijdlhhkkaaSame04
import Derived.Test.YtgoaaijdlhhkkaaStepU
namespace Go.Proofs.Ytgoaaijdlhhkkaa.Ref04
open Go Go.RowKit Go.Proofs.Ytgoaaijdlhhkkaa.Heap Go.Proofs.Ytgoaaijdlhhkkaa.Open Go.Proofs.Ytgoaaijdlhhkkaa.Has Go.Proofs.Ytgoaaijdlhhkkaa.Same04 Go.Proofs.Ytgoaaijdlhhkkaa.StepU
variable {p : Nat} {S : Nat → Prop} {k : Nat} {ws : List Int} {l : List T}
/-- What an access of the document's port leaves. -/
def After (p : Nat) (S : Nat → Prop) (k : Nat) (ws : List Int) (l : List T) (w w' : World) : Prop := ∃ S', RO w' p S' k ws l ∧ Upd S w w' ∧ (∀ b, S' b → S b ∨ w.heap.size ≤ b)
theorem loadR (w : World) (h : RO w p S k ws l) (hf : l.length < 1000000) (hk : k ≤ 64) (hws : ws.length ≤ 100000) (t a : Int) :
    Calls Try.prog 97 #[.pointer (some ⟨p, 0, none⟩), .int .i64 t, .int .i64 a] w fun e w' => e = .returned (.int .u32 (rd k ws t a)) ∧ After p S k ws (Cache.after k ws.length l t a false) w w' := by
  have K := doR w p S k ws l h hf hk hws t 1 a 0 0
  rw [p1] at K
  rw [show (if Mem.inB t k = true then Mem.get ws a else 0) = rd k ws t a from rfl] at K
  obtain ⟨g, hg⟩ : ∃ g, rd k ws t a = g := ⟨_, rfl⟩
  rw [hg] at K ⊢
  have HK := Lib.hid K
  clear K
  go_enter Try.func97, Try.ntmps97
  go_wp2_with fail
  refine HK.out.mono ?_
  rintro e w1 ⟨rfl, h1⟩
  go_wp2_with fail
  go_ret
  exact ⟨rfl, h1⟩
theorem storeR (w : World) (h : RO w p S k ws l) (hf : l.length < 1000000) (hk : k ≤ 64) (hws : ws.length ≤ 100000) (t a x : Int) :
    Calls Try.prog 95 #[.pointer (some ⟨p, 0, none⟩), .int .i64 t, .int .i64 a, .int .u32 x] w fun e w' => e = .returned (.tuple #[]) ∧ After p S k (wrt k ws t a x) (Cache.after k ws.length l t a true) w w' := by
  have K := doR w p S k ws l h hf hk hws t 2 a 0 x
  rw [p2] at K
  rw [show (if Mem.inB t k = true then Mem.put ws a x else ws) = wrt k ws t a x from rfl] at K
  obtain ⟨us, hus⟩ : ∃ us, wrt k ws t a x = us := ⟨_, rfl⟩
  rw [hus] at K ⊢
  have HK := Lib.hid K
  clear K
  go_enter Try.func95, Try.ntmps95
  go_wp2_with fail
  refine HK.out.mono ?_
  rintro e w1 ⟨rfl, h1⟩
  go_wp2_with fail
  go_end0
  exact ⟨rfl, h1⟩
theorem swapR (w : World) (h : RO w p S k ws l) (hf : l.length < 1000000) (hk : k ≤ 64) (hws : ws.length ≤ 100000) (t a x : Int) :
    Calls Try.prog 96 #[.pointer (some ⟨p, 0, none⟩), .int .i64 t, .int .i64 a, .int .u32 x] w fun e w' => e = .returned (.int .u32 (rd k ws t a)) ∧ After p S k (wrt k ws t a x) (Cache.after k ws.length l t a true) w w' := by
  have K := doR w p S k ws l h hf hk hws t 3 a 0 x
  rw [p3] at K
  rw [show (if Mem.inB t k = true then Mem.get ws a else 0) = rd k ws t a from rfl] at K
  obtain ⟨g, hg⟩ : ∃ g, rd k ws t a = g := ⟨_, rfl⟩
  rw [hg] at K ⊢
  rw [show (if Mem.inB t k = true then Mem.put ws a x else ws) = wrt k ws t a x from rfl] at K
  obtain ⟨us, hus⟩ : ∃ us, wrt k ws t a x = us := ⟨_, rfl⟩
  rw [hus] at K ⊢
  have HK := Lib.hid K
  clear K
  go_enter Try.func96, Try.ntmps96
  go_wp2_with fail
  refine HK.out.mono ?_
  rintro e w1 ⟨rfl, h1⟩
  go_wp2_with fail
  go_ret
  exact ⟨rfl, h1⟩
end Go.Proofs.Ytgoaaijdlhhkkaa.Ref04
