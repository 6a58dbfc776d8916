/- The document's port: its methods' contracts, in the port's own words. -/
import Derived.Test.YtemcpnickdcekaaSame04
import Derived.Test.YtemcpnickdcekaaStepU
namespace Go.Proofs.Ytemcpnickdcekaa.Ref04
open Go Go.RowKit Go.Proofs.Ytemcpnickdcekaa.Heap Go.Proofs.Ytemcpnickdcekaa.Open Go.Proofs.Ytemcpnickdcekaa.Has Go.Proofs.Ytemcpnickdcekaa.Same04 Go.Proofs.Ytemcpnickdcekaa.StepU
variable {p : Nat} {S : Nat → Prop} {k : Nat} {ws : List Int} {l : List T}
/-- What an access of the document's port leaves. -/
def After (p : Nat) (S : Nat → Prop) (k : Nat) (ws : List Int) (l : List T) (w w' : World) : Prop := ∃ S', RO w' p S' k ws l ∧ Upd S w w' ∧ (∀ b, S' b → S b ∨ w.heap.size ≤ b)
theorem loadR (w : World) (h : RO w p S k ws l) (hf : l.length < 1000000) (hk : k ≤ 64) (hws : ws.length ≤ 100000) (t a : Int) :
    Calls Try.prog 100 #[.pointer (some ⟨p, 0, none⟩), .int .i64 t, .int .i64 a] w fun e w' => e = .returned (.int .u32 (rd k ws t a)) ∧ After p S k ws (Cache.after k ws.length l t a false) w w' := by
  have K := doR w p S k ws l h hf hk hws t 1 a 0 0
  rw [p1] at K
  rw [show (if Mem.inB t k = true then Mem.get ws a else 0) = rd k ws t a from rfl] at K
  obtain ⟨g, hg⟩ : ∃ g, rd k ws t a = g := ⟨_, rfl⟩
  rw [hg] at K ⊢
  have HK := Lib.hid K
  clear K
  go_enter Try.func100, Try.ntmps100
  go_wp2_with fail
  refine HK.out.mono ?_
  rintro e w1 ⟨rfl, h1⟩
  go_wp2_with fail
  go_ret
  exact ⟨rfl, h1⟩
theorem storeR (w : World) (h : RO w p S k ws l) (hf : l.length < 1000000) (hk : k ≤ 64) (hws : ws.length ≤ 100000) (t a x : Int) :
    Calls Try.prog 98 #[.pointer (some ⟨p, 0, none⟩), .int .i64 t, .int .i64 a, .int .u32 x] w fun e w' => e = .returned (.tuple #[]) ∧ After p S k (wrt k ws t a x) (Cache.after k ws.length l t a true) w w' := by
  have K := doR w p S k ws l h hf hk hws t 2 a 0 x
  rw [p2] at K
  rw [show (if Mem.inB t k = true then Mem.put ws a x else ws) = wrt k ws t a x from rfl] at K
  obtain ⟨us, hus⟩ : ∃ us, wrt k ws t a x = us := ⟨_, rfl⟩
  rw [hus] at K ⊢
  have HK := Lib.hid K
  clear K
  go_enter Try.func98, Try.ntmps98
  go_wp2_with fail
  refine HK.out.mono ?_
  rintro e w1 ⟨rfl, h1⟩
  go_wp2_with fail
  go_end0
  exact ⟨rfl, h1⟩
theorem swapR (w : World) (h : RO w p S k ws l) (hf : l.length < 1000000) (hk : k ≤ 64) (hws : ws.length ≤ 100000) (t a x : Int) :
    Calls Try.prog 99 #[.pointer (some ⟨p, 0, none⟩), .int .i64 t, .int .i64 a, .int .u32 x] w fun e w' => e = .returned (.int .u32 (rd k ws t a)) ∧ After p S k (wrt k ws t a x) (Cache.after k ws.length l t a true) w w' := by
  have K := doR w p S k ws l h hf hk hws t 3 a 0 x
  rw [p3] at K
  rw [show (if Mem.inB t k = true then Mem.get ws a else 0) = rd k ws t a from rfl] at K
  obtain ⟨g, hg⟩ : ∃ g, rd k ws t a = g := ⟨_, rfl⟩
  rw [hg] at K ⊢
  rw [show (if Mem.inB t k = true then Mem.put ws a x else ws) = wrt k ws t a x from rfl] at K
  obtain ⟨us, hus⟩ : ∃ us, wrt k ws t a x = us := ⟨_, rfl⟩
  rw [hus] at K ⊢
  have HK := Lib.hid K
  clear K
  go_enter Try.func99, Try.ntmps99
  go_wp2_with fail
  refine HK.out.mono ?_
  rintro e w1 ⟨rfl, h1⟩
  go_wp2_with fail
  go_ret
  exact ⟨rfl, h1⟩
theorem casR (w : World) (h : RO w p S k ws l) (hf : l.length < 1000000) (hk : k ≤ 64) (hws : ws.length ≤ 100000) (t a o x : Int) :
    Calls Try.prog 101 #[.pointer (some ⟨p, 0, none⟩), .int .i64 t, .int .i64 a, .int .u32 o, .int .u32 x] w fun e w' => e = .returned (.bool (Mem.inB t k && Mem.casB ws a o)) ∧ After p S k (if (Mem.inB t k && Mem.casB ws a o) = true then Mem.put ws a x else ws) (Cache.after k ws.length l t a true) w w' := by
  have K := doR w p S k ws l h hf hk hws t 4 a o x
  rw [p4] at K
  obtain ⟨g, hg⟩ : ∃ g, (Mem.inB t k && Mem.casB ws a o) = g := ⟨_, rfl⟩
  rw [hg] at K ⊢
  have HK := Lib.hid K
  clear K hg
  cases g with
  | true =>
    go_enter Try.func101, Try.ntmps101
    go_wp2_with fail
    refine HK.out.mono ?_
    rintro e w1 ⟨rfl, h1⟩
    go_wp2_with fail
    go_ret
    exact ⟨rfl, h1⟩
  | false =>
    go_enter Try.func101, Try.ntmps101
    go_wp2_with fail
    refine HK.out.mono ?_
    rintro e w1 ⟨rfl, h1⟩
    go_wp2_with fail
    go_ret
    exact ⟨rfl, h1⟩
end Go.Proofs.Ytemcpnickdcekaa.Ref04
