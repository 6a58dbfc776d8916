/- The law MemAdds, walked: sums at one word go round; each Add tells what was there. -/
import Derived.Test.YtcndppkcaplcjaaDo02
import Derived.Test.YtcndppkcaplcjaaLaw02
namespace Go.Proofs.Ytcndppkcaplcjaa.WalkMemAdds
open Go Go.RowKit Go.Proofs.Ytcndppkcaplcjaa.Heap Go.Proofs.Ytcndppkcaplcjaa.Mem Go.Proofs.Ytcndppkcaplcjaa.Law02 Go.Proofs.Ytcndppkcaplcjaa.Open

theorem put1 (y x : Int) : Mem.put [y] 0 x = [x] := by simp [Mem.put, Mem.inB]
theorem get1 (y : Int) : Mem.get [y] 0 = y := by simp [Mem.get, Mem.inB]
set_option maxHeartbeats 1000000 in
theorem walk (v : Value) (xs : List Int) (w : World) (h : Ints w v .u32 xs) :
    Calls Try.prog 3 #[v] w fun e w' => e = .returned (.bool true) ∧ Below w.heap.size w w' := by
  obtain ⟨ao, cap, rfl, hlc, hlm⟩ := h.len
  by_cases hlong : 60 < xs.length
  · have hl60 : (60 : Int) < (xs.length : Int) := by omega
    go_enter Try.func3, Try.ntmps3
    go_wp2_with fail
    refine (newO _ _ [3] (src_one w 3 _) (by decide) (by decide)).mono ?_
    rintro e w1 ⟨m, rfl, hO, b1⟩
    have hn : Below w.heap.size w w1 := ((Below.refl _ _).alloc (Nat.le_refl _) _).trans (b1.mono (by simp))
    go_wp2_with fail
    refine (awake _).mono ?_
    rintro e w4 ⟨rfl, u4⟩
    go_wp2
    go_ret
    exact ⟨rfl, hn.trans (u4.mono hn.size)⟩
  · have hl60 : (xs.length : Int) ≤ 60 := by omega
    go_enter Try.func3, Try.ntmps3
    go_wp2_with fail
    refine (newO _ _ [3] (src_one w 3 _) (by decide) (by decide)).mono ?_
    rintro e w1 ⟨m, rfl, hO, b1⟩
    have hn : Below w.heap.size w w1 := ((Below.refl _ _).alloc (Nat.le_refl _) _).trans (b1.mono (by simp))
    obtain ⟨S, hS, hO⟩ : ∃ S : Nat → Prop, (∀ b, S b → w.heap.size ≤ b) ∧ O w1 m S [0] [3] := ⟨_, fun b hb => Nat.le_trans (by simp) hb.1, hO⟩
    clear b1
    go_wp2_with fail
    go_loopw [5, 35] (fun s i wr => ∃ k : Nat, k ≤ xs.length ∧ i = .int .i64 k ∧ ∃ y : Int, s = .int .u32 y ∧ 0 ≤ y ∧ y < 4294967296 ∧ O wr m S [y] [3] ∧ Below w.heap.size w wr) (fun _ i _ => xs.length - (intOf i).toNat)
    case atStart => exact ⟨0, Nat.zero_le _, rfl, 0, rfl, by decide, by decide, hO, hn⟩
    case round =>
      obtain ⟨k, hk, rfl, y, rfl, y0, y1, hat, hbel⟩ := hrel
      by_cases hlt : k < xs.length
      · obtain ⟨b, off, rfl, hb, hw, c0⟩ := h.cell hbel hlt
        obtain ⟨x, hx⟩ : ∃ x, xs.getD k 0 = x := ⟨_, rfl⟩
        rw [hx] at c0 hw
        clear hx
        have K := addO _ _ _ _ _ hat 0 x
        rw [get1, put1] at K
        have HK := Lib.hid K
        clear K
        go_wp2_with fail
        refine (HK.out).mono ?_
        rintro e w2 ⟨rfl, hat2, u2⟩
        have hbel2 := u2.below hbel hbel.size hS
        go_wp2_with fail
        go_roundw
        case rel => exact ⟨k + 1, by omega, by go_num, (y + x) % 4294967296, by simp, by omega, by omega, hat2, hbel2⟩
        case measure => simp [intOf]; omega
      · have K := loadO _ _ _ _ _ hat 0
        rw [get1] at K
        have HK := Lib.hid K
        clear K
        go_wp2_with fail
        refine (HK.out).mono ?_
        rintro e w2 ⟨rfl, rfl⟩
        go_wp2_with fail
        refine (awake _).mono ?_
        rintro e w4 ⟨rfl, u4⟩
        go_wp2
        go_ret
        exact ⟨rfl, hbel.trans (u4.mono hbel.size)⟩
end Go.Proofs.Ytcndppkcaplcjaa.WalkMemAdds
