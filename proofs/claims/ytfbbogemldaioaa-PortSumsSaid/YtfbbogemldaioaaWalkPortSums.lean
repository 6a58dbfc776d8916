/- The law PortSums, walked: threads that add to one word, in any order, make its sum. -/
import Derived.Test.YtfbbogemldaioaaOps04
namespace Go.Proofs.Ytfbbogemldaioaa.WalkPortSums
open Go Go.RowKit Go.Proofs.Ytfbbogemldaioaa.Heap Go.Proofs.Ytfbbogemldaioaa.Open Go.Proofs.Ytfbbogemldaioaa.Port Go.Proofs.Ytfbbogemldaioaa.Law04 Go.Proofs.Ytfbbogemldaioaa.Has

theorem put1 (y x : Int) : Mem.put [y] 0 x = [x] := by simp [Mem.put, Mem.inB]
theorem get1 (y : Int) : Mem.get [y] 0 = y := by simp [Mem.get, Mem.inB]
set_option maxHeartbeats 2000000 in
theorem walk (v : Value) (xs : List Int) (a : Int) (w : World) (h : Ints w v .u32 xs) (ha : (Lit.int .u8 a).wf = true) :
    Calls Try.prog 3 #[v, .int .u8 a] w fun e w' => e = .returned (.bool true) ∧ Below w.heap.size w w' := by
  have ha' : 0 ≤ a ∧ a < 256 := by simp [Lit.wf, IntKind.min, IntKind.max, IntKind.bits, IntKind.signed] at ha; omega
  obtain ⟨a0, a1⟩ := ha'
  clear ha
  obtain ⟨ao, cap, rfl, hlc, hlm⟩ := h.len
  by_cases hlong : 60 < xs.length
  · have hl60 : (60 : Int) < (xs.length : Int) := by omega
    go_enter Try.func3, Try.ntmps3
    go_wp2_with fail
    refine (newP _ 8 _ _ [0] [9] ((src_lit _ .i64 [0] _ _ _ _ _ rfl rfl rfl).below ((Below.refl _ _).alloc (Nat.le_refl _) _)) (src_lit _ .u32 [9] _ _ _ _ _ rfl (by simp) rfl) rfl (by decide) (by decide) (by intro x hx; simp at hx; omega) (by decide) (by decide)).mono ?_
    rintro e w1 ⟨p, rfl, h1, b1⟩
    have B1 : Below w.heap.size w w1 := (((Below.refl _ _).alloc (Nat.le_refl _) _).alloc (by simp) _).trans (b1.mono (by simp; omega))
    go_wp2_with fail
    refine (awake _).mono ?_
    rintro e w4 ⟨rfl, u4⟩
    go_wp2
    go_ret
    exact ⟨rfl, B1.trans (u4.mono B1.size)⟩
  · have hl60 : (xs.length : Int) ≤ 60 := by omega
    go_enter Try.func3, Try.ntmps3
    go_wp2_with fail
    refine (newP _ 8 _ _ [0] [9] ((src_lit _ .i64 [0] _ _ _ _ _ rfl rfl rfl).below ((Below.refl _ _).alloc (Nat.le_refl _) _)) (src_lit _ .u32 [9] _ _ _ _ _ rfl (by simp) rfl) rfl (by decide) (by decide) (by intro x hx; simp at hx; omega) (by decide) (by decide)).mono ?_
    rintro e w1 ⟨p, rfl, h1, b1⟩
    have B1 : Below w.heap.size w w1 := (((Below.refl _ _).alloc (Nat.le_refl _) _).alloc (by simp) _).trans (b1.mono (by simp; omega))
    obtain ⟨S, hS, h1⟩ : ∃ S : Nat → Prop, (∀ b, S b → w.heap.size ≤ b) ∧ Port.O w1 p S 8 [9] [0] [] := ⟨_, fun b hb => Nat.le_trans (by simp; omega) hb.1, h1⟩
    clear b1
    go_wp2_with fail
    go_loopw [7, 38] (fun s i wr => ∃ k : Nat, k ≤ xs.length ∧ i = .int .i64 k ∧ ∃ y : Int, s = .int .u32 y ∧ ∃ l : List T, l.length ≤ k ∧ Port.O wr p S 8 [y] [0] l ∧ Below w.heap.size w wr) (fun _ i _ => xs.length - (intOf i).toNat)
    case atStart => exact ⟨0, Nat.zero_le _, rfl, 9, rfl, [], Nat.le_refl _, h1, B1⟩
    case round =>
      obtain ⟨k, hk, rfl, y, rfl, l, hlk, hat, hbel⟩ := hrel
      by_cases hlt : k < xs.length
      · obtain ⟨b, off, rfl, hb, hw, c0⟩ := h.cell hbel hlt
        obtain ⟨x, hx⟩ : ∃ x, xs.getD k 0 = x := ⟨_, rfl⟩
        rw [hx] at c0 hw
        clear hx
        have hal := Cache.after_len 8 [y].length l ((a + k) % 8) 0 true
        have K := addP _ _ _ _ _ _ _ hat (by omega) ((a + k) % 8) 0 x
        rw [get1, put1, if_pos (show Mem.inB ((a + k) % 8) 8 = true by simp [Mem.inB]; omega), if_pos (show Mem.inB ((a + k) % 8) 8 = true by simp [Mem.inB]; omega)] at K
        have HK := Lib.hid K
        clear K
        go_wp2_with fail
        refine (HK.out).mono ?_
        rintro e w2 ⟨rfl, hat2, u2⟩
        have hbel2 := u2.below hbel hbel.size hS
        go_wp2_with fail
        go_roundw
        case rel => exact ⟨k + 1, by omega, by go_num, (y + x) % 4294967296, by simp, _, by omega, hat2, hbel2⟩
        case measure => simp [intOf]; omega
      · have K := loadP _ _ _ _ _ _ _ hat (by omega) 0 0
        rw [get1, if_pos (show Mem.inB 0 8 = true from by decide)] at K
        have HK := Lib.hid K
        clear K
        go_wp2_with fail
        refine (HK.out).mono ?_
        rintro e w2 ⟨rfl, h2, u2⟩
        have hbel2 := u2.below hbel hbel.size hS
        go_wp2_with fail
        refine (awake _).mono ?_
        rintro e w4 ⟨rfl, u4⟩
        go_wp2
        go_ret
        exact ⟨rfl, hbel2.trans (u4.mono hbel2.size)⟩
end Go.Proofs.Ytfbbogemldaioaa.WalkPortSums
