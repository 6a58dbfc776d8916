/- The document's pool (reference of layer 6): New, Take, Back, Give, walked. -/
import Derived.Test.YtnmldhagdgghoaaRef06
import Derived.BigRegion
import Derived.Deep.QuietTactic
namespace Go.Proofs.Ytnmldhagdgghoaa.Ref06
open Go Go.RowKit Go.Proofs.Ytnmldhagdgghoaa.Heap Go.Proofs.Ytnmldhagdgghoaa.Open Go.Proofs.Ytnmldhagdgghoaa.Sl Go.Proofs.Ytnmldhagdgghoaa.Pool Go.Proofs.Ytnmldhagdgghoaa.Law06

/-- The first m of a new one's nodes. -/
def newsM (k m : Nat) : List Nd := (List.range m).map fun i => ⟨((i / k : Nat) : Int), i, false⟩
theorem newsM_len (k m : Nat) : (newsM k m).length = m := by simp [newsM]
theorem newsM_next (k m : Nat) : newsM k (m + 1) = newsM k m ++ [⟨((m / k : Nat) : Int), m, false⟩] := by simp [newsM, List.range_succ]
set_option maxHeartbeats 4000000 in
theorem newC (w : World) (n k : Nat) (n2 : n ≤ 64) (k1 : 1 ≤ k) (k2 : k ≤ 8) :
    Calls Try.prog 15 #[.int .i64 n, .int .i64 k] w fun e w' => ∃ v', e = .returned (.agg #[v', .int .i64 (n * k : Nat)]) ∧ SrcS w' v' 3 ((news n k).map ncell) ∧ Below w.heap.size w w' ∧ ∀ b, v'.ownBlock = some b → w.heap.size ≤ b := by
  have hnk : n * k ≤ 64 * 8 := Nat.mul_le_mul n2 k2
  have hz2 : (0 : Int) ≤ (n : Int) * (k : Int) := by rw [← Int.natCast_mul]; omega
  have hz3 : (n : Int) * (k : Int) ≤ 512 := by rw [← Int.natCast_mul]; omega
  have a2 : (n : Int) ≤ 64 := by omega
  have a3 : (1 : Int) ≤ k := by omega
  have a4 : (k : Int) ≤ 8 := by omega
  have R0 : Row ((w.alloc (.cells #[.slice none 0 0, .int .i64 0] 44)).alloc (.cells #[.slice none 0 0, .int .i64 0] 44)) w.heap.size [.slice none 0 0, .int .i64 0] := (Row.new' rfl).alloc _
  have R1 : Row ((w.alloc (.cells #[.slice none 0 0, .int .i64 0] 44)).alloc (.cells #[.slice none 0 0, .int .i64 0] 44)) (w.heap.size + 1) [.slice none 0 0, .int .i64 0] := Row.new' (by simp)
  have B0 : Below w.heap.size w ((w.alloc (.cells #[.slice none 0 0, .int .i64 0] 44)).alloc (.cells #[.slice none 0 0, .int .i64 0] 44)) := ((Below.refl _ _).alloc (Nat.le_refl _) _).alloc (by simp) _
  go_enter Try.func15, Try.ntmps15
  go_wp2_with fail
  obtain ⟨B, hB⟩ : ∃ B, w.heap.size = B := ⟨_, rfl⟩
  obtain ⟨W0, hW0⟩ : ∃ W, ((w.alloc (.cells #[.slice none 0 0, .int .i64 0] 44)).alloc (.cells #[.slice none 0 0, .int .i64 0] 44)) = W := ⟨_, rfl⟩
  rw [hW0] at R0 R1 B0 ⊢
  rw [hB] at R0 R1 ⊢
  have HB := Lib.hid hB
  clear hW0 hB
  go_loopw [6] (fun i wr => ∃ m : Nat, m ≤ n * k ∧ i = .int .i64 m ∧ (∃ vv, OwnS wr 0 60 3 vv ((newsM k m).map ncell) ∧ (∀ b, vv.ownBlock = some b → B + 1 < b) ∧ Row wr (B + 1) [vv, .int .i64 0]) ∧ Row wr B [.slice none 0 0, .int .i64 0] ∧ Below w.heap.size w wr) (fun i _ => n * k - (intOf i).toNat)
  case atStart => exact ⟨0, Nat.zero_le _, rfl, ⟨_, OwnS.nil _ _ _ _, fun b h => by simp [Value.ownBlock] at h, R1⟩, R0, B0⟩
  case round =>
    obtain ⟨m, hm, rfl, ⟨vv, hown, hvb, hR1⟩, hR0, hBl⟩ := hrel
    clear R0 R1 B0
    by_cases hlt : m < n * k
    · have hlt' : (m : Int) < (n : Int) * (k : Int) := by rw [← Int.natCast_mul]; omega
      have hq0 : IntKind.i64.wrap ((m : Int) / (k : Int)) = ((m / k : Nat) : Int) := by
        have hz : ∀ z : Nat, z ≤ m → IntKind.i64.wrap (z : Int) = z := fun z hz => IntWalk.i64_in _ (by omega)
        rw [← Int.natCast_ediv]; exact hz _ (Nat.div_le_self m k)
      have hk0 : ¬ k = 0 := by omega
      have hnext := newsM_next k m
      have hlen := newsM_len k m
      obtain ⟨q, hqq⟩ : ∃ q, m / k = q := ⟨_, rfl⟩
      rw [hqq] at hq0 hnext
      obtain ⟨X, hX⟩ : ∃ X, newsM k m = X := ⟨_, rfl⟩
      rw [hX] at hown hnext hlen
      have HNX := Lib.hid hnext
      have hXl : X.length ≤ 512 := by omega
      have HXL := Lib.hid hlen
      have T1 := (hR1.alloc (.cells #[.int .i64 (q : Int), .int .i64 (m : Int), .bool false] 60)).drew
      have T0 := (hR0.alloc (.cells #[.int .i64 (q : Int), .int .i64 (m : Int), .bool false] 60)).drew
      have c0 := hR1.cell (i := 0) rfl
      have b0 := T1.cell (i := 0) rfl
      have U7 : Upd (fun _ => False) wr ((wr.alloc (.cells #[.int .i64 (q : Int), .int .i64 (m : Int), .bool false] 60)).drew) := ((Upd.refl (fun _ => False) _).alloc _).drew
      have hown2 := own_upd hown.1 U7 (fun _ _ => _root_.id)
      have n7 : Row ((wr.alloc (.cells #[.int .i64 (q : Int), .int .i64 (m : Int), .bool false] 60)).drew) wr.heap.size [.int .i64 (q : Int), .int .i64 (m : Int), .bool false] := (Row.new' rfl).drew
      have B7 := U7.below hBl hBl.size (fun _ e => e.elim)
      have hvl : ∀ b, vv.ownBlock = some b → b < wr.heap.size := fun b hb => (own_lt hown.1 hb).1
      have hrl := hR1.lt
      have s7 : wr.heap.size < ((wr.alloc (.cells #[.int .i64 (q : Int), .int .i64 (m : Int), .bool false] 60)).drew).heap.size := by simp [World.drew]
      obtain ⟨ti, i1, i2, i3, i4⟩ := info_parts info_node
      have put' : ∀ (g gc : Nat) (w8 : World), w8.ownsRow 0 60 3 (.slice (some ⟨g, 0, none⟩) (X.length + 1) gc) (X.length + 1) ((X.map ncell).flatten ++ [.int .i64 (q : Int), .int .i64 (m : Int), .bool false]) → Upd (fun k => vv.ownBlock = some k) ((wr.alloc (.cells #[.int .i64 (q : Int), .int .i64 (m : Int), .bool false] 60)).drew) w8 → (vv.ownBlock = some g ∨ g = ((wr.alloc (.cells #[.int .i64 (q : Int), .int .i64 (m : Int), .bool false] 60)).drew).heap.size) →
          (∃ vv, OwnS (w8.setCell ⟨B + 1, 0, none⟩ (.slice (some ⟨g, 0, none⟩) (X.length + 1) gc)) 0 60 3 vv ((newsM k (m + 1)).map ncell) ∧ (∀ b, vv.ownBlock = some b → B + 1 < b) ∧ Row (w8.setCell ⟨B + 1, 0, none⟩ (.slice (some ⟨g, 0, none⟩) (X.length + 1) gc)) (B + 1) [vv, .int .i64 0]) ∧ Row (w8.setCell ⟨B + 1, 0, none⟩ (.slice (some ⟨g, 0, none⟩) (X.length + 1) gc)) B [.slice none 0 0, .int .i64 0] ∧ Below w.heap.size w (w8.setCell ⟨B + 1, 0, none⟩ (.slice (some ⟨g, 0, none⟩) (X.length + 1) gc)) := by
        intro g gc w8 ho hu hat
        have hgB : B + 1 < g := by
          rcases hat with e | e
          · exact hvb _ e
          · omega
        have u9 := Upd.one w8 (B + 1) 0 (.slice (some ⟨g, 0, none⟩) (X.length + 1) gc)
        have T18 := T1.upd hu (fun e => by have := hvb _ e; omega)
        have T08 := T0.upd hu (fun e => by have := hvb _ e; omega)
        have B8 := hu.below B7 B7.size (fun i e => by have := hvb _ e; have := HB.out; omega)
        have hs8 : OwnS w8 0 60 3 (.slice (some ⟨g, 0, none⟩) (X.length + 1) gc) ((newsM k (m + 1)).map ncell) := by
          rw [HNX.out, List.map_append]
          refine OwnS.snoc (ncell_len X) rfl ?_
          simpa [ncell] using ho
        refine ⟨⟨_, ⟨own_upd hs8.1 u9 (fun b hb e => by simp [Value.ownBlock] at hb; omega), hs8.2⟩, fun b hb => ?_, T18.set 0 _⟩, T08.upd u9 (by omega), u9.below B8 B8.size (fun i e => by have := HB.out; omega)⟩
        simp [Value.ownBlock] at hb; omega
      have PUT := Lib.hid put'
      have HVB := Lib.hid hvb
      have yfz : ∀ w8 : World, Upd (fun k => vv.ownBlock = some k) ((wr.alloc (.cells #[.int .i64 (q : Int), .int .i64 (m : Int), .bool false] 60)).drew) w8 → Row w8 (B + 1) [vv, .int .i64 0] := fun w8 hu => T1.upd hu (fun e => by have := HVB.out _ e; omega)
      have HY := Lib.hid yfz
      clear hvb hvl put' yfz hX hqq hlen hnext hown U7 B7 T0 T1
      go_wp2_with fail
      go_region_law (refine step_append_lies _ rfl (.tmp 15) (.tmp 21) 42 rfl 0 60 ti (.agg #[.int .i64 0, .int .i64 0, .bool false]) 3 24 Try.underlying42 i1 i2 i3 i4 rfl (by decide) vv (X.map ncell).length (X.map ncell).flatten rfl hown2 ⟨wr.heap.size, 0, none⟩ 1 1 [.int .i64 (q : Int), .int .i64 (m : Int), .bool false] rfl rfl (row_news n7) (by intro u hu; simp at hu; rcases hu with rfl | rfl | rfl <;> rfl) (by decide) (by rw [List.length_map]; unfold maxLen; omega) (by rw [List.length_map]; omega) (Nat.zero_le _) _ rfl ?_; intro g gc w8 hown8 hgrow hat hlt8; have u8 := Upd.grown hgrow; have top8 := HY.out _ u8; have y2' := top8.cell (i := 0) rfl; have yz := top8.frozen 0)
      all_goals
        go_wp2_with fail
        go_roundw
        case rel => exact ⟨m + 1, by omega, by go_num, PUT.out _ _ _ (by simpa using hown8) u8 hat⟩
        case measure => simp [intOf]; omega
    · obtain rfl : m = n * k := by omega
      have hlt' : ¬ ((n * k : Nat) : Int) < (n : Int) * (k : Int) := by rw [← Int.natCast_mul]; omega
      obtain ⟨va, vc, rfl⟩ := hown.len
      rw [List.length_map, newsM_len] at hown hvb hR1
      have hnn : (n : Int) * (k : Int) = ((n * k : Nat) : Int) := by simp
      have y1 := hR1.cell (i := 1) rfl
      have z1 := hR1.frozen 1
      have u1 := Upd.one wr (B + 1) 1 (.int .i64 ((n * k : Nat) : Int))
      have R1' := hR1.set 1 (.int .i64 ((n * k : Nat) : Int))
      have R0' := hR0.upd u1 (by omega)
      have own1 := own_upd hown.1 u1 (fun b hb e => by have := hvb b hb; omega)
      have B1 := u1.below hBl hBl.size (fun i e => by have := HB.out; omega)
      have q0 := R1'.cell (i := 0) rfl
      have q1 := R1'.cell (i := 1) rfl
      have g0 := R0'.cell (i := 0) rfl
      have g1 := R0'.cell (i := 1) rfl
      have f0 := R0'.frozen 0
      have f1 := R0'.frozen 1
      have R0'' := (R0'.set 0 (.slice va (n * k) vc)).set 1 (.int .i64 ((n * k : Nat) : Int))
      have u2 : Upd (fun i => i = B) (wr.setCell ⟨B + 1, 1, none⟩ (.int .i64 ((n * k : Nat) : Int))) (((wr.setCell ⟨B + 1, 1, none⟩ (.int .i64 ((n * k : Nat) : Int))).setCell ⟨B, 0, none⟩ (.slice va (n * k) vc)).setCell ⟨B, 1, none⟩ (.int .i64 ((n * k : Nat) : Int))) := (Upd.one _ _ _ _).trans (Upd.one _ _ _ _)
      have own2 := own_upd own1 u2 (fun b hb e => by have := hvb b hb; omega)
      have B2 := u2.below B1 B1.size (fun i e => by have := HB.out; omega)
      have h0 := R0''.cell (i := 0) rfl
      have h1 := R0''.cell (i := 1) rfl
      have SRC : SrcS (((wr.setCell ⟨B + 1, 1, none⟩ (.int .i64 ((n * k : Nat) : Int))).setCell ⟨B, 0, none⟩ (.slice va (n * k) vc)).setCell ⟨B, 1, none⟩ (.int .i64 ((n * k : Nat) : Int))) (.slice va (n * k) vc) 3 ((newsM k (n * k)).map ncell) := OwnS.src (B := 0) (e := 60) ⟨own2, ncell_len _⟩
      have HVN : Hid (∀ b, (Value.slice va (n * k) vc).ownBlock = some b → w.heap.size ≤ b) := Lib.hid (fun b hb => by have := hvb b hb; have := HB.out; omega)
      clear hown own1 own2 R0' R0'' R1' hR1 hR0 B1 u1 u2 hvb hz2 hz3
      have HN := Lib.hid hnn
      rw [← hnn] at q1 h1 B2 SRC h0 q0 g0 g1 f0 f1
      rw [← hnn]
      clear hnn
      go_wp2_with fail
      refine bodyPost_ret (v := .agg #[.slice va (n * k : Nat) vc, .int .i64 ((n : Int) * (k : Int))]) (by simp [results, Try.results15, go_sem, h0, h1]) rfl ?_
      exact ⟨_, rfl, SRC, B2, HVN.out⟩
end Go.Proofs.Ytnmldhagdgghoaa.Ref06
