/- The law MemCas, walked: a Cas does it just if the word is what is said. -/
import Derived.Test.YtcndppkcaplcjaaDo02
import Derived.Test.YtcndppkcaplcjaaLaw02
import Derived.Test.YtcndppkcaplcjaaWalkMemAdds
import Derived.Lib.SmallJoins
namespace Go.Proofs.Ytcndppkcaplcjaa.WalkMemCas
open Go Go.RowKit Go.Joins Go.ChangeShapes Go.WideShapes Go.Proofs.Ytcndppkcaplcjaa.Heap Go.Proofs.Ytcndppkcaplcjaa.Mem Go.Proofs.Ytcndppkcaplcjaa.Law02 Go.Proofs.Ytcndppkcaplcjaa.Open Go.Proofs.Ytcndppkcaplcjaa.WalkMemAdds

/-- A word, and what two Cas say. -/
def Four (v : Value) (x : Int × Int × Int × Int) : Prop := v = .agg #[.int .u32 x.1, .int .u32 x.2.1, .int .u32 x.2.2.1, .int .u32 x.2.2.2] ∧ (0 ≤ x.1 ∧ x.1 < 4294967296) ∧ (0 ≤ x.2.2.1 ∧ x.2.2.1 < 4294967296) ∧ (0 ≤ x.2.2.2 ∧ x.2.2.2 < 4294967296)
theorem four {H : Type} {enc : TypeId × Value → H} {w : World} {base : Nat} {spare : Nat → Bool} {held : Bool} {b0 : Nat} {v : Value} {d : DataW H} {p : List MemPlace}
    (hv : Value.okWide Try.prog w .any b0 34 v) (h : DataW.Trod enc Try.prog w base spare held 34 v d p) : ∃ x, Four v x := by
  obtain ⟨v0, v1, v2, v3, y0, y1, y2, y3, m, rfl, _, _, h0, h1, h2, h3⟩ := open_agg4 Try.underlying34 (by kernel_rfl) (by kernel_rfl) hv h
  obtain ⟨n0, e0, _, w0⟩ := DataW.trod_int Try.underlying29 h0
  obtain ⟨n1, e1, _, w1⟩ := DataW.trod_int Try.underlying29 h1
  obtain ⟨n2, e2, _, w2⟩ := DataW.trod_int Try.underlying29 h2
  obtain ⟨n3, e3, _, w3⟩ := DataW.trod_int Try.underlying29 h3
  simp at e0 e1 e2 e3
  subst e0 e1 e2 e3
  exact ⟨(n0, n1, n2, n3), rfl, wf_u32 w0, wf_u32 w2, wf_u32 w3⟩
theorem cas1 (y o : Int) : casB [y] 0 o = (y == o) := by simp [casB, Mem.get, Mem.inB]
set_option maxHeartbeats 1000000 in
theorem hit (v a b : Int) (w : World) (v0 : 0 ≤ v ∧ v < 4294967296) (a0 : 0 ≤ a ∧ a < 4294967296) (b0 : 0 ≤ b ∧ b < 4294967296) :
    Calls Try.prog 4 #[.agg #[.int .u32 v, .int .u32 v, .int .u32 a, .int .u32 b]] w fun e w' => e = .returned (.bool true) ∧ Below w.heap.size w w' := by
  go_enter Try.func4, Try.ntmps4
  go_wp2
  go_quiet (fail)
  go_wp2_with fail
  refine (newO _ _ [1] (src_one2 _ 1 _ _ (by simp [World.drewN])) (by decide) (by decide)).mono ?_
  rintro e w1 ⟨m, rfl, hO, b1⟩
  have B1 : Below w.heap.size w w1 := ((below_drewN ((Below.refl _ _).alloc (Nat.le_refl _) _) _).alloc (by simp [World.drewN]) _).trans (b1.mono (by simp [World.drewN]; omega))
  obtain ⟨S, hS, hO⟩ : ∃ S : Nat → Prop, (∀ b, S b → w.heap.size ≤ b) ∧ O w1 m S [0] [1] := ⟨_, fun b hb => Nat.le_trans (by simp [World.drewN]; omega) hb.1, hO⟩
  clear b1
  go_wp2_with fail
  refine (storeO _ _ _ _ _ hO 0 v v0.1 v0.2).mono ?_
  rintro e w2 ⟨rfl, hO2, u2⟩
  have B2 := u2.below B1 B1.size hS
  rw [put1] at hO2
  have K := casO _ _ _ _ _ hO2 0 v a a0.1 a0.2
  rw [cas1, beq_self_eq_true, if_pos rfl, put1] at K
  go_wp2_with fail
  refine K.mono ?_
  clear K
  rintro e w3 ⟨rfl, hO3, u3⟩
  have B3 := u3.below B2 B2.size hS
  have K := loadO _ _ _ _ _ hO3 0
  rw [get1] at K
  have HK := Lib.hid K
  clear K
  go_wp2_with fail
  refine HK.out.mono ?_
  rintro e w4 ⟨rfl, rfl⟩
  clear HK
  have K := casO _ _ _ _ _ hO3 0 v b b0.1 b0.2
  rw [cas1, put1] at K
  by_cases hav : a = v
  · subst hav
    rw [beq_self_eq_true, if_pos rfl] at K
    have HK := Lib.hid K
    clear K
    go_wp2_with fail
    refine HK.out.mono ?_
    rintro e w5 ⟨rfl, hO5, u5⟩
    have B5 := u5.below B3 B3.size hS
    go_wp2_with fail
    refine (awake _).mono ?_
    rintro e w6 ⟨rfl, u6⟩
    go_wp2
    go_ret
    exact ⟨rfl, B5.trans (u6.mono B5.size)⟩
  · have hav2 : (a == v) = false := by simpa using hav
    have hav3 : (a != v) = true := by simp only [bne, hav2]; rfl
    rw [hav2] at K
    have HK := Lib.hid K
    clear K
    go_wp2_with fail
    refine HK.out.mono ?_
    rintro e w5 ⟨rfl, hO5, u5⟩
    have B5 := u5.below B3 B3.size hS
    go_wp2_with fail
    refine (awake _).mono ?_
    rintro e w6 ⟨rfl, u6⟩
    go_wp2
    go_ret
    exact ⟨rfl, B5.trans (u6.mono B5.size)⟩
set_option maxHeartbeats 1000000 in
theorem miss (v o a b : Int) (w : World) (hvo : (v == o) = false) (v0 : 0 ≤ v ∧ v < 4294967296) (a0 : 0 ≤ a ∧ a < 4294967296) (b0 : 0 ≤ b ∧ b < 4294967296) :
    Calls Try.prog 4 #[.agg #[.int .u32 v, .int .u32 o, .int .u32 a, .int .u32 b]] w fun e w' => e = .returned (.bool true) ∧ Below w.heap.size w w' := by
  go_enter Try.func4, Try.ntmps4
  go_wp2
  go_quiet (fail)
  go_wp2_with fail
  refine (newO _ _ [1] (src_one2 _ 1 _ _ (by simp [World.drewN])) (by decide) (by decide)).mono ?_
  rintro e w1 ⟨m, rfl, hO, b1⟩
  have B1 : Below w.heap.size w w1 := ((below_drewN ((Below.refl _ _).alloc (Nat.le_refl _) _) _).alloc (by simp [World.drewN]) _).trans (b1.mono (by simp [World.drewN]; omega))
  obtain ⟨S, hS, hO⟩ : ∃ S : Nat → Prop, (∀ b, S b → w.heap.size ≤ b) ∧ O w1 m S [0] [1] := ⟨_, fun b hb => Nat.le_trans (by simp [World.drewN]; omega) hb.1, hO⟩
  clear b1
  go_wp2_with fail
  refine (storeO _ _ _ _ _ hO 0 v v0.1 v0.2).mono ?_
  rintro e w2 ⟨rfl, hO2, u2⟩
  have B2 := u2.below B1 B1.size hS
  rw [put1] at hO2
  have K := casO _ _ _ _ _ hO2 0 o a a0.1 a0.2
  rw [cas1, hvo, if_neg (by decide)] at K
  go_wp2_with fail
  refine K.mono ?_
  clear K
  rintro e w3 ⟨rfl, hO3, u3⟩
  have B3 := u3.below B2 B2.size hS
  have K := loadO _ _ _ _ _ hO3 0
  rw [get1] at K
  have HK := Lib.hid K
  clear K
  go_wp2_with fail
  refine HK.out.mono ?_
  rintro e w4 ⟨rfl, rfl⟩
  clear HK
  have K := casO _ _ _ _ _ hO3 0 o b b0.1 b0.2
  rw [cas1, hvo, if_neg (by decide)] at K
  have HK := Lib.hid K
  clear K
  go_wp2_with fail
  refine HK.out.mono ?_
  rintro e w5 ⟨rfl, hO5, u5⟩
  have B5 := u5.below B3 B3.size hS
  go_wp2_with fail
  refine (awake _).mono ?_
  rintro e w6 ⟨rfl, u6⟩
  go_wp2
  go_ret
  exact ⟨rfl, B5.trans (u6.mono B5.size)⟩
theorem walk (v : Value) (x : Int × Int × Int × Int) (w : World) (h : Four v x) :
    Calls Try.prog 4 #[v] w fun e w' => e = .returned (.bool true) ∧ Below w.heap.size w w' := by
  obtain ⟨rfl, h0, h2, h3⟩ := h
  obtain ⟨v, o, a, b⟩ := x
  by_cases hv : v = o
  · subst hv; exact hit v a b w h0 h2 h3
  · exact miss v o a b w (by simpa using hv) h0 h2 h3
end Go.Proofs.Ytcndppkcaplcjaa.WalkMemCas
