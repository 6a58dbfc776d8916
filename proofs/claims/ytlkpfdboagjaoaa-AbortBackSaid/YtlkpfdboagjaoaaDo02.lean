/- Layer 2 (mem): the document's access, in one contract; openers of the laws' arguments. -/
import Derived.Test.YtlkpfdboagjaoaaOps02
namespace Go.Proofs.Ytlkpfdboagjaoaa.Mem
open Go Go.RowKit Go.Proofs.Ytlkpfdboagjaoaa.Heap Go.Proofs.Ytlkpfdboagjaoaa.Open Go.Deep Go.ChangeShapes Go.WideShapes

/-- Where a slice lies: in S, if anywhere. -/
def Lies (v : Value) (S : Nat → Prop) : Prop := ∀ b, v.ownBlock = some b → S b
theorem lies_some {b o : Nat} {len cap : Nat} {S : Nat → Prop} (h : S b) : Lies (.slice (some ⟨b, o, none⟩) len cap) S := by
  intro c hc; simp [Value.ownBlock] at hc; subst hc; exact h
theorem lies_none {len cap : Nat} {S : Nat → Prop} : Lies (.slice none len cap) S := by
  intro c hc; simp [Value.ownBlock] at hc
theorem Src1.keep {w w' : World} {v : Value} {k : IntKind} {xs : List Int} {T S : Nat → Prop} (h : Src1 w v k xs) (hl : Lies v S) (hu : Upd T w w') (hd : ∀ b, S b → ¬ T b) : Src1 w' v k xs := by
  obtain ⟨a, cap, rfl, h1, h2⟩ := h
  refine ⟨a, cap, rfl, h1, fun hp => ?_⟩
  obtain ⟨b, off, rfl, hb, hc⟩ := h2 hp
  refine ⟨b, off, rfl, Nat.lt_of_lt_of_le hb hu.size, fun i hi => ?_⟩
  have e := hu.block b hb (hd b (hl b rfl))
  have := hc i hi
  simp only [World.cell?] at this ⊢
  rw [e]; exact this
theorem do_all (w : World) (v : Value) (ws : List Int) (h : Src1 w v .u32 ws) (k a o x : Int) (hl : ws.length ≤ 100000) :
    Calls Try.prog 117 #[v, .agg #[.int .i64 k, .int .i64 a, .int .u32 o, .int .u32 x]] w fun e w' => ∃ v', e = .returned (.tuple #[v', .int .u32 (step02 ws k a o x).1.1, .int .i64 (step02 ws k a o x).1.2]) ∧
      Src1 w' v' .u32 (step02 ws k a o x).2 ∧ Below w.heap.size w w' ∧ (v' = v ∨ Lies v' (fun b => w.heap.size ≤ b)) := by
  by_cases ho : inB a ws.length = false ∨ k < 1 ∨ 5 < k
  · rw [step02_out o x ho]
    exact (do_out w v ws h k a o x ho).mono fun e w' ⟨he, hb⟩ => ⟨v, he, h.below hb, hb, .inl rfl⟩
  · have hi : inB a ws.length = true := by
      cases hh : inB a ws.length with
      | true => rfl
      | false => exact absurd (.inl hh) ho
    have hk : 1 ≤ k ∧ k ≤ 5 := by omega
    rcases inB_cases a ws.length with ⟨n, rfl, hn, _⟩ | ⟨_, hh⟩
    · rcases (by omega : k = 1 ∨ k = 2 ∨ k = 3 ∨ k = 4 ∨ k = 5) with rfl | rfl | rfl | rfl | rfl
      · have e : step02 ws 1 n o x = ((ws.getD n 0, 0), ws) := by unfold step02; rw [if_pos rfl, get_in rfl hi]
        rw [e]
        exact (do_load w v ws h o x n hn).mono fun e w' ⟨he, hb⟩ => ⟨v, he, h.below hb, hb, .inl rfl⟩
      · have e : step02 ws 2 n o x = ((0, 0), ws.set n x) := by unfold step02; rw [if_neg (by decide), if_pos rfl, put_in rfl hi]
        rw [e]
        refine (do_2 w v ws h o x n hn hl).mono fun e w' ⟨g, cap, he, hr, hg, hb⟩ => ⟨_, he, ?_, hb, .inr (lies_some hg)⟩
        have := src_of_rowP (cap := cap) hr
        rwa [List.length_set] at this
      · have e : step02 ws 3 n o x = ((ws.getD n 0, 0), ws.set n x) := by unfold step02; rw [if_neg (by decide), if_neg (by decide), if_pos rfl, put_in rfl hi, get_in rfl hi]
        rw [e]
        refine (do_3 w v ws h o x n hn hl).mono fun e w' ⟨g, cap, he, hr, hg, hb⟩ => ⟨_, he, ?_, hb, .inr (lies_some hg)⟩
        have := src_of_rowP (cap := cap) hr
        rwa [List.length_set] at this
      · have ec : casB ws n o = (ws.getD n 0 == o) := by unfold casB; rw [hi, Bool.true_and, get_in rfl hi]
        cases hc : (ws.getD n 0 == o) with
        | true =>
          have e : step02 ws 4 n o x = ((0, 1), ws.set n x) := by unfold step02; rw [if_neg (by decide), if_neg (by decide), if_neg (by decide), if_pos rfl, if_pos (by rw [ec, hc]), put_in rfl hi]
          rw [e]
          refine (do_4 w v ws h o x n hn hl hc).mono fun e w' ⟨g, cap, he, hr, hg, hb⟩ => ⟨_, he, ?_, hb, .inr (lies_some hg)⟩
          have := src_of_rowP (cap := cap) hr
          rwa [List.length_set] at this
        | false =>
          have e : step02 ws 4 n o x = ((0, 0), ws) := by unfold step02; rw [if_neg (by decide), if_neg (by decide), if_neg (by decide), if_pos rfl, if_neg (by rw [ec, hc]; decide)]
          rw [e]
          exact (do_miss w v ws h o x n hn hc).mono fun e w' ⟨he, hb⟩ => ⟨v, he, h.below hb, hb, .inl rfl⟩
      · have e : step02 ws 5 n o x = ((ws.getD n 0, 0), ws.set n ((ws.getD n 0 + x) % 4294967296)) := by
          unfold step02; rw [if_neg (by decide), if_neg (by decide), if_neg (by decide), if_neg (by decide), if_pos rfl, put_in rfl hi, get_in rfl hi]
        rw [e]
        refine (do_5 w v ws h o x n hn hl).mono fun e w' ⟨g, cap, he, hr, hg, hb⟩ => ⟨_, he, ?_, hb, .inr (lies_some hg)⟩
        have := src_of_rowP (cap := cap) hr
        rwa [List.length_set] at this
    · rw [hi] at hh; exact Bool.noConfusion hh
set_option maxHeartbeats 1000000 in
theorem homes_all (w : World) (v : Value) (hs : List Int) (h : Src1 w v .i64 hs) (hl : hs.length ≤ 100000) : Calls Try.prog 13 #[v] w fun e w' => e = .returned (.bool (homesOk hs)) ∧ w = w' := by
  obtain ⟨a, cap, rfl, -, hcells⟩ := h
  have hl' : (hs.length : Int) ≤ 100000 := by omega
  go_enter Try.func13, Try.ntmps13
  go_wp2_with fail
  go_loop [7] (fun i => ∃ k : Nat, k ≤ hs.length ∧ i = .int .i64 k ∧ homesOk (hs.take k) = true) (fun i => hs.length - (intOf i).toNat)
  case atStart => exact ⟨0, Nat.zero_le _, rfl, rfl⟩
  case round =>
    obtain ⟨k, hk, rfl, hall⟩ := hrel
    by_cases hlt : k < hs.length
    · obtain ⟨b, off, rfl, hbl, hcell⟩ := hcells (by omega)
      have c0 := hcell k hlt
      obtain ⟨x, hx⟩ : ∃ x, hs.getD k 0 = x := ⟨_, rfl⟩
      have hsn : hs.take (k + 1) = hs.take k ++ [x] := by rw [← hx, getD_lt _ _ _ hlt, List.take_succ_eq_append_getElem hlt]
      have hbad : ¬ (0 ≤ x ∧ x < 8) → homesOk hs = false := by
        intro hn
        rw [Bool.eq_false_iff]; intro ht
        have := (List.all_eq_true.1 ht) x (by rw [← hx, getD_lt _ _ _ hlt]; exact List.getElem_mem hlt)
        exact hn (by simpa using this)
      rw [hx] at c0
      clear hx hcell hcells
      by_cases x0 : x < 0
      · have hb := Lib.hid (hbad (by omega))
        clear hsn hall hbad
        go_wp2_with fail
        go_ret
        exact ⟨by rw [hb.out]; rfl, rfl⟩
      by_cases x1 : 7 < x
      · have hb := Lib.hid (hbad (by omega))
        have x0' : 0 ≤ x := by omega
        clear hsn hall hbad
        go_wp2_with fail
        go_ret
        exact ⟨by rw [hb.out]; rfl, rfl⟩
      have x0' : 0 ≤ x := by omega
      have x1' : x ≤ 7 := by omega
      have hall' : homesOk (hs.take (k + 1)) = true := by
        rw [hsn]; simp only [homesOk, List.all_append, Bool.and_eq_true] at hall ⊢
        exact ⟨hall, by simp; omega⟩
      clear hsn hall hbad
      go_wp2_with fail
      go_round
      case rel => exact ⟨k + 1, by omega, by go_num, hall'⟩
      case measure => simp [intOf]; omega
    · obtain rfl : k = hs.length := by omega
      rw [List.take_length] at hall
      have hall' := Lib.hid hall
      clear hall hcells
      go_wp2_with fail
      go_ret
      exact ⟨by rw [hall'.out]; rfl, rfl⟩

section
variable {H : Type} {enc : TypeId × Value → H} {w : World} {base : Nat} {spare : Nat → Bool} {held : Bool} {b0 : Nat}
end
end Go.Proofs.Ytlkpfdboagjaoaa.Mem
