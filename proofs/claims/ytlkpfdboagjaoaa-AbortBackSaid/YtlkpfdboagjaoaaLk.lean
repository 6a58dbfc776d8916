/- What all locks' New and all laws ask: may homes be, are calls few? -/
import Derived.Test.YtlkpfdboagjaoaaMach
import Derived.Test.YtlkpfdboagjaoaaDo02
import Derived.Test.YtlkpfdboagjaoaaPlanO
import Derived.Deep.CutRange
import Derived.Deep.CutBlock
namespace Go.Proofs.Ytlkpfdboagjaoaa.Lk
open Go Go.RowKit Go.Proofs.Ytlkpfdboagjaoaa.Heap Go.Proofs.Ytlkpfdboagjaoaa.Open

theorem ret_bool {a b : Bool} (h : a = b) : Ending.returned (.bool a) = .returned (.bool b) := by rw [h]
theorem ret_int {k : IntKind} {a b : Int} (h : a = b) : Ending.returned (.int k a) = .returned (.int k b) := by rw [h]
def bad (h : Int) : Bool := decide (h < 0) || decide (8 ≤ h)
/-- The first home that may not be; -1: there is none. -/
def badIdx : List Int → Int
  | [] => -1
  | h :: r => if bad h = true then 0 else if badIdx r < 0 then -1 else badIdx r + 1
def NoneBad (hs : List Int) (k : Nat) : Prop := ∀ j, j < k → bad (hs.getD j 0) = false
theorem NoneBad.zero (hs : List Int) : NoneBad hs 0 := fun _ h => absurd h (Nat.not_lt_zero _)
theorem NoneBad.next {hs : List Int} {k : Nat} (h : NoneBad hs k) (hk : bad (hs.getD k 0) = false) : NoneBad hs (k + 1) := fun j hj => by
  by_cases e : j = k
  · subst e; exact hk
  · exact h j (by omega)
theorem badIdx_hit : ∀ (hs : List Int) (k : Nat), NoneBad hs k → k < hs.length → bad (hs.getD k 0) = true → badIdx hs = k
  | [], _, _, h, _ => by simp at h
  | h :: r, 0, _, _, hb => by
    have hb : bad h = true := hb
    unfold badIdx; rw [if_pos hb]; rfl
  | h :: r, k + 1, hn, hk, hb => by
    have h0 : bad h = false := hn 0 (by omega)
    have := badIdx_hit r k (fun j hj => hn (j + 1) (by omega)) (by simpa using hk) hb
    unfold badIdx
    rw [if_neg (by rw [h0]; simp), this, if_neg (by omega)]; omega
theorem badIdx_miss : ∀ (hs : List Int), NoneBad hs hs.length → badIdx hs = -1
  | [], _ => rfl
  | h :: r, hn => by
    have h0 : bad h = false := hn 0 (by simp)
    have := badIdx_miss r (fun j hj => hn (j + 1) (by simpa using hj))
    unfold badIdx
    rw [if_neg (by rw [h0]; simp), this, if_pos (by omega)]
theorem badIdx_iff (hs : List Int) : decide (0 ≤ badIdx hs) = !Mem.homesOk hs := by
  induction hs with
  | nil => rfl
  | cons h r ih =>
    unfold badIdx
    by_cases hb : bad h = true
    · rw [if_pos hb]
      have : Mem.homesOk (h :: r) = false := by
        unfold Mem.homesOk
        rw [List.all_cons, Bool.and_eq_false_iff]
        left
        unfold bad at hb
        simp at hb ⊢
        omega
      rw [this]; rfl
    · rw [if_neg hb]
      have e : Mem.homesOk (h :: r) = Mem.homesOk r := by
        unfold Mem.homesOk
        rw [List.all_cons]
        have : (decide (0 ≤ h) && decide (h < 8)) = true := by
          unfold bad at hb
          simp at hb ⊢
          omega
        rw [this, Bool.true_and]
      rw [e, ← ih]
      split
      · simp; omega
      · simp; omega
theorem bad1 (w : World) (h : Int) : Calls Try.prog 33 #[.int .i64 h] w fun e w' => e = .returned (.bool (bad h)) ∧ w = w' := by
  go_enter Try.func33, Try.ntmps33
  go_wp2
  all_goals
    go_ret
    exact ⟨ret_bool (by simp [bad, *] <;> omega), rfl⟩
theorem bad_index (w : World) (v : Value) (hs : List Int) (h : Src1 w v .i64 hs) (hl : hs.length ≤ 1000000) :
    Calls Try.prog 52 #[v, .func (.func 33) #[] #[]] w fun e w' => e = .returned (.int .i64 (badIdx hs)) ∧ w = w' := by
  obtain ⟨a, cap, rfl, hn, hc⟩ := h
  go_enter Try.func52, Try.ntmps52
  go_wp2
  go_loop [8] (fun i => ∃ k : Nat, k ≤ hs.length ∧ i = .int .i64 k ∧ NoneBad hs k) (fun i => hs.length - (intOf i).toNat)
  case atStart => exact ⟨0, Nat.zero_le _, rfl, NoneBad.zero _⟩
  case round =>
    obtain ⟨k, hk, rfl, hB⟩ := hrel
    have HB := Lib.hid hB
    clear hB
    by_cases hlt : k < hs.length
    · obtain ⟨b', off, rfl, hb', hcell⟩ := hc (by omega)
      have c0 := hcell k hlt
      obtain ⟨y, hy⟩ : ∃ y, hs.getD k 0 = y := ⟨_, rfl⟩
      rw [hy] at c0
      clear hcell hn
      have KG := bad1 w y
      cases e : bad y with
      | true =>
        have HI := Lib.hid (badIdx_hit hs k HB.out hlt (by rw [hy, e]))
        rw [e] at KG
        have HG := Lib.hid KG
        clear hy e KG
        go_wp2_with (go_at_call 33; refine HG.out.mono ?_; rintro e w' ⟨rfl, rfl⟩)
        go_ret
        exact ⟨ret_int (by rw [HI.out]), rfl⟩
      | false =>
        have HI := Lib.hid (HB.out.next (by rw [hy]; exact e))
        rw [e] at KG
        have HG := Lib.hid KG
        clear hy e KG
        go_wp2_with (go_at_call 33; refine HG.out.mono ?_; rintro e w' ⟨rfl, rfl⟩)
        go_round
        case rel => exact ⟨k + 1, by omega, by go_num, HI.out⟩
        case measure => simp [intOf]; omega
    · obtain rfl : k = hs.length := by omega
      clear hc hn
      go_wp2
      go_ret
      exact ⟨ret_int (by rw [badIdx_miss hs HB.out]), rfl⟩
theorem badC (w : World) (v : Value) (hs : List Int) (h : Src1 w v .i64 hs) (hl : hs.length ≤ 1000000) :
    Calls Try.prog 32 #[v, .func (.func 33) #[] #[]] w fun e w' => e = .returned (.bool (!Mem.homesOk hs)) ∧ w = w' := by
  have HI := Lib.hid (badIdx_iff hs)
  have KB := bad_index w v hs h hl
  obtain ⟨y, hy⟩ : ∃ y, badIdx hs = y := ⟨_, rfl⟩
  rw [hy] at HI KB
  have HK := Lib.hid KB
  clear hy KB
  go_enter Try.func32, Try.ntmps32
  go_wp2_with (go_at_call 52; refine HK.out.mono ?_; rintro e w' ⟨rfl, rfl⟩)
  go_ret
  exact ⟨ret_bool (by rw [← HI.out]), rfl⟩
def fineB (hs : List Int) (n : Nat) : Bool := decide (1 ≤ hs.length ∧ hs.length ≤ 8) && Mem.homesOk hs && decide (n ≤ 150)
theorem fine (w : World) (v : Value) (hs : List Int) (h : Src1 w v .i64 hs) (ao : Option Addr) (n cap : Nat) :
    Calls Try.prog 16 #[v, .slice ao n cap] w fun e w' => e = .returned (.bool (fineB hs n)) ∧ w = w' := by
  have KH := fun hl : hs.length ≤ 100000 => Mem.homes_all w v hs h hl
  obtain ⟨a, c, rfl, -, -⟩ := h
  by_cases c1 : 1 ≤ hs.length
  · have d1 : (1 : Int) ≤ (hs.length : Int) := by omega
    by_cases c2 : hs.length ≤ 8
    · have d2 : (hs.length : Int) ≤ 8 := by omega
      have KH := KH (by omega)
      cases hb : Mem.homesOk hs with
      | true =>
        rw [hb] at KH
        have HK := Lib.hid KH
        by_cases c3 : n ≤ 150
        · have d3 : (n : Int) ≤ 150 := by omega
          have E := Lib.hid (show fineB hs n = true by simp [fineB, c1, c2, hb, c3])
          clear KH hb c1 c2 c3
          go_enter Try.func16, Try.ntmps16
          go_wp2_with (go_at_call 13; refine HK.out.mono ?_; rintro e w' ⟨rfl, rfl⟩)
          go_ret
          exact ⟨ret_bool (by rw [E.out]), rfl⟩
        · have d3 : (150 : Int) < (n : Int) := by omega
          have d4 : decide ((n : Int) ≤ 150) = false := by simp; omega
          have E := Lib.hid (show fineB hs n = false by simp [fineB]; omega)
          clear KH hb c1 c2 c3
          go_enter Try.func16, Try.ntmps16
          go_wp2_with (go_at_call 13; refine HK.out.mono ?_; rintro e w' ⟨rfl, rfl⟩)
          go_ret
          exact ⟨ret_bool (by rw [E.out]), rfl⟩
      | false =>
        rw [hb] at KH
        have HK := Lib.hid KH
        have E := Lib.hid (show fineB hs n = false by simp [fineB, hb])
        clear KH hb c1 c2
        go_enter Try.func16, Try.ntmps16
        go_wp2_with (go_at_call 13; refine HK.out.mono ?_; rintro e w' ⟨rfl, rfl⟩)
        go_ret
        exact ⟨ret_bool (by rw [E.out]), rfl⟩
    · have d2 : (8 : Int) < (hs.length : Int) := by omega
      have E := Lib.hid (show fineB hs n = false by simp [fineB, c2])
      clear KH c1 c2
      go_enter Try.func16, Try.ntmps16
      go_wp2_with fail
      go_ret
      exact ⟨ret_bool (by rw [E.out]), rfl⟩
  · have d1 : (hs.length : Int) < 1 := by omega
    have E := Lib.hid (show fineB hs n = false by simp [fineB]; omega)
    clear KH c1
    go_enter Try.func16, Try.ntmps16
    go_wp2_with fail
    go_ret
    exact ⟨ret_bool (by rw [E.out]), rfl⟩
theorem fineB_true {hs : List Int} {n : Nat} (h : fineB hs n = true) : 1 ≤ hs.length ∧ hs.length ≤ 8 ∧ Mem.homesOk hs = true ∧ n ≤ 150 := by
  simp [fineB] at h; exact ⟨h.1.1.1, h.1.1.2, h.1.2, h.2⟩
end Go.Proofs.Ytlkpfdboagjaoaa.Lk
