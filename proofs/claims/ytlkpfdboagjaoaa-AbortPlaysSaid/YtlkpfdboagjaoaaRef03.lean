/- The document's cache: who has a valid copy behind touches, and whether a touch is a miss, walked. -/
import Derived.Test.YtlkpfdboagjaoaaProg
import Derived.Test.YtlkpfdboagjaoaaSrcS
import Derived.Test.YtlkpfdboagjaoaaHas
import Derived.BigQuiet
import Derived.Lib.Hide
import Derived.Deep.QuietTactic
namespace Go.Proofs.Ytlkpfdboagjaoaa.Ref03
open Go Go.RowKit Go.Proofs.Ytlkpfdboagjaoaa.Heap Go.Proofs.Ytlkpfdboagjaoaa.Has

theorem cells_get (l : List T) (i : Nat) (hi : i < l.length) : (l.map T.cells).getD i [] = (l.getD i default).cells := by simp [List.getD, hi]
set_option maxHeartbeats 1000000 in
theorem has_all (w : World) (v : Value) (l : List T) (h : SrcS w v 3 (l.map T.cells)) (hl : l.length ≤ 1000000) (t a : Int) :
    Calls Try.prog 118 #[v, .int .i64 t, .int .i64 a] w fun e w' => e = .returned (.bool (has l t a)) ∧ w = w' := by
  obtain ⟨ad, cap, rfl, hc⟩ := h
  rw [List.length_map] at hc ⊢
  have hl' : (l.length : Int) ≤ 1000000 := by omega
  go_enter Try.func118, Try.ntmps118
  go_wp2_with fail
  go_loop [7] (fun i => ∃ k : Int, -1 ≤ k ∧ k < l.length ∧ i = .int .i64 k ∧ has (l.take (k + 1).toNat) t a = has l t a) (fun i => (intOf i + 1).toNat)
  case atStart =>
    refine ⟨(l.length : Int) - 1, by omega, by omega, rfl, ?_⟩
    rw [List.take_of_length_le (by omega)]
  case round =>
    obtain ⟨k, hk, hk2, rfl, hh⟩ := hrel
    by_cases hk0 : 0 ≤ k
    · obtain ⟨j, rfl⟩ := Int.eq_ofNat_of_zero_le hk0
      have hjl : j < l.length := by omega
      obtain ⟨b, off, rfl, hb, hcell⟩ := hc (by omega)
      have e1 : ((j : Int) + 1).toNat = j + 1 := by omega
      have e2 : l.take (j + 1) = l.take j ++ [l.getD j default] := by rw [List.take_succ_eq_append_getElem hjl]; simp [List.getD, hjl]
      have e3 : ((j : Int) - 1 + 1).toNat = j := by omega
      rw [e1, e2, has_snoc] at hh
      have c0 : w.cell? ⟨b, off + j * 3, none⟩ = some (.int .i64 (l.getD j default).t) := hcell j 0 (.int .i64 (l.getD j default).t) hjl (by decide) (by rw [cells_get l j hjl]; rfl)
      have c1 := hcell j 1 (.int .i64 (l.getD j default).a) hjl (by decide) (by rw [cells_get l j hjl]; rfl)
      have c2 := hcell j 2 (.bool (l.getD j default).wr) hjl (by decide) (by rw [cells_get l j hjl]; rfl)
      obtain ⟨x, hx⟩ : ∃ x, l.getD j default = x := ⟨_, rfl⟩
      rw [hx] at c0 c1 c2 hh
      obtain ⟨xt, xa, xw⟩ := x
      simp only at c0 c1 c2 hh
      have E3 := Lib.hid e3
      clear hx e1 e2 e3 hcell hc
      by_cases q1 : xa = a
      · subst q1
        rw [if_pos rfl] at hh
        by_cases q2 : xt = t
        · subst q2
          rw [if_pos rfl] at hh
          have HH := Lib.hid hh
          clear hh
          go_wp2_with fail
          go_ret
          exact ⟨by rw [← HH.out]; rfl, rfl⟩
        · have q2' : (xt == t) = false := by simpa using q2
          rw [if_neg q2] at hh
          cases xw with
          | true =>
            rw [if_pos rfl] at hh
            have HH := Lib.hid hh
            clear hh
            go_wp2_with fail
            go_ret
            exact ⟨by rw [← HH.out]; rfl, rfl⟩
          | false =>
            rw [if_neg (by decide)] at hh
            have HH := Lib.hid hh
            clear hh
            go_wp2_with fail
            go_round
            case rel => exact ⟨(j : Int) - 1, by omega, by omega, by go_num, by rw [E3.out]; exact HH.out⟩
            case measure => simp [intOf]
      · have q1' : (xa != a) = true := by simpa using q1
        rw [if_neg q1] at hh
        have HH := Lib.hid hh
        clear hh
        go_wp2_with fail
        go_round
        case rel => exact ⟨(j : Int) - 1, by omega, by omega, by go_num, by rw [E3.out]; exact HH.out⟩
        case measure => simp [intOf]
    · obtain rfl : k = -1 := by omega
      have e : ((-1 : Int) + 1).toNat = 0 := rfl
      rw [e] at hh
      have HH := Lib.hid hh
      clear hh hc
      go_wp2_with fail
      go_ret
      exact ⟨by rw [← HH.out]; rfl, rfl⟩
set_option maxHeartbeats 1000000 in
theorem miss_all (w : World) (v : Value) (l : List T) (h : SrcS w v 3 (l.map T.cells)) (hl : l.length ≤ 1000000) (t a : Int) (wr : Bool) (n : Nat) (hn : n ≤ 1000000) :
    Calls Try.prog 116 #[v, .agg #[.int .i64 t, .int .i64 a, .bool wr], .int .i64 n] w fun e w' => e = .returned (.bool (miss l ⟨t, a, wr⟩ n)) ∧ Below w.heap.size w w' := by
  have hn' : (n : Int) ≤ 1000000 := by omega
  have h1 := h.below ((Below.refl w.heap.size w).alloc (Nat.le_refl _) (.cells #[.int .i64 t, .int .i64 a, .bool wr] 183))
  have K := has_all _ v l h1 hl t a
  have A := (Below.refl w.heap.size w).alloc (Nat.le_refl _) (.cells #[.int .i64 t, .int .i64 a, .bool wr] 183)
  cases hh : has l t a with
  | false =>
    have hm : miss l ⟨t, a, wr⟩ n = true := by unfold miss; rw [hh]; rfl
    rw [hm]
    rw [hh] at K
    have HK := Lib.hid K
    clear K hh hm
    go_enter Try.func116, Try.ntmps116
    go_wp2_with fail
    refine HK.out.mono ?_
    rintro e w' ⟨rfl, rfl⟩
    go_wp2_with fail
    go_ret
    exact ⟨rfl, A⟩
  | true =>
    rw [hh] at K
    have HK := Lib.hid K
    clear K
    cases wr with
    | false =>
      have hm : miss l ⟨t, a, false⟩ n = false := by unfold miss; rw [hh]; rfl
      rw [hm]
      clear hm hh
      go_enter Try.func116, Try.ntmps116
      go_wp2_with fail
      refine HK.out.mono ?_
      rintro e w' ⟨rfl, rfl⟩
      go_wp2_with fail
      go_ret
      exact ⟨rfl, A⟩
    | true =>
      have hm : miss l ⟨t, a, true⟩ n = ((List.range n).any fun u => decide ((u : Int) ≠ t) && has l u a) := by unfold miss; rw [hh]; rfl
      rw [hm]
      obtain ⟨r, hr⟩ : ∃ r, ((List.range n).any fun u => decide ((u : Int) ≠ t) && has l u a) = r := ⟨_, rfl⟩
      rw [hr]
      have HR := Lib.hid hr
      clear hm hh hr
      go_enter Try.func116, Try.ntmps116
      go_wp2_with fail
      refine HK.out.mono ?_
      rintro e w' ⟨rfl, rfl⟩
      go_wp2_with fail
      go_loop [7] (fun i => ∃ k : Nat, k ≤ n ∧ i = .int .i64 k ∧ ((List.range k).any fun u => decide ((u : Int) ≠ t) && has l u a) = false) (fun i => n - (intOf i).toNat)
      case atStart => exact ⟨0, Nat.zero_le _, rfl, rfl⟩
      case round =>
        obtain ⟨k, hk, rfl, hany⟩ := hrel
        by_cases hlt : k < n
        · have hs : ((List.range (k + 1)).any fun u => decide ((u : Int) ≠ t) && has l u a) = (decide ((k : Int) ≠ t) && has l k a) := by
            rw [List.range_succ, List.any_append, hany, Bool.false_or]; simp
          have hfin : (decide ((k : Int) ≠ t) && has l k a) = true → r = true := by
            intro hx; rw [← HR.out, List.any_eq_true]; exact ⟨k, List.mem_range.2 hlt, hx⟩
          have K := has_all _ v l h1 hl k a
          have hlt' : (k : Int) < n := by omega
          clear hany
          by_cases q : (k : Int) = t
          · have hs2 : ((List.range (k + 1)).any fun u => decide ((u : Int) ≠ t) && has l u a) = false := by rw [hs]; simp [q]
            have HS := Lib.hid hs2
            subst q
            clear hs hs2 hfin K
            go_wp2_with fail
            go_round
            case rel => exact ⟨k + 1, by omega, by go_num, HS.out⟩
            case measure => simp [intOf]; omega
          · have q1 : ((k : Int) == t) = false := by simpa using q
            have q2 : ((k : Int) != t) = true := by simpa using q
            cases hh : has l k a with
            | true =>
              have HF := Lib.hid (hfin (by rw [hh]; simpa using q))
              rw [hh] at K
              have HK2 := Lib.hid K
              clear hs hfin K hh q
              go_wp2_with fail
              refine HK2.out.mono ?_
              rintro e w' ⟨rfl, rfl⟩
              go_wp2_with fail
              go_ret
              exact ⟨by rw [HF.out]; rfl, A⟩
            | false =>
              have hs2 : ((List.range (k + 1)).any fun u => decide ((u : Int) ≠ t) && has l u a) = false := by rw [hs, hh, Bool.and_false]
              have HS := Lib.hid hs2
              rw [hh] at K
              have HK2 := Lib.hid K
              clear hs hs2 hfin K hh q
              go_wp2_with fail
              refine HK2.out.mono ?_
              rintro e w' ⟨rfl, rfl⟩
              go_wp2_with fail
              go_round
              case rel => exact ⟨k + 1, by omega, by go_num, HS.out⟩
              case measure => simp [intOf]; omega
        · obtain rfl : k = n := by omega
          have HA := Lib.hid (HR.out.symm.trans hany)
          clear hany
          go_wp2_with fail
          go_ret
          exact ⟨by rw [HA.out]; rfl, A⟩
end Go.Proofs.Ytlkpfdboagjaoaa.Ref03
