/- The law PoolWhole, walked: each node is in one row at most; all rows, and what is nobody's, have together all nodes. -/
import Derived.Test.YtnmldhagdgghoaaLaw06b
import Derived.Test.YtnmldhagdgghoaaOps06
namespace Go.Proofs.Ytnmldhagdgghoaa.WalkPoolWhole
open Go Go.RowKit Go.Proofs.Ytnmldhagdgghoaa.Heap Go.Proofs.Ytnmldhagdgghoaa.Open Go.Proofs.Ytnmldhagdgghoaa.Sl Go.Proofs.Ytnmldhagdgghoaa.Pool Go.Proofs.Ytnmldhagdgghoaa.Law06

/-- Is a node among the rows ahead of t, or the first j of row t? -/
def seen (rows : List (List Int)) (t j : Nat) (i : Nat) : Bool := (rows.take t).any (·.contains (i : Int)) || ((rows.getD t []).take j).contains (i : Int)
def cnts (rows : List (List Int)) (t j : Nat) : List Int := (List.range 64).map fun i => if seen rows t j i = true then 1 else 0
theorem cnts_len (rows : List (List Int)) (t j : Nat) : (cnts rows t j).length = 64 := by simp [cnts]
theorem cnts_get (rows : List (List Int)) (t j i : Nat) (h : i < 64) : (cnts rows t j).getD i 0 = if seen rows t j i = true then 1 else 0 := by simp [cnts, List.getD, h]
theorem cnts_congr (rows : List (List Int)) (t j t' j' : Nat) (h : ∀ i, seen rows t j i = seen rows t' j' i) : cnts rows t j = cnts rows t' j' := by
  unfold cnts
  apply List.map_congr_left
  intro i _
  rw [h i]
theorem cnts_zero (rows : List (List Int)) : cnts rows 0 0 = List.replicate 64 0 := by
  apply List.ext_getElem
  · simp [cnts]
  · intro i h1 h2
    rw [List.getElem_replicate]
    simp [cnts, seen]
theorem cnts_next (rows : List (List Int)) (t : Nat) (ht : t < rows.length) : cnts rows t (rows.getD t []).length = cnts rows (t + 1) 0 := by
  refine cnts_congr _ _ _ _ _ fun i => ?_
  unfold seen
  rw [List.take_length, List.take_succ_eq_append_getElem ht, List.any_append, List.take_zero, getD_lt _ _ _ ht]
  simp
theorem seen_new (rows : List (List Int)) (B : Nat) (g : G rows B) (t j i : Nat) (ht : t < rows.length) (hj : j < (rows.getD t []).length) (hi : (rows.getD t []).getD j 0 = (i : Int)) : seen rows t j i = false := by
  have hmem : (i : Int) ∈ rows.getD t [] := by rw [← hi]; exact mem_getD hj
  unfold seen
  rw [Bool.or_eq_false_iff]
  refine ⟨?_, ?_⟩
  · rw [List.any_eq_false]
    intro r hr hc
    obtain ⟨u, hu, rfl⟩ := List.mem_iff_getElem.1 hr
    simp at hu
    rw [List.getElem_take] at hc
    have := g.dj u t i (by omega) ht (by rw [getD_lt _ _ _ (by omega)]; exact List.contains_iff_mem.1 hc) hmem
    omega
  · cases hb : ((rows.getD t []).take j).contains (i : Int) with
    | false => rfl
    | true =>
      have h1 := List.contains_iff_mem.1 hb
      obtain ⟨q, hq, e⟩ := List.mem_iff_getElem.1 h1
      simp at hq
      rw [List.getElem_take] at e
      rw [getD_lt _ _ _ hj] at hi
      have := (List.getElem_inj (g.nd t ht)).1 (e.trans hi.symm)
      omega
theorem cnts_set (rows : List (List Int)) (t j i : Nat) (hj : j < (rows.getD t []).length) (hi : (rows.getD t []).getD j 0 = (i : Int)) : (cnts rows t j).set i 1 = cnts rows t (j + 1) := by
  apply List.ext_getElem
  · simp [cnts]
  · intro q h1 h2
    simp [cnts] at h1 h2
    have hs : seen rows t (j + 1) q = (seen rows t j q || decide (q = i)) := by
      unfold seen
      rw [List.take_succ_eq_append_getElem hj, Bool.or_assoc]
      congr 1
      rw [getD_lt _ _ _ hj] at hi
      rw [hi]
      cases hb : ((rows.getD t []).take j).contains (q : Int) with
      | true => simp at hb ⊢; exact .inl hb
      | false =>
        by_cases e : q = i
        · subst e; simp
        · simp at hb ⊢; simp [e]; exact ⟨hb, fun z => e (by omega)⟩
    by_cases e : i = q
    · subst e; simp [cnts, hs]
    · rw [List.getElem_set_ne e]
      simp [cnts, hs, Ne.symm e]
theorem whose_in (rows : List (List Int)) (B : Nat) (g : G rows B) (t : Nat) (i : Int) (ht : t < rows.length) (hmem : i ∈ rows.getD t []) : whose rows i = t := by
  refine whose_hit rows i t (fun u hu => ?_) ht (List.contains_iff_mem.2 hmem)
  cases hb : (rows.getD u []).contains i with
  | false => rfl
  | true =>
    have := g.dj u t i (by omega) ht (List.contains_iff_mem.1 hb) hmem
    omega
theorem seen_all (rows : List (List Int)) (i : Nat) : seen rows rows.length 0 i = decide (whose rows i ≠ -1) := by
  unfold seen
  rw [List.take_length, List.take_zero]
  rcases whose_cases rows i with ⟨e, hn⟩ | ⟨k, e, hk, hc, hn⟩
  · have : rows.any (·.contains (i : Int)) = false := by
      rw [List.any_eq_false]
      intro r hr
      obtain ⟨u, hu, rfl⟩ := List.mem_iff_getElem.1 hr
      have := hn u hu
      rw [getD_lt _ _ _ hu] at this
      rw [this]; simp
    rw [this, e]; rfl
  · have : rows.any (·.contains (i : Int)) = true := List.any_eq_true.2 ⟨_, mem_getD hk, hc⟩
    rw [this, e]
    simp

set_option maxHeartbeats 2000000 in
set_option maxRecDepth 100000 in
theorem many (n k : Int) (ao : Option Addr) (len cap : Nat) (w : World) (h : 6 < n ∨ 40 < len) :
    Calls Try.prog 4 #[.int .i64 n, .int .i64 k, .slice ao len cap] w fun e w' => e = .returned (.bool true) ∧ Below w.heap.size w w' := by
  by_cases c1 : 6 < n
  · clear h
    go_enter Try.func4, Try.ntmps4
    go_wp2_with (go_at_call 12; refine (awake _).mono ?_; rintro e w5 ⟨rfl, u5⟩)
    all_goals
      go_ret
      exact ⟨rfl, by assumption⟩
  · have c2 : (40 : Int) < (len : Int) := by omega
    clear h
    go_enter Try.func4, Try.ntmps4
    go_wp2_with (go_at_call 12; refine (awake _).mono ?_; rintro e w5 ⟨rfl, u5⟩)
    all_goals
      go_ret
      exact ⟨rfl, by assumption⟩
set_option maxHeartbeats 2000000 in
set_option maxRecDepth 100000 in
theorem few (n k : Int) (ao : Option Addr) (len cap : Nat) (w : World) (h : n < 1 ∨ k < 1 ∨ 8 < k) (h1 : n ≤ 6) (h2 : len ≤ 40) :
    Calls Try.prog 4 #[.int .i64 n, .int .i64 k, .slice ao len cap] w fun e w' => e = .returned (.bool true) ∧ Below w.heap.size w w' := by
  have c2 : (len : Int) ≤ 40 := by omega
  have hno := new_no w n k (by omega)
  have HN := Lib.hid hno
  clear hno h
  go_enter Try.func4, Try.ntmps4
  go_wp2_with (first
    | (go_at_call 6; refine HN.out.mono ?_; rintro e w1 ⟨rfl, rfl⟩)
    | (go_at_call 12; refine (awake _).mono ?_; rintro e w5 ⟨rfl, u5⟩))
  all_goals
    go_ret
    exact ⟨rfl, by assumption⟩

set_option maxHeartbeats 8000000 in
set_option maxRecDepth 100000 in
theorem main (n k : Nat) (v : Value) (xs : List (List Int)) (w : World) (n1 : 1 ≤ n) (n2 : n ≤ 6) (k1 : 1 ≤ k) (k2 : k ≤ 8) (h3 : xs.length ≤ 40) (hx : I64s w v 3 xs) :
    Calls Try.prog 4 #[.int .i64 n, .int .i64 k, v] w fun e w' => e = .returned (.bool true) ∧ Below w.heap.size w w' := by
  obtain ⟨⟨ao, cap, rfl, hlc, hlm, hcells⟩, hwf⟩ := hx
  have hnk : n * k ≤ 6 * 8 := Nat.mul_le_mul n2 k2
  have c2 : (xs.length : Int) ≤ 40 := by omega
  have c3 : (n : Int) ≤ 6 := by omega
  go_enter Try.func4, Try.ntmps4
  go_wp2_with fail
  refine (new_yes _ n k n1 (by omega) k1 k2).mono ?_
  rintro e w1 ⟨p, rfl, hO, hB⟩
  have hg := newRows_G n k
  have hrl := newRows_len n k (n * k)
  go_wp2_with fail
  go_loopw [41] (fun i wr => ∃ j : Nat, j ≤ xs.length ∧ i = .int .i64 j ∧ ∃ (S : Nat → Prop) (rows : List (List Int)), rows.length = n ∧ G rows (8 + j) ∧ O wr p S rows (List.replicate (1 + n * k) false) ∧ Below w.heap.size w wr ∧ (∀ b, S b → w.heap.size ≤ b)) (fun i _ => xs.length - (intOf i).toNat)
  case atStart => exact ⟨0, Nat.zero_le _, rfl, _, _, hrl, ⟨hg.nd, hg.dj, fun t ht => Nat.le_trans (hg.le t ht) k2⟩, hO, hB, fun b hb => hb.1⟩
  case round =>
    obtain ⟨j, hj, rfl, S, rows, hrl, hg, hO, hB, hS⟩ := hrel
    by_cases hlt : j < xs.length
    · obtain ⟨b, off, rfl, hbw, hcell⟩ := hcells (by omega)
      have hy := hwf (xs.getD j []) (by rw [getD_lt _ _ _ hlt]; exact List.getElem_mem hlt)
      obtain ⟨y, hyy⟩ : ∃ y, xs.getD j [] = y := ⟨_, rfl⟩
      rw [hyy] at hy
      obtain ⟨hy3, hyw⟩ := hy
      match y, hy3 with
      | [q, t, N], _ =>
        have c0 := (hB.cell (p := ⟨b, off + j * 3, none⟩) hbw).trans (hcell j hlt 0 (.int .i64 q) (by decide) (by rw [hyy]; rfl))
        have c1 := (hB.cell (p := ⟨b, off + j * 3 + 1, none⟩) hbw).trans (hcell j hlt 1 (.int .i64 t) (by decide) (by rw [hyy]; rfl))
        have c4 := (hB.cell (p := ⟨b, off + j * 3 + 2, none⟩) hbw).trans (hcell j hlt 2 (.int .i64 N) (by decide) (by rw [hyy]; rfl))
        have hO2 := hO.alloc (.cells #[.int .i64 q, .int .i64 t, .int .i64 N] 37)
        have KG := give_all _ p S rows _ hO2 (8 + j) hg (by omega) N t
        have hg2 := hg.give (List.replicate (1 + n * k) false).length N t
        have hl2 := give_len rows (List.replicate (1 + n * k) false).length N t
        obtain ⟨gv, hgv⟩ : ∃ gv, give rows (List.replicate (1 + n * k) false).length N t = gv := ⟨_, rfl⟩
        rw [hgv] at KG hg2 hl2
        obtain ⟨er, rows2⟩ := gv
        rw [hrl] at hl2
        have HK := Lib.hid KG
        have HL2 := Lib.hid hl2
        have HB := hB.alloc hB.size (.cells #[.int .i64 q, .int .i64 t, .int .i64 N] 37)
        have hz := hB.size
        clear hyy hcell hyw KG hl2 hgv hO hrl
        go_wp2_with fail
        refine HK.out.mono ?_
        rintro e w2 ⟨rfl, S2, hO3, hu, hS2⟩
        have hB3 := hu.below HB HB.size hS
        clear hO2
        go_wp2_with fail
        go_roundw
        case rel => exact ⟨j + 1, by omega, by go_num, S2, rows2, HL2.out, hg2, hO3, hB3, fun b hb => by rcases hS2 b hb with h | h; exact hS b h; simp at h; omega⟩
        case measure => simp [intOf]; omega
    · clear hcells hwf
      have hsz1 := hO.size
      rw [hrl] at hsz1
      have HRL := Lib.hid hrl
      have hO0 := hO.alloc (.cells #[.int .i64 0, .int .i64 0, .int .i64 0, .int .i64 0, .int .i64 0, .int .i64 0, .int .i64 0, .int .i64 0, .int .i64 0, .int .i64 0, .int .i64 0, .int .i64 0, .int .i64 0, .int .i64 0, .int .i64 0, .int .i64 0, .int .i64 0, .int .i64 0, .int .i64 0, .int .i64 0, .int .i64 0, .int .i64 0, .int .i64 0, .int .i64 0, .int .i64 0, .int .i64 0, .int .i64 0, .int .i64 0, .int .i64 0, .int .i64 0, .int .i64 0, .int .i64 0, .int .i64 0, .int .i64 0, .int .i64 0, .int .i64 0, .int .i64 0, .int .i64 0, .int .i64 0, .int .i64 0, .int .i64 0, .int .i64 0, .int .i64 0, .int .i64 0, .int .i64 0, .int .i64 0, .int .i64 0, .int .i64 0, .int .i64 0, .int .i64 0, .int .i64 0, .int .i64 0, .int .i64 0, .int .i64 0, .int .i64 0, .int .i64 0, .int .i64 0, .int .i64 0, .int .i64 0, .int .i64 0, .int .i64 0, .int .i64 0, .int .i64 0, .int .i64 0] 39)
      have hrow0 : Row (wr.alloc (.cells #[.int .i64 0, .int .i64 0, .int .i64 0, .int .i64 0, .int .i64 0, .int .i64 0, .int .i64 0, .int .i64 0, .int .i64 0, .int .i64 0, .int .i64 0, .int .i64 0, .int .i64 0, .int .i64 0, .int .i64 0, .int .i64 0, .int .i64 0, .int .i64 0, .int .i64 0, .int .i64 0, .int .i64 0, .int .i64 0, .int .i64 0, .int .i64 0, .int .i64 0, .int .i64 0, .int .i64 0, .int .i64 0, .int .i64 0, .int .i64 0, .int .i64 0, .int .i64 0, .int .i64 0, .int .i64 0, .int .i64 0, .int .i64 0, .int .i64 0, .int .i64 0, .int .i64 0, .int .i64 0, .int .i64 0, .int .i64 0, .int .i64 0, .int .i64 0, .int .i64 0, .int .i64 0, .int .i64 0, .int .i64 0, .int .i64 0, .int .i64 0, .int .i64 0, .int .i64 0, .int .i64 0, .int .i64 0, .int .i64 0, .int .i64 0, .int .i64 0, .int .i64 0, .int .i64 0, .int .i64 0, .int .i64 0, .int .i64 0, .int .i64 0, .int .i64 0] 39)) wr.heap.size (ints .i64 (cnts rows 0 0)) := by rw [cnts_zero]; exact Row.new' rfl
      have hB0 := hB.alloc hB.size (.cells #[.int .i64 0, .int .i64 0, .int .i64 0, .int .i64 0, .int .i64 0, .int .i64 0, .int .i64 0, .int .i64 0, .int .i64 0, .int .i64 0, .int .i64 0, .int .i64 0, .int .i64 0, .int .i64 0, .int .i64 0, .int .i64 0, .int .i64 0, .int .i64 0, .int .i64 0, .int .i64 0, .int .i64 0, .int .i64 0, .int .i64 0, .int .i64 0, .int .i64 0, .int .i64 0, .int .i64 0, .int .i64 0, .int .i64 0, .int .i64 0, .int .i64 0, .int .i64 0, .int .i64 0, .int .i64 0, .int .i64 0, .int .i64 0, .int .i64 0, .int .i64 0, .int .i64 0, .int .i64 0, .int .i64 0, .int .i64 0, .int .i64 0, .int .i64 0, .int .i64 0, .int .i64 0, .int .i64 0, .int .i64 0, .int .i64 0, .int .i64 0, .int .i64 0, .int .i64 0, .int .i64 0, .int .i64 0, .int .i64 0, .int .i64 0, .int .i64 0, .int .i64 0, .int .i64 0, .int .i64 0, .int .i64 0, .int .i64 0, .int .i64 0, .int .i64 0] 39)
      have hz := hB.size
      have hSl := hO.lt
      obtain ⟨A, hA⟩ : ∃ A, wr.heap.size = A := ⟨_, rfl⟩
      rw [hA] at hrow0 hz hSl
      have hwA : w.heap.size ≤ A := hz
      clear hO hrl
      go_wp2_with fail
      obtain ⟨W0, hW0⟩ : ∃ W, wr.alloc (.cells #[.int .i64 0, .int .i64 0, .int .i64 0, .int .i64 0, .int .i64 0, .int .i64 0, .int .i64 0, .int .i64 0, .int .i64 0, .int .i64 0, .int .i64 0, .int .i64 0, .int .i64 0, .int .i64 0, .int .i64 0, .int .i64 0, .int .i64 0, .int .i64 0, .int .i64 0, .int .i64 0, .int .i64 0, .int .i64 0, .int .i64 0, .int .i64 0, .int .i64 0, .int .i64 0, .int .i64 0, .int .i64 0, .int .i64 0, .int .i64 0, .int .i64 0, .int .i64 0, .int .i64 0, .int .i64 0, .int .i64 0, .int .i64 0, .int .i64 0, .int .i64 0, .int .i64 0, .int .i64 0, .int .i64 0, .int .i64 0, .int .i64 0, .int .i64 0, .int .i64 0, .int .i64 0, .int .i64 0, .int .i64 0, .int .i64 0, .int .i64 0, .int .i64 0, .int .i64 0, .int .i64 0, .int .i64 0, .int .i64 0, .int .i64 0, .int .i64 0, .int .i64 0, .int .i64 0, .int .i64 0, .int .i64 0, .int .i64 0, .int .i64 0, .int .i64 0] 39) = W := ⟨_, rfl⟩
      rw [hW0] at hO0 hrow0 hB0 ⊢
      clear hW0 hA hB hz
      go_loopw [53] (fun i wi => ∃ t : Nat, t ≤ n ∧ i = .int .i64 t ∧ O wi p S rows (List.replicate (1 + n * k) false) ∧ Row wi A (ints .i64 (cnts rows t 0)) ∧ Below w.heap.size w wi) (fun i _ => n - (intOf i).toNat)
      case atStart => exact ⟨0, Nat.zero_le _, rfl, hO0, hrow0, hB0⟩
      case round =>
        obtain ⟨t, ht, rfl, hO, hrow, hB⟩ := hrel
        clear hO0 hrow0 hB0
        by_cases htn : t < n
        · have htn' : (t : Int) < (n : Int) := by omega
          have htr : t < rows.length := by rw [HRL.out]; exact htn
          have HRO := Lib.hid (show rowOf rows (t : Int) = rows.getD t [] by unfold rowOf; rw [if_pos ⟨by omega, by omega⟩]; rfl)
          have KR := row_all _ p S rows _ hO (t : Int)
          rw [HRO.out] at KR
          have HIDS := Lib.hid (hO.ids _ (mem_getD (d := []) htr)).2
          have hxl := (hO.ids _ (mem_getD (d := []) htr)).1
          have CN := Lib.hid (cnts_next rows t htr)
          have SN := Lib.hid (fun j i hj hi => seen_new rows _ hg t j i htr hj hi)
          have CS := Lib.hid (fun j i hj hi => cnts_set rows t j i hj hi)
          have WI := Lib.hid (fun i hm => whose_in rows _ hg t i htr hm)
          obtain ⟨L, hL⟩ : ∃ L, rows.getD t [] = L := ⟨_, rfl⟩
          rw [hL] at KR HIDS CN SN CS WI hxl
          have HK := Lib.hid KR
          clear KR hL HRO
          go_wp2_with fail
          refine HK.out.mono ?_
          rintro e w2 ⟨v, rfl, hown, hb2⟩
          have hO2 := hO.below hb2
          have hrow2 := hrow.below hb2 hrow.lt
          have hB2 := hB.trans (hb2.mono hB.size)
          have hown := own_base1 (B' := A + 1) hown hrow.lt
          obtain ⟨va, vc, rfl⟩ := owned_len1 hown
          clear hO hrow hB hb2
          go_wp2_with fail
          go_loopw [60] (fun i wi => ∃ j : Nat, j ≤ L.length ∧ i = .int .i64 j ∧ O wi p S rows (List.replicate (1 + n * k) false) ∧ wi.ownsRow (A + 1) 3 1 (.slice va L.length vc) L.length (ints .i64 L) ∧ Row wi A (ints .i64 (cnts rows t j)) ∧ Below w.heap.size w wi) (fun i _ => L.length - (intOf i).toNat)
          case atStart => exact ⟨0, Nat.zero_le _, rfl, hO2, hown, hrow2, hB2⟩
          case round =>
            obtain ⟨j, hj, rfl, hO, hown, hrow, hB⟩ := hrel
            clear hO2 hrow2 hB2
            by_cases hjl : j < L.length
            · obtain ⟨g, cap', hv, hgA, hr⟩ := owned hown (by omega)
              simp only [Value.slice.injEq] at hv
              obtain ⟨rfl, -, -⟩ := hv
              have c1 := hr.cell (ints_get (k := .i64) (i := j) (xs := L) hjl)
              have hid := HIDS.out _ (mem_getD (d := 0) hjl)
              have hwi := WI.out _ (mem_getD (d := 0) hjl)
              have hsn := SN.out j
              have hcs := CS.out j
              obtain ⟨y, hy⟩ : ∃ y, L.getD j 0 = y := ⟨_, rfl⟩
              rw [hy] at c1 hid hwi hsn hcs
              obtain ⟨i, rfl⟩ := Int.eq_ofNat_of_zero_le (show 0 ≤ y by omega)
              have hs1 := hsn i hjl rfl
              have hs2 := hcs i hjl rfl
              have hi1 : (1 : Int) ≤ (i : Int) := hid.1
              have hi2 : i < 64 := by have := hid.2; simp at this; omega
              have hi3 : (i : Int) ≤ 63 := by omega
              have c5 := hrow.cell (ints_get (k := .i64) (i := i) (xs := cnts rows t j) (by rw [cnts_len]; exact hi2))
              rw [cnts_get _ _ _ _ hi2, hs1] at c5
              simp only [Bool.false_eq_true, if_false] at c5
              have KO := of_all _ _ _ _ _ hO (i : Int)
              rw [hwi] at KO
              have HKO := Lib.hid KO
              have HS2 := Lib.hid hs2
              have hjl' : (j : Int) < (L.length : Int) := by omega
              clear hy hs1 hs2 hsn hcs hwi KO hid
              go_wp2_with fail
              refine HKO.out.mono ?_
              rintro e w3 ⟨rfl, hb3⟩
              have hO3 := hO.below hb3
              have hrow3 := hrow.below hb3 hrow.lt
              have hown3 := own_upd hown (Upd.of_below (S := fun _ => False) hb3) (fun _ _ => id)
              have hB3 := hB.trans (hb3.mono hB.size)
              have c6 := (hb3.cell (p := ⟨A, i, none⟩) hrow.lt).trans c5
              have f6 := hrow3.frozen i
              clear hO hrow hown hB hb3 c5
              go_wp2_with fail
              go_roundw
              case rel =>
                have up := Upd.one w3 A i (.int .i64 1)
                exact ⟨j + 1, by omega, by go_num, hO3.keep up (fun b hb e => by have := hSl b hb; omega), own_upd hown3 up (fun b hb e => by simp [Value.ownBlock] at hb; omega), by rw [← HS2.out, ints_set]; exact hrow3.set _ _, up.below hB3 hB3.size (by omega)⟩
              case measure => simp [intOf]; omega
            · obtain rfl : j = L.length := by omega
              rw [CN.out] at hrow
              go_wp2_with fail
              go_roundw
              case rel => exact ⟨t + 1, by omega, by go_num, hO, hrow, hB⟩
              case measure => simp [intOf]; omega
        · obtain rfl : t = n := by omega
          have SA := Lib.hid (fun i => seen_all rows i)
          rw [← HRL.out] at hrow
          have KL := fun w (hO : O w p S rows (List.replicate (1 + t * k) false)) => len_all w p S rows _ hO
          rw [List.length_replicate, show ((1 + t * k : Nat) : Int) - 1 = (t : Int) * (k : Int) by rw [← Int.natCast_mul]; omega] at KL
          have HLEN := Lib.hid KL
          have hz3 : (t : Int) * (k : Int) ≤ 63 := by rw [← Int.natCast_mul]; omega
          have hz2 : (0 : Int) ≤ (t : Int) * (k : Int) := by rw [← Int.natCast_mul]; omega
          clear KL
          go_wp2_with fail
          go_loopw [15] (fun i wi => ∃ m : Nat, 1 ≤ m ∧ m ≤ t * k + 1 ∧ i = .int .i64 m ∧ O wi p S rows (List.replicate (1 + t * k) false) ∧ Row wi A (ints .i64 (cnts rows rows.length 0)) ∧ Below w.heap.size w wi) (fun i _ => t * k + 1 - (intOf i).toNat)
          case atStart => exact ⟨1, Nat.le_refl _, by omega, rfl, hO, hrow, hB⟩
          case round =>
            obtain ⟨m, hm1, hm2, rfl, hO, hrow, hB⟩ := hrel
            have KLEN := HLEN.out _ hO
            have HK2 := Lib.hid KLEN
            clear KLEN
            by_cases hmt : m < t * k + 1
            · have hm3 : (m : Int) ≤ (t : Int) * (k : Int) := by rw [← Int.natCast_mul]; omega
              have hm4 : (m : Int) < 64 := by omega
              have c5 := hrow.cell (ints_get (k := .i64) (i := m) (xs := cnts rows rows.length 0) (by rw [cnts_len]; omega))
              rw [cnts_get _ _ _ _ (by omega), SA.out] at c5
              obtain ⟨y, hy⟩ : ∃ y, whose rows (m : Int) = y := ⟨_, rfl⟩
              rw [hy] at c5
              have KO := fun r => of_all _ _ _ _ _ (hO.drewN r) (m : Int)
              simp only [hy] at KO
              have HKO := Lib.hid KO
              have hout : ∀ (wq : World), wr.heap.size ≤ wq.heap.size → O wq p S rows (List.replicate (1 + t * k) false) → Row wq A (ints .i64 (cnts rows rows.length 0)) → Below w.heap.size w wq → ∃ m' : Nat, 1 ≤ m' ∧ m' ≤ t * k + 1 ∧ (Value.int .i64 ((m : Int) + 1)) = .int .i64 m' ∧ O wq p S rows (List.replicate (1 + t * k) false) ∧ Row wq A (ints .i64 (cnts rows rows.length 0)) ∧ Below w.heap.size w wq :=
                fun wq _ h1 h2 h3 => ⟨m + 1, by omega, by omega, by go_num, h1, h2, h3⟩
              have HOUT := Lib.hid hout
              clear hy KO hout
              by_cases e : y = -1
              · subst e
                simp only [ne_eq, not_true, decide_false, Bool.false_eq_true, if_false] at c5
                go_wp2_with fail
                refine HK2.out.mono ?_
                rintro e w3 ⟨rfl, rfl⟩
                go_wp2_with fail
                go_region_held3 (fun w' => w'.cell? ⟨A, m, none⟩ = some (.int .i64 0)) ((first | exact c5 | exact c7))
                  ((first | (go_at_call 8; refine (HKO.out 1).mono ?_; rintro e w6 ⟨rfl, hb6⟩; have c7 := (hb6.cell (p := ⟨A, m, none⟩) hrow.lt).trans c5)))
                go_wp2_with fail
                go_roundw
                case rel => exact HOUT.out _ hb6.size (((hO.drewN 1)).below hb6) ((hrow.drewN 1).below hb6 hrow.lt) ((below_drewN hB 1).trans (hb6.mono hB.size))
                case measure => simp [intOf]; omega
              · have e2 : (y == -1) = false := by simpa using e
                simp only [ne_eq, e, not_false_eq_true, decide_true, if_true] at c5
                clear e
                go_wp2_with fail
                refine HK2.out.mono ?_
                rintro e w3 ⟨rfl, rfl⟩
                go_wp2_with fail
                go_region_held3 (fun w' => w'.cell? ⟨A, m, none⟩ = some (.int .i64 1)) ((first | exact c5 | exact c7))
                  ((first | (go_at_call 8; refine (HKO.out 1).mono ?_; rintro e w6 ⟨rfl, hb6⟩; have c7 := (hb6.cell (p := ⟨A, m, none⟩) hrow.lt).trans c5)))
                go_wp2_with fail
                go_roundw
                case rel => exact HOUT.out _ hb6.size (((hO.drewN 1)).below hb6) ((hrow.drewN 1).below hb6 hrow.lt) ((below_drewN hB 1).trans (hb6.mono hB.size))
                case measure => simp [intOf]; omega
            · obtain rfl : m = t * k + 1 := by omega
              have hm3 : ¬ ((t * k + 1 : Nat) : Int) ≤ (t : Int) * (k : Int) := by rw [← Int.natCast_mul]; omega
              go_wp2_with (first
                | (go_at_call 11; refine HK2.out.mono ?_; rintro e w3 ⟨rfl, rfl⟩)
                | (go_at_call 12; refine (awake _).mono ?_; rintro e w5 ⟨rfl, u5⟩))
              all_goals
                go_ret
                exact ⟨rfl, hB.trans ((by assumption : Below _ _ _).mono hB.size)⟩
theorem walk (n k : Int) (v : Value) (xs : List (List Int)) (w : World) (hx : I64s w v 3 xs) :
    Calls Try.prog 4 #[.int .i64 n, .int .i64 k, v] w fun e w' => e = .returned (.bool true) ∧ Below w.heap.size w w' := by
  obtain ⟨ao, cap, rfl, _, _, _⟩ := id hx.1
  by_cases c : 6 < n ∨ 40 < xs.length
  · exact many n k ao xs.length cap w c
  · by_cases c2 : n < 1 ∨ k < 1 ∨ 8 < k
    · exact few n k ao xs.length cap w c2 (by omega) (by omega)
    · obtain ⟨m, rfl⟩ := Int.eq_ofNat_of_zero_le (show 0 ≤ n by omega)
      obtain ⟨q, rfl⟩ := Int.eq_ofNat_of_zero_le (show 0 ≤ k by omega)
      exact main m q _ xs w (by omega) (by omega) (by omega) (by omega) (by omega) hx
end Go.Proofs.Ytnmldhagdgghoaa.WalkPoolWhole
