/- The document's pool (reference of layer 6): Row, and a pool with another node, walked. -/
import Derived.Test.YtnmldhagdgghoaaLaw06c
import Derived.Test.YtnmldhagdgghoaaSrcS
import Derived.Deep.AppendLies
import Derived.Deep.RegionLaw
import Derived.Deep.CutRange
import Derived.Deep.DeepMust
namespace Go.Proofs.Ytnmldhagdgghoaa.Ref06
open Go Go.RowKit Go.Proofs.Ytnmldhagdgghoaa.Heap Go.Proofs.Ytnmldhagdgghoaa.Open Go.Proofs.Ytnmldhagdgghoaa.Sl Go.Proofs.Ytnmldhagdgghoaa.Pool Go.Proofs.Ytnmldhagdgghoaa.Law06

theorem ncell_len (L : List Nd) : ∀ x ∈ L.map ncell, x.length = 3 := by
  intro x hx
  obtain ⟨y, _, rfl⟩ := List.mem_map.1 hx
  rfl
theorem ncell_get (L : List Nd) (i : Nat) (h : i < L.length) : (L.map ncell).getD i [] = ncell (L.getD i n0) := by simp [List.getD, h]
theorem ns_open {w : World} {v : Value} {L : List Nd} (h : SrcS w v 3 (L.map ncell)) : ∃ a cap, v = .slice a L.length cap ∧ (0 < L.length → ∃ b off, a = some ⟨b, off, none⟩ ∧ b < w.heap.size ∧ ∀ i, i < L.length →
    w.cell? ⟨b, off + i * 3, none⟩ = some (.int .i64 (L.getD i n0).of) ∧ w.cell? ⟨b, off + i * 3 + 1, none⟩ = some (.int .i64 (L.getD i n0).si) ∧ w.cell? ⟨b, off + i * 3 + 2, none⟩ = some (.bool (L.getD i n0).ou)) := by
  obtain ⟨a, cap, hv, hc⟩ := h
  refine ⟨a, cap, by rw [hv, List.length_map], fun hp => ?_⟩
  obtain ⟨b, off, e, hb, hcell⟩ := hc (by rw [List.length_map]; exact hp)
  refine ⟨b, off, e, hb, fun i hi => ?_⟩
  have hi' : i < (L.map ncell).length := by rw [List.length_map]; exact hi
  exact ⟨hcell i 0 _ hi' (by decide) (by rw [ncell_get L i hi]; rfl), hcell i 1 _ hi' (by decide) (by rw [ncell_get L i hi]; rfl), hcell i 2 _ hi' (by decide) (by rw [ncell_get L i hi]; rfl)⟩
theorem ints_snoc6 (xs : List Int) (x : Int) : ints .i64 xs ++ [.int .i64 x] = ints .i64 (xs ++ [x]) := by simp [ints]
theorem refRow_len (L : List Nd) (t : Int) : ∀ m, (refRow L t m).length ≤ m * L.length
  | 0 => by simp [refRow]
  | m + 1 => by
    rw [refRow_succ, List.length_append, List.length_map, Nat.add_mul, Nat.one_mul]
    have h1 := refRow_len L t m
    have h2 := List.length_filter_le (hit L (m : Int) t) (List.range L.length)
    rw [List.length_range] at h2
    exact Nat.add_le_add h1 h2
theorem refMid_len (L : List Nd) (t : Int) (m j : Nat) (hL : L.length ≤ 1000) (hm : m ≤ 1000) (hj : j ≤ L.length) : (refMid L t m j).length ≤ 1001000 := by
  unfold refMid
  rw [List.length_append, List.length_map]
  have h1 := refRow_len L t m
  have h2 := List.length_filter_le (hit L (m : Int) t) (List.range j)
  rw [List.length_range] at h2
  have h3 : m * L.length ≤ 1000 * 1000 := Nat.mul_le_mul hm hL
  omega
set_option maxHeartbeats 4000000 in
theorem rowC (w : World) (v : Value) (L : List Nd) (C : Nat) (h : SrcS w v 3 (L.map ncell)) (hL : L.length ≤ 1000) (hC : C ≤ 1000) (t : Int) :
    Calls Try.prog 27 #[.agg #[v, .int .i64 C], .int .i64 t] w fun e w' => ∃ rv, e = .returned rv ∧ w'.ownsRow w.heap.size 3 1 rv (refRow L t C).length (ints .i64 (refRow L t C)) ∧ Below w.heap.size w w' := by
  obtain ⟨a, cap, rfl, hcell⟩ := ns_open h
  have R0 : Row (w.alloc (.cells #[.slice a L.length cap, .int .i64 C] 44)) w.heap.size [.slice a L.length cap, .int .i64 C] := Row.new' rfl
  have B0 : Below w.heap.size w (w.alloc (.cells #[.slice a L.length cap, .int .i64 C] 44)) := (Below.refl _ _).alloc (Nat.le_refl _) _
  have S0 : w.heap.size + 1 ≤ (w.alloc (.cells #[.slice a L.length cap, .int .i64 C] 44)).heap.size := by simp
  clear h
  go_enter Try.func27, Try.ntmps27
  go_wp2_with fail
  obtain ⟨B, hB⟩ : ∃ B, w.heap.size = B := ⟨_, rfl⟩
  obtain ⟨W0, hW0⟩ : ∃ W, w.alloc (.cells #[.slice a L.length cap, .int .i64 C] 44) = W := ⟨_, rfl⟩
  rw [hW0] at R0 B0 S0 ⊢
  rw [hB] at R0 S0 hcell ⊢
  have HB := Lib.hid hB
  clear hW0 hB
  go_loopw [5, 6] (fun s5 i wr => ∃ m : Nat, m ≤ C ∧ i = .int .i64 m ∧ (∃ la lc, s5 = .slice la (refRow L t m).length lc ∧ wr.ownsRow (B + 1) 3 1 (.slice la (refRow L t m).length lc) (refRow L t m).length (ints .i64 (refRow L t m))) ∧ Row wr B [.slice a L.length cap, .int .i64 C] ∧ Below w.heap.size w wr ∧ B + 1 ≤ wr.heap.size) (fun _ i _ => C - (intOf i).toNat)
  case atStart => exact ⟨0, Nat.zero_le _, rfl, ⟨none, 0, rfl, World.ownsRow_nil _ _ _ _⟩, R0, B0, S0⟩
  case round =>
    obtain ⟨m, hm, rfl, ⟨la, lc, rfl, hown⟩, hR, hBl, hS⟩ := hrel
    clear R0 B0 S0
    have r1 := hR.cell (i := 1) rfl
    by_cases hlt : m < C
    · have hlt' : (m : Int) < (C : Int) := by omega
      have hown' : wr.ownsRow (B + 1) 3 1 (.slice la (refRow L t m).length lc) (refMid L t m 0).length (ints .i64 (refMid L t m 0)) := by rw [refMid_zero]; exact hown
      go_wp2_with fail
      clear r1 hown
      go_loopw [5, 7] (fun s5 i wi => ∃ j : Nat, j ≤ L.length ∧ i = .int .i64 j ∧ (∃ la lc, s5 = .slice la (refMid L t m j).length lc ∧ wi.ownsRow (B + 1) 3 1 (.slice la (refMid L t m j).length lc) (refMid L t m j).length (ints .i64 (refMid L t m j))) ∧ Row wi B [.slice a L.length cap, .int .i64 C] ∧ Below w.heap.size w wi ∧ B + 1 ≤ wi.heap.size) (fun _ i _ => L.length - (intOf i).toNat)
      case atStart => exact ⟨0, Nat.zero_le _, rfl, ⟨la, lc, by rw [refMid_zero], by rw [refMid_zero] at hown' ⊢; exact hown'⟩, hR, hBl, hS⟩
      case round =>
        clear hown' hR hBl hS
        obtain ⟨j, hj, rfl, ⟨la, lc, rfl, hown⟩, hR, hBl, hS⟩ := hrel
        have r0 := hR.cell (i := 0) rfl
        by_cases hlj : j < L.length
        · have hlj' : (j : Int) < (L.length : Int) := by omega
          obtain ⟨b, off, rfl, hb, hc⟩ := hcell (by omega)
          obtain ⟨x0, x1, -⟩ := hc j hlj
          have hb' : b < w.heap.size := by rw [HB.out]; exact hb
          have y0 := (hBl.cell (p := ⟨b, off + j * 3, none⟩) hb').trans x0
          have y1 := (hBl.cell (p := ⟨b, off + j * 3 + 1, none⟩) hb').trans x1
          have HN := Lib.hid (refMid_next L t m j)
          have hh : hit L m t j = (decide ((L.getD j n0).si = m) && decide ((L.getD j n0).of = t) && decide (0 ≤ t)) := rfl
          have hfl := refMid_len L t m j hL (by omega) hj
          obtain ⟨si, hsi⟩ : ∃ y, (L.getD j n0).si = y := ⟨_, rfl⟩
          obtain ⟨f, hf⟩ : ∃ y, (L.getD j n0).of = y := ⟨_, rfl⟩
          rw [hsi] at y1 hh
          rw [hf] at y0 hh
          obtain ⟨F, hF⟩ : ∃ F, refMid L t m j = F := ⟨_, rfl⟩
          rw [hF] at hown HN hfl ⊢
          have HH := Lib.hid hh
          have blk : ∀ i, (Value.slice la F.length lc).ownBlock = some i → B + 1 ≤ i := fun i e => (own_lt hown e).2
          have BLK := Lib.hid blk
          clear hc x0 x1 hb' hsi hf hF hh blk
          by_cases e1 : si = m
          · subst e1
            have s1 : ((m : Int) == (m : Int)) = true := by simp
            by_cases e2 : f = t
            · subst e2
              have s2 : (f == f) = true := by simp
              by_cases e3 : 0 ≤ f
              · have E := HH.out
                rw [decide_eq_true rfl, decide_eq_true rfl, decide_eq_true e3] at E
                have HE := Lib.hid (E.trans (show (true && true && true) = true from rfl))
                clear E HH
                go_wp2_with (at_builtin; refine wpList_append_near rfl (.tmp 43) (.tmp 46) 26 rfl (B + 1) 3 (.int .i64 0) 1 8 Try.underlying26 Sl.info_i64 rfl (by decide) (.slice la F.length lc) F.length (ints .i64 F) rfl (own_upd hown ((Upd.refl (fun _ => False) _).alloc _) (fun _ _ => id)) ⟨wr.heap.size, 0, none⟩ 1 1 [.int .i64 ((j : Int) + 1)] rfl rfl (cell_new1 _ _ _) (one_cell rfl) (by unfold maxLen; omega) (by omega) (by simp; omega) ?_; intro v9 w9 hown9 hg9 near9; rw [ints_snoc6] at hown9; have u9 := Upd.grown hg9)
                have u8 := ((Upd.refl (fun i => (Value.slice la F.length lc).ownBlock = some i) wr).alloc (.cells #[.int .i64 ((j : Int) + 1)] 3)).trans u9
                go_roundw
                case rel => exact ⟨j + 1, by omega, by go_num, by obtain ⟨qa, qc, rfl⟩ := owned_len1 hown9; rw [HN.out, HE.out, if_pos rfl]; exact ⟨qa, qc, by simp, by simpa using hown9⟩, hR.upd u8 (fun e => by have := BLK.out _ e; omega), u8.below hBl (by have := HB.out; omega) (fun i e => by have := BLK.out _ e; have := HB.out; omega), by have := u8.size; omega⟩
                case measure => simp [intOf]; omega
              · have E := HH.out
                rw [decide_eq_false e3, Bool.and_false] at E
                have HE := Lib.hid E
                have s3 : decide (0 ≤ f) = false := decide_eq_false e3
                clear E HH e3
                go_wp2_with fail
                go_roundw
                case rel => exact ⟨j + 1, by omega, by go_num, by rw [HN.out, HE.out, if_neg Bool.false_ne_true, List.append_nil]; exact ⟨la, lc, rfl, hown⟩, hR, hBl, hS⟩
                case measure => simp [intOf]; omega
            · have E := HH.out
              rw [decide_eq_false e2, Bool.and_false, Bool.false_and] at E
              have HE := Lib.hid E
              have s2 : (f == t) = false := by simpa using e2
              clear E HH e2
              go_wp2_with fail
              go_roundw
              case rel => exact ⟨j + 1, by omega, by go_num, by rw [HN.out, HE.out, if_neg Bool.false_ne_true, List.append_nil]; exact ⟨la, lc, rfl, hown⟩, hR, hBl, hS⟩
              case measure => simp [intOf]; omega
          · have E := HH.out
            rw [decide_eq_false e1, Bool.false_and, Bool.false_and] at E
            have HE := Lib.hid E
            have s1 : (si == (m : Int)) = false := by simpa using e1
            clear E HH e1
            go_wp2_with fail
            go_roundw
            case rel => exact ⟨j + 1, by omega, by go_num, by rw [HN.out, HE.out, if_neg Bool.false_ne_true, List.append_nil]; exact ⟨la, lc, rfl, hown⟩, hR, hBl, hS⟩
            case measure => simp [intOf]; omega
        · obtain rfl : j = L.length := by omega
          rw [refMid_all] at hown ⊢
          go_wp2_with fail
          go_roundw
          case rel => exact ⟨m + 1, by omega, by go_num, ⟨la, lc, rfl, hown⟩, hR, hBl, hS⟩
          case measure => simp [intOf]; omega
    · obtain rfl : m = C := by omega
      go_wp2_with fail
      go_ret
      exact ⟨_, rfl, own_base1 hown (by have := HB.out; omega), hBl⟩
theorem flat_set3 (L : List Nd) (k : Nat) (hk : k < L.length) (x : Nd) : ((((L.map ncell).flatten.set (k * 3) (.int .i64 x.of)).set (k * 3 + 1) (.int .i64 x.si)).set (k * 3 + 2) (.bool x.ou)) = ((L.set k x).map ncell).flatten := by
  have hl : (L.map ncell).flatten.length = L.length * 3 := by rw [flat_len 3 _ (ncell_len L), List.length_map]
  have hl2 : ((L.set k x).map ncell).flatten.length = L.length * 3 := by rw [flat_len 3 _ (ncell_len _), List.length_map, List.length_set]
  apply List.ext_getElem?
  intro i
  rcases Nat.lt_or_ge i (L.length * 3) with h | h
  · obtain ⟨q, r, rfl, hr⟩ : ∃ q r, i = q * 3 + r ∧ r < 3 := ⟨i / 3, i % 3, by omega, by omega⟩
    have hq : q < L.length := by omega
    have g2 := flat_get 3 ((L.set k x).map ncell) (ncell_len _) q r (by simpa using hq) hr
    have g1 := flat_get 3 (L.map ncell) (ncell_len _) q r (by simpa using hq) hr
    rw [g2, ncell_get _ _ (by simpa using hq), nds_set L k hk]
    by_cases e : q = k
    · subst e
      rw [if_pos rfl]
      rcases (show r = 0 ∨ r = 1 ∨ r = 2 by omega) with rfl | rfl | rfl
      · rw [List.getElem?_set_ne (by omega), List.getElem?_set_ne (by omega), Nat.add_zero, List.getElem?_set_self (by omega)]; rfl
      · rw [List.getElem?_set_ne (by omega), List.getElem?_set_self (by rw [List.length_set]; omega)]; rfl
      · rw [List.getElem?_set_self (by rw [List.length_set, List.length_set]; omega)]; rfl
    · rw [if_neg e, List.getElem?_set_ne (by omega), List.getElem?_set_ne (by omega), List.getElem?_set_ne (by omega), g1, ncell_get _ _ hq]
  · rw [List.getElem?_eq_none (by rw [List.length_set, List.length_set, List.length_set]; omega), List.getElem?_eq_none (by omega)]
theorem srcs_rowP {w : World} {g cap : Nat} {L : List Nd} (h : RowP w g (L.map ncell).flatten) : SrcS w (.slice (some ⟨g, 0, none⟩) L.length cap) 3 (L.map ncell) := by
  refine ⟨some ⟨g, 0, none⟩, cap, by rw [List.length_map], fun _ => ⟨g, 0, rfl, h.lt, fun i j x hi hj hx => ?_⟩⟩
  rw [Nat.zero_add]
  exact h.cell (by rw [flat_get 3 _ (ncell_len L) i j hi hj]; exact hx)
theorem info_node : (Try.prog.info? 60).map (fun i => (i.zero, i.size, i.bytes)) = some (some (.agg #[.int .i64 0, .int .i64 0, .bool false]), 3, 24) := by kernel_rfl
theorem one_flat (L : List Nd) : ∀ u ∈ (L.map ncell).flatten, u.oneCell' = true := by
  intro u hu
  obtain ⟨l, hl, h2⟩ := List.mem_flatten.1 hu
  obtain ⟨y, _, rfl⟩ := List.mem_map.1 hl
  simp [ncell] at h2
  rcases h2 with rfl | rfl | rfl <;> rfl
theorem ns_read {w : World} {L : List Nd} {b off cap : Nat} (h : SrcS w (.slice (some ⟨b, off, none⟩) L.length cap) 3 (L.map ncell)) : Readable w (.slice (some ⟨b, off, none⟩) L.length cap) L.length (L.map ncell).flatten := by
  refine .inr ⟨⟨b, off, none⟩, cap, rfl, fun j u hj => ?_⟩
  have hj2 := (List.getElem?_eq_some_iff.1 hj).1
  rw [flat_len 3 _ (ncell_len L), List.length_map] at hj2
  obtain ⟨q, r, rfl, hr⟩ : ∃ q r, j = q * 3 + r ∧ r < 3 := ⟨j / 3, j % 3, by omega, by omega⟩
  rw [flat_get 3 _ (ncell_len L) q r (by rw [List.length_map]; omega) hr] at hj
  obtain ⟨a, c, hv, hc⟩ := h
  simp only [Value.slice.injEq] at hv
  obtain ⟨rfl, -, -⟩ := hv
  obtain ⟨b', off', e, _, hcell⟩ := hc (by rw [List.length_map]; omega)
  simp only [Option.some.injEq, Addr.mk.injEq] at e
  obtain ⟨rfl, rfl, -⟩ := e
  have := hcell q r u (by rw [List.length_map]; omega) hr hj
  have ea : (⟨b, off, none⟩ : Addr).add (q * 3 + r) = ⟨b, off + q * 3 + r, none⟩ := by
    unfold Addr.add
    split
    · rename_i h0; rw [show off + q * 3 + r = off by omega]
    · simp; omega
  rw [ea]; exact this
set_option maxHeartbeats 4000000 in
theorem withC (w : World) (v : Value) (L : List Nd) (C : Nat) (h : SrcS w v 3 (L.map ncell)) (hL : L.length ≤ 1000) (k : Nat) (hk : k < L.length) (x : Nd) :
    Calls Try.prog 28 #[.agg #[v, .int .i64 C], .int .i64 ((k : Int) + 1), .agg #[.int .i64 x.of, .int .i64 x.si, .bool x.ou]] w fun e w' => ∃ v', e = .returned (.agg #[v', .int .i64 C]) ∧ SrcS w' v' 3 ((L.set k x).map ncell) ∧ Below w.heap.size w w' ∧ ∀ b, v'.ownBlock = some b → w.heap.size ≤ b := by
  have hs := h
  obtain ⟨a, cap, rfl, hcell⟩ := ns_open h
  obtain ⟨b, off, rfl, hb, -⟩ := hcell (by omega)
  obtain ⟨xo, xs, xu⟩ := x
  dsimp only
  have B0 : Below w.heap.size w (((w.alloc (.cells #[.slice (some ⟨b, off, none⟩) L.length cap, .int .i64 C] 44)).alloc (.cells #[.int .i64 xo, .int .i64 xs, .bool xu] 60)).alloc (.cells #[.slice none 0 0, .int .i64 0] 44)) :=
    (((Below.refl _ _).alloc (Nat.le_refl _) _).alloc (by simp) _).alloc (by simp; omega) _
  have R0 : Row (((w.alloc (.cells #[.slice (some ⟨b, off, none⟩) L.length cap, .int .i64 C] 44)).alloc (.cells #[.int .i64 xo, .int .i64 xs, .bool xu] 60)).alloc (.cells #[.slice none 0 0, .int .i64 0] 44)) w.heap.size [.slice (some ⟨b, off, none⟩) L.length cap, .int .i64 C] := ((Row.new' rfl).alloc _).alloc _
  have R1 : Row (((w.alloc (.cells #[.slice (some ⟨b, off, none⟩) L.length cap, .int .i64 C] 44)).alloc (.cells #[.int .i64 xo, .int .i64 xs, .bool xu] 60)).alloc (.cells #[.slice none 0 0, .int .i64 0] 44)) (w.heap.size + 1) [.int .i64 xo, .int .i64 xs, .bool xu] := (Row.new' (by simp)).alloc _
  have R2 : Row (((w.alloc (.cells #[.slice (some ⟨b, off, none⟩) L.length cap, .int .i64 C] 44)).alloc (.cells #[.int .i64 xo, .int .i64 xs, .bool xu] 60)).alloc (.cells #[.slice none 0 0, .int .i64 0] 44)) (w.heap.size + 1 + 1) [.slice none 0 0, .int .i64 0] := Row.new' (by simp)
  have hs0 := hs.below B0
  clear hs hcell h
  go_enter Try.func28, Try.ntmps28
  go_upto_region 2 with (fail)
  obtain ⟨W0, hW0⟩ : ∃ W, (((w.alloc (.cells #[.slice (some ⟨b, off, none⟩) L.length cap, .int .i64 C] 44)).alloc (.cells #[.int .i64 xo, .int .i64 xs, .bool xu] 60)).alloc (.cells #[.slice none 0 0, .int .i64 0] 44)) = W := ⟨_, rfl⟩
  obtain ⟨B, hB⟩ : ∃ B, w.heap.size = B := ⟨_, rfl⟩
  rw [hW0] at B0 R0 R1 R2 hs0 ⊢
  rw [hB] at R0 R1 R2 hb ⊢
  have HB := Lib.hid hB
  clear hW0 hB
  have r0 := R0.cell (i := 0) rfl
  go_upto_region 3 with (at_builtin; refine wpList_append_src rfl (.tmp 8) (.tmp 10) 42 rfl W0.heap.size 60 (.agg #[.int .i64 0, .int .i64 0, .bool false]) 3 24 Try.underlying42 info_node rfl (by decide) (.slice none 0 0) 0 [] rfl (World.ownsRow_nil _ _ _ _) (.slice (some ⟨b, off, none⟩) L.length cap) L.length (L.map ncell).flatten rfl (ns_read hs0) (by rw [flat_len 3 _ (ncell_len L), List.length_map]) (one_flat L) (by unfold maxLen; omega) (by omega) (Nat.le_refl _) ?_; intro v1 w1 hown1 u1 near1)
  rw [Nat.zero_add, List.nil_append] at hown1
  obtain ⟨g, gc, rfl, hg, hrow⟩ := owned hown1 (by omega)
  have u1' : Upd (fun _ => False) W0 w1 := u1.mono fun _ _ e => by simp [Value.ownBlock] at e
  have R01 := R0.upd u1' id
  have R11 := R1.upd u1' id
  have R21 := R2.upd u1' id
  have B1 := u1'.below B0 B0.size (fun _ e => e.elim)
  have gB : B + 1 + 1 < g := by have := R2.lt; omega
  have hkm : k < (L.map ncell).length := by rw [List.length_map]; exact hk
  have c0 := hrow.cell (i := k * 3) (v := .int .i64 (L.getD k n0).of) (by have := flat_get 3 (L.map ncell) (ncell_len L) k 0 hkm (by decide); rw [Nat.add_zero, ncell_get L k hk] at this; exact this)
  have c1 := hrow.cell (i := k * 3 + 1) (v := .int .i64 (L.getD k n0).si) (by have := flat_get 3 (L.map ncell) (ncell_len L) k 1 hkm (by decide); rw [ncell_get L k hk] at this; exact this)
  have c2 := hrow.cell (i := k * 3 + 2) (v := .bool (L.getD k n0).ou) (by have := flat_get 3 (L.map ncell) (ncell_len L) k 2 hkm (by decide); rw [ncell_get L k hk] at this; exact this)
  have z0 := hrow.frozen (k * 3)
  have z1 := hrow.frozen (k * 3 + 1)
  have z2 := hrow.frozen (k * 3 + 2)
  have n0 := R11.cell (i := 0) rfl
  have n1 := R11.cell (i := 1) rfl
  have n2 := R11.cell (i := 2) rfl
  have hl : (L.map ncell).flatten.length = L.length * 3 := by rw [flat_len 3 _ (ncell_len L), List.length_map]
  have hk' : (k : Int) < (L.length : Int) := by omega
  have hrow2 := ((hrow.set (k * 3) (by omega) (.int .i64 xo)).set (k * 3 + 1) (by rw [List.length_set]; omega) (.int .i64 xs)).set (k * 3 + 2) (by rw [List.length_set, List.length_set]; omega) (.bool xu)
  rw [show ((((L.map ncell).flatten.set (k * 3) (.int .i64 xo)).set (k * 3 + 1) (.int .i64 xs)).set (k * 3 + 2) (.bool xu)) = ((L.set k ⟨xo, xs, xu⟩).map ncell).flatten from flat_set3 L k hk ⟨xo, xs, xu⟩] at hrow2
  have u2 : Upd (fun i => i = g) w1 (((w1.setCell ⟨g, k * 3, none⟩ (.int .i64 xo)).setCell ⟨g, k * 3 + 1, none⟩ (.int .i64 xs)).setCell ⟨g, k * 3 + 2, none⟩ (.bool xu)) := ((Upd.one _ _ _ _).trans (Upd.one _ _ _ _)).trans (Upd.one _ _ _ _)
  have R02 := R01.upd u2 (by omega)
  have R22 := R21.upd u2 (by omega)
  have B2 := u2.below B1 B1.size (fun i e => by have := HB.out; omega)
  clear r0 hs0 R0 R1 R2 B0 u1 u1' near1 hown1 hrow
  go_upto_region 4 with (fail)
  obtain ⟨W2, hW2⟩ : ∃ W, (((w1.setCell ⟨g, k * 3, none⟩ (.int .i64 xo)).setCell ⟨g, k * 3 + 1, none⟩ (.int .i64 xs)).setCell ⟨g, k * 3 + 2, none⟩ (.bool xu)) = W := ⟨_, rfl⟩
  rw [hW2] at hrow2 R02 R22 B2 ⊢
  have r1 := R02.cell (i := 1) rfl
  have s0 := R22.cell (i := 0) rfl
  have s1 := R22.cell (i := 1) rfl
  have f0 := R22.frozen 0
  have f1 := R22.frozen 1
  have u3 : Upd (fun i => i = B + 1 + 1) W2 ((W2.setCell ⟨B + 1 + 1, 0, none⟩ (.slice (some ⟨g, 0, none⟩) L.length gc)).setCell ⟨B + 1 + 1, 1, none⟩ (.int .i64 C)) := (Upd.one _ _ _ _).trans (Upd.one _ _ _ _)
  have R23 := (R22.set 0 (.slice (some ⟨g, 0, none⟩) L.length gc)).set 1 (.int .i64 C)
  have hrow3 := hrow2.upd u3 (by omega)
  have B3 := u3.below B2 B2.size (fun i e => by have := HB.out; omega)
  have q0 := R23.cell (i := 0) rfl
  have q1 := R23.cell (i := 1) rfl
  clear c0 c1 c2 z0 z1 z2 n0 n1 n2 hW2 R01 R11 R21 R22 R02 u2
  go_wp2_with fail
  refine bodyPost_ret (v := .agg #[.slice (some ⟨g, 0, none⟩) L.length gc, .int .i64 C]) (by simp [results, Try.results28, go_sem, q0, q1]) rfl ?_
  refine ⟨_, rfl, ?_, B3, fun b hb => by simp [Value.ownBlock] at hb; have := HB.out; omega⟩
  have := srcs_rowP (cap := gc) hrow3
  rw [List.length_set] at this
  exact this
end Go.Proofs.Ytnmldhagdgghoaa.Ref06
