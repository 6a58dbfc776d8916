/- The law AbortPlays, walked. -/
import Derived.Test.YtlkpfdboagjaoaaPlays
import Derived.Test.YtlkpfdboagjaoaaRef14c
import Derived.Test.YtlkpfdboagjaoaaOps10
namespace Go.Proofs.Ytlkpfdboagjaoaa.WalkAbortPlays
open Go Go.RowKit Go.Proofs.Ytlkpfdboagjaoaa.Heap Go.Proofs.Ytlkpfdboagjaoaa.Open Go.Proofs.Ytlkpfdboagjaoaa.Seat Go.Proofs.Ytlkpfdboagjaoaa.Mach Go.Proofs.Ytlkpfdboagjaoaa.Has Go.Proofs.Ytlkpfdboagjaoaa.Lk Go.Proofs.Ytlkpfdboagjaoaa.StepU Go.Proofs.Ytlkpfdboagjaoaa.Abort Go.Proofs.Ytlkpfdboagjaoaa.Law14 Go.Proofs.Ytlkpfdboagjaoaa.Plays Go.Proofs.Ytlkpfdboagjaoaa.Modl

theorem port_len {w : World} {p k : Nat} {S : Nat → Prop} {ws hs : List Int} {l : List T} (h : Port.O w p S k ws hs l) : ws.length = hs.length := by
  obtain ⟨⟨m, c, cb, S1, S2, hp⟩, _⟩ := h
  obtain ⟨⟨wb, hv, ha, _⟩, _⟩ := hp.mem
  exact ha.len.symm
theorem acc_after (k n : Nat) (l : List T) (t a : Int) (wr : Bool) (u : Int) : acc (Cache.after k n l t a wr) u ≤ acc l u + 1 := by
  rw [Same04.after_def]
  split
  · rw [acc_snoc]; split <;> omega
  · omega
theorem acc_step (k : Nat) (tl : Int) (c : Nat) (st : St) (t a now : Int) : acc (Abort.step k tl c st t a now).2.ts t ≤ acc st.ts t + 1 := by
  show acc (midS k tl c st t a now).2.ts t ≤ _
  unfold midS
  split
  · obtain ⟨⟨d, st'⟩, e⟩ : ∃ r, lockS k tl c st t.toNat a (lateB st.seats t now) = r := ⟨_, rfl⟩
    rw [e]
    unfold lockS at e
    dsimp only at e
    (repeat' split at e) <;> cases e <;> exact acc_after _ _ _ _ _ _ _
  · split
    · obtain ⟨⟨d, st'⟩, e⟩ : ∃ r, unlS k tl st t.toNat a = r := ⟨_, rfl⟩
      rw [e]
      unfold unlS at e
      dsimp only at e
      (repeat' split at e) <;> cases e <;> first | exact acc_after _ _ _ _ _ _ _ | exact Nat.le_succ _
    · exact Nat.le_succ _
theorem info_u32 : (Try.prog.info? 27).map (fun i => (i.zero, i.size, i.bytes)) = some (some (.int .u32 0), 1, 4) := by kernel_rfl
theorem src_made (w : World) (m : Nat) : Src1 (w.alloc (.cells (zeros m (.int .u32 0)) 27)) (.slice (some ⟨w.heap.size, 0, none⟩) m m) .u32 (List.replicate m 0) :=
  ⟨some ⟨w.heap.size, 0, none⟩, m, (by rw [List.length_replicate]), fun e => (by cases e), fun _ => ⟨w.heap.size, 0, rfl, by simp, fun i hi => (by
    rw [Nat.zero_add]
    refine (Row.ofZeros (w := w) (T := 27) (n := m) (z := .int .u32 0) rfl).cell ?_
    rw [List.length_replicate] at hi
    rw [List.getElem?_replicate_of_lt hi, List.getD, List.getElem?_replicate_of_lt hi]; rfl)⟩⟩
theorem wz_eq (c n : Nat) : wz c n = List.replicate (1 + n * (3 * c)) 0 := by
  unfold wz; rw [Nat.add_comm, List.replicate_succ]; rfl
set_option maxHeartbeats 8000000 in
set_option maxRecDepth 20000 in
theorem walk (v : Value) (hs : List Int) (n : Int) (v2 : Value) (xs : List (List Int)) (w : World) (h0 : Src1 w v .i64 hs) (h2 : I64s w v2 4 xs) :
    Calls Try.prog 8 #[v, .int .i64 n, v2] w fun e w' => e = .returned (.bool true) ∧ Below w.heap.size w w' := by
  have h2k := h2
  obtain ⟨⟨ao, ocap, rfl, hlc, -, -⟩, -⟩ := h2
  have KF := fine w v hs h0 ao xs.length ocap
  by_cases hbad : fineB hs xs.length = false ∨ n < 1 ∨ 8 < n
  · obtain ⟨a, cv, rfl, -, -⟩ := h0
    clear h2k
    cases hf : fineB hs xs.length with
    | false =>
      rw [hf] at KF
      have HF := Lib.hid KF
      clear KF hf hbad
      go_enter Try.func8, Try.ntmps8
      go_wp2_with fail
      refine HF.out.mono ?_
      rintro e w' ⟨rfl, rfl⟩
      go_wp2_with fail
      refine (awake _).mono ?_
      rintro e w4 ⟨rfl, u4⟩
      go_wp2_with fail
      go_ret
      exact ⟨rfl, u4⟩
    | true =>
      rw [hf] at KF hbad
      have HF := Lib.hid KF
      by_cases e1 : n < 1
      · clear KF hf hbad
        go_enter Try.func8, Try.ntmps8
        go_wp2_with fail
        refine HF.out.mono ?_
        rintro e w' ⟨rfl, rfl⟩
        go_wp2_with fail
        refine (awake _).mono ?_
        rintro e w4 ⟨rfl, u4⟩
        go_wp2_with fail
        go_ret
        exact ⟨rfl, u4⟩
      · have e1' : decide (n < 1) = false := by simpa using e1
        have e2 : 8 < n := by rcases hbad with h | h | h; exact absurd h (by decide); exact absurd h e1; exact h
        clear KF hf hbad
        go_enter Try.func8, Try.ntmps8
        go_wp2_with fail
        refine HF.out.mono ?_
        rintro e w' ⟨rfl, rfl⟩
        go_wp2_with fail
        refine (awake _).mono ?_
        rintro e w4 ⟨rfl, u4⟩
        go_wp2_with fail
        go_ret
        exact ⟨rfl, u4⟩
  · have hf : fineB hs xs.length = true := by cases h : fineB hs xs.length with | true => rfl | false => exact absurd (.inl h) hbad
    rw [hf] at KF
    obtain ⟨n1, n8, hok, hl⟩ := fineB_true hf
    have d1 : 1 ≤ n := by omega
    have d2 : n ≤ 8 := by omega
    obtain ⟨c, rfl⟩ : ∃ c : Nat, (c : Int) = n := ⟨n.toNat, by omega⟩
    have hc1 : 1 ≤ c := by omega
    have hc8 : c ≤ 8 := by omega
    have HF := Lib.hid KF
    have HOPS := Lib.hid h2k
    have HSRC := Lib.hid h0
    have HMD := Lib.hid (madeC w v hs c h0 n1 (by omega) hok hc1 hc8)
    clear KF hf h2k hbad
    obtain ⟨a, cv, rfl, -, hcell⟩ := h0
    obtain ⟨hb, off, rfl, hbw, hcell⟩ := hcell (by omega)
    clear hcell
    go_enter Try.func8, Try.ntmps8
    go_wp2_with fail
    refine HF.out.mono ?_
    rintro e w' ⟨rfl, rfl⟩
    go_wp2_with fail
    refine HMD.out.mono ?_
    rintro e w3 ⟨l, s, lb, pb, cap', q, SQ, p, SP, rfl, hM⟩
    have ho := hM.obj
    have hft := hM.ge
    have hB4 := hM.bel
    have hl3 : ∀ i, ft l s lb pb SP SQ i → i < w3.heap.size := ho.lt
    have hz4 := hB4.size
    go_wp2_with fail
    refine (Ref14.homesR _ _ hs (HSRC.out.below hB4) n1 (by omega) hc1 hc8).mono ?_
    rintro e w4 ⟨v4, rfl, hsrc4, hB5⟩
    obtain ⟨a4, c4, rfl, -, hcell4⟩ := hsrc4
    obtain ⟨g4, o4, rfl, hg4, hcell4⟩ := hcell4 (by simp [hh])
    have hpo4 := ho.port.below hB5
    obtain ⟨mm, S1, q0, hm, -⟩ := hpo4.step
    obtain ⟨m, hmm⟩ : ∃ m, (hh c hs).length = m := ⟨_, rfl⟩
    have hnc : hs.length * (3 * c) ≤ 8 * 24 := Nat.mul_le_mul n8 (by omega)
    have hm2 : m = 1 + hs.length * (3 * c) := by rw [← hmm]; unfold hh; rw [List.length_append, nodeH_len]; rfl
    have HC4 := Lib.hid (fun (j : Nat) (hj : j < m) => hcell4 j (by rw [hmm]; exact hj))
    have HH4 : Hid (∀ j : Nat, j < m → Calls Try.prog 27 #[.pointer (some ⟨mm, 0, none⟩), .int .i64 j] w4 fun e w' => e = .returned (.int .i64 ((hh c hs).getD j 0)) ∧ w4 = w') := Lib.hid fun j hj => by
      have := Mem.homeO w4 mm S1 _ _ hm j
      rw [Mem.get_in (k := j) rfl (by rw [hmm]; simp [Mem.inB]; omega)] at this
      exact this
    rw [hmm]
    have HM2 := Lib.hid hm2
    have hm17 : m ≤ 200 := by omega
    have hz5 := hB5.size
    have HO := Lib.hid ho
    clear hcell4 hm hmm hm2 HMD ho hM hnc
    go_wp2_with fail
    go_loop [42] (fun i => ∃ j : Nat, j ≤ m ∧ i = .int .i64 j) (fun i => m - (intOf i).toNat)
    case atStart => exact ⟨0, Nat.zero_le _, rfl⟩
    case round =>
      obtain ⟨j, hj, rfl⟩ := hrel
      by_cases hlt : j < m
      · have cj := HC4.out j hlt
        have KH := HH4.out j hlt
        obtain ⟨y, hy⟩ : ∃ y, (hh c hs).getD j 0 = y := ⟨_, rfl⟩
        rw [hy] at cj KH
        have HKH := Lib.hid KH
        have hlt' : (j : Int) < (m : Int) := by omega
        have zz : (y != y) = false := by simp
        clear KH hy
        go_wp2_with fail
        refine HKH.out.mono ?_
        rintro e w' ⟨rfl, rfl⟩
        go_wp2_with fail
        go_round
        case rel => exact ⟨j + 1, by omega, by go_num⟩
        case measure => simp [intOf]; omega
      · obtain rfl : m = j := by omega
        have HP : Hid (∀ (b : Ref14.Bk) (y' : Nat) (w5 w6 : World) (R0 : Nat → Prop), Ref14.MAt b w6 c (List.replicate hs.length (0, -1)) (List.replicate hs.length p0) (List.replicate hs.length 0) → Ref04.RO w6 y' R0 hs.length (List.replicate m 0) [] → Below w4.heap.size w4 w6 → (∀ i, Ref14.fm b i → w4.heap.size ≤ i ∧ i < w5.heap.size) → (∀ i, R0 i → w5.heap.size ≤ i) → w4.heap.size ≤ w5.heap.size →
            Calls Try.prog 28 #[val l, .pointer (some ⟨p, 0, none⟩), mval b.x, .pointer (some ⟨y', 0, none⟩), .slice ao xs.length ocap] w6 fun e w' => e = .returned (.bool true) ∧ Below w.heap.size w w') := Lib.hid (by
          intro b y' w5 w6 R0 hmat hR hB46 hfmb hR0 h45
          have B36 := hB5.trans (hB46.mono hz5)
          have ho6 := HO.out
          have ha6 := ho6.at_.keep (Upd.of_below (S := fun _ => False) B36) (fun _ _ => id)
          have hpo6 := ho6.port.below B36
          have hw0 : wz c hs.length = List.replicate m 0 := by rw [wz_eq, HM2.out]
          have KU : Calls Try.prog 37 #[.pointer (some ⟨l, 0, none⟩), .pointer (some ⟨p, 0, none⟩)] w6 fun e w' => e = .returned (.tuple #[]) ∧ (O l s lb pb cap' q SQ c p SP hs.length (hh c hs) 0 w' 0 (st0 hs.length (wz c hs.length)) ∧ RR c (st0 hs.length (wz c hs.length)).pls ∧ (st0 hs.length (wz c hs.length)).seats.length = hs.length) ∧ Upd (ft l s lb pb SP SQ) w6 w' := by
            refine (useO ha6 hpo6 ho6.sep).mono ?_
            rintro e w' ⟨he, ho, hu⟩
            exact ⟨he, ⟨ho, zeros_rr _ hc1, by simp [st0]⟩, hu⟩
          refine (plays (y := y') (p := p) (SP := SP) (mach (hs := hh c hs) hs.length) (Ref14.modl (b := b) (c := c) hs.length n8 hc1 hc8) n8 (fun {wq b st} h => ⟨⟨_, h.1.port⟩, h.1.few, by rw [port_len h.1.port]; have := nodeH_len c hs; have hnc : hs.length * (3 * c) ≤ 8 * 24 := Nat.mul_le_mul n8 (by omega); unfold hh; rw [List.length_append, this]; show 1 + _ ≤ 4096; omega⟩) (fun st t now => acc_step _ _ _ _ _ _ _) (fun i h1 h2 => by have := hl3 i h1; have := hfmb i h2; omega) _ xs hl w w6 HOPS.out (hB4.trans (B36.mono hz4)) hft (fun i h => by have := hfmb i h; omega) (st0 hs.length (wz c hs.length)) ⟨⟨List.replicate hs.length 0, hmat, fun t => .inl (by show ((List.replicate hs.length p0).getD t p0).o = 0; rw [List.getD, List.getElem?_replicate]; split <;> rfl)⟩, startI _ _, wz_len _ _, wz_wd _ _⟩ R0 (by show Ref04.RO w6 y' R0 hs.length (wz c hs.length) []; rw [hw0]; exact hR) (fun i h => ⟨fun e => by have := hl3 i e; have := hR0 i h; omega, fun e => by have := hfmb i e; have := hR0 i h; omega, by have := hR0 i h; omega⟩) KU).mono fun e w' ⟨he, hB, _⟩ => ⟨he, hB⟩)
        unfold val mval at HP
        have HNEW := Lib.hid (fun w' : World => Ref14.newR w' hs.length c n1 (by omega))
        have hmk := run_make_zeros (P := Try.prog) 55 27 (.int .u32 0) 4 Try.underlying55 info_u32 rfl m (by omega) (by omega)
        have HM4 := Lib.hid (show (List.replicate m (0 : Int)).length ≤ 100000 by rw [List.length_replicate]; omega)
        clear q0 HH4 HC4 hg4 hm17 hpo4
        go_upto_region 13 with (fail)
        go_wp2_with fail
        refine wp_region_any (by kernel_rfl) ?_
        change wpAny _ _ _ _ _ _ _ w4.drew
        refine wpAny_take (i := 0) (v := ?_) rfl (by kernel_rfl) (by kernel_rfl) (by kernel_rfl) (fun _ _ _ h => h) (Or.inl ⟨by rfl, ?_⟩) ?_
        rotate_left
        · (intro w'; go_simp) <;> with_reducible rfl
        refine wpAny_take (i := 1) (v := ?_) rfl (by kernel_rfl) (by kernel_rfl) (by kernel_rfl) (fun _ _ _ h => h) (Or.inl ⟨by rfl, ?_⟩) ?_
        rotate_left
        · (intro w'; go_simp) <;> with_reducible rfl
        refine wpAny_take (i := 2) (v := ?_) rfl (by kernel_rfl) (by kernel_rfl) (by kernel_rfl) (fun _ _ _ h => h) (Or.inl ⟨by rfl, ?_⟩) ?_
        rotate_left
        · (intro w'; go_simp) <;> with_reducible rfl
        refine wpAny_take (i := 3) (v := ?_) rfl (by kernel_rfl) (by kernel_rfl) (by kernel_rfl) (fun _ _ _ h => h) (Or.inl ⟨by rfl, ?_⟩) ?_
        rotate_left
        · (intro w'; go_simp) <;> with_reducible rfl
        refine wpAny_take (i := 4) (v := ?_) rfl (by kernel_rfl) (by kernel_rfl) (by kernel_rfl) (fun _ _ _ h => h) (Or.inl ⟨by rfl, ?_⟩) ?_
        rotate_left
        · (intro w'; go_simp) <;> with_reducible rfl
        refine wpAny_take (i := 5) (v := ?_) rfl (by kernel_rfl) (by kernel_rfl) (by kernel_rfl) (fun _ _ _ h => h) (Or.inl ⟨by rfl, ?_⟩) ?_
        rotate_left
        · (intro w'; go_simp) <;> with_reducible rfl
        refine wpAny_take (i := 8) (v := ?_) rfl (by kernel_rfl) (by kernel_rfl) (by kernel_rfl) (fun _ _ _ h => h) (Or.inl ⟨by rfl, ?_⟩) ?_
        rotate_left
        · (intro w'; go_simp) <;> with_reducible rfl
        refine wpAny_take (i := 9) (v := ?_) rfl (by kernel_rfl) (by kernel_rfl) (by kernel_rfl) (fun _ _ _ h => h) (Or.inl ⟨by rfl, ?_⟩) ?_
        rotate_left
        · (intro w'; go_simp) <;> with_reducible rfl
        refine wpAny_take (i := 10) (v := ?_) rfl (by kernel_rfl) (by kernel_rfl) (by kernel_rfl) (fun _ _ _ h => h) (Or.inl ⟨by rfl, ?_⟩) ?_
        rotate_left
        · (intro w'; go_simp) <;> with_reducible rfl
        refine wpAny_take (i := 11) (v := ?_) rfl (by kernel_rfl) (by kernel_rfl) (by kernel_rfl) (fun _ _ _ h => h) (Or.inl ⟨by rfl, ?_⟩) ?_
        rotate_left
        · (intro w'; go_simp) <;> with_reducible rfl
        refine wpAny_take (i := 14) (v := ?_) rfl (by kernel_rfl) (by kernel_rfl) (by kernel_rfl) (fun _ _ _ h => h) (Or.inl ⟨by rfl, ?_⟩) ?_
        rotate_left
        · (intro w'; go_simp) <;> with_reducible rfl
        refine wpAny_ready (rs := [6, 12]) (by kernel_rfl) (by simp) ?_
        refine AllReady.cons rfl (fun K' hK' => ?_) (AllReady.cons rfl (fun K' hK' => ?_) AllReady.nil)
        · go_simp
          refine (HNEW.out _).mono ?_
          rintro e w5 ⟨b, rfl, hmat, hfmb, hB6⟩
          refine hK' _ _ ?_
          clear hK' K'
          refine wpAny_take (i := 7) (v := ?_) rfl (by kernel_rfl) (by kernel_rfl) (by kernel_rfl) (fun _ _ _ h => h) (Or.inl ⟨by rfl, ?_⟩) ?_
          rotate_left
          · (intro w'; go_simp) <;> with_reducible rfl
          refine wpAny_ready (rs := [12]) (by kernel_rfl) (by simp) ?_
          refine AllReady.cons rfl (fun K' hK' => ?_) AllReady.nil
          go_simp
          refine hK' _ _ ?_
          clear hK' K'
          have hmA := hmat.keep ((Upd.refl (fun _ => False) w5).alloc (.cells (zeros m (.int .u32 0)) 27)) (fun _ _ => id)
          have hBA : Below w4.heap.size w4 (w5.alloc (.cells (zeros m (.int .u32 0)) 27)) := ((below_drewN (Below.refl _ w4) 1).trans hB6).alloc hB6.size _
          have hgA : ∀ i, Ref14.fm b i → w4.heap.size ≤ i ∧ i < (w5.alloc (.cells (zeros m (.int .u32 0)) 27)).heap.size := fun i hi => ⟨hfmb i hi, by have := hmat.lt i hi; simp; omega⟩
          refine wpAny_ready (rs := [13]) (by kernel_rfl) (by simp) ?_
          refine AllReady.cons rfl (fun K' hK' => ?_) AllReady.nil
          go_simp
          refine (Ref04.newR _ hs.length _ (List.replicate m 0) (src_made _ m) (by omega) HM4.out).mono ?_
          rintro e w7 ⟨y', rfl, hR7, hB8⟩
          refine hK' _ _ ?_
          clear hK' K'
          refine wpAny_ready (rs := [15]) (by kernel_rfl) (by simp) ?_
          refine AllReady.cons rfl (fun K' hK' => ?_) AllReady.nil
          go_simp
          refine (HP.out b y' (w5.alloc (.cells (zeros m (.int .u32 0)) 27)) w7 _ (hmA.keep (Upd.of_below (S := fun _ => False) hB8) (fun _ _ => id)) hR7 (hBA.trans (hB8.mono (by have := hBA.size; exact this))) hgA (fun i hi => hi.1) (hBA).size).mono ?_
          rintro e w8 ⟨rfl, hB9⟩
          refine hK' _ _ ?_
          clear hK' K'
          refine wpAny_take (i := 16) (v := ?_) rfl (by kernel_rfl) (by kernel_rfl) (by kernel_rfl) (fun _ _ _ h => h) (Or.inl ⟨by rfl, ?_⟩) ?_
          rotate_left
          · (intro w'; go_simp) <;> with_reducible rfl
          refine wpAny_ready (rs := [17]) (by kernel_rfl) (by simp) ?_
          refine AllReady.cons rfl (fun K' hK' => ?_) AllReady.nil
          go_simp
          refine (awake _).mono ?_
          rintro e w9 ⟨rfl, u9⟩
          refine hK' _ _ ?_
          clear hK' K'
          refine wpAny_take (i := 18) (v := ?_) rfl (by kernel_rfl) (by kernel_rfl) (by kernel_rfl) (fun _ _ _ h => h) (Or.inl ⟨by rfl, ?_⟩) ?_
          rotate_left
          · (intro w'; go_simp) <;> with_reducible rfl
          refine wpAny_take (i := 19) (v := ?_) rfl (by kernel_rfl) (by kernel_rfl) (by kernel_rfl) (fun _ _ _ h => h) (Or.inl ⟨by rfl, ?_⟩) ?_
          rotate_left
          · (intro w'; go_simp) <;> with_reducible rfl
          refine wpAny_done (by kernel_rfl) ?_ _
          go_wp2_with fail
          go_ret
          exact ⟨rfl, hB9.trans (u9.mono hB9.size)⟩
        · go_simp
          refine hK' _ _ ?_
          clear hK' K'
          refine wpAny_ready (rs := [6]) (by kernel_rfl) (by simp) ?_
          refine AllReady.cons rfl (fun K' hK' => ?_) AllReady.nil
          go_simp
          refine (HNEW.out _).mono ?_
          rintro e w5 ⟨b, rfl, hmat, hfmb, hB6⟩
          refine hK' _ _ ?_
          clear hK' K'
          refine wpAny_take (i := 7) (v := ?_) rfl (by kernel_rfl) (by kernel_rfl) (by kernel_rfl) (fun _ _ _ h => h) (Or.inl ⟨by rfl, ?_⟩) ?_
          rotate_left
          · (intro w'; go_simp) <;> with_reducible rfl
          have hsz : ∀ (W : World) (o : Obj), (W.alloc o).heap.size = W.heap.size + 1 := fun W o => by simp
          have hszA := hsz w4.drew (.cells (zeros m (.int .u32 0)) 27)
          have hszD : w4.drew.heap.size = w4.heap.size := rfl
          have hszB : (w4.alloc (.cells (zeros m (.int .u32 0)) 27)).drew.heap.size = w4.heap.size + 1 := hsz w4 _
          have hszC : (w4.drewN 1).heap.size = w4.heap.size := rfl
          have hBA : Below w4.heap.size w4 w5 := ((below_drewN (Below.refl _ w4) 1).alloc (Nat.le_refl _) (.cells (zeros m (.int .u32 0)) 27)).trans (hB6.mono (by omega))
          have hgA : ∀ i, Ref14.fm b i → w4.heap.size ≤ i ∧ i < w5.heap.size := fun i hi => ⟨by have := hfmb i hi; omega, hmat.lt i hi⟩
          have hsrcB : Src1 w5 (.slice (some ⟨w4.drew.heap.size, 0, none⟩) m m) .u32 (List.replicate m 0) := (src_made w4.drew m).below hB6
          refine wpAny_ready (rs := [13]) (by kernel_rfl) (by simp) ?_
          refine AllReady.cons rfl (fun K' hK' => ?_) AllReady.nil
          go_simp
          refine (Ref04.newR _ hs.length _ (List.replicate m 0) hsrcB (by omega) HM4.out).mono ?_
          rintro e w7 ⟨y', rfl, hR7, hB8⟩
          refine hK' _ _ ?_
          clear hK' K'
          refine wpAny_ready (rs := [15]) (by kernel_rfl) (by simp) ?_
          refine AllReady.cons rfl (fun K' hK' => ?_) AllReady.nil
          go_simp
          refine (HP.out b y' w5 w7 _ (hmat.keep (Upd.of_below (S := fun _ => False) hB8) (fun _ _ => id)) hR7 (hBA.trans (hB8.mono (by have := hBA.size; exact this))) hgA (fun i hi => hi.1) (hBA).size).mono ?_
          rintro e w8 ⟨rfl, hB9⟩
          refine hK' _ _ ?_
          clear hK' K'
          refine wpAny_take (i := 16) (v := ?_) rfl (by kernel_rfl) (by kernel_rfl) (by kernel_rfl) (fun _ _ _ h => h) (Or.inl ⟨by rfl, ?_⟩) ?_
          rotate_left
          · (intro w'; go_simp) <;> with_reducible rfl
          refine wpAny_ready (rs := [17]) (by kernel_rfl) (by simp) ?_
          refine AllReady.cons rfl (fun K' hK' => ?_) AllReady.nil
          go_simp
          refine (awake _).mono ?_
          rintro e w9 ⟨rfl, u9⟩
          refine hK' _ _ ?_
          clear hK' K'
          refine wpAny_take (i := 18) (v := ?_) rfl (by kernel_rfl) (by kernel_rfl) (by kernel_rfl) (fun _ _ _ h => h) (Or.inl ⟨by rfl, ?_⟩) ?_
          rotate_left
          · (intro w'; go_simp) <;> with_reducible rfl
          refine wpAny_take (i := 19) (v := ?_) rfl (by kernel_rfl) (by kernel_rfl) (by kernel_rfl) (fun _ _ _ h => h) (Or.inl ⟨by rfl, ?_⟩) ?_
          rotate_left
          · (intro w'; go_simp) <;> with_reducible rfl
          refine wpAny_done (by kernel_rfl) ?_ _
          go_wp2_with fail
          go_ret
          exact ⟨rfl, hB9.trans (u9.mono hB9.size)⟩
end Go.Proofs.Ytlkpfdboagjaoaa.WalkAbortPlays
