/- The law SlotsPlays, walked. -/
import Derived.Test.YtamchnaifmoklaaPlays
import Derived.Test.YtamchnaifmoklaaRef11b
import Derived.Test.YtamchnaifmoklaaWalkSlotsOrder
namespace Go.Proofs.Ytamchnaifmoklaa.WalkSlotsPlays
open Go Go.RowKit Go.Proofs.Ytamchnaifmoklaa.WalkSlotsOrder Go.Proofs.Ytamchnaifmoklaa.Heap Go.Proofs.Ytamchnaifmoklaa.Open Go.Proofs.Ytamchnaifmoklaa.Seat Go.Proofs.Ytamchnaifmoklaa.Mach Go.Proofs.Ytamchnaifmoklaa.Has Go.Proofs.Ytamchnaifmoklaa.Lk Go.Proofs.Ytamchnaifmoklaa.Slots Go.Proofs.Ytamchnaifmoklaa.Pack Go.Proofs.Ytamchnaifmoklaa.StepU Go.Proofs.Ytamchnaifmoklaa.Law11 Go.Proofs.Ytamchnaifmoklaa.Plays Go.Proofs.Ytamchnaifmoklaa.Modl

theorem port_len {w : World} {p k : Nat} {S : Nat → Prop} {ws hs : List Int} {l : List T} (h : Port.O w p S k ws hs l) : ws.length = hs.length := by
  obtain ⟨⟨m, c, cb, S1, S2, hp⟩, _⟩ := h
  obtain ⟨⟨wb, hv, ha, _⟩, _⟩ := hp.mem
  exact ha.len.symm
theorem acc_after (k n : Nat) (l : List T) (t a : Int) (wr : Bool) (u : Int) : acc (Cache.after k n l t a wr) u ≤ acc l u + 1 := by
  rw [Same04.after_def]
  split
  · rw [acc_snoc]; split <;> omega
  · omega
theorem acc_step (k : Nat) (tl kn : Int) (st : St) (t a now : Int) : acc (Slots.step k tl kn st t a now).2.ts t ≤ acc st.ts t + 1 := by
  show acc (midS k tl kn st t a).2.ts t ≤ _
  have k1 : ∀ u : Nat, acc (lockS k tl kn st u a).2.ts t ≤ acc st.ts t + 1 := fun u => by
    unfold lockS
    dsimp only
    (repeat' split) <;> exact acc_after _ _ _ _ _ _ _
  unfold midS
  split
  · exact k1 _
  · split
    · exact acc_after _ _ _ _ _ _ _
    · exact Nat.le_succ _
theorem st0_pl (n : Nat) (ws : List Int) (t : Nat) : (st0 n ws).pls.getD t (0, 0) = (0, 0) := by
  show (List.replicate n ((0 : Int), (0 : Int))).getD t (0, 0) = (0, 0)
  rw [List.getD, List.getElem?_replicate]; split <;> rfl
set_option maxHeartbeats 16000000 in
set_option maxRecDepth 20000 in
theorem walk (v : Value) (z : List Int × List (List Int)) (w : World) (h : ∃ hv m x ov, v = .agg #[hv, .int .u8 m, .int .u32 x, ov] ∧ (Lit.int .u8 m).wf = true ∧ (Lit.int .u32 x).wf = true ∧ Src1 w hv .i64 z.1 ∧ I64s w ov 4 z.2) :
    Calls Try.prog 7 #[v] w fun e w' => e = .returned (.bool true) ∧ Below w.heap.size w w' := by
  obtain ⟨v, mi, x, v2, rfl, hm8, hx, h0, h2⟩ := h
  obtain ⟨hs, xs⟩ := z
  have hmb := bounds_u8 hm8
  have hxb := wf_u32 hx
  dsimp only at h0 h2
  clear hm8 hx
  have h2k := h2
  obtain ⟨⟨ao, cap, rfl, hlc, -, -⟩, -⟩ := h2
  have HF := Lib.hid (fun w' (hb : Below w.heap.size w w') => fine w' v hs (h0.below hb) ao xs.length cap)
  have HSI := Lib.hid (fun w' => size_all mi w')
  have hB1 : Below w.heap.size w (w.alloc (.cells #[v, .int .u8 mi, .int .u32 x, .slice ao xs.length cap] 44)) := (Below.refl _ _).alloc (Nat.le_refl _) _
  have hR1 : Row (w.alloc (.cells #[v, .int .u8 mi, .int .u32 x, .slice ao xs.length cap] 44)) w.heap.size [v, .int .u8 mi, .int .u32 x, .slice ao xs.length cap] := Row.new' rfl
  have HSRC := Lib.hid h0
  have HOPS := Lib.hid h2k
  clear h2k
  obtain ⟨a, c, rfl, -, -⟩ := h0
  obtain ⟨W1, hW⟩ : ∃ W1, w.alloc (.cells #[.slice a hs.length c, .int .u8 mi, .int .u32 x, .slice ao xs.length cap] 44) = W1 := ⟨_, rfl⟩
  obtain ⟨D, hD⟩ : ∃ D, w.heap.size = D := ⟨_, rfl⟩
  rw [hW] at hB1 hR1
  rw [hD] at hR1
  have HW := Lib.hid hW
  have HD := Lib.hid hD
  have HB1 := Lib.hid hB1
  have y0 := hR1.cell (i := 0) rfl
  have y1 := hR1.cell (i := 1) rfl
  have y2 := hR1.cell (i := 2) rfl
  have y3 := hR1.cell (i := 3) rfl
  clear hW hD hB1 hR1
  cases hf : fineB hs xs.length with
  | false =>
    rw [hf] at HF
    clear hf
    go_enter Try.func7, Try.ntmps7
    go_upto_region 1 with (fail)
    rw [HW.out, HD.out]
    go_wp2_with fail
    go_quiet (fail)
    obtain ⟨W2, hW2⟩ : ∃ W2, W1.drewN nq = W2 := ⟨_, rfl⟩
    have hB0 : Below w.heap.size w W2 := by rw [← hW2]; exact below_drewN HB1.out nq
    (try rw [hW2])
    clear hW2
    go_wp2_with fail
    refine (HF.out _ hB0).mono ?_
    rintro e w' ⟨rfl, rfl⟩
    go_wp2_with fail
    refine (awake _).mono ?_
    rintro e w4 ⟨rfl, u4⟩
    go_wp2_with fail
    go_ret
    exact ⟨rfl, hB0.trans (u4.mono hB0.size)⟩
  | true =>
  cases hs7 : sizeB mi with
  | false =>
    rw [hf] at HF
    rw [hs7] at HSI
    clear hf hs7
    go_enter Try.func7, Try.ntmps7
    go_upto_region 1 with (fail)
    rw [HW.out, HD.out]
    go_wp2_with fail
    go_quiet (fail)
    obtain ⟨W2, hW2⟩ : ∃ W2, W1.drewN nq = W2 := ⟨_, rfl⟩
    have hB0 : Below w.heap.size w W2 := by rw [← hW2]; exact below_drewN HB1.out nq
    (try rw [hW2])
    clear hW2
    go_wp2_with fail
    refine (HF.out _ hB0).mono ?_
    rintro e w' ⟨rfl, rfl⟩
    go_wp2_with fail
    refine (HSI.out _).mono ?_
    rintro e w' ⟨rfl, rfl⟩
    go_wp2_with fail
    refine (awake _).mono ?_
    rintro e w4 ⟨rfl, u4⟩
    go_wp2_with fail
    go_ret
    exact ⟨rfl, hB0.trans (u4.mono hB0.size)⟩
  | true =>
  by_cases hml : mi < (hs.length : Int)
  · rw [hf] at HF
    rw [hs7] at HSI
    clear hf hs7
    go_enter Try.func7, Try.ntmps7
    go_upto_region 1 with (fail)
    rw [HW.out, HD.out]
    go_wp2_with fail
    go_quiet (fail)
    obtain ⟨W2, hW2⟩ : ∃ W2, W1.drewN nq = W2 := ⟨_, rfl⟩
    have hB0 : Below w.heap.size w W2 := by rw [← hW2]; exact below_drewN HB1.out nq
    (try rw [hW2])
    clear hW2
    go_wp2_with fail
    refine (HF.out _ hB0).mono ?_
    rintro e w' ⟨rfl, rfl⟩
    go_wp2_with fail
    refine (HSI.out _).mono ?_
    rintro e w' ⟨rfl, rfl⟩
    go_wp2_with fail
    refine (awake _).mono ?_
    rintro e w4 ⟨rfl, u4⟩
    go_wp2_with fail
    go_ret
    exact ⟨rfl, hB0.trans (u4.mono hB0.size)⟩
  · obtain ⟨n1, n8, hok, hl⟩ := fineB_true hf
    have hsz := (sizeB_iff mi).1 hs7
    obtain ⟨m, hm⟩ : ∃ m : Nat, (m : Int) = mi := ⟨mi.toNat, by omega⟩
    have hnm : hs.length ≤ m := by omega
    rw [← hm] at hsz
    have HM := Lib.hid hm
    rw [hf] at HF
    rw [hs7] at HSI
    have hml' : (hs.length : Int) ≤ mi := by omega
    clear hf hs7 hml hm
    go_enter Try.func7, Try.ntmps7
    go_upto_region 1 with (fail)
    rw [HW.out, HD.out]
    go_wp2_with fail
    go_quiet (fail)
    obtain ⟨W2, hW2⟩ : ∃ W2, W1.drewN nq = W2 := ⟨_, rfl⟩
    have hB0 : Below w.heap.size w W2 := by rw [← hW2]; exact below_drewN HB1.out nq
    (try rw [hW2])
    clear hW2
    go_wp2_with fail
    refine (HF.out _ hB0).mono ?_
    rintro e w' ⟨rfl, rfl⟩
    go_wp2_with fail
    refine (HSI.out _).mono ?_
    rintro e w' ⟨rfl, rfl⟩
    go_wp2_with fail
    refine (Plan.newPl _ hs.length).mono ?_
    rintro e w1 ⟨pl, rfl, hpl, hB1'⟩
    have hB1 := hB0.trans (hB1'.mono hB0.size)
    have hz1 := hB1.size
    have hz0 := hB0.size
    have hz1' := hB1'.size
    go_wp2_with fail
    have KN := Slots.new_yes w1 pl (Mem.Btw W2 w1) hs.length [] [] hpl (by decide) (.slice a hs.length c) hs m x hxb (HSRC.out.below hB1) n1 (by omega) hok (by
      intro b hb h
      obtain ⟨_, _, hv, -, hcell⟩ := HSRC.out
      simp at hv
      obtain ⟨rfl, rfl⟩ := hv
      obtain ⟨b', off, rfl, hbw, -⟩ := hcell (by omega)
      simp [Value.ownBlock] at hb
      have := h.1; omega) hnm hsz
    rw [HM.out] at KN
    have HKN := Lib.hid KN
    clear KN
    refine HKN.out.mono ?_
    rintro e w2 ⟨l, s, lb, pb, rfl, ha, ⟨S', hp2, hS', s1, s2, s3, s4⟩, b1, b2, b3, b4, hu2⟩
    have hB2 : Below w.heap.size w w2 := hu2.below hB1 hz1 (fun i hi => by have := hi.1; omega)
    have hz2 := hB2.size
    go_wp2_with fail
    refine (Plan.portPl _ pl S' hs.length _ _ hp2 (by simp [flags]; have := size_pos hsz; omega) (home3 hs n1 m hok) (wd3 x mi m hxb) n1 (by omega)).mono ?_
    rintro e w3 ⟨p, rfl, hpo, hB3⟩
    have ha3 := ha.keep (Upd.of_below (S := fun _ => False) hB3) id id id id
    have hB4 := hB2.trans (hB3.mono hz2)
    have sep : ¬ Mem.Btw w2 w3 l ∧ ¬ Mem.Btw w2 w3 s ∧ ¬ Mem.Btw w2 w3 lb ∧ ¬ Mem.Btw w2 w3 pb :=
      ⟨fun h => by have := ha.top.lt; have := h.1; omega, fun h => by have := ha.seat.top.lt; have := h.1; omega, fun h => by have := ha.seat.row.lt; have := h.1; omega, fun h => by have := ha.plc.lt; have := h.1; omega⟩
    have hft : ∀ i, ft l s lb pb (Mem.Btw w2 w3) i → w.heap.size ≤ i := by
      intro i hi
      rcases hi with hi | rfl | rfl | rfl | rfl
      · have := hi.1; omega
      all_goals omega
    have hl3 : ∀ i, ft l s lb pb (Mem.Btw w2 w3) i → i < w3.heap.size := by
      intro i hi
      rcases hi with hi | rfl | rfl | rfl | rfl
      · exact hi.2
      · exact ha3.top.lt
      · exact ha3.seat.top.lt
      · exact ha3.seat.row.lt
      · exact ha3.plc.lt
    have hz4 := hB4.size
    rw [← HM.out] at ha3 hpo
    have hm64 : m ≤ 64 := by have := size_pos hsz; omega
    have KH0 := Ref11.homesR w3 _ hs (HSRC.out.below hB4) n1 (by omega) m hm64
    rw [HM.out] at KH0
    have HKH0 := Lib.hid KH0
    have HKN9 := Lib.hid hsz
    clear KH0 HKN ha hp2 hpl hu2 hB1
    go_wp2_with fail
    refine HKH0.out.mono ?_
    rintro e w4 ⟨v4, rfl, hsrc4, hB5⟩
    obtain ⟨a4, c4, rfl, -, hcell4⟩ := hsrc4
    obtain ⟨g4, o4, rfl, hg4, hcell4⟩ := hcell4 (by simp)
    have hpo4 := hpo.below hB5
    obtain ⟨mm, S1, q0, hm, -⟩ := hpo4.step
    obtain ⟨M, hmm⟩ : ∃ M, (([hs.getD 0 0] ++ homesOf hs m : List Int)).length = M := ⟨_, rfl⟩
    have hm2 : M = m + 1 := by rw [← hmm]; simp [homesOf]
    have HC4 := Lib.hid (fun (j : Nat) (hj : j < M) => hcell4 j (by rw [hmm]; exact hj))
    have HH4 : Hid (∀ j : Nat, j < M → Calls Try.prog 27 #[.pointer (some ⟨mm, 0, none⟩), .int .i64 j] w4 fun e w' => e = .returned (.int .i64 (([hs.getD 0 0] ++ homesOf hs m : List Int).getD j 0)) ∧ w4 = w') := Lib.hid fun j hj => by
      have := Mem.homeO w4 mm S1 _ _ hm j
      rw [Mem.get_in (k := j) rfl (by rw [show (([] ++ [hs.getD 0 0] ++ homesOf hs m : List Int)).length = M from hmm]; simp [Mem.inB]; omega)] at this
      exact this
    rw [hmm]
    have HM2 := Lib.hid hm2
    have hm17 : M ≤ 65 := by omega
    have hz5 := hB5.size
    clear hcell4 hm hB2 hB3 hmm hm2 HKH0
    go_wp2_with fail
    go_loop [75] (fun i => ∃ j : Nat, j ≤ M ∧ i = .int .i64 j) (fun i => M - (intOf i).toNat)
    case atStart => exact ⟨0, Nat.zero_le _, rfl⟩
    case round =>
      obtain ⟨j, hj, rfl⟩ := hrel
      by_cases hlt : j < M
      · have cj := HC4.out j hlt
        have KH := HH4.out j hlt
        obtain ⟨y, hy⟩ : ∃ y, ([hs.getD 0 0] ++ homesOf hs m : List Int).getD j 0 = y := ⟨_, rfl⟩
        rw [hy] at cj KH
        have HKH := Lib.hid KH
        have hlt' : (j : Int) < (M : Int) := by omega
        have zz : (y != y) = false := by simp
        clear KH hy
        go_wp2_with fail
        refine HKH.out.mono ?_
        rintro e w' ⟨rfl, rfl⟩
        go_wp2_with fail
        go_round
        case rel => exact ⟨j + 1, by omega, by go_num⟩
        case measure => simp [intOf]; omega
      · obtain rfl : M = j := by omega
        have HP : Hid (∀ (x' sx sb db' pc ob y' : Nat) (w5 w6 : World) (R0 : Nat → Prop), Ref11.MAt x' sx sb db' pc ob m w6 (List.replicate hs.length (0, -1)) (List.replicate hs.length 0) (List.replicate hs.length 0) → Ref04.RO w6 y' R0 hs.length ([x] ++ flags m x m) [] → Below w4.heap.size w4 w6 → (∀ i, Ref11.fm x' sx sb db' pc ob i → w4.heap.size ≤ i ∧ i < w5.heap.size) → (∀ i, R0 i → w5.heap.size ≤ i) → w4.heap.size ≤ w5.heap.size →
            Calls Try.prog 28 #[val l, .pointer (some ⟨p, 0, none⟩), mval x', .pointer (some ⟨y', 0, none⟩), .slice ao xs.length cap] w6 fun e w' => e = .returned (.bool true) ∧ Below w.heap.size w w') := Lib.hid (by
          intro x' sx sb db' pc ob y' w5 w6 R0 hmat hR hB46 hfmb hR0 h45
          have B36 := hB5.trans (hB46.mono hz5)
          have hR' : Ref04.RO w6 y' R0 hs.length (st0 hs.length ([] ++ [x] ++ flags m x m)).ws (st0 hs.length ([] ++ [x] ++ flags m x m)).ts := by simpa [st0] using hR
          have ha6 := ha3.keep (Upd.of_below (S := fun _ => False) B36) id id id id
          have hpo6 := hpo.below B36
          have hst : Ref11.pcl (st0 hs.length ([] ++ [x] ++ flags m x m)) = List.replicate hs.length 0 := by simp [Ref11.pcl, st0]
          have KU : Calls Try.prog 19 #[.pointer (some ⟨l, 0, none⟩), .pointer (some ⟨p, 0, none⟩)] w6 fun e w' => e = .returned (.tuple #[]) ∧ (O l s lb pb p (Mem.Btw w2 w3) hs.length ([] ++ [hs.getD 0 0] ++ homesOf hs m) 0 m w' 0 (st0 hs.length ([] ++ [x] ++ flags m x m)) ∧ (st0 hs.length ([] ++ [x] ++ flags m x m)).seats.length = hs.length) ∧ Upd (ft l s lb pb (Mem.Btw w2 w3)) w6 w' := by
            refine (useO ha6 hpo6 sep).mono ?_
            rintro e w' ⟨he, ho, hu⟩
            exact ⟨he, ⟨ho, by simp [st0]⟩, hu⟩
          refine (plays (y := y') (p := p) (SP := Mem.Btw w2 w3) (mach (hs := [] ++ [hs.getD 0 0] ++ homesOf hs m) hs.length) (Ref11.modl (x := x') (sx := sx) (sb := sb) (db := db') (pc := pc) (ob := ob) hs.length n8 HKN9.out) n8 (fun {wz b st} h => ⟨⟨_, h.1.port⟩, h.1.few, by rw [port_len h.1.port]; simp [homesOf]; omega⟩) (fun st t now => acc_step _ _ _ _ _ _ _) (fun i h1 h2 => by have := hl3 i h1; have := hfmb i h2; omega) _ xs hl w w6 HOPS.out (hB4.trans (B36.mono hz4)) hft (fun i h => by have := hfmb i h; omega) (st0 hs.length ([] ++ [x] ++ flags m x m)) ⟨⟨List.replicate hs.length 0, by rw [hst]; exact hmat, ?_⟩, by simp [st0], by simp [st0], ?_, ?_, ?_, ?_⟩ R0 hR' (fun i h => ⟨fun e => by have := hl3 i e; have := hR0 i h; omega, fun e => by have := hfmb i e; have := hR0 i h; omega, by have := hR0 i h; omega⟩) KU).mono fun e w' ⟨he, hB, _⟩ => ⟨he, hB⟩
          · intro u hu
            rw [st0_pl] at hu
            exact absurd rfl hu
          · simp [st0, flags]; omega
          · exact wd3 x m m hxb
          · intro u _
            rw [st0_pl]
            exact ⟨by decide, .inl rfl⟩
          · intro u hu
            have : SeatP.stt (st0 hs.length ([] ++ [x] ++ flags m x m)).seats u = 0 := SlotsP.stt0 _ _
            rw [this] at hu; omega)
        unfold val mval at HP
        have KN := fun w' => Ref11.newR w' hs.length n1 (by omega) m (size_pos HKN9.out).1
        rw [HM.out] at KN
        have KW := fun w' => Ref11.wordsR w' x hxb m (by have := (size_pos HKN9.out).1; omega) hm64
        rw [HM.out] at KW HP
        have HKNW := Lib.hid KN
        have HKW := Lib.hid KW
        have hm66 : ([x] ++ flags mi x m).length ≤ 100000 := by simp [flags]; omega
        have HM66 := Lib.hid hm66
        clear ha3 hpo hpo4 q0 HH4 HC4 hg4 hm17 KN KW hm66
        go_wp2_with fail
        refine (HKNW.out _).mono ?_
        rintro e w5 ⟨x', sx, sb, db', pc, ob, rfl, hmat, hfmb, hB6⟩
        have hfmb' : ∀ i, Ref11.fm x' sx sb db' pc ob i → w4.heap.size ≤ i ∧ i < w5.heap.size := fun i hi => ⟨hfmb i hi, hmat.lt i hi⟩
        go_wp2_with fail
        refine (HKW.out _).mono ?_
        rintro e w5' ⟨v5, rfl, hsrc5, hB7⟩
        obtain ⟨ws5, hws5⟩ : ∃ ws, ([x] ++ flags mi x m : List Int) = ws := ⟨_, rfl⟩
        rw [hws5] at hsrc5
        have HS5 := Lib.hid hsrc5
        have HW5 := Lib.hid hws5
        obtain ⟨a5, c5, rfl, hk5⟩ := hsrc5
        clear hk5 hws5
        go_wp2_with fail
        refine (Ref04.newR _ hs.length _ ws5 HS5.out (by omega) (by rw [← HW5.out]; exact HM66.out)).mono ?_
        rintro e w6 ⟨y', rfl, hR6, hB8⟩
        have hB78 : Below w5.heap.size w5 w6 := hB7.trans (hB8.mono hB7.size)
        have hm6 := hmat.keep (Upd.of_below (S := fun _ => False) hB78) (fun _ _ => id)
        go_wp2_with fail
        refine (HP.out x' sx sb db' pc ob y' w5 w6 _ hm6 (by rw [HW5.out]; exact hR6) (hB6.trans (hB78.mono hB6.size)) hfmb' (fun i hi => by have h9 := hi.1; have := hB7.size; omega) hB6.size).mono ?_
        rintro e w7 ⟨rfl, hB9⟩
        clear HP hm6 hR6 hB7 hB78 hfmb hfmb' hmat hB6 hB8
        go_wp2_with fail
        refine (awake _).mono ?_
        rintro e w8 ⟨rfl, u8⟩
        go_wp2_with fail
        go_ret
        exact ⟨rfl, hB9.trans (u8.mono hB9.size)⟩
end Go.Proofs.Ytamchnaifmoklaa.WalkSlotsPlays
