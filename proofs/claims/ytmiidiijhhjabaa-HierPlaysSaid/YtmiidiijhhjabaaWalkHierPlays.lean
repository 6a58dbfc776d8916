/- The law HierPlays, walked. -/
import Derived.Test.YtmiidiijhhjabaaPlays
import Derived.Test.YtmiidiijhhjabaaRef15c
import Derived.Test.YtmiidiijhhjabaaOps10
namespace Go.Proofs.Ytmiidiijhhjabaa.WalkHierPlays
open Go Go.RowKit Go.Proofs.Ytmiidiijhhjabaa.Heap Go.Proofs.Ytmiidiijhhjabaa.Open Go.Proofs.Ytmiidiijhhjabaa.Seat Go.Proofs.Ytmiidiijhhjabaa.Mach Go.Proofs.Ytmiidiijhhjabaa.Has Go.Proofs.Ytmiidiijhhjabaa.Lk Go.Proofs.Ytmiidiijhhjabaa.StepU Go.Proofs.Ytmiidiijhhjabaa.Hier Go.Proofs.Ytmiidiijhhjabaa.Law15 Go.Proofs.Ytmiidiijhhjabaa.Plays Go.Proofs.Ytmiidiijhhjabaa.Modl

theorem port_len {w : World} {p k : Nat} {S : Nat → Prop} {ws hs : List Int} {l : List T} (h : Port.O w p S k ws hs l) : ws.length = hs.length := by
  obtain ⟨⟨m, c, cb, S1, S2, hp⟩, _⟩ := h
  obtain ⟨⟨wb, hv, ha, _⟩, _⟩ := hp.mem
  exact ha.len.symm
theorem acc_after (k n : Nat) (l : List T) (t a : Int) (wr : Bool) (u : Int) : acc (Cache.after k n l t a wr) u ≤ acc l u + 1 := by
  rw [Same04.after_def]
  split
  · rw [acc_snoc]; split <;> omega
  · omega
theorem acc_step (k : Nat) (tl : Int) (st : St) (t a now : Int) : acc (Hier.step k tl st t a now).2.ts t ≤ acc st.ts t + 1 := by
  show acc (midS k tl st t a).2.ts t ≤ _
  unfold midS
  split
  · unfold lockS
    dsimp only
    (repeat' split) <;> exact acc_after _ _ _ _ _ _ _
  · split
    · unfold unlS
      dsimp only
      (repeat' split) <;> exact acc_after _ _ _ _ _ _ _
    · exact Nat.le_succ _
/-- The words at first. -/
def wz (n : Nat) : List Int := [] ++ [(n : Int) + 1] ++ List.replicate 8 0 ++ List.replicate n 0 ++ [4294967292]
set_option maxHeartbeats 8000000 in
set_option maxRecDepth 20000 in
theorem walk (v : Value) (hs : List Int) (v2 : Value) (xs : List (List Int)) (w : World) (h0 : Src1 w v .i64 hs) (h2 : I64s w v2 4 xs) :
    Calls Try.prog 7 #[v, v2] w fun e w' => e = .returned (.bool true) ∧ Below w.heap.size w w' := by
  have h2k := h2
  obtain ⟨⟨ao, cap, rfl, hlc, -, -⟩, -⟩ := h2
  have KF := fine w v hs h0 ao xs.length cap
  cases hf : fineB hs xs.length with
  | false =>
    rw [hf] at KF
    have HF := Lib.hid KF
    clear KF hf h2k
    obtain ⟨a, c, rfl, -, -⟩ := h0
    go_enter Try.func7, Try.ntmps7
    go_wp2_with fail
    refine HF.out.mono ?_
    rintro e w' ⟨rfl, rfl⟩
    go_wp2_with fail
    refine (awake _).mono ?_
    rintro e w4 ⟨rfl, u4⟩
    go_wp2_with fail
    go_ret
    exact ⟨rfl, u4⟩
  | true =>
    rw [hf] at KF
    obtain ⟨n1, n8, hok, hl⟩ := fineB_true hf
    have HF := Lib.hid KF
    have HOPS := Lib.hid h2k
    have HSRC := Lib.hid h0
    have HMD := Lib.hid (madeC w v hs h0 n1 (by omega) hok)
    clear KF hf h2k
    obtain ⟨a, c, rfl, -, hcell⟩ := h0
    obtain ⟨hb, off, rfl, hbw, hcell⟩ := hcell (by omega)
    clear hcell
    go_enter Try.func7, Try.ntmps7
    go_wp2_with fail
    refine HF.out.mono ?_
    rintro e w' ⟨rfl, rfl⟩
    go_wp2_with fail
    refine HMD.out.mono ?_
    rintro e w3 ⟨l, s, lb, pb, cap', p, SP, rfl, hM⟩
    have ho := hM.obj
    have hft := hM.ge
    have hB4 := hM.bel
    have hl3 : ∀ i, ft l s lb pb SP i → i < w3.heap.size := ho.lt
    have hz4 := hB4.size
    go_wp2_with fail
    refine (Ref15.homesR _ _ hs (HSRC.out.below hB4) n1 (by omega)).mono ?_
    rintro e w4 ⟨v4, rfl, hsrc4, hB5⟩
    obtain ⟨a4, c4, rfl, -, hcell4⟩ := hsrc4
    obtain ⟨g4, o4, rfl, hg4, hcell4⟩ := hcell4 (by simp [hh])
    have hpo4 := ho.port.below hB5
    obtain ⟨mm, S1, q0, hm, -⟩ := hpo4.step
    obtain ⟨m, hmm⟩ : ∃ m, (hh hs).length = m := ⟨_, rfl⟩
    have hm2 : m = hs.length + 10 := by rw [← hmm]; simp [hh, idx]; omega
    have HC4 := Lib.hid (fun (j : Nat) (hj : j < m) => hcell4 j (by rw [hmm]; exact hj))
    have HH4 : Hid (∀ j : Nat, j < m → Calls Try.prog 24 #[.pointer (some ⟨mm, 0, none⟩), .int .i64 j] w4 fun e w' => e = .returned (.int .i64 ((hh hs).getD j 0)) ∧ w4 = w') := Lib.hid fun j hj => by
      have := Mem.homeO w4 mm S1 _ _ hm j
      rw [Mem.get_in (k := j) rfl (by rw [hmm]; simp [Mem.inB]; omega)] at this
      exact this
    rw [hmm]
    have HM2 := Lib.hid hm2
    have hm17 : m ≤ 18 := by omega
    have hz5 := hB5.size
    have HO := Lib.hid ho
    clear hcell4 hm hmm hm2 HMD ho hM
    go_wp2_with fail
    go_loop [30] (fun i => ∃ j : Nat, j ≤ m ∧ i = .int .i64 j) (fun i => m - (intOf i).toNat)
    case atStart => exact ⟨0, Nat.zero_le _, rfl⟩
    case round =>
      obtain ⟨j, hj, rfl⟩ := hrel
      by_cases hlt : j < m
      · have cj := HC4.out j hlt
        have KH := HH4.out j hlt
        obtain ⟨y, hy⟩ : ∃ y, (hh hs).getD j 0 = y := ⟨_, rfl⟩
        rw [hy] at cj KH
        have HKH := Lib.hid KH
        have hlt' : (j : Int) < (m : Int) := by omega
        have zz : (y != y) = false := by simp
        clear KH hy
        go_wp2_with fail
        refine HKH.out.mono ?_
        rintro e w' ⟨rfl, rfl⟩
        go_wp2_with fail
        go_round
        case rel => exact ⟨j + 1, by omega, by go_num⟩
        case measure => simp [intOf]; omega
      · obtain rfl : m = j := by omega
        have HP : Hid (∀ (b : Ref15.Bk) (y' : Nat) (w5 w6 : World) (R0 : Nat → Prop), Ref15.MAt b w6 (List.replicate hs.length (0, -1)) (news hs hs.length) → Ref04.RO w6 y' R0 hs.length (wz hs.length) [] → Below w4.heap.size w4 w6 → (∀ i, Ref15.fm b i → w4.heap.size ≤ i ∧ i < w5.heap.size) → (∀ i, R0 i → w5.heap.size ≤ i) → w4.heap.size ≤ w5.heap.size →
            Calls Try.prog 26 #[val l, .pointer (some ⟨p, 0, none⟩), mval b.x, .pointer (some ⟨y', 0, none⟩), .slice ao xs.length cap] w6 fun e w' => e = .returned (.bool true) ∧ Below w.heap.size w w' ∧ ∃ st : St, At w' l s lb pb cap' (.pointer (some ⟨p, 0, none⟩)) 0 st.seats st.pls ∧ st.seats.length = hs.length ∧ Ref15.MAt b w' st.seats st.pls) := Lib.hid (by
          intro b y' w5 w6 R0 hmat hR hB46 hfmb hR0 h45
          have B36 := hB5.trans (hB46.mono hz5)
          have ho6 := HO.out
          have ha6 := ho6.at_.keep (Upd.of_below (S := fun _ => False) B36) id id id id
          have hpo6 := ho6.port.below B36
          have KU : Calls Try.prog 35 #[.pointer (some ⟨l, 0, none⟩), .pointer (some ⟨p, 0, none⟩)] w6 fun e w' => e = .returned (.tuple #[]) ∧ (O l s lb pb cap' p SP hs.length (hh hs) 0 w' 0 (st0 hs (wz hs.length)) ∧ (st0 hs (wz hs.length)).seats.length = hs.length) ∧ Upd (ft l s lb pb SP) w6 w' := by
            refine (useO ha6 hpo6 ho6.sep).mono ?_
            rintro e w' ⟨he, ho, hu⟩
            exact ⟨he, ⟨ho, by simp [st0]⟩, hu⟩
          refine (plays (y := y') (p := p) (SP := SP) (mach (hs := hh hs) hs.length) (Ref15.modl (b := b) hs.length n8) n8 (fun {wz b st} h => ⟨⟨_, h.1.port⟩, h.1.few, by rw [port_len h.1.port]; simp [hh, idx]; omega⟩) (fun st t now => acc_step _ _ _ _ _ _) (fun i h1 h2 => by have := hl3 i h1; have := hfmb i h2; omega) _ xs hl w w6 HOPS.out (hB4.trans (B36.mono hz4)) hft (fun i h => by have := hfmb i h; omega) (st0 hs (wz hs.length)) ⟨hmat, by simp [st0], by simp [st0, wz], ws_wd hs.length (by omega)⟩ R0 hR (fun i h => ⟨fun e => by have := hl3 i e; have := hR0 i h; omega, fun e => by have := hfmb i e; have := hR0 i h; omega, by have := hR0 i h; omega⟩) KU).mono fun e w' ⟨he, hB, b, st, ⟨ho, hlen⟩, hm, _⟩ => ⟨he, hB, st, ho.at_, hlen, hm⟩)
        unfold val mval at HP
        clear q0 HH4 HC4 hg4 hm17
        go_wp2_with fail
        refine (Ref15.newR _ hs _ (HSRC.out.below (hB4.trans (hB5.mono hz4))) n1 (by omega) hok).mono ?_
        rintro e w5 ⟨b, rfl, hmat, hfmb, hB6⟩
        have hfmb' : ∀ i, Ref15.fm b i → w4.heap.size ≤ i ∧ i < w5.heap.size := fun i hi => ⟨hfmb i hi, hmat.lt i hi⟩
        go_wp2_with fail
        refine (Ref15.wordsR _ hs.length n1 (by omega)).mono ?_
        rintro e w6 ⟨v6, rfl, hsrc6, hB7⟩
        have hsr : Src1 w6 v6 .u32 (wz hs.length) := hsrc6
        have hs6 := hsr
        clear hsrc6
        obtain ⟨mz, hmz⟩ : ∃ m, (wz hs.length).length = m := ⟨_, rfl⟩
        obtain ⟨a6, c6, rfl, -, -⟩ := hs6
        have HSR := Lib.hid hsr
        rw [hmz] at HSR ⊢
        clear hsr hmz
        go_wp2_with fail
        refine (Ref04.newR _ hs.length _ (wz hs.length) HSR.out (by omega) (by simp [wz]; omega)).mono ?_
        rintro e w7 ⟨y', rfl, hR7, hB8⟩
        have hB78 := hB7.trans (hB8.mono hB7.size)
        have hm7 := hmat.keep (Upd.of_below (S := fun _ => False) hB78) (fun _ _ => id)
        go_wp2_with fail
        refine (HP.out b y' w5 w7 _ hm7 hR7 (hB6.trans (hB78.mono hB6.size)) hfmb' (fun i hi => by have h9 := hi.1; have := hB7.size; omega) hB6.size).mono ?_
        rintro e w8 ⟨rfl, hB9, st, hat, hsl, hma⟩
        clear HP hm7 hR7 hB7 hB8 hB78 hfmb hfmb' hmat hB6 HSR
        have HSLEN := Lib.hid hsl
        go_wp2_with fail
        go_loopw [62] (fun i wr => ∃ j : Nat, j ≤ hs.length ∧ i = .int .i64 j ∧ At wr l s lb pb cap' (.pointer (some ⟨p, 0, none⟩)) 0 st.seats st.pls ∧ Ref15.MAt b wr st.seats st.pls ∧ Below w.heap.size w wr) (fun i _ => hs.length - (intOf i).toNat)
        case atStart => exact ⟨0, Nat.zero_le _, rfl, hat, hma, hB9⟩
        case round =>
          clear hat hma hB9
          obtain ⟨j, hj, rfl, hat, hma, hB9⟩ := hrel
          by_cases hlt : j < hs.length
          · have hlt' : (j : Int) < (hs.length : Int) := by omega
            have hjs : j < st.seats.length := by rw [hsl]; exact hlt
            have hjs' : (j : Int) < (st.seats.length : Int) := by omega
            have c3 := hma.top.cell (i := 4) rfl
            have n1' := hma.nrow.cell (Ref15.col_get (t := j) (by rw [hma.l1]; exact hjs))
            have hat' := hat.keep ((Upd.refl (fun _ => False) wr).drewN 1) id id id id
            have hma' := hma.keep ((Upd.refl (fun _ => False) wr).drewN 1) (fun _ _ => id)
            have KN := nodeC hat' j hjs
            obtain ⟨y, hy⟩ : ∃ y, (st.pls.getD j p0).n = y := ⟨_, rfl⟩
            rw [hy] at n1' KN
            have HKN := Lib.hid KN
            have zz : (y != y) = false := by simp
            have HB9 := Lib.hid (below_drewN hB9 1)
            clear hy KN hB9 hat hma
            go_wp2_with fail
            go_region_held3 (fun w' => w'.cell? ⟨b.x, 4, none⟩ = some (.slice (some ⟨b.nb, 0, none⟩) st.seats.length b.cn) ∧ w'.cell? ⟨b.nb, j, none⟩ = some (.int .i64 y)) (exact ⟨c3, n1'⟩)
              ((go_at_call 15; refine HKN.out.mono ?_; rintro e w8 ⟨rfl, rfl⟩))
            go_wp2_with fail
            go_round
            case rel => exact ⟨j + 1, by omega, by go_num, hat', hma', HB9.out⟩
            case measure => simp [intOf]; omega
          · obtain rfl : j = hs.length := by omega
            have KN := nodeN hat (-1) (.inl (by decide))
            have HKN := Lib.hid KN
            clear KN
            go_wp2_with fail
            refine HKN.out.mono ?_
            rintro e w8 ⟨rfl, rfl⟩
            go_wp2_with fail
            refine (awake _).mono ?_
            rintro e w8 ⟨rfl, u8⟩
            go_wp2_with fail
            go_ret
            exact ⟨rfl, hB9.trans (u8.mono hB9.size)⟩
end Go.Proofs.Ytmiidiijhhjabaa.WalkHierPlays
