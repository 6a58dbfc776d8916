/- The law ClhPlays, walked. -/
import Derived.Test.YtgoaaijdlhhkkaaPlays
import Derived.Test.YtgoaaijdlhhkkaaRef12b
import Derived.Test.YtgoaaijdlhhkkaaWalkClhOrder
namespace Go.Proofs.Ytgoaaijdlhhkkaa.WalkClhPlays
open Go Go.RowKit Go.Proofs.Ytgoaaijdlhhkkaa.Heap Go.Proofs.Ytgoaaijdlhhkkaa.Open Go.Proofs.Ytgoaaijdlhhkkaa.Seat Go.Proofs.Ytgoaaijdlhhkkaa.Mach Go.Proofs.Ytgoaaijdlhhkkaa.Has Go.Proofs.Ytgoaaijdlhhkkaa.Lk Go.Proofs.Ytgoaaijdlhhkkaa.StepU Go.Proofs.Ytgoaaijdlhhkkaa.Clh Go.Proofs.Ytgoaaijdlhhkkaa.Law12 Go.Proofs.Ytgoaaijdlhhkkaa.WalkClhOrder Go.Proofs.Ytgoaaijdlhhkkaa.Plays Go.Proofs.Ytgoaaijdlhhkkaa.Modl

theorem port_len {w : World} {p k : Nat} {S : Nat → Prop} {ws hs : List Int} {l : List T} (h : Port.O w p S k ws hs l) : ws.length = hs.length := by
  obtain ⟨⟨m, c, cb, S1, S2, hp⟩, _⟩ := h
  obtain ⟨⟨wb, hv, ha, _⟩, _⟩ := hp.mem
  exact ha.len.symm
theorem acc_after (k n : Nat) (l : List T) (t a : Int) (wr : Bool) (u : Int) : acc (Cache.after k n l t a wr) u ≤ acc l u + 1 := by
  rw [Same04.after_def]
  split
  · rw [acc_snoc]; split <;> omega
  · omega
theorem acc_step (k : Nat) (tl : Int) (st : St) (t a now : Int) : acc (Clh.step k tl st t a now).2.ts t ≤ acc st.ts t + 1 := by
  show acc (midS k tl st t a).2.ts t ≤ _
  have k1 : ∀ u : Nat, acc (lockS k tl st u a).2.ts t ≤ acc st.ts t + 1 := fun u => by
    unfold lockS
    dsimp only
    (repeat' split) <;> exact acc_after _ _ _ _ _ _ _
  unfold midS
  split
  · exact k1 _
  · split
    · exact acc_after _ _ _ _ _ _ _
    · split
      · exact acc_after _ _ _ _ _ _ _
      · exact Nat.le_succ _
theorem nodeN {l s lb pb cap : Nat} {tl : Int} {w : World} {sl : List (Int × Int)} {pl : List P3} {pv : Value} (h : At w l s lb pb cap pv tl sl pl) (t : Int) (ht : t < 0 ∨ (sl.length : Int) ≤ t) :
    Calls Try.prog 15 #[.pointer (some ⟨l, 0, none⟩), .int .i64 t] w fun e w' => e = .returned (.int .i64 (-1)) ∧ w = w' := by
  have c3 := h.top.cell (i := 3) rfl
  by_cases h1 : t < 0
  · clear ht
    go_enter Try.func15, Try.ntmps15
    go_wp2
    go_ret
    exact ⟨rfl, rfl⟩
  · have h2 : (sl.length : Int) ≤ t := by omega
    have h1' : decide (t < 0) = false := by simpa using h1
    clear ht
    go_enter Try.func15, Try.ntmps15
    go_wp2
    go_ret
    exact ⟨rfl, rfl⟩
theorem info_u32 : (Try.prog.info? 27).map (fun i => (i.zero, i.size, i.bytes)) = some (some (.int .u32 0), 1, 4) := by kernel_rfl
theorem src_made (w : World) (m : Nat) : Src1 (w.alloc (.cells (zeros m (.int .u32 0)) 27)) (.slice (some ⟨w.heap.size, 0, none⟩) m m) .u32 (List.replicate m 0) :=
  ⟨some ⟨w.heap.size, 0, none⟩, m, (by rw [List.length_replicate]), fun e => (by cases e), fun _ => ⟨w.heap.size, 0, rfl, by simp, fun i hi => (by
    rw [Nat.zero_add]
    refine (Row.ofZeros (w := w) (T := 27) (n := m) (z := .int .u32 0) rfl).cell ?_
    rw [List.length_replicate] at hi
    rw [List.getElem?_replicate_of_lt hi, List.getD, List.getElem?_replicate_of_lt hi]; rfl)⟩⟩
set_option maxHeartbeats 8000000 in
set_option maxRecDepth 20000 in
theorem walk (v : Value) (hs : List Int) (v2 : Value) (xs : List (List Int)) (w : World) (h0 : Src1 w v .i64 hs) (h2 : I64s w v2 4 xs) :
    Calls Try.prog 7 #[v, v2] w fun e w' => e = .returned (.bool true) ∧ Below w.heap.size w w' := by
  have h2k := h2
  obtain ⟨⟨ao, cap, rfl, hlc, -, -⟩, -⟩ := h2
  have KF := fine w v hs h0 ao xs.length cap
  cases hf : fineB hs xs.length with
  | false =>
    rw [hf] at KF
    have HF := Lib.hid KF
    clear KF hf h2k
    obtain ⟨a, c, rfl, -, -⟩ := h0
    go_enter Try.func7, Try.ntmps7
    go_wp2_with fail
    refine HF.out.mono ?_
    rintro e w' ⟨rfl, rfl⟩
    go_wp2_with fail
    refine (awake _).mono ?_
    rintro e w4 ⟨rfl, u4⟩
    go_wp2_with fail
    go_ret
    exact ⟨rfl, u4⟩
  | true =>
    rw [hf] at KF
    obtain ⟨n1, n8, hok, hl⟩ := fineB_true hf
    have HF := Lib.hid KF
    have HOPS := Lib.hid h2k
    have HSRC := Lib.hid h0
    clear KF hf h2k
    obtain ⟨a, c, rfl, -, hcell⟩ := h0
    obtain ⟨hb, off, rfl, hbw, hcell⟩ := hcell (by omega)
    clear hcell
    go_enter Try.func7, Try.ntmps7
    go_wp2_with fail
    refine HF.out.mono ?_
    rintro e w' ⟨rfl, rfl⟩
    go_wp2_with fail
    refine (Plan.newPl _ hs.length).mono ?_
    rintro e w1 ⟨pl, rfl, hpl, hB1⟩
    have hz1 := hB1.size
    go_wp2_with fail
    refine (Clh.new_yes _ pl (Mem.Btw w w1) hs.length [] [] hpl (by decide) _ hs (HSRC.out.below hB1) n1 (by omega) hok (by
      intro b hb9 h
      simp [Value.ownBlock] at hb9
      have := h.1; omega)).mono ?_
    rintro e w2 ⟨l, s, lb, pb, cap', rfl, ha, ⟨S', hp2, hS', s1, s2, s3, s4⟩, b1, b2, b3, b4, hu2⟩
    have hB2 : Below w.heap.size w w2 := hu2.below hB1 hz1 (fun i hi => hi.1)
    have hz2 := hB2.size
    go_wp2_with fail
    refine (Plan.portPl _ pl S' hs.length _ _ hp2 (by simp; omega) (WalkClhOrder.home2 hs n1 hok) (by intro y hy; simp at hy; omega) n1 (by omega)).mono ?_
    rintro e w3 ⟨p, rfl, hpo, hB3⟩
    have ha3 := ha.keep (Upd.of_below (S := fun _ => False) hB3) id id id id
    have hB4 := hB2.trans (hB3.mono hz2)
    have sep : ¬ Mem.Btw w2 w3 l ∧ ¬ Mem.Btw w2 w3 s ∧ ¬ Mem.Btw w2 w3 lb ∧ ¬ Mem.Btw w2 w3 pb :=
      ⟨fun h => by have := ha.top.lt; have := h.1; omega, fun h => by have := ha.seat.top.lt; have := h.1; omega, fun h => by have := ha.seat.row.lt; have := h.1; omega, fun h => by have := ha.plc.lt; have := h.1; omega⟩
    have hft : ∀ i, ft l s lb pb (Mem.Btw w2 w3) i → w.heap.size ≤ i := by
      intro i hi
      rcases hi with hi | rfl | rfl | rfl | rfl
      · have := hi.1; omega
      all_goals omega
    have hl3 : ∀ i, ft l s lb pb (Mem.Btw w2 w3) i → i < w3.heap.size := by
      intro i hi
      rcases hi with hi | rfl | rfl | rfl | rfl
      · exact hi.2
      · exact ha3.top.lt
      · exact ha3.seat.top.lt
      · exact ha3.seat.row.lt
      · exact ha3.plc.lt
    have hz4 := hB4.size
    go_wp2_with fail
    refine (Ref12.homesR _ _ hs (HSRC.out.below hB4) n1 (by omega)).mono ?_
    rintro e w4 ⟨v4, rfl, hsrc4, hB5⟩
    obtain ⟨a4, c4, rfl, -, hcell4⟩ := hsrc4
    obtain ⟨g4, o4, rfl, hg4, hcell4⟩ := hcell4 (by simp)
    have hpo4 := hpo.below hB5
    obtain ⟨mm, S1, q0, hm, -⟩ := hpo4.step
    obtain ⟨m, hmm⟩ : ∃ m, (([hs.getD 0 0, hs.getD 0 0] ++ hs : List Int)).length = m := ⟨_, rfl⟩
    have hm2 : m = hs.length + 2 := by rw [← hmm]; simp
    have HC4 := Lib.hid (fun (j : Nat) (hj : j < m) => hcell4 j (by rw [hmm]; exact hj))
    have HH4 : Hid (∀ j : Nat, j < m → Calls Try.prog 27 #[.pointer (some ⟨mm, 0, none⟩), .int .i64 j] w4 fun e w' => e = .returned (.int .i64 (([hs.getD 0 0, hs.getD 0 0] ++ hs : List Int).getD j 0)) ∧ w4 = w') := Lib.hid fun j hj => by
      have := Mem.homeO w4 mm S1 _ _ hm j
      rw [Mem.get_in (k := j) rfl (by rw [show (([] ++ [hs.getD 0 0, hs.getD 0 0] ++ hs : List Int)).length = m from hmm]; simp [Mem.inB]; omega)] at this
      exact this
    rw [hmm]
    have HM2 := Lib.hid hm2
    have hm17 : m ≤ 10 := by omega
    have hz5 := hB5.size
    clear hcell4 hm hp2 hpl hu2 hB1 ha hB2 hB3 hmm hm2
    go_wp2_with fail
    go_loop [52] (fun i => ∃ j : Nat, j ≤ m ∧ i = .int .i64 j) (fun i => m - (intOf i).toNat)
    case atStart => exact ⟨0, Nat.zero_le _, rfl⟩
    case round =>
      obtain ⟨j, hj, rfl⟩ := hrel
      by_cases hlt : j < m
      · have cj := HC4.out j hlt
        have KH := HH4.out j hlt
        obtain ⟨y, hy⟩ : ∃ y, ([hs.getD 0 0, hs.getD 0 0] ++ hs : List Int).getD j 0 = y := ⟨_, rfl⟩
        rw [hy] at cj KH
        have HKH := Lib.hid KH
        have hlt' : (j : Int) < (m : Int) := by omega
        have zz : (y != y) = false := by simp
        clear KH hy
        go_wp2_with fail
        refine HKH.out.mono ?_
        rintro e w' ⟨rfl, rfl⟩
        go_wp2_with fail
        go_round
        case rel => exact ⟨j + 1, by omega, by go_num⟩
        case measure => simp [intOf]; omega
      · obtain rfl : m = j := by omega
        have hmk := run_make_zeros (P := Try.prog) 53 27 (.int .u32 0) 4 Try.underlying53 info_u32 rfl m (by omega) (by omega)
        have HSL := Lib.hid (fun w' : World => src_made w' m)
        have HSL2 : Hid (∀ w' : World, Src1 (w'.alloc (.cells (zeros m (.int .u32 0)) 27)).drew (.slice (some ⟨w'.heap.size, 0, none⟩) m m) .u32 (List.replicate m 0)) := Lib.hid (fun w' => src_made w' m)
        have HP : Hid (∀ (x' sx sb db' pc nb cn ab y' : Nat) (w5 w6 : World) (R0 : Nat → Prop), Ref12.MAt x' sx sb db' pc nb cn ab w6 (List.replicate hs.length (0, -1)) (List.replicate hs.length 0) (Ref12.nds hs.length) (List.replicate hs.length 0) → Ref04.RO w6 y' R0 hs.length (List.replicate m 0) [] → Below w4.heap.size w4 w6 → (∀ i, Ref12.fm x' sx sb db' pc nb ab i → w4.heap.size ≤ i ∧ i < w5.heap.size) → (∀ i, R0 i → w5.heap.size ≤ i) → w4.heap.size ≤ w5.heap.size →
            Calls Try.prog 29 #[val l, .pointer (some ⟨p, 0, none⟩), mval x', .pointer (some ⟨y', 0, none⟩), .slice ao xs.length cap] w6 fun e w' => e = .returned (.bool true) ∧ Below w.heap.size w w' ∧ ∃ st : St, At w' l s lb pb cap' (.pointer (some ⟨p, 0, none⟩)) 0 st.seats st.pls ∧ st.seats.length = hs.length ∧ ∃ ol, Ref12.MAt x' sx sb db' pc nb cn ab w' st.seats (Ref12.pcl st) (Ref12.ndl st) ol) := Lib.hid (by
          intro x' sx sb db' pc nb cn ab y' w5 w6 R0 hmat hR hB46 hfmb hR0 h45
          have B36 := hB5.trans (hB46.mono hz5)
          have ha6 := ha3.keep (Upd.of_below (S := fun _ => False) B36) id id id id
          have hpo6 := hpo.below B36
          have hst : Ref12.pcl (st0 hs.length (List.replicate m 0)) = List.replicate hs.length 0 := by
            show (news hs.length).map (·.2.2) = _
            unfold news
            rw [List.map_map]
            exact List.ext_getElem (by simp) (fun i h1 h2 => by simp)
          have hsn : Ref12.ndl (st0 hs.length (List.replicate m 0)) = Ref12.nds hs.length := rfl
          have hw0 : ([] ++ [0, 0] ++ List.replicate hs.length (0 : Int)) = List.replicate m 0 := by rw [HM2.out, List.replicate_succ, List.replicate_succ]; rfl
          have hI := ClhP.start hs.length n8
          rw [hw0] at hI hpo6
          have KU : Calls Try.prog 18 #[.pointer (some ⟨l, 0, none⟩), .pointer (some ⟨p, 0, none⟩)] w6 fun e w' => e = .returned (.tuple #[]) ∧ (O l s lb pb cap' p (Mem.Btw w2 w3) hs.length ([] ++ [hs.getD 0 0, hs.getD 0 0] ++ hs) 0 w' 0 (st0 hs.length (List.replicate m 0)) ∧ (st0 hs.length (List.replicate m 0)).seats.length = hs.length) ∧ Upd (ft l s lb pb (Mem.Btw w2 w3)) w6 w' := by
            refine (useO ha6 hpo6 sep).mono ?_
            rintro e w' ⟨he, ho, hu⟩
            exact ⟨he, ⟨ho, by simp [st0]⟩, hu⟩
          refine (plays (y := y') (p := p) (SP := Mem.Btw w2 w3) (mach (hs := [] ++ [hs.getD 0 0, hs.getD 0 0] ++ hs) hs.length) (Ref12.modl (x := x') (sx := sx) (sb := sb) (db := db') (pc := pc) (nb := nb) (cn := cn) (ab := ab) hs.length) n8 (fun {wz b st} h => ⟨⟨_, h.1.port⟩, h.1.few, by rw [port_len h.1.port]; simp; omega⟩) (fun st t now => acc_step _ _ _ _ _ _) (fun i h1 h2 => by have := hl3 i h1; have := hfmb i h2; omega) _ xs hl w w6 HOPS.out (hB4.trans (B36.mono hz4)) hft (fun i h => by have := hfmb i h; omega) (st0 hs.length (List.replicate m 0)) ⟨⟨List.replicate hs.length 0, by rw [hst, hsn]; exact hmat, ?_⟩, ⟨_, _, hI⟩, Mem.Wd.zeros m, ?_⟩ R0 hR (fun i h => ⟨fun e => by have := hl3 i e; have := hR0 i h; omega, fun e => by have := hfmb i e; have := hR0 i h; omega, by have := hR0 i h; omega⟩) KU).mono fun e w' ⟨he, hB, b, st, ⟨ho, hlen⟩, ⟨ol, hm, _⟩, _⟩ => ⟨he, hB, st, ho.at_, hlen, ol, hm⟩
          · intro u hu
            exfalso
            have hsp : ClhP.sp (st0 hs.length (List.replicate m 0)) u = 0 := by
              unfold ClhP.sp st0
              by_cases h : u < hs.length
              · rw [news_get h]
              · simp [List.getD, news, h]
            rw [hsp] at hu; omega
          · intro u hu
            have : SeatP.stt (st0 hs.length (List.replicate m 0)).seats u = 0 := ClhP.stt0 _ _
            rw [this] at hu; omega)
        unfold val mval at HP
        have hm4 : (List.replicate m (0 : Int)).length ≤ 100000 := by rw [List.length_replicate]; have := HM2.out; omega
        have HM4 := Lib.hid hm4
        clear hm4
        have hm10 : (m : Int) = (hs.length : Int) + 2 := by have := HM2.out; omega
        have hwm : IntKind.i64.wrap ((hs.length : Int) + 2) = (m : Int) := by rw [hm10]; exact IntWalk.i64_in _ (by omega)
        have hwm2 : wrap64 ((hs.length : Int) + 2) = (m : Int) := by unfold wrap64; omega
        clear ha3 hpo hpo4 q0 HH4 HC4 hg4 hm17 hm10
        go_wp2_with fail
        refine (Ref12.newR _ hs.length n1 (by omega)).mono ?_
        rintro e w5 ⟨x', sx, sb, db', pc, nb, cn, ab, rfl, hmat, hfmb, hB6⟩
        have hfmb' : ∀ i, Ref12.fm x' sx sb db' pc nb ab i → w4.heap.size ≤ i ∧ i < w5.heap.size := fun i hi => ⟨hfmb i hi, hmat.lt i hi⟩
        go_wp2_with fail
        refine (Ref04.newR _ hs.length _ (List.replicate m 0) (HSL.out _) (by omega) HM4.out).mono ?_
        rintro e w6 ⟨y', rfl, hR6, hB7⟩
        have hB7' : Below w5.heap.size w5 w6 := ((Below.refl _ w5).alloc (Nat.le_refl _) (.cells (zeros m (.int .u32 0)) 27)).trans (hB7.mono (by simp))
        have hm6 := hmat.keep (Upd.of_below (S := fun _ => False) hB7') (fun _ _ => id)
        go_wp2_with fail
        refine (HP.out x' sx sb db' pc nb cn ab y' w5 w6 _ hm6 hR6 (hB6.trans (hB7'.mono hB6.size)) hfmb' (fun i hi => by have h9 := hi.1; simp at h9; omega) hB6.size).mono ?_
        rintro e w7 ⟨rfl, hB9, st, hat, hsl, ol, hma⟩
        clear HP hm6 hR6 hB7 hB7' hfmb hfmb' hmat hB6 HSL HSL2 hwm hwm2
        have HSLEN := Lib.hid hsl
        go_wp2_with fail
        go_loopw [86] (fun i wr => ∃ j : Nat, j ≤ hs.length ∧ i = .int .i64 j ∧ At wr l s lb pb cap' (.pointer (some ⟨p, 0, none⟩)) 0 st.seats st.pls ∧ Ref12.MAt x' sx sb db' pc nb cn ab wr st.seats (Ref12.pcl st) (Ref12.ndl st) ol ∧ Below w.heap.size w wr) (fun i _ => hs.length - (intOf i).toNat)
        case atStart => exact ⟨0, Nat.zero_le _, rfl, hat, hma, hB9⟩
        case round =>
          clear hat hma hB9
          obtain ⟨j, hj, rfl, hat, hma, hB9⟩ := hrel
          by_cases hlt : j < hs.length
          · have hlt' : (j : Int) < (hs.length : Int) := by omega
            have hjs : j < st.seats.length := by rw [hsl]; exact hlt
            have hjs' : (j : Int) < (st.seats.length : Int) := by omega
            have c3 := hma.top.cell (i := 3) rfl
            have n1' := hma.nrow.cell (Ref12.ii_get (t := j) (by rw [hma.l2]; exact hjs))
            have hat' := hat.keep ((Upd.refl (fun _ => False) wr).drewN 1) id id id id
            have hma' := hma.keep ((Upd.refl (fun _ => False) wr).drewN 1) (fun _ _ => id)
            have KN := nodeC hat' j hjs
            obtain ⟨y, hy⟩ : ∃ y, (st.pls.getD j (0, 0, 0)).1 = y := ⟨_, rfl⟩
            rw [Ref12.ndl_get, show ClhP.nd st j = y from hy] at n1'
            rw [hy] at KN
            have HKN := Lib.hid KN
            have zz : (y != y) = false := by simp
            have HB9 := Lib.hid (below_drewN hB9 1)
            clear hy KN hB9 hat hma
            go_wp2_with fail
            go_region_held3 (fun w' => w'.cell? ⟨x', 3, none⟩ = some (.slice (some ⟨nb, 0, none⟩) st.seats.length cn) ∧ w'.cell? ⟨nb, j, none⟩ = some (.int .i64 y)) (exact ⟨c3, n1'⟩)
              ((go_at_call 15; refine HKN.out.mono ?_; rintro e w8 ⟨rfl, rfl⟩))
            go_wp2_with fail
            go_round
            case rel => exact ⟨j + 1, by omega, by go_num, hat', hma', HB9.out⟩
            case measure => simp [intOf]; omega
          · obtain rfl : j = hs.length := by omega
            have KN := nodeN hat (-1) (.inl (by decide))
            have KM := nodeN hat (hs.length : Int) (.inr (by rw [hsl]; exact Int.le_refl _))
            have HKN := Lib.hid KN
            have HKM := Lib.hid KM
            clear KN KM
            go_wp2_with fail
            refine HKN.out.mono ?_
            rintro e w8 ⟨rfl, rfl⟩
            go_wp2_with fail
            refine HKM.out.mono ?_
            rintro e w8 ⟨rfl, rfl⟩
            go_wp2_with fail
            refine (awake _).mono ?_
            rintro e w8 ⟨rfl, u8⟩
            go_wp2_with fail
            go_ret
            exact ⟨rfl, hB9.trans (u8.mono hB9.size)⟩
end Go.Proofs.Ytgoaaijdlhhkkaa.WalkClhPlays
