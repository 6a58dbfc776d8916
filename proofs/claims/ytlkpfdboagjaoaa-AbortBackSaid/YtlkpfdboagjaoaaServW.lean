/- The laws' Served, walked for whatever lock makes headway. -/
import Derived.Test.YtlkpfdboagjaoaaServ
import Derived.Deep.QuietTactic
import Derived.Deep.CutRange
import Derived.Deep.CutBlock
import Derived.Deep.DeepMust
namespace Go.Proofs.Ytlkpfdboagjaoaa.Mach
open Go Go.RowKit Go.Proofs.Ytlkpfdboagjaoaa.Heap Go.Proofs.Ytlkpfdboagjaoaa.Open Go.Proofs.Ytlkpfdboagjaoaa.Seat

theorem fill_set (c : Int) (k : Nat) (hk : k < 8) : (List.replicate k c ++ List.replicate (8 - k) 0).set k c = List.replicate (k + 1) c ++ List.replicate (8 - (k + 1)) 0 := by
  have e2 : 8 - k = (8 - (k + 1)) + 1 := by omega
  rw [List.set_append_right _ _ (by simp), List.length_replicate, Nat.sub_self, e2, List.replicate_succ, List.set_cons_zero, List.replicate_succ', List.append_assoc]
  rfl
theorem fill_get (c : Int) (k : Nat) (hk : k < 8) : (List.replicate k c ++ List.replicate (8 - k) 0).getD k 0 = 0 := by
  rw [List.getD, List.getElem?_append_right (by simp), List.length_replicate, Nat.sub_self]
  have e2 : 8 - k = (8 - (k + 1)) + 1 := by omega
  rw [e2, List.replicate_succ]; rfl

/-- Where all are served. -/
structure SEnd {σ : Type} (n : Nat) (seats : σ → List (Int × Int)) (O : World → Nat → σ → Prop) (Inv : σ → List Int → List Int → Prop) (w : World) : Prop where
  ex : ∃ (b : Nat) (st : σ) (lf gr : List Int), O w b st ∧ Inv st lf gr ∧ ∀ t : Nat, t < n → state (seats st) t = 0
set_option maxHeartbeats 16000000 in
set_option maxRecDepth 100000 in
theorem servedO {σ : Type} {l s : Nat} {td pd : Bool} {ft : Nat → Prop} {n : Nat} {seats : σ → List (Int × Int)} {setS : σ → List (Int × Int) → σ} {step : σ → Int → Int → Int → Did × σ} {O : World → Nat → σ → Prop} (M : Mach l s td pd ft n seats setS step O)
    (n1 : 1 ≤ n) (hn : n ≤ 8) (calls : Nat) (hc : calls ≤ 20) {Inv : σ → List Int → List Int → Prop} {μ : σ → List Int → Nat} {En : σ → List Int → Nat → Prop} (S : Serves td n seats setS step calls Inv μ En) (p : Nat) (st0 : σ)
    (h0 : Inv st0 (List.replicate n (calls : Int) ++ List.replicate (8 - n) 0) (List.replicate 8 0)) (hμ : μ st0 (List.replicate n (calls : Int) ++ List.replicate (8 - n) 0) < 100 * (n + 1) * (calls + 1)) (w0 w : World) (hw : Below w0.heap.size w0 w) (hft : ∀ i, ft i → w0.heap.size ≤ i)
    (hU : Calls Try.prog 37 #[.pointer (some ⟨l, 0, none⟩), .pointer (some ⟨p, 0, none⟩)] w fun e w' => e = .returned (.tuple #[]) ∧ O w' 0 st0 ∧ Upd ft w w') :
    Calls Try.prog 24 #[val l, .pointer (some ⟨p, 0, none⟩), .int .i64 calls] w fun e w' => e = .returned (.bool true) ∧ Below w0.heap.size w0 w' ∧ SEnd n seats O Inv w' := by
  have qu := m_use l w
  have hn8 : (n : Int) ≤ 8 := by omega
  have hn1 : (1 : Int) ≤ n := by omega
  have hc20 : (calls : Int) ≤ 20 := by omega
  unfold val
  go_enter Try.func24, Try.ntmps24
  go_wp2_with fail
  refine hU.mono ?_
  rintro e w1 ⟨rfl, hO, hu⟩
  have hB1 := hu.below hw hw.size hft
  have hO1 := M.keep hO (((Upd.refl (fun _ => False) w1).alloc (.cells #[.int .i64 0, .int .i64 0, .int .i64 0, .int .i64 0, .int .i64 0, .int .i64 0, .int .i64 0, .int .i64 0] 45)).alloc (.cells #[.int .i64 0, .int .i64 0, .int .i64 0, .int .i64 0, .int .i64 0, .int .i64 0, .int .i64 0, .int .i64 0] 45)) (fun _ _ => id)
  have hlf : Row ((w1.alloc (.cells #[.int .i64 0, .int .i64 0, .int .i64 0, .int .i64 0, .int .i64 0, .int .i64 0, .int .i64 0, .int .i64 0] 45)).alloc (.cells #[.int .i64 0, .int .i64 0, .int .i64 0, .int .i64 0, .int .i64 0, .int .i64 0, .int .i64 0, .int .i64 0] 45)) w1.heap.size (ints .i64 (List.replicate 0 (calls : Int) ++ List.replicate (8 - 0) 0)) := (Row.new' rfl).alloc _
  have hgr : Row ((w1.alloc (.cells #[.int .i64 0, .int .i64 0, .int .i64 0, .int .i64 0, .int .i64 0, .int .i64 0, .int .i64 0, .int .i64 0] 45)).alloc (.cells #[.int .i64 0, .int .i64 0, .int .i64 0, .int .i64 0, .int .i64 0, .int .i64 0, .int .i64 0, .int .i64 0] 45)) (w1.heap.size + 1) (ints .i64 (List.replicate 8 0)) := Row.new' (by simp)
  have hB2 := (hB1.alloc hB1.size (.cells #[.int .i64 0, .int .i64 0, .int .i64 0, .int .i64 0, .int .i64 0, .int .i64 0, .int .i64 0, .int .i64 0] 45)).alloc (by have := hB1.size; simp; omega) (.cells #[.int .i64 0, .int .i64 0, .int .i64 0, .int .i64 0, .int .i64 0, .int .i64 0, .int .i64 0, .int .i64 0] 45)
  have ml := m_len l s _ (M.ptr hO1)
  have hfA : ∀ i, ft i → i < w1.heap.size := M.lt hO
  have hwA : w0.heap.size ≤ w1.heap.size := hB1.size
  clear qu hO hu
  go_wp2_with fail
  refine (M.lenC hO1).mono ?_
  rintro e w2 ⟨rfl, rfl⟩
  obtain ⟨A, hA⟩ : ∃ A, w1.heap.size = A := ⟨_, rfl⟩
  obtain ⟨W2, hW2⟩ : ∃ W, ((w1.alloc (.cells #[.int .i64 0, .int .i64 0, .int .i64 0, .int .i64 0, .int .i64 0, .int .i64 0, .int .i64 0, .int .i64 0] 45)).alloc (.cells #[.int .i64 0, .int .i64 0, .int .i64 0, .int .i64 0, .int .i64 0, .int .i64 0, .int .i64 0, .int .i64 0] 45)) = W := ⟨_, rfl⟩
  rw [hW2] at hO1 hlf hgr hB2 ⊢
  rw [hA] at hlf hgr hfA hwA ⊢
  clear ml hW2 hA hB1
  go_wp2_with fail
  go_loopw [27] (fun i wr => ∃ k : Nat, k ≤ n ∧ i = .int .i64 k ∧ O wr 0 st0 ∧ Row wr A (ints .i64 (List.replicate k (calls : Int) ++ List.replicate (8 - k) 0)) ∧ Row wr (A + 1) (ints .i64 (List.replicate 8 0)) ∧ Below w0.heap.size w0 wr) (fun i _ => n - (intOf i).toNat)
  case atStart => exact ⟨0, Nat.zero_le _, rfl, hO1, hlf, hgr, hB2⟩
  case round =>
    obtain ⟨k, hk, rfl, hO, hlf, hgr, hB⟩ := hrel
    clear hO1 hB2
    by_cases hkn : k < n
    · have hk8 : (k : Int) < 8 := by omega
      have hkn' : (k : Int) < (n : Int) := by omega
      have c0 := hlf.cell (ints_get (k := .i64) (i := k) (xs := List.replicate k (calls : Int) ++ List.replicate (8 - k) 0) (by simp; omega))
      rw [fill_get _ _ (by omega)] at c0
      have f0 := hlf.frozen k
      have h2 := hlf.set k (.int .i64 calls)
      rw [← ints_set, fill_set _ _ (by omega)] at h2
      have up := Upd.one wr A k (.int .i64 calls)
      clear hlf
      go_wp2_with fail
      go_roundw
      case rel => exact ⟨k + 1, by omega, by go_num, M.keep hO up (fun i hi e => by have := hfA i hi; omega), h2, hgr.upd up (by omega), up.below hB hB.size (by omega)⟩
      case measure => simp [intOf]; omega
    · obtain rfl : k = n := by omega
      have hbd : (100 * ((k : Int) + 1)) * ((calls : Int) + 1) = ((100 * (k + 1) * (calls + 1) : Nat) : Int) := by simp
      have hbd2 : 100 * (k + 1) * (calls + 1) ≤ 100 * (8 + 1) * (20 + 1) := Nat.mul_le_mul (Nat.mul_le_mul_left _ (by omega)) (by omega)
      have hbd3 : (100 * ((k : Int) + 1)) * ((calls : Int) + 1) ≤ 18900 := by rw [hbd]; omega
      have hbd4 : 0 ≤ (100 * ((k : Int) + 1)) * ((calls : Int) + 1) := by rw [hbd]; omega
      clear hbd
      go_wp2_with fail
      obtain ⟨Bd, hBd⟩ : ∃ z : Nat, 100 * (k + 1) * (calls + 1) = z := ⟨_, rfl⟩
      have hbd : (100 * ((k : Int) + 1)) * ((calls : Int) + 1) = (Bd : Int) := by rw [← hBd]; simp
      rw [hbd]
      rw [hBd] at hμ hbd2
      clear hbd hbd3 hbd4 hBd
      have HI0 := Lib.hid h0
      have HM0 := Lib.hid hμ
      go_loopw [40] (fun i wr => ∃ j : Nat, j ≤ Bd ∧ i = .int .i64 j ∧ ∃ (b : Nat) (st : σ) (lf gr : List Int), b ≤ 8 * j ∧ O wr b st ∧ Hid (Inv st lf gr) ∧ Row wr A (ints .i64 lf) ∧ Row wr (A + 1) (ints .i64 gr) ∧ Below w0.heap.size w0 wr ∧ Hid (μ st lf + j < Bd)) (fun i _ => Bd - (intOf i).toNat)
      case atStart => exact ⟨0, Nat.zero_le _, rfl, 0, st0, _, _, by omega, hO, HI0, hlf, hgr, hB, HM0⟩
      case round =>
        obtain ⟨j, hj, rfl, b, st, lf, gr, hb, hO, hI, hlf, hgr, hB, hm⟩ := hrel
        clear h0 hμ HI0 HM0
        have hjB : j < Bd := by have := hm.out; omega
        have hjB' : (j : Int) < (Bd : Int) := by omega
        have HS := Lib.hid (S.start st lf gr hI.out)
        go_wp2_with fail
        go_loopw [11, 43] (fun s11 i wi => ∃ t : Nat, t ≤ k ∧ i = .int .i64 t ∧ ∃ (b' : Nat) (st' : σ) (lf' gr' : List Int) (bf : Bool), s11 = .bool bf ∧ b' ≤ 8 * j + t ∧ O wi b' st' ∧ Hid (Inv st' lf' gr') ∧ Row wi A (ints .i64 lf') ∧ Row wi (A + 1) (ints .i64 gr') ∧ Below w0.heap.size w0 wi ∧ Hid (Mid k seats μ En st lf st' lf' bf t)) (fun _ i _ => k - (intOf i).toNat)
        case atStart => exact ⟨0, Nat.zero_le _, rfl, b, st, lf, gr, false, rfl, by omega, hO, hI, hlf, hgr, hB, HS⟩
        case round =>
          obtain ⟨t, ht, rfl, b', st', lf', gr', bf, rfl, hb', hO', hI', hlf', hgr', hB', hm'⟩ := hrel
          by_cases htk : t < k
          · have htk' : (t : Int) < (k : Int) := by omega
            have ht8 : (t : Int) < 8 := by omega
            obtain ⟨hll, hgl⟩ := S.len _ _ _ hI'.out
            have hlow := S.low _ _ _ hI'.out t
            have HOK := Lib.hid (S.ok _ _ _ t hI'.out htk)
            have HINV := Lib.hid (S.inv _ _ _ t hI'.out htk)
            have htl : t < (seats st').length := by rw [M.len hO']; exact htk
            have c0 := hlf'.cell (ints_get (k := .i64) (i := t) (xs := lf') (by omega))
            have f0 := hlf'.frozen t
            have mp := M.ptr hO'
            have ms := m_state l s wr mp
            have mk := m_lock l s wr mp
            have KS := M.stateC hO' (t : Int)
            have KL := M.lockC hO' (t : Int) (-1)
            have HPRE := Lib.hid (show pre td seats setS st' lf' t = if state (seats st') t = 0 ∧ 0 < lf'.getD t 0 then (setS st' (lock (seats st') td t (-1)).2, lf'.set t (lf'.getD t 0 - 1)) else (st', lf') from rfl)
            have HLI := Lib.hid (lock_idle (seats st') td t htl)
            obtain ⟨z, hz⟩ : ∃ z, state (seats st') (t : Int) = z := ⟨_, rfl⟩
            obtain ⟨x, hx⟩ : ∃ x, lf'.getD t 0 = x := ⟨_, rfl⟩
            rw [hz] at KS HPRE HLI
            rw [hx] at c0 HPRE hlow
            have HKS := Lib.hid KS
            have HR := Lib.hid (fun st2 lf2 gr2 e => S.round st lf st' lf' gr' bf t htk hI'.out hm'.out st2 lf2 gr2 e)
            obtain ⟨st1, lf1, hpre⟩ : ∃ a b, pre td seats setS st' lf' t = (a, b) := ⟨_, _, rfl⟩
            have hlf1 := ints_set (k := .i64) lf' t (x - 1)
            clear hz hx KS mp
            go_upto_region 17 with (fail)
            go_cut [55] from 46 to 64 (fun s55 wx => wx = wr ∧ s55 = .bool (decide (z = 0 ∧ 0 < x)))
            case first =>
              clear KL
              by_cases hz0 : z = 0
              · subst hz0
                go_wp2_with fail
                refine HKS.out.mono ?_
                rintro e w3 ⟨rfl, rfl⟩
                go_wp2_with fail
                go_meet
                case rel => exact ⟨rfl, by simp⟩
              · have hz0' : (z == 0) = false := by simpa using hz0
                have HZ0 := Lib.hid hz0
                clear hz0
                go_wp2_with fail
                refine HKS.out.mono ?_
                rintro e w3 ⟨rfl, rfl⟩
                go_wp2_with fail
                go_meet
                case rel => exact ⟨rfl, by simp [HZ0.out]⟩
            case rest =>
            obtain ⟨hwc, hs55⟩ := hcut
            subst hwc hs55
            obtain ⟨bq, hbq⟩ : ∃ bq, decide (z = 0 ∧ 0 < x) = bq := ⟨_, rfl⟩
            rw [hbq]
            have HBQ := Lib.hid hbq
            clear hbq HKS
            go_upto_if 55 with (fail)
            go_cut [] from 56 to 64 (fun wx => O wx b' st1 ∧ Row wx A (ints .i64 lf1) ∧ Row wx (A + 1) (ints .i64 gr') ∧ Below w0.heap.size w0 wx)
            case first =>
              cases bq with
              | true =>
                have hzx := of_decide_eq_true HBQ.out
                have hp := HPRE.out
                rw [if_pos hzx, hpre] at hp
                have h1 : st1 = setS st' (lock (seats st') td t (-1)).2 := congrArg Prod.fst hp
                have h2 : lf1 = lf'.set t (x - 1) := congrArg Prod.snd hp
                have hl0 := HLI.out hzx.1
                rw [hl0] at KL
                have HKL := Lib.hid KL
                have H1 := Lib.hid h1
                have H2 := Lib.hid h2
                have HL1 := Lib.hid hlf1
                clear hp h1 h2 hl0 KL hlf1 hpre hzx
                go_wp2_with fail
                refine HKL.out.mono ?_
                rintro e w4 ⟨rfl, hO4, hu4⟩
                have hlf4 := hlf'.upd hu4 (fun e => by have := hfA _ e; omega)
                have hgr4 := hgr'.upd hu4 (fun e => by have := hfA _ e; omega)
                have hB4 := hu4.below hB' hB'.size hft
                have c4 : w4.cell? ⟨A, t, none⟩ = some (.int .i64 x) := by
                  have e := hu4.block A hlf'.lt (fun e => by have := hfA _ e; omega)
                  have c := c0
                  simp only [World.cell?] at c ⊢
                  rw [e]; exact c
                have f4 := hlf4.frozen t
                have up := Upd.one w4 A t (.int .i64 (x - 1))
                have h5 := hlf4.set t (.int .i64 (x - 1))
                rw [← HL1.out, ← H2.out] at h5
                clear hlf4 hu4 hlf' hgr' c0 f0
                go_wp2_with fail
                go_meet
                case rel => exact ⟨by rw [H1.out]; exact M.keep hO4 up (fun i hi e => by have := hfA i hi; omega), h5, hgr4.upd up (by omega), up.below hB4 hB4.size (by omega)⟩
              | false =>
                have hzx := of_decide_eq_false HBQ.out
                have hp := HPRE.out
                rw [if_neg hzx, hpre] at hp
                have h1 : st1 = st' := congrArg Prod.fst hp
                have h2 : lf1 = lf' := congrArg Prod.snd hp
                have H1 := Lib.hid h1
                have H2 := Lib.hid h2
                clear hp h1 h2 KL hlf1 hpre hzx
                go_wp2_with fail
                go_meet
                case rel => exact ⟨by rw [H1.out]; exact hO', by rw [H2.out]; exact hlf', hgr', hB'⟩
            case rest =>
              have HTICK := Lib.hid (show tick td seats setS step st' lf' gr' t = ((post seats setS (step st1 t t 0).1 (step st1 t t 0).2 gr' t).1, lf1, (post seats setS (step st1 t t 0).1 (step st1 t t 0).2 gr' t).2) by unfold tick; rw [hpre])
              have hok := HOK.out
              rw [hpre] at hok
              obtain ⟨hO5, hlf5, hgr5, hB5⟩ := hcut
              obtain ⟨w5, hw5⟩ : ∃ w5, wc = w5 := ⟨_, rfl⟩
              rw [hw5] at hO5 hlf5 hgr5 hB5 ⊢
              have HB8 := Lib.hid (show 18900 ≤ 100 * (8 + 1) * (20 + 1) by omega)
              have mst := m_step l w5
              have KS5 := M.stepC hO5 (by omega) (t : Int) (t : Int) 0
              obtain ⟨rs, hrs⟩ : ∃ r, step st1 t t 0 = r := ⟨_, rfl⟩
              rw [hrs] at KS5 HTICK hok
              obtain ⟨⟨ev, enq, arr, lead⟩, st2⟩ := rs
              have HK5 := Lib.hid KS5
              have HOK5 := Lib.hid hok
              clear hw5 hpre hrs KS5 hok hO' hlf' hgr' hB' c0 f0 ms mk KL HPRE HLI hlf1 HOK HBQ
              go_wp2_with fail
              refine HK5.out.mono ?_
              rintro e w6 ⟨rfl, hO6, hu6⟩
              have hlf6 := hlf5.upd hu6 (fun e => by have := hfA _ e; omega)
              have hgr6 := hgr5.upd hu6 (fun e => by have := hfA _ e; omega)
              have hB6 := hu6.below hB5 hB5.size hft
              unfold didv
              clear hO5 hlf5 hgr5 hB5 hu6 mst HK5
              go_upto_if 71 with (fail)
              have hO7 := M.keep hO6 ((Upd.refl (fun _ => False) w6).alloc (.cells #[.int .i64 ev, .bool enq, .bool arr, .bool lead] 51)) (fun _ _ => id)
              have hlf7 := hlf6.alloc (.cells #[.int .i64 ev, .bool enq, .bool arr, .bool lead] 51)
              have hgr7 := hgr6.alloc (.cells #[.int .i64 ev, .bool enq, .bool arr, .bool lead] 51)
              have hD7 : Row (w6.alloc (.cells #[.int .i64 ev, .bool enq, .bool arr, .bool lead] 51)) w6.heap.size [.int .i64 ev, .bool enq, .bool arr, .bool lead] := Row.new' rfl
              have hB7 := hB6.alloc hB6.size (.cells #[.int .i64 ev, .bool enq, .bool arr, .bool lead] 51)
              obtain ⟨st3, gr3, hpost⟩ : ∃ a c, post seats setS (ev, enq, arr, lead) st2 gr' t = (a, c) := ⟨_, _, rfl⟩
              rw [hpost] at HTICK
              have hpost' : post seats setS (ev, enq, arr, lead) st2 gr' t = if ev = 1 then (setS st2 (turn (seats st2) t 3).2, gr'.set t (gr'.getD t 0 + 1)) else (st2, gr') := rfl
              rw [hpost] at hpost'
              have hgl3 := ints_set (k := .i64) gr' t (gr'.getD t 0 + 1)
              obtain ⟨y, hy⟩ : ∃ y, gr'.getD t 0 = y := ⟨_, rfl⟩
              rw [hy] at hpost' hlow hgl3
              have c7 := hgr7.cell (ints_get (k := .i64) (i := t) (xs := gr') (by omega))
              rw [hy] at c7
              have f7 := hgr7.frozen t
              have HPO := Lib.hid hpost'
              have HG3 := Lib.hid hgl3
              have KU := M.unlockC hO7 (t : Int)
              obtain ⟨W7, hW7⟩ : ∃ W, w6.alloc (.cells #[.int .i64 ev, .bool enq, .bool arr, .bool lead] 51) = W := ⟨_, rfl⟩
              obtain ⟨D, hD⟩ : ∃ D, w6.heap.size = D := ⟨_, rfl⟩
              have hDA : A + 1 < w6.heap.size := hgr6.lt
              rw [hW7] at hO7 hlf7 hgr7 hD7 hB7 c7 f7 KU ⊢
              rw [hD] at hD7 hDA ⊢
              have d0 := hD7.cell (i := 0) rfl
              have up7 := Upd.one W7 (A + 1) t (.int .i64 (y + 1))
              have h7' := hgr7.set t (.int .i64 (y + 1))
              have hlf8 := hlf7.upd up7 (by omega)
              have hO8 := M.keep hO7 up7 (fun i hi e => by have := hfA i hi; omega)
              have hB8 := up7.below hB7 hB7.size (by omega)
              have KU8 := M.unlockC hO8 (t : Int)
              have mu := m_unlock l s (W7.setCell ⟨A + 1, t, none⟩ (.int .i64 (y + 1))) (M.ptr hO8)
              have HUP := Lib.hid hU
              clear hW7 hD hO6 hlf6 hgr6 hB6 hpost' hgl3 hpost hy KU up7
              go_cut [] from 71 to 80 (fun wx => O wx (b' + 1) st3 ∧ Row wx A (ints .i64 lf1) ∧ Row wx (A + 1) (ints .i64 gr3) ∧ Below w0.heap.size w0 wx)
              case first =>
                by_cases hev : ev = 1
                · have hp := HPO.out
                  rw [if_pos hev] at hp
                  have h1 : st3 = setS st2 (turn (seats st2) t 3).2 := congrArg Prod.fst hp
                  have h2 : gr3 = gr'.set t (y + 1) := congrArg Prod.snd hp
                  have H1 := Lib.hid h1
                  have H2 := Lib.hid h2
                  have hk0 : (turn (seats st2) t 3).1 = 0 := HOK5.out hev
                  rw [hk0] at KU8
                  have HKU := Lib.hid KU8
                  rw [← HG3.out, ← h2] at h7'
                  subst hev
                  clear hp h1 h2 hk0 KU8
                  go_wp2_with fail
                  refine HKU.out.mono ?_
                  rintro e w9 ⟨rfl, hO9, hu9⟩
                  go_wp2_with fail
                  go_meet
                  case rel => exact ⟨by rw [H1.out]; exact hO9, hlf8.upd hu9 (fun e => by have := hfA _ e; omega), h7'.upd hu9 (fun e => by have := hfA _ e; omega), hu9.below hB8 hB8.size hft⟩
                · have hp := HPO.out
                  rw [if_neg hev] at hp
                  have h1 : st3 = st2 := congrArg Prod.fst hp
                  have h2 : gr3 = gr' := congrArg Prod.snd hp
                  have H1 := Lib.hid h1
                  have H2 := Lib.hid h2
                  have hev' : (ev == 1) = false := by simpa using hev
                  clear hp h1 h2 KU8 hev
                  go_wp2_with fail
                  go_meet
                  case rel => exact ⟨by rw [H1.out]; exact hO7, hlf7, by rw [H2.out]; exact hgr7, hB7⟩
              case rest =>
                obtain ⟨hO9, hlf9, hgr9, hB9⟩ := hcut
                obtain ⟨w9, hw9⟩ : ∃ w9, wc = w9 := ⟨_, rfl⟩
                rw [hw9] at hO9 hlf9 hgr9 hB9 ⊢
                have hr9 := HR.out st3 lf1 gr3 HTICK.out
                have hi9 := HINV.out
                rw [HTICK.out] at hi9
                have hll9 : lf1.length = 8 := (S.len _ _ _ hi9).1
                have HR9 := Lib.hid hr9
                have HI9 := Lib.hid hi9
                have c9 := hlf9.cell (ints_get (k := .i64) (i := t) (xs := lf1) (by omega))
                have ms9 := m_state l s w9 (M.ptr hO9)
                have KS9 := M.stateC hO9 (t : Int)
                obtain ⟨x9, hx9⟩ : ∃ x, lf1.getD t 0 = x := ⟨_, rfl⟩
                obtain ⟨z9, hz9⟩ : ∃ z, state (seats st3) (t : Int) = z := ⟨_, rfl⟩
                rw [hx9] at c9 HR9
                rw [hz9] at KS9 HR9
                have HKS9 := Lib.hid KS9
                clear hw9 hr9 hi9 HR HINV hx9 hz9 KS9 hO7 hlf7 hgr7 hD7 hB7 c7 f7 d0 h7' hlf8 hO8 hB8 KU8 mu HTICK HOK5 HPO HG3
                cases bf with
                | true =>
                  rw [Bool.true_or, Bool.true_or] at HR9
                  go_wp2_with fail
                  go_roundw
                  case rel => exact ⟨t + 1, by omega, by go_num, b' + 1, st3, lf1, gr3, true, rfl, by omega, hO9, HI9, hlf9, hgr9, hB9, HR9⟩
                  case measure => simp [intOf]; omega
                | false =>
                  by_cases hx0 : 0 < x9
                  · rw [decide_eq_true hx0, Bool.or_true, Bool.true_or] at HR9
                    go_wp2_with fail
                    go_roundw
                    case rel => exact ⟨t + 1, by omega, by go_num, b' + 1, st3, lf1, gr3, true, rfl, by omega, hO9, HI9, hlf9, hgr9, hB9, HR9⟩
                    case measure => simp [intOf]; omega
                  · rw [decide_eq_false hx0, Bool.or_false, Bool.false_or] at HR9
                    have hx1 : x9 ≤ 0 := by omega
                    have hx2 : decide (0 < x9) = false := decide_eq_false hx0
                    clear hx0
                    by_cases hz0 : z9 = 0
                    · subst hz0
                      rw [decide_eq_false (by simp)] at HR9
                      go_wp2_with fail
                      refine HKS9.out.mono ?_
                      rintro e w3 ⟨rfl, rfl⟩
                      go_wp2_with fail
                      go_roundw
                      case rel => exact ⟨t + 1, by omega, by go_num, b' + 1, st3, lf1, gr3, false, rfl, by omega, hO9, HI9, hlf9, hgr9, hB9, HR9⟩
                      case measure => simp [intOf]; omega
                    · have hz0' : (z9 != 0) = true := by simpa using hz0
                      rw [decide_eq_true hz0] at HR9
                      clear hz0
                      go_wp2_with fail
                      refine HKS9.out.mono ?_
                      rintro e w3 ⟨rfl, rfl⟩
                      go_wp2_with fail
                      go_roundw
                      case rel => exact ⟨t + 1, by omega, by go_num, b' + 1, st3, lf1, gr3, true, rfl, by omega, hO9, HI9, hlf9, hgr9, hB9, HR9⟩
                      case measure => simp [intOf]; omega
          · obtain rfl : t = k := by omega
            cases bf with
            | true =>
              have hd := hm'.out.busy
              have hm1 := hm.out
              have HD := Lib.hid (show μ st' lf' + (j + 1) < Bd by omega)
              clear hd hm1
              go_wp2_with fail
              go_roundw
              case rel => exact ⟨j + 1, by omega, by go_num, b', st', lf', gr', by omega, hO', hI', hlf', hgr', hB', HD⟩
              case measure => simp [intOf]; omega
            | false =>
              have hfree := hm'.out.free
              have hdone := S.done _ _ _ hI'.out hfree
              have HF := Lib.hid hfree
              have HDN := Lib.hid hdone
              clear hfree hdone HS hm hm' hI hO hlf hgr hB
              go_wp2_with fail
              go_loop [99] (fun i => ∃ q : Nat, q ≤ t ∧ i = .int .i64 q) (fun i => t - (intOf i).toNat)
              case atStart => exact ⟨0, Nat.zero_le _, rfl⟩
              case round =>
                obtain ⟨q, hq, rfl⟩ := hrel
                by_cases hqt : q < t
                · have hqt' : (q : Int) < (t : Int) := by omega
                  have hq8 : (q : Int) < 8 := by omega
                  have hgl := (S.len _ _ _ hI'.out).2
                  have c9 := hgr'.cell (ints_get (k := .i64) (i := q) (xs := gr') (by omega))
                  rw [HDN.out q hqt] at c9
                  have ms9 := m_state l s wr (M.ptr hO')
                  have KS9 := M.stateC hO' (q : Int)
                  have hz : state (seats st') (q : Int) = 0 := Decidable.byContradiction fun hz => HF.out ⟨q, hqt, .inr hz⟩
                  rw [hz] at KS9
                  have HKS9 := Lib.hid KS9
                  clear KS9 hz
                  go_wp2_with fail
                  refine HKS9.out.mono ?_
                  rintro e w3 ⟨rfl, rfl⟩
                  go_wp2_with fail
                  go_round
                  case rel => exact ⟨q + 1, by omega, by go_num⟩
                  case measure => simp [intOf]; omega
                · go_wp2_with fail
                  go_ret
                  exact ⟨rfl, hB', ⟨b', st', lf', gr', hO', hI'.out, fun q hq => Decidable.byContradiction fun hz => HF.out ⟨q, hq, .inr hz⟩⟩⟩
theorem served {σ : Type} {l s : Nat} {td pd : Bool} {ft : Nat → Prop} {n : Nat} {seats : σ → List (Int × Int)} {setS : σ → List (Int × Int) → σ} {step : σ → Int → Int → Int → Did × σ} {O : World → Nat → σ → Prop} (M : Mach l s td pd ft n seats setS step O)
    (n1 : 1 ≤ n) (hn : n ≤ 8) (calls : Nat) (hc : calls ≤ 20) {Inv : σ → List Int → List Int → Prop} {μ : σ → List Int → Nat} {En : σ → List Int → Nat → Prop} (S : Serves td n seats setS step calls Inv μ En) (p : Nat) (st0 : σ)
    (h0 : Inv st0 (List.replicate n (calls : Int) ++ List.replicate (8 - n) 0) (List.replicate 8 0)) (hμ : μ st0 (List.replicate n (calls : Int) ++ List.replicate (8 - n) 0) < 100 * (n + 1) * (calls + 1)) (w0 w : World) (hw : Below w0.heap.size w0 w) (hft : ∀ i, ft i → w0.heap.size ≤ i)
    (hU : Calls Try.prog 37 #[.pointer (some ⟨l, 0, none⟩), .pointer (some ⟨p, 0, none⟩)] w fun e w' => e = .returned (.tuple #[]) ∧ O w' 0 st0 ∧ Upd ft w w') :
    Calls Try.prog 24 #[val l, .pointer (some ⟨p, 0, none⟩), .int .i64 calls] w fun e w' => e = .returned (.bool true) ∧ Below w0.heap.size w0 w' :=
  (servedO M n1 hn calls hc S p st0 h0 hμ w0 w hw hft hU).mono fun _ _ h => ⟨h.1, h.2.1⟩
end Go.Proofs.Ytlkpfdboagjaoaa.Mach
