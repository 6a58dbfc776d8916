/- The laws' Ordered, walked for whatever lock keeps an invariant with a queue. -/
import Derived.Test.YtlkpfdboagjaoaaMach
import Derived.Deep.QuietTactic
import Derived.Deep.CutRange
import Derived.Deep.CutBlock
import Derived.Deep.DeepMust
namespace Go.Proofs.Ytlkpfdboagjaoaa.Mach
open Go Go.RowKit Go.Proofs.Ytlkpfdboagjaoaa.Heap Go.Proofs.Ytlkpfdboagjaoaa.Open Go.Proofs.Ytlkpfdboagjaoaa.Seat

/-- The queue behind a step. -/
def queue1 (q : List Int) (t : Int) (d : Did) : List Int := if d.2.1 = true then q ++ [t] else q
def queue2 (q : List Int) (t : Int) (d : Did) : List Int := if d.1 = 1 ∨ d.1 = 2 then (queue1 q t d).filter (· != t) else queue1 q t d
/-- How many hold the lock, of the first k. -/
def holders (l : List (Int × Int)) (k : Nat) : Nat := (l.take k).countP fun p => decide (p.1 = 2)
theorem holders_next (l : List (Int × Int)) (k : Nat) (h : k < l.length) : holders l (k + 1) = holders l k + if (l.getD k (0, -1)).1 = 2 then 1 else 0 := by
  unfold holders
  rw [List.take_succ_eq_append_getElem h, List.countP_append, getD_lt _ _ _ h]
  congr 1
  by_cases e : (l[k]).1 = 2
  · simp [e]
  · simp [e]
theorem holders_le (l : List (Int × Int)) (k : Nat) : holders l k ≤ k := Nat.le_trans List.countP_le_length (List.length_take_le _ _)
/-- What an ordered lock keeps. -/
structure Keeps {σ : Type} (td pd : Bool) (n : Nat) (seats : σ → List (Int × Int)) (setS : σ → List (Int × Int) → σ) (step : σ → Int → Int → Int → Did × σ) (Inv : σ → List Int → Prop) : Prop where
  lock : ∀ st q t d, Inv st q → Inv (setS st (Seat.lock (seats st) td t d).2) q
  unlock : ∀ st q t, Inv st q → Inv (setS st (turn (seats st) t 3).2) q
  probe : ∀ st q t, Inv st q → Inv (setS st (Seat.probe (seats st) pd t).2) q
  step : ∀ st q t now, Inv st q → ((step st t t now).1.1 = 1 → (queue1 q t (step st t t now).1).head? = some t) ∧ Inv (step st t t now).2 (queue2 q t (step st t t now).1)
  one : ∀ st q, Inv st q → holders (seats st) n ≤ 1

theorem filter_take_next (q : List Int) (t : Int) (k : Nat) (h : k < q.length) : (q.take (k + 1)).filter (· != t) = (q.take k).filter (· != t) ++ if q.getD k 0 = t then [] else [q.getD k 0] := by
  rw [List.take_succ_eq_append_getElem h, List.filter_append, getD_lt _ _ _ h]
  congr 1
  by_cases e : q[k] = t
  · simp [e]
  · simp [e]
theorem state_getD {l : List (Int × Int)} {k : Nat} (h : k < l.length) : state l k = (l.getD k (0, -1)).1 := by unfold state; rw [inB_mk h, if_pos rfl, Int.toNat_natCast]
theorem info_i64 : (Try.prog.info? 3).map (fun i => (i.zero, i.size, i.bytes)) = some (some (.int .i64 0), 1, 8) := by kernel_rfl
theorem cell_newAt (w : World) (v : Value) (T : TypeId) (b : Nat) (hb : b = w.heap.size) : ∀ j u, [v][j]? = some u → (w.alloc (.cells #[v] T)).cell? ((⟨b, 0, none⟩ : Addr).add j) = some u := by subst hb; exact cell_new1 w v T
theorem ints_snoc {k : IntKind} (xs : List Int) (x : Int) : ints k xs ++ [.int k x] = ints k (xs ++ [x]) := by simp [ints]

set_option maxHeartbeats 16000000 in
set_option maxRecDepth 100000 in
theorem ordered {σ : Type} {l s : Nat} {td pd : Bool} {ft : Nat → Prop} {n : Nat} {seats : σ → List (Int × Int)} {setS : σ → List (Int × Int) → σ} {step : σ → Int → Int → Int → Did × σ} {O : World → Nat → σ → Prop} (M : Mach l s td pd ft n seats setS step O)
    (hn : n ≤ 8) {Inv : σ → List Int → Prop} (K : Keeps td pd n seats setS step Inv) (p : Nat) (st0 : σ) (h0 : Inv st0 []) (v : Value) (xs : List (List Int)) (hl : xs.length ≤ 150) (w0 w : World) (hx : I64s w0 v 4 xs) (hw : Below w0.heap.size w0 w) (hft : ∀ i, ft i → w0.heap.size ≤ i)
    (hU : Calls Try.prog 37 #[.pointer (some ⟨l, 0, none⟩), .pointer (some ⟨p, 0, none⟩)] w fun e w' => e = .returned (.tuple #[]) ∧ O w' 0 st0 ∧ Upd ft w w') :
    Calls Try.prog 25 #[val l, .pointer (some ⟨p, 0, none⟩), v] w fun e w' => e = .returned (.bool true) ∧ Below w0.heap.size w0 w' := by
  obtain ⟨⟨ao, cap, rfl, hlc, hlm, hcells⟩, hwf⟩ := hx
  have qu := m_use l w
  have hn8 : (n : Int) ≤ 8 := by omega
  have hlx : (xs.length : Int) ≤ 150 := by omega
  unfold val
  go_enter Try.func25, Try.ntmps25
  go_wp2_with fail
  refine hU.mono ?_
  rintro e w1 ⟨rfl, hO, hu⟩
  have hB1 := hu.below hw hw.size hft
  obtain ⟨B, hBB⟩ : ∃ B, w1.heap.size = B := ⟨_, rfl⟩
  have hBM : B ≤ w1.heap.size := by omega
  have hfB : ∀ i, ft i → i < B := fun i hi => by rw [← hBB]; exact M.lt hO i hi
  have hwB : w0.heap.size ≤ B := by rw [← hBB]; exact hB1.size
  clear hBB qu
  go_wp2_with fail
  go_loopw [7, 8, 22] (fun s7 s8 i wr => ∃ j : Nat, j ≤ xs.length ∧ i = .int .i64 j ∧ ∃ (now : Int) (b : Nat) (st : σ) (q : List Int), 0 ≤ now ∧ now ≤ 1000 * j ∧ s7 = .int .i64 now ∧ b ≤ j ∧ O wr b st ∧ Inv st q ∧ q.length ≤ j ∧ wr.ownsRow B 3 1 s8 q.length (ints .i64 q) ∧ Below w0.heap.size w0 wr ∧ B ≤ wr.heap.size) (fun _ _ i _ => xs.length - (intOf i).toNat)
  case atStart => exact ⟨0, Nat.zero_le _, rfl, 0, 0, st0, [], by omega, by omega, rfl, Nat.le_refl _, hO, h0, Nat.le_refl _, World.ownsRow_nil _ _ _ _, hB1, hBM⟩
  case round =>
    obtain ⟨j, hj, rfl, now, b, st, q, hnow0, hnow1, rfl, hbj, hO, hinv, hq, hown, hB, hBM⟩ := hrel
    have HINV := Lib.hid hinv
    clear hinv hB1 hu
    by_cases hlt : j < xs.length
    · obtain ⟨bo, off, rfl, hbw, hcell⟩ := hcells (by omega)
      have hy := hwf (xs.getD j []) (by rw [getD_lt _ _ _ hlt]; exact List.getElem_mem hlt)
      obtain ⟨y, hyy⟩ : ∃ y, xs.getD j [] = y := ⟨_, rfl⟩
      rw [hyy] at hy
      obtain ⟨hy3, hyw⟩ := hy
      match y, hy3 with
      | [k, t, N, lt], _ =>
        have c0 := (hB.cell (p := ⟨bo, off + j * 4, none⟩) hbw).trans (hcell j hlt 0 (.int .i64 k) (by decide) (by rw [hyy]; rfl))
        have c1 := (hB.cell (p := ⟨bo, off + j * 4 + 1, none⟩) hbw).trans (hcell j hlt 1 (.int .i64 t) (by decide) (by rw [hyy]; rfl))
        have c2 := (hB.cell (p := ⟨bo, off + j * 4 + 2, none⟩) hbw).trans (hcell j hlt 2 (.int .i64 N) (by decide) (by rw [hyy]; rfl))
        have c3 := (hB.cell (p := ⟨bo, off + j * 4 + 3, none⟩) hbw).trans (hcell j hlt 3 (.int .i64 lt) (by decide) (by rw [hyy]; rfl))
        have hO2 := M.keep hO ((Upd.refl (fun _ => False) wr).alloc (.cells #[.int .i64 k, .int .i64 t, .int .i64 N, .int .i64 lt] 47)) (fun _ _ => id)
        have hown2 := own_upd hown ((Upd.refl (fun _ => False) wr).alloc (.cells #[.int .i64 k, .int .i64 t, .int .i64 N, .int .i64 lt] 47)) (fun _ _ => id)
        have hB2 := hB.alloc hB.size (.cells #[.int .i64 k, .int .i64 t, .int .i64 N, .int .i64 lt] 47)
        have hR : Row (wr.alloc (.cells #[.int .i64 k, .int .i64 t, .int .i64 N, .int .i64 lt] 47)) wr.heap.size [.int .i64 k, .int .i64 t, .int .i64 N, .int .i64 lt] := Row.new' rfl
        have hqa := fun i (hi : _ = some i) => own_lt hown (k := i) hi
        clear hyy hcell hyw hO hown
        go_upto_block 2 with (fail)
        obtain ⟨z1, hz1⟩ : ∃ z, (if lt < 0 then 0 else lt) = z := ⟨_, rfl⟩
        rw [hz1]
        have z10 : 0 ≤ z1 := by rw [← hz1]; split <;> omega
        obtain ⟨z2, hz2⟩ : ∃ z, (if 1000 < z1 then 1000 else z1) = z := ⟨_, rfl⟩
        rw [hz2]
        have z20 : 0 ≤ z2 ∧ z2 ≤ 1000 := by rw [← hz2]; split <;> omega
        obtain ⟨now', hnw⟩ : ∃ z, now + z2 = z := ⟨_, rfl⟩
        have hnw0 : 0 ≤ now' ∧ now' ≤ now + 1000 := by omega
        rw [hnw]
        have HNW := Lib.hid (show 0 ≤ now' ∧ now' ≤ 1000 * ((j : Int) + 1) by omega)
        clear hnw hnow1 hnow0 hz1 hz2 z10 z20 hnw0
        have hzr : wr.heap.size < (wr.alloc (.cells #[.int .i64 k, .int .i64 t, .int .i64 N, .int .i64 lt] 47)).heap.size := by simp
        obtain ⟨W2, hW2⟩ : ∃ W, wr.alloc (.cells #[.int .i64 k, .int .i64 t, .int .i64 N, .int .i64 lt] 47) = W := ⟨_, rfl⟩
        obtain ⟨A, hA⟩ : ∃ A, wr.heap.size = A := ⟨_, rfl⟩
        rw [hW2] at hO2 hown2 hB2 hR hzr ⊢
        rw [hA] at hR hBM hzr hqa ⊢
        have HQA := Lib.hid hqa
        clear hW2 hA c0 c1 c2 c3 hB hqa
        have hAf : ∀ i, ft i → i < A := fun i hi => Nat.lt_of_lt_of_le (hfB i hi) hBM
        go_cut [8, 11, 12, 14] from 28 to 109 (fun s8 _ _ _ wx => ∃ (b' : Nat) (st' : σ) (q' : List Int), b' ≤ j + 1 ∧ O wx b' st' ∧ Inv st' q' ∧ q'.length ≤ j + 1 ∧ wx.ownsRow B 3 1 s8 q'.length (ints .i64 q') ∧ Below w0.heap.size w0 wx ∧ B ≤ wx.heap.size)
        case first =>
          have p0 := hR.cell (i := 0) rfl
          have p1 := hR.cell (i := 1) rfl
          have p2 := hR.cell (i := 2) rfl
          obtain ⟨qa, qc, rfl⟩ := owned_len1 hown2
          have fin' : ∀ (w5 : World) (st' : σ), O w5 b st' → Inv st' q → Upd ft W2 w5 → ∃ (b' : Nat) (st' : σ) (q' : List Int), b' ≤ j + 1 ∧ O w5 b' st' ∧ Inv st' q' ∧ q'.length ≤ j + 1 ∧ w5.ownsRow B 3 1 (.slice qa q.length qc) q'.length (ints .i64 q') ∧ Below w0.heap.size w0 w5 ∧ B ≤ w5.heap.size :=
            fun w5 st' h1 h2 h3 => ⟨b, st', q, by omega, h1, h2, by omega, own_upd hown2 h3 (fun i hi e => by have := (own_lt hown2 hi).2; have := hfB i e; omega), h3.below hB2 hB2.size hft, by have := h3.size; omega⟩
          have FIN := Lib.hid fin'
          clear fin'
          have mp := M.ptr hO2
          by_cases e1 : k = 1
          · subst e1
            have ml := m_lock l s W2 mp
            clear mp
            go_wp2_with fail
            refine (M.lockC hO2 t N).mono ?_
            rintro e w5 ⟨rfl, hO5, u5⟩
            go_wp2_with fail
            go_meet
            case rel => exact FIN.out _ _ hO5 (K.lock _ _ _ _ HINV.out) u5
          have E1 : (k == 1) = false := by simpa using e1
          by_cases e2 : k = 2
          · subst e2
            have ml := m_unlock l s W2 mp
            clear mp
            go_wp2_with fail
            refine (M.unlockC hO2 t).mono ?_
            rintro e w5 ⟨rfl, hO5, u5⟩
            go_wp2_with fail
            go_meet
            case rel => exact FIN.out _ _ hO5 (K.unlock _ _ _ HINV.out) u5
          have E2 : (k == 2) = false := by simpa using e2
          by_cases e3 : k = 3
          · subst e3
            have ml := m_probe l s W2 mp
            clear mp
            go_wp2_with fail
            refine (M.probeC hO2 t).mono ?_
            rintro e w5 ⟨rfl, hO5, u5⟩
            go_wp2_with fail
            go_meet
            case rel => exact FIN.out _ _ hO5 (K.probe _ _ _ HINV.out) u5
          have E3 : (k == 3) = false := by simpa using e3
          by_cases e4 : k = 4
          · subst e4
            have ml := m_step l W2
            have KS := M.stepC hO2 (by omega) t t now'
            have KI := K.step _ _ t now' HINV.out
            obtain ⟨r, hr⟩ : ∃ r, step st t t now' = r := ⟨_, rfl⟩
            rw [hr] at KS KI
            obtain ⟨⟨ev, enq, arr, lead⟩, st4⟩ := r
            have HKS := Lib.hid KS
            have HKI := Lib.hid KI
            clear mp KS KI hr FIN e1 e2 e3
            go_wp2_with fail
            refine HKS.out.mono ?_
            rintro e w5 ⟨rfl, hO5, u5⟩
            have hown5 := own_upd hown2 u5 (fun i hi e => by have := (own_lt hown2 hi).2; have := hfB i e; omega)
            have hR5 := hR.upd u5 (fun e => by have := hAf _ e; omega)
            have hB5 := u5.below hB2 hB2.size hft
            have hz5 : A < w5.heap.size := hR5.lt
            clear hO2 hown2 hR hB2 p0 p1 p2 HKS u5 hzr
            unfold didv
            go_upto_if 64 with (fail)
            have hO6 := M.keep hO5 ((Upd.refl (fun _ => False) w5).alloc (.cells #[.int .i64 ev, .bool enq, .bool arr, .bool lead] 51)) (fun _ _ => id)
            have hown6 := own_upd hown5 ((Upd.refl (fun _ => False) w5).alloc (.cells #[.int .i64 ev, .bool enq, .bool arr, .bool lead] 51)) (fun _ _ => id)
            have hR6 := hR5.alloc (.cells #[.int .i64 ev, .bool enq, .bool arr, .bool lead] 51)
            have hD6 : Row (w5.alloc (.cells #[.int .i64 ev, .bool enq, .bool arr, .bool lead] 51)) w5.heap.size [.int .i64 ev, .bool enq, .bool arr, .bool lead] := Row.new' rfl
            have hB6 := hB5.alloc hB5.size (.cells #[.int .i64 ev, .bool enq, .bool arr, .bool lead] 51)
            have hz6 : (w5.alloc (.cells #[.int .i64 ev, .bool enq, .bool arr, .bool lead] 51)).heap.size = w5.heap.size + 1 := by simp
            obtain ⟨W6, hW6⟩ : ∃ W, w5.alloc (.cells #[.int .i64 ev, .bool enq, .bool arr, .bool lead] 51) = W := ⟨_, rfl⟩
            obtain ⟨D, hD⟩ : ∃ D, w5.heap.size = D := ⟨_, rfl⟩
            rw [hW6] at hO6 hown6 hR6 hD6 hB6 hz6 ⊢
            rw [hD] at hD6 hz5 hz6 ⊢
            have HZ6 := Lib.hid hz6
            clear hW6 hD hO5 hown5 hR5 hB5 hz6
            go_cut [8] from 65 to 69 (fun s8 wx => O wx (b + 1) st4 ∧ wx.ownsRow B 3 1 s8 (queue1 q t (ev, enq, arr, lead)).length (ints .i64 (queue1 q t (ev, enq, arr, lead))) ∧ Row wx A [.int .i64 4, .int .i64 t, .int .i64 N, .int .i64 lt] ∧ Row wx D [.int .i64 ev, .bool enq, .bool arr, .bool lead] ∧ Below w0.heap.size w0 wx)
            case first =>
              cases enq with
              | false =>
                go_wp2_with fail
                go_meet
                case rel => exact ⟨hO6, hown6, hR6, hD6, hB6⟩
              | true =>
                have p1 := hR6.cell (i := 1) rfl
                have hq1 : queue1 q t (ev, true, arr, lead) = q ++ [t] := rfl
                have HQ1 := Lib.hid hq1
                have hql : q.length ≤ 200 := by omega
                clear hq1
                go_wp2_with (at_builtin; refine wpList_append_near rfl (.tmp 65) (.tmp 68) 22 rfl B 3 (.int .i64 0) 1 8 Try.underlying22 info_i64 rfl (by decide) (.slice qa q.length qc) q.length (ints .i64 q) rfl (own_upd hown6 ((Upd.refl (fun _ => False) _).alloc _) (fun _ _ => id)) ⟨W6.heap.size, 0, none⟩ 1 1 [.int .i64 t] rfl rfl (cell_newAt _ _ _ _ rfl) (one_cell rfl) (by unfold maxLen; omega) (by omega) (by have := HZ6.out; simp; omega) ?_; intro v7 w7 hown7 hg7 near7; rw [ints_snoc] at hown7; have u7 := Upd.grown hg7)
                have u8 : Upd (fun i => (Value.slice qa q.length qc).ownBlock = some i) W6 w7 := ((Upd.refl _ _).alloc _).trans u7
                have hBq : ∀ i, (Value.slice qa q.length qc).ownBlock = some i → B ≤ i ∧ i ≠ A ∧ i ≠ D := fun i hi => by have h9 := HQA.out i hi; omega
                go_meet
                case rel => exact ⟨M.keep hO6 u8 (fun i hi e => by have := (hBq i e).1; have := hfB i hi; omega), by rw [HQ1.out]; simpa using hown7, hR6.upd u8 (fun e => (hBq _ e).2.1 rfl), hD6.upd u8 (fun e => (hBq _ e).2.2 rfl), u8.below hB6 hB6.size (fun i e => by have := (hBq i e).1; omega)⟩
            case rest =>
              obtain ⟨hO7, hown7, hR7, hD7, hB7⟩ := hcut
              obtain ⟨w7, hw7⟩ : ∃ w7, wc = w7 := ⟨_, rfl⟩
              rw [hw7] at hO7 hown7 hR7 hD7 hB7 ⊢
              obtain ⟨hk1, hk2⟩ := HKI.out
              have HK1 := Lib.hid hk1
              have HK2 := Lib.hid hk2
              have hql1 : (queue1 q t (ev, enq, arr, lead)).length ≤ q.length + 1 := by unfold queue1; split <;> simp
              have HQ2 := Lib.hid (show queue2 q t (ev, enq, arr, lead) = if ev = 1 ∨ ev = 2 then (queue1 q t (ev, enq, arr, lead)).filter (· != t) else queue1 q t (ev, enq, arr, lead) from rfl)
              obtain ⟨Q, hQ⟩ : ∃ Q, queue1 q t (ev, enq, arr, lead) = Q := ⟨_, rfl⟩
              have hz7 : B ≤ w7.heap.size := by have := hR7.lt; omega
              rw [hQ] at hown7 HK1 hql1 HQ2
              obtain ⟨va, vc, rfl⟩ := owned_len1 hown7
              have d0 := hD7.cell (i := 0) rfl
              have p1 := hR7.cell (i := 1) rfl
              have hQl : Q.length ≤ 151 := by omega
              clear hw7 hQ hk1 hk2 HKI hO6 hown6 hR6 hD6 hB6 HZ6 hz5
              by_cases hev : ev = 1 ∨ ev = 2
              · have HQF := Lib.hid (show queue2 q t (ev, enq, arr, lead) = Q.filter (· != t) by rw [HQ2.out, if_pos hev])
                have d0' : w7.cell? ⟨D, 0, none⟩ = some (.int .i64 ev) := d0
                by_cases he1 : ev = 1
                case' pos =>
                  subst he1
                  obtain ⟨Q', hQ'⟩ : ∃ Q', Q = t :: Q' := by
                    have := HK1.out rfl
                    cases Q with
                    | nil => simp at this
                    | cons a r => simp at this; exact ⟨r, by rw [this]⟩
                  obtain ⟨g, cap', hv, _, hr⟩ := owned hown7 (by rw [hQ']; simp)
                  simp only [Value.slice.injEq] at hv
                  obtain ⟨rfl, -, -⟩ := hv
                  have c5 := hr.cell (ints_get (k := .i64) (i := 0) (xs := Q) (by rw [hQ']; simp))
                  rw [show Q.getD 0 0 = t by rw [hQ']; rfl] at c5
                  have hlen : ((Q.length : Int) == 0) = false := by rw [hQ']; simp; omega
                  have hlen2 : (0 : Int) < (Q.length : Int) := by rw [hQ']; simp
                  have hlen3 : 0 < Q.length := by omega
                  clear hQ' hr hev
                  go_wp2_with fail
                  go_quiet (fail)
                case' neg =>
                  have he2 : ev = 2 := by omega
                  subst he2
                  clear hev
                  go_wp2_with fail
                  go_quiet (fail)
                all_goals
                  go_wp2_with fail
                  go_loopw [12, 96] (fun s12 i wi => ∃ k : Nat, k ≤ Q.length ∧ i = .int .i64 k ∧ wi.ownsRow w7.heap.size 3 1 s12 ((Q.take k).filter (· != t)).length (ints .i64 ((Q.take k).filter (· != t))) ∧ Upd (fun i => w7.heap.size ≤ i) w7 wi) (fun _ i _ => Q.length - (intOf i).toNat)
                  case atStart => exact ⟨0, Nat.zero_le _, rfl, World.ownsRow_nil _ _ _ _, (Upd.refl _ _).drewN _⟩
                  case round =>
                    obtain ⟨k, hk, rfl, hown, hu⟩ := hrel
                    have hAw : A < w7.heap.size := hR7.lt
                    have hR8 := hR7.upd hu (by omega)
                    by_cases hkq : k < Q.length
                    · obtain ⟨g, cap', hv, _, hr⟩ := owned hown7 (by omega)
                      simp only [Value.slice.injEq] at hv
                      obtain ⟨hv1, -, -⟩ := hv
                      have hgw := hr.lt
                      have c5 := (hr.upd hu (by omega)).cell (ints_get (k := .i64) (i := k) (xs := Q) hkq)
                      have p1 := hR8.cell (i := 1) rfl
                      have hft' := filter_take_next Q t k hkq
                      obtain ⟨x, hx⟩ : ∃ x, Q.getD k 0 = x := ⟨_, rfl⟩
                      rw [hx] at c5 hft'
                      obtain ⟨la, lc, rfl⟩ := owned_len1 hown
                      have hll : ((Q.take k).filter (· != t)).length ≤ 151 := Nat.le_trans (List.length_filter_le _ _) (by simp; omega)
                      have HFT := Lib.hid hft'
                      obtain ⟨F, hF⟩ : ∃ F, (Q.take k).filter (· != t) = F := ⟨_, rfl⟩
                      rw [hF] at hown hll HFT ⊢
                      have hkq' : (k : Int) < (Q.length : Int) := by omega
                      have hzw := hu.size
                      first
                        | subst hv1
                        | (simp at hv1; subst hv1)
                      clear hx hF hft' hr
                      by_cases hxt : x = t
                      · subst hxt
                        have hne : (x != x) = false := by simp
                        go_wp2_with fail
                        go_roundw
                        case rel => exact ⟨k + 1, by omega, by go_num, by rw [HFT.out, if_pos rfl, List.append_nil]; exact hown, hu⟩
                        case measure => simp [intOf]; omega
                      · have hne : (x != t) = true := by simpa using hxt
                        rw [if_neg hxt] at HFT
                        clear hxt
                        go_wp2_with (at_builtin; refine wpList_append_near rfl (.tmp 104) (.tmp 106) 22 rfl w7.heap.size 3 (.int .i64 0) 1 8 Try.underlying22 info_i64 rfl (by decide) (.slice la F.length lc) F.length (ints .i64 F) rfl (own_upd hown ((Upd.refl (fun _ => False) _).alloc _) (fun _ _ => id)) ⟨wr.heap.size, 0, none⟩ 1 1 [.int .i64 x] rfl rfl (cell_newAt _ _ _ _ rfl) (one_cell rfl) (by unfold maxLen; omega) (by omega) (by simp; omega) ?_; intro v9 w9 hown9 hg9 near9; rw [ints_snoc] at hown9; have u9 := Upd.grown hg9)
                        go_roundw
                        case rel => exact ⟨k + 1, by omega, by go_num, by rw [HFT.out]; simpa using hown9, hu.trans (((Upd.refl _ _).alloc _).trans (u9.mono fun i _ e => (own_lt hown e).2))⟩
                        case measure => simp [intOf]; omega
                    · obtain rfl : k = Q.length := by omega
                      rw [List.take_length] at hown
                      go_wp2_with fail
                      go_meet
                      case rel =>
                        refine ⟨b + 1, st4, _, by omega, M.keep hO7 hu (fun i hi e => by have := hfB i hi; omega), HK2.out, ?_, ?_, hu.below hB7 hB7.size (by omega), Nat.le_trans hz7 hu.size⟩
                        · rw [HQF.out]; exact Nat.le_trans (List.length_filter_le _ _) (by omega)
                        · rw [HQF.out]; exact own_base1 hown (by omega)
              · have HQF := Lib.hid (show queue2 q t (ev, enq, arr, lead) = Q by rw [HQ2.out, if_neg hev])
                have e1 : (ev == 1) = false := by simpa using fun h => hev (.inl h)
                have e2 : (ev == 2) = false := by simpa using fun h => hev (.inr h)
                clear hev
                go_wp2_with fail
                go_quiet (fail)
                go_wp2_with fail
                go_meet
                case rel => exact ⟨b + 1, st4, _, by omega, M.keep hO7 ((Upd.refl (fun _ => False) _).drewN _) (fun _ _ => id), HK2.out, by rw [HQF.out]; omega, by rw [HQF.out]; exact own_upd hown7 ((Upd.refl (fun _ => False) _).drewN _) (fun _ _ => id), below_drewN hB7 _, hz7⟩
          have E4 : (k == 4) = false := by simpa using e4
          clear e1 e2 e3 e4 mp
          go_wp2_with fail
          go_meet
          case rel => exact FIN.out _ _ hO2 HINV.out (Upd.refl _ _)
        case rest =>
          obtain ⟨b', st', q', hb', hO7, hI7, hq7, hown7, hB7, hz7⟩ := hcut
          obtain ⟨w7, hw7⟩ : ∃ w7, wc = w7 := ⟨_, rfl⟩
          rw [hw7] at hO7 hown7 hB7 hz7 ⊢
          have HI7 := Lib.hid hI7
          have HONE := Lib.hid (K.one _ _ hI7)
          have mp := M.ptr hO7
          have ml := m_len l s w7 mp
          have ms := m_state l s w7 mp
          obtain ⟨va, vc, rfl⟩ := owned_len1 hown7
          clear hw7 hI7 mp hO2 hown2 hB2 hR HINV hzr HQA
          go_wp2_with fail
          refine (M.lenC hO7).mono ?_
          rintro e w8 ⟨rfl, rfl⟩
          go_wp2_with fail
          go_loop [15, 112] (fun s15 i => ∃ k : Nat, k ≤ n ∧ i = .int .i64 k ∧ s15 = .int .i64 ((holders (seats st') k : Nat) : Int)) (fun _ i => n - (intOf i).toNat)
          case atStart => exact ⟨0, Nat.zero_le _, rfl, by simp [holders]⟩
          case round =>
            obtain ⟨k, hk, rfl, rfl⟩ := hrel
            have hhl := holders_le (seats st') k
            obtain ⟨c, hc⟩ : ∃ c, holders (seats st') k = c := ⟨_, rfl⟩
            by_cases hkn : k < n
            · have hkl : k < (seats st').length := by rw [M.len hO7]; exact hkn
              have hnx := holders_next (seats st') k hkl
              have KS := M.stateC hO7 (k : Int)
              rw [state_getD hkl] at KS
              obtain ⟨z, hz⟩ : ∃ z, ((seats st').getD k (0, -1)).1 = z := ⟨_, rfl⟩
              rw [hz] at KS hnx
              rw [hc] at hnx hhl ⊢
              have HKS := Lib.hid KS
              have HNX := Lib.hid hnx
              have hkn' : (k : Int) < (n : Int) := by omega
              clear KS hnx hz hc
              by_cases h2 : z = 2
              · subst h2
                rw [if_pos rfl] at HNX
                go_wp2_with fail
                refine HKS.out.mono ?_
                rintro e w8 ⟨rfl, rfl⟩
                go_wp2_with fail
                go_round
                case rel => exact ⟨k + 1, by omega, by go_num, by rw [HNX.out]; go_num⟩
                case measure => simp [intOf]; omega
              · rw [if_neg h2] at HNX
                have h2' : (z == 2) = false := by simpa using h2
                clear h2
                go_wp2_with fail
                refine HKS.out.mono ?_
                rintro e w8 ⟨rfl, rfl⟩
                go_wp2_with fail
                go_round
                case rel => exact ⟨k + 1, by omega, by go_num, by rw [HNX.out]; rfl⟩
                case measure => simp [intOf]; omega
            · obtain rfl : k = n := by omega
              have h1 := HONE.out
              rw [hc] at h1 ⊢
              have h1' : decide (1 < (c : Int)) = false := by simp; omega
              have h1'' : decide (1 < c) = false := by simp; omega
              clear hc hhl
              go_wp2_with fail
              go_roundw
              case rel => exact ⟨j + 1, by omega, by go_num, now', b', st', q', HNW.out.1, by have := HNW.out.2; omega, rfl, hb', hO7, HI7.out, hq7, hown7, hB7, hz7⟩
              case measure => simp [intOf]; omega
    · go_wp2_with fail
      go_ret
      exact ⟨rfl, hB⟩
end Go.Proofs.Ytlkpfdboagjaoaa.Mach
