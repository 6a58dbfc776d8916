/- The law FlatPlays, walked. -/
import Derived.Test.YtoohkcpkodpnmaaPlays
import Derived.Test.YtoohkcpkodpnmaaRef10b
import Derived.Test.YtoohkcpkodpnmaaWalkFlatOrder
namespace Go.Proofs.Ytoohkcpkodpnmaa.WalkFlatPlays
open Go Go.RowKit Go.Proofs.Ytoohkcpkodpnmaa.Heap Go.Proofs.Ytoohkcpkodpnmaa.Open Go.Proofs.Ytoohkcpkodpnmaa.Seat Go.Proofs.Ytoohkcpkodpnmaa.Mach Go.Proofs.Ytoohkcpkodpnmaa.Has Go.Proofs.Ytoohkcpkodpnmaa.Lk Go.Proofs.Ytoohkcpkodpnmaa.Flat Go.Proofs.Ytoohkcpkodpnmaa.Law10 Go.Proofs.Ytoohkcpkodpnmaa.WalkFlatOrder Go.Proofs.Ytoohkcpkodpnmaa.Plays Go.Proofs.Ytoohkcpkodpnmaa.Modl

theorem port_len {w : World} {p k : Nat} {S : Nat → Prop} {ws hs : List Int} {l : List T} (h : Port.O w p S k ws hs l) : ws.length = hs.length := by
  obtain ⟨⟨m, c, cb, S1, S2, hp⟩, _⟩ := h
  obtain ⟨⟨wb, hv, ha, _⟩, _⟩ := hp.mem
  exact ha.len.symm
theorem acc_after (k n : Nat) (l : List T) (t a : Int) (wr : Bool) (u : Int) : acc (Cache.after k n l t a wr) u ≤ acc l u + 1 := by
  rw [Same04.after_def]
  split
  · rw [acc_snoc]; split <;> omega
  · omega
theorem acc_step (k : Nat) (nx ow : Int) (st : St) (t a now : Int) : acc (Flat.step k nx ow st t a now).2.ts t ≤ acc st.ts t + 1 := by
  show acc (midS k nx ow st t a).2.ts t ≤ _
  unfold midS lockS
  (repeat' split) <;> first | exact acc_after _ _ _ _ _ _ _ | exact Nat.le_succ _
theorem wordsR (w : World) (x : Int) : Calls Try.prog 17 #[.int .u32 x] w fun e w' => ∃ v, e = .returned v ∧ Src1 w' v .u32 [x, x] ∧ Below w.heap.size w w' := by
  go_enter Try.func17, Try.ntmps17
  go_wp2
  go_ret
  exact ⟨_, rfl, src_lit _ .u32 [x, x] _ _ _ _ _ rfl rfl rfl, (Below.refl _ _).alloc (Nat.le_refl _) _⟩
set_option maxHeartbeats 4000000 in
set_option maxRecDepth 20000 in
theorem walk (v : Value) (hs : List Int) (x : Int) (v2 : Value) (xs : List (List Int)) (w : World) (h0 : Src1 w v .i64 hs) (hx : (Lit.int .u32 x).wf = true) (h2 : I64s w v2 4 xs) :
    Calls Try.prog 5 #[v, .int .u32 x, v2] w fun e w' => e = .returned (.bool true) ∧ Below w.heap.size w w' := by
  have h2k := h2
  obtain ⟨⟨ao, cap, rfl, hlc, -, -⟩, -⟩ := h2
  have KF := fine w v hs h0 ao xs.length cap
  cases hf : fineB hs xs.length with
  | false =>
    rw [hf] at KF
    have HF := Lib.hid KF
    clear KF hf h2k
    obtain ⟨a, c, rfl, -, -⟩ := h0
    go_enter Try.func5, Try.ntmps5
    go_wp2_with fail
    refine HF.out.mono ?_
    rintro e w' ⟨rfl, rfl⟩
    go_wp2_with fail
    refine (awake _).mono ?_
    rintro e w4 ⟨rfl, u4⟩
    go_wp2_with fail
    go_ret
    exact ⟨rfl, u4⟩
  | true =>
    rw [hf] at KF
    obtain ⟨n1, n8, hok, hl⟩ := fineB_true hf
    have HF := Lib.hid KF
    have HOPS := Lib.hid h2k
    have HSRC := Lib.hid h0
    have hx2 := Lib.hid (u32b hx)
    clear KF hf h2k hx
    obtain ⟨a, c, rfl, -, hcell⟩ := h0
    obtain ⟨hb, off, rfl, hbw, hcell⟩ := hcell (by omega)
    have c0 : w.cell? ⟨hb, off, none⟩ = some (.int .i64 (hs.getD 0 0)) := hcell 0 (by omega)
    clear hcell
    go_enter Try.func5, Try.ntmps5
    go_wp2_with fail
    refine HF.out.mono ?_
    rintro e w' ⟨rfl, rfl⟩
    go_wp2_with fail
    refine (Plan.newPl _ hs.length).mono ?_
    rintro e w1 ⟨pl, rfl, hpl, hB1⟩
    have hz1 := hB1.size
    go_wp2_with fail
    refine (Flat.new_yes _ pl (Mem.Btw w w1) hs.length [] [] hpl (by decide) _ hs x (HSRC.out.below hB1) n1 (by omega) hok (by
      intro b hb' h
      simp [Value.ownBlock] at hb'
      have := h.1; omega)).mono ?_
    rintro e w2 ⟨l, s, lb, nb, db, rfl, ha, ⟨S', hp2, hS', s1, s2, s3, s4, s5⟩, b1, b2, b3, b4, b5, hu2⟩
    have hB2 : Below w.heap.size w w2 := hu2.below hB1 hz1 (fun i hi => hi.1)
    have hz2 := hB2.size
    go_wp2_with fail
    refine (Plan.portPl _ pl S' hs.length _ _ hp2 (by simp) (home2 hs n1 hok) (by intro y hy; have := hx2.out; simp at hy; omega) n1 (by omega)).mono ?_
    rintro e w3 ⟨p, rfl, hpo, hB3⟩
    have ha3 := ha.keep (Upd.of_below (S := fun _ => False) hB3) id id id id id
    have hB4 := hB2.trans (hB3.mono hz2)
    have sep : ¬ Mem.Btw w2 w3 l ∧ ¬ Mem.Btw w2 w3 s ∧ ¬ Mem.Btw w2 w3 lb ∧ ¬ Mem.Btw w2 w3 nb ∧ ¬ Mem.Btw w2 w3 db :=
      ⟨fun h => by have := ha.top.lt; have := h.1; omega, fun h => by have := ha.seat.top.lt; have := h.1; omega, fun h => by have := ha.seat.row.lt; have := h.1; omega, fun h => by have := ha.num.lt; have := h.1; omega, fun h => by have := ha.drw.lt; have := h.1; omega⟩
    have hft : ∀ i, ft l s lb nb db (Mem.Btw w2 w3) i → w.heap.size ≤ i := by
      intro i hi
      rcases hi with hi | rfl | rfl | rfl | rfl | rfl
      · have := hi.1; omega
      all_goals omega
    obtain ⟨m, S1, q0, hm, -⟩ := hpo.step
    obtain ⟨y, hy⟩ : ∃ y, hs.getD 0 0 = y := ⟨_, rfl⟩
    have hl3 : ∀ i, ft l s lb nb db (Mem.Btw w2 w3) i → i < w3.heap.size := by
      intro i hi
      rcases hi with hi | rfl | rfl | rfl | rfl | rfl
      · exact hi.2
      · exact ha3.top.lt
      · exact ha3.seat.top.lt
      · exact ha3.seat.row.lt
      · exact ha3.num.lt
      · exact ha3.drw.lt
    have c3 : w3.cell? ⟨hb, off, none⟩ = some (.int .i64 y) := by rw [← hy]; exact (hB4.cell (p := ⟨hb, off, none⟩) hbw).trans c0
    have n0 : (0 : Int) < (hs.length : Int) := by omega
    have HH0 : Hid (∀ n, Calls Try.prog 13 #[.pointer (some ⟨m, 0, none⟩), .int .i64 0] (w3.drewN n) fun e w' => e = .returned (.int .i64 y) ∧ w3.drewN n = w') := Lib.hid fun n => by
      have := Mem.homeO (w3.drewN n) m S1 _ _ (hm.keep ((Upd.refl (fun _ => False) w3).drewN n) fun _ _ => id) 0
      rw [hy] at this
      exact this
    have HH1 : Hid (∀ n, Calls Try.prog 13 #[.pointer (some ⟨m, 0, none⟩), .int .i64 1] (w3.drewN n) fun e w' => e = .returned (.int .i64 y) ∧ w3.drewN n = w') := Lib.hid fun n => by
      have := Mem.homeO (w3.drewN n) m S1 _ _ (hm.keep ((Upd.refl (fun _ => False) w3).drewN n) fun _ _ => id) 1
      rw [hy] at this
      exact this
    have zz : (y != y) = false := by simp
    have hz4 := hB4.size
    clear c0 hm hy hp2 hpl hu2 hB1 ha hB2 hB3
    go_wp2_with fail
    go_quiet ((first | (go_at_call_of 13 (Value.int IntKind.i64 0); exact Calls.quiet_of_same ((HH0.out _).mono fun e w' ⟨he, hw⟩ => ⟨he, hw.symm⟩)) | (go_at_call_of 13 (Value.int IntKind.i64 1); exact Calls.quiet_of_same ((HH1.out _).mono fun e w' ⟨he, hw⟩ => ⟨he, hw.symm⟩))))
    rename_i nq
    clear HH0 HH1 c3 q0 zz
    go_wp2_with fail
    refine (Ref10.newR _ hs.length n1 (by omega)).mono ?_
    rintro e w4 ⟨x', sx, sb, db', pc, mb, rfl, hmat, hfmb, hB5⟩
    have hz5 : w3.heap.size ≤ w4.heap.size := hB5.size
    go_wp2_with fail
    refine (wordsR _ x).mono ?_
    rintro e w5 ⟨v5, rfl, hsrc5, hB6⟩
    have hz6 := hB6.size
    go_wp2_with fail
    refine (Ref04.newR _ hs.length v5 [x, x] hsrc5 (by omega) (by simp)).mono ?_
    rintro e w6 ⟨y', rfl, hR6, hB7⟩
    have hfmb' : ∀ i, Ref10.fm x' sx sb db' pc mb i → w3.heap.size ≤ i := hfmb
    have B36 : Below w3.heap.size w3 w6 := ((below_drewN (Below.refl _ _) nq).trans hB5).trans ((hB6.mono hz5).trans (hB7.mono (by omega)))
    have hB8 := hB4.trans (B36.mono hz4)
    have ha6 := ha3.keep (Upd.of_below (S := fun _ => False) B36) id id id id id
    have hpo6 := hpo.below B36
    have hm6 := hmat.keep ((Upd.of_below (S := fun _ => False) hB6).trans (Upd.of_below (S := fun _ => False) hB7)) (fun _ _ => id)
    have hlm := hmat.lt
    have KU : Calls Try.prog 19 #[.pointer (some ⟨l, 0, none⟩), .pointer (some ⟨p, 0, none⟩)] w6 fun e w' => e = .returned (.tuple #[]) ∧ (O l s lb nb db p (Mem.Btw w2 w3) hs.length ([] ++ [hs.getD 0 0, hs.getD 0 0]) 0 1 w' 0 (st0 hs.length [x, x]) ∧ (st0 hs.length [x, x]).seats.length = hs.length) ∧ Upd (ft l s lb nb db (Mem.Btw w2 w3)) w6 w' := by
      refine (useO ha6 hpo6 sep).mono ?_
      rintro e w' ⟨he, ho, hu⟩
      exact ⟨he, ⟨ho, by simp [st0]⟩, hu⟩
    have KO := plays (y := y') (p := p) (SP := Mem.Btw w2 w3) (mach (hs := [] ++ [hs.getD 0 0, hs.getD 0 0]) hs.length) (Ref10.modl hs.length n8) n8 (fun {wz b st} h => ⟨⟨_, h.1.port⟩, h.1.few, by rw [port_len h.1.port]; simp⟩) (fun st t now => acc_step _ _ _ _ _ _ _) (fun i h1 h2 => by have := hl3 i h1; have := hfmb' i h2; omega) _ xs hl w w6 HOPS.out hB8 hft (fun i h => Nat.le_trans hz4 (hfmb' i h)) (st0 hs.length [x, x]) ⟨hm6, by simp [st0], by simp [st0], by intro z hz; have := hx2.out; simp [st0] at hz; omega⟩ (Mem.Btw w5 w6) hR6 (fun i h => ⟨fun e => by have := hl3 i e; have := h.1; omega, fun e => by have := hlm i e; have := h.1; omega, by have := h.1; omega⟩) KU
    have HKO := Lib.hid KO
    clear KO KU ha3 hpo ha6 hpo6 hm6 hmat hR6
    unfold val mval at HKO
    go_wp2_with fail
    refine HKO.out.mono ?_
    rintro e w7 ⟨rfl, hB9, -⟩
    go_wp2_with fail
    refine (awake _).mono ?_
    rintro e w8 ⟨rfl, u8⟩
    go_wp2_with fail
    go_ret
    exact ⟨rfl, hB9.trans (u8.mono hB9.size)⟩
end Go.Proofs.Ytoohkcpkodpnmaa.WalkFlatPlays
