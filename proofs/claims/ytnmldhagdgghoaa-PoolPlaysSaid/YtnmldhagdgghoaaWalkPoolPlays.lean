/- The law PoolPlays, walked: whoever takes, brings back and gives away whatever, each answer is the document's. -/
import Derived.Test.YtnmldhagdgghoaaRef06f
import Derived.Test.YtnmldhagdgghoaaOps06
namespace Go.Proofs.Ytnmldhagdgghoaa.WalkPoolPlays
open Go Go.RowKit Go.Proofs.Ytnmldhagdgghoaa.Heap Go.Proofs.Ytnmldhagdgghoaa.Open Go.Proofs.Ytnmldhagdgghoaa.Sl Go.Proofs.Ytnmldhagdgghoaa.Pool Go.Proofs.Ytnmldhagdgghoaa.Law06 Go.Proofs.Ytnmldhagdgghoaa.Ref06

theorem rel_mono {n : Nat} {rows : List (List Int)} {out : List Bool} {L : List Nd} {C B B' : Nat} (h : Rel n rows out L C B) (hb : B ≤ B') : Rel n rows out L C B' :=
  ⟨h.rl, h.ou, h.ok, h.row, h.g.nd, h.g.dj, fun t ht => Nat.le_trans (h.g.le t ht) hb⟩
/-- Take, along rows of nodes that there are. -/
theorem take_rel {n : Nat} {rows : List (List Int)} {out : List Bool} {L : List Nd} {C B : Nat} (h : Rel n rows out L C B) : ∀ xs : List Int, (∀ x ∈ xs, ∃ i : Nat, i < L.length ∧ x = (i : Int) + 1) →
    (Pool.take out xs).1.1 = (rtake L xs).1 ∧ ((0 < (rtake L xs).1 ∧ (Pool.take out xs).1.2 = 0) ∨ ((rtake L xs).1 = 0 ∧ (Pool.take out xs).1.2 = 6)) ∧ Rel n rows (Pool.take out xs).2 (rtake L xs).2 C B ∧ (rtake L xs).2.length = L.length
  | [], _ => ⟨rfl, .inr ⟨rfl, rfl⟩, h, rfl⟩
  | x :: xs, hx => by
    obtain ⟨i, hi, rfl⟩ := hx x (List.mem_cons_self ..)
    have e1 : ((i : Int) + 1).toNat = i + 1 := by omega
    have e2 : ((i : Int) + 1 - 1).toNat = i := by omega
    have eo := h.out_get i hi
    by_cases hu : (L.getD i n0).ou = true
    · have a : Pool.take out (((i : Int) + 1) :: xs) = Pool.take out xs := by
        show (if out.getD ((i : Int) + 1).toNat false = true then Pool.take out xs else _) = _
        rw [e1, eo, hu, if_pos rfl]
      have b : rtake L (((i : Int) + 1) :: xs) = rtake L xs := by
        show (if _ then _ else _) = _
        rw [e2, if_pos hu]
      rw [a, b]
      exact take_rel h xs (fun y hy => hx y (List.mem_cons_of_mem _ hy))
    · have hu : (L.getD i n0).ou = false := by simpa using hu
      have a : Pool.take out (((i : Int) + 1) :: xs) = (((i : Int) + 1, 0), out.set (i + 1) true) := by
        show (if out.getD ((i : Int) + 1).toNat false = true then Pool.take out xs else ((((i : Int) + 1, 0), out.set ((i : Int) + 1).toNat true) : (Int × Int) × List Bool)) = _
        rw [e1, eo, hu, if_neg Bool.false_ne_true]
      have b : rtake L (((i : Int) + 1) :: xs) = ((i : Int) + 1, L.set i { L.getD i n0 with ou := true }) := by
        show (if _ then _ else _) = _
        rw [e2, if_neg (by rw [hu]; exact Bool.false_ne_true)]
      rw [a, b]
      exact ⟨rfl, .inl ⟨by show (0 : Int) < (i : Int) + 1; omega, rfl⟩, h.turn i hi true, by rw [List.length_set]⟩
theorem back_rel {n : Nat} {rows : List (List Int)} {out : List Bool} {L : List Nd} {C B : Nat} (h : Rel n rows out L C B) (id : Int) : (Pool.back out id).1 = (rback L id).1 ∧ Rel n rows (Pool.back out id).2 (rback L id).2 C B ∧ (rback L id).2.length = L.length := by
  unfold Pool.back rback
  by_cases hin : 1 ≤ id ∧ id ≤ L.length
  · obtain ⟨i, rfl, hi⟩ : ∃ i : Nat, id = (i : Int) + 1 ∧ i < L.length := ⟨(id - 1).toNat, by omega, by omega⟩
    have hn : isNode ((i : Int) + 1) out.length = true := by
      rw [show ((i : Int) + 1) = ((i + 1 : Nat) : Int) by omega]
      exact isNode_mk (by omega) (by rw [h.len]; omega)
    rw [if_pos hn, if_pos hin, show ((i : Int) + 1).toNat = i + 1 by omega, show ((i : Int) + 1 - 1).toNat = i by omega, h.out_get i hi]
    by_cases hu : (L.getD i n0).ou = true
    · rw [if_pos hu, if_pos hu]
      exact ⟨rfl, h.turn i hi false, by rw [List.length_set]⟩
    · rw [if_neg hu, if_neg hu]
      exact ⟨rfl, h, rfl⟩
  · have hn : ¬ isNode id out.length = true := fun z => by
      obtain ⟨k, rfl, k1, k2⟩ := isNode_nat z
      rw [h.len] at k2
      exact hin ⟨by omega, by omega⟩
    rw [if_neg hn, if_neg hin]
    exact ⟨rfl, h, rfl⟩
theorem give_rel {n : Nat} {rows : List (List Int)} {out : List Bool} {L : List Nd} {C B : Nat} (h : Rel n rows out L C B) (id dt : Int) : (Pool.give rows out.length id dt).1 = (rgive L C id dt n).1 ∧ Rel n (Pool.give rows out.length id dt).2 out (rgive L C id dt n).2.1 (rgive L C id dt n).2.2 (B + 1) ∧ (rgive L C id dt n).2.1.length = L.length ∧ (rgive L C id dt n).2.2 ≤ C + 1 := by
  by_cases hin : 1 ≤ id ∧ id ≤ L.length ∧ -1 ≤ dt ∧ dt < (n : Int)
  · obtain ⟨i, rfl, hi⟩ : ∃ i : Nat, id = (i : Int) + 1 ∧ i < L.length := ⟨(id - 1).toNat, by omega, by omega⟩
    have hn : isNode ((i : Int) + 1) out.length = true := by
      rw [show ((i : Int) + 1) = ((i + 1 : Nat) : Int) by omega]
      exact isNode_mk (by omega) (by rw [h.len]; omega)
    have hg := h.give i hi dt hin.2.2.1 hin.2.2.2
    have e1 : (Pool.give rows out.length ((i : Int) + 1) dt).1 = 0 := by
      unfold Pool.give
      rw [if_pos ⟨hn, hin.2.2.1, by rw [h.rl]; exact hin.2.2.2⟩]
    have e2 : rgive L C ((i : Int) + 1) dt n = (0, L.set i ⟨dt, C, (L.getD i n0).ou⟩, C + 1) := by
      unfold rgive
      rw [if_pos hin, show ((i : Int) + 1 - 1).toNat = i by omega]
    rw [e1, e2]
    exact ⟨rfl, hg, by rw [List.length_set], Nat.le_refl _⟩
  · have hn : ¬ (isNode id out.length = true ∧ -1 ≤ dt ∧ dt < rows.length) := fun ⟨z, z1, z2⟩ => by
      obtain ⟨k, rfl, k1, k2⟩ := isNode_nat z
      rw [h.len] at k2
      rw [h.rl] at z2
      exact hin ⟨by omega, by omega, z1, z2⟩
    have e1 : Pool.give rows out.length id dt = (1, rows) := by unfold Pool.give; rw [if_neg hn]
    have e2 : rgive L C id dt n = (1, L, C) := by unfold rgive; rw [if_neg hin]
    rw [e1, e2]
    exact ⟨rfl, rel_mono h (by omega), rfl, by show C ≤ C + 1; omega⟩
/-- Where the loop stands. -/
structure Lp (w wr : World) (p Q n k j : Nat) (S : Nat → Prop) (rows : List (List Int)) (out : List Bool) (L : List Nd) (C : Nat) (a : Option Addr) (cap : Nat) : Prop where
  obj : O wr p S rows out
  rel : Rel n rows out L C (8 + j)
  ll : L.length = n * k
  cl : C ≤ n * k + j
  box : Row wr Q [.slice a L.length cap, .int .i64 C]
  src : SrcS wr (.slice a L.length cap) 3 (L.map ncell)
  bel : Below w.heap.size w wr
  hS : ∀ b, S b → w.heap.size ≤ b
  hQ : ¬ S Q
  hQw : w.heap.size ≤ Q
  hv : ∀ b, (Value.slice a L.length cap).ownBlock = some b → ¬ S b ∧ b ≠ Q
variable {w wr w' : World} {p Q n k j : Nat} {S : Nat → Prop} {rows : List (List Int)} {out : List Bool} {L : List Nd} {C : Nat} {a : Option Addr} {cap : Nat}
theorem Lp.below (h : Lp w wr p Q n k j S rows out L C a cap) (hb : Below wr.heap.size wr w') : Lp w w' p Q n k j S rows out L C a cap :=
  ⟨h.obj.below hb, h.rel, h.ll, h.cl, h.box.below hb h.box.lt, h.src.below hb, h.bel.trans (hb.mono h.bel.size), h.hS, h.hQ, h.hQw, h.hv⟩
theorem Lp.next (h : Lp w wr p Q n k j S rows out L C a cap) : Lp w wr p Q n k (j + 1) S rows out L C a cap :=
  ⟨h.obj, rel_mono h.rel (by omega), h.ll, by have := h.cl; omega, h.box, h.src, h.bel, h.hS, h.hQ, h.hQw, h.hv⟩
/-- The document's pool is another one now: its box is written. -/
theorem Lp.put (h : Lp w wr p Q n k j S rows out L C a cap) (a2 : Option Addr) (cap2 : Nat) (L2 : List Nd) (C2 : Nat) (hs : SrcS wr (.slice a2 L2.length cap2) 3 (L2.map ncell)) (hv : ∀ b, (Value.slice a2 L2.length cap2).ownBlock = some b → ¬ S b ∧ b ≠ Q) :
    O ((wr.setCell ⟨Q, 0, none⟩ (.slice a2 L2.length cap2)).setCell ⟨Q, 1, none⟩ (.int .i64 C2)) p S rows out ∧ Row ((wr.setCell ⟨Q, 0, none⟩ (.slice a2 L2.length cap2)).setCell ⟨Q, 1, none⟩ (.int .i64 C2)) Q [.slice a2 L2.length cap2, .int .i64 C2] ∧ SrcS ((wr.setCell ⟨Q, 0, none⟩ (.slice a2 L2.length cap2)).setCell ⟨Q, 1, none⟩ (.int .i64 C2)) (.slice a2 L2.length cap2) 3 (L2.map ncell) ∧ Below w.heap.size w ((wr.setCell ⟨Q, 0, none⟩ (.slice a2 L2.length cap2)).setCell ⟨Q, 1, none⟩ (.int .i64 C2)) ∧
    Upd (fun i => i = Q) wr ((wr.setCell ⟨Q, 0, none⟩ (.slice a2 L2.length cap2)).setCell ⟨Q, 1, none⟩ (.int .i64 C2)) := by
  have u : Upd (fun i => i = Q) wr ((wr.setCell ⟨Q, 0, none⟩ (.slice a2 L2.length cap2)).setCell ⟨Q, 1, none⟩ (.int .i64 C2)) := (Upd.one _ _ _ _).trans (Upd.one _ _ _ _)
  exact ⟨h.obj.keep u (fun b hb e => h.hQ (e ▸ hb)), (h.box.set 0 _).set 1 _, hs.keep (S := fun b => b ≠ Q) (fun b e => (hv b e).2) u (fun _ x e => x e), u.below h.bel h.bel.size (fun i e => by have := h.hQw; omega), u⟩

set_option maxHeartbeats 2000000 in
set_option maxRecDepth 100000 in
theorem many (n k : Int) (ao : Option Addr) (len cap : Nat) (w : World) (h : 6 < n ∨ 40 < len) :
    Calls Try.prog 5 #[.int .i64 n, .int .i64 k, .slice ao len cap] w fun e w' => e = .returned (.bool true) ∧ Below w.heap.size w w' := by
  by_cases c1 : 6 < n
  · clear h
    go_enter Try.func5, Try.ntmps5
    go_wp2_with (go_at_call 12; refine (awake _).mono ?_; rintro e w5 ⟨rfl, u5⟩)
    all_goals
      go_ret
      exact ⟨rfl, by assumption⟩
  · have c2 : (40 : Int) < (len : Int) := by omega
    clear h
    go_enter Try.func5, Try.ntmps5
    go_wp2_with (go_at_call 12; refine (awake _).mono ?_; rintro e w5 ⟨rfl, u5⟩)
    all_goals
      go_ret
      exact ⟨rfl, by assumption⟩
set_option maxHeartbeats 2000000 in
set_option maxRecDepth 100000 in
theorem few (n k : Int) (ao : Option Addr) (len cap : Nat) (w : World) (h : n < 1 ∨ k < 1 ∨ 8 < k) (h1 : n ≤ 6) (h2 : len ≤ 40) :
    Calls Try.prog 5 #[.int .i64 n, .int .i64 k, .slice ao len cap] w fun e w' => e = .returned (.bool true) ∧ Below w.heap.size w w' := by
  have c2 : (len : Int) ≤ 40 := by omega
  have hno := new_no w n k (by omega)
  have HN := Lib.hid hno
  clear hno
  have hh : n < 1 ∨ (¬ n < 1 ∧ k < 1) ∨ (¬ n < 1 ∧ ¬ k < 1 ∧ 8 < k) := by omega
  clear h
  rcases hh with e1 | ⟨e1, e2⟩ | ⟨e1, e2, e3⟩
  all_goals
    go_enter Try.func5, Try.ntmps5
    go_wp2_with (first
      | (go_at_call 6; refine HN.out.mono ?_; rintro e w1 ⟨rfl, rfl⟩)
      | (go_at_call 12; refine (awake _).mono ?_; rintro e w5 ⟨rfl, u5⟩))
    all_goals
      go_ret
      exact ⟨rfl, by assumption⟩

set_option maxHeartbeats 16000000 in
set_option maxRecDepth 100000 in
theorem main (n k : Nat) (v : Value) (xs : List (List Int)) (w : World) (n1 : 1 ≤ n) (n2 : n ≤ 6) (k1 : 1 ≤ k) (k2 : k ≤ 8) (h3 : xs.length ≤ 40) (hx : I64s w v 3 xs) :
    Calls Try.prog 5 #[.int .i64 n, .int .i64 k, v] w fun e w' => e = .returned (.bool true) ∧ Below w.heap.size w w' := by
  obtain ⟨⟨ao, cap, rfl, hlc, hlm, hcells⟩, hwf⟩ := hx
  have hnk : n * k ≤ 6 * 8 := Nat.mul_le_mul n2 k2
  have hnk1 : 1 ≤ n * k := Nat.mul_le_mul n1 k1
  have c2 : (xs.length : Int) ≤ 40 := by omega
  have c3 : (n : Int) ≤ 6 := by omega
  have c4 : (1 : Int) ≤ (n : Int) := by omega
  have c5 : (1 : Int) ≤ (k : Int) := by omega
  have c6 : (k : Int) ≤ 8 := by omega
  have KN := fun W : World => newC W n k (by omega) k1 k2
  obtain ⟨NK, hNK⟩ : ∃ NK, n * k = NK := ⟨_, rfl⟩
  rw [hNK] at KN
  have HNK := Lib.hid hNK
  have HKN := Lib.hid KN
  clear KN hNK
  go_enter Try.func5, Try.ntmps5
  go_wp2_with fail
  refine (new_yes _ n k n1 (by omega) k1 k2).mono ?_
  rintro e w1 ⟨p, rfl, hO, hB⟩
  go_wp2_with fail
  refine (HKN.out w1).mono ?_
  rintro e w2 ⟨v2, rfl, hs2, hB2, hv2⟩
  obtain ⟨a2, cap2, rfl, -⟩ := ns_open hs2
  have hLp : Lp w (w2.alloc (.cells #[.slice a2 (news n k).length cap2, .int .i64 (NK : Nat)] 44)) p w2.heap.size n k 0 (fun b => w.heap.size ≤ b ∧ b < w1.heap.size) (newRows n k (n * k)) (List.replicate (1 + n * k) false) (news n k) NK a2 cap2 :=
    ⟨(hO.below hB2).alloc _, by have := rel_mono (Rel.new n k k1) (show k ≤ 8 + 0 by omega); rw [HNK.out] at this ⊢; exact this, news_len n k, by have := HNK.out; omega, Row.new' rfl, hs2.below ((Below.refl _ _).alloc (Nat.le_refl _) _), (hB.trans (hB2.mono hB.size)).alloc (Nat.le_trans hB.size hB2.size) _, fun b hb => hb.1, fun hb => by have := hB2.size; omega, Nat.le_trans hB.size hB2.size,
      fun b hb => ⟨fun z => by have := hv2 b hb; omega, fun e => by
        have hp : 0 < (news n k).length := by rw [news_len]; omega
        obtain ⟨a9, cap9, hv9, hc9⟩ := ns_open hs2
        simp only [Value.slice.injEq] at hv9
        obtain ⟨rfl, -, -⟩ := hv9
        obtain ⟨b9, off9, rfl, hb9, -⟩ := hc9 hp
        simp [Value.ownBlock] at hb
        omega⟩⟩
  clear hO hB hs2 hB2 hv2
  obtain ⟨Q, hQ⟩ : ∃ Q, w2.heap.size = Q := ⟨_, rfl⟩
  go_upto_region 9 with (fail)
  obtain ⟨w3, hw3⟩ : ∃ w3, w2.alloc (.cells #[.slice a2 (news n k).length cap2, .int .i64 (NK : Nat)] 44) = w3 := ⟨_, rfl⟩
  rw [hw3] at hLp ⊢
  rw [hQ] at hLp
  clear hw3 hQ
  go_wp2_with fail
  go_loopw [64] (fun i wr => ∃ j : Nat, j ≤ xs.length ∧ i = .int .i64 j ∧ ∃ (S : Nat → Prop) (rows : List (List Int)) (out : List Bool) (L : List Nd) (C : Nat) (a : Option Addr) (cap : Nat), Lp w wr p Q n k j S rows out L C a cap) (fun i _ => xs.length - (intOf i).toNat)
  case atStart => exact ⟨0, Nat.zero_le _, rfl, _, _, _, _, _, _, _, hLp⟩
  case round =>
    clear hLp
    obtain ⟨j, hj, rfl, S, rows, out, L, C, a, cp, hL⟩ := hrel
    by_cases hlt : j < xs.length
    · have hlt' : (j : Int) < (xs.length : Int) := by omega
      obtain ⟨b, off, rfl, hbw, hcell⟩ := hcells (by omega)
      have hy := hwf (xs.getD j []) (by rw [getD_lt _ _ _ hlt]; exact List.getElem_mem hlt)
      obtain ⟨y, hyy⟩ : ∃ y, xs.getD j [] = y := ⟨_, rfl⟩
      rw [hyy] at hy
      obtain ⟨hy3, hyw⟩ := hy
      match y, hy3 with
      | [q, t, N], _ =>
        have c0 := (hL.bel.cell (p := ⟨b, off + j * 3, none⟩) hbw).trans (hcell j hlt 0 (.int .i64 q) (by decide) (by rw [hyy]; rfl))
        have c1 := (hL.bel.cell (p := ⟨b, off + j * 3 + 1, none⟩) hbw).trans (hcell j hlt 1 (.int .i64 t) (by decide) (by rw [hyy]; rfl))
        have c7 := (hL.bel.cell (p := ⟨b, off + j * 3 + 2, none⟩) hbw).trans (hcell j hlt 2 (.int .i64 N) (by decide) (by rw [hyy]; rfl))
        have hL1 := hL.below ((Below.refl wr.heap.size wr).alloc (Nat.le_refl _) (.cells #[.int .i64 q, .int .i64 t, .int .i64 N] 37))
        have hR : Row (wr.alloc (.cells #[.int .i64 q, .int .i64 t, .int .i64 N] 37)) wr.heap.size [.int .i64 q, .int .i64 t, .int .i64 N] := Row.new' rfl
        have hAQ : wr.heap.size ≠ Q := fun e => by have := hL.box.lt; omega
        have hAS : ¬ S wr.heap.size := fun e => by have := hL.obj.lt _ e; omega
        clear hyy hcell hyw hL
        go_upto_block 2 with (fail)
        obtain ⟨W1, hW1⟩ : ∃ W, wr.alloc (.cells #[.int .i64 q, .int .i64 t, .int .i64 N] 37) = W := ⟨_, rfl⟩
        obtain ⟨A, hA⟩ : ∃ A, wr.heap.size = A := ⟨_, rfl⟩
        rw [hW1] at hL1 hR ⊢
        rw [hA] at hR hAQ hAS ⊢
        clear hW1 hA c0 c1 c7
        have p0 := hR.cell (i := 0) rfl
        have p1 := hR.cell (i := 1) rfl
        have p2 := hR.cell (i := 2) rfl
        have b0 := hL1.box.cell (i := 0) rfl
        have b1 := hL1.box.cell (i := 1) rfl
        have HLL := Lib.hid hL1.ll
        have hL1000 : L.length ≤ 1000 := by have := hL1.ll; omega
        have hcl := hL1.cl
        by_cases e1 : q = 1
        · subst e1
          have KT := takeC W1 _ L C hL1.src hL1000 (by omega) t
          have hmem : ∀ x ∈ refRow L t C, ∃ i : Nat, i < L.length ∧ x = (i : Int) + 1 := fun x hx => by
            obtain ⟨i, i1, i2, _⟩ := (mem_ref L t C x).1 hx
            exact ⟨i, i1, i2⟩
          obtain ⟨t1, t2, t3, t4⟩ := take_rel hL1.rel (refRow L t C) hmem
          have KP := fun (W : World) (hO : O W p S rows out) => take_all W p S rows out hO t
          rw [hL1.rel.rowOf] at KP
          obtain ⟨⟨id, L2⟩, hrt⟩ : ∃ r, rtake L (refRow L t C) = r := ⟨_, rfl⟩
          obtain ⟨⟨⟨id2, er⟩, out2⟩, hpt⟩ : ∃ r, Pool.take out (refRow L t C) = r := ⟨_, rfl⟩
          rw [hrt] at KT t1 t2 t3 t4
          rw [hpt] at KP t1 t2 t3
          dsimp only at KT KP t1 t2 t3 t4
          subst t1
          have HKT := Lib.hid KT
          have HKP := Lib.hid KP
          have HT3 := Lib.hid t3
          have HT2 := Lib.hid t2
          have T4 := Lib.hid t4
          clear KT KP hmem t3 t2 t4 hrt hpt
          go_wp2_with fail
          refine HKT.out.mono ?_
          rintro e w2 ⟨v5, rfl, hs2, hb2, hv2⟩
          obtain ⟨a5, c5, rfl, -⟩ := ns_open hs2
          have hL2 := (hL1.below hb2).below ((Below.refl w2.heap.size w2).alloc (Nat.le_refl _) (.cells #[.slice a5 L2.length c5, .int .i64 C] 44))
          have hs3 := hs2.below ((Below.refl w2.heap.size w2).alloc (Nat.le_refl _) (.cells #[.slice a5 L2.length c5, .int .i64 C] 44))
          have hR2 := (hR.below hb2 hR.lt).alloc (.cells #[.slice a5 L2.length c5, .int .i64 C] 44)
          have hX : Row (w2.alloc (.cells #[.slice a5 L2.length c5, .int .i64 C] 44)) w2.heap.size [.slice a5 L2.length c5, .int .i64 C] := Row.new' rfl
          have hXQ : w2.heap.size ≠ Q := fun e => by have := (hL1.below hb2).box.lt; omega
          have hv3 : ∀ b, (Value.slice a5 L2.length c5).ownBlock = some b → ¬ S b ∧ b ≠ Q := fun b hb => by
            rcases hv2 b hb with e | e
            · exact hL1.hv b e
            · exact ⟨fun z => by have := hL1.obj.lt _ z; omega, fun z => by have := hL1.box.lt; omega⟩
          clear hs2 hv2 b0 b1 p0 p1 p2
          go_upto_region 15 with (fail)
          obtain ⟨W3, hW3⟩ : ∃ W, w2.alloc (.cells #[.slice a5 L2.length c5, .int .i64 C] 44) = W := ⟨_, rfl⟩
          obtain ⟨X, hXX⟩ : ∃ X, w2.heap.size = X := ⟨_, rfl⟩
          rw [hW3] at hL2 hs3 hR2 hX ⊢
          rw [hXX] at hX hXQ ⊢
          clear hW3 hXX
          have x0 := hX.cell (i := 0) rfl
          have x1 := hX.cell (i := 1) rfl
          have y0 := hL2.box.cell (i := 0) rfl
          have y1 := hL2.box.cell (i := 1) rfl
          have z0 := hL2.box.frozen 0
          have z1 := hL2.box.frozen 1
          obtain ⟨hO4, hQ4, hs4, hB4, u4⟩ := hL2.put a5 c5 L2 C hs3 hv3
          have hR4 := hR2.upd u4 hAQ
          go_upto_region 16 with (fail)
          obtain ⟨W4, hW4⟩ : ∃ W, (W3.setCell ⟨Q, 0, none⟩ (.slice a5 L2.length c5)).setCell ⟨Q, 1, none⟩ (.int .i64 C) = W := ⟨_, rfl⟩
          rw [hW4] at hO4 hQ4 hs4 hB4 hR4 ⊢
          have p1 := hR4.cell (i := 1) rfl
          have p2 := hR4.cell (i := 2) rfl
          have hQS := hL2.hQ
          have hSS := hL2.hS
          have hQw := hL2.hQw
          have hRel := hL2.rel
          clear hW4 x0 x1 y0 y1 z0 z1 u4 hs3 hX hR2 hL1 hL2 hR
          go_wp2_with fail
          refine (HKP.out W4 hO4).mono ?_
          rintro e w5 ⟨rfl, hO5, u5⟩
          have hF : Lp w w5 p Q n k (j + 1) S rows out2 L2 C a5 c5 :=
            ⟨hO5, rel_mono HT3.out (by omega), T4.out.trans HLL.out, by omega, hQ4.upd u5 hQS, hs4.keep (S := fun b => ¬ S b) (fun b e => (hv3 b e).1) u5 (fun _ x => x), u5.below hB4 hB4.size hSS, hSS, hQS, hQw, hv3⟩
          clear hO4 hQ4 hs4 hB4 hR4 u5 hO5 HKP HKT p1 p2
          have hne : (id2 != id2) = false := by simp
          rcases HT2.out with ⟨s1, rfl⟩ | ⟨rfl, rfl⟩
          · have s2 : decide (0 < id2) = true := decide_eq_true s1
            have s3 : (id2 == 0) = false := by simp; omega
            have KS := sameC w5 p S rows out2 hF.obj _ L2 C _ n hF.src (by have := hF.ll; omega) (by have := hF.cl; omega) n2 hF.rel
            have HKS := Lib.hid KS
            have g0 := hF.box.cell (i := 0) rfl
            have g1 := hF.box.cell (i := 1) rfl
            clear KS
            go_wp2_with fail
            refine HKS.out.mono ?_
            rintro e w9 ⟨rfl, hb9⟩
            go_wp2_with fail
            go_roundw
            case rel => exact ⟨j + 1, by omega, by go_num, _, _, _, _, _, _, _, hF.below hb9⟩
            case measure => simp [intOf]; omega
          · have KS := sameC w5 p S rows out2 hF.obj _ L2 C _ n hF.src (by have := hF.ll; omega) (by have := hF.cl; omega) n2 hF.rel
            have HKS := Lib.hid KS
            have g0 := hF.box.cell (i := 0) rfl
            have g1 := hF.box.cell (i := 1) rfl
            clear KS
            go_wp2_with fail
            refine HKS.out.mono ?_
            rintro e w9 ⟨rfl, hb9⟩
            go_wp2_with fail
            go_roundw
            case rel => exact ⟨j + 1, by omega, by go_num, _, _, _, _, _, _, _, hF.below hb9⟩
            case measure => simp [intOf]; omega
        have E1 : (q == 1) = false := by simpa using e1
        by_cases e2 : q = 2
        · subst e2
          have KT := backC W1 _ L C hL1.src hL1000 N
          obtain ⟨t1, t3, t4⟩ := back_rel hL1.rel N
          have KP := fun (W : World) (hO : O W p S rows out) => back_all W p S rows out hO N
          obtain ⟨⟨er, L2⟩, hrt⟩ : ∃ r, rback L N = r := ⟨_, rfl⟩
          obtain ⟨⟨er2, out2⟩, hpt⟩ : ∃ r, Pool.back out N = r := ⟨_, rfl⟩
          rw [hrt] at KT t1 t3 t4
          rw [hpt] at KP t1 t3
          dsimp only at KT KP t1 t3 t4
          subst t1
          have HKT := Lib.hid KT
          have HKP := Lib.hid KP
          have HT3 := Lib.hid t3
          have T4 := Lib.hid t4
          clear KT KP t3 t4 hrt hpt
          go_wp2_with fail
          refine HKT.out.mono ?_
          rintro e w2 ⟨v5, rfl, hs2, hb2, hv2⟩
          obtain ⟨a5, c5, rfl, -⟩ := ns_open hs2
          have hL2 := (hL1.below hb2).below ((Below.refl w2.heap.size w2).alloc (Nat.le_refl _) (.cells #[.slice a5 L2.length c5, .int .i64 C] 44))
          have hs3 := hs2.below ((Below.refl w2.heap.size w2).alloc (Nat.le_refl _) (.cells #[.slice a5 L2.length c5, .int .i64 C] 44))
          have hR2 := (hR.below hb2 hR.lt).alloc (.cells #[.slice a5 L2.length c5, .int .i64 C] 44)
          have hX : Row (w2.alloc (.cells #[.slice a5 L2.length c5, .int .i64 C] 44)) w2.heap.size [.slice a5 L2.length c5, .int .i64 C] := Row.new' rfl
          have hXQ : w2.heap.size ≠ Q := fun e => by have := (hL1.below hb2).box.lt; omega
          have hv3 : ∀ b, (Value.slice a5 L2.length c5).ownBlock = some b → ¬ S b ∧ b ≠ Q := fun b hb => by
            rcases hv2 b hb with e | e
            · exact hL1.hv b e
            · exact ⟨fun z => by have := hL1.obj.lt _ z; omega, fun z => by have := hL1.box.lt; omega⟩
          clear hs2 hv2 b0 b1 p0 p1 p2
          go_upto_region 21 with (fail)
          obtain ⟨W3, hW3⟩ : ∃ W, w2.alloc (.cells #[.slice a5 L2.length c5, .int .i64 C] 44) = W := ⟨_, rfl⟩
          obtain ⟨X, hXX⟩ : ∃ X, w2.heap.size = X := ⟨_, rfl⟩
          rw [hW3] at hL2 hs3 hR2 hX ⊢
          rw [hXX] at hX hXQ ⊢
          clear hW3 hXX
          have x0 := hX.cell (i := 0) rfl
          have x1 := hX.cell (i := 1) rfl
          have y0 := hL2.box.cell (i := 0) rfl
          have y1 := hL2.box.cell (i := 1) rfl
          have z0 := hL2.box.frozen 0
          have z1 := hL2.box.frozen 1
          obtain ⟨hO4, hQ4, hs4, hB4, u4⟩ := hL2.put a5 c5 L2 C hs3 hv3
          have hR4 := hR2.upd u4 hAQ
          go_upto_region 22 with (fail)
          obtain ⟨W4, hW4⟩ : ∃ W, (W3.setCell ⟨Q, 0, none⟩ (.slice a5 L2.length c5)).setCell ⟨Q, 1, none⟩ (.int .i64 C) = W := ⟨_, rfl⟩
          rw [hW4] at hO4 hQ4 hs4 hB4 hR4 ⊢
          have p1 := hR4.cell (i := 1) rfl
          have p2 := hR4.cell (i := 2) rfl
          have hQS := hL2.hQ
          have hSS := hL2.hS
          have hQw := hL2.hQw
          have hRel := hL2.rel
          clear hW4 x0 x1 y0 y1 z0 z1 u4 hs3 hX hR2 hL1 hL2 hR
          go_wp2_with fail
          refine (HKP.out W4 hO4).mono ?_
          rintro e w5 ⟨rfl, hO5, u5⟩
          have hF : Lp w w5 p Q n k (j + 1) S rows out2 L2 C a5 c5 :=
            ⟨hO5, rel_mono HT3.out (by omega), T4.out.trans HLL.out, by omega, hQ4.upd u5 hQS, hs4.keep (S := fun b => ¬ S b) (fun b e => (hv3 b e).1) u5 (fun _ x => x), u5.below hB4 hB4.size hSS, hSS, hQS, hQw, hv3⟩
          clear hO4 hQ4 hs4 hB4 hR4 u5 hO5 HKP HKT p1 p2
          have hne : (er2 != er2) = false := by simp
          have KS := sameC w5 p S rows out2 hF.obj _ L2 C _ n hF.src (by have := hF.ll; omega) (by have := hF.cl; omega) n2 hF.rel
          have HKS := Lib.hid KS
          have g0 := hF.box.cell (i := 0) rfl
          have g1 := hF.box.cell (i := 1) rfl
          clear KS
          go_wp2_with fail
          refine HKS.out.mono ?_
          rintro e w9 ⟨rfl, hb9⟩
          go_wp2_with fail
          go_roundw
          case rel => exact ⟨j + 1, by omega, by go_num, _, _, _, _, _, _, _, hF.below hb9⟩
          case measure => simp [intOf]; omega
        have E2 : (q == 2) = false := by simpa using e2
        by_cases e3 : q = 3
        · subst e3
          have KT := giveC W1 _ L C hL1.src hL1000 (by omega) N t n
          obtain ⟨t1, t3, t4, t5⟩ := give_rel hL1.rel N t
          have KP := fun (W : World) (hO : O W p S rows out) => give_all W p S rows out hO (8 + j) hL1.rel.g (by omega) N t
          obtain ⟨⟨er, L2, C2⟩, hrt⟩ : ∃ r, rgive L C N t n = r := ⟨_, rfl⟩
          obtain ⟨⟨er2, rows2⟩, hpt⟩ : ∃ r, Pool.give rows out.length N t = r := ⟨_, rfl⟩
          rw [hrt] at KT t1 t3 t4 t5
          rw [hpt] at KP t1 t3
          dsimp only at KT KP t1 t3 t4 t5
          subst t1
          have HKT := Lib.hid KT
          have HKP := Lib.hid KP
          have HT3 := Lib.hid t3
          have T4 := Lib.hid t4
          clear KT KP t3 t4 hrt hpt
          go_wp2_with fail
          refine HKT.out.mono ?_
          rintro e w2 ⟨v5, rfl, hs2, hb2, hv2⟩
          obtain ⟨a5, c5, rfl, -⟩ := ns_open hs2
          have hL2 := (hL1.below hb2).below ((Below.refl w2.heap.size w2).alloc (Nat.le_refl _) (.cells #[.slice a5 L2.length c5, .int .i64 (C2 : Nat)] 44))
          have hs3 := hs2.below ((Below.refl w2.heap.size w2).alloc (Nat.le_refl _) (.cells #[.slice a5 L2.length c5, .int .i64 (C2 : Nat)] 44))
          have hR2 := (hR.below hb2 hR.lt).alloc (.cells #[.slice a5 L2.length c5, .int .i64 (C2 : Nat)] 44)
          have hX : Row (w2.alloc (.cells #[.slice a5 L2.length c5, .int .i64 (C2 : Nat)] 44)) w2.heap.size [.slice a5 L2.length c5, .int .i64 (C2 : Nat)] := Row.new' rfl
          have hXQ : w2.heap.size ≠ Q := fun e => by have := (hL1.below hb2).box.lt; omega
          have hv3 : ∀ b, (Value.slice a5 L2.length c5).ownBlock = some b → ¬ S b ∧ b ≠ Q := fun b hb => by
            rcases hv2 b hb with e | e
            · exact hL1.hv b e
            · exact ⟨fun z => by have := hL1.obj.lt _ z; omega, fun z => by have := hL1.box.lt; omega⟩
          clear hs2 hv2 b0 b1 p0 p1 p2
          go_upto_region 26 with (fail)
          obtain ⟨W3, hW3⟩ : ∃ W, w2.alloc (.cells #[.slice a5 L2.length c5, .int .i64 (C2 : Nat)] 44) = W := ⟨_, rfl⟩
          obtain ⟨X, hXX⟩ : ∃ X, w2.heap.size = X := ⟨_, rfl⟩
          rw [hW3] at hL2 hs3 hR2 hX ⊢
          rw [hXX] at hX hXQ ⊢
          clear hW3 hXX
          have x0 := hX.cell (i := 0) rfl
          have x1 := hX.cell (i := 1) rfl
          have y0 := hL2.box.cell (i := 0) rfl
          have y1 := hL2.box.cell (i := 1) rfl
          have z0 := hL2.box.frozen 0
          have z1 := hL2.box.frozen 1
          obtain ⟨hO4, hQ4, hs4, hB4, u4⟩ := hL2.put a5 c5 L2 C2 hs3 hv3
          have hR4 := hR2.upd u4 hAQ
          go_upto_region 27 with (fail)
          obtain ⟨W4, hW4⟩ : ∃ W, (W3.setCell ⟨Q, 0, none⟩ (.slice a5 L2.length c5)).setCell ⟨Q, 1, none⟩ (.int .i64 (C2 : Nat)) = W := ⟨_, rfl⟩
          rw [hW4] at hO4 hQ4 hs4 hB4 hR4 ⊢
          have p1 := hR4.cell (i := 1) rfl
          have p2 := hR4.cell (i := 2) rfl
          have hQS := hL2.hQ
          have hSS := hL2.hS
          have hQw := hL2.hQw
          have hRel := hL2.rel
          clear hW4 x0 x1 y0 y1 z0 z1 u4 hs3 hX hR2 hL1 hL2 hR
          go_wp2_with fail
          refine (HKP.out W4 hO4).mono ?_
          rintro e w5 ⟨rfl, S2, hO5, u5, hS2⟩
          have hq4 := hQ4.lt
          have hv4 : ∀ b, (Value.slice a5 L2.length c5).ownBlock = some b → b < W4.heap.size := fun b hb => by
            have hp : 0 < L2.length := by have := T4.out.trans HLL.out; omega
            obtain ⟨a9, cap9, hv9, hc9⟩ := ns_open hs4
            simp only [Value.slice.injEq] at hv9
            obtain ⟨rfl, -, -⟩ := hv9
            obtain ⟨b9, off9, rfl, hb9, -⟩ := hc9 hp
            simp [Value.ownBlock] at hb
            omega
          have hF : Lp w w5 p Q n k (j + 1) S2 rows2 out L2 C2 a5 c5 :=
            ⟨hO5, rel_mono HT3.out (by omega), T4.out.trans HLL.out, by omega, hQ4.upd u5 hQS, hs4.keep (S := fun b => ¬ S b) (fun b e => (hv3 b e).1) u5 (fun _ x => x), u5.below hB4 hB4.size hSS,
              fun b hb => by rcases hS2 b hb with z | z; exact hSS b z; have := hB4.size; omega, fun hb => by rcases hS2 _ hb with z | z; exact hQS z; omega, hQw, fun b hb => ⟨fun z => by rcases hS2 b z with z | z; exact (hv3 b hb).1 z; have := hv4 b hb; omega, (hv3 b hb).2⟩⟩
          clear hO4 hQ4 hs4 hB4 hR4 u5 hO5 HKP HKT p1 p2 hv4
          have hne : (er2 != er2) = false := by simp
          have KS := sameC w5 p S2 rows2 out hF.obj _ L2 C2 _ n hF.src (by have := hF.ll; omega) (by have := hF.cl; omega) n2 hF.rel
          have HKS := Lib.hid KS
          have g0 := hF.box.cell (i := 0) rfl
          have g1 := hF.box.cell (i := 1) rfl
          clear KS
          go_wp2_with fail
          refine HKS.out.mono ?_
          rintro e w9 ⟨rfl, hb9⟩
          go_wp2_with fail
          go_roundw
          case rel => exact ⟨j + 1, by omega, by go_num, _, _, _, _, _, _, _, hF.below hb9⟩
          case measure => simp [intOf]; omega
        have E3 : (q == 3) = false := by simpa using e3
        have hF := hL1.next
        clear e1 e2 e3 hL1 hR p1 p2 b0 b1
        have KS := sameC W1 p S rows out hF.obj _ L C _ n hF.src (by have := hF.ll; omega) (by have := hF.cl; omega) n2 hF.rel
        have HKS := Lib.hid KS
        have g0 := hF.box.cell (i := 0) rfl
        have g1 := hF.box.cell (i := 1) rfl
        clear KS
        go_wp2_with fail
        refine HKS.out.mono ?_
        rintro e w9 ⟨rfl, hb9⟩
        go_wp2_with fail
        go_roundw
        case rel => exact ⟨j + 1, by omega, by go_num, _, _, _, _, _, _, _, hF.below hb9⟩
        case measure => simp [intOf]; omega
    · obtain rfl : j = xs.length := by omega
      have hB := hL.bel
      go_wp2_with fail
      refine (awake _).mono ?_
      rintro e w5 ⟨rfl, u5⟩
      go_wp2_with fail
      go_ret
      exact ⟨rfl, hB.trans (u5.mono hB.size)⟩
theorem walk (n k : Int) (v : Value) (xs : List (List Int)) (w : World) (hx : I64s w v 3 xs) :
    Calls Try.prog 5 #[.int .i64 n, .int .i64 k, v] w fun e w' => e = .returned (.bool true) ∧ Below w.heap.size w w' := by
  have hx0 := hx
  obtain ⟨⟨ao, cap, rfl, _, _, _⟩, _⟩ := hx0
  by_cases h1 : 6 < n ∨ 40 < xs.length
  · exact many n k ao xs.length cap w h1
  · by_cases h2 : n < 1 ∨ k < 1 ∨ 8 < k
    · exact few n k ao xs.length cap w h2 (by omega) (by omega)
    · obtain ⟨n', rfl⟩ := Int.eq_ofNat_of_zero_le (show 0 ≤ n by omega)
      obtain ⟨k', rfl⟩ := Int.eq_ofNat_of_zero_le (show 0 ≤ k by omega)
      exact main n' k' _ xs w (by omega) (by omega) (by omega) (by omega) (by omega) hx
end Go.Proofs.Ytnmldhagdgghoaa.WalkPoolPlays
