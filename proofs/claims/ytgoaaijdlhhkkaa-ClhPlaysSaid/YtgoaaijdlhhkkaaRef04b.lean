/- The document's port: an access that there is. -/
import Derived.Test.YtgoaaijdlhhkkaaRef04
import Derived.Deep.DeepMust
import Derived.Deep.AppendLies
import Derived.Deep.RegionLaw
import Derived.Deep.CutRange
namespace Go.Proofs.Ytgoaaijdlhhkkaa.Ref04
open Go Go.RowKit Go.Proofs.Ytgoaaijdlhhkkaa.Heap Go.Proofs.Ytgoaaijdlhhkkaa.Open Go.Proofs.Ytgoaaijdlhhkkaa.Has Go.Proofs.Ytgoaaijdlhhkkaa.Mem

/-- The document's port in the midst of an access: its counts are the cells cs; bo and bx are the call's own boxes. -/
structure Mid (w0 W : World) (p cb bo bx : Nat) (S : Nat → Prop) (k : Nat) (ws : List Int) (l : List T) (wv tv : Value) (oc xc cs : List Value) : Prop where
  top : Row W p [wv, .int .i64 k, tv, .slice (some ⟨cb, 0, none⟩) k k]
  words : Src1 W wv .u32 ws
  touched : OwnS W 0 164 3 tv (l.map T.cells)
  row : Row W cb cs
  obo : Row W bo oc
  obx : Row W bx xc
  upd : Upd S w0 W
  sc : S cb
  npc : p ≠ cb
  nob : bo ≠ cb
  nxb : bx ≠ cb
  nw : wv.ownBlock ≠ some cb
  nt : tv.ownBlock ≠ some cb
theorem Mid.keep {U : Nat → Prop} {w0 W W' : World} {p cb bo bx : Nat} {S : Nat → Prop} {k : Nat} {ws : List Int} {l : List T} {wv tv : Value} {oc xc cs : List Value} (h : Mid w0 W p cb bo bx S k ws l wv tv oc xc cs) (hu : Upd U W W') (hn : ∀ b, b < W.heap.size → ¬ U b) : Mid w0 W' p cb bo bx S k ws l wv tv oc xc cs := by
  have hu' : Upd (fun _ => False) W W' := hu.mono fun i hi hU => hn i hi hU
  exact ⟨h.top.upd hu' id, Mem.Src1.keep (S := fun _ => True) h.words (fun _ _ => trivial) hu' (fun _ _ => id), ⟨own_upd h.touched.1 hu' (fun _ _ => id), h.touched.2⟩, h.row.upd hu' id, h.obo.upd hu' id, h.obx.upd hu' id, h.upd.trans (hu'.mono fun _ _ e => e.elim), h.sc, h.npc, h.nob, h.nxb, h.nw, h.nt⟩
theorem Mid.drew {w0 W : World} {p cb bo bx : Nat} {S : Nat → Prop} {k : Nat} {ws : List Int} {l : List T} {wv tv : Value} {oc xc cs : List Value} (h : Mid w0 W p cb bo bx S k ws l wv tv oc xc cs) : Mid w0 W.drew p cb bo bx S k ws l wv tv oc xc cs := h.keep (U := fun _ => False) ((Upd.refl _ _).drew) fun _ _ => id
theorem Mid.set {w0 W : World} {p cb bo bx : Nat} {S : Nat → Prop} {k : Nat} {ws : List Int} {l : List T} {wv tv : Value} {oc xc cs : List Value} (h : Mid w0 W p cb bo bx S k ws l wv tv oc xc cs) (i : Nat) (v : Value) : Mid w0 (W.setCell ⟨cb, i, none⟩ v) p cb bo bx S k ws l wv tv oc xc (cs.set i v) := by
  have hu := Upd.one W cb i v
  exact ⟨h.top.upd hu h.npc, Mem.Src1.keep (S := fun b => b ≠ cb) h.words (fun b hb e => h.nw (by rw [hb, e])) hu (fun _ hb => hb), ⟨own_upd h.touched.1 hu (fun b hb e => h.nt (by rw [hb, e])), h.touched.2⟩, h.row.set i v, h.obo.upd hu h.nob, h.obx.upd hu h.nxb, h.upd.setCell (p := ⟨cb, i, none⟩) (.inl h.sc) v, h.sc, h.npc, h.nob, h.nxb, h.nw, h.nt⟩
theorem info_touch : (Try.prog.info? 164).map (fun i => (i.zero, i.size, i.bytes)) = some (some (.agg #[.int .i64 0, .int .i64 0, .bool false]), 3, 24) := by kernel_rfl
theorem set_same {cs : List Value} {i : Nat} {v : Value} (h : cs[i]? = some v) : cs.set i v = cs := by
  apply List.ext_getElem?
  intro j
  by_cases e : i = j
  · subst e
    rw [List.getElem?_set_self (List.getElem?_eq_some_iff.1 h).1, h]
  · rw [List.getElem?_set_ne e]

set_option maxHeartbeats 8000000 in
set_option maxRecDepth 100000 in
theorem do_yes (w : World) (p : Nat) (S : Nat → Prop) (k : Nat) (ws : List Int) (l : List T) (h : RO w p S k ws l) (hf : l.length < 1000000) (hk : k ≤ 64) (hws : ws.length ≤ 100000) (t : Nat) (q : Int) (a : Nat) (o x : Int) (wr r : Bool) (ht : t < k) (ha : a < ws.length) (q1 : 1 ≤ q) (q5 : q ≤ 5)
    (hq : decide (1 < q) = wr) (hr : miss l ⟨t, a, wr⟩ k = r) (us : List Int) (u d : Int) (hst : step02 ws q a o x = ((u, d), us)) :
    Calls Try.prog 99 #[.pointer (some ⟨p, 0, none⟩), .int .i64 t, .agg #[.int .i64 q, .int .i64 a, .int .u32 o, .int .u32 x]] w fun e w' => e = .returned (.tuple #[.int .u32 u, .int .i64 d]) ∧
      RO w' p (fun b => S b ∨ Btw w w' b) k us (l ++ [⟨t, a, wr⟩]) ∧ Upd S w w' := by
  obtain ⟨⟨wv, tv, cb, hp⟩, hl⟩ := h
  have t0 := hp.top.alloc (.cells #[.int .i64 q, .int .i64 a, .int .u32 o, .int .u32 x] 161)
  have g0 := t0.cell (i := 0) rfl
  have g1 := t0.cell (i := 1) rfl
  obtain ⟨cs, hrow, hc⟩ := hp.cnts
  obtain ⟨e0, e1, e2⟩ := hc.2 t ht
  obtain ⟨wa, wcap, hwv⟩ : ∃ a c, wv = .slice a ws.length c := by obtain ⟨a, cap, e, _⟩ := hp.words; exact ⟨a, cap, e⟩
  have HWV := Lib.hid hwv
  rw [hwv] at g0
  have h1 : decide ((t : Int) < 0) = false := by simp
  have h2 : decide ((k : Int) ≤ t) = false := by simp; omega
  have h3 : decide ((a : Int) < 0) = false := by simp
  have h4 : decide ((ws.length : Int) ≤ a) = false := by simp; omega
  have h7 : decide (k ≤ t) = false := by simp; omega
  have h8 : decide (ws.length ≤ a) = false := by simp; omega
  have h5 : decide (q < 1) = false := by simp; omega
  have h6 : decide (5 < q) = false := by simp; omega
  have HC := Lib.hid (hc.step t a wr r hr ht)
  have HR := Lib.hid hr
  have HST := Lib.hid hst
  have hA := acc_le l t
  have hW := wrs_le l t
  have hM := misses_acc k l t
  have ht' : (t : Int) < k := by omega
  have hk' : (k : Int) ≤ 64 := by omega
  have lp := hl _ hp.sp
  have lc := hl _ hp.sc
  have M1 : ∀ n, Mid w (((w.alloc (.cells #[.int .i64 q, .int .i64 a, .int .u32 o, .int .u32 x] 161)).drewN n).alloc (.cells #[.int .i64 t, .int .i64 a, .bool wr] 164)) p cb w.heap.size (w.heap.size + 1) S k ws l wv tv [.int .i64 q, .int .i64 a, .int .u32 o, .int .u32 x] [.int .i64 t, .int .i64 a, .bool wr] cs := by
    intro n
    have hu : Upd (fun _ => False) w (((w.alloc (.cells #[.int .i64 q, .int .i64 a, .int .u32 o, .int .u32 x] 161)).drewN n).alloc (.cells #[.int .i64 t, .int .i64 a, .bool wr] 164)) := (((Upd.refl _ _).alloc _).drewN n).alloc _
    exact ⟨hp.top.upd hu id, Mem.Src1.keep (S := fun _ => True) hp.words (fun _ _ => trivial) hu (fun _ _ => id), ⟨own_upd hp.touched.1 hu (fun _ _ => id), hp.touched.2⟩, hrow.upd hu id, ((Row.new' rfl).drewN n).alloc _, Row.new' (by simp [World.drewN]), hu.mono fun _ _ e => e.elim, hp.sc, hp.ne, by omega, by omega, fun e => (hp.wl _ e).2.2 rfl, fun e => (hp.tl _ e).2.2 rfl⟩
  obtain ⟨y0, hy0⟩ : ∃ y, acc l t = y := ⟨_, rfl⟩
  obtain ⟨y1, hy1⟩ : ∃ y, wrs l t = y := ⟨_, rfl⟩
  obtain ⟨y2, hy2⟩ : ∃ y, misses k l t = y := ⟨_, rfl⟩
  rw [hy0] at e0 hA hW hM
  rw [hy1] at e1 hW
  rw [hy2] at e2 hM
  have HCC := HC.out
  rw [hy0, hy1, hy2] at HCC
  have HC2 := Lib.hid HCC
  have E0 := Lib.hid e0
  have E1 := Lib.hid e1
  have E2 := Lib.hid e2
  have b0 : (y0 : Int) ≤ 1000000 := by omega
  have b1 : (y1 : Int) ≤ 1000000 := by omega
  have b2 : (y2 : Int) ≤ 1000000 := by omega
  clear hwv hr hst HC HCC hy0 hy1 hy2 e0 e1 e2 hc t0
  go_enter Try.func99, Try.ntmps99
  go_wp2
  go_quiet (fail)
  have M2 := M1 nq
  clear M1 g0 g1 h1 h2 h3 h4 h5 h6 h7 h8
  go_wp2_with fail
  obtain ⟨W2, hW2⟩ : ∃ W, (((w.alloc (.cells #[.int .i64 q, .int .i64 a, .int .u32 o, .int .u32 x] 161)).drewN nq).alloc (.cells #[.int .i64 t, .int .i64 a, .bool wr] 164)) = W := ⟨_, rfl⟩
  rw [hW2] at M2 ⊢
  clear hW2
  have c3 := M2.top.cell (i := 3) rfl
  have d0 := M2.row.cell E0.out
  have z0 := M2.row.frozen (t * 3)
  go_region
  clear c3 d0 z0
  obtain ⟨W3, hW3⟩ : ∃ W, (W2.setCell ⟨cb, t * 3, none⟩ (.int .i64 ((y0 : Nat) + 1))).drew = W := ⟨_, rfl⟩
  have M3 := (M2.set (t * 3) (.int .i64 ((y0 : Nat) + 1))).drew
  rw [hW3] at M3 ⊢
  clear hW3 M2
  have c2 := M3.obx.cell (i := 2) rfl
  go_upto_if 66 with (fail)
  go_cut [] from 67 to 77 (fun wx => Mid w wx p cb w.heap.size (w.heap.size + 1) S k ws l wv tv [.int .i64 q, .int .i64 a, .int .u32 o, .int .u32 x] [.int .i64 t, .int .i64 a, .bool wr] ((cs.set (t * 3) (.int .i64 ((y0 : Nat) + 1))).set (t * 3 + 1) (.int .i64 (if wr = true then (y1 : Nat) + 1 else (y1 : Nat)))))
  case first =>
    have d1 := M3.row.cell (i := t * 3 + 1) (by rw [List.getElem?_set_ne (by omega)]; exact E1.out)
    have z1 := M3.row.frozen (t * 3 + 1)
    have c3 := M3.top.cell (i := 3) rfl
    cases wr
    · go_wp2_with fail
      go_meet
      case rel =>
        have M4 := M3
        rw [← set_same (show (cs.set (t * 3) (.int .i64 ((y0 : Nat) + 1)))[t * 3 + 1]? = some (.int .i64 (y1 : Nat)) by rw [List.getElem?_set_ne (by omega)]; exact E1.out)] at M4
        simpa using M4
    · go_wp2_with fail
      go_region
      go_wp2_with fail
      go_meet
      case rel =>
        have M4 := (M3.set (t * 3 + 1) (.int .i64 ((y1 : Nat) + 1))).drew
        simpa using M4
  case rest =>
  clear M3 c2
  have M4 := hcut
  clear hcut
  obtain ⟨W4, hW4⟩ : ∃ W, wc = W := ⟨_, rfl⟩
  rw [hW4] at M4 ⊢
  clear hW4
  have KM := fun W (hh : SrcS W tv 3 (l.map T.cells)) => Ref03.miss_all W tv l hh (by omega) t a wr k (by omega)
  rw [HR.out] at KM
  have HKM := Lib.hid KM
  clear KM
  have c2 := M4.top.cell (i := 2) rfl
  have c1 := M4.top.cell (i := 1) rfl
  have x0 := M4.obx.cell (i := 0) rfl
  have x1 := M4.obx.cell (i := 1) rfl
  have x2 := M4.obx.cell (i := 2) rfl
  have N4 := M4.drew
  go_wp2_with fail
  go_region_held3 (fun w' => w'.cell? ⟨p, 2, none⟩ = some tv ∧ w'.cell? ⟨p, 1, none⟩ = some (.int .i64 k) ∧ w'.cell? ⟨w.heap.size + 1, 0, none⟩ = some (.int .i64 t) ∧ w'.cell? ⟨w.heap.size + 1, 1, none⟩ = some (.int .i64 a) ∧ w'.cell? ⟨w.heap.size + 1, 2, none⟩ = some (.bool wr)) ((first | exact ⟨c2, c1, x0, x1, x2⟩ | exact ⟨n2, n1, n3, n4, n5⟩))
    ((first
      | (go_at_call 100; refine (HKM.out _ (by first | exact N4.touched.src | exact M4.touched.src)).mono ?_; rintro e w5 ⟨rfl, b5⟩; have M5 := Mid.keep (U := fun _ => False) N4 (Upd.of_below b5) (fun _ _ => id); have n2 := M5.top.cell (i := 2) rfl; have n1 := M5.top.cell (i := 1) rfl; have n3 := M5.obx.cell (i := 0) rfl; have n4 := M5.obx.cell (i := 1) rfl; have n5 := M5.obx.cell (i := 2) rfl)))
  clear c2 c1 x0 x1 x2 N4 M4 n2 n1 n3 n4 n5
  go_upto_if 87 with (fail)
  go_cut [] from 88 to 98 (fun wx => Mid w wx p cb w.heap.size (w.heap.size + 1) S k ws l wv tv [.int .i64 q, .int .i64 a, .int .u32 o, .int .u32 x] [.int .i64 t, .int .i64 a, .bool wr] (((cs.set (t * 3) (.int .i64 ((y0 : Nat) + 1))).set (t * 3 + 1) (.int .i64 (if wr = true then (y1 : Nat) + 1 else (y1 : Nat)))).set (t * 3 + 2) (.int .i64 (if r = true then (y2 : Nat) + 1 else (y2 : Nat)))))
  case first =>
    have c3 := M5.top.cell (i := 3) rfl
    have d2 := M5.row.cell (i := t * 3 + 2) (by rw [List.getElem?_set_ne (by omega), List.getElem?_set_ne (by omega)]; exact E2.out)
    have z2 := M5.row.frozen (t * 3 + 2)
    cases r
    · go_wp2_with fail
      go_meet
      case rel =>
        have M6 := M5
        rw [← set_same (show ((cs.set (t * 3) (.int .i64 ((y0 : Nat) + 1))).set (t * 3 + 1) (.int .i64 (if wr = true then (y1 : Nat) + 1 else (y1 : Nat))))[t * 3 + 2]? = some (.int .i64 (y2 : Nat)) by rw [List.getElem?_set_ne (by omega), List.getElem?_set_ne (by omega)]; exact E2.out)] at M6
        simpa using M6
    · go_wp2_with fail
      go_region
      go_wp2_with fail
      go_meet
      case rel =>
        have M6 := (M5.set (t * 3 + 2) (.int .i64 ((y2 : Nat) + 1))).drew
        simpa using M6
  case rest =>
  clear M5
  have M6 := hcut
  clear hcut
  obtain ⟨W6, hW6⟩ : ∃ W, wc = W := ⟨_, rfl⟩
  rw [hW6] at M6 ⊢
  clear hW6
  go_upto_region 9 with (fail)
  go_cut [] from 99 to 108 (fun wx => ∃ tv', Mid w wx p cb w.heap.size (w.heap.size + 1) S k ws (l ++ [⟨t, a, wr⟩]) wv tv' [.int .i64 q, .int .i64 a, .int .u32 o, .int .u32 x] [.int .i64 t, .int .i64 a, .bool wr] (((cs.set (t * 3) (.int .i64 ((y0 : Nat) + 1))).set (t * 3 + 1) (.int .i64 (if wr = true then (y1 : Nat) + 1 else (y1 : Nat)))).set (t * 3 + 2) (.int .i64 (if r = true then (y2 : Nat) + 1 else (y2 : Nat)))) ∧ ∀ b, tv'.ownBlock = some b → (S b ∨ w.heap.size ≤ b) ∧ b < wx.heap.size ∧ b ≠ p ∧ wv.ownBlock ≠ some b)
  case first =>
    have c2 := M6.top.cell (i := 2) rfl
    have x0 := M6.obx.cell (i := 0) rfl
    have x1 := M6.obx.cell (i := 1) rfl
    have x2 := M6.obx.cell (i := 2) rfl
    have M7 := (M6.keep (U := fun _ => False) ((Upd.refl _ _).alloc (.cells #[.int .i64 t, .int .i64 a, .bool wr] 164)) (fun _ _ => id)).drew
    have n7 : Row ((W6.alloc (.cells #[.int .i64 t, .int .i64 a, .bool wr] 164)).drew) W6.heap.size [.int .i64 t, .int .i64 a, .bool wr] := (Row.new' rfl).drew
    obtain ⟨ti, i1, i2, i3, i4⟩ := info_parts info_touch
    have tlt : ∀ b, tv.ownBlock = some b → b < W6.heap.size := fun b hb => (own_lt M6.touched.1 hb).1
    have wlt : ∀ b, wv.ownBlock = some b → b < W6.heap.size := fun b hb => Nat.lt_of_lt_of_le (hl b (hp.wl b hb).1) M6.upd.size
    have s7 : W6.heap.size < ((W6.alloc (.cells #[.int .i64 t, .int .i64 a, .bool wr] 164)).drew).heap.size := by simp [World.drew]
    obtain ⟨W7, hW7⟩ : ∃ W, (W6.alloc (.cells #[.int .i64 t, .int .i64 a, .bool wr] 164)).drew = W := ⟨_, rfl⟩
    rw [hW7] at M7 n7 s7
    have c27 := M7.top.cell (i := 2) rfl
    go_wp2_with fail
    go_region_law (refine step_append_lies _ rfl (.tmp 103) (.tmp 105) 114 rfl 0 164 ti (.agg #[.int .i64 0, .int .i64 0, .bool false]) 3 24 Try.underlying114 i1 i2 i3 i4 rfl (by decide) tv (l.map T.cells).length (l.map T.cells).flatten rfl M7.touched.1 ⟨W6.heap.size, 0, none⟩ 1 1 [.int .i64 t, .int .i64 a, .bool wr] rfl rfl (row_news n7) (by intro u hu; simp at hu; rcases hu with rfl | rfl | rfl <;> rfl) (by decide) (by rw [List.length_map]; unfold maxLen; omega) (by rw [List.length_map]; omega) (Nat.zero_le _) _ rfl ?_; intro g gc w8 hown8 hgrow hat hlt8; have u8 := Upd.grown hgrow; have top8 := M7.top.upd u8 (fun e => by exact (hp.tl _ e).2.1 rfl); have y2' := top8.cell (i := 2) rfl; have yz := top8.frozen 2)
    all_goals
      go_wp2_with fail
      go_meet
      case rel =>
        have hup : Upd (fun k => k = p) w8 (w8.setCell ⟨p, 2, none⟩ (.slice (some ⟨g, 0, none⟩) (l.length + 1) gc)) := Upd.one _ _ _ _
        have hgp : g ≠ p := by rcases hat with e | e; exact (hp.tl _ e).2.1; have := M6.upd.size; omega
        have hgc : g ≠ cb := by rcases hat with e | e; exact (hp.tl _ e).2.2; have := M6.upd.size; omega
        have top9 := top8.set 2 (.slice (some ⟨g, 0, none⟩) (l.length + 1) gc)
        have hs8 : OwnS w8 0 164 3 (.slice (some ⟨g, 0, none⟩) (l.length + 1) gc) (List.map T.cells (l ++ [(⟨t, a, wr⟩ : T)])) := by
          rw [List.map_append]
          refine OwnS.snoc M6.touched.2 rfl ?_
          simpa [T.cells] using hown8
        have nwp : ∀ b, wv.ownBlock = some b → b ≠ p := fun b hb => (hp.wl b hb).2.1
        have bo6 := M6.obo.lt
        have bx6 := M6.obx.lt
        refine ⟨_, ⟨top9, ?_, ?_, ?_, ?_, ?_, ?_, M6.sc, M6.npc, M6.nob, M6.nxb, M6.nw, ?_⟩, ?_⟩
        · exact Mem.Src1.keep (S := fun b => b ≠ p) (Mem.Src1.keep (S := fun b => tv.ownBlock ≠ some b) M7.words (fun b hb e => hp.apart b hb e) u8 (fun _ hb e => hb e)) (fun b hb => nwp b hb) hup (fun _ hb => hb)
        · exact ⟨own_upd hs8.1 hup (fun b hb e => by simp [Value.ownBlock] at hb; omega), hs8.2⟩
        · exact (M7.row.upd u8 (fun e => M6.nt e)).upd hup (fun e => M6.npc e.symm)
        · exact (M7.obo.upd u8 (fun e => Nat.lt_irrefl _ (hl _ (hp.tl _ e).1))).upd hup (fun e => Nat.lt_irrefl w.heap.size (by have e2 : w.heap.size = p := e; omega))
        · exact (M7.obx.upd u8 (fun e => Nat.lt_irrefl w.heap.size (Nat.lt_of_succ_lt (hl _ (hp.tl _ e).1)))).upd hup (fun e => Nat.lt_irrefl w.heap.size (by have e2 : w.heap.size + 1 = p := e; omega))
        · exact (M7.upd.trans (u8.mono fun i _ e => (hp.tl _ e).1)).setCell (p := ⟨p, 2, none⟩) (.inl hp.sp) _
        · intro e; simp [Value.ownBlock] at e; omega
        · intro b hb
          simp [Value.ownBlock] at hb
          subst hb
          have hz := M6.upd.size
          refine ⟨?_, by simpa using hlt8, hgp, ?_⟩
          · rcases hat with e | e
            · exact .inl (hp.tl _ e).1
            · exact .inr (by omega)
          · intro e
            rcases hat with e2 | e2
            · exact hp.apart _ e e2
            · have := wlt _ e; omega
  case rest =>
  obtain ⟨tv', M9, T9⟩ := hcut
  clear M6
  obtain ⟨W9, hW9⟩ : ∃ W, wc = W := ⟨_, rfl⟩
  rw [hW9] at M9 T9 ⊢
  clear hW9
  have KD := fun W (hh : Src1 W wv .u32 ws) => do_all W wv ws hh q a o x hws
  simp only [HST.out] at KD
  have HKD := Lib.hid KD
  clear KD
  have c0 := M9.top.cell (i := 0) rfl
  have x0 := M9.obo.cell (i := 0) rfl
  have x1 := M9.obo.cell (i := 1) rfl
  have x2 := M9.obo.cell (i := 2) rfl
  have x3 := M9.obo.cell (i := 3) rfl
  have N9 := M9.drew
  go_wp2_with fail
  go_region_held3 (fun w' => w'.cell? ⟨p, 0, none⟩ = some wv ∧ w'.cell? ⟨w.heap.size, 0, none⟩ = some (.int .i64 q) ∧ w'.cell? ⟨w.heap.size, 1, none⟩ = some (.int .i64 a) ∧ w'.cell? ⟨w.heap.size, 2, none⟩ = some (.int .u32 o) ∧ w'.cell? ⟨w.heap.size, 3, none⟩ = some (.int .u32 x)) ((first | exact ⟨c0, x0, x1, x2, x3⟩ | exact ⟨n0, n1, n2, n3, n4⟩))
    ((first
      | (go_at_call 101; refine (HKD.out _ (by first | exact N9.words | exact M9.words)).mono ?_; rintro e w10 ⟨v', rfl, hsrc, b10, hv'⟩; obtain ⟨va, vcap, hvv⟩ : ∃ a c, v' = .slice a us.length c := (by obtain ⟨sa, sc, e, _, _⟩ := hsrc; exact ⟨sa, sc, e⟩); subst hvv; have M10 := Mid.keep (U := fun _ => False) N9 (Upd.of_below b10) (fun _ _ => id); have n0 := M10.top.cell (i := 0) rfl; have n1 := M10.obo.cell (i := 0) rfl; have n2 := M10.obo.cell (i := 1) rfl; have n3 := M10.obo.cell (i := 2) rfl; have n4 := M10.obo.cell (i := 3) rfl)))
  clear c0 x0 x1 x2 x3 n1 n2 n3 n4
  have z0 := M10.top.frozen 0
  go_wp2_with fail
  go_ret2
  have hup : Upd (fun k => k = p) w10 (w10.setCell ⟨p, 0, none⟩ (.slice va us.length vcap)) := Upd.one _ _ _ _
  have hz9 : W9.heap.size ≤ w10.heap.size := b10.size
  have hzw : w.heap.size ≤ W9.heap.size := M9.upd.size
  have hvp : ∀ b, (Value.slice va us.length vcap).ownBlock = some b → (S b ∨ W9.heap.size ≤ b) ∧ b ≠ p ∧ b ≠ cb ∧ tv'.ownBlock ≠ some b := by
    intro b hb
    rcases hv' with rfl | hv'
    · obtain ⟨s1, s2, s3⟩ := hp.wl b hb
      exact ⟨.inl s1, s2, s3, fun e => (T9 b e).2.2.2 hb⟩
    · have hb2 : W9.heap.size ≤ b := hv' b hb
      exact ⟨.inr hb2, by omega, by omega, fun e => by have := (T9 b e).2.1; omega⟩
  refine ⟨rfl, ⟨⟨.slice va us.length vcap, tv', cb, M10.top.set 0 (.slice va us.length vcap), Mem.Src1.keep (S := fun b => b ≠ p) hsrc (fun b hb => (hvp b hb).2.1) hup (fun _ hb => hb), ?_, ⟨own_upd M10.touched.1 hup (fun b hb e => (T9 b hb).2.2.1 e), M10.touched.2⟩, ?_, fun b hb => (hvp b hb).2.2.2, ⟨_, M10.row.upd hup (fun e => M10.npc e.symm), HC2.out⟩, .inl hp.sp, .inl hp.sc, hp.ne⟩, ?_⟩, M10.upd.setCell (p := ⟨p, 0, none⟩) (.inl hp.sp) (.slice va us.length vcap)⟩
  · intro b hb
    obtain ⟨s1, s2, s3, _⟩ := hvp b hb
    refine ⟨?_, s2, s3⟩
    rcases s1 with s1 | s1
    · exact .inl s1
    · refine .inr ⟨by omega, ?_⟩
      have hne : 0 < us.length ∨ us.length = 0 := by omega
      obtain ⟨sa, sc, e, h0, hcell⟩ := hsrc
      rcases hne with hne | hne
      · obtain ⟨sb, so, rfl, hlt, _⟩ := hcell hne
        rw [e] at hb
        simp [Value.ownBlock] at hb
        subst hb
        simpa using hlt
      · have hl0 := step02_len ws q a o x
        rw [HST.out] at hl0
        simp at hl0; omega
  · intro b hb
    obtain ⟨s1, s2, s3, _⟩ := T9 b hb
    refine ⟨?_, s3, fun e => M10.nt (e ▸ hb)⟩
    rcases s1 with s1 | s1
    · exact .inl s1
    · exact .inr ⟨s1, by simp; omega⟩
  · intro b hb
    rcases hb with hb | hb
    · have := hl b hb; simp; omega
    · exact hb.2
end Go.Proofs.Ytgoaaijdlhhkkaa.Ref04
