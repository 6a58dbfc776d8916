/- The law CachePlays, walked: each miss, each valid copy and all sums are what the document says. -/
import Derived.Test.YtcpbojjimfcbhaaTouch
import Derived.Test.YtcpbojjimfcbhaaCacheO
import Derived.Test.YtcpbojjimfcbhaaRef03
import Derived.Test.YtcpbojjimfcbhaaRecs
import Derived.Test.YtcpbojjimfcbhaaArr
import Derived.Deep.QuietTactic
import Derived.BigQuiet
namespace Go.Proofs.Ytcpbojjimfcbhaa.WalkCachePlays
open Go Go.RowKit Go.Proofs.Ytcpbojjimfcbhaa.Heap Go.Proofs.Ytcpbojjimfcbhaa.Open Go.Proofs.Ytcpbojjimfcbhaa.Has

theorem info_touch : (Try.prog.info? 38).map (fun i => (i.zero, i.size, i.bytes)) = some (some (.agg #[.int .i64 0, .int .i64 0, .bool false]), 3, 24) := by kernel_rfl
def kinds03 : List (Option IntKind) := [some .i64, some .i64, none]
theorem touches {H : Type} {enc : TypeId × Value → H} {w : World} {base : Nat} {spare : Nat → Bool} {held : Bool} {b0 : Nat} {v : Value} {d : DataW H} {p : List MemPlace}
    (hv : Value.okWide Try.prog w .any b0 29 v) (h : DataW.Trod enc Try.prog w base spare held 29 v d p) : ∃ xs, Recs w v kinds03 xs :=
  recs_of kinds03 Try.underlying29 Try.underlying32 (by kernel_rfl) (by kernel_rfl) (by decide) rfl
    (by intro j f k hj hk
        match j, hj with
        | 0, hj => simp at hj; subst hj; simp [kinds03] at hk; subst hk; exact Try.underlying3
        | 1, hj => simp at hj; subst hj; simp [kinds03] at hk; subst hk; exact Try.underlying3
        | 2, hj => simp at hj; subst hj; simp [kinds03] at hk; subst hk; exact Try.underlying4) hv h
set_option maxRecDepth 100000 in
theorem many (K n : Int) (ao : Option Addr) (len cap : Nat) (w : World) (h : K < 1 ∨ 8 < K ∨ 8 < n ∨ 60 < len) :
    Calls Try.prog 6 #[.int .u8 K, .int .u8 n, .slice ao len cap] w fun e w' => e = .returned (.bool true) ∧ Below w.heap.size w w' := by
  by_cases c1 : K < 1
  · clear h
    go_enter Try.func6, Try.ntmps6
    go_wp2_with fail
    refine (Law03.awake _).mono ?_
    rintro e w6 ⟨rfl, u6⟩
    go_wp2
    go_ret
    exact ⟨rfl, u6⟩
  have c1' : 1 ≤ K := by omega
  by_cases c2 : 8 < K
  · clear h
    go_enter Try.func6, Try.ntmps6
    go_wp2_with fail
    refine (Law03.awake _).mono ?_
    rintro e w6 ⟨rfl, u6⟩
    go_wp2
    go_ret
    exact ⟨rfl, u6⟩
  have c2' : K ≤ 8 := by omega
  by_cases c3 : 8 < n
  · clear h
    go_enter Try.func6, Try.ntmps6
    go_wp2_with fail
    refine (Law03.awake _).mono ?_
    rintro e w6 ⟨rfl, u6⟩
    go_wp2
    go_ret
    exact ⟨rfl, u6⟩
  have c3' : n ≤ 8 := by omega
  have c4 : (60 : Int) < len := by omega
  clear h
  go_enter Try.func6, Try.ntmps6
  go_wp2_with fail
  refine (Law03.awake _).mono ?_
  rintro e w6 ⟨rfl, u6⟩
  go_wp2
  go_ret
  exact ⟨rfl, u6⟩

theorem z8 (t : Nat) (h : t < 8) : (List.replicate 8 (0 : Int)).getD t 0 = 0 := by rw [getD_lt _ _ _ (by rw [List.length_replicate]; exact h), List.getElem_replicate]
/-- What the law knows of its cache, its touches and its counts, in the world w. -/
structure Inv (w0 w : World) (M c : Nat) (S : Nat → Prop) (h : Nat) (K n : Nat) (l : List T) (dv : Value) (ms : List Int) : Prop where
  cache : Cache.O w c S K n l
  done : OwnS w (M + 1) 38 3 dv (l.map T.cells)
  row : Row w h (ints .i64 ms)
  len : ms.length = 8
  at' : ∀ t : Nat, t < K → ms.getD t 0 = (misses K l t : Nat)
  bel : Below w0.heap.size w0 w
  big : M < w.heap.size
set_option maxHeartbeats 8000000 in
set_option maxRecDepth 100000 in
theorem few (K n : Nat) (v : Value) (xs : List (List Value)) (w : World) (hK1 : 1 ≤ K) (hK : K ≤ 8) (hn : n ≤ 8) (h : Recs w v kinds03 xs) (hl : xs.length ≤ 60) :
    Calls Try.prog 6 #[.int .u8 K, .int .u8 n, v] w fun e w' => e = .returned (.bool true) ∧ Below w.heap.size w w' := by
  obtain ⟨ao, cap, rfl, hlc, hlm⟩ := h.len
  have hl' : (xs.length : Int) ≤ 60 := by omega
  have hK1' : (1 : Int) ≤ K := by omega
  have hK' : (K : Int) ≤ 8 := by omega
  have hn' : (n : Int) ≤ 8 := by omega
  go_enter Try.func6, Try.ntmps6
  go_wp2_with fail
  refine (Cache.newO _ K n hK1 (by omega) (by omega)).mono ?_
  rintro e w1 ⟨c, rfl, hO, b1⟩
  obtain ⟨S, hS, hS2, hO⟩ : ∃ S : Nat → Prop, (∀ b, S b → w.heap.size ≤ b) ∧ (∀ b, S b → b < w1.heap.size) ∧ Cache.O w1 c S K n [] := ⟨_, fun b hb => hb.1, fun b hb => hb.2, hO⟩
  go_wp2_with fail
  have hr0 : Row (w1.alloc (.cells #[.int .i64 0, .int .i64 0, .int .i64 0, .int .i64 0, .int .i64 0, .int .i64 0, .int .i64 0, .int .i64 0] 37)) w1.heap.size (ints .i64 (List.replicate 8 0)) := Row.new' rfl
  have inv0 : Inv w (w1.alloc (.cells #[.int .i64 0, .int .i64 0, .int .i64 0, .int .i64 0, .int .i64 0, .int .i64 0, .int .i64 0, .int .i64 0] 37)) w1.heap.size c S w1.heap.size K n [] (.slice none 0 0) (List.replicate 8 0) :=
    ⟨hO.alloc _, OwnS.nil _ _ _ _, hr0, rfl, fun t ht => by rw [misses_nil, z8 t (by omega)]; rfl, b1.alloc b1.size _, by simp⟩
  have Z1 := b1.size
  obtain ⟨M, hM⟩ : ∃ M, w1.heap.size = M := ⟨_, rfl⟩
  obtain ⟨W0, hW0⟩ : ∃ W0, w1.alloc (.cells #[.int .i64 0, .int .i64 0, .int .i64 0, .int .i64 0, .int .i64 0, .int .i64 0, .int .i64 0, .int .i64 0] 37) = W0 := ⟨_, rfl⟩
  rw [hM] at inv0 Z1 hS2 ⊢
  rw [hW0] at inv0 ⊢
  clear hM hW0 hO b1 hr0
  go_loopw [9, 11, 51] (fun dv tot i wr => ∃ k : Nat, k ≤ xs.length ∧ i = .int .i64 k ∧ ∃ l : List T, l.length ≤ k ∧ tot = .int .i64 (sumTo K l K : Nat) ∧ ∃ ms, Inv w wr M c S M K n l dv ms) (fun _ _ i _ => xs.length - (intOf i).toNat)
  case atStart => exact ⟨0, Nat.zero_le _, rfl, [], Nat.le_refl _, by rw [sumTo_nil]; rfl, _, inv0⟩
  case round =>
    obtain ⟨k, hk, rfl, l, hlk, rfl, ms, inv⟩ := hrel
    have hsum := sumTo_le K K l
    have hbig := inv.big
    by_cases hlt : k < xs.length
    · obtain ⟨b, off, rfl, hb, hrec, hcell⟩ := h.cells inv.bel hlt
      obtain ⟨y, hy⟩ : ∃ y, xs.getD k [] = y := ⟨_, rfl⟩
      rw [hy] at hrec hcell
      obtain ⟨y0, y1, y2, rfl, ⟨t, rfl, -⟩, ⟨a, rfl, -⟩, ⟨y, rfl⟩⟩ := hrec.three
      have c0 := hcell 0 _ (by decide) rfl
      have c1 := hcell 1 _ (by decide) rfl
      have c2 := hcell 2 _ (by decide) rfl
      simp [kinds03] at c0 c1 c2
      have B2 : Below wr.heap.size wr ((wr.alloc (.cells #[.int .i64 t, .int .i64 a, .bool y] 32)).alloc (.cells #[.int .i64 t, .int .i64 a, .bool y] 38)) := ((Below.refl _ _).alloc (Nat.le_refl _) _).alloc (by simp) _
      have hx2 : Row ((wr.alloc (.cells #[.int .i64 t, .int .i64 a, .bool y] 32)).alloc (.cells #[.int .i64 t, .int .i64 a, .bool y] 38)) wr.heap.size [.int .i64 t, .int .i64 a, .bool y] := (Row.new' rfl).alloc _
      have hy2 : Row ((wr.alloc (.cells #[.int .i64 t, .int .i64 a, .bool y] 32)).alloc (.cells #[.int .i64 t, .int .i64 a, .bool y] 38)) (wr.heap.size + 1) [.int .i64 t, .int .i64 a, .bool y] := Row.new' (by simp)
      clear hy hrec hcell
      by_cases hin : 0 ≤ t ∧ t < K ∧ 0 ≤ a ∧ a < n
      · obtain ⟨h1, h2, h3, h4⟩ := hin
        obtain ⟨t, rfl⟩ := Int.eq_ofNat_of_zero_le h1
        obtain ⟨a, rfl⟩ := Int.eq_ofNat_of_zero_le h3
        have ht : t < K := by omega
        have ha : a < n := by omega
        have hmb : misses K l t ≤ l.length := misses_le K l t
        cases hm : miss l ⟨t, a, y⟩ K with
        | true =>
          have HM := Lib.hid hm
          have KM := fun W (hh : SrcS W u9 3 (l.map T.cells)) => Ref03.miss_all W u9 l hh (by omega) t a y K (by omega)
          have KT := fun W (hh : Cache.O W c S K n l) => Cache.touchO W c S K n l hh (by omega) t a y
          rw [Cache.told_in l y ht ha, Cache.after_in l y ht ha, hm] at KT
          rw [hm] at KM
          have HKM := Lib.hid KM
          have HKT := Lib.hid KT
          clear KM KT hm
          go_wp2_with fail
          refine (HKM.out _ (inv.done.src.below B2)).mono ?_
          rintro e w3 ⟨rfl, b3⟩
          have hB3 := B2.trans (b3.mono B2.size)
          have hx3 := hx2.below b3 (by simp; omega)
          have hy3 := hy2.below b3 (by simp)
          have q0 := hx3.cell (i := 0) rfl
          have q1 := hx3.cell (i := 1) rfl
          have q2 := hx3.cell (i := 2) rfl
          go_wp2_with fail
          refine (HKT.out _ (inv.cache.below hB3)).mono ?_
          rintro e w4 ⟨rfl, hc4, u4⟩
          have hx4 := hx3.upd u4 (fun e => by have := hS2 _ e; omega)
          have hy4 := hy3.upd u4 (fun e => by have := hS2 _ e; omega)
          have hd4 := (inv.done.below hB3).keep u4 (fun k hk e => by have := hS2 _ e; omega)
          have hr4 := (inv.row.below hB3 (by omega)).upd u4 (fun e => by have := hS2 _ e; omega)
          have hbel3 := inv.bel.trans (hB3.mono inv.bel.size)
          have hbel4 := u4.below hbel3 hbel3.size hS
          have hz4 : wr.heap.size + 1 < w4.heap.size := Nat.lt_of_lt_of_le (Nat.lt_of_lt_of_le (by simp) b3.size) u4.size
          have z0 := hy4.cell (i := 0) rfl
          have z1 := hy4.cell (i := 1) rfl
          have z2 := hy4.cell (i := 2) rfl
          have hd4l := hd4.2
          clear q0 q1 q2
          go_wp2_with (at_builtin; refine wpList_append_src rfl (.tmp 103) (.tmp 105) 36 rfl (M + 1) 38 (.agg #[.int .i64 0, .int .i64 0, .bool false]) 3 24 Try.underlying36 info_touch rfl (by decide) _ (l.map T.cells).length (l.map T.cells).flatten rfl (hd4.alloc _).1 _ 1 [.int .i64 t, .int .i64 a, .bool y] rfl (readable_row (Row.new' rfl)) rfl (by intro u hu; simp at hu; rcases hu with rfl | rfl | rfl <;> rfl) (by rw [List.length_map]; unfold maxLen; omega) (by rw [List.length_map]; omega) (by simp; omega) ?_; intro dv' w5 hown5 u5 hnear5; clear hnear5; have hd5 : OwnS w5 (M + 1) 38 3 dv' (List.map T.cells (l ++ [(⟨t, a, y⟩ : T)])) := (by rw [List.map_append]; exact OwnS.snoc hd4l rfl hown5); have hlt5 : ∀ k, u9.ownBlock = some k → M + 1 ≤ k ∧ k < wr.heap.size := (fun k hk => ⟨(own_lt inv.done.1 hk).2, (own_lt inv.done.1 hk).1⟩); have hc5 : Cache.O w5 c S K n (l ++ [(⟨t, a, y⟩ : T)]) := (hc4.alloc _).keep u5 (fun b hb e => by have := hlt5 b e; have := hS2 b hb; omega); have hx5 := (hx4.alloc _).upd u5 (fun e => by have := hlt5 _ e; omega); have hr5 := (hr4.alloc _).upd u5 (fun e => by have := hlt5 _ e; omega); have hbel5 : Below w.heap.size w w5 := u5.below (hbel4.alloc hbel4.size _) (by simp; exact Nat.le_succ_of_le hbel4.size) (fun k hk => by have := hlt5 _ hk; omega); have hz5 : M < w5.heap.size := Nat.lt_of_lt_of_le (by simp; omega) u5.size; have p0 := hx5.cell (i := 0) rfl; have c5 := hr5.cell (ints_get (k := .i64) (i := t) (xs := ms) (by have := inv.len; omega)); have zf := hr5.frozen t; rw [inv.at' t ht] at c5; clear hown5 u5 hlt5)
          have hr6 := hr5.set t (.int .i64 ((misses K l t : Nat) + 1))
          rw [← ints_set] at hr6
          have hc6 : Cache.O (w5.setCell ⟨M, t, none⟩ (.int .i64 ((misses K l t : Nat) + 1))) c S K n (l ++ [(⟨t, a, y⟩ : T)]) := hc5.keep (Upd.one w5 M t _) (fun b hb e => by have := hS2 b hb; omega)
          have hd6 : OwnS (w5.setCell ⟨M, t, none⟩ (.int .i64 ((misses K l t : Nat) + 1))) (M + 1) 38 3 dv' (List.map T.cells (l ++ [(⟨t, a, y⟩ : T)])) := hd5.keep (Upd.one w5 M t _) (fun k hk e => by omega)
          have hbel6 : Below w.heap.size w (w5.setCell ⟨M, t, none⟩ (.int .i64 ((misses K l t : Nat) + 1))) := hbel5.setCell (show w.heap.size ≤ M by omega) _
          go_roundw
          case rel =>
            refine ⟨k + 1, by omega, by go_num, l ++ [⟨t, a, y⟩], by simp; omega, ?_, ms.set t ((misses K l t : Nat) + 1), ⟨hc6, hd6, hr6, by simpa using inv.len, ?_, hbel6, by simpa using hz5⟩⟩
            · rw [sumTo_snoc, if_pos ⟨⟨by show (0 : Int) ≤ t; omega, by show (t : Int) < K; omega⟩, HM.out⟩]; go_num
            · intro u hu
              rw [misses_snoc]
              by_cases e : t = u
              · subst e
                rw [if_pos ⟨rfl, HM.out⟩]
                have hl8 := inv.len
                simp [List.getD, hl8, show t < 8 by omega]
              · rw [if_neg (by rintro ⟨h1, _⟩; have : (t : Int) = u := h1; omega), Nat.add_zero, ← inv.at' u hu]
                simp only [List.getD]; rw [List.getElem?_set_ne e]
          case measure => simp [intOf]; omega
        | false =>
          have HM := Lib.hid hm
          have KM := fun W (hh : SrcS W u9 3 (l.map T.cells)) => Ref03.miss_all W u9 l hh (by omega) t a y K (by omega)
          have KT := fun W (hh : Cache.O W c S K n l) => Cache.touchO W c S K n l hh (by omega) t a y
          rw [Cache.told_in l y ht ha, Cache.after_in l y ht ha, hm] at KT
          rw [hm] at KM
          have HKM := Lib.hid KM
          have HKT := Lib.hid KT
          clear KM KT hm
          go_wp2_with fail
          refine (HKM.out _ (inv.done.src.below B2)).mono ?_
          rintro e w3 ⟨rfl, b3⟩
          have hB3 := B2.trans (b3.mono B2.size)
          have hx3 := hx2.below b3 (by simp; omega)
          have hy3 := hy2.below b3 (by simp)
          have q0 := hx3.cell (i := 0) rfl
          have q1 := hx3.cell (i := 1) rfl
          have q2 := hx3.cell (i := 2) rfl
          go_wp2_with fail
          refine (HKT.out _ (inv.cache.below hB3)).mono ?_
          rintro e w4 ⟨rfl, hc4, u4⟩
          have hx4 := hx3.upd u4 (fun e => by have := hS2 _ e; omega)
          have hy4 := hy3.upd u4 (fun e => by have := hS2 _ e; omega)
          have hd4 := (inv.done.below hB3).keep u4 (fun k hk e => by have := hS2 _ e; omega)
          have hr4 := (inv.row.below hB3 (by omega)).upd u4 (fun e => by have := hS2 _ e; omega)
          have hbel3 := inv.bel.trans (hB3.mono inv.bel.size)
          have hbel4 := u4.below hbel3 hbel3.size hS
          have hz4 : wr.heap.size + 1 < w4.heap.size := Nat.lt_of_lt_of_le (Nat.lt_of_lt_of_le (by simp) b3.size) u4.size
          have z0 := hy4.cell (i := 0) rfl
          have z1 := hy4.cell (i := 1) rfl
          have z2 := hy4.cell (i := 2) rfl
          have hd4l := hd4.2
          clear q0 q1 q2
          go_wp2_with (at_builtin; refine wpList_append_src rfl (.tmp 103) (.tmp 105) 36 rfl (M + 1) 38 (.agg #[.int .i64 0, .int .i64 0, .bool false]) 3 24 Try.underlying36 info_touch rfl (by decide) _ (l.map T.cells).length (l.map T.cells).flatten rfl (hd4.alloc _).1 _ 1 [.int .i64 t, .int .i64 a, .bool y] rfl (readable_row (Row.new' rfl)) rfl (by intro u hu; simp at hu; rcases hu with rfl | rfl | rfl <;> rfl) (by rw [List.length_map]; unfold maxLen; omega) (by rw [List.length_map]; omega) (by simp; omega) ?_; intro dv' w5 hown5 u5 hnear5; clear hnear5; have hd5 : OwnS w5 (M + 1) 38 3 dv' (List.map T.cells (l ++ [(⟨t, a, y⟩ : T)])) := (by rw [List.map_append]; exact OwnS.snoc hd4l rfl hown5); have hlt5 : ∀ k, u9.ownBlock = some k → M + 1 ≤ k ∧ k < wr.heap.size := (fun k hk => ⟨(own_lt inv.done.1 hk).2, (own_lt inv.done.1 hk).1⟩); have hc5 : Cache.O w5 c S K n (l ++ [(⟨t, a, y⟩ : T)]) := (hc4.alloc _).keep u5 (fun b hb e => by have := hlt5 b e; have := hS2 b hb; omega); have hx5 := (hx4.alloc _).upd u5 (fun e => by have := hlt5 _ e; omega); have hr5 := (hr4.alloc _).upd u5 (fun e => by have := hlt5 _ e; omega); have hbel5 : Below w.heap.size w w5 := u5.below (hbel4.alloc hbel4.size _) (by simp; exact Nat.le_succ_of_le hbel4.size) (fun k hk => by have := hlt5 _ hk; omega); have hz5 : M < w5.heap.size := Nat.lt_of_lt_of_le (by simp; omega) u5.size; have p0 := hx5.cell (i := 0) rfl; have c5 := hr5.cell (ints_get (k := .i64) (i := t) (xs := ms) (by have := inv.len; omega)); have zf := hr5.frozen t; rw [inv.at' t ht] at c5; clear hown5 u5 hlt5)
          go_roundw
          case rel =>
            refine ⟨k + 1, by omega, by go_num, l ++ [⟨t, a, y⟩], by simp; omega, ?_, ms, ⟨hc5, hd5, hr5, inv.len, ?_, hbel5, hz5⟩⟩
            · rw [sumTo_snoc, if_neg (by rintro ⟨_, h⟩; rw [HM.out] at h; exact absurd h (by decide)), Nat.add_zero]
            · intro u hu
              rw [misses_snoc, if_neg (by rintro ⟨_, h⟩; rw [HM.out] at h; exact absurd h (by decide)), Nat.add_zero]; exact inv.at' u hu
          case measure => simp [intOf]; omega
      · have hout : t < 0 ∨ (K : Int) ≤ t ∨ a < 0 ∨ (n : Int) ≤ a := by omega
        have KT := fun W (hh : Cache.O W c S K n l) => Cache.touchO W c S K n l hh (by omega) t a y
        rw [(Cache.told_out l y hout).1, (Cache.told_out l y hout).2] at KT
        have HKT := Lib.hid KT
        have HOUT := Lib.hid hout
        clear KT hin hout
        have q0 := hx2.cell (i := 0) rfl
        have q1 := hx2.cell (i := 1) rfl
        have q2 := hx2.cell (i := 2) rfl
        have four : (t < 0) ∨ (0 ≤ t ∧ (K : Int) ≤ t) ∨ ((0 ≤ t ∧ t < K) ∧ a < 0) ∨ ((0 ≤ t ∧ t < K) ∧ 0 ≤ a ∧ (n : Int) ≤ a) := by have := HOUT.out; omega
        rcases four with g1 | ⟨g1, g2⟩ | ⟨⟨g1, g2⟩, g3⟩ | ⟨⟨g1, g2⟩, g3, g4⟩
        all_goals
          go_wp2_with fail
          refine (HKT.out _ (inv.cache.below B2)).mono ?_
          rintro e w4 ⟨rfl, hc4, u4⟩
          have hd4 := (inv.done.below B2).keep u4 (fun k hk e => by have := hS2 _ e; omega)
          have hr4 := (inv.row.below B2 (by omega)).upd u4 (fun e => by have := hS2 _ e; omega)
          have hbel3 := inv.bel.trans (B2.mono inv.bel.size)
          have hbel4 := u4.below hbel3 hbel3.size hS
          have hz4 : M < w4.heap.size := Nat.lt_of_lt_of_le (by simp; omega) u4.size
          go_wp2_with fail
          go_roundw
          case rel => exact ⟨k + 1, by omega, by go_num, l, by omega, rfl, ms, ⟨hc4, hd4, hr4, inv.len, inv.at', hbel4, hz4⟩⟩
          case measure => simp [intOf]; omega
    · clear h
      go_wp2_with fail
      go_loopw [119] (fun i wi => ∃ j : Nat, j ≤ K ∧ i = .int .i64 j ∧ Inv w wi M c S M K n l u9 ms) (fun i _ => K - (intOf i).toNat)
      case atStart => exact ⟨0, Nat.zero_le _, rfl, inv⟩
      case round =>
        obtain ⟨j, hj, rfl, inv2⟩ := hrel
        by_cases hjk : j < K
        · have hj8 : j < 8 := by omega
          have hj' : (j : Int) < K := by omega
          have hj8' : (j : Int) < 8 := by omega
          have c5 := inv2.row.cell (ints_get (k := .i64) (i := j) (xs := ms) (by have := inv.len; omega))
          rw [inv.at' j hjk] at c5
          have KM := fun m => Cache.missesO _ c S K n l (inv2.cache.drewN m) (j : Int)
          rw [Cache.inB_mk hjk, if_pos rfl] at KM
          obtain ⟨q, hq⟩ : ∃ q, ((misses K l j : Nat) : Int) = q := ⟨_, rfl⟩
          rw [hq] at KM c5
          have HKM := Lib.hid KM
          clear KM hq
          go_wp2_with fail
          go_quiet ((go_at_call 12; exact Calls.quiet_of_same ((HKM.out _).mono fun e w' ⟨he, hw⟩ => ⟨he, hw.symm⟩)))
          have inv3 : Inv w (wr.drewN nq) M c S M K n l u9 ms := ⟨inv2.cache.drewN _, inv2.done.drewN _, inv2.row, inv2.len, inv2.at', below_drewN inv2.bel _, inv2.big⟩
          go_wp2_with fail
          go_loopw [131] (fun i wi => ∃ b : Nat, b ≤ n ∧ i = .int .i64 b ∧ Inv w wi M c S M K n l u9 ms) (fun i _ => n - (intOf i).toNat)
          case atStart => exact ⟨0, Nat.zero_le _, rfl, inv3⟩
          case round =>
            obtain ⟨b, hb, rfl, inv4⟩ := hrel
            by_cases hbn : b < n
            · have hbn' : (b : Int) < n := by omega
              have KH := Cache.hasO _ c S K n l inv4.cache (j : Int) (b : Int)
              have KR := Ref03.has_all _ u9 l inv4.done.src (by omega) (j : Int) (b : Int)
              rw [Cache.inB_mk hjk, Cache.inB_mk hbn, Bool.true_and, Bool.true_and] at KH
              obtain ⟨q, hq⟩ : ∃ q, has l j b = q := ⟨_, rfl⟩
              rw [hq] at KH KR
              have HKH := Lib.hid KH
              have HKR := Lib.hid KR
              clear KH KR hq
              go_wp2_with fail
              refine HKH.out.mono ?_
              rintro e w' ⟨rfl, rfl⟩
              go_wp2_with fail
              refine HKR.out.mono ?_
              rintro e w' ⟨rfl, rfl⟩
              go_wp2_with fail
              go_roundw
              case rel => exact ⟨b + 1, by omega, by go_num, inv4⟩
              case measure => simp [intOf]; omega
            · go_wp2_with fail
              go_roundw
              case rel => exact ⟨j + 1, by omega, by go_num, inv4⟩
              case measure => simp [intOf]; omega
        · have KT := Cache.totalO _ c S K n l inv2.cache
          have K1 := Cache.missesO _ c S K n l inv2.cache (-1)
          have K2 := Cache.missesO _ c S K n l inv2.cache (K : Int)
          have K3 := Cache.hasO _ c S K n l inv2.cache (-1) 0
          rw [show Cache.inB (-1) K = false from rfl, if_neg (by decide)] at K1
          rw [show Cache.inB (K : Int) K = false from by simp [Cache.inB], if_neg (by decide)] at K2
          rw [show Cache.inB (-1) K = false from rfl, Bool.false_and, Bool.false_and] at K3
          obtain ⟨q, hq⟩ : ∃ q, ((sumTo K l K : Nat) : Int) = q := ⟨_, rfl⟩
          rw [hq] at KT ⊢
          have HKT := Lib.hid KT
          have HK1 := Lib.hid K1
          have HK2 := Lib.hid K2
          have HK3 := Lib.hid K3
          clear KT K1 K2 K3 hq
          go_wp2_with fail
          refine HKT.out.mono ?_
          rintro e w' ⟨rfl, rfl⟩
          go_wp2_with fail
          refine HK1.out.mono ?_
          rintro e w' ⟨rfl, rfl⟩
          go_wp2_with fail
          refine HK2.out.mono ?_
          rintro e w' ⟨rfl, rfl⟩
          go_wp2_with fail
          refine HK3.out.mono ?_
          rintro e w' ⟨rfl, rfl⟩
          go_wp2_with fail
          refine (Law03.awake _).mono ?_
          rintro e w6 ⟨rfl, u6⟩
          go_wp2
          go_ret
          exact ⟨rfl, inv2.bel.trans (u6.mono inv2.bel.size)⟩
theorem walk (a b : Int) (v : Value) (xs : List (List Value)) (w : World) (ha : (Lit.int .u8 a).wf = true) (hb : (Lit.int .u8 b).wf = true) (h : Recs w v kinds03 xs) :
    Calls Try.prog 6 #[.int .u8 a, .int .u8 b, v] w fun e w' => e = .returned (.bool true) ∧ Below w.heap.size w w' := by
  have ha' : 0 ≤ a ∧ a < 256 := by simp [Lit.wf, IntKind.min, IntKind.max, IntKind.bits, IntKind.signed] at ha; omega
  have hb' : 0 ≤ b ∧ b < 256 := by simp [Lit.wf, IntKind.min, IntKind.max, IntKind.bits, IntKind.signed] at hb; omega
  by_cases hm : a < 1 ∨ 8 < a ∨ 8 < b ∨ 60 < xs.length
  · obtain ⟨ao, cap, rfl, _⟩ := h.len
    exact many a b ao _ cap w hm
  · obtain ⟨K, rfl⟩ := Int.eq_ofNat_of_zero_le ha'.1
    obtain ⟨n, rfl⟩ := Int.eq_ofNat_of_zero_le hb'.1
    exact few K n v xs w (by omega) (by omega) (by omega) h (by omega)
end Go.Proofs.Ytcpbojjimfcbhaa.WalkCachePlays
