/- Layer 22 (section): the document's Run, by value. -/
import Derived.Test.YtpagebcokikmkaaSecF
import Derived.Laws.ResultCell
namespace Go.Proofs.Ytpagebcokikmkaa.Sec
open Go Go.RowKit Go.Deep Go.Proofs.Ytpagebcokikmkaa.Heap Go.Proofs.Ytpagebcokikmkaa.Open

theorem results_cell_two {P : Program} {fn : Func} {p u : Tmp} {ty : TypeId} (h : fn.results = #[.cell p ty, .tmp u]) (tmps : Array Value) (w : World) (g : Nat) {l : List Value}
    (hp : tmps.getD p undef = .pointer (some ⟨g, 0, none⟩)) (hg : Row w g l) (d : TypeDesc) (hu : P.underlying ty = some d) (hd : (match d with | .struct _ | .array _ _ => true | _ => false) = true) (hi : (P.info? ty).map (·.size) = some l.length) :
    (results fn tmps).run P w = .ok (.tuple #[.agg l.toArray, tmps.getD u undef]) w := by
  obtain ⟨T, hT⟩ := id hg
  rw [results_cell_tmp h, hp]
  have e := run_loadVar_row (P := P) w g T ty l.toArray (0, 0) d hT hu (by revert hd; cases d <;> exact id) (by simpa using hi)
  simp [asAddr, Result.andThen]
  rw [e]
theorem cell_upd {S : Nat → Prop} {w w' : World} (hu : Upd S w w') {b i : Nat} {v : Value} (h : w.cell? ⟨b, i, none⟩ = some v) (hs : ¬ S b) : w'.cell? ⟨b, i, none⟩ = some v := by
  have hlt : b < w.heap.size := by
    rcases Nat.lt_or_ge b w.heap.size with h' | h'
    · exact h'
    · simp [World.cell?, Array.getElem?_eq_none h'] at h
  have e := hu.block b hlt hs
  simp only [World.cell?] at h ⊢
  rw [e]; exact h
theorem info23 : (Try.prog.info? 23).map (·.size) = some 16 := by kernel_rfl
/-- Where the loop of Run stands. -/
structure Loop (w wr : World) (cs : List Int) (xs : List D) (k : Nat) : Prop where
  cells : Row wr w.heap.size (ints .u32 (runs (cs, 0) (xs.take k)).1)
  out : Row wr (w.heap.size + 1) (List.replicate 16 (.int .u32 0))
  upd : Upd (fun _ => False) w wr
theorem Loop.set {w wr : World} {cs : List Int} {xs : List D} {k : Nat} (h : Loop w wr cs xs k) (m : Nat) (v : Int) (l : List Int) (hl : (runs (cs, 0) (xs.take k)).1.set m v = l) (hn : (runs (cs, 0) (xs.take (k + 1))).1 = l) : Loop w (wr.setCell ⟨w.heap.size, m, none⟩ (.int .u32 v)) cs xs (k + 1) :=
  ⟨by rw [hn, ← hl, ints_set]; exact h.cells.set m _, h.out.upd (Upd.one _ _ _ _) (by omega), Upd.setCell (p := ⟨w.heap.size, m, none⟩) h.upd (.inr (Nat.le_refl _)) _⟩
theorem Loop.same {w wr : World} {cs : List Int} {xs : List D} {k : Nat} (h : Loop w wr cs xs k) (hn : (runs (cs, 0) (xs.take (k + 1))).1 = (runs (cs, 0) (xs.take k)).1) : Loop w wr cs xs (k + 1) :=
  ⟨by rw [hn]; exact h.cells, h.out, h.upd⟩
set_option maxHeartbeats 8000000 in
theorem refrun (w : World) (B : Nat) (u : Value) (xs : List D) (cs : List Int) (n : Nat) (hown : w.ownsRow B 45 3 u xs.length (flat xs)) (h16 : cs.length = 16) (hm : ∀ x ∈ xs, x.may = true) (hn : n ≤ xs.length) (h64 : xs.length ≤ 64) :
    Calls Try.prog 10 #[.agg (ints .u32 cs).toArray, u, .int .i64 n] w fun e w' => e = .returned (.tuple #[.agg (ints .u32 (runs (cs, 0) (xs.take n)).1).toArray, .int .u32 (runs (cs, 0) (xs.take n)).2]) ∧ Upd (fun _ => False) w w' := by
  have hcsl : (ints .u32 cs).length = 16 := by rw [ints_len]; exact h16
  obtain ⟨ua, ucap, rfl⟩ := owned_len hown
  have hS : Loop w ((w.alloc (.cells (ints .u32 cs).toArray 23)).alloc (.cells (List.replicate 16 (.int .u32 0)).toArray 23)) cs xs 0 := ⟨(Row.new' rfl).alloc _, Row.new' (by simp), ((Upd.refl _ _).alloc _).alloc _⟩
  have HS := Lib.hid hS
  have HOWN := Lib.hid hown
  clear hS hown
  go_enter Try.func10, Try.ntmps10
  go_wp2_with fail
  go_loopw [8, 9] (fun x i wr => ∃ k : Nat, k ≤ n ∧ i = .int .i64 k ∧ x = .int .u32 (runs (cs, 0) (xs.take k)).2 ∧ Loop w wr cs xs k) (fun _ i _ => n - (intOf i).toNat)
  case atStart => exact ⟨0, Nat.zero_le _, rfl, rfl, HS.out⟩
  case round =>
    obtain ⟨k, hk, rfl, rfl, hL⟩ := hrel
    by_cases hlt : k < n
    · have hkx : k < xs.length := by omega
      obtain ⟨g, cap, hv, -, hg, hcell⟩ := owned_flat HOWN.out (by omega)
      simp only [Value.slice.injEq] at hv
      obtain ⟨rfl, -, rfl⟩ := hv
      obtain ⟨k0, k1, k2⟩ := hcell k hkx
      have k0 := cell_upd hL.upd k0 id
      have k1 := cell_upd hL.upd k1 id
      have k2 := cell_upd hL.upd k2 id
      have hmk : (xs.getD k default).may = true := hm _ (by rw [getD_lt _ _ _ hkx]; exact List.getElem_mem hkx)
      have hsn : runs (cs, 0) (xs.take (k + 1)) = one (xs.getD k default) (runs (cs, 0) (xs.take k)) := by rw [take_snoc xs k hkx, runs_snoc]
      have h16' : (runs (cs, 0) (xs.take k)).1.length = 16 := by rw [runs_len]; exact h16
      obtain ⟨⟨dk, dc, dn⟩, hd⟩ : ∃ d, xs.getD k default = d := ⟨_, rfl⟩
      rw [hd] at k0 k1 k2 hmk hsn
      obtain ⟨⟨ys, X⟩, hY⟩ : ∃ s, runs (cs, 0) (xs.take k) = s := ⟨_, rfl⟩
      rw [hY] at hsn h16'
      have h16' : ys.length = 16 := h16'
      have hXe : (runs (cs, 0) (xs.take k)).2 = X := by rw [hY]
      rw [hXe]
      have hYe : (runs (cs, 0) (xs.take k)).1 = ys := by rw [hY]
      have HYE := Lib.hid hYe
      have HSN := Lib.hid hsn
      have HL := Lib.hid hL
      have hC := hL.cells
      rw [hYe] at hC
      have hltI : (k : Int) < (n : Int) := by omega
      have hltX : (k : Int) < (xs.length : Int) := by omega
      have hk0 : (0 : Int) ≤ (k : Int) := by omega
      clear hd hY hXe hYe hsn hL hcell hm
      rcases may_cases hmk with ⟨hk2 | hk3, rfl⟩ | ⟨hk1 | hk4, m, rfl, hm16, rfl⟩
      · have hk2 : dk = 2 := hk2
        subst hk2
        clear hmk
        go_wp2_with fail
        go_roundw
        case rel => exact ⟨k + 1, by omega, by go_num, by rw [HSN.out, one2], HL.out.same (by rw [HSN.out, one2, HYE.out])⟩
        case measure => simp [intOf]; omega
      · have hk3 : dk = 3 := hk3
        subst hk3
        clear hmk
        go_wp2_with fail
        go_roundw
        case rel => exact ⟨k + 1, by omega, by go_num, by rw [HSN.out, one3], HL.out.same (by rw [HSN.out, one3, HYE.out])⟩
        case measure => simp [intOf]; omega
      · have hk1 : dk = 1 := hk1
        subst hk1
        have cm := hC.cell (i := m) (ints_get (by omega))
        have hm0 : (0 : Int) ≤ (m : Int) := by omega
        have hm1 : (m : Int) < 16 := by omega
        obtain ⟨v, hv⟩ : ∃ v, ys.getD m 0 = v := ⟨_, rfl⟩
        rw [hv] at cm
        have HV := Lib.hid hv
        clear hmk hv
        go_wp2_with fail
        go_roundw
        case rel => exact ⟨k + 1, by omega, by go_num, by rw [HSN.out, one1, Int.toNat_natCast]; show _ = Value.int _ (ys.getD m 0); rw [HV.out], HL.out.same (by rw [HSN.out, one1, HYE.out])⟩
        case measure => simp [intOf]; omega
      · have hk4 : dk = 4 := hk4
        subst hk4
        have cm := hC.cell (i := m) (ints_get (by omega))
        have fm := hC.frozen m
        have hm0 : (0 : Int) ≤ (m : Int) := by omega
        have hm1 : (m : Int) < 16 := by omega
        clear hmk
        go_wp2_with fail
        go_roundw
        case rel => exact ⟨k + 1, by omega, by go_num, by rw [HSN.out, one4], HL.out.set m X (ys.set m X) (by rw [HYE.out]) (by rw [HSN.out, one4]; rfl)⟩
        case measure => simp [intOf]; omega
    · obtain rfl : k = n := by omega
      have C2 := hL.cells
      have Z2 := hL.out
      have hfl : (ints .u32 (runs (cs, 0) (xs.take k)).1).length = 16 := by rw [ints_len, runs_len]; exact h16
      obtain ⟨X, hX⟩ : ∃ X, ints .u32 (runs (cs, 0) (xs.take k)).1 = X := ⟨_, rfl⟩
      rw [hX] at C2 hfl
      have HX := Lib.hid hX
      have HU := Lib.hid hL.upd
      clear hX hL
      go_wp2_with (first
        | (refine wpList_load_whole rfl 23 _ rfl w.heap.size rfl C2 _ Try.underlying23 rfl (by rw [hfl]; exact info23) ?_)
        | (refine wpList_store_whole rfl 23 _ _ rfl (w.heap.size + 1) X.toArray rfl rfl Z2 (by rw [List.size_toArray, hfl]; exact info23) (by simp [hfl]) (by rw [← HX.out]; simp [ints, Value.oneCell']) ?_; intro w4 R4 u4))
      refine bodyPost_ret (results_cell_two rfl _ _ (w.heap.size + 1) rfl R4 _ Try.underlying23 rfl (by rw [hfl]; exact info23)) rfl ?_
      exact ⟨by rw [HX.out]; rfl, HU.out.then u4 (fun i hi => by omega)⟩
end Go.Proofs.Ytpagebcokikmkaa.Sec
