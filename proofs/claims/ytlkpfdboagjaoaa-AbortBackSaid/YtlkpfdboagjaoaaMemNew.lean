/- Package mem: what New makes; the homes; all words. -/
import Derived.Test.YtlkpfdboagjaoaaMem
import Derived.Test.YtlkpfdboagjaoaaSrc
import Derived.Deep.RegionHeld3
namespace Go.Proofs.Ytlkpfdboagjaoaa.Mem
open Go Go.RowKit Go.Proofs.Ytlkpfdboagjaoaa.Heap Go.Proofs.Ytlkpfdboagjaoaa.Open

theorem info_i64 : (Try.prog.info? 3).map (fun i => (i.zero, i.size, i.bytes)) = some (some (.int .i64 0), 1, 8) := by kernel_rfl
theorem own_empty1 (w : World) (T : TypeId) : (w.alloc (.cells #[] T)).ownsRow w.heap.size T 1 (.slice (some ⟨w.heap.size, 0, none⟩) 0 0) 0 [] :=
  ⟨rfl, .inr ⟨w.heap.size, 0, #[], rfl, Nat.le_refl _, by show (w.heap.push _)[w.heap.size]? = _; simp, Nat.le_refl _, by unfold maxLen; omega, rfl, rfl⟩⟩
theorem ints_one {k : IntKind} (xs : List Int) : ∀ u ∈ ints k xs, u.oneCell' = true := by
  intro u hu; obtain ⟨x, _, rfl⟩ := List.mem_map.1 hu; rfl
theorem ints_len1 {k : IntKind} (xs : List Int) : (ints k xs).length = xs.length * 1 := by rw [ints_len, Nat.mul_one]

theorem clone_all (w : World) (v : Value) (xs : List Int) (h : Src1 w v .i64 xs) (hfit : xs.length * 8 ≤ 140737488351232) : Calls Try.prog 59 #[v] w fun e w' =>
    ∃ u, e = .returned u ∧ w'.ownsRow w.heap.size 3 1 u xs.length (ints .i64 xs) ∧ Upd (fun _ => False) w w' := by
  have e0 : ∀ (a : Option Addr) (n c : Nat) (w : World), (binOp .eql 22 (.slice a n c) (.slice none 0 0)).run Try.prog w = .ok (.bool a.isNone) w := fun a n c w => Lib.run_eql_slice_nil w _ 3 a n c 0 0 Try.underlying22
  have hr := h.readable
  obtain ⟨a, cap, rfl, hn, -⟩ := h
  cases a with
  | none =>
    obtain ⟨rfl, h0⟩ := hn rfl
    obtain rfl := List.eq_nil_of_length_eq_zero h0
    clear hr hn
    go_enter Try.func59, Try.ntmps59
    go_wp2
    go_ret
    exact ⟨_, rfl, World.ownsRow_nil _ _ _ _, Upd.refl _ _⟩
  | some ad =>
    have hr2 : ∀ o, Readable (w.alloc o) (.slice (some ad) xs.length cap) xs.length (ints .i64 xs) := by
      intro o
      rcases hr with ⟨e, _⟩ | ⟨ad', c', e, hc⟩
      · simp at e
      · exact .inr ⟨ad', c', e, fun j u hj => ((Below.refl w.heap.size w).alloc (Nat.le_refl _) o |>.cell (World.block_lt_of_cell? w _ (hc j u hj))).trans (hc j u hj)⟩
    clear hr hn
    go_enter Try.func59, Try.ntmps59
    go_wp2_with (at_builtin; refine wpList_append_src rfl (.tmp 5) (.tmp 6) 22 rfl w.heap.size 3 (.int .i64 0) 1 8 Try.underlying22 info_i64 rfl (by decide) (.slice (some ⟨w.heap.size, 0, none⟩) 0 0) 0 [] rfl (own_empty1 w _) _ xs.length (ints .i64 xs) rfl (hr2 _) (ints_len1 xs) (ints_one xs) (by unfold maxLen; omega) (by omega) (by simp) ?_; intro v' w1 hown1 u1 hnear; rw [Nat.zero_add, List.nil_append] at hown1; have B1 : Below w.heap.size w w1 := u1.below ((Below.refl _ _).alloc (Nat.le_refl _) _) (by simp) (by intro i hi; simp [Value.ownBlock] at hi; omega); clear hnear u1)
    go_ret
    exact ⟨_, rfl, hown1, Upd.of_below B1⟩
/-- May homes be? -/
def homesOk (hs : List Int) : Bool := hs.all fun h => decide (0 ≤ h) && decide (h < 8)
theorem new_big (w : World) (v : Value) (hs : List Int) (h : Src1 w v .i64 hs) (hl : 4096 < hs.length) :
    Calls Try.prog 70 #[v] w fun e w' => e = .returned (.tuple #[.pointer none, .int .i64 5]) ∧ w = w' := by
  obtain ⟨a, cap, rfl, -, -⟩ := h
  have hl' : (4096 : Int) < hs.length := by omega
  go_enter Try.func70, Try.ntmps70
  go_wp2
  go_ret2
  exact ⟨rfl, rfl⟩
set_option maxHeartbeats 1000000 in
theorem new_yes (w : World) (v : Value) (hs : List Int) (h : Src1 w v .i64 hs) (hl : hs.length ≤ 4096) (hok : homesOk hs = true) :
    Calls Try.prog 70 #[v] w fun e w' => ∃ m wb hv, e = .returned (.tuple #[.pointer (some ⟨m, 0, none⟩), .int .i64 0]) ∧ At w' m wb hv (List.replicate hs.length 0) hs ∧
      w.heap.size ≤ m ∧ w.heap.size ≤ wb ∧ (∀ b, hv.ownBlock = some b → w.heap.size ≤ b) ∧ Upd (fun _ => False) w w' := by
  have hsrc := h
  obtain ⟨a, cap, rfl, -, hcells⟩ := h
  have hl' : (hs.length : Int) ≤ 4096 := by omega
  go_enter Try.func70, Try.ntmps70
  go_wp2_with fail
  go_loop [11] (fun i => ∃ k : Nat, k ≤ hs.length ∧ i = .int .i64 k) (fun i => hs.length - (intOf i).toNat)
  case atStart => exact ⟨0, Nat.zero_le _, rfl⟩
  case round =>
    obtain ⟨k, hk, rfl⟩ := hrel
    by_cases hlt : k < hs.length
    · obtain ⟨b, off, rfl, hbl, hcell⟩ := hcells (by omega)
      have c0 := hcell k hlt
      obtain ⟨x, hx⟩ : ∃ x, hs.getD k 0 = x := ⟨_, rfl⟩
      have hx0 : 0 ≤ x ∧ x < 8 := by
        have := (List.all_eq_true.1 hok) x (by rw [← hx, getD_lt _ _ _ hlt]; exact List.getElem_mem hlt)
        simpa using this
      obtain ⟨x0, x1⟩ := hx0
      rw [hx] at c0
      clear hx hcell hcells hok hsrc
      go_wp2_with fail
      go_round
      case rel => exact ⟨k + 1, by omega, by go_num⟩
      case measure => simp [intOf]; omega
    · obtain rfl : k = hs.length := by omega
      have hmk := run_make_cells (P := Try.prog) 95 101 (.agg #[.int .u32 0]) (.int .u32 0) 4 Try.underlying95 (by kernel_rfl) rfl hs.length (by omega) (by omega)
      have k0 : Below w.heap.size w w.drew := below_drewN (Below.refl _ _) 1
      clear hcells hok
      go_wp2_with fail
      go_region_held3 (fun w' => Below w.heap.size w w') ((first | exact k0 | exact k1 | (exact Below.alloc (by assumption) (Below.size (by assumption)) _)))
        ((first
          | (go_at_call 59; refine (clone_all _ _ hs (hsrc.below (by assumption)) (by omega)).mono ?_; rintro e w1 ⟨u, rfl, hown, u1⟩; obtain ⟨ua, uc, rfl⟩ := owned_len1 hown; have k1 : Below w.heap.size w w1 := Below.trans (by assumption) (u1.none.mono (Below.size (by assumption))))))
      · go_wp2
        go_ret2
        have hz := u1.size
        simp at hz
        have hzr : Row w1 w.heap.size (List.replicate hs.length (.int .u32 0)) := Row.upd (S := fun _ => False) (Row.drew (Row.ofZeros rfl)) u1 (fun h => h)
        have hb := fun b (e : (Value.slice ua hs.length uc).ownBlock = some b) => own_lt hown e
        refine ⟨w1.heap.size, w.heap.size, .slice ua hs.length uc, rfl, ⟨?_, ?_, own_base1 (hown.alloc _) (Nat.zero_le _), by simp, by omega, fun e => ?_, fun e => ?_⟩, by omega, Nat.le_refl _, fun b e => ?_, ?_⟩
        · rw [List.length_replicate]; exact Row.new' rfl
        · have : ints .u32 (List.replicate hs.length 0) = List.replicate hs.length (.int .u32 0) := by simp [ints]
          rw [this]; exact hzr.alloc _
        · have := (hb _ e).1; omega
        · have := (hb _ e).2; simp at this; omega
        · have := (hb _ e).2; simp at this; omega
        · exact (Upd.of_below k1).alloc _
      · go_wp2
        go_ret2
        have hz := u1.size
        have hb := fun b (e : (Value.slice ua hs.length uc).ownBlock = some b) => own_lt hown e
        refine ⟨w1.heap.size + 1, w1.heap.size, .slice ua hs.length uc, rfl, ⟨?_, ?_, own_base1 ((hown.alloc _).alloc _) (Nat.zero_le _), by simp, by omega, fun e => ?_, fun e => ?_⟩, ?_, hz, fun b e => ?_, ?_⟩
        · rw [List.length_replicate]; exact Row.new' (by simp)
        · have : ints .u32 (List.replicate hs.length 0) = List.replicate hs.length (.int .u32 0) := by simp [ints]
          rw [this]; exact (Row.ofZeros rfl).alloc _
        · have := (hb _ e).1; omega
        · have := (hb _ e).1; omega
        · have : w.heap.size ≤ w1.heap.size := hz
          omega
        · exact (hb _ e).2
        · exact ((Upd.of_below k1).alloc _).alloc _
set_option maxHeartbeats 1000000 in
theorem new_arg (w : World) (v : Value) (hs : List Int) (h : Src1 w v .i64 hs) (hl : hs.length ≤ 4096) (hok : homesOk hs = false) :
    Calls Try.prog 70 #[v] w fun e w' => e = .returned (.tuple #[.pointer none, .int .i64 1]) ∧ w' = w := by
  obtain ⟨a, cap, rfl, -, hcells⟩ := h
  have hl' : (hs.length : Int) ≤ 4096 := by omega
  go_enter Try.func70, Try.ntmps70
  go_wp2_with fail
  go_loop [11] (fun i => ∃ k : Nat, k ≤ hs.length ∧ i = .int .i64 k ∧ homesOk (hs.take k) = true) (fun i => hs.length - (intOf i).toNat)
  case atStart => exact ⟨0, Nat.zero_le _, rfl, rfl⟩
  case round =>
    obtain ⟨k, hk, rfl, hall⟩ := hrel
    by_cases hlt : k < hs.length
    · obtain ⟨b, off, rfl, hbl, hcell⟩ := hcells (by omega)
      have c0 := hcell k hlt
      obtain ⟨x, hx⟩ : ∃ x, hs.getD k 0 = x := ⟨_, rfl⟩
      have hsn : hs.take (k + 1) = hs.take k ++ [x] := by rw [← hx, getD_lt _ _ _ hlt, List.take_succ_eq_append_getElem hlt]
      rw [hx] at c0
      clear hx hcell hcells hok
      by_cases x0 : x < 0
      · clear hsn hall
        go_wp2_with fail
        go_ret2
        exact ⟨rfl, rfl⟩
      by_cases x1 : 8 ≤ x
      · have x0' : 0 ≤ x := by omega
        clear hsn hall
        go_wp2_with fail
        go_ret2
        exact ⟨rfl, rfl⟩
      have x0' : 0 ≤ x := by omega
      have x1' : x < 8 := by omega
      have hall' : homesOk (hs.take (k + 1)) = true := by
        rw [hsn]; simp only [homesOk, List.all_append, Bool.and_eq_true] at hall ⊢
        exact ⟨hall, by simp [x0', x1']⟩
      clear hsn hall
      go_wp2_with fail
      go_round
      case rel => exact ⟨k + 1, by omega, by go_num, hall'⟩
      case measure => simp [intOf]; omega
    · obtain rfl : k = hs.length := by omega
      rw [List.take_length, hok] at hall
      exact Bool.noConfusion hall
theorem home_in (w : World) (m wb : Nat) (hv : Value) (ws hs : List Int) (h : At w m wb hv ws hs) (a : Nat) (ha : a < ws.length) :
    Calls Try.prog 27 #[.pointer (some ⟨m, 0, none⟩), .int .i64 a] w fun e w' => e = .returned (.int .i64 (hs.getD a 0)) ∧ w = w' := by
  have h1 := h.top.cell (i := 1) rfl
  have ha2 : a < hs.length := by rw [h.len]; exact ha
  obtain ⟨g, cap, rfl, -, hr⟩ := owned h.homes (by omega)
  have c0 := hr.cell (ints_get (k := .i64) ha2)
  obtain ⟨y, hy⟩ : ∃ y, hs.getD a 0 = y := ⟨_, rfl⟩
  rw [hy] at c0 ⊢
  have ha3 : (a : Int) < hs.length := by omega
  clear hy hr
  go_enter Try.func27, Try.ntmps27
  go_wp2_with fail
  refine (at_in _ _ _ _ _ _ h a ha).mono ?_
  rintro e w' ⟨rfl, rfl⟩
  go_wp2
  go_ret
  exact ⟨rfl, rfl⟩
theorem home_out (w : World) (m wb : Nat) (hv : Value) (ws hs : List Int) (h : At w m wb hv ws hs) (a : Int) (ha : a < 0 ∨ (ws.length : Int) ≤ a) :
    Calls Try.prog 27 #[.pointer (some ⟨m, 0, none⟩), .int .i64 a] w fun e w' => e = .returned (.int .i64 0) ∧ w = w' := by
  go_enter Try.func27, Try.ntmps27
  go_wp2_with fail
  refine (at_out _ _ _ _ _ _ h a ha).mono ?_
  rintro e w' ⟨rfl, rfl⟩
  go_wp2
  go_ret
  exact ⟨rfl, rfl⟩
end Go.Proofs.Ytlkpfdboagjaoaa.Mem
