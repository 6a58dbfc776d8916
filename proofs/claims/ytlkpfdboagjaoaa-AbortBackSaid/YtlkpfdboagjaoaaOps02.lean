/- Layer 2 (mem): accesses, as the program and the document have them, walked. -/
import Derived.Test.YtlkpfdboagjaoaaMemO
import Derived.Test.YtlkpfdboagjaoaaRecs
namespace Go.Proofs.Ytlkpfdboagjaoaa.Mem
open Go Go.RowKit Go.Proofs.Ytlkpfdboagjaoaa.Heap Go.Proofs.Ytlkpfdboagjaoaa.Open

/-- What an access tells, and the words behind it. -/
def step02 (ws : List Int) (k a o v : Int) : (Int × Int) × List Int :=
  if k = 1 then ((get ws a, 0), ws) else if k = 2 then ((0, 0), put ws a v) else if k = 3 then ((get ws a, 0), put ws a v)
  else if k = 4 then (if casB ws a o = true then ((0, 1), put ws a v) else ((0, 0), ws)) else if k = 5 then ((get ws a, 0), put ws a ((get ws a + v) % 4294967296)) else ((0, 0), ws)
theorem step02_len (ws : List Int) (k a o v : Int) : (step02 ws k a o v).2.length = ws.length := by
  unfold step02; (repeat' split) <;> simp [put_len]
theorem step02_wd {ws : List Int} (h : Wd ws) (k a o : Int) {v : Int} (h0 : 0 ≤ v) (h1 : v < 4294967296) : Wd (step02 ws k a o v).2 := by
  unfold step02; (repeat' split) <;> first | exact h | exact h.put a h0 h1 | exact h.put a (by omega) (by omega)
theorem step02_out {ws : List Int} {k a : Int} (o v : Int) (h : inB a ws.length = false ∨ k < 1 ∨ 5 < k) : step02 ws k a o v = ((0, 0), ws) := by
  rcases h with h | h
  · have hc : casB ws a o = false := by unfold casB; rw [h]; rfl
    unfold step02; (repeat' split) <;> simp_all [get_out h, put_out h]
  · unfold step02; rw [if_neg (by omega), if_neg (by omega), if_neg (by omega), if_neg (by omega), if_neg (by omega)]


theorem src_of_rowP {w : World} {g cap : Nat} {k : IntKind} {xs : List Int} (h : RowP w g (ints k xs)) : Src1 w (.slice (some ⟨g, 0, none⟩) xs.length cap) k xs :=
  ⟨some ⟨g, 0, none⟩, cap, rfl, fun e => by simp at e, fun _ => ⟨g, 0, rfl, h.lt, fun i hi => by rw [Nat.zero_add]; exact h.cell (ints_get hi)⟩⟩
theorem src_of_row {w : World} {g cap : Nat} {k : IntKind} {xs : List Int} (h : Row w g (ints k xs)) : Src1 w (.slice (some ⟨g, 0, none⟩) xs.length cap) k xs := src_of_rowP h.toP

section
variable (w : World) (v : Value) (ws : List Int) (h : Src1 w v .u32 ws) (k a o x : Int)
include h
set_option maxHeartbeats 1000000 in
theorem do_out (hc : inB a ws.length = false ∨ k < 1 ∨ 5 < k) :
    Calls Try.prog 117 #[v, .agg #[.int .i64 k, .int .i64 a, .int .u32 o, .int .u32 x]] w fun e w' => e = .returned (.tuple #[v, .int .u32 0, .int .i64 0]) ∧ Below w.heap.size w w' := by
  obtain ⟨ad, cap, rfl, -, -⟩ := h
  have A : Below w.heap.size w w := Below.refl _ _
  by_cases a0 : a < 0
  · clear hc
    go_enter Try.func117, Try.ntmps117
    go_wp2
    go_ret3
    exact ⟨rfl, A.alloc (Nat.le_refl _) _⟩
  have a0' : 0 ≤ a := by omega
  by_cases a1 : (ws.length : Int) ≤ a
  · clear hc
    go_enter Try.func117, Try.ntmps117
    go_wp2
    go_ret3
    exact ⟨rfl, A.alloc (Nat.le_refl _) _⟩
  have a1' : a < (ws.length : Int) := by omega
  have hk : k < 1 ∨ 5 < k := by
    rcases hc with hc | hc
    · unfold inB at hc; simp at hc; omega
    · exact hc
  clear hc
  by_cases k0 : k < 1
  · go_enter Try.func117, Try.ntmps117
    go_wp2
    go_ret3
    exact ⟨rfl, A.alloc (Nat.le_refl _) _⟩
  have k1 : 5 < k := by omega
  have k0' : 1 ≤ k := by omega
  clear hk
  go_enter Try.func117, Try.ntmps117
  go_wp2
  go_ret3
  exact ⟨rfl, A.alloc (Nat.le_refl _) _⟩
set_option maxHeartbeats 1000000 in
theorem do_load (n : Nat) (hn : n < ws.length) :
    Calls Try.prog 117 #[v, .agg #[.int .i64 1, .int .i64 n, .int .u32 o, .int .u32 x]] w fun e w' => e = .returned (.tuple #[v, .int .u32 (ws.getD n 0), .int .i64 0]) ∧ Below w.heap.size w w' := by
  obtain ⟨ad, cap, rfl, -, hc⟩ := h
  obtain ⟨b, off, rfl, hb, hcell⟩ := hc (by omega)
  have c0 := ((((Below.refl w.heap.size w).alloc (Nat.le_refl _) (.cells #[.int .i64 1, .int .i64 n, .int .u32 o, .int .u32 x] 181))).cell (p := ⟨b, off + n, none⟩) hb).trans (hcell n hn)
  obtain ⟨y, hy⟩ : ∃ y, ws.getD n 0 = y := ⟨_, rfl⟩
  rw [hy] at c0 ⊢
  have hn' : (n : Int) < ws.length := by omega
  have A : Below w.heap.size w w := Below.refl _ _
  clear hy hcell hc
  go_enter Try.func117, Try.ntmps117
  go_wp2
  go_ret3
  exact ⟨rfl, A.alloc (Nat.le_refl _) _⟩
set_option maxHeartbeats 1000000 in
theorem do_miss (n : Nat) (hn : n < ws.length) (hne : (ws.getD n 0 == o) = false) :
    Calls Try.prog 117 #[v, .agg #[.int .i64 4, .int .i64 n, .int .u32 o, .int .u32 x]] w fun e w' => e = .returned (.tuple #[v, .int .u32 0, .int .i64 0]) ∧ Below w.heap.size w w' := by
  obtain ⟨ad, cap, rfl, -, hc⟩ := h
  obtain ⟨b, off, rfl, hb, hcell⟩ := hc (by omega)
  have c0 := ((((Below.refl w.heap.size w).alloc (Nat.le_refl _) (.cells #[.int .i64 4, .int .i64 n, .int .u32 o, .int .u32 x] 181))).cell (p := ⟨b, off + n, none⟩) hb).trans (hcell n hn)
  obtain ⟨y, hy⟩ : ∃ y, ws.getD n 0 = y := ⟨_, rfl⟩
  rw [hy] at c0 hne
  have hn' : (n : Int) < ws.length := by omega
  have A : Below w.heap.size w w := Below.refl _ _
  have hne2 : (y != o) = true := by simp only [bne, hne]; rfl
  clear hy hcell hc
  go_enter Try.func117, Try.ntmps117
  go_wp2
  go_ret3
  exact ⟨rfl, A.alloc (Nat.le_refl _) _⟩
omit h in
theorem info_u32 : (Try.prog.info? 27).map (fun i => (i.zero, i.size, i.bytes)) = some (some (.int .u32 0), 1, 4) := by kernel_rfl
set_option maxHeartbeats 1000000 in
theorem do_2 (n : Nat) (hn : n < ws.length) (hl : ws.length ≤ 100000) :
    Calls Try.prog 117 #[v, .agg #[.int .i64 2, .int .i64 n, .int .u32 o, .int .u32 x]] w fun e w' => ∃ g cap, e = .returned (.tuple #[.slice (some ⟨g, 0, none⟩) ws.length cap, (.int .u32 0), .int .i64 0]) ∧
      RowP w' g (ints .u32 (ws.set n x)) ∧ w.heap.size ≤ g ∧ Below w.heap.size w w' := by
  have hread := fun o => (h.below ((Below.refl w.heap.size w).alloc (Nat.le_refl _) o)).readable
  obtain ⟨ad, cap, rfl, -, hc⟩ := h
  obtain ⟨b, off, rfl, hb, hcell⟩ := hc (by omega)
  have c0 := ((((Below.refl w.heap.size w).alloc (Nat.le_refl _) (.cells #[.int .i64 2, .int .i64 n, .int .u32 o, .int .u32 x] 181))).cell (p := ⟨b, off + n, none⟩) hb).trans (hcell n hn)
  obtain ⟨y, hy⟩ : ∃ y, ws.getD n 0 = y := ⟨_, rfl⟩
  rw [hy] at c0
  have Hy := Lib.hid hy
  have hn' : (n : Int) < ws.length := by omega
  have A : Below w.heap.size w w := Below.refl _ _
  clear hy hcell hc
  go_enter Try.func117, Try.ntmps117
  go_wp2_with (at_builtin; refine wpList_append_src rfl (.tmp 50) (.tmp 51) 55 rfl (w.heap.size + 1) 27 (.int .u32 0) 1 4 Try.underlying55 info_u32 rfl (by decide) (.slice none 0 0) 0 [] rfl (World.ownsRow_nil _ _ _ _) _ ws.length (ints .u32 ws) rfl (hread _) (ints_len1 ws) (ints_one ws) (by unfold maxLen; omega) (by omega) (by simp) ?_; intro v' w1 hown1 u1 hnear; rw [Nat.zero_add, List.nil_append] at hown1; obtain ⟨g, gc, rfl, hg, hr⟩ := owned hown1 (by omega); have hbox : Row w1 w.heap.size [.int .i64 2, .int .i64 n, .int .u32 o, .int .u32 x] := (Row.new' (T := 181) rfl).upd u1 (by simp [Value.ownBlock]); have B1 : Below w.heap.size w w1 := u1.below (A.alloc (Nat.le_refl _) _) (by simp) (by intro i hi; simp [Value.ownBlock] at hi); have q0 := hbox.cell (i := 0) rfl; have q1 := hbox.cell (i := 1) rfl; have q3 := hbox.cell (i := 3) rfl; have gne : g ≠ w.heap.size := (by omega); have zf := hr.frozen n; have zc := hr.cell (ints_get (k := .u32) hn); obtain ⟨z, hz⟩ : ∃ z, ws.getD n 0 = z := ⟨_, rfl⟩; rw [hz] at zc; clear hz hnear hown1 hread u1)
  go_ret3
  have hset := hr.set n (by rw [ints_len]; exact hn) (.int .u32 x)
  rw [← ints_set] at hset
  exact ⟨g, gc, rfl, hset, by omega, B1.setCell (show w.heap.size ≤ g by omega) _⟩
set_option maxHeartbeats 1000000 in
theorem do_3 (n : Nat) (hn : n < ws.length) (hl : ws.length ≤ 100000) :
    Calls Try.prog 117 #[v, .agg #[.int .i64 3, .int .i64 n, .int .u32 o, .int .u32 x]] w fun e w' => ∃ g cap, e = .returned (.tuple #[.slice (some ⟨g, 0, none⟩) ws.length cap, (.int .u32 (ws.getD n 0)), .int .i64 0]) ∧
      RowP w' g (ints .u32 (ws.set n x)) ∧ w.heap.size ≤ g ∧ Below w.heap.size w w' := by
  have hread := fun o => (h.below ((Below.refl w.heap.size w).alloc (Nat.le_refl _) o)).readable
  obtain ⟨ad, cap, rfl, -, hc⟩ := h
  obtain ⟨b, off, rfl, hb, hcell⟩ := hc (by omega)
  have c0 := ((((Below.refl w.heap.size w).alloc (Nat.le_refl _) (.cells #[.int .i64 3, .int .i64 n, .int .u32 o, .int .u32 x] 181))).cell (p := ⟨b, off + n, none⟩) hb).trans (hcell n hn)
  obtain ⟨y, hy⟩ : ∃ y, ws.getD n 0 = y := ⟨_, rfl⟩
  rw [hy] at c0 ⊢
  have Hy := Lib.hid hy
  have hn' : (n : Int) < ws.length := by omega
  have A : Below w.heap.size w w := Below.refl _ _
  clear hy hcell hc
  go_enter Try.func117, Try.ntmps117
  go_wp2_with (at_builtin; refine wpList_append_src rfl (.tmp 50) (.tmp 51) 55 rfl (w.heap.size + 1) 27 (.int .u32 0) 1 4 Try.underlying55 info_u32 rfl (by decide) (.slice none 0 0) 0 [] rfl (World.ownsRow_nil _ _ _ _) _ ws.length (ints .u32 ws) rfl (hread _) (ints_len1 ws) (ints_one ws) (by unfold maxLen; omega) (by omega) (by simp) ?_; intro v' w1 hown1 u1 hnear; rw [Nat.zero_add, List.nil_append] at hown1; obtain ⟨g, gc, rfl, hg, hr⟩ := owned hown1 (by omega); have hbox : Row w1 w.heap.size [.int .i64 3, .int .i64 n, .int .u32 o, .int .u32 x] := (Row.new' (T := 181) rfl).upd u1 (by simp [Value.ownBlock]); have B1 : Below w.heap.size w w1 := u1.below (A.alloc (Nat.le_refl _) _) (by simp) (by intro i hi; simp [Value.ownBlock] at hi); have q0 := hbox.cell (i := 0) rfl; have q1 := hbox.cell (i := 1) rfl; have q3 := hbox.cell (i := 3) rfl; have gne : g ≠ w.heap.size := (by omega); have zf := hr.frozen n; have zc := hr.cell (ints_get (k := .u32) hn); obtain ⟨z, hz⟩ : ∃ z, ws.getD n 0 = z := ⟨_, rfl⟩; rw [hz] at zc; clear hz hnear hown1 hread u1)
  go_ret3
  have hset := hr.set n (by rw [ints_len]; exact hn) (.int .u32 x)
  rw [← ints_set] at hset
  exact ⟨g, gc, rfl, hset, by omega, B1.setCell (show w.heap.size ≤ g by omega) _⟩
set_option maxHeartbeats 1000000 in
theorem do_4 (n : Nat) (hn : n < ws.length) (hl : ws.length ≤ 100000) (hne : (ws.getD n 0 == o) = true) :
    Calls Try.prog 117 #[v, .agg #[.int .i64 4, .int .i64 n, .int .u32 o, .int .u32 x]] w fun e w' => ∃ g cap, e = .returned (.tuple #[.slice (some ⟨g, 0, none⟩) ws.length cap, (.int .u32 0), .int .i64 1]) ∧
      RowP w' g (ints .u32 (ws.set n x)) ∧ w.heap.size ≤ g ∧ Below w.heap.size w w' := by
  have hread := fun o => (h.below ((Below.refl w.heap.size w).alloc (Nat.le_refl _) o)).readable
  obtain ⟨ad, cap, rfl, -, hc⟩ := h
  obtain ⟨b, off, rfl, hb, hcell⟩ := hc (by omega)
  have c0 := ((((Below.refl w.heap.size w).alloc (Nat.le_refl _) (.cells #[.int .i64 4, .int .i64 n, .int .u32 o, .int .u32 x] 181))).cell (p := ⟨b, off + n, none⟩) hb).trans (hcell n hn)
  obtain ⟨y, hy⟩ : ∃ y, ws.getD n 0 = y := ⟨_, rfl⟩
  rw [hy] at c0 hne
  have Hy := Lib.hid hy
  have hn' : (n : Int) < ws.length := by omega
  have A : Below w.heap.size w w := Below.refl _ _
  have hne2 : (y != o) = false := by simp only [bne, hne]; rfl
  clear hy hcell hc
  go_enter Try.func117, Try.ntmps117
  go_wp2_with (at_builtin; refine wpList_append_src rfl (.tmp 50) (.tmp 51) 55 rfl (w.heap.size + 1) 27 (.int .u32 0) 1 4 Try.underlying55 info_u32 rfl (by decide) (.slice none 0 0) 0 [] rfl (World.ownsRow_nil _ _ _ _) _ ws.length (ints .u32 ws) rfl (hread _) (ints_len1 ws) (ints_one ws) (by unfold maxLen; omega) (by omega) (by simp) ?_; intro v' w1 hown1 u1 hnear; rw [Nat.zero_add, List.nil_append] at hown1; obtain ⟨g, gc, rfl, hg, hr⟩ := owned hown1 (by omega); have hbox : Row w1 w.heap.size [.int .i64 4, .int .i64 n, .int .u32 o, .int .u32 x] := (Row.new' (T := 181) rfl).upd u1 (by simp [Value.ownBlock]); have B1 : Below w.heap.size w w1 := u1.below (A.alloc (Nat.le_refl _) _) (by simp) (by intro i hi; simp [Value.ownBlock] at hi); have q0 := hbox.cell (i := 0) rfl; have q1 := hbox.cell (i := 1) rfl; have q3 := hbox.cell (i := 3) rfl; have gne : g ≠ w.heap.size := (by omega); have zf := hr.frozen n; have zc := hr.cell (ints_get (k := .u32) hn); obtain ⟨z, hz⟩ : ∃ z, ws.getD n 0 = z := ⟨_, rfl⟩; rw [hz] at zc; clear hz hnear hown1 hread u1)
  go_ret3
  have hset := hr.set n (by rw [ints_len]; exact hn) (.int .u32 x)
  rw [← ints_set] at hset
  exact ⟨g, gc, rfl, hset, by omega, B1.setCell (show w.heap.size ≤ g by omega) _⟩
set_option maxHeartbeats 1000000 in
theorem do_5 (n : Nat) (hn : n < ws.length) (hl : ws.length ≤ 100000) :
    Calls Try.prog 117 #[v, .agg #[.int .i64 5, .int .i64 n, .int .u32 o, .int .u32 x]] w fun e w' => ∃ g cap, e = .returned (.tuple #[.slice (some ⟨g, 0, none⟩) ws.length cap, (.int .u32 (ws.getD n 0)), .int .i64 0]) ∧
      RowP w' g (ints .u32 (ws.set n ((ws.getD n 0 + x) % 4294967296))) ∧ w.heap.size ≤ g ∧ Below w.heap.size w w' := by
  have hread := fun o => (h.below ((Below.refl w.heap.size w).alloc (Nat.le_refl _) o)).readable
  obtain ⟨ad, cap, rfl, -, hc⟩ := h
  obtain ⟨b, off, rfl, hb, hcell⟩ := hc (by omega)
  have c0 := ((((Below.refl w.heap.size w).alloc (Nat.le_refl _) (.cells #[.int .i64 5, .int .i64 n, .int .u32 o, .int .u32 x] 181))).cell (p := ⟨b, off + n, none⟩) hb).trans (hcell n hn)
  obtain ⟨y, hy⟩ : ∃ y, ws.getD n 0 = y := ⟨_, rfl⟩
  rw [hy] at c0 ⊢
  have Hy := Lib.hid hy
  have hn' : (n : Int) < ws.length := by omega
  have A : Below w.heap.size w w := Below.refl _ _
  have ht : (y + x) % 4294967296 = IntKind.u32.wrap (y + x) := (wrapU _).symm
  have HT := Lib.hid ht
  clear ht
  clear hy hcell hc
  go_enter Try.func117, Try.ntmps117
  go_wp2_with (at_builtin; refine wpList_append_src rfl (.tmp 50) (.tmp 51) 55 rfl (w.heap.size + 1) 27 (.int .u32 0) 1 4 Try.underlying55 info_u32 rfl (by decide) (.slice none 0 0) 0 [] rfl (World.ownsRow_nil _ _ _ _) _ ws.length (ints .u32 ws) rfl (hread _) (ints_len1 ws) (ints_one ws) (by unfold maxLen; omega) (by omega) (by simp) ?_; intro v' w1 hown1 u1 hnear; rw [Nat.zero_add, List.nil_append] at hown1; obtain ⟨g, gc, rfl, hg, hr⟩ := owned hown1 (by omega); have hbox : Row w1 w.heap.size [.int .i64 5, .int .i64 n, .int .u32 o, .int .u32 x] := (Row.new' (T := 181) rfl).upd u1 (by simp [Value.ownBlock]); have B1 : Below w.heap.size w w1 := u1.below (A.alloc (Nat.le_refl _) _) (by simp) (by intro i hi; simp [Value.ownBlock] at hi); have q0 := hbox.cell (i := 0) rfl; have q1 := hbox.cell (i := 1) rfl; have q3 := hbox.cell (i := 3) rfl; have gne : g ≠ w.heap.size := (by omega); have zf := hr.frozen n; have zc := hr.cell (ints_get (k := .u32) hn); obtain ⟨z, hz⟩ : ∃ z, ws.getD n 0 = z := ⟨_, rfl⟩; rw [hz] at zc; clear hz hnear hown1 hread u1)
  go_ret3
  have hset := hr.set n (by rw [ints_len]; exact hn) (.int .u32 x)
  rw [← ints_set] at hset
  have hset2 := hset.set n (by rw [ints_len]; simpa using hn) (.int .u32 ((y + x) % 4294967296))
  rw [← ints_set, List.set_set] at hset2
  refine ⟨g, gc, rfl, ?_, by omega, (B1.setCell (show w.heap.size ≤ g by omega) _).setCell (show w.heap.size ≤ g by omega) _⟩
  simpa [HT.out] using hset2
end
end Go.Proofs.Ytlkpfdboagjaoaa.Mem
