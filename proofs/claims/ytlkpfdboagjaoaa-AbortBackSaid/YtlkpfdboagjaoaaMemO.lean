/- Package mem: memories as objects: what they hold, and in which blocks they lie. -/
import Derived.Test.YtlkpfdboagjaoaaMemNew
namespace Go.Proofs.Ytlkpfdboagjaoaa.Mem
open Go Go.RowKit Go.Proofs.Ytlkpfdboagjaoaa.Heap Go.Proofs.Ytlkpfdboagjaoaa.Open

/-- Words are words. -/
def Wd (ws : List Int) : Prop := ∀ x ∈ ws, 0 ≤ x ∧ x < 4294967296
def inB (a : Int) (n : Nat) : Bool := decide (0 ≤ a) && decide (a < (n : Int))
def get (ws : List Int) (a : Int) : Int := if inB a ws.length = true then ws.getD a.toNat 0 else 0
def put (ws : List Int) (a x : Int) : List Int := if inB a ws.length = true then ws.set a.toNat x else ws
theorem inB_cases (a : Int) (n : Nat) : (∃ k : Nat, a = k ∧ k < n ∧ inB a n = true) ∨ ((a < 0 ∨ (n : Int) ≤ a) ∧ inB a n = false) := by
  unfold inB
  by_cases h : 0 ≤ a ∧ a < n
  · left
    obtain ⟨k, rfl⟩ := Int.eq_ofNat_of_zero_le h.1
    exact ⟨k, rfl, by omega, by simp; omega⟩
  · right
    exact ⟨by omega, by simp; omega⟩
theorem get_in {ws : List Int} {a : Int} {k : Nat} (h : a = k) (hi : inB a ws.length = true) : get ws a = ws.getD k 0 := by subst h; unfold get; rw [if_pos hi]; simp
theorem get_out {ws : List Int} {a : Int} (hi : inB a ws.length = false) : get ws a = 0 := by unfold get; rw [if_neg (by rw [hi]; decide)]
theorem put_in {ws : List Int} {a x : Int} {k : Nat} (h : a = k) (hi : inB a ws.length = true) : put ws a x = ws.set k x := by subst h; unfold put; rw [if_pos hi]; simp
theorem put_out {ws : List Int} {a x : Int} (hi : inB a ws.length = false) : put ws a x = ws := by unfold put; rw [if_neg (by rw [hi]; decide)]
theorem put_len (ws : List Int) (a x : Int) : (put ws a x).length = ws.length := by unfold put; split <;> simp
theorem Wd.get {ws : List Int} (h : Wd ws) (a : Int) : 0 ≤ get ws a ∧ get ws a < 4294967296 := by
  rcases inB_cases a ws.length with ⟨k, hk, hl, hi⟩ | ⟨_, hi⟩
  · rw [get_in hk hi, getD_lt _ _ _ hl]; exact h _ (List.getElem_mem hl)
  · rw [get_out hi]; omega
theorem Wd.set {ws : List Int} (h : Wd ws) (k : Nat) {x : Int} (h0 : 0 ≤ x) (h1 : x < 4294967296) : Wd (ws.set k x) := by
  intro y hy
  rcases List.mem_or_eq_of_mem_set hy with hy | rfl
  · exact h _ hy
  · exact ⟨h0, h1⟩
theorem Wd.put {ws : List Int} (h : Wd ws) (a : Int) {x : Int} (h0 : 0 ≤ x) (h1 : x < 4294967296) : Wd (put ws a x) := by
  unfold Mem.put; split; exact h.set _ h0 h1; exact h
theorem Wd.zeros (n : Nat) : Wd (List.replicate n 0) := by intro x hx; rw [List.eq_of_mem_replicate hx]; omega

/-- A memory at p, all its blocks in S. -/
structure O (w : World) (p : Nat) (S : Nat → Prop) (ws hs : List Int) : Prop where
  ex : ∃ wb hv, At w p wb hv ws hs ∧ S p ∧ S wb ∧ ∀ b, hv.ownBlock = some b → S b
  lt : ∀ b, S b → b < w.heap.size
  wd : Wd ws
theorem O.keep {T S : Nat → Prop} {w w' : World} {p : Nat} {ws hs : List Int} (h : O w p S ws hs) (hu : Upd T w w') (hd : ∀ b, S b → ¬ T b) : O w' p S ws hs := by
  obtain ⟨⟨wb, hv, ha, h1, h2, h3⟩, hl, hw⟩ := h
  exact ⟨⟨wb, hv, ha.upd hu (hd _ h1) (hd _ h2) fun b hb => hd _ (h3 b hb), h1, h2, h3⟩, fun b hb => Nat.lt_of_lt_of_le (hl b hb) hu.size, hw⟩
theorem O.alloc {S : Nat → Prop} {w : World} {p : Nat} {ws hs : List Int} (h : O w p S ws hs) (o : Obj) : O (w.alloc o) p S ws hs :=
  h.keep ((Upd.refl (fun _ => False) w).alloc o) fun _ _ => id
theorem O.drewN {S : Nat → Prop} {w : World} {p : Nat} {ws hs : List Int} (h : O w p S ws hs) (n : Nat) : O (w.drewN n) p S ws hs :=
  h.keep ((Upd.refl (fun _ => False) w).drewN n) fun _ _ => id
theorem O.drew {S : Nat → Prop} {w : World} {p : Nat} {ws hs : List Int} (h : O w p S ws hs) : O w.drew p S ws hs :=
  h.keep ((Upd.refl (fun _ => False) w).drew) fun _ _ => id
theorem O.below {S : Nat → Prop} {w w' : World} {p : Nat} {ws hs : List Int} (h : O w p S ws hs) (hb : Below w.heap.size w w') : O w' p S ws hs :=
  h.keep (Upd.of_below (S := fun _ => False) hb) fun _ _ => id
theorem O.len {S : Nat → Prop} {w : World} {p : Nat} {ws hs : List Int} (h : O w p S ws hs) : hs.length = ws.length := by
  obtain ⟨⟨wb, hv, ha, _⟩, _⟩ := h; exact ha.len
theorem O.mem {S : Nat → Prop} {w : World} {p : Nat} {ws hs : List Int} (h : O w p S ws hs) : S p := by
  obtain ⟨⟨wb, hv, ha, h1, _⟩, _⟩ := h; exact h1
theorem O.of {S : Nat → Prop} {w w' : World} {p wb : Nat} {hv : Value} {ws hs : List Int} (ha : At w' p wb hv ws hs) (h1 : S p) (h2 : S wb) (h3 : ∀ b, hv.ownBlock = some b → S b) (hl : ∀ b, S b → b < w.heap.size) (hu : Upd S w w') (hw : Wd ws) : O w' p S ws hs :=
  ⟨⟨wb, hv, ha, h1, h2, h3⟩, fun b hb => Nat.lt_of_lt_of_le (hl b hb) hu.size, hw⟩

theorem loadO (w : World) (p : Nat) (S : Nat → Prop) (ws hs : List Int) (h : O w p S ws hs) (a : Int) :
    Calls Try.prog 75 #[.pointer (some ⟨p, 0, none⟩), .int .i64 a] w fun e w' => e = .returned (.int .u32 (get ws a)) ∧ w = w' := by
  obtain ⟨⟨wb, hv, ha, h1, h2, h3⟩, hl, hw⟩ := h
  rcases inB_cases a ws.length with ⟨k, rfl, hk, hi⟩ | ⟨ho, hi⟩
  · rw [get_in rfl hi]; exact load_in _ _ _ _ _ _ ha k hk
  · rw [get_out hi]; exact load_out _ _ _ _ _ _ ha a ho
theorem storeO (w : World) (p : Nat) (S : Nat → Prop) (ws hs : List Int) (h : O w p S ws hs) (a x : Int) (x0 : 0 ≤ x) (x1 : x < 4294967296) :
    Calls Try.prog 71 #[.pointer (some ⟨p, 0, none⟩), .int .i64 a, .int .u32 x] w fun e w' => e = .returned (.tuple #[]) ∧ O w' p S (put ws a x) hs ∧ Upd S w w' := by
  have hO := h
  obtain ⟨⟨wb, hv, ha, h1, h2, h3⟩, hl, hw⟩ := h
  rcases inB_cases a ws.length with ⟨k, rfl, hk, hi⟩ | ⟨ho, hi⟩
  · rw [put_in rfl hi]
    exact (store_in _ _ _ _ _ _ ha k hk x).mono fun e w' ⟨he, h', hu⟩ => ⟨he, O.of h' h1 h2 h3 hl (hu.mono fun i _ e => e ▸ h2) (hw.set _ x0 x1), hu.mono fun i _ e => e ▸ h2⟩
  · rw [put_out hi]
    exact (store_out _ _ _ _ _ _ ha a ho x).mono fun e w' ⟨he, hw⟩ => ⟨he, hw ▸ hO, hw ▸ Upd.refl _ _⟩
theorem swapO (w : World) (p : Nat) (S : Nat → Prop) (ws hs : List Int) (h : O w p S ws hs) (a x : Int) (x0 : 0 ≤ x) (x1 : x < 4294967296) :
    Calls Try.prog 74 #[.pointer (some ⟨p, 0, none⟩), .int .i64 a, .int .u32 x] w fun e w' => e = .returned (.int .u32 (get ws a)) ∧ O w' p S (put ws a x) hs ∧ Upd S w w' := by
  have hO := h
  obtain ⟨⟨wb, hv, ha, h1, h2, h3⟩, hl, hw⟩ := h
  rcases inB_cases a ws.length with ⟨k, rfl, hk, hi⟩ | ⟨ho, hi⟩
  · rw [put_in rfl hi, get_in rfl hi]
    exact (swap_in _ _ _ _ _ _ ha k hk x).mono fun e w' ⟨he, h', hu⟩ => ⟨he, O.of h' h1 h2 h3 hl (hu.mono fun i _ e => e ▸ h2) (hw.set _ x0 x1), hu.mono fun i _ e => e ▸ h2⟩
  · rw [put_out hi, get_out hi]
    exact (swap_out _ _ _ _ _ _ ha a ho x).mono fun e w' ⟨he, hw⟩ => ⟨he, hw ▸ hO, hw ▸ Upd.refl _ _⟩
/-- Does a Cas do it? -/
def casB (ws : List Int) (a o : Int) : Bool := inB a ws.length && (get ws a == o)
theorem casO (w : World) (p : Nat) (S : Nat → Prop) (ws hs : List Int) (h : O w p S ws hs) (a o x : Int) (x0 : 0 ≤ x) (x1 : x < 4294967296) :
    Calls Try.prog 76 #[.pointer (some ⟨p, 0, none⟩), .int .i64 a, .int .u32 o, .int .u32 x] w fun e w' => e = .returned (.bool (casB ws a o)) ∧ O w' p S (if casB ws a o = true then put ws a x else ws) hs ∧ Upd S w w' := by
  have hO := h
  unfold casB
  obtain ⟨⟨wb, hv, ha, h1, h2, h3⟩, hl, hw⟩ := h
  rcases inB_cases a ws.length with ⟨k, rfl, hk, hi⟩ | ⟨ho, hi⟩
  · rw [put_in rfl hi, get_in rfl hi, hi, Bool.true_and]
    refine (cas_in _ _ _ _ _ _ ha k hk o x).mono fun e w' ⟨he, h', hu⟩ => ⟨he, ?_, hu.mono fun i _ e => e ▸ h2⟩
    by_cases e : ws.getD k 0 = o
    · rw [if_pos e] at h'
      rw [if_pos (by simpa using e)]
      exact O.of h' h1 h2 h3 hl (hu.mono fun i _ e => e ▸ h2) (hw.set _ x0 x1)
    · rw [if_neg e] at h'
      rw [if_neg (by simpa using e)]
      exact O.of h' h1 h2 h3 hl (hu.mono fun i _ e => e ▸ h2) hw
  · rw [hi]
    exact (cas_out _ _ _ _ _ _ ha a ho o x).mono fun e w' ⟨he, hw⟩ => ⟨he, hw ▸ hO, hw ▸ Upd.refl _ _⟩
theorem homeO (w : World) (p : Nat) (S : Nat → Prop) (ws hs : List Int) (h : O w p S ws hs) (a : Int) :
    Calls Try.prog 27 #[.pointer (some ⟨p, 0, none⟩), .int .i64 a] w fun e w' => e = .returned (.int .i64 (get hs a)) ∧ w = w' := by
  obtain ⟨⟨wb, hv, ha, h1, h2, h3⟩, hl, hw⟩ := h
  have he := ha.len
  rcases inB_cases a ws.length with ⟨k, rfl, hk, hi⟩ | ⟨ho, hi⟩
  · rw [get_in rfl (by rw [he]; exact hi)]; exact home_in _ _ _ _ _ _ ha k hk
  · rw [get_out (by rw [he]; exact hi)]; exact home_out _ _ _ _ _ _ ha a ho
theorem lenO (w : World) (p : Nat) (S : Nat → Prop) (ws hs : List Int) (h : O w p S ws hs) :
    Calls Try.prog 67 #[.pointer (some ⟨p, 0, none⟩)] w fun e w' => e = .returned (.int .i64 ws.length) ∧ w = w' := by
  obtain ⟨⟨wb, hv, ha, h1, h2, h3⟩, hl, hw⟩ := h
  exact len_all _ _ _ _ _ _ ha
/-- Blocks that came between two worlds. -/
def Btw (w w' : World) (b : Nat) : Prop := w.heap.size ≤ b ∧ b < w'.heap.size
theorem newO (w : World) (v : Value) (hs : List Int) (h : Src1 w v .i64 hs) (hl : hs.length ≤ 4096) (hok : homesOk hs = true) :
    Calls Try.prog 70 #[v] w fun e w' => ∃ p, e = .returned (.tuple #[.pointer (some ⟨p, 0, none⟩), .int .i64 0]) ∧ O w' p (Btw w w') (List.replicate hs.length 0) hs ∧ Below w.heap.size w w' :=
  (new_yes w v hs h hl hok).mono fun _ _ ⟨m, wb, hv, he, ha, h1, h2, h3, hu⟩ =>
    ⟨m, he, ⟨⟨wb, hv, ha, ⟨h1, ha.top.lt⟩, ⟨h2, ha.words.lt⟩, fun b hb => ⟨h3 b hb, (own_lt ha.homes hb).1⟩⟩, fun _ hb => hb.2, Wd.zeros _⟩, hu.none⟩
theorem fill_step (ws : List Int) (k : Nat) (h : k < ws.length) : (ws.take k ++ List.replicate (ws.length - k) 0).set k ws[k] = ws.take (k + 1) ++ List.replicate (ws.length - (k + 1)) 0 := by
  have e1 : k - (ws.take k).length = 0 := by simp; omega
  have e2 : ws.length - k = (ws.length - (k + 1)) + 1 := by omega
  rw [List.set_append_right _ _ (by simp; omega), e1, e2, List.replicate_succ, List.set_cons_zero, List.take_succ_eq_append_getElem h, List.append_assoc]; rfl
theorem fill_get (ws : List Int) (k : Nat) (h : k < ws.length) : (ws.take k ++ List.replicate (ws.length - k) 0).getD k 0 = 0 := by
  have e1 : k - (ws.take k).length = 0 := by simp; omega
  have e2 : ws.length - k = (ws.length - (k + 1)) + 1 := by omega
  rw [List.getD, List.getElem?_append_right (by simp; omega), e1, e2, List.replicate_succ]; rfl
set_option maxHeartbeats 1000000 in
theorem wordsO (w : World) (p : Nat) (S : Nat → Prop) (ws hs : List Int) (h : O w p S ws hs) (hlen : ws.length ≤ 4096) :
    Calls Try.prog 22 #[.pointer (some ⟨p, 0, none⟩)] w fun e w' =>
      e = .returned (.slice (some ⟨w.heap.size, 0, none⟩) ws.length ws.length) ∧ Row w' w.heap.size (ints .u32 ws) ∧ Below w.heap.size w w' := by
  obtain ⟨⟨wb, hv, ha, h1, h2, h3⟩, hl, hw⟩ := h
  have h0 := ha.top.cell (i := 0) rfl
  have hwb := hl _ h2
  have hpb := hl _ h1
  have hlen' : (ws.length : Int) ≤ 4096 := by omega
  have hmk := run_make_cells (P := Try.prog) 55 27 (.int .u32 0) (.int .u32 0) 4 Try.underlying55 (by kernel_rfl) rfl ws.length (by omega) (by omega) w
  go_enter Try.func22, Try.ntmps22
  go_wp2_with fail
  have K0 : Row (w.alloc (.cells (zeros ws.length (.int .u32 0)) 27)) w.heap.size (ints .u32 (ws.take 0 ++ List.replicate (ws.length - 0) 0)) := by
    have := Row.ofZeros (w := w) (T := 27) (n := ws.length) (z := .int .u32 0) rfl
    simpa [ints] using this
  have B0 : Below w.heap.size w (w.alloc (.cells (zeros ws.length (.int .u32 0)) 27)) := (Below.refl _ _).alloc (Nat.le_refl _) _
  have Z0 : w.heap.size < (w.alloc (.cells (zeros ws.length (.int .u32 0)) 27)).heap.size := by simp
  obtain ⟨W0, hW0⟩ : ∃ W0, w.alloc (.cells (zeros ws.length (.int .u32 0)) 27) = W0 := ⟨_, rfl⟩
  rw [hW0] at K0 B0 Z0 ⊢
  clear hW0 hmk
  go_loopw [13] (fun i wr => ∃ k : Nat, k ≤ ws.length ∧ i = .int .i64 k ∧ Row wr w.heap.size (ints .u32 (ws.take k ++ List.replicate (ws.length - k) 0)) ∧ Below w.heap.size w wr ∧ w.heap.size < wr.heap.size) (fun i _ => ws.length - (intOf i).toNat)
  case atStart => exact ⟨0, Nat.zero_le _, rfl, K0, B0, Z0⟩
  case round =>
    obtain ⟨k, hk, rfl, hrow, hbel, hsz⟩ := hrel
    by_cases hlt : k < ws.length
    · have c0 := (hbel.cell (p := ⟨p, 0, none⟩) hpb).trans h0
      have c1 := (hbel.cell (p := ⟨wb, k, none⟩) hwb).trans (ha.words.cell (ints_get (k := .u32) hlt))
      have hlt' : (k : Int) < ws.length := by omega
      have ez := fill_step ws k hlt
      have cz : wr.cell? ⟨w.heap.size, k, none⟩ = some (.int .u32 0) := hrow.cell (by
        rw [ints_get (by simp; omega), fill_get ws k hlt])
      have hrow2 := hrow.set k (.int .u32 ws[k])
      rw [← ints_set, ez] at hrow2
      have zf := hrow.frozen k
      rw [getD_lt _ _ _ hlt] at c1
      obtain ⟨y, hy⟩ : ∃ y, ws[k] = y := ⟨_, rfl⟩
      rw [hy] at hrow2 c1
      have L := run_call_load (P := Try.prog) Try.func61 (by kernel_rfl) (by kernel_rfl) (by kernel_rfl) .u32 (by kernel_rfl) c1
      clear hy ez hrow
      go_wp2
      go_roundw
      case rel => exact ⟨k + 1, by omega, by go_num, hrow2, hbel.setCell (Nat.le_refl _) _, by simpa using hsz⟩
      case measure => simp [intOf]; omega
    · obtain rfl : k = ws.length := by omega
      have hrow2 : Row wr w.heap.size (ints .u32 ws) := by simpa using hrow
      clear hrow
      go_wp2
      go_ret
      exact ⟨rfl, hrow2, hbel⟩
end Go.Proofs.Ytlkpfdboagjaoaa.Mem
