/- The lock of whom time may run out keeps its queue. No program in sight but the steps' values. -/
import Derived.Test.YtlkpfdboagjaoaaAbortQa
import Derived.Test.YtlkpfdboagjaoaaAbortQb
namespace Go.Proofs.Ytlkpfdboagjaoaa.AbortP
open Go Go.Proofs.Ytlkpfdboagjaoaa.Heap Go.Proofs.Ytlkpfdboagjaoaa.Seat Go.Proofs.Ytlkpfdboagjaoaa.Mach Go.Proofs.Ytlkpfdboagjaoaa.SeatP Go.Proofs.Ytlkpfdboagjaoaa.StepU Go.Proofs.Ytlkpfdboagjaoaa.Abort Go.Proofs.Ytlkpfdboagjaoaa.AbortQ Go.Proofs.Ytlkpfdboagjaoaa.Has

abbrev fS (l : List P) : Nat → Int := fun t => (l.getD t p0).s
abbrev fR (l : List P) : Nat → Int := fun t => (l.getD t p0).r
abbrev fN (l : List P) : Nat → Int := fun t => (l.getD t p0).n
abbrev fO (l : List P) : Nat → Int := fun t => (l.getD t p0).o
/-- A node's words: its state, who is next, whether it is out. -/
def gF (ws : List Int) : Int → Int := fun x => if 1 ≤ x then Mem.get ws (stA 0 x) else 0
def gN (ws : List Int) : Int → Int := fun x => if 1 ≤ x then Mem.get ws (stA 0 x + 1) else 0
def gU (ws : List Int) : Int → Int := fun x => if 1 ≤ x then Mem.get ws (stA 0 x + 2) else 0
/-- Whose a node is. -/
def own (c : Nat) : Int → Int := fun x => (x - 1) / (c : Int)
/-- What the invariant has beside the state. -/
structure G where
  r : Nat → Int
  nq : Int → Int
  H : Int
  E : Int
structure I (n c : Nat) (st : St) (g : G) : Prop where
  sl : st.seats.length = n
  pl : st.pls.length = n
  wl : st.ws.length = 1 + n * (3 * c)
  c1 : 1 ≤ c
  aq : AQ n ((n * c : Nat) : Int) (stt st.seats) (fS st.pls) (fN st.pls) (fO st.pls) g.r (gF st.ws) (gN st.ws) (gU st.ws) g.nq (own c) (Mem.get st.ws 0) g.H g.E
  rr : ∀ t, t < n → (stt st.seats t = 0 → fR st.pls t = 0) ∧ (stt st.seats t = 2 → fR st.pls t = 0) ∧ (stt st.seats t = 1 → fS st.pls t = 0 → 0 ≤ fR st.pls t ∧ fR st.pls t < c)
theorem node_rng {n c t : Nat} (ht : t < n) (r : Int) (r0 : 0 ≤ r) (r1 : r < c) : 1 ≤ (t : Int) * c + r + 1 ∧ (t : Int) * c + r + 1 ≤ ((n * c : Nat) : Int) ∧ own c ((t : Int) * c + r + 1) = t := by
  have h1 : (t + 1) * c ≤ n * c := Nat.mul_le_mul_right c ht
  have h2 : ((t : Int) + 1) * c ≤ ((n * c : Nat) : Int) := by exact_mod_cast h1
  have h3 : 0 ≤ (t : Int) * c := by exact_mod_cast Nat.zero_le (t * c)
  rw [Int.add_mul, Int.one_mul] at h2
  refine ⟨by omega, by omega, ?_⟩
  unfold own
  rw [show (t : Int) * c + r + 1 - 1 = r + (t : Int) * c by omega, Int.add_mul_ediv_right _ _ (by omega), Int.ediv_eq_zero_of_lt r0 r1]
  omega
theorem rd_in {n : Nat} {u : Nat} (hu : u < n) (ws : List Int) (a : Int) : rd n ws u a = Mem.get ws a := by unfold rd; rw [if_pos (by simp [Mem.inB]; omega)]
theorem wr_in {n : Nat} {u : Nat} (hu : u < n) (ws : List Int) (a v : Int) : wrt n ws u a v = Mem.put ws a v := by unfold wrt; rw [if_pos (by simp [Mem.inB]; omega)]
theorem get_put (ws : List Int) (a b v : Int) (h0 : 0 ≤ a) (h1 : a < ws.length) : Mem.get (Mem.put ws a v) b = if b = a then v else Mem.get ws b := by
  have ha : Mem.inB a ws.length = true := by simp [Mem.inB]; omega
  rw [Mem.put_in (k := a.toNat) (by omega) ha]
  by_cases e : b = a
  · subst e
    rw [if_pos rfl, Mem.get_in (k := b.toNat) (by omega) (by rw [List.length_set]; exact ha)]
    simp [List.getD, List.getElem?_set_self (show b.toNat < ws.length by omega)]
  · rw [if_neg e]
    unfold Mem.get
    rw [List.length_set]
    split
    · rename_i hb
      have hb : 0 ≤ b ∧ b < ws.length := by simpa [Mem.inB] using hb
      rw [List.getD, List.getElem?_set_ne (by omega)]; rfl
    · rfl
theorem cas_eq {n u : Nat} (hu : u < n) (ws : List Int) (a o : Int) (h0 : 0 ≤ a) (h1 : a < ws.length) : (Mem.inB (u : Int) n && Mem.casB ws a o) = decide (Mem.get ws a = o) := by
  have e1 : Mem.inB (u : Int) n = true := by simp [Mem.inB]; omega
  have e2 : Mem.inB a ws.length = true := by simp [Mem.inB]; omega
  unfold Mem.casB
  rw [e1, e2]
  by_cases e : Mem.get ws a = o <;> simp [e]
theorem pr_set (f : P → Int) (l : List P) (k : Nat) (hk : k < l.length) (y : P) : (fun t => f ((l.set k y).getD t p0)) = up (fun t => f (l.getD t p0)) k (f y) := by
  funext t
  rw [pl_set l k hk]
  unfold up
  split <;> rfl
theorem up_self (f : Nat → Int) (k : Nat) (v : Int) (h : f k = v) : up f k v = f := by
  funext t; unfold up; split
  · rename_i e; rw [e, h]
  · rfl
theorem stt_up (l : List (Int × Int)) (k : Nat) (hk : k < l.length) (a d : Int) : stt (l.set k (a, d)) = up (stt l) k a := by
  funext t; rw [stt_set l k (a, d) hk]; rfl
theorem fset (l : List P) (k : Nat) (hk : k < l.length) (y : P) : fS (l.set k y) = up (fS l) k y.s ∧ fR (l.set k y) = up (fR l) k y.r ∧ fN (l.set k y) = up (fN l) k y.n ∧ fO (l.set k y) = up (fO l) k y.o :=
  ⟨pr_set P.s l k hk y, pr_set P.r l k hk y, pr_set P.n l k hk y, pr_set P.o l k hk y⟩
section
variable {ws : List Int} {n c : Nat} (hw : ws.length = 1 + n * (3 * c))
include hw
theorem wlen : (ws.length : Int) = 1 + 3 * ((n * c : Nat) : Int) := by
  rw [hw, Nat.mul_left_comm]; push_cast; omega
theorem F_st (y v : Int) (h1 : 1 ≤ y) (h2 : y ≤ ((n * c : Nat) : Int)) : gF (Mem.put ws (stA 0 y) v) = upI (gF ws) y v := by
  have hl := wlen hw
  funext x
  unfold upI
  by_cases e : x = y
  · subst e; unfold gF; rw [if_pos rfl, if_pos h1, get_put _ _ _ _ (by unfold stA; omega) (by unfold stA; omega), if_pos rfl]
  · rw [if_neg e]; unfold gF; split
    · rw [get_put _ _ _ _ (by unfold stA; omega) (by unfold stA; omega), if_neg (by unfold stA; omega)]
    · rfl
theorem N_st (y v : Int) (h1 : 1 ≤ y) (h2 : y ≤ ((n * c : Nat) : Int)) : gN (Mem.put ws (stA 0 y) v) = gN ws := by
  have hl := wlen hw
  funext x
  unfold gN
  split
  · rw [get_put _ _ _ _ (by unfold stA; omega) (by unfold stA; omega), if_neg (by unfold stA; omega)]
  · rfl
theorem U_st (y v : Int) (h1 : 1 ≤ y) (h2 : y ≤ ((n * c : Nat) : Int)) : gU (Mem.put ws (stA 0 y) v) = gU ws := by
  have hl := wlen hw
  funext x
  unfold gU
  split
  · rw [get_put _ _ _ _ (by unfold stA; omega) (by unfold stA; omega), if_neg (by unfold stA; omega)]
  · rfl
theorem T_st (y v : Int) (h1 : 1 ≤ y) (h2 : y ≤ ((n * c : Nat) : Int)) : Mem.get (Mem.put ws (stA 0 y) v) 0 = Mem.get ws 0 := by
  have hl := wlen hw
  rw [get_put _ _ _ _ (by unfold stA; omega) (by unfold stA; omega), if_neg (by unfold stA; omega)]
theorem F_nx (y v : Int) (h1 : 1 ≤ y) (h2 : y ≤ ((n * c : Nat) : Int)) : gF (Mem.put ws (stA 0 y + 1) v) = gF ws := by
  have hl := wlen hw
  funext x
  unfold gF
  split
  · rw [get_put _ _ _ _ (by unfold stA; omega) (by unfold stA; omega), if_neg (by unfold stA; omega)]
  · rfl
theorem N_nx (y v : Int) (h1 : 1 ≤ y) (h2 : y ≤ ((n * c : Nat) : Int)) : gN (Mem.put ws (stA 0 y + 1) v) = upI (gN ws) y v := by
  have hl := wlen hw
  funext x
  unfold upI
  by_cases e : x = y
  · subst e; unfold gN; rw [if_pos rfl, if_pos h1, get_put _ _ _ _ (by unfold stA; omega) (by unfold stA; omega), if_pos rfl]
  · rw [if_neg e]; unfold gN; split
    · rw [get_put _ _ _ _ (by unfold stA; omega) (by unfold stA; omega), if_neg (by unfold stA; omega)]
    · rfl
theorem U_nx (y v : Int) (h1 : 1 ≤ y) (h2 : y ≤ ((n * c : Nat) : Int)) : gU (Mem.put ws (stA 0 y + 1) v) = gU ws := by
  have hl := wlen hw
  funext x
  unfold gU
  split
  · rw [get_put _ _ _ _ (by unfold stA; omega) (by unfold stA; omega), if_neg (by unfold stA; omega)]
  · rfl
theorem T_nx (y v : Int) (h1 : 1 ≤ y) (h2 : y ≤ ((n * c : Nat) : Int)) : Mem.get (Mem.put ws (stA 0 y + 1) v) 0 = Mem.get ws 0 := by
  have hl := wlen hw
  rw [get_put _ _ _ _ (by unfold stA; omega) (by unfold stA; omega), if_neg (by unfold stA; omega)]
theorem F_ou (y v : Int) (h1 : 1 ≤ y) (h2 : y ≤ ((n * c : Nat) : Int)) : gF (Mem.put ws (stA 0 y + 2) v) = gF ws := by
  have hl := wlen hw
  funext x
  unfold gF
  split
  · rw [get_put _ _ _ _ (by unfold stA; omega) (by unfold stA; omega), if_neg (by unfold stA; omega)]
  · rfl
theorem N_ou (y v : Int) (h1 : 1 ≤ y) (h2 : y ≤ ((n * c : Nat) : Int)) : gN (Mem.put ws (stA 0 y + 2) v) = gN ws := by
  have hl := wlen hw
  funext x
  unfold gN
  split
  · rw [get_put _ _ _ _ (by unfold stA; omega) (by unfold stA; omega), if_neg (by unfold stA; omega)]
  · rfl
theorem U_ou (y v : Int) (h1 : 1 ≤ y) (h2 : y ≤ ((n * c : Nat) : Int)) : gU (Mem.put ws (stA 0 y + 2) v) = upI (gU ws) y v := by
  have hl := wlen hw
  funext x
  unfold upI
  by_cases e : x = y
  · subst e; unfold gU; rw [if_pos rfl, if_pos h1, get_put _ _ _ _ (by unfold stA; omega) (by unfold stA; omega), if_pos rfl]
  · rw [if_neg e]; unfold gU; split
    · rw [get_put _ _ _ _ (by unfold stA; omega) (by unfold stA; omega), if_neg (by unfold stA; omega)]
    · rfl
theorem T_ou (y v : Int) (h1 : 1 ≤ y) (h2 : y ≤ ((n * c : Nat) : Int)) : Mem.get (Mem.put ws (stA 0 y + 2) v) 0 = Mem.get ws 0 := by
  have hl := wlen hw
  rw [get_put _ _ _ _ (by unfold stA; omega) (by unfold stA; omega), if_neg (by unfold stA; omega)]
theorem F_tl (v : Int) : gF (Mem.put ws 0 v) = gF ws := by
  have hl := wlen hw
  funext x
  unfold gF
  split
  · rw [get_put _ _ _ _ (by omega) (by omega), if_neg (by unfold stA; omega)]
  · rfl
theorem N_tl (v : Int) : gN (Mem.put ws 0 v) = gN ws := by
  have hl := wlen hw
  funext x
  unfold gN
  split
  · rw [get_put _ _ _ _ (by omega) (by omega), if_neg (by unfold stA; omega)]
  · rfl
theorem U_tl (v : Int) : gU (Mem.put ws 0 v) = gU ws := by
  have hl := wlen hw
  funext x
  unfold gU
  split
  · rw [get_put _ _ _ _ (by omega) (by omega), if_neg (by unfold stA; omega)]
  · rfl
theorem T_tl (v : Int) : Mem.get (Mem.put ws 0 v) 0 = v := by
  have hl := wlen hw
  rw [get_put _ _ _ _ (by omega) (by omega), if_pos rfl]
end
theorem I.ts {n c : Nat} {st : St} {g : G} (f : I n c st g) (y : List T) : I n c { st with ts := y } g := ⟨f.sl, f.pl, f.wl, f.c1, f.aq, f.rr⟩
theorem step_lock {n c u : Nat} {st : St} (h1 : stt st.seats u = 1) (now : Int) : Abort.step n 0 c st u u now = ((lockS n 0 c st u u (lateB st.seats u now)).1, { (lockS n 0 c st u u (lateB st.seats u now)).2 with seats := (fin st.seats u (lockS n 0 c st u u (lateB st.seats u now)).1.1).2, pls := if (fin st.seats u (lockS n 0 c st u u (lateB st.seats u now)).1.1).1 = true then rest (lockS n 0 c st u u (lateB st.seats u now)).2.pls u else (lockS n 0 c st u u (lateB st.seats u now)).2.pls }) := by
  have hs : state st.seats (u : Int) = 1 := by rw [state_nat]; exact h1
  unfold Abort.step midS
  rw [if_pos hs, Int.toNat_natCast]
  dsimp only
  rw [(lockS_len st u (u : Int) (lateB st.seats u now)).1]
theorem step_unl {n c u : Nat} {st : St} (h1 : stt st.seats u = 3) (now : Int) : Abort.step n 0 c st u u now = (((unlS n 0 st u u).1, false, false, false), { (unlS n 0 st u u).2 with seats := (fin st.seats u (unlS n 0 st u u).1).2, pls := if (fin st.seats u (unlS n 0 st u u).1).1 = true then rest (unlS n 0 st u u).2.pls u else (unlS n 0 st u u).2.pls }) := by
  have hs : state st.seats (u : Int) = 3 := by rw [state_nat]; exact h1
  unfold Abort.step midS
  rw [if_neg (by rw [hs]; decide), if_pos hs, Int.toNat_natCast]
  dsimp only
  rw [(unlS_len st u (u : Int)).1]
theorem step_idle {n c : Nat} {st : St} {t : Int} (h1 : state st.seats t ≠ 1) (h3 : state st.seats t ≠ 3) (a now : Int) : Abort.step n 0 c st t a now = ((0, false, false, false), st) := by
  unfold Abort.step midS
  rw [if_neg h1, if_neg h3]
  dsimp only
  rw [fin_0, if_neg Bool.false_ne_true]
theorem none_ {n c u : Nat} {st : St} (h1 : stt st.seats u = 1) (now : Int) {st' : St} {d : Did} (hd : d.1 = 0) (e : lockS n 0 c st u u (lateB st.seats u now) = (d, st')) (hs' : st'.seats = st.seats) : Abort.step n 0 c st u u now = (d, st') := by
  rw [step_lock h1, e]
  dsimp only
  rw [hd, fin_0, if_neg Bool.false_ne_true]
  dsimp only
  rw [← hs']
theorem got_ {n c u : Nat} {st : St} (h1 : stt st.seats u = 1) (now : Int) {st' : St} {d : Did} (z : Int) (hd : (d.1 = 1 ∧ z = 2) ∨ (d.1 = 2 ∧ z = 0) ∨ (d.1 = 6 ∧ z = 0)) (e : lockS n 0 c st u u (lateB st.seats u now) = (d, st')) (pl : List P) (hr : rest st'.pls u = pl) : Abort.step n 0 c st u u now = (d, ⟨st.seats.set u (z, -1), pl, st'.ws, st'.ts⟩) := by
  have hf : fin st.seats (u : Int) d.1 = (true, st.seats.set u (z, -1)) := by
    unfold fin
    rw [state_nat, h1, Int.toNat_natCast]
    rcases hd with ⟨e, rfl⟩ | ⟨e, rfl⟩ | ⟨e, rfl⟩ <;> rw [e] <;> rfl
  rw [step_lock h1, e]
  dsimp only
  rw [hf, if_pos rfl, hr]
theorem unone_ {n c u : Nat} {st : St} (h1 : stt st.seats u = 3) (now : Int) {st' : St} (e : unlS n 0 st u u = (0, st')) (hs' : st'.seats = st.seats) : Abort.step n 0 c st u u now = ((0, false, false, false), st') := by
  rw [step_unl h1, e]
  dsimp only
  rw [fin_0, if_neg Bool.false_ne_true]
  dsimp only
  rw [← hs']
theorem ugot_ {n c u : Nat} {st : St} (h1 : stt st.seats u = 3) (now : Int) {st' : St} (e : unlS n 0 st u u = (3, st')) (pl : List P) (hr : rest st'.pls u = pl) : Abort.step n 0 c st u u now = ((3, false, false, false), ⟨st.seats.set u (0, -1), pl, st'.ws, st'.ts⟩) := by
  rw [step_unl h1, e]
  dsimp only
  rw [fin_3 h1, if_pos rfl, hr]
theorem I.of {n c : Nat} {st : St} {g : G} (f : I n c st g) (st' : St) (g' : G) {s' sp' nd' ot' : Nat → Int} {F' N' U' : Int → Int} {T' : Int} (h : AQ n ((n * c : Nat) : Int) s' sp' nd' ot' g'.r F' N' U' g'.nq (own c) T' g'.H g'.E)
    (e1 : st'.seats.length = n) (e2 : st'.pls.length = n) (e3 : st'.ws.length = st.ws.length) (hs : stt st'.seats = s') (hp : fS st'.pls = sp') (hn : fN st'.pls = nd') (ho : fO st'.pls = ot') (hF : gF st'.ws = F') (hN : gN st'.ws = N') (hU : gU st'.ws = U') (hT : Mem.get st'.ws 0 = T')
    (rr : ∀ t, t < n → (stt st'.seats t = 0 → fR st'.pls t = 0) ∧ (stt st'.seats t = 2 → fR st'.pls t = 0) ∧ (stt st'.seats t = 1 → fS st'.pls t = 0 → 0 ≤ fR st'.pls t ∧ fR st'.pls t < c)) : I n c st' g' := by
  subst hs hp hn ho hF hN hU hT
  exact ⟨e1, e2, e3.trans f.wl, f.c1, h, rr⟩
theorem rest_set {l : List P} {u : Nat} (hu : u < l.length) (y : P) : rest (l.set u y) u = l.set u ⟨0, 0, y.n, 0⟩ := by
  unfold rest
  rw [pl_set _ _ hu, if_pos rfl, List.set_set]
/-- What a step of a context does. -/
inductive Wy where
  | idle | find | on | refused | claim | fresh | empty | queue0 | queue1 | link | granted | late | wait | gone | look1 | spin | look2 | stay | leave | hand | over | skip | done
def wayDid : Wy → Did
  | .refused => (6, false, false, false)
  | .queue0 => (1, true, false, false)
  | .queue1 => (0, true, false, false)
  | .granted => (1, false, false, false)
  | .gone => (2, false, false, false)
  | .done => (3, false, false, false)
  | _ => (0, false, false, false)
/-- What becomes of the seat. -/
def waySeat (y : Wy) (u : Nat) (l : List (Int × Int)) : List (Int × Int) := match y with
  | .queue0 => l.set u (2, -1)
  | .granted => l.set u (2, -1)
  | .refused => l.set u (0, -1)
  | .gone => l.set u (0, -1)
  | .done => l.set u (0, -1)
  | _ => l
def wayS (y : Wy) (u : Nat) (s : Nat → Int) : Nat → Int := match y with
  | .queue0 => up s u 2
  | .granted => up s u 2
  | .refused => up s u 0
  | .gone => up s u 0
  | .done => up s u 0
  | _ => s
def wayP (y : Wy) (u : Nat) (f : Nat → Int) : Nat → Int := match y with
  | .idle => f
  | .wait => f
  | .find => up f u 1
  | .claim => up f u 2
  | .fresh => up f u 3
  | .empty => up f u 4
  | .queue1 => up f u 5
  | .link => up f u 6
  | .late => up f u 7
  | .look1 => up f u 1
  | .spin => up f u 2
  | .look2 => up f u 3
  | .stay => up f u 2
  | .leave => up f u 5
  | .hand => up f u 5
  | .over => up f u 4
  | _ => up f u 0
def wayN (y : Wy) (u c : Nat) (pl : List P) : Nat → Int := match y with
  | .find => up (fN pl) u ((u : Int) * c + fR pl u + 1)
  | .on => up (fN pl) u ((u : Int) * c + fR pl u + 1)
  | .refused => up (fN pl) u ((u : Int) * c + fR pl u + 1)
  | .skip => up (fN pl) u (fO pl u)
  | _ => fN pl
def wayOn (c : Nat) (u : Nat) (now : Int) (st st' : St) (g g' : G) : Wy → Prop
  | .idle => (stt st.seats u = 0 ∨ stt st.seats u = 2) ∧ st' = st
  | .find => stt st.seats u = 1 ∧ fS st.pls u = 0
  | .on => stt st.seats u = 1 ∧ fS st.pls u = 0 ∧ gU st.ws ((u : Int) * c + fR st.pls u + 1) ≠ 0 ∧ fR st.pls u + 1 ≠ c ∧ fR st'.pls u = fR st.pls u + 1
  | .refused => stt st.seats u = 1 ∧ fS st.pls u = 0 ∧ gU st.ws ((u : Int) * c + fR st.pls u + 1) ≠ 0
  | .claim => stt st.seats u = 1 ∧ fS st.pls u = 1
  | .fresh => stt st.seats u = 1 ∧ fS st.pls u = 2
  | .empty => stt st.seats u = 1 ∧ fS st.pls u = 3
  | .queue0 => stt st.seats u = 1 ∧ fS st.pls u = 4 ∧ g.H = g.E ∧ g'.E = g.E + 1
  | .queue1 => stt st.seats u = 1 ∧ fS st.pls u = 4 ∧ g'.E = g.E + 1
  | .link => stt st.seats u = 1 ∧ fS st.pls u = 5
  | .granted => stt st.seats u = 1 ∧ (fS st.pls u = 6 ∨ fS st.pls u = 7) ∧ gF st.ws (fN st.pls u) ≠ 0
  | .late => stt st.seats u = 1 ∧ fS st.pls u = 6 ∧ lateB st.seats u now = true
  | .wait => stt st.seats u = 1 ∧ fS st.pls u = 6 ∧ gF st.ws (fN st.pls u) = 0 ∧ lateB st.seats u now = false ∧ st'.ws = st.ws ∧ st'.pls = st.pls
  | .gone => stt st.seats u = 1 ∧ fS st.pls u = 7
  | .look1 => stt st.seats u = 3 ∧ fS st.pls u = 0
  | .spin => stt st.seats u = 3 ∧ fS st.pls u = 2 ∧ gN st.ws (fN st.pls u) = 0 ∧ st'.ws = st.ws ∧ fN st'.pls = fN st.pls
  | .look2 => stt st.seats u = 3 ∧ (fS st.pls u = 0 ∨ fS st.pls u = 2)
  | .stay => stt st.seats u = 3 ∧ fS st.pls u = 1
  | .leave => stt st.seats u = 3 ∧ fS st.pls u = 1 ∧ g.H < g'.H ∧ g'.H ≤ g'.E
  | .hand => stt st.seats u = 3 ∧ fS st.pls u = 3 ∧ g.H < g'.H ∧ g'.H ≤ g'.E
  | .over => stt st.seats u = 3 ∧ fS st.pls u = 3 ∧ gF st.ws (fO st.pls u) ≠ 0
  | .skip => stt st.seats u = 3 ∧ fS st.pls u = 4 ∧ g.H < g'.H ∧ g'.H ≤ g'.E
  | .done => stt st.seats u = 3 ∧ fS st.pls u = 5
def wayE (y : Wy) (g g' : G) : Prop := match y with
  | .queue0 => g'.H = g.H
  | .queue1 => g'.H = g.H
  | .leave => g'.E = g.E
  | .hand => g'.E = g.E
  | .skip => g'.E = g.E
  | _ => g'.E = g.E ∧ g'.H = g.H
/-- Behind a way: seats, steps, ranks. -/
structure Went (c : Nat) (st : St) (g : G) (u : Nat) (now : Int) (st' : St) (g' : G) (y : Wy) : Prop where
  se : st'.seats = waySeat y u st.seats
  s : stt st'.seats = wayS y u (stt st.seats)
  sp : fS st'.pls = wayP y u (fS st.pls)
  nd : fN st'.pls = wayN y u c st.pls
  ro : ∀ v, v ≠ u → fR st'.pls v = fR st.pls v
  rk : g'.r = match y with | .queue1 => up g.r u g.E | _ => g.r
  he : wayE y g g'
  on : wayOn c u now st st' g g' y
/-- Each step goes one of these ways. -/
theorem stepW {n c : Nat} {st : St} {g : G} (f : I n c st g) (u : Nat) (hu : u < n) (now : Int) : ∃ st' g' y, Abort.step n 0 c st u u now = (wayDid y, st') ∧ I n c st' g' ∧ Went c st g u now st' g' y := by
  have hpl : u < st.pls.length := by rw [f.pl]; exact hu
  have hsl : u < st.seats.length := by rw [f.sl]; exact hu
  have hi := f.aq
  have rg := hi.rg u hu
  have hnm : (st.pls.getD u p0).n ≤ ((n * c : Nat) : Int) := hi.nm u hu
  have hrr := f.rr u hu
  have hl := wlen f.wl
  have rrN : ∀ (l : List P) (y : P), l = st.pls.set u y → (stt st.seats u = 1 → y.s = 0 → 0 ≤ y.r ∧ y.r < c) → (stt st.seats u = 1 ∨ stt st.seats u = 3) → ∀ t, t < n → (stt st.seats t = 0 → fR l t = 0) ∧ (stt st.seats t = 2 → fR l t = 0) ∧ (stt st.seats t = 1 → fS l t = 0 → 0 ≤ fR l t ∧ fR l t < c) := fun l y e hy h13 t ht => by
    obtain ⟨p1, p2, _, _⟩ := fset st.pls u hpl y
    rw [e, p1, p2]
    by_cases e2 : t = u
    · subst e2; rw [up_eq, up_eq]
      exact ⟨fun z => by omega, fun z => by omega, hy⟩
    · rw [up_ne _ _ e2, up_ne _ _ e2]; exact f.rr t ht
  have rrE : ∀ (l : List P) (z : Int) (y : P), l = st.pls.set u y → y.r = 0 → (z = 0 ∨ z = 2) → ∀ t, t < n → (stt (st.seats.set u (z, -1)) t = 0 → fR l t = 0) ∧ (stt (st.seats.set u (z, -1)) t = 2 → fR l t = 0) ∧ (stt (st.seats.set u (z, -1)) t = 1 → fS l t = 0 → 0 ≤ fR l t ∧ fR l t < c) := fun l z y e hy hz t ht => by
    obtain ⟨p1, p2, _, _⟩ := fset st.pls u hpl y
    rw [e, p1, p2, stt_up _ _ hsl]
    by_cases e2 : t = u
    · subst e2; rw [up_eq, up_eq, up_eq]
      exact ⟨fun _ => hy, fun _ => hy, fun q => by omega⟩
    · rw [up_ne _ _ e2, up_ne _ _ e2, up_ne _ _ e2]; exact f.rr t ht
  rcases (show stt st.seats u = 0 ∨ stt st.seats u = 2 ∨ stt st.seats u = 1 ∨ stt st.seats u = 3 by omega) with h0 | h0 | h0 | h0
  · exact ⟨st, g, .idle, step_idle (by rw [state_nat]; omega) (by rw [state_nat]; omega) _ _, f, rfl, rfl, rfl, rfl, fun _ _ => rfl, rfl, ⟨rfl, rfl⟩, .inl h0, rfl⟩
  · exact ⟨st, g, .idle, step_idle (by rw [state_nat]; omega) (by rw [state_nat]; omega) _ _, f, rfl, rfl, rfl, rfl, fun _ _ => rfl, rfl, ⟨rfl, rfl⟩, .inr h0, rfl⟩
  · have k1 := hi.s1 u hu h0
    have k1 : 0 ≤ (st.pls.getD u p0).s ∧ (st.pls.getD u p0).s ≤ 7 := k1
    rcases (show (st.pls.getD u p0).s = 0 ∨ (st.pls.getD u p0).s = 1 ∨ (st.pls.getD u p0).s = 2 ∨ (st.pls.getD u p0).s = 3 ∨ (st.pls.getD u p0).s = 4 ∨ (st.pls.getD u p0).s = 5 ∨ (st.pls.getD u p0).s = 6 ∨ (st.pls.getD u p0).s = 7 by omega) with e | e | e | e | e | e | e | e
    · have hr : 0 ≤ (st.pls.getD u p0).r ∧ (st.pls.getD u p0).r < c := hrr.2.2 h0 e
      obtain ⟨n1, n2, n3⟩ := node_rng hu (st.pls.getD u p0).r hr.1 hr.2
      have hg : gU st.ws ((u : Int) * c + (st.pls.getD u p0).r + 1) = Mem.get st.ws (stA 0 ((u : Int) * c + (st.pls.getD u p0).r + 1) + 2) := if_pos n1
      by_cases hU : Mem.get st.ws (stA 0 ((u : Int) * c + (st.pls.getD u p0).r + 1) + 2) = 0
      · have E : lockS n 0 c st u u (lateB st.seats u now) = ((0, false, false, false), ⟨st.seats, (st.pls.set u ⟨1, (st.pls.getD u p0).r + 1, ((u : Int) * c + (st.pls.getD u p0).r + 1), (st.pls.getD u p0).o⟩), st.ws, Cache.after n st.ws.length st.ts u (stA 0 ((u : Int) * c + (st.pls.getD u p0).r + 1) + 2) false⟩) := by
          unfold lockS; dsimp only; rw [if_pos e, rd_in hu, if_pos hU]
        obtain ⟨p1, p2, p3, p4⟩ := fset st.pls u hpl ⟨1, (st.pls.getD u p0).r + 1, ((u : Int) * c + (st.pls.getD u p0).r + 1), (st.pls.getD u p0).o⟩
        have q4 := p4.trans (up_self _ _ _ rfl)
        exact ⟨_, g, .find, none_ h0 now rfl E rfl, I.of f _ g (hi.find u hu h0 e ((u : Int) * c + (st.pls.getD u p0).r + 1) n3 n1 (hg.trans hU) n2) (by simpa using f.sl) (by simpa using f.pl) (rfl) (rfl) (p1) (p3) (q4) (rfl) (rfl) (rfl) (rfl) (rrN _ _ rfl (fun _ z => by simp at z) (.inl h0)), rfl, rfl, p1, p3, fun v hv => (congrFun p2 v).trans (up_ne _ _ hv), rfl, ⟨rfl, rfl⟩, ⟨h0, e⟩⟩
      · by_cases h9 : (st.pls.getD u p0).r + 1 = c
        · have E : lockS n 0 c st u u (lateB st.seats u now) = ((6, false, false, false), ⟨st.seats, (st.pls.set u ⟨0, (st.pls.getD u p0).r + 1, ((u : Int) * c + (st.pls.getD u p0).r + 1), (st.pls.getD u p0).o⟩), st.ws, Cache.after n st.ws.length st.ts u (stA 0 ((u : Int) * c + (st.pls.getD u p0).r + 1) + 2) false⟩) := by
            unfold lockS; dsimp only; rw [if_pos e, rd_in hu, if_neg hU, if_pos h9]
          obtain ⟨p1, p2, p3, p4⟩ := fset st.pls u hpl ⟨0, 0, ((u : Int) * c + (st.pls.getD u p0).r + 1), 0⟩
          exact ⟨_, g, .refused, got_ h0 now 0 (.inr (.inr ⟨rfl, rfl⟩)) E (st.pls.set u ⟨0, 0, ((u : Int) * c + (st.pls.getD u p0).r + 1), 0⟩) (rest_set hpl _), I.of f _ g ((hi.refused u hu h0 e ((u : Int) * c + (st.pls.getD u p0).r + 1) n2).clear u hu (.inl (up_eq _ _ _)) 0) (by simpa using f.sl) (by simpa using f.pl) (rfl) (stt_up _ _ hsl _ _) (p1) (p3) (p4) (rfl) (rfl) (rfl) (rfl) (rrE _ 0 _ rfl rfl (by decide)), rfl, stt_up _ _ hsl _ _, p1, p3, fun v hv => (congrFun p2 v).trans (up_ne _ _ hv), rfl, ⟨rfl, rfl⟩, ⟨h0, e, fun z => hU (hg.symm.trans z)⟩⟩
        · have E : lockS n 0 c st u u (lateB st.seats u now) = ((0, false, false, false), ⟨st.seats, (st.pls.set u ⟨0, (st.pls.getD u p0).r + 1, ((u : Int) * c + (st.pls.getD u p0).r + 1), (st.pls.getD u p0).o⟩), st.ws, Cache.after n st.ws.length st.ts u (stA 0 ((u : Int) * c + (st.pls.getD u p0).r + 1) + 2) false⟩) := by
            unfold lockS; dsimp only; rw [if_pos e, rd_in hu, if_neg hU, if_neg h9]
          obtain ⟨p1, p2, p3, p4⟩ := fset st.pls u hpl ⟨0, (st.pls.getD u p0).r + 1, ((u : Int) * c + (st.pls.getD u p0).r + 1), (st.pls.getD u p0).o⟩
          have q4 := p4.trans (up_self _ _ _ rfl)
          exact ⟨_, g, .on, none_ h0 now rfl E rfl, I.of f _ g (hi.on u hu h0 e ((u : Int) * c + (st.pls.getD u p0).r + 1) n2) (by simpa using f.sl) (by simpa using f.pl) (rfl) (rfl) (p1.trans (up_self _ _ _ e)) (p3) (q4) (rfl) (rfl) (rfl) (rfl) (rrN _ _ rfl (fun _ _ => (by have := hr.1; have := hr.2; constructor <;> (dsimp only; omega))) (.inl h0)), rfl, rfl, p1, p3, fun v hv => (congrFun p2 v).trans (up_ne _ _ hv), rfl, ⟨rfl, rfl⟩, ⟨h0, e, fun z => hU (hg.symm.trans z), h9, congrFun p2 u |>.trans (up_eq _ _ _)⟩⟩
    · have hc := hi.cl u hu h0 (show 1 ≤ (st.pls.getD u p0).s by omega) (show (st.pls.getD u p0).s ≤ 4 by omega)
      have n1 : 1 ≤ (st.pls.getD u p0).n := hc.2.1
      have E : lockS n 0 c st u u (lateB st.seats u now) = ((0, false, false, false), ⟨st.seats, (st.pls.set u { (st.pls.getD u p0) with s := 2 }), (Mem.put st.ws (stA 0 (st.pls.getD u p0).n + 2) 1), Cache.after n st.ws.length st.ts u (stA 0 (st.pls.getD u p0).n + 2) true⟩) := by
        unfold lockS; dsimp only; rw [if_neg (by omega), if_pos e, wr_in hu]
      obtain ⟨p1, p2, p3, p4⟩ := fset st.pls u hpl { (st.pls.getD u p0) with s := 2 }
      have q3 := p3.trans (up_self _ _ _ rfl)
      have q4 := p4.trans (up_self _ _ _ rfl)
      exact ⟨_, g, .claim, none_ h0 now rfl E rfl, I.of f _ g (hi.claim u hu h0 e) (by simpa using f.sl) (by simpa using f.pl) (Mem.put_len _ _ _) (rfl) (p1) (q3) (q4) (F_ou f.wl _ _ n1 hnm) (N_ou f.wl _ _ n1 hnm) (U_ou f.wl _ _ n1 hnm) (T_ou f.wl _ _ n1 hnm) (rrN _ _ rfl (fun _ z => by simp at z) (.inl h0)), rfl, rfl, p1, q3, fun v hv => (congrFun p2 v).trans (up_ne _ _ hv), rfl, ⟨rfl, rfl⟩, ⟨h0, e⟩⟩
    · have hc := hi.cl u hu h0 (show 1 ≤ (st.pls.getD u p0).s by omega) (show (st.pls.getD u p0).s ≤ 4 by omega)
      have n1 : 1 ≤ (st.pls.getD u p0).n := hc.2.1
      have E : lockS n 0 c st u u (lateB st.seats u now) = ((0, false, false, false), ⟨st.seats, (st.pls.set u { (st.pls.getD u p0) with s := 3 }), (Mem.put st.ws (stA 0 (st.pls.getD u p0).n) 0), Cache.after n st.ws.length st.ts u (stA 0 (st.pls.getD u p0).n) true⟩) := by
        unfold lockS; dsimp only; rw [if_neg (by omega), if_neg (by omega), if_pos e, wr_in hu]
      obtain ⟨p1, p2, p3, p4⟩ := fset st.pls u hpl { (st.pls.getD u p0) with s := 3 }
      have q3 := p3.trans (up_self _ _ _ rfl)
      have q4 := p4.trans (up_self _ _ _ rfl)
      exact ⟨_, g, .fresh, none_ h0 now rfl E rfl, I.of f _ g (hi.fresh u hu h0 e) (by simpa using f.sl) (by simpa using f.pl) (Mem.put_len _ _ _) (rfl) (p1) (q3) (q4) (F_st f.wl _ _ n1 hnm) (N_st f.wl _ _ n1 hnm) (U_st f.wl _ _ n1 hnm) (T_st f.wl _ _ n1 hnm) (rrN _ _ rfl (fun _ z => by simp at z) (.inl h0)), rfl, rfl, p1, q3, fun v hv => (congrFun p2 v).trans (up_ne _ _ hv), rfl, ⟨rfl, rfl⟩, ⟨h0, e⟩⟩
    · have hc := hi.cl u hu h0 (show 1 ≤ (st.pls.getD u p0).s by omega) (show (st.pls.getD u p0).s ≤ 4 by omega)
      have n1 : 1 ≤ (st.pls.getD u p0).n := hc.2.1
      have E : lockS n 0 c st u u (lateB st.seats u now) = ((0, false, false, false), ⟨st.seats, (st.pls.set u { (st.pls.getD u p0) with s := 4 }), (Mem.put st.ws (stA 0 (st.pls.getD u p0).n + 1) 0), Cache.after n st.ws.length st.ts u (stA 0 (st.pls.getD u p0).n + 1) true⟩) := by
        unfold lockS; dsimp only; rw [if_neg (by omega), if_neg (by omega), if_neg (by omega), if_pos e, wr_in hu]
      obtain ⟨p1, p2, p3, p4⟩ := fset st.pls u hpl { (st.pls.getD u p0) with s := 4 }
      have q3 := p3.trans (up_self _ _ _ rfl)
      have q4 := p4.trans (up_self _ _ _ rfl)
      exact ⟨_, g, .empty, none_ h0 now rfl E rfl, I.of f _ g (hi.empty u hu h0 e) (by simpa using f.sl) (by simpa using f.pl) (Mem.put_len _ _ _) (rfl) (p1) (q3) (q4) (F_nx f.wl _ _ n1 hnm) (N_nx f.wl _ _ n1 hnm) (U_nx f.wl _ _ n1 hnm) (T_nx f.wl _ _ n1 hnm) (rrN _ _ rfl (fun _ z => by simp at z) (.inl h0)), rfl, rfl, p1, q3, fun v hv => (congrFun p2 v).trans (up_ne _ _ hv), rfl, ⟨rfl, rfl⟩, ⟨h0, e⟩⟩
    · have hc := hi.cl u hu h0 (show 1 ≤ (st.pls.getD u p0).s by omega) (show (st.pls.getD u p0).s ≤ 4 by omega)
      have n1 : 1 ≤ (st.pls.getD u p0).n := hc.2.1
      by_cases hT : Mem.get st.ws 0 = 0
      · have hHE : g.H = g.E := by
          have := hi.hE
          by_cases z : g.H < g.E
          · have a := hi.t1 z
            have b := hi.pos (g.E - 1) (by omega) (by omega)
            omega
          · omega
        have E : lockS n 0 c st u u (lateB st.seats u now) = ((1, true, false, false), ⟨st.seats, (st.pls.set u { (st.pls.getD u p0) with o := Mem.get st.ws 0 }), (Mem.put st.ws 0 (st.pls.getD u p0).n), Cache.after n st.ws.length st.ts u (0) true⟩) := by
          unfold lockS; dsimp only; rw [if_neg (by omega), if_neg (by omega), if_neg (by omega), if_neg (by omega), if_pos e, rd_in hu, if_pos hT, wr_in hu]
        obtain ⟨p1, p2, p3, p4⟩ := fset st.pls u hpl ⟨0, 0, (st.pls.getD u p0).n, 0⟩
        have q3 := p3.trans (up_self _ _ _ rfl)
        exact ⟨_, ⟨g.r, upI g.nq g.E (st.pls.getD u p0).n, g.H, g.E + 1⟩, .queue0, got_ h0 now 2 (.inl ⟨rfl, rfl⟩) E (st.pls.set u ⟨0, 0, (st.pls.getD u p0).n, 0⟩) (rest_set hpl _), I.of f _ ⟨g.r, upI g.nq g.E (st.pls.getD u p0).n, g.H, g.E + 1⟩ ((hi.queue0 u hu h0 e hT).clear u hu (.inr (up_eq _ _ _)) 0) (by simpa using f.sl) (by simpa using f.pl) (Mem.put_len _ _ _) (stt_up _ _ hsl _ _) (p1) (q3) (p4) (F_tl f.wl _) (N_tl f.wl _) (U_tl f.wl _) (T_tl f.wl _) (rrE _ 2 _ rfl rfl (by decide)), rfl, stt_up _ _ hsl _ _, p1, q3, fun v hv => (congrFun p2 v).trans (up_ne _ _ hv), rfl, rfl, ⟨h0, e, hHE, rfl⟩⟩
      · have E : lockS n 0 c st u u (lateB st.seats u now) = ((0, true, false, false), ⟨st.seats, (st.pls.set u { (st.pls.getD u p0) with o := Mem.get st.ws 0, s := 5 }), (Mem.put st.ws 0 (st.pls.getD u p0).n), Cache.after n st.ws.length st.ts u (0) true⟩) := by
          unfold lockS; dsimp only; rw [if_neg (by omega), if_neg (by omega), if_neg (by omega), if_neg (by omega), if_pos e, rd_in hu, if_neg hT, wr_in hu]
        obtain ⟨p1, p2, p3, p4⟩ := fset st.pls u hpl { (st.pls.getD u p0) with o := Mem.get st.ws 0, s := 5 }
        have q3 := p3.trans (up_self _ _ _ rfl)
        exact ⟨_, ⟨up g.r u g.E, upI g.nq g.E (st.pls.getD u p0).n, g.H, g.E + 1⟩, .queue1, none_ h0 now rfl E rfl, I.of f _ ⟨up g.r u g.E, upI g.nq g.E (st.pls.getD u p0).n, g.H, g.E + 1⟩ (hi.queue1 u hu h0 e hT) (by simpa using f.sl) (by simpa using f.pl) (Mem.put_len _ _ _) (rfl) (p1) (q3) (p4) (F_tl f.wl _) (N_tl f.wl _) (U_tl f.wl _) (T_tl f.wl _) (rrN _ _ rfl (fun _ z => by simp at z) (.inl h0)), rfl, rfl, p1, q3, fun v hv => (congrFun p2 v).trans (up_ne _ _ hv), rfl, rfl, ⟨h0, e, rfl⟩⟩
    · have h5 := hi.w5 u hu h0 e
      have hw := hi.wt u hu h0 (show 5 ≤ (st.pls.getD u p0).s by omega)
      have n1 : 1 ≤ (st.pls.getD u p0).o := by have a := hi.pos (g.r u - 1) (by omega) (by omega); have b : (st.pls.getD u p0).o = _ := h5.2.1; omega
      have n2 : (st.pls.getD u p0).o ≤ ((n * c : Nat) : Int) := by have a := hi.pm (g.r u - 1) (by omega) (by omega); have b : (st.pls.getD u p0).o = _ := h5.2.1; omega
      have E : lockS n 0 c st u u (lateB st.seats u now) = ((0, false, false, false), ⟨st.seats, (st.pls.set u { (st.pls.getD u p0) with s := 6 }), (Mem.put st.ws (stA 0 (st.pls.getD u p0).o + 1) (st.pls.getD u p0).n), Cache.after n st.ws.length st.ts u (stA 0 (st.pls.getD u p0).o + 1) true⟩) := by
        unfold lockS; dsimp only; rw [if_neg (by omega), if_neg (by omega), if_neg (by omega), if_neg (by omega), if_neg (by omega), if_pos e, wr_in hu]
      obtain ⟨p1, p2, p3, p4⟩ := fset st.pls u hpl { (st.pls.getD u p0) with s := 6 }
      have q3 := p3.trans (up_self _ _ _ rfl)
      have q4 := p4.trans (up_self _ _ _ rfl)
      exact ⟨_, g, .link, none_ h0 now rfl E rfl, I.of f _ g (hi.link u hu h0 e) (by simpa using f.sl) (by simpa using f.pl) (Mem.put_len _ _ _) (rfl) (p1) (q3) (q4) (F_nx f.wl _ _ n1 n2) (N_nx f.wl _ _ n1 n2) (U_nx f.wl _ _ n1 n2) (T_nx f.wl _ _ n1 n2) (rrN _ _ rfl (fun _ z => by simp at z) (.inl h0)), rfl, rfl, p1, q3, fun v hv => (congrFun p2 v).trans (up_ne _ _ hv), rfl, ⟨rfl, rfl⟩, ⟨h0, e⟩⟩
    · have hw := hi.wt u hu h0 (show 5 ≤ (st.pls.getD u p0).s by omega)
      have n1 : 1 ≤ (st.pls.getD u p0).n := by have a := hi.pos (g.r u) (by omega) (by omega); have b : _ = (st.pls.getD u p0).n := hw.2.2.1; omega
      have hg : gF st.ws (st.pls.getD u p0).n = Mem.get st.ws (stA 0 (st.pls.getD u p0).n) := if_pos n1
      by_cases hF : Mem.get st.ws (stA 0 (st.pls.getD u p0).n) = 0
      · cases hlt : lateB st.seats u now with
        | false =>
          have E : lockS n 0 c st u u (lateB st.seats u now) = ((0, false, false, false), { st with ts := Cache.after n st.ws.length st.ts u (stA 0 (st.pls.getD u p0).n) false }) := by
            unfold lockS; dsimp only; rw [if_neg (by omega), if_neg (by omega), if_neg (by omega), if_neg (by omega), if_neg (by omega), if_neg (by omega), if_pos e, rd_in hu, if_neg (fun z => z hF), if_pos hlt]
          exact ⟨_, g, .wait, none_ h0 now rfl E rfl, f.ts _, rfl, rfl, rfl, rfl, fun _ _ => rfl, rfl, ⟨rfl, rfl⟩, h0, e, hg.trans hF, hlt, rfl, rfl⟩
        | true =>
          have E : lockS n 0 c st u u (lateB st.seats u now) = ((0, false, false, false), ⟨st.seats, (st.pls.set u { (st.pls.getD u p0) with s := 7 }), st.ws, Cache.after n st.ws.length st.ts u (stA 0 (st.pls.getD u p0).n) false⟩) := by
            unfold lockS; dsimp only; rw [if_neg (by omega), if_neg (by omega), if_neg (by omega), if_neg (by omega), if_neg (by omega), if_neg (by omega), if_pos e, rd_in hu, if_neg (fun z => z hF), if_neg (by rw [hlt]; decide)]
          obtain ⟨p1, p2, p3, p4⟩ := fset st.pls u hpl { (st.pls.getD u p0) with s := 7 }
          have q3 := p3.trans (up_self _ _ _ rfl)
          have q4 := p4.trans (up_self _ _ _ rfl)
          exact ⟨_, g, .late, none_ h0 now rfl E rfl, I.of f _ g (hi.late u hu h0 e) (by simpa using f.sl) (by simpa using f.pl) (rfl) (rfl) (p1) (q3) (q4) (rfl) (rfl) (rfl) (rfl) (rrN _ _ rfl (fun _ z => by simp at z) (.inl h0)), rfl, rfl, p1, q3, fun v hv => (congrFun p2 v).trans (up_ne _ _ hv), rfl, ⟨rfl, rfl⟩, ⟨h0, e, hlt⟩⟩
      · have E : lockS n 0 c st u u (lateB st.seats u now) = ((1, false, false, false), ⟨st.seats, st.pls, st.ws, Cache.after n st.ws.length st.ts u (stA 0 (st.pls.getD u p0).n) false⟩) := by
          unfold lockS; dsimp only; rw [if_neg (by omega), if_neg (by omega), if_neg (by omega), if_neg (by omega), if_neg (by omega), if_neg (by omega), if_pos e, rd_in hu, if_pos hF]
        obtain ⟨p1, p2, p3, p4⟩ := fset st.pls u hpl ⟨0, 0, (st.pls.getD u p0).n, 0⟩
        have q3 := p3.trans (up_self _ _ _ rfl)
        exact ⟨_, g, .granted, got_ h0 now 2 (.inl ⟨rfl, rfl⟩) E (st.pls.set u ⟨0, 0, (st.pls.getD u p0).n, 0⟩) rfl, I.of f _ g ((hi.granted u hu h0 (.inl e) (fun z => hF (hg.symm.trans z))).clear u hu (.inr (up_eq _ _ _)) 0) (by simpa using f.sl) (by simpa using f.pl) (rfl) (stt_up _ _ hsl _ _) (p1) (q3) (p4) (rfl) (rfl) (rfl) (rfl) (rrE _ 2 _ rfl rfl (by decide)), rfl, stt_up _ _ hsl _ _, p1, q3, fun v hv => (congrFun p2 v).trans (up_ne _ _ hv), rfl, ⟨rfl, rfl⟩, ⟨h0, .inl e, fun z => hF (hg.symm.trans z)⟩⟩
    · have hw := hi.wt u hu h0 (show 5 ≤ (st.pls.getD u p0).s by omega)
      have n1 : 1 ≤ (st.pls.getD u p0).n := by have a := hi.pos (g.r u) (by omega) (by omega); have b : _ = (st.pls.getD u p0).n := hw.2.2.1; omega
      have hg : gF st.ws (st.pls.getD u p0).n = Mem.get st.ws (stA 0 (st.pls.getD u p0).n) := if_pos n1
      have hcs := cas_eq (n := n) (u := u) hu st.ws (stA 0 (st.pls.getD u p0).n) 0 (by unfold stA; omega) (by unfold stA; omega)
      by_cases hF : Mem.get st.ws (stA 0 (st.pls.getD u p0).n) = 0
      · have E : lockS n 0 c st u u (lateB st.seats u now) = ((2, false, false, false), ⟨st.seats, st.pls, (Mem.put st.ws (stA 0 (st.pls.getD u p0).n) 2), Cache.after n st.ws.length st.ts u (stA 0 (st.pls.getD u p0).n) true⟩) := by
          unfold lockS; dsimp only; rw [if_neg (by omega), if_neg (by omega), if_neg (by omega), if_neg (by omega), if_neg (by omega), if_neg (by omega), if_neg (by omega), if_pos (by rw [hcs]; simpa using hF)]
        obtain ⟨p1, p2, p3, p4⟩ := fset st.pls u hpl ⟨0, 0, (st.pls.getD u p0).n, 0⟩
        have q3 := p3.trans (up_self _ _ _ rfl)
        exact ⟨_, g, .gone, got_ h0 now 0 (.inr (.inl ⟨rfl, rfl⟩)) E (st.pls.set u ⟨0, 0, (st.pls.getD u p0).n, 0⟩) rfl, I.of f _ g ((hi.gone u hu h0 e (hg.trans hF)).clear u hu (.inl (up_eq _ _ _)) 0) (by simpa using f.sl) (by simpa using f.pl) (Mem.put_len _ _ _) (stt_up _ _ hsl _ _) (p1) (q3) (p4) (F_st f.wl _ _ n1 hnm) (N_st f.wl _ _ n1 hnm) (U_st f.wl _ _ n1 hnm) (T_st f.wl _ _ n1 hnm) (rrE _ 0 _ rfl rfl (by decide)), rfl, stt_up _ _ hsl _ _, p1, q3, fun v hv => (congrFun p2 v).trans (up_ne _ _ hv), rfl, ⟨rfl, rfl⟩, ⟨h0, e⟩⟩
      · have E : lockS n 0 c st u u (lateB st.seats u now) = ((1, false, false, false), ⟨st.seats, st.pls, st.ws, Cache.after n st.ws.length st.ts u (stA 0 (st.pls.getD u p0).n) true⟩) := by
          unfold lockS; dsimp only; rw [if_neg (by omega), if_neg (by omega), if_neg (by omega), if_neg (by omega), if_neg (by omega), if_neg (by omega), if_neg (by omega), if_neg (by rw [hcs]; simpa using hF)]
        obtain ⟨p1, p2, p3, p4⟩ := fset st.pls u hpl ⟨0, 0, (st.pls.getD u p0).n, 0⟩
        have q3 := p3.trans (up_self _ _ _ rfl)
        exact ⟨_, g, .granted, got_ h0 now 2 (.inl ⟨rfl, rfl⟩) E (st.pls.set u ⟨0, 0, (st.pls.getD u p0).n, 0⟩) rfl, I.of f _ g ((hi.granted u hu h0 (.inr e) (fun z => hF (hg.symm.trans z))).clear u hu (.inr (up_eq _ _ _)) 0) (by simpa using f.sl) (by simpa using f.pl) (rfl) (stt_up _ _ hsl _ _) (p1) (q3) (p4) (rfl) (rfl) (rfl) (rfl) (rrE _ 2 _ rfl rfl (by decide)), rfl, stt_up _ _ hsl _ _, p1, q3, fun v hv => (congrFun p2 v).trans (up_ne _ _ hv), rfl, ⟨rfl, rfl⟩, ⟨h0, .inr e, fun z => hF (hg.symm.trans z)⟩⟩
  · have k3 : 0 ≤ (st.pls.getD u p0).s ∧ (st.pls.getD u p0).s ≤ 5 := hi.s3 u hu h0
    have kd : (st.pls.getD u p0).s ≤ 4 → Kd (stt st.seats) (fS st.pls) u := fun z => .inr ⟨h0, z⟩
    have n1 : (st.pls.getD u p0).s ≤ 4 → 1 ≤ (st.pls.getD u p0).n := fun z => by
      have a := hi.kh u hu (kd z)
      have b := hi.pos g.H (by omega) (by omega)
      have d : (st.pls.getD u p0).n = _ := a.2
      omega
    rcases (show (st.pls.getD u p0).s = 0 ∨ (st.pls.getD u p0).s = 2 ∨ (st.pls.getD u p0).s = 1 ∨ (st.pls.getD u p0).s = 3 ∨ (st.pls.getD u p0).s = 4 ∨ (st.pls.getD u p0).s = 5 by omega) with e | e | e | e | e | e
    · have m1 := n1 (by omega)
      have hg : gN st.ws (st.pls.getD u p0).n = Mem.get st.ws (stA 0 (st.pls.getD u p0).n + 1) := if_pos m1
      by_cases hN : Mem.get st.ws (stA 0 (st.pls.getD u p0).n + 1) = 0
      · have E : unlS n 0 st u u = (0, ⟨st.seats, (st.pls.set u { (st.pls.getD u p0) with o := 0, s := 1 }), st.ws, Cache.after n st.ws.length st.ts u (stA 0 (st.pls.getD u p0).n + 1) false⟩) := by
          unfold unlS; dsimp only; rw [if_pos (by omega), rd_in hu, if_neg (fun z => z hN), hN, if_pos (by omega)]
        obtain ⟨p1, p2, p3, p4⟩ := fset st.pls u hpl { (st.pls.getD u p0) with o := 0, s := 1 }
        have q3 := p3.trans (up_self _ _ _ rfl)
        exact ⟨_, g, .look1, unone_ h0 now E rfl, I.of f _ g (hi.look1 u hu h0 (.inl e) 1 (.inl rfl)) (by simpa using f.sl) (by simpa using f.pl) (rfl) (rfl) (p1) (q3) (p4) (rfl) (rfl) (rfl) (rfl) (rrN _ _ rfl (fun z => by omega) (.inr h0)), rfl, rfl, p1, q3, fun v hv => (congrFun p2 v).trans (up_ne _ _ hv), rfl, ⟨rfl, rfl⟩, ⟨h0, e⟩⟩
      · have E : unlS n 0 st u u = (0, ⟨st.seats, (st.pls.set u { (st.pls.getD u p0) with o := Mem.get st.ws (stA 0 (st.pls.getD u p0).n + 1), s := 3 }), st.ws, Cache.after n st.ws.length st.ts u (stA 0 (st.pls.getD u p0).n + 1) false⟩) := by
          unfold unlS; dsimp only; rw [if_pos (by omega), rd_in hu, if_pos hN]
        obtain ⟨p1, p2, p3, p4⟩ := fset st.pls u hpl { (st.pls.getD u p0) with o := Mem.get st.ws (stA 0 (st.pls.getD u p0).n + 1), s := 3 }
        have q3 := p3.trans (up_self _ _ _ rfl)
        exact ⟨_, g, .look2, unone_ h0 now E rfl, I.of f _ g (hi.look2 u hu h0 (.inl e) (fun z => hN (hg.symm.trans z))) (by simpa using f.sl) (by simpa using f.pl) (rfl) (rfl) (p1) (q3) (p4.trans (by rw [← hg])) (rfl) (rfl) (rfl) (rfl) (rrN _ _ rfl (fun z => by omega) (.inr h0)), rfl, rfl, p1, q3, fun v hv => (congrFun p2 v).trans (up_ne _ _ hv), rfl, ⟨rfl, rfl⟩, ⟨h0, .inl e⟩⟩
    · have m1 := n1 (by omega)
      have hg : gN st.ws (st.pls.getD u p0).n = Mem.get st.ws (stA 0 (st.pls.getD u p0).n + 1) := if_pos m1
      by_cases hN : Mem.get st.ws (stA 0 (st.pls.getD u p0).n + 1) = 0
      · have E : unlS n 0 st u u = (0, ⟨st.seats, (st.pls.set u { (st.pls.getD u p0) with o := 0, s := 2 }), st.ws, Cache.after n st.ws.length st.ts u (stA 0 (st.pls.getD u p0).n + 1) false⟩) := by
          unfold unlS; dsimp only; rw [if_pos (by omega), rd_in hu, if_neg (fun z => z hN), hN, if_neg (by omega)]
        obtain ⟨p1, p2, p3, p4⟩ := fset st.pls u hpl { (st.pls.getD u p0) with o := 0, s := 2 }
        have q3 := p3.trans (up_self _ _ _ rfl)
        exact ⟨_, g, .spin, unone_ h0 now E rfl, I.of f _ g (hi.look1 u hu h0 (.inr e) 2 (.inr ⟨rfl, e⟩)) (by simpa using f.sl) (by simpa using f.pl) (rfl) (rfl) (p1) (q3) (p4) (rfl) (rfl) (rfl) (rfl) (rrN _ _ rfl (fun z => by omega) (.inr h0)), rfl, rfl, p1, q3, fun v hv => (congrFun p2 v).trans (up_ne _ _ hv), rfl, ⟨rfl, rfl⟩, ⟨h0, e, hg.trans hN, rfl, q3⟩⟩
      · have E : unlS n 0 st u u = (0, ⟨st.seats, (st.pls.set u { (st.pls.getD u p0) with o := Mem.get st.ws (stA 0 (st.pls.getD u p0).n + 1), s := 3 }), st.ws, Cache.after n st.ws.length st.ts u (stA 0 (st.pls.getD u p0).n + 1) false⟩) := by
          unfold unlS; dsimp only; rw [if_pos (by omega), rd_in hu, if_pos hN]
        obtain ⟨p1, p2, p3, p4⟩ := fset st.pls u hpl { (st.pls.getD u p0) with o := Mem.get st.ws (stA 0 (st.pls.getD u p0).n + 1), s := 3 }
        have q3 := p3.trans (up_self _ _ _ rfl)
        exact ⟨_, g, .look2, unone_ h0 now E rfl, I.of f _ g (hi.look2 u hu h0 (.inr e) (fun z => hN (hg.symm.trans z))) (by simpa using f.sl) (by simpa using f.pl) (rfl) (rfl) (p1) (q3) (p4.trans (by rw [← hg])) (rfl) (rfl) (rfl) (rfl) (rrN _ _ rfl (fun z => by omega) (.inr h0)), rfl, rfl, p1, q3, fun v hv => (congrFun p2 v).trans (up_ne _ _ hv), rfl, ⟨rfl, rfl⟩, ⟨h0, .inr e⟩⟩
    · have hcs := cas_eq (n := n) (u := u) hu st.ws 0 (st.pls.getD u p0).n (by omega) (by omega)
      by_cases hT : Mem.get st.ws 0 = (st.pls.getD u p0).n
      · have hk := (hi.kh u hu (kd (by omega))).1
        have E : unlS n 0 st u u = (0, ⟨st.seats, (st.pls.set u { (st.pls.getD u p0) with s := 5 }), (Mem.put st.ws 0 0), Cache.after n st.ws.length st.ts u (0) true⟩) := by
          unfold unlS; dsimp only; rw [if_neg (by omega), if_pos e, if_pos (by rw [hcs]; simpa using hT)]
        obtain ⟨p1, p2, p3, p4⟩ := fset st.pls u hpl { (st.pls.getD u p0) with s := 5 }
        have q3 := p3.trans (up_self _ _ _ rfl)
        have q4 := p4.trans (up_self _ _ _ rfl)
        exact ⟨_, ⟨g.r, g.nq, g.E, g.E⟩, .leave, unone_ h0 now E rfl, I.of f _ ⟨g.r, g.nq, g.E, g.E⟩ (hi.leave u hu h0 e hT) (by simpa using f.sl) (by simpa using f.pl) (Mem.put_len _ _ _) (rfl) (p1) (q3) (q4) (F_tl f.wl _) (N_tl f.wl _) (U_tl f.wl _) (T_tl f.wl _) (rrN _ _ rfl (fun z => by omega) (.inr h0)), rfl, rfl, p1, q3, fun v hv => (congrFun p2 v).trans (up_ne _ _ hv), rfl, rfl, ⟨h0, e, hk, Int.le_refl _⟩⟩
      · have E : unlS n 0 st u u = (0, ⟨st.seats, (st.pls.set u { (st.pls.getD u p0) with s := 2 }), st.ws, Cache.after n st.ws.length st.ts u (0) true⟩) := by
          unfold unlS; dsimp only; rw [if_neg (by omega), if_pos e, if_neg (by rw [hcs]; simpa using hT)]
        obtain ⟨p1, p2, p3, p4⟩ := fset st.pls u hpl { (st.pls.getD u p0) with s := 2 }
        have q3 := p3.trans (up_self _ _ _ rfl)
        have q4 := p4.trans (up_self _ _ _ rfl)
        exact ⟨_, g, .stay, unone_ h0 now E rfl, I.of f _ g (hi.stay u hu h0 e hT) (by simpa using f.sl) (by simpa using f.pl) (rfl) (rfl) (p1) (q3) (q4) (rfl) (rfl) (rfl) (rfl) (rrN _ _ rfl (fun z => by omega) (.inr h0)), rfl, rfl, p1, q3, fun v hv => (congrFun p2 v).trans (up_ne _ _ hv), rfl, ⟨rfl, rfl⟩, ⟨h0, e⟩⟩
    · have h3 := hi.u3 u hu h0 (.inl e)
      have n1 : 1 ≤ (st.pls.getD u p0).o := by have a := hi.pos (g.H + 1) (by omega) (by omega); have b : (st.pls.getD u p0).o = _ := h3.2.1; omega
      have n2 : (st.pls.getD u p0).o ≤ ((n * c : Nat) : Int) := by have a := hi.pm (g.H + 1) (by omega) (by omega); have b : (st.pls.getD u p0).o = _ := h3.2.1; omega
      have hg : gF st.ws (st.pls.getD u p0).o = Mem.get st.ws (stA 0 (st.pls.getD u p0).o) := if_pos n1
      have hcs := cas_eq (n := n) (u := u) hu st.ws (stA 0 (st.pls.getD u p0).o) 0 (by unfold stA; omega) (by unfold stA; omega)
      by_cases hF : Mem.get st.ws (stA 0 (st.pls.getD u p0).o) = 0
      · have E : unlS n 0 st u u = (0, ⟨st.seats, (st.pls.set u { (st.pls.getD u p0) with s := 5 }), (Mem.put st.ws (stA 0 (st.pls.getD u p0).o) 1), Cache.after n st.ws.length st.ts u (stA 0 (st.pls.getD u p0).o) true⟩) := by
          unfold unlS; dsimp only; rw [if_neg (by omega), if_neg (by omega), if_pos e, if_pos (by rw [hcs]; simpa using hF)]
        obtain ⟨p1, p2, p3, p4⟩ := fset st.pls u hpl { (st.pls.getD u p0) with s := 5 }
        have q3 := p3.trans (up_self _ _ _ rfl)
        have q4 := p4.trans (up_self _ _ _ rfl)
        exact ⟨_, ⟨g.r, g.nq, g.H + 1, g.E⟩, .hand, unone_ h0 now E rfl, I.of f _ ⟨g.r, g.nq, g.H + 1, g.E⟩ (hi.hand u hu h0 e (hg.trans hF)) (by simpa using f.sl) (by simpa using f.pl) (Mem.put_len _ _ _) (rfl) (p1) (q3) (q4) (F_st f.wl _ _ n1 n2) (N_st f.wl _ _ n1 n2) (U_st f.wl _ _ n1 n2) (T_st f.wl _ _ n1 n2) (rrN _ _ rfl (fun z => by omega) (.inr h0)), rfl, rfl, p1, q3, fun v hv => (congrFun p2 v).trans (up_ne _ _ hv), rfl, rfl, ⟨h0, e, (show g.H < g.H + 1 by omega), (show g.H + 1 ≤ g.E by omega)⟩⟩
      · have E : unlS n 0 st u u = (0, ⟨st.seats, (st.pls.set u { (st.pls.getD u p0) with s := 4 }), st.ws, Cache.after n st.ws.length st.ts u (stA 0 (st.pls.getD u p0).o) true⟩) := by
          unfold unlS; dsimp only; rw [if_neg (by omega), if_neg (by omega), if_pos e, if_neg (by rw [hcs]; simpa using hF)]
        obtain ⟨p1, p2, p3, p4⟩ := fset st.pls u hpl { (st.pls.getD u p0) with s := 4 }
        have q3 := p3.trans (up_self _ _ _ rfl)
        have q4 := p4.trans (up_self _ _ _ rfl)
        exact ⟨_, g, .over, unone_ h0 now E rfl, I.of f _ g (hi.over u hu h0 e (fun z => hF (hg.symm.trans z))) (by simpa using f.sl) (by simpa using f.pl) (rfl) (rfl) (p1) (q3) (q4) (rfl) (rfl) (rfl) (rfl) (rrN _ _ rfl (fun z => by omega) (.inr h0)), rfl, rfl, p1, q3, fun v hv => (congrFun p2 v).trans (up_ne _ _ hv), rfl, ⟨rfl, rfl⟩, ⟨h0, e, fun z => hF (hg.symm.trans z)⟩⟩
    · have h3 := hi.u3 u hu h0 (.inr e)
      have m1 := n1 (by omega)
      have E : unlS n 0 st u u = (0, ⟨st.seats, (st.pls.set u ⟨0, 0, (st.pls.getD u p0).o, 0⟩), (Mem.put st.ws (stA 0 (st.pls.getD u p0).n + 2) 0), Cache.after n st.ws.length st.ts u (stA 0 (st.pls.getD u p0).n + 2) true⟩) := by
        unfold unlS; dsimp only; rw [if_neg (by omega), if_neg (by omega), if_neg (by omega), if_pos e, wr_in hu]
      obtain ⟨p1, p2, p3, p4⟩ := fset st.pls u hpl ⟨0, 0, (st.pls.getD u p0).o, 0⟩
      exact ⟨_, ⟨g.r, g.nq, g.H + 1, g.E⟩, .skip, unone_ h0 now E rfl, I.of f _ ⟨g.r, g.nq, g.H + 1, g.E⟩ (hi.skip u hu h0 e) (by simpa using f.sl) (by simpa using f.pl) (Mem.put_len _ _ _) (rfl) (p1) (p3) (p4) (F_ou f.wl _ _ m1 hnm) (N_ou f.wl _ _ m1 hnm) (U_ou f.wl _ _ m1 hnm) (T_ou f.wl _ _ m1 hnm) (rrN _ _ rfl (fun z => by omega) (.inr h0)), rfl, rfl, p1, p3, fun v hv => (congrFun p2 v).trans (up_ne _ _ hv), rfl, rfl, ⟨h0, e, (show g.H < g.H + 1 by omega), (show g.H + 1 ≤ g.E by omega)⟩⟩
    · have m1 : 1 ≤ (st.pls.getD u p0).n := by
        have a : gU st.ws (st.pls.getD u p0).n = 1 := hi.du u hu h0 e
        by_cases z : 1 ≤ (st.pls.getD u p0).n
        · exact z
        · unfold gU at a; rw [if_neg z] at a; omega
      have E : unlS n 0 st u u = (3, ⟨st.seats, st.pls, (Mem.put st.ws (stA 0 (st.pls.getD u p0).n + 2) 0), Cache.after n st.ws.length st.ts u (stA 0 (st.pls.getD u p0).n + 2) true⟩) := by
        unfold unlS; dsimp only; rw [if_neg (by omega), if_neg (by omega), if_neg (by omega), if_neg (by omega), if_pos e, wr_in hu]
      obtain ⟨p1, p2, p3, p4⟩ := fset st.pls u hpl ⟨0, 0, (st.pls.getD u p0).n, 0⟩
      have q3 := p3.trans (up_self _ _ _ rfl)
      exact ⟨_, g, .done, ugot_ h0 now E (st.pls.set u ⟨0, 0, (st.pls.getD u p0).n, 0⟩) rfl, I.of f _ g ((hi.done u hu h0 e).clear u hu (.inl (up_eq _ _ _)) 0) (by simpa using f.sl) (by simpa using f.pl) (Mem.put_len _ _ _) (stt_up _ _ hsl _ _) (p1) (q3) (p4) (F_ou f.wl _ _ m1 hnm) (N_ou f.wl _ _ m1 hnm) (U_ou f.wl _ _ m1 hnm) (T_ou f.wl _ _ m1 hnm) (rrE _ 0 _ rfl rfl (by decide)), rfl, stt_up _ _ hsl _ _, p1, q3, fun v hv => (congrFun p2 v).trans (up_ne _ _ hv), rfl, ⟨rfl, rfl⟩, ⟨h0, e⟩⟩
end Go.Proofs.Ytlkpfdboagjaoaa.AbortP
