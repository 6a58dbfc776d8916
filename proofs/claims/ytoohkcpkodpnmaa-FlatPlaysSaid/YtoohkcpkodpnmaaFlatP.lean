/- The ticket lock, by value: who waits has a number behind those ahead; who holds has the owner's. -/
import Derived.Test.YtoohkcpkodpnmaaFlat3
import Derived.Test.YtoohkcpkodpnmaaSeatP
namespace Go.Proofs.Ytoohkcpkodpnmaa.FlatP
open Go Go.Proofs.Ytoohkcpkodpnmaa.Heap Go.Proofs.Ytoohkcpkodpnmaa.Seat Go.Proofs.Ytoohkcpkodpnmaa.Mach Go.Proofs.Ytoohkcpkodpnmaa.SeatP Go.Proofs.Ytoohkcpkodpnmaa.Flat

def off (h : Option Nat) : Int := if h.isSome = true then 1 else 0
structure FI (n : Nat) (x : Int) (st : St) (q : List Int) (S : Int) (h : Option Nat) : Prop where
  sl : st.seats.length = n
  nl : st.nums.length = n
  dl : st.drew.length = n
  n8 : n ≤ 8
  ws : st.ws = [(x + S + off h + q.length) % 4294967296, (x + S) % 4294967296]
  nd : q.Nodup
  q1 : ∀ i, i < q.length → ∃ t : Nat, q.getD i 0 = t ∧ t < n ∧ stt st.seats t = 1 ∧ st.drew.getD t false = true ∧ st.nums.getD t 0 = (x + S + off h + i) % 4294967296
  q2 : ∀ t : Nat, t < n → stt st.seats t = 1 → st.drew.getD t false = true → (t : Int) ∈ q
  dr : ∀ t, t < n → stt st.seats t = 0 → st.drew.getD t false = false
  hh : ∀ t, t < n → (stt st.seats t = 2 ∨ stt st.seats t = 3 ∨ stt st.seats t = 4) → h = some t
  h1 : ∀ t, h = some t → t < n ∧ (stt st.seats t = 2 ∨ stt st.seats t = 3 ∨ stt st.seats t = 4) ∧ st.nums.getD t 0 = (x + S) % 4294967296
  rg : ∀ t, t < n → 0 ≤ stt st.seats t ∧ stt st.seats t ≤ 4
theorem off_le (h : Option Nat) : 0 ≤ off h ∧ off h ≤ 1 := by unfold off; split <;> omega
theorem FI.qn {n : Nat} {x : Int} {st : St} {q : List Int} {S : Int} {h : Option Nat} (f : FI n x st q S h) : q.length ≤ n :=
  nodup_le n q f.nd fun y hy => by
    obtain ⟨i, hi, rfl⟩ := List.mem_iff_getElem.1 hy
    obtain ⟨t, e, ht, _⟩ := f.q1 i hi
    exact ⟨t, by rw [← getD_lt _ _ 0 hi]; exact e, ht⟩
/-- What calls make of the seats. -/
theorem FI.seat {n : Nat} {x : Int} {st : St} {q : List Int} {S : Int} {h : Option Nat} (f : FI n x st q S h) (k : Nat) (hk : k < n) (a d : Int) (hc : (stt st.seats k = 0 ∧ a = 1) ∨ ((stt st.seats k = 2 ∨ stt st.seats k = 4) ∧ (a = 2 ∨ a = 3 ∨ a = 4))) :
    FI n x (setS st (st.seats.set k (a, d))) q S h := by
  have hkl : k < st.seats.length := by rw [f.sl]; exact hk
  have g : ∀ u, stt (st.seats.set k (a, d)) u = if u = k then a else stt st.seats u := fun u => stt_set st.seats k (a, d) hkl u
  have hne : ∀ i t : Nat, i < q.length → q.getD i 0 = (t : Int) → t < n → stt st.seats t = 1 → t ≠ k := fun i t hi _ _ h1 e => by subst e; omega
  refine ⟨by simp [setS, f.sl], f.nl, f.dl, f.n8, f.ws, f.nd, ?_, ?_, ?_, ?_, ?_, ?_⟩
  · intro i hi
    obtain ⟨t, e, ht, h1, h2, h3⟩ := f.q1 i hi
    refine ⟨t, e, ht, ?_, h2, h3⟩
    show stt (st.seats.set k (a, d)) t = 1
    rw [g, if_neg (hne i t hi e ht h1)]; exact h1
  · intro t ht h1 h2
    have h1 : stt (st.seats.set k (a, d)) t = 1 := h1
    have h2 : st.drew.getD t false = true := h2
    rw [g] at h1
    by_cases e : t = k
    · subst e
      rcases hc with ⟨hc, _⟩ | ⟨_, hc⟩
      · have h9 := f.dr t ht hc
        have h2' : st.drew.getD t false = true := h2
        rw [h2'] at h9; cases h9
      · rw [if_pos rfl] at h1; omega
    · rw [if_neg e] at h1; exact f.q2 t ht h1 h2
  · intro t ht h0
    have h0 : stt (st.seats.set k (a, d)) t = 0 := h0
    rw [g] at h0
    by_cases e : t = k
    · rw [if_pos e] at h0; omega
    · rw [if_neg e] at h0; exact f.dr t ht h0
  · intro t ht h2
    have h2 : stt (st.seats.set k (a, d)) t = 2 ∨ stt (st.seats.set k (a, d)) t = 3 ∨ stt (st.seats.set k (a, d)) t = 4 := h2
    rw [g] at h2
    by_cases e : t = k
    · subst e
      rcases hc with ⟨_, hc⟩ | ⟨hc, _⟩
      · rw [if_pos rfl] at h2; omega
      · exact f.hh t ht (by omega)
    · rw [if_neg e] at h2; exact f.hh t ht h2
  · intro t ht
    obtain ⟨h1, h2, h3⟩ := f.h1 t ht
    refine ⟨h1, ?_, h3⟩
    show stt (st.seats.set k (a, d)) t = 2 ∨ stt (st.seats.set k (a, d)) t = 3 ∨ stt (st.seats.set k (a, d)) t = 4
    rw [g]
    by_cases e : t = k
    · subst e
      rw [if_pos rfl]
      rcases hc with ⟨hc, _⟩ | ⟨_, hc⟩
      · omega
      · exact hc
    · rw [if_neg e]; exact h2
  · intro t ht
    show 0 ≤ stt (st.seats.set k (a, d)) t ∧ stt (st.seats.set k (a, d)) t ≤ 4
    rw [g]
    split
    · show 0 ≤ a ∧ a ≤ 4; omega
    · exact f.rg t ht
theorem bset (l : List Bool) (k : Nat) (hk : k < l.length) (b : Bool) (u : Nat) : (l.set k b).getD u false = if u = k then b else l.getD u false := by
  by_cases e : u = k
  · subst e; simp [List.getD, List.getElem?_set_self hk]
  · rw [if_neg e, List.getD, List.getElem?_set_ne (fun z => e z.symm)]; rfl
theorem iset (l : List Int) (k : Nat) (hk : k < l.length) (b : Int) (u : Nat) : (l.set k b).getD u 0 = if u = k then b else l.getD u 0 := by
  by_cases e : u = k
  · subst e; simp [List.getD, List.getElem?_set_self hk]
  · rw [if_neg e, List.getD, List.getElem?_set_ne (fun z => e z.symm)]; rfl
theorem rd_in {n : Nat} {u : Nat} (hu : u < n) (ws : List Int) (a : Int) : rd n ws u a = Mem.get ws a := by unfold rd; rw [if_pos (by simp [Mem.inB]; omega)]
theorem wr_in {n : Nat} {u : Nat} (hu : u < n) (ws : List Int) (a v : Int) : wrt n ws u a v = Mem.put ws a v := by unfold wrt; rw [if_pos (by simp [Mem.inB]; omega)]
theorem get0 (a b : Int) : Mem.get [a, b] 0 = a := rfl
theorem get1 (a b : Int) : Mem.get [a, b] 1 = b := rfl
theorem put0 (a b c : Int) : Mem.put [a, b] 0 c = [c, b] := rfl
theorem put1 (a b c : Int) : Mem.put [a, b] 1 c = [a, c] := rfl

/-- A number is drawn. -/
theorem FI.draw {n : Nat} {x : Int} {st : St} {q : List Int} {S : Int} {h : Option Nat} (f : FI n x st q S h) (u : Nat) (hu : u < n) (h1 : stt st.seats u = 1) (hd : st.drew.getD u false = false) (ts : List Has.T) :
    FI n x ⟨st.seats, st.nums.set u ((x + S + off h + q.length) % 4294967296), st.drew.set u true, [((x + S + off h + q.length) % 4294967296 + 1) % 4294967296, (x + S) % 4294967296], ts⟩ (q ++ [(u : Int)]) S h := by
  have gb := fun v => bset st.drew u (by rw [f.dl]; exact hu) true v
  have gn := fun v => iset st.nums u (by rw [f.nl]; exact hu) ((x + S + off h + q.length) % 4294967296) v
  have hnot : (u : Int) ∉ q := fun hm => by
    obtain ⟨i, hi, e⟩ := List.mem_iff_getElem.1 hm
    obtain ⟨t, e2, _, _, h4, _⟩ := f.q1 i hi
    rw [getD_lt _ _ _ hi, e] at e2
    have : t = u := by omega
    subst this
    rw [hd] at h4; cases h4
  refine ⟨f.sl, by simpa using f.nl, by simpa using f.dl, f.n8, ?_, ?_, ?_, ?_, ?_, f.hh, ?_, f.rg⟩
  · simp only [List.length_append, List.length_singleton]
    congr 1
    omega
  · rw [List.nodup_append]
    exact ⟨f.nd, by simp, fun a ha b hb e => by simp at hb; subst hb; subst e; exact hnot ha⟩
  · intro i hi
    by_cases hiq : i < q.length
    · obtain ⟨t, e, ht, h2, h3, h4⟩ := f.q1 i hiq
      have hne : t ≠ u := fun e => by subst e; rw [hd] at h3; cases h3
      refine ⟨t, ?_, ht, h2, ?_, ?_⟩
      · rw [List.getD, List.getElem?_append_left hiq]; exact e
      · show (st.drew.set u true).getD t false = true
        rw [gb, if_neg hne]; exact h3
      · show (st.nums.set u _).getD t 0 = _
        rw [gn, if_neg hne]; exact h4
    · have hi2 : i = q.length := by simp at hi; omega
      subst hi2
      refine ⟨u, ?_, hu, h1, ?_, ?_⟩
      · simp [List.getD]
      · show (st.drew.set u true).getD u false = true
        rw [gb, if_pos rfl]
      · show (st.nums.set u _).getD u 0 = _
        rw [gn, if_pos rfl]
  · intro t ht h2 h3
    have h3 : (st.drew.set u true).getD t false = true := h3
    rw [gb] at h3
    by_cases e : t = u
    · subst e; simp
    · rw [if_neg e] at h3; exact List.mem_append_left _ (f.q2 t ht h2 h3)
  · intro t ht h0
    have h0 : stt st.seats t = 0 := h0
    show (st.drew.set u true).getD t false = false
    rw [gb, if_neg (fun e => by subst e; omega)]
    exact f.dr t ht h0
  · intro t ht
    obtain ⟨h2, h3, h4⟩ := f.h1 t ht
    refine ⟨h2, h3, ?_⟩
    show (st.nums.set u _).getD t 0 = _
    rw [gn, if_neg (fun e => by subst e; have h3 : stt st.seats t = 2 ∨ stt st.seats t = 3 ∨ stt st.seats t = 4 := h3; omega)]; exact h4
/-- The first one is granted the lock. -/
theorem FI.grant {n : Nat} {x : Int} {st : St} {q : List Int} {S : Int} {h : Option Nat} (f : FI n x st q S h) (u : Nat) (hu : u < n) (h1 : stt st.seats u = 1) (hd : st.drew.getD u false = true) (he : st.nums.getD u 0 = (x + S) % 4294967296) (ts : List Has.T) :
    q.head? = some (u : Int) ∧ FI n x ⟨st.seats.set u (2, -1), st.nums, st.drew, st.ws, ts⟩ (q.filter (· != (u : Int))) S (some u) := by
  have hm := f.q2 u hu h1 hd
  obtain ⟨i, hi, e⟩ := List.mem_iff_getElem.1 hm
  obtain ⟨t, e2, ht, _, _, h5⟩ := f.q1 i hi
  rw [getD_lt _ _ _ hi, e] at e2
  have htu : t = u := by omega
  subst htu
  have hq := f.qn
  have h8 := f.n8
  have ho := off_le h
  have hz : off h = 0 ∧ i = 0 := by
    rw [he] at h5
    omega
  obtain ⟨hz, rfl⟩ := hz
  have hn : h = none := by
    cases h with
    | none => rfl
    | some v => unfold off at hz; simp at hz
  subst hn
  obtain ⟨q', rfl⟩ : ∃ q', q = (t : Int) :: q' := by
    cases q with
    | nil => simp at hi
    | cons a r => simp at e; exact ⟨r, by rw [e]⟩
  have hnd := List.nodup_cons.1 f.nd
  have hfil : ((t : Int) :: q').filter (· != (t : Int)) = q' := by
    rw [List.filter_cons, if_neg (by simp), List.filter_eq_self]
    intro y hy
    simp
    rintro rfl
    exact hnd.1 hy
  have hkl : t < st.seats.length := by rw [f.sl]; exact hu
  have g : ∀ v, stt (st.seats.set t (2, -1)) v = if v = t then 2 else stt st.seats v := fun v => stt_set st.seats t (2, -1) hkl v
  refine ⟨rfl, ?_⟩
  rw [hfil]
  refine ⟨by simp [f.sl], f.nl, f.dl, f.n8, ?_, hnd.2, ?_, ?_, ?_, ?_, ?_, ?_⟩
  · show st.ws = _
    rw [f.ws]
    simp only [off, List.length_cons, Option.isSome]
    congr 1
    simp
    congr 1
    omega
  · intro j hj
    obtain ⟨v, e3', hv, h6, h7, h8⟩ := f.q1 (j + 1) (by simpa using hj)
    have e3 : q'.getD j 0 = v := e3'
    clear e3'
    have hvt : v ≠ t := fun e => by
      subst e
      have hmem : q'.getD j 0 ∈ q' := by rw [getD_lt _ _ _ hj]; exact List.getElem_mem hj
      rw [e3] at hmem
      exact hnd.1 hmem
    refine ⟨v, e3, hv, ?_, h7, ?_⟩
    · show stt (st.seats.set t (2, -1)) v = 1
      rw [g, if_neg hvt]; exact h6
    · show st.nums.getD v 0 = _
      rw [h8]
      simp only [off, Option.isSome]
      congr 1
      simp
      omega
  · intro v hv h6 h7
    have h6 : stt (st.seats.set t (2, -1)) v = 1 := h6
    rw [g] at h6
    by_cases e3 : v = t
    · rw [if_pos e3] at h6; omega
    · rw [if_neg e3] at h6
      rcases List.mem_cons.1 (f.q2 v hv h6 h7) with h9 | h9
      · omega
      · exact h9
  · intro v hv h0
    have h0 : stt (st.seats.set t (2, -1)) v = 0 := h0
    rw [g] at h0
    by_cases e3 : v = t
    · rw [if_pos e3] at h0; omega
    · rw [if_neg e3] at h0; exact f.dr v hv h0
  · intro v hv h2
    have h2 : stt (st.seats.set t (2, -1)) v = 2 ∨ stt (st.seats.set t (2, -1)) v = 3 ∨ stt (st.seats.set t (2, -1)) v = 4 := h2
    rw [g] at h2
    by_cases e3 : v = t
    · rw [e3]
    · rw [if_neg e3] at h2
      have := f.hh v hv h2; cases this
  · intro v hv
    simp at hv
    subst hv
    refine ⟨hu, ?_, he⟩
    show stt (st.seats.set t (2, -1)) t = 2 ∨ _
    rw [g, if_pos rfl]; exact .inl rfl
  · intro v hv
    show 0 ≤ stt (st.seats.set t (2, -1)) v ∧ stt (st.seats.set t (2, -1)) v ≤ 4
    rw [g]
    split
    · show (0 : Int) ≤ 2 ∧ (2 : Int) ≤ 4; omega
    · exact f.rg v hv
/-- The lock is left. -/
theorem FI.leave {n : Nat} {x : Int} {st : St} {q : List Int} {S : Int} {h : Option Nat} (f : FI n x st q S h) (u : Nat) (hu : u < n) (h3 : stt st.seats u = 3) (ts : List Has.T) :
    st.nums.getD u 0 = (x + S) % 4294967296 ∧ FI n x ⟨st.seats.set u (0, -1), st.nums, st.drew.set u false, [(x + S + off h + q.length) % 4294967296, ((x + S) % 4294967296 + 1) % 4294967296], ts⟩ q (S + 1) none := by
  have hh := f.hh u hu (.inr (.inl h3))
  subst hh
  have hn := (f.h1 u rfl).2.2
  have hkl : u < st.seats.length := by rw [f.sl]; exact hu
  have g : ∀ v, stt (st.seats.set u (0, -1)) v = if v = u then 0 else stt st.seats v := fun v => stt_set st.seats u (0, -1) hkl v
  have gb := fun v => bset st.drew u (by rw [f.dl]; exact hu) false v
  refine ⟨hn, by simp [f.sl], f.nl, by simpa using f.dl, f.n8, ?_, f.nd, ?_, ?_, ?_, ?_, (fun t ht => by cases ht), ?_⟩
  · simp only [off, Option.isSome]
    congr 1
    · simp; congr 1; omega
    · congr 1; omega
  · intro i hi
    obtain ⟨t, e, ht, h6, h7, h8⟩ := f.q1 i hi
    have hne : t ≠ u := fun e => by subst e; omega
    refine ⟨t, e, ht, ?_, ?_, ?_⟩
    · show stt (st.seats.set u (0, -1)) t = 1
      rw [g, if_neg hne]; exact h6
    · show (st.drew.set u false).getD t false = true
      rw [gb, if_neg hne]; exact h7
    · show st.nums.getD t 0 = _
      rw [h8]
      simp only [off, Option.isSome]
      congr 1
      simp
      omega
  · intro t ht h6 h7
    have h6 : stt (st.seats.set u (0, -1)) t = 1 := h6
    have h7 : (st.drew.set u false).getD t false = true := h7
    rw [g] at h6
    rw [gb] at h7
    by_cases e : t = u
    · rw [if_pos e] at h6; omega
    · rw [if_neg e] at h6 h7; exact f.q2 t ht h6 h7
  · intro t ht h0
    have h0 : stt (st.seats.set u (0, -1)) t = 0 := h0
    show (st.drew.set u false).getD t false = false
    rw [g] at h0
    rw [gb]
    by_cases e : t = u
    · rw [if_pos e]
    · rw [if_neg e] at h0 ⊢; exact f.dr t ht h0
  · intro t ht h2
    have h2 : stt (st.seats.set u (0, -1)) t = 2 ∨ stt (st.seats.set u (0, -1)) t = 3 ∨ stt (st.seats.set u (0, -1)) t = 4 := h2
    rw [g] at h2
    by_cases e : t = u
    · rw [if_pos e] at h2; omega
    · rw [if_neg e] at h2
      have := f.hh t ht h2
      simp at this; omega
  · intro t ht
    show 0 ≤ stt (st.seats.set u (0, -1)) t ∧ stt (st.seats.set u (0, -1)) t ≤ 4
    rw [g]
    split
    · show (0 : Int) ≤ 0 ∧ (0 : Int) ≤ 4; omega
    · exact f.rg t ht
theorem FI.ts {n : Nat} {x : Int} {st : St} {q : List Int} {S : Int} {h : Option Nat} (f : FI n x st q S h) (ts : List Has.T) : FI n x { st with ts := ts } q S h := ⟨f.sl, f.nl, f.dl, f.n8, f.ws, f.nd, f.q1, f.q2, f.dr, f.hh, f.h1, f.rg⟩
/-- What is kept, with the queue. -/
def Inv (n : Nat) (x : Int) (st : St) (q : List Int) : Prop := ∃ S h, FI n x st q S h
theorem mid_idle {n : Nat} {st : St} {t a : Int} (h : state st.seats t = 0) : midS n 0 1 st t a = ((0, false, false, false), st) := by
  unfold midS; rw [h, if_neg (by omega), if_neg (by omega), if_neg (by omega)]
theorem step_idle {n : Nat} {st : St} {t a now : Int} (h : state st.seats t = 0) : Flat.step n 0 1 st t a now = ((0, false, false, false), st) := by
  unfold Flat.step
  rw [mid_idle h]
  simp only [fin_none]
/-- A step of a context that calls for the lock. -/
theorem step_lock {n : Nat} {x : Int} {st : St} {q : List Int} {S : Int} {h : Option Nat} (f : FI n x st q S h) (u : Nat) (hu : u < n) (h1 : stt st.seats u = 1) (now : Int) :
    (st.drew.getD u false = false ∧ (Flat.step n 0 1 st u u now).1 = (0, true, false, false) ∧ FI n x (Flat.step n 0 1 st u u now).2 (q ++ [(u : Int)]) S h ∧ (Flat.step n 0 1 st u u now).2.seats = st.seats ∧ (Flat.step n 0 1 st u u now).2.drew = st.drew.set u true) ∨
    (st.drew.getD u false = true ∧ (Flat.step n 0 1 st u u now).1 = (1, false, false, false) ∧ q.head? = some (u : Int) ∧ h = none ∧ FI n x (Flat.step n 0 1 st u u now).2 (q.filter (· != (u : Int))) S (some u) ∧ (Flat.step n 0 1 st u u now).2.seats = st.seats.set u (2, -1) ∧ (Flat.step n 0 1 st u u now).2.drew = st.drew) ∨
    (st.drew.getD u false = true ∧ (Flat.step n 0 1 st u u now).1 = (0, false, false, false) ∧ FI n x (Flat.step n 0 1 st u u now).2 q S h ∧ (Flat.step n 0 1 st u u now).2.seats = st.seats ∧ (Flat.step n 0 1 st u u now).2.drew = st.drew ∧ ¬ (h = none ∧ q.head? = some (u : Int))) := by
  have hs : state st.seats (u : Int) = 1 := by rw [state_nat]; exact h1
  have hm : midS n 0 1 st u u = lockS n 0 1 st u u := by unfold midS; rw [hs, if_pos rfl, Int.toNat_natCast]
  cases hd : st.drew.getD u false with
  | false =>
    left
    have e : Flat.step n 0 1 st u u now = ((0, true, false, false), ⟨st.seats, st.nums.set u ((x + S + off h + q.length) % 4294967296), st.drew.set u true, [((x + S + off h + q.length) % 4294967296 + 1) % 4294967296, (x + S) % 4294967296], Cache.after n st.ws.length st.ts u 0 true⟩) := by
      unfold Flat.step
      rw [hm]
      unfold lockS
      rw [if_pos hd]
      simp only [fin_none, rd_in hu, wr_in hu, f.ws, get0, put0]
    rw [e]
    exact ⟨rfl, rfl, f.draw u hu h1 hd _, rfl, rfl⟩
  | true =>
    right
    by_cases he : st.nums.getD u 0 = (x + S) % 4294967296
    · left
      obtain ⟨hq, hf⟩ := f.grant u hu h1 hd he (Cache.after n st.ws.length st.ts u 1 false)
      have hn : h = none := by
        have hm := f.q2 u hu h1 hd
        obtain ⟨i, hi, e⟩ := List.mem_iff_getElem.1 hm
        obtain ⟨t, e2, ht, _, _, h5⟩ := f.q1 i hi
        rw [getD_lt _ _ _ hi, e] at e2
        have htu : t = u := by omega
        subst htu
        have hq := f.qn
        have h8 := f.n8
        have ho := off_le h
        have hz : off h = 0 := by rw [he] at h5; omega
        cases h with
        | none => rfl
        | some v => unfold off at hz; simp at hz
      have e : Flat.step n 0 1 st u u now = ((1, false, false, false), ⟨st.seats.set u (2, -1), st.nums, st.drew, st.ws, Cache.after n st.ws.length st.ts u 1 false⟩) := by
        unfold Flat.step
        rw [hm]
        unfold lockS
        rw [if_neg (by rw [hd]; simp)]
        simp only [rd_in hu]
        rw [if_pos (by rw [f.ws, get1, he])]
        have hf1 : (fin st.seats (u : Int) 1).2 = st.seats.set u (2, -1) := by
          rw [fin_eq _ _ _ (by rw [h1]; decide), h1]; rfl
        simp only [hf1]
      rw [e]
      exact ⟨rfl, rfl, hq, hn, hf, rfl, rfl⟩
    · right
      have e : Flat.step n 0 1 st u u now = ((0, false, false, false), { st with ts := Cache.after n st.ws.length st.ts u 1 false }) := by
        unfold Flat.step
        rw [hm]
        unfold lockS
        rw [if_neg (by rw [hd]; simp)]
        simp only [rd_in hu]
        rw [if_neg (by rw [f.ws, get1]; exact fun e => he e.symm)]
        simp only [fin_none]
      rw [e]
      refine ⟨rfl, rfl, f.ts _, rfl, rfl, ?_⟩
      rintro ⟨rfl, hq⟩
      cases q with
      | nil => simp at hq
      | cons a r =>
        simp at hq
        obtain ⟨t, e2, ht, _, _, h5⟩ := f.q1 0 (by simp)
        have e2 : a = (t : Int) := e2
        have htu : t = u := by omega
        subst htu
        apply he
        rw [h5]
        simp only [off, Option.isSome]
        congr 1
        simp
/-- A step of a context that unlocks. -/
theorem step_unlock {n : Nat} {x : Int} {st : St} {q : List Int} {S : Int} {h : Option Nat} (f : FI n x st q S h) (u : Nat) (hu : u < n) (h3 : stt st.seats u = 3) (now : Int) :
    (Flat.step n 0 1 st u u now).1 = (3, false, false, false) ∧ FI n x (Flat.step n 0 1 st u u now).2 q (S + 1) none ∧ (Flat.step n 0 1 st u u now).2.seats = st.seats.set u (0, -1) ∧ (Flat.step n 0 1 st u u now).2.drew = st.drew.set u false := by
  obtain ⟨hn, hf⟩ := f.leave u hu h3 (Cache.after n st.ws.length st.ts u 1 true)
  have hs : state st.seats (u : Int) = 3 := by rw [state_nat]; exact h3
  have e : Flat.step n 0 1 st u u now = ((3, false, false, false), ⟨st.seats.set u (0, -1), st.nums, st.drew.set u false, [(x + S + off h + q.length) % 4294967296, ((x + S) % 4294967296 + 1) % 4294967296], Cache.after n st.ws.length st.ts u 1 true⟩) := by
    unfold Flat.step midS
    rw [hs, if_neg (by omega), if_pos rfl]
    have hf1 : (fin st.seats (u : Int) 3).2 = st.seats.set u (0, -1) := by
      rw [fin_eq _ _ _ (by rw [h3]; decide), h3]; rfl
    simp only [Int.toNat_natCast, wr_in hu, hn, hf1]
    rw [f.ws]
    simp only [put1]
  rw [e]
  exact ⟨rfl, hf, rfl, rfl⟩
/-- A step of a context that asks whether anybody is behind. -/
theorem step_probe {n : Nat} {x : Int} {st : St} {q : List Int} {S : Int} {h : Option Nat} (f : FI n x st q S h) (u : Nat) (hu : u < n) (h4 : stt st.seats u = 4) (now : Int) :
    ((Flat.step n 0 1 st u u now).1 = (4, false, false, false) ∨ (Flat.step n 0 1 st u u now).1 = (5, false, false, false)) ∧ FI n x (Flat.step n 0 1 st u u now).2 q S h ∧ (Flat.step n 0 1 st u u now).2.seats = st.seats.set u (2, -1) ∧ (Flat.step n 0 1 st u u now).2.drew = st.drew := by
  have hs : state st.seats (u : Int) = 4 := by rw [state_nat]; exact h4
  obtain ⟨ev, hev⟩ : ∃ ev : Int, (if rd n st.ws (u : Int) 0 = (st.nums.getD u 0 + 1) % 4294967296 then 4 else 5) = ev := ⟨_, rfl⟩
  have h45 : ev = 4 ∨ ev = 5 := by rw [← hev]; split; exact .inl rfl; exact .inr rfl
  have e : Flat.step n 0 1 st u u now = ((ev, false, false, false), { st with seats := st.seats.set u (2, -1), ts := Cache.after n st.ws.length st.ts u 0 false }) := by
    unfold Flat.step midS
    rw [hs, if_neg (by omega), if_neg (by omega), if_pos rfl]
    simp only [Int.toNat_natCast, hev]
    have hf1 : (fin st.seats (u : Int) ev).2 = st.seats.set u (2, -1) := by
      rw [fin_eq _ _ _ (by rw [h4]; rcases h45 with rfl | rfl <;> decide), h4]
      rcases h45 with rfl | rfl <;> rfl
    simp only [hf1]
  rw [e]
  refine ⟨by rcases h45 with rfl | rfl; exact .inl rfl; exact .inr rfl, (f.seat u hu 2 (-1) (.inr ⟨.inr h4, .inl rfl⟩)).ts _, rfl, rfl⟩
theorem keeps (n : Nat) (x : Int) : Keeps false true n St.seats setS (fun st t a now => Flat.step n 0 1 st t a now) (Inv n x) where
  lock := by
    rintro st q t d ⟨S, h, f⟩
    rcases lock_cases st.seats false t d with e | ⟨k, rfl, hk, h0, e, _⟩
    · rw [e]; exact ⟨S, h, f⟩
    · rw [e]; exact ⟨S, h, f.seat k (by rw [← f.sl]; exact hk) 1 d (.inl ⟨h0, rfl⟩)⟩
  unlock := by
    rintro st q t ⟨S, h, f⟩
    rcases turn_cases st.seats t 3 with e | ⟨k, rfl, hk, h2, d, e⟩
    · rw [e]; exact ⟨S, h, f⟩
    · rw [e]; exact ⟨S, h, f.seat k (by rw [← f.sl]; exact hk) 3 d (.inr ⟨.inl h2, .inr (.inl rfl)⟩)⟩
  probe := by
    rintro st q t ⟨S, h, f⟩
    rcases probe_cases st.seats true t with e | ⟨k, rfl, hk, h2, d, e⟩
    · rw [e]; exact ⟨S, h, f⟩
    · rw [e]; exact ⟨S, h, f.seat k (by rw [← f.sl]; exact hk) 4 d (.inr ⟨.inl h2, .inr (.inr rfl)⟩)⟩
  step := by
    rintro st q t now ⟨S, h, f⟩
    show (((Flat.step n 0 1 st t t now).1.1 = 1 → _) ∧ Inv n x (Flat.step n 0 1 st t t now).2 (queue2 q t (Flat.step n 0 1 st t t now).1))
    have idle : state st.seats t = 0 → ((Flat.step n 0 1 st t t now).1.1 = 1 → (queue1 q t (Flat.step n 0 1 st t t now).1).head? = some t) ∧ Inv n x (Flat.step n 0 1 st t t now).2 (queue2 q t (Flat.step n 0 1 st t t now).1) := by
      intro h0
      rw [step_idle h0]
      exact ⟨(fun e => by cases e), S, h, f⟩
    by_cases hin : ∃ k : Nat, t = k ∧ k < st.seats.length
    · obtain ⟨u, rfl, hu⟩ := hin
      have hun : u < n := by rw [← f.sl]; exact hu
      have hr := f.rg u hun
      by_cases h0 : stt st.seats u = 0
      · exact idle (by rw [state_nat]; exact h0)
      by_cases h1 : stt st.seats u = 1
      · rcases step_lock f u hun h1 now with ⟨_, e1, e2, _⟩ | ⟨_, e1, e2, _, e3, _⟩ | ⟨_, e1, e2, _⟩
        · rw [e1]
          exact ⟨(fun e => by cases e), S, h, e2⟩
        · rw [e1]
          exact ⟨fun _ => e2, S, some u, e3⟩
        · rw [e1]
          exact ⟨(fun e => by cases e), S, h, e2⟩
      by_cases h3 : stt st.seats u = 3
      · obtain ⟨e1, e2, _⟩ := step_unlock f u hun h3 now
        rw [e1]
        exact ⟨(fun e => by cases e), S + 1, none, e2⟩
      by_cases h4 : stt st.seats u = 4
      · obtain ⟨e1, e2, _⟩ := step_probe f u hun h4 now
        rcases e1 with e1 | e1
        · rw [e1]
          exact ⟨(fun e => by cases e), S, h, e2⟩
        · rw [e1]
          exact ⟨(fun e => by cases e), S, h, e2⟩
      have h2 : stt st.seats u = 2 := by omega
      have e : Flat.step n 0 1 st u u now = ((0, false, false, false), st) := by
        unfold Flat.step midS
        rw [state_nat, h2, if_neg (by omega), if_neg (by omega), if_neg (by omega)]
        simp only [fin_none]
      rw [e]
      exact ⟨(fun e => by cases e), S, h, f⟩
    · exact idle (state_out _ _ hin)
  one := by
    rintro st q ⟨S, h, f⟩
    exact holders_one st.seats n f.sl h fun t ht h2 => f.hh t ht (.inl h2)
theorem FI.start (n : Nat) (n8 : n ≤ 8) (x : Int) (hx0 : 0 ≤ x) (hx1 : x < 4294967296) : FI n x (st0 n [x, x]) [] 0 none := by
  have g : ∀ t, stt (List.replicate n ((0 : Int), (-1 : Int))) t = 0 := fun t => by
    unfold stt
    rcases Nat.lt_or_ge t n with h | h
    · rw [getD_lt _ _ _ (by simpa using h)]; simp
    · simp [List.getD, h]
  have gb : ∀ t, (List.replicate n false).getD t false = false := fun t => by
    rcases Nat.lt_or_ge t n with h | h
    · rw [getD_lt _ _ _ (by simpa using h)]; simp
    · simp [List.getD, h]
  refine ⟨by simp [st0], by simp [st0], by simp [st0], n8, ?_, by simp, fun i hi => by simp at hi, ?_, fun t _ _ => gb t, ?_, (fun t ht => by cases ht), ?_⟩
  · show [x, x] = _
    simp [off]
    omega
  · intro t _ h
    have h : stt (List.replicate n ((0 : Int), (-1 : Int))) t = 1 := h
    rw [g] at h; omega
  · intro t _ h
    have h : stt (List.replicate n ((0 : Int), (-1 : Int))) t = 2 ∨ stt (List.replicate n ((0 : Int), (-1 : Int))) t = 3 ∨ stt (List.replicate n ((0 : Int), (-1 : Int))) t = 4 := h
    rw [g] at h; omega
  · intro t _
    show 0 ≤ stt (List.replicate n ((0 : Int), (-1 : Int))) t ∧ stt (List.replicate n ((0 : Int), (-1 : Int))) t ≤ 4
    rw [g]; omega
end Go.Proofs.Ytoohkcpkodpnmaa.FlatP
