/- Arrays of integers, by value: opened as an argument, compared, loaded whole. No program in sight. -/
import Derived.Test.YtnmldhagdgghoaaHeap
import Derived.ChangeSame
import Derived.ChangeKeysEq
import Derived.Deep.Slices
import Derived.OpenShut
import Derived.ProofKit
namespace Go.Proofs.Ytnmldhagdgghoaa.Heap
open Go Go.RowKit Go.ChangeShapes Go.WideShapes

/-- An array of integers. -/
def ints (k : IntKind) (xs : List Int) : List Value := xs.map (Value.int k)
theorem ints_get {k : IntKind} {xs : List Int} {i : Nat} (h : i < xs.length) : (ints k xs)[i]? = some (.int k (xs.getD i 0)) := by simp [ints, List.getD, h]
theorem ints_len {k : IntKind} {xs : List Int} : (ints k xs).length = xs.length := by simp [ints]
theorem ints_set {k : IntKind} (xs : List Int) (i : Nat) (x : Int) : ints k (xs.set i x) = (ints k xs).set i (.int k x) := by simp [ints, List.map_set]

theorem open_array_ints {H : Type} {enc : TypeId × Value → H} {P : Program} {w : World} {base : Nat} {spare : Nat → Bool} {held : Bool} {b0 : Nat} {n : Nat} {t e : TypeId} {k : IntKind} {v : Value} {d : DataW H} {p : List MemPlace}
    (ht : P.underlying t = some (.array n e)) (he : P.underlying e = some (.int k)) (hc : P.cellsOf t = n) (hce : P.cellsOf e = 1)
    (hv : Value.okWide P w .any b0 t v) (h : DataW.Trod enc P w base spare held t v d p) : ∃ xs : List Int, v = .agg (ints k xs).toArray ∧ xs.length = n ∧ ∀ x ∈ xs, (Lit.int k x).wf = true := by
  simp only [Value.okWide, ht] at hv
  obtain ⟨cs, rfl, h2, _⟩ := hv
  rw [hc] at h2
  obtain ⟨fuel, hf⟩ := h
  obtain ⟨ys, m, rfl, _, _, hy, hg⟩ := DataW.trod_array ht hf
  have key : ∀ i, i < n → ∃ x : Int, cs.toList[i]? = some (.int k x) ∧ (Lit.int k x).wf = true := by
    intro i hi
    have h1 := hg i hi
    rw [hce] at h1
    have hl : i < cs.toList.length := by simp; omega
    have e1 : (((Value.agg cs).cells.toList.drop (i * 1)).take 1) = [cs.toList[i]] := by
      rw [Nat.mul_one]
      show (cs.toList.drop i).take 1 = _
      rw [List.drop_eq_getElem_cons hl]; rfl
    rw [e1] at h1
    have hys : ys[i]? = some (ys[i]'(by omega)) := List.getElem?_eq_getElem (by omega)
    obtain ⟨q, e2, _, e3⟩ := DataW.trod_int he (h1.trans hys)
    simp only [List.cons.injEq, and_true] at e2
    exact ⟨q, by rw [List.getElem?_eq_getElem hl, e2], e3⟩
  obtain ⟨f, hF⟩ := Go.Deep.choose_lt key
  refine ⟨(List.range n).map f, ?_, by simp, ?_⟩
  · congr 1
    apply Array.toList_inj.1
    apply List.ext_getElem?
    intro i
    by_cases hi : i < n
    · rw [(hF i hi).1]; simp [ints, hi]
    · rw [List.getElem?_eq_none (by simp; omega), List.getElem?_eq_none (by simp [ints]; omega)]
  · intro x hx
    obtain ⟨i, hi, rfl⟩ := List.mem_map.1 hx
    exact (hF i (by simpa using hi)).2

/-- A load of a whole array or struct from a block that is known whole. -/
theorem wpList_load_whole {P : Program} {ops : Array Oper} {rest : List Oper} {o : Oper} {a : Act} {w : World} {Q : Exit → Act → World → Prop} (hgd : o.guard = none) (ty : TypeId) (x : Operand) (ho : o.op = .load ty x)
    (g : Nat) (hx : a.eval x = .pointer (some ⟨g, 0, none⟩)) {l : List Value} (hg : Row w g l) (d : TypeDesc) (hu : P.underlying ty = some d) (hd : (match d with | .struct _ | .array _ _ => true | _ => false) = true)
    (hi : (P.info? ty).map (·.size) = some l.length) (h : wpList P ops Q rest (a.put o.dst (.agg l.toArray)) w) : wpList P ops Q (o :: rest) a w := by
  obtain ⟨T, hT⟩ := id hg
  exact wpList_load_row hgd ty x ho g hx T _ (0, 0) d hT hu hd (by simpa using hi) h

/-- A result that lives in a variable: an array or a struct, its block known whole. -/
theorem results_cell_whole {P : Program} {fn : Func} {p : Tmp} {ty : TypeId} (h : fn.results = #[.cell p ty]) (tmps : Array Value) (w : World) (g : Nat) {l : List Value}
    (hp : tmps.getD p undef = .pointer (some ⟨g, 0, none⟩)) (hg : Row w g l) (d : TypeDesc) (hu : P.underlying ty = some d) (hd : (match d with | .struct _ | .array _ _ => true | _ => false) = true) (hi : (P.info? ty).map (·.size) = some l.length) :
    (results fn tmps).run P w = .ok (.agg l.toArray) w := by
  obtain ⟨T, hT⟩ := id hg
  exact results_cell_row h tmps w g T _ (0, 0) d hp hT hu hd (by simpa using hi)

theorem all_range_ints : ∀ (xs ys : List Int), xs.length = ys.length → ((List.range xs.length).all fun i => xs.getD i 0 == ys.getD i 0) = (xs == ys)
  | [], [], _ => rfl
  | x :: xs, y :: ys, h => by
    have ih := all_range_ints xs ys (by simpa using h)
    rw [List.length_cons, List.range_succ_eq_map, List.all_cons, List.all_map]
    simp only [List.getD_cons_zero, Function.comp_def, List.getD_cons_succ, ih]
    simp [List.cons_beq_cons]
  | [], _ :: _, h => by simp at h
  | _ :: _, [], h => by simp at h

theorem run_equalIn_ints {P : Program} (w : World) (d : Nat) (t e : TypeId) (n : Nat) (k : IntKind) (ht : P.underlying t = some (.array n e)) (he : P.underlying e = some (.int k)) {i : TypeInfo} (hi : P.info? e = some i) (hs : P.cellsOf e = 1)
    (xs ys : List Int) (hx : xs.length = n) (hy : ys.length = n) : (Op.equalIn (d + 2) t (.agg (ints k xs).toArray) (.agg (ints k ys).toArray)).run P w = .ok (xs == ys) w := by
  have hsz : ∀ w, (sizeOf e).run P w = .ok 1 w := fun w => by rw [run_sizeOf w hi, hs]
  rw [← all_range_ints xs ys (hx.trans hy.symm), hx, List.range_eq_range', Op.equalIn]
  simp only [Sem.run_bind, run_underlying ht, Result.andThen_ok, hsz, Std.Legacy.Range.forIn_eq_forIn_range', Std.Legacy.Range.size, Nat.sub_zero, Nat.add_sub_cancel, Nat.div_one]
  have hl : ∀ i ∈ List.range' 0 n 1, i < n := fun i hi => by simpa using (List.mem_range'_1.1 hi).2
  generalize List.range' 0 n 1 = l at hl ⊢
  induction l with
  | nil => simp
  | cons i l ih =>
    have hi : i < n := hl i (by simp)
    have px : (part e (ints k xs).toArray (i * 1)).run P w = .ok (.int k (xs.getD i 0)) w := by
      simp [part, isAgg, run_underlying he, List.getD, ints, List.getElem?_eq_getElem (show i < xs.length by omega)]
    have py : (part e (ints k ys).toArray (i * 1)).run P w = .ok (.int k (ys.getD i 0)) w := by
      simp [part, isAgg, run_underlying he, List.getD, ints, List.getElem?_eq_getElem (show i < ys.length by omega)]
    have pe : (Op.equalIn (d + 1) e (.int k (xs.getD i 0)) (.int k (ys.getD i 0))).run P w = .ok (xs.getD i 0 == ys.getD i 0) w := run_equalIn_int w d e k k _ _ he
    simp only [List.forIn_cons, Sem.run_bind, px, py, pe, Result.andThen_ok, List.all_cons]
    cases hb : (xs.getD i 0 == ys.getD i 0)
    · simp
    · simp only [Bool.not_true, Bool.false_eq_true, if_false, Sem.run_pure, Result.andThen_ok, Bool.true_and]
      exact ih fun j hj => hl j (by simp [hj])
theorem run_eql_ints {P : Program} (w : World) (t e : TypeId) (n : Nat) (k : IntKind) (ht : P.underlying t = some (.array n e)) (he : P.underlying e = some (.int k)) {i : TypeInfo} (hi : P.info? e = some i) (hs : P.cellsOf e = 1)
    (xs ys : List Int) (hx : xs.length = n) (hy : ys.length = n) : (binOp .eql t (.agg (ints k xs).toArray) (.agg (ints k ys).toArray)).run P w = .ok (.bool (xs == ys)) w := by
  rw [run_eql_struct, run_equalIn_ints w 9998 t e n k ht he hi hs xs ys hx hy]
  rfl
theorem run_neq_ints {P : Program} (w : World) (t e : TypeId) (n : Nat) (k : IntKind) (ht : P.underlying t = some (.array n e)) (he : P.underlying e = some (.int k)) {i : TypeInfo} (hi : P.info? e = some i) (hs : P.cellsOf e = 1)
    (xs ys : List Int) (hx : xs.length = n) (hy : ys.length = n) : (binOp .neq t (.agg (ints k xs).toArray) (.agg (ints k ys).toArray)).run P w = .ok (.bool (!(xs == ys))) w := by
  rw [run_neq_struct, run_equalIn_ints w 9998 t e n k ht he hi hs xs ys hx hy]
  rfl
end Go.Proofs.Ytnmldhagdgghoaa.Heap
