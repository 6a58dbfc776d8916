/- Layer 22 (section): a copy of deeds; the runner, step by step. -/
import Derived.Test.YtpagebcokikmkaaSecB
import Derived.Lib.SliceRun
namespace Go.Proofs.Ytpagebcokikmkaa.Sec
open Go Go.RowKit Go.Deep Go.Proofs.Ytpagebcokikmkaa.Heap Go.Proofs.Ytpagebcokikmkaa.Open

/-- A slice of deeds that can be read. -/
def Src (w : World) (v : Value) (xs : List D) : Prop :=
  (v = .slice none 0 0 ∧ xs = []) ∨ ∃ ad cap, v = .slice (some ad) xs.length cap ∧ ∀ j u, (flat xs)[j]? = some u → w.cell? (ad.add j) = some u

theorem Src.of_owned {w : World} {B : Nat} {e : TypeId} {v : Value} {xs : List D} (h : w.ownsRow B e 3 v xs.length (flat xs)) : Src w v xs := by
  rcases id h.2 with ⟨rfl, h0⟩ | ⟨g, cap, cur, rfl, hB, hh, hc1, hc2, hc3, hc4⟩
  · exact .inl ⟨rfl, List.eq_nil_of_length_eq_zero h0⟩
  · exact .inr ⟨_, cap, rfl, h.cells rfl⟩
theorem Src.of_deeds {w : World} {v : Value} {xs : List D} (h : Deeds w v xs) (hn : ∀ len cap, v = .slice none len cap → cap = 0) : Src w v xs := by
  obtain ⟨⟨a, cap, rfl, h1, h2, h3⟩, h4, h5⟩ := h
  cases a with
  | none =>
    obtain rfl := hn _ _ rfl
    have h0 : xs.length = 0 := by omega
    refine .inl ⟨by rw [h0], List.eq_nil_of_length_eq_zero h0⟩
  | some ad =>
    refine .inr ⟨ad, cap, rfl, fun j u hj => ?_⟩
    have hlt : j < xs.length * 3 := by rw [← flat_len]; exact (List.getElem?_eq_some_iff.1 hj).1
    obtain ⟨b, off, e, hb, hc⟩ := h3 (by omega)
    simp only [Option.some.injEq] at e
    subst e
    have e1 : j = (j / 3) * 3 + j % 3 := by omega
    rw [e1, flat_get xs _ _ (by omega) (by omega)] at hj
    have := hc (j / 3) (by omega) (j % 3) u (by omega) hj
    have e2 : ((⟨b, off, none⟩ : Addr).add j) = ⟨b, off + j / 3 * 3 + j % 3, none⟩ := by
      rw [e1]; exact add_spell b off (j / 3) 3 (j % 3) |>.trans (by congr 1 <;> omega)
    rw [e2]; exact this
theorem Src.len {w : World} {v : Value} {xs : List D} (h : Src w v xs) : ∃ a cap, v = .slice a xs.length cap := by
  rcases h with ⟨rfl, rfl⟩ | ⟨ad, cap, rfl, _⟩
  · exact ⟨_, _, rfl⟩
  · exact ⟨_, _, rfl⟩
theorem Src.cellsIn {w w' : World} {v : Value} {xs : List D} (h : Src w v xs) (hb : Below w.heap.size w w') : Src w' v xs := by
  rcases h with h | ⟨ad, cap, hv, hc⟩
  · exact .inl h
  · refine .inr ⟨ad, cap, hv, fun j u hj => ?_⟩
    have := hc j u hj
    exact (hb.cell (World.block_lt_of_cell? w _ this)).trans this

theorem Src.readable {w : World} {v : Value} {xs : List D} (h : Src w v xs) : Readable w v xs.length (flat xs) := by
  rcases h with ⟨h1, rfl⟩ | ⟨ad, cap, hv, hc⟩
  · exact .inl ⟨h1, rfl, rfl⟩
  · exact .inr ⟨ad, cap, hv, hc⟩
theorem info_deed : (Try.prog.info? 30).map (fun i => (i.zero, i.size, i.bytes)) = some (some (.agg #[.int .i64 0, .int .i64 0, .int .u32 0]), 3, 24) := by kernel_rfl

theorem own_empty (w : World) (T : TypeId) : (w.alloc (.cells #[] T)).ownsRow w.heap.size T 3 (.slice (some ⟨w.heap.size, 0, none⟩) 0 0) 0 [] :=
  ⟨rfl, .inr ⟨w.heap.size, 0, #[], rfl, Nat.le_refl _, by show (w.heap.push _)[w.heap.size]? = _; simp, Nat.le_refl _, by unfold maxLen; omega, rfl, rfl⟩⟩

theorem clone_all (w : World) (v : Value) (xs : List D) (h : Src w v xs) (hfit : xs.length * 24 ≤ 140737488351232) : Calls Try.prog 18 #[v] w fun e w' =>
    ∃ u, e = .returned u ∧ w'.ownsRow w.heap.size 30 3 u xs.length (flat xs) ∧ Upd (fun _ => False) w w' := by
  have e0 : ∀ (a : Option Addr) (n c : Nat) (w : World), (binOp .eql 25 (.slice a n c) (.slice none 0 0)).run Try.prog w = .ok (.bool a.isNone) w := fun a n c w => Lib.run_eql_slice_nil w _ 30 a n c 0 0 Try.underlying25
  rcases h with ⟨rfl, rfl⟩ | ⟨ad, cap, rfl, hc⟩
  · go_enter Try.func18, Try.ntmps18
    go_wp2
    go_ret
    exact ⟨_, rfl, World.ownsRow_nil _ _ _ _, Upd.refl _ _⟩
  · go_enter Try.func18, Try.ntmps18
    go_wp2_with (at_builtin; refine wpList_append_near rfl (.tmp 5) (.tmp 6) 25 rfl w.heap.size 30 (.agg #[.int .i64 0, .int .i64 0, .int .u32 0]) 3 24 Try.underlying25 info_deed rfl (by decide) (.slice (some ⟨w.heap.size, 0, none⟩) 0 0) 0 [] rfl (own_empty w _) ad xs.length cap (flat xs) rfl (flat_len xs) (fun j u hj => ((Below.refl w.heap.size w).alloc (Nat.le_refl _) _ |>.cell (World.block_lt_of_cell? w _ (hc j u hj))).trans (hc j u hj)) (flat_one xs) (by unfold maxLen; omega) (by omega) (by simp) ?_; intro v' w1 hown1 hgr hnear; rw [Nat.zero_add, List.nil_append] at hown1; have B1 : Below w.heap.size w w1 := ((Below.refl w.heap.size w).alloc (Nat.le_refl _) _).grown hgr (by simp) (fun b hb => by simp [Value.ownBlock] at hb; omega); clear hnear hgr)
    go_ret
    exact ⟨_, rfl, hown1, Upd.of_below B1⟩
end Go.Proofs.Ytpagebcokikmkaa.Sec
