/- Layer 22 (section): whether deeds are a section; the runner. -/
import Derived.Test.YtpagebcokikmkaaSecA
namespace Go.Proofs.Ytpagebcokikmkaa.Sec
open Go Go.RowKit Go.Deep Go.Proofs.Ytpagebcokikmkaa.Heap Go.Proofs.Ytpagebcokikmkaa.Open

def fine (xs : List D) : Bool := xs.all D.may && decide (xs.length ≤ 64)
theorem owned_flat {w : World} {B : Nat} {e : TypeId} {v : Value} {xs : List D} (h : w.ownsRow B e 3 v xs.length (flat xs)) (hn : 0 < xs.length) :
    ∃ g cap, v = .slice (some ⟨g, 0, none⟩) xs.length cap ∧ B ≤ g ∧ g < w.heap.size ∧ ∀ k, k < xs.length → w.cell? ⟨g, k * 3, none⟩ = some (.int .i64 (xs.getD k default).k) ∧ w.cell? ⟨g, k * 3 + 1, none⟩ = some (.int .i64 (xs.getD k default).c) ∧ w.cell? ⟨g, k * 3 + 2, none⟩ = some (.int .u32 (xs.getD k default).n) := by
  obtain ⟨g, cap, hv, hB, hr⟩ := owned h hn
  refine ⟨g, cap, hv, hB, hr.lt, fun k hk => ⟨?_, ?_, ?_⟩⟩
  · exact hr.cell ((flat_get xs k 0 hk (by decide)).trans rfl)
  · exact hr.cell ((flat_get xs k 1 hk (by decide)).trans rfl)
  · exact hr.cell ((flat_get xs k 2 hk (by decide)).trans rfl)
/-- The value of a slice of so many. -/
theorem owned_len {w : World} {B : Nat} {e : TypeId} {size : Nat} {v : Value} {n : Nat} {l : List Value} (h : w.ownsRow B e size v n l) : ∃ a cap, v = .slice a n cap := by
  rcases h.2 with ⟨rfl, rfl⟩ | ⟨g, cap, cur, rfl, _⟩
  · exact ⟨_, _, rfl⟩
  · exact ⟨_, _, rfl⟩

set_option maxHeartbeats 1000000 in
theorem fine_all (w : World) (v : Value) (xs : List D) (h : Deeds w v xs) : Calls Try.prog 7 #[v] w fun e w' => e = .returned (.bool (fine xs)) ∧ Upd (fun _ => False) w w' := by
  have hlen : ∃ a cap, v = .slice a xs.length cap := by obtain ⟨⟨ao, cap, rfl, _⟩, _, _⟩ := h; exact ⟨_, _, rfl⟩
  have hfit := h.fit
  go_enter Try.func7, Try.ntmps7
  go_wp2_with fail
  refine (ref_all _ v xs h).mono ?_
  rintro e w1 ⟨u, rfl, hown, hupd⟩
  obtain ⟨a, cap, rfl⟩ := hlen
  obtain ⟨ua, ucap, hu⟩ := owned_len hown
  have hbel := hupd.none
  clear h hupd
  have hnil : xs.length = 0 ∨ 0 < xs.length := by omega
  rcases hnil with hnil | hpos
  · obtain rfl : xs = [] := List.eq_nil_of_length_eq_zero hnil
    subst hu
    go_wp2
    go_loopw [8] (fun i wr => i = .int .i64 0 ∧ wr = w1) (fun i _ => 0 - (intOf i).toNat)
    case atStart => exact ⟨rfl, rfl⟩
    case round =>
      obtain ⟨rfl, rfl⟩ := hrel
      go_wp2
      go_ret
      exact ⟨rfl, Upd.of_below hbel⟩
  · obtain ⟨g, cap2, hv, hB, hg, hcell⟩ := owned_flat hown hpos
    subst hv
    clear hu hown
    go_wp2
    go_loopw [8] (fun i wr => ∃ k : Nat, k ≤ xs.length ∧ i = .int .i64 k ∧ (xs.take k).all D.may = true ∧ Below w.heap.size w wr ∧ Below w1.heap.size w1 wr) (fun i _ => xs.length - (intOf i).toNat)
    case atStart => exact ⟨0, Nat.zero_le _, rfl, rfl, hbel, Below.refl _ _⟩
    case round =>
      obtain ⟨k, hk, rfl, hall, B0, B1⟩ := hrel
      by_cases hlt : k < xs.length
      · obtain ⟨c0, c1, c2⟩ := hcell k hlt
        have c0 := (B1.cell (p := ⟨g, k * 3, none⟩) hg).trans c0
        have c1 := (B1.cell (p := ⟨g, k * 3 + 1, none⟩) hg).trans c1
        have c2 := (B1.cell (p := ⟨g, k * 3 + 2, none⟩) hg).trans c2
        obtain ⟨x, hx⟩ : ∃ x, xs.getD k default = x := ⟨_, rfl⟩
        rw [hx] at c0 c1 c2
        have hs := take_snoc xs k hlt
        rw [hx] at hs
        have hfine : fine xs = true → x.may = true := by
          intro hf
          simp only [fine, Bool.and_eq_true, List.all_eq_true] at hf
          exact hf.1 x (by rw [← hx, getD_lt _ _ _ hlt]; exact List.getElem_mem hlt)
        have HS := Lib.hid hs
        have hz1 := B1.size
        have hz0 := hbel.size
        clear hx hs hcell
        go_wp2_with fail
        refine (may_all _ x).mono ?_
        rintro e w2 ⟨rfl, u2⟩
        have u3 := u2.none
        have B2 : Below w.heap.size w w2 := (B0.alloc (by omega) _).trans (u3.mono (by simp; omega))
        have B3 : Below w1.heap.size w1 w2 := (B1.alloc (by omega) _).trans (u3.mono (by simp; omega))
        cases hm : x.may
        · have hf : fine xs = false := by
            cases hf : fine xs
            · rfl
            · rw [hfine hf] at hm; exact Bool.noConfusion hm
          have HF := Lib.hid hf
          clear hfine HS hm hf
          go_wp2
          go_ret
          exact ⟨by rw [HF.out]; rfl, Upd.of_below B2⟩
        · clear hfine
          have hall' : (xs.take (k + 1)).all D.may = true := by rw [HS.out, List.all_append, hall]; simp [hm]
          clear HS hm
          go_wp2
          go_roundw
          case rel => exact ⟨k + 1, by omega, by go_num, hall', B2, B3⟩
          case measure => simp [intOf]; omega
      · obtain rfl : k = xs.length := by omega
        rw [List.take_length] at hall
        have hf : fine xs = decide (xs.length ≤ 64) := by unfold fine; rw [hall, Bool.true_and]
        have HF := Lib.hid hf
        clear hf hall
        go_wp2
        go_ret
        exact ⟨by rw [HF.out]; simp; omega, Upd.of_below B0⟩
end Go.Proofs.Ytpagebcokikmkaa.Sec
