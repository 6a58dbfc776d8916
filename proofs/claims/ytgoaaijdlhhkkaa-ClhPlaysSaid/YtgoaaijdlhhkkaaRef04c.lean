/- The document's port: its accesses in one contract; New. -/
import Derived.Test.YtgoaaijdlhhkkaaRef04b
namespace Go.Proofs.Ytgoaaijdlhhkkaa.Ref04
open Go Go.RowKit Go.Proofs.Ytgoaaijdlhhkkaa.Heap Go.Proofs.Ytgoaaijdlhhkkaa.Open Go.Proofs.Ytgoaaijdlhhkkaa.Has Go.Proofs.Ytgoaaijdlhhkkaa.Mem

/-- An access of the document's port: what it tells, the words and the touches behind it. -/
def step04 (k : Nat) (ws : List Int) (l : List T) (t q a o x : Int) : (Int × Int) × List Int × List T :=
  if inR k ws.length t q a = true then ((step02 ws q a o x).1, (step02 ws q a o x).2, l ++ [⟨t, a, decide (1 < q)⟩]) else ((0, 0), ws, l)
theorem inR_nat {k n : Nat} {t q a : Int} (h : inR k n t q a = true) : ∃ t' a' : Nat, t = t' ∧ a = a' ∧ t' < k ∧ a' < n ∧ 1 ≤ q ∧ q ≤ 5 := by
  simp [inR, inB] at h
  exact ⟨t.toNat, a.toNat, by omega, by omega, by omega, by omega, by omega, by omega⟩
theorem doR (w : World) (p : Nat) (S : Nat → Prop) (k : Nat) (ws : List Int) (l : List T) (h : RO w p S k ws l) (hf : l.length < 1000000) (hk : k ≤ 64) (hws : ws.length ≤ 100000) (t q a o x : Int) :
    Calls Try.prog 99 #[.pointer (some ⟨p, 0, none⟩), .int .i64 t, .agg #[.int .i64 q, .int .i64 a, .int .u32 o, .int .u32 x]] w fun e w' =>
      e = .returned (.tuple #[.int .u32 (step04 k ws l t q a o x).1.1, .int .i64 (step04 k ws l t q a o x).1.2]) ∧ ∃ S', RO w' p S' k (step04 k ws l t q a o x).2.1 (step04 k ws l t q a o x).2.2 ∧ Upd S w w' ∧ (∀ b, S' b → S b ∨ w.heap.size ≤ b) := by
  unfold step04
  cases hi : inR k ws.length t q a with
  | false =>
    rw [if_neg (by decide)]
    exact (do_no w p S k ws l h t q a o x hi).mono fun e w' ⟨he, hb⟩ => ⟨he, S, h.below hb, Upd.of_below hb, fun _ hb => .inl hb⟩
  | true =>
    rw [if_pos rfl]
    obtain ⟨t', a', rfl, rfl, h1, h2, h3, h4⟩ := inR_nat hi
    exact (do_yes w p S k ws l h hf hk hws t' q a' o x _ _ h1 h2 h3 h4 rfl rfl _ _ _ rfl).mono fun e w' ⟨he, ho, hu⟩ => ⟨he, _, ho, hu, fun b hb => hb.imp id fun x => x.1⟩
theorem info_three : (Try.prog.info? 133).map (fun i => (i.zero, i.size, i.bytes)) = some (some (.agg #[.int .i64 0, .int .i64 0, .int .i64 0]), 3, 24) := by kernel_rfl
theorem cnts3_zero (k : Nat) : Cnts3 k [] (List.replicate (k * 3) (.int .i64 0)) := by
  refine ⟨by simp, fun t ht => ⟨?_, ?_, ?_⟩⟩
  · rw [List.getElem?_replicate_of_lt (by omega)]; rfl
  · rw [List.getElem?_replicate_of_lt (by omega)]; rfl
  · rw [List.getElem?_replicate_of_lt (by omega)]; rfl
set_option maxHeartbeats 1000000 in
theorem newR (w : World) (k : Nat) (v : Value) (ws : List Int) (h : Src1 w v .u32 ws) (hk : k ≤ 64) (hws : ws.length ≤ 100000) :
    Calls Try.prog 30 #[.int .i64 k, v] w fun e w' => ∃ p, e = .returned (.pointer (some ⟨p, 0, none⟩)) ∧ RO w' p (Btw w w') k ws [] ∧ Below w.heap.size w w' := by
  have hread := h.readable
  obtain ⟨ad, cap, rfl, -, -⟩ := h
  have hmk := run_make_many (P := Try.prog) 113 133 (.agg #[.int .i64 0, .int .i64 0, .int .i64 0]) (.int .i64 0) 3 24 Try.underlying113 info_three (by intro i hi; match i, hi with | 0, _ => rfl | 1, _ => rfl | 2, _ => rfl) (by decide) k (by omega) (by omega)
  have A0 : ∀ o1 o2, Below w.heap.size w ((w.alloc o1).alloc o2) := fun o1 o2 => ((Below.refl _ _).alloc (Nat.le_refl _) _).alloc (by simp) _
  have R0 : ∀ o1 o2, Readable ((w.alloc o1).alloc o2) (.slice ad ws.length cap) ws.length (ints .u32 ws) := by
    intro o1 o2
    rcases hread with h | ⟨ad', c', e, hc⟩
    · exact .inl h
    · exact .inr ⟨ad', c', e, fun j u hj => ((A0 o1 o2).cell (World.block_lt_of_cell? w _ (hc j u hj))).trans (hc j u hj)⟩
  clear hread
  go_enter Try.func30, Try.ntmps30
  go_wp2_with (at_builtin; refine wpList_append_src rfl (.tmp 15) (.tmp 16) 53 rfl (w.heap.size + 1 + 1) 27 (.int .u32 0) 1 4 Try.underlying53 info_u32 rfl (by decide) (.slice none 0 0) 0 [] rfl (World.ownsRow_nil _ _ _ _) _ ws.length (ints .u32 ws) rfl (R0 _ _) (ints_len1 ws) (ints_one ws) (by unfold maxLen; omega) (by omega) (by simp) ?_; intro v' w1 hown1 u1 hnear; rw [Nat.zero_add, List.nil_append] at hown1; have hcn : Row w1 w.heap.size (List.replicate (k * 3) (.int .i64 0)) := ((Row.ofZeros rfl).alloc _).upd u1 (by simp [Value.ownBlock]); have htop : Row w1 (w.heap.size + 1) [.slice none 0 0, .int .i64 k, .slice none 0 0, .slice (some ⟨w.heap.size, 0, none⟩) k k] := (Row.new' (by simp)).upd u1 (by simp [Value.ownBlock]); have B1 : Below w.heap.size w w1 := u1.below (A0 _ _) (by simp; omega) (by intro i hi; simp [Value.ownBlock] at hi); obtain ⟨ua, uc, rfl⟩ := owned_len1 hown1; have q0 := htop.cell (i := 0) rfl; have qz := htop.frozen 0; clear hnear u1)
  clear hmk
  go_ret
  have hup : Upd (fun k => k = w.heap.size + 1) w1 (w1.setCell ⟨w.heap.size + 1, 0, none⟩ (.slice ua ws.length uc)) := Upd.one _ _ _ _
  have hl1 := htop.lt
  have hob : ∀ b, (Value.slice ua ws.length uc).ownBlock = some b → w.heap.size + 1 + 1 ≤ b ∧ b < w1.heap.size := fun b hb => ⟨(own_lt hown1 hb).2, (own_lt hown1 hb).1⟩
  refine ⟨_, rfl, ⟨⟨.slice ua ws.length uc, .slice none 0 0, w.heap.size, htop.set 0 _, ?_, ?_, OwnS.nil _ _ _ _, lies_none, ?_, ⟨_, hcn.upd hup (by omega), cnts3_zero k⟩, ?_, ?_, by omega⟩, fun b hb => hb.2⟩, B1.setCell (show w.heap.size ≤ w.heap.size + 1 by omega) _⟩
  · exact Mem.Src1.keep (S := fun b => b ≠ w.heap.size + 1) (Src1.of_owned hown1) (fun b hb => by have := hob b hb; omega) hup (fun _ hb => hb)
  · intro b hb
    have := hob b hb
    exact ⟨⟨by omega, by simp; omega⟩, by omega, by omega⟩
  · intro b _; simp [Value.ownBlock]
  · exact ⟨by omega, by simp; omega⟩
  · exact ⟨Nat.le_refl _, by simp; omega⟩
end Go.Proofs.Ytgoaaijdlhhkkaa.Ref04
