/- Rows of bands of the call's own: slices of slices of numbers that grow by append. -/
import Derived.Test.YtinjjaahljkhdaaV9
import Derived.Test.YtinjjaahljkhdaaPq
namespace Go.Proofs.Ytinjjaahljkhdaa
open Go.RowKit

/-- v is a slice of slices of the call's own that reads as ll; the numbers lie in other blocks. -/
def OwnB (base : Nat) (w : World) (v : Value) (ll : List (List Int)) : Prop :=
  ∃ cs : List Value, w.ownsRow base 25 1 v ll.length cs ∧ ∀ (k : Nat) l, ll[k]? = some l → ∃ C c, cs[k]? = some (.slice C l.length c) ∧ Ints w C l ∧ (l ≠ [] → ∀ a, C = some a → base ≤ a.block ∧ some a.block ≠ v.ownBlock)
theorem OwnB.nil {base : Nat} {w : World} : OwnB base w (.slice none 0 0) [] := ⟨[], World.ownsRow_nil _ _ _ _, fun k s h => by simp at h⟩
theorem OwnB.grow {base : Nat} {w w' : World} {v : Value} {ll : List (List Int)} (h : OwnB base w v ll) (hb : Below w.heap.size w w') : OwnB base w' v ll := by
  obtain ⟨cs, h1, h2⟩ := h
  refine ⟨cs, own_grow h1 hb, fun k s hk => ?_⟩
  obtain ⟨C, c, c0, hi, hn⟩ := h2 k s hk
  exact ⟨C, c, c0, hi.grow hb, hn⟩
theorem OwnB.base {base base' : Nat} {w : World} {v : Value} {ll : List (List Int)} (h : OwnB base w v ll) (hb : base' ≤ base) : OwnB base' w v ll := by
  obtain ⟨cs, h1, h2⟩ := h
  refine ⟨cs, own_base h1 hb, fun k s hk => ?_⟩
  obtain ⟨C, c, c0, hi, hn⟩ := h2 k s hk
  exact ⟨C, c, c0, hi, fun hl a ha => ⟨Nat.le_trans hb (hn hl a ha).1, (hn hl a ha).2⟩⟩
theorem Ints.other {w : World} {g k : Nat} {C : Option Addr} {l : List Int} {u : Value} (h : Ints w C l) (hn : l ≠ [] → ∀ a, C = some a → a.block ≠ g) : Ints (w.setCell ⟨g, k, none⟩ u) C l :=
  h.kept (grown_set (grown_refl w (some g))) (fun hl a ha e => by injection e with e; exact hn hl a ha e)
theorem OwnB.store {base g k : Nat} {w : World} {v u : Value} {ll : List (List Int)} (h : OwnB base w v ll) (hg : g < base) : OwnB base (w.setCell ⟨g, k, none⟩ u) v ll := by
  obtain ⟨cs, h1, h2⟩ := h
  refine ⟨cs, own_store h1 hg, fun k s hk => ?_⟩
  obtain ⟨C, c, c0, hi, hn⟩ := h2 k s hk
  exact ⟨C, c, c0, hi.other (fun hl a ha => by have := (hn hl a ha).1; omega), hn⟩
theorem OwnB.lt {base : Nat} {w : World} {v : Value} {ll : List (List Int)} (h : OwnB base w v ll) : ∀ b, v.ownBlock = some b → base ≤ b ∧ b < w.heap.size := fun b hb => by
  obtain ⟨cs, h1, _⟩ := h
  exact h1.lt b hb
theorem OwnB.form {base : Nat} {w : World} {v : Value} {ll : List (List Int)} (h : OwnB base w v ll) : ∃ A c, v = .slice A ll.length c ∧ IntsL w A ll := by
  obtain ⟨cs, h1, h2⟩ := h
  obtain ⟨A, c, rfl, _⟩ := own_form h1
  refine ⟨A, c, rfl, fun k l hk => ?_⟩
  obtain ⟨C, d, c0, hi, _⟩ := h2 k l hk
  obtain ⟨g, e0, hg, d0⟩ := own_cells h1 c0
  exact ⟨_, C, d, e0, hg, by rw [add_cellsB]; exact d0, hi⟩
theorem app_band {ops : Array Oper} {rest : List Oper} {o : Oper} {a : Act} {Q : Exit → Act → World → Prop} (W : World) (hgd : o.guard = none) (s x : Operand) (ho : o.op = .call { callee := .builtin .append, args := #[s, x], argTypes := #[42, 42] })
    (base : Nat) {v : Value} {ll : List (List Int)} {l : List Int} {n : Nat} {C : Option Addr} {c : Nat} (hown : OwnB base W v ll) (hs : a.eval s = v) (hx : a.eval x = .slice (some ⟨W.heap.size, 0, none⟩) 1 1) (hln : l.length = n) (hC : Ints W C l) (hne : l ≠ [] → ∀ a, C = some a → base ≤ a.block ∧ some a.block ≠ v.ownBlock)
    (hn : ll.length ≤ 1000) (hbase : base ≤ W.heap.size)
    (h : ∀ v' w', OwnB base w' v' (ll ++ [l]) → Below base W w' → (W.alloc (.cells #[.slice C n c] 25)).grownBy w' v.ownBlock → (v'.ownBlock = v.ownBlock ∨ v'.ownBlock = some (W.heap.size + 1)) → wpList Try.prog ops Q rest (a.put o.dst v') w') :
    wpList Try.prog ops Q (o :: rest) a (W.alloc (.cells #[.slice C n c] 25)) := by
  subst hln
  obtain ⟨i0, hi, hz0, hz1, hz2⟩ := info_parts info_ints
  obtain ⟨cs, hr, hcs⟩ := hown
  have hba := (Below.refl W.heap.size W).alloc (Nat.le_refl _) (.cells #[.slice C l.length c] 25)
  have hb0 := (Below.refl base W).alloc hbase (.cells #[.slice C l.length c] 25)
  obtain ⟨v', w', hrun, hr', hg, _, hob⟩ := run_append_own_at (P := Try.prog) (W.alloc (.cells #[.slice C l.length c] 25)) base 42 o.type 25 i0 _ 1 24 Try.underlying42 hi hz0 hz1 hz2 rfl (by decide) v ll.length cs (hr.alloc _) ⟨W.heap.size, 0, none⟩ 1 1 [.slice C l.length c] rfl
    (fun j u hu => by
      rw [add_cellsB]
      match j, hu with
      | 0, hu => simp at hu; subst hu; simp [go_sem])
    (fun u hu => by simp at hu; subst hu; rfl) (by unfold maxLen; omega) (by omega) (by simp; omega)
  refine wpList_plain hgd fun K hK => ?_
  unfold Oper.wp execOp
  simp only [ho, resolve, invoke, builtin, Sem.run_bind, Sem.run_pure, Result.andThen_ok, List.map_toArray, List.map_cons, List.map_nil, hs, hx, hrun]
  refine hK _ _ (h v' w' ?_ ?_ hg (by rcases hob with h1 | h1; exact .inl h1; exact .inr (by rw [h1]; simp)))
  · have keep : ∀ (C : Option Addr) (l : List Int), Ints W C l → (l ≠ [] → ∀ a, C = some a → base ≤ a.block ∧ some a.block ≠ v.ownBlock) → Ints w' C l ∧ (l ≠ [] → ∀ a, C = some a → base ≤ a.block ∧ some a.block ≠ v'.ownBlock) := fun C l hI hn => by
      refine ⟨(hI.grow hba).kept hg (fun hl a ha => (hn hl a ha).2), fun hl a ha => ⟨(hn hl a ha).1, fun e => ?_⟩⟩
      rcases hob with h1 | h1
      · exact (hn hl a ha).2 (e.trans h1)
      · rw [h1] at e
        injection e with e
        have := hI.block hl ha
        simp at e
        omega
    refine ⟨cs ++ [.slice C l.length c], by rw [List.length_append]; exact hr', fun k s hk => ?_⟩
    have hlen := hr.1
    rw [List.getElem?_append] at hk
    split at hk
    · rename_i hlt
      obtain ⟨C', c', c0, hI, hn'⟩ := hcs k s hk
      obtain ⟨k1, k2⟩ := keep C' _ hI hn'
      refine ⟨C', c', ?_, k1, k2⟩
      rw [List.getElem?_append_left (by omega)]; assumption
    · rename_i hlt
      have hk0 : k = ll.length := by
        rcases Nat.lt_or_ge (k - ll.length) 1 with h | h
        · omega
        · rw [List.getElem?_eq_none (by simpa using h)] at hk; cases hk
      subst hk0
      simp at hk
      subst hk
      obtain ⟨k1, k2⟩ := keep C _ hC hne
      refine ⟨C, c, ?_, k1, k2⟩
      rw [List.getElem?_append_right (by omega), show ll.length - cs.length = 0 by omega]; rfl
  · exact hb0.grown hg (by simp; omega) (fun k hk => (hr.lt k hk).1)
end Go.Proofs.Ytinjjaahljkhdaa
