/- Rows of nodes of the call's own. -/
import Derived.Test.YtgabfdappeakiaaU
set_option linter.unusedVariables false
set_option linter.unusedSimpArgs false
namespace Go.Proofs.Ytgabfdappeakiaa
open Go.RowKit

theorem TermsAt.block {w : World} {A : Option Addr} {ts : List (Int × Int)} (h : TermsAt w A ts) (hl : ts ≠ []) {ad : Addr} (e : A = some ad) : ad.block < w.heap.size := by
  obtain ⟨t, ht⟩ : ∃ t, ts[0]? = some t := ⟨_, List.getElem?_eq_getElem (List.length_pos_iff.2 hl)⟩
  obtain ⟨ad', e', hb, _⟩ := h 0 t ht
  rw [e] at e'; injection e' with e'; rw [e']; exact hb
theorem TermsAt.kept {w w' : World} {A : Option Addr} {ts : List (Int × Int)} {r : Option Nat} (h : TermsAt w A ts) (hg : w.grownBy w' r) (hn : ts ≠ [] → ∀ a, A = some a → some a.block ≠ r) : TermsAt w' A ts := by
  cases ts with
  | nil => exact TermsAt.nil
  | cons t l => exact h.grown hg (hn (by simp))
theorem Own.form1 {base : Nat} {w : World} {v : Value} {l : List Int} {x : Int} (h : Own base w v (l ++ [x])) : ∃ A c, v = .slice A (l.length + 1) c := by
  obtain ⟨A, c, e, _⟩ := h.form
  exact ⟨A, c, by rw [e, List.length_append]; rfl⟩
theorem OwnTm.store {base g k : Nat} {w : World} {v u : Value} {ts : List (Int × Int)} (h : OwnTm base w v ts) (hg : g < base) : OwnTm base (w.setCell ⟨g, k, none⟩ u) v ts := ⟨own_store h.1 hg, h.2⟩
theorem OwnTm.form1 {base : Nat} {w : World} {v : Value} {ts : List (Int × Int)} {x : Int × Int} (h : OwnTm base w v (ts ++ [x])) : ∃ A c, v = .slice A (ts.length + 1) c := by
  obtain ⟨A, c, e, _⟩ := h.form
  exact ⟨A, c, by rw [e, List.length_append]; rfl⟩
theorem terms_one {w : World} {f y : Int} {t : TypeId} (h1 : I64 f) (h2 : I64 y) : TermsAt (w.alloc (.cells #[.int .i64 f, .int .i64 y] t)) (some ⟨w.heap.size, 0, none⟩) [(f, y)] := fun k x hk => by
  match k, hk with
  | 0, hk =>
    simp at hk; subst hk
    exact ⟨_, rfl, by simp, by simp [go_sem, Addr.add], by simp [go_sem, Addr.add], h1, h2⟩
theorem info_node : (Try.prog.info? 58).map (fun i => (i.zero, i.size, i.bytes)) = some (some (.agg #[.slice none 0 0]), 1, 24) := by kernel_rfl
/-- v is a slice of nodes of the call's own that reads as ns; the terms lie in other blocks. -/
def OwnNd (base : Nat) (w : World) (v : Value) (ns : List (List (Int × Int))) : Prop :=
  ∃ cs : List Value, w.ownsRow base 58 1 v ns.length cs ∧ ∀ (k : Nat) l, ns[k]? = some l → ∃ C c, cs[k]? = some (.slice C l.length c) ∧ TermsAt w C l ∧ (l ≠ [] → ∀ a, C = some a → base ≤ a.block ∧ some a.block ≠ v.ownBlock)
theorem OwnNd.nil {base : Nat} {w : World} : OwnNd base w (.slice none 0 0) [] := ⟨[], World.ownsRow_nil _ _ _ _, fun k s h => by simp at h⟩
theorem OwnNd.grow {base : Nat} {w w' : World} {v : Value} {ns : List (List (Int × Int))} (h : OwnNd base w v ns) (hb : Below w.heap.size w w') : OwnNd base w' v ns := by
  obtain ⟨cs, h1, h2⟩ := h
  refine ⟨cs, own_grow h1 hb, fun k s hk => ?_⟩
  obtain ⟨C, c, c0, hi, hn⟩ := h2 k s hk
  exact ⟨C, c, c0, hi.grow hb, hn⟩
theorem OwnNd.store {base g k : Nat} {w : World} {v u : Value} {ns : List (List (Int × Int))} (h : OwnNd base w v ns) (hg : g < base) : OwnNd base (w.setCell ⟨g, k, none⟩ u) v ns := by
  obtain ⟨cs, h1, h2⟩ := h
  refine ⟨cs, own_store h1 hg, fun k s hk => ?_⟩
  obtain ⟨C, c, c0, hi, hn⟩ := h2 k s hk
  exact ⟨C, c, c0, hi.kept (grown_set (grown_refl w (some g))) (fun hl a ha e => by injection e with e; have := (hn hl a ha).1; omega), hn⟩
theorem OwnNd.lt {base : Nat} {w : World} {v : Value} {ns : List (List (Int × Int))} (h : OwnNd base w v ns) : ∀ b, v.ownBlock = some b → base ≤ b ∧ b < w.heap.size := fun b hb => by
  obtain ⟨cs, h1, _⟩ := h
  exact h1.lt b hb
theorem OwnNd.form {base : Nat} {w : World} {v : Value} {ns : List (List (Int × Int))} (h : OwnNd base w v ns) : ∃ A c, v = .slice A ns.length c ∧ NodesAt w A ns := by
  obtain ⟨cs, h1, h2⟩ := h
  obtain ⟨A, c, rfl, _⟩ := own_form h1
  refine ⟨A, c, rfl, fun k l hk => ?_⟩
  obtain ⟨C, d, c0, hi, _⟩ := h2 k l hk
  obtain ⟨g, e0, hg, d0⟩ := own_cells h1 c0
  exact ⟨_, C, d, e0, hg, by rw [add_cellsB]; exact d0, hi⟩
theorem OwnNd.away {base g : Nat} {w w' : World} {v : Value} {ns : List (List (Int × Int))} (h : OwnNd base w v ns) (hg : w.grownBy w' (some g)) (hgb : g < base) : OwnNd base w' v ns := by
  obtain ⟨cs, h1, h2⟩ := h
  refine ⟨cs, h1.kept hg (.inr (fun e => by have := (h1.lt _ e).1; omega)), fun k s hk => ?_⟩
  obtain ⟨C, c, c0, hi, hn⟩ := h2 k s hk
  exact ⟨C, c, c0, hi.kept hg (fun hl a ha e => by injection e with e; have := (hn hl a ha).1; omega), hn⟩
theorem OwnNd.form1 {base : Nat} {w : World} {v : Value} {ns : List (List (Int × Int))} {x : List (Int × Int)} (h : OwnNd base w v (ns ++ [x])) : ∃ A c, v = .slice A (ns.length + 1) c := by
  obtain ⟨A, c, e, _⟩ := h.form
  exact ⟨A, c, by rw [e, List.length_append]; rfl⟩
theorem app_node {ops : Array Oper} {rest : List Oper} {o : Oper} {a : Act} {Q : Exit → Act → World → Prop} (W : World) (hgd : o.guard = none) (s x : Operand) (ho : o.op = .call { callee := .builtin .append, args := #[s, x], argTypes := #[29, 29] })
    (base : Nat) {v : Value} {ll : List (List (Int × Int))} {l : List (Int × Int)} {n : Nat} {C : Option Addr} {c : Nat} (hown : OwnNd base W v ll) (hs : a.eval s = v) (hx : a.eval x = .slice (some ⟨W.heap.size, 0, none⟩) 1 1) (hln : l.length = n) (hC : TermsAt W C l) (hne : l ≠ [] → ∀ a, C = some a → base ≤ a.block ∧ some a.block ≠ v.ownBlock)
    (hn : ll.length ≤ 1000) (hbase : base ≤ W.heap.size)
    (h : ∀ v' w', OwnNd base w' v' (ll ++ [l]) → Below base W w' → (W.alloc (.cells #[.slice C n c] 58)).grownBy w' v.ownBlock → (v'.ownBlock = v.ownBlock ∨ v'.ownBlock = some (W.heap.size + 1)) → wpList Try.prog ops Q rest (a.put o.dst v') w') :
    wpList Try.prog ops Q (o :: rest) a (W.alloc (.cells #[.slice C n c] 58)) := by
  subst hln
  obtain ⟨i0, hi, hz0, hz1, hz2⟩ := info_parts info_node
  obtain ⟨cs, hr, hcs⟩ := hown
  have hba := (Below.refl W.heap.size W).alloc (Nat.le_refl _) (.cells #[.slice C l.length c] 58)
  have hb0 := (Below.refl base W).alloc hbase (.cells #[.slice C l.length c] 58)
  obtain ⟨v', w', hrun, hr', hg, _, hob⟩ := run_append_own_at (P := Try.prog) (W.alloc (.cells #[.slice C l.length c] 58)) base 29 o.type 58 i0 _ 1 24 Try.underlying29 hi hz0 hz1 hz2 rfl (by decide) v ll.length cs (hr.alloc _) ⟨W.heap.size, 0, none⟩ 1 1 [.slice C l.length c] rfl
    (fun j u hu => by
      rw [add_cellsB]
      match j, hu with
      | 0, hu => simp at hu; subst hu; simp [go_sem])
    (fun u hu => by simp at hu; subst hu; rfl) (by unfold maxLen; omega) (by omega) (by simp; omega)
  refine wpList_plain hgd fun K hK => ?_
  unfold Oper.wp execOp
  simp only [ho, resolve, invoke, builtin, Sem.run_bind, Sem.run_pure, Result.andThen_ok, List.map_toArray, List.map_cons, List.map_nil, hs, hx, hrun]
  refine hK _ _ (h v' w' ?_ ?_ hg (by rcases hob with h1 | h1; exact .inl h1; exact .inr (by rw [h1]; simp)))
  · have keep : ∀ (C : Option Addr) (l : List (Int × Int)), TermsAt W C l → (l ≠ [] → ∀ a, C = some a → base ≤ a.block ∧ some a.block ≠ v.ownBlock) → TermsAt w' C l ∧ (l ≠ [] → ∀ a, C = some a → base ≤ a.block ∧ some a.block ≠ v'.ownBlock) := fun C l hI hn => by
      refine ⟨(hI.grow hba).kept hg (fun hl a ha => (hn hl a ha).2), fun hl a ha => ⟨(hn hl a ha).1, fun e => ?_⟩⟩
      rcases hob with h1 | h1
      · exact (hn hl a ha).2 (e.trans h1)
      · rw [h1] at e
        injection e with e
        have := hI.block hl ha
        simp at e
        omega
    refine ⟨cs ++ [.slice C l.length c], by rw [List.length_append]; exact hr', fun k s hk => ?_⟩
    have hlen := hr.1
    rw [List.getElem?_append] at hk
    split at hk
    · rename_i hlt
      obtain ⟨C', c', c0, hI, hn'⟩ := hcs k s hk
      obtain ⟨k1, k2⟩ := keep C' _ hI hn'
      refine ⟨C', c', ?_, k1, k2⟩
      rw [List.getElem?_append_left (by omega)]; assumption
    · rename_i hlt
      have hk0 : k = ll.length := by
        rcases Nat.lt_or_ge (k - ll.length) 1 with h | h
        · omega
        · rw [List.getElem?_eq_none (by simpa using h)] at hk; cases hk
      subst hk0
      simp at hk
      subst hk
      obtain ⟨k1, k2⟩ := keep C _ hC hne
      refine ⟨C, c, ?_, k1, k2⟩
      rw [List.getElem?_append_right (by omega), show ll.length - cs.length = 0 by omega]; rfl
  · exact hb0.grown hg (by simp; omega) (fun k hk => (hr.lt k hk).1)
end Go.Proofs.Ytgabfdappeakiaa
