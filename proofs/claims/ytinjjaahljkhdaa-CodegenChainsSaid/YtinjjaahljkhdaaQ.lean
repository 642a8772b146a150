/- Slices of slices of numbers. -/
import Derived.Test.YtinjjaahljkhdaaK
import Derived.Test.YtinjjaahljkhdaaSm
namespace Go.Proofs.Ytinjjaahljkhdaa
open Go.RowKit

/-- A slice of slices of numbers that reads as the list of lists. -/
def IntsL (w : World) (A : Option Addr) (ll : List (List Int)) : Prop :=
  ∀ k l, ll[k]? = some l → ∃ ad B c, A = some ad ∧ ad.block < w.heap.size ∧ w.cell? (ad.add k) = some (.slice B l.length c) ∧ Ints w B l
theorem IntsL.nil {w : World} {A : Option Addr} : IntsL w A [] := fun k l h => by simp at h
theorem IntsL.grow {w w' : World} {A : Option Addr} {ll : List (List Int)} (h : IntsL w A ll) (hb : Below w.heap.size w w') : IntsL w' A ll := fun k l hk => by
  obtain ⟨ad, B, c, e, h1, h2, h3⟩ := h k l hk
  exact ⟨ad, B, c, e, Nat.lt_of_lt_of_le h1 hb.size, (hb.cell (by rw [block_add]; exact h1)).trans h2, h3.grow hb⟩
theorem IntsL.at_ {w : World} {A : Option Addr} {ll : List (List Int)} (h : IntsL w A ll) {k : Nat} (hk : k < ll.length) :
    ∃ ad l B c, A = some ad ∧ ad.block < w.heap.size ∧ ll[k]? = some l ∧ w.cell? (ad.add k) = some (.slice B l.length c) ∧ Ints w B l := by
  obtain ⟨ad, B, c, e, h1, h2, h3⟩ := h k ll[k] (List.getElem?_eq_getElem hk)
  exact ⟨ad, ll[k], B, c, e, h1, List.getElem?_eq_getElem hk, h2, h3⟩

/-- A store into a block that is not of the row leaves the row. -/
theorem own_store {w : World} {base n size g k : Nat} {e : TypeId} {v u : Value} {xs : List Value} (h : w.ownsRow base e size v n xs) (hg : g < base) : (w.setCell ⟨g, k, none⟩ u).ownsRow base e size v n xs := by
  obtain ⟨h1, h2 | ⟨q, cap, cur, hv, hq, hh, r⟩⟩ := h
  · exact ⟨h1, .inl h2⟩
  · exact ⟨h1, .inr ⟨q, cap, cur, hv, hq, (Below.heap_setCell w _ u q (by show q ≠ g; omega)).trans hh, r⟩⟩

theorem info_ints : (Try.prog.info? 25).map (fun i => (i.zero, i.size, i.bytes)) = some (some (.slice none 0 0), 1, 24) := by kernel_rfl
theorem Own.store {w : World} {base g k : Nat} {v u : Value} {l : List Int} (h : Own base w v l) (hg : g < base) : Own base (w.setCell ⟨g, k, none⟩ u) v l := ⟨own_store h.1 hg, h.2⟩

/-- The slice at block g, made by the call, whose elements are slices of the call's own, made later. -/
def OwnL (base : Nat) (w : World) (g m : Nat) (ll : List (List Int)) : Prop :=
  ∃ vs : List Value, w.ownsRow base 25 1 (.slice (some ⟨g, 0, none⟩) m m) m vs ∧ vs.length = ll.length ∧ ll.length = m ∧ base ≤ g ∧ ∀ (k : Nat) v l, vs[k]? = some v → ll[k]? = some l → Own (g + 1) w v l
theorem OwnL.grow {base : Nat} {w w' : World} {g m : Nat} {ll : List (List Int)} (h : OwnL base w g m ll) (hb : Below w.heap.size w w') : OwnL base w' g m ll := by
  obtain ⟨vs, h1, h2, h3, h4, h5⟩ := h
  exact ⟨vs, own_grow h1 hb, h2, h3, h4, fun k v l hv hl => (h5 k v l hv hl).grow hb⟩
theorem OwnL.block {base : Nat} {w : World} {g m : Nat} {ll : List (List Int)} (h : OwnL base w g m ll) : base ≤ g ∧ g < w.heap.size := by
  obtain ⟨vs, h1, _⟩ := h
  exact h1.lt g rfl
theorem OwnL.cell {base : Nat} {w : World} {g m : Nat} {ll : List (List Int)} (h : OwnL base w g m ll) {k : Nat} {l : List Int} (hk : ll[k]? = some l) :
    ∃ B c, w.cell? ⟨g, k, none⟩ = some (.slice B l.length c) ∧ Own (g + 1) w (.slice B l.length c) l := by
  obtain ⟨vs, h1, h2, h3, h4, h5⟩ := h
  have hkl := (List.getElem?_eq_some_iff.1 hk).1
  have hv : vs[k]? = some vs[k] := List.getElem?_eq_getElem (by omega)
  have ho := h5 k _ l hv hk
  obtain ⟨B, c, e, hc, hi⟩ := ho.form
  refine ⟨B, c, ?_, by rw [← e]; exact ho⟩
  rw [h1.cellAt k (by omega), hv, e]
theorem OwnL.free {base : Nat} {w : World} {g m : Nat} {ll : List (List Int)} (h : OwnL base w g m ll) (k : Nat) : w.frozen? ⟨g, k, none⟩ = false := by
  obtain ⟨vs, h1, _⟩ := h
  exact h1.frozenAt k
theorem OwnL.ints {base : Nat} {w : World} {g m : Nat} {ll : List (List Int)} (h : OwnL base w g m ll) : IntsL w (some ⟨g, 0, none⟩) ll := fun k l hk => by
  have hg := h.block
  obtain ⟨B, c, h1, h2⟩ := h.cell hk
  obtain ⟨B', c', e, hc, hi⟩ := h2.form
  injection e with e1 e2 e3
  subst e1
  refine ⟨⟨g, 0, none⟩, B, c, rfl, hg.2, ?_, hi⟩
  have : (⟨g, 0, none⟩ : Addr).add k = ⟨g, k, none⟩ := by
    unfold Addr.add
    by_cases h0 : k = 0 <;> simp [h0]
  rw [this]; exact h1
theorem OwnL.set {base : Nat} {w : World} {g m : Nat} {ll : List (List Int)} (h : OwnL base w g m ll) (k : Nat) {v : Value} {l : List Int} (hv : Own (g + 1) w v l) : OwnL base (w.setCell ⟨g, k, none⟩ v) g m (ll.set k l) := by
  obtain ⟨vs, h1, h2, h3, h4, h5⟩ := h
  refine ⟨vs.set k v, (h1.stored k v).1, by simp [h2], by simp [h3], h4, fun j u q hu hq => ?_⟩
  rw [List.getElem?_set] at hu hq
  by_cases e : k = j
  · rw [if_pos e] at hu hq
    split at hu
    · split at hq
      · injection hu with hu; injection hq with hq; subst hu; subst hq; exact hv.store (by omega)
      · cases hq
    · cases hu
  · rw [if_neg e] at hu hq
    exact (h5 j u q hu hq).store (by omega)
/-- make([][]int, n). -/
theorem mk_intL {ops : Array Oper} {rest : List Oper} {o : Oper} {a : Act} {Q : Exit → Act → World → Prop} {w : World} (hg : o.guard = none) (s c : Operand) (hop : o.op = Op.makeSlice 42 s c)
    (n : Nat) {N : Int} (hs : a.eval s = .int .i64 N) (hc : a.eval c = .int .i64 N) (hN : N = (n : Int)) (hn : n ≤ 100000000)
    (h : ∀ w', OwnL w.heap.size w' w.heap.size n (List.replicate n []) → Below w.heap.size w w' → wpList Try.prog ops Q rest (a.put o.dst (.slice (some ⟨w.heap.size, 0, none⟩) n n)) w') :
    wpList Try.prog ops Q (o :: rest) a w := by
  subst hN
  obtain ⟨i0, hi, hz0, hz1, hz2⟩ := info_parts info_ints
  refine wpList_make_full w hg s c 42 hop w.heap.size 25 i0 (.slice none 0 0) 1 Try.underlying42 hi hz0 hz1 .i64 .i64 n n n hs hc rfl rfl (by rw [hz2]; omega) (by unfold maxLen; omega) (Nat.le_refl _) fun w' h1 h2 => h w' ⟨_, h1, ?_, by simp, Nat.le_refl _, ?_⟩ ?_
  · simp [size_madeCells]
  · intro k v l hv hl
    rw [List.getElem?_replicate] at hl
    split at hl
    · injection hl with hl
      subst hl
      have : v = .slice none 0 0 := by
        have hc1 : (Value.slice none 0 0).cells = #[.slice none 0 0] := rfl
        rw [hc1, toList_madeCells_one] at hv
        exact List.eq_of_mem_replicate (List.mem_of_getElem? hv)
      subst this
      exact Own.nil
    · cases hl
  · exact (Below.refl _ _).grown h2 (Nat.le_refl _) (by intro k hk; cases hk)
/-- A call hands back a slice of slices that reads as ll, and the number E. -/
def RetIntsL (w : World) (ll : List (List Int)) (E : Int) (e : Ending) (w' : World) : Prop := ∃ A c, e = .returned (.tuple #[.slice A ll.length c, .int .i64 E]) ∧ IntsL w' A ll ∧ Below w.heap.size w w'
theorem RetIntsL.mk {w w' : World} {ll : List (List Int)} {E : Int} {A : Option Addr} {n c : Nat} (hn : n = ll.length) (ho : IntsL w' A ll) (hb : Below w.heap.size w w') : RetIntsL w ll E (.returned (.tuple #[.slice A n c, .int .i64 E])) w' := by
  subst hn; exact ⟨A, c, rfl, ho, hb⟩
end Go.Proofs.Ytinjjaahljkhdaa
