/- The walk of the law StreamGoesOver. -/
import Derived.Test.YtgabfdappeakiaaY7
import Derived.Test.YtgabfdappeakiaaY8
set_option linter.unusedVariables false
set_option linter.unusedSimpArgs false
namespace Go.Proofs.Ytgabfdappeakiaa
open Go.RowKit

theorem size_word : (Try.prog.info? 28).map (·.size) = some 4 := by kernel_rfl
theorem bev_S (A : Option Addr) (x : List Int) (c : Nat) : Try.prog.built 33 [(0, .int .i64 1), (1, .slice A x.length c)] = some (evS A x c).cells.toArray := built_evS A x.length c
theorem bev_C (n : NetD) (NA : Option Addr) (nc : Nat) (XA : Option Addr) (xc : Nat) (f : Int) : Try.prog.built 33 [(0, .int .i64 2), (2, .agg (n.lst NA nc XA xc).toArray), (3, .int .i64 f)] = some (evC n NA nc XA xc f).cells.toArray := built_evC n NA nc XA xc f
theorem outS_at {d : StrD} {x : List Int} {k : Nat} {y : Int} (hk : x[k]? = some y) : ∀ K, k < K → K ≤ x.length → (d.outS x K)[k]? = some (d.outY x k y)
  | K + 1, h1, h2 => by
    rw [outS_succ (List.getElem?_eq_getElem (by omega))]
    by_cases h : k = K
    · subst h
      have e : x[k]'(by omega) = y := by
        have := List.getElem?_eq_getElem (l := x) (i := k) (by omega)
        rw [hk] at this
        injection this with this
        exact this.symm
      rw [List.getElem?_append_right (by rw [outS_length k (by omega)]; exact Nat.le_refl _), outS_length k (by omega), Nat.sub_self, e]
      rfl
    · rw [List.getElem?_append_left (by rw [outS_length K (by omega)]; omega)]
      exact outS_at hk K (by omega) (by omega)
/-- Sample for sample: the faded one lies between the two, and is the new one where the fade is over. -/
theorem goes_over {n m : NetD} {s w x : List Int} {f : Int} {N : StrD} (hg : (chgD n m s f 2).Good) (hx : m.fit x = true) (hw : (N.outS w w.length).length = w.length) (k : Nat) (hk : k < x.length) :
    ∃ v a b, (N.outS w w.length ++ (chgD n m s f 2).outS x x.length)[w.length + k]? = some v ∧ ((runD n s).outS x x.length)[k]? = some a ∧ ((runD m (if m.st = n.st then s else List.replicate m.st.toNat 0)).outS x x.length)[k]? = some b ∧
      ((a ≤ v ∧ v ≤ b) ∨ (b ≤ v ∧ v ≤ a)) ∧ (f ≤ (k : Int) + 1 → v = b) := by
  have hy := List.getElem?_eq_getElem (l := x) (i := k) hk
  obtain ⟨h1, h2⟩ := between hg hx hy _ _ rfl rfl
  refine ⟨(chgD n m s f 2).outY x k x[k], _, _, ?_, outS_at hy _ hk (Nat.le_refl _), outS_at hy _ hk (Nat.le_refl _), ?_, ?_⟩
  · rw [List.getElem?_append_right (by omega), hw, Nat.add_sub_cancel_left]
    exact outS_at hy _ hk (Nat.le_refl _)
  · rw [runD_out, runD_out]; exact h1
  · rw [runD_out]; exact h2
/-- The region with the first Run. -/
def rn8 (W : World) (R : World → Value → World → Prop) (nv wv : Value) (g sk : Nat) : Nat → Value → World → Prop
  | 0, v, _ => v = nv | 1, v, _ => v = .pointer (some ⟨g, 8, none⟩) | 2, v, _ => v = .int .i64 sk
  | 3, v, w => ∃ q, v = .slice (some ⟨q, 0, none⟩) sk sk ∧ Ints w (some ⟨q, 0, none⟩) (List.replicate sk 0)
  | 4, v, _ => v = wv
  | 5, v, w => CallF W R v w ∧ Is4 v
  | 6, v, _ => Is4 v
  | _, _, _ => True
theorem rn8_keep {W : World} {R : World → Value → World → Prop} {nv wv : Value} {g sk : Nat} {a b : World} (h : Below a.heap.size a b) : ∀ i v, rn8 W R nv wv g sk i v a → rn8 W R nv wv g sk i v b
  | 0, _, e => e | 1, _, e => e | 2, _, e => e | 4, _, e => e | 6, _, e => e
  | 3, _, ⟨q, e, hi⟩ => ⟨q, e, hi.grow h⟩
  | 5, _, ⟨hc, h3⟩ => ⟨hc.keep h, h3⟩
  | _ + 7, _, _ => trivial
theorem entryRR (w : World) (u r : RawA) : ∀ W, W = ((w.alloc (.cells u.lst.toArray 25)).alloc (.cells r.lst.toArray 25)) →
    Box W w.heap.size u.lst ∧ Box W (w.heap.size + 1) r.lst ∧ Below w.heap.size w W := fun W hW => by
  subst hW
  exact ⟨Box.alloc (Box.new rfl) _, Box.new (by simp), ((Below.refl w.heap.size w).alloc (Nat.le_refl _) _).alloc (by simp) _⟩
end Go.Proofs.Ytgabfdappeakiaa
