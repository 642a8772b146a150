/- Several texts in one: Mk Km. -/
import Derived.Test.YtmdfgidejdiiiaalKjtoMr
import Derived.Test.YtmdfgidejdiiiaalV5toV8
import Derived.ProofKit
import Derived.Test.YtmdfgidejdiiiaalKdtoKh
import Derived.Test.YtmdfgidejdiiiaalV9toU
import Derived.Test.YtmdfgidejdiiiaalPltoZa
import Derived.Maps.AppendAt
import Derived.BigQuiet
set_option linter.unusedVariables false
set_option linter.unusedSimpArgs false
section
namespace Go.Proofs.Ytmdfgidejdiiiaa
open Go.RowKit
theorem IntsL.lit2 {w : World} {t : TypeId} {B1 B2 : Option Addr} {l1 l2 : List Int} {n1 n2 c1 c2 : Nat} (e1 : n1 = l1.length) (e2 : n2 = l2.length) (h1 : Ints w B1 l1) (h2 : Ints w B2 l2) :
    IntsL (w.alloc (.cells #[.slice B1 n1 c1, .slice B2 n2 c2] t)) (some ⟨w.heap.size, 0, none⟩) [l1, l2] := by
  subst e1 e2
  have hb : Below w.heap.size w (w.alloc (.cells #[.slice B1 l1.length c1, .slice B2 l2.length c2] t)) := (Below.refl _ _).alloc (Nat.le_refl _) _
  intro k l hk
  match k, hk with
  | 0, hk => simp at hk; subst hk; exact ⟨_, B1, c1, rfl, by simp, by simp [go_sem, Addr.add], h1.grow hb⟩
  | 1, hk => simp at hk; subst hk; exact ⟨_, B2, c2, rfl, by simp, by simp [go_sem, Addr.add], h2.grow hb⟩
theorem rf_Same (A B : Option Addr) (l m : List Int) (c d : Nat) (w : World) (hm : m.length ≤ 9223372036854775807) (he : l = m) (h : Ints w A l) (g : Ints w B m) :
    Calls Try.prog 25 #[.slice A l.length c, .slice B m.length d] w fun e w' => e = .returned (.bool true) ∧ Below w.heap.size w w' :=
  (rf_SameInts A B l m c d w hm h g).mono fun e w' hh => ⟨by rw [hh.1, he]; simp, hh.2⟩
end Go.Proofs.Ytmdfgidejdiiiaa
end
section
namespace Go.Proofs.Ytmdfgidejdiiiaa
open Go.RowKit
def Got3 (w : World) (a b : List Int) (n m : Nat) (E : Int) (e : Ending) (w' : World) : Prop := ∃ A c B d, e = .returned (.tuple #[.slice A n c, .slice B m d, .int .i64 E]) ∧ Ints w' A a ∧ Ints w' B b ∧ Below w.heap.size w w'
theorem Ret3.got {w w' : World} {a b : List Int} {n m : Nat} {E : Int} {e : Ending} (h : Ret3 w a b E e w') (hn : a.length = n) (hm : b.length = m) : Got3 w a b n m E e w' := by
  obtain ⟨v1, v2, rfl, o1, o2, hb⟩ := h
  obtain ⟨A, c, rfl, -, i1⟩ := o1.form
  obtain ⟨B, d, rfl, -, i2⟩ := o2.form
  exact ⟨A, c, B, d, by rw [hn, hm], i1, i2, hb⟩
theorem cmp_same {w : World} {v u : Value} {z : Rat} (h1 : RatA w v z 50000) (h2 : RatA w u z 50000) : Calls Try.prog 13 #[v, u] w fun e w' => e = .returned (.int .i64 0) ∧ Below w.heap.size w w' := by
  have h := r3_Compare v u z z 50000 50000 w h1 h2 (by decide) (by decide) (by decide) (by decide)
  rw [show cmpR z z = 0 from by unfold cmpR; rw [if_neg (Rat.lt_irrefl), if_pos rfl]] at h
  exact h
theorem same_n {w : World} {A B : Option Addr} {l : List Int} {n c d : Nat} (hn : l.length = n) (hl : n ≤ 1000000) (h1 : Ints w A l) (h2 : Ints w B l) : Calls Try.prog 25 #[.slice A n c, .slice B n d] w fun e w' => e = .returned (.bool true) ∧ Below w.heap.size w w' := by
  subst hn
  exact rf_Same A B l l c d w (by omega) rfl h1 h2
end Go.Proofs.Ytmdfgidejdiiiaa
end
