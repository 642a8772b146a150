/- Several texts in one: C Le. -/
import Derived.Test.YtmdfgidejdiiiaanZrtoU
set_option linter.unusedVariables false
set_option linter.unusedSimpArgs false
section
namespace Go.Proofs.Ytmdfgidejdiiiaa
open Go.RowKit
def mkW (k least most above : Int) : Int × Int × Int × Int :=
  (least + withinF k 1099511627776 % (most - least + 1),
   max (least + withinF k 1099511627776 % (most - least + 1) - 1 - above - withinF k 1099511627776 / (most - least + 1) % 2) 0,
   1 + withinF k 1099511627776 / (most - least + 1) / 2 % 3,
   1 + withinF k 1099511627776 / (most - least + 1) / 2 / 3 % 2)
abbrev wordT (u : Int × Int × Int × Int) : Value := wordV u.1 u.2.1 u.2.2.1 u.2.2.2
theorem wd_WordF (k : Int) (w : World) : Calls Try.prog 10 #[.int .i64 k, .int .i64 4, .int .i64 24, .int .i64 0] w fun e w' => e = .returned (wordT (mkW k 4 24 0)) ∧ Below w.heap.size w w' := by
  obtain ⟨g1, g2⟩ := within_in (m := 1099511627776) (by decide) k
  obtain ⟨y, hy⟩ : ∃ y, withinF k 1099511627776 = y := ⟨_, rfl⟩
  have HW : Hid (mkW k 4 24 0 = (4 + y % 21, max (4 + y % 21 - 1 - 0 - y / 21 % 2) 0, 1 + y / 21 / 2 % 3, 1 + y / 21 / 2 / 3 % 2)) := by unfold mkW; rw [hy]; exact rfl
  rw [hy] at g1 g2
  go_enter Try.func10, Try.ntmps10
  go_wp2_with (go_at_call 56; refine (wd_Within _ _ _ (by decide)).mono ?_; rintro e w' ⟨rfl, rfl⟩)
  refine bodyPost_ret (v := wordT (mkW k 4 24 0)) (by rw [HW.out]; simp [results, Try.results10, go_sem] <;> omega) rfl ⟨rfl, ?_⟩
  exact ((Below.refl _ _).alloc (Nat.le_refl _) _).alloc (by simp) _
theorem mkWF_ok (k : Int) : okW (mkW k 4 24 0).1 (mkW k 4 24 0).2.1 (mkW k 4 24 0).2.2.1 (mkW k 4 24 0).2.2.2 = true := by
  obtain ⟨g1, g2⟩ := within_in (m := 1099511627776) (by decide) k
  rw [okW_iff]
  unfold mkW
  dsimp only
  omega
end Go.Proofs.Ytmdfgidejdiiiaa
end
section
namespace Go.Proofs.Ytmdfgidejdiiiaa
open Go.RowKit
theorem wordF_in {b f r o : Int} (x : Int) : lowW b f r o ≤ wordF b f r o x ∧ wordF b f r o x ≤ highW b f r o := by
  obtain ⟨q1, q2, q3, q4⟩ := low_high b f r o
  obtain ⟨g1, g2⟩ := within_in (m := highW b f r o - lowW b f r o + 1) (by omega) (wrap64 (x - lowW b f r o))
  unfold wordF
  omega
theorem Ints.one {w : World} {y : Int} {t : TypeId} (hy : I64 y) : Ints (w.alloc (.cells #[.int .i64 y] t)) (some ⟨w.heap.size, 0, none⟩) [y] := by
  refine ⟨fun k v hk => ?_, by intro x hx; simp at hx; subst hx; exact hy⟩
  match k, hk with
  | 0, hk => simp at hk; subst hk; exact ⟨_, rfl, by simp, by simp [go_sem, Addr.add]⟩
theorem wd_Words1 (b f r o : Int) (A : Option Addr) (y : Int) (c : Nat) (w : World) (h : Ints w A [y]) :
    Calls Try.prog 11 #[wordV b f r o, .slice A 1 c, .int .i64 1] w fun e w' => ∃ v, e = .returned v ∧ Own w.heap.size w' v [wordF b f r o y] ∧ Below w.heap.size w w' :=
  (wd_Words b f r o A [y] c 1 w (by decide) h).mono fun e w' ⟨v, h1, h2, h3⟩ => ⟨v, h1, h2, h3⟩
end Go.Proofs.Ytmdfgidejdiiiaa
end
