/- The walks of package world: formats. -/
import Derived.Test.YtpmbgcfnehplaaaDoorPr
set_option linter.unusedVariables false
set_option linter.unusedSimpArgs false
namespace Go.Proofs.YtpmbgcfnehplaaaDoor
open Go.RowKit

/-- The format made of a number. -/
def mkW (k least most above : Int) : Int × Int × Int × Int :=
  (least + withinF k 1099511627776 % (most - least + 1),
   max (least + withinF k 1099511627776 % (most - least + 1) - 1 - above - withinF k 1099511627776 / (most - least + 1) % 2) 0,
   1 + withinF k 1099511627776 / (most - least + 1) / 2 % 3,
   1 + withinF k 1099511627776 / (most - least + 1) / 2 / 3 % 2)
abbrev wordT (u : Int × Int × Int × Int) : Value := wordV u.1 u.2.1 u.2.2.1 u.2.2.2

theorem wd_WordF (k : Int) (w : World) : Calls Tryd.prog 30 #[.int .i64 k, .int .i64 4, .int .i64 24, .int .i64 0] w fun e w' => e = .returned (wordT (mkW k 4 24 0)) ∧ Below w.heap.size w w' := by
  obtain ⟨g1, g2⟩ := within_in (m := 1099511627776) (by decide) k
  obtain ⟨y, hy⟩ : ∃ y, withinF k 1099511627776 = y := ⟨_, rfl⟩
  have HW : Hid (mkW k 4 24 0 = (4 + y % 21, max (4 + y % 21 - 1 - 0 - y / 21 % 2) 0, 1 + y / 21 / 2 % 3, 1 + y / 21 / 2 / 3 % 2)) := by unfold mkW; rw [hy]; exact rfl
  rw [hy] at g1 g2
  go_enter Tryd.func30, Tryd.ntmps30
  go_wp2_with (go_at_call 13; refine (wd_Within _ _ _ (by decide)).mono ?_; rintro e w' ⟨rfl, rfl⟩)
  refine bodyPost_ret (v := wordT (mkW k 4 24 0)) (by rw [HW.out]; simp [results, Tryd.results30, go_sem]; omega) rfl ⟨rfl, ?_⟩
  exact ((Below.refl _ _).alloc (Nat.le_refl _) _).alloc (by simp) _
theorem mkWF_ok (k : Int) : okW (mkW k 4 24 0).1 (mkW k 4 24 0).2.1 (mkW k 4 24 0).2.2.1 (mkW k 4 24 0).2.2.2 = true := by
  obtain ⟨g1, g2⟩ := within_in (m := 1099511627776) (by decide) k
  rw [okW_iff]
  unfold mkW
  dsimp only
  omega
theorem wd_WordD (k : Int) (w : World) : Calls Tryd.prog 30 #[.int .i64 k, .int .i64 6, .int .i64 12, .int .i64 2] w fun e w' => e = .returned (wordT (mkW k 6 12 2)) ∧ Below w.heap.size w w' := by
  obtain ⟨g1, g2⟩ := within_in (m := 1099511627776) (by decide) k
  obtain ⟨y, hy⟩ : ∃ y, withinF k 1099511627776 = y := ⟨_, rfl⟩
  have HW : Hid (mkW k 6 12 2 = (6 + y % 7, max (6 + y % 7 - 1 - 2 - y / 7 % 2) 0, 1 + y / 7 / 2 % 3, 1 + y / 7 / 2 / 3 % 2)) := by unfold mkW; rw [hy]; exact rfl
  rw [hy] at g1 g2
  go_enter Tryd.func30, Tryd.ntmps30
  go_wp2_with (go_at_call 13; refine (wd_Within _ _ _ (by decide)).mono ?_; rintro e w' ⟨rfl, rfl⟩)
  refine bodyPost_ret (v := wordT (mkW k 6 12 2)) (by rw [HW.out]; simp [results, Tryd.results30, go_sem]; omega) rfl ⟨rfl, ?_⟩
  exact ((Below.refl _ _).alloc (Nat.le_refl _) _).alloc (by simp) _
theorem mkWD_ok (k : Int) : okW (mkW k 6 12 2).1 (mkW k 6 12 2).2.1 (mkW k 6 12 2).2.2.1 (mkW k 6 12 2).2.2.2 = true := by
  obtain ⟨g1, g2⟩ := within_in (m := 1099511627776) (by decide) k
  rw [okW_iff]
  unfold mkW
  dsimp only
  omega
theorem wd_WordC (k : Int) (w : World) : Calls Tryd.prog 30 #[.int .i64 k, .int .i64 6, .int .i64 9, .int .i64 1] w fun e w' => e = .returned (wordT (mkW k 6 9 1)) ∧ Below w.heap.size w w' := by
  obtain ⟨g1, g2⟩ := within_in (m := 1099511627776) (by decide) k
  obtain ⟨y, hy⟩ : ∃ y, withinF k 1099511627776 = y := ⟨_, rfl⟩
  have HW : Hid (mkW k 6 9 1 = (6 + y % 4, max (6 + y % 4 - 1 - 1 - y / 4 % 2) 0, 1 + y / 4 / 2 % 3, 1 + y / 4 / 2 / 3 % 2)) := by unfold mkW; rw [hy]; exact rfl
  rw [hy] at g1 g2
  go_enter Tryd.func30, Tryd.ntmps30
  go_wp2_with (go_at_call 13; refine (wd_Within _ _ _ (by decide)).mono ?_; rintro e w' ⟨rfl, rfl⟩)
  refine bodyPost_ret (v := wordT (mkW k 6 9 1)) (by rw [HW.out]; simp [results, Tryd.results30, go_sem]; omega) rfl ⟨rfl, ?_⟩
  exact ((Below.refl _ _).alloc (Nat.le_refl _) _).alloc (by simp) _
theorem mkWC_ok (k : Int) : okW (mkW k 6 9 1).1 (mkW k 6 9 1).2.1 (mkW k 6 9 1).2.2.1 (mkW k 6 9 1).2.2.2 = true := by
  obtain ⟨g1, g2⟩ := within_in (m := 1099511627776) (by decide) k
  rw [okW_iff]
  unfold mkW
  dsimp only
  omega
theorem wd_Data (k : Int) (w : World) : Calls Tryd.prog 11 #[.int .i64 k] w fun e w' => e = .returned (wordT (mkW k 6 12 2)) ∧ Below w.heap.size w w' := by
  go_enter Tryd.func11, Tryd.ntmps11
  go_wp2_with (go_at_call 30; refine (wd_WordD _ _).mono ?_; rintro e w1 ⟨rfl, hb1⟩; obtain ⟨hc1, hf1⟩ := bcell hb1)
  refine bodyPost_ret (v := wordT (mkW k 6 12 2)) (by simp [results, Tryd.results11, go_sem, hc1]) rfl ⟨rfl, ?_⟩
  have hb : Below w.heap.size w w1 := ((Below.refl _ _).alloc (Nat.le_refl _) _).trans (hb1.mono (by simp))
  exact (((hb.setCell (by simp) _).setCell (by simp) _).setCell (by simp) _).setCell (by simp) _
theorem wd_Coef (k : Int) (w : World) : Calls Tryd.prog 12 #[.int .i64 k] w fun e w' => e = .returned (wordT (mkW k 6 9 1)) ∧ Below w.heap.size w w' := by
  go_enter Tryd.func12, Tryd.ntmps12
  go_wp2_with (go_at_call 30; refine (wd_WordC _ _).mono ?_; rintro e w1 ⟨rfl, hb1⟩; obtain ⟨hc1, hf1⟩ := bcell hb1)
  refine bodyPost_ret (v := wordT (mkW k 6 9 1)) (by simp [results, Tryd.results12, go_sem, hc1]) rfl ⟨rfl, ?_⟩
  have hb : Below w.heap.size w w1 := ((Below.refl _ _).alloc (Nat.le_refl _) _).trans (hb1.mono (by simp))
  exact (((hb.setCell (by simp) _).setCell (by simp) _).setCell (by simp) _).setCell (by simp) _
end Go.Proofs.YtpmbgcfnehplaaaDoor
