/- Several texts in one: Zy Z1 Z2 J4. -/
import Derived.Test.YtmdfgidejdiiiaadZutoZx
import Derived.Test.YtmdfgidejdiiiaadJ
set_option linter.unusedVariables false
set_option linter.unusedSimpArgs false
section
namespace Go.Proofs.Ytmdfgidejdiiiaa
open Go.RowKit
theorem size_Num : (Try.prog.info? 113).map (·.size) = some 4 := by kernel_rfl
theorem row_Num : ∃ d, Try.prog.underlying 113 = some d ∧ d.isRow = true := ⟨_, Try.underlying113, rfl⟩
theorem rt_read_one (neg : Bool) (A B : Option Addr) (n c d : Nat) (w : World) (hB : DigA w B [1]) : Calls Try.prog 86 #[.agg #[.bool neg, .slice A n c, .slice B 1 d]] w (RetV w (.agg #[.bool neg, .slice A n c, .slice B 1 d, .bool true])) := by
  obtain ⟨bd, y, rfl, hbb, hy, hcy, _⟩ := hB.at_ (k := 0) (by simp)
  rw [show bd.add 0 = bd from rfl] at hcy
  simp at hy
  subst hy
  go_enter Try.func86, Try.ntmps86
  go_upto_region 1 with fail
  have hB0 : Below w.heap.size w ((w.alloc (.cells #[.bool neg, .slice A n c, .slice (some bd) 1 d] 28)).alloc (.cells #[.bool false, .slice none 0 0, .slice none 0 0, .bool false] 113)) := ((Below.refl _ _).alloc (Nat.le_refl _) _).alloc (by simp) _
  have hc2 := (hB0.cell hbb).trans hcy
  clear hcy hbb hB hB0
  go_wp2_with fail
  obtain ⟨dsc, hd1, hd2⟩ := row_Num
  refine bodyPost_ret (resC rfl _ _ _ (g := w.heap.size + 1) rfl (res_box 113 (Box.new (by simp)) dsc hd1 hd2 size_Num)) rfl ?_
  exact ⟨rfl, ((Below.refl _ _).alloc (Nat.le_refl _) _).alloc (by simp) _⟩
theorem rt_read_big (neg : Bool) (A B : Option Addr) (n c m d : Nat) (r : List Int) (w : World) (hB : DigA w B r) (hm : r.length = m) (hd : m ≤ d) (h9 : m ≤ 1000000) (h1 : m ≠ 1) (h0 : nv r ≠ 0) : Calls Try.prog 86 #[.agg #[.bool neg, .slice A n c, .slice B m d]] w (RetV w (.agg #[.bool neg, .slice A n c, .slice B m d, .bool false])) := by
  have CQ : Hid (∀ w1, Below w.heap.size w w1 → Calls Try.prog 95 #[.slice B m d, .slice none 0 0] w1 fun e w' => e = .returned (.int .i64 1) ∧ Below w1.heap.size w1 w') := Lib.hid fun w1 h => by
    have e : cmpI (nv r) 0 = 1 := by have := nv_low hB.dig; unfold cmpI; rw [if_neg (by omega), if_neg h0]
    have := nt_Compare B none m 0 d 0 r [] w1 (hB.grow h) DigA.nil hm rfl hd (Nat.le_refl _) (by omega) (by omega)
    rw [show nv [] = 0 from rfl, e] at this
    exact this
  have h1' : (m : Int) ≠ 1 := by omega
  clear hB hm h0
  go_enter Try.func86, Try.ntmps86
  have hB0 : Below w.heap.size w ((w.alloc (.cells #[.bool neg, .slice A n c, .slice B m d] 28)).alloc (.cells #[.bool false, .slice none 0 0, .slice none 0 0, .bool false] 113)) := ((Below.refl _ _).alloc (Nat.le_refl _) _).alloc (by simp) _
  have b1 : Box ((w.alloc (.cells #[.bool neg, .slice A n c, .slice B m d] 28)).alloc (.cells #[.bool false, .slice none 0 0, .slice none 0 0, .bool false] 113)) w.heap.size [.bool neg, .slice A n c, .slice B m d] := (Box.new rfl).alloc _
  have b2 : Box ((w.alloc (.cells #[.bool neg, .slice A n c, .slice B m d] 28)).alloc (.cells #[.bool false, .slice none 0 0, .slice none 0 0, .bool false] 113)) (w.heap.size + 1) [.bool false, .slice none 0 0, .slice none 0 0, .bool false] := Box.new (by simp)
  go_upto_region 3 with fail
  generalize (w.alloc (.cells #[.bool neg, .slice A n c, .slice B m d] 28)).alloc (.cells #[.bool false, .slice none 0 0, .slice none 0 0, .bool false] 113) = wA at hB0 b1 b2 ⊢
  have z3 : wA.cell? ⟨w.heap.size, 2, none⟩ = some (.slice B m d) := b1.2.1 2
  have HA := Lib.hid (And.intro hB0 (And.intro b1 b2))
  clear hB0 b1 b2
  obtain ⟨dI, hI1, hI2⟩ := row_Int
  have HI := Lib.hid (And.intro hI1 hI2)
  clear hI1 hI2
  go_wp2_with (first
    | (go_at_call 95; (with_reducible refine (CQ.out _ HA.out.1).mono ?_); rintro e1 w1 ⟨rfl, hb1⟩; have HB1 := Lib.hid hb1; have y3 : w1.cell? ⟨w.heap.size, 2, none⟩ = some (.slice B m d) := (HA.out.2.1.keep hb1).2.1 2; clear hb1)
    | ((with_reducible show wpList _ _ _ (Oper.mk _ (.load 26 _) _ _ _ _ :: _) _ _); refine wp_ld rfl 26 _ rfl w.heap.size 0 rfl (HA.out.2.1.keep HB1.out) [.bool neg, .slice A n c] (fun j v h => by rcases j with _ | _ | j <;> simp at h ⊢ <;> exact h) dI HI.out.1 HI.out.2 size_Int ?_)
    | ((with_reducible show wpList _ _ _ (Oper.mk none (.store 113 _ _) _ _ _ _ :: _) _ _); refine wp_st rfl 113 _ _ rfl (w.heap.size + 1) 0 [.bool neg, .slice A n c, .slice B m d, .bool false] rfl rfl size_Num rfl (HA.out.2.2.keep HB1.out) (Nat.le_refl _) rfl ?_; intro W9 c9 g9))
  have hW := put_facts (g := w.heap.size + 1) (below_then HA.out.1 HB1.out) (by omega) g9
  obtain ⟨dsc, hd1, hd2⟩ := row_Num
  refine bodyPost_ret (resC rfl _ _ W9 (g := w.heap.size + 1) rfl (res_box 113 c9 dsc hd1 hd2 size_Num)) rfl ?_
  exact ⟨rfl, hW⟩
def RetZ (w : World) (e : Ending) (w' : World) : Prop := ∃ g, e = .returned (.agg #[.bool false, .slice none 0 0, .slice (some ⟨g, 0, none⟩) 1 1, .bool true]) ∧ OwG w.heap.size w' (.slice (some ⟨g, 0, none⟩) 1 1) [1] ∧ Below w.heap.size w w'
theorem rt_read_zero (neg : Bool) (A B : Option Addr) (n c m d : Nat) (r : List Int) (w : World) (hB : DigA w B r) (hm : r.length = m) (hd : m ≤ d) (h9 : m ≤ 1000000) (h1 : m ≠ 1) (h0 : nv r = 0) : Calls Try.prog 86 #[.agg #[.bool neg, .slice A n c, .slice B m d]] w (RetZ w) := by
  have CQ : Hid (∀ w1, Below w.heap.size w w1 → Calls Try.prog 95 #[.slice B m d, .slice none 0 0] w1 fun e w' => e = .returned (.int .i64 0) ∧ Below w1.heap.size w1 w') := Lib.hid fun w1 h => by
    have := nt_Compare B none m 0 d 0 r [] w1 (hB.grow h) DigA.nil hm rfl hd (Nat.le_refl _) (by omega) (by omega)
    rw [show nv [] = 0 from rfl, h0, show cmpI 0 0 = 0 from rfl] at this
    exact this
  have h1' : (m : Int) ≠ 1 := by omega
  clear hB hm h0
  go_enter Try.func86, Try.ntmps86
  have hB0 : Below w.heap.size w ((w.alloc (.cells #[.bool neg, .slice A n c, .slice B m d] 28)).alloc (.cells #[.bool false, .slice none 0 0, .slice none 0 0, .bool false] 113)) := ((Below.refl _ _).alloc (Nat.le_refl _) _).alloc (by simp) _
  have b1 : Box ((w.alloc (.cells #[.bool neg, .slice A n c, .slice B m d] 28)).alloc (.cells #[.bool false, .slice none 0 0, .slice none 0 0, .bool false] 113)) w.heap.size [.bool neg, .slice A n c, .slice B m d] := (Box.new rfl).alloc _
  have b2 : Box ((w.alloc (.cells #[.bool neg, .slice A n c, .slice B m d] 28)).alloc (.cells #[.bool false, .slice none 0 0, .slice none 0 0, .bool false] 113)) (w.heap.size + 1) [.bool false, .slice none 0 0, .slice none 0 0, .bool false] := Box.new (by simp)
  go_upto_region 3 with fail
  generalize (w.alloc (.cells #[.bool neg, .slice A n c, .slice B m d] 28)).alloc (.cells #[.bool false, .slice none 0 0, .slice none 0 0, .bool false] 113) = wA at hB0 b1 b2 ⊢
  have z3 : wA.cell? ⟨w.heap.size, 2, none⟩ = some (.slice B m d) := b1.2.1 2
  have HA := Lib.hid (And.intro hB0 (And.intro b1 b2))
  clear hB0 b1 b2
  go_wp2_with (first
    | (go_at_call 95; (with_reducible refine (CQ.out _ HA.out.1).mono ?_); rintro e1 w1 ⟨rfl, hb1⟩; have HB1 := Lib.hid hb1; clear hb1)
    | ((with_reducible show wpList _ _ _ (Oper.mk none (.store 113 _ _) _ _ _ _ :: _) _ _); refine wp_st rfl 113 _ _ rfl (w.heap.size + 1) 0 [.bool false, .slice none 0 0, .slice (some ⟨w1.heap.size, 0, none⟩) 1 1, .bool true] rfl rfl size_Num rfl ((HA.out.2.2.keep HB1.out).alloc _) (Nat.le_refl _) rfl ?_; intro W9 c9 g9))
  have hb1 := below_then HA.out.1 HB1.out
  have hW := put_facts (g := w.heap.size + 1) (hb1.alloc hb1.size _) (by omega) g9
  have ho := ((digA_one (w := w1) (x := 1) (by omega)).away g9 (Nat.lt_of_lt_of_le HA.out.2.2.1 HB1.out.size)).base (base' := w.heap.size) hb1.size
  obtain ⟨dsc, hd1, hd2⟩ := row_Num
  refine bodyPost_ret (resC rfl _ _ W9 (g := w.heap.size + 1) rfl (res_box 113 c9 dsc hd1 hd2 size_Num)) rfl ?_
  exact ⟨_, rfl, ho, hW⟩
theorem rt_read_big1 (neg : Bool) (A B : Option Addr) (n c m d : Nat) (r : List Int) (w : World) (hB : DigA w B r) (hm : r.length = m) (hd : m ≤ d) (h9 : m ≤ 1000000) (hm1 : m = 1) (h1 : r ≠ [1]) (h0 : nv r ≠ 0) : Calls Try.prog 86 #[.agg #[.bool neg, .slice A n c, .slice B m d]] w (RetV w (.agg #[.bool neg, .slice A n c, .slice B m d, .bool false])) := by
  have CQ : Hid (∀ w1, Below w.heap.size w w1 → Calls Try.prog 95 #[.slice B m d, .slice none 0 0] w1 fun e w' => e = .returned (.int .i64 1) ∧ Below w1.heap.size w1 w') := Lib.hid fun w1 h => by
    have e : cmpI (nv r) 0 = 1 := by have := nv_low hB.dig; unfold cmpI; rw [if_neg (by omega), if_neg h0]
    have := nt_Compare B none m 0 d 0 r [] w1 (hB.grow h) DigA.nil hm rfl hd (Nat.le_refl _) (by omega) (by omega)
    rw [show nv [] = 0 from rfl, e] at this
    exact this
  subst hm1
  obtain ⟨y, rfl⟩ := nv_len1 hm
  obtain ⟨bd, y', rfl, hbb, hy, hcy, _⟩ := hB.at_ (k := 0) (by simp)
  rw [show bd.add 0 = bd from rfl] at hcy
  simp at hy
  subst hy
  have h1' : (y == 1) = false := by simpa using h1
  have h1'' : y ≠ 1 := by simpa using h1
  clear hB hm h0 h1
  go_enter Try.func86, Try.ntmps86
  have hB0 : Below w.heap.size w ((w.alloc (.cells #[.bool neg, .slice A n c, .slice (some bd) 1 d] 28)).alloc (.cells #[.bool false, .slice none 0 0, .slice none 0 0, .bool false] 113)) := ((Below.refl _ _).alloc (Nat.le_refl _) _).alloc (by simp) _
  have b1 : Box ((w.alloc (.cells #[.bool neg, .slice A n c, .slice (some bd) 1 d] 28)).alloc (.cells #[.bool false, .slice none 0 0, .slice none 0 0, .bool false] 113)) w.heap.size [.bool neg, .slice A n c, .slice (some bd) 1 d] := (Box.new rfl).alloc _
  have b2 : Box ((w.alloc (.cells #[.bool neg, .slice A n c, .slice (some bd) 1 d] 28)).alloc (.cells #[.bool false, .slice none 0 0, .slice none 0 0, .bool false] 113)) (w.heap.size + 1) [.bool false, .slice none 0 0, .slice none 0 0, .bool false] := Box.new (by simp)
  have hc2 := (hB0.cell hbb).trans hcy
  clear hcy hbb
  go_upto_region 3 with fail
  clear hc2
  generalize (w.alloc (.cells #[.bool neg, .slice A n c, .slice (some bd) 1 d] 28)).alloc (.cells #[.bool false, .slice none 0 0, .slice none 0 0, .bool false] 113) = wA at hB0 b1 b2 ⊢
  have z3 : wA.cell? ⟨w.heap.size, 2, none⟩ = some (.slice (some bd) 1 d) := b1.2.1 2
  have HA := Lib.hid (And.intro hB0 (And.intro b1 b2))
  clear hB0 b1 b2
  obtain ⟨dI, hI1, hI2⟩ := row_Int
  have HI := Lib.hid (And.intro hI1 hI2)
  clear hI1 hI2
  go_wp2_with (first
    | (go_at_call 95; (with_reducible refine (CQ.out _ HA.out.1).mono ?_); rintro e1 w1 ⟨rfl, hb1⟩; have HB1 := Lib.hid hb1; have y3 : w1.cell? ⟨w.heap.size, 2, none⟩ = some (.slice (some bd) 1 d) := (HA.out.2.1.keep hb1).2.1 2; clear hb1)
    | ((with_reducible show wpList _ _ _ (Oper.mk _ (.load 26 _) _ _ _ _ :: _) _ _); refine wp_ld rfl 26 _ rfl w.heap.size 0 rfl (HA.out.2.1.keep HB1.out) [.bool neg, .slice A n c] (fun j v h => by rcases j with _ | _ | j <;> simp at h ⊢ <;> exact h) dI HI.out.1 HI.out.2 size_Int ?_)
    | ((with_reducible show wpList _ _ _ (Oper.mk none (.store 113 _ _) _ _ _ _ :: _) _ _); refine wp_st rfl 113 _ _ rfl (w.heap.size + 1) 0 [.bool neg, .slice A n c, .slice (some bd) 1 d, .bool false] rfl rfl size_Num rfl (HA.out.2.2.keep HB1.out) (Nat.le_refl _) rfl ?_; intro W9 c9 g9))
  have hW := put_facts (g := w.heap.size + 1) (below_then HA.out.1 HB1.out) (by omega) g9
  obtain ⟨dsc, hd1, hd2⟩ := row_Num
  refine bodyPost_ret (resC rfl _ _ W9 (g := w.heap.size + 1) rfl (res_box 113 c9 dsc hd1 hd2 size_Num)) rfl ?_
  exact ⟨rfl, hW⟩
theorem rt_read_zero1 (neg : Bool) (A B : Option Addr) (n c m d : Nat) (r : List Int) (w : World) (hB : DigA w B r) (hm : r.length = m) (hd : m ≤ d) (h9 : m ≤ 1000000) (hm1 : m = 1) (h1 : r ≠ [1]) (h0 : nv r = 0) : Calls Try.prog 86 #[.agg #[.bool neg, .slice A n c, .slice B m d]] w (RetZ w) := by
  have CQ : Hid (∀ w1, Below w.heap.size w w1 → Calls Try.prog 95 #[.slice B m d, .slice none 0 0] w1 fun e w' => e = .returned (.int .i64 0) ∧ Below w1.heap.size w1 w') := Lib.hid fun w1 h => by
    have := nt_Compare B none m 0 d 0 r [] w1 (hB.grow h) DigA.nil hm rfl hd (Nat.le_refl _) (by omega) (by omega)
    rw [show nv [] = 0 from rfl, h0, show cmpI 0 0 = 0 from rfl] at this
    exact this
  subst hm1
  obtain ⟨y, rfl⟩ := nv_len1 hm
  obtain ⟨bd, y', rfl, hbb, hy, hcy, _⟩ := hB.at_ (k := 0) (by simp)
  rw [show bd.add 0 = bd from rfl] at hcy
  simp at hy
  subst hy
  have h1' : (y == 1) = false := by simpa using h1
  have h1'' : y ≠ 1 := by simpa using h1
  clear hB hm h0 h1
  go_enter Try.func86, Try.ntmps86
  have hB0 : Below w.heap.size w ((w.alloc (.cells #[.bool neg, .slice A n c, .slice (some bd) 1 d] 28)).alloc (.cells #[.bool false, .slice none 0 0, .slice none 0 0, .bool false] 113)) := ((Below.refl _ _).alloc (Nat.le_refl _) _).alloc (by simp) _
  have b1 : Box ((w.alloc (.cells #[.bool neg, .slice A n c, .slice (some bd) 1 d] 28)).alloc (.cells #[.bool false, .slice none 0 0, .slice none 0 0, .bool false] 113)) w.heap.size [.bool neg, .slice A n c, .slice (some bd) 1 d] := (Box.new rfl).alloc _
  have b2 : Box ((w.alloc (.cells #[.bool neg, .slice A n c, .slice (some bd) 1 d] 28)).alloc (.cells #[.bool false, .slice none 0 0, .slice none 0 0, .bool false] 113)) (w.heap.size + 1) [.bool false, .slice none 0 0, .slice none 0 0, .bool false] := Box.new (by simp)
  have hc2 := (hB0.cell hbb).trans hcy
  clear hcy hbb
  go_upto_region 3 with fail
  clear hc2
  generalize (w.alloc (.cells #[.bool neg, .slice A n c, .slice (some bd) 1 d] 28)).alloc (.cells #[.bool false, .slice none 0 0, .slice none 0 0, .bool false] 113) = wA at hB0 b1 b2 ⊢
  have z3 : wA.cell? ⟨w.heap.size, 2, none⟩ = some (.slice (some bd) 1 d) := b1.2.1 2
  have HA := Lib.hid (And.intro hB0 (And.intro b1 b2))
  clear hB0 b1 b2
  go_wp2_with (first
    | (go_at_call 95; (with_reducible refine (CQ.out _ HA.out.1).mono ?_); rintro e1 w1 ⟨rfl, hb1⟩; have HB1 := Lib.hid hb1; clear hb1)
    | ((with_reducible show wpList _ _ _ (Oper.mk none (.store 113 _ _) _ _ _ _ :: _) _ _); refine wp_st rfl 113 _ _ rfl (w.heap.size + 1) 0 [.bool false, .slice none 0 0, .slice (some ⟨w1.heap.size, 0, none⟩) 1 1, .bool true] rfl rfl size_Num rfl ((HA.out.2.2.keep HB1.out).alloc _) (Nat.le_refl _) rfl ?_; intro W9 c9 g9))
  have hb1 := below_then HA.out.1 HB1.out
  have hW := put_facts (g := w.heap.size + 1) (hb1.alloc hb1.size _) (by omega) g9
  have ho := ((digA_one (w := w1) (x := 1) (by omega)).away g9 (Nat.lt_of_lt_of_le HA.out.2.2.1 HB1.out.size)).base (base' := w.heap.size) hb1.size
  obtain ⟨dsc, hd1, hd2⟩ := row_Num
  refine bodyPost_ret (resC rfl _ _ W9 (g := w.heap.size + 1) rfl (res_box 113 c9 dsc hd1 hd2 size_Num)) rfl ?_
  exact ⟨_, rfl, ho, hW⟩
end Go.Proofs.Ytmdfgidejdiiiaa
end
section
namespace Go.Proofs.Ytmdfgidejdiiiaa
open Go.RowKit
theorem size_Pair : (Try.prog.info? 111).map (·.size) = some 3 := by kernel_rfl
theorem row_Pair : ∃ d, Try.prog.underlying 111 = some d ∧ d.isRow = true := ⟨_, Try.underlying111, rfl⟩
theorem rt_natural (A : Option Addr) (n c : Nat) (w : World) : Calls Try.prog 93 #[.slice A n c] w (RetV w (.agg #[.bool false, .slice A n c])) := by
  go_enter Try.func93, Try.ntmps93
  go_wp2_with fail
  obtain ⟨dsc, hd1, hd2⟩ := row_Int
  refine bodyPost_ret (resC rfl _ _ _ (g := w.heap.size) rfl (res_box 26 (Box.new rfl) dsc hd1 hd2 size_Int)) rfl ?_
  exact ⟨rfl, (Below.refl _ _).alloc (Nat.le_refl _) _⟩
theorem rt_quotient (na nb : Bool) (A B : Option Addr) (n c m d : Nat) (w : World) : Calls Try.prog 96 #[.agg #[.bool na, .slice A n c], .agg #[.bool nb, .slice B m d]] w (RetV w (.agg #[.bool (na != nb), .slice A n c, .slice B m d])) := by
  go_enter Try.func96, Try.ntmps96
  go_wp2_with fail
  obtain ⟨dsc, hd1, hd2⟩ := row_Pair
  refine bodyPost_ret (resC rfl _ _ _ (g := w.heap.size + 1 + 1) rfl (res_box 111 (Box.new (by simp)) dsc hd1 hd2 size_Pair)) rfl ?_
  exact ⟨rfl, (((Below.refl _ _).alloc (Nat.le_refl _) _).alloc (by simp) _).alloc (by simp; omega) _⟩
theorem rt_isOne (A : Option Addr) (n c : Nat) (l : List Int) (w : World) (h : DigA w A l) (hn : l.length = n) : Calls Try.prog 119 #[.slice A n c] w fun e w' => e = .returned (.bool (decide (l = [1]))) ∧ w = w' := by
  by_cases h1 : n = 1
  · subst h1
    obtain ⟨y, rfl⟩ := nv_len1 hn
    obtain ⟨bd, y', rfl, hbb, hy, hcy, _⟩ := h.at_ (k := 0) (by simp)
    rw [show bd.add 0 = bd from rfl] at hcy
    simp at hy
    subst hy
    clear h hn hbb
    by_cases hy1 : y = 1
    · subst hy1
      rw [decide_eq_true rfl]
      go_enter Try.func119, Try.ntmps119
      go_wp2_with fail
      go_ret
      exact ⟨rfl, rfl⟩
    · have e : ¬ ([y] : List Int) = [1] := by simpa using hy1
      have hy2 : (y == 1) = false := by simpa using hy1
      rw [decide_eq_false e]
      clear e
      go_enter Try.func119, Try.ntmps119
      go_wp2_with fail
      go_ret
      exact ⟨rfl, rfl⟩
  · have e : ¬ l = [1] := by intro e; rw [e] at hn; exact h1 hn.symm
    have h1' : (n : Int) ≠ 1 := by omega
    rw [decide_eq_false e]
    clear e h hn
    go_enter Try.func119, Try.ntmps119
    go_wp2_with fail
    go_ret
    exact ⟨rfl, rfl⟩
end Go.Proofs.Ytmdfgidejdiiiaa
end
section
namespace Go.Proofs.Ytmdfgidejdiiiaa
open Go.RowKit
def RatE (b : Nat) (w : World) (v : Value) (P Q : Int) (K M : Nat) : Prop := ∃ p q, RatO b w v p q K M ∧ p * Q = P * q ∧ 0 < q
def RetL (w : World) (P Q : Int) (K M : Nat) (e : Ending) (w' : World) : Prop := ∃ v, e = .returned v ∧ RatE w.heap.size w' v P Q K M ∧ Below w.heap.size w w'
theorem sgn_scale (b : Bool) (x y : Int) : sgn b (x * y) = sgn b x * y := by
  cases b <;> simp [sgn, Int.neg_mul]
theorem NumO.base {b b' : Nat} {w : World} {v : Value} {x : Int} {K : Nat} (h : NumO b w v x K) (hb : b' ≤ b) : NumO b' w v x K := by
  obtain ⟨A, c, l, e, o, r⟩ := h; exact ⟨A, c, l, e, o.base hb, r⟩
theorem IntO.base {b b' : Nat} {w : World} {v : Value} {x : Int} {K : Nat} (h : IntO b w v x K) (hb : b' ≤ b) : IntO b' w v x K := by
  obtain ⟨n, A, c, l, e, o, r⟩ := h; exact ⟨n, A, c, l, e, o.base hb, r⟩
inductive Dsq where
  | v (u : Value)
  | num (x : Int) (K : Nat)
  | int (z : Int) (K : Nat)
  | rat (p q : Int) (K M : Nat)
def dQ (b : Nat) (ds : List Dsq) (i : Nat) (v : Value) (w : World) : Prop :=
  match ds[i]? with
  | some (.v u) => v = u
  | some (.num x K) => NumO b w v x K
  | some (.int z K) => IntO b w v z K
  | some (.rat p q K M) => RatO b w v p q K M
  | none => True
theorem RatO.grow {b : Nat} {w w' : World} {v : Value} {p q : Int} {K M : Nat} (h : RatO b w v p q K M) (hb : Below w.heap.size w w') : RatO b w' v p q K M := by
  obtain ⟨n, A, c, l, B, d, r, e, ⟨o, o'⟩, t, t'⟩ := h; exact ⟨n, A, c, l, B, d, r, e, ⟨o.grow hb, o'⟩, t.grow hb, t'⟩
theorem RatO.away {b g : Nat} {w w' : World} {v : Value} {p q : Int} {K M : Nat} (h : RatO b w v p q K M) (hb : w.grownBy w' (some g)) (hg : g < b) : RatO b w' v p q K M := by
  obtain ⟨n, A, c, l, B, d, r, e, ⟨o, o'⟩, t, t'⟩ := h; exact ⟨n, A, c, l, B, d, r, e, ⟨o.away hb hg, o'⟩, t.away hb hg, t'⟩
theorem RatO.base {b b' : Nat} {w : World} {v : Value} {p q : Int} {K M : Nat} (h : RatO b w v p q K M) (hb : b' ≤ b) : RatO b' w v p q K M := by
  obtain ⟨n, A, c, l, B, d, r, e, ⟨o, o'⟩, t, t'⟩ := h; exact ⟨n, A, c, l, B, d, r, e, ⟨o.base hb, o'⟩, t.base hb, t'⟩
theorem dQ_keep {b : Nat} {ds : List Dsq} {w w' : World} (h : Below w.heap.size w w') (i : Nat) (v : Value) (hf : dQ b ds i v w) : dQ b ds i v w' := by
  unfold dQ at hf ⊢
  split at hf
  · exact hf
  · exact hf.grow h
  · exact hf.grow h
  · exact hf.grow h
  · trivial
theorem low_facts {G x y : Int} (hy : 0 < y) (h1 : G ∣ x) (h2 : G ∣ y) (hG : 0 ≤ G) (neg : Bool) : sgn neg (x / G) * y = sgn neg x * (y / G) ∧ 0 < y / G ∧ G ≠ 0 := by
  have hG0 : G ≠ 0 := fun e => by subst e; have := Int.zero_dvd.1 h2; omega
  obtain ⟨a, rfl⟩ := h1
  obtain ⟨b, rfl⟩ := h2
  have hGp : 0 < G := by omega
  rw [Int.mul_ediv_cancel_left _ hG0, Int.mul_ediv_cancel_left _ hG0]
  have hb : 0 < b := by
    rcases Int.lt_or_le 0 b with h | h
    · exact h
    · have := mul_mono' (a := b) (b := 0) (c := G) h (by omega)
      omega
  refine ⟨?_, hb, hG0⟩
  have e : a * (G * b) = G * a * b := by rw [Int.mul_left_comm, Int.mul_assoc]
  cases neg with
  | false => exact e
  | true => show -a * (G * b) = -(G * a) * b; rw [Int.neg_mul, Int.neg_mul, e]
theorem div_exact {x y : Int} (h : x % y = 0) : x / y * y = x := by
  have := Int.mul_ediv_add_emod x y
  rw [Int.mul_comm]; omega
set_option maxRecDepth 100000 in
set_option maxHeartbeats 4000000 in
theorem rt_lowest (neg : Bool) (A B : Option Addr) (n c m d : Nat) (l r : List Int) (w : World) (hl : DigA w A l) (hr : DigA w B r) (hn : l.length = n) (hm : r.length = m) (hc : n ≤ c) (hd : m ≤ d) (h9 : n ≤ 1000000) (h8 : m ≤ 1000000) (h0 : 0 < nv r) :
    Calls Try.prog 90 #[.agg #[.bool neg, .slice A n c, .slice B m d]] w (RetL w (sgn neg (nv l)) (nv r) n m) := by
  have hm1 : 1 ≤ m := by
    rcases Nat.eq_zero_or_pos m with h | h
    · have e := List.length_eq_zero_iff.1 (hm.trans h)
      rw [e] at h0
      exact absurd h0 (by decide)
    · exact h
  have CDV : Hid (∀ w1, Below w.heap.size w w1 → Calls Try.prog 116 #[.slice A n c, .slice B m d] w1 (RetQRE w1 (nv l / nv r) (nv l % nv r) n m)) := Lib.hid fun w1 h => nt_DivMod A B n m c d l r w1 (hl.grow h) (hr.grow h) hn hm hc hd (by omega) (by omega) (by omega)
  have HL := Lib.hid (And.intro hl (And.intro hr (And.intro hn hm)))
  have H0 := Lib.hid h0
  clear hl hr hn hm h0
  go_enter Try.func90, Try.ntmps90
  go_upto_region 1 with fail
  have hB0 : Below w.heap.size w ((w.alloc (.cells #[.bool neg, .slice A n c, .slice B m d] 111)).alloc (.cells #[.bool false, .slice none 0 0, .slice none 0 0] 28)) := ((Below.refl _ _).alloc (Nat.le_refl _) _).alloc (by simp) _
  have b1 : Box ((w.alloc (.cells #[.bool neg, .slice A n c, .slice B m d] 111)).alloc (.cells #[.bool false, .slice none 0 0, .slice none 0 0] 28)) w.heap.size [.bool neg, .slice A n c, .slice B m d] := (Box.new rfl).alloc _
  have b2 : Box ((w.alloc (.cells #[.bool neg, .slice A n c, .slice B m d] 111)).alloc (.cells #[.bool false, .slice none 0 0, .slice none 0 0] 28)) (w.heap.size + 1) [.bool false, .slice none 0 0, .slice none 0 0] := Box.new (by simp)
  generalize (w.alloc (.cells #[.bool neg, .slice A n c, .slice B m d] 111)).alloc (.cells #[.bool false, .slice none 0 0, .slice none 0 0] 28) = wA at hB0 b1 b2 ⊢
  have z2 : wA.cell? ⟨w.heap.size, 1, none⟩ = some (.slice A n c) := b1.2.1 1
  have z3 : wA.cell? ⟨w.heap.size, 2, none⟩ = some (.slice B m d) := b1.2.1 2
  have HA := Lib.hid (And.intro hB0 (And.intro b1 b2))
  clear hB0 b1 b2
  go_upto_region 2 with (go_at_call 116; (with_reducible refine (CDV.out _ HA.out.1).mono ?_); rintro e1 w1 ⟨v1, l1, v2, l2, rfl, ⟨o1, n1, m1, k1⟩, ⟨o2, n2, m2, k2⟩, hb1⟩; have HB1 := Lib.hid hb1; have H1 := Lib.hid (And.intro o1 (And.intro n1 (And.intro m1 k1))); have H2 := Lib.hid (And.intro o2 (And.intro n2 (And.intro m2 k2))); clear o1 n1 m1 k1 o2 n2 m2 k2 hb1)
  obtain ⟨A1, c1, rfl, hc1, hd1⟩ := H1.out.1.form
  obtain ⟨A2, c2, rfl, hc2, hd2⟩ := H2.out.1.form
  have bx := HA.out.2.1.keep HB1.out
  have y1 : w1.cell? ⟨w.heap.size, 0, none⟩ = some (.bool neg) := bx.2.1 0
  have y2 : w1.cell? ⟨w.heap.size, 1, none⟩ = some (.slice A n c) := bx.2.1 1
  have y3 : w1.cell? ⟨w.heap.size, 2, none⟩ = some (.slice B m d) := bx.2.1 2
  have HX := Lib.hid bx
  clear bx
  by_cases hz : l2 = []
  · subst hz
    have CT : Hid (Calls Try.prog 117 #[.agg #[.bool neg, .slice A1 l1.length c1]] w1 (RetI w1 (sgn neg (nv l1)) l1.length)) := Lib.hid (it_Trim neg A1 l1.length c1 l1 w1 hd1 rfl hc1 (by have := H1.out.2.2.2; omega))
    clear hc1 hd1 hc2 hd2
    go_wp2_with (first
      | (go_at_call 117; (with_reducible refine CT.out.mono ?_); rintro e2 w2 ⟨v3, rfl, ⟨ng, A3, c3, l3, rfl, o3, m3, k3, s3⟩, hb2⟩; have HB2 := Lib.hid hb2; have H3 := Lib.hid (And.intro o3 (And.intro k3 s3)); clear hb2 o3 m3 k3 s3)
      | (go_at_call 88; (with_reducible refine (rt_whole _ _ _ _ _).mono ?_); rintro e3 w3 ⟨g3, rfl, o4, hb3⟩; have HB3 := Lib.hid hb3; have H4 := Lib.hid o4; clear hb3 o4)
      | ((with_reducible show wpList _ _ _ (Oper.mk none (.store 28 _ _) _ _ _ _ :: _) _ _); refine wp_st rfl 28 _ _ rfl (w.heap.size + 1) 0 [_, _, _] rfl rfl size_Rat rfl (((HA.out.2.2.keep HB1.out).keep HB2.out).keep HB3.out) (Nat.le_refl _) rfl ?_; intro W9 c9 g9))
    have hba := below_then HA.out.1 HB1.out
    have hW := put_facts (g := w.heap.size + 1) (below_then (below_then hba HB2.out) HB3.out) (by omega) g9
    have hlt := Nat.lt_of_lt_of_le HA.out.2.2.1 HB1.out.size
    have h3 := ((H3.out.1.grow HB3.out).away g9 hlt).base (base' := w.heap.size) hba.size
    have h4 := (H4.out.away g9 (Nat.lt_of_lt_of_le hlt HB2.out.size)).base (base' := w.heap.size) (below_then hba HB2.out).size
    obtain ⟨dsc, hd1, hd2⟩ := row_Rat
    refine bodyPost_ret (resC rfl _ _ W9 (g := w.heap.size + 1) rfl (res_box 28 c9 dsc hd1 hd2 size_Rat)) rfl ?_
    refine ⟨_, rfl, ⟨_, 1, ⟨ng, A3, c3, l3, _, 1, [1], rfl, ⟨h3, Nat.le_trans H3.out.2.1 H1.out.2.2.2, H3.out.2.2⟩, h4, by simpa using hm1, rfl⟩, ?_, by omega⟩, hW⟩
    have e0 : nv l % nv r = 0 := by rw [← H2.out.2.1]; rfl
    rw [H1.out.2.1, ← sgn_scale, div_exact e0, Int.mul_one]
  · have hlz : l2.length ≠ 0 := fun e => hz (List.length_eq_zero_iff.1 e)
    have hlz' : (l2.length : Int) ≠ 0 := by omega
    have hk2 := H2.out.2.2.2
    have CG : Hid (Calls Try.prog 118 #[.slice B m d, .slice A2 l2.length c2] w1 (RetG w1 (nv r) (nv l2) (max m l2.length + 2))) := Lib.hid (nt_Gcd B A2 m l2.length d c2 r l2 w1 ((HL.out.2.1.grow HA.out.1).grow HB1.out) hd2 HL.out.2.2.2 rfl hd hc2 (by omega) (by omega))
    clear hc1 hd1 hc2 hd2 hz
    go_upto_region 5 with (go_at_call 118; (with_reducible refine CG.out.mono ?_); rintro e2 w2 ⟨v3, lg, rfl, o3, ⟨g1, g2⟩, m3, k3, hb2⟩; have HB2 := Lib.hid hb2; have H3 := Lib.hid (And.intro o3 (And.intro m3 k3)); have HG := Lib.hid (And.intro g1 g2); clear hb2 o3 g1 g2 m3 k3)
    obtain ⟨A3, c3, rfl, hc3, hd3⟩ := H3.out.1.form
    have bx := HX.out.keep HB2.out
    have x1 : w2.cell? ⟨w.heap.size, 0, none⟩ = some (.bool neg) := bx.2.1 0
    have x2 : w2.cell? ⟨w.heap.size, 1, none⟩ = some (.slice A n c) := bx.2.1 1
    have x3 : w2.cell? ⟨w.heap.size, 2, none⟩ = some (.slice B m d) := bx.2.1 2
    have HX2 := Lib.hid bx
    have CI : Hid (Calls Try.prog 119 #[.slice A3 lg.length c3] w2 fun e w' => e = .returned (.bool (decide (lg = [1]))) ∧ w2 = w') := Lib.hid (rt_isOne A3 lg.length c3 lg w2 hd3 rfl)
    have HLW : Hid (Below w.heap.size w w2) := Lib.hid (below_then (below_then HA.out.1 HB1.out) HB2.out)
    have HD : Hid (nv lg ∣ nv l ∧ nv lg ∣ nv r) := Lib.hid ⟨dvd_mod HG.out.1 (by rw [← H2.out.2.1]; exact HG.out.2), HG.out.1⟩
    have hk3 := H3.out.2.2
    have hlf := low_facts H0.out HD.out.1 HD.out.2 (nv_low H3.out.1.dig) neg
    have HF := Lib.hid hlf
    clear bx y1 y2 y3 z2 z3 hlf
    by_cases hg : lg = [1]
    · rw [decide_eq_true hg] at CI
      have CT : Hid (∀ w3, Below w2.heap.size w2 w3 → Calls Try.prog 117 #[.agg #[.bool neg, .slice A n c]] w3 (RetI w3 (sgn neg (nv l)) n)) := Lib.hid fun w3 h => it_Trim neg A n c l w3 ((HL.out.1.grow HLW.out).grow h) HL.out.2.2.1 hc h9
      have CU : Hid (∀ w3, Below w2.heap.size w2 w3 → Calls Try.prog 120 #[.slice B m d] w3 (RetN w3 (nv r) m)) := Lib.hid fun w3 h => nt_Trim B m d r w3 ((HL.out.2.1.grow HLW.out).grow h) HL.out.2.2.2 hd (by omega)
      clear hc3 hd3 hg
      go_upto_region 6 with (go_at_call 119; (with_reducible refine CI.out.mono ?_); rintro e3 w3 ⟨rfl, rfl⟩)
      refine wp_region_grow2 (fun i => Nat.blt i 7) (fun _ => false) (fun w9 => Below w2.heap.size w2 w9) (fun a b => Below a.heap.size a b) (dQ w2.heap.size [.v (.pointer (some ⟨w.heap.size, 0, none⟩)), .v (.agg #[.bool neg, .slice A n c]), .int (sgn neg (nv l)) n, .v (.pointer (some ⟨w.heap.size, 2, none⟩)), .v (.slice B m d), .num (nv r) m, .rat (sgn neg (nv l)) (nv r) n m]) (by kernel_rfl) (by kernel_rfl) (Below.refl _ _).drew (fun a b h1 h2 => ⟨below_then h1 h2, fun i _ v => dQ_keep h2 i v⟩) (fun _ _ => Below.refl _ _) ?_ (fun _ _ _ _ h => by cases h) ?_
      · refine ⟨?_, ?_, ?_, ?_, ?_, ?_, ?_, trivial⟩
        all_goals
          intro vs w9 hp hF
          have HP := Lib.hid hp
          have x1 : w9.cell? ⟨w.heap.size, 0, none⟩ = some (.bool neg) := (HX2.out.keep hp).2.1 0
          have x2 : w9.cell? ⟨w.heap.size, 1, none⟩ = some (.slice A n c) := (HX2.out.keep hp).2.1 1
          have x3 : w9.cell? ⟨w.heap.size, 2, none⟩ = some (.slice B m d) := (HX2.out.keep hp).2.1 2
          clear hp
          simp [depsB, Region.binds, dQ] at hF
          simp [stL, depsB, Region.binds, Act.put, hF]
        · (go_wp2_with fail; exact ⟨rfl, Below.refl _ _⟩)
        · (obtain ⟨dI, hI1, hI2⟩ := row_Int; refine wp_ld rfl 26 _ rfl (w.heap.size) 0 rfl (((HX2.out.keep HP.out))) [.bool neg, .slice A n c] (fun j v h => by rcases j with _ | _ | _ | j <;> simp at h ⊢ <;> exact h) dI hI1 hI2 size_Int ?_; go_wp2_with fail; exact ⟨rfl, Below.refl _ _⟩)
        · go_wp2_with (go_at_call 117; (with_reducible refine (CT.out _ HP.out).mono ?_); rintro e1 w1' ⟨v1, rfl, o1, hb1⟩)
          exact IntO.base o1 HP.out.size
        · (go_wp2_with fail; exact ⟨rfl, Below.refl _ _⟩)
        · (go_wp2_with fail; exact ⟨rfl, Below.refl _ _⟩)
        · go_wp2_with (go_at_call 120; (with_reducible refine (CU.out _ HP.out).mono ?_); intro e1 w1' h1; obtain ⟨v1, rfl, o1, hb1⟩ := h1.num (b := w2.heap.size) HP.out.size)
          exact o1
        · obtain ⟨⟨ng', A', c', l', e4, o4, n4, m4, k4⟩, A5, c5, l5, e5, o5, n5, m5, k5⟩ := hF
          simp only [e4, e5]
          go_wp2_with fail
          exact ⟨⟨ng', A', c', l', A5, c5, l5, rfl, ⟨o4, m4, k4⟩, o5, k5, n5⟩, Below.refl _ _⟩
      intro vs w9 hp hF
      obtain ⟨ng', A', c', l', A5, c5, l5, e5, o5⟩ : RatO w2.heap.size w9 (vs 6) (sgn neg (nv l)) (nv r) n m := hF 6 (by decide) rfl
      have o6 : RatO w2.heap.size w9 (.agg #[.bool ng', .slice A' l'.length c', .slice A5 l5.length c5]) (sgn neg (nv l)) (nv r) n m := ⟨ng', A', c', l', A5, c5, l5, rfl, o5⟩
      have hba := below_then HA.out.1 HB1.out
      have b9 := ((HA.out.2.2.keep HB1.out).keep HB2.out).keep hp
      have hb9 := below_then (below_then hba HB2.out) hp
      clear hF o5
      show wpList Try.prog _ _ [_] _ _
      simp [stL, Act.put, e5]
      refine wp_st rfl 28 _ _ rfl (w.heap.size + 1) 0 [_, _, _] rfl rfl size_Rat rfl b9 (Nat.le_refl _) rfl ?_
      intro W9 c9 g9
      have hW := put_facts (g := w.heap.size + 1) hb9 (by omega) g9
      have HO := Lib.hid ((o6.away g9 (Nat.lt_of_lt_of_le HA.out.2.2.1 (below_then HB1.out HB2.out).size)).base (b' := w.heap.size) (below_then hba HB2.out).size)
      have HC := Lib.hid (And.intro c9 hW)
      clear c9 g9 hW o6 e5 b9 hb9 hp hba
      go_wp2_with fail
      obtain ⟨dsc, hd1, hd2⟩ := row_Rat
      refine bodyPost_ret (resC rfl _ _ W9 (g := w.heap.size + 1) rfl (res_box 28 HC.out.1 dsc hd1 hd2 size_Rat)) rfl ?_
      exact ⟨_, rfl, ⟨_, _, HO.out, rfl, H0.out⟩, HC.out.2⟩
    · rw [decide_eq_false hg] at CI
      have CA : Hid (∀ w3, Below w2.heap.size w2 w3 → Calls Try.prog 116 #[.slice A n c, .slice A3 lg.length c3] w3 (RetQRE w3 (nv l / nv lg) (nv l % nv lg) n lg.length)) := Lib.hid fun w3 h => nt_DivMod A A3 n lg.length c c3 l lg w3 ((HL.out.1.grow HLW.out).grow h) (hd3.grow h) HL.out.2.2.1 rfl hc hc3 (by omega) (by omega) HF.out.2.2
      have CB : Hid (∀ w3, Below w2.heap.size w2 w3 → Calls Try.prog 116 #[.slice B m d, .slice A3 lg.length c3] w3 (RetQRE w3 (nv r / nv lg) (nv r % nv lg) m lg.length)) := Lib.hid fun w3 h => nt_DivMod B A3 m lg.length d c3 r lg w3 ((HL.out.2.1.grow HLW.out).grow h) (hd3.grow h) HL.out.2.2.2 rfl hd hc3 (by omega) (by omega) HF.out.2.2
      clear hc3 hd3 hg
      have HZ : Hid (Below w2.heap.size w2 w2) := Lib.hid (Below.refl _ _)
      go_wp2_with (first
        | (go_at_call 119; (with_reducible refine CI.out.mono ?_); rintro e3 w3 ⟨rfl, rfl⟩)
        | (go_at_call 116; first
            | ((with_reducible refine (CA.out _ HZ.out).mono ?_); rintro e4 w4 ⟨v4, l4, v4', l4', rfl, ⟨oa, na, ma, ka⟩, -, hbb⟩; obtain ⟨A4, c4, rfl, -, -⟩ := oa.form; have HB4 := Lib.hid hbb; have HVA := Lib.hid (And.intro oa (And.intro na ka)); have u3 : w4.cell? ⟨w.heap.size, 2, none⟩ = some (.slice B m d) := (HX2.out.keep hbb).2.1 2; clear oa na ma ka hbb)
            | ((with_reducible refine (CB.out _ HB4.out).mono ?_); rintro e5 w5 ⟨v5, l5, v5', l5', rfl, ⟨oa, na, ma, ka⟩, -, hbb⟩; obtain ⟨A5, c5, rfl, -, -⟩ := oa.form; have HB5 := Lib.hid hbb; have HVC := Lib.hid (And.intro oa (And.intro na ka)); have t1 : w5.cell? ⟨w.heap.size, 0, none⟩ = some (.bool neg) := ((HX2.out.keep HB4.out).keep hbb).2.1 0; clear oa na ma ka hbb))
        | ((with_reducible show wpList _ _ _ (Oper.mk none (.store 28 _ _) _ _ _ _ :: _) _ _); refine wp_st rfl 28 _ _ rfl (w.heap.size + 1) 0 [_, _, _] rfl rfl size_Rat rfl ((((HA.out.2.2.keep HB1.out).keep HB2.out).keep HB4.out).keep HB5.out) (Nat.le_refl _) rfl ?_; intro W9 c9 g9))
      have hba := below_then HLW.out HB4.out
      have hW := put_facts (g := w.heap.size + 1) (below_then hba HB5.out) (by omega) g9
      have hlt := Nat.lt_of_lt_of_le HA.out.2.2.1 (below_then HB1.out HB2.out).size
      have h3 := ((HVA.out.1.grow HB5.out).away g9 hlt).base (base' := w.heap.size) HLW.out.size
      have h4 := (HVC.out.1.away g9 (Nat.lt_of_lt_of_le hlt HB4.out.size)).base (base' := w.heap.size) hba.size
      obtain ⟨dsc, hd1, hd2⟩ := row_Rat
      refine bodyPost_ret (resC rfl _ _ W9 (g := w.heap.size + 1) rfl (res_box 28 c9 dsc hd1 hd2 size_Rat)) rfl ?_
      refine ⟨_, rfl, ⟨_, _, ⟨neg, A4, c4, l4, A5, c5, l5, rfl, ⟨h3, HVA.out.2.2, rfl⟩, h4, HVC.out.2.2, rfl⟩, ?_, ?_⟩, hW⟩
      · rw [HVA.out.2.1, HVC.out.2.1]; exact HF.out.1
      · rw [HVC.out.2.1]; exact HF.out.2.1
end Go.Proofs.Ytmdfgidejdiiiaa
end
section
namespace Go.Proofs.Ytmdfgidejdiiiaa
open Go.RowKit
section
variable {P : Program} {md : Region.Mode}
def Prior4 (F : Nat → Value → World → Prop) (G : Nat → Value → World → World → Prop) (H : World → World → Prop) (i j : Nat) (u v : Value) (w : World) : Prop := ∃ w1 w2, F i u w1 ∧ G j v w1 w2 ∧ H w2 w
end
end Go.Proofs.Ytmdfgidejdiiiaa
end
