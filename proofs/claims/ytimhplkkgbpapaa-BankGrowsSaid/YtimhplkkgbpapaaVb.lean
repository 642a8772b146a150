/- The walk of the law BankReconstructs. -/
import Derived.Test.YtimhplkkgbpapaaVa
namespace Go.Proofs.Ytimhplkkgbpapaa
open Go.RowKit

theorem evenB_two (h : Nat) : evenB (2 * h) = true := by unfold evenB; simp
theorem anE_ok {ls : List Lft} {x : List Int} {h : Nat} (h1 : lftsB ls = true) (h2 : x.length = 2 * h) (h3 : h ≤ 2048) (h4 : W32 x) : anE ls x = 0 := by
  unfold anE
  rw [h1, h2, evenB_two, wB_iff.2 h4, show decide (2 * h ≤ 4096) = true by simp; omega]
  rfl
theorem syE_ok {ls : List Lft} {a b : List Int} {h : Nat} (h1 : lftsB ls = true) (h2 : a.length = h) (h5 : b.length = h) (h3 : h ≤ 2048) (h4 : W32 a) (h6 : W32 b) : syE ls a b = 0 := by
  unfold syE
  rw [h1, h2, h5, wB_iff.2 h4, wB_iff.2 h6, show decide (h + h ≤ 4096) = true by simp; omega, show ((h : Int) == (h : Int)) = true by simp]
  rfl
theorem lftsB_coefs {ls : List Lft} (h : lftsB ls = true) : ls.length ≤ 1000000 ∧ ∀ s ∈ ls, s.2.2.1.length ≤ 9223372036854775807 := by
  obtain ⟨h1, h2⟩ := Bool.and_eq_true _ _ ▸ h
  have h1 := of_decide_eq_true h1
  refine ⟨by omega, fun s hs => ?_⟩
  have := List.all_eq_true.1 h2 s hs
  obtain ⟨h3, _⟩ := Bool.and_eq_true _ _ ▸ this
  have := (head_iff.1 h3).1
  omega
/-- Two slices and no error. -/
def Got2 (w : World) (a b : List Int) (e : Ending) (w' : World) : Prop := ∃ A c B d, e = .returned (.tuple #[.slice A a.length c, .slice B b.length d, .int .i64 0]) ∧ Ints w' A a ∧ Ints w' B b ∧ Below w.heap.size w w'
/-- One slice and no error. -/
def Got1 (w : World) (a : List Int) (e : Ending) (w' : World) : Prop := ∃ A c, e = .returned (.tuple #[.slice A a.length c, .int .i64 0]) ∧ Ints w' A a ∧ Below w.heap.size w w'
theorem got_Analyse (A B : Option Addr) (ls : List Lft) (x : List Int) (c d h : Nat) (w : World) (hok : lftsB ls = true) (hx : x.length = 2 * h) (hh : h ≤ 2048) (hw : W32 x) (hL : Lifts w A ls) (hI : Ints w B x) :
    Calls Try.prog 10 #[.slice A ls.length c, .slice B x.length d] w (Got2 w (analyseF ls x).1 (analyseF ls x).2) := by
  obtain ⟨k1, k2⟩ := lftsB_coefs hok
  refine (bk_Analyse A B ls x c d w hL hI k1 k2 (by omega)).mono ?_
  rintro e w' ⟨v1, v2, rfl, o1, o2, hb⟩
  have h0 := anE_ok hok hx hh hw
  rw [show anLo ls x = (analyseF ls x).1 by unfold anLo; rw [if_pos h0]] at o1
  rw [show anHi ls x = (analyseF ls x).2 by unfold anHi; rw [if_pos h0]] at o2
  obtain ⟨A1, c1, rfl, _, i1⟩ := o1.form
  obtain ⟨A2, c2, rfl, _, i2⟩ := o2.form
  rw [h0]
  exact ⟨A1, c1, A2, c2, rfl, i1, i2, hb⟩
theorem got_Synthesise (A B C : Option Addr) (ls : List Lft) (x y : List Int) (c d e h : Nat) (w : World) (hok : lftsB ls = true) (hx : x.length = h) (hy : y.length = h) (hh : h ≤ 2048) (hw : W32 x) (hv : W32 y) (hL : Lifts w A ls) (hI : Ints w B x) (hJ : Ints w C y) :
    Calls Try.prog 12 #[.slice A ls.length c, .slice B x.length d, .slice C y.length e] w (Got1 w (synthF ls x y)) := by
  obtain ⟨k1, k2⟩ := lftsB_coefs hok
  refine (bk_Synthesise A B C ls x y c d e w hL hI hJ k1 k2 (by omega) (by omega)).mono ?_
  rintro e w' ⟨v1, rfl, o1, hb⟩
  have h0 := syE_ok hok hx hy hh hw hv
  rw [show syX ls x y = synthF ls x y by unfold syX; rw [if_pos h0]] at o1
  obtain ⟨A1, c1, rfl, _, i1⟩ := o1.form
  rw [h0]
  exact ⟨A1, c1, rfl, i1, hb⟩
theorem w32_analyse {ls : List Lft} {x : List Int} (hw : W32 x) : W32 (analyseF ls x).1 ∧ W32 (analyseF ls x).2 := w32_fold 1 ls _ ⟨w32_ev hw, w32_od hw⟩
theorem w32_synth {ls : List Lft} {a b : List Int} (ha : W32 a) (hb : W32 b) : W32 (synthF ls a b) := by
  have := w32_fold (-1) ls.reverse (a, b) ⟨ha, hb⟩
  exact w32_weave this.1 this.2
theorem w32_take {x : List Int} {h : Nat} (hw : W32 x) : W32 (x.take h) := fun y hy => hw y (List.mem_of_mem_take hy)
theorem w32_drop {x : List Int} {h : Nat} (hw : W32 x) : W32 (x.drop h) := fun y hy => hw y (List.mem_of_mem_drop hy)
theorem Ints.takeL {w : World} {B : Option Addr} {l : List Int} (h : Ints w B l) (k : Nat) : Ints w B (l.take k) := by
  refine ⟨fun j v hj => h.1 j v ?_, fun x hx => h.2 x (List.mem_of_mem_take hx)⟩
  rw [List.map_take, List.getElem?_take] at hj
  split at hj
  · exact hj
  · cases hj
theorem belowD {a w : World} (h : Below a.drew.heap.size a.drew w) : Below a.heap.size a w := (Below.refl a.heap.size a).drew.trans (h.mono (by simp))
theorem Ints.dropL {w : World} {B : Option Addr} {l : List Int} {c k : Nat} (h : Ints w B l) (hc : l.length ≤ c) : Ints w (if c = k then B else B.map (fun x => x.add k)) (l.drop k) := by
  refine ⟨fun j v hj => ?_, fun x hx => h.2 x (List.mem_of_mem_drop hx)⟩
  rw [List.map_drop, List.getElem?_drop] at hj
  obtain ⟨ad, e, h1, h2⟩ := h.1 (k + j) v hj
  have hlt : k + j < l.length := by have := (List.getElem?_eq_some_iff.1 hj).1; simpa using this
  rw [if_neg (by omega), e]
  exact ⟨ad.add k, rfl, by rw [block_add]; exact h1, by rw [add_add]; exact h2⟩
theorem rf_SameN (A B : Option Addr) (l m : List Int) (c d p q : Nat) (w : World) (hp : l.length = p) (hq : m.length = q) (hm : q ≤ 1000000) (he : l = m) (h : Ints w A l) (g : Ints w B m) :
    Calls Try.prog 11 #[.slice A p c, .slice B q d] w fun e w' => e = .returned (.bool true) ∧ Below w.heap.size w w' := by
  subst hp; subst hq
  exact rf_SameB A B l m c d w (by omega) he h g
/-- Steps in the heap, as an argument. -/
def StepsAt (w : World) (u : (Option Addr × Nat × List Bool) × (Option Addr × Nat × List Int) × (Option Addr × Nat × List Int) × (Option Addr × Nat × List Int)) : Prop :=
  (Bools w u.1.1 u.1.2.2 ∧ u.1.2.2.length ≤ 9223372036854775807) ∧ (Ints w u.2.1.1 u.2.1.2.2 ∧ u.2.1.2.2.length ≤ 9223372036854775807) ∧ (Ints w u.2.2.1.1 u.2.2.1.2.2 ∧ u.2.2.1.2.2.length ≤ 9223372036854775807) ∧ (Ints w u.2.2.2.1 u.2.2.2.2.2 ∧ u.2.2.2.2.2.length ≤ 9223372036854775807)
/-- The same as a value. -/
def stepsV (u : (Option Addr × Nat × List Bool) × (Option Addr × Nat × List Int) × (Option Addr × Nat × List Int) × (Option Addr × Nat × List Int)) : Value :=
  .agg #[.slice u.1.1 u.1.2.2.length u.1.2.1, .slice u.2.1.1 u.2.1.2.2.length u.2.1.2.1, .slice u.2.2.1.1 u.2.2.1.2.2.length u.2.2.1.2.1, .slice u.2.2.2.1 u.2.2.2.2.2.length u.2.2.2.2.1]
/-- A slice of steps handed back. -/
def GotL (w : World) (ls : List Lft) (e : Ending) (w' : World) : Prop := ∃ A c, e = .returned (.slice A ls.length c) ∧ Lifts w' A ls ∧ Below w.heap.size w w'
def GotI (w : World) (l : List Int) (e : Ending) (w' : World) : Prop := ∃ A c, e = .returned (.slice A l.length c) ∧ l.length ≤ c ∧ Ints w' A l ∧ Below w.heap.size w w'
theorem got_Lifts (u : (Option Addr × Nat × List Bool) × (Option Addr × Nat × List Int) × (Option Addr × Nat × List Int) × (Option Addr × Nat × List Int)) :
    ∃ ls : List Lft, lftsB ls = true ∧ ∀ w, StepsAt w u → Calls Try.prog 7 #[stepsV u] w (GotL w ls) := by
  obtain ⟨⟨O, c1, os⟩, ⟨S, c2, st⟩, ⟨C, c3, cf⟩, ⟨H, c4, sh⟩⟩ := u
  refine ⟨lftsF os st cf sh (min os.length 5), lftsF_ok _ _ _ _ _ (Nat.min_le_right _ _), fun w ⟨⟨h1, _⟩, ⟨h2, _⟩, ⟨h3, _⟩, ⟨h4, _⟩⟩ => ?_⟩
  refine (st_Lifts O S C H os st cf sh c1 c2 c3 c4 w h1 h2 h3 h4).mono ?_
  rintro e w' ⟨v, rfl, ho, hb⟩
  obtain ⟨A, c, rfl, hL⟩ := ho.form
  exact ⟨A, c, rfl, hL, hb⟩
theorem got_wide (x : List Int) : ∃ (y : List Int) (h : Nat), y.length = 2 * h ∧ h ≤ 20 ∧ W32 y ∧ ∀ w A c, x.length ≤ 9223372036854775807 → Ints w A x → Calls Try.prog 8 #[.slice A x.length c] w (GotI w y) := by
  obtain ⟨h, e1, e2⟩ := wdN_even x
  refine ⟨wdF x (wdN x), h, by rw [wdF_length, e1], e2, wdF_w32 _ _, fun w A c hl hI => ?_⟩
  refine (l33_wide A x c w hl hI).mono ?_
  rintro e w' ⟨v, rfl, ho, hb⟩
  obtain ⟨A, c, rfl, hc, hL⟩ := ho.form
  exact ⟨A, c, rfl, hc, hL, hb⟩
set_option maxRecDepth 100000 in
set_option maxHeartbeats 4000000 in
theorem law_BankReconstructs (u : (Option Addr × Nat × List Bool) × (Option Addr × Nat × List Int) × (Option Addr × Nat × List Int) × (Option Addr × Nat × List Int)) (t : Option Addr × Nat × List Int) (w : World) (hu : StepsAt w u) (ht : Ints w t.1 t.2.2 ∧ t.2.2.length ≤ 9223372036854775807) :
    Calls Try.prog 4 #[stepsV u, .slice t.1 t.2.2.length t.2.1] w fun e w' => e = .returned (.bool true) ∧ Below w.heap.size w w' := by
  obtain ⟨ls, hok, hcl⟩ := got_Lifts u
  obtain ⟨T, ct, x⟩ := t
  obtain ⟨y, h, hy, hh, hw, hcw⟩ := got_wide x
  obtain ⟨ht, htl⟩ := ht
  simp only at ht htl ⊢
  have hu2 : ∀ o, StepsAt (w.alloc o) u := fun o => by
    obtain ⟨⟨h1, k1⟩, ⟨h2, k2⟩, ⟨h3, k3⟩, ⟨h4, k4⟩⟩ := hu
    have hb := (Below.refl w.heap.size w).alloc (Nat.le_refl _) o
    exact ⟨⟨h1.grow hb, k1⟩, ⟨h2.grow hb, k2⟩, ⟨h3.grow hb, k3⟩, ⟨h4.grow hb, k4⟩⟩
  have ht2 := fun o => ht.grow ((Below.refl _ _).alloc (Nat.le_refl _) o)
  have HU2 := Lib.hid hu2
  have HT2 := Lib.hid ht2
  have HCW := Lib.hid (fun w A c => hcw w A c htl)
  have hb0 := fun o => (Below.refl w.heap.size w).alloc (Nat.le_refl _) o
  have HB0 := Lib.hid hb0
  obtain ⟨⟨O, c1, os⟩, ⟨S, c2, st⟩, ⟨C, c3, cf⟩, ⟨H, c4, sh⟩⟩ := u
  have HCL : Hid (∀ w, StepsAt w ((O, c1, os), (S, c2, st), (C, c3, cf), (H, c4, sh)) → Calls Try.prog 7 #[.agg #[.slice O os.length c1, .slice S st.length c2, .slice C cf.length c3, .slice H sh.length c4]] w (GotL w ls)) := hcl
  have HW := Lib.hid hw
  obtain ⟨⟨l1, l2⟩, l3, l4⟩ := And.intro (analyse_length (ls := ls) hy) (w32_analyse (ls := ls) hw)
  have hsa := synth_analyse (ls := ls) hy hw
  obtain ⟨a, ha⟩ : ∃ a, (analyseF ls y).1 = a := ⟨_, rfl⟩
  obtain ⟨b, hb⟩ : ∃ b, (analyseF ls y).2 = b := ⟨_, rfl⟩
  rw [ha] at l1 l3
  rw [hb] at l2 l4
  rw [ha, hb] at hsa
  have lt1 : (y.take h).length = h := by simp; omega
  have lt2 : (y.drop h).length = h := by simp; omega
  have w1 := w32_take (h := h) hw
  have w2 := w32_drop (h := h) hw
  have has := analyse_synth (ls := ls) (lt1.trans lt2.symm) w1 w2
  have lz := synth_length ls (y.take h) (y.drop h)
  have wz := w32_synth (ls := ls) w1 w2
  rw [lt1] at lz
  obtain ⟨z, hz⟩ : ∃ z, synthF ls (y.take h) (y.drop h) = z := ⟨_, rfl⟩
  rw [hz] at lz wz has
  have Q1 : Hid (∀ (w : World) (A B : Option Addr) (c d : Nat), Lifts w A ls → Ints w B y → Calls Try.prog 10 #[.slice A ls.length c, .slice B y.length d] w (Got2 w a b)) := fun w A B c d g0 g1 => by rw [← ha, ← hb]; exact got_Analyse A B ls y c d h w hok hy (by omega) hw g0 g1
  have Q2 : Hid (∀ (w : World) (A B C : Option Addr) (c d e : Nat), Lifts w A ls → Ints w B a → Ints w C b → Calls Try.prog 12 #[.slice A ls.length c, .slice B a.length d, .slice C b.length e] w (Got1 w y)) := fun w A B C c d e g0 g1 g2 => by rw [← hsa]; exact got_Synthesise A B C ls a b c d e h w hok l1 l2 (by omega) l3 l4 g0 g1 g2
  have Q3 : Hid (∀ (w : World) (A B C : Option Addr) (c d e : Nat), Lifts w A ls → Ints w B (y.take h) → Ints w C (y.drop h) → Calls Try.prog 12 #[.slice A ls.length c, .slice B h d, .slice C (y.length - h) e] w (Got1 w z)) := fun w A B C c d e g0 g1 g2 => by
    rw [← hz]
    have := got_Synthesise A B C ls (y.take h) (y.drop h) c d e h w hok lt1 lt2 (by omega) w1 w2 g0 g1 g2
    rw [lt1, lt2] at this
    rw [show y.length - h = h by omega]
    exact this
  have Q4 : Hid (∀ (w : World) (A B : Option Addr) (c d : Nat), Lifts w A ls → Ints w B z → Calls Try.prog 10 #[.slice A ls.length c, .slice B z.length d] w (Got2 w (y.take h) (y.drop h))) := fun w A B c d g0 g1 => by
    have := got_Analyse A B ls z c d h w hok lz (by omega) wz g0 g1
    rw [has] at this
    exact this
  have LZ := Lib.hid lz
  have LA := Lib.hid l1
  have LY := Lib.hid hy
  have LT1 := Lib.hid lt1
  have LT2 := Lib.hid lt2
  have e1 : (y.length : Int).tdiv 2 = (h : Int) := by rw [hy, Int.tdiv_eq_ediv_of_nonneg (by omega)]; omega
  have e2 : (y.length : Int) / 2 = (h : Int) := by rw [hy]; omega
  have e3 : h ≤ y.length := by omega
  have e4 : y.length ≤ 40 := by omega
  clear hu2 ht2 hcl hcw hb0 hw l1 l2 l3 l4 hsa ha hb lt1 lt2 w1 w2 has lz wz hz hok htl ht hu hy
  unfold stepsV
  simp only
  go_enter Try.func4, Try.ntmps4
  go_wp2_with fail
  refine (HCL.out _ (HU2.out _)).mono ?_
  rintro e w1 ⟨A, cA, rfl, hL, hb1⟩
  have hb := (HB0.out _).trans (hb1.mono (HB0.out _).size)
  have hT := (HT2.out _).grow hb1
  clear hb1 HU2 HT2 HB0 HCL
  go_wp2_with fail
  refine (HCW.out _ _ _ hT).mono ?_
  rintro e w2 ⟨B, cB, rfl, hcB0, hI, hb1⟩
  have hcB : h ≤ cB := by omega
  have hb := below_then hb hb1
  have hL := hL.grow hb1
  clear hb1 HCW hT
  go_wp2_with fail
  refine (Q1.out _ _ _ _ _ hL hI).mono ?_
  rintro e w3 ⟨A1, d1, A2, d2, rfl, i1, i2, hb1⟩
  have hb := below_then hb hb1
  have hL := hL.grow hb1
  have hI := hI.grow hb1
  clear hb1
  go_wp2_with fail
  refine (Q2.out _ _ _ _ _ _ _ hL i1 i2).mono ?_
  rintro e w4 ⟨A3, d3, rfl, i3, hb1⟩
  have hb := below_then hb hb1
  have hL := hL.grow hb1
  have hI := hI.grow hb1
  clear hb1 i1 i2
  go_upto_region 5 with fail
  have hdr := (Below.refl w4.heap.size w4).drew
  have hI5 := hI.takeL h
  have hI6 := hI.dropL (k := h) hcB0
  go_cut [13, 14] (fun s13 s14 wx => ∃ Z dZ, s13 = .slice Z z.length dZ ∧ s14 = .int .i64 0 ∧ Ints wx Z z ∧ Below w4.heap.size w4 wx)
  case first =>
    go_region_with (go_at_call 12; generalize (if cB = h then B else Option.map (fun x => x.add h) B) = B2 at hI6 ⊢; refine (Q3.out _ _ _ _ _ _ _ (hL.grow hdr) (hI5.grow hdr) (hI6.grow hdr)).mono ?_; rintro e w5 ⟨Z, dZ, rfl, iz, hb1⟩; have hb1 := belowD hb1)
    all_goals
      go_wp2_with fail
      go_meet
      exact ⟨_, _, rfl, rfl, iz, hb1⟩
  case rest =>
    obtain ⟨Z, dZ, rfl, rfl, iz, hb1⟩ := hcut
    have hb := below_then hb hb1
    have hL := hL.grow hb1
    have hI := hI.grow hb1
    have i3 := i3.grow hb1
    clear hb1 hI5 hI6 e1 e2 hdr
    go_wp2_with fail
    refine (Q4.out _ _ _ _ _ hL iz).mono ?_
    rintro e w6 ⟨A5, d5, A6, d6, rfl, i5, i6, hb1⟩
    have hb := below_then hb hb1
    have hI := hI.grow hb1
    have i3 := i3.grow hb1
    clear hb1 hL iz
    go_wp2_with fail
    refine (known33 _).mono ?_
    rintro e w7 ⟨rfl, hb1⟩
    have hb := below_then hb hb1
    have hI := hI.grow hb1
    have i3 := i3.grow hb1
    have i5 := i5.grow hb1
    have i6 := i6.grow hb1
    clear hb1
    go_wp2_with fail
    refine (rf_SameB _ _ y y _ _ _ (by omega) rfl i3 hI).mono ?_
    rintro e w8 ⟨rfl, hb1⟩
    have hb := below_then hb hb1
    have hI := hI.grow hb1
    have i5 := i5.grow hb1
    have i6 := i6.grow hb1
    clear hb1 i3
    go_wp2_with fail
    refine (rf_SameN _ _ (y.take h) (y.take h) _ _ _ _ _ LT1.out LT1.out (by omega) rfl i5 (hI.takeL h)).mono ?_
    rintro e w9 ⟨rfl, hb1⟩
    have hb := below_then hb hb1
    have hI := hI.grow hb1
    have i6 := i6.grow hb1
    clear hb1 i5
    have hI7 := hI.dropL (k := h) hcB0
    have hX1 : cB ≠ h → Ints w9 (Option.map (fun x => x.add h) B) (y.drop h) := fun hne => by rwa [if_neg hne] at hI7
    have hX2 : cB = h → Ints w9 B (y.drop h) := fun hne => by rwa [if_pos hne] at hI7
    have LT3 : Hid ((y.drop h).length = y.length - h) := by show _ = _; simp
    clear hI7
    obtain ⟨yd, hyd⟩ : ∃ yd, y.drop h = yd := ⟨_, rfl⟩
    rw [hyd] at hX1 hX2 LT3 i6
    clear hyd
    go_wp2_with fail
    all_goals
      refine (rf_SameN _ _ yd yd _ _ _ _ _ LT3.out LT3.out (by omega) rfl i6 (by first | exact hX1 (by omega) | exact hX2 (by omega))).mono ?_
      rintro e w10 ⟨rfl, hb1⟩
      have hb := below_then hb hb1
      have la := LA.out
      clear hb1 i6 hX1 hX2
      go_wp2
      go_ret
      exact ⟨rfl, hb⟩
end Go.Proofs.Ytimhplkkgbpapaa
