/- The law SimulateForgets. Printed by gen_s37.py. -/
import Derived.Test.YtgdccmmcjicgkaaDoorfS30toJi
import Derived.Test.YtgdccmmcjicgkaaDoorfS27
import Derived.Test.YtgdccmmcjicgkaaDoorfOdtoS3
set_option linter.unusedVariables false
set_option linter.unusedSimpArgs false
namespace Go.Proofs.YtgdccmmcjicgkaaDoor
open Go.RowKit
def fgF (b : Nat) (L : List Value) (LV : Value) (m : Mac) : Nat → Value → World → Prop
  | 0, v, _ | 3, v, _ => v = .agg L.toArray
  | 1, v, _ | 4, v, _ => v = LV
  | 2, v, w | 5, v, w => ∃ x : MacA, x.m = m ∧ v = .agg x.lst.toArray ∧ MacAt w x ∧ MacF b w x
  | 6, v, w | 7, v, w => ∃ q, v = .pointer (some ⟨q, 0, none⟩) ∧ (∃ M : List Value, Box w q M ∧ M.length = 5) ∧ TyAt w q 46 ∧ b ≤ q
  | _, _, _ => True
theorem fgF_keep {b : Nat} {L : List Value} {LV : Value} {m : Mac} {w w' : World} (h : Below w.heap.size w w') : ∀ i v, fgF b L LV m i v w → fgF b L LV m i v w'
  | 0, _, e | 3, _, e | 1, _, e | 4, _, e => e
  | 2, _, ⟨x, e, f, h1, h2⟩ | 5, _, ⟨x, e, f, h1, h2⟩ => ⟨x, e, f, h1.grow h, h2.grow h⟩
  | 6, _, ⟨q, e, ⟨M, hM, h5⟩, t, g⟩ | 7, _, ⟨q, e, ⟨M, hM, h5⟩, t, g⟩ => ⟨q, e, ⟨M, hM.keep h, h5⟩, t.grow t.lt h, g⟩
  | n + 8, _, e => e
def fgP (b : Nat) (m : Mac) (v : Value) (w : World) : Prop := ∃ (q : Nat) (x : MacA), x.m = m ∧ v = .pointer (some ⟨q, 0, none⟩) ∧ Box w q x.lst ∧ MacAt w x ∧ MacF b w x ∧ b ≤ q
def fgI (W : World) (L : List Value) (LV : Value) (m : Mac) (S : Nat → Bool) (vs : Nat → Value) (w : World) : Prop :=
  Below W.heap.size W w ∧ (∀ i, S i = true → (i = 6 → S 8 = false) → fgF W.heap.size L LV m i (vs i) w) ∧ (S 6 = true → S 7 = true → vs 6 ≠ vs 7) ∧ (S 8 = true → S 6 = true ∧ fgP W.heap.size m (vs 6) w)
theorem fgI_step {W : World} {L : List Value} {LV : Value} {m : Mac} {S : Nat → Bool} {vs : Nat → Value} {w w' : World} (j : Nat) (v : Value) (h : fgI W L LV m S vs w) (hj : j < 6) (hb : Below w.heap.size w w') (hF : fgF W.heap.size L LV m j v w') :
    fgI W L LV m (fun i => S i || i == j) (fun i => if i = j then v else vs i) w' := by
  obtain ⟨h1, h2, h3, h4⟩ := h
  have n6 : (6 == j) = false := by simp; omega
  have n7 : (7 == j) = false := by simp; omega
  have n8 : (8 == j) = false := by simp; omega
  refine ⟨below_then h1 hb, fun i hi h68 => ?_, ?_, ?_⟩
  · by_cases e : i = j
    · subst e; simpa using hF
    · simp only [beq_eq_false_iff_ne.2 e, Bool.or_false] at hi
      simp only [if_neg e]
      simp only [n8, Bool.or_false] at h68
      exact fgF_keep hb i _ (h2 i hi h68)
  · simp only [n6, n7, Bool.or_false, if_neg (show ¬ 6 = j by omega), if_neg (show ¬ 7 = j by omega)]
    exact h3
  · simp only [n6, n8, Bool.or_false, if_neg (show ¬ 6 = j by omega)]
    intro h8
    obtain ⟨h6, q, x, e1, e2, b1, a1, f1, g1⟩ := h4 h8
    exact ⟨h6, q, x, e1, e2, b1.keep hb, a1.grow hb, f1.grow hb, g1⟩
theorem fgI_box {W : World} {L : List Value} {LV : Value} {m : Mac} {S : Nat → Bool} {vs : Nat → Value} {w : World} (j : Nat) (h : fgI W L LV m S vs w) (hj : j = 6 ∨ j = 7) (hS : S j = false) :
    fgI W L LV m (fun i => S i || i == j) (fun i => if i = j then .pointer (some ⟨w.heap.size, 0, none⟩) else vs i) (w.alloc (.cells zeros5.toArray 46)) := by
  obtain ⟨h1, h2, h3, h4⟩ := h
  have hb : Below w.heap.size w (w.alloc (.cells zeros5.toArray 46)) := (Below.refl _ _).alloc (Nat.le_refl _) _
  have hx : Box (w.alloc (.cells zeros5.toArray 46)) w.heap.size zeros5 := Box.new rfl
  have hf : ∃ q, (.pointer (some ⟨w.heap.size, 0, none⟩) : Value) = .pointer (some ⟨q, 0, none⟩) ∧ (∃ M : List Value, Box (w.alloc (.cells zeros5.toArray 46)) q M ∧ M.length = 5) ∧ TyAt (w.alloc (.cells zeros5.toArray 46)) q 46 ∧ W.heap.size ≤ q := ⟨_, rfl, ⟨_, hx, rfl⟩, ⟨_, _, heap_alloc_new w _⟩, h1.size⟩
  have far7 : S 7 = true → vs 7 ≠ .pointer (some ⟨w.heap.size, 0, none⟩) := fun hs e => by
    obtain ⟨q, e1, ⟨M, hM, -⟩, -, -⟩ := h2 7 hs (fun h => by cases h)
    rw [e] at e1
    injection e1 with e1; injection e1 with e1; injection e1 with e1
    have := hM.1
    omega
  have far6 : S 6 = true → vs 6 ≠ .pointer (some ⟨w.heap.size, 0, none⟩) := fun hs e => by
    cases h8 : S 8 with
    | false =>
      obtain ⟨q, e1, ⟨M, hM, -⟩, -, -⟩ := h2 6 hs (fun _ => h8)
      rw [e] at e1
      injection e1 with e1; injection e1 with e1; injection e1 with e1
      have := hM.1
      omega
    | true =>
      obtain ⟨-, q, x, -, e1, hM, -⟩ := h4 h8
      rw [e] at e1
      injection e1 with e1; injection e1 with e1; injection e1 with e1
      have := hM.1
      omega
  have n8 : (8 == j) = false := by rcases hj with rfl | rfl <;> rfl
  refine ⟨below_then h1 hb, fun i hi h68 => ?_, ?_, ?_⟩
  · by_cases e : i = j
    · subst e
      simp only [if_true]
      rcases hj with rfl | rfl
      · exact hf
      · exact hf
    · simp only [beq_eq_false_iff_ne.2 e, Bool.or_false] at hi
      simp only [if_neg e]
      simp only [n8, Bool.or_false] at h68
      exact fgF_keep hb i _ (h2 i hi h68)
  · rcases hj with rfl | rfl
    · intro _ h7
      have h7' : S 7 = true := by simpa using h7
      exact fun e => far7 h7' e.symm
    · intro h6 _
      have h6' : S 6 = true := by simpa using h6
      exact far6 h6'
  · simp only [n8, Bool.or_false]
    intro h8'
    obtain ⟨h6, q, x, e1, e2, b1, a1, f1, g1⟩ := h4 h8'
    have hj6 : ¬ 6 = j := fun e => by rw [← e, h6] at hS; cases hS
    simp only [if_neg hj6, h6, Bool.true_or]
    exact ⟨trivial, q, x, e1, e2, b1.keep hb, a1.grow hb, f1.grow hb, g1⟩
theorem fgI_store {W : World} {L : List Value} {LV : Value} {m : Mac} {S : Nat → Bool} {vs : Nat → Value} {w w' : World} {q : Nat} {x : MacA} (h : fgI W L LV m S vs w) (h6 : S 6 = true) (e6 : vs 6 = .pointer (some ⟨q, 0, none⟩)) (hx : x.m = m) (ha : MacAt w x) (hf : MacF W.heap.size w x) (ht : TyAt w q 46) (hq : W.heap.size ≤ q) (hb : Box w' q x.lst) (hg : w.grownBy w' (some q)) (v : Value) :
    fgI W L LV m (fun i => S i || i == 8) (fun i => if i = 8 then v else vs i) w' := by
  obtain ⟨h1, h2, h3, h4⟩ := h
  have hbw := grown_toI h1 hg hq
  obtain ⟨ha', hf'⟩ := ha.ty hf hg ht
  refine ⟨hbw, fun i hi h68 => ?_, fun h6 h7 => h3 (by simpa using h6) (by simpa using h7), fun _ => ⟨by simp [h6], q, x, hx, e6, hb, ha', hf', hq⟩⟩
  by_cases e : i = 8
  · subst e; trivial
  · simp only [beq_eq_false_iff_ne.2 e, Bool.or_false] at hi
    simp only [if_neg e]
    have n6 : i ≠ 6 := fun e => by have := h68 e; simp at this
    have h := h2 i hi (fun e => absurd e n6)
    match i, h, n6, hi with
    | 0, h, _, _ | 3, h, _, _ | 1, h, _, _ | 4, h, _, _ => exact h
    | 2, ⟨y, e1, e2, a, f⟩, _, _ => exact ⟨y, e1, e2, a.ty f hg ht⟩
    | 5, ⟨y, e1, e2, a, f⟩, _, _ => exact ⟨y, e1, e2, a.ty f hg ht⟩
    | 6, _, n6, _ => exact absurd rfl n6
    | 7, ⟨p, e1, ⟨M, hM, h5⟩, t, g⟩, _, hi =>
      have hpq : p ≠ q := fun e => h3 h6 hi (by rw [e6, e1, e])
      exact ⟨p, e1, ⟨M, hM.grown hg (fun e => hpq (by injection e)), h5⟩, t.kept hg hpq, g⟩
    | n + 8, _, _, _ => exact True.intro
theorem fgI_zero (W : World) (L : List Value) (LV : Value) (m : Mac) : fgI W L LV m (fun _ => false) (fun _ => undef) W.drew := ⟨Below.drew (Below.refl _ _), fun _ h => (Bool.false_ne_true h).elim, fun h => (Bool.false_ne_true h).elim, fun h => (Bool.false_ne_true h).elim⟩
def Sep (x : MacA) (q : Nat) : Prop := (x.m.regs ≠ [] → ∀ a, x.GA = some a → a.block ≠ q) ∧ (x.m.mem ≠ [] → ∀ a, x.MA = some a → a.block ≠ q) ∧ (x.m.heads ≠ [] → ∀ a, x.HA = some a → a.block ≠ q)
theorem MacF.sep {b q : Nat} {w : World} {x : MacA} (h : MacF b w x) (ht : TyAt w q 46) : Sep x q :=
  ⟨fun n a e => (h.1 n a e).2.apart ht (by decide), fun n a e => (h.2.1 n a e).2.apart ht (by decide), fun n a e => (h.2.2 n a e).2.apart ht (by decide)⟩
theorem Sep.kept {q : Nat} {w w' : World} {x : MacA} (h : Sep x q) (ha : MacAt w x) (hg : w.grownBy w' (some q)) : MacAt w' x :=
  ⟨ha.1.kept hg fun n a e p => by injection p with p; exact h.1 n a e p, ha.2.1.kept hg fun n a e p => by injection p with p; exact h.2.1 n a e p, ha.2.2.kept hg fun n a e p => by injection p with p; exact h.2.2 n a e p⟩
theorem OwnIR.four {w : World} {l : List Ins} (hl : l.length = 4) (hi : ∀ i ∈ l, i.ok) : OwnIR w.heap.size (litI w l) (.slice (Option.some ⟨w.heap.size, 0, none⟩) 4 4) l := by
  refine ⟨?_, hi⟩
  rw [hl]
  have := World.ownsRow_lit (e := 24) (size := 4) w (((l.flatMap encI).map (Value.int .i64)).toArray) 4 (Nat.le_refl _) (by unfold maxLen; omega) (by rw [List.size_toArray, List.length_map, flat_length (enc := encI) (sz := 4) (fun _ => rfl), hl])
  exact this
set_option maxRecDepth 100000 in
set_option maxHeartbeats 16000000 in
theorem law_SimulateForgets (dd : DraftA) (l i : Option Addr × Nat × List Int) (inp : Int) (w : World) (hf : FormsAt w) (hd : DraftOk w dd) (hl : Ints w l.1 l.2.2 ∧ l.2.2.length ≤ 9223372036854775807) (hi : Ints w i.1 i.2.2 ∧ i.2.2.length ≤ 9223372036854775807) (hinp : I64 inp) :
    Calls Tryd.prog 5 #[dd.v, .slice l.1 l.2.2.length l.2.1, .slice i.1 i.2.2.length i.2.1, .int .i64 inp] w fun e w' => e = .returned (.bool true) ∧ Below w.heap.size w w' := by
  obtain ⟨LA, lc, ll⟩ := l
  obtain ⟨XA, xc, xs⟩ := i
  obtain ⟨hli, hl9⟩ := hl
  obtain ⟨hxi, hx9⟩ := hi
  simp only at hli hl9 hxi hx9 ⊢
  obtain ⟨ln, hln⟩ : ∃ n, ll.length = n := ⟨_, rfl⟩
  obtain ⟨xn, hxn⟩ : ∃ n, xs.length = n := ⟨_, rfl⟩
  rw [hln] at hl9 ⊢
  rw [hxn] at hx9 ⊢
  have CK : Hid (∀ w1, Below w.heap.size w w1 → Calls Tryd.prog 20 #[] w1 fun e w' => e = .returned (.bool true) ∧ Below w1.heap.size w1 w') := Lib.hid fun w1 hb => known39 w1 (hf.grow hb)
  have hent : Below w.heap.size w (w.alloc (.cells #[.int .i64 dd.dn, .int .i64 dd.cn, .slice dd.RA dd.rs.length dd.rc, .slice dd.OA dd.os.length dd.oc, .slice dd.FA dd.fs.length dd.fc] 38)) := (Below.refl _ _).alloc (Nat.le_refl _) _
  have hbox : Box (w.alloc (.cells #[.int .i64 dd.dn, .int .i64 dd.cn, .slice dd.RA dd.rs.length dd.rc, .slice dd.OA dd.os.length dd.oc, .slice dd.FA dd.fs.length dd.fc] 38)) w.heap.size dd.lst := Box.new rfl
  have HENT := Lib.hid hent
  have HBOX := Lib.hid hbox
  obtain ⟨D0, hD0⟩ : ∃ x, dd.d 20 = x := ⟨_, rfl⟩
  have hv0 : validB D0 = true := by rw [← hD0]; exact prgF_valid _ _ _ _ _ 20 (by omega)
  have hc0 : 1 ≤ D0.code.length ∧ D0.code.length ≤ 21 := by rw [← hD0]; exact prgF_code_pos _ _ _ _ _ 20
  have hlow : ∀ i ∈ D0.code, i.formed = true ∧ low4 i := by
    rw [← hD0]
    exact fun i hi => ⟨prgF_formed _ _ _ _ _ 20 i hi, prgF_low4 _ _ _ _ _ 20 i hi⟩
  have CP : Hid (∀ w1, Below w.heap.size w w1 → Calls Tryd.prog 21 #[dd.v, .int .i64 20] w1 (RetPrg w1 D0)) := Lib.hid fun w1 hb => by
    rw [← hD0]; exact dr_Code dd 20 w1 (hd.grow hb) (by omega)
  have hv : validB D0.in4 = true := in4_valid hv0 (by omega)
  obtain ⟨D, hD⟩ : ∃ d, D0.in4 = d := ⟨_, rfl⟩
  have hD4 : D.d0 = D0.d0 ∧ D.d1 = D0.d1 ∧ D.d2 = D0.d2 ∧ D.d3 = D0.d3 ∧ D.rg = D0.rg ∧ D.code = inFour ++ D0.code := by rw [← hD]; exact ⟨rfl, rfl, rfl, rfl, rfl, rfl⟩
  rw [hD] at hv
  obtain ⟨hvp, hrgs, hcl, -⟩ := valid_parts hv
  have hrl := (valid_rl hv).1
  -- the input
  obtain ⟨X, hX⟩ : ∃ x, wordF D.d0 D.d1 D.d2 D.d3 inp = x := ⟨_, rfl⟩
  have hX1 : wordsF D.d0 D.d1 D.d2 D.d3 [inp] 1 = [X] := by rw [← hX]; rfl
  have hXf : fitsW D.d0 D.d1 D.d2 D.d3 X = true := by
    have h := wordD_wordsF (d := D) (valid_words hv).1 [inp] 1
    rw [hX1] at h
    unfold wordD wordsB at h
    exact List.all_eq_true.1 h X (by simp)
  have CX : Hid (∀ w1 A c, Ints w1 A [inp] → Calls Tryd.prog 23 #[wordV D.d0 D.d1 D.d2 D.d3, .slice A 1 c, .int .i64 1] w1 fun e w' => ∃ v, e = .returned v ∧ Own w1.heap.size w' v [X] ∧ Below w1.heap.size w1 w') := Lib.hid fun w1 A c h => by
    rw [← hX1]
    exact wd_Words _ _ _ _ A [inp] c 1 w1 (by omega) h
  -- the machines
  obtain ⟨M, hM⟩ : ∃ m, macF D ll = m := ⟨_, rfl⟩
  have hmv : macB D M = true := by rw [← hM]; exact macF_valid hv ll
  obtain ⟨-, hmo, hmc, hms⟩ := macB_parts hmv
  obtain ⟨R8, hR8⟩ : ∃ x, wordsF D.d0 D.d1 D.d2 D.d3 xs 8 = x := ⟨_, rfl⟩
  have hRl : R8.length = 8 := by rw [← hR8, wordsF_length]
  have hRw : wordD D R8 = true := by rw [← hR8]; exact wordD_wordsF (valid_words hv).1 xs 8
  obtain ⟨MB, hMB⟩ : ∃ m : Mac, m = ⟨R8, M.mem, M.heads, M.cyc, M.stl⟩ := ⟨_, rfl⟩
  have hmbo : MacOk D MB := by rw [hMB]; exact ⟨hRl, hmo.ml, hmo.hl, hRw, hmo.mw, hmo.hw⟩
  have hmbv : macB D MB = true := macB_mk hv hmbo (by rw [hMB]; exact hmc) (by rw [hMB]; exact hms)
  have CMc : Hid (∀ w1 u, Below w.heap.size w w1 → PrgAt w1 u → u.d = D → Calls Tryd.prog 22 #[.agg u.lst.toArray, .slice LA ln lc] w1 (RetMacW w1 M)) := Lib.hid fun w1 u hb h1 h2 => by
    have h := wd_Machine u LA ll ln lc w1 h1 (by rw [h2]; exact hv) (hli.grow hb) hln
    rw [h2, hM] at h
    exact h
  have CR : Hid (∀ w1, Below w.heap.size w w1 → Calls Tryd.prog 23 #[wordV D.d0 D.d1 D.d2 D.d3, .slice XA xn xc, .int .i64 8] w1 fun e w' => ∃ v, e = .returned v ∧ Own w1.heap.size w' v R8 ∧ Below w1.heap.size w1 w') := Lib.hid fun w1 hb => by
    subst hxn
    rw [← hR8]
    exact wd_Words _ _ _ _ XA xs xc 8 w1 (by omega) (hxi.grow hb)
  -- the samples
  have hlk : Like (sampF D X M D.code) (sampF D X MB D.code) := by
    have h := forgets (d := D0) (x := X) (m := M) (n := MB) hlow hmo.rl hmbo.rl (by rw [hMB]) (by rw [hMB])
    rw [hD] at h
    exact h
  obtain ⟨y, hy⟩ : ∃ y, (sampF D X M D.code).out = y := ⟨_, rfl⟩
  obtain ⟨ov, hov⟩ : ∃ y, (sampF D X M D.code).ov = y := ⟨_, rfl⟩
  have hy2 : (sampF D X MB D.code).out = y := hlk.out.symm.trans hy
  have hov2 : (sampF D X MB D.code).ov = ov := hlk.ov.symm.trans hov
  obtain ⟨MM, hMM⟩ : ∃ m, (macN D X M).mem = m := ⟨_, rfl⟩
  obtain ⟨HH, hHH⟩ : ∃ m, (macN D X M).heads = m := ⟨_, rfl⟩
  obtain ⟨CY, hCY⟩ : ∃ m, (macN D X M).cyc = m := ⟨_, rfl⟩
  have hMM2 : (macN D X MB).mem = MM := hlk.mem.symm.trans hMM
  have hHH2 : (macN D X MB).heads = HH := hlk.heads.symm.trans hHH
  have hCY2 : (macN D X MB).cyc = CY := by rw [← hCY, hMB]; rfl
  have hnk := macN_ok hv (m := M) (x := X) hXf hmo
  obtain ⟨rn, hrn⟩ : ∃ n, D.rg.length = n := ⟨_, rfl⟩
  have hml : MM.length = 128 := by rw [← hMM]; exact hnk.ml
  have hhl : HH.length = rn := by rw [← hHH, hnk.hl]; exact hrn
  have CS1 : Hid (∀ w1 u (x : MacA), Below w.heap.size w w1 → PrgAt w1 u → u.d = D → MacAt w1 x → x.m = M → I64 X → Calls Tryd.prog 28 #[.agg u.lst.toArray, .agg x.lst.toArray, .int .i64 X] w1 fun e w' => ∃ z : MacA, (z.m.mem = MM ∧ z.m.heads = HH ∧ z.m.cyc = CY) ∧ e = .returned (.tuple #[.agg z.lst.toArray, .int .i64 y, .bool ov, .int .i64 0]) ∧ MacAt w' z ∧ Below w1.heap.size w1 w') := Lib.hid fun w1 u x hb h1 h2 h3 h4 hX9 => by
    have h := sm_Sample u x X w1 (hf.grow hb) h1 h3 (by rw [h2, h4]; exact hmv) (by rw [h2]; exact hXf) hX9
    unfold RetSmp at h
    rw [h2, h4, hy, hov] at h
    refine h.mono ?_
    rintro e w' ⟨z, e1, e2, h5, h6, h7⟩
    exact ⟨z, by rw [e1]; exact ⟨hMM, hHH, hCY⟩, e2, h5, h7⟩
  have CS2 : Hid (∀ w1 u (x : MacA), Below w.heap.size w w1 → PrgAt w1 u → u.d = D → MacAt w1 x → x.m = MB → I64 X → Calls Tryd.prog 28 #[.agg u.lst.toArray, .agg x.lst.toArray, .int .i64 X] w1 fun e w' => ∃ z : MacA, (z.m.mem = MM ∧ z.m.heads = HH ∧ z.m.cyc = CY) ∧ e = .returned (.tuple #[.agg z.lst.toArray, .int .i64 y, .bool ov, .int .i64 0]) ∧ MacAt w' z ∧ Below w1.heap.size w1 w') := Lib.hid fun w1 u x hb h1 h2 h3 h4 hX9 => by
    have h := sm_Sample u x X w1 (hf.grow hb) h1 h3 (by rw [h2, h4]; exact hmbv) (by rw [h2]; exact hXf) hX9
    unfold RetSmp at h
    rw [h2, h4, hy2, hov2] at h
    refine h.mono ?_
    rintro e w' ⟨z, e1, e2, h5, h6, h7⟩
    exact ⟨z, by rw [e1]; exact ⟨hMM2, hHH2, hCY2⟩, e2, h5, h7⟩
  have CV : Hid (∀ w1 u, PrgAt w1 u → u.d = D → Calls Tryd.prog 29 #[.agg u.lst.toArray] w1 fun e w' => e = .returned (.bool true) ∧ Below w1.heap.size w1 w') := Lib.hid fun w1 u h1 h2 => r38_Valid u w1 h1 (by rw [h2]; omega) (by rw [h2]; omega) (by rw [h2]; exact hv)
  have CSa : Hid (∀ w1 A B c d, Ints w1 A MM → Ints w1 B MM → Calls Tryd.prog 19 #[.slice A 128 c, .slice B 128 d] w1 fun e w' => e = .returned (.bool true) ∧ Below w1.heap.size w1 w') := Lib.hid fun w1 A B c d h1 h2 => rf_SameN A B MM MM c d 128 128 w1 hml hml (by omega) rfl h1 h2
  have CSb : Hid (∀ w1 A B c d, Ints w1 A HH → Ints w1 B HH → Calls Tryd.prog 19 #[.slice A rn c, .slice B rn d] w1 fun e w' => e = .returned (.bool true) ∧ Below w1.heap.size w1 w') := Lib.hid fun w1 A B c d h1 h2 => rf_SameN A B HH HH c d rn rn w1 hhl hhl (by omega) rfl h1 h2
  have HML := Lib.hid hml
  have HHL := Lib.hid hhl
  have HD4 := Lib.hid hD4
  have HDD := Lib.hid hD
  have HC0 := Lib.hid hc0
  have HRL := Lib.hid hRl
  have HMB := Lib.hid hMB
  have HMR : Hid (M.regs.length = 8) := Lib.hid hmo.rl
  have HINP := Lib.hid hinp
  have wC : (inFour.length + D0.code.length ≤ 100000000) := by show 4 + _ ≤ _; omega
  have HWC := Lib.hid wC
  have HIN4 : Hid (∀ i ∈ inFour, i.ok) := Lib.hid (by unfold Ins.ok I64 inFour; decide)
  clear hf hd hli hxi hent hbox hv0 hc0 hlow hv hD4 hvp hrgs hcl hrl hX1 hXf hmv hmo hmc hms hRl hRw hmbo hmbv hlk hy hov hy2 hov2 hMM hHH hCY hMM2 hHH2 hCY2 hnk hml hhl hD0 hD hX hM hR8 hMB hrn hln hxn hinp wC
  go_enter Tryd.func5, Tryd.ntmps5
  go_upto_region 1 with fail
  have HE0 := HENT.out
  have HX0 := HBOX.out
  generalize w.alloc (.cells #[.int .i64 dd.dn, .int .i64 dd.cn, .slice dd.RA dd.rs.length dd.rc, .slice dd.OA dd.os.length dd.oc, .slice dd.FA dd.fs.length dd.fc] 38) = w0 at HE0 HX0 ⊢
  have HB0 := Lib.hid HE0
  have HX := Lib.hid HX0
  clear HE0 HX0 HENT HBOX
  go_upto_region 2 with (first
    | ((with_reducible show wpList _ _ _ (Oper.mk _ (.load 38 _) _ _ _ _ :: _) _ _); refine ld_dft HX.out rfl _ rfl rfl ?_)
    | (go_at_call 21; (with_reducible refine (CP.out _ HB0.out).mono ?_); rintro e1 w1 ⟨u0, hu, rfl, hat, hb1⟩)
    | ((with_reducible show wpList _ _ _ (Oper.mk none (.store 43 _ _) _ _ _ _ :: _) _ _); refine st_prgB (w := w1.alloc (.cells zeros10.toArray 43)) (M := zeros10) (g := w1.heap.size) (Box.new rfl) rfl (L := u0.lst) (lst_ten u0) (lst_one u0) rfl _ _ rfl rfl rfl ?_; intro W2 b2 p2))
  have hb2 := put_facts ((Below.refl w1.heap.size w1).alloc (Nat.le_refl _) (.cells zeros10.toArray 43)) (Nat.le_refl _) p2
  have HB2 := Lib.hid (below_then HB0.out hb1)
  have HB12 := Lib.hid hb2
  have HP2 := Lib.hid b2
  have HA1 := Lib.hid hat
  have HU := Lib.hid hu
  clear hb1 hb2 b2 p2 hat hu CP HX HB0
  have hgw : w1.heap.size ≤ w1.heap.size := Nat.le_refl _
  obtain ⟨gp, hgp⟩ : ∃ g, w1.heap.size = g := ⟨_, rfl⟩
  rw [hgp] at HP2 ⊢
  have HGP := Lib.hid hgp
  clear hgp hgw
  -- the code
  go_upto_region 3 with ((with_reducible show wpList _ _ _ (Oper.mk (some 28) _ _ _ _ _ :: _) _ _); refine bld_ins4 ⟨9, 0, 0, 0⟩ ⟨9, 1, 0, 0⟩ ⟨9, 2, 0, 0⟩ ⟨9, 3, 0, 0⟩ rfl _ _ _ _ rfl rfl rfl rfl rfl ?_)
  have HO3 : Hid (OwnIR W2.heap.size (litI W2 inFour) (.slice (some ⟨W2.heap.size, 0, none⟩) 4 4) inFour) := Lib.hid (OwnIR.four rfl HIN4.out)
  have HL3 := Lib.hid (litI_below W2 inFour)
  change Code.wp _ _ _ _ (litI W2 inFour)
  generalize hW3 : litI W2 inFour = W3 at HO3 HL3 ⊢
  clear hW3
  have hgl : gp < W2.heap.size := HP2.out.1
  obtain ⟨g2, hg2⟩ : ∃ g, W2.heap.size = g := ⟨_, rfl⟩
  have HG2 := Lib.hid hg2
  rw [hg2] at HO3 hgl ⊢
  have hs3 : g2 ≤ W3.heap.size := by rw [← hg2]; exact HL3.out.size
  have HP3 := Lib.hid (HP2.out.keep HL3.out)
  have HI3 : Hid (InsAt W3 u0.CA D0.code) := by rw [← HU.out]; exact Lib.hid (HA1.out.2.grow (below_then HB12.out HL3.out))
  obtain ⟨cn, hcn⟩ : ∃ n, D0.code.length = n := ⟨_, rfl⟩
  have HCN := Lib.hid hcn
  have x9 : W3.cell? ⟨gp, 9, none⟩ = some (.slice u0.CA cn u0.cc) := by rw [← hcn, ← HU.out]; exact HP3.out.2.1 9
  have HWC2 : Hid (inFour.length + cn ≤ 100000000) := by rw [← hcn]; exact HWC.out
  clear hg2 hcn
  go_upto_region 4 with ((with_reducible show wpList _ _ _ (Oper.mk (some 32) _ _ _ _ _ :: _) _ _); refine app_ins W3 rfl _ _ rfl g2 rfl rfl HO3.out HI3.out HCN.out HWC2.out hs3 ?_; intro v4 w4 ho4 hb4; obtain ⟨A4, c4, e4, -, -⟩ := ho4.form; subst e4; obtain ⟨n4, hn4⟩ : ∃ n, (inFour ++ D0.code).length = n := ⟨_, rfl⟩; rw [hn4] at ho4 ⊢; have hp4 : Box w4 gp u0.lst := HP3.out.block (hb4.block gp hgl) hb4.size; have y9 := (hb4.cell (p := ⟨gp, 9, none⟩) hgl).trans x9; have z9 : w4.frozen? ⟨gp, 9, none⟩ = false := hp4.2.2 9)
  clear x9 y9 z9 hs3
  have hp5 := hp4.set (k := 9) (u := .slice A4 n4 c4) (by show 9 < 10; omega)
  obtain ⟨A5, c5, e5, -, i5⟩ := (ho4.store (k := 9) (u := .slice A4 n4 c4) hgl).form
  injection e5 with e5a e5b e5c
  subst e5a
  have hw14 : Below w1.heap.size w1 w4 := (below_then HB12.out HL3.out).trans (hb4.mono (by rw [← HG2.out]; exact HB12.out.size))
  have hw15 := hw14.setCell (p := ⟨gp, 9, none⟩) (by rw [← HGP.out]; exact Nat.le_refl _) (.slice A4 n4 c4)
  clear e5b e5c hw14 hp4 hb4 ho4
  generalize w4.setCell ⟨gp, 9, none⟩ (.slice A4 n4 c4) = W5 at hp5 i5 hw15 ⊢
  obtain ⟨u, hud⟩ : ∃ u : PrgA, u = ⟨u0.d.in4, u0.RA, A4, u0.rc, c4⟩ := ⟨_, rfl⟩
  have HUD : Hid (u.d = D) := by rw [hud]; exact Lib.hid (show u0.d.in4 = D by rw [HU.out]; exact HDD.out)
  have hlst : u0.lst.set 9 (.slice A4 n4 c4) = u.lst := by
    rw [hud, ← hn4, ← HU.out]
    rfl
  rw [hlst] at hp5
  have hat5 : PrgAt W5 u := by
    rw [hud]
    refine ⟨HA1.out.1.grow hw15, ?_⟩
    show InsAt W5 A4 (inFour ++ u0.d.code)
    rw [HU.out]; exact i5
  have HP5 := Lib.hid hp5
  have HA5 := Lib.hid hat5
  have HB5 := Lib.hid (below_then HB2.out hw15)
  clear hp5 hat5 hw15 hlst i5 hud hn4 HP3 HI3 HO3 HL3 HP2 HA1 HU HB2 HB12 HCN HWC HWC2 HGP HG2 HDD
  have x0 : W5.cell? ⟨gp, 0, none⟩ = some (.int .i64 D.d0) := by rw [← HUD.out]; exact HP5.out.2.1 0
  have x1 : W5.cell? ⟨gp, 1, none⟩ = some (.int .i64 D.d1) := by rw [← HUD.out]; exact HP5.out.2.1 1
  have x2 : W5.cell? ⟨gp, 2, none⟩ = some (.int .i64 D.d2) := by rw [← HUD.out]; exact HP5.out.2.1 2
  have x3 : W5.cell? ⟨gp, 3, none⟩ = some (.int .i64 D.d3) := by rw [← HUD.out]; exact HP5.out.2.1 3
  -- the input
  go_upto_region 5 with (go_at_call 23; (with_reducible refine (CX.out _ _ _ (lit_one HINP.out)).mono ?_); rintro e6 w6 ⟨v6, rfl, ho6, hb6⟩; obtain ⟨q6, c6, e6⟩ : ∃ q c, v6 = .slice (some ⟨q, 0, none⟩) 1 c := own_some ho6 (by show 0 < 1; omega); subst e6; have y6 : w6.cell? ⟨q6, 0, none⟩ = some (.int .i64 X) := own_getD ho6 (k := 0) (by show 0 < 1; omega))
  have HX9 : Hid (I64 X) := Lib.hid (ho6.ints.2 X (by simp))
  have hb56 := below_then ((Below.refl W5.heap.size W5).alloc (Nat.le_refl _) (.cells #[.int .i64 inp] 3)) hb6
  have HB6 := Lib.hid (below_then HB5.out hb56)
  have HP6 := Lib.hid (HP5.out.keep hb56)
  have HA6 := Lib.hid (HA5.out.grow hb56)
  clear x0 x1 x2 x3 y6 ho6 hb6 hb56 HB5 HP5 HA5 CX
  -- both machines
  refine wp_region_growI (fun x => Nat.blt x 9) (fgI w6 u.lst (.slice LA ln lc) M) (by kernel_rfl) (by kernel_rfl) (fgI_zero _ _ _ _) ?_ ?_
  · refine ⟨?_, ?_, ?_, ?_, ?_, ?_, ?_, ?_, ?_, trivial⟩
    all_goals
      intro S vs w5 hS hd hI
      have HPX : Hid (Box w5 gp u.lst ∧ PrgAt w5 u ∧ Below w.heap.size w w5) := Lib.hid ⟨HP6.out.keep hI.1, HA6.out.grow hI.1, below_then HB6.out hI.1⟩
      have HI := Lib.hid hI
      have HS := Lib.hid hS
      clear hI hS
    · simp [stL, depsB, Region.binds, Act.put]
      refine ld_prg HPX.out.1 (lst_ten u) rfl _ rfl rfl ?_
      exact wpList_nil ⟨rfl, _, rfl, fgI_step 0 _ HI.out (by omega) (Below.refl _ _) rfl⟩
    · simp [stL, depsB, Region.binds, Act.put]
      go_wp2_with fail
      exact fgI_step 1 _ HI.out (by omega) (Below.refl _ _) rfl
    · have e0 : vs 0 = .agg u.lst.toArray := HI.out.2.1 0 (hd 0 rfl) (fun h => by cases h)
      have e1 : vs 1 = .slice LA ln lc := HI.out.2.1 1 (hd 1 rfl) (fun h => by cases h)
      clear hd
      simp [stL, depsB, Region.binds, Act.put, e0, e1]
      go_wp2_with (go_at_call 22; (with_reducible refine (CMc.out _ _ HPX.out.2.2 HPX.out.2.1 HUD.out).mono ?_); rintro e6 w6' ⟨x, h1, rfl, h2, h3, hb6⟩)
      exact fgI_step 2 _ HI.out (by omega) hb6 ⟨x, h1, rfl, h2, h3.mono HI.out.1.size⟩
    · simp [stL, depsB, Region.binds, Act.put]
      refine ld_prg HPX.out.1 (lst_ten u) rfl _ rfl rfl ?_
      exact wpList_nil ⟨rfl, _, rfl, fgI_step 3 _ HI.out (by omega) (Below.refl _ _) rfl⟩
    · simp [stL, depsB, Region.binds, Act.put]
      go_wp2_with fail
      exact fgI_step 4 _ HI.out (by omega) (Below.refl _ _) rfl
    · have e3 : vs 3 = .agg u.lst.toArray := HI.out.2.1 3 (hd 3 rfl) (fun h => by cases h)
      have e4 : vs 4 = .slice LA ln lc := HI.out.2.1 4 (hd 4 rfl) (fun h => by cases h)
      clear hd
      simp [stL, depsB, Region.binds, Act.put, e3, e4]
      go_wp2_with (go_at_call 22; (with_reducible refine (CMc.out _ _ HPX.out.2.2 HPX.out.2.1 HUD.out).mono ?_); rintro e6 w6' ⟨x, h1, rfl, h2, h3, hb6⟩)
      exact fgI_step 5 _ HI.out (by omega) hb6 ⟨x, h1, rfl, h2, h3.mono HI.out.1.size⟩
    · simp [stL, depsB, Region.binds, Act.put]
      go_wp2_with fail
      exact fgI_box 6 HI.out (.inl rfl) HS.out
    · simp [stL, depsB, Region.binds, Act.put]
      go_wp2_with fail
      exact fgI_box 7 HI.out (.inr rfl) HS.out
    · have h6 := hd 6 rfl
      obtain ⟨q, e6, ⟨M', hM', h5'⟩, ht, hq⟩ := HI.out.2.1 6 h6 (fun _ => HS.out)
      obtain ⟨x, hx, e2, ha, hf⟩ := HI.out.2.1 2 (hd 2 rfl) (fun h => by cases h)
      clear hd
      simp [stL, depsB, Region.binds, Act.put, e6, e2]
      refine st_mac (L := x.lst) hM' h5' rfl rfl rfl _ _ rfl rfl rfl ?_
      intro W9 hb9 hg9
      exact wpList_nil ⟨rfl, rfl, undef, fgI_store HI.out h6 e6 hx ha hf ht hq hb9 hg9 undef⟩
  intro S vs w5 hS hI
  obtain ⟨hC, hF, hne, hP8⟩ := hI
  obtain ⟨-, q1, x1, hx1, e6, hb1, ha1, hf1, hq1⟩ := hP8 (hS 8 (by decide))
  obtain ⟨x2, hx2, e5, ha2, hf2⟩ := hF 5 (hS 5 (by decide)) (fun h => by cases h)
  obtain ⟨q2, e7, ⟨L7, hb7, h75⟩, ht7, hq7⟩ := hF 7 (hS 7 (by decide)) (fun h => by cases h)
  have hne' : q1 ≠ q2 := fun e => hne (hS 6 (by decide)) (hS 7 (by decide)) (by rw [e6, e7, e])
  show wpList Tryd.prog _ _ [_] _ _
  simp [stL, Act.put, e5, e6, e7]
  refine st_mac (L := x2.lst) hb7 h75 rfl rfl rfl _ _ rfl rfl rfl ?_
  intro W9 hb9 hg9
  have hbw := grown_toI hC hg9 hq7
  have hs1 := hf1.sep ht7
  have hs2 := hf2.sep ht7
  have HM1 := Lib.hid (hs1.kept ha1 hg9)
  have HM2 := Lib.hid (hs2.kept ha2 hg9)
  have HE1 := Lib.hid (hb1.grown hg9 (fun e => hne' (by injection e)))
  have HE2 := Lib.hid hb9
  have HS1 := Lib.hid hs1
  have HS2 := Lib.hid hs2
  have HX1 := Lib.hid hx1
  have HX2 := Lib.hid hx2
  have HBW := Lib.hid hbw
  have HQ7 := Lib.hid hq7
  have HNE := Lib.hid hne'
  have HP9 := Lib.hid (HP6.out.keep hbw)
  have HA9 := Lib.hid (HA6.out.grow hbw)
  have HB9 := Lib.hid (below_then HB6.out hbw)
  clear hC hF hne hP8 hS e5 e6 e7 hb1 ha1 hf1 hq1 ha2 hf2 hb7 h75 ht7 hq7 hx1 hx2 hb9 hg9 hbw hs1 hs2 CMc hne'
  simp only [Act.put]
  generalize vs 0 = v0
  generalize vs 1 = v1
  generalize vs 2 = v2
  generalize vs 3 = v3
  generalize vs 4 = v4
  have OS8 : Hid (∀ b w1 v, Own b w1 v R8 → ∃ q c, v = .slice (some ⟨q, 0, none⟩) 8 c) := Lib.hid fun b w1 v h => by
    have h2 := own_some h (by rw [HRL.out]; omega)
    rw [HRL.out] at h2
    exact h2
  have x0 : W9.cell? ⟨gp, 0, none⟩ = some (.int .i64 D.d0) := by rw [← HUD.out]; exact HP9.out.2.1 0
  have xx1 : W9.cell? ⟨gp, 1, none⟩ = some (.int .i64 D.d1) := by rw [← HUD.out]; exact HP9.out.2.1 1
  have xx2 : W9.cell? ⟨gp, 2, none⟩ = some (.int .i64 D.d2) := by rw [← HUD.out]; exact HP9.out.2.1 2
  have xx3 : W9.cell? ⟨gp, 3, none⟩ = some (.int .i64 D.d3) := by rw [← HUD.out]; exact HP9.out.2.1 3
  -- the registers of the second machine
  go_upto_region 7 with (go_at_call 23; (with_reducible refine (CR.out _ HB9.out).mono ?_); rintro e10 w10 ⟨v10, rfl, ho10, hb10⟩; obtain ⟨q10, c10, e10⟩ := OS8.out _ _ _ ho10; subst e10; have hp10 := HE2.out.keep hb10; have z0 : w10.cell? ⟨q2, 0, none⟩ = some (.slice x2.GA x2.m.regs.length x2.gc) := hp10.2.1 0; have z9 : w10.frozen? ⟨q2, 0, none⟩ = false := hp10.2.2 0)
  clear x0 xx1 xx2 xx3 z0 z9
  have hp11 := hp10.set (k := 0) (u := .slice (some ⟨q10, 0, none⟩) 8 c10) (by show 0 < 5; omega)
  have hg11 : w10.grownBy (w10.setCell ⟨q2, 0, none⟩ (.slice (some ⟨q10, 0, none⟩) 8 c10)) (some q2) := grown_set (World.grownBy.refl _ _)
  have hq10 : q10 ≠ q2 := by
    have h1 := own_ge ho10 q10 rfl
    have h2 := HE2.out.1
    omega
  have hr11 := (own_keptI ho10 hg11 (fun e => hq10 (by injection e))).ints
  have hm1 := HS1.out.kept (HM1.out.grow hb10) hg11
  have hm2 := HS2.out.kept (HM2.out.grow hb10) hg11
  have he1 := (HE1.out.keep hb10).grown hg11 (fun e => HNE.out (by injection e))
  have hw611 := (below_then HBW.out hb10).setCell (p := ⟨q2, 0, none⟩) HQ7.out (.slice (some ⟨q10, 0, none⟩) 8 c10)
  clear hg11 hq10 ho10 hp10 hb10
  generalize w10.setCell ⟨q2, 0, none⟩ (.slice (some ⟨q10, 0, none⟩) 8 c10) = W11 at hp11 hr11 hm1 hm2 he1 hw611 ⊢
  obtain ⟨xb, hxb⟩ : ∃ xb : MacA, xb = ⟨MB, some ⟨q10, 0, none⟩, x2.MA, x2.HA, c10, x2.mc, x2.hc⟩ := ⟨_, rfl⟩
  have hlx : x2.lst.set 0 (.slice (some ⟨q10, 0, none⟩) 8 c10) = xb.lst := by
    rw [hxb, HMB.out, ← HX2.out]
    show [_, _, _, _, _] = [Value.slice (some ⟨q10, 0, none⟩) R8.length c10, _, _, _, _]
    rw [HRL.out]
  rw [hlx] at hp11
  have hxm : MacAt W11 xb := by
    rw [hxb, HMB.out, ← HX2.out]
    exact ⟨hr11, hm2.2.1, hm2.2.2⟩
  have HXB : Hid (xb.m = MB) := by rw [hxb]; exact Lib.hid rfl
  have HP11 := Lib.hid (HP6.out.keep hw611)
  have HA11 := Lib.hid (HA6.out.grow hw611)
  have HB11 := Lib.hid (below_then HB6.out hw611)
  have HE11 := Lib.hid he1
  have HF11 := Lib.hid hp11
  have HM11 := Lib.hid hm1
  have HN11 := Lib.hid hxm
  clear hp11 hr11 hm1 hm2 he1 hw611 hxb hlx hxm HP6 HA6 HB6 HBW HQ7 HP9 HA9 HB9 HE1 HE2 HM1 HM2 HS1 HS2 HX2 HMB HRL HNE OS8 CR
  -- the first sample
  go_upto_region 8 with (first
    | ((with_reducible show wpList _ _ _ (Oper.mk _ (.load 43 _) _ _ _ _ :: _) _ _); refine ld_prg HP11.out (lst_ten u) rfl _ rfl rfl ?_)
    | ((with_reducible show wpList _ _ _ (Oper.mk _ (.load 46 _) _ _ _ _ :: _) _ _); refine ld_mac HE11.out rfl rfl _ rfl rfl ?_)
    | (go_at_call 28; (with_reducible refine (CS1.out _ _ _ HB11.out HA11.out HUD.out HM11.out HX1.out HX9.out).mono ?_); rintro e12 w12 ⟨z12, hz12, rfl, ha12, hb12⟩)
    | ((with_reducible show wpList _ _ _ (Oper.mk _ (.store 46 _ _) _ _ _ _ :: _) _ _); refine st_mac (L := z12.lst) (Box.new (w := w12) (t := 46) (vs := zeros5.toArray) rfl) rfl rfl rfl rfl _ _ rfl rfl rfl ?_; intro W13 hb13 hg13))
  have hbp := put_facts ((Below.refl w12.heap.size w12).alloc (Nat.le_refl _) (.cells zeros5.toArray 46)) (Nat.le_refl _) hg13
  have hbb := below_then hb12 hbp
  have HP13 := Lib.hid (HP11.out.keep hbb)
  have HA13 := Lib.hid (HA11.out.grow hbb)
  have HB13 := Lib.hid (below_then HB11.out hbb)
  have HF13 := Lib.hid (HF11.out.keep hbb)
  have HN13 := Lib.hid (HN11.out.grow hbb)
  have HG13 := Lib.hid hb13
  have HK13 := Lib.hid (ha12.grow hbp)
  have HZ12 := Lib.hid hz12
  clear hb12 ha12 hz12 hb13 hg13 hbp hbb HP11 HA11 HB11 HE11 HF11 HM11 HN11 CS1 HX1
  generalize w12.heap.size = g14 at HG13 ⊢
  -- the second sample
  go_upto_region 9 with (first
    | ((with_reducible show wpList _ _ _ (Oper.mk _ (.load 43 _) _ _ _ _ :: _) _ _); refine ld_prg HP13.out (lst_ten u) rfl _ rfl rfl ?_)
    | ((with_reducible show wpList _ _ _ (Oper.mk _ (.load 46 _) _ _ _ _ :: _) _ _); refine ld_mac HF13.out rfl rfl _ rfl rfl ?_)
    | (go_at_call 28; (with_reducible refine (CS2.out _ _ _ HB13.out HA13.out HUD.out HN13.out HXB.out HX9.out).mono ?_); rintro e14 w14 ⟨z14, hz14, rfl, ha14, hb14⟩)
    | ((with_reducible show wpList _ _ _ (Oper.mk _ (.store 46 _ _) _ _ _ _ :: _) _ _); refine st_mac (L := z14.lst) (Box.new (w := w14) (t := 46) (vs := zeros5.toArray) rfl) rfl rfl rfl rfl _ _ rfl rfl rfl ?_; intro W15 hb15 hg15))
  have hbp := put_facts ((Below.refl w14.heap.size w14).alloc (Nat.le_refl _) (.cells zeros5.toArray 46)) (Nat.le_refl _) hg15
  have hbb := below_then hb14 hbp
  have HP15 := Lib.hid (HP13.out.keep hbb)
  have HA15 := Lib.hid (HA13.out.grow hbb)
  have HB15 := Lib.hid (below_then HB13.out hbb)
  have HG15 := Lib.hid (HG13.out.keep hbb)
  have hk15 := HK13.out.grow hbb
  have hl15 := ha14.grow hbp
  generalize w14.heap.size = g18 at hb15 ⊢
  have Y1 : Hid (∀ w', Below W15.heap.size W15 w' → w'.cell? ⟨g14, 1, none⟩ = some (.slice z12.MA 128 z12.mc)) := Lib.hid fun w' hb => by rw [← HML.out, ← HZ12.out.1]; exact (HG15.out.keep hb).2.1 1
  have Y2 : Hid (∀ w', Below W15.heap.size W15 w' → w'.cell? ⟨g14, 2, none⟩ = some (.slice z12.HA rn z12.hc)) := Lib.hid fun w' hb => by rw [← HHL.out, ← HZ12.out.2.1]; exact (HG15.out.keep hb).2.1 2
  have Y3 : Hid (∀ w', Below W15.heap.size W15 w' → w'.cell? ⟨g14, 3, none⟩ = some (.int .i64 CY)) := Lib.hid fun w' hb => by rw [← HZ12.out.2.2]; exact (HG15.out.keep hb).2.1 3
  have U1 : Hid (∀ w', Below W15.heap.size W15 w' → w'.cell? ⟨g18, 1, none⟩ = some (.slice z14.MA 128 z14.mc)) := Lib.hid fun w' hb => by rw [← HML.out, ← hz14.1]; exact (hb15.keep hb).2.1 1
  have U2 : Hid (∀ w', Below W15.heap.size W15 w' → w'.cell? ⟨g18, 2, none⟩ = some (.slice z14.HA rn z14.hc)) := Lib.hid fun w' hb => by rw [← HHL.out, ← hz14.2.1]; exact (hb15.keep hb).2.1 2
  have U3 : Hid (∀ w', Below W15.heap.size W15 w' → w'.cell? ⟨g18, 3, none⟩ = some (.int .i64 CY)) := Lib.hid fun w' hb => by rw [← hz14.2.2]; exact (hb15.keep hb).2.1 3
  have I1 : Hid (Ints W15 z12.MA MM) := by rw [← HZ12.out.1]; exact Lib.hid hk15.2.1
  have I2 : Hid (Ints W15 z14.MA MM) := by rw [← hz14.1]; exact Lib.hid hl15.2.1
  have J1 : Hid (Ints W15 z12.HA HH) := by rw [← HZ12.out.2.1]; exact Lib.hid hk15.2.2
  have J2 : Hid (Ints W15 z14.HA HH) := by rw [← hz14.2.1]; exact Lib.hid hl15.2.2
  clear hb14 ha14 hb15 hg15 hbp hbb hk15 hl15 hz14 HP13 HA13 HB13 HF13 HN13 HG13 HK13 HG15 HZ12 CS2 HXB HML HHL
  have d1 : decide (y = y) = true := decide_eq_true rfl
  have d2 : (y == y) = true := by simp
  have d3 : decide (CY = CY) = true := decide_eq_true rfl
  have d4 : (CY == CY) = true := by simp
  have d5 : decide (ov = ov) = true := decide_eq_true rfl
  have d6 : (ov == ov) = true := by simp
  go_wp2_with (first
    | (go_at_call 20; (with_reducible refine (CK.out _ HB15.out).mono ?_); rintro e16 w16 ⟨rfl, hb16⟩; have y1 := Y1.out _ hb16; have u1 := U1.out _ hb16)
    | (go_at_call 19; first
      | ((with_reducible refine (CSa.out _ _ _ _ _ (I1.out.grow hb16) (I2.out.grow hb16)).mono ?_); rintro e17 w17 ⟨rfl, hb17⟩; have hb1617 := below_then hb16 hb17; have y2 := Y2.out _ hb1617; have u2 := U2.out _ hb1617)
      | ((with_reducible refine (CSb.out _ _ _ _ _ (J1.out.grow hb1617) (J2.out.grow hb1617)).mono ?_); rintro e18 w18 ⟨rfl, hb18⟩; have hb1618 := below_then hb1617 hb18; have y3 := Y3.out _ hb1618; have u3 := U3.out _ hb1618))
    | ((with_reducible show wpList _ _ _ (Oper.mk (some 111) (.load 43 _) _ _ _ _ :: _) _ _); refine ld_prgW (HP15.out.keep hb1618) (lst_ten u) rfl _ rfl rfl ?_)
    | (go_at_call 29; (with_reducible refine (CV.out _ _ (HA15.out.grow hb1618) HUD.out).mono ?_); rintro e19 w19 ⟨rfl, hb19⟩))
  go_ret
  exact ⟨rfl, below_then HB15.out (below_then hb1618 hb19)⟩
end Go.Proofs.YtgdccmmcjicgkaaDoor
