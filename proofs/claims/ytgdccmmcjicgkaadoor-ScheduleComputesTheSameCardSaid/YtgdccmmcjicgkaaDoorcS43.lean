/- The law ScheduleComputesTheSame. Printed by gen_s43.py. -/
import Derived.Test.YtgdccmmcjicgkaaDoorcS30toS37
import Derived.Test.YtgdccmmcjicgkaaDoorcS11toS14
import Derived.Test.YtgdccmmcjicgkaaDoorcE18
import Derived.Test.YtgdccmmcjicgkaaDoorcE19toOn
import Derived.Test.YtgdccmmcjicgkaaDoorcOdtoS26
set_option linter.unusedVariables false
set_option linter.unusedSimpArgs false
namespace Go.Proofs.YtgdccmmcjicgkaaDoor
open Go.RowKit
def Far (b e : Nat) (y : MacA) (A : Option Addr) : Prop := ∀ q, (q < b ∨ e ≤ q) → Sep y q ∧ ∀ a, A = some a → a.block ≠ q
theorem far_mk {b : Nat} {w : World} {y : MacA} {A : Option Addr} {n c : Nat} {l : List Int} (ho : Own b w (.slice A n c) l) (hf : MacF b w y) : Far b w.heap.size y A := fun q hq => by
  have h1 := own_ty ho
  refine ⟨⟨fun n a e => ?_, fun n a e => ?_, fun n a e => ?_⟩, fun a e => ?_⟩
  · have := hf.1 n a e; have := this.2.lt; omega
  · have := hf.2.1 n a e; have := this.2.lt; omega
  · have := hf.2.2 n a e; have := this.2.lt; omega
  · have := h1 a e; have := this.2.lt; omega
structure Tri (w0 w : World) (q1 q2 q3 : Nat) (L1 L2 L3 : List Value) (y1 y2 y3 : MacA) (O1 O2 O3 : Option Addr) (OL : List Int) : Prop where
  b1 : Box w q1 L1
  b2 : Box w q2 L2
  b3 : Box w q3 L3
  m1 : MacAt w y1
  m2 : MacAt w y2
  m3 : MacAt w y3
  o1 : Ints w O1 OL
  o2 : Ints w O2 OL
  o3 : Ints w O3 OL
  bel : Below w0.heap.size w0 w
section
variable {w0 w w' : World} {q1 q2 q3 : Nat} {L1 L2 L3 L : List Value} {y1 y2 y3 : MacA} {O1 O2 O3 : Option Addr} {OL : List Int}
theorem Tri.rest (h : Tri w0 w q1 q2 q3 L1 L2 L3 y1 y2 y3 O1 O2 O3 OL) {q : Nat} (hb : w0.heap.size ≤ q) (hp : (Sep y1 q ∧ Sep y2 q ∧ Sep y3 q) ∧ (∀ a, O1 = some a → a.block ≠ q) ∧ (∀ a, O2 = some a → a.block ≠ q) ∧ (∀ a, O3 = some a → a.block ≠ q)) (hg : w.grownBy w' (some q)) :
    MacAt w' y1 ∧ MacAt w' y2 ∧ MacAt w' y3 ∧ Ints w' O1 OL ∧ Ints w' O2 OL ∧ Ints w' O3 OL ∧ Below w0.heap.size w0 w' :=
  ⟨hp.1.1.kept h.m1 hg, hp.1.2.1.kept h.m2 hg, hp.1.2.2.kept h.m3 hg, h.o1.kept hg fun _ a e p => by injection p with p; exact hp.2.1 a e p, h.o2.kept hg fun _ a e p => by injection p with p; exact hp.2.2.1 a e p, h.o3.kept hg fun _ a e p => by injection p with p; exact hp.2.2.2 a e p, grown_toI h.bel hg hb⟩
theorem Tri.one (h : Tri w0 w q1 q2 q3 L1 L2 L3 y1 y2 y3 O1 O2 O3 OL) (hn : q1 ≠ q2 ∧ q1 ≠ q3 ∧ q2 ≠ q3 ∧ w0.heap.size ≤ q1 ∧ w0.heap.size ≤ q2 ∧ w0.heap.size ≤ q3) (hp : ∀ q, (q = q1 ∨ q = q2 ∨ q = q3) → (Sep y1 q ∧ Sep y2 q ∧ Sep y3 q) ∧ (∀ a, O1 = some a → a.block ≠ q) ∧ (∀ a, O2 = some a → a.block ≠ q) ∧ (∀ a, O3 = some a → a.block ≠ q)) (hB : Box w' q1 L) (hg : w.grownBy w' (some q1)) : Tri w0 w' q1 q2 q3 L L2 L3 y1 y2 y3 O1 O2 O3 OL := by
  obtain ⟨a1, a2, a3, a4, a5, a6, a7⟩ := h.rest hn.2.2.2.1 (hp q1 (.inl rfl)) hg
  exact ⟨hB, h.b2.grown hg (fun e => by injection e with e; omega), h.b3.grown hg (fun e => by injection e with e; omega), a1, a2, a3, a4, a5, a6, a7⟩
theorem Tri.two (h : Tri w0 w q1 q2 q3 L1 L2 L3 y1 y2 y3 O1 O2 O3 OL) (hn : q1 ≠ q2 ∧ q1 ≠ q3 ∧ q2 ≠ q3 ∧ w0.heap.size ≤ q1 ∧ w0.heap.size ≤ q2 ∧ w0.heap.size ≤ q3) (hp : ∀ q, (q = q1 ∨ q = q2 ∨ q = q3) → (Sep y1 q ∧ Sep y2 q ∧ Sep y3 q) ∧ (∀ a, O1 = some a → a.block ≠ q) ∧ (∀ a, O2 = some a → a.block ≠ q) ∧ (∀ a, O3 = some a → a.block ≠ q)) (hB : Box w' q2 L) (hg : w.grownBy w' (some q2)) : Tri w0 w' q1 q2 q3 L1 L L3 y1 y2 y3 O1 O2 O3 OL := by
  obtain ⟨a1, a2, a3, a4, a5, a6, a7⟩ := h.rest hn.2.2.2.2.1 (hp q2 (.inr (.inl rfl))) hg
  exact ⟨h.b1.grown hg (fun e => by injection e with e; omega), hB, h.b3.grown hg (fun e => by injection e with e; omega), a1, a2, a3, a4, a5, a6, a7⟩
theorem Tri.thr (h : Tri w0 w q1 q2 q3 L1 L2 L3 y1 y2 y3 O1 O2 O3 OL) (hn : q1 ≠ q2 ∧ q1 ≠ q3 ∧ q2 ≠ q3 ∧ w0.heap.size ≤ q1 ∧ w0.heap.size ≤ q2 ∧ w0.heap.size ≤ q3) (hp : ∀ q, (q = q1 ∨ q = q2 ∨ q = q3) → (Sep y1 q ∧ Sep y2 q ∧ Sep y3 q) ∧ (∀ a, O1 = some a → a.block ≠ q) ∧ (∀ a, O2 = some a → a.block ≠ q) ∧ (∀ a, O3 = some a → a.block ≠ q)) (hB : Box w' q3 L) (hg : w.grownBy w' (some q3)) : Tri w0 w' q1 q2 q3 L1 L2 L y1 y2 y3 O1 O2 O3 OL := by
  obtain ⟨a1, a2, a3, a4, a5, a6, a7⟩ := h.rest hn.2.2.2.2.2 (hp q3 (.inr (.inr rfl))) hg
  exact ⟨h.b1.grown hg (fun e => by injection e with e; omega), h.b2.grown hg (fun e => by injection e with e; omega), hB, a1, a2, a3, a4, a5, a6, a7⟩
end
theorem size_int43 : (Tryd.prog.info? 3).map (·.size) = some 1 := by kernel_rfl
set_option maxRecDepth 100000 in
set_option maxHeartbeats 16000000 in
theorem law_ScheduleComputesTheSame (dd : DraftA) (l i : Option Addr × Nat × List Int) (w : World) (hf : FormsAt w) (hd : DraftOk w dd) (hl : Ints w l.1 l.2.2 ∧ l.2.2.length ≤ 9223372036854775807) (hi : Ints w i.1 i.2.2 ∧ i.2.2.length ≤ 9223372036854775807) :
    Calls Tryd.prog 11 #[dd.v, .slice l.1 l.2.2.length l.2.1, .slice i.1 i.2.2.length i.2.1] w fun e w' => e = .returned (.bool true) ∧ Below w.heap.size w w' := by
  obtain ⟨LA, lc, ll⟩ := l
  obtain ⟨XA, xc, xs⟩ := i
  obtain ⟨hli, hl9⟩ := hl
  obtain ⟨hxi, hx9⟩ := hi
  simp only at hli hl9 hxi hx9 ⊢
  obtain ⟨ln, hln⟩ : ∃ n, ll.length = n := ⟨_, rfl⟩
  obtain ⟨xn, hxn⟩ : ∃ n, xs.length = n := ⟨_, rfl⟩
  rw [hln] at hl9 ⊢
  rw [hxn] at hx9 ⊢
  have CK : Hid (∀ w1, Below w.heap.size w w1 → Calls Tryd.prog 44 #[] w1 fun e w' => e = .returned (.bool true) ∧ Below w1.heap.size w1 w') := Lib.hid fun w1 hb => known40 w1 (hf.grow hb)
  have hent : Below w.heap.size w (w.alloc (.cells #[.int .i64 dd.dn, .int .i64 dd.cn, .slice dd.RA dd.rs.length dd.rc, .slice dd.OA dd.os.length dd.oc, .slice dd.FA dd.fs.length dd.fc] 38)) := (Below.refl _ _).alloc (Nat.le_refl _) _
  have hbox : Box (w.alloc (.cells #[.int .i64 dd.dn, .int .i64 dd.cn, .slice dd.RA dd.rs.length dd.rc, .slice dd.OA dd.os.length dd.oc, .slice dd.FA dd.fs.length dd.fc] 38)) w.heap.size dd.lst := Box.new rfl
  have HENT := Lib.hid hent
  have HBOX := Lib.hid hbox
  by_cases h12 : (12 : Int) < (xn : Int)
  · clear hf hd hli hxi hent hbox
    go_enter Tryd.func11, Tryd.ntmps11
    go_wp2_with (go_at_call 44; (with_reducible refine (CK.out _ HENT.out).mono ?_); rintro e1 w1 ⟨rfl, hb1⟩)
    go_ret
    exact ⟨rfl, below_then HENT.out hb1⟩
  have hx12 : xn ≤ 12 := by omega
  obtain ⟨D, hD⟩ : ∃ x, dd.d 30 = x := ⟨_, rfl⟩
  have hv : validB D = true := by rw [← hD]; exact prgF_valid _ _ _ _ _ 30 (by omega)
  have hfi := valid_fine hv
  -- the two other orders
  obtain ⟨Q, hQ⟩ : ∃ q, schD D = q := ⟨_, rfl⟩
  obtain ⟨G, hG⟩ : ∃ g : PrgD, { D with code := grF D.code } = g := ⟨_, rfl⟩
  have hQv : validB Q = true := by rw [← hQ]; exact tr_valid hv (tr_best _)
  have hGv : validB G = true := by rw [← hG]; exact tr_valid hv (Tr.greedy _)
  have hTQ : Tr D.code (bestC D.code) := tr_best _
  have hTG : Tr D.code (grF D.code) := Tr.greedy _
  obtain ⟨M, hM⟩ : ∃ m, macF D ll = m := ⟨_, rfl⟩
  have hmv : macB D M = true := by rw [← hM]; exact macF_valid hv ll
  have hmQ : macB Q M = true := by
    have h := macF_valid hQv ll
    have e : macF Q ll = M := by rw [← hM, ← hQ]; rfl
    rwa [e] at h
  have hmG : macB G M = true := by
    have h := macF_valid hGv ll
    have e : macF G ll = M := by rw [← hM, ← hG]; rfl
    rwa [e] at h
  obtain ⟨-, hmo, hmc, hms⟩ := macB_parts hmv
  obtain ⟨X, hX⟩ : ∃ x, wordsF D.d0 D.d1 D.d2 D.d3 xs xn = x := ⟨_, rfl⟩
  have hXl : X.length = xn := by rw [← hX, wordsF_length]
  have hXw : wordD D X = true := by rw [← hX]; exact wordD_wordsF (valid_words hv).1 xs xn
  have hXQ : wordD Q X = true := by rw [← hQ]; exact hXw
  have hXG : wordD G X = true := by rw [← hG]; exact hXw
  have hcl := (valid_parts hv).2.2.1
  have hrl := (valid_rl hv).1
  have hde : depE D.code = 0 := by unfold depE; rw [if_pos hfi]
  obtain ⟨cn, hcn⟩ : ∃ m, D.code.length = m := ⟨_, rfl⟩
  have hgn : G.code.length = cn := by rw [← hG, ← hcn]; exact grF_len _
  have CP : Hid (∀ w1, Below w.heap.size w w1 → Calls Tryd.prog 21 #[dd.v, .int .i64 30] w1 (RetPrg w1 D)) := Lib.hid fun w1 hb => by
    rw [← hD]; exact dr_Code dd 30 w1 (hd.grow hb) (by omega)
  have CSch : Hid (∀ w1 v, Below w.heap.size w w1 → PrgAt w1 v → v.d = D → Calls Tryd.prog 45 #[.agg v.lst.toArray] w1 fun e w' => ∃ u : PrgA, u.d = Q ∧ e = .returned (.tuple #[.agg u.lst.toArray, .int .i64 0]) ∧ PrgAt w' u ∧ Below w1.heap.size w1 w') := Lib.hid fun w1 v hb h1 h2 => by
    have h := sc_Schedule v w1 (hf.grow hb) h1 (by rw [h2]; exact hv)
    rw [h2, hQ] at h
    exact h
  have CGr : Hid (∀ w1 A c, Below w.heap.size w w1 → InsAt w1 A D.code → Calls Tryd.prog 46 #[.slice A cn c] w1 fun e w' => ∃ A' c', e = .returned (.tuple #[.slice A' cn c', .int .i64 0]) ∧ OwnIR w1.heap.size w' (.slice A' cn c') G.code ∧ Below w1.heap.size w1 w') := Lib.hid fun w1 A c hb hi => by
    have h := sc_Greedy A cn c D.code w1 (hf.grow hb) hi hcn (by omega)
    have eg : grD D.code = G.code := by unfold grD; rw [if_pos hfi, ← hG]
    rw [eg, hde] at h
    refine h.mono ?_
    rintro e w' ⟨v, rfl, ho, hb'⟩
    obtain ⟨A', c', rfl, -, hi'⟩ := ho.form
    rw [hgn] at ho ⊢
    exact ⟨A', c', rfl, ho, hb'⟩
  have CMc : Hid (∀ w1 u, Below w.heap.size w w1 → PrgAt w1 u → u.d = D → Calls Tryd.prog 22 #[.agg u.lst.toArray, .slice LA ln lc] w1 (RetMacW w1 M)) := Lib.hid fun w1 u hb h1 h2 => by
    have h := wd_Machine u LA ll ln lc w1 h1 (by rw [h2]; exact hv) (hli.grow hb) hln
    rw [h2, hM] at h
    exact h
  have CWd : Hid (∀ w1, Below w.heap.size w w1 → Calls Tryd.prog 23 #[wordV D.d0 D.d1 D.d2 D.d3, .slice XA xn xc, .int .i64 (xn : Int)] w1 fun e w' => ∃ v, e = .returned v ∧ Own w1.heap.size w' v X ∧ Below w1.heap.size w1 w') := Lib.hid fun w1 hb => by
    subst hxn
    rw [← hX]
    exact wd_Words _ _ _ _ XA xs xc xs.length w1 (by omega) (hxi.grow hb)
  obtain ⟨OL, hOL⟩ : ∃ o, runO D M X = o := ⟨_, rfl⟩
  obtain ⟨V, hV⟩ : ∃ o, runV D M X = o := ⟨_, rfl⟩
  obtain ⟨M0, hM0⟩ : ∃ m : Mac, m = ⟨(runM D M X).regs, (runM D M X).mem, (runM D M X).heads, 0, 0⟩ := ⟨_, rfl⟩
  have hol : OL.length = xn := by rw [← hOL, runO_len]; exact hXl
  have hrQ := run_tr hv hTQ (suit_mem hv) X M M ⟨rfl, rfl, rfl⟩
  have hrG := run_tr hv hTG (suit_mem hv) X M M ⟨rfl, rfl, rfl⟩
  rw [hOL, hV] at hrQ hrG
  have hQ' : { D with code := bestC D.code } = Q := hQ
  rw [hQ'] at hrQ
  rw [hG] at hrG
  have hsz := runM_ok hv X M hXw hmo
  have hs0 : M0.regs.length ≤ 1000 ∧ M0.mem.length ≤ 1000 ∧ M0.heads.length ≤ 1000 := by
    rw [hM0]
    exact ⟨by show (runM D M X).regs.length ≤ 1000; rw [hsz.rl]; omega, by show (runM D M X).mem.length ≤ 1000; rw [hsz.ml]; omega, by show (runM D M X).heads.length ≤ 1000; rw [hsz.hl]; omega⟩
  have CRn : ∀ E : PrgD, macB E M = true → wordD E X = true → runO E M X = OL → runV E M X = V → MEq (runM D M X) (runM E M X) → ∀ w1 u (x : MacA) A c, Below w.heap.size w w1 → PrgAt w1 u → u.d = E → MacAt w1 x → x.m = M → Ints w1 A X → Calls Tryd.prog 24 #[.agg u.lst.toArray, .agg x.lst.toArray, .slice A xn c] w1 fun e w' => ∃ (A : Option Addr) (c : Nat) (z z0 : MacA), z0.m = M0 ∧ (z.lst.set 3 (.int .i64 0)).set 4 (.int .i64 0) = z0.lst ∧ e = .returned (.tuple #[.slice A xn c, .agg z.lst.toArray, .int .i64 V, .int .i64 0]) ∧ Ints w' A OL ∧ MacAt w' z0 ∧ Far w1.heap.size w'.heap.size z0 A ∧ Below w1.heap.size w1 w' := by
    intro E hE1 hE2 hE3 hE4 hE5 w1 u x A c hb h1 h2 h3 h4 h5
    have h := sm_RunR u x A xn c X w1 (hf.grow hb) h1 h3 h5 (by rw [h2, h4]; exact hE1) (by rw [h2]; exact hE2) hXl (by omega)
    unfold RetRunR at h
    rw [h2, h4, hE3, hE4, hol] at h
    refine h.mono ?_
    rintro e w' ⟨A, c, z, hz, rfl, ho, ha, hf', hb'⟩
    refine ⟨A, c, z, ⟨M0, z.GA, z.MA, z.HA, z.gc, z.mc, z.hc⟩, rfl, ?_, rfl, ho.ints, ?_, ?_, hb'⟩
    · rw [hM0]
      show [_, _, _, _, _] = [_, _, _, _, _]
      rw [hz, ← hE5.1, ← hE5.2.1, ← hE5.2.2]
    · rw [hM0]
      obtain ⟨a1, a2, a3⟩ := ha
      rw [hz, ← hE5.1] at a1
      rw [hz, ← hE5.2.1] at a2
      rw [hz, ← hE5.2.2] at a3
      exact ⟨a1, a2, a3⟩
    · refine far_mk ho ?_
      obtain ⟨f1, f2, f3⟩ := hf'
      rw [hz, ← hE5.1] at f1
      rw [hz, ← hE5.2.1] at f2
      rw [hz, ← hE5.2.2] at f3
      rw [hM0]
      exact ⟨f1, f2, f3⟩
  have CR1 := Lib.hid (CRn D hmv hXw hOL hV ⟨rfl, rfl, rfl⟩)
  have CR2 := Lib.hid (CRn Q hmQ hXQ hrQ.1.symm hrQ.2.1.symm hrQ.2.2)
  have CR3 := Lib.hid (CRn G hmG hXG hrG.1.symm hrG.2.1.symm hrG.2.2)
  have CSm : Hid (∀ w1 (y z : MacA), MacAt w1 y → MacAt w1 z → y.m = M0 → z.m = M0 → Calls Tryd.prog 27 #[.agg y.lst.toArray, .agg z.lst.toArray] w1 fun e w' => e = .returned (.bool true) ∧ Below w1.heap.size w1 w') := Lib.hid fun w1 y z h1 h2 h3 h4 => r39_Same y z w1 h1 h2 (h3.trans h4.symm) (by rw [h3]; exact hs0.1) (by rw [h3]; exact hs0.2.1) (by rw [h3]; exact hs0.2.2)
  have HXL := Lib.hid hXl
  have HOLN := Lib.hid hol
  have HCN := Lib.hid hcn
  have HGN := Lib.hid hgn
  have HG := Lib.hid hG
  have dV : decide (V = V) = true := decide_eq_true rfl
  have bV : (V == V) = true := by simp
  clear hf hd hli hxi hent hbox hv hfi hQv hGv hTQ hTG hmv hmQ hmG hmo hmc hms hXl hXw hXQ hXG hrl hcl hde hOL hV hM0 hol hrQ hrG hQ' hsz hs0 CRn hD hM hX hQ hG hln hxn hcn hgn
  go_enter Tryd.func11, Tryd.ntmps11
  go_upto_region 3 with fail
  have HE0 := HENT.out
  have HX0 := HBOX.out
  generalize w.alloc (.cells #[.int .i64 dd.dn, .int .i64 dd.cn, .slice dd.RA dd.rs.length dd.rc, .slice dd.OA dd.os.length dd.oc, .slice dd.FA dd.fs.length dd.fc] 38) = w0 at HE0 HX0 ⊢
  have HB0 := Lib.hid HE0
  have HX := Lib.hid HX0
  clear HE0 HX0 HENT HBOX
  go_upto_region 4 with (first
    | ((with_reducible show wpList _ _ _ (Oper.mk _ (.load 38 _) _ _ _ _ :: _) _ _); refine ld_dft HX.out rfl _ rfl rfl ?_)
    | (go_at_call 21; (with_reducible refine (CP.out _ HB0.out).mono ?_); rintro e1 w1 ⟨u, hu, rfl, hat, hb1⟩)
    | ((with_reducible show wpList _ _ _ (Oper.mk none (.store 43 _ _) _ _ _ _ :: _) _ _); refine st_prgB (w := w1.alloc (.cells zeros10.toArray 43)) (M := zeros10) (g := w1.heap.size) (Box.new rfl) rfl (L := u.lst) (lst_ten u) (lst_one u) rfl _ _ rfl rfl rfl ?_; intro W2 b2 p2))
  have hb2 := put_facts ((Below.refl w1.heap.size w1).alloc (Nat.le_refl _) (.cells zeros10.toArray 43)) (Nat.le_refl _) p2
  have HB2 := Lib.hid (below_then (below_then HB0.out hb1) hb2)
  have HP2 := Lib.hid b2
  have HA2 := Lib.hid (hat.grow hb2)
  have HU := Lib.hid hu
  clear hb1 hb2 b2 p2 hat hu CP HX HB0
  generalize w1.heap.size = gp at HP2 ⊢
  -- Schedule
  go_upto_region 5 with (first
    | ((with_reducible show wpList _ _ _ (Oper.mk _ (.load 43 _) _ _ _ _ :: _) _ _); refine ld_prg HP2.out (lst_ten u) rfl _ rfl rfl ?_)
    | (go_at_call 45; (with_reducible refine (CSch.out _ _ HB2.out HA2.out HU.out).mono ?_); rintro e3 w3 ⟨q, hq, rfl, haq, hb3⟩)
    | ((with_reducible show wpList _ _ _ (Oper.mk none (.store 43 _ _) _ _ _ _ :: _) _ _); refine st_prgB (w := w3.alloc (.cells zeros10.toArray 43)) (M := zeros10) (g := w3.heap.size) (Box.new rfl) rfl (L := q.lst) (lst_ten q) (lst_one q) rfl _ _ rfl rfl rfl ?_; intro W4 b4 p4))
  have hb4 := put_facts ((Below.refl w3.heap.size w3).alloc (Nat.le_refl _) (.cells zeros10.toArray 43)) (Nat.le_refl _) p4
  have hb34 := below_then hb3 hb4
  have HB4 := Lib.hid (below_then HB2.out hb34)
  have HP4 := Lib.hid (HP2.out.keep hb34)
  have HA4 := Lib.hid (HA2.out.grow hb34)
  have HQ4 := Lib.hid b4
  have HQA4 := Lib.hid (haq.grow hb4)
  have HQD := Lib.hid hq
  clear hb3 hb4 hb34 b4 p4 haq hq CSch HB2 HP2 HA2
  generalize w3.heap.size = gq at HQ4 ⊢
  -- the copy
  go_upto_region 6 with (first
    | ((with_reducible show wpList _ _ _ (Oper.mk _ (.load 43 _) _ _ _ _ :: _) _ _); refine ld_prg HP4.out (lst_ten u) rfl _ rfl rfl ?_)
    | ((with_reducible show wpList _ _ _ (Oper.mk none (.store 43 _ _) _ _ _ _ :: _) _ _); refine st_prgB (w := W4.alloc (.cells zeros10.toArray 43)) (M := zeros10) (g := W4.heap.size) (Box.new rfl) rfl (L := u.lst) (lst_ten u) (lst_one u) rfl _ _ rfl rfl rfl ?_; intro W5 b5 p5))
  have hb5 := put_facts ((Below.refl W4.heap.size W4).alloc (Nat.le_refl _) (.cells zeros10.toArray 43)) (Nat.le_refl _) p5
  have HB5 := Lib.hid (below_then HB4.out hb5)
  have HW5 : Hid (Below W4.heap.size W4 W5) := Lib.hid hb5
  have HC5 := Lib.hid b5
  have hp5 := HP4.out.keep hb5
  have ha5 := HA4.out.grow hb5
  clear hb5 b5 p5
  -- Greedy
  have x9 : W5.cell? ⟨gp, 9, none⟩ = some (.slice u.CA cn u.cc) := by
    have := hp5.2.1 9
    rw [this]
    show some (Value.slice u.CA u.d.code.length u.cc) = _
    rw [HU.out, HCN.out]
  have hia5 : InsAt W5 u.CA D.code := by have := ha5.2; rw [HU.out] at this; exact this
  have HIA5 := Lib.hid hia5
  clear hia5 hp5 ha5
  go_upto_region 7 with (go_at_call 46; (with_reducible refine (CGr.out _ _ _ HB5.out HIA5.out).mono ?_); rintro e6 w6 ⟨GA, gcc, rfl, hga, hb6⟩)
  clear x9
  have hgl : W4.heap.size < W5.heap.size := HC5.out.1
  have hc6 := HC5.out.keep hb6
  have hw6 : Below W4.heap.size W4 w6 := below_then HW5.out hb6
  have y9 : w6.cell? ⟨W4.heap.size, 9, none⟩ = some (.slice u.CA u.d.code.length u.cc) := hc6.2.1 9
  have z9 : w6.frozen? ⟨W4.heap.size, 9, none⟩ = false := hc6.2.2 9
  have HC6 := Lib.hid hc6
  have HGA6 := Lib.hid hga
  have HGL := Lib.hid hgl
  have HW6 := Lib.hid hw6
  clear hb6 hc6 hga hw6 hgl HB5 HC5 HIA5 CGr HW5
  go_upto_region 8 with fail
  have hp7 := HC6.out.set (k := 9) (u := .slice GA cn gcc) (by show 9 < 10; omega)
  have hw7 := HW6.out.setCell (p := ⟨W4.heap.size, 9, none⟩) (Nat.le_refl _) (.slice GA cn gcc)
  obtain ⟨A7, c7, e7, -, i7⟩ := (HGA6.out.store (k := 9) (u := .slice GA cn gcc) HGL.out).form
  injection e7 with e7a e7b e7c
  subst e7a
  clear e7b e7c y9 z9
  generalize w6.setCell ⟨W4.heap.size, 9, none⟩ (.slice GA cn gcc) = W7 at hp7 i7 hw7 ⊢
  obtain ⟨g, hgd⟩ : ∃ g : PrgA, g = ⟨G, u.RA, GA, u.rc, gcc⟩ := ⟨_, rfl⟩
  have HGD : Hid (g.d = G) := Lib.hid (by rw [hgd])
  have hlst : u.lst.set 9 (.slice GA cn gcc) = g.lst := by
    rw [hgd, ← HGN.out, ← HG.out, ← HU.out]
    rfl
  rw [hlst] at hp7
  have HP7 := Lib.hid (HP4.out.keep hw7)
  have HA7 := Lib.hid (HA4.out.grow hw7)
  have hat7 : PrgAt W7 g := by
    rw [hgd]
    refine ⟨?_, i7⟩
    have h := HA7.out.1
    rw [HU.out] at h
    show RingsAt W7 u.RA G.rg
    rw [← HG.out]
    exact h
  have HQ7 := Lib.hid (HQ4.out.keep hw7)
  have HQA7 := Lib.hid (HQA4.out.grow hw7)
  have HB7 := Lib.hid (below_then HB4.out hw7)
  have HC7 := Lib.hid hp7
  have HCA7 := Lib.hid hat7
  clear hp7 hat7 hw7 i7 hlst hgd HC6 HGA6 HGL HW6 HP4 HA4 HQ4 HQA4 HB4 HG HGN HCN
  generalize W4.heap.size = gc at HC7 ⊢
  -- the machine and the words
  refine wp_region_grow8 (fun x => Nat.blt x 10) (fun _ => false) (fun w' => Below W7.heap.size W7 w') (fun a b => Below a.heap.size a b) (smF W7.heap.size gp u.lst (.slice LA ln lc) (.slice XA xn xc) M X (wordV D.d0 D.d1 D.d2 D.d3) xn) (by kernel_rfl) (by kernel_rfl) (Below.drew (Below.refl _ _)) (fun a b h1 h2 => ⟨below_then h1 h2, fun i _ v => smF_keep h2 i v⟩) (fun w _ => Below.refl _ _) ?_ (fun j o _ _ h => by cases h) ?_
  · refine ⟨?_, ?_, ?_, ?_, ?_, ?_, ?_, ?_, ?_, ?_, trivial⟩
    all_goals
      intro vs w5 hp hF
      have HPX : Hid (Box w5 gp u.lst ∧ PrgAt w5 u ∧ Below w.heap.size w w5) := Lib.hid ⟨HP7.out.keep hp, HA7.out.grow hp, below_then HB7.out hp⟩
      have x0 : w5.cell? ⟨gp, 0, none⟩ = some (.int .i64 D.d0) := by rw [← HU.out]; exact HPX.out.1.2.1 0
      have x1 : w5.cell? ⟨gp, 1, none⟩ = some (.int .i64 D.d1) := by rw [← HU.out]; exact HPX.out.1.2.1 1
      have x2 : w5.cell? ⟨gp, 2, none⟩ = some (.int .i64 D.d2) := by rw [← HU.out]; exact HPX.out.1.2.1 2
      have x3 : w5.cell? ⟨gp, 3, none⟩ = some (.int .i64 D.d3) := by rw [← HU.out]; exact HPX.out.1.2.1 3
      have HQ5 := Lib.hid hp
      clear hp
      simp [depsB, Region.binds, smF] at hF
      simp [stL, depsB, Region.binds, Act.put, hF]
    · refine ld_prg HPX.out.1 (lst_ten u) rfl _ rfl rfl ?_
      exact wpList_nil ⟨rfl, _, rfl, rfl, Below.refl _ _⟩
    · go_wp2_with fail
      exact ⟨rfl, Below.refl _ _⟩
    · go_wp2_with (go_at_call 22; (with_reducible refine (CMc.out _ _ HPX.out.2.2 HPX.out.2.1 HU.out).mono ?_); rintro e6 w6' ⟨x, h1, rfl, h2, h3, hb6⟩)
      first | exact ⟨⟨x, h1, rfl, h2, h3.mono HQ5.out.size⟩, hb6⟩ | exact ⟨x, h1, rfl, h2, h3.mono HQ5.out.size⟩
    · go_wp2_with fail
      exact ⟨rfl, Below.refl _ _⟩
    · go_wp2_with fail
      exact ⟨rfl, Below.refl _ _⟩
    · go_wp2_with fail
      exact ⟨rfl, Below.refl _ _⟩
    · go_wp2_with fail
      exact ⟨rfl, Below.refl _ _⟩
    · go_wp2_with fail
      exact ⟨rfl, Below.refl _ _⟩
    · go_wp2_with (go_at_call 23; (with_reducible refine (CWd.out _ HPX.out.2.2).mono ?_); rintro e6 w6' ⟨v6, rfl, ho6, hb6⟩; obtain ⟨A6, c6, rfl, -⟩ := own_form ho6.1; rw [HXL.out] at ho6 ⊢)
      first | exact ⟨⟨A6, c6, rfl, ho6.base HQ5.out.size⟩, hb6⟩ | exact ⟨A6, c6, rfl, ho6.base HQ5.out.size⟩
    · go_wp2_with fail
      have hbx : Box (w5.alloc (.cells zeros5.toArray 46)) w5.heap.size zeros5 := Box.new rfl
      exact ⟨⟨_, rfl, hbx, ⟨_, _, heap_alloc_new w5 _⟩, HQ5.out.size⟩, Below.alloc (Below.refl _ _) (Nat.le_refl _) _⟩
  intro vs w5 hC hF
  obtain ⟨x, hxm, e2, hxa, hxf⟩ := hF 2 (by decide) rfl
  obtain ⟨XB, xb, e8, hxo⟩ := hF 8 (by decide) rfl
  obtain ⟨gm, e9, hbx, hty, hqb⟩ := hF 9 (by decide) rfl
  show wpList Tryd.prog _ _ [_, _] _ _
  simp [stL, Act.put, e2, e8, e9]
  clear hF e2 e8 e9
  have HXM := Lib.hid hxm
  have HZ0 := Lib.hid (mlst_one x)
  obtain ⟨zl0, hzl⟩ : ∃ l, x.lst = l := ⟨_, rfl⟩
  rw [hzl] at HZ0 ⊢
  have HZE0 := Lib.hid hzl
  clear hzl hxm
  refine st_mac (L := zl0) hbx rfl HZ0.out.1 HZ0.out.2 rfl _ _ rfl rfl rfl ?_
  intro W8 hb8 hg8
  obtain ⟨hxa', -⟩ := hxa.ty hxf hg8 hty
  have hbw := grown_toI hC hg8 hqb
  have hxo' := own_keptI hxo hg8 (own_ne hxo.1 hty (by decide))
  have HXI8 : Hid (Ints W8 XB X) := Lib.hid hxo'.ints
  have HMA8 := Lib.hid hxa'
  rw [← HZE0.out] at hb8
  have HMB8 := Lib.hid hb8
  have HP8 := Lib.hid (HP7.out.keep hbw)
  have HA8 := Lib.hid (HA7.out.grow hbw)
  have HQ8 := Lib.hid (HQ7.out.keep hbw)
  have HQA8 := Lib.hid (HQA7.out.grow hbw)
  have HC8 := Lib.hid (HC7.out.keep hbw)
  have HCA8 := Lib.hid (HCA7.out.grow hbw)
  have HB8 := Lib.hid (below_then HB7.out hbw)
  clear hbx hty hqb hxa hxf hxo hxa' hxo' hbw hb8 hg8 hC HP7 HA7 HQ7 HQA7 HC7 HCA7 HB7 CMc CWd HZ0 HZE0
  simp only [Act.put]
  generalize vs 0 = v0
  generalize vs 1 = v1
  generalize vs 3 = v3
  generalize vs 4 = v4
  generalize vs 5 = v5
  generalize vs 6 = v6
  generalize vs 7 = v7
  -- run 1
  go_upto_region 10 with (first
    | ((with_reducible show wpList _ _ _ (Oper.mk _ (.load 43 _) _ _ _ _ :: _) _ _); refine ld_prg HP8.out (lst_ten u) rfl _ rfl rfl ?_)
    | ((with_reducible show wpList _ _ _ (Oper.mk _ (.load 46 _) _ _ _ _ :: _) _ _); refine ld_mac HMB8.out (mlst_one x).1 rfl _ rfl rfl ?_)
    | (go_at_call 24; (with_reducible refine (CR1.out _ _ _ _ _ HB8.out HA8.out HU.out HMA8.out HXM.out HXI8.out).mono ?_); rintro e10 w10 ⟨O1, k1, z1, y1, hy1, hl1, rfl, ho1, ha1, hf1, hb1⟩)
    | ((with_reducible show wpList _ _ _ (Oper.mk _ (.store 46 _ _) _ _ _ _ :: _) _ _); refine st_mac (L := z1.lst) (Box.new (w := w10) (t := 46) (vs := zeros5.toArray) rfl) rfl (mlst_one z1).1 (mlst_one z1).2 rfl _ _ rfl rfl rfl ?_; intro W10 hc1 hg1))
  have hbp := put_facts ((Below.refl w10.heap.size w10).alloc (Nat.le_refl _) (.cells zeros5.toArray 46)) (Nat.le_refl _) hg1
  have hbb := below_then hb1 hbp
  have HB10 := Lib.hid (below_then HB8.out hbb)
  have HP10 := Lib.hid (HP8.out.keep hbb)
  have HQ10 := Lib.hid (HQ8.out.keep hbb)
  have HC10 := Lib.hid (HC8.out.keep hbb)
  have HMB10 := Lib.hid (HMB8.out.keep hbb)
  have HA10 := Lib.hid (HA8.out.grow hbb)
  have HQA10 := Lib.hid (HQA8.out.grow hbb)
  have HCA10 := Lib.hid (HCA8.out.grow hbb)
  have HMA10 := Lib.hid (HMA8.out.grow hbb)
  have HXI10 := Lib.hid (HXI8.out.grow hbb)
  have HR1x10 := Lib.hid hc1
  have HY1x10 := Lib.hid (ha1.grow hbp)
  have HO1x10 : Hid (Ints W10 O1 OL) := Lib.hid (ho1.grow hbp)
  have HS1 := Lib.hid hl1
  have HYM1 := Lib.hid hy1
  have HN1 : Hid (W8.heap.size ≤ w10.heap.size ∧ w.heap.size ≤ w10.heap.size) := Lib.hid ⟨hb1.size, Nat.le_trans HB8.out.size hb1.size⟩
  have HF1 := Lib.hid hf1
  clear hc1 ha1 ho1 hl1 hy1 hb1 hg1 hf1 hbp hbb HB8 HP8 HQ8 HC8 HMB8 HA8 HQA8 HCA8 HMA8 HXI8 CR1
  generalize W8.heap.size = b1 at HN1 HF1
  generalize w10.heap.size = q1 at HR1x10 HN1 HF1 ⊢
  -- run 2
  go_upto_region 11 with (first
    | ((with_reducible show wpList _ _ _ (Oper.mk _ (.load 43 _) _ _ _ _ :: _) _ _); refine ld_prg HQ10.out (lst_ten q) rfl _ rfl rfl ?_)
    | ((with_reducible show wpList _ _ _ (Oper.mk _ (.load 46 _) _ _ _ _ :: _) _ _); refine ld_mac HMB10.out (mlst_one x).1 rfl _ rfl rfl ?_)
    | (go_at_call 24; (with_reducible refine (CR2.out _ _ _ _ _ HB10.out HQA10.out HQD.out HMA10.out HXM.out HXI10.out).mono ?_); rintro e12 w12 ⟨O2, k2, z2, y2, hy2, hl2, rfl, ho2, ha2, hf2, hb2⟩)
    | ((with_reducible show wpList _ _ _ (Oper.mk _ (.store 46 _ _) _ _ _ _ :: _) _ _); refine st_mac (L := z2.lst) (Box.new (w := w12) (t := 46) (vs := zeros5.toArray) rfl) rfl (mlst_one z2).1 (mlst_one z2).2 rfl _ _ rfl rfl rfl ?_; intro W12 hc2 hg2))
  have hbp := put_facts ((Below.refl w12.heap.size w12).alloc (Nat.le_refl _) (.cells zeros5.toArray 46)) (Nat.le_refl _) hg2
  have hbb := below_then hb2 hbp
  have HB12 := Lib.hid (below_then HB10.out hbb)
  have HP12 := Lib.hid (HP10.out.keep hbb)
  have HQ12 := Lib.hid (HQ10.out.keep hbb)
  have HC12 := Lib.hid (HC10.out.keep hbb)
  have HMB12 := Lib.hid (HMB10.out.keep hbb)
  have HR1x12 := Lib.hid (HR1x10.out.keep hbb)
  have HA12 := Lib.hid (HA10.out.grow hbb)
  have HQA12 := Lib.hid (HQA10.out.grow hbb)
  have HCA12 := Lib.hid (HCA10.out.grow hbb)
  have HMA12 := Lib.hid (HMA10.out.grow hbb)
  have HXI12 := Lib.hid (HXI10.out.grow hbb)
  have HY1x12 := Lib.hid (HY1x10.out.grow hbb)
  have HO1x12 := Lib.hid (HO1x10.out.grow hbb)
  have HR2x12 := Lib.hid hc2
  have HY2x12 := Lib.hid (ha2.grow hbp)
  have HO2x12 : Hid (Ints W12 O2 OL) := Lib.hid (ho2.grow hbp)
  have HS2 := Lib.hid hl2
  have HYM2 := Lib.hid hy2
  have HN2 : Hid (W10.heap.size ≤ w12.heap.size ∧ w.heap.size ≤ w12.heap.size ∧ q1 < W10.heap.size) := Lib.hid ⟨hb2.size, Nat.le_trans HB10.out.size hb2.size, HR1x10.out.1⟩
  have HF2 := Lib.hid hf2
  clear hc2 ha2 ho2 hl2 hy2 hb2 hg2 hf2 hbp hbb HB10 HP10 HQ10 HC10 HMB10 HR1x10 HA10 HQA10 HCA10 HMA10 HXI10 HY1x10 HO1x10 CR2
  generalize W10.heap.size = b2 at HN2 HF2
  generalize w12.heap.size = q2 at HR2x12 HN2 HF2 ⊢
  -- run 3
  go_upto_region 12 with (first
    | ((with_reducible show wpList _ _ _ (Oper.mk _ (.load 43 _) _ _ _ _ :: _) _ _); refine ld_prg HC12.out (lst_ten g) rfl _ rfl rfl ?_)
    | ((with_reducible show wpList _ _ _ (Oper.mk _ (.load 46 _) _ _ _ _ :: _) _ _); refine ld_mac HMB12.out (mlst_one x).1 rfl _ rfl rfl ?_)
    | (go_at_call 24; (with_reducible refine (CR3.out _ _ _ _ _ HB12.out HCA12.out HGD.out HMA12.out HXM.out HXI12.out).mono ?_); rintro e14 w14 ⟨O3, k3, z3, y3, hy3, hl3, rfl, ho3, ha3, hf3, hb3⟩)
    | ((with_reducible show wpList _ _ _ (Oper.mk _ (.store 46 _ _) _ _ _ _ :: _) _ _); refine st_mac (L := z3.lst) (Box.new (w := w14) (t := 46) (vs := zeros5.toArray) rfl) rfl (mlst_one z3).1 (mlst_one z3).2 rfl _ _ rfl rfl rfl ?_; intro W14 hc3 hg3))
  have hbp := put_facts ((Below.refl w14.heap.size w14).alloc (Nat.le_refl _) (.cells zeros5.toArray 46)) (Nat.le_refl _) hg3
  have hbb := below_then hb3 hbp
  have HB14 := Lib.hid (below_then HB12.out hbb)
  have HP14 := Lib.hid (HP12.out.keep hbb)
  have HQ14 := Lib.hid (HQ12.out.keep hbb)
  have HC14 := Lib.hid (HC12.out.keep hbb)
  have HMB14 := Lib.hid (HMB12.out.keep hbb)
  have HR1x14 := Lib.hid (HR1x12.out.keep hbb)
  have HR2x14 := Lib.hid (HR2x12.out.keep hbb)
  have HA14 := Lib.hid (HA12.out.grow hbb)
  have HQA14 := Lib.hid (HQA12.out.grow hbb)
  have HCA14 := Lib.hid (HCA12.out.grow hbb)
  have HMA14 := Lib.hid (HMA12.out.grow hbb)
  have HXI14 := Lib.hid (HXI12.out.grow hbb)
  have HY1x14 := Lib.hid (HY1x12.out.grow hbb)
  have HO1x14 := Lib.hid (HO1x12.out.grow hbb)
  have HY2x14 := Lib.hid (HY2x12.out.grow hbb)
  have HO2x14 := Lib.hid (HO2x12.out.grow hbb)
  have HR3x14 := Lib.hid hc3
  have HY3x14 := Lib.hid (ha3.grow hbp)
  have HO3x14 : Hid (Ints W14 O3 OL) := Lib.hid (ho3.grow hbp)
  have HS3 := Lib.hid hl3
  have HYM3 := Lib.hid hy3
  have HN3 : Hid (W12.heap.size ≤ w14.heap.size ∧ w.heap.size ≤ w14.heap.size ∧ q1 < W12.heap.size ∧ q2 < W12.heap.size) := Lib.hid ⟨hb3.size, Nat.le_trans HB12.out.size hb3.size, HR1x12.out.1, HR2x12.out.1⟩
  have HF3 := Lib.hid hf3
  clear hc3 ha3 ho3 hl3 hy3 hb3 hg3 hf3 hbp hbb HB12 HP12 HQ12 HC12 HMB12 HR1x12 HR2x12 HA12 HQA12 HCA12 HMA12 HXI12 HY1x12 HO1x12 HY2x12 HO2x12 CR3
  generalize W12.heap.size = b3 at HN3 HF3
  generalize w14.heap.size = q3 at HR3x14 HN3 HF3 ⊢
  -- the counters
  have hne : q1 ≠ q2 ∧ q1 ≠ q3 ∧ q2 ≠ q3 ∧ w.heap.size ≤ q1 ∧ w.heap.size ≤ q2 ∧ w.heap.size ≤ q3 := by
    have h1 := HN1.out; have h2 := HN2.out; have h3 := HN3.out
    omega
  have HAP : Hid (∀ q, (q = q1 ∨ q = q2 ∨ q = q3) → (Sep y1 q ∧ Sep y2 q ∧ Sep y3 q) ∧ (∀ a, O1 = some a → a.block ≠ q) ∧ (∀ a, O2 = some a → a.block ≠ q) ∧ (∀ a, O3 = some a → a.block ≠ q)) := Lib.hid fun q hq => by
    have h1 := HN1.out; have h2 := HN2.out; have h3 := HN3.out
    have f1 := HF1.out q (by omega)
    have f2 := HF2.out q (by omega)
    have f3 := HF3.out q (by omega)
    exact ⟨⟨f1.1, f2.1, f3.1⟩, f1.2, f2.2, f3.2⟩
  have HT0 : Hid (Tri w W14 q1 q2 q3 z1.lst z2.lst z3.lst y1 y2 y3 O1 O2 O3 OL) := Lib.hid ⟨HR1x14.out, HR2x14.out, HR3x14.out, HY1x14.out, HY2x14.out, HY3x14.out, HO1x14.out, HO2x14.out, HO3x14.out, HB14.out⟩
  have HNE := Lib.hid hne
  clear hne HN1 HN2 HN3 HF1 HF2 HF3 HB14 HP14 HQ14 HC14 HMB14 HR1x14 HR2x14 HR3x14 HA14 HQA14 HCA14 HMA14 HXI14 HY1x14 HO1x14 HY2x14 HO2x14 HY3x14 HO3x14
  go_upto_region 13 with (first
    | ((with_reducible show wpList _ _ _ (Oper.mk none (.store _ (.tmp 83) _) _ _ _ _ :: _) _ _); refine wp_st1 rfl _ _ _ rfl q1 3 (.int .i64 0) rfl rfl size_int43 rfl rfl HT0.out.b1 (by simp [MacA.lst]) rfl ?_; intro WS0 hs0 hh0; have HT1 := Lib.hid (HT0.out.one HNE.out HAP.out hs0 hh0))
    | ((with_reducible show wpList _ _ _ (Oper.mk none (.store _ (.tmp 84) _) _ _ _ _ :: _) _ _); refine wp_st1 rfl _ _ _ rfl q2 3 (.int .i64 0) rfl rfl size_int43 rfl rfl HT1.out.b2 (by simp [MacA.lst]) rfl ?_; intro WS1 hs1 hh1; have HT2 := Lib.hid (HT1.out.two HNE.out HAP.out hs1 hh1))
    | ((with_reducible show wpList _ _ _ (Oper.mk none (.store _ (.tmp 85) _) _ _ _ _ :: _) _ _); refine wp_st1 rfl _ _ _ rfl q3 3 (.int .i64 0) rfl rfl size_int43 rfl rfl HT2.out.b3 (by simp [MacA.lst]) rfl ?_; intro WS2 hs2 hh2; have HT3 := Lib.hid (HT2.out.thr HNE.out HAP.out hs2 hh2))
    | ((with_reducible show wpList _ _ _ (Oper.mk none (.store _ (.tmp 86) _) _ _ _ _ :: _) _ _); refine wp_st1 rfl _ _ _ rfl q1 4 (.int .i64 0) rfl rfl size_int43 rfl rfl HT3.out.b1 (by simp [MacA.lst]) rfl ?_; intro WS3 hs3 hh3; have HT4 := Lib.hid (HT3.out.one HNE.out HAP.out hs3 hh3))
    | ((with_reducible show wpList _ _ _ (Oper.mk none (.store _ (.tmp 87) _) _ _ _ _ :: _) _ _); refine wp_st1 rfl _ _ _ rfl q2 4 (.int .i64 0) rfl rfl size_int43 rfl rfl HT4.out.b2 (by simp [MacA.lst]) rfl ?_; intro WS4 hs4 hh4; have HT5 := Lib.hid (HT4.out.two HNE.out HAP.out hs4 hh4))
    | ((with_reducible show wpList _ _ _ (Oper.mk none (.store _ (.tmp 88) _) _ _ _ _ :: _) _ _); refine wp_st1 rfl _ _ _ rfl q3 4 (.int .i64 0) rfl rfl size_int43 rfl rfl HT5.out.b3 (by simp [MacA.lst]) rfl ?_; intro WS5 hs5 hh5; have HT6 := Lib.hid (HT5.out.thr HNE.out HAP.out hs5 hh5)))
  obtain ⟨hx1, hx2, hx3, ht1, ht2, ht3, hi1, hi2, hi3, hbe⟩ := HT6.out
  rw [HS1.out] at hx1
  rw [HS2.out] at hx2
  rw [HS3.out] at hx3
  have HX1 := Lib.hid hx1
  have HX2 := Lib.hid hx2
  have HX3 := Lib.hid hx3
  have HV1 := Lib.hid ht1
  have HV2 := Lib.hid ht2
  have HV3 := Lib.hid ht3
  have HI1 := Lib.hid hi1
  have HI2 := Lib.hid hi2
  have HI3 := Lib.hid hi3
  have HBE := Lib.hid hbe
  have CS1 : Hid (∀ w1 A B c d, Ints w1 A OL → Ints w1 B OL → Calls Tryd.prog 19 #[.slice A xn c, .slice B xn d] w1 fun e w' => e = .returned (.bool true) ∧ Below w1.heap.size w1 w') := Lib.hid fun w1 A B c d h1 h2 => rf_SameN A B OL OL c d xn xn w1 HOLN.out HOLN.out (by omega) rfl h1 h2
  clear hx1 hx2 hx3 ht1 ht2 ht3 hi1 hi2 hi3 hbe HT0 HT1 HT2 HT3 HT4 HT5 HT6 HS1 HS2 HS3 HNE HAP hs0 hs1 hs2 hs3 hs4 hs5 hh0 hh1 hh2 hh3 hh4 hh5
  go_wp2_with (first
    | (go_at_call 44; (with_reducible refine (CK.out _ HBE.out).mono ?_); rintro e20 w20 ⟨rfl, hb20⟩)
    | (go_at_call 19; first
      | ((with_reducible refine (CS1.out _ _ _ _ _ (HI1.out.grow hb20) (HI2.out.grow hb20)).mono ?_); rintro e21 w21 ⟨rfl, hb21⟩; have hb2021 := below_then hb20 hb21)
      | ((with_reducible refine (CS1.out _ _ _ _ _ (HI1.out.grow hb2021) (HI3.out.grow hb2021)).mono ?_); rintro e22 w22 ⟨rfl, hb22⟩; have hb2022 := below_then hb2021 hb22))
    | ((with_reducible show wpList _ _ _ (Oper.mk (some 131) (.load 46 _) _ _ _ _ :: _) _ _); refine ld_macW (HX1.out.keep hb2022) (mlst_one y1).1 rfl _ rfl rfl ?_)
    | ((with_reducible show wpList _ _ _ (Oper.mk (some 132) (.load 46 _) _ _ _ _ :: _) _ _); refine ld_macW (HX2.out.keep hb2022) (mlst_one y2).1 rfl _ rfl rfl ?_)
    | ((with_reducible show wpList _ _ _ (Oper.mk (some 136) (.load 46 _) _ _ _ _ :: _) _ _); refine ld_macW (HX1.out.keep hb2023) (mlst_one y1).1 rfl _ rfl rfl ?_)
    | ((with_reducible show wpList _ _ _ (Oper.mk (some 137) (.load 46 _) _ _ _ _ :: _) _ _); refine ld_macW (HX3.out.keep hb2023) (mlst_one y3).1 rfl _ rfl rfl ?_)
    | (go_at_call 27; first
      | ((with_reducible refine (CSm.out _ _ _ (HV1.out.grow hb2022) (HV2.out.grow hb2022) HYM1.out HYM2.out).mono ?_); rintro e23 w23 ⟨rfl, hb23⟩; have hb2023 := below_then hb2022 hb23)
      | ((with_reducible refine (CSm.out _ _ _ (HV1.out.grow hb2023) (HV3.out.grow hb2023) HYM1.out HYM3.out).mono ?_); rintro e24 w24 ⟨rfl, hb24⟩; have hb2024 := below_then hb2023 hb24)))
  go_ret
  exact ⟨rfl, below_then HBE.out hb2024⟩
end Go.Proofs.YtgdccmmcjicgkaaDoor
