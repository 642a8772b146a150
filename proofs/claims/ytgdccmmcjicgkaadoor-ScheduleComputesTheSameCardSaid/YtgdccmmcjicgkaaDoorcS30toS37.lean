/- Several texts in one: S30 S31 S32 S42 S37. -/
import Derived.Test.YtgdccmmcjicgkaaDoorcS27
import Derived.Test.YtgdccmmcjicgkaaDoorcS25
import Derived.Test.YtgdccmmcjicgkaaDoorcJ
import Derived.Test.YtgdccmmcjicgkaaDoorcG3toU3
import Derived.Test.YtgdccmmcjicgkaaDoorcE1toI0
import Derived.Test.YtgdccmmcjicgkaaDoorcS11toS14
import Derived.Test.YtgdccmmcjicgkaaDoorcE19toOn
import Derived.Test.YtgdccmmcjicgkaaDoorcOdtoS26
import Derived.Test.YtgdccmmcjicgkaaDoorcI1toE12
import Derived.Test.YtgdccmmcjicgkaaDoorcAtoG2
import Derived.Test.YtgdccmmcjicgkaaDoorcS20
import Derived.Test.YtgdccmmcjicgkaaDoorcJ8
set_option linter.unusedVariables false
set_option linter.unusedSimpArgs false
section
namespace Go.Proofs.YtgdccmmcjicgkaaDoor
open Go.RowKit
def RetRunR (w : World) (d : PrgD) (m : Mac) (xs : List Int) (e : Ending) (w' : World) : Prop := ∃ (A : Option Addr) (c : Nat) (z : MacA), z.m = runM d m xs ∧ e = .returned (.tuple #[.slice A (runO d m xs).length c, z.v, .int .i64 (runV d m xs), .int .i64 0]) ∧ Own w.heap.size w' (.slice A (runO d m xs).length c) (runO d m xs) ∧ MacAt w' z ∧ MacF w.heap.size w' z ∧ Below w.heap.size w w'
theorem RetRunS.toR {w : World} {d : PrgD} {m : Mac} {xs : List Int} {e : Ending} {w' : World} (h : RetRunS w d m xs e w') : RetRunR w d m xs e w' := by
  obtain ⟨vo, vg, vm, vh, e1, ho, hm, hb⟩ := h
  obtain ⟨A, c, rfl, -⟩ := own_form ho.1
  obtain ⟨A1, c1, rfl, -⟩ := own_form hm.regs.1
  obtain ⟨A2, c2, rfl, -⟩ := own_form hm.mem.1
  obtain ⟨A3, c3, rfl, -⟩ := own_form hm.heads.1
  exact ⟨A, c, ⟨runM d m xs, A1, A2, A3, c1, c2, c3⟩, rfl, e1, ho, ⟨hm.regs.ints, hm.mem.ints, hm.heads.ints⟩, ⟨fun _ => own_ty hm.regs, fun _ => own_ty hm.mem, fun _ => own_ty hm.heads⟩, hb⟩
theorem sm_RunR (u : PrgA) (x : MacA) (XA : Option Addr) (xn xc : Nat) (xs : List Int) (w : World) (hf : FormsAt w) (hp : PrgAt w u) (hx : MacAt w x) (hi : Ints w XA xs) (hm : macB u.d x.m = true) (hw : wordD u.d xs = true) (hn : xs.length = xn) (h4 : xn ≤ 4096) :
    Calls Tryd.prog 24 #[u.v, x.v, .slice XA xn xc] w (RetRunR w u.d x.m xs) := (sm_Run u x XA xn xc xs w hf hp hx hi hm hw hn h4).mono fun _ _ h => h.toR
end Go.Proofs.YtgdccmmcjicgkaaDoor
end
section
namespace Go.Proofs.YtgdccmmcjicgkaaDoor
open Go.RowKit
set_option maxRecDepth 100000 in
set_option maxHeartbeats 4000000 in
theorem r39_Same (x y : MacA) (w : World) (hx : MacAt w x) (hy : MacAt w y) (he : x.m = y.m) (h1 : x.m.regs.length ≤ 1000) (h2 : x.m.mem.length ≤ 1000) (h3 : x.m.heads.length ≤ 1000) : Calls Tryd.prog 27 #[.agg x.lst.toArray, .agg y.lst.toArray] w fun e w' => e = .returned (.bool true) ∧ Below w.heap.size w w' := by
  obtain ⟨⟨rs, ms, hs, cy, st⟩, GA, MA, HA, gc, mc, hc⟩ := x
  obtain ⟨m, GB, MB, HB, gd, md, hd⟩ := y
  simp only at he h1 h2 h3
  subst he
  obtain ⟨ga, ma, ha⟩ := hx
  obtain ⟨gb, mb, hb⟩ := hy
  simp only at ga ma ha gb mb hb
  obtain ⟨gn, hgn⟩ : ∃ n, rs.length = n := ⟨_, rfl⟩
  obtain ⟨mn, hmn⟩ : ∃ n, ms.length = n := ⟨_, rfl⟩
  obtain ⟨hn, hhn⟩ : ∃ n, hs.length = n := ⟨_, rfl⟩
  have e1 : MacA.lst ⟨⟨rs, ms, hs, cy, st⟩, GA, MA, HA, gc, mc, hc⟩ = [.slice GA gn gc, .slice MA mn mc, .slice HA hn hc, .int .i64 cy, .int .i64 st] := by
    unfold MacA.lst
    simp only [hgn, hmn, hhn]
  have e2 : MacA.lst ⟨⟨rs, ms, hs, cy, st⟩, GB, MB, HB, gd, md, hd⟩ = [.slice GB gn gd, .slice MB mn md, .slice HB hn hd, .int .i64 cy, .int .i64 st] := by
    unfold MacA.lst
    simp only [hgn, hmn, hhn]
  rw [e1, e2]
  clear e1 e2
  have C1 : Hid (∀ w1, Below w.heap.size w w1 → Calls Tryd.prog 19 #[.slice GA gn gc, .slice GB gn gd] w1 fun e w' => e = .returned (.bool true) ∧ Below w1.heap.size w1 w') := Lib.hid fun w1 h => rf_SameN GA GB rs rs gc gd gn gn w1 hgn hgn (by omega) rfl (ga.grow h) (gb.grow h)
  have C2 : Hid (∀ w1, Below w.heap.size w w1 → Calls Tryd.prog 19 #[.slice MA mn mc, .slice MB mn md] w1 fun e w' => e = .returned (.bool true) ∧ Below w1.heap.size w1 w') := Lib.hid fun w1 h => rf_SameN MA MB ms ms mc md mn mn w1 hmn hmn (by omega) rfl (ma.grow h) (mb.grow h)
  have C3 : Hid (∀ w1, Below w.heap.size w w1 → Calls Tryd.prog 19 #[.slice HA hn hc, .slice HB hn hd] w1 fun e w' => e = .returned (.bool true) ∧ Below w1.heap.size w1 w') := Lib.hid fun w1 h => rf_SameN HA HB hs hs hc hd hn hn w1 hhn hhn (by omega) rfl (ha.grow h) (hb.grow h)
  clear ga ma ha gb mb hb hgn hmn hhn h1 h2 h3
  have d1 : decide (cy = cy) = true := decide_eq_true rfl
  have d2 : decide (st = st) = true := decide_eq_true rfl
  have d3 : (cy == cy) = true := by simp
  have d4 : (st == st) = true := by simp
  go_enter Tryd.func27, Tryd.ntmps27
  go_upto_region 1 with fail
  obtain ⟨bp, br, hb0⟩ := entryMM w [.slice GA gn gc, .slice MA mn mc, .slice HA hn hc, .int .i64 cy, .int .i64 st] [.slice GB gn gd, .slice MB mn md, .slice HB hn hd, .int .i64 cy, .int .i64 st] _ rfl
  change Code.wp _ _ _ _ ((w.alloc (.cells [.slice GA gn gc, .slice MA mn mc, .slice HA hn hc, .int .i64 cy, .int .i64 st].toArray 46)).alloc (.cells [.slice GB gn gd, .slice MB mn md, .slice HB hn hd, .int .i64 cy, .int .i64 st].toArray 46))
  generalize ((w.alloc (.cells [.slice GA gn gc, .slice MA mn mc, .slice HA hn hc, .int .i64 cy, .int .i64 st].toArray 46)).alloc (.cells [.slice GB gn gd, .slice MB mn md, .slice HB hn hd, .int .i64 cy, .int .i64 st].toArray 46)) = W0 at bp br hb0 ⊢
  have HB0 := Lib.hid hb0
  have HX := Lib.hid bp
  have HY := Lib.hid br
  obtain ⟨y0, y1, y2, y3, y4⟩ := bp.c5
  obtain ⟨z0, z1, z2, z3, z4⟩ := br.c5
  clear hb0 bp br
  go_wp2_with (go_at_call 19; (first
    | ((with_reducible refine (C1.out _ HB0.out).mono ?_); rintro e1 w1 ⟨rfl, hb1⟩; have hbb1 := below_then HB0.out hb1; obtain ⟨y0, y1, y2, y3, y4⟩ := (HX.out.keep hb1).c5; obtain ⟨z0, z1, z2, z3, z4⟩ := (HY.out.keep hb1).c5)
    | ((with_reducible refine (C2.out _ hbb1).mono ?_); rintro e1 w2 ⟨rfl, hb2⟩; have hbb2 := below_then hbb1 hb2; have hb12 := below_then hb1 hb2; obtain ⟨y0, y1, y2, y3, y4⟩ := (HX.out.keep hb12).c5; obtain ⟨z0, z1, z2, z3, z4⟩ := (HY.out.keep hb12).c5)
    | ((with_reducible refine (C3.out _ hbb2).mono ?_); rintro e1 w3 ⟨rfl, hb3⟩; have hb13 := below_then hb12 hb3; obtain ⟨y0, y1, y2, y3, y4⟩ := (HX.out.keep hb13).c5; obtain ⟨z0, z1, z2, z3, z4⟩ := (HY.out.keep hb13).c5)))
  go_ret
  exact ⟨rfl, below_then hbb2 hb3⟩
end Go.Proofs.YtgdccmmcjicgkaaDoor
end
section
namespace Go.Proofs.YtgdccmmcjicgkaaDoor
open Go.RowKit
def smF (b gp : Nat) (L : List Value) (LV XV : Value) (m : Mac) (W : List Int) (wv : Value) (xn : Nat) : Nat → Value → World → Prop
  | 0, v, _ => v = .agg L.toArray
  | 1, v, _ => v = LV
  | 2, v, w => ∃ x : MacA, x.m = m ∧ v = .agg x.lst.toArray ∧ MacAt w x ∧ MacF b w x
  | 3, v, _ => v = .pointer (some ⟨gp, 0, none⟩)
  | 4, v, _ => v = wv
  | 5, v, _ | 6, v, _ => v = XV
  | 7, v, _ => v = .int .i64 (xn : Int)
  | 8, v, w => ∃ A c, v = .slice A xn c ∧ Own b w (.slice A xn c) W
  | 9, v, w => ∃ q, v = .pointer (some ⟨q, 0, none⟩) ∧ Box w q zeros5 ∧ TyAt w q 46 ∧ b ≤ q
  | _, _, _ => True
theorem smF_keep {b gp : Nat} {L : List Value} {LV XV : Value} {m : Mac} {W : List Int} {wv : Value} {xn : Nat} {w w' : World} (h : Below w.heap.size w w') : ∀ i v, smF b gp L LV XV m W wv xn i v w → smF b gp L LV XV m W wv xn i v w'
  | 0, _, e | 1, _, e | 3, _, e | 4, _, e | 5, _, e | 6, _, e | 7, _, e => e
  | 2, _, ⟨x, e1, e2, h1, h2⟩ => ⟨x, e1, e2, h1.grow h, h2.grow h⟩
  | 8, _, ⟨A, c, e, h1⟩ => ⟨A, c, e, h1.grow h⟩
  | 9, _, ⟨q, e, b, t, g⟩ => ⟨q, e, b.keep h, t.grow b.1 h, g⟩
  | n + 10, _, e => e
theorem mlst_one (z : MacA) : z.lst.length = 5 ∧ z.lst.all (·.oneCell') = true := ⟨rfl, rfl⟩
theorem ld_macW {ops : Array Oper} {rest : List Oper} {o : Oper} {a : Act} {Q : Exit → Act → World → Prop} {w : World} {g : Nat} {L : List Value} (hb : Box w g L) (hL : L.length = 5) (hw : Region.wanted o (yielded ops a.tmps) = true) (x : Operand) (ho : o.op = .load 46 x) (hx : a.eval x = .pointer (some ⟨g, 0, none⟩)) (h : wpList Tryd.prog ops Q rest (a.put o.dst (.agg L.toArray)) w) : wpList Tryd.prog ops Q (o :: rest) a w := by
  obtain ⟨d, h1, h2⟩ := row_mac
  exact BigFrame.wpList_want hw fun K hK => wp_load_mid _ x ho g 0 hx L d (Box.range hb (fun j v hj => by rw [Nat.zero_add]; exact hj)) h1 h2 (by rw [hL]; exact size_mac) (hK _ _ h)
end Go.Proofs.YtgdccmmcjicgkaaDoor
end
section
namespace Go.Proofs.YtgdccmmcjicgkaaDoor
open Go.RowKit
def MEq (m n : Mac) : Prop := m.regs = n.regs ∧ m.mem = n.mem ∧ m.heads = n.heads
theorem samp_tr {d : PrgD} {c : List Ins} {x : Int} {m n : Mac} (hv : validB d = true) (h : Tr d.code c) (hs : ∀ i ∈ d.code, suitB d i = true) (he : MEq m n) : sampF d x m d.code = sampF { d with code := c } x n c := by
  unfold sampF
  rw [show smp0 m = smp0 n by unfold smp0; rw [he.1, he.2.1, he.2.2], tr_fold hv _ _ _ h hs]
  rfl
theorem run_tr {d : PrgD} {c : List Ins} (hv : validB d = true) (h : Tr d.code c) (hs : ∀ i ∈ d.code, suitB d i = true) : ∀ (xs : List Int) (m n : Mac), MEq m n →
    runO d m xs = runO { d with code := c } n xs ∧ runV d m xs = runV { d with code := c } n xs ∧ MEq (runM d m xs) (runM { d with code := c } n xs)
  | [], m, n, he => ⟨rfl, rfl, he⟩
  | x :: xs, m, n, he => by
    have hx := samp_tr (x := x) hv h hs he
    have hn : MEq (macN d x m) (macN { d with code := c } x n) := by
      unfold macN
      show MEq ⟨(sampF d x m d.code).regs, (sampF d x m d.code).mem, (sampF d x m d.code).heads, _, _⟩ ⟨(sampF { d with code := c } x n c).regs, (sampF { d with code := c } x n c).mem, (sampF { d with code := c } x n c).heads, _, _⟩
      rw [hx]
      exact ⟨rfl, rfl, rfl⟩
    obtain ⟨h1, h2, h3⟩ := run_tr hv h hs xs _ _ hn
    refine ⟨?_, ?_, h3⟩
    · show (sampF d x m d.code).out :: _ = (sampF { d with code := c } x n c).out :: _
      rw [hx, h1]
    · show ovN d x m + _ = ovN { d with code := c } x n + _
      rw [h2]
      unfold ovN
      show (if (sampF d x m d.code).ov = true then 1 else 0) + _ = (if (sampF { d with code := c } x n c).ov = true then 1 else 0) + _
      rw [hx]
theorem Tr.last {l c : List Ins} {e : Ins} (h : Tr (l ++ [e]) c) (he : e.op = 0) : ∃ c', c = c' ++ [e] ∧ l.Perm c' := by
  have hp := h.perm
  have hlen := hp.length_eq
  rw [List.length_append] at hlen
  obtain ⟨c', a, rfl⟩ : ∃ c' a, c = c' ++ [a] := by
    rcases List.eq_nil_or_concat c with h0 | ⟨c', a, h0⟩
    · rw [h0] at hlen; simp at hlen
    · exact ⟨c', a, by rw [h0, List.concat_eq_append]⟩
  have hd : depF a e = true ∨ a = e := .inl (by rw [depF_comm]; unfold depF; rw [he]; rfl)
  have hf := h a e hd
  rw [List.filter_append, List.filter_append, List.filter_cons_of_pos (by simp [qF]), List.filter_cons_of_pos (by simp [qF])] at hf
  have hg := congrArg List.getLast? hf
  simp only [List.filter_nil, List.getLast?_append, List.getLast?_singleton] at hg
  have : e = a := by simpa using hg
  subst this
  exact ⟨c', rfl, (List.perm_append_right_iff [e]).1 hp⟩
theorem tr_valid {d : PrgD} {c : List Ins} (hv : validB d = true) (h : Tr d.code c) : validB { d with code := c } = true := by
  obtain ⟨h1, h2, h3, h4⟩ := valid_parts hv
  obtain ⟨l, e, hl⟩ : ∃ l e, d.code = l ++ [e] := by
    rcases List.eq_nil_or_concat d.code with h0 | ⟨c', a, h0⟩
    · rw [h0] at h3; simp at h3
    · exact ⟨c', a, by rw [h0, List.concat_eq_append]⟩
  have hs := suit_mem hv
  have hlast : ∀ k i, d.code[k]? = some i → (i.op = 0 ↔ k + 1 = d.code.length) := fun k i hi => by
    have hg := h4 k (List.getElem?_eq_some_iff.1 hi).1
    unfold goodAt at hg
    rw [List.getD_eq_getElem?_getD, hi] at hg
    simp only [Option.getD_some, Bool.and_eq_true, beq_iff_eq, decide_eq_decide] at hg
    exact hg.2
  have he : e.op = 0 := (hlast l.length e (by rw [hl]; simp)).2 (by rw [hl]; simp)
  have hn : ∀ i ∈ l, i.op ≠ 0 := fun i hi h0 => by
    obtain ⟨k, hk⟩ := List.mem_iff_getElem?.1 hi
    have hkl := (List.getElem?_eq_some_iff.1 hk).1
    have := (hlast k i (by rw [hl, List.getElem?_append_left hkl]; exact hk)).1 h0
    rw [hl, List.length_append] at this
    simp at this
    omega
  rw [hl] at h
  obtain ⟨c', rfl, hp⟩ := h.last he
  have hcl : (c' ++ [e]).length = d.code.length := by rw [hl, List.length_append, List.length_append, hp.length_eq]
  unfold validB
  have e1 : okWD { d with code := c' ++ [e] } = true := h1
  have e2 : ringsB (PrgD.rg { d with code := c' ++ [e] }) = true := h2
  rw [e1, e2]
  show (true && (true && (inB ((c' ++ [e]).length : Nat) 1 512 && (List.range (c' ++ [e]).length).all (goodAt { d with code := c' ++ [e] })))) = true
  rw [hcl, inB_iff.2 (by omega), Bool.true_and, Bool.true_and, Bool.true_and]
  refine List.all_eq_true.2 fun j hj => ?_
  have hj := List.mem_range.1 hj
  show (suitB d ((c' ++ [e]).getD j Ins.zero) && (decide (((c' ++ [e]).getD j Ins.zero).op = 0) == decide (j + 1 = (c' ++ [e]).length))) = true
  rw [hcl]
  have hdl : d.code.length = c'.length + 1 := by rw [← hcl]; simp
  by_cases hjc : j < c'.length
  · have eg : (c' ++ [e]).getD j Ins.zero = c'[j] := by rw [List.getD_eq_getElem?_getD, List.getElem?_append_left hjc, List.getElem?_eq_getElem hjc]; rfl
    have hm : c'[j] ∈ l := hp.mem_iff.2 (List.getElem_mem hjc)
    rw [eg, hs _ (by rw [hl]; exact List.mem_append_left _ hm), decide_eq_false (hn _ hm), decide_eq_false (by omega)]
    rfl
  · obtain rfl : j = c'.length := by omega
    have eg : (c' ++ [e]).getD c'.length Ins.zero = e := by rw [List.getD_eq_getElem?_getD, List.getElem?_append_right (Nat.le_refl _), Nat.sub_self]; rfl
    rw [eg, hs _ (by rw [hl]; simp), decide_eq_true he, decide_eq_true (by omega)]
    rfl
end Go.Proofs.YtgdccmmcjicgkaaDoor
end
section
namespace Go.Proofs.YtgdccmmcjicgkaaDoor
open Go.RowKit
def Sep (x : MacA) (q : Nat) : Prop := (x.m.regs ≠ [] → ∀ a, x.GA = some a → a.block ≠ q) ∧ (x.m.mem ≠ [] → ∀ a, x.MA = some a → a.block ≠ q) ∧ (x.m.heads ≠ [] → ∀ a, x.HA = some a → a.block ≠ q)
theorem Sep.kept {q : Nat} {w w' : World} {x : MacA} (h : Sep x q) (ha : MacAt w x) (hg : w.grownBy w' (some q)) : MacAt w' x :=
  ⟨ha.1.kept hg fun n a e p => by injection p with p; exact h.1 n a e p, ha.2.1.kept hg fun n a e p => by injection p with p; exact h.2.1 n a e p, ha.2.2.kept hg fun n a e p => by injection p with p; exact h.2.2 n a e p⟩
end Go.Proofs.YtgdccmmcjicgkaaDoor
end
