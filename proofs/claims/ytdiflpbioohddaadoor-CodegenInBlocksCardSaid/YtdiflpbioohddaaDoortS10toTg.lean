/- Several texts in one: S10 S11 Tg. -/
import Derived.Test.YtdiflpbioohddaaDoortU5toS3
import Derived.Test.YtdiflpbioohddaaDoortE19toOn
import Derived.Test.YtdiflpbioohddaaDoortS5toS9
import Derived.Test.YtdiflpbioohddaaDoortU2toCr
import Derived.Test.YtdiflpbioohddaaDoortJ
import Derived.Laws.CopyOwn
set_option linter.unusedVariables false
set_option linter.unusedSimpArgs false
section
namespace Go.Proofs.YtdiflpbioohddaaDoor
open Go.RowKit
def RetRg (w : World) (l : List (Int × Int)) (e : Ending) (w' : World) : Prop := ∃ v, e = .returned v ∧ OwnRg w.heap.size w' v l ∧ Below w.heap.size w w'
def RetIR (w : World) (l : List Ins) (e : Ending) (w' : World) : Prop := ∃ v, e = .returned v ∧ OwnIR w.heap.size w' v l ∧ Below w.heap.size w w'
theorem rings_none {w : World} {l : List (Int × Int)} (h : RingsAt w none l) : l = [] := by
 cases l with
 | nil => rfl
 | cons x l => obtain ⟨ad, e, -⟩ := h 0 x rfl; cases e
theorem ins_none {w : World} {l : List Ins} (h : InsAt w none l) : l = [] := by
 cases l with
 | nil => rfl
 | cons x l => obtain ⟨ad, e, -⟩ := h 0 x rfl; cases e
theorem emp_rg {w : World} : OwnRg w.heap.size (w.alloc (.cells #[] 96)) (.slice (some ⟨w.heap.size, 0, none⟩) 0 0) [] :=
 ⟨⟨rfl, .inr ⟨w.heap.size, 0, #[], rfl, Nat.le_refl _, heap_alloc_new w _, Nat.le_refl _, by simp, by simp, by simp⟩⟩, by simp⟩
theorem OwnRg.below {base : Nat} {w w' : World} {v : Value} {l : List (Int × Int)} (h : OwnRg base w v l) (hb : w.grownBy w' v.ownBlock) (hs : base ≤ w.heap.size) : Below base w w' := own_below (Below.refl _ _) hs h.ge hb
theorem sl_CloneR (A : Option Addr) (n c : Nat) (l : List (Int × Int)) (w : World) (h : RingsAt w A l) (hn : l.length = n) (h9 : n ≤ 1000000) : Calls Tryd.prog 58 #[.slice A n c] w (RetRg w l) := by
 have q22 : ∀ (w : World) (a : Option Addr) (n c n' c' : Nat), (binOp .eql 38 (.slice a n c) (.slice none n' c')).run Tryd.prog w = .ok (.bool a.isNone) w := fun w a n c n' c' => Lib.run_eql_slice_nil w _ _ a n c n' c' Tryd.underlying38
 cases A with
 | none =>
  have hl := rings_none h
  subst hl
  go_enter Tryd.func58, Tryd.ntmps58
  go_wp2_with fail
  go_ret
  exact ⟨_, rfl, OwnRg.nil, Below.refl _ _⟩
 | some ad =>
  have he : OwnRg w.heap.size (w.alloc (.cells #[] 96)) (.slice (some ⟨w.heap.size, 0, none⟩) 0 0) [] := emp_rg
  have hb := (Below.refl w.heap.size w).alloc (Nat.le_refl _) (.cells #[] 96)
  have hi := h.grow hb
  have hs : w.heap.size ≤ (w.alloc (.cells #[] 96)).heap.size := hb.size
  have HB := Lib.hid hb
  have hnx : ([] : List (Int × Int)).length + n ≤ 100000000 := by show 0 + n ≤ _; omega
  have HE := Lib.hid he
  have HI := Lib.hid hi
  have HN := Lib.hid hn
  clear hb h he hi hn
  go_enter Tryd.func58, Tryd.ntmps58
  go_wp2_with (at_builtin; refine app_ring _ rfl _ _ rfl w.heap.size (m := l) rfl rfl HE.out HI.out HN.out hnx hs ?_; intro v1 w1 ho1 hb1)
  go_ret
  exact ⟨_, rfl, by rw [List.nil_append] at ho1; exact ho1, HB.out.trans (HE.out.below hb1 HB.out.size)⟩
theorem sl_CloneIns (A : Option Addr) (n c : Nat) (l : List Ins) (w : World) (h : InsAt w A l) (hn : l.length = n) (h9 : n ≤ 1000000) : Calls Tryd.prog 57 #[.slice A n c] w (RetIR w l) := by
 have q22 : ∀ (w : World) (a : Option Addr) (n c n' c' : Nat), (binOp .eql 39 (.slice a n c) (.slice none n' c')).run Tryd.prog w = .ok (.bool a.isNone) w := fun w a n c n' c' => Lib.run_eql_slice_nil w _ _ a n c n' c' Tryd.underlying39
 cases A with
 | none =>
  have hl := ins_none h
  subst hl
  go_enter Tryd.func57, Tryd.ntmps57
  go_wp2_with fail
  go_ret
  exact ⟨_, rfl, OwnIR.nil, Below.refl _ _⟩
 | some ad =>
  have hb := (Below.refl w.heap.size w).alloc (Nat.le_refl _) (.cells #[] 109)
  have HI := Lib.hid (h.grow hb)
  have hs : w.heap.size ≤ (w.alloc (.cells #[] 109)).heap.size := hb.size
  have HB := Lib.hid hb
  have hnx : ([] : List Ins).length + n ≤ 100000000 := by show 0 + n ≤ _; omega
  have HN := Lib.hid hn
  clear hb h hn
  go_enter Tryd.func57, Tryd.ntmps57
  go_wp2_with (at_builtin; refine app_ins _ rfl _ _ rfl w.heap.size (m := l) rfl rfl emp_ins HI.out HN.out hnx hs ?_; intro v1 w1 ho1 hb1)
  go_ret
  exact ⟨_, rfl, by rw [List.nil_append] at ho1; exact ho1, HB.out.trans hb1⟩
end Go.Proofs.YtdiflpbioohddaaDoor
end
section
namespace Go.Proofs.YtdiflpbioohddaaDoor
open Go.RowKit
def bestC (l : List Ins) : List Ins := if cycF l ≤ cycF (grF l) then l else grF l
def schD (d : PrgD) : PrgD := { d with code := bestC d.code }
def RetPrgE (w : World) (d : PrgD) (E : Int) (e : Ending) (w' : World) : Prop := ∃ u : PrgA, u.d = d ∧ e = .returned (.tuple #[u.v, .int .i64 E]) ∧ PrgAt w' u ∧ Below w.heap.size w w'
theorem valid_fine {d : PrgD} (h : validB d = true) : fineF d.code = true := by
 obtain ⟨-, -, h3, -⟩ := valid_parts h
 unfold fineF
 rw [inB_iff.2 (by omega), Bool.true_and]
 refine List.all_eq_true.2 fun i hi => ?_
 obtain ⟨k, hk, rfl⟩ := List.getElem_of_mem hi
 have hg := (valid_parts h).2.2.2 k hk
 unfold goodAt suitB at hg
 rw [Bool.and_eq_true, Bool.and_eq_true, List.getD_eq_getElem?_getD, List.getElem?_eq_getElem hk] at hg
 exact hg.1.1
theorem valid_rl {d : PrgD} (h : validB d = true) : d.rg.length ≤ 8 ∧ ∀ x ∈ d.rg, ringIn x = true := by
 obtain ⟨-, h2, -, -⟩ := valid_parts h
 unfold ringsB at h2
 rw [Bool.and_eq_true, decide_eq_true_eq] at h2
 refine ⟨h2.1, ?_⟩
 have := ringsK_all h2.2 (Nat.le_refl _)
 rw [List.take_length] at this
 exact this
theorem entryPP (w : World) (L M : List Value) : ∀ W, W = ((w.alloc (.cells L.toArray 41)).alloc (.cells M.toArray 41)) → Box W w.heap.size L ∧ Box W (w.heap.size + 1) M ∧ Below w.heap.size w W := fun W hW => by
 subst hW
 have h1 : Box (w.alloc (.cells L.toArray 41)) w.heap.size L := Box.new rfl
 have h2 : Box ((w.alloc (.cells L.toArray 41)).alloc (.cells M.toArray 41)) (w.heap.size + 1) M := Box.new (by simp)
 exact ⟨h1.alloc _, h2, ((Below.refl w.heap.size w).alloc (Nat.le_refl _) _).alloc (by simp) _⟩
theorem st_prgB {ops : Array Oper} {rest : List Oper} {o : Oper} {a : Act} {Q : Exit → Act → World → Prop} {w : World} {L M : List Value} {g : Nat} (hb : Box w g M) (hM : M.length = 10) (hL : L.length = 10) (h1 : L.all (·.oneCell') = true) (hgd : o.guard = none) (x y : Operand) (ho : o.op = .store 41 x y) (hx : a.eval x = .pointer (some ⟨g, 0, none⟩)) (hy : a.eval y = .agg L.toArray)
  (h : ∀ W1, Box W1 g L → w.grownBy W1 (some g) → wpList Tryd.prog ops Q rest (a.put o.dst undef) W1) : wpList Tryd.prog ops Q (o :: rest) a w :=
 wp_st hgd _ x y ho g 0 L hx hy (by rw [hL]; exact size_prg) h1 hb (by rw [hM, hL]; exact Nat.le_refl _) (by rw [List.take_zero, List.nil_append, List.drop_eq_nil_of_le (by rw [hM, hL]; exact Nat.le_refl _), List.append_nil]) h
set_option maxRecDepth 100000 in
set_option maxHeartbeats 8000000 in
theorem sc_Schedule (u : PrgA) (w : World) (hf : FormsAt w) (hp : PrgAt w u) (hv : validB u.d = true) : Calls Tryd.prog 22 #[u.v] w (RetPrgE w (schD u.d) 0) := by
 have hfine := valid_fine hv
 have hpos := (valid_parts hv).2.2.1
 have hrl := (valid_rl hv).1
 have CV : Hid (∀ w1, Below w.heap.size w w1 → Calls Tryd.prog 39 #[u.v] w1 fun e w' => e = .returned (.bool true) ∧ Below w1.heap.size w1 w') := Lib.hid fun w1 hb => pr_Valid u w1 (hf.grow hb) (hp.grow hb) (by omega) (by omega) hv
 obtain ⟨⟨d0, d1, d2, d3, c0, c1, c2, c3, rg, cl⟩, RA, CA, rc, cc⟩ := u
 obtain ⟨hra, hca⟩ := hp
 simp only at hra hca hfine hpos hrl
 obtain ⟨rn, hrn⟩ : ∃ n, rg.length = n := ⟨_, rfl⟩
 obtain ⟨cn, hcn⟩ : ∃ n, cl.length = n := ⟨_, rfl⟩
 have ev : PrgA.v ⟨⟨d0, d1, d2, d3, c0, c1, c2, c3, rg, cl⟩, RA, CA, rc, cc⟩ = .agg #[.int .i64 d0, .int .i64 d1, .int .i64 d2, .int .i64 d3, .int .i64 c0, .int .i64 c1, .int .i64 c2, .int .i64 c3, .slice RA rn rc, .slice CA cn cc] := by
  unfold PrgA.v PrgA.lst
  simp only [hrn, hcn]
 rw [ev] at CV ⊢
 clear ev hv
 rw [hrn] at hrl
 rw [hcn] at hpos
 have HF := Lib.hid hf
 have HRN := Lib.hid hrn
 have HCN := Lib.hid hcn
 have HRA := Lib.hid hra
 have HCA := Lib.hid hca
 have HFC := Lib.hid hfine
 have eD : depE cl = 0 := by unfold depE; rw [if_pos hfine]
 have eG : grD cl = grF cl := by unfold grD; rw [if_pos hfine]
 have htr := Tr.greedy cl
 have hfg : fineF (grF cl) = true := htr.fine hfine
 have CG : Hid (∀ w1 X xc, Below w.heap.size w w1 → InsAt w1 X cl → Calls Tryd.prog 55 #[.slice X cn xc] w1 fun e w' => ∃ v, e = .returned (.tuple #[v, .int .i64 0]) ∧ OwnIR w1.heap.size w' v (grF cl) ∧ Below w1.heap.size w1 w') := Lib.hid fun w1 X xc hb hx =>
  (sc_Greedy X cn xc cl w1 (HF.out.grow hb) hx HCN.out (by omega)).mono fun e w' hr => by
   obtain ⟨v, h1, h2, h3⟩ := hr
   rw [eD] at h1
   rw [eG] at h2
   exact ⟨v, h1, h2, h3⟩
 have CT : Hid (∀ w1 Y yc ys, fineF ys = true → ys.length = cn → Below w.heap.size w w1 → InsAt w1 Y ys → Calls Tryd.prog 56 #[.slice Y cn yc] w1 fun e w' => e = .returned (.tuple #[.int .i64 (cycF ys), .int .i64 (stlF ys), .int .i64 0]) ∧ Below w1.heap.size w1 w') := Lib.hid fun w1 Y yc ys h1 h2 hb hy => by
  have h := sm_Time Y cn yc ys w1 (HF.out.grow hb) hy h2 (by omega)
  unfold RetTime at h
  have e2 : depE ys = 0 := by unfold depE; rw [if_pos h1]
  rw [e2] at h
  exact h
 obtain ⟨gl, hgl⟩ : ∃ x, grF cl = x := ⟨_, rfl⟩
 have hglen : gl.length = cn := by rw [← hgl, grF_len]; exact hcn
 rw [hgl] at CG hfg
 have HGL := Lib.hid hgl
 have HGN := Lib.hid hglen
 have HFG := Lib.hid hfg
 obtain ⟨tA, htA⟩ : ∃ x, cycF cl = x := ⟨_, rfl⟩
 obtain ⟨tB, htB⟩ : ∃ x, cycF gl = x := ⟨_, rfl⟩
 have HTA := Lib.hid htA
 have HTB := Lib.hid htB
 clear hf hra hca hrn hcn hfine eD eG htr hfg hgl hglen htA htB
 go_enter Tryd.func22, Tryd.ntmps22
 go_upto_region 1 with fail
 obtain ⟨bp, br, hb0⟩ := entryPP w [.int .i64 d0, .int .i64 d1, .int .i64 d2, .int .i64 d3, .int .i64 c0, .int .i64 c1, .int .i64 c2, .int .i64 c3, .slice RA rn rc, .slice CA cn cc] zeros10 _ rfl
 change Code.wp _ _ _ _ ((w.alloc (.cells [.int .i64 d0, .int .i64 d1, .int .i64 d2, .int .i64 d3, .int .i64 c0, .int .i64 c1, .int .i64 c2, .int .i64 c3, .slice RA rn rc, .slice CA cn cc].toArray 41)).alloc (.cells zeros10.toArray 41))
 generalize ((w.alloc (.cells [.int .i64 d0, .int .i64 d1, .int .i64 d2, .int .i64 d3, .int .i64 c0, .int .i64 c1, .int .i64 c2, .int .i64 c3, .slice RA rn rc, .slice CA cn cc].toArray 41)).alloc (.cells zeros10.toArray 41)) = W0 at bp br hb0 ⊢
 have HB0 := Lib.hid hb0
 have HBP0 := Lib.hid bp
 have HBR0 := Lib.hid br
 clear hb0 bp br
 go_upto_region 3 with (first
  | ((with_reducible show wpList _ _ _ (Oper.mk (some 12) (.load _ _) _ _ _ _ :: _) _ _); refine ld_prg HBP0.out rfl rfl _ rfl rfl ?_)
  | (go_at_call 39; (with_reducible refine (CV.out _ HB0.out).mono ?_); rintro e1 w1 ⟨rfl, hb1⟩))
 have HB1 := Lib.hid (below_then HB0.out hb1)
 have HBP1 := Lib.hid (HBP0.out.keep hb1)
 have HBR1 := Lib.hid (HBR0.out.keep hb1)
 have x9 := HBP1.out.c10.2.2.2
 have HX1 := Lib.hid (HCA.out.grow HB1.out)
 clear hb1 HBP0 HBR0 HB0 CV
 go_upto_region 6 with (go_at_call 55; (with_reducible refine (CG.out _ _ _ HB1.out HX1.out).mono ?_); rintro e1 w2 ⟨gv, rfl, hg2, hb2⟩)
 obtain ⟨GA, gc, rfl, -, -⟩ := hg2.form
 rw [HGN.out] at hg2 ⊢
 have HB2 := Lib.hid (below_then HB1.out hb2)
 have HBP2 := Lib.hid (HBP1.out.keep hb2)
 have HBR2 := Lib.hid (HBR1.out.keep hb2)
 have HG2 := Lib.hid (hg2.base HB1.out.size)
 have HG2b : Hid (w.heap.size + 2 ≤ w1.heap.size) := by
  have := HBR1.out.1
  exact Lib.hid (by omega)
 have HG2c := Lib.hid (hg2.base HG2b.out)
 have x9 := HBP2.out.c10.2.2.2
 have HX2 := Lib.hid (HCA.out.grow HB2.out)
 clear hb2 hg2 HBP1 HBR1 HB1 CG HX1
 go_upto_region 7 with (go_at_call 56; (with_reducible refine (CT.out _ _ _ _ HFC.out HCN.out HB2.out HX2.out).mono ?_); rintro e1 w3 ⟨rfl, hb3⟩; rw [HTA.out])
 have HB3 := Lib.hid (below_then HB2.out hb3)
 have HBP3 := Lib.hid (HBP2.out.keep hb3)
 have HBR3 := Lib.hid (HBR2.out.keep hb3)
 have HG3 := Lib.hid (HG2c.out.grow hb3)
 have HGI3 : Hid (InsAt w3 GA gl) := by
  obtain ⟨A4, c4, e4, -, h4⟩ := HG3.out.form
  injection e4 with e41 e42 e43
  rw [e41]; exact Lib.hid h4
 clear hb3 HBP2 HBR2 HB2 HX2 HG2 HG2c x9
 go_upto_region 8 with (go_at_call 56; (with_reducible refine (CT.out _ _ _ _ HFG.out HGN.out HB3.out HGI3.out).mono ?_); rintro e1 w4 ⟨rfl, hb4⟩; rw [HTB.out])
 have HB4 := Lib.hid (below_then HB3.out hb4)
 have HBP4 := Lib.hid (HBP3.out.keep hb4)
 have HBR4 := Lib.hid (HBR3.out.keep hb4)
 have HG4 := Lib.hid (HG3.out.grow hb4)
 have x9 := HBP4.out.c10.2.2.2
 have x8 := HBP4.out.c10.2.2.1
 have HX4 := Lib.hid (HCA.out.grow HB4.out)
 have HR4 := Lib.hid (HRA.out.grow HB4.out)
 clear hb4 HBP3 HBR3 HB3 HGI3 HG3 CT
 by_cases hle : tA ≤ tB
 ·have HBC : Hid (bestC cl = cl) := by
   unfold bestC; rw [if_pos (by rw [HGL.out, HTA.out, HTB.out]; exact hle)]; exact Lib.hid rfl
  go_upto_region 10 with (go_at_call 57; (with_reducible refine (sl_CloneIns _ _ _ _ _ HX4.out HCN.out (by omega)).mono ?_); rintro e1 w5 ⟨kv, rfl, hk5, hb5⟩)
  obtain ⟨KA, kc, rfl, -, -⟩ := hk5.form
  rw [HCN.out] at hk5 ⊢
  have HB5 := Lib.hid (below_then HB4.out hb5)
  have HBP5 := Lib.hid (HBP4.out.keep hb5)
  have HBR5 := Lib.hid (HBR4.out.keep hb5)
  have HK5 := Lib.hid (hk5.base (Nat.le_trans (show w.heap.size + 2 ≤ w4.heap.size by have := HBR4.out.1; omega) (Nat.le_refl _)))
  have x8 := HBP5.out.c10.2.2.1
  have f8 := HBP5.out.2.2 8
  have f9 := HBP5.out.2.2 9
  have HR5 := Lib.hid (HRA.out.grow HB5.out)
  clear hb5 hk5 HBP4 HBR4 HB4 HG4 x9
  go_upto_region 11 with (go_at_call 58; (with_reducible refine (sl_CloneR _ _ _ _ _ HR5.out HRN.out (by omega)).mono ?_); rintro e1 w6 ⟨rv, rfl, hr6, hb6⟩; obtain ⟨QA, qc, rfl, -, -⟩ := hr6.form; rw [HRN.out] at hr6 ⊢; have x8 : w6.cell? ⟨w.heap.size, 8, none⟩ = some (.slice RA rn rc) := (HBP5.out.keep hb6).2.1 8; have f8 : w6.frozen? ⟨w.heap.size, 8, none⟩ = false := (HBP5.out.keep hb6).2.2 8)
  have HGB : Hid (w.heap.size + 2 ≤ w5.heap.size) := by have := HBR5.out.1; exact Lib.hid (by omega)
  have HB6 := Lib.hid (below_then HB5.out hb6)
  have HBP6 := Lib.hid (HBP5.out.keep hb6)
  have HBR6 := Lib.hid (HBR5.out.keep hb6)
  have HK6 := Lib.hid (HK5.out.grow hb6)
  have HQ6 := Lib.hid (hr6.base HGB.out)
  clear hb6 hr6 HBP5 HBR5 HB5 HK5 HR5 HGB
  have HBP7 := Lib.hid (HBP6.out.set (k := 8) (u := .slice QA rn qc) (by show 8 < 10; omega))
  have HBR7 := Lib.hid (HBR6.out.past (b := w.heap.size) (k := 8) (u := .slice QA rn qc) (by omega))
  have HK7 := Lib.hid (HK6.out.store (g := w.heap.size) (k := 8) (u := .slice QA rn qc) (by omega))
  have HQ7 := Lib.hid (HQ6.out.store (g := w.heap.size) (k := 8) (u := .slice QA rn qc) (by omega))
  have HB7 := Lib.hid (below_set (k := 8) (u := .slice QA rn qc) HB6.out (Nat.le_refl _))
  clear HBP6 HBR6 HB6 HK6 HQ6
  generalize w6.setCell ⟨w.heap.size, 8, none⟩ (.slice QA rn qc) = w7 at HBP7 HBR7 HK7 HQ7 HB7 ⊢
  have x9 := HBP7.out.2.1 9
  have f9 := HBP7.out.2.2 9
  go_upto_region 12 with fail
  have HBP8 := Lib.hid (HBP7.out.set (k := 9) (u := .slice KA cn kc) (by show 9 < 10; omega))
  have HBR8 := Lib.hid (HBR7.out.past (b := w.heap.size) (k := 9) (u := .slice KA cn kc) (by omega))
  have HK8 := Lib.hid (HK7.out.store (g := w.heap.size) (k := 9) (u := .slice KA cn kc) (by omega))
  have HQ8 := Lib.hid (HQ7.out.store (g := w.heap.size) (k := 9) (u := .slice KA cn kc) (by omega))
  have HB8 := Lib.hid (below_set (k := 9) (u := .slice KA cn kc) HB7.out (Nat.le_refl _))
  clear HBP7 HBR7 HB7 HK7 HQ7 x9 f9 f8 x8
  generalize w7.setCell ⟨w.heap.size, 9, none⟩ (.slice KA cn kc) = w8 at HBP8 HBR8 HK8 HQ8 HB8 ⊢
  have HBL8 : Hid (Box w8 w.heap.size (prgL d0 d1 d2 d3 c0 c1 c2 c3 (.slice QA rn qc) (.slice KA cn kc))) := HBP8
  go_wp2_with (first
   | ((with_reducible show wpList _ _ _ (Oper.mk (some 51) (.load _ _) _ _ _ _ :: _) _ _); refine ld_prg HBL8.out rfl rfl _ rfl rfl ?_)
   | ((with_reducible show wpList _ _ _ (Oper.mk none (.store 41 _ _) _ _ _ _ :: _) _ _); refine st_prgB HBR8.out rfl (L := prgL d0 d1 d2 d3 c0 c1 c2 c3 (.slice QA rn qc) (.slice KA cn kc)) rfl rfl rfl _ _ rfl rfl rfl ?_; intro w9 hb9 hg9))
  obtain ⟨dsc, hd1, hd2⟩ := row_prg
  refine bodyPost_ret (resCT rfl _ _ w9 (g := w.heap.size + 1) (v := .agg (prgL d0 d1 d2 d3 c0 c1 c2 c3 (.slice QA rn qc) (.slice KA cn kc)).toArray) rfl (res_box _ hb9 dsc hd1 hd2 size_prg)) rfl ?_
  have hO5 : OwnRg (w.heap.size + 2) w9 (.slice QA rn qc) rg := ⟨own_sets HQ8.out.1 hg9 (by omega), HQ8.out.2⟩
  have hX5 : OwnIR (w.heap.size + 2) w9 (.slice KA cn kc) cl := ⟨own_sets HK8.out.1 hg9 (by omega), HK8.out.2⟩
  obtain ⟨gA2, gc2, e2, -, hRA⟩ := hO5.form
  obtain ⟨A4, c4, e4, -, hCA⟩ := hX5.form
  injection e2 with e21 e22 e23
  injection e4 with e41 e42 e43
  rw [← e21] at hRA
  rw [← e41] at hCA
  refine ⟨⟨⟨d0, d1, d2, d3, c0, c1, c2, c3, rg, cl⟩, QA, KA, qc, kc⟩, ?_, ?_, ⟨hRA, hCA⟩, grown_to HB8.out hg9 (by omega)⟩
  ·unfold schD
   simp only
   rw [HBC.out]
  ·unfold PrgA.v PrgA.lst
   simp only
   rw [HRN.out, HCN.out]
   rfl
 ·have HBC : Hid (bestC cl = gl) := by
   unfold bestC; rw [if_neg (by rw [HGL.out, HTA.out, HTB.out]; exact hle)]; exact HGL
  have hgt : tB < tA := by omega
  have HB5 := HB4
  have HBP5 := HBP4
  have HBR5 := HBR4
  have HK5 := HG4
  have HR5 := HR4
  have f8 := HBP5.out.2.2 8
  have f9 := HBP5.out.2.2 9
  go_upto_region 10 with fail
  obtain ⟨KA, hKA⟩ : ∃ x, x = GA := ⟨_, rfl⟩
  obtain ⟨kc, hkc⟩ : ∃ x, x = gc := ⟨_, rfl⟩
  rw [← hKA, ← hkc] at HK5 ⊢
  clear hKA hkc
  go_upto_region 11 with (go_at_call 58; (with_reducible refine (sl_CloneR _ _ _ _ _ HR5.out HRN.out (by omega)).mono ?_); rintro e1 w6 ⟨rv, rfl, hr6, hb6⟩; obtain ⟨QA, qc, rfl, -, -⟩ := hr6.form; rw [HRN.out] at hr6 ⊢; have x8 : w6.cell? ⟨w.heap.size, 8, none⟩ = some (.slice RA rn rc) := (HBP5.out.keep hb6).2.1 8; have f8 : w6.frozen? ⟨w.heap.size, 8, none⟩ = false := (HBP5.out.keep hb6).2.2 8)
  have HGB : Hid (w.heap.size + 2 ≤ w4.heap.size) := by have := HBR5.out.1; exact Lib.hid (by omega)
  have HB6 := Lib.hid (below_then HB5.out hb6)
  have HBP6 := Lib.hid (HBP5.out.keep hb6)
  have HBR6 := Lib.hid (HBR5.out.keep hb6)
  have HK6 := Lib.hid (HK5.out.grow hb6)
  have HQ6 := Lib.hid (hr6.base HGB.out)
  clear hb6 hr6 HBP5 HBR5 HB5 HK5 HR5 HGB
  have HBP7 := Lib.hid (HBP6.out.set (k := 8) (u := .slice QA rn qc) (by show 8 < 10; omega))
  have HBR7 := Lib.hid (HBR6.out.past (b := w.heap.size) (k := 8) (u := .slice QA rn qc) (by omega))
  have HK7 := Lib.hid (HK6.out.store (g := w.heap.size) (k := 8) (u := .slice QA rn qc) (by omega))
  have HQ7 := Lib.hid (HQ6.out.store (g := w.heap.size) (k := 8) (u := .slice QA rn qc) (by omega))
  have HB7 := Lib.hid (below_set (k := 8) (u := .slice QA rn qc) HB6.out (Nat.le_refl _))
  clear HBP6 HBR6 HB6 HK6 HQ6
  generalize w6.setCell ⟨w.heap.size, 8, none⟩ (.slice QA rn qc) = w7 at HBP7 HBR7 HK7 HQ7 HB7 ⊢
  have x9 := HBP7.out.2.1 9
  have f9 := HBP7.out.2.2 9
  go_upto_region 12 with fail
  have HBP8 := Lib.hid (HBP7.out.set (k := 9) (u := .slice KA cn kc) (by show 9 < 10; omega))
  have HBR8 := Lib.hid (HBR7.out.past (b := w.heap.size) (k := 9) (u := .slice KA cn kc) (by omega))
  have HK8 := Lib.hid (HK7.out.store (g := w.heap.size) (k := 9) (u := .slice KA cn kc) (by omega))
  have HQ8 := Lib.hid (HQ7.out.store (g := w.heap.size) (k := 9) (u := .slice KA cn kc) (by omega))
  have HB8 := Lib.hid (below_set (k := 9) (u := .slice KA cn kc) HB7.out (Nat.le_refl _))
  clear HBP7 HBR7 HB7 HK7 HQ7 x9 f9 f8 x8
  generalize w7.setCell ⟨w.heap.size, 9, none⟩ (.slice KA cn kc) = w8 at HBP8 HBR8 HK8 HQ8 HB8 ⊢
  have HBL8 : Hid (Box w8 w.heap.size (prgL d0 d1 d2 d3 c0 c1 c2 c3 (.slice QA rn qc) (.slice KA cn kc))) := HBP8
  go_wp2_with (first
   | ((with_reducible show wpList _ _ _ (Oper.mk (some 51) (.load _ _) _ _ _ _ :: _) _ _); refine ld_prg HBL8.out rfl rfl _ rfl rfl ?_)
   | ((with_reducible show wpList _ _ _ (Oper.mk none (.store 41 _ _) _ _ _ _ :: _) _ _); refine st_prgB HBR8.out rfl (L := prgL d0 d1 d2 d3 c0 c1 c2 c3 (.slice QA rn qc) (.slice KA cn kc)) rfl rfl rfl _ _ rfl rfl rfl ?_; intro w9 hb9 hg9))
  obtain ⟨dsc, hd1, hd2⟩ := row_prg
  refine bodyPost_ret (resCT rfl _ _ w9 (g := w.heap.size + 1) (v := .agg (prgL d0 d1 d2 d3 c0 c1 c2 c3 (.slice QA rn qc) (.slice KA cn kc)).toArray) rfl (res_box _ hb9 dsc hd1 hd2 size_prg)) rfl ?_
  have hO5 : OwnRg (w.heap.size + 2) w9 (.slice QA rn qc) rg := ⟨own_sets HQ8.out.1 hg9 (by omega), HQ8.out.2⟩
  have hX5 : OwnIR (w.heap.size + 2) w9 (.slice KA cn kc) gl := ⟨own_sets HK8.out.1 hg9 (by omega), HK8.out.2⟩
  obtain ⟨gA2, gc2, e2, -, hRA⟩ := hO5.form
  obtain ⟨A4, c4, e4, -, hCA⟩ := hX5.form
  injection e2 with e21 e22 e23
  injection e4 with e41 e42 e43
  rw [← e21] at hRA
  rw [← e41] at hCA
  refine ⟨⟨⟨d0, d1, d2, d3, c0, c1, c2, c3, rg, gl⟩, QA, KA, qc, kc⟩, ?_, ?_, ⟨hRA, hCA⟩, grown_to HB8.out hg9 (by omega)⟩
  ·unfold schD
   simp only
   rw [HBC.out]
  ·unfold PrgA.v PrgA.lst
   simp only
   rw [HRN.out, HGN.out]
   rfl
end Go.Proofs.YtdiflpbioohddaaDoor
end
section
namespace Go.Proofs.YtdiflpbioohddaaDoor
open Go.RowKit
set_option maxRecDepth 100000 in
theorem copy_full {ops : Array Oper} {rest : List Oper} {o : Oper} {a : Act} {Q : Exit → Act → World → Prop} {w : World} (hgd : o.guard = none) (d s : Operand) (ho : o.op = .call { callee := .builtin .copy, args := #[d, s], argTypes := #[25, 25] })
  {base g n c : Nat} {z l : List Int} {A : Option Addr} (hd : a.eval d = .slice (some ⟨g, 0, none⟩) n n) (hs : a.eval s = .slice A n c) (hown : Own base w (.slice (some ⟨g, 0, none⟩) n n) z) (hz : z.length = n) (hI : Ints w A l) (hl : l.length = n)
  (h : ∀ w', Own base w' (.slice (some ⟨g, 0, none⟩) n n) l → w.grownBy w' (some g) → wpList Tryd.prog ops Q rest (a.put o.dst (.int .i64 n)) w') : wpList Tryd.prog ops Q (o :: rest) a w := by
 subst hl
 have hu := Tryd.underlying25
 have hsz : (Tryd.prog.info? 3).map (·.size) = some 1 := by kernel_rfl
 have h0 := hown
 obtain ⟨⟨hlen, hrow⟩, hall⟩ := hown
 rcases hrow with ⟨e, _⟩ | ⟨g', cap, cur, e, hbg, hg, hnc, hcm, hcs, htake⟩
 ·cases e
 ·injection e with e1 e2 e3
  injection e1 with e1
  injection e1 with e1
  subst e1 e3
  cases l with
  | nil =>
   have hz0 : z = [] := List.eq_nil_of_length_eq_zero hz
   subst hz0
   refine wpList_copy_nothing hgd d s _ _ ho 3 hu hsz _ _ _ _ _ _ hd hs (by simp) ?_
   exact h w h0 (grown_refl w _)
  | cons y t =>
   obtain ⟨ad, _, rfl, _⟩ := hI.at_ (k := 0) (by simp)
   refine wpList_copy_own hgd d s _ _ ho 3 hu hsz g 0 _ _ ad _ _ hd hs cur 3 hg ((y :: t).map (Value.int .i64)) (by simp) (fun j v hv => ?_) (by rw [List.length_map]; omega) (fun v hv => ?_) ?_
   ·obtain ⟨ad', e', _, hc⟩ := hI.1 j v hv
    injection e' with e'; subst e'; exact hc
   ·obtain ⟨q, _, rfl⟩ := List.mem_map.1 hv; rfl
   ·have hcur : (cur.toList.take 0 ++ ((y :: t).map (Value.int .i64) ++ cur.toList.drop (0 + ((y :: t).map (Value.int .i64)).length))) = (y :: t).map (Value.int .i64) := by
     rw [List.drop_of_length_le (by rw [List.length_map, Array.length_toList]; omega)]; simp
    rw [hcur]
    have e3 : goInt ((y :: t).map (Value.int .i64)).length = .int .i64 ((y :: t).length : Nat) := by rw [List.length_map]; rfl
    rw [e3]
    refine h _ ⟨⟨by rw [List.length_map]; omega, .inr ⟨g, _, ((y :: t).map (Value.int .i64)).toArray, rfl, hbg, setRow_heap w g _ _ _ _ hg, Nat.le_refl _, hcm, by simp, List.take_of_length_le (by simp)⟩⟩, hI.2⟩ ⟨rfl, rfl, rfl, by simp [World.setRow], fun k _ hk => setRow_other w g k _ (fun e => hk (by rw [e]))⟩
end Go.Proofs.YtdiflpbioohddaaDoor
end
