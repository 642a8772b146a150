/- Law CodegenInBlocks. -/
import Derived.Test.YtdiflpbioohddaaDoortDm
import Derived.Test.YtdiflpbioohddaaDoortS31toH1
import Derived.Test.YtdiflpbioohddaaDoortTitoCn
import Derived.Test.YtdiflpbioohddaaDoortS22toS28
import Derived.Test.YtdiflpbioohddaaDoortH3
import Derived.Test.YtdiflpbioohddaaDoortDr
set_option linter.unusedVariables false
set_option linter.unusedSimpArgs false
namespace Go.Proofs.YtdiflpbioohddaaDoor
open Go.RowKit
theorem app_intsM {ops : Array Oper} {rest : List Oper} {o : Oper} {a : Act} {Q : Exit → Act → World → Prop} (w : World) (hg : o.guard = none) (s x : Operand) (ho : o.op = .call { callee := .builtin .append, args := #[s, x], argTypes := #[25, 25] })
  (base : Nat) {v : Value} {l m : List Int} {A : Option Addr} {n c : Nat} (hs : a.eval s = v) (hx : a.eval x = .slice A n c) (hnm : m.length = n) (hown : Own base w v l) (hI : Ints w A m) (hn : l.length + n ≤ 100000000) (hbase : base ≤ w.heap.size)
  (h : ∀ v' w', Own base w' v' (l ++ m) → w.grownBy w' v.ownBlock → (v'.ownBlock = v.ownBlock ∨ v'.ownBlock = some w.heap.size) → wpList Tryd.prog ops Q rest (a.put o.dst v') w') : wpList Tryd.prog ops Q (o :: rest) a w := by
 subst hnm
 exact app_ints w hg s x ho base hs hx hown hI hn hbase h
def RowT (b : Nat) (w : World) (A : Option Addr) (l : List Int) : Prop := Ints w A l ∧ ∀ a, A = some a → b ≤ a.block ∧ TyAt w a.block 3
theorem RowT.grow {b : Nat} {w w' : World} {A : Option Addr} {l : List Int} (h : RowT b w A l) (hb : Below w.heap.size w w') : RowT b w' A l := ⟨h.1.grow hb, fun a e => ⟨(h.2 a e).1, (h.2 a e).2.grow (h.2 a e).2.lt hb⟩⟩
theorem RowT.mono {b c : Nat} {w : World} {A : Option Addr} {l : List Int} (h : RowT c w A l) (hb : b ≤ c) : RowT b w A l := ⟨h.1, fun a e => ⟨Nat.le_trans hb (h.2 a e).1, (h.2 a e).2⟩⟩
theorem RowT.ty {b g : Nat} {w w' : World} {A : Option Addr} {l : List Int} (h : RowT b w A l) (hg : w.grownBy w' (some g)) (ht : TyAt w g 32) : Ints w' A l := h.1.kept hg fun _ a e q => by
 injection q with q
 exact (h.2 a e).2.apart ht (by decide) q
def lnB : Value → Nat | .slice _ n _ => n | _ => 0
def RetBlk (w : World) (M : Mac) (O : List Int) (j : Nat) (e : Ending) (w' : World) : Prop := ∃ (A : Option Addr) (c : Nat) (z : MacA) (V : Int), z.m = M ∧ e = .returned (.tuple #[.slice A j c, .agg z.lst.toArray, .int .i64 V, .int .i64 0]) ∧ RowT w.heap.size w' A O ∧ (MacAt w' z ∧ MacF w.heap.size w' z) ∧ Below w.heap.size w w'
def IsRunT (w : World) (O SS : List Int) (K : Int) (v : Value) : Prop := ∃ (A B : Option Addr) (c b : Nat), v = .tuple #[.slice A O.length c, .slice B SS.length b, .int .i64 K, .int .i64 0] ∧ Ints w A O
def IsRunO (w : World) (O : List Int) (v : Value) : Prop := ∃ (A : Option Addr) (c : Nat), v = .slice A O.length c ∧ Ints w A O
def IsEmbT (b : Nat) (w : World) (M : Mac) (v : Value) : Prop := ∃ x : MacA, x.m = M ∧ v = .tuple #[.agg x.lst.toArray, .int .i64 0] ∧ MacAt w x ∧ MacF b w x
def IsEmbM (b : Nat) (w : World) (M : Mac) (v : Value) : Prop := ∃ x : MacA, x.m = M ∧ v = .agg x.lst.toArray ∧ MacAt w x ∧ MacF b w x
def IsBlkT (b : Nat) (w : World) (M : Mac) (O : List Int) (j : Nat) (V : Int) (v : Value) : Prop := ∃ (A : Option Addr) (c : Nat) (z : MacA), z.m = M ∧ v = .tuple #[.slice A j c, .agg z.lst.toArray, .int .i64 V, .int .i64 0] ∧ RowT b w A O ∧ MacAt w z ∧ MacF b w z
def IsBlkO (w : World) (O : List Int) (j : Nat) (v : Value) : Prop := ∃ (A : Option Addr) (c : Nat), v = .slice A j c ∧ Ints w A O
def IsBlkR (b : Nat) (w : World) (O : List Int) (j : Nat) (v : Value) : Prop := ∃ (A : Option Addr) (c : Nat), v = .slice A j c ∧ RowT b w A O
def IsBoxM (b : Nat) (w : World) (v : Value) : Prop := ∃ g, v = .pointer (some ⟨g, 0, none⟩) ∧ Box w g zeros5 ∧ TyAt w g 32 ∧ b ≤ g
def dq5F (L : List Value) (gn sn : Nat) (X : Value) (zl O SS : List Int) (K : Int) : Nat → Value → World → Prop
 | 0, v, _ => v = .agg L.toArray
 | 1, v, _ => v = .pointer (some ⟨gn, 8, none⟩)
 | 2, v, _ => v = .int .i64 (sn : Int)
 | 3, v, w => IsBlkO w zl sn v
 | 4, v, _ => v = X
 | 5, v, w | 6, v, w => IsRunT w O SS K v
 | 7, v, w => IsRunO w O v
 | 10, v, _ => v = .int .i64 0
 | _, _, _ => True
theorem dq5F_keep {L : List Value} {gn sn : Nat} {X : Value} {zl O SS : List Int} {K : Int} {w w' : World} (h : Below w.heap.size w w') : ∀ i v, dq5F L gn sn X zl O SS K i v w → dq5F L gn sn X zl O SS K i v w'
 | 0, _, e | 1, _, e | 2, _, e | 4, _, e | 8, _, e | 9, _, e | 10, _, e => e
 | 3, _, ⟨A, c, e, hi⟩ => ⟨A, c, e, hi.grow h⟩
 | 5, _, ⟨A, B, c, b, e, hi⟩ | 6, _, ⟨A, B, c, b, e, hi⟩ => ⟨A, B, c, b, e, hi.grow h⟩
 | 7, _, ⟨A, c, e, hi⟩ => ⟨A, c, e, hi.grow h⟩
 | _ + 11, _, _ => trivial
def dq8F (b : Nat) (L : List Value) (gn sn : Nat) (zl : List Int) (M : Mac) : Nat → Value → World → Prop
 | 0, v, _ => v = .agg L.toArray
 | 1, v, _ => v = .pointer (some ⟨gn, 8, none⟩)
 | 2, v, _ => v = .int .i64 (sn : Int)
 | 3, v, w => IsBlkO w zl sn v
 | 4, v, w | 5, v, w => IsEmbT b w M v
 | 6, v, w => IsEmbM b w M v
 | 7, v, _ => v = .int .i64 0
 | 8, v, w => IsBoxM b w v
 | _, _, _ => True
theorem IsBoxM.keep {b : Nat} {w w' : World} {v : Value} (h : IsBoxM b w v) (hb : Below w.heap.size w w') : IsBoxM b w' v := by
 obtain ⟨g, e, h1, h2, h3⟩ := h
 exact ⟨g, e, h1.keep hb, h2.grow h1.1 hb, h3⟩
theorem dq8F_keep {b : Nat} {L : List Value} {gn sn : Nat} {zl : List Int} {M : Mac} {w w' : World} (h : Below w.heap.size w w') : ∀ i v, dq8F b L gn sn zl M i v w → dq8F b L gn sn zl M i v w'
 | 0, _, e | 1, _, e | 2, _, e | 7, _, e => e
 | 3, _, ⟨A, c, e, hi⟩ => ⟨A, c, e, hi.grow h⟩
 | 4, _, ⟨x, e1, e2, h1, h2⟩ | 5, _, ⟨x, e1, e2, h1, h2⟩ | 6, _, ⟨x, e1, e2, h1, h2⟩ => ⟨x, e1, e2, h1.grow h, h2.grow h⟩
 | 8, _, e => e.keep h
 | _ + 9, _, _ => trivial
def dq16F (b : Nat) (U XL : List Value) (Xv : Value) (j : Nat) (Xj : Value) (M : Mac) (O : List Int) : Nat → Value → World → Prop
 | 0, v, _ => v = .agg U.toArray
 | 1, v, _ => v = .agg XL.toArray
 | 2, v, _ => v = Xv
 | 3, v, _ => v = .int .i64 (j : Int)
 | 4, v, _ => v = Xj
 | 5, v, w | 6, v, w => ∃ V, IsBlkT b w M O j V v
 | 7, v, w => IsBlkR b w O j v
 | 8, v, w => IsEmbM b w M v
 | 10, v, _ => v = .int .i64 0
 | 11, v, w => IsBoxM b w v
 | _, _, _ => True
theorem dq16F_keep {b : Nat} {U XL : List Value} {Xv Xj : Value} {j : Nat} {M : Mac} {O : List Int} {w w' : World} (h : Below w.heap.size w w') : ∀ i v, dq16F b U XL Xv j Xj M O i v w → dq16F b U XL Xv j Xj M O i v w'
 | 0, _, e | 1, _, e | 2, _, e | 3, _, e | 4, _, e | 9, _, e | 10, _, e => e
 | 5, _, ⟨V, A, c, z, e1, e2, h1, h2, h3⟩ | 6, _, ⟨V, A, c, z, e1, e2, h1, h2, h3⟩ => ⟨V, A, c, z, e1, e2, h1.grow h, h2.grow h, h3.grow h⟩
 | 7, _, ⟨A, c, e, hi⟩ => ⟨A, c, e, hi.grow h⟩
 | 8, _, ⟨x, e1, e2, h1, h2⟩ => ⟨x, e1, e2, h1.grow h, h2.grow h⟩
 | 11, _, e => e.keep h
 | _ + 12, _, _ => trivial
set_option maxRecDepth 100000 in
set_option maxHeartbeats 16000000 in
theorem law_CodegenInBlocks (u : PlantA) (IA CA : Option Addr) (im ic cn' cc : Nat) (il cl : List Int) (w : World) (hf : FormsAt w) (hr : PlantOk w u) (hI : Ints w IA il) (him : il.length = im) (hC : Ints w CA cl) (hcn : cl.length = cn') :
  Calls Tryd.prog 7 #[.agg u.lst.toArray, .slice IA im ic, .slice CA cn' cc] w (BoolBw w true) := by
 have CN : Hid (∀ w1, Below w.heap.size w w1 → Calls Tryd.prog 18 #[.agg u.lst.toArray] w1 (RetPP w1)) := fun w1 hb => pl_Net u w1 (hr.grow hb)
 have CK : Hid (∀ w1, Calls Tryd.prog 8 #[] w1 (BoolBw w1 true)) := fun w1 => known41 w1
 have CAt : Hid (∀ w1 (k : Int), Below w.heap.size w w1 → Calls Tryd.prog 24 #[.slice CA cn' cc, .int .i64 k] w1 fun e w' => e = .returned (.int .i64 (atF cl k)) ∧ w1 = w') := fun w1 k hb => hcn ▸ wd_At CA cl cc k w1 (hC.grow hb)
 have HFM := Lib.hid hf
 have HII := Lib.hid hI
 have HIL := Lib.hid him
 clear hf hI him hC hcn
 clear hr
 obtain ⟨kd, dn, cn, PB, PA, bc', ac', bl', al'⟩ := u
 simp only [PlantA.lst] at CN ⊢
 generalize bl'.length = pb at CN ⊢
 generalize al'.length = pa at CN ⊢
 go_enter Tryd.func7, Tryd.ntmps7
 go_upto_region 1 with fail
 have bn0 : Box (w.alloc (.cells ([.int .i64 kd, .int .i64 dn, .int .i64 cn, .slice PB pb bc', .slice PA pa ac']).toArray 55)) w.heap.size [.int .i64 kd, .int .i64 dn, .int .i64 cn, .slice PB pb bc', .slice PA pa ac'] := Box.new rfl
 have hb0 : Below w.heap.size w (w.alloc (.cells ([.int .i64 kd, .int .i64 dn, .int .i64 cn, .slice PB pb bc', .slice PA pa ac']).toArray 55)) := (Below.refl _ _).alloc (Nat.le_refl _) _
 change Code.wp _ _ _ _ (w.alloc (.cells ([.int .i64 kd, .int .i64 dn, .int .i64 cn, .slice PB pb bc', .slice PA pa ac']).toArray 55))
 generalize w.alloc (.cells ([.int .i64 kd, .int .i64 dn, .int .i64 cn, .slice PB pb bc', .slice PA pa ac']).toArray 55) = W1 at bn0 hb0 ⊢
 have y0 : W1.cell? ⟨w.heap.size, 0, none⟩ = some (.int .i64 kd) := bn0.2.1 0
 have y1 : W1.cell? ⟨w.heap.size, 1, none⟩ = some (.int .i64 dn) := bn0.2.1 1
 have y2 : W1.cell? ⟨w.heap.size, 2, none⟩ = some (.int .i64 cn) := bn0.2.1 2
 have y3 : W1.cell? ⟨w.heap.size, 3, none⟩ = some (.slice PB pb bc') := bn0.2.1 3
 have y4 : W1.cell? ⟨w.heap.size, 4, none⟩ = some (.slice PA pa ac') := bn0.2.1 4
 have HW1 := Lib.hid hb0
 clear bn0 hb0
 go_upto_region 2 with (first
  | (go_at_call 18; (with_reducible refine (CN.out _ HW1.out).mono ?_); rintro e3 w3 ⟨n, NA, nc, XA, xc, rfl, hok, hv, hna, hb3⟩; obtain ⟨L, hL⟩ : ∃ L, n.lst NA nc XA xc = L := ⟨_, rfl⟩; rw [hL]; have HL := Lib.hid hL; have hLL : L.length = 12 ∧ L.all (·.oneCell') = true := (by rw [← hL]; exact ⟨rfl, rfl⟩); have HLL := Lib.hid hLL; clear hLL hL; have HB3 := Lib.hid (below_then HW1.out hb3); have HOK := Lib.hid (And.intro hok hv); have HNA := Lib.hid hna; clear hok hv hna hb3)
  | ((with_reducible show wpList _ _ _ (Oper.mk none (.store 27 _ _) _ _ _ _ :: _) _ _); refine st_netL (g := w3.heap.size) (M := zNet12) (Box.new (w := w3) (t := 27) (vs := zNet12.toArray) rfl) rfl HLL.out.1 HLL.out.2 rfl _ _ rfl rfl rfl ?_; intro W4 hb4 hg4; have HNB := Lib.hid hb4; have HG4 : Hid (Below w3.heap.size w3 W4) := Lib.hid (grown_to ((Below.refl _ _).alloc (Nat.le_refl _) _) hg4 (Nat.le_refl _)); clear hb4 hg4))
 have HB4 := Lib.hid (below_then HB3.out HG4.out)
 by_cases h30 : im ≤ 30
 ·have x1 : decide ((30 : Int) < (im : Int)) = false := decide_eq_false (by omega)
  obtain ⟨-, -, ⟨p2, p3⟩, -, p5, -, -, -, -⟩ := netB_parts HOK.out.1
  obtain ⟨sn, hsn⟩ : ∃ k, n.nx.length = k := ⟨_, rfl⟩
  rw [hsn] at p5
  obtain ⟨lx, hlx⟩ : ∃ l, wordsF n.d0 n.d1 n.d2 n.d3 il im = l := ⟨_, rfl⟩
  have hll : lx.length = im := by rw [← hlx, wordsF_length]
  have hfx : n.fit lx = true := by rw [← hlx]; exact fit_words HOK.out.1
  have HBF := Lib.hid (blk_facts HOK.out.1 HOK.out.2 hfx (by omega))
  obtain ⟨zl, hzl⟩ : ∃ z, List.replicate sn (0 : Int) = z := ⟨_, rfl⟩
  obtain ⟨fd, hfd⟩ : ∃ d, schD n.prg = d := ⟨_, rfl⟩
  obtain ⟨M0, hM0⟩ : ∃ m, embM zl = m := ⟨_, rfl⟩
  have hzn : zl.length = sn := by rw [← hzl, List.length_replicate]
  have hs64 : sn ≤ 64 := by omega
  have b1 := HBF.out.state
  have b2 := HBF.out.macs
  have b3 := HBF.out.word
  have b4 := HBF.out.outs
  have b5 := HBF.out.emb
  rw [hsn, hzl] at b1 b4 b5
  rw [hsn, hzl, hfd, hM0] at b2
  rw [hfd] at b3 b4
  rw [hM0] at b4
  have CX : Hid (∀ w1, Below W4.heap.size W4 w1 → Calls Tryd.prog 19 #[wordV n.d0 n.d1 n.d2 n.d3, .slice IA im ic, .int .i64 im] w1 fun e w' => ∃ A c, e = .returned (.slice A im c) ∧ im ≤ c ∧ Ints w' A lx ∧ Below w1.heap.size w1 w') := Lib.hid fun w1 hb => by
   have := wd_Words n.d0 n.d1 n.d2 n.d3 IA il ic im w1 (by omega) (HII.out.grow (below_then HB4.out hb))
   rw [HIL.out, hlx] at this
   refine this.mono ?_
   rintro e w' ⟨v, rfl, ho, hb⟩
   obtain ⟨A, c, rfl, hc, hi⟩ := ho.form
   rw [hll] at hc ⊢
   exact ⟨A, c, rfl, hc, hi, hb⟩
  obtain ⟨O, hO⟩ : ∃ O, (runD n zl).outS lx im = O := ⟨_, rfl⟩
  obtain ⟨SS, hSS⟩ : ∃ S, (runD n zl).stS lx im = S := ⟨_, rfl⟩
  obtain ⟨K, hK⟩ : ∃ K, n.cntS zl lx im = K := ⟨_, rfl⟩
  rw [hll, hO] at b4
  have hOL : O.length = im := by rw [← b4, runO_len, hll]
  have CR : Hid (∀ w1 A B c b, Below W4.heap.size W4 w1 → Ints w1 A zl → Ints w1 B lx → Calls Tryd.prog 21 #[.agg (n.lst NA nc XA xc).toArray, .slice A sn c, .slice B im b] w1 (RetRunC w1 O SS K)) := Lib.hid fun w1 A B c b hb hi hj => by
   have h := nw_RunC n NA XA nc xc zl A sn c lx B im b w1 ((HNA.out.grow HG4.out).grow hb) HOK.out.1 b1 hzn hi hj hfx hll (by omega)
   rw [hO, hSS, hK] at h
   exact h
  have CC : Hid (∀ w1, Below W4.heap.size W4 w1 → Calls Tryd.prog 10 #[.agg (n.lst NA nc XA xc).toArray] w1 (RetPrgE w1 n.prg 0)) := Lib.hid fun w1 hb => cg_Compile_ok n NA XA nc xc w1 (HFM.out.grow (below_then HB4.out hb)) ((HNA.out.grow HG4.out).grow hb) HOK.out.1 HOK.out.2
  have CS : Hid (∀ w1 (q : PrgA), q.d = n.prg → Below W4.heap.size W4 w1 → PrgAt w1 q → Calls Tryd.prog 22 #[.agg q.lst.toArray] w1 (RetPrgE w1 fd 0)) := Lib.hid fun w1 q hq hb hp => by
   have h := sc_Schedule q w1 (HFM.out.grow (below_then HB4.out hb)) hp (by rw [hq]; exact HOK.out.2)
   rw [hq, hfd] at h
   exact h
  have CE : Hid (∀ w1 A c, Below W4.heap.size W4 w1 → Ints w1 A zl → Calls Tryd.prog 11 #[.agg (n.lst NA nc XA xc).toArray, .slice A sn c] w1 (RetMacF w1 M0 0)) := Lib.hid fun w1 A c hb hi => by
   have h := cg_Embed_okF n NA XA A nc xc sn c zl w1 (HFM.out.grow (below_then HB4.out hb)) ((HNA.out.grow HG4.out).grow hb) HOK.out.1 HOK.out.2 hi hzn (by omega)
   refine h.mono fun e w' h => ?_
   unfold RetEmbF at h
   rw [b5, if_pos rfl, hM0] at h
   exact h
  have CB : Hid (∀ (p j : Nat) (w1 : World) (q : PrgA) (x : MacA) (B : Option Addr) (b : Nat), p + j ≤ im → Below W4.heap.size W4 w1 → q.d = fd → PrgAt w1 q → x.m = runM fd M0 (lx.take p) → MacAt w1 x → Ints w1 B ((lx.drop p).take j) → Calls Tryd.prog 25 #[.agg q.lst.toArray, .agg x.lst.toArray, .slice B j b] w1 (RetBlk w1 (runM fd M0 (lx.take (p + j))) (runO fd (runM fd M0 (lx.take p)) ((lx.drop p).take j)) j)) := Lib.hid fun p j w1 q x B b hpj hb hq hp hx ha hi => by
   have hlen : ((lx.drop p).take j).length = j := by rw [List.length_take, List.length_drop, hll]; omega
   have h := sm_Run q x B j b ((lx.drop p).take j) w1 (HFM.out.grow (below_then HB4.out hb)) hp ha hi (by rw [hq, hx]; exact b2 p) (by rw [hq]; exact word_sub b3 fun y hy => List.mem_of_mem_drop (List.mem_of_mem_take hy)) hlen (by omega)
   rw [hq, hx] at h
   refine h.mono fun e w' h => ?_
   obtain ⟨vo, vg, vm, vh, e1, ho, hm, hb'⟩ := h
   obtain ⟨A, c, rfl, -⟩ := own_form ho.1
   obtain ⟨A1, c1, rfl, -⟩ := own_form hm.regs.1
   obtain ⟨A2, c2, rfl, -⟩ := own_form hm.mem.1
   obtain ⟨A3, c3, rfl, -⟩ := own_form hm.heads.1
   refine ⟨A, c, ⟨runM fd M0 (lx.take (p + j)), A1, A2, A3, c1, c2, c3⟩, runV fd (runM fd M0 (lx.take p)) ((lx.drop p).take j), rfl, ?_, ⟨ho.ints, own_ty ho⟩, ?_, hb'⟩
   ·rw [e1, runO_len, hlen, (blk_step fd M0 lx p j).2]
    rfl
   ·rw [(blk_step fd M0 lx p j).2]
    exact ⟨⟨hm.regs.ints, hm.mem.ints, hm.heads.ints⟩, fun _ => own_ty hm.regs, fun _ => own_ty hm.mem, fun _ => own_ty hm.heads⟩
  have HST : Hid (∀ p j, runO fd M0 (lx.take (p + j)) = runO fd M0 (lx.take p) ++ runO fd (runM fd M0 (lx.take p)) ((lx.drop p).take j)) := Lib.hid fun p j => (blk_step fd M0 lx p j).1
  have HOB : Hid (runO fd M0 lx = O) := Lib.hid b4
  have HRL : Hid (∀ m l, (runO fd m l).length = l.length) := Lib.hid fun m l => runO_len _ _ _
  have HLE : Hid (∀ W, Box W w3.heap.size L → (W.cell? ⟨w3.heap.size, 0, none⟩ = some (.int .i64 n.d0) ∧ W.cell? ⟨w3.heap.size, 1, none⟩ = some (.int .i64 n.d1) ∧ W.cell? ⟨w3.heap.size, 2, none⟩ = some (.int .i64 n.d2) ∧ W.cell? ⟨w3.heap.size, 3, none⟩ = some (.int .i64 n.d3)) ∧ W.cell? ⟨w3.heap.size, 8, none⟩ = some (.int .i64 sn)) := Lib.hid fun W h => by
   rw [← HL.out] at h
   exact ⟨⟨h.2.1 0, h.2.1 1, h.2.1 2, h.2.1 3⟩, by rw [← p5]; exact h.2.1 8⟩
  rw [HL.out] at CR CC CE
  obtain ⟨gn, hgn⟩ : ∃ g, g = w3.heap.size := ⟨_, rfl⟩
  rw [← hgn] at HNB HLE ⊢
  have HLX := Lib.hid hll
  have HOL := Lib.hid hOL
  have HS64 := Lib.hid hs64
  have HZN := Lib.hid hzn
  have HZR : Hid (List.replicate sn (0 : Int) = zl) := Lib.hid hzl
  have HMM : Hid (∀ p, lx.take p = lx.take p) := Lib.hid fun _ => rfl
  obtain ⟨PN, hPN⟩ : ∃ d, n.prg = d := ⟨_, rfl⟩
  rw [hPN] at CC CS
  clear b1 b2 b3 b4 b5 HBF HL HOK HNA HB3 HG4 HW1 CN hgn p2 p3 p5 hsn hlx hll hfx hzl hfd hM0 hzn hs64 HFM HII HIL hO hSS hK hOL hPN y0 y1 y2 y3 y4 HMM
  generalize n.d0 = d0 at CX HLE
  generalize n.d1 = d1 at CX HLE
  generalize n.d2 = d2 at CX HLE
  generalize n.d3 = d3 at CX HLE
  obtain ⟨⟨z0, z1, z2, z3⟩, z8⟩ := HLE.out _ HNB.out
  go_upto_region 4 with fail
  go_upto_region 5 with (go_at_call 19; (with_reducible refine (CX.out _ (Below.refl _ _)).mono ?_); rintro e5 w5 ⟨XB, xb, rfl, hxc, hi5, hb5⟩; have HI5 := Lib.hid hi5; have HXC := Lib.hid hxc; have HB5 := Lib.hid hb5; clear hi5 hb5 hxc)
  clear z0 z1 z2 z3 z8 CX
  have HN5 := Lib.hid (HNB.out.keep HB5.out)
  refine wp_region_grow8 (fun x => Nat.blt x 11) (fun x => Nat.beq x 8 || Nat.beq x 9 || Nat.beq x 10) (fun wx => Below w5.heap.size w5 wx) (fun a b => Below a.heap.size a b) (dq5F L gn sn (.slice XB im xb) zl O SS K) (by kernel_rfl) (by kernel_rfl) (Below.refl _ _).drew (fun a b h1 h2 => ⟨below_then h1 h2, fun i _ v => dq5F_keep h2 i v⟩) (fun _ _ => Below.refl _ _) ?_ ?_ ?_
  ·refine ⟨?_, ?_, ?_, ?_, ?_, ?_, ?_, ?_, ?_, ?_, ?_, trivial⟩
   all_goals
    intro vs w6 hp hF
    have HNX := Lib.hid (HN5.out.keep hp)
    have z8 : w6.cell? ⟨gn, 8, none⟩ = some (.int .i64 sn) := (HLE.out _ HNX.out).2
    have HX6 := Lib.hid (below_then HB5.out hp)
    have HI6 := Lib.hid (HI5.out.grow hp)
    clear hp
    simp [depsB, Region.binds, dq5F] at hF
    simp [stL, depsB, Region.binds, Act.put, hF]
   ·refine ld_netB1 HNX.out HLL.out.1 rfl _ rfl rfl ?_
    exact wpList_nil ⟨rfl, _, rfl, rfl, Below.refl _ _⟩
   ·(go_wp2_with fail; exact ⟨rfl, Below.refl _ _⟩)
   ·(go_wp2_with fail; exact ⟨rfl, Below.refl _ _⟩)
   ·refine mk_int rfl _ _ rfl w6.heap.size sn rfl rfl rfl (by have := HS64.out; omega) (Nat.le_refl _) ?_
    intro w7 ho7 hb7
    rw [HZR.out] at ho7
    exact wpList_nil ⟨rfl, _, rfl, ⟨_, _, rfl, ho7.ints⟩, hb7⟩
   ·(go_wp2_with fail; exact ⟨rfl, Below.refl _ _⟩)
   ·obtain ⟨-, ⟨A6, c6, e3, hi3⟩, -⟩ := hF
    simp only [e3]
    go_wp2_with (go_at_call 21; (with_reducible refine (CR.out _ _ _ _ _ HX6.out hi3 HI6.out).mono ?_); rintro e9 w9 ⟨OA, SA, oc, sc, rfl, hio, his, hb9⟩)
    have hio1 := hio.1
    first | exact ⟨⟨OA, SA, oc, sc, rfl, hio1⟩, hb9⟩ | exact ⟨OA, SA, oc, sc, rfl, hio1⟩
   ·obtain ⟨OA, SA, oc, sc, e5', hi⟩ := hF
    simp only [e5']
    go_wp2_with fail
    exact ⟨⟨OA, SA, oc, sc, rfl, hi⟩, Below.refl _ _⟩
   ·obtain ⟨OA, SA, oc, sc, e5', hi⟩ := hF
    simp only [e5']
    go_wp2_with fail
    exact ⟨⟨OA, oc, rfl, hi⟩, Below.refl _ _⟩
   ·obtain ⟨OA, SA, oc, sc, e5', hi⟩ := hF
    simp only [e5']
    go_wp2_with fail
    exact ⟨trivial, Below.refl _ _⟩
   ·obtain ⟨OA, SA, oc, sc, e5', hi⟩ := hF
    simp only [e5']
    go_wp2_with fail
    exact ⟨trivial, Below.refl _ _⟩
   ·obtain ⟨OA, SA, oc, sc, e5', hi⟩ := hF
    simp only [e5']
    go_wp2_with fail
    exact ⟨rfl, Below.refl _ _⟩
  ·intro j op hop _ hl
   have hj : j = 8 ∨ j = 9 ∨ j = 10 := by simpa [or_assoc] using hl
   intro vs w6 hC hF
   rcases hj with rfl | rfl | rfl
   all_goals
    injection hop with hop
    subst hop
    obtain ⟨OA, SA, oc, sc, e6, -⟩ := hF 6 (by decide)
   ·exact ⟨.slice SA SS.length sc, fun w' => by simp [execOp, stL, depsB, Region.binds, go_sem, Act.put, e6], trivial⟩
   ·exact ⟨.int .i64 K, fun w' => by simp [execOp, stL, depsB, Region.binds, go_sem, Act.put, e6], trivial⟩
   ·exact ⟨.int .i64 0, fun w' => by simp [execOp, stL, depsB, Region.binds, go_sem, Act.put, e6], rfl⟩
  intro vs w6 hp hF
  obtain ⟨OA, oc, e7, hio⟩ := hF 7 (by decide) rfl
  have e10 : vs 10 = .int .i64 0 := hF 10 (by decide) rfl
  rw [HOL.out] at e7
  show wpList Tryd.prog _ _ [_, _, _, _] _ _
  simp [stL, Act.put, e7, e10]
  have HB6 := Lib.hid (below_then HB5.out hp)
  have HN6 := Lib.hid (HN5.out.keep hp)
  have HI6 := Lib.hid (HI5.out.grow hp)
  have HO6 := Lib.hid hio
  clear hF e7 e10 hio hp HB5 HN5 HI5 CR HNB
  generalize vs 0 = x10
  generalize vs 1 = x11
  generalize vs 2 = x12
  generalize vs 3 = x13
  generalize vs 4 = x14
  generalize vs 5 = x15
  generalize vs 6 = x16
  generalize vs 8 = x18
  generalize vs 9 = x19
  go_upto_region 6 with fail
  go_upto_region 7 with (first
   | ((with_reducible show wpList _ _ _ (Oper.mk _ (.load 27 _) _ _ _ _ :: _) _ _); refine ld_netB1 HN6.out HLL.out.1 rfl _ rfl rfl ?_)
   | (go_at_call 10; (with_reducible refine (CC.out _ HB6.out).mono ?_); rintro e7 w7 ⟨q, hqd, rfl, hpq, hb7⟩; have HB7 := Lib.hid hb7; have HQD := Lib.hid hqd; have HPQ := Lib.hid hpq; clear hb7 hpq hqd)
   | ((with_reducible show wpList _ _ _ (Oper.mk none (.store 41 _ _) _ _ _ _ :: _) _ _); refine st_prgB (M := zeros10) (Box.new rfl) rfl (L := q.lst) rfl rfl rfl _ _ rfl rfl rfl ?_; intro w8 hb8 hg8; have BQ8 := Lib.hid hb8; have HG8 := Lib.hid hg8; clear hg8 hb8))
  have hba : Below w7.heap.size w7 w8 := grown_to ((Below.refl w7.heap.size w7).alloc (Nat.le_refl _) _) HG8.out (Nat.le_refl _)
  have hbb := below_then HB7.out hba
  have HB8 := Lib.hid (below_then HB6.out hbb)
  have HN8 := Lib.hid (HN6.out.keep hbb)
  have HI8 := Lib.hid (HI6.out.grow hbb)
  have HO8 := Lib.hid (HO6.out.grow hbb)
  have HPQ8 := Lib.hid (HPQ.out.grow hba)
  obtain ⟨gq, hgq⟩ : ∃ g, g = w7.heap.size := ⟨_, rfl⟩
  rw [← hgq] at BQ8 ⊢
  clear hba hbb hgq HG8 HB7 HB6 HN6 HI6 HO6 HPQ CC
  go_upto_region 8 with (first
   | ((with_reducible show wpList _ _ _ (Oper.mk _ (.load 41 _) _ _ _ _ :: _) _ _); refine ld_prg BQ8.out (lst_ten q) rfl _ rfl rfl ?_)
   | (go_at_call 22; (with_reducible refine (CS.out _ q HQD.out HB8.out HPQ8.out).mono ?_); rintro e9 w9 ⟨f, hfd, rfl, hpf, hb9⟩; have HB9 := Lib.hid hb9; have HFD := Lib.hid hfd; have HPF := Lib.hid hpf; clear hb9 hpf hfd)
   | ((with_reducible show wpList _ _ _ (Oper.mk none (.store 41 _ _) _ _ _ _ :: _) _ _); refine st_prgB (M := zeros10) (Box.new rfl) rfl (L := f.lst) rfl rfl rfl _ _ rfl rfl rfl ?_; intro w10 hb10 hg10; have BF10 := Lib.hid hb10; have HG10 := Lib.hid hg10; clear hg10 hb10))
  have hba : Below w9.heap.size w9 w10 := grown_to ((Below.refl w9.heap.size w9).alloc (Nat.le_refl _) _) HG10.out (Nat.le_refl _)
  have hbb := below_then HB9.out hba
  have HB10 := Lib.hid (below_then HB8.out hbb)
  have HN10 := Lib.hid (HN8.out.keep hbb)
  have HI10 := Lib.hid (HI8.out.grow hbb)
  have HO10 := Lib.hid (HO8.out.grow hbb)
  have HPF10 := Lib.hid (HPF.out.grow hba)
  obtain ⟨gf, hgf⟩ : ∃ g, g = w9.heap.size := ⟨_, rfl⟩
  rw [← hgf] at BF10 ⊢
  clear hba hbb hgf HG10 HB9 HB8 HN8 HI8 HO8 HPF HPQ8 BQ8 HQD CS
  refine wp_region_grow8 (fun x => Nat.blt x 9) (fun x => Nat.beq x 7) (fun wx => Below w10.heap.size w10 wx) (fun a b => Below a.heap.size a b) (dq8F w10.heap.size L gn sn zl M0) (by kernel_rfl) (by kernel_rfl) (Below.refl _ _).drew (fun a b h1 h2 => ⟨below_then h1 h2, fun i _ v => dq8F_keep h2 i v⟩) (fun _ _ => Below.refl _ _) ?_ ?_ ?_
  ·refine ⟨?_, ?_, ?_, ?_, ?_, ?_, ?_, ?_, ?_, trivial⟩
   all_goals
    intro vs w11 hp hF
    have HNX := Lib.hid (HN10.out.keep hp)
    have z8 : w11.cell? ⟨gn, 8, none⟩ = some (.int .i64 sn) := (HLE.out _ HNX.out).2
    have HX11 := Lib.hid (below_then HB10.out hp)
    have HSX := Lib.hid hp.size
    clear hp
    simp [depsB, Region.binds, dq8F] at hF
    simp [stL, depsB, Region.binds, Act.put, hF]
   ·refine ld_netB1 HNX.out HLL.out.1 rfl _ rfl rfl ?_
    exact wpList_nil ⟨rfl, _, rfl, rfl, Below.refl _ _⟩
   ·(go_wp2_with fail; exact ⟨rfl, Below.refl _ _⟩)
   ·(go_wp2_with fail; exact ⟨rfl, Below.refl _ _⟩)
   ·refine mk_int rfl _ _ rfl w11.heap.size sn rfl rfl rfl (by have := HS64.out; omega) (Nat.le_refl _) ?_
    intro w12 ho12 hb12
    rw [HZR.out] at ho12
    exact wpList_nil ⟨rfl, _, rfl, ⟨_, _, rfl, ho12.ints⟩, hb12⟩
   ·obtain ⟨-, A6, c6, e3, hi3⟩ := hF
    simp only [e3]
    go_wp2_with (go_at_call 11; (with_reducible refine (CE.out _ _ _ HX11.out hi3).mono ?_); rintro e12 w12 ⟨x, hxm, rfl, hxa, -, hb12, hxf⟩)
    have hxf' := hxf.mono HSX.out
    first | exact ⟨⟨x, hxm, rfl, hxa, hxf'⟩, hb12⟩ | exact ⟨x, hxm, rfl, hxa, hxf'⟩
   ·obtain ⟨x, hxm, e4, hxa, hxf⟩ := hF
    simp only [e4]
    go_wp2_with fail
    exact ⟨⟨x, hxm, rfl, hxa, hxf⟩, Below.refl _ _⟩
   ·obtain ⟨x, hxm, e4, hxa, hxf⟩ := hF
    simp only [e4]
    go_wp2_with fail
    exact ⟨⟨x, hxm, rfl, hxa, hxf⟩, Below.refl _ _⟩
   ·obtain ⟨x, hxm, e4, hxa, hxf⟩ := hF
    simp only [e4]
    go_wp2_with fail
    exact ⟨rfl, Below.refl _ _⟩
   ·go_wp2_with fail
    have hbx : Box (w11.alloc (.cells zeros5.toArray 32)) w11.heap.size zeros5 := Box.new rfl
    exact ⟨⟨_, rfl, hbx, ⟨_, _, heap_alloc_new w11 _⟩, HSX.out⟩, Below.alloc (Below.refl _ _) (Nat.le_refl _) _⟩
  ·intro j op hop _ hl
   have hj : j = 7 := by simpa using hl
   intro vs w11 hC hF
   subst hj
   injection hop with hop
   subst hop
   obtain ⟨x, -, e5, -⟩ := hF 5 (by decide)
   exact ⟨.int .i64 0, fun w' => by simp [execOp, stL, depsB, Region.binds, go_sem, Act.put, e5], rfl⟩
  intro vs w11 hp hF
  obtain ⟨X0, hxm, e6, hxa, hxf⟩ := hF 6 (by decide) rfl
  have e7 : vs 7 = .int .i64 0 := hF 7 (by decide) rfl
  obtain ⟨gm, e8, hbm, htm, hgm⟩ := hF 8 (by decide) rfl
  have HSX := Lib.hid hp
  clear hF hp
  show wpList Tryd.prog _ _ [_, _] _ _
  simp [stL, Act.put, e6, e7, e8]
  refine st_mac (L := X0.lst) hbm rfl rfl rfl rfl _ _ rfl rfl rfl ?_
  intro w12 hb12 hg12
  obtain ⟨hxa12, hxf12⟩ := hxa.ty hxf hg12 htm
  have hbw : Below w10.heap.size w10 w12 := grown_to HSX.out hg12 hgm
  have BM12 := Lib.hid hb12
  have HXA12 := Lib.hid hxa12
  have HXM := Lib.hid hxm
  have HGM : Hid (w10.heap.size ≤ gm ∧ gm < w12.heap.size) := Lib.hid ⟨hgm, hb12.1⟩
  have HW12 := Lib.hid hbw
  have HI12 := HI10
  clear hxa hxf hxf12 hxa12 hxm hbm htm hgm hb12 hg12 hbw e6 e7 e8 HSX HN10 CE HLE HLL HZN HZR HS64 HI12
  generalize vs 0 = x30
  generalize vs 1 = x31
  generalize vs 2 = x32
  generalize vs 3 = x33
  generalize vs 4 = x34
  generalize vs 5 = x35
  go_upto_region 9 with fail
  go_wp2_with fail
  have HCA := Lib.hid (Nat.le_refl w12.heap.size)
  go_loopw [9, 20, 21] (fun x v i wr => ∃ (p k n' c : Nat) (A : Option Addr) (X : MacA), x = .slice A n' c ∧ i = .int .i64 k ∧ Hid (p + n' = im) ∧ Hid (k ≤ p) ∧ Hid (n' ≤ c) ∧ Hid (Ints w10 A (lx.drop p)) ∧ Hid (X.m = runM fd M0 (lx.take p)) ∧ Hid (Own w12.heap.size wr v (runO fd M0 (lx.take p))) ∧ Hid (Box wr gm X.lst) ∧ Hid (MacAt wr X) ∧ Hid (Below w10.heap.size w10 wr) ∧ Hid (w12.heap.size ≤ wr.heap.size)) (fun x _ _ _ => lnB x)
  case atStart => exact ⟨0, 0, im, xb, XB, X0, rfl, rfl, Lib.hid (Nat.zero_add _), Lib.hid (Nat.le_refl _), HXC, HI10, HXM, Lib.hid (show Own w12.heap.size w12 (.slice none 0 0) [] from ⟨World.ownsRow_nil _ _ _ _, by simp⟩), BM12, HXA12, HW12, HCA⟩
  case round =>
   obtain ⟨p, k, n', c, A, X, rfl, rfl, HPN, HKP, HNC, HRI, HXQ, HOW, HBM, HXA, HBW, HCW⟩ := hrel
   by_cases hlt : 0 < n'
   ·have hpn := HPN.out
    have hkp := HKP.out
    have hnc := HNC.out
    obtain ⟨ad, x0, rfl, -, -, -, -, -⟩ := HRI.out.at_ (k := 0) (by rw [List.length_drop, HLX.out]; omega)
    obtain ⟨g3, g4⟩ := within_in (m := (n' : Int)) (by omega) (atF cl k)
    obtain ⟨qn, hq⟩ : ∃ qn : Nat, withinF (atF cl k) n' = (qn : Int) := ⟨(withinF (atF cl k) n').toNat, by omega⟩
    rw [hq] at g3 g4
    have CW1 : Hid (∀ w1, Calls Tryd.prog 23 #[.int .i64 (atF cl k), .int .i64 n'] w1 fun e w' => e = .returned (.int .i64 qn) ∧ w1 = w') := fun w1 => by have := wd_Within (atF cl k) n' w1 (by omega); rw [hq] at this; exact this
    obtain ⟨j, hj⟩ : ∃ j : Nat, 1 + qn = j := ⟨_, rfl⟩
    have wq : IntKind.i64.wrap (1 + (qn : Int)) = (j : Int) := (IntWalk.i64_in _ (by omega)).trans (by omega)
    have wk : IntKind.i64.wrap ((k : Int) + 1) = ((k + 1 : Nat) : Int) := (IntWalk.i64_in _ (by omega)).trans (by omega)
    have hjn : j ≤ n' := by omega
    have hjc : j ≤ c := by omega
    have hj0 : 0 < j := by omega
    have hlti : (0 : Int) < (n' : Int) := by omega
    have hpj : p + j ≤ im := by omega
    obtain ⟨M1, hM1⟩ : ∃ M, runM fd M0 (lx.take (p + j)) = M := ⟨_, rfl⟩
    obtain ⟨O1, hO1⟩ : ∃ o, runO fd (runM fd M0 (lx.take p)) ((lx.drop p).take j) = o := ⟨_, rfl⟩
    have hol : O1.length = j := by rw [← hO1, HRL.out, List.length_take, List.length_drop, HLX.out]; omega
    obtain ⟨OP, hOP⟩ : ∃ o, runO fd M0 (lx.take p) = o := ⟨_, rfl⟩
    have hop : OP.length ≤ 30 := by rw [← hOP, HRL.out, List.length_take, HLX.out]; omega
    rw [hOP] at HOW
    have hst := HST.out p j
    rw [hO1, hOP] at hst
    have CB1 : Hid (∀ w1, Below wr.heap.size wr w1 → Calls Tryd.prog 25 #[.agg f.lst.toArray, .agg X.lst.toArray, .slice (some ad) j c] w1 (RetBlk w1 M1 O1 j)) := Lib.hid fun w1 hb => by
     have hb1 := below_then HBW.out hb
     have h := CB.out p j w1 f X (some ad) c hpj (below_then HB10.out hb1) HFD.out (HPF10.out.grow hb1) HXQ.out (HXA.out.grow hb) ((HRI.out.takeL j).grow hb1)
     rw [hM1, hO1] at h
     exact h
    have HM1 := Lib.hid hM1
    have HOL1 := Lib.hid hol
    have HOPL := Lib.hid hop
    have HST1 := Lib.hid hst
    have HBFW := Lib.hid (BF10.out.keep HBW.out)
    have HDR : Hid (Ints w10 (if c = j then some ad else some (ad.add j)) ((lx.drop p).drop j)) := HRI.out.dropL (by rw [List.length_drop, HLX.out]; omega)
    clear hq g3 g4 hj hM1 hO1 hol hop hOP hst hpn hkp hnc hlt
    go_upto_region 16 with (first
     | (go_at_call 24; (with_reducible refine (CAt.out _ k (below_then HB4.out (below_then HB10.out HBW.out))).mono ?_); rintro e1 w1 ⟨rfl, rfl⟩)
     | (go_at_call 23; (with_reducible refine (CW1.out _).mono ?_); rintro e1 w1 ⟨rfl, rfl⟩))
    refine wp_region_grow8 (fun x => Nat.blt x 12) (fun x => Nat.beq x 8 || Nat.beq x 9 || Nat.beq x 10) (fun wx => Below wr.heap.size wr wx) (fun a b => Below a.heap.size a b) (dq16F wr.heap.size f.lst X.lst (.slice (some ad) n' c) j (.slice (some ad) j c) M1 O1) (by kernel_rfl) (by kernel_rfl) (Below.refl _ _).drew (fun a b h1 h2 => ⟨below_then h1 h2, fun i _ v => dq16F_keep h2 i v⟩) (fun _ _ => Below.refl _ _) ?_ ?_ ?_
    ·refine ⟨?_, ?_, ?_, ?_, ?_, ?_, ?_, ?_, ?_, ?_, ?_, ?_, trivial⟩
     all_goals
      intro vs w13 hp hF
      have HF13 := Lib.hid (HBFW.out.keep hp)
      have HM13 := Lib.hid (HBM.out.keep hp)
      have HX13 := Lib.hid hp
      have HSX := Lib.hid hp.size
      clear hp
      simp [depsB, Region.binds, dq16F] at hF
      simp [stL, depsB, Region.binds, Act.put, hF]
     ·refine ld_prg HF13.out (lst_ten f) rfl _ rfl rfl ?_
      exact wpList_nil ⟨rfl, _, rfl, rfl, Below.refl _ _⟩
     ·refine ld_mac HM13.out rfl rfl _ rfl rfl ?_
      exact wpList_nil ⟨rfl, _, rfl, rfl, Below.refl _ _⟩
     ·(go_wp2_with fail; exact ⟨rfl, Below.refl _ _⟩)
     ·(go_wp2_with fail; exact ⟨rfl, Below.refl _ _⟩)
     ·(go_wp2_with fail; exact ⟨rfl, Below.refl _ _⟩)
     ·go_wp2_with (go_at_call 25; (with_reducible refine (CB1.out _ HX13.out).mono ?_); rintro e14 w14 ⟨ZA, zc, z, V, hzm, rfl, hzo, ⟨hza, hzf⟩, hb14⟩)
      have hzf' := hzf.mono HSX.out
      have hzo' := hzo.mono HSX.out
      first | exact ⟨⟨V, ZA, zc, z, hzm, rfl, hzo', hza, hzf'⟩, hb14⟩ | exact ⟨V, ZA, zc, z, hzm, rfl, hzo', hza, hzf'⟩
     ·obtain ⟨V, ZA, zc, z, hzm, e5, hzo, hza, hzf⟩ := hF
      simp only [e5]
      go_wp2_with fail
      exact ⟨⟨V, ZA, zc, z, hzm, rfl, hzo, hza, hzf⟩, Below.refl _ _⟩
     ·obtain ⟨V, ZA, zc, z, hzm, e5, hzo, hza, hzf⟩ := hF
      simp only [e5]
      go_wp2_with fail
      exact ⟨⟨ZA, zc, rfl, hzo⟩, Below.refl _ _⟩
     ·obtain ⟨V, ZA, zc, z, hzm, e5, hzo, hza, hzf⟩ := hF
      simp only [e5]
      go_wp2_with fail
      exact ⟨⟨z, hzm, rfl, hza, hzf⟩, Below.refl _ _⟩
     ·obtain ⟨V, ZA, zc, z, hzm, e5, hzo, hza, hzf⟩ := hF
      simp only [e5]
      go_wp2_with fail
      exact ⟨trivial, Below.refl _ _⟩
     ·obtain ⟨V, ZA, zc, z, hzm, e5, hzo, hza, hzf⟩ := hF
      simp only [e5]
      go_wp2_with fail
      exact ⟨rfl, Below.refl _ _⟩
     ·go_wp2_with fail
      have hbx : Box (w13.alloc (.cells zeros5.toArray 32)) w13.heap.size zeros5 := Box.new rfl
      exact ⟨⟨_, rfl, hbx, ⟨_, _, heap_alloc_new w13 _⟩, HSX.out⟩, Below.alloc (Below.refl _ _) (Nat.le_refl _) _⟩
    ·intro i op hop _ hl
     have hi : i = 8 ∨ i = 9 ∨ i = 10 := by simpa [or_assoc] using hl
     intro vs w13 hC hF
     rcases hi with rfl | rfl | rfl
     all_goals
      injection hop with hop
      subst hop
      obtain ⟨V, ZA, zc, z, hzm, e6, hzo, hza, hzf⟩ := hF 6 (by decide)
     ·exact ⟨.agg z.lst.toArray, fun w' => by simp [execOp, stL, depsB, Region.binds, go_sem, Act.put, e6], z, hzm, rfl, hza, hzf⟩
     ·exact ⟨.int .i64 V, fun w' => by simp [execOp, stL, depsB, Region.binds, go_sem, Act.put, e6], trivial⟩
     ·exact ⟨.int .i64 0, fun w' => by simp [execOp, stL, depsB, Region.binds, go_sem, Act.put, e6], rfl⟩
    intro vs w13 hp hF
    obtain ⟨ZA, zc, e7, hzo⟩ := hF 7 (by decide) rfl
    obtain ⟨Z, hzm, e8, hza, hzf⟩ := hF 8 (by decide) rfl
    have e10 : vs 10 = .int .i64 0 := hF 10 (by decide) rfl
    obtain ⟨gz, e11, hbz, htz, hgz⟩ := hF 11 (by decide) rfl
    have HSX := Lib.hid hp
    have HBZ := Lib.hid hbz
    clear hF hp hbz
    show wpList Tryd.prog _ _ [_, _, _, _] _ _
    simp [stL, Act.put, e7, e8, e10, e11]
    go_upto_region 19 with ((with_reducible show wpList _ _ _ (Oper.mk none (.store 32 _ _) _ _ _ _ :: _) _ _); refine st_mac (L := Z.lst) HBZ.out rfl rfl rfl rfl _ _ rfl rfl rfl ?_; intro w14 hb14 hg14; have BZ14 := Lib.hid hb14; have HG14 := Lib.hid hg14; clear hb14 hg14)
    obtain ⟨hza14, hzf14⟩ := hza.ty hzf HG14.out htz
    have hzo14 := hzo.ty HG14.out htz
    have hb14 : Below wr.heap.size wr w14 := grown_to HSX.out HG14.out hgz
    obtain ⟨r0, hr0⟩ : ∃ r, u20.ownBlock = r := ⟨_, rfl⟩
    have HR0 := Lib.hid hr0
    have hrl : ∀ b, r0 = some b → w12.heap.size ≤ b ∧ b < wr.heap.size := fun b e => ⟨HOW.out.ge b (by rw [hr0]; exact e), own_lt HOW.out b (by rw [hr0]; exact e)⟩
    have HRL := Lib.hid hrl
    have HQR : Hid (r0 ≠ some gz) := Lib.hid fun e => by have := hrl gz e; omega
    have hdr := drew_belowS w14
    have hbz15 := BZ14.out.keep hdr
    have hza15 := hza14.grow hdr
    have hzf15 := hzf14.grow hdr
    have hbm15 := (HBM.out.keep hb14).keep hdr
    have ho15 := (HOW.out.grow hb14).grow hdr
    have hzo15 := hzo14.grow hdr
    have hw15 := below_then hb14 hdr
    have HZM := Lib.hid hzm
    have HGZ : Hid (wr.heap.size ≤ gz) := Lib.hid hgz
    obtain ⟨dsc, hd1, hd2⟩ := row_mac
    clear hza14 hzf14 hzo14 hb14 hr0 hrl hdr BZ14 HG14 HBZ HSX hza hzf hzo htz hgz hzm e7 e8 e10 e11 HOW CB1 CW1 HBFW
    refine wp_region_held (S := fun w' => w'.rangeAt gz 0 Z.lst) (by kernel_rfl) ?_
    show wpAnyH Tryd.prog .any _ _ _ 10 #[false, false, false, false, false, false, false, false, false, false] _ w14.drew
    generalize w14.drew = w15 at hbz15 hza15 hzf15 hbm15 ho15 hzo15 hw15 ⊢
    have HSR := box_rangeS hbz15
    refine wpAnyH_take (i := 3) (oi := _) (v := (.agg Z.lst.toArray)) rfl (by kernel_rfl) (by kernel_rfl) (by kernel_rfl) (fun _ _ _ h => h) (yieldsIf_load_mid (by kernel_rfl) _ _ rfl gz 0 rfl Z.lst dsc (fun w h => h) hd1 hd2 (size_mac.trans (congrArg some rfl))) HSR ?_
    show wpAnyH Tryd.prog .any _ _ _ _ _ (Act.put _ (some 120) _) _
    try simp only [Act.put, List.setIfInBounds_toArray, List.set_cons_zero, List.set_cons_succ]
    refine wpAnyH_take (i := 0) (oi := _) (v := u20) rfl (by kernel_rfl) (by kernel_rfl) (by kernel_rfl) (fun _ _ _ h => h) (Or.inl ⟨by kernel_rfl, fun w _ => by simp [execOp, go_sem, Act.put, Act.eval]⟩) HSR ?_
    show wpAnyH Tryd.prog .any _ _ _ _ _ (Act.put _ (some 117) _) _
    try simp only [Act.put, List.setIfInBounds_toArray, List.set_cons_zero, List.set_cons_succ]
    refine wpAnyH_take (i := 1) (oi := _) (v := (.slice ZA j zc)) rfl (by kernel_rfl) (by kernel_rfl) (by kernel_rfl) (fun _ _ _ h => h) (Or.inl ⟨by kernel_rfl, fun w _ => by simp [execOp, go_sem, Act.put, Act.eval]⟩) HSR ?_
    show wpAnyH Tryd.prog .any _ _ _ _ _ (Act.put _ (some 118) _) _
    try simp only [Act.put, List.setIfInBounds_toArray, List.set_cons_zero, List.set_cons_succ]
    refine wpAnyH_take (i := 4) (oi := _) (v := (.slice (some ad) n' c)) rfl (by kernel_rfl) (by kernel_rfl) (by kernel_rfl) (fun _ _ _ h => h) (Or.inl ⟨by kernel_rfl, fun w _ => by simp [execOp, go_sem, Act.put, Act.eval]⟩) HSR ?_
    show wpAnyH Tryd.prog .any _ _ _ _ _ (Act.put _ (some 121) _) _
    try simp only [Act.put, List.setIfInBounds_toArray, List.set_cons_zero, List.set_cons_succ]
    refine wpAnyH_take (i := 5) (oi := _) (v := (.int .i64 j)) rfl (by kernel_rfl) (by kernel_rfl) (by kernel_rfl) (fun _ _ _ h => h) (Or.inl ⟨by kernel_rfl, fun w _ => by simp [execOp, go_sem, Act.put, Act.eval]⟩) HSR ?_
    show wpAnyH Tryd.prog .any _ _ _ _ _ (Act.put _ (some 122) _) _
    try simp only [Act.put, List.setIfInBounds_toArray, List.set_cons_zero, List.set_cons_succ]
    refine wpAnyH_take (i := 6) (oi := _) (v := (.slice (if c = j then some ad else some (ad.add j)) (n' - j) (c - j))) rfl (by kernel_rfl) (by kernel_rfl) (by kernel_rfl) (fun _ _ _ h => h) (Or.inl ⟨by kernel_rfl, fun w _ => by simp [execOp, go_sem, Act.put, Act.eval]; intro hn; exact absurd hn (by omega)⟩) HSR ?_
    show wpAnyH Tryd.prog .any _ _ _ _ _ (Act.put _ (some 123) _) _
    try simp only [Act.put, List.setIfInBounds_toArray, List.set_cons_zero, List.set_cons_succ]
    refine anyX_one (i := 2) rfl (by kernel_rfl) rfl (fun cs b h => by cases h) (fun d h => by cases h; exact of_decide_eq_true rfl) ?_
    refine app_intsM w15 rfl _ _ rfl w12.heap.size rfl rfl HOL1.out ho15 hzo15 (by have := HOPL.out; omega) (by have := hw15.size; have := HCW.out; omega) ?_
    intro v8 w16 ho16 hg16 _
    have hg16' : w15.grownBy w16 r0 := by rw [← HR0.out]; exact hg16
    have hbz16 := hbz15.grown hg16' (fun e => HQR.out e.symm)
    have hbm16 := hbm15.grown hg16' (fun e => by have := HRL.out gm e.symm; have := HGM.out; omega)
    have hzz16 : MacAt w16 Z ∧ MacF wr.heap.size w16 Z := by
     cases hr : r0 with
     | none => exact ⟨hza15.growN (hr ▸ hg16'), hzf15.growN (hr ▸ hg16')⟩
     | some g0 =>
      rw [hr] at hg16'
      exact hza15.kept hzf15 hg16' (HRL.out g0 hr).2
    have hw16 : Below w10.heap.size w10 w16 := (below_then HBW.out hw15).grown hg16' (below_then HBW.out hw15).size (fun b e => by have := HRL.out b e; have := HW12.out.size; omega)
    have hs16 : wr.heap.size ≤ w16.heap.size := by have := hg16'.size; have := hw15.size; omega
    clear hbz15 hza15 hzf15 hbm15 ho15 hzo15 hw15 hg16 HSR
    refine wpList_nil ⟨rfl, _, rfl, box_rangeS hbz16, ?_⟩
    show wpAnyH Tryd.prog .any _ _ _ _ _ (Act.put _ (some 119) _) _
    try simp only [Act.put, List.setIfInBounds_toArray, List.set_cons_zero, List.set_cons_succ]
    refine wpAnyH_take (i := 7) (oi := _) (v := v8) rfl (by kernel_rfl) (by kernel_rfl) (by kernel_rfl) (fun _ _ _ h => h) (Or.inl ⟨by kernel_rfl, fun w _ => by simp [execOp, go_sem, Act.put, Act.eval]⟩) (box_rangeS hbz16) ?_
    show wpAnyH Tryd.prog .any _ _ _ _ _ (Act.put _ (some 20) _) _
    try simp only [Act.put, List.setIfInBounds_toArray, List.set_cons_zero, List.set_cons_succ]
    refine anyX_one (i := 8) rfl (by kernel_rfl) rfl (fun cs b h => by cases h) (fun d h => by cases h) ?_
    refine st_mac (L := Z.lst) hbm16 rfl rfl rfl rfl _ _ rfl rfl rfl ?_
    intro w17 hb17 hg17
    have hgl : gm < wr.heap.size := by have := HGM.out; have := HCW.out; omega
    have hbz17 := hbz16.grown hg17 (fun e => by injection e with e; have := HGZ.out; omega)
    obtain ⟨hza17, -⟩ := hzz16.1.kept hzz16.2 hg17 hgl
    have ho17 : Own w12.heap.size w17 v8 (OP ++ O1) := ⟨own_setsI ho16.1 hg17 (by have := HGM.out; omega), ho16.2⟩
    have hw17 := grown_toI hw16 hg17 HGM.out.1
    have hs17 : w12.heap.size ≤ w17.heap.size := by have := hg17.size; have := HCW.out; omega
    clear hbm16 hzz16 ho16 hw16 hbz16 hg16' hs16 hgl hg17
    refine wpList_nil ⟨rfl, undef, rfl, box_rangeS hbz17, ?_⟩
    show wpAnyH Tryd.prog .any _ _ _ _ _ (Act.put _ none _) _
    try simp only [Act.put, List.setIfInBounds_toArray, List.set_cons_zero, List.set_cons_succ]
    refine wpAnyH_take (i := 9) (oi := _) (v := (.slice (if c = j then some ad else some (ad.add j)) (n' - j) (c - j))) rfl (by kernel_rfl) (by kernel_rfl) (by kernel_rfl) (fun _ _ _ h => h) (Or.inl ⟨by kernel_rfl, fun w _ => by simp [execOp, go_sem, Act.put, Act.eval]⟩) (box_rangeS hbz17) ?_
    show wpAnyH Tryd.prog .any _ _ _ _ _ (Act.put _ (some 9) _) _
    try simp only [Act.put, List.setIfInBounds_toArray, List.set_cons_zero, List.set_cons_succ]
    refine wpAnyH_done (by kernel_rfl) ?_ _
    have HZA17 := Lib.hid hza17
    have HBM17 := Lib.hid hb17
    have HO17 : Hid (Own w12.heap.size w17 v8 (runO fd M0 (lx.take (p + j)))) := Lib.hid (by rw [HST1.out]; exact ho17)
    have HW17 := Lib.hid hw17
    have HS17 := Lib.hid hs17
    have HD17 : Hid (Ints w10 (if c = j then some ad else some (ad.add j)) (lx.drop (p + j))) := Lib.hid (by have h := HDR.out; rw [List.drop_drop] at h; exact h)
    have HMZ : Hid (Z.m = runM fd M0 (lx.take (p + j))) := Lib.hid (HZM.out.trans HM1.out.symm)
    have A1 : Hid (p + j + (n' - j) = im ∧ k + 1 ≤ p + j ∧ n' - j ≤ c - j) := Lib.hid (by have := HPN.out; have := HKP.out; have := HNC.out; omega)
    have A2 : Hid (0 < j ∧ j ≤ n') := Lib.hid ⟨hj0, hjn⟩
    clear hza17 hb17 ho17 hw17 hs17 hbz17 HDR HZM HM1 HST1 HRI HBM HXA HXQ hjn hjc hj0 hlti hpj wq
    generalize (if c = j then some ad else some (ad.add j)) = A' at HD17 ⊢
    go_wp2_with fail
    go_roundw
    case rel => exact ⟨p + j, k + 1, n' - j, c - j, A', Z, rfl, rfl, Lib.hid A1.out.1, Lib.hid A1.out.2.1, Lib.hid A1.out.2.2, HD17, HMZ, HO17, HBM17, HZA17, HW17, HS17⟩
    case measure => have := A2.out; simp [lnB]; omega
   ·obtain rfl : n' = 0 := by omega
    have hpi : p = im := by have := HPN.out; omega
    have HOE : Own w12.heap.size wr u20 O := by
     have h := HOW.out
     rw [List.take_of_length_le (by rw [HLX.out]; omega), HOB.out] at h
     exact h
    obtain ⟨A9, c9, e9, -, hi9⟩ := HOE.form
    rw [HOL.out] at e9
    subst e9
    have CSM : Hid (∀ w1, Below wr.heap.size wr w1 → Calls Tryd.prog 26 #[.slice A9 im c9, .slice OA im oc] w1 fun e w' => e = .returned (.bool true) ∧ Below w1.heap.size w1 w') := Lib.hid fun w1 hb => rf_SameN A9 OA O O c9 oc im im w1 HOL.out HOL.out (by omega) rfl (hi9.grow hb) (HO10.out.grow (below_then HBW.out hb))
    have hnl : ¬ (0 : Int) < ((0 : Nat) : Int) := by omega
    clear HOE hi9 HOW HRI HBM HXA HXQ hpi
    go_wp2_with (first
     | (go_at_call 8; (with_reducible refine (CK.out _).mono ?_); rintro e2 w2 ⟨rfl, hb2⟩; have HB2 := Lib.hid hb2; clear hb2)
     | (go_at_call 26; (with_reducible refine (CSM.out _ HB2.out).mono ?_); rintro e3 w3' ⟨rfl, hb3⟩))
    go_ret
    exact ⟨rfl, below_then HB4.out (below_then HB10.out (below_then HBW.out (below_then HB2.out hb3)))⟩
 ·have x1 : decide ((30 : Int) < (im : Int)) = true := decide_eq_true (by omega)
  go_wp2_with (go_at_call 8; (with_reducible refine (CK.out _).mono ?_); rintro e2 w2 ⟨rfl, hb2⟩)
  go_ret
  exact ⟨rfl, below_then HB4.out hb2⟩
theorem law_CodegenInBlocksC (u : PlantA) (l i : Option Addr × Nat × List Int) (w : World) (hf : FormsAt w) (hr : PlantOk w u) (hl : Ints w l.1 l.2.2 ∧ l.2.2.length ≤ 9223372036854775807) (hi : Ints w i.1 i.2.2 ∧ i.2.2.length ≤ 9223372036854775807) :
  Calls Tryd.prog 7 #[.agg u.lst.toArray, .slice l.1 l.2.2.length l.2.1, .slice i.1 i.2.2.length i.2.1] w (BoolBw w true) :=
 law_CodegenInBlocks u l.1 i.1 _ l.2.1 _ i.2.1 l.2.2 i.2.2 w hf hr hl.1 rfl hi.1 rfl
end Go.Proofs.YtdiflpbioohddaaDoor
