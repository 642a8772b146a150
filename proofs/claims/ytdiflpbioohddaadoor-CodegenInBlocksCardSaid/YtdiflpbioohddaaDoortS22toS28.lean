/- Several texts in one: S22 S23 S24 S12 Sa Mk S14 S28. -/
import Derived.Test.YtdiflpbioohddaaDoortS21
import Derived.Test.YtdiflpbioohddaaDoortE13toE16
import Derived.Laws.EntriesVeiled
import Derived.Test.YtdiflpbioohddaaDoortU5toS3
import Derived.Laws.Tables
import Derived.Test.YtdiflpbioohddaaDoortS10toTg
import Derived.Test.YtdiflpbioohddaaDoortUtoU3
import Derived.Test.YtdiflpbioohddaaDoortE1toI0
import Derived.Test.YtdiflpbioohddaaDoortAtoV1
import Derived.Test.YtdiflpbioohddaaDoortPltoLa
import Derived.ProofKit
import Derived.Test.YtdiflpbioohddaaDoortE19toOn
import Derived.Test.YtdiflpbioohddaaDoortCtoCa
import Derived.Test.YtdiflpbioohddaaDoortY3toS26
import Derived.Test.YtdiflpbioohddaaDoortG9toVc
import Derived.Test.YtdiflpbioohddaaDoortI1toE12
set_option linter.unusedVariables false
set_option linter.unusedSimpArgs false
section
namespace Go.Proofs.YtdiflpbioohddaaDoor
open Go.RowKit
def opsL : List Value := [.func (.func 87) #[] #[], .func (.func 88) #[] #[], .func (.func 89) #[] #[], .func (.func 90) #[] #[], .func (.func 91) #[] #[], .func (.func 93) #[] #[], .func (.func 94) #[] #[], .func (.func 95) #[] #[], .func (.func 96) #[] #[], .func (.func 97) #[] #[], .func (.func 98) #[] #[], .func (.func 99) #[] #[]]
def TabAt (w : World) (g : Nat) : Prop := Box w g opsL
def RetTab (w : World) (e : Ending) (w' : World) : Prop := ∃ g, e = .returned (.slice (some ⟨g, 0, none⟩) 12 12) ∧ TabAt w' g ∧ w.heap.size ≤ g ∧ Below w.heap.size w w'
theorem built_ops : builtS Tryd.prog 118 12 [(0, .agg #[.func (.func 87) #[] #[]]), (1, .agg #[.func (.func 88) #[] #[]]), (2, .agg #[.func (.func 89) #[] #[]]), (3, .agg #[.func (.func 90) #[] #[]]), (4, .agg #[.func (.func 91) #[] #[]]), (5, .agg #[.func (.func 93) #[] #[]]), (6, .agg #[.func (.func 94) #[] #[]]), (7, .agg #[.func (.func 95) #[] #[]]), (8, .agg #[.func (.func 96) #[] #[]]), (9, .agg #[.func (.func 97) #[] #[]]), (10, .agg #[.func (.func 98) #[] #[]]), (11, .agg #[.func (.func 99) #[] #[]])] = some opsL.toArray := by kernel_rfl
theorem und_ops : Tryd.prog.underlying 111 = some (.slice 118) := Tryd.underlying111
theorem size_ops : (Tryd.prog.info? 118).map (·.size) = some 1 := by kernel_rfl
set_option maxRecDepth 100000 in
theorem sm_operations (w : World) : Calls Tryd.prog 59 #[] w (RetTab w) := by
 go_enter Tryd.func59, Tryd.ntmps59
 go_wp2_with ((with_reducible show wpList _ _ _ (Oper.mk (some 13) _ _ _ _ _ :: _) _ _); refine wp_bldS rfl 111 118 12 _ rfl und_ops 1 size_ops (by decide) (by decide) _ rfl built_ops ?_)
 go_ret
 exact ⟨w.heap.size, rfl, Box.new rfl, Nat.le_refl _, (Below.refl _ _).alloc (Nat.le_refl _) _⟩
end Go.Proofs.YtdiflpbioohddaaDoor
end
section
namespace Go.Proofs.YtdiflpbioohddaaDoor
open Go.RowKit
def zeros5 : List Value := [.slice none 0 0, .slice none 0 0, .slice none 0 0, .int .i64 0, .int .i64 0]
theorem ld_mac {ops : Array Oper} {rest : List Oper} {o : Oper} {a : Act} {Q : Exit → Act → World → Prop} {w : World} {g : Nat} {L : List Value} (hb : Box w g L) (hL : L.length = 5) (hgd : o.guard = none) (x : Operand) (ho : o.op = .load 32 x) (hx : a.eval x = .pointer (some ⟨g, 0, none⟩)) (h : wpList Tryd.prog ops Q rest (a.put o.dst (.agg L.toArray)) w) : wpList Tryd.prog ops Q (o :: rest) a w := by
 obtain ⟨d, h1, h2⟩ := row_mac
 exact wp_ld hgd _ x ho g 0 hx hb L (fun j v hj => by rw [Nat.zero_add]; exact hj) d h1 h2 (by rw [hL]; exact size_mac) h
theorem st_mac {ops : Array Oper} {rest : List Oper} {o : Oper} {a : Act} {Q : Exit → Act → World → Prop} {w : World} {L M : List Value} {g : Nat} (hb : Box w g M) (hM : M.length = 5) (hL : L.length = 5) (h1 : L.all (·.oneCell') = true) (hgd : o.guard = none) (x y : Operand) (ho : o.op = .store 32 x y) (hx : a.eval x = .pointer (some ⟨g, 0, none⟩)) (hy : a.eval y = .agg L.toArray)
  (h : ∀ W1, Box W1 g L → w.grownBy W1 (some g) → wpList Tryd.prog ops Q rest (a.put o.dst undef) W1) : wpList Tryd.prog ops Q (o :: rest) a w :=
 wp_st hgd _ x y ho g 0 L hx hy (by rw [hL]; exact size_mac) h1 hb (by rw [hM, hL]; exact Nat.le_refl _) (by rw [List.take_zero, List.nil_append, List.drop_eq_nil_of_le (by rw [hM, hL]; exact Nat.le_refl _), List.append_nil]) h
theorem entryMM (w : World) (L M : List Value) : ∀ W, W = ((w.alloc (.cells L.toArray 32)).alloc (.cells M.toArray 32)) → Box W w.heap.size L ∧ Box W (w.heap.size + 1) M ∧ Below w.heap.size w W := fun W hW => by
 subst hW
 have h1 : Box (w.alloc (.cells L.toArray 32)) w.heap.size L := Box.new rfl
 have h2 : Box ((w.alloc (.cells L.toArray 32)).alloc (.cells M.toArray 32)) (w.heap.size + 1) M := Box.new (by simp)
 exact ⟨h1.alloc _, h2, ((Below.refl w.heap.size w).alloc (Nat.le_refl _) _).alloc (by simp) _⟩
theorem set_size {w : World} {p : Addr} {v : Value} : (w.setCell p v).heap.size = w.heap.size := by simp
theorem own_setsI {base E sz n : Nat} {w w' : World} {v : Value} {xs : List Value} {g : Nat} (h : w.ownsRow base E sz v n xs) (hg : w.grownBy w' (some g)) (hlt : g < base) : w'.ownsRow base E sz v n xs :=
 h.kept hg (.inr (fun e => by have := (h.lt _ e).1; omega))
theorem grown_toI {a w w' : World} {g : Nat} (h : Below a.heap.size a w) (hg : w.grownBy w' (some g)) (hs : a.heap.size ≤ g) : Below a.heap.size a w' := h.grown hg h.size (fun k e => by injection e with e; omega)
structure MacOwn (b : Nat) (w : World) (vg vm vh : Value) (m : Mac) : Prop where
 regs : Own b w vg m.regs
 mem : Own b w vm m.mem
 heads : Own b w vh m.heads
 n1 : ∀ q, vg.ownBlock = some q → vm.ownBlock ≠ some q ∧ vh.ownBlock ≠ some q
 n2 : ∀ q, vm.ownBlock = some q → vh.ownBlock ≠ some q
theorem MacOwn.grow {b : Nat} {w w' : World} {vg vm vh : Value} {m : Mac} (h : MacOwn b w vg vm vh m) (hb : Below w.heap.size w w') : MacOwn b w' vg vm vh m := ⟨h.regs.grow hb, h.mem.grow hb, h.heads.grow hb, h.n1, h.n2⟩
def RetMac (w : World) (m : Mac) (e : Ending) (w' : World) : Prop := ∃ vg vm vh, e = .returned (.agg #[vg, vm, vh, .int .i64 m.cyc, .int .i64 m.stl]) ∧ MacOwn w.heap.size w' vg vm vh m ∧ Below w.heap.size w w'
set_option maxRecDepth 100000 in
set_option maxHeartbeats 4000000 in
theorem sm_clone (x : MacA) (w : World) (hx : MacAt w x) (h1 : x.m.regs.length ≤ 1000) (h2 : x.m.mem.length ≤ 1000) (h3 : x.m.heads.length ≤ 1000) : Calls Tryd.prog 60 #[x.v] w (RetMac w x.m) := by
 obtain ⟨⟨rs, ms, hs, cy, st⟩, GA, MA, HA, gc, mc, hc⟩ := x
 obtain ⟨hga, hma, hha⟩ := hx
 simp only at hga hma hha h1 h2 h3
 obtain ⟨gn, hgn⟩ : ∃ n, rs.length = n := ⟨_, rfl⟩
 obtain ⟨mn, hmn⟩ : ∃ n, ms.length = n := ⟨_, rfl⟩
 obtain ⟨hn, hhn⟩ : ∃ n, hs.length = n := ⟨_, rfl⟩
 have em : MacA.v ⟨⟨rs, ms, hs, cy, st⟩, GA, MA, HA, gc, mc, hc⟩ = .agg #[.slice GA gn gc, .slice MA mn mc, .slice HA hn hc, .int .i64 cy, .int .i64 st] := by
  unfold MacA.v MacA.lst
  simp only [hgn, hmn, hhn]
 rw [em]
 rw [hgn] at h1
 rw [hmn] at h2
 rw [hhn] at h3
 have HGA := Lib.hid hga
 have HMA := Lib.hid hma
 have HHA := Lib.hid hha
 have HGN := Lib.hid hgn
 have HMN := Lib.hid hmn
 have HHN := Lib.hid hhn
 clear em hga hma hha hgn hmn hhn
 go_enter Tryd.func60, Tryd.ntmps60
 go_upto_region 1 with fail
 obtain ⟨bp, br, hb0⟩ := entryMM w [.slice GA gn gc, .slice MA mn mc, .slice HA hn hc, .int .i64 cy, .int .i64 st] zeros5 _ rfl
 change Code.wp _ _ _ _ ((w.alloc (.cells [.slice GA gn gc, .slice MA mn mc, .slice HA hn hc, .int .i64 cy, .int .i64 st].toArray 32)).alloc (.cells zeros5.toArray 32))
 generalize ((w.alloc (.cells [.slice GA gn gc, .slice MA mn mc, .slice HA hn hc, .int .i64 cy, .int .i64 st].toArray 32)).alloc (.cells zeros5.toArray 32)) = W0 at bp br hb0 ⊢
 have HB0 := Lib.hid hb0
 have HX0 := Lib.hid bp
 have HZ0 := Lib.hid br
 have HG2 : Hid (w.heap.size + 2 ≤ W0.heap.size) := by have := br.1; exact Lib.hid (by omega)
 clear hb0 bp br
 have x0 : W0.cell? ⟨w.heap.size, 0, none⟩ = some (.slice GA gn gc) := HX0.out.2.1 0
 go_upto_region 2 with (go_at_call 43; (with_reducible refine (sl_CloneI _ _ _ _ _ (HGA.out.grow HB0.out) HGN.out (by omega)).mono ?_); rintro e1 w1 ⟨v1, rfl, ho1, hb1⟩; obtain ⟨QA, qc, rfl, -⟩ := own_form ho1.1; rw [HGN.out] at ho1 ⊢; have z0 : w1.cell? ⟨w.heap.size, 0, none⟩ = some (.slice GA gn gc) := (HX0.out.keep hb1).2.1 0; have f0 : w1.frozen? ⟨w.heap.size, 0, none⟩ = false := (HX0.out.keep hb1).2.2 0)
 have hs1 := hb1.size
 have HT0 : Hid (∀ r, Value.ownBlock (.slice QA gn qc) = some r → W0.heap.size ≤ r ∧ r < w1.heap.size) := Lib.hid fun r hr => ho1.1.lt r hr
 have HX1 : Hid (Box (w1.setCell ⟨w.heap.size, 0, none⟩ (.slice QA gn qc)) w.heap.size [.slice QA gn qc, .slice MA mn mc, .slice HA hn hc, .int .i64 cy, .int .i64 st]) := Lib.hid ((HX0.out.keep hb1).set (k := 0) (u := .slice QA gn qc) (by show 0 < 5; omega))
 have HZ1 := Lib.hid (Box.past (b := w.heap.size) (k := 0) (u := .slice QA gn qc) (HZ0.out.keep hb1) (by omega))
 have HO01 := Lib.hid ((ho1.base (show w.heap.size + 2 ≤ W0.heap.size by have := HG2.out; omega)).store (g := w.heap.size) (k := 0) (u := .slice QA gn qc) (by omega))

 have HB1 := Lib.hid (below_set (k := 0) (u := .slice QA gn qc) (below_then HB0.out hb1) (Nat.le_refl _))
 have HS0 : Hid (w1.heap.size = (w1.setCell ⟨w.heap.size, 0, none⟩ (.slice QA gn qc)).heap.size ∧ W0.heap.size ≤ w1.heap.size) := Lib.hid ⟨by rw [set_size], hs1⟩
 clear hs1 ho1 hb1 HX0 HZ0 HB0 x0 z0 f0 
 generalize w1.setCell ⟨w.heap.size, 0, none⟩ (.slice QA gn qc) = W1 at HX1 HZ1 HB1 HS0 HO01 ⊢
 have x1 : W1.cell? ⟨w.heap.size, 1, none⟩ = some (.slice MA mn mc) := HX1.out.2.1 1
 go_upto_region 3 with (go_at_call 43; (with_reducible refine (sl_CloneI _ _ _ _ _ (HMA.out.grow HB1.out) HMN.out (by omega)).mono ?_); rintro e1 w1 ⟨v1, rfl, ho1, hb1⟩; obtain ⟨QB, qd, rfl, -⟩ := own_form ho1.1; rw [HMN.out] at ho1 ⊢; have z1 : w1.cell? ⟨w.heap.size, 1, none⟩ = some (.slice MA mn mc) := (HX1.out.keep hb1).2.1 1; have f1 : w1.frozen? ⟨w.heap.size, 1, none⟩ = false := (HX1.out.keep hb1).2.2 1)
 have hs1 := hb1.size
 have HT1 : Hid (∀ r, Value.ownBlock (.slice QB mn qd) = some r → W1.heap.size ≤ r ∧ r < w1.heap.size) := Lib.hid fun r hr => ho1.1.lt r hr
 have HX2 : Hid (Box (w1.setCell ⟨w.heap.size, 1, none⟩ (.slice QB mn qd)) w.heap.size [.slice QA gn qc, .slice QB mn qd, .slice HA hn hc, .int .i64 cy, .int .i64 st]) := Lib.hid ((HX1.out.keep hb1).set (k := 1) (u := .slice QB mn qd) (by show 1 < 5; omega))
 have HZ2 := Lib.hid (Box.past (b := w.heap.size) (k := 1) (u := .slice QB mn qd) (HZ1.out.keep hb1) (by omega))
 have HO12 := Lib.hid ((ho1.base (show w.heap.size + 2 ≤ W1.heap.size by have := HG2.out; have := HS0.out; omega)).store (g := w.heap.size) (k := 1) (u := .slice QB mn qd) (by omega))
 have HO02 := Lib.hid ((HO01.out.grow hb1).store (g := w.heap.size) (k := 1) (u := .slice QB mn qd) (by omega))
 have HB2 := Lib.hid (below_set (k := 1) (u := .slice QB mn qd) (below_then HB1.out hb1) (Nat.le_refl _))
 have HS1 : Hid (w1.heap.size = (w1.setCell ⟨w.heap.size, 1, none⟩ (.slice QB mn qd)).heap.size ∧ W1.heap.size ≤ w1.heap.size) := Lib.hid ⟨by rw [set_size], hs1⟩
 clear hs1 ho1 hb1 HX1 HZ1 HB1 x1 z1 f1 HO01
 generalize w1.setCell ⟨w.heap.size, 1, none⟩ (.slice QB mn qd) = W2 at HX2 HZ2 HB2 HS1 HO02 HO12 ⊢
 have x2 : W2.cell? ⟨w.heap.size, 2, none⟩ = some (.slice HA hn hc) := HX2.out.2.1 2
 go_upto_region 4 with (go_at_call 43; (with_reducible refine (sl_CloneI _ _ _ _ _ (HHA.out.grow HB2.out) HHN.out (by omega)).mono ?_); rintro e1 w1 ⟨v1, rfl, ho1, hb1⟩; obtain ⟨QD, qe, rfl, -⟩ := own_form ho1.1; rw [HHN.out] at ho1 ⊢; have z2 : w1.cell? ⟨w.heap.size, 2, none⟩ = some (.slice HA hn hc) := (HX2.out.keep hb1).2.1 2; have f2 : w1.frozen? ⟨w.heap.size, 2, none⟩ = false := (HX2.out.keep hb1).2.2 2)
 have hs1 := hb1.size
 have HT2 : Hid (∀ r, Value.ownBlock (.slice QD hn qe) = some r → W2.heap.size ≤ r ∧ r < w1.heap.size) := Lib.hid fun r hr => ho1.1.lt r hr
 have HX3 : Hid (Box (w1.setCell ⟨w.heap.size, 2, none⟩ (.slice QD hn qe)) w.heap.size [.slice QA gn qc, .slice QB mn qd, .slice QD hn qe, .int .i64 cy, .int .i64 st]) := Lib.hid ((HX2.out.keep hb1).set (k := 2) (u := .slice QD hn qe) (by show 2 < 5; omega))
 have HZ3 := Lib.hid (Box.past (b := w.heap.size) (k := 2) (u := .slice QD hn qe) (HZ2.out.keep hb1) (by omega))
 have HO23 := Lib.hid ((ho1.base (show w.heap.size + 2 ≤ W2.heap.size by have := HG2.out; have := HS0.out; have := HS1.out; omega)).store (g := w.heap.size) (k := 2) (u := .slice QD hn qe) (by omega))
 have HO03 := Lib.hid ((HO02.out.grow hb1).store (g := w.heap.size) (k := 2) (u := .slice QD hn qe) (by omega))
 have HO13 := Lib.hid ((HO12.out.grow hb1).store (g := w.heap.size) (k := 2) (u := .slice QD hn qe) (by omega))
 have HB3 := Lib.hid (below_set (k := 2) (u := .slice QD hn qe) (below_then HB2.out hb1) (Nat.le_refl _))
 have HS2 : Hid (w1.heap.size = (w1.setCell ⟨w.heap.size, 2, none⟩ (.slice QD hn qe)).heap.size ∧ W2.heap.size ≤ w1.heap.size) := Lib.hid ⟨by rw [set_size], hs1⟩
 clear hs1 ho1 hb1 HX2 HZ2 HB2 x2 z2 f2 HO02 HO12
 generalize w1.setCell ⟨w.heap.size, 2, none⟩ (.slice QD hn qe) = W3 at HX3 HZ3 HB3 HS2 HO03 HO13 HO23 ⊢
 go_wp2_with (first
  | ((with_reducible show wpList _ _ _ (Oper.mk (some 15) (.load _ _) _ _ _ _ :: _) _ _); refine ld_mac HX3.out rfl rfl _ rfl rfl ?_)
  | ((with_reducible show wpList _ _ _ (Oper.mk none (.store 32 _ _) _ _ _ _ :: _) _ _); refine st_mac HZ3.out rfl (L := [.slice QA gn qc, .slice QB mn qd, .slice QD hn qe, .int .i64 cy, .int .i64 st]) rfl rfl rfl _ _ rfl rfl rfl ?_; intro w9 hb9 hg9))
 obtain ⟨dsc, hd1, hd2⟩ := row_mac
 refine bodyPost_ret (resC rfl _ _ w9 (g := w.heap.size + 1) (v := .agg [.slice QA gn qc, .slice QB mn qd, .slice QD hn qe, .int .i64 cy, .int .i64 st].toArray) rfl (res_box _ hb9 dsc hd1 hd2 size_mac)) rfl ?_
 have o0 : Own (w.heap.size + 2) w9 (.slice QA gn qc) rs := ⟨own_setsI HO03.out.1 hg9 (by omega), HO03.out.2⟩
 have o1 : Own (w.heap.size + 2) w9 (.slice QB mn qd) ms := ⟨own_setsI HO13.out.1 hg9 (by omega), HO13.out.2⟩
 have o2 : Own (w.heap.size + 2) w9 (.slice QD hn qe) hs := ⟨own_setsI HO23.out.1 hg9 (by omega), HO23.out.2⟩
 refine ⟨_, _, _, rfl, ⟨o0.base (by omega), o1.base (by omega), o2.base (by omega), fun q hq => ⟨fun h2 => ?_, fun h2 => ?_⟩, fun q hq h2 => ?_⟩, grown_toI HB3.out hg9 (by omega)⟩
 ·have := HT0.out q hq
  have := HT1.out q h2
  have := HS0.out
  omega
 ·have := HT0.out q hq
  have := HT2.out q h2
  have := HS0.out
  have := HS1.out
  omega
 ·have := HT1.out q hq
  have := HT2.out q h2
  have := HS1.out
  omega
end Go.Proofs.YtdiflpbioohddaaDoor
end
section
namespace Go.Proofs.YtdiflpbioohddaaDoor
open Go.RowKit
theorem wp_bldR {ops : Array Oper} {rest : List Oper} {o : Oper} {a : Act} {Q : Exit → Act → World → Prop} {w : World} (hgd : o.guard = none) (ty : TypeId) (parts : Array (Nat × Operand)) (ho : o.op = .build ty parts) (ps : List (Nat × Value)) (hp : parts.toList.map (fun p => (p.1, a.eval p.2)) = ps) {cells : Array Value}
  (hb : Tryd.prog.built ty ps = some cells) (h : wpList Tryd.prog ops Q rest (a.put o.dst (.agg cells)) w) : wpList Tryd.prog ops Q (o :: rest) a w := by
 have e : (parts.map fun (i, x) => (i, a.eval x)).toList = ps := by rw [Array.toList_map]; exact hp
 refine wpList_plain hgd fun _ hK => wp_build ty parts ho (by rw [e, hb]; rfl) (hK _ _ ?_)
 rw [e, hb]; exact h
theorem RunAt.under {z z' : Outs} {b c : Nat} {w w' : World} {g ga ma gc mc : Nat} {hv : Value} {u : PrgA} {cy st x : Int} {s : Smp} (h : RunAt z b w g ga ma gc mc hv u cy st x s) (hb : Below c w w') (h1 : g < c) (h2 : ga < c) (h3 : ma < c) (h4 : ∀ q, hv.ownBlock = some q → q < c) (hz : Own b w' z'.v z'.l) (h5 : ∀ q, z'.v.ownBlock = some q → c ≤ q) : RunAt z' b w' g ga ma gc mc hv u cy st x s := by
 have ou : ∀ {v : Value} {l : List Int}, Own b w v l → (∀ q, v.ownBlock = some q → q < c) → Own b w' v l := fun {v l} ho hv => ⟨by
  obtain ⟨q1, q2 | ⟨q, cap, cur, e, hg, hh, r⟩⟩ := ho.1
  ·exact ⟨q1, .inl q2⟩
  ·have hlt : q < c := hv q (by rw [e]; rfl)
   exact ⟨q1, .inr ⟨q, cap, cur, e, hg, (hb.block q hlt).trans hh, r⟩⟩, ho.2⟩
 exact ⟨h.box.block (hb.block g h1) hb.size, ou h.regs (fun q e => by injection e with e; subst e; exact h2), ou h.mem (fun q e => by injection e with e; subst e; exact h3), ou h.heads h4, h.n1, h.n2, h.n3, h.n4, h.n5, h.n6, h.hb, hz, fun e => by have := h5 _ e; omega, fun e => by have := h5 _ e; omega, fun e => by have := h5 _ e; omega, fun q e1 e => by have := h5 _ e; have := h4 _ e1; omega⟩
theorem own_lt {b : Nat} {w : World} {v : Value} {l : List Int} (h : Own b w v l) : ∀ q, v.ownBlock = some q → q < w.heap.size := fun q e => by
 obtain ⟨-, q2 | ⟨q', cap, cur, e', -, hh, -⟩⟩ := h.1
 ·rw [q2.1] at e; cases e
 ·rw [e'] at e
  injection e with e
  subst e
  exact (Array.getElem?_eq_some_iff.1 hh).1
theorem own_raise {b c : Nat} {w : World} {v : Value} {l : List Int} (h : Own b w v l) (hc : ∀ q, v.ownBlock = some q → c ≤ q) : Own c w v l := ⟨by
 obtain ⟨q1, q2 | ⟨q, cap, cur, e, hg, hh, r⟩⟩ := h.1
 ·exact ⟨q1, .inl q2⟩
 ·exact ⟨q1, .inr ⟨q, cap, cur, e, hc q (by rw [e]; rfl), hh, r⟩⟩, h.2⟩
def opFn : Nat → FuncId
 | 0 => 87
 | 1 => 88
 | 2 => 89
 | 3 => 90
 | 4 => 91
 | 5 => 93
 | 6 => 94
 | 7 => 95
 | 8 => 96
 | 9 => 97
 | 10 => 98
 | _ => 99
theorem opFn_ok {k : Nat} (hk : k < 12) : ∃ fn, Tryd.prog.funcs[opFn k]? = some fn ∧ (fn.name == "runtime.NumGoroutine") = false ∧ fn.body.isSome = true := by
 have hc : k = 0 ∨ k = 1 ∨ k = 2 ∨ k = 3 ∨ k = 4 ∨ k = 5 ∨ k = 6 ∨ k = 7 ∨ k = 8 ∨ k = 9 ∨ k = 10 ∨ k = 11 := by omega
 rcases hc with rfl | rfl | rfl | rfl | rfl | rfl | rfl | rfl | rfl | rfl | rfl | rfl
 ·exact ⟨_, Tryd.func87, by kernel_rfl, by kernel_rfl⟩
 ·exact ⟨_, Tryd.func88, by kernel_rfl, by kernel_rfl⟩
 ·exact ⟨_, Tryd.func89, by kernel_rfl, by kernel_rfl⟩
 ·exact ⟨_, Tryd.func90, by kernel_rfl, by kernel_rfl⟩
 ·exact ⟨_, Tryd.func91, by kernel_rfl, by kernel_rfl⟩
 ·exact ⟨_, Tryd.func93, by kernel_rfl, by kernel_rfl⟩
 ·exact ⟨_, Tryd.func94, by kernel_rfl, by kernel_rfl⟩
 ·exact ⟨_, Tryd.func95, by kernel_rfl, by kernel_rfl⟩
 ·exact ⟨_, Tryd.func96, by kernel_rfl, by kernel_rfl⟩
 ·exact ⟨_, Tryd.func97, by kernel_rfl, by kernel_rfl⟩
 ·exact ⟨_, Tryd.func98, by kernel_rfl, by kernel_rfl⟩
 ·exact ⟨_, Tryd.func99, by kernel_rfl, by kernel_rfl⟩
theorem tab_at {w : World} {g k : Nat} (h : TabAt w g) (hk : k < 12) : w.cell? ⟨g, k, none⟩ = some (.func (.func (opFn k)) #[] #[]) := by
 refine (h.2.1 k).trans ?_
 have hc : k = 0 ∨ k = 1 ∨ k = 2 ∨ k = 3 ∨ k = 4 ∨ k = 5 ∨ k = 6 ∨ k = 7 ∨ k = 8 ∨ k = 9 ∨ k = 10 ∨ k = 11 := by omega
 rcases hc with rfl | rfl | rfl | rfl | rfl | rfl | rfl | rfl | rfl | rfl | rfl | rfl <;> rfl
theorem op_any {z : Outs} {b : Nat} {w0 w : World} {g ga ma gc mc : Nat} {hv : Value} {u : PrgA} {cy st x : Int} {s : Smp} {i : Ins} (h : OpIn z b w0 w g ga ma gc mc hv u cy st x s i) :
  Calls Tryd.prog (opFn i.op.toNat) #[.pointer (some ⟨g, 0, none⟩), i.v] w (RetOp z b w0 w g ga ma gc mc hv u cy st x (stepM u.d x s i)) := by
 have hc := ops12 (suit_formed h.suit)
 obtain ⟨op, a, bb, imm⟩ := i
 simp only at hc
 rcases hc with rfl | rfl | rfl | rfl | rfl | rfl | rfl | rfl | rfl | rfl | rfl | rfl
 ·exact op_0 h
 ·exact op_1 h
 ·exact op_2 h
 ·exact op_3 h
 ·exact op_4 h
 ·exact op_5 h
 ·exact op_6 h
 ·exact op_7 h
 ·exact op_8 h
 ·exact op_9 h
 ·exact op_10 h
 ·exact op_11 h
end Go.Proofs.YtdiflpbioohddaaDoor
end
section
namespace Go.Proofs.YtdiflpbioohddaaDoor
open Go.RowKit
def TyAt (w : World) (q : Nat) (t : TypeId) : Prop := ∃ cs r, w.heap[q]? = some (.cells cs t r)
theorem TyAt.grow {w w' : World} {q : Nat} {t : TypeId} (h : TyAt w q t) (hq : q < w.heap.size) (hb : Below w.heap.size w w') : TyAt w' q t := by
 obtain ⟨cs, r, e⟩ := h
 exact ⟨cs, r, (hb.block q hq).trans e⟩
theorem own_ne {base E sz n q : Nat} {t : TypeId} {w : World} {v : Value} {xs : List Value} (h : w.ownsRow base E sz v n xs) (ht : TyAt w q t) (hne : t ≠ E) : v.ownBlock ≠ some q := fun e => by
 obtain ⟨cs, r, hq⟩ := ht
 rcases h.2 with ⟨rfl, -⟩ | ⟨g, cap, cur, rfl, -, hh, -⟩
 ·cases e
 ·injection e with e
  have e : g = q := e
  subst e
  rw [hq] at hh
  injection hh with hh
  injection hh with _ hh _
  exact hne hh
end Go.Proofs.YtdiflpbioohddaaDoor
end
section
namespace Go.Proofs.YtdiflpbioohddaaDoor
open Go.RowKit
theorem own_ge {b : Nat} {w : World} {v : Value} {l : List Int} (h : Own b w v l) : ∀ q, v.ownBlock = some q → b ≤ q := fun q e => by
 obtain ⟨-, q2 | ⟨q', cap, cur, e', hg, -⟩⟩ := h.1
 ·rw [q2.1] at e; cases e
 ·rw [e'] at e
  injection e with e
  subst e
  exact hg
def MacF (b : Nat) (w : World) (z : MacA) : Prop := (z.m.regs ≠ [] → ∀ a, z.GA = some a → b ≤ a.block ∧ TyAt w a.block 3) ∧ (z.m.mem ≠ [] → ∀ a, z.MA = some a → b ≤ a.block ∧ TyAt w a.block 3) ∧ (z.m.heads ≠ [] → ∀ a, z.HA = some a → b ≤ a.block ∧ TyAt w a.block 3)
theorem TyAt.lt {w : World} {q : Nat} {t : TypeId} (h : TyAt w q t) : q < w.heap.size := by
 obtain ⟨cs, r, e⟩ := h
 exact (Array.getElem?_eq_some_iff.1 e).1
theorem TyAt.kept {w w' : World} {q g : Nat} {t : TypeId} (h : TyAt w q t) (hg : w.grownBy w' (some g)) (hn : q ≠ g) : TyAt w' q t := by
 have hl := h.lt
 obtain ⟨cs, r, e⟩ := h
 exact ⟨cs, r, (hg.block q hl (fun e => hn (by injection e))).trans e⟩
theorem TyAt.apart {w : World} {q g : Nat} {s t : TypeId} (h : TyAt w q s) (h' : TyAt w g t) (hn : s ≠ t) : q ≠ g := by
 rintro rfl
 obtain ⟨cs, r, e⟩ := h
 obtain ⟨cs', r', e'⟩ := h'
 rw [e] at e'
 injection e' with e'
 injection e' with _ e' _
 exact hn e'
theorem MacF.map {b b' : Nat} {w w' : World} {z : MacA} (h : MacF b w z) (f : ∀ a : Addr, b ≤ a.block → TyAt w a.block 3 → b' ≤ a.block ∧ TyAt w' a.block 3) : MacF b' w' z :=
 ⟨fun n a e => f a (h.1 n a e).1 (h.1 n a e).2, fun n a e => f a (h.2.1 n a e).1 (h.2.1 n a e).2, fun n a e => f a (h.2.2 n a e).1 (h.2.2 n a e).2⟩
theorem MacF.grow {b : Nat} {w w' : World} {z : MacA} (h : MacF b w z) (hb : Below w.heap.size w w') : MacF b w' z := h.map fun _ q t => ⟨q, t.grow t.lt hb⟩
theorem MacF.mono {b c : Nat} {w : World} {z : MacA} (h : MacF c w z) (hb : b ≤ c) : MacF b w z := h.map fun _ q t => ⟨Nat.le_trans hb q, t⟩
theorem MacAt.away {w w' : World} {z : MacA} {b g : Nat} (h : MacAt w z) (hf : MacF b w z) (hg : w.grownBy w' (some g)) (hn : ∀ a : Addr, b ≤ a.block → TyAt w a.block 3 → a.block ≠ g) : MacAt w' z ∧ MacF b w' z :=
 ⟨⟨h.1.kept hg fun n a e q => by injection q with q; exact hn a (hf.1 n a e).1 (hf.1 n a e).2 q, h.2.1.kept hg fun n a e q => by injection q with q; exact hn a (hf.2.1 n a e).1 (hf.2.1 n a e).2 q, h.2.2.kept hg fun n a e q => by injection q with q; exact hn a (hf.2.2 n a e).1 (hf.2.2 n a e).2 q⟩,
  hf.map fun a q t => ⟨q, t.kept hg (hn a q t)⟩⟩
theorem MacAt.kept {w w' : World} {z : MacA} {b g : Nat} (h : MacAt w z) (hf : MacF b w z) (hg : w.grownBy w' (some g)) (hlt : g < b) : MacAt w' z ∧ MacF b w' z := h.away hf hg fun _ q _ => by omega
theorem MacAt.ty {w w' : World} {z : MacA} {b g : Nat} (h : MacAt w z) (hf : MacF b w z) (hg : w.grownBy w' (some g)) (ht : TyAt w g 32) : MacAt w' z ∧ MacF b w' z := h.away hf hg fun _ _ t => t.apart ht (by decide)
theorem MacAt.off {w0 w w' : World} {z : MacA} {b g : Nat} (h0 : MacF b w0 z) (hle : w0.heap.size ≤ g) (h : MacAt w z) (hf : MacF b w z) (hg : w.grownBy w' (some g)) : MacAt w' z ∧ MacF b w' z := by
 have q1 := fun n a e => (h0.1 n a e).2.lt
 have q2 := fun n a e => (h0.2.1 n a e).2.lt
 have q3 := fun n a e => (h0.2.2 n a e).2.lt
 exact ⟨⟨h.1.kept hg fun n a e q => by injection q with q; have := q1 n a e; omega, h.2.1.kept hg fun n a e q => by injection q with q; have := q2 n a e; omega, h.2.2.kept hg fun n a e q => by injection q with q; have := q3 n a e; omega⟩,
  fun n a e => ⟨(hf.1 n a e).1, (hf.1 n a e).2.kept hg (by have := q1 n a e; omega)⟩, fun n a e => ⟨(hf.2.1 n a e).1, (hf.2.1 n a e).2.kept hg (by have := q2 n a e; omega)⟩, fun n a e => ⟨(hf.2.2 n a e).1, (hf.2.2 n a e).2.kept hg (by have := q3 n a e; omega)⟩⟩
theorem own_ty {b : Nat} {w : World} {A : Option Addr} {n c : Nat} {l : List Int} (h : Own b w (.slice A n c) l) : ∀ a, A = some a → b ≤ a.block ∧ TyAt w a.block 3 := fun a ha => by
 obtain ⟨-, q2 | ⟨q, cap, cur, e, hg, hh, -⟩⟩ := h.1
 ·injection q2.1 with e
  rw [ha] at e; cases e
 ·injection e with e
  rw [ha] at e
  injection e with e
  subst e
  exact ⟨hg, _, _, hh⟩
end Go.Proofs.YtdiflpbioohddaaDoor
end
section
namespace Go.Proofs.YtdiflpbioohddaaDoor
open Go.RowKit
theorem add_cells {b k : Nat} : (⟨b, 0, none⟩ : Addr).add k = ⟨b, k, none⟩ := by
 unfold Addr.add
 by_cases h0 : k = 0 <;> simp [h0]
theorem Row.lit {w : World} {cs : Array Value} {t : TypeId} : Row (w.alloc (.cells cs t)) (w.alloc (.cells cs t)).heap.size (some ⟨w.heap.size, 0, none⟩) cs.toList := fun k v hk => by
 refine ⟨_, rfl, by simp, ?_⟩
 rw [add_cells]
 simpa [go_sem] using hk
theorem Ints.lit {w : World} {cs : Array Value} {t : TypeId} {l : List Int} (hc : cs.toList = l.map (Value.int .i64)) (hl : l.all (fun x => decide (-9223372036854775808 ≤ x) && decide (x ≤ 9223372036854775807)) = true) : Ints (w.alloc (.cells cs t)) (some ⟨w.heap.size, 0, none⟩) l := by
 refine ⟨?_, fun x hx => by have := List.all_eq_true.1 hl x hx; simp at this; exact this⟩
 rw [← hc]
 exact Row.lit
theorem rf_Same (A B : Option Addr) (l m : List Int) (c d : Nat) (w : World) (hm : m.length ≤ 9223372036854775807) (he : l = m) (h : Ints w A l) (g : Ints w B m) :
  Calls Tryd.prog 26 #[.slice A l.length c, .slice B m.length d] w fun e w' => e = .returned (.bool true) ∧ Below w.heap.size w w' :=
 (rf_SameInts A B l m c d w hm h g).mono fun e w' hh => ⟨by rw [hh.1, he]; simp, hh.2⟩
end Go.Proofs.YtdiflpbioohddaaDoor
end
section
namespace Go.Proofs.YtdiflpbioohddaaDoor
open Go.RowKit
theorem tr_best (l : List Ins) : Tr l (bestC l) := by
 unfold bestC; split
 ·exact Tr.refl l
 ·exact Tr.greedy l
theorem lst_ten (u : PrgA) : u.lst.length = 10 := rfl
theorem lst_nine {u : PrgA} {n : Nat} (h : u.d.code.length = n) : u.lst[9]? = some (.slice u.CA n u.cc) := by rw [← h]; rfl
end Go.Proofs.YtdiflpbioohddaaDoor
end
section
namespace Go.Proofs.YtdiflpbioohddaaDoor
open Go.RowKit
def macZ : Mac := ⟨[], [], [], 0, 0⟩
theorem built_mac3 (A B H : Option Addr) (an ac bn bc hn hc : Nat) : Tryd.prog.built 32 [(0, .slice A an ac), (1, .slice B bn bc), (2, .slice H hn hc)] = some #[.slice A an ac, .slice B bn bc, .slice H hn hc, .int .i64 0, .int .i64 0] := by kernel_rfl
end Go.Proofs.YtdiflpbioohddaaDoor
end
