/- Several texts in one: Cx Cy Cz. -/
import Derived.Test.YtdiflpbioohddaaDoortS22toS28
import Derived.Test.YtdiflpbioohddaaDoortS10toTg
import Derived.Test.YtdiflpbioohddaaDoortY3toS26
import Derived.Test.YtdiflpbioohddaaDoortE1toI0
import Derived.Test.YtdiflpbioohddaaDoortS15toS17
import Derived.Test.YtdiflpbioohddaaDoortG9toVc
set_option linter.unusedVariables false
set_option linter.unusedSimpArgs false
section
namespace Go.Proofs.YtdiflpbioohddaaDoor
open Go.RowKit
def RetMacO (w : World) (rn : Nat) (e : Ending) (w' : World) : Prop := ∃ (g0 g1 : Nat) (A5 : Option Addr) (c5 : Nat), e = .returned (.tuple #[.agg #[.slice (some ⟨g0, 0, none⟩) 8 8, .slice (some ⟨g1, 0, none⟩) 128 128, .slice A5 rn c5, .int .i64 0, .int .i64 0], .int .i64 0]) ∧ g0 ≠ g1 ∧
 Own w.heap.size w' (.slice (some ⟨g0, 0, none⟩) 8 8) (List.replicate 8 0) ∧ Own w.heap.size w' (.slice (some ⟨g1, 0, none⟩) 128 128) (List.replicate 128 0) ∧ Own w.heap.size w' (.slice A5 rn c5) (List.replicate rn 0) ∧ Below w.heap.size w w'
theorem own_cur {base g n c : Nat} {w : World} {l : List Int} (h : Own base w (.slice (some ⟨g, 0, none⟩) n c) l) : ∃ cur, w.heap[g]? = some (.cells cur 3 (0, 0)) ∧ cur.size = c := by
 rcases h.1.2 with ⟨e, -⟩ | ⟨q, cap, cur, e, hb, hg, hc, -, hs, ht⟩
 ·cases e
 ·injection e with e e4 e5
  injection e with e
  injection e with e
  subst e e5
  exact ⟨cur, hg, by omega⟩
theorem own_apart8 {base base' g0 g1 : Nat} {w : World} {l m : List Int} (h0 : Own base w (.slice (some ⟨g0, 0, none⟩) 8 8) l) (h1 : Own base' w (.slice (some ⟨g1, 0, none⟩) 128 128) m) : g0 ≠ g1 := fun e => by
 subst e
 obtain ⟨c0, a0, b0⟩ := own_cur h0
 obtain ⟨c1, a1, b1⟩ := own_cur h1
 rw [a0] at a1
 injection a1 with a1
 injection a1 with a1
 subst a1
 omega
def startG (B gp rn : Nat) (V : Value) : Nat → Value → World → Prop
 | 0, v, w => ∃ g, v = .slice (some ⟨g, 0, none⟩) 8 8 ∧ Own B w (.slice (some ⟨g, 0, none⟩) 8 8) (List.replicate 8 0)
 | 1, v, w => ∃ g, v = .slice (some ⟨g, 0, none⟩) 128 128 ∧ Own B w (.slice (some ⟨g, 0, none⟩) 128 128) (List.replicate 128 0)
 | 2, v, _ => v = .pointer (some ⟨gp, 8, none⟩)
 | 3, v, _ => v = V
 | 4, v, _ => v = .int .i64 (rn : Int)
 | 5, v, w => Own B w v (List.replicate rn 0)
 | 6, v, w => ∃ a b c, v = .agg #[.slice (some ⟨a, 0, none⟩) 8 8, .slice (some ⟨b, 0, none⟩) 128 128, c, .int .i64 0, .int .i64 0] ∧ Own B w (.slice (some ⟨a, 0, none⟩) 8 8) (List.replicate 8 0) ∧ Own B w (.slice (some ⟨b, 0, none⟩) 128 128) (List.replicate 128 0) ∧ Own B w c (List.replicate rn 0)
 | _, _, _ => False
theorem startG_keep {B gp rn : Nat} {V : Value} {w w' : World} (h : Below w.heap.size w w') : ∀ i v, startG B gp rn V i v w → startG B gp rn V i v w'
 | 0, _, ⟨g, e, h1⟩ | 1, _, ⟨g, e, h1⟩ => ⟨g, e, h1.grow h⟩
 | 5, _, e => Own.grow e h
 | 2, _, e | 3, _, e | 4, _, e => e
 | 6, _, ⟨a, b, c, e, h1, h2, h3⟩ => ⟨a, b, c, e, h1.grow h, h2.grow h, h3.grow h⟩
 | n + 7, _, e => e.elim
set_option maxRecDepth 100000 in
theorem copy_part {ops : Array Oper} {rest : List Oper} {o : Oper} {a : Act} {Q : Exit → Act → World → Prop} {w : World} (hgd : o.guard = none) (d s : Operand) (ho : o.op = .call { callee := .builtin .copy, args := #[d, s], argTypes := #[25, 25] })
  {base g m n c : Nat} {z l : List Int} {A : Option Addr} (hd : a.eval d = .slice (some ⟨g, 0, none⟩) m m) (hs : a.eval s = .slice A n c) (hown : Own base w (.slice (some ⟨g, 0, none⟩) m m) z) (hz : z.length = m) (hI : Ints w A l) (hl : l.length = n) (hn : n ≤ m)
  (h : ∀ w', Own base w' (.slice (some ⟨g, 0, none⟩) m m) (l ++ z.drop n) → w.grownBy w' (some g) → wpList Tryd.prog ops Q rest (a.put o.dst (.int .i64 n)) w') : wpList Tryd.prog ops Q (o :: rest) a w := by
 subst hl
 have hu := Tryd.underlying25
 have hsz : (Tryd.prog.info? 3).map (·.size) = some 1 := by kernel_rfl
 have h0 := hown
 obtain ⟨⟨hlen, hrow⟩, hall⟩ := hown
 rcases hrow with ⟨e, _⟩ | ⟨g', cap, cur, e, hbg, hg, hnc, hcm, hcs, htake⟩
 ·cases e
 ·injection e with e1 e2 e3
  injection e1 with e1
  injection e1 with e1
  subst e1 e3
  cases l with
  | nil =>
   refine wpList_copy_nothing hgd d s _ _ ho 3 hu hsz _ _ _ _ _ _ hd hs (by simp) ?_
   exact h w (by simpa using h0) (grown_refl w _)
  | cons y t =>
   obtain ⟨ad, _, rfl, _⟩ := hI.at_ (k := 0) (by simp)
   refine wpList_copy_own hgd d s _ _ ho 3 hu hsz g 0 _ _ ad _ _ hd hs cur 3 hg ((y :: t).map (Value.int .i64)) (by rw [List.length_map]; simp only [Nat.min_def]; split <;> omega) (fun j v hv => ?_) (by rw [List.length_map]; omega) (fun v hv => ?_) ?_
   ·obtain ⟨ad', e', _, hc⟩ := hI.1 j v hv
    injection e' with e'; subst e'; exact hc
   ·obtain ⟨q, _, rfl⟩ := List.mem_map.1 hv; rfl
   ·have hct : cur.toList = z.map (Value.int .i64) := by rw [← htake, List.take_of_length_le (by rw [Array.length_toList]; omega)]
    have hcur : (cur.toList.take 0 ++ ((y :: t).map (Value.int .i64) ++ cur.toList.drop (0 + ((y :: t).map (Value.int .i64)).length))) = ((y :: t) ++ z.drop (y :: t).length).map (Value.int .i64) := by
     rw [hct, List.take_zero, List.nil_append, Nat.zero_add, List.length_map, List.map_append, List.map_drop]
    rw [hcur]
    have e3 : goInt ((y :: t).map (Value.int .i64)).length = .int .i64 ((y :: t).length : Nat) := by rw [List.length_map]; rfl
    rw [e3]
    have hll : ((y :: t) ++ z.drop (y :: t).length).length = m := by rw [List.length_append, List.length_drop]; omega
    refine h _ ⟨⟨by rw [List.length_map]; omega, .inr ⟨g, _, (((y :: t) ++ z.drop (y :: t).length).map (Value.int .i64)).toArray, by rw [hll], hbg, setRow_heap w g _ _ _ _ hg, by omega, hcm, by rw [List.size_toArray, List.length_map]; omega, ?_⟩⟩, fun x hx => ?_⟩ ⟨rfl, rfl, rfl, by simp [World.setRow], fun k _ hk => setRow_other w g k _ (fun e => hk (by rw [e]))⟩
    ·exact List.take_of_length_le (by rw [List.length_map]; omega)
    ·rcases List.mem_append.1 hx with hx | hx
     ·exact hI.2 x hx
     ·exact hall x (List.mem_of_mem_drop hx)
set_option maxRecDepth 100000 in
set_option maxHeartbeats 4000000 in
theorem sm_StartO (u : PrgA) (w : World) (hf : FormsAt w) (hp : PrgAt w u) (hr9 : u.d.rg.length ≤ 9223372036854775807) (hc9 : u.d.code.length ≤ 9223372036854775807) (hv : validB u.d = true) : Calls Tryd.prog 41 #[u.v] w (RetMacO w u.d.rg.length) := by
 obtain ⟨V, hV⟩ : ∃ b, validB u.d = b := ⟨_, rfl⟩
 have hVt : V = true := hV.symm.trans hv
 have CV : Hid (∀ w1, Below w.heap.size w w1 → Calls Tryd.prog 39 #[.agg u.lst.toArray] w1 fun e w' => e = .returned (.bool V) ∧ Below w1.heap.size w1 w') := Lib.hid fun w1 hb => by have h := pr_Valid u w1 (hf.grow hb) (hp.grow hb) hr9 hc9 hV; unfold PrgA.v at h; exact h
 have ev : u.v = .agg u.lst.toArray := rfl
 rw [ev]
 obtain ⟨rn, hrn⟩ : ∃ k, u.d.rg.length = k := ⟨_, rfl⟩
 have hrl : V = true → rn ≤ 8 := fun e => by rw [← hrn]; exact (valid_rl (hV.trans e)).1
 have HRN := Lib.hid hrn
 have HV := Lib.hid hV
 clear ev hp hrn hV hr9 hc9
 go_enter Tryd.func41, Tryd.ntmps41
 go_upto_region 1 with fail
 obtain ⟨bp, br, hb0⟩ := entryPM w u.lst zeros5 _ rfl
 change Code.wp _ _ _ _ ((w.alloc (.cells u.lst.toArray 41)).alloc (.cells zeros5.toArray 32))
 generalize ((w.alloc (.cells u.lst.toArray 41)).alloc (.cells zeros5.toArray 32)) = W0 at bp br hb0 ⊢
 have HB0 := Lib.hid hb0
 have HP0 := Lib.hid bp
 have HR0 := Lib.hid br
 clear hb0 bp br
 obtain ⟨dsc, hd1, hd2⟩ := row_mac
 subst hVt
 have hr8 := hrl rfl
 clear hrl
 go_upto_region 3 with (first
  | ((with_reducible show wpList _ _ _ (Oper.mk _ (.load 41 _) _ _ _ _ :: _) _ _); refine ld_prg HP0.out (lst_ten u) rfl _ rfl rfl ?_)
  | (go_at_call 39; (with_reducible refine (CV.out _ HB0.out).mono ?_); rintro e1 w1 ⟨rfl, hb1⟩))
 have HB1 := Lib.hid (below_then HB0.out hb1)
 have HP1 := Lib.hid (HP0.out.keep hb1)
 have HR1 := Lib.hid (HR0.out.keep hb1)
 clear hb1 HB0 HP0 HR0 CV
 obtain ⟨B, hB⟩ : ∃ B, w.heap.size + 2 = B := ⟨_, rfl⟩
 have HBE := Lib.hid hB
 have HBW : Hid (B ≤ w1.heap.size) := by have := HR1.out.1; rw [← hB]; exact Lib.hid (by omega)
 clear hB
 refine wp_region_grow 7 (fun w' => Below w1.heap.size w1 w') (fun a b => Below a.heap.size a b) (startG B w.heap.size rn (.slice u.RA rn u.rc)) (by kernel_rfl) (by kernel_rfl) (Below.refl _ _).drew (fun a b h1 h2 => ⟨below_then h1 h2, fun i _ v => startG_keep h2 i v⟩) ?_ ?_
 ·refine ⟨?_, ?_, ?_, ?_, ?_, ?_, ?_, trivial⟩
  ·intro vs w5 hC hF
   simp [stL, depsB, Region.binds, Act.put]
   refine mk_int rfl _ _ rfl w5.heap.size 8 rfl rfl rfl (by decide) (Nat.le_refl _) ?_
   intro w6 ho6 hb6
   exact wpList_nil ⟨rfl, _, rfl, ⟨_, rfl, ho6.base (by have := HBW.out; have := hC.size; omega)⟩, hb6⟩
  ·intro vs w5 hC hF
   simp [stL, depsB, Region.binds, Act.put]
   refine mk_int rfl _ _ rfl w5.heap.size 128 rfl rfl rfl (by decide) (Nat.le_refl _) ?_
   intro w6 ho6 hb6
   exact wpList_nil ⟨rfl, _, rfl, ⟨_, rfl, ho6.base (by have := HBW.out; have := hC.size; omega)⟩, hb6⟩
  ·intro vs w5 hC hF
   simp [stL, depsB, Region.binds, Act.put]
   go_wp2_with fail
   exact ⟨rfl, Below.refl _ _⟩
  ·intro vs w5 hC hF
   have x8 : w5.cell? ⟨w.heap.size, 8, none⟩ = some (.slice u.RA rn u.rc) := ((HP1.out.keep hC).2.1 8).trans (lst_eight HRN.out)
   have e2 : vs 2 = .pointer (some ⟨w.heap.size, 8, none⟩) := hF 2 (by decide)
   simp [stL, depsB, Region.binds, Act.put, e2]
   go_wp2_with fail
   exact ⟨rfl, Below.refl _ _⟩
  ·intro vs w5 hC hF
   have e3 : vs 3 = .slice u.RA rn u.rc := hF 3 (by decide)
   simp [stL, depsB, Region.binds, Act.put, e3]
   go_wp2_with fail
   exact ⟨rfl, Below.refl _ _⟩
  ·intro vs w5 hC hF
   have e4 : vs 4 = .int .i64 (rn : Int) := hF 4 (by decide)
   simp [stL, depsB, Region.binds, Act.put, e4]
   refine mk_int rfl _ _ rfl w5.heap.size rn rfl rfl rfl (by omega) (Nat.le_refl _) ?_
   intro w6 ho6 hb6
   exact wpList_nil ⟨rfl, _, rfl, ho6.base (by have := HBW.out; have := hC.size; omega), hb6⟩
  ·intro vs w5 hC hF
   obtain ⟨g0, e0, h0⟩ : ∃ g, vs 0 = .slice (some ⟨g, 0, none⟩) 8 8 ∧ Own B w5 (.slice (some ⟨g, 0, none⟩) 8 8) (List.replicate 8 0) := hF 0 (by decide)
   obtain ⟨g1, e1, h1⟩ : ∃ g, vs 1 = .slice (some ⟨g, 0, none⟩) 128 128 ∧ Own B w5 (.slice (some ⟨g, 0, none⟩) 128 128) (List.replicate 128 0) := hF 1 (by decide)
   have h5 : Own B w5 (vs 5) (List.replicate rn 0) := hF 5 (by decide)
   obtain ⟨A5, c5, e5, -⟩ := own_form h5.1
   rw [e5] at h5
   simp only [List.length_replicate] at e5 h5
   simp [stL, depsB, Region.binds, Act.put, e0, e1, e5]
   refine wp_bldR rfl 32 _ rfl _ rfl (built_mac3 (some ⟨g0, 0, none⟩) (some ⟨g1, 0, none⟩) A5 _ 8 _ 128 _ c5) ?_
   exact wpList_nil ⟨rfl, _, rfl, ⟨_, _, _, rfl, h0, h1, h5⟩, Below.refl _ _⟩
 intro vs w5 hC hF
 obtain ⟨g0, g1, c, e6, h0, h1, h5⟩ := hF 6 (by decide)
 obtain ⟨A5, c5, rfl, -⟩ := own_form h5.1
 simp only [List.length_replicate] at e6 h5
 show wpList Tryd.prog _ _ [_, _] _ _
 simp [stL, Act.put, e6]
 clear hF e6
 refine st_mac (L := [.slice (some ⟨g0, 0, none⟩) 8 8, .slice (some ⟨g1, 0, none⟩) 128 128, .slice A5 rn c5, .int .i64 0, .int .i64 0]) (HR1.out.keep hC) rfl rfl rfl rfl _ _ rfl rfl rfl ?_
 intro w9 hb9 hg9
 have HB9 := Lib.hid (grown_toI (below_then HB1.out hC) hg9 (by omega))
 have hgB : w.heap.size + 1 < B := by have := HBE.out; omega
 have O0 := Lib.hid (own_setsI h0.1 hg9 hgB)
 have O1 := Lib.hid (own_setsI h1.1 hg9 hgB)
 have O5 := Lib.hid (own_setsI h5.1 hg9 hgB)
 have HZ : Hid (∀ n, ∀ x ∈ List.replicate n (0 : Int), I64 x) := Lib.hid fun n x hx => by rw [(List.mem_replicate.1 hx).2]; unfold I64; omega
 clear h0 h1 h5 hg9 hgB hC
 go_wp2_with fail
 refine bodyPost_ret (resCT rfl _ _ w9 (g := w.heap.size + 1) (v := .agg [.slice (some ⟨g0, 0, none⟩) 8 8, .slice (some ⟨g1, 0, none⟩) 128 128, .slice A5 rn c5, .int .i64 0, .int .i64 0].toArray) rfl (res_box _ hb9 dsc hd1 hd2 size_mac)) rfl ?_
 have i0 : Own B w9 (.slice (some ⟨g0, 0, none⟩) 8 8) (List.replicate 8 0) := ⟨O0.out, HZ.out 8⟩
 have i1 : Own B w9 (.slice (some ⟨g1, 0, none⟩) 128 128) (List.replicate 128 0) := ⟨O1.out, HZ.out 128⟩
 have i5 : Own B w9 (.slice A5 rn c5) (List.replicate rn 0) := ⟨O5.out, HZ.out rn⟩
 rw [HRN.out]
 exact ⟨g0, g1, A5, c5, rfl, own_apart8 i0 i1, i0.base (by have := HBE.out; omega), i1.base (by have := HBE.out; omega), i5.base (by have := HBE.out; omega), HB9.out⟩
end Go.Proofs.YtdiflpbioohddaaDoor
end
section
namespace Go.Proofs.YtdiflpbioohddaaDoor
open Go.RowKit
def embM (s : List Int) : Mac := ⟨List.replicate 8 0, s ++ (List.replicate 128 0).drop s.length, [], 0, 0⟩
def embE (n : NetD) (s : List Int) : Int := if (s.length : Int) = n.st then if n.fit s = true then 0 else 17 else 1
def RetMacC (w : World) (m : Mac) (er : Int) (e : Ending) (w' : World) : Prop := ∃ x : MacA, x.m = m ∧ e = .returned (.tuple #[x.v, .int .i64 er]) ∧ MacAt w' x ∧ x.m.mem.length ≤ x.mc ∧ Below w.heap.size w w'
def RetEmb (w : World) (n : NetD) (s : List Int) (e : Ending) (w' : World) : Prop := RetMacC w (if embE n s = 0 then embM s else macZ) (embE n s) e w'
def RetMacF (w : World) (m : Mac) (er : Int) (e : Ending) (w' : World) : Prop := ∃ x : MacA, x.m = m ∧ e = .returned (.tuple #[x.v, .int .i64 er]) ∧ MacAt w' x ∧ x.m.mem.length ≤ x.mc ∧ Below w.heap.size w w' ∧ MacF w.heap.size w' x
def RetEmbF (w : World) (n : NetD) (s : List Int) (e : Ending) (w' : World) : Prop := RetMacF w (if embE n s = 0 then embM s else macZ) (embE n s) e w'
theorem entryNM (w : World) (L M : List Value) {t u : TypeId} : ∀ W, W = ((w.alloc (.cells L.toArray t)).alloc (.cells M.toArray u)) → Box W w.heap.size L ∧ Box W (w.heap.size + 1) M ∧ Below w.heap.size w W := fun W hW => by
 subst hW
 have h1 : Box (w.alloc (.cells L.toArray t)) w.heap.size L := Box.new rfl
 have h2 : Box ((w.alloc (.cells L.toArray t)).alloc (.cells M.toArray u)) (w.heap.size + 1) M := Box.new (by simp)
 exact ⟨h1.alloc _, h2, ((Below.refl w.heap.size w).alloc (Nat.le_refl _) _).alloc (by simp) _⟩
set_option maxRecDepth 100000 in
set_option maxHeartbeats 8000000 in
theorem cg_Embed_okF (n : NetD) (NA XA SA : Option Addr) (nc xc sn sc : Nat) (s : List Int) (w : World) (hf : FormsAt w) (hn : NetAt w n NA XA) (hok : n.ok = true) (hv : validB n.prg = true) (hS : Ints w SA s) (hsn : s.length = sn) (hs9 : sn ≤ 9223372036854775807) :
  Calls Tryd.prog 11 #[.agg (n.lst NA nc XA xc).toArray, .slice SA sn sc] w (RetEmbF w n s) := by
 have CC : Hid (∀ w1, Below w.heap.size w w1 → Calls Tryd.prog 10 #[.agg (n.lst NA nc XA xc).toArray] w1 (RetPrgE w1 n.prg 0)) := fun w1 hb => cg_Compile_ok n NA XA nc xc w1 (hf.grow hb) (hn.grow hb) hok hv
 obtain ⟨-, -, ⟨p2, p3⟩, p4, p5, -, -, -, -⟩ := netB_parts hok
 have HLL : Hid ((n.lst NA nc XA xc).length = 12) := Lib.hid rfl
 have HLE : Hid (∀ W, Box W w.heap.size (n.lst NA nc XA xc) → (W.cell? ⟨w.heap.size, 0, none⟩ = some (.int .i64 n.d0) ∧ W.cell? ⟨w.heap.size, 1, none⟩ = some (.int .i64 n.d1) ∧ W.cell? ⟨w.heap.size, 2, none⟩ = some (.int .i64 n.d2) ∧ W.cell? ⟨w.heap.size, 3, none⟩ = some (.int .i64 n.d3)) ∧ W.cell? ⟨w.heap.size, 8, none⟩ = some (.int .i64 n.st)) := Lib.hid fun W h => ⟨⟨h.2.1 0, h.2.1 1, h.2.1 2, h.2.1 3⟩, h.2.1 8⟩
 have CF : Hid (∀ v w1, Calls Tryd.prog 40 #[.agg #[.int .i64 n.d0, .int .i64 n.d1, .int .i64 n.d2, .int .i64 n.d3], .int .i64 v] w1 fun e w' => e = .returned (.bool (fitsW n.d0 n.d1 n.d2 n.d3 v)) ∧ Below w1.heap.size w1 w') := Lib.hid fun v w1 => fx_Fits n.d0 n.d1 n.d2 n.d3 v w1
 have HS := Lib.hid hS
 have HSN := Lib.hid hsn
 have HF := Lib.hid hf
 have HV := Lib.hid hv
 have HP5 := Lib.hid p5
 generalize n.lst NA nc XA xc = L at CC HLL HLE ⊢
 clear hS hsn hf hv hn hok p5 p4
 go_enter Tryd.func11, Tryd.ntmps11
 go_upto_region 1 with fail
 obtain ⟨bn, bp, hb0⟩ := entryNM (t := 27) (u := 32) w L zeros5 _ rfl
 change Code.wp _ _ _ _ ((w.alloc (.cells L.toArray 27)).alloc (.cells zeros5.toArray 32))
 generalize ((w.alloc (.cells L.toArray 27)).alloc (.cells zeros5.toArray 32)) = W0 at bn bp hb0 ⊢
 have HBN := Lib.hid bn
 have HBP := Lib.hid bp
 have HB0 := Lib.hid hb0
 clear bn bp hb0
 go_upto_region 4 with (first
  | ((with_reducible show wpList _ _ _ (Oper.mk _ (.load 27 _) _ _ _ _ :: _) _ _); refine ld_netB1 HBN.out (by simpa using HLL.out) rfl _ rfl rfl ?_)
  | (go_at_call 10; (with_reducible refine (CC.out _ HB0.out).mono ?_); rintro e1 w1 ⟨u, hud, rfl, hpu, hb1⟩; have HB1 := Lib.hid hb1; have HUD := Lib.hid hud; have HPU := Lib.hid hpu; clear hb1 hpu hud)
  | ((with_reducible show wpList _ _ _ (Oper.mk none (.store 41 _ _) _ _ _ _ :: _) _ _); refine st_prgB (M := zeros10) (Box.new rfl) rfl (L := u.lst) rfl rfl rfl _ _ rfl rfl rfl ?_; intro w2 hb2 hg2; have HBQ2 := Lib.hid hb2; have HG2 := Lib.hid hg2; clear hg2 hb2))
 have hb1 := below_then HB0.out HB1.out
 have hba : Below w1.heap.size w1 w2 := grown_to ((Below.refl w1.heap.size w1).alloc (Nat.le_refl _) _) HG2.out (Nat.le_refl _)
 have HB2 := Lib.hid (below_then hb1 hba)
 have HBN2 := Lib.hid ((HBN.out.keep HB1.out).keep hba)
 have HBP2 := Lib.hid ((HBP.out.keep HB1.out).keep hba)
 have HPU2 := Lib.hid (HPU.out.grow hba)
 obtain ⟨gQ, hgQ⟩ : ∃ g, g = w1.heap.size := ⟨_, rfl⟩
 have HQL : Hid (w.heap.size + 2 ≤ gQ) := Lib.hid (by rw [hgQ]; have := (HBP.out.keep HB1.out).1; omega)
 rw [← hgQ] at HBQ2 ⊢
 clear hb1 hba HG2 HB1 HBN HBP HPU HB0 CC hgQ
 obtain ⟨⟨z0, z1, z2, z3⟩, z8⟩ := HLE.out _ HBN2.out
 obtain ⟨st, hst⟩ : ∃ t, n.st = t := ⟨_, rfl⟩
 have HST := Lib.hid hst
 rw [hst] at z8 p2 p3
 clear hst
 by_cases hlen : (sn : Int) = st
 ·subst hlen
  have HFI0 : Hid (n.fit (s.take 0) = true) := Lib.hid rfl
  have HFA : Hid (n.fit s = true → embE n s = 0) := Lib.hid fun h => by unfold embE; rw [HSN.out, HST.out, if_pos rfl, if_pos h]
  have HFB : Hid (n.fit s = false → embE n s = 17) := Lib.hid fun h => by unfold embE; rw [HSN.out, HST.out, if_pos rfl, h]; rfl
  have HBK0 : Hid (Below w2.heap.size w2 w2) := Lib.hid (Below.refl _ _)
  clear HLL
  go_wp2_with fail
  clear z0 z1 z2 z3 z8
  go_loopw [28] (fun i wr => ∃ k : Nat, k ≤ sn ∧ i = .int .i64 k ∧ Hid (n.fit (s.take k) = true) ∧ Hid (Below w2.heap.size w2 wr)) (fun i _ => sn - (intOf i).toNat)
  case atStart => exact ⟨0, Nat.zero_le _, rfl, HFI0, HBK0⟩
  case round =>
   obtain ⟨k, hk, rfl, HFI, HBK⟩ := hrel
   by_cases hlt : k < sn
   ·obtain ⟨ad, x, rfl, hb, hx, hc, i1, i2⟩ := ((HS.out.grow HB2.out).grow HBK.out).at_ (k := k) (by rw [HSN.out]; exact hlt)
    obtain ⟨⟨z0, z1, z2, z3⟩, z8⟩ := HLE.out _ (HBN2.out.keep HBK.out)
    have x0 : (0 : Int) ≤ (k : Int) := by omega
    have x1 : (k : Int) < (sn : Int) := by omega
    have HSU : Hid (n.fit (s.take (k + 1)) = (n.fit (s.take k) && fitsW n.d0 n.d1 n.d2 n.d3 x)) := Lib.hid (by
     unfold NetD.fit
     rw [List.take_add_one, hx, List.all_append]
     simp)
    have HXM := Lib.hid (List.mem_of_getElem? hx)
    clear hx
    obtain ⟨fb, hfb⟩ : ∃ b, fitsW n.d0 n.d1 n.d2 n.d3 x = b := ⟨_, rfl⟩
    have HFBx := Lib.hid hfb
    clear hfb
    cases fb with
    | true =>
     go_wp2_with (go_at_call 40; (with_reducible refine (CF.out _ _).mono ?_); rw [HFBx.out]; rintro e5 w5 ⟨rfl, hb5⟩)
     go_roundw
     case rel => exact ⟨k + 1, by omega, by go_num, Lib.hid (by rw [HSU.out, HFI.out, HFBx.out]; rfl), Lib.hid (below_then HBK.out hb5)⟩
     case measure => simp [intOf]; omega
    | false =>
     have HE : Hid (embE n s = 17) := Lib.hid (HFB.out (by
      cases e : n.fit s with
      | false => rfl
      | true =>
       unfold NetD.fit at e
       have := List.all_eq_true.1 e x HXM.out
       rw [HFBx.out] at this
       cases this))
     go_wp2_with (first
      | (go_at_call 40; (with_reducible refine (CF.out _ _).mono ?_); rw [HFBx.out]; rintro e5 w5 ⟨rfl, hb5⟩; have HB5 := Lib.hid (below_then HBK.out hb5); clear hb5)
      | ((with_reducible show wpList _ _ _ (Oper.mk none (.store 32 _ _) _ _ _ _ :: _) _ _); refine st_mac (M := zeros5) (HBP2.out.keep HB5.out) rfl (L := zeros5) rfl rfl rfl _ _ rfl rfl rfl ?_; intro w9 hb9 hg9))
     obtain ⟨dsc, hd1, hd2⟩ := row_mac
     refine bodyPost_ret (resCT rfl _ _ w9 (g := w.heap.size + 1) (v := .agg zeros5.toArray) rfl (res_box _ hb9 dsc hd1 hd2 size_mac)) rfl ?_
     unfold RetEmbF
     rw [HE.out, if_neg (by decide)]
     exact ⟨⟨macZ, none, none, none, 0, 0, 0⟩, rfl, rfl, ⟨Ints.nil, Ints.nil, Ints.nil⟩, Nat.le_refl _, grown_to (below_then HB2.out HB5.out) hg9 (by omega), ⟨fun h => absurd rfl h, fun h => absurd rfl h, fun h => absurd rfl h⟩⟩
   ·obtain rfl : sn = k := by omega
    have HE : Hid (embE n s = 0) := Lib.hid (HFA.out (by have h := HFI.out; rw [← HSN.out, List.take_length] at h; exact h))
    have HRL : Hid (u.d.rg.length = 0) := Lib.hid (by rw [HUD.out]; rfl)
    have CST : Hid (Calls Tryd.prog 41 #[.agg u.lst.toArray] wr (RetMacO wr 0)) := Lib.hid (by
     have hcl : u.d.code.length ≤ 512 := by rw [HUD.out]; exact (valid_parts HV.out).2.2.1.2
     have h := sm_StartO u wr ((HF.out.grow HB2.out).grow HBK.out) (HPU2.out.grow HBK.out) (by rw [HRL.out]; omega) (by omega) (by rw [HUD.out]; exact HV.out)
     rw [HRL.out] at h
     exact h)
    have HBQ := Lib.hid (HBQ2.out.keep HBK.out)
    have HBP := Lib.hid (HBP2.out.keep HBK.out)
    have HBW := Lib.hid (below_then HB2.out HBK.out)
    have HSK := Lib.hid ((HS.out.grow HB2.out).grow HBK.out)
    have hgb : w.heap.size + 2 ≤ wr.heap.size := by have := HBP.out.1; omega
    clear HFI0 HFA HFB HBK0 HFI HBK HBQ2 HBP2 HPU2 HBN2 HLE CF
    go_upto_region 15 with (first
     | ((with_reducible show wpList _ _ _ (Oper.mk _ (.load 41 _) _ _ _ _ :: _) _ _); refine ld_prg HBQ.out (lst_ten u) rfl _ rfl rfl ?_)
     | (go_at_call 41; (with_reducible refine CST.out.mono ?_); rintro e5 w5 ⟨g0, g1, A5, c5, rfl, hne, o0, o1, o5, hb5⟩; have HNE := Lib.hid hne; have O0 := Lib.hid o0; have O1 := Lib.hid o1; have O5 := Lib.hid o5; have HB5 := Lib.hid hb5; clear hne o0 o1 o5 hb5))
    change Code.wp _ _ _ _ (w5.alloc (.cells [.slice (some ⟨g0, 0, none⟩) 8 8, .slice (some ⟨g1, 0, none⟩) 128 128, .slice A5 0 c5, .int .i64 0, .int .i64 0].toArray 32))
    have hmx : Box (w5.alloc (.cells [.slice (some ⟨g0, 0, none⟩) 8 8, .slice (some ⟨g1, 0, none⟩) 128 128, .slice A5 0 c5, .int .i64 0, .int .i64 0].toArray 32)) w5.heap.size [.slice (some ⟨g0, 0, none⟩) 8 8, .slice (some ⟨g1, 0, none⟩) 128 128, .slice A5 0 c5, .int .i64 0, .int .i64 0] := Box.new rfl
    have hnb : Below w5.heap.size w5 (w5.alloc (.cells [.slice (some ⟨g0, 0, none⟩) 8 8, .slice (some ⟨g1, 0, none⟩) 128 128, .slice A5 0 c5, .int .i64 0, .int .i64 0].toArray 32)) := (Below.refl _ _).alloc (Nat.le_refl _) _
    have hg1 := O1.out.1.lt g1 rfl
    have o0 := O0.out.grow hnb
    have o1 := O1.out.grow hnb
    have o5 := O5.out.grow hnb
    have hbp := (HBP.out.keep HB5.out).keep hnb
    have hsk := (HSK.out.grow HB5.out).grow hnb
    have hbw := below_then (below_then HBW.out HB5.out) hnb
    obtain ⟨gX, hgX⟩ : ∃ g, g = w5.heap.size := ⟨_, rfl⟩
    have hgx : g1 < gX := by omega
    rw [← hgX] at hmx ⊢
    generalize w5.alloc (.cells [.slice (some ⟨g0, 0, none⟩) 8 8, .slice (some ⟨g1, 0, none⟩) 128 128, .slice A5 0 c5, .int .i64 0, .int .i64 0].toArray 32) = w6 at hmx o0 o1 o5 hbp hsk hbw ⊢
    have HMX := Lib.hid hmx
    have P0 := Lib.hid o0
    have P1 := Lib.hid o1
    have P5 := Lib.hid o5
    have HBP6 := Lib.hid hbp
    have HSK6 := Lib.hid hsk
    have HBW6 := Lib.hid hbw
    have HG1 := Lib.hid (show w.heap.size + 2 ≤ g1 by omega)
    have y1 := hmx.2.1 1
    clear hmx hnb hg1 o0 o1 o5 hbp hsk hbw hgX O0 O1 O5 HB5 HBP HSK HBW HBQ CST
    go_wp2_with (first
     | ((with_reducible show wpList _ _ _ (Oper.mk _ (.call ⟨.builtin .copy, _, _⟩) _ _ _ _ :: _) _ _); refine copy_part rfl _ _ rfl (m := 128) (z := List.replicate 128 0) rfl rfl P1.out rfl HSK6.out HSN.out (by omega) ?_; intro w7 ho7 hg7; have HO7 := Lib.hid ho7; have HG7 := Lib.hid hg7; clear ho7 hg7)
     | ((with_reducible show wpList _ _ _ (Oper.mk _ (.load 32 _) _ _ _ _ :: _) _ _); refine ld_mac (HMX.out.grown HG7.out (by intro e; injection e with e; omega)) rfl rfl _ rfl rfl ?_)
     | ((with_reducible show wpList _ _ _ (Oper.mk none (.store 32 _ _) _ _ _ _ :: _) _ _); refine st_mac (M := zeros5) (HBP6.out.grown HG7.out (by have := HG1.out; intro e; injection e with e; omega)) rfl (L := [.slice (some ⟨g0, 0, none⟩) 8 8, .slice (some ⟨g1, 0, none⟩) 128 128, .slice A5 0 c5, .int .i64 0, .int .i64 0]) rfl rfl rfl _ _ rfl rfl rfl ?_; intro w9 hb9 hg9))
    obtain ⟨dsc, hd1, hd2⟩ := row_mac
    refine bodyPost_ret (resCT rfl _ _ w9 (g := w.heap.size + 1) (v := .agg [.slice (some ⟨g0, 0, none⟩) 8 8, .slice (some ⟨g1, 0, none⟩) 128 128, .slice A5 0 c5, .int .i64 0, .int .i64 0].toArray) rfl (res_box _ hb9 dsc hd1 hd2 size_mac)) rfl ?_
    unfold RetEmbF
    rw [HE.out, if_pos rfl]
    have hml : (s ++ (List.replicate 128 (0 : Int)).drop s.length).length = 128 := by rw [List.length_append, List.length_drop, List.length_replicate, HSN.out]; omega
    have b0 := (P0.out.1.lt g0 rfl).1
    have j0 : Ints w9 (some ⟨g0, 0, none⟩) (List.replicate 8 0) := ints_kept (ints_kept P0.out.ints HG7.out (fun _ a e => by injection e with e; subst e; intro q; injection q with q; exact HNE.out q)) hg9 (fun _ a e => by injection e with e; subst e; intro q; injection q with q; have hq : g0 = w.heap.size + 1 := q; omega)
    have j1 : Ints w9 (some ⟨g1, 0, none⟩) (s ++ (List.replicate 128 0).drop s.length) := ints_kept (by rw [HSN.out]; exact HO7.out.ints) hg9 (fun _ a e => by injection e with e; subst e; have := HG1.out; intro q; injection q with q; have hq : g1 = w.heap.size + 1 := q; omega)
    refine ⟨⟨embM s, some ⟨g0, 0, none⟩, some ⟨g1, 0, none⟩, A5, 8, 128, c5⟩, rfl, ?_, ⟨j0, j1, Ints.nil⟩, Nat.le_of_eq hml, grown_to (grown_to HBW6.out HG7.out (by have := HG1.out; omega)) hg9 (by omega), ⟨fun _ a e => ?_, fun _ a e => ?_, fun h => absurd rfl h⟩⟩
    ·unfold MacA.v MacA.lst embM
     simp only [hml]
     rfl
    ·injection e with e
     subst e
     have h1 := HG1.out
     exact ⟨by show w.heap.size ≤ g0; omega, ((own_ty P0.out _ rfl).2.kept HG7.out HNE.out).kept hg9 (by show g0 ≠ _; omega)⟩
    ·injection e with e
     subst e
     have h1 := HG1.out
     exact ⟨by show w.heap.size ≤ g1; omega, (own_ty HO7.out _ rfl).2.kept hg9 (by show g1 ≠ _; omega)⟩
 ·have HE : Hid (embE n s = 1) := Lib.hid (by unfold embE; rw [HSN.out, HST.out, if_neg hlen])
  have xl : ((sn : Int) != st) = true := by simpa using hlen
  go_wp2_with ((with_reducible show wpList _ _ _ (Oper.mk none (.store 32 _ _) _ _ _ _ :: _) _ _); refine st_mac (M := zeros5) HBP2.out rfl (L := zeros5) rfl rfl rfl _ _ rfl rfl rfl ?_; intro w9 hb9 hg9)
  obtain ⟨dsc, hd1, hd2⟩ := row_mac
  refine bodyPost_ret (resCT rfl _ _ w9 (g := w.heap.size + 1) (v := .agg zeros5.toArray) rfl (res_box _ hb9 dsc hd1 hd2 size_mac)) rfl ?_
  unfold RetEmbF
  rw [HE.out, if_neg (by decide)]
  exact ⟨⟨macZ, none, none, none, 0, 0, 0⟩, rfl, rfl, ⟨Ints.nil, Ints.nil, Ints.nil⟩, Nat.le_refl _, grown_to HB2.out hg9 (by omega), ⟨fun h => absurd rfl h, fun h => absurd rfl h, fun h => absurd rfl h⟩⟩
theorem cg_Embed_ok (n : NetD) (NA XA SA : Option Addr) (nc xc sn sc : Nat) (s : List Int) (w : World) (hf : FormsAt w) (hn : NetAt w n NA XA) (hok : n.ok = true) (hv : validB n.prg = true) (hS : Ints w SA s) (hsn : s.length = sn) (hs9 : sn ≤ 9223372036854775807) :
  Calls Tryd.prog 11 #[.agg (n.lst NA nc XA xc).toArray, .slice SA sn sc] w (RetEmb w n s) := by
 refine (cg_Embed_okF n NA XA SA nc xc sn sc s w hf hn hok hv hS hsn hs9).mono fun e w' h => ?_
 obtain ⟨x, h1, h2, h3, h4, h5, -⟩ := h
 exact ⟨x, h1, h2, h3, h4, h5⟩
end Go.Proofs.YtdiflpbioohddaaDoor
end
section
namespace Go.Proofs.YtdiflpbioohddaaDoor
open Go.RowKit
def RetIntE (w : World) (l : List Int) (er : Int) (e : Ending) (w' : World) : Prop := ∃ (A : Option Addr) (c : Nat), e = .returned (.tuple #[.slice A l.length c, .int .i64 er]) ∧ Own w.heap.size w' (.slice A l.length c) l ∧ Below w.heap.size w w'
def extE (d : PrgD) (m : Mac) : Int := if macB d m = true then 0 else 1
def extL (n : NetD) (m : Mac) : List Int := if macB n.prg m = true then m.mem.take n.nx.length else []
def plcK (n k : Nat) : List Int := (List.range n).map fun i => if i < k then (i : Int) else 0
theorem plcK_len (n k : Nat) : (plcK n k).length = n := by unfold plcK; simp
theorem plcK_zero (n : Nat) : plcK n 0 = List.replicate n 0 := by
 refine List.eq_replicate_iff.2 ⟨plcK_len n 0, fun b hb => ?_⟩
 unfold plcK at hb
 obtain ⟨i, -, rfl⟩ := List.mem_map.1 hb
 rw [if_neg (Nat.not_lt_zero i)]
theorem plcK_get {n k i : Nat} (h : i < n) : (plcK n k)[i]? = some (if i < k then (i : Int) else 0) := by
 unfold plcK
 rw [List.getElem?_map, List.getElem?_range h]; rfl
theorem plcK_succ {n k : Nat} (h : k < n) : plcK n (k + 1) = (plcK n k).set k (k : Int) := by
 apply List.ext_getElem?
 intro i
 by_cases hi : i < n
 ·rw [plcK_get hi]
  by_cases e : i = k
  ·subst e
   rw [List.getElem?_set_self (by rw [plcK_len]; exact hi), if_pos (Nat.lt_succ_self i)]
  ·rw [List.getElem?_set_ne (fun h => e h.symm), plcK_get hi]
   have : (i < k + 1) ↔ (i < k) := by omega
   simp only [this]
 ·rw [List.getElem?_eq_none (by rw [plcK_len]; omega), List.getElem?_eq_none (by rw [List.length_set, plcK_len]; omega)]
def RetPlc (w : World) (n : Nat) (e : Ending) (w' : World) : Prop := RetIntE w (plcK n n) 0 e w'
set_option maxRecDepth 100000 in
set_option maxHeartbeats 4000000 in
theorem cg_Places_ok (n : NetD) (NA XA : Option Addr) (nc xc : Nat) (w : World) (hf : FormsAt w) (hn : NetAt w n NA XA) (hok : n.ok = true) (hv : validB n.prg = true) :
  Calls Tryd.prog 13 #[.agg (n.lst NA nc XA xc).toArray] w (RetPlc w n.nx.length) := by
 have CC : Hid (∀ w1, Below w.heap.size w w1 → Calls Tryd.prog 10 #[.agg (n.lst NA nc XA xc).toArray] w1 (RetPrgE w1 n.prg 0)) := fun w1 hb => cg_Compile_ok n NA XA nc xc w1 (hf.grow hb) (hn.grow hb) hok hv
 obtain ⟨-, -, ⟨p2, p3⟩, -, p5, -, -, -, -⟩ := netB_parts hok
 have HLL : Hid ((n.lst NA nc XA xc).length = 12) := Lib.hid rfl
 have HLE : Hid (∀ W, Box W w.heap.size (n.lst NA nc XA xc) → W.cell? ⟨w.heap.size, 8, none⟩ = some (.int .i64 n.st)) := Lib.hid fun W h => h.2.1 8
 obtain ⟨sn, hsn⟩ : ∃ k, n.nx.length = k := ⟨_, rfl⟩
 rw [hsn] at p5 ⊢
 obtain ⟨st, hst⟩ : ∃ t, n.st = t := ⟨_, rfl⟩
 rw [hst] at p2 p3 p5 HLE
 generalize n.lst NA nc XA xc = L at CC HLL HLE ⊢
 clear hf hn hok hv hsn hst
 subst p5
 have hsn64 : sn ≤ 64 := by omega
 go_enter Tryd.func13, Tryd.ntmps13
 go_upto_region 1 with fail
 have bn : Box (w.alloc (.cells L.toArray 27)) w.heap.size L := Box.new rfl
 have hb0 : Below w.heap.size w (w.alloc (.cells L.toArray 27)) := (Below.refl _ _).alloc (Nat.le_refl _) _
 generalize w.alloc (.cells L.toArray 27) = W0 at bn hb0 ⊢
 have HBN := Lib.hid bn
 have HB0 := Lib.hid hb0
 clear bn hb0
 go_upto_region 4 with (first
  | ((with_reducible show wpList _ _ _ (Oper.mk _ (.load 27 _) _ _ _ _ :: _) _ _); refine ld_netB1 HBN.out (by simpa using HLL.out) rfl _ rfl rfl ?_)
  | (go_at_call 10; (with_reducible refine (CC.out _ HB0.out).mono ?_); rintro e1 w1 ⟨u, hud, rfl, hpu, hb1⟩; have HB1 := Lib.hid hb1; clear hb1 hpu hud)
  | ((with_reducible show wpList _ _ _ (Oper.mk none (.store 41 _ _) _ _ _ _ :: _) _ _); refine st_prgB (M := zeros10) (Box.new rfl) rfl (L := u.lst) rfl rfl rfl _ _ rfl rfl rfl ?_; intro w2 hb2 hg2; have HG2 := Lib.hid hg2; clear hg2 hb2))
 have hb1 := below_then HB0.out HB1.out
 have hba : Below w1.heap.size w1 w2 := grown_to ((Below.refl w1.heap.size w1).alloc (Nat.le_refl _) _) HG2.out (Nat.le_refl _)
 have HB2 := Lib.hid (below_then hb1 hba)
 have zS := HLE.out _ ((HBN.out.keep HB1.out).keep hba)
 clear hb1 hba HG2 HB1 HBN HB0 CC
 go_upto_region 5 with ((with_reducible show wpList _ _ _ (Oper.mk _ (.makeSlice _ _ _) _ _ _ _ :: _) _ _); refine mk_int rfl _ _ rfl w2.heap.size sn rfl rfl rfl (by omega) (Nat.le_refl _) ?_; intro w3 ho3 hb3; have HO3 := Lib.hid ho3; have HB3 := Lib.hid (below_then HB2.out hb3); clear ho3 hb3)
 have HGB := Lib.hid HB2.out.size
 generalize w2.heap.size = g at HO3 HGB ⊢
 clear zS HB2
 go_wp2_with fail
 go_loopw [21] (fun i wr => ∃ k : Nat, k ≤ sn ∧ i = .int .i64 k ∧ Hid (Own g wr (.slice (some ⟨g, 0, none⟩) sn sn) (plcK sn k)) ∧ Hid (Below w.heap.size w wr)) (fun i _ => sn - (intOf i).toNat)
 case atStart => exact ⟨0, Nat.zero_le _, rfl, Lib.hid (by rw [plcK_zero]; exact HO3.out), HB3⟩
 case round =>
  obtain ⟨k, hk, rfl, HOK, HBK⟩ := hrel
  by_cases hlt : k < sn
  ·have x0 : (0 : Int) ≤ (k : Int) := by omega
   have x1 : (k : Int) < (sn : Int) := by omega
   have zc := HOK.out.cell (plcK_get (k := k) hlt)
   rw [if_neg (Nat.lt_irrefl k)] at zc
   have zf := HOK.out.free k
   have HSE := Lib.hid (HOK.out.set k (y := (k : Int)) ⟨by omega, by omega⟩)
   have HBS := Lib.hid (HBK.out.setCell (p := ⟨g, k, none⟩) HGB.out (.int .i64 (k : Int)))
   go_wp2_with fail
   go_roundw
   case rel => exact ⟨k + 1, by omega, by go_num, Lib.hid (by rw [plcK_succ hlt]; exact HSE.out), HBS⟩
   case measure => simp [intOf]; omega
  ·obtain rfl : sn = k := by omega
   go_wp2_with fail
   go_ret2
   unfold RetPlc
   exact ⟨some ⟨g, 0, none⟩, sn, by rw [plcK_len]; rfl, by rw [plcK_len]; exact HOK.out.base HGB.out, HBK.out⟩
end Go.Proofs.YtdiflpbioohddaaDoor
end
