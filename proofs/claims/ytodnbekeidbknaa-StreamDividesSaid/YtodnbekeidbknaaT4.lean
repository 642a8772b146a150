/- The walks of Values, Step and Run of package network, for valid networks, states and inputs. -/
import Derived.Test.YtodnbekeidbknaaT3
import Derived.Test.YtodnbekeidbknaaPu
import Derived.Test.YtodnbekeidbknaaPs
set_option linter.unusedVariables false
set_option linter.unusedSimpArgs false
namespace Go.Proofs.Ytodnbekeidbknaa
open Go.RowKit

theorem results_tmp4 {fn : Func} {t u v x : Tmp} (h : fn.results = #[.tmp t, .tmp u, .tmp v, .tmp x]) (tmps : Array Value) (P : Program) (w : World) :
    (results fn tmps).run P w = .ok (.tuple #[tmps.getD t undef, tmps.getD u undef, tmps.getD v undef, tmps.getD x undef]) w := by
  simp [results, h]
/-- The output of a step. -/
theorem vals_at {d0 d1 d2 d3 c0 c1 c2 c3 st out x : Int} {ns : List (List (Int × Int))} {nx s : List Int} (h : netB d0 d1 d2 d3 c0 c1 c2 c3 st ns nx out = true) (hs : (s.length : Int) = st) :
    (valsF d0 d1 d2 d3 c1 ns (x :: s) ns.length).length = 1 + s.length + ns.length := by
  rw [valsF_length _ _ _ _ _ _ _ _ (Nat.le_refl _), List.length_cons]; omega
set_option maxRecDepth 100000 in
set_option maxHeartbeats 1000000 in
theorem nw_Values (d0 d1 d2 d3 c0 c1 c2 c3 st out x : Int) (NA XA SA : Option Addr) (nc xc sn sc : Nat) (ns : List (List (Int × Int))) (nx s : List Int) (w : World) (hok : netB d0 d1 d2 d3 c0 c1 c2 c3 st ns nx out = true) (hN : NodesAt w NA ns) (hX : Ints w XA nx) (hS : Ints w SA s)
    (hsn : s.length = sn) (hst : (sn : Int) = st) (hfs : ∀ v ∈ s, fitsW d0 d1 d2 d3 v = true) (hfx : fitsW d0 d1 d2 d3 x = true) (h3 : ∀ ts ∈ ns, ts.length ≤ 9223372036854775807) :
    Calls Try.prog 41 #[netV d0 d1 d2 d3 c0 c1 c2 c3 st NA ns.length nc XA nx.length xc out, .slice SA sn sc, .int .i64 x] w (RetVals3 w (valsF d0 d1 d2 d3 c1 ns (x :: s) ns.length) (overF d0 d1 d2 d3 c1 ns (x :: s) ns.length)) := by
  subst hst
  obtain ⟨p1, p2, p3, p4, p5, -, -, -⟩ := netB_parts hok
  obtain ⟨q1, q2⟩ := fits_23 hfx
  have HXI : Hid (I64 x) := ⟨by omega, by omega⟩
  have hn9 : ns.length ≤ 9223372036854775807 := by omega
  have hx9 : nx.length ≤ 9223372036854775807 := by omega
  have hI : I64 (sn : Int) := ⟨by omega, by omega⟩
  have hsn9 : sn ≤ 1000000 := by omega
  have CV : Hid (∀ w1, NodesAt w1 NA ns → Ints w1 XA nx → Calls Try.prog 22 #[netV d0 d1 d2 d3 c0 c1 c2 c3 sn NA ns.length nc XA nx.length xc out] w1 fun e w' => e = .returned (.bool true) ∧ Below w1.heap.size w1 w') := fun w1 a b => by
    have := nw_Valid d0 d1 d2 d3 c0 c1 c2 c3 sn out NA XA nc xc ns nx w1 a b hn9 hx9 h3 hI
    rw [hok] at this; exact this
  have CW : Hid (∀ w1 IA ic, NodesAt w1 NA ns → Ints w1 XA nx → Ints w1 SA s → Ints w1 IA [x] → Calls Try.prog 43 #[netV d0 d1 d2 d3 c0 c1 c2 c3 sn NA ns.length nc XA nx.length xc out, .slice SA sn sc, .slice IA 1 ic] w1 fun e w' => e = .returned (.int .i64 0) ∧ Below w1.heap.size w1 w') := fun w1 IA ic a b c d =>
    nw_wrong d0 d1 d2 d3 c0 c1 c2 c3 sn out NA XA SA IA nc xc sn sc 1 ic ns nx s [x] w1 a b c d hsn rfl rfl hsn9 (by decide) hfs (by simpa using hfx)
  have CC : Hid (∀ w1, NodesAt w1 NA ns → Ints w1 XA nx → Ints w1 SA s → Calls Try.prog 44 #[netV d0 d1 d2 d3 c0 c1 c2 c3 sn NA ns.length nc XA nx.length xc out, .slice SA sn sc, .int .i64 x] w1 fun e w' => ∃ v, e = .returned (.tuple #[v, .bool (overF d0 d1 d2 d3 c1 ns (x :: s) ns.length)]) ∧ Own w1.heap.size w' v (valsF d0 d1 d2 d3 c1 ns (x :: s) ns.length) ∧ Below w1.heap.size w1 w') := fun w1 a b c =>
    nw_compute d0 d1 d2 d3 c0 c1 c2 c3 sn out x NA XA SA nc xc sn sc ns nx s w1 hok a b c hsn rfl hfs hfx
  obtain ⟨P, HP0, PN0⟩ := netQ_mk w d0 d1 d2 d3 c0 c1 c2 c3 (sn : Int) NA ns ns.length nc XA nx nx.length xc out hN hX
  obtain ⟨vs, hvs⟩ : ∃ vs, valsF d0 d1 d2 d3 c1 ns (x :: s) ns.length = vs := ⟨_, rfl⟩
  obtain ⟨ov, hov⟩ : ∃ ov, overF d0 d1 d2 d3 c1 ns (x :: s) ns.length = ov := ⟨_, rfl⟩
  rw [hvs, hov] at CC ⊢
  obtain ⟨xn, hxn⟩ : ∃ n, nx.length = n := ⟨_, rfl⟩
  obtain ⟨nn, hnn⟩ : ∃ n, ns.length = n := ⟨_, rfl⟩
  rw [hxn, hnn] at HP0 PN0 CV CW CC
  unfold netV at CV CW CC ⊢
  rw [hnn, hxn]
  have HP := Lib.hid HP0
  have PN := Lib.hid PN0
  have HS := Lib.hid hS
  clear HP0 PN0 hnn hxn hN hX hS hfs hfx hsn hvs hov hok p1 p2 p3 p4 p5 h3 hn9 hx9 hI hsn9
  go_enter Try.func41, Try.ntmps41
  go_wp2_with (first
    | (go_at_call 22; with_reducible refine (CV.out _ (PN.out.nodes _ HP.out) (PN.out.next _ HP.out)).mono ?_; rintro e w1 ⟨rfl, hb1⟩; have hp1 := PN.out.go1 HP.out hb1; obtain ⟨z1, z2, z3, z4⟩ := PN.out.dat _ hp1; obtain ⟨y1, y2, y3, y4⟩ := PN.out.coe _ hp1; obtain ⟨x1, x2, x3, x4⟩ := PN.out.res _ hp1; have hl1 := PN.out.lt _ hp1)
    | (go_at_call 43; have hp1' := PN.out.al hp1 (.cells #[.int .i64 x] 3); have hx1 := lit_one (w := w1) (t := 3) HXI.out; with_reducible refine (CW.out _ _ _ (PN.out.nodes _ hp1') (PN.out.next _ hp1') (HS.out.grow (PN.out.old _ hp1')) hx1).mono ?_; rintro e w2 ⟨rfl, hb2⟩; have hp2 := PN.out.go1 hp1' hb2; obtain ⟨z1, z2, z3, z4⟩ := PN.out.dat _ hp2; obtain ⟨y1, y2, y3, y4⟩ := PN.out.coe _ hp2; obtain ⟨x1, x2, x3, x4⟩ := PN.out.res _ hp2)
    | (go_at_call 44; with_reducible refine (CC.out _ (PN.out.nodes _ hp2) (PN.out.next _ hp2) (HS.out.grow (PN.out.old _ hp2))).mono ?_; rintro e w3 ⟨v, rfl, ho, hb3⟩; have hp3 := PN.out.go1 hp2 hb3))
  go_ret3
  obtain ⟨A, c, rfl, -, hi⟩ := ho.form
  exact ⟨A, c, rfl, hi, PN.out.old _ hp3⟩
/-- v is a slice of numbers that reads as l. -/
def IsInts (b : Nat) (w : World) (l : List Int) (v : Value) : Prop := ∃ A c, v = .slice A l.length c ∧ Ints w A l ∧ (l ≠ [] → ∀ a, A = some a → b ≤ a.block)
theorem IsInts.grow {b : Nat} {w w' : World} {l : List Int} {v : Value} (h : IsInts b w l v) (hb : Below w.heap.size w w') : IsInts b w' l v := by
  obtain ⟨A, c, e, hi, hf⟩ := h
  exact ⟨A, c, e, hi.grow hb, hf⟩
def stepG (W N VA SV : Value) (q : Addr) (y : Int) (R : Nat) (out : Int) (l : List Int) (ov : Bool) : Nat → Value → World → Prop
  | 0, v, _ => v = N
  | 1, v, _ => v = VA
  | 2, v, w => IsInts R w l v
  | 3, v, _ => v = VA
  | 4, v, _ => v = .pointer (some ⟨R, 11, none⟩)
  | 5, v, _ => v = .int .i64 out
  | 6, v, _ => v = .pointer (some q)
  | 7, v, _ => v = .int .i64 y
  | 8, v, _ => v = .bool ov
  | 9, v, w => IsInts R w l v
  | 10, v, _ => v = .int .i64 y
  | 11, v, _ => v = .bool ov
  | 12, v, _ => v = .int .i64 0
  | _, _, _ => True
theorem stepG_keep {W N VA SV : Value} {q : Addr} {y : Int} {R : Nat} {out : Int} {l : List Int} {ov : Bool} {w w' : World} (h : Below w.heap.size w w') : ∀ i v, stepG W N VA SV q y R out l ov i v w → stepG W N VA SV q y R out l ov i v w'
  | 0, _, e => e | 1, _, e => e | 3, _, e => e | 4, _, e => e | 5, _, e => e | 6, _, e => e | 7, _, e => e | 8, _, e => e
  | 2, _, hi => hi.grow h
  | 9, _, hi => hi.grow h
  | 10, _, e => e | 11, _, e => e | 12, _, e => e
  | _ + 13, _, _ => trivial
set_option maxRecDepth 100000 in
set_option maxHeartbeats 2000000 in
theorem nw_Step (d0 d1 d2 d3 c0 c1 c2 c3 st out x : Int) (NA XA SA : Option Addr) (nc xc sn sc : Nat) (ns : List (List (Int × Int))) (nx s : List Int) (w : World) (hok : netB d0 d1 d2 d3 c0 c1 c2 c3 st ns nx out = true) (hN : NodesAt w NA ns) (hX : Ints w XA nx) (hS : Ints w SA s)
    (hsn : s.length = sn) (hst : (sn : Int) = st) (hfs : ∀ v ∈ s, fitsW d0 d1 d2 d3 v = true) (hfx : fitsW d0 d1 d2 d3 x = true) (h3 : ∀ ts ∈ ns, ts.length ≤ 9223372036854775807) :
    Calls Try.prog 36 #[netV d0 d1 d2 d3 c0 c1 c2 c3 st NA ns.length nc XA nx.length xc out, .slice SA sn sc, .int .i64 x] w
      (RetStep w (followF nx (valsF d0 d1 d2 d3 c1 ns (x :: s) ns.length)) (atF (valsF d0 d1 d2 d3 c1 ns (x :: s) ns.length) out) (overF d0 d1 d2 d3 c1 ns (x :: s) ns.length)) := by
  subst hst
  obtain ⟨p1, p2, p3, p4, p5, p6, p7, p8, p9⟩ := netB_parts hok
  have hvl := vals_at (x := x) hok (by rw [hsn])
  have CV : Hid (∀ w1, NodesAt w1 NA ns → Ints w1 XA nx → Ints w1 SA s → Calls Try.prog 41 #[netV d0 d1 d2 d3 c0 c1 c2 c3 sn NA ns.length nc XA nx.length xc out, .slice SA sn sc, .int .i64 x] w1
      fun e w' => ∃ A c, e = .returned (.tuple #[.slice A (1 + sn + ns.length) c, .bool (overF d0 d1 d2 d3 c1 ns (x :: s) ns.length), .int .i64 0]) ∧ Ints w' A (valsF d0 d1 d2 d3 c1 ns (x :: s) ns.length) ∧ Below w1.heap.size w1 w') := fun w1 a b c => by
    have := nw_Values d0 d1 d2 d3 c0 c1 c2 c3 sn out x NA XA SA nc xc sn sc ns nx s w1 hok a b c hsn rfl hfs hfx h3
    refine this.mono ?_
    rintro e w2 ⟨A, c, rfl, hi, hb⟩
    exact ⟨A, c, by rw [hvl, hsn], hi, hb⟩
  have CF : Hid (∀ w1 VA vc, NodesAt w1 NA ns → Ints w1 XA nx → Ints w1 VA (valsF d0 d1 d2 d3 c1 ns (x :: s) ns.length) → Calls Try.prog 42 #[netV d0 d1 d2 d3 c0 c1 c2 c3 sn NA ns.length nc XA nx.length xc out, .slice VA (1 + sn + ns.length) vc] w1
      fun e w' => ∃ A c, e = .returned (.slice A (followF nx (valsF d0 d1 d2 d3 c1 ns (x :: s) ns.length)).length c) ∧ Ints w' A (followF nx (valsF d0 d1 d2 d3 c1 ns (x :: s) ns.length)) ∧ (followF nx (valsF d0 d1 d2 d3 c1 ns (x :: s) ns.length) ≠ [] → ∀ a, A = some a → w1.heap.size ≤ a.block) ∧ Below w1.heap.size w1 w') := fun w1 VA vc a b c => by
    have := nw_follow d0 d1 d2 d3 c0 c1 c2 c3 sn out NA XA VA nc xc (1 + sn + ns.length) vc ns nx (valsF d0 d1 d2 d3 c1 ns (x :: s) ns.length) w1 a b c (by rw [hvl, hsn]) (by omega) p5 (by omega) (fun v hv => by have := p7 v hv; push_cast; omega)
    refine this.mono ?_
    rintro e w2 ⟨v, rfl, ho, hb⟩
    obtain ⟨A, c, rfl, -, hi⟩ := ho.form
    exact ⟨A, c, rfl, hi, fun _ a ha => by subst ha; exact (ho.1.lt a.block rfl).1, hb⟩
  obtain ⟨P, HP0, PN0⟩ := netQ_mk w d0 d1 d2 d3 c0 c1 c2 c3 (sn : Int) NA ns ns.length nc XA nx nx.length xc out hN hX
  obtain ⟨q, rfl⟩ : ∃ q : Nat, out = (q : Int) := ⟨out.toNat, by omega⟩
  have HQ : Hid (q < 1 + sn + ns.length) := by show _ < _; omega
  have HVL : Hid ((valsF d0 d1 d2 d3 c1 ns (x :: s) ns.length).length = 1 + sn + ns.length) := by rw [hsn] at hvl; exact hvl
  obtain ⟨vs, hvs⟩ : ∃ vs, valsF d0 d1 d2 d3 c1 ns (x :: s) ns.length = vs := ⟨_, rfl⟩
  obtain ⟨ov, hov⟩ : ∃ ov, overF d0 d1 d2 d3 c1 ns (x :: s) ns.length = ov := ⟨_, rfl⟩
  obtain ⟨fo, hfo⟩ : ∃ fo, followF nx vs = fo := ⟨_, rfl⟩
  rw [hvs] at CF HVL
  rw [hvs, hov] at CV
  rw [hvs, hov, hfo]
  rw [hfo] at CF
  obtain ⟨xn, hxn⟩ : ∃ n, nx.length = n := ⟨_, rfl⟩
  obtain ⟨nn, hnn⟩ : ∃ n, ns.length = n := ⟨_, rfl⟩
  rw [hxn, hnn] at HP0 PN0 CV CF
  rw [hnn] at HQ HVL
  unfold netV at CV CF ⊢
  rw [hnn, hxn]
  obtain ⟨vn, hvn⟩ : ∃ vn, 1 + sn + nn = vn := ⟨_, rfl⟩
  rw [hvn] at CV CF HQ HVL
  have HP := Lib.hid HP0
  have PN := Lib.hid PN0
  have HS := Lib.hid hS
  clear HP0 PN0 hnn hxn hN hX hS hfs hfx hsn hvs hov hok p1 p2 p3 p4 p5 p6 p7 p8 p9 h3 hvl hfo hvn
  go_enter Try.func36, Try.ntmps36
  go_upto_region 4 with (first
    | (go_at_call 41; with_reducible refine (CV.out _ (PN.out.nodes _ HP.out) (PN.out.next _ HP.out) (HS.out.grow (PN.out.old _ HP.out))).mono ?_; rintro e w1 ⟨VA, vc, rfl, hi1, hb1⟩; have hp1 := PN.out.go1 HP.out hb1))
  clear hb1
  obtain ⟨av, y, rfl, hbv, hyv, hcv, -, -⟩ := hi1.at_ (k := q) (by rw [HVL.out]; exact HQ.out)
  have HY : Hid (atF vs (q : Int) = y) := atF_nat hyv
  have HP1 := Lib.hid hp1
  have HI1 := Lib.hid hi1
  have x1 : (0 : Int) ≤ (q : Int) := by omega
  have x2 : (q : Int) < (vn : Int) := by have := HQ.out; omega
  clear hp1 hi1 hyv
  have hcl : ∀ w2, P w2 ∧ Below w1.heap.size w1 w2 → w2.cell? (av.add q) = some (.int .i64 y) := fun w2 h => (h.2.cell (by rw [block_add]; exact hbv)).trans hcv
  have HCL := Lib.hid hcl
  clear hcl hcv hbv
  refine wp_region_grow 13 (fun w2 => P w2 ∧ Below w1.heap.size w1 w2) (fun a b => Below a.heap.size a b) (stepG undef (.agg #[.int .i64 d0, .int .i64 d1, .int .i64 d2, .int .i64 d3, .int .i64 c0, .int .i64 c1, .int .i64 c2, .int .i64 c3, .int .i64 (sn : Int), .slice NA nn nc, .slice XA xn xc, .int .i64 (q : Int)]) (.slice (some av) vn vc) undef (av.add q) y w.heap.size (q : Int) fo ov) (by kernel_rfl) (by kernel_rfl) ⟨PN.out.go1 HP1.out (Below.drew (Below.refl _ _)), Below.drew (Below.refl _ _)⟩ (fun a b h1 h2 => ⟨⟨PN.out.go1 h1.1 h2, below_then h1.2 h2⟩, fun i _ v => stepG_keep h2 i v⟩) ?_ ?_
  · refine ⟨?_, ?_, ?_, ?_, ?_, ?_, ?_, ?_, ?_, ?_, ?_, ?_, ?_, trivial⟩
    all_goals
      intro vs w2 hp hF
      have hcv := HCL.out _ hp
      obtain ⟨hp, hbb⟩ := hp
      obtain ⟨z1, z2, z3, z4⟩ := PN.out.dat _ hp
      obtain ⟨y1, y2, y3, y4⟩ := PN.out.coe _ hp
      obtain ⟨r1, r2, r3, r4⟩ := PN.out.res _ hp
      have hl := PN.out.lt _ hp
      have HPP := Lib.hid hp
      have HBB := Lib.hid hbb
      clear hp hbb
      simp [depsB, Region.binds, stepG] at hF
      simp [stL, depsB, Region.binds, Act.put, hF]
    all_goals try (go_wp2_with fail; exact ⟨rfl, Below.refl _ _⟩)
    · go_wp2_with fail
      refine (CF.out _ _ _ (PN.out.nodes _ HPP.out) (PN.out.next _ HPP.out) (HI1.out.grow HBB.out)).mono ?_
      rintro e w3 ⟨A, c, rfl, hi, hfr, hb⟩
      go_wp2_with fail
      exact ⟨A, c, rfl, hi, fun hl a ha => Nat.le_trans (Nat.le_of_succ_le (PN.out.lt _ HPP.out)) (hfr hl a ha)⟩
    · go_wp2_with fail
      exact ⟨hF.1, Below.refl _ _⟩
  · intro vs w2 hp hF
    obtain ⟨A, c, e9, hi, hfr⟩ := hF 9 (by decide)
    have e10 : vs 10 = .int .i64 y := hF 10 (by decide)
    have e11 : vs 11 = .bool ov := hF 11 (by decide)
    have e12 : vs 12 = .int .i64 0 := hF 12 (by decide)
    simp [stL, Act.put, e9, e10, e11, e12]
    generalize vs 2 = v2
    generalize vs 7 = v7
    generalize vs 8 = v8
    generalize vs 0 = v0
    generalize vs 1 = v1
    generalize vs 3 = v3
    generalize vs 4 = v4
    generalize vs 5 = v5
    generalize vs 6 = v6
    have HPP := Lib.hid hp
    have HI := Lib.hid hi
    clear hF e9 e10 e11 e12 hp hi
    go_wp2_with fail
    refine bodyPost_ret (results_tmp4 rfl _ _ _) rfl ?_
    exact ⟨A, c, by rw [HY.out]; rfl, HI.out, hfr, PN.out.old _ HPP.out.1⟩
end Go.Proofs.Ytodnbekeidbknaa
