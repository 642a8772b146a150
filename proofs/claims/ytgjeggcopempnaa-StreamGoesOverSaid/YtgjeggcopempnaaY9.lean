/- The walk of the law StreamGoesOver. -/
import Derived.Test.YtgjeggcopempnaaY7
import Derived.Test.YtgjeggcopempnaaY8
set_option linter.unusedVariables false
set_option linter.unusedSimpArgs false
namespace Go.Proofs.Ytgjeggcopempnaa
open Go.RowKit

theorem size_word : (Try.prog.info? 28).map (·.size) = some 4 := by kernel_rfl
theorem bev_S (A : Option Addr) (x : List Int) (c : Nat) : Try.prog.built 41 [(0, .int .i64 1), (1, .slice A x.length c)] = some (evS A x c).cells.toArray := built_evS A x.length c
theorem bev_C (n : NetD) (NA : Option Addr) (nc : Nat) (XA : Option Addr) (xc : Nat) (f : Int) : Try.prog.built 41 [(0, .int .i64 2), (2, .agg (n.lst NA nc XA xc).toArray), (3, .int .i64 f)] = some (evC n NA nc XA xc f).cells.toArray := built_evC n NA nc XA xc f
theorem outS_at {d : StrD} {x : List Int} {k : Nat} {y : Int} (hk : x[k]? = some y) : ∀ K, k < K → K ≤ x.length → (d.outS x K)[k]? = some (d.outY x k y)
  | K + 1, h1, h2 => by
    rw [outS_succ (List.getElem?_eq_getElem (by omega))]
    by_cases h : k = K
    · subst h
      have e : x[k]'(by omega) = y := by
        have := List.getElem?_eq_getElem (l := x) (i := k) (by omega)
        rw [hk] at this
        injection this with this
        exact this.symm
      rw [List.getElem?_append_right (by rw [outS_length k (by omega)]; exact Nat.le_refl _), outS_length k (by omega), Nat.sub_self, e]
      rfl
    · rw [List.getElem?_append_left (by rw [outS_length K (by omega)]; omega)]
      exact outS_at hk K (by omega) (by omega)
/-- Sample for sample: the faded one lies between the two, and is the new one where the fade is over. -/
theorem goes_over {n m : NetD} {s w x : List Int} {f : Int} {N : StrD} (hg : (chgD n m s f 2).Good) (hx : m.fit x = true) (hw : (N.outS w w.length).length = w.length) (k : Nat) (hk : k < x.length) :
    ∃ v a b, (N.outS w w.length ++ (chgD n m s f 2).outS x x.length)[w.length + k]? = some v ∧ ((runD n s).outS x x.length)[k]? = some a ∧ ((runD m (if m.st = n.st then s else List.replicate m.st.toNat 0)).outS x x.length)[k]? = some b ∧
      ((a ≤ v ∧ v ≤ b) ∨ (b ≤ v ∧ v ≤ a)) ∧ (f ≤ (k : Int) + 1 → v = b) := by
  have hy := List.getElem?_eq_getElem (l := x) (i := k) hk
  obtain ⟨h1, h2⟩ := between hg hx hy _ _ rfl rfl
  refine ⟨(chgD n m s f 2).outY x k x[k], _, _, ?_, outS_at hy _ hk (Nat.le_refl _), outS_at hy _ hk (Nat.le_refl _), ?_, ?_⟩
  · rw [List.getElem?_append_right (by omega), hw, Nat.add_sub_cancel_left]
    exact outS_at hy _ hk (Nat.le_refl _)
  · rw [runD_out, runD_out]; exact h1
  · rw [runD_out]; exact h2
/-- The region with the first Run. -/
def rn8 (W : World) (R : World → Value → World → Prop) (nv wv : Value) (g sk : Nat) : Nat → Value → World → Prop
  | 0, v, _ => v = nv | 1, v, _ => v = .pointer (some ⟨g, 8, none⟩) | 2, v, _ => v = .int .i64 sk
  | 3, v, w => ∃ q, v = .slice (some ⟨q, 0, none⟩) sk sk ∧ Ints w (some ⟨q, 0, none⟩) (List.replicate sk 0)
  | 4, v, _ => v = wv
  | 5, v, w => CallF W R v w ∧ Is4 v
  | 6, v, _ => Is4 v
  | _, _, _ => True
theorem rn8_keep {W : World} {R : World → Value → World → Prop} {nv wv : Value} {g sk : Nat} {a b : World} (h : Below a.heap.size a b) : ∀ i v, rn8 W R nv wv g sk i v a → rn8 W R nv wv g sk i v b
  | 0, _, e => e | 1, _, e => e | 2, _, e => e | 4, _, e => e | 6, _, e => e
  | 3, _, ⟨q, e, hi⟩ => ⟨q, e, hi.grow h⟩
  | 5, _, ⟨hc, h3⟩ => ⟨hc.keep h, h3⟩
  | _ + 7, _, _ => trivial
theorem entryRR (w : World) (u r : RawA) : ∀ W, W = ((w.alloc (.cells u.lst.toArray 25)).alloc (.cells r.lst.toArray 25)) →
    Box W w.heap.size u.lst ∧ Box W (w.heap.size + 1) r.lst ∧ Below w.heap.size w W := fun W hW => by
  subst hW
  exact ⟨Box.alloc (Box.new rfl) _, Box.new (by simp), ((Below.refl w.heap.size w).alloc (Nat.le_refl _) _).alloc (by simp) _⟩
set_option maxRecDepth 100000 in
set_option maxHeartbeats 16000000 in
theorem law_StreamGoesOver (u r : RawA) (fd : Int) (b i : Option Addr × Nat × List Int) (w : World) (hu : RawOk w u) (hr : RawOk w r) (hfd : I64 fd) (hb : Ints w b.1 b.2.2 ∧ b.2.2.length ≤ 9223372036854775807) (hi : Ints w i.1 i.2.2 ∧ i.2.2.length ≤ 9223372036854775807) :
    Calls Try.prog 3 #[u.val, r.val, .int .i64 fd, .slice b.1 b.2.2.length b.2.1, .slice i.1 i.2.2.length i.2.1] w (BoolBw w true) := by
  obtain ⟨BA, bc, bl⟩ := b
  obtain ⟨IA, ic, il⟩ := i
  obtain ⟨hB, hbl⟩ := hb
  obtain ⟨hI, hil⟩ := hi
  simp only at hB hI hbl hil ⊢
  obtain ⟨bn, hbn⟩ : ∃ k, bl.length = k := ⟨_, rfl⟩
  obtain ⟨im, him⟩ : ∃ k, il.length = k := ⟨_, rfl⟩
  rw [hbn, him]
  have HBN := Lib.hid hbn
  have HIM := Lib.hid him
  rw [hbn] at hbl
  rw [him] at hil
  clear hbn him
  by_cases h0 : (im : Int) ≤ 30
  rotate_left
  · have h0 : (30 : Int) < (im : Int) := Int.not_le.1 h0
    have d0 : decide ((30 : Int) < (im : Int)) = true := decide_eq_true h0
    clear hu hr hB hI
    show Calls Try.prog 3 #[.agg u.lst.toArray, .agg r.lst.toArray, .int .i64 fd, .slice BA bn bc, .slice IA im ic] w _
    go_enter Try.func3, Try.ntmps3
    go_upto_region 1 with fail
    obtain ⟨bx0, bx1, hb0⟩ := entryRR w u r _ rfl
    change Code.wp _ _ _ _ ((w.alloc (.cells u.lst.toArray 25)).alloc (.cells r.lst.toArray 25))
    generalize ((w.alloc (.cells u.lst.toArray 25)).alloc (.cells r.lst.toArray 25)) = W0 at bx0 bx1 hb0 ⊢
    go_wp2_with (go_at_call 4; refine (known42 _).mono ?_; rintro e1 w1 ⟨rfl, hb1⟩; have hw1 := below_then hb0 hb1)
    go_ret
    exact ⟨rfl, hw1⟩
  have d0 : decide ((30 : Int) < (im : Int)) = false := decide_eq_false (Int.not_lt.2 h0)
  by_cases h1 : (bn : Int) ≤ 20
  rotate_left
  · have h1 : (20 : Int) < (bn : Int) := Int.not_le.1 h1
    have d1 : decide ((20 : Int) < (bn : Int)) = true := decide_eq_true h1
    clear hu hr hB hI
    show Calls Try.prog 3 #[.agg u.lst.toArray, .agg r.lst.toArray, .int .i64 fd, .slice BA bn bc, .slice IA im ic] w _
    go_enter Try.func3, Try.ntmps3
    go_upto_region 1 with fail
    obtain ⟨bx0, bx1, hb0⟩ := entryRR w u r _ rfl
    change Code.wp _ _ _ _ ((w.alloc (.cells u.lst.toArray 25)).alloc (.cells r.lst.toArray 25))
    generalize ((w.alloc (.cells u.lst.toArray 25)).alloc (.cells r.lst.toArray 25)) = W0 at bx0 bx1 hb0 ⊢
    go_wp2_with (go_at_call 4; refine (known42 _).mono ?_; rintro e1 w1 ⟨rfl, hb1⟩; have hw1 := below_then hb0 hb1)
    go_ret
    exact ⟨rfl, hw1⟩
  have d1 : decide ((20 : Int) < (bn : Int)) = false := decide_eq_false (Int.not_lt.2 h1)
  have CN : Hid (∀ w1, Below w.heap.size w w1 → Calls Try.prog 5 #[.agg u.lst.toArray] w1 (RetRN w1)) := fun w1 hb => raw_RN u w1 (hu.grow hb)
  have CM : Hid (∀ w1, Below w.heap.size w w1 → Calls Try.prog 5 #[.agg r.lst.toArray] w1 (RetRN w1)) := fun w1 hb => raw_RN r w1 (hr.grow hb)
  have HB := Lib.hid hB
  have HI := Lib.hid hI
  clear hu hr hB hI
  show Calls Try.prog 3 #[.agg u.lst.toArray, .agg r.lst.toArray, .int .i64 fd, .slice BA bn bc, .slice IA im ic] w _
  go_enter Try.func3, Try.ntmps3
  go_upto_region 1 with fail
  obtain ⟨bx0, bx1, hb0⟩ := entryRR w u r _ rfl
  change Code.wp _ _ _ _ ((w.alloc (.cells u.lst.toArray 25)).alloc (.cells r.lst.toArray 25))
  generalize ((w.alloc (.cells u.lst.toArray 25)).alloc (.cells r.lst.toArray 25)) = W0 at bx0 bx1 hb0 ⊢
  go_upto_region 3 with fail
  have BX0 := Lib.hid bx0
  have BX1 := Lib.hid bx1
  have HW0 := Lib.hid hb0
  clear bx0 bx1 hb0
  refine wp_region_grow7 (fun i => Nat.blt i 6) (fun _ => false) (fun w2 => Below W0.heap.size W0 w2) (fun j x a b => Below a.heap.size a b ∧ nmG j x a b) (fun a b => Below a.heap.size a b) (nmF W0 (.agg u.lst.toArray) (.agg r.lst.toArray)) (by kernel_rfl) (by kernel_rfl) (Below.drew (Below.refl _ _)) (fun j x a b h1 h2 => ⟨below_then h1 h2.1, fun i _ v => nmF_keep h2.1 i v, Below.refl _ _, fun w0 h => below_then h h2.1⟩) (fun j v w h => by cases h) ?_ (fun j o _ _ h => by cases h) ?_
  · refine ⟨?_, ?_, ?_, ?_, ?_, ?_, trivial⟩
    all_goals
      intro vs w2 hp hF
      have HP := Lib.hid hp
      have B0 := Lib.hid (Box.keep BX0.out hp)
      have B1 := Lib.hid (Box.keep BX1.out hp)
      clear hp
      simp [depsB, Region.binds, nmF] at hF
      simp [stL, depsB, Region.binds, Act.put, hF]
    · refine ld_raw B0.out rfl _ rfl rfl ?_
      go_wp2_with fail
      exact ⟨rfl, Below.refl _ _, trivial⟩
    · go_wp2_with fail
      (with_reducible refine (CN.out _ (below_then HW0.out HP.out)).mono ?_)
      rintro e1 w3 ⟨n, NA, nc, XA, xc, rfl, hok, hst3, hns4, hnf, hb1⟩
      have hrn : RN w2 (.agg (n.lst NA nc XA xc).toArray) w3 := ⟨n, NA, nc, XA, xc, rfl, hok, hst3, hns4, hnf⟩
      have hk : nmF W0 (.agg u.lst.toArray) (.agg r.lst.toArray) 1 (.agg (n.lst NA nc XA xc).toArray) w3 := ⟨⟨w2, w3, HP.out, hrn, Below.refl _ _⟩⟩
      have hg : nmG 1 (.agg (n.lst NA nc XA xc).toArray) w2 w3 := hrn
      go_wp2_with fail
      all_goals first | exact ⟨hk, hb1, hg⟩ | trivial
    · refine ld_raw B1.out rfl _ rfl rfl ?_
      go_wp2_with fail
      exact ⟨rfl, Below.refl _ _, trivial⟩
    · go_wp2_with fail
      (with_reducible refine (CM.out _ (below_then HW0.out HP.out)).mono ?_)
      rintro e1 w3 ⟨n, NA, nc, XA, xc, rfl, hok, hst3, hns4, hnf, hb1⟩
      have hrn : RN w2 (.agg (n.lst NA nc XA xc).toArray) w3 := ⟨n, NA, nc, XA, xc, rfl, hok, hst3, hns4, hnf⟩
      have hk : nmF W0 (.agg u.lst.toArray) (.agg r.lst.toArray) 3 (.agg (n.lst NA nc XA xc).toArray) w3 := ⟨⟨w2, w3, HP.out, hrn, Below.refl _ _⟩⟩
      have hg : nmG 3 (.agg (n.lst NA nc XA xc).toArray) w2 w3 := hrn
      go_wp2_with fail
      all_goals first | exact ⟨hk, hb1, hg⟩ | trivial
    · go_wp2_with fail
      exact ⟨⟨_, rfl, Box.new rfl, HP.out.size⟩, (Below.refl _ _).alloc (Nat.le_refl _) _, rfl⟩
    · go_wp2_with fail
      exact ⟨⟨_, rfl, Box.new rfl, HP.out.size⟩, (Below.refl _ _).alloc (Nat.le_refl _) _, rfl⟩
  intro vs w2 hp hF hPr
  obtain ⟨c1, d1, -, ⟨n, NA, nc, XA, xc, e1, hok, hst3, hns4, hnf1⟩, hb1⟩ := (show CallF W0 RN (vs 1) w2 from hF 1 (by decide) rfl).was
  obtain ⟨c3, d3, -, ⟨m0, MA, mc, YA, yc, e3, hmk, hmt3, hms4, hnf3⟩, hb3⟩ := (show CallF W0 RN (vs 3) w2 from hF 3 (by decide) rfl).was
  obtain ⟨g, e4, hg4, hgb⟩ := (show NewN W0 (vs 4) w2 from hF 4 (by decide) rfl)
  obtain ⟨h, e5, hh4, hhb⟩ := (show NewN W0 (vs 5) w2 from hF 5 (by decide) rfl)
  have hnf1 := hnf1.grow hb1
  have hnf3 := hnf3.grow hb3
  have n14 := net_free (B := W0) (ic := 1) (ia := 4) (fun v w h => h) (fun v w h => h) (fun v a b h => h.2) (fun v a b h => ⟨h.2, h.1⟩) e4 e1 hnf1.at (hPr 1 4 (by decide) (by decide) rfl rfl (by decide))
  have n15 := net_free (B := W0) (ic := 1) (ia := 5) (fun v w h => h) (fun v w h => h) (fun v a b h => h.2) (fun v a b h => ⟨h.2, h.1⟩) e5 e1 hnf1.at (hPr 1 5 (by decide) (by decide) rfl rfl (by decide))
  have n34 := net_free (B := W0) (ic := 3) (ia := 4) (fun v w h => h) (fun v w h => h) (fun v a b h => h.2) (fun v a b h => ⟨h.2, h.1⟩) e4 e3 hnf3.at (hPr 3 4 (by decide) (by decide) rfl rfl (by decide))
  have n35 := net_free (B := W0) (ic := 3) (ia := 5) (fun v w h => h) (fun v w h => h) (fun v a b h => h.2) (fun v a b h => ⟨h.2, h.1⟩) e5 e3 hnf3.at (hPr 3 5 (by decide) (by decide) rfl rfl (by decide))
  have ngh := new_two (B := W0) (ia := 4) (ib := 5) (fun v w h => h) (fun v w h => h) (fun v a b h => h.2) (fun v a b h => h.2) e4 e5 (hPr 4 5 (by decide) (by decide) rfl rfl (by decide))
  show wpList Try.prog _ _ [_, _] _ _
  simp [stL, Act.put, e1, e3, e4, e5]
  clear hF hPr e1 e3 e4 e5 hb1 hb3
  generalize vs 0 = x10
  generalize vs 2 = x12
  go_upto_region 4 with (first
    | ((with_reducible show wpList _ _ _ (Oper.mk _ (.store _ _ _) _ _ _ _ :: _) _ _); first | (refine st_netBx hg4 rfl rfl _ _ rfl rfl rfl ?_; intro W1 bg1 p1; have hh4' := Box.grown hh4 p1 (by intro e; injection e with e; exact ngh e.symm)) | (refine st_netBx hh4' rfl rfl _ _ rfl rfl rfl ?_; intro W2 bh2 p2)))
  have bg2 := Box.grown bg1 p2 (by intro e; injection e with e; exact ngh e)
  have hw2 := put_facts (put_facts hp hgb p1) hhb p2
  have hn2 := (hnf1.awayN n14 p1).awayN (n15.away n14 p1) p2
  have hm2 := (hnf3.awayN n34 p1).awayN (n35.away n34 p1) p2
  have qn := (n15.away n14 p1).away (n15.away n14 p1) p2
  have qm := (n35.away n34 p1).away (n35.away n34 p1) p2
  obtain ⟨z0, z1, z2, z3⟩ : W2.cell? ⟨g, 0, none⟩ = some (.int .i64 n.d0) ∧ W2.cell? ⟨g, 1, none⟩ = some (.int .i64 n.d1) ∧ W2.cell? ⟨g, 2, none⟩ = some (.int .i64 n.d2) ∧ W2.cell? ⟨g, 3, none⟩ = some (.int .i64 n.d3) := ⟨bg2.2.1 0, bg2.2.1 1, bg2.2.1 2, bg2.2.1 3⟩
  go_upto_region 5 with ((with_reducible show wpList _ _ _ (Oper.mk _ (.store _ _ _) _ _ _ _ :: _) _ _); refine wp_st (vs' := (m0.withD n).lst MA mc YA yc) rfl _ _ _ rfl h 0 [.int .i64 n.d0, .int .i64 n.d1, .int .i64 n.d2, .int .i64 n.d3] rfl rfl size_word rfl bh2 (by show 0 + 4 ≤ 12; omega) rfl ?_; intro W3 bh3 p3)
  have BG3 := Lib.hid (Box.grown bg2 p3 (by intro e; injection e with e; exact ngh e))
  have HW3 := Lib.hid (below_then HW0.out (put_facts hw2 hhb p3))
  have HN3 := Lib.hid (hn2.awayN qn p3).at
  have HM3 := Lib.hid (withD_at (n := n) (hm2.awayN qm p3).at)
  have HSM := Lib.hid (withD_same m0 n)
  have HMK := Lib.hid (withD_ok hmk hok)
  have HFM : Hid (∀ l, (m0.withD n).fit l = n.fit l) := fun l => rfl
  have HTM : Hid (∀ l, (m0.withD n).st = n.st → n.state l = true → (m0.withD n).state l = true) := fun l e hl => by
    obtain ⟨h1, h2⟩ := state_iff.1 hl
    exact state_iff.2 ⟨by rw [e]; exact h1, h2⟩
  have hmst : (m0.withD n).st ≤ 3 := hmt3
  generalize hgm : m0.withD n = m at HM3 HSM HMK HFM HTM hmst bh3 ⊢
  have HOK := Lib.hid hok
  have BH3 := Lib.hid bh3
  clear hgm bg1 bg2 bh2 bh3 p1 p2 p3 hw2 hn2 hm2 qn qm z0 z1 z2 z3 hnf1 hnf3 n14 n15 n34 n35 hg4 hh4 hgb hhb hp hok hmk hmt3 hms4 hns4 hh4' CN CM BX0 BX1 HW0
  obtain ⟨p1, -, ⟨p2, p3⟩, -⟩ := netB_parts HOK.out
  obtain ⟨-, -, ⟨p4, p5⟩, -⟩ := netB_parts HMK.out
  obtain ⟨sk, hsk⟩ : ∃ k : Nat, n.st = (k : Int) := ⟨n.st.toNat, by omega⟩
  obtain ⟨tk, htk⟩ : ∃ k : Nat, m.st = (k : Int) := ⟨m.st.toNat, by omega⟩
  have HSK := Lib.hid hsk
  have HTK := Lib.hid htk
  have hsk3 : sk ≤ 3 := by omega
  have htk3 : tk ≤ 3 := by omega
  clear p2 p3 p4 p5 hsk htk hmst hst3
  obtain ⟨g1, g2⟩ := within_in (m := 12) (by decide) fd
  obtain ⟨f, hf⟩ : ∃ f, withinF fd 12 = f := ⟨_, rfl⟩
  rw [hf] at g1 g2
  have CWi : Hid (∀ w1, Calls Try.prog 6 #[.int .i64 fd, .int .i64 12] w1 fun e w' => e = .returned (.int .i64 f) ∧ w1 = w') := fun w1 => by have := wd_Within fd 12 w1 (by decide); rw [hf] at this; exact this
  clear hf
  go_upto_region 6 with (go_at_call 6; (with_reducible refine (CWi.out _).mono ?_); rintro e2 w4 ⟨rfl, rfl⟩)
  clear CWi
  obtain ⟨lw, hlw⟩ : ∃ l, wordsF n.d0 n.d1 n.d2 n.d3 bl bn = l := ⟨_, rfl⟩
  obtain ⟨lx, hlx⟩ : ∃ l, wordsF n.d0 n.d1 n.d2 n.d3 il im = l := ⟨_, rfl⟩
  have HLW : Hid (lw.length = bn) := by show _ = _; rw [← hlw, wordsF_length]
  have HLX : Hid (lx.length = im) := by show _ = _; rw [← hlx, wordsF_length]
  have HFW : Hid (n.fit lw = true) := by show _ = _; rw [← hlw]; exact fit_words HOK.out
  have HFX : Hid (n.fit lx = true) := by show _ = _; rw [← hlx]; exact fit_words HOK.out
  have CW : Hid (∀ w1, Below w.heap.size w w1 → Calls Try.prog 7 #[wordV n.d0 n.d1 n.d2 n.d3, .slice BA bn bc, .int .i64 bn] w1 fun e w' => ∃ A c, e = .returned (.slice A lw.length c) ∧ IntsF w1.heap.size w' A lw ∧ Below w1.heap.size w1 w') := fun w1 hb => by
    have := wd_Words n.d0 n.d1 n.d2 n.d3 BA bl bc bn w1 (by omega) (HB.out.grow hb)
    rw [HBN.out, hlw] at this
    refine this.mono ?_
    rintro e w' ⟨v, rfl, ho, hb⟩
    obtain ⟨A, c, rfl, -, -⟩ := ho.form
    exact ⟨A, c, rfl, IntsF.own ho, hb⟩
  have CX : Hid (∀ w1, Below w.heap.size w w1 → Calls Try.prog 7 #[wordV n.d0 n.d1 n.d2 n.d3, .slice IA im ic, .int .i64 im] w1 fun e w' => ∃ A c, e = .returned (.slice A lx.length c) ∧ IntsF w1.heap.size w' A lx ∧ Below w1.heap.size w1 w') := fun w1 hb => by
    have := wd_Words n.d0 n.d1 n.d2 n.d3 IA il ic im w1 (by omega) (HI.out.grow hb)
    rw [HIM.out, hlx] at this
    refine this.mono ?_
    rintro e w' ⟨v, rfl, ho, hb⟩
    obtain ⟨A, c, rfl, -, -⟩ := ho.form
    exact ⟨A, c, rfl, IntsF.own ho, hb⟩
  clear hlw hlx
  refine wp_region_grow2 (fun i => Nat.blt i 12) (fun _ => false) (fun w2 => Below W3.heap.size W3 w2) (fun a b => Below a.heap.size a b) (wsF W3.heap.size (.pointer (some ⟨g, 0, none⟩)) (wordV n.d0 n.d1 n.d2 n.d3) (.slice BA bn bc) (.slice IA im ic) bn im lw lx) (by kernel_rfl) (by kernel_rfl) (Below.drew (Below.refl _ _)) (fun a b h1 h2 => ⟨below_then h1 h2, fun i _ v => wsF_keep h2 i v⟩) (fun w _ => Below.refl _ _) ?_ (fun j o _ _ h => by cases h) ?_
  · refine ⟨?_, ?_, ?_, ?_, ?_, ?_, ?_, ?_, ?_, ?_, ?_, ?_, trivial⟩
    all_goals
      intro vs w2 hp hF
      have HP := Lib.hid hp
      have bk := Box.keep BG3.out hp
      have z0 : w2.cell? ⟨g, 0, none⟩ = some (.int .i64 n.d0) := bk.2.1 0
      have z1 : w2.cell? ⟨g, 1, none⟩ = some (.int .i64 n.d1) := bk.2.1 1
      have z2 : w2.cell? ⟨g, 2, none⟩ = some (.int .i64 n.d2) := bk.2.1 2
      have z3 : w2.cell? ⟨g, 3, none⟩ = some (.int .i64 n.d3) := bk.2.1 3
      clear hp bk
      simp [depsB, Region.binds, wsF] at hF
      simp [stL, depsB, Region.binds, Act.put, hF]
    all_goals try (go_wp2_with fail; exact ⟨rfl, Below.refl _ _⟩)
    · go_wp2_with fail
      refine (CW.out _ (below_then HW3.out HP.out)).mono ?_
      rintro e2 w3 ⟨A, c, rfl, hi, hb3⟩
      go_wp2_with fail
      exact ⟨A, c, rfl, hi.base HP.out.size⟩
    · go_wp2_with fail
      refine (CX.out _ (below_then HW3.out HP.out)).mono ?_
      rintro e2 w3 ⟨A, c, rfl, hi, hb3⟩
      go_wp2_with fail
      exact ⟨A, c, rfl, hi.base HP.out.size⟩
  intro vs w2 hp hF
  obtain ⟨WA, wc, e5, hi5⟩ := hF 5 (by decide) rfl
  obtain ⟨XB, xb, e11, hi11⟩ := hF 11 (by decide) rfl
  show wpList Try.prog _ _ [_, _] _ _
  simp [stL, Act.put, e5, e11]
  generalize vs 0 = y10
  generalize vs 1 = x11
  generalize vs 2 = y12
  generalize vs 3 = x13
  generalize vs 4 = x14
  generalize vs 6 = x16
  generalize vs 7 = x17
  generalize vs 8 = x18
  generalize vs 9 = x19
  generalize vs 10 = x110
  have HW2 := Lib.hid (below_then HW3.out hp)
  have BG2 := Lib.hid (Box.keep BG3.out hp)
  have BH2 := Lib.hid (Box.keep BH3.out hp)
  have HN2 := Lib.hid (HN3.out.grow hp)
  have HM2 := Lib.hid (HM3.out.grow hp)
  have HIW := Lib.hid hi5.1
  have HIX := Lib.hid hi11.1
  clear hF e5 e11 hi5 hi11 hp BG3 BH3 HN3 HM3 HW3 CW CX
  go_upto_region 7 with fail
  obtain ⟨es, hes⟩ : ∃ es, es = [evS WA lw wc, evC m MA mc YA yc f, evS XB lx xb] := ⟨_, rfl⟩
  have hlw4 : lw.length ≤ 4096 := by rw [HLW.out]; omega
  have hlx4 : lx.length ≤ 4096 := by rw [HLX.out]; omega
  obtain ⟨e0, eO, hgd⟩ := play3 (n := n) (m := m) (w := lw) (x := lx) (A := WA) (B := XB) (NA := MA) (XA := YA) (c := wc) (b := xb) (nc := mc) (xc := yc) (f := f) HOK.out HMK.out HSM.out HFW.out HFX.out hlw4 hlx4 g1 (by omega)
  have hop : openD n = runD n (List.replicate sk 0) := by rw [openD_run, HSK.out]; rfl
  have hzs : n.state (List.replicate sk 0) = true := by
    have := zeros_state HOK.out
    rw [HSK.out] at this; exact this
  obtain ⟨AT, hAT⟩ : ∃ l, (runD n (List.replicate sk 0)).stS lw lw.length = l := ⟨_, rfl⟩
  obtain ⟨RO, hRO⟩ : ∃ l, (runD n (List.replicate sk 0)).outS lw lw.length = l := ⟨_, rfl⟩
  obtain ⟨ST, hST⟩ : ∃ l, (if m.st = n.st then AT else List.replicate m.st.toNat 0) = l := ⟨_, rfl⟩
  obtain ⟨OL, hOL⟩ : ∃ l, (runD n AT).outS lx lx.length = l := ⟨_, rfl⟩
  obtain ⟨SL, hSL⟩ : ∃ l, (runD n AT).stS lx lx.length = l := ⟨_, rfl⟩
  obtain ⟨FR, hFR⟩ : ∃ l, (runD m ST).outS lx lx.length = l := ⟨_, rfl⟩
  obtain ⟨SF, hSF⟩ : ∃ l, (runD m ST).stS lx lx.length = l := ⟨_, rfl⟩
  have hrl : RO.length = lw.length := by rw [← hRO]; exact outS_length _ (Nat.le_refl _)
  rw [hop, hAT] at hgd eO
  obtain ⟨O, hO⟩ : ∃ l, RO ++ (chgD n m AT f 2).outS lx lx.length = l := ⟨_, rfl⟩
  have eO2 : playO (openD n) es = O := by rw [hes, hop, eO, hRO, hO]
  have eE2 : playE (openD n) es = 0 := by rw [hes]; exact e0
  obtain ⟨ln, hln⟩ : ∃ k, O.length = k := ⟨_, rfl⟩
  have HLN : Hid (ln = bn + im) := by show _ = _; rw [← hln, ← hO, List.length_append, hrl, HLW.out, outS_length _ (Nat.le_refl _), HLX.out]
  have HGO : Hid (∀ k : Nat, k < im → ∃ v a b, O[bn + k]? = some v ∧ OL[k]? = some a ∧ FR[k]? = some b ∧ ((a ≤ v ∧ v ≤ b) ∨ (b ≤ v ∧ v ≤ a)) ∧ (f ≤ (k : Int) + 1 → v = b)) := fun k hk => by
    have := goes_over (N := runD n (List.replicate sk 0)) (w := lw) hgd ((HFM.out lx).trans HFX.out) (by rw [hRO]; exact hrl) k (by rw [HLX.out]; exact hk)
    rw [hRO, hO, hOL, hST, hFR, HLW.out] at this
    exact this
  have hats : n.state AT = true := by
    rw [← hAT]
    exact stS_state (runD_good HOK.out hzs) HFW.out _ (Nat.le_refl _)
  have HAL : Hid (AT.length = sk) := by
    have := (state_iff.1 hats).1
    have h2 := HSK.out
    show _ = _
    omega
  have HSTS : Hid (m.state ST = true) := by
    show _ = _
    rw [← hST]
    by_cases e : m.st = n.st
    · rw [if_pos e]; exact HTM.out _ e hats
    · rw [if_neg e]; exact zeros_state HMK.out
  have HSTL : Hid (ST.length = tk) := by
    have := (state_iff.1 HSTS.out).1
    have h2 := HTK.out
    show _ = _
    omega
  have HST1 : Hid (sk = tk → ST = AT) := fun e => by rw [← hST, if_pos (by rw [HSK.out, HTK.out, e])]
  have HST2 : Hid (sk ≠ tk → ST = List.replicate tk 0) := fun e => by
    rw [← hST, if_neg (by rw [HSK.out, HTK.out]; omega), HTK.out]; rfl
  have HATS := Lib.hid hats
  have CP : Hid (∀ w1 EA, Below w.heap.size w w1 → NetAt w1 n NA XA → EvsAt w1 EA es → Calls Try.prog 8 #[.agg (n.lst NA nc XA xc).toArray, .slice EA 3 3] w1 fun e w' => ∃ (u : StrA) (A : Option Addr) (c : Nat), e = .returned (.tuple #[.slice A ln c, u.v, .int .i64 0]) ∧ IntsF w1.heap.size w' A O ∧ Below w1.heap.size w1 w') := fun w1 EA hb hn he => by
    have := st_Play n NA XA nc xc es EA 3 3 w1 hn HOK.out he (by rw [hes]; rfl) (by decide)
    unfold plD plO at this
    rw [eE2, if_pos rfl, if_pos rfl, eO2] at this
    refine this.mono ?_
    rintro e w' ⟨u, A, c, rfl, -, hf, hi, hb⟩
    exact ⟨u, A, c, by rw [hln], hi, hb⟩
  have CR : Hid (∀ w1 q c, NetAt w1 n NA XA → IntsF w1.heap.size w1 WA lw ∨ Ints w1 WA lw → Ints w1 (some ⟨q, 0, none⟩) (List.replicate sk 0) → Calls Try.prog 9 #[.agg (n.lst NA nc XA xc).toArray, .slice (some ⟨q, 0, none⟩) sk sk, .slice WA lw.length c] w1 fun e w' => ∃ v, e = .returned v ∧ RunR RO AT w1 v w' ∧ Is4 v ∧ Below w1.heap.size w1 w') := fun w1 q c hn hi hz => by
    refine (nw_Run n NA XA nc xc (List.replicate sk 0) (some ⟨q, 0, none⟩) sk sk lw WA _ c w1 hn HOK.out hzs List.length_replicate hz (hi.elim (fun h => h.1) id) HFW.out rfl hlw4).mono ?_
    rw [hRO, hAT]
    rintro e w' ⟨A', B', c', b', k, rfl, h1, h2, hb⟩
    exact ⟨_, rfl, ⟨A', B', c', b', k, rfl, h1, h2⟩, ⟨_, _, _, _, rfl⟩, hb⟩
  have CO : Hid (∀ w1 A a, Below w2.heap.size w2 w1 → NetAt w1 n NA XA → Ints w1 A AT → Calls Try.prog 9 #[.agg (n.lst NA nc XA xc).toArray, .slice A sk a, .slice XB im xb] w1 fun e w' => ∃ (A B : Option Addr) (c b b' : Nat) (k : Int), e = .returned (.tuple #[.slice A im c, .slice B b' b, .int .i64 k, .int .i64 0]) ∧ IntsF w1.heap.size w' A OL ∧ Below w1.heap.size w1 w') := fun w1 A a hb hn hz => by
    refine (nw_Run n NA XA nc xc AT A sk a lx XB im xb w1 hn HOK.out hats HAL.out hz (HIX.out.grow hb) HFX.out HLX.out (by omega)).mono ?_
    rw [← HLX.out, hOL]
    rintro e w' ⟨A', B', c', b', k, rfl, h1, h2, hb⟩
    exact ⟨A', B', c', b', _, k, by rw [← hOL, outS_length _ (Nat.le_refl _)], h1, hb⟩
  have CF : Hid (∀ w1 A a, Below w2.heap.size w2 w1 → NetAt w1 m MA YA → Ints w1 A ST → Calls Try.prog 9 #[.agg (m.lst MA mc YA yc).toArray, .slice A tk a, .slice XB im xb] w1 fun e w' => ∃ (A B : Option Addr) (c b b' : Nat) (k : Int), e = .returned (.tuple #[.slice A im c, .slice B b' b, .int .i64 k, .int .i64 0]) ∧ IntsF w1.heap.size w' A FR ∧ Below w1.heap.size w1 w') := fun w1 A a hb hn hz => by
    refine (nw_Run m MA YA mc yc ST A tk a lx XB im xb w1 hn HMK.out HSTS.out HSTL.out hz (HIX.out.grow hb) ((HFM.out lx).trans HFX.out) HLX.out (by omega)).mono ?_
    rw [← HLX.out, hFR]
    rintro e w' ⟨A', B', c', b', k, rfl, h1, h2, hb⟩
    exact ⟨A', B', c', b', _, k, by rw [← hFR, outS_length _ (Nat.le_refl _)], h1, hb⟩
  have HEV0 := evs3_at (evS_at (c := wc) HIW.out (by omega)) (evC_at (nc := mc) (xc := yc) (f := f) HM2.out) (evS_at (c := xb) HIX.out (by omega))
  have HB30 := built_ev3 (evS WA lw wc) (evC m MA mc YA yc f) (evS XB lx xb)
  rw [← hes] at HEV0
  generalize ((evS WA lw wc).cells ++ (evC m MA mc YA yc f).cells ++ (evS XB lx xb).cells).toArray = cs3 at HEV0 HB30
  have HEV := Lib.hid HEV0
  have HB3 := Lib.hid HB30
  have HBE := Lib.hid ((Below.refl w2.heap.size w2).alloc (Nat.le_refl _) (.cells cs3 41))
  clear HEV0 HB30
  clear e0 eO eO2 eE2 hop hRO hAT hST hOL hSL hFR hSF hO hgd hes hln hats hzs hrl HSTS HATS HSM HFM HTM HFW HFX hlw4 hlx4
  go_upto_region 8 with (first
    | ((with_reducible show wpList _ _ _ (Oper.mk (some 64) (.load _ _) _ _ _ _ :: _) _ _); refine ld_netB1 BG2.out rfl rfl _ rfl rfl ?_)
    | ((with_reducible show wpList _ _ _ (Oper.mk (some 67) (.load _ _) _ _ _ _ :: _) _ _); refine ld_netB1 BH2.out rfl rfl _ rfl rfl ?_)
    | ((with_reducible show wpList _ _ _ (Oper.mk (some 66) (.build _ _) _ _ _ _ :: _) _ _); refine wp_bld rfl _ _ rfl _ rfl (bev_S WA lw wc) ?_)
    | ((with_reducible show wpList _ _ _ (Oper.mk (some 69) (.build _ _) _ _ _ _ :: _) _ _); refine wp_bld rfl _ _ rfl _ rfl (bev_C m MA mc YA yc f) ?_)
    | ((with_reducible show wpList _ _ _ (Oper.mk (some 71) (.build _ _) _ _ _ _ :: _) _ _); refine wp_bld rfl _ _ rfl _ rfl (bev_S XB lx xb) ?_)
    | ((with_reducible show wpList _ _ _ (Oper.mk (some 72) (.buildSlice _ _ _) _ _ _ _ :: _) _ _); refine wp_bldS rfl _ 41 3 _ rfl und_ev 15 size_ev (by decide) (by decide) _ rfl HB3.out ?_)
    | (go_at_call 8; (with_reducible refine (CP.out _ _ (below_then HW2.out HBE.out) (HN2.out.grow HBE.out) HEV.out).mono ?_); rintro e1 w4 ⟨us, ZA, zc, rfl, hz4, hb4⟩)
    | ((with_reducible show wpList _ _ _ (Oper.mk _ (.store _ _ _) _ _ _ _ :: _) _ _); refine st_str (u := StrA.zero) (w := w4.alloc (.cells StrA.zero.cells.toArray 36)) (g := w4.heap.size) (Box.new rfl) rfl _ _ rfl rfl rfl ?_; intro W5 bg5 p5))
  have hb25 := below_then (below_then HBE.out hb4) (put_facts ((Below.refl w4.heap.size w4).alloc (Nat.le_refl _) (.cells StrA.zero.cells.toArray 36)) (Nat.le_refl _) p5)
  have HZ5 := Lib.hid (hz4.grow (put_facts ((Below.refl w4.heap.size w4).alloc (Nat.le_refl _) (.cells StrA.zero.cells.toArray 36)) (Nat.le_refl _) p5)).1
  have HB25 := Lib.hid hb25
  clear hz4 hb4 bg5 p5 hb25 CP HEV HBE HB3
  generalize w4.heap.size = g16
  have BG5 := Lib.hid (Box.keep BG2.out HB25.out)
  have BH5 := Lib.hid (Box.keep BH2.out HB25.out)
  have HN5 := Lib.hid (HN2.out.grow HB25.out)
  have HM5 := Lib.hid (HM2.out.grow HB25.out)
  have HIW5 := Lib.hid (HIW.out.grow HB25.out)
  clear BG2 BH2 HN2 HM2 HIW
  refine wp_region_grow4 11 (fun w3 => Below W5.heap.size W5 w3) (fun _ _ a b => Below a.heap.size a b) (fun a b => Below a.heap.size a b) (rn8 W5 (RunR RO AT) (.agg (n.lst NA nc XA xc).toArray) (.slice WA lw.length wc) g sk) (by kernel_rfl) (by kernel_rfl) (Below.drew (Below.refl _ _)) (fun j x a b h1 h2 => ⟨below_then h1 h2, fun i _ v => rn8_keep h2 i v, Below.refl _ _, fun w0 h => below_then h h2⟩) ?_ ?_
  · refine ⟨?_, ?_, ?_, ?_, ?_, ?_, ?_, ?_, ?_, ?_, ?_, trivial⟩
    all_goals
      intro vs w3 hp hF _
      have HP := Lib.hid hp
      have BN := Lib.hid (Box.keep BG5.out hp)
      have z8 : w3.cell? ⟨g, 8, none⟩ = some (.int .i64 n.st) := BN.out.2.1 8
      rw [HSK.out] at z8
      clear hp
      simp [depsB, Region.binds, rn8] at hF
      simp [stL, depsB, Region.binds, Act.put, hF]
    · refine ld_netB1 BN.out rfl rfl _ rfl rfl ?_
      go_wp2_with fail
      exact ⟨rfl, Below.refl _ _⟩
    · go_wp2_with fail
      exact ⟨rfl, Below.refl _ _⟩
    · go_wp2_with fail
      exact ⟨rfl, Below.refl _ _⟩
    · go_wp2_with (at_make; refine mk_int rfl _ _ rfl W5.heap.size sk rfl rfl rfl (by omega) HP.out.size ?_; intro w4 ho4 hb4; have hk3 : rn8 W5 (RunR RO AT) (.agg (n.lst NA nc XA xc).toArray) (.slice WA lw.length wc) g sk 3 (.slice (some ⟨w3.heap.size, 0, none⟩) sk sk) w4 := ⟨w3.heap.size, rfl, ho4.ints⟩)
      all_goals first | exact ⟨hk3, hb4⟩ | trivial
    · go_wp2_with fail
      exact ⟨rfl, Below.refl _ _⟩
    · obtain ⟨e0, ⟨q3, e3, hi3⟩, e4⟩ := hF
      rw [e3]
      go_wp2_with fail
      (with_reducible refine (CR.out w3 q3 wc (HN5.out.grow HP.out) (.inr (HIW5.out.grow HP.out)) hi3).mono ?_)
      rintro e1 w4 ⟨v, rfl, hv, ht, hb3⟩
      have hk9 : rn8 W5 (RunR RO AT) (.agg (n.lst NA nc XA xc).toArray) (.slice WA lw.length wc) g sk 5 v w4 := ⟨⟨⟨w3, w4, HP.out, hv, Below.refl _ _⟩⟩, ht⟩
      go_wp2_with fail
      all_goals first | exact ⟨hk9, hb3⟩ | trivial
    · go_wp2_with fail
      exact ⟨hF.2, Below.refl _ _⟩
    all_goals
      obtain ⟨x, y, z, t, e3⟩ := hF
      rw [e3]
      go_wp2_with fail
      exact ⟨trivial, Below.refl _ _⟩
  intro vs w6 hp hF hPr hL
  obtain ⟨⟨⟨w5, w7, -, ⟨RA, TB, rc, tb, kk, e5, -, ht⟩, hb6⟩⟩, -⟩ := hF 5 (by decide)
  have e6 := lag_move (hL 6 _ (by decide) rfl) rfl rfl
  simp [stL, depsB, Region.binds, Act.put] at e6
  rw [e5] at e6
  have e7 := lag_extract (hL 7 _ (by decide) rfl) rfl rfl (show _ = Value.tuple #[.slice RA RO.length rc, .slice TB AT.length tb, .int .i64 kk, .int .i64 0] by simp [stL, depsB, Region.binds, Act.put]; exact e6.symm) rfl
  have e8 := lag_extract (hL 8 _ (by decide) rfl) rfl rfl (show _ = Value.tuple #[.slice RA RO.length rc, .slice TB AT.length tb, .int .i64 kk, .int .i64 0] by simp [stL, depsB, Region.binds, Act.put]; exact e6.symm) rfl
  have e9 := lag_extract (hL 9 _ (by decide) rfl) rfl rfl (show _ = Value.tuple #[.slice RA RO.length rc, .slice TB AT.length tb, .int .i64 kk, .int .i64 0] by simp [stL, depsB, Region.binds, Act.put]; exact e6.symm) rfl
  have e10 := lag_extract (hL 10 _ (by decide) rfl) rfl rfl (show _ = Value.tuple #[.slice RA RO.length rc, .slice TB AT.length tb, .int .i64 kk, .int .i64 0] by simp [stL, depsB, Region.binds, Act.put]; exact e6.symm) rfl
  clear hF hPr hL
  simp [stL, Act.put, e7, e8, e9, e10]
  generalize vs 0 = x30
  generalize vs 1 = x31
  generalize vs 2 = x32
  generalize vs 3 = x33
  generalize vs 4 = x34
  generalize vs 5 = x35
  generalize vs 6 = x36
  have HT6 := Lib.hid (ht.grow hb6).1
  have HB26 := Lib.hid (below_then HB25.out hp)
  have BG6 := Lib.hid (Box.keep BG5.out hp)
  have BH6 := Lib.hid (Box.keep BH5.out hp)
  have HN6 := Lib.hid (HN5.out.grow hp)
  have HM6 := Lib.hid (HM5.out.grow hp)
  have HZ6 := Lib.hid (HZ5.out.grow hp)
  clear e5 e6 e7 e8 e9 e10 ht hb6 hp BG5 BH5 HN5 HM5 HZ5 HIW5 CR HB25
  rw [HAL.out]
  have zh := BH6.out.2.1 8
  have zg := BG6.out.2.1 8
  replace zh : w6.cell? ⟨h, 8, none⟩ = some (.int .i64 m.st) := zh
  replace zg : w6.cell? ⟨g, 8, none⟩ = some (.int .i64 n.st) := zg
  rw [HTK.out] at zh
  rw [HSK.out] at zg
  go_upto_region 10 with (at_make; refine mk_int rfl _ _ rfl w6.heap.size tk rfl rfl rfl (by omega) (Nat.le_refl _) ?_; intro w7 ho7 hb7)
  have HS7 := Lib.hid ho7.ints
  have BG7 := Lib.hid (Box.keep BG6.out hb7)
  have BH7 := Lib.hid (Box.keep BH6.out hb7)
  have HN7 := Lib.hid (HN6.out.grow hb7)
  have HM7 := Lib.hid (HM6.out.grow hb7)
  have HZ7 := Lib.hid (HZ6.out.grow hb7)
  have HT7 := Lib.hid (HT6.out.grow hb7)
  have HB27 := Lib.hid (below_then HB26.out hb7)
  replace zh := (hb7.cell (p := ⟨h, 8, none⟩) BH6.out.1).trans zh
  replace zg := (hb7.cell (p := ⟨g, 8, none⟩) BG6.out.1).trans zg
  clear ho7 hb7 BG6 BH6 HN6 HM6 HZ6 HT6 HB26
  generalize w6.heap.size = q22 at HS7 ⊢
  rw [HLW.out, HLX.out]
  go_upto_if 95 with fail
  go_cut [22] (fun s wx => ∃ (A : Option Addr) (c : Nat), s = .slice A tk c ∧ Hid (Ints w7 A ST) ∧ wx = w7)
  case first =>
    by_cases hst : sk = tk
    · have HSS := Lib.hid (HST1.out hst)
      subst hst
      go_wp2_with fail
      go_meet
      exact ⟨_, _, rfl, by rw [HSS.out]; exact HT7, rfl⟩
    · have HSS := Lib.hid (HST2.out hst)
      have hne : ¬ ((sk : Int) = (tk : Int)) := by omega
      have hnd : decide ((sk : Int) = (tk : Int)) = false := decide_eq_false hne
      clear hst
      go_wp2_with fail
      go_meet
      exact ⟨_, _, rfl, by rw [HSS.out]; exact HS7, rfl⟩
  case rest =>
    obtain ⟨SA, sc, rfl, HSA, rfl⟩ := hcut
    clear zh zg HS7
    go_upto_region 13 with (first
      | ((with_reducible show wpList _ _ _ (Oper.mk (some 98) (.load _ _) _ _ _ _ :: _) _ _); refine ld_netB1 BG7.out rfl rfl _ rfl rfl ?_)
      | (go_at_call 9; (with_reducible refine (CO.out _ _ _ HB27.out HN7.out HT7.out).mono ?_); rintro e1 w8 ⟨OA, OB, oc, ob, ob', ok, rfl, hio, hb8⟩))
    have bh8 := Box.keep BH7.out hb8
    have hb28 := below_then HB27.out hb8
    go_upto_region 14 with (first
      | ((with_reducible show wpList _ _ _ (Oper.mk (some 107) (.load _ _) _ _ _ _ :: _) _ _); refine ld_netB1 bh8 rfl rfl _ rfl rfl ?_)
      | (go_at_call 9; (with_reducible refine (CF.out _ _ _ hb28 (HM7.out.grow hb8) (HSA.out.grow hb8)).mono ?_); rintro e1 w9 ⟨FA, FB, fc, fb, fb', fk, rfl, hif, hb9⟩))
    have HZ9 := Lib.hid ((HZ7.out.grow hb8).grow hb9)
    have HO9 := Lib.hid (hio.1.grow hb9)
    have HF9 := Lib.hid hif.1
    have HW9 := Lib.hid (below_then HW2.out (below_then hb28 hb9))
    have hwr : IntKind.i64.wrap ((bn : Int) + (im : Int)) = (ln : Int) := (IntWalk.i64_in _ (by omega)).trans (by rw [HLN.out]; rfl)
    clear hb8 hb9 bh8 hb28 hio hif HB27 BG7 BH7 HN7 HM7 HZ7 HT7 HSA CO CF HIX
    go_upto_region 16 with fail
    clear hwr
    have h0m : im ≤ 30 := by omega
    have h1m : bn ≤ 20 := by omega
    go_wp2_with fail
    go_loopw [31] (fun i wr => ∃ k : Nat, k ≤ im ∧ i = .int .i64 k ∧ Below w9.heap.size w9 wr) (fun i _ => im - (intOf i).toNat)
    case atStart => exact ⟨0, Nat.zero_le _, rfl, Below.refl _ _⟩
    case round =>
      obtain ⟨k, hk, rfl, hbw⟩ := hrel
      by_cases hlt : k < im
      · obtain ⟨v, a, b, e1, e2, e3, hbt, hend⟩ := HGO.out k hlt
        obtain ⟨p, hp⟩ : ∃ p, bn + k = p := ⟨_, rfl⟩
        rw [hp] at e1
        obtain ⟨a1, v', rfl, k1, x1, c1, i1, j1⟩ := (HZ9.out.grow hbw).at_ (k := p) (List.getElem?_eq_some_iff.1 e1).1
        obtain ⟨a2, o', rfl, k2, x2, c2, i2, j2⟩ := (HO9.out.grow hbw).at_ (k := k) (List.getElem?_eq_some_iff.1 e2).1
        obtain ⟨a3, f', rfl, k3, x3, c3, i3, j3⟩ := (HF9.out.grow hbw).at_ (k := k) (List.getElem?_eq_some_iff.1 e3).1
        obtain rfl : v' = v := by rw [e1] at x1; injection x1 with x1; exact x1.symm
        obtain rfl : o' = a := by rw [e2] at x2; injection x2 with x2; exact x2.symm
        obtain rfl : f' = b := by rw [e3] at x3; injection x3 with x3; exact x3.symm
        have HBR := Lib.hid hbw
        have wp1 : IntKind.i64.wrap ((bn : Int) + (k : Int)) = (p : Int) := (IntWalk.i64_in _ (by omega)).trans (by omega)
        have wp2 : IntKind.i64.wrap ((k : Int) + 1) = (k : Int) + 1 := IntWalk.i64_in _ (by omega)
        have wp3 : (p : Int) < (ln : Int) := by have := HLN.out; omega
        have wp4 : (k : Int) < (im : Int) := by omega
        have wp5 : (0 : Int) ≤ (p : Int) := by omega
        have wp6 : (0 : Int) ≤ (k : Int) := by omega
        have n2 : ∀ n : Ext wr, n.to.cell? (a2.add k) = some (.int .i64 o') := fun n => (n.below.cell (by rw [block_add]; exact k2)).trans c2
        have n3 : ∀ n : Ext wr, n.to.cell? (a3.add k) = some (.int .i64 f') := fun n => (n.below.cell (by rw [block_add]; exact k3)).trans c3
        clear e1 e2 e3 x1 x2 x3 k1 k2 k3 hbw c2 c3 hp
        go_upto_region 20 with fail
        clear c1 wp1
        have hcase : (f' < o' ∧ f' ≤ v' ∧ v' ≤ o') ∨ (o' < f' ∧ o' ≤ v' ∧ v' ≤ f') ∨ (o' = f' ∧ v' = f') := by omega
        have hff : (f ≤ (k : Int) + 1 ∧ v' = f') ∨ (k : Int) + 1 < f := by
          by_cases hf1 : f ≤ (k : Int) + 1
          · exact .inl ⟨hf1, hend hf1⟩
          · exact .inr (Int.not_le.1 hf1)
        clear hbt hend
        rcases hcase with ⟨y1, y2, y3⟩ | ⟨y1, y2, y3⟩ | ⟨y1, y2⟩
        · have y4 : decide (v' < f') = false := decide_eq_false (by omega)
          have y5 : decide (o' < v') = false := decide_eq_false (by omega)
          have y6 : f' ≤ o' := by omega
          have y7 : decide (o' < f') = false := decide_eq_false (by omega)
          have y8 : decide (f' < o') = true := decide_eq_true y1
          rcases hff with ⟨u1, u2⟩ | u1
          · have u3 : decide (f ≤ (k : Int) + 1) = true := decide_eq_true u1
            subst u2
            refine wp_region_ext (by kernel_rfl) (by kernel_rfl) ?_
            repeat (go_big_quiet_step (fail))
            refine wpQuiet_nil ?_
            rintro _ ⟨⟨wz, hbz⟩, rfl⟩
            go_wp2_with fail
            go_roundw
            case rel => exact ⟨k + 1, by omega, by go_num, HBR.out.trans (hbz.mono HBR.out.size)⟩
            case measure => simp [intOf]; omega
          · have u3 : decide (f ≤ (k : Int) + 1) = false := decide_eq_false (by omega)
            refine wp_region_ext (by kernel_rfl) (by kernel_rfl) ?_
            repeat (go_big_quiet_step (fail))
            refine wpQuiet_nil ?_
            rintro _ ⟨⟨wz, hbz⟩, rfl⟩
            go_wp2_with fail
            go_roundw
            case rel => exact ⟨k + 1, by omega, by go_num, HBR.out.trans (hbz.mono HBR.out.size)⟩
            case measure => simp [intOf]; omega
        · have y4 : decide (v' < o') = false := decide_eq_false (by omega)
          have y5 : decide (f' < v') = false := decide_eq_false (by omega)
          have y6 : o' ≤ f' := by omega
          have y7 : decide (f' < o') = false := decide_eq_false (by omega)
          have y8 : decide (o' < f') = true := decide_eq_true y1
          rcases hff with ⟨u1, u2⟩ | u1
          · have u3 : decide (f ≤ (k : Int) + 1) = true := decide_eq_true u1
            subst u2
            refine wp_region_ext (by kernel_rfl) (by kernel_rfl) ?_
            repeat (go_big_quiet_step (fail))
            refine wpQuiet_nil ?_
            rintro _ ⟨⟨wz, hbz⟩, rfl⟩
            go_wp2_with fail
            go_roundw
            case rel => exact ⟨k + 1, by omega, by go_num, HBR.out.trans (hbz.mono HBR.out.size)⟩
            case measure => simp [intOf]; omega
          · have u3 : decide (f ≤ (k : Int) + 1) = false := decide_eq_false (by omega)
            refine wp_region_ext (by kernel_rfl) (by kernel_rfl) ?_
            repeat (go_big_quiet_step (fail))
            refine wpQuiet_nil ?_
            rintro _ ⟨⟨wz, hbz⟩, rfl⟩
            go_wp2_with fail
            go_roundw
            case rel => exact ⟨k + 1, by omega, by go_num, HBR.out.trans (hbz.mono HBR.out.size)⟩
            case measure => simp [intOf]; omega
        · subst y1
          subst y2
          rcases hff with ⟨u1, -⟩ | u1
          · have u3 : decide (f ≤ (k : Int) + 1) = true := decide_eq_true u1
            refine wp_region_ext (by kernel_rfl) (by kernel_rfl) ?_
            repeat (go_big_quiet_step (fail))
            refine wpQuiet_nil ?_
            rintro _ ⟨⟨wz, hbz⟩, rfl⟩
            go_wp2_with fail
            go_roundw
            case rel => exact ⟨k + 1, by omega, by go_num, HBR.out.trans (hbz.mono HBR.out.size)⟩
            case measure => simp [intOf]; omega
          · have u3 : decide (f ≤ (k : Int) + 1) = false := decide_eq_false (by omega)
            refine wp_region_ext (by kernel_rfl) (by kernel_rfl) ?_
            repeat (go_big_quiet_step (fail))
            refine wpQuiet_nil ?_
            rintro _ ⟨⟨wz, hbz⟩, rfl⟩
            go_wp2_with fail
            go_roundw
            case rel => exact ⟨k + 1, by omega, by go_num, HBR.out.trans (hbz.mono HBR.out.size)⟩
            case measure => simp [intOf]; omega
      · obtain rfl : k = im := by omega
        have hlo : ¬ (k : Int) < (k : Int) := by omega
        go_wp2_with (go_at_call 4; (with_reducible refine (known42 _).mono ?_); rintro e1 w7 ⟨rfl, hb7⟩)
        go_ret
        exact ⟨rfl, below_then HW9.out (below_then hbw hb7)⟩
end Go.Proofs.Ytgjeggcopempnaa
