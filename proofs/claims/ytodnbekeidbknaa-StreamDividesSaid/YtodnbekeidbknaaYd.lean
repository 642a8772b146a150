/- The walk of the law StreamDivides. -/
import Derived.Test.YtodnbekeidbknaaY9
import Derived.Test.YtodnbekeidbknaaPw
import Derived.Test.YtodnbekeidbknaaPz
import Derived.Test.YtodnbekeidbknaaTs
set_option linter.unusedVariables false
set_option linter.unusedSimpArgs false
namespace Go.Proofs.Ytodnbekeidbknaa
open Go.RowKit

/-- A new block of an event. -/
def NewE (B : World) (v : Value) (w : World) : Prop := ∃ g, v = .pointer (some ⟨g, 0, none⟩) ∧ EvBox w g EvA.zero ∧ B.heap.size ≤ g
theorem NewE.keep {B : World} {v : Value} {a b : World} (h : NewE B v a) (hb : Below a.heap.size a b) : NewE B v b := by
  obtain ⟨g, e, h1, h2⟩ := h
  exact ⟨g, e, Box.keep h1 hb, h2⟩
/-- The length of a slice. -/
def lnOf : Value → Nat | .slice _ n _ => n | _ => 0
theorem part_le : ∀ (ps : List (Option Addr × List Int × Nat)) (p : Option Addr × List Int × Nat), p ∈ ps → p.2.1.length ≤ (flatP ps).length
  | a :: l, p, h => by
    have e : flatP (a :: l) = a.2.1 ++ flatP l := rfl
    rw [e, List.length_append]
    rcases List.mem_cons.1 h with rfl | h
    · omega
    · have := part_le l p h; omega
theorem feedD_ev {d : StrD} {e : EvA} (h : d.feedE e = 0) : (d.feedD e).ev = d.ev + 1 := by
  obtain ⟨-, -, he⟩ := feedS_good h
  unfold StrD.feedD
  rw [if_pos h]
  show (d.feedS e).ev + 1 = _
  rw [he]
theorem play_good : ∀ (es : List EvA) (d : StrD), d.Good → playE d es = 0 → d.ev + es.length ≤ 1099511627776 → (playD d es).Good
  | [], d, hg, _, _ => hg
  | e :: es, d, hg, h, hl => by
    have h : (if d.feedE e = 0 then playE (d.feedD e) es else d.feedE e) = 0 := h
    have hl : d.ev + ((es.length + 1 : Nat) : Int) ≤ 1099511627776 := hl
    by_cases h0 : d.feedE e = 0
    · rw [if_pos h0] at h
      exact play_good es _ (feedD_good h0 (by omega)) h (by rw [feedD_ev h0]; omega)
    · rw [if_neg h0] at h; exact absurd h h0
/-- The store of one cell into a box. -/
theorem wp_st1 {ops : Array Oper} {rest : List Oper} {o : Oper} {a : Act} {Q : Exit → Act → World → Prop} {w : World} (hgd : o.guard = none) (ty : TypeId) (x y : Operand) (ho : o.op = .store ty x y) (g k : Nat) (v : Value) (hx : a.eval x = .pointer (some ⟨g, k, none⟩)) (hy : a.eval y = v)
    (hi : (Try.prog.info? ty).map (·.size) = some 1) (hc : v.cells = #[v]) (h1 : v.oneCell' = true) {vs vs' : List Value} (hb : Box w g vs) (hk : k < vs.length) (e : vs.set k v = vs')
    (h : ∀ W1, Box W1 g vs' → w.grownBy W1 (some g) → wpList Try.prog ops Q rest (a.put o.dst undef) W1) : wpList Try.prog ops Q (o :: rest) a w := by
  refine wpList_plain hgd fun _ hK => ?_
  obtain ⟨B, G⟩ := box_one hb hk e
  unfold Oper.wp execOp
  have ht : w.there g k 1 := hb.there (by omega)
  have := run_storeCells_cells (P := Try.prog) g k [v] 0 w (fun j hj => by simpa using (ht j (by simpa using hj)).1) (fun j hj => by simpa using (ht j (by simpa using hj)).2) (fun u hu => by rw [List.mem_singleton.1 hu]; exact h1)
  have hrun : (storeVar ty ⟨g, k, none⟩ v).run Try.prog w = .ok () (w.setCell ⟨g, k, none⟩ v) := by
    cases hq : Try.prog.info? ty with
    | none => simp [hq] at hi
    | some i =>
      have hs : i.size = 1 := by simpa [hq] using hi
      simp only [Nat.add_zero] at this
      simp [storeVar, sizeOf, typeInfo, hq, hc, hs, this, World.setCells]
  simp only [ho, hx, hy, Instr.storeAt, Instr.sureAddr, Sem.run_bind, Sem.run_pure, Result.andThen_ok, hrun]
  exact hK _ _ (h _ B G)
theorem ld_strW {ops : Array Oper} {rest : List Oper} {o : Oper} {a : Act} {Q : Exit → Act → World → Prop} {w : World} {u : StrA} {g : Nat} (hb : StrBox w g u) (hw : Region.wanted o (yielded ops a.tmps) = true) (x : Operand) (ho : o.op = .load 38 x) (hx : a.eval x = .pointer (some ⟨g, 0, none⟩)) (h : wpList Try.prog ops Q rest (a.put o.dst u.v) w) : wpList Try.prog ops Q (o :: rest) a w := by
  obtain ⟨d, h1, h2⟩ := row_str
  exact BigFrame.wpList_want hw fun K hK => wp_load_mid _ x ho g 0 hx u.cells d (Box.range hb.box (str_in u)) h1 h2 size_str (hK _ _ h)
def StrA.ev0 (u : StrA) : StrA := { u with d := { u.d with ev := 0 } }
theorem ev0_at {w : World} {u : StrA} (h : StrAt w u) : StrAt w u.ev0 := ⟨h.net, h.old, h.s, h.f, h.n1, h.n2⟩
theorem mid_world {w w1 w2 w3 : World} {q p : Nat} (h : Below w.heap.size w w1) (hq : w1.grownBy w2 (some q)) (hp : w2.grownBy w3 (some p)) (hw : w.heap.size ≤ p) : ∃ W', w.grownBy W' (some q) ∧ Below W'.heap.size W' w3 := by
  have hs : w.heap.size ≤ w3.heap.size := Nat.le_trans h.size (Nat.le_trans hq.size hp.size)
  have hx : (w3.heap.extract 0 w.heap.size).size = w.heap.size := by simp; omega
  refine ⟨{ w3 with heap := w3.heap.extract 0 w.heap.size }, ⟨hp.os.trans (hq.os.trans h.os), hp.tape.trans (hq.tape.trans h.tape), hp.output.trans (hq.output.trans h.output), Nat.le_of_eq hx.symm, fun k hk hn => ?_⟩, ⟨rfl, rfl, rfl, ?_, fun k hk => ?_⟩⟩
  · show (w3.heap.extract 0 w.heap.size)[k]? = _
    rw [Array.getElem?_extract, if_pos (by omega), Nat.zero_add]
    have h1 := h.size
    have h2 := hq.size
    exact (hp.block k (by omega) (by intro e; injection e with e; omega)).trans ((hq.block k (by omega) hn).trans (h.block k hk))
  · show (w3.heap.extract 0 w.heap.size).size ≤ _
    omega
  · replace hk : k < (w3.heap.extract 0 w.heap.size).size := hk
    show w3.heap[k]? = (w3.heap.extract 0 w.heap.size)[k]?
    rw [Array.getElem?_extract, if_pos (by omega), Nat.zero_add]
theorem size_int1 : (Try.prog.info? 3).map (·.size) = some 1 := by kernel_rfl
theorem st_ev0 {ops : Array Oper} {rest : List Oper} {o : Oper} {a : Act} {Q : Exit → Act → World → Prop} {w : World} {u : StrA} {g : Nat} (hb : StrBox w g u) (hgd : o.guard = none) (x y : Operand) (ho : o.op = .store 3 x y) (hx : a.eval x = .pointer (some ⟨g, 28, none⟩)) (hy : a.eval y = .int .i64 0)
    (h : ∀ W1, StrBox W1 g u.ev0 → w.grownBy W1 (some g) → wpList Try.prog ops Q rest (a.put o.dst undef) W1) : wpList Try.prog ops Q (o :: rest) a w :=
  wp_st1 hgd _ x y ho g 28 _ hx hy size_int1 rfl rfl hb.box (by show 28 < 29; omega) rfl h
/-- The region that builds the change. -/
def ev6 (B : World) (nv : Value) (fd f : Int) (ev : Value) : Nat → Value → World → Prop
  | 0, v, _ => v = nv | 1, v, _ => v = .int .i64 fd | 2, v, _ => v = .int .i64 f | 3, v, _ => v = ev
  | 4, v, w => NewE B v w
  | _, _, _ => True
theorem ev6_keep {B : World} {nv ev : Value} {fd f : Int} {a b : World} (h : Below a.heap.size a b) : ∀ i v, ev6 B nv fd f ev i v a → ev6 B nv fd f ev i v b
  | 0, _, e => e | 1, _, e => e | 2, _, e => e | 3, _, e => e
  | 4, _, hn => NewE.keep hn h
  | _ + 5, _, _ => trivial
set_option maxRecDepth 100000 in
set_option maxHeartbeats 16000000 in
theorem law_StreamDivides (u r : RawA) (fd : Int) (i b : Option Addr × Nat × List Int) (w : World) (hu : RawOk w u) (hr : RawOk w r) (hfd : I64 fd) (hi : Ints w i.1 i.2.2 ∧ i.2.2.length ≤ 9223372036854775807) (hb : Ints w b.1 b.2.2 ∧ b.2.2.length ≤ 9223372036854775807) :
    Calls Try.prog 3 #[u.val, r.val, .int .i64 fd, .slice i.1 i.2.2.length i.2.1, .slice b.1 b.2.2.length b.2.1] w (BoolBw w true) := by
  obtain ⟨CA, cc, cl⟩ := b
  obtain ⟨IA, ic, il⟩ := i
  obtain ⟨hC, hcl⟩ := hb
  obtain ⟨hI, hil⟩ := hi
  simp only at hC hI hcl hil ⊢
  obtain ⟨cn, hcn⟩ : ∃ k, cl.length = k := ⟨_, rfl⟩
  obtain ⟨im, him⟩ : ∃ k, il.length = k := ⟨_, rfl⟩
  rw [hcn, him]
  have HCN := Lib.hid hcn
  have HIM := Lib.hid him
  rw [hcn] at hcl
  rw [him] at hil
  clear hcn him
  by_cases h0 : (im : Int) ≤ 30
  rotate_left
  · have h0 : (30 : Int) < (im : Int) := Int.not_le.1 h0
    have d0 : decide ((30 : Int) < (im : Int)) = true := decide_eq_true h0
    clear hu hr hC hI
    show Calls Try.prog 3 #[.agg u.lst.toArray, .agg r.lst.toArray, .int .i64 fd, .slice IA im ic, .slice CA cn cc] w _
    go_enter Try.func3, Try.ntmps3
    go_upto_region 1 with fail
    obtain ⟨bx0, bx1, hb0⟩ := entryRR w u r _ rfl
    change Code.wp _ _ _ _ ((w.alloc (.cells u.lst.toArray 25)).alloc (.cells r.lst.toArray 25))
    generalize ((w.alloc (.cells u.lst.toArray 25)).alloc (.cells r.lst.toArray 25)) = W0 at bx0 bx1 hb0 ⊢
    go_wp2_with (go_at_call 4; refine (known42 _).mono ?_; rintro e1 w1 ⟨rfl, hb1⟩; have hw1 := below_then hb0 hb1)
    go_ret
    exact ⟨rfl, hw1⟩
  have d0 : decide ((30 : Int) < (im : Int)) = false := decide_eq_false (Int.not_lt.2 h0)
  have CN : Hid (∀ w1, Below w.heap.size w w1 → Calls Try.prog 5 #[.agg u.lst.toArray] w1 (RetRN w1)) := fun w1 hb => raw_RN u w1 (hu.grow hb)
  have CM : Hid (∀ w1, Below w.heap.size w w1 → Calls Try.prog 5 #[.agg r.lst.toArray] w1 (RetRN w1)) := fun w1 hb => raw_RN r w1 (hr.grow hb)
  have HC := Lib.hid hC
  have HI := Lib.hid hI
  clear hu hr hC hI
  show Calls Try.prog 3 #[.agg u.lst.toArray, .agg r.lst.toArray, .int .i64 fd, .slice IA im ic, .slice CA cn cc] w _
  go_enter Try.func3, Try.ntmps3
  go_upto_region 1 with fail
  obtain ⟨bx0, bx1, hb0⟩ := entryRR w u r _ rfl
  change Code.wp _ _ _ _ ((w.alloc (.cells u.lst.toArray 25)).alloc (.cells r.lst.toArray 25))
  generalize ((w.alloc (.cells u.lst.toArray 25)).alloc (.cells r.lst.toArray 25)) = W0 at bx0 bx1 hb0 ⊢
  go_upto_region 3 with fail
  have BX0 := Lib.hid bx0
  have BX1 := Lib.hid bx1
  have HW0 := Lib.hid hb0
  clear bx0 bx1 hb0
  refine wp_region_grow7 (fun i => Nat.blt i 6) (fun _ => false) (fun w2 => Below W0.heap.size W0 w2) (fun j x a b => Below a.heap.size a b ∧ nmG j x a b) (fun a b => Below a.heap.size a b) (nmF W0 (.agg u.lst.toArray) (.agg r.lst.toArray)) (by kernel_rfl) (by kernel_rfl) (Below.drew (Below.refl _ _)) (fun j x a b h1 h2 => ⟨below_then h1 h2.1, fun i _ v => nmF_keep h2.1 i v, Below.refl _ _, fun w0 h => below_then h h2.1⟩) (fun j v w h => by cases h) ?_ (fun j o _ _ h => by cases h) ?_
  · refine ⟨?_, ?_, ?_, ?_, ?_, ?_, trivial⟩
    all_goals
      intro vs w2 hp hF
      have HP := Lib.hid hp
      have B0 := Lib.hid (Box.keep BX0.out hp)
      have B1 := Lib.hid (Box.keep BX1.out hp)
      clear hp
      simp [depsB, Region.binds, nmF] at hF
      simp [stL, depsB, Region.binds, Act.put, hF]
    · refine ld_raw B0.out rfl _ rfl rfl ?_
      go_wp2_with fail
      exact ⟨rfl, Below.refl _ _, trivial⟩
    · go_wp2_with fail
      (with_reducible refine (CN.out _ (below_then HW0.out HP.out)).mono ?_)
      rintro e1 w3 ⟨n, NA, nc, XA, xc, rfl, hok, hst3, hns4, hnf, hb1⟩
      have hrn : RN w2 (.agg (n.lst NA nc XA xc).toArray) w3 := ⟨n, NA, nc, XA, xc, rfl, hok, hst3, hns4, hnf⟩
      have hk : nmF W0 (.agg u.lst.toArray) (.agg r.lst.toArray) 1 (.agg (n.lst NA nc XA xc).toArray) w3 := ⟨⟨w2, w3, HP.out, hrn, Below.refl _ _⟩⟩
      have hg : nmG 1 (.agg (n.lst NA nc XA xc).toArray) w2 w3 := hrn
      go_wp2_with fail
      all_goals first | exact ⟨hk, hb1, hg⟩ | trivial
    · refine ld_raw B1.out rfl _ rfl rfl ?_
      go_wp2_with fail
      exact ⟨rfl, Below.refl _ _, trivial⟩
    · go_wp2_with fail
      (with_reducible refine (CM.out _ (below_then HW0.out HP.out)).mono ?_)
      rintro e1 w3 ⟨n, NA, nc, XA, xc, rfl, hok, hst3, hns4, hnf, hb1⟩
      have hrn : RN w2 (.agg (n.lst NA nc XA xc).toArray) w3 := ⟨n, NA, nc, XA, xc, rfl, hok, hst3, hns4, hnf⟩
      have hk : nmF W0 (.agg u.lst.toArray) (.agg r.lst.toArray) 3 (.agg (n.lst NA nc XA xc).toArray) w3 := ⟨⟨w2, w3, HP.out, hrn, Below.refl _ _⟩⟩
      have hg : nmG 3 (.agg (n.lst NA nc XA xc).toArray) w2 w3 := hrn
      go_wp2_with fail
      all_goals first | exact ⟨hk, hb1, hg⟩ | trivial
    · go_wp2_with fail
      exact ⟨⟨_, rfl, Box.new rfl, HP.out.size⟩, (Below.refl _ _).alloc (Nat.le_refl _) _, rfl⟩
    · go_wp2_with fail
      exact ⟨⟨_, rfl, Box.new rfl, HP.out.size⟩, (Below.refl _ _).alloc (Nat.le_refl _) _, rfl⟩
  intro vs w2 hp hF hPr
  obtain ⟨c1, d1, -, ⟨n, NA, nc, XA, xc, e1, hok, hst3, hns4, hnf1⟩, hb1⟩ := (show CallF W0 RN (vs 1) w2 from hF 1 (by decide) rfl).was
  obtain ⟨c3, d3, -, ⟨m0, MA, mc, YA, yc, e3, hmk, hmt3, hms4, hnf3⟩, hb3⟩ := (show CallF W0 RN (vs 3) w2 from hF 3 (by decide) rfl).was
  obtain ⟨g, e4, hg4, hgb⟩ := (show NewN W0 (vs 4) w2 from hF 4 (by decide) rfl)
  obtain ⟨h, e5, hh4, hhb⟩ := (show NewN W0 (vs 5) w2 from hF 5 (by decide) rfl)
  have hnf1 := hnf1.grow hb1
  have hnf3 := hnf3.grow hb3
  have n14 := net_free (B := W0) (ic := 1) (ia := 4) (fun v w h => h) (fun v w h => h) (fun v a b h => h.2) (fun v a b h => ⟨h.2, h.1⟩) e4 e1 hnf1.at (hPr 1 4 (by decide) (by decide) rfl rfl (by decide))
  have n15 := net_free (B := W0) (ic := 1) (ia := 5) (fun v w h => h) (fun v w h => h) (fun v a b h => h.2) (fun v a b h => ⟨h.2, h.1⟩) e5 e1 hnf1.at (hPr 1 5 (by decide) (by decide) rfl rfl (by decide))
  have n34 := net_free (B := W0) (ic := 3) (ia := 4) (fun v w h => h) (fun v w h => h) (fun v a b h => h.2) (fun v a b h => ⟨h.2, h.1⟩) e4 e3 hnf3.at (hPr 3 4 (by decide) (by decide) rfl rfl (by decide))
  have n35 := net_free (B := W0) (ic := 3) (ia := 5) (fun v w h => h) (fun v w h => h) (fun v a b h => h.2) (fun v a b h => ⟨h.2, h.1⟩) e5 e3 hnf3.at (hPr 3 5 (by decide) (by decide) rfl rfl (by decide))
  have ngh := new_two (B := W0) (ia := 4) (ib := 5) (fun v w h => h) (fun v w h => h) (fun v a b h => h.2) (fun v a b h => h.2) e4 e5 (hPr 4 5 (by decide) (by decide) rfl rfl (by decide))
  show wpList Try.prog _ _ [_, _] _ _
  simp [stL, Act.put, e1, e3, e4, e5]
  clear hF hPr e1 e3 e4 e5 hb1 hb3
  generalize vs 0 = x10
  generalize vs 2 = x12
  go_upto_region 4 with (first
    | ((with_reducible show wpList _ _ _ (Oper.mk _ (.store _ _ _) _ _ _ _ :: _) _ _); first | (refine st_netBx hg4 rfl rfl _ _ rfl rfl rfl ?_; intro W1 bg1 p1; have hh4' := Box.grown hh4 p1 (by intro e; injection e with e; exact ngh e.symm)) | (refine st_netBx hh4' rfl rfl _ _ rfl rfl rfl ?_; intro W2 bh2 p2)))
  have bg2 := Box.grown bg1 p2 (by intro e; injection e with e; exact ngh e)
  have hw2 := put_facts (put_facts hp hgb p1) hhb p2
  have hn2 := (hnf1.awayN n14 p1).awayN (n15.away n14 p1) p2
  have hm2 := (hnf3.awayN n34 p1).awayN (n35.away n34 p1) p2
  have qn := (n15.away n14 p1).away (n15.away n14 p1) p2
  have qm := (n35.away n34 p1).away (n35.away n34 p1) p2
  obtain ⟨z0, z1, z2, z3⟩ : W2.cell? ⟨g, 0, none⟩ = some (.int .i64 n.d0) ∧ W2.cell? ⟨g, 1, none⟩ = some (.int .i64 n.d1) ∧ W2.cell? ⟨g, 2, none⟩ = some (.int .i64 n.d2) ∧ W2.cell? ⟨g, 3, none⟩ = some (.int .i64 n.d3) := ⟨bg2.2.1 0, bg2.2.1 1, bg2.2.1 2, bg2.2.1 3⟩
  go_upto_region 5 with ((with_reducible show wpList _ _ _ (Oper.mk _ (.store _ _ _) _ _ _ _ :: _) _ _); refine wp_st (vs' := (m0.withD n).lst MA mc YA yc) rfl _ _ _ rfl h 0 [.int .i64 n.d0, .int .i64 n.d1, .int .i64 n.d2, .int .i64 n.d3] rfl rfl size_word rfl bh2 (by show 0 + 4 ≤ 12; omega) rfl ?_; intro W3 bh3 p3)
  have BG3 := Lib.hid (Box.grown bg2 p3 (by intro e; injection e with e; exact ngh e))
  have HW3 := Lib.hid (below_then HW0.out (put_facts hw2 hhb p3))
  have HN3 := Lib.hid (hn2.awayN qn p3).at
  have HM3 := Lib.hid (withD_at (n := n) (hm2.awayN qm p3).at)
  have HSM := Lib.hid (withD_same m0 n)
  have HMK := Lib.hid (withD_ok hmk hok)
  have HFM : Hid (∀ l, (m0.withD n).fit l = n.fit l) := fun l => rfl
  have HTM : Hid (∀ l, (m0.withD n).st = n.st → n.state l = true → (m0.withD n).state l = true) := fun l e hl => by
    obtain ⟨h1, h2⟩ := state_iff.1 hl
    exact state_iff.2 ⟨by rw [e]; exact h1, h2⟩
  have hmst : (m0.withD n).st ≤ 3 := hmt3
  generalize hgm : m0.withD n = m at HM3 HSM HMK HFM HTM hmst bh3 ⊢
  have HOK := Lib.hid hok
  have BH3 := Lib.hid bh3
  clear hgm bg1 bg2 bh2 bh3 p1 p2 p3 hw2 hn2 hm2 qn qm z0 z1 z2 z3 hnf1 hnf3 n14 n15 n34 n35 hg4 hh4 hgb hhb hp hok hmk hmt3 hms4 hns4 hh4' CN CM BX0 BX1 HW0
  obtain ⟨p1, -, ⟨p2, p3⟩, -⟩ := netB_parts HOK.out
  obtain ⟨-, -, ⟨p4, p5⟩, -⟩ := netB_parts HMK.out
  obtain ⟨sk, hsk⟩ : ∃ k : Nat, n.st = (k : Int) := ⟨n.st.toNat, by omega⟩
  obtain ⟨tk, htk⟩ : ∃ k : Nat, m.st = (k : Int) := ⟨m.st.toNat, by omega⟩
  have HSK := Lib.hid hsk
  have HTK := Lib.hid htk
  have hsk3 : sk ≤ 3 := by omega
  have htk3 : tk ≤ 3 := by omega
  clear p2 p3 p4 p5 hsk htk hmst hst3
  obtain ⟨g1, g2⟩ := within_in (m := 12) (by decide) fd
  obtain ⟨f, hf⟩ : ∃ f, withinF fd 12 = f := ⟨_, rfl⟩
  rw [hf] at g1 g2
  have CWi : Hid (∀ w1, Calls Try.prog 7 #[.int .i64 fd, .int .i64 12] w1 fun e w' => e = .returned (.int .i64 f) ∧ w1 = w') := fun w1 => by have := wd_Within fd 12 w1 (by decide); rw [hf] at this; exact this
  obtain ⟨lx, hlx⟩ : ∃ l, wordsF n.d0 n.d1 n.d2 n.d3 il im = l := ⟨_, rfl⟩
  have HLX : Hid (lx.length = im) := by show _ = _; rw [← hlx, wordsF_length]
  have HFX : Hid (n.fit lx = true) := by show _ = _; rw [← hlx]; exact fit_words HOK.out
  have CX : Hid (∀ w1, Below w.heap.size w w1 → Calls Try.prog 6 #[wordV n.d0 n.d1 n.d2 n.d3, .slice IA im ic, .int .i64 im] w1 fun e w' => ∃ A c, e = .returned (.slice A lx.length c) ∧ lx.length ≤ c ∧ IntsF w1.heap.size w' A lx ∧ Below w1.heap.size w1 w') := fun w1 hb => by
    have := wd_Words n.d0 n.d1 n.d2 n.d3 IA il ic im w1 (by omega) (HI.out.grow hb)
    rw [HIM.out, hlx] at this
    refine this.mono ?_
    rintro e w' ⟨v, rfl, ho, hb⟩
    obtain ⟨A, c, rfl, hcap, -⟩ := ho.form
    exact ⟨A, c, rfl, hcap, IntsF.own ho, hb⟩
  clear hlx hf
  obtain ⟨z0, z1, z2, z3⟩ : W3.cell? ⟨g, 0, none⟩ = some (.int .i64 n.d0) ∧ W3.cell? ⟨g, 1, none⟩ = some (.int .i64 n.d1) ∧ W3.cell? ⟨g, 2, none⟩ = some (.int .i64 n.d2) ∧ W3.cell? ⟨g, 3, none⟩ = some (.int .i64 n.d3) := ⟨BG3.out.2.1 0, BG3.out.2.1 1, BG3.out.2.1 2, BG3.out.2.1 3⟩
  go_upto_region 6 with (go_at_call 6; refine (CX.out _ HW3.out).mono ?_; rintro e2 W4 ⟨XB, xb, rfl, hcapx, hi4, hb4⟩)
  clear z0 z1 z2 z3
  have HW4 := Lib.hid (below_then HW3.out hb4)
  have BG4 := Lib.hid (Box.keep BG3.out hb4)
  have BH4 := Lib.hid (Box.keep BH3.out hb4)
  have HN4 := Lib.hid (HN3.out.grow hb4)
  have HM4 := Lib.hid (HM3.out.grow hb4)
  have HIX := Lib.hid hi4.1
  have HCX := Lib.hid hcapx
  clear hcapx hi4 hb4 HW3 BG3 BH3 HN3 HM3 CX
  refine wp_region_grow2 (fun i => Nat.blt i 5) (fun _ => false) (fun w2 => Below W4.heap.size W4 w2) (fun a b => Below a.heap.size a b) (ev6 W4 (.agg (m.lst MA mc YA yc).toArray) fd f (evC m MA mc YA yc f).v) (by kernel_rfl) (by kernel_rfl) (Below.drew (Below.refl _ _)) (fun a b h1 h2 => ⟨below_then h1 h2, fun i _ v => ev6_keep h2 i v⟩) (fun w _ => Below.refl _ _) ?_ (fun j o _ _ h => by cases h) ?_
  · refine ⟨?_, ?_, ?_, ?_, ?_, trivial⟩
    all_goals
      intro vs w2 hp hF
      have HP := Lib.hid hp
      have BN := Lib.hid (Box.keep BH4.out hp)
      clear hp
      simp [depsB, Region.binds, ev6] at hF
      simp [stL, depsB, Region.binds, Act.put, hF]
    · refine ld_netB1 BN.out rfl rfl _ rfl rfl ?_
      go_wp2_with fail
      exact ⟨rfl, Below.refl _ _⟩
    · go_wp2_with fail
      exact ⟨rfl, Below.refl _ _⟩
    · go_wp2_with fail
      refine (CWi.out _).mono ?_
      rintro e2 w5 ⟨rfl, rfl⟩
      go_wp2_with fail
      exact ⟨rfl, Below.refl _ _⟩
    · refine wp_bld rfl _ _ rfl _ rfl (bev_C m MA mc YA yc f) ?_
      go_wp2_with fail
      exact ⟨rfl, Below.refl _ _⟩
    · go_wp2_with fail
      exact ⟨⟨_, rfl, Box.new rfl, HP.out.size⟩, (Below.refl _ _).alloc (Nat.le_refl _) _⟩
  intro vs w5 hp hF
  have e3 := hF 3 (by decide) rfl
  obtain ⟨q14, e4, hq4, hqb⟩ := (show NewE W4 (vs 4) w5 from hF 4 (by decide) rfl)
  replace e3 : vs 3 = (evC m MA mc YA yc f).v := e3
  show wpList Try.prog _ _ [_] _ _
  simp [stL, Act.put, e3, e4]
  clear hF e3 e4
  generalize vs 0 = x10
  generalize vs 1 = x11
  generalize vs 2 = x12
  go_upto_region 7 with ((with_reducible show wpList _ _ _ (Oper.mk _ (.store _ _ _) _ _ _ _ :: _) _ _); refine st_ev hq4 rfl _ _ rfl rfl rfl ?_; intro W5 be5 p5)
  have hb45 := put_facts hp hqb p5
  have HW5 := Lib.hid (below_then HW4.out hb45)
  have BG5 := Lib.hid (Box.keep BG4.out hb45)
  have BE5 := Lib.hid be5
  have HN5 := Lib.hid (HN4.out.grow hb45)
  have HM5 := Lib.hid (HM4.out.grow hb45)
  have HIX5 := Lib.hid (HIX.out.grow hb45)
  clear hp hq4 hqb be5 p5 hb45 BG4 BH4 HN4 HM4 HW4 HIX CWi
  have hlx4 : lx.length ≤ 4096 := by rw [HLX.out]; omega
  have HD2 : Hid (∀ ps, flatP ps = lx → ps.length ≤ 4096 → playE (openD n) [evC m MA mc YA yc f, evS XB lx xb] = 0 ∧ playE (openD n) (evC m MA mc YA yc f :: evsOf ps) = 0 ∧ playO (openD n) (evC m MA mc YA yc f :: evsOf ps) = playO (openD n) [evC m MA mc YA yc f, evS XB lx xb] ∧ { playD (openD n) (evC m MA mc YA yc f :: evsOf ps) with ev := 0 } = { playD (openD n) [evC m MA mc YA yc f, evS XB lx xb] with ev := 0 }) := fun ps h1 h2 => div2 HOK.out HMK.out HSM.out ((HFM.out lx).trans HFX.out) hlx4 g1 (by omega) h1 h2
  obtain ⟨O, hO⟩ : ∃ l, playO (openD n) [evC m MA mc YA yc f, evS XB lx xb] = l := ⟨_, rfl⟩
  obtain ⟨D, hD⟩ : ∃ d, playD (openD n) [evC m MA mc YA yc f, evS XB lx xb] = d := ⟨_, rfl⟩
  have HOE := Lib.hid hO
  have HDE := Lib.hid hD
  have CP : Hid (∀ w1 EA k c es, Below w.heap.size w w1 → NetAt w1 n NA XA → EvsAt w1 EA es → es.length = k → k ≤ 200 → playE (openD n) es = 0 → playO (openD n) es = O → Calls Try.prog 8 #[.agg (n.lst NA nc XA xc).toArray, .slice EA k c] w1 fun e w' => ∃ (u : StrA) (A : Option Addr) (c : Nat), e = .returned (.tuple #[.slice A O.length c, u.v, .int .i64 0]) ∧ u.d = playD (openD n) es ∧ StrF w1.heap.size w' u ∧ IntsF w1.heap.size w' A O ∧ Below w1.heap.size w1 w') := fun w1 EA k c es hb hn he hk hl e0 eO => by
    have := st_Play n NA XA nc xc es EA k c w1 hn HOK.out he hk hl
    unfold plD plO at this
    rw [e0, if_pos rfl, if_pos rfl, eO] at this
    refine this.mono ?_
    rintro e w' ⟨u, A, c, rfl, hd, hf, hi, hb⟩
    exact ⟨u, A, c, rfl, hd, hf, hi, hb⟩
  have HEV0 := evsL_at (w := W5) (es := [evC m MA mc YA yc f, evS XB lx xb]) (fun e he => by
    rcases List.mem_cons.1 he with rfl | he
    · exact evC_at HM5.out
    · rcases List.mem_cons.1 he with rfl | he
      · exact evS_at HIX5.out (by omega)
      · cases he)
  have HB20 := built_ev2 (evC m MA mc YA yc f) (evS XB lx xb)
  generalize ([evC m MA mc YA yc f, evS XB lx xb].flatMap EvA.cells).toArray = cs2 at HEV0 HB20
  have HEV := Lib.hid HEV0
  have HB2 := Lib.hid HB20
  have HBE := Lib.hid ((Below.refl W5.heap.size W5).alloc (Nat.le_refl _) (.cells cs2 36))
  have HE0 := Lib.hid (HD2.out [(XB, lx, xb)] (List.append_nil lx) (by simp)).1
  have HL2 : Hid ([evC m MA mc YA yc f, evS XB lx xb].length = 2) := rfl
  have HK2 : Hid (2 ≤ 200) := (by decide : 2 ≤ 200)
  clear HEV0 HB20 hO hD hlx4
  go_upto_region 8 with (first
    | ((with_reducible show wpList _ _ _ (Oper.mk (some 46) (.load _ _) _ _ _ _ :: _) _ _); refine ld_netB1 BG5.out rfl rfl _ rfl rfl ?_)
    | ((with_reducible show wpList _ _ _ (Oper.mk (some 47) (.load _ _) _ _ _ _ :: _) _ _); refine ld_evB BE5.out rfl _ rfl rfl ?_)
    | ((with_reducible show wpList _ _ _ (Oper.mk (some 49) (.build _ _) _ _ _ _ :: _) _ _); refine wp_bld rfl _ _ rfl _ rfl (bev_S XB lx xb) ?_)
    | ((with_reducible show wpList _ _ _ (Oper.mk (some 50) (.buildSlice _ _ _) _ _ _ _ :: _) _ _); refine wp_bldS rfl _ 36 2 _ rfl und_ev 15 size_ev (by decide) (by decide) _ rfl HB2.out ?_)
    | (go_at_call 8; (with_reducible refine (CP.out _ _ 2 _ [evC m MA mc YA yc f, evS XB lx xb] (below_then HW5.out HBE.out) (HN5.out.grow HBE.out) HEV.out HL2.out HK2.out HE0.out HOE.out).mono ?_); rintro e1 w6 ⟨us, OA, oc, rfl, hud, huf, hio, hb6⟩)
    | ((with_reducible show wpList _ _ _ (Oper.mk _ (.store _ _ _) _ _ _ _ :: _) _ _); refine st_str (u := StrA.zero) (w := w6.alloc (.cells StrA.zero.cells.toArray 38)) (g := w6.heap.size) (Box.new rfl) rfl _ _ rfl rfl rfl ?_; intro W7 bs7 p7))
  have hp7 := put_facts ((Below.refl w6.heap.size w6).alloc (Nat.le_refl _) (.cells StrA.zero.cells.toArray 38)) (Nat.le_refl _) p7
  have hb57 := below_then (below_then HBE.out hb6) hp7
  have HW7 := Lib.hid (below_then HW5.out hb57)
  have HW6S : Hid (w.heap.size ≤ w6.heap.size) := Lib.hid (below_then HW5.out (below_then HBE.out hb6)).size
  have BG7 := Lib.hid (Box.keep BG5.out hb57)
  have BE7 := Lib.hid (EvBox.keep BE5.out hb57)
  have HN7 := Lib.hid (HN5.out.grow hb57)
  have HM7 := Lib.hid (HM5.out.grow hb57)
  have HIX7 := Lib.hid (HIX5.out.grow hb57)
  have BS7 := Lib.hid bs7
  have HUF := Lib.hid huf.at
  have HIO := Lib.hid hio.1
  have HP67 := Lib.hid hp7
  have HUD : Hid (us.d = D) := hud.trans HDE.out
  generalize hgq : w6.heap.size = q16 at BS7 ⊢
  have HGQ := Lib.hid hgq
  clear hgq
  have HO10 := own_ev1 W7 (evC m MA mc YA yc f)
  have HB10 := built_ev1 (evC m MA mc YA yc f)
  generalize ([evC m MA mc YA yc f].flatMap EvA.cells).toArray = cs1 at HO10 HB10
  have HO1 := Lib.hid HO10
  have HB1 := Lib.hid HB10
  clear HO10 HB10 hp7 hb57 bs7 huf hio hud hb6 p7 BG5 BE5 HN5 HM5 HIX5 HW5 HEV HB2 HBE HE0 HL2
  go_upto_region 9 with (first
    | ((with_reducible show wpList _ _ _ (Oper.mk (some 55) (.load _ _) _ _ _ _ :: _) _ _); refine ld_evB BE7.out rfl _ rfl rfl ?_)
    | ((with_reducible show wpList _ _ _ (Oper.mk (some 56) (.buildSlice _ _ _) _ _ _ _ :: _) _ _); refine wp_bldS rfl _ 36 1 _ rfl und_ev 15 size_ev (by decide) (by decide) _ rfl HB1.out ?_))
  have CAt : Hid (∀ w1 (k : Nat), Below w.heap.size w w1 → Calls Try.prog 9 #[.slice CA cn cc, .int .i64 k] w1 fun e w' => e = .returned (.int .i64 (atF cl k)) ∧ w1 = w') := fun w1 k hb => by
    have := wd_At CA cl cc k w1 (HC.out.grow hb)
    rw [HCN.out] at this; exact this
  go_wp2_with fail
  go_loopw [13, 18, 19] (fun x l i wr => ∃ (ps : List (Option Addr × List Int × Nat)) (rest : List Int) (A : Option Addr) (n c k : Nat), x = .slice A n c ∧ i = .int .i64 k ∧ Hid (rest.length = n) ∧ Hid (n ≤ c) ∧ Hid (c ≤ xb) ∧ Hid (flatP ps ++ rest = lx) ∧ Hid (∀ p ∈ ps, Ints W7 p.1 p.2.1) ∧ Hid (Ints W7 A rest) ∧ Hid (OwnEv W7.heap.size wr l (evC m MA mc YA yc f :: evsOf ps)) ∧ Below W7.heap.size W7 wr ∧ Hid (ps.length = k) ∧ Hid (k + n ≤ 30)) (fun x _ _ _ => lnOf x)
  case atStart => exact ⟨[], lx, XB, lx.length, xb, 0, rfl, rfl, Lib.hid rfl, HCX, Lib.hid (Nat.le_refl _), Lib.hid rfl, Lib.hid (fun p hp => by cases hp), HIX7, HO1, (Below.refl _ _).alloc (Nat.le_refl _) _, Lib.hid rfl, Lib.hid (by show 0 + lx.length ≤ 30; rw [HLX.out]; omega)⟩
  case round =>
    obtain ⟨ps, rest, A, n', c, k, rfl, rfl, HRL, HNC, HCB, HFP, HPI, HRI, HOW, hbw, HPK, HKN⟩ := hrel
    have HBW := Lib.hid hbw
    by_cases hlt : 0 < n'
    · obtain ⟨ad, x0, rfl, -, -, -, -, -⟩ := HRI.out.at_ (k := 0) (by rw [HRL.out]; exact hlt)
      have hnc := HNC.out
      have hcb := HCB.out
      have hkn := HKN.out
      obtain ⟨g3, g4⟩ := within_in (m := (n' : Int)) (by omega) (atF cl k)
      obtain ⟨q, hq⟩ : ∃ q : Nat, withinF (atF cl k) n' = (q : Int) := ⟨(withinF (atF cl k) n').toNat, by omega⟩
      rw [hq] at g3 g4
      have CW1 : Hid (∀ w1, Calls Try.prog 7 #[.int .i64 (atF cl k), .int .i64 n'] w1 fun e w' => e = .returned (.int .i64 q) ∧ w1 = w') := fun w1 => by have := wd_Within (atF cl k) n' w1 (by omega); rw [hq] at this; exact this
      obtain ⟨j, hj⟩ : ∃ j : Nat, q + 1 = j := ⟨_, rfl⟩
      have wq : IntKind.i64.wrap ((q : Int) + 1) = (j : Int) := (IntWalk.i64_in _ (by omega)).trans (by omega)
      have wk : IntKind.i64.wrap ((k : Int) + 1) = ((k + 1 : Nat) : Int) := (IntWalk.i64_in _ (by omega)).trans (by omega)
      have hjn : j ≤ n' := by omega
      have hjc : j ≤ c := by omega
      have hj0 : 0 < j := by omega
      have hlti : (0 : Int) < (n' : Int) := by omega
      have htl : (rest.take j).length = j := by rw [List.length_take, HRL.out]; omega
      have HBS : Hid (Try.prog.built 36 [(0, .int .i64 1), (1, .slice (some ad) j c)] = some (evS (some ad) (rest.take j) c).cells.toArray) := by
        have := bev_S (some ad) (rest.take j) c
        rw [htl] at this; exact this
      have hb1 := built_ev1 (evS (some ad) (rest.take j) c)
      have hbx : ∀ w : World, Box (w.alloc (.cells ([evS (some ad) (rest.take j) c].flatMap EvA.cells).toArray 36)) w.heap.size (evS (some ad) (rest.take j) c).cells := fun w => Box.new rfl
      generalize ([evS (some ad) (rest.take j) c].flatMap EvA.cells).toArray = cs3 at hb1 hbx
      have HB3 := Lib.hid hb1
      have HBX := Lib.hid hbx
      have HLE : Hid ((evC m MA mc YA yc f :: evsOf ps).length + 1 ≤ 100000000) := by
        show _ ≤ _
        rw [List.length_cons]; unfold evsOf; rw [List.length_map]
        have := HPK.out; omega
      have HSZ : Hid (W7.heap.size ≤ (wr.alloc (.cells cs3 36)).heap.size) := by
        show _ ≤ _
        have := HBW.out.size; simp; omega
      have HAL : Hid (Below wr.heap.size wr (wr.alloc (.cells cs3 36))) := (Below.refl _ _).alloc (Nat.le_refl _) _
      have HOG := Lib.hid (HOW.out.grow HAL.out)
      clear hb1 hbx hnc hcb hkn hq g3 g4
      go_upto_region 13 with (first
        | (go_at_call 9; (with_reducible refine (CAt.out _ k (below_then HW7.out HBW.out)).mono ?_); rintro e1 w1 ⟨rfl, rfl⟩)
        | (go_at_call 7; (with_reducible refine (CW1.out _).mono ?_); rintro e1 w1 ⟨rfl, rfl⟩))
      go_upto_region 14 with (first
        | ((with_reducible show wpList _ _ _ (Oper.mk (some 73) (.build _ _) _ _ _ _ :: _) _ _); refine wp_bld rfl _ _ rfl _ rfl HBS.out ?_)
        | ((with_reducible show wpList _ _ _ (Oper.mk (some 74) (.buildSlice _ _ _) _ _ _ _ :: _) _ _); refine wp_bldS rfl _ 36 1 _ rfl und_ev 15 size_ev (by decide) (by decide) _ rfl HB3.out ?_)
        | ((with_reducible show wpList _ _ _ (Oper.mk (some 75) _ _ _ _ _ :: _) _ _); refine app_ev _ rfl _ _ rfl W7.heap.size rfl rfl HOG.out (HBX.out wr) HLE.out HSZ.out ?_; intro v1 w1 ho1 hg1 hz1))
      have hb1 : Below W7.heap.size W7 w1 := (below_then HBW.out HAL.out).grown hg1 (below_then HBW.out HAL.out).size (fun b hb => ((show World.ownsRow _ _ _ _ _ _ _ from HOG.out).lt b hb).1)
      have HO2 : Hid (OwnEv W7.heap.size w1 v1 (evC m MA mc YA yc f :: evsOf (ps ++ [(some ad, rest.take j, c)]))) := by
        have e : evC m MA mc YA yc f :: evsOf (ps ++ [(some ad, rest.take j, c)]) = (evC m MA mc YA yc f :: evsOf ps) ++ [evS (some ad) (rest.take j) c] := by unfold evsOf; rw [List.map_append]; rfl
        show OwnEv _ _ _ _
        rw [e]; exact ho1
      have HDR : Hid (Ints W7 (if c = j then some ad else some (ad.add j)) (rest.drop j)) := HRI.out.dropL (by rw [HRL.out]; exact HNC.out)
      go_upto_region 11 with fail
      go_wp2_with fail
      go_roundw
      case rel =>
        refine ⟨ps ++ [(some ad, rest.take j, c)], rest.drop j, _, n' - j, c - j, k + 1, rfl, rfl, Lib.hid ?_, Lib.hid ?_, Lib.hid ?_, Lib.hid ?_, Lib.hid ?_, HDR, HO2, hb1, Lib.hid ?_, Lib.hid ?_⟩
        · rw [List.length_drop, HRL.out]
        · have := HNC.out; omega
        · have := HCB.out; omega
        · show flatP (ps ++ [(some ad, rest.take j, c)]) ++ rest.drop j = lx
          unfold flatP
          rw [List.flatMap_append, List.flatMap_cons, List.flatMap_nil, List.append_nil, List.append_assoc, List.take_append_drop]
          exact HFP.out
        · intro p hp
          rcases List.mem_append.1 hp with hp | hp
          · exact HPI.out p hp
          · obtain rfl := List.mem_singleton.1 hp
            exact HRI.out.takeL j
        · rw [List.length_append, HPK.out]; rfl
        · have := HKN.out; omega
      case measure => simp [lnOf]; omega
    · obtain rfl : n' = 0 := by omega
      have hrest : rest = [] := List.length_eq_zero_iff.1 HRL.out
      have hfl : flatP ps = lx := by have := HFP.out; rw [hrest, List.append_nil] at this; exact this
      have hpl : ps.length ≤ 30 := by have := HPK.out; have := HKN.out; omega
      obtain ⟨-, e0, eO, eD⟩ := HD2.out ps hfl (by omega)
      have HPE := Lib.hid e0
      have HPO := Lib.hid (eO.trans HOE.out)
      have HPD := Lib.hid eD
      have hat : ∀ e ∈ (evC m MA mc YA yc f :: evsOf ps), EvAt wr e := fun e he => by
        rcases List.mem_cons.1 he with rfl | he
        · exact evC_at (HM7.out.grow HBW.out)
        · unfold evsOf at he
          obtain ⟨p, hp, rfl⟩ := List.mem_map.1 he
          refine evS_at ((HPI.out p hp).grow HBW.out) ?_
          have h1 := part_le ps p hp
          rw [hfl, HLX.out] at h1
          omega
      obtain ⟨LA, lc, rfl, hes⟩ := HOW.out.form hat
      have HES := Lib.hid hes
      obtain ⟨L, hL⟩ : ∃ L, (evC m MA mc YA yc f :: evsOf ps).length = L := ⟨_, rfl⟩
      rw [hL]
      have HLL := Lib.hid hL
      have HL2 : Hid (L ≤ 200) := by
        show _ ≤ _
        rw [← hL, List.length_cons]; unfold evsOf; rw [List.length_map]; omega
      have HBG := Lib.hid (Box.keep BG7.out HBW.out)
      have HNR := Lib.hid (HN7.out.grow HBW.out)
      have hlo : ¬ (0 : Int) < ((0 : Nat) : Int) := by omega
      clear hrest hfl hpl e0 eO eD hat hes hL
      go_upto_region 16 with (first
        | ((with_reducible show wpList _ _ _ (Oper.mk (some 80) (.load _ _) _ _ _ _ :: _) _ _); refine ld_netB1 HBG.out rfl rfl _ rfl rfl ?_)
        | (go_at_call 8; (with_reducible refine (CP.out _ LA L lc _ (below_then HW7.out HBW.out) HNR.out HES.out HLL.out HL2.out HPE.out HPO.out).mono ?_); rintro e1 w8 ⟨ut, ZA, zc, rfl, hud2, huf2, hio2, hb8⟩)
        | ((with_reducible show wpList _ _ _ (Oper.mk _ (.store _ _ _) _ _ _ _ :: _) _ _); refine st_str (u := StrA.zero) (w := w8.alloc (.cells StrA.zero.cells.toArray 38)) (g := w8.heap.size) (Box.new rfl) rfl _ _ rfl rfl rfl ?_; intro W9 bs9 p9))
      have hp9 := put_facts ((Below.refl w8.heap.size w8).alloc (Nat.le_refl _) (.cells StrA.zero.cells.toArray 38)) (Nat.le_refl _) p9
      have hb79 := below_then (below_then HBW.out hb8) hp9
      have hne : q16 ≠ w8.heap.size := by have h1 := BS7.out.1; have h2 := (below_then HBW.out hb8).size; omega
      have hs9 : W7.heap.size ≤ w8.heap.size := (below_then HBW.out hb8).size
      have HNE := Lib.hid hne
      have HGE := Lib.hid hs9
      have HB79 := Lib.hid hb79
      have BS9 := Lib.hid (StrBox.keep BS7.out hb79)
      have BT9 := Lib.hid bs9
      have HTF := Lib.hid huf2
      have HIZ := Lib.hid hio2
      have HP9 := Lib.hid hp9
      have HWR := Lib.hid (HBW.out.size)
      have HTD : Hid (ut.d = playD (openD n) (evC m MA mc YA yc f :: evsOf ps)) := hud2
      generalize hgt : w8.heap.size = q22 at HNE HGE BT9 ⊢
      have HGT := Lib.hid hgt
      clear hgt hne hs9 hb79 bs9 p9 hp9 hud2 huf2 hio2 hb8 CP CAt HPI HRI HOW HES HBG HNR HPE HPO hlo
      go_upto_region 17 with ((with_reducible show wpList _ _ _ (Oper.mk _ (.store _ _ _) _ _ _ _ :: _) _ _); first
        | (refine st_ev0 BS9.out rfl _ _ rfl rfl rfl ?_; intro W10 bs10 p10; have bt10 := StrBox.away BT9.out p10 (fun e => HNE.out e.symm))
        | (refine st_ev0 bt10 rfl _ _ rfl rfl rfl ?_; intro W11 bt11 p11; have bs11 := StrBox.away bs10 p11 HNE.out))
      have h6 : Below w6.heap.size w6 W11 := by
        have h1 := below_then HP67.out HB79.out
        have hl : w6.heap.size ≤ q16 := by rw [HGQ.out]; exact Nat.le_refl _
        have h2 := put_facts h1 hl p10
        refine put_facts h2 ?_ p11
        have := HGE.out; have := HP67.out.size; omega
      have HW11 : Hid (Below w.heap.size w W11) := by
        refine Lib.hid (put_facts (put_facts (below_then HW7.out HB79.out) ?_ p10) ?_ p11)
        · have := HW6S.out; rw [HGQ.out] at this; exact this
        · have := HGE.out; have := HW7.out.size; omega
      obtain ⟨W', hg8, hb8⟩ := mid_world HP9.out p10 p11 (by rw [HGT.out]; exact Nat.le_refl _)
      have hq16 : q16 < wr.heap.size := Nat.lt_of_lt_of_le BS7.out.1 HWR.out
      have HTA := Lib.hid (((HTF.out.away hg8 hq16).grow hb8).at)
      have HZA := Lib.hid ((HIZ.out.away hg8 hq16).grow hb8).1
      have HUA := Lib.hid (HUF.out.grow h6)
      have HIA := Lib.hid (HIO.out.grow h6)
      have BS11 := Lib.hid bs11
      have BT11 := Lib.hid bt11
      clear h6 hg8 hb8 hq16 bs10 bt10 bs11 bt11 p10 p11
      have hol : O.length ≤ 1000000 := by
        rw [← HOE.out]
        show (((openD n).feedO _) ++ ((((openD n).feedD _).feedO _) ++ [])).length ≤ _
        rw [List.append_nil, List.length_append]
        have h1 := feedO_small (openD n) (evC m MA mc YA yc f)
        have h2 := feedO_small ((openD n).feedD (evC m MA mc YA yc f)) (evS XB lx xb)
        replace h1 : ((openD n).feedO (evC m MA mc YA yc f)).length ≤ 0 := h1
        replace h2 : (((openD n).feedD (evC m MA mc YA yc f)).feedO (evS XB lx xb)).length ≤ lx.length := h2
        rw [HLX.out] at h2
        omega
      have hsm := feedD_small ((openD n).feedD (evC m MA mc YA yc f)) (evS XB lx xb)
      replace hsm : ((D.net.nx.length ≤ 64 ∧ D.net.ns.length ≤ 64) ∧ (D.old.nx.length ≤ 64 ∧ D.old.ns.length ≤ 64) ∧ D.s.length ≤ 64 ∧ D.f.length ≤ 64) := by rw [← HDE.out]; exact hsm
      rw [← HUD.out] at hsm
      have HDD : Hid ({ ut.d with ev := 0 } = { us.d with ev := 0 }) := by
        show _ = _
        rw [HTD.out, HUD.out, ← HDE.out]; exact HPD.out
      have CI : Hid (∀ w1, Below W11.heap.size W11 w1 → Calls Try.prog 10 #[.slice OA O.length oc, .slice ZA O.length zc] w1 fun e1 w' => e1 = .returned (.bool true) ∧ Below w1.heap.size w1 w') := fun w1 hb => rf_SameN OA ZA O O oc zc _ _ w1 rfl rfl hol rfl (HIA.out.grow hb) (HZA.out.grow hb)
      have CS : Hid (∀ w1, Below W11.heap.size W11 w1 → Calls Try.prog 11 #[(StrA.ev0 us).v, (StrA.ev0 ut).v] w1 fun e1 w' => e1 = .returned (.bool true) ∧ Below w1.heap.size w1 w') := fun w1 hb =>
        r42_Same (StrA.ev0 us) (StrA.ev0 ut) w1 HDD.out ((ev0_at HUA.out).grow hb) ((ev0_at HTA.out).grow hb) (Nat.le_trans hsm.1.1 (by decide)) (Nat.le_trans hsm.2.1.1 (by decide)) (Nat.le_trans hsm.2.2.1 (by decide)) (Nat.le_trans hsm.2.2.2 (by decide))
      clear hol hsm
      go_wp2_with (first
        | (go_at_call 4; (with_reducible refine (known42 _).mono ?_); rintro e1 w12 ⟨rfl, hb12⟩)
        | (go_at_call 10; (with_reducible refine (CI.out _ hb12).mono ?_); rintro e1 w13 ⟨rfl, hb13⟩; have hb23 := below_then hb12 hb13; have bs13 := StrBox.keep BS11.out hb23; have bt13 := StrBox.keep BT11.out hb23)
        | ((with_reducible show wpList _ _ _ (Oper.mk (some 103) (.load _ _) _ _ _ _ :: _) _ _); refine ld_strW bs13 rfl _ rfl rfl ?_)
        | ((with_reducible show wpList _ _ _ (Oper.mk (some 104) (.load _ _) _ _ _ _ :: _) _ _); refine ld_strW bt13 rfl _ rfl rfl ?_)
        | (go_at_call 11; (with_reducible refine (CS.out _ hb23).mono ?_); rintro e1 w14 ⟨rfl, hb14⟩; have hb24 := below_then hb23 hb14))
      go_ret
      exact ⟨rfl, below_then HW11.out hb24⟩
end Go.Proofs.Ytodnbekeidbknaa
