/- Rows of changes, and the walk of events (for the law StreamFeeds). -/
import Derived.Test.YtgabfdappeakiaaY8
import Derived.Test.YtgabfdappeakiaaPw
import Derived.Test.YtgabfdappeakiaaPu
set_option linter.unusedVariables false
set_option linter.unusedSimpArgs false
namespace Go.Proofs.Ytgabfdappeakiaa
open Go.RowKit

/-- A change in numbers. -/
structure ChgA where
  r : RawA
  fd : Int
  SA : Option Addr
  sc : Nat
  sm : List Int
def ChgA.cells (c : ChgA) : List Value := c.r.lst ++ [.int .i64 c.fd, .slice c.SA c.sm.length c.sc]
structure ChgOk (w : World) (c : ChgA) : Prop where
  raw : RawOk w c.r
  fd : I64 c.fd
  sm : Ints w c.SA c.sm
  n : c.sm.length ≤ 9223372036854775807
theorem ChgOk.grow {w w' : World} {c : ChgA} (h : ChgOk w c) (hb : Below w.heap.size w w') : ChgOk w' c := ⟨h.raw.grow hb, h.fd, h.sm.grow hb, h.n⟩
/-- A slice of changes. -/
def ChgsAt (w : World) (A : Option Addr) (cs : List ChgA) : Prop := ∀ (k : Nat) c, cs[k]? = some c → ∃ ad, A = some ad ∧ ad.spot = none ∧ ad.block < w.heap.size ∧ w.rangeAt ad.block (ad.off + k * 9) c.cells ∧ ChgOk w c
/-- An event that stays one whatever becomes of block r. -/
def EvSafe (r : Option Nat) (w : World) (e : EvA) : Prop := ∀ w', w.grownBy w' r → EvAt w' e
theorem EvSafe.at {r : Option Nat} {w : World} {e : EvA} (h : EvSafe r w e) : EvAt w e := h w (grown_refl w r)
theorem grown_of_below {w w' : World} (h : Below w.heap.size w w') (r : Option Nat) : w.grownBy w' r := ⟨h.os, h.tape, h.output, h.size, fun k hk _ => h.block k hk⟩
theorem EvSafe.step {r r' : Option Nat} {w w1 : World} {e : EvA} (h : EvSafe r w e) (hg : w.grownBy w1 r) (hr : r' = r ∨ ∃ q, r' = some q ∧ w.heap.size ≤ q) : EvSafe r' w1 e := fun w' hw => by
  refine h w' ⟨hw.os.trans hg.os, hw.tape.trans hg.tape, hw.output.trans hg.output, Nat.le_trans hg.size hw.size, fun k hk hn => ?_⟩
  have h1 := hg.size
  refine (hw.block k (by omega) ?_).trans (hg.block k hk hn)
  rcases hr with rfl | ⟨q, rfl, hq⟩
  · exact hn
  · intro e; injection e with e; omega
theorem EvSafe.grow {r : Option Nat} {w w1 : World} {e : EvA} (h : EvSafe r w e) (hb : Below w.heap.size w w1) : EvSafe r w1 e := h.step (grown_of_below hb r) (.inl rfl)
theorem NetF.own {b : Nat} {r : Option Nat} {w w' : World} {n : NetD} {NA XA : Option Addr} (h : NetF b w n NA XA) (hg : w.grownBy w' r) (hr : ∀ q, r = some q → q < b) : NetF b w' n NA XA := by
  cases r with
  | none => exact h.grow ((Below.refl w.heap.size w).grown hg (Nat.le_refl _) (fun k e => by cases e))
  | some q => exact h.away hg (hr q rfl)
theorem IntsF.ownA {b : Nat} {r : Option Nat} {w w' : World} {A : Option Addr} {l : List Int} (h : IntsF b w A l) (hg : w.grownBy w' r) (hr : ∀ q, r = some q → q < b) : IntsF b w' A l := by
  cases r with
  | none => exact h.grow ((Below.refl w.heap.size w).grown hg (Nat.le_refl _) (fun k e => by cases e))
  | some q => exact h.away hg (hr q rfl)
theorem evC_safe {b : Nat} {r : Option Nat} {w : World} {n : NetD} {NA XA : Option Addr} {nc xc : Nat} {f : Int} (h : NetF b w n NA XA) (hr : ∀ q, r = some q → q < b) : EvSafe r w (evC n NA nc XA xc f) := fun w' hg => evC_at (h.own hg hr).at
theorem evS_safe {b : Nat} {r : Option Nat} {w : World} {A : Option Addr} {x : List Int} {c : Nat} (h : IntsF b w A x) (hl : x.length ≤ 9223372036854775807) (hr : ∀ q, r = some q → q < b) : EvSafe r w (evS A x c) := fun w' hg => evS_at (h.ownA hg hr).1 hl
theorem NetF.withD {b : Nat} {w : World} {m n : NetD} {NA XA : Option Addr} (h : NetF b w m NA XA) : NetF b w (m.withD n) NA XA := ⟨h.nodes, h.next, h.n1, h.n2, h.n3, h.st⟩
theorem chg_fd {w : World} {c : ChgA} {ad : Addr} {n : Nat} (hs : ad.spot = none) (hc : w.rangeAt ad.block (ad.off + n) c.cells) : w.cell? ⟨(ad.add n).block, (ad.add n).off + 7, none⟩ = some (.int .i64 c.fd) := by
  rw [add_none hs]; exact hc 7 _ rfl
theorem chg_sm {w : World} {c : ChgA} {ad : Addr} {n : Nat} (hs : ad.spot = none) (hc : w.rangeAt ad.block (ad.off + n) c.cells) : w.cell? ⟨(ad.add n).block, (ad.add n).off + 8, none⟩ = some (.slice c.SA c.sm.length c.sc) := by
  rw [add_none hs]; exact hc 8 _ rfl
/-- Events handed back: at most eight, in whatever memory. -/
def RetEvs (w : World) (e : Ending) (w' : World) : Prop := ∃ (es : List EvA) (EA : Option Addr) (en ec : Nat), e = .returned (.slice EA en ec) ∧ es.length = en ∧ en ≤ 8 ∧ EvsAt w' EA es ∧ Below w.heap.size w w'
theorem bev_S' (A : Option Addr) (x : List Int) (c n : Nat) (h : x.length = n) : Try.prog.built 33 [(0, .int .i64 1), (1, .slice A n c)] = some (evS A x c).cells.toArray := by subst h; exact built_evS A x.length c
theorem bev_C' (n : NetD) (NA : Option Addr) (nc : Nat) (XA : Option Addr) (xc : Nat) (f : Int) : Try.prog.built 33 [(0, .int .i64 2), (2, .agg (n.lst NA nc XA xc).toArray), (3, .int .i64 f)] = some (evC n NA nc XA xc f).cells.toArray := built_evC n NA nc XA xc f
theorem ld_rawA {ops : Array Oper} {rest : List Oper} {o : Oper} {a : Act} {Q : Exit → Act → World → Prop} {w : World} {c : ChgA} {ad : Addr} {n : Nat} (hs : ad.spot = none) (hc : w.rangeAt ad.block (ad.off + n) c.cells) (hgd : o.guard = none) (x : Operand) (ho : o.op = .load 25 x) (hx : a.eval x = .pointer (some (ad.add n))) (h : wpList Try.prog ops Q rest (a.put o.dst (.agg c.r.lst.toArray)) w) : wpList Try.prog ops Q (o :: rest) a w := by
  rw [add_none hs] at hx
  exact wpList_load_mid hgd _ x ho ad.block (ad.off + n) hx c.r.lst _ (fun j v hj => hc j v (by unfold ChgA.cells; rw [List.getElem?_append_left (List.getElem?_eq_some_iff.1 hj).1]; exact hj)) Try.underlying25 rfl (by kernel_rfl) h
/-- A slice of one event of the region's own. -/
def OneEv (W : World) (e : EvA) (v : Value) (w : World) : Prop := ∃ q, v = .slice (some ⟨q, 0, none⟩) 1 1 ∧ Box w q e.cells ∧ W.heap.size ≤ q
def eg7 (W : World) (u nv : Value) (CA : Option Addr) (cn cc k : Nat) (p q : Addr) (fd f : Int) (e : EvA) : Nat → Value → World → Prop
  | 0, v, _ => v = u | 1, v, _ => v = nv | 2, v, _ => v = .slice CA cn cc | 3, v, _ => v = .int .i64 k | 4, v, _ => v = .pointer (some p) | 5, v, _ => v = .pointer (some q) | 6, v, _ => v = .int .i64 fd | 7, v, _ => v = .int .i64 f | 8, v, _ => v = e.v
  | 9, v, w => OneEv W e v w
  | _, _, _ => True
theorem eg7_keep {W : World} {u nv : Value} {CA : Option Addr} {cn cc k : Nat} {p q : Addr} {fd f : Int} {e : EvA} {a b : World} (h : Below a.heap.size a b) : ∀ i v, eg7 W u nv CA cn cc k p q fd f e i v a → eg7 W u nv CA cn cc k p q fd f e i v b
  | 0, _, e => e | 1, _, e => e | 2, _, e => e | 3, _, e => e | 4, _, e => e | 5, _, e => e | 6, _, e => e | 7, _, e => e | 8, _, e => e
  | 9, _, ⟨q, e, hb, hq⟩ => ⟨q, e, Box.keep hb h, hq⟩
  | _ + 10, _, _ => trivial
def eg8 (W : World) (u wv : Value) (g0 : Nat) (CA : Option Addr) (cn cc k : Nat) (p q : Addr) (SA : Option Addr) (sn sc cnt : Nat) (lw : List Int) : Nat → Value → World → Prop
  | 0, v, _ => v = u | 1, v, _ => v = .pointer (some ⟨g0, 0, none⟩) | 2, v, _ => v = wv | 3, v, _ => v = .slice CA cn cc | 4, v, _ => v = .int .i64 k | 5, v, _ => v = .pointer (some p) | 6, v, _ => v = .pointer (some q) | 7, v, _ => v = .slice SA sn sc
  | 8, v, _ => v = .slice CA cn cc | 9, v, _ => v = .int .i64 k | 10, v, _ => v = .pointer (some p) | 11, v, _ => v = .pointer (some q) | 12, v, _ => v = .slice SA sn sc | 13, v, _ => v = .int .i64 sn | 14, v, _ => v = .int .i64 cnt
  | 15, v, w => ∃ A c, v = .slice A lw.length c ∧ IntsF W.heap.size w A lw
  | 16, v, w => ∃ A c, v = (evS A lw c).v ∧ IntsF W.heap.size w A lw
  | 17, v, w => ∃ A c, OneEv W (evS A lw c) v w ∧ IntsF W.heap.size w A lw
  | _, _, _ => True
theorem eg8_keep {W : World} {u wv : Value} {g0 : Nat} {CA : Option Addr} {cn cc k : Nat} {p q : Addr} {SA : Option Addr} {sn sc cnt : Nat} {lw : List Int} {a b : World} (h : Below a.heap.size a b) : ∀ i v, eg8 W u wv g0 CA cn cc k p q SA sn sc cnt lw i v a → eg8 W u wv g0 CA cn cc k p q SA sn sc cnt lw i v b
  | 0, _, e => e | 1, _, e => e | 2, _, e => e | 3, _, e => e | 4, _, e => e | 5, _, e => e | 6, _, e => e | 7, _, e => e | 8, _, e => e | 9, _, e => e | 10, _, e => e | 11, _, e => e | 12, _, e => e | 13, _, e => e | 14, _, e => e
  | 15, _, ⟨A, c, e, hi⟩ => ⟨A, c, e, hi.grow h⟩
  | 16, _, ⟨A, c, e, hi⟩ => ⟨A, c, e, hi.grow h⟩
  | 17, _, ⟨A, c, ⟨q, e, hb, hq⟩, hi⟩ => ⟨A, c, ⟨q, e, Box.keep hb h, hq⟩, hi.grow h⟩
  | _ + 18, _, _ => trivial
set_option maxRecDepth 100000 in
set_option maxHeartbeats 16000000 in
theorem l42_events (n : NetD) (NA : Option Addr) (nc : Nat) (XA : Option Addr) (xc : Nat) (cs : List ChgA) (CA : Option Addr) (cn cc : Nat) (w : World) (hc : ChgsAt w CA cs) (hcn : cs.length = cn) (hc9 : cn ≤ 9223372036854775807) :
    Calls Try.prog 6 #[.agg (n.lst NA nc XA xc).toArray, .slice CA cn cc] w (RetEvs w) := by
  have HC := Lib.hid hc
  have HCN := Lib.hid hcn
  clear hc hcn
  go_enter Try.func6, Try.ntmps6
  go_upto_region 1 with fail
  have bx0 : Box (w.alloc (.cells (n.lst NA nc XA xc).toArray 31)) w.heap.size (n.lst NA nc XA xc) := Box.new rfl
  have hb0 := (Below.refl w.heap.size w).alloc (Nat.le_refl _) (.cells (n.lst NA nc XA xc).toArray 31)
  have hs0 : w.heap.size + 1 ≤ (w.alloc (.cells (n.lst NA nc XA xc).toArray 31)).heap.size := by simp
  change Code.wp _ _ _ _ (w.alloc (.cells (n.lst NA nc XA xc).toArray 31))
  generalize (w.alloc (.cells (n.lst NA nc XA xc).toArray 31)) = W0 at bx0 hb0 hs0 ⊢
  have BX0 := Lib.hid bx0
  have HW0 := Lib.hid hb0
  generalize w.heap.size = g0 at bx0 BX0 hs0 ⊢
  clear bx0
  go_wp2_with fail
  go_loopw [5, 6] (fun v i wr => ∃ (k : Nat) (es : List EvA), i = .int .i64 k ∧ Hid (k ≤ cn) ∧ Hid (k ≤ 4) ∧ Hid (es.length = 2 * k) ∧ Hid (OwnEv W0.heap.size wr v es) ∧ Hid (∀ e ∈ es, EvSafe v.ownBlock wr e) ∧ Hid (Below W0.heap.size W0 wr)) (fun _ i _ => 4 - (intOf i).toNat)
  case atStart => exact ⟨0, [], rfl, Lib.hid (Nat.zero_le _), Lib.hid (Nat.zero_le _), Lib.hid rfl, Lib.hid (World.ownsRow_nil _ _ _ _), Lib.hid (fun e he => by cases he), Lib.hid (Below.refl _ _)⟩
  case round =>
    obtain ⟨k, es, rfl, HKC, HK4, HES, HOV, HSF, HBW⟩ := hrel
    by_cases hlt : ¬ (k < cn ∧ k < 4)
    · obtain ⟨EA, ec, rfl, he⟩ := HOV.out.form (fun e he => (HSF.out e he).at)
      have HE := Lib.hid he
      obtain ⟨en, hen⟩ : ∃ en, es.length = en := ⟨_, rfl⟩
      rw [hen]
      have h8 : en ≤ 8 := by have := HES.out; have := HK4.out; omega
      have HEN := Lib.hid hen
      have HBB := Lib.hid (below_then HW0.out HBW.out)
      clear he hen HOV HSF
      by_cases h1 : k < cn
      · have d1 : decide ((k : Int) < (cn : Int)) = true := decide_eq_true (by omega)
        have d2 : decide ((k : Int) < 4) = false := decide_eq_false (by omega)
        have d3 : (4 : Int) ≤ (k : Int) := by omega
        have d4 : (k : Int) < (cn : Int) := by omega
        clear hlt h1
        go_wp2_with fail
        go_ret
        exact ⟨es, EA, en, ec, rfl, HEN.out, h8, HE.out, HBB.out⟩
      · have d1 : decide ((k : Int) < (cn : Int)) = false := decide_eq_false (by omega)
        have d3 : (cn : Int) ≤ (k : Int) := by omega
        clear hlt h1
        go_wp2_with fail
        go_ret
        exact ⟨es, EA, en, ec, rfl, HEN.out, h8, HE.out, HBB.out⟩
    · obtain ⟨hkc, hk4⟩ := Classical.not_not.1 hlt
      clear hlt
      obtain ⟨c, hck⟩ : ∃ c, cs[k]? = some c := ⟨_, List.getElem?_eq_getElem (by rw [HCN.out]; exact hkc)⟩
      obtain ⟨ad, rfl, hsp, hba, hr, hok⟩ := HC.out k c hck
      have hb0w := below_then HW0.out HBW.out
      have HSP := Lib.hid hsp
      have HR := Lib.hid (range_keep hr hba hb0w)
      have HR0 := Lib.hid (range_keep hr hba HW0.out)
      have HBA : Hid (ad.block < wr.heap.size) := Lib.hid (Nat.lt_of_lt_of_le hba hb0w.size)
      have HBA0 : Hid (ad.block < W0.heap.size) := Lib.hid (Nat.lt_of_lt_of_le hba HW0.out.size)
      have HOK := Lib.hid (hok.grow hb0w)
      have HOK0 := Lib.hid (hok.grow HW0.out)
      have q1 : (0 : Int) ≤ (k : Int) := by omega
      have q2 : (k : Int) < (cn : Int) := by omega
      have q3 : (k : Int) < 4 := by omega
      have CN : Hid (Calls Try.prog 5 #[.agg c.r.lst.toArray] wr (RetRN wr)) := raw_RN c.r wr HOK.out.raw
      clear hr hsp hba hok hb0w hck
      go_upto_region 6 with (first
        | ((with_reducible show wpList _ _ _ (Oper.mk (some 22) (.load _ _) _ _ _ _ :: _) _ _); refine ld_rawA HSP.out HR.out rfl _ rfl rfl ?_)
        | (go_at_call 5; (with_reducible refine CN.out.mono ?_); rintro e1 w1 ⟨m0, MA, mc, YA, yc, rfl, hmk, -, -, hmf, hb1⟩)
        | ((with_reducible show wpList _ _ _ (Oper.mk _ (.store _ _ _) _ _ _ _ :: _) _ _); refine st_netBx (w := w1.alloc (.cells zNet.toArray 31)) (g := w1.heap.size) (vs := zNet) (n := m0) (NB := MA) (nb := mc) (XB := YA) (xb := yc) (Box.new rfl) rfl rfl _ _ rfl rfl rfl ?_; intro W1 bn1 p1))
      have hp1 := put_facts ((Below.refl w1.heap.size w1).alloc (Nat.le_refl _) (.cells zNet.toArray 31)) (Nat.le_refl _) p1
      have bg1 := Box.keep BX0.out (below_then HBW.out (below_then hb1 hp1))
      obtain ⟨z0, z1, z2, z3⟩ : W1.cell? ⟨g0, 0, none⟩ = some (.int .i64 n.d0) ∧ W1.cell? ⟨g0, 1, none⟩ = some (.int .i64 n.d1) ∧ W1.cell? ⟨g0, 2, none⟩ = some (.int .i64 n.d2) ∧ W1.cell? ⟨g0, 3, none⟩ = some (.int .i64 n.d3) := ⟨bg1.2.1 0, bg1.2.1 1, bg1.2.1 2, bg1.2.1 3⟩
      go_upto_region 7 with ((with_reducible show wpList _ _ _ (Oper.mk _ (.store _ _ _) _ _ _ _ :: _) _ _); refine wp_st (vs' := (m0.withD n).lst MA mc YA yc) rfl _ _ _ rfl w1.heap.size 0 [.int .i64 n.d0, .int .i64 n.d1, .int .i64 n.d2, .int .i64 n.d3] rfl rfl (by kernel_rfl) rfl bn1 (by show 0 + 4 ≤ 12; omega) rfl ?_; intro W2 bh2 p2)
      have hp2 := put_facts hp1 (Nat.le_refl _) p2
      have HMF : Hid (NetF wr.heap.size W2 (m0.withD n) MA YA) := (hmf.grow hp2).withD
      have HB2 := Lib.hid (below_then hb1 hp2)
      have HBH := Lib.hid bh2
      generalize hgm : m0.withD n = m at HMF HBH
      generalize w1.heap.size = h at HBH ⊢
      clear hgm hp2 hp1 bg1 z0 z1 z2 z3 bn1 bh2 p1 p2 hb1 hmf hmk CN
      have HB0 := Lib.hid (below_then HBW.out HB2.out)
      have HR2 := Lib.hid (range_keep HR.out HBA.out HB2.out)
      obtain ⟨g1, g2⟩ := within_in (m := 6) (by decide) c.fd
      obtain ⟨f, hf⟩ : ∃ f, withinF c.fd 6 = f := ⟨_, rfl⟩
      rw [hf] at g1 g2
      have CWi : Hid (∀ w1, Calls Try.prog 19 #[.int .i64 c.fd, .int .i64 6] w1 fun e w' => e = .returned (.int .i64 f) ∧ w1 = w') := fun w1 => by have := wd_Within c.fd 6 w1 (by decide); rw [hf] at this; exact this
      clear hf
      refine wp_region_grow8 (fun i => Nat.blt i 10) (fun _ => false) (fun w2 => Below W2.heap.size W2 w2) (fun a b => Below a.heap.size a b) (eg7 W2 u5 (.agg (m.lst MA mc YA yc).toArray) (some ad) cn cc k (ad.add (k * 9)) ⟨(ad.add (k * 9)).block, (ad.add (k * 9)).off + 7, none⟩ c.fd f (evC m MA mc YA yc f)) (by kernel_rfl) (by kernel_rfl) (Below.drew (Below.refl _ _)) (fun a b h1 h2 => ⟨below_then h1 h2, fun i _ v => eg7_keep h2 i v⟩) (fun w _ => Below.refl _ _) ?_ (fun j o _ _ h => by cases h) ?_
      · refine ⟨?_, ?_, ?_, ?_, ?_, ?_, ?_, ?_, ?_, ?_, trivial⟩
        all_goals
          intro vs w2 hp hF
          have HP := Lib.hid hp
          have BN := Lib.hid (Box.keep HBH.out hp)
          have z7 := chg_fd HSP.out (range_keep HR2.out (Nat.lt_of_lt_of_le HBA.out HB2.out.size) hp)
          clear hp
          simp [depsB, Region.binds, eg7] at hF
          simp [stL, depsB, Region.binds, Act.put, hF]
        · go_wp2_with fail
          exact ⟨rfl, Below.refl _ _⟩
        · refine ld_netB1 BN.out rfl rfl _ rfl rfl ?_
          go_wp2_with fail
          exact ⟨rfl, Below.refl _ _⟩
        · go_wp2_with fail
          exact ⟨rfl, Below.refl _ _⟩
        · go_wp2_with fail
          exact ⟨rfl, Below.refl _ _⟩
        · go_wp2_with fail
          exact ⟨rfl, Below.refl _ _⟩
        · go_wp2_with fail
          exact ⟨rfl, Below.refl _ _⟩
        · go_wp2_with fail
          exact ⟨rfl, Below.refl _ _⟩
        · go_wp2_with fail
          refine (CWi.out _).mono ?_
          rintro e2 w5 ⟨rfl, rfl⟩
          go_wp2_with fail
          exact ⟨rfl, Below.refl _ _⟩
        · refine wp_bld rfl _ _ rfl _ rfl (bev_C' m MA mc YA yc f) ?_
          go_wp2_with fail
          exact ⟨rfl, Below.refl _ _⟩
        · refine wp_bldS rfl _ 33 1 _ rfl und_ev 15 size_ev (by decide) (by decide) _ rfl (built_ev1 (evC m MA mc YA yc f)) ?_
          go_wp2_with fail
          exact ⟨⟨_, rfl, Box.new rfl, HP.out.size⟩, (Below.refl _ _).alloc (Nat.le_refl _) _⟩
      intro vs w3 hp hF
      have e0 := hF 0 (by decide) rfl
      obtain ⟨q, e9, hq, hqs⟩ := (show OneEv W2 (evC m MA mc YA yc f) (vs 9) w3 from hF 9 (by decide) rfl)
      replace e0 : vs 0 = u5 := e0
      show wpList Try.prog _ _ [_, _] _ _
      simp [stL, Act.put, e0, e9]
      clear hF e0 e9
      generalize vs 1 = x1
      generalize vs 2 = x2
      generalize vs 3 = x3
      generalize vs 4 = x4
      generalize vs 5 = x5
      generalize vs 6 = x6
      generalize vs 7 = x7
      generalize vs 8 = x8
      have HO3 := Lib.hid (HOV.out.grow (below_then HB2.out hp))
      have HLE : Hid (es.length + 1 ≤ 100000000) := by show _ ≤ _; rw [HES.out]; have := HK4.out; omega
      have HSZ : Hid (W0.heap.size ≤ w3.heap.size) := Nat.le_trans HBW.out.size (Nat.le_trans HB2.out.size hp.size)
      have HOB : Hid (∀ b, u5.ownBlock = some b → W0.heap.size ≤ b ∧ b < wr.heap.size) := fun b hb => (show World.ownsRow _ _ _ _ _ _ _ from HOV.out).lt b hb
      have HBX := Lib.hid hq
      have HP3 := Lib.hid hp
      clear hp hq hqs
      go_upto_region 8 with ((with_reducible show wpList _ _ _ (Oper.mk (some 37) _ _ _ _ _ :: _) _ _); refine app_ev _ rfl _ _ rfl W0.heap.size rfl rfl HO3.out HBX.out HLE.out HSZ.out ?_; intro v4 w4 ho4 hg4 hv4)
      have hb24 : Below W0.heap.size W0 w4 := (below_then HBW.out (below_then HB2.out HP3.out)).grown hg4 HSZ.out (fun b hb => (HOB.out b hb).1)
      have hsf4 : ∀ e ∈ es ++ [evC m MA mc YA yc f], EvSafe v4.ownBlock w4 e := fun e he => by
        have hr : v4.ownBlock = u5.ownBlock ∨ ∃ q, v4.ownBlock = some q ∧ w3.heap.size ≤ q := hv4.imp id (fun h => ⟨_, h, Nat.le_refl _⟩)
        rcases List.mem_append.1 he with he | he
        · exact ((HSF.out e he).grow (below_then HB2.out HP3.out)).step hg4 hr
        · obtain rfl := List.mem_singleton.1 he
          exact (EvSafe.grow (evC_safe HMF.out (fun b hb => (HOB.out b hb).2)) HP3.out).step hg4 hr
      have HSF4 := Lib.hid hsf4
      have HB4 := Lib.hid hb24
      have HO4 := Lib.hid ho4
      clear ho4 hg4 hv4 hb24 hsf4 HBX HP3 HO3 HLE HSZ HOB HMF HB2 HBH HR2 HB0 CWi
      have bg4 := Lib.hid (Box.keep BX0.out HB4.out)
      have HR4 := Lib.hid (range_keep HR0.out HBA0.out HB4.out)
      obtain ⟨sn, hsn⟩ : ∃ s, c.sm.length = s := ⟨_, rfl⟩
      have HSN := Lib.hid hsn
      obtain ⟨g3, g4⟩ := within_in (m := 14) (by decide) (sn : Int)
      obtain ⟨cnt, hcnt⟩ : ∃ q : Nat, withinF (sn : Int) 14 = (q : Int) := ⟨(withinF (sn : Int) 14).toNat, by omega⟩
      rw [hcnt] at g3 g4
      have CWi4 : Hid (∀ w1, Calls Try.prog 19 #[.int .i64 sn, .int .i64 14] w1 fun e w' => e = .returned (.int .i64 cnt) ∧ w1 = w') := fun w1 => by have := wd_Within (sn : Int) 14 w1 (by decide); rw [hcnt] at this; exact this
      obtain ⟨lw, hlw⟩ : ∃ l, wordsF n.d0 n.d1 n.d2 n.d3 c.sm cnt = l := ⟨_, rfl⟩
      have CWd : Hid (∀ w1, Below w4.heap.size w4 w1 → Calls Try.prog 20 #[wordV n.d0 n.d1 n.d2 n.d3, .slice c.SA sn c.sc, .int .i64 cnt] w1 fun e w' => ∃ A c, e = .returned (.slice A lw.length c) ∧ IntsF w1.heap.size w' A lw ∧ Below w1.heap.size w1 w') := fun w1 hb => by
        have := wd_Words n.d0 n.d1 n.d2 n.d3 c.SA c.sm c.sc cnt w1 (by omega) (HOK0.out.sm.grow (below_then HB4.out hb))
        rw [hsn, hlw] at this
        refine this.mono ?_
        rintro e w' ⟨v, rfl, ho, hb⟩
        obtain ⟨A, c, rfl, -, -⟩ := ho.form
        exact ⟨A, c, rfl, IntsF.own ho, hb⟩
      have HLW : Hid (lw.length ≤ 14) := by show _ ≤ _; rw [← hlw, wordsF_length]; omega
      clear hcnt hsn hlw
      refine wp_region_grow8 (fun i => Nat.blt i 18) (fun _ => false) (fun w2 => Below w4.heap.size w4 w2) (fun a b => Below a.heap.size a b) (eg8 w4 v4 (wordV n.d0 n.d1 n.d2 n.d3) g0 (some ad) cn cc k (ad.add (k * 9)) ⟨(ad.add (k * 9)).block, (ad.add (k * 9)).off + 8, none⟩ c.SA sn c.sc cnt lw) (by kernel_rfl) (by kernel_rfl) (Below.drew (Below.refl _ _)) (fun a b h1 h2 => ⟨below_then h1 h2, fun i _ v => eg8_keep h2 i v⟩) (fun w _ => Below.refl _ _) ?_ (fun j o _ _ h => by cases h) ?_
      · refine ⟨?_, ?_, ?_, ?_, ?_, ?_, ?_, ?_, ?_, ?_, ?_, ?_, ?_, ?_, ?_, ?_, ?_, ?_, trivial⟩
        all_goals
          intro vs w2 hp hF
          have HP := Lib.hid hp
          have bk := Box.keep bg4.out hp
          have z0 : w2.cell? ⟨g0, 0, none⟩ = some (.int .i64 n.d0) := bk.2.1 0
          have z1 : w2.cell? ⟨g0, 1, none⟩ = some (.int .i64 n.d1) := bk.2.1 1
          have z2 : w2.cell? ⟨g0, 2, none⟩ = some (.int .i64 n.d2) := bk.2.1 2
          have z3 : w2.cell? ⟨g0, 3, none⟩ = some (.int .i64 n.d3) := bk.2.1 3
          have z8 := chg_sm HSP.out (range_keep HR4.out (Nat.lt_of_lt_of_le HBA0.out HB4.out.size) hp)
          rw [HSN.out] at z8
          clear hp bk
          simp [depsB, Region.binds, eg8] at hF
          simp [stL, depsB, Region.binds, Act.put, hF]
        · go_wp2_with fail
          exact ⟨rfl, Below.refl _ _⟩
        · go_wp2_with fail
          exact ⟨rfl, Below.refl _ _⟩
        · go_wp2_with fail
          exact ⟨rfl, Below.refl _ _⟩
        · go_wp2_with fail
          exact ⟨rfl, Below.refl _ _⟩
        · go_wp2_with fail
          exact ⟨rfl, Below.refl _ _⟩
        · go_wp2_with fail
          exact ⟨rfl, Below.refl _ _⟩
        · go_wp2_with fail
          exact ⟨rfl, Below.refl _ _⟩
        · go_wp2_with fail
          exact ⟨rfl, Below.refl _ _⟩
        · go_wp2_with fail
          exact ⟨rfl, Below.refl _ _⟩
        · go_wp2_with fail
          exact ⟨rfl, Below.refl _ _⟩
        · go_wp2_with fail
          exact ⟨rfl, Below.refl _ _⟩
        · go_wp2_with fail
          exact ⟨rfl, Below.refl _ _⟩
        · go_wp2_with fail
          exact ⟨rfl, Below.refl _ _⟩
        · go_wp2_with fail
          exact ⟨rfl, Below.refl _ _⟩
        · go_wp2_with fail
          refine (CWi4.out _).mono ?_
          rintro e2 w5 ⟨rfl, rfl⟩
          go_wp2_with fail
          exact ⟨rfl, Below.refl _ _⟩
        · go_wp2_with fail
          refine (CWd.out _ HP.out).mono ?_
          rintro e2 w5 ⟨A, c, rfl, hi, hb5⟩
          go_wp2_with fail
          exact ⟨A, c, rfl, hi.base HP.out.size⟩
        · obtain ⟨A, ⟨c', e15⟩, hi⟩ := hF
          rw [e15]
          refine wp_bld rfl _ _ rfl _ rfl (bev_S' A lw c' _ rfl) ?_
          go_wp2_with fail
          exact ⟨⟨A, c', rfl, hi⟩, Below.refl _ _⟩
        · obtain ⟨A, ⟨c', e16⟩, hi⟩ := hF
          rw [e16]
          refine wp_bldS rfl _ 33 1 _ rfl und_ev 15 size_ev (by decide) (by decide) _ rfl (built_ev1 (evS A lw c')) ?_
          go_wp2_with fail
          exact ⟨⟨A, c', ⟨_, rfl, Box.new rfl, HP.out.size⟩, hi.grow ((Below.refl _ _).alloc (Nat.le_refl _) _)⟩, (Below.refl _ _).alloc (Nat.le_refl _) _⟩
      intro vs w5 hp hF
      have e0 := hF 0 (by decide) rfl
      obtain ⟨LA, lc, ⟨q, e17, hq, hqs⟩, hli⟩ := (show ∃ A c, OneEv w4 (evS A lw c) (vs 17) w5 ∧ IntsF w4.heap.size w5 A lw from hF 17 (by decide) rfl)
      replace e0 : vs 0 = v4 := e0
      show wpList Try.prog _ _ [_, _] _ _
      simp [stL, Act.put, e0, e17]
      clear hF e0 e17
      generalize vs 1 = y1
      generalize vs 2 = y2
      generalize vs 3 = y3
      generalize vs 4 = y4
      generalize vs 5 = y5
      generalize vs 6 = y6
      generalize vs 7 = y7
      generalize vs 8 = y8
      generalize vs 9 = y9
      generalize vs 10 = y10
      generalize vs 11 = y11
      generalize vs 12 = y12
      generalize vs 13 = y13
      generalize vs 14 = y14
      generalize vs 15 = y15
      generalize vs 16 = y16
      have HO5 := Lib.hid (HO4.out.grow hp)
      have HLE : Hid ((es ++ [evC m MA mc YA yc f]).length + 1 ≤ 100000000) := by show _ ≤ _; rw [List.length_append, HES.out]; have := HK4.out; simp; omega
      have HSZ : Hid (W0.heap.size ≤ w5.heap.size) := Nat.le_trans HB4.out.size hp.size
      have HOB : Hid (∀ b, v4.ownBlock = some b → W0.heap.size ≤ b ∧ b < w4.heap.size) := fun b hb => (show World.ownsRow _ _ _ _ _ _ _ from HO4.out).lt b hb
      have HBX := Lib.hid hq
      have HP5 := Lib.hid hp
      have HLI := Lib.hid hli
      clear hp hq hqs hli
      have wk : IntKind.i64.wrap ((k : Int) + 1) = ((k + 1 : Nat) : Int) := (IntWalk.i64_in _ (by omega)).trans (by omega)
      go_upto_region 4 with ((with_reducible show wpList _ _ _ (Oper.mk (some 56) _ _ _ _ _ :: _) _ _); refine app_ev _ rfl _ _ rfl W0.heap.size rfl rfl HO5.out HBX.out HLE.out HSZ.out ?_; intro v6 w6 ho6 hg6 hv6)
      have hb6 : Below W0.heap.size W0 w6 := (below_then HB4.out HP5.out).grown hg6 HSZ.out (fun b hb => (HOB.out b hb).1)
      have hsf6 : ∀ e ∈ es ++ [evC m MA mc YA yc f] ++ [evS LA lw lc], EvSafe v6.ownBlock w6 e := fun e he => by
        have hr : v6.ownBlock = v4.ownBlock ∨ ∃ q, v6.ownBlock = some q ∧ w5.heap.size ≤ q := hv6.imp id (fun h => ⟨_, h, Nat.le_refl _⟩)
        rcases List.mem_append.1 he with he | he
        · exact ((HSF4.out e he).grow HP5.out).step hg6 hr
        · obtain rfl := List.mem_singleton.1 he
          exact (evS_safe HLI.out (by have := HLW.out; omega) (fun b hb => (HOB.out b hb).2)).step hg6 hr
      have HS6 := Lib.hid hsf6
      have HO6 := Lib.hid ho6
      have HB6 := Lib.hid hb6
      clear hsf6 ho6 hb6 hg6 hv6
      go_wp2_with fail
      go_roundw
      case rel => exact ⟨k + 1, _, rfl, Lib.hid (by show _ ≤ _; omega), Lib.hid (by show _ ≤ _; omega), Lib.hid (by show List.length _ = _; rw [List.length_append, List.length_append, HES.out]; simp; omega), HO6, HS6, HB6⟩
      case measure => simp [intOf]; omega
end Go.Proofs.Ytgabfdappeakiaa
