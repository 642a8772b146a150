/- The walk of change of package stream where it goes through. -/
import Derived.Test.YtgabfdappeakiaaTg
import Derived.Test.YtgabfdappeakiaaTd
import Derived.Test.YtgabfdappeakiaaPu
set_option linter.unusedVariables false
set_option linter.unusedSimpArgs false
namespace Go.Proofs.Ytgabfdappeakiaa
open Go.RowKit

/-- A fresh copy of a network. -/
def IsNet (b : Nat) (w : World) (n : NetD) (v : Value) : Prop := ∃ NB nb XB xb, v = .agg (n.lst NB nb XB xb).toArray ∧ NetF b w n NB XB ∧ NetT w n NB XB
theorem IsNet.grow {b : Nat} {w w' : World} {n : NetD} {v : Value} (h : IsNet b w n v) (hb : Below w.heap.size w w') : IsNet b w' n v := by
  obtain ⟨NB, nb, XB, xb, e, h1, h2⟩ := h
  exact ⟨NB, nb, XB, xb, e, h1.grow hb, h2.keep hb⟩
/-- A row of zeros of the call's own. -/
def IsZs (b : Nat) (w : World) (n : Nat) (v : Value) : Prop := ∃ p, v = .slice (some ⟨p, 0, none⟩) n n ∧ Own b w v (List.replicate n 0)
theorem IsZs.grow {b : Nat} {w w' : World} {n : Nat} {v : Value} (h : IsZs b w n v) (hb : Below w.heap.size w w') : IsZs b w' n v := by
  obtain ⟨p, e, h1⟩ := h
  exact ⟨p, e, h1.grow hb⟩
/-- A stream that has just been made of both. -/
def IsNew (b : Nat) (w : World) (m : NetD) (n : Nat) (ev : Int) (v : Value) : Prop := ∃ NB nb XB xb p, v = StrA.v ⟨⟨m, NetD.zero, List.replicate n 0, [], 0, 0, ev⟩, NB, XB, none, none, some ⟨p, 0, none⟩, none, nb, xb, 0, 0, n, 0⟩ ∧ (m.nx ≠ [] → ∀ a, XB = some a → a.block ≠ p) ∧ NetF b w m NB XB ∧ NetT w m NB XB ∧ Own b w (.slice (some ⟨p, 0, none⟩) n n) (List.replicate n 0)
theorem IsNew.grow {b : Nat} {w w' : World} {m : NetD} {n : Nat} {ev : Int} {v : Value} (h : IsNew b w m n ev v) (hb : Below w.heap.size w w') : IsNew b w' m n ev v := by
  obtain ⟨NB, nb, XB, xb, p, e, h0, h1, h2, h3⟩ := h
  exact ⟨NB, nb, XB, xb, p, e, h0, h1.grow hb, h2.keep hb, h3.grow hb⟩
/-- A new block for a stream. -/
def IsBlk (b : Nat) (w : World) (v : Value) : Prop := ∃ q, v = .pointer (some ⟨q, 0, none⟩) ∧ b ≤ q ∧ w.heap[q]? = some (.cells StrA.zero.cells.toArray 39 (0, 0))
theorem IsBlk.grow {b : Nat} {w w' : World} {v : Value} (h : IsBlk b w v) (hb : Below w.heap.size w w') : IsBlk b w' v := by
  obtain ⟨q, e, h1, h2⟩ := h
  exact ⟨q, e, h1, (hb.block q (Array.getElem?_eq_some_iff.1 h2).1).trans h2⟩
def chgF (R b : Nat) (e : EvA) (n : Nat) (ev : Int) : Nat → Value → World → Prop
  | 0, v, _ => v = .pointer (some ⟨R + 1, 2, none⟩)
  | 1, v, _ => v = .agg e.netL.toArray
  | 2, v, w => IsNet b w e.net v
  | 3, v, _ => v = .pointer (some ⟨R + 1, 2, none⟩)
  | 4, v, _ => v = .pointer (some ⟨R + 1, 10, none⟩)
  | 5, v, _ => v = .int .i64 n
  | 6, v, w => IsZs b w n v
  | 7, v, _ => v = .pointer (some ⟨R, 28, none⟩)
  | 8, v, _ => v = .int .i64 ev
  | 9, v, w => IsNew b w e.net n ev v
  | 10, v, w => IsBlk b w v
  | _, _, _ => True
theorem chgF_keep {R b : Nat} {e : EvA} {n : Nat} {ev : Int} {w w' : World} (h : Below w.heap.size w w') : ∀ i v, chgF R b e n ev i v w → chgF R b e n ev i v w'
  | 0, _, e => e | 1, _, e => e | 3, _, e => e | 4, _, e => e | 5, _, e => e | 7, _, e => e | 8, _, e => e
  | 2, _, hi => hi.grow h
  | 6, _, hi => hi.grow h
  | 9, _, hi => hi.grow h
  | 10, _, hi => hi.grow h
  | _ + 11, _, _ => trivial
/-- What is new of the two that make rows. -/
def chgG (e : EvA) (n : Nat) : Nat → Value → World → World → Prop
  | 2, v, a, b => IsNet a.heap.size b e.net v
  | 6, v, a, b => IsZs a.heap.size b n v
  | _, _, _, _ => True
theorem chg_prior {R b : Nat} {e : EvA} {n : Nat} {ev : Int} {u v : Value} {NB XB : Option Addr} {nb xb p : Nat} (h : Prior (chgF R b e n ev) (fun j x a b => Below a.heap.size a b ∧ chgG e n j x a b) 2 6 u v ∨ Prior (chgF R b e n ev) (fun j x a b => Below a.heap.size a b ∧ chgG e n j x a b) 6 2 v u)
    (hu : u = .agg (e.net.lst NB nb XB xb).toArray) (hv : v = .slice (some ⟨p, 0, none⟩) n n) : e.net.nx ≠ [] → ∀ a, XB = some a → a.block ≠ p := by
  intro hl a ha
  obtain ⟨k, hk⟩ : ∃ k, e.net.nx[0]? = some k := by
    cases h : e.net.nx with
    | nil => exact absurd h hl
    | cons x t => exact ⟨x, rfl⟩
  have lst_x : ∀ {NB' XB' : Option Addr} {nb' xb' : Nat}, u = .agg (e.net.lst NB' nb' XB' xb').toArray → XB' = some a := fun h' => by
    rw [hu] at h'
    injection h' with h'
    have h' := congrArg Array.toList h'
    have h2 := congrArg (fun l => l[10]?) h'
    simp only [NetD.lst] at h2
    injection h2 with h2
    injection h2 with h2
    rw [← h2]; exact ha
  have zs : ∀ {c : Nat} {W : World}, IsZs c W n v → c ≤ p ∧ p < W.heap.size := fun h' => by
    obtain ⟨p', e', ho⟩ := h'
    rw [hv] at e' ho
    injection e' with e'
    injection e' with e'
    injection e' with e'
    subst e'
    exact ho.block
  rcases h with ⟨wa, wb, h1, -, h2⟩ | ⟨wa, wb, h1, -, h2⟩
  · obtain ⟨NB', nb', XB', xb', e1, h3, -⟩ := h1
    have hx := lst_x e1
    obtain ⟨ad, ea, hb, -⟩ := h3.next.1.1 0 (.int .i64 k) (by rw [List.getElem?_map, hk]; rfl)
    rw [hx] at ea
    injection ea with ea
    subst ea
    have := (zs h2).1
    omega
  · obtain ⟨NB', nb', XB', xb', e1, h3, -⟩ := h2
    have hx := lst_x e1
    have := h3.next.2 hl a hx
    have := (zs h1).2
    omega
/-- The network does not lie in the block q. -/
def NetN (q : Nat) (w : World) (n : NetD) (NA XA : Option Addr) : Prop :=
  (∀ (k : Nat) ts, n.ns[k]? = some ts → ∃ ad B c, NA = some ad ∧ ad.block ≠ q ∧ ad.block < w.heap.size ∧ w.cell? (ad.add k) = some (.slice B ts.length c) ∧ (ts ≠ [] → ∀ a, B = some a → a.block ≠ q)) ∧ (n.nx ≠ [] → ∀ a, XA = some a → a.block ≠ q)
theorem NetN.of {q b : Nat} {w : World} {n : NetD} {NA XA : Option Addr} {cur : Array Value} {T : TypeId} (h : NetF b w n NA XA) (ht : NetT w n NA XA) (hq : w.heap[q]? = some (.cells cur T (0, 0))) (hT : T ∈ [39, 3]) (hx : n.nx ≠ [] → ∀ a, XA = some a → a.block ≠ q) : NetN q w n NA XA := by
  refine ⟨fun k ts hk => ?_, hx⟩
  obtain ⟨ad, B, c, e, k1, k2, k3⟩ := ht.1 k ts hk
  exact ⟨ad, B, c, e, k1.ne hq hT, k1.lt, k2, fun hl a ha => (k3 hl a ha).ne hq hT⟩
theorem NetN.low {q b : Nat} {w : World} {n : NetD} {NA XA : Option Addr} (h : NetF b w n NA XA) (hq : q < b) : NetN q w n NA XA := by
  refine ⟨fun k ts hk => ?_, fun hl a ha => by have := h.next.2 hl a ha; omega⟩
  obtain ⟨ad, B, c, e, h0, h1, h2, _, h4⟩ := h.nodes k ts hk
  exact ⟨ad, B, c, e, by omega, h1, h2, fun hl a ha => by have := h4 hl a ha; omega⟩
theorem NetN.keep {q : Nat} {w w' : World} {n : NetD} {NA XA : Option Addr} (h : NetN q w n NA XA) (hb : Below w.heap.size w w') : NetN q w' n NA XA := by
  refine ⟨fun k ts hk => ?_, h.2⟩
  obtain ⟨ad, B, c, e, h0, h1, h2, h4⟩ := h.1 k ts hk
  exact ⟨ad, B, c, e, h0, Nat.lt_of_lt_of_le h1 hb.size, (hb.cell (by rw [block_add]; exact h1)).trans h2, h4⟩
theorem NetN.away {q p : Nat} {w w' : World} {n : NetD} {NA XA : Option Addr} (h : NetN q w n NA XA) (hp : NetN p w n NA XA) (hg : w.grownBy w' (some p)) : NetN q w' n NA XA := by
  refine ⟨fun k ts hk => ?_, h.2⟩
  obtain ⟨ad, B, c, e, h0, h1, h2, h4⟩ := h.1 k ts hk
  obtain ⟨ad', B', c', e', k0, k1, k2, k4⟩ := hp.1 k ts hk
  rw [e] at e'
  injection e' with e'
  subst e'
  exact ⟨ad, B, c, e, h0, Nat.lt_of_lt_of_le h1 hg.size, hg.cell h2 (by rw [block_add]; intro e'; injection e' with e'; exact k0 e'), h4⟩
theorem NetF.awayN {b q : Nat} {w w' : World} {n : NetD} {NA XA : Option Addr} (h : NetF b w n NA XA) (ht : NetN q w n NA XA) (hg : w.grownBy w' (some q)) : NetF b w' n NA XA := by
  refine ⟨fun k ts hk => ?_, ⟨?_, h.next.2⟩, h.n1, h.n2, h.n3, h.st⟩
  · obtain ⟨ad, B, c, e, h0, h1, h2, h3, h4⟩ := h.nodes k ts hk
    obtain ⟨ad', B', c', e', k0, k1, k2, k3⟩ := ht.1 k ts hk
    rw [e] at e'
    injection e' with e'
    subst e'
    rw [h2] at k2
    injection k2 with k2
    injection k2 with k2 _ _
    subst k2
    exact ⟨ad, B, c, e, h0, Nat.lt_of_lt_of_le h1 hg.size, hg.cell h2 (by rw [block_add]; intro e'; injection e' with e'; exact k0 e'), h3.kept hg (fun hl a ha e' => by injection e' with e'; exact k3 hl a ha e'), h4⟩
  · refine ⟨fun k v hk => ?_, h.next.1.2⟩
    obtain ⟨ad, e, hb, hc⟩ := h.next.1.1 k v hk
    have hl : n.nx ≠ [] := by intro h; rw [h] at hk; simp at hk
    exact ⟨ad, e, Nat.lt_of_lt_of_le hb hg.size, hg.cell hc (by rw [block_add]; intro e'; injection e' with e'; exact ht.2 hl ad e e')⟩
/-- The two blocks that a change makes: the row of the state and the stream. -/
theorem own_type {b p n : Nat} {w : World} {l : List Int} (h : Own b w (.slice (some ⟨p, 0, none⟩) n n) l) : ∃ cur, w.heap[p]? = some (.cells cur 3 (0, 0)) := by
  obtain ⟨_, ⟨e1, _⟩ | ⟨g', cap, cur, e1, _, hg, _⟩⟩ := h.1
  · cases e1
  · injection e1 with e1
    injection e1 with e1
    injection e1 with e1
    subst e1
    exact ⟨cur, hg⟩
theorem drew_below (w : World) : Below w.heap.size w w.drew := (Below.refl _ _).drew
/-- The stream under way. -/
abbrev chgA (m : NetD) (S : List Int) (n p : Nat) (ev : Int) (NB : Option Addr) (nb : Nat) (XB : Option Addr) (xb : Nat) : StrA := ⟨⟨m, NetD.zero, S, [], 0, 0, ev⟩, NB, XB, none, none, some ⟨p, 0, none⟩, none, nb, xb, 0, 0, n, 0⟩
theorem chgA_box {w : World} {q p n : Nat} {m : NetD} {S S' : List Int} {ev : Int} {NB XB : Option Addr} {nb xb : Nat} (h : StrBox w q (chgA m S n p ev NB nb XB xb)) (e : S'.length = S.length) : StrBox w q (chgA m S' n p ev NB nb XB xb) := by
  have h1 := h.box
  have : (chgA m S n p ev NB nb XB xb).cells = (chgA m S' n p ev NB nb XB xb).cells := by simp [StrA.cells, e]
  rw [this] at h1
  exact h1
theorem blk_box {b q : Nat} {w : World} (h : w.heap[q]? = some (.cells StrA.zero.cells.toArray 39 (0, 0))) : StrBox w q StrA.zero := by
  refine ⟨(Array.getElem?_eq_some_iff.1 h).1, fun k => ?_, fun k => frozen_of_row w q k _ _ h⟩
  rw [cell_of_row w q k _ _ (0, 0) h]
  simp
  rfl
theorem chOk_parts {d : StrD} {e : EvA} (hg : d.Good) (h : d.chE e = 0) : e.net.ok = true ∧ e.net.same d.net = true ∧ (0 ≤ e.fade ∧ e.fade ≤ 4096) ∧ d.left = 0 := by
  unfold StrD.chE at h
  by_cases h1 : e.net.ok = true
  · rw [if_pos h1] at h
    by_cases h2 : e.net.same d.net = true ∧ 0 ≤ e.fade ∧ e.fade ≤ 4096
    · rw [if_pos h2] at h
      by_cases h3 : 0 < d.left
      · rw [if_pos h3] at h; exact absurd h (by decide)
      · exact ⟨h1, h2.1, h2.2, by have := hg.2.2.2.2.1.1; omega⟩
    · rw [if_neg h2] at h; exact absurd h (by decide)
  · rw [if_neg h1] at h; exact absurd h (by decide)
set_option maxRecDepth 100000 in
set_option maxHeartbeats 4000000 in
theorem st_change_ok (u : StrA) (e : EvA) (w : World) (hu : StrAt w u) (hg : u.d.Good) (he : EvAt w e) (h0 : u.d.chE e = 0) : Calls Try.prog 29 #[u.v, e.v] w (RetCh w (u.d.chOk e) 0) := by
  obtain ⟨hok, hsm, ⟨hf1, hf2⟩, hl0⟩ := chOk_parts hg h0
  obtain ⟨-, -, ⟨hst1, hst2⟩, -, hst3, -, -, -, -⟩ := netB_parts hok
  obtain ⟨hokn, hs64, -⟩ := good_lens hg
  have hsst : (u.d.s.length : Int) = u.d.net.st := (state_iff.1 hg.2.1).1
  obtain ⟨n, hn⟩ : ∃ n : Nat, e.net.st = (n : Int) := ⟨e.net.st.toNat, by omega⟩
  have CV : Hid (∀ w1, Below w.heap.size w w1 → Calls Try.prog 23 #[.agg e.netL.toArray] w1 fun e1 w' => e1 = .returned (.bool true) ∧ Below w1.heap.size w1 w') := fun w1 hb => by
    have h := he.net.grow hb
    have := nw_Valid e.net.d0 e.net.d1 e.net.d2 e.net.d3 e.net.c0 e.net.c1 e.net.c2 e.net.c3 e.net.st e.net.out e.NA e.XA e.nc e.xc e.net.ns e.net.nx w1 h.nodes h.next h.n1 h.n2 h.n3 h.st
    rw [show netB _ _ _ _ _ _ _ _ _ _ _ _ = true from hok] at this; exact this
  have CN : Hid (∀ w1, Below w.heap.size w w1 → Calls Try.prog 26 #[.agg e.netL.toArray] w1 fun e1 w' => ∃ NA nc XA xc, e1 = .returned (.agg (e.net.lst NA nc XA xc).toArray) ∧ NetF w1.heap.size w' e.net NA XA ∧ NetT w' e.net NA XA ∧ Below w1.heap.size w1 w') := fun w1 hb => st_cloneNet e.net e.NA e.XA e.nc e.xc w1 (he.net.grow hb) hok
  have CM : Hid (∀ w1, Below w.heap.size w w1 → Calls Try.prog 26 #[.agg u.netL.toArray] w1 fun e1 w' => ∃ NA nc XA xc, e1 = .returned (.agg (u.d.net.lst NA nc XA xc).toArray) ∧ NetF w1.heap.size w' u.d.net NA XA ∧ NetT w' u.d.net NA XA ∧ Below w1.heap.size w1 w') := fun w1 hb => st_cloneNet u.d.net u.NA u.XA u.nc u.xc w1 (hu.net.grow hb) hokn
  have CF : Hid (∀ w1, Below w.heap.size w w1 → Calls Try.prog 40 #[.slice u.SA u.d.s.length u.sc] w1 fun e w' => ∃ A c, e = .returned (.slice A u.d.s.length c) ∧ IntsF w1.heap.size w' A u.d.s ∧ Below w1.heap.size w1 w') := fun w1 hb => by
    refine (sl_CloneI u.SA _ u.sc u.d.s w1 (hu.s.grow hb) rfl (by omega)).mono ?_
    rintro e w2 ⟨v, rfl, ho, hb⟩
    obtain ⟨A, c, rfl, -, hi⟩ := ho.form
    exact ⟨A, c, rfl, IntsF.own ho, hb⟩
  have HUS := Lib.hid hu.s
  unfold NetD.same at hsm
  obtain ⟨s0, s1, s2, s3⟩ := of_decide_eq_true hsm
  have hn64 : n ≤ 64 := by omega
  have HSST := Lib.hid hsst
  have HN := Lib.hid hn
  clear hu hg he h0 hok hst1 hst2 hst3 hsst hokn hsm
  go_enter Try.func29, Try.ntmps29
  go_upto_region 1 with fail
  obtain ⟨bx0, be0, bz0, hb0, hs0⟩ := entry3 w u e _ rfl
  change Code.wp _ _ _ _ (((w.alloc (.cells u.cells.toArray 39)).alloc (.cells e.cells.toArray 33)).alloc (.cells StrA.zero.cells.toArray 39))
  generalize (((w.alloc (.cells u.cells.toArray 39)).alloc (.cells e.cells.toArray 33)).alloc (.cells StrA.zero.cells.toArray 39)) = W0 at bx0 be0 bz0 hb0 hs0 ⊢
  have BX0 := Lib.hid bx0
  have BE0 := Lib.hid be0
  have BZ0 := Lib.hid bz0
  have HB0 := Lib.hid hb0
  clear bx0 be0 bz0 hb0
  go_upto_region 7 with (first
    | (refine ld_evnet BE0.out rfl _ rfl rfl ?_)
    | (go_at_call 23; (with_reducible refine (CV.out _ HB0.out).mono ?_); rintro e1 w1 ⟨rfl, hb1⟩; have bx1 := BX0.out.keep hb1; have be1 := BE0.out.keep hb1; have bz1 := BZ0.out.keep hb1; have hw1 := below_then HB0.out hb1; have hs1 := hb1.size; obtain ⟨⟨a1, a2, a3, a4⟩, ⟨a5, a6, a7, a8⟩, a9, a10, a11, a12⟩ := bx1.net; obtain ⟨r1, r2, r3, r4, r5⟩ := bx1.rest; obtain ⟨v1, v2, ⟨v3, v4, v5, v6⟩, v7, v8⟩ := be1.c))
  have BX1 := Lib.hid bx1
  have BE1 := Lib.hid be1
  have BZ1 := Lib.hid bz1
  have HW1 := Lib.hid hw1
  have HS1 : Hid (w.heap.size + 3 ≤ w1.heap.size) := by show _ ≤ _; omega
  clear bx1 be1 bz1 hw1 hb1 hs1 a1 a2 a3 a4 a5 a6 a7 a8 a9 a10 a11 a12 r1 r2 r3 r4 r5 v1 v2 v3 v4 v5 v6 v7 v8 BX0 BE0 BZ0 HB0 hs0
  refine wp_region_grow3 11 (fun w2 => Below w1.heap.size w1 w2) (fun j x a b => Below a.heap.size a b ∧ chgG e n j x a b) (chgF w.heap.size w1.heap.size e n u.d.ev) (by kernel_rfl) (by kernel_rfl) (Below.drew (Below.refl _ _)) (fun _ _ a b h1 h2 => ⟨below_then h1 h2.1, fun i _ v => chgF_keep h2.1 i v⟩) ?_ ?_
  · refine ⟨?_, ?_, ?_, ?_, ?_, ?_, ?_, ?_, ?_, ?_, ?_, trivial⟩
    all_goals
      intro vs w2 hp hF hPr
      have bx := BX1.out.keep hp
      have be := BE1.out.keep hp
      have hww := below_then HW1.out hp
      have hsz := hp.size
      obtain ⟨r1, r2, r3, r4, r5⟩ := bx.rest
      obtain ⟨v1, v2, ⟨v3, v4, v5, v6⟩, v7, v8⟩ := be.c
      rw [HN.out] at v7
      have BE := Lib.hid be
      have HWW := Lib.hid hww
      clear hp bx be hww
      simp [depsB, Region.binds, chgF] at hF
      simp [stL, depsB, Region.binds, Act.put, hF]
    all_goals try (go_wp2_with fail; exact ⟨rfl, Below.refl _ _, trivial⟩)
    · refine ld_evnet BE.out rfl _ rfl rfl ?_
      go_wp2_with fail
      exact ⟨rfl, Below.refl _ _, trivial⟩
    · go_wp2_with fail
      refine (CN.out _ HWW.out).mono ?_
      rintro e1 w3 ⟨NB, nb, XB, xb, rfl, hn1, ht1, hb3⟩
      go_wp2_with fail
      exact ⟨⟨NB, nb, XB, xb, rfl, hn1.base hsz, ht1⟩, ⟨NB, nb, XB, xb, rfl, hn1, ht1⟩⟩
    · refine mk_int rfl _ _ rfl w2.heap.size n rfl rfl rfl (by omega) (Nat.le_refl _) ?_
      intro w3 ho hb3
      go_wp2_with fail
      exact ⟨⟨_, rfl, ho.base hsz⟩, ⟨_, rfl, ho⟩⟩
    · have hPr := hPr 2 6 rfl rfl (by decide)
      obtain ⟨⟨NB, nb, XB, xb, e2, h1, h2⟩, ⟨p, e6, h3⟩, e8⟩ := hF
      have h0 := chg_prior hPr e2 e6
      rw [e6] at h3
      rw [e2, e6]
      have HN0 := Lib.hid h0
      have HN1 := Lib.hid h1
      have HN2 := Lib.hid h2
      have HN3 := Lib.hid h3
      clear h0 h1 h2 h3 hPr e2 e6
      unfold NetD.lst
      go_wp2_with fail
      refine ⟨⟨NB, nb, XB, xb, p, ?_, HN0.out, HN1.out, HN2.out, HN3.out⟩, Below.refl _ _, trivial⟩
      simp [StrA.v, StrA.cells, NetD.lst, NetD.zero, s0, s1, s2, s3, HN.out]
    · go_wp2_with fail
      refine ⟨⟨_, rfl, hsz, ?_⟩, (Below.refl _ _).alloc (Nat.le_refl _) _, trivial⟩
      rw [heap_alloc_new]
      rfl
  · rintro vs w2 hC hF -
    obtain ⟨NB, nb, XB, xb, p, e9, hx, hn2, ht2, ho2⟩ := hF 9 (by decide)
    obtain ⟨q, e10, hq, hq2⟩ := hF 10 (by decide)
    have bx := BX1.out.keep hC
    have be := BE1.out.keep hC
    have bz := BZ1.out.keep hC
    have bq := blk_box (b := 0) hq2
    have hww := below_then HW1.out hC
    have hs1 := HS1.out
    have hs2 := hC.size
    have hp := ho2.block
    obtain ⟨cp, hcp⟩ := own_type ho2
    have hpq : p ≠ q := (own_oth ho2).ne hq2 (.head _)
    have hnq := NetN.of hn2 ht2 hq2 (.head _) (fun hl a ha => (ht2.2 hl a ha).ne hq2 (.head _))
    have hnp := NetN.of hn2 ht2 hcp (.tail _ (.head _)) hx
    simp [stL, Act.put, e9, e10]
    generalize vs 0 = x0
    generalize vs 1 = x1
    generalize vs 2 = x2
    generalize vs 3 = x3
    generalize vs 4 = x4
    generalize vs 5 = x5
    generalize vs 6 = x6
    generalize vs 7 = x7
    generalize vs 8 = x8
    refine st_str bq rfl _ _ rfl rfl rfl ?_
    intro W3 bq3 pg3
    have bx3 := bx.away pg3 (by omega)
    have be3 := be.away pg3 (by omega)
    have bz3 := bz.away pg3 (by omega)
    have hw3 := put_facts hww (by omega) pg3
    have hn3 := hn2.awayN hnq pg3
    have hq3 := hnq.away hnq pg3
    have hp3 := hnp.away hnq pg3
    have ho3 := ho2.kept_at pg3 hpq
    have hs3 := pg3.size
    have hpl : w1.heap.size ≤ p := hp.1
    clear bx be bz bq hww hs2 hp hcp hnq hnp hn2 ht2 ho2 hx hF hC e9 e10 hq2
    obtain ⟨r1, r2, r3, r4, r5⟩ := bx3.rest
    obtain ⟨⟨a1, a2, a3, a4⟩, ⟨a5, a6, a7, a8⟩, a9, a10, a11, a12⟩ := bx3.net
    obtain ⟨v1, v2, ⟨v3, v4, v5, v6⟩, v7, v8⟩ := be3.c
    obtain ⟨z1, z2, z3, z4, z5⟩ := bq3.rest
    rw [HN.out] at v7
    rw [← HSST.out] at a9
    by_cases hqn : n = u.d.s.length
    focus
      subst hqn
      go_upto_region 10 with (first
        | (refine copy_full rfl _ _ rfl rfl rfl ho3 List.length_replicate (HUS.out.grow hw3) rfl ?_; intro W4 ho4 pg4))
      have bx4 := bx3.away pg4 (by omega)
      have be4 := be3.away pg4 (by omega)
      have bz4 := bz3.away pg4 (by omega)
      have bq4 := chgA_box (S' := u.d.s) (bq3.away pg4 hpq.symm) (by simp)
      have hw4 := put_facts hw3 (by omega) pg4
      have hn4 := hn3.awayN hp3 pg4
      have hq4 := hq3.away hp3 pg4
      have hs4 := pg4.size
      have HS : Hid (u.d.s = if e.net.st = u.d.net.st then u.d.s else List.replicate e.net.st.toNat 0) := by show _ = _; rw [if_pos (by rw [HN.out, HSST.out])]
    rotate_left
    focus
      have hqn' : ¬ (n : Int) = (u.d.s.length : Int) := by omega
      go_upto_region 10 with fail
      obtain ⟨W4, hW4⟩ : ∃ W4, W4 = W3 := ⟨_, rfl⟩
      rw [← hW4] at bx3 be3 bz3 bq3 hw3 hn3 hq3 ho3 hs3 ⊢
      clear hW4
      have bx4 := bx3
      have be4 := be3
      have bz4 := bz3
      have bq4 := bq3
      have hw4 := hw3
      have hn4 := hn3
      have hq4 := hq3
      have ho4 := ho3
      have hs4 := Nat.le_refl W4.heap.size
      have HS : Hid (List.replicate n 0 = if e.net.st = u.d.net.st then u.d.s else List.replicate e.net.st.toNat 0) := by show _ = _; rw [if_neg (by rw [HN.out, ← HSST.out]; exact hqn'), HN.out]; simp
      clear hqn'
    all_goals
      clear r1 r2 r3 r4 r5 a1 a2 a3 a4 a5 a6 a7 a8 a9 a10 a11 a12 v1 v2 v3 v4 v5 v6 v7 v8 z1 z2 z3 z4 z5 bx3 be3 bz3 bq3 hw3 hn3 hq3 ho3
      obtain ⟨r1, r2, r3, r4, r5⟩ := bx4.rest
      obtain ⟨⟨a1, a2, a3, a4⟩, ⟨a5, a6, a7, a8⟩, a9, a10, a11, a12⟩ := bx4.net
      obtain ⟨v1, v2, ⟨v3, v4, v5, v6⟩, v7, v8⟩ := be4.c
      obtain ⟨z1, z2, z3, z4, z5⟩ := bq4.rest
      by_cases hfd : 0 < e.fade
      · have BX4 := Lib.hid bx4
        have BQ4 := Lib.hid bq4
        have BZ4 := Lib.hid bz4
        have BE4 := Lib.hid be4
        have HW4 := Lib.hid hw4
        have HN4 := Lib.hid hn4
        have HQ4 := Lib.hid hq4
        have HO4 := Lib.hid ho4
        have hqs := bq4.1
        clear bx4 be4 bz4 bq4 hw4 hn4 hq4 ho4
        have hfd' : decide (0 < e.fade) = true := decide_eq_true hfd
        go_upto_region 13 with (first
          | (refine ld_net BX4.out rfl _ rfl rfl ?_)
          | (go_at_call 26; (with_reducible refine (CM.out _ HW4.out).mono ?_); rintro e5 w5 ⟨MB, mb, YB, yb, rfl, hm5, -, hb5⟩; have bx5 := BX4.out.keep hb5; have be5 := BE4.out.keep hb5; have bz5 := BZ4.out.keep hb5; have bq5 := BQ4.out.keep hb5; have hw5 := below_then HW4.out hb5; have hn5 := HN4.out.grow hb5; have hq5 := HQ4.out.keep hb5; have ho5 := HO4.out.grow hb5; have hs5 := hb5.size)
          | (refine st_old bq5 rfl _ _ rfl rfl rfl ?_; intro W6 bq6 pg6; have bx6 := bx5.away pg6 (by omega); have be6 := be5.away pg6 (by omega); have bz6 := bz5.away pg6 (by omega); have hw6 := put_facts hw5 (by omega) pg6; have hn6 := hn5.awayN hq5 pg6; have hq6 := hq5.away hq5 pg6; have ho6 := ho5.kept_at pg6 hpq; have hm6 := hm5.away pg6 (by omega); have hs6 := pg6.size; obtain ⟨r1, r2, r3, r4, r5⟩ := bx6.rest; obtain ⟨v1, v2, ⟨v3, v4, v5, v6⟩, v7, v8⟩ := be6.c; obtain ⟨z1, z2, z3, z4, z5⟩ := bq6.rest; have hfr6 := bq6.2.2; have hl6 := bq6.1)
          | (go_at_call 40; (with_reducible refine (CF.out _ hw6).mono ?_); rintro e7 w7 ⟨FB, fb, rfl, hf7, hb7⟩; have bx7 := bx6.keep hb7; have be7 := be6.keep hb7; have bz7 := bz6.keep hb7; have bq7 := bq6.keep hb7; have hw7 := below_then hw6 hb7; have hn7 := hn6.grow hb7; have hq7 := hq6.keep hb7; have ho7 := ho6.grow hb7; have hs7 := hb7.size; have hm7 := hm6.grow hb7; obtain ⟨r1, r2, r3, r4, r5⟩ := bx7.rest; obtain ⟨v1, v2, ⟨v3, v4, v5, v6⟩, v7, v8⟩ := be7.c; obtain ⟨z1, z2, z3, z4, z5⟩ := bq7.rest; have hfr7 := bq7.2.2; have hl7 := bq7.1; obtain ⟨bq8, pg8⟩ := bq7.setF FB u.d.s fb _ rfl; have bx8 := bx7.away pg8 (by omega); have be8 := be7.away pg8 (by omega); have bz8 := bz7.away pg8 (by omega); have hw8 := put_facts hw7 (by omega) pg8; have hn8 := hn7.awayN hq7 pg8; have hq8 := hq7.away hq7 pg8; have ho8 := ho7.kept_at pg8 hpq; have hm8 := hm7.away pg8 (by omega); have hs8 := pg8.size; have hf8 := hf7.away pg8 (by omega)))
        generalize (w7.setCell ⟨q, 25, none⟩ (.slice FB u.d.s.length fb)) = W8 at bq8 bx8 be8 bz8 hw8 hn8 hq8 ho8 hm8 hs8 hf8 ⊢
        clear r1 r2 r3 r4 r5 v1 v2 v3 v4 v5 v6 v7 v8 z1 z2 z3 z4 z5 hfr6 hfr7 hl6 hl7 bx5 be5 bz5 bq5 hw5 hn5 hq5 ho5 hm5 bx6 be6 bz6 bq6 hw6 hn6 hq6 ho6 hm6 bx7 be7 bz7 bq7 hw7 hn7 hq7 ho7 hm7 pg6 hf7
        have v8 := be8.c.2.2.2.2
        obtain ⟨z1, z2, z3, z4, z5⟩ := bq8.rest
        have hfr := bq8.2.2
        have hl := bq8.1
        have HBX := Lib.hid bx8
        have HBZ := Lib.hid bz8
        have HBQ := Lib.hid bq8
        have HW := Lib.hid hw8
        have HN8 := Lib.hid hn8
        have HQ8 := Lib.hid hq8
        have HO8 := Lib.hid ho8
        have HM8 := Lib.hid hm8
        have HF8 := Lib.hid hf8
        clear bx8 be8 bz8 bq8 hw8 hn8 hq8 ho8 hm8 hf8
        go_region
        obtain ⟨bq9, -⟩ := HBQ.out.setFade e.fade
        obtain ⟨bq10, -⟩ := bq9.setLeft e.fade
        have gr : W8.grownBy ((W8.setCell ⟨q, 26, none⟩ (.int .i64 e.fade)).setCell ⟨q, 27, none⟩ (.int .i64 e.fade)) (some q) := grown_set (grown_set (grown_refl W8 (some q)))
        have bz10 := HBZ.out.away gr (by omega)
        have hw10 := put_facts HW.out (by omega) gr
        have hn10 := HN8.out.awayN HQ8.out gr
        have ho10 := HO8.out.kept_at gr hpq
        have hm10 := HM8.out.away gr (by omega)
        have hf10 := HF8.out.away gr (by omega)
        have hd := drew_below ((W8.setCell ⟨q, 26, none⟩ (.int .i64 e.fade)).setCell ⟨q, 27, none⟩ (.int .i64 e.fade))
        have bq11 := bq10.keep hd
        have bz11 := bz10.keep hd
        have hw11 := below_then hw10 hd
        have hn11 := hn10.grow hd
        have ho11 := ho10.grow hd
        have hm11 := hm10.grow hd
        have hf11 := hf10.grow hd
        clear hd gr bq9 bq10 bz10 hw10 hn10 ho10 hm10 hf10 z1 z2 z3 z4 z5 hfr hl v8 HBX HBZ HBQ HW HN8 HQ8 HO8 HM8 HF8
        generalize ((W8.setCell ⟨q, 26, none⟩ (.int .i64 e.fade)).setCell ⟨q, 27, none⟩ (.int .i64 e.fade)).drew = W11 at bq11 bz11 hw11 hn11 ho11 hm11 hf11 ⊢
        go_wp2_with (first
          | (refine ld_str bq11 rfl _ rfl rfl ?_)
          | (refine st_str bz11 rfl _ _ rfl rfl rfl ?_; intro W7 bz7 pg7; have hw7 := put_facts hw11 (by omega) pg7; have hn7 := hn11.away pg7 (by omega); have ho7 := ho11.kept_at pg7 (by omega); have hm7 := hm11.away pg7 (by omega); have hf7 := hf11.away pg7 (by omega)))
        have hres := res_str bz7
        refine bodyPost_ret (results_ct rfl _ _ _ rfl hres) rfl ?_
        refine ⟨_, rfl, ?_, ⟨hn7.base (by omega), hm7.base (by omega), (IntsF.own ho7).base (by omega), hf7.base (by omega), ?_, ?_⟩, hw7⟩
        · unfold StrD.chOk
          have h0 : 0 < e.fade := hfd
          rw [if_pos h0, if_pos h0, ← HS.out]
        · simp; omega
        · show u.d.s.length ≤ _; omega
      · have hfz : e.fade = 0 := by omega
        have hfd' : decide (0 < e.fade) = false := decide_eq_false hfd
        go_wp2_with (first
          | (refine ld_str bq4 rfl _ rfl rfl ?_)
          | (refine st_str bz4 rfl _ _ rfl rfl rfl ?_; intro W7 bz7 pg7; have hw7 := put_facts hw4 (by omega) pg7; have hn7 := hn4.away pg7 (by omega); have ho7 := ho4.kept_at pg7 (by omega)))
        have hres := res_str bz7
        refine bodyPost_ret (results_ct rfl _ _ _ rfl hres) rfl ?_
        refine ⟨_, rfl, ?_, ⟨hn7.base (by omega), NetF.zero, (IntsF.own ho7).base (by omega), IntsF.nil, ?_, Nat.zero_le _⟩, hw7⟩
        · unfold StrD.chOk
          have h0 : ¬ 0 < e.fade := by omega
          rw [if_neg h0, if_neg h0, ← HS.out, hfz]
        · simp; omega
end Go.Proofs.Ytgabfdappeakiaa
