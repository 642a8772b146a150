/- Feed of the reference of layer 42 over a block of samples. -/
import Derived.Test.YtgabfdappeakiaaPz
import Derived.Test.YtgabfdappeakiaaTl0
set_option linter.unusedVariables false
set_option linter.unusedSimpArgs false
namespace Go.Proofs.Ytgabfdappeakiaa
open Go.RowKit

theorem Box.keep2 {w w1 w2 : World} {g : Nat} {vs : List Value} {r : Option Nat} (h : Box w g vs) (hb : Below w.heap.size w w1) (hg : w1.grownBy w2 r) (hn : ∀ q, r = some q → q ≠ g) : Box w2 g vs :=
  (h.keep hb).grown hg (fun e => hn g e.symm rfl)
theorem EvBox.keep2 {w w1 w2 : World} {g : Nat} {e : EvA} {r : Option Nat} (h : EvBox w g e) (hb : Below w.heap.size w w1) (hg : w1.grownBy w2 r) (hn : ∀ q, r = some q → q ≠ g) : EvBox w2 g e := Box.keep2 h hb hg hn
theorem StrBox.keep2 {w w1 w2 : World} {g : Nat} {u : StrA} {r : Option Nat} (h : StrBox w g u) (hb : Below w.heap.size w w1) (hg : w1.grownBy w2 r) (hn : ∀ q, r = some q → q ≠ g) : StrBox w2 g u := Box.keep2 h hb hg hn
theorem IntsV.st {b g : Nat} {v : Value} {w w' : World} {A : Option Addr} {l : List Int} (h : IntsV b g v w A l) (hg : w.grownBy w' (some g)) : IntsV b g v w' A l := ⟨h.away hg, h.2⟩
/-- The row does not lie in block q. -/
def NQ (q : Nat) (A : Option Addr) (l : List Int) : Prop := l ≠ [] → ∀ a, A = some a → a.block ≠ q
/-- The row is the one that was there, or it lies in blocks from b on. -/
def Srcs (b : Nat) (A0 : Option Addr) (l0 : List Int) (A : Option Addr) (l : List Int) : Prop := (A = A0 ∧ l = l0) ∨ (l ≠ [] → ∀ a, A = some a → b ≤ a.block)
theorem Srcs.same {b : Nat} {A : Option Addr} {l : List Int} : Hid (Srcs b A l A l) := Lib.hid (Or.inl ⟨rfl, rfl⟩)
theorem Srcs.fresh {b : Nat} {A0 A : Option Addr} {l0 l : List Int} (h : l ≠ [] → ∀ a, A = some a → b ≤ a.block) : Hid (Srcs b A0 l0 A l) := Lib.hid (Or.inr h)
theorem Srcs.nq {w : World} {b q : Nat} {A0 A : Option Addr} {l0 l : List Int} (h : Srcs b A0 l0 A l) (hi : Ints w A0 l0) (hq : w.heap.size ≤ q) (hb : q < b) : NQ q A l := by
  rcases h with ⟨rfl, rfl⟩ | h
  · exact fun hl a ha => by have := ints_block hi hl ha; omega
  · exact fun hl a ha => by have := h hl a ha; omega
/-- The blocks from b on are as they were. -/
def Chg (b : Nat) (w w' : World) : Prop := w.heap.size ≤ w'.heap.size ∧ ∀ k, b ≤ k → k < w.heap.size → w'.heap[k]? = w.heap[k]?
theorem Chg.grown {b q : Nat} {w w' : World} (hg : w.grownBy w' (some q)) (hq : q < b) : Chg b w w' := ⟨hg.size, fun k h1 h2 => hg.block k h2 (by intro e; injection e with e; omega)⟩
theorem Chg.base {b b' : Nat} {w w' : World} (h : Chg b w w') (hb : b ≤ b') : Chg b' w w' := ⟨h.1, fun k h1 h2 => h.2 k (Nat.le_trans hb h1) h2⟩
theorem ints_chg {b : Nat} {w w' : World} {A : Option Addr} {l : List Int} (h : Ints w A l) (hn : l ≠ [] → ∀ a, A = some a → b ≤ a.block) (hc : Chg b w w') : Ints w' A l := by
  refine ⟨fun k v hk => ?_, h.2⟩
  obtain ⟨ad, e, h1, h2⟩ := h.1 k v hk
  have hl : l ≠ [] := by rintro rfl; simp at hk
  have := hn hl ad e
  exact ⟨ad, e, Nat.lt_of_lt_of_le h1 hc.1, (World.cell?_of_block (by rw [block_add]; exact hc.2 _ this h1)).trans h2⟩
theorem IntsF.chg {b b' : Nat} {w w' : World} {A : Option Addr} {l : List Int} (h : IntsF b' w A l) (hc : Chg b w w') (hb : b ≤ b') : Ints w' A l := ints_chg h.1 (fun hl a ha => Nat.le_trans hb (h.2 hl a ha)) hc
theorem Srcs.mov {w w' : World} {b : Nat} {A0 A : Option Addr} {l0 l : List Int} (h : Srcs b A0 l0 A l) (hi : Ints w' A0 l0) (hc : Chg b w w') (hA : Ints w A l) : Ints w' A l := by
  rcases h with ⟨rfl, rfl⟩ | h
  · exact hi
  · exact ints_chg hA h hc
/-- What was handed back outlives changes of older blocks that the arguments outlive. -/
def Mov (w w' : World) (u0 : StrA) (e0 : EvA) (u : StrA) : Prop := ∀ w'', Chg w.heap.size w' w'' → StrAt w'' u0 → EvAt w'' e0 → StrAt w'' u
/-- As RetFeedR, with this. -/
def RetFeedM (w : World) (u0 : StrA) (e0 : EvA) (d : StrD) (l : List Int) (E : Int) (e : Ending) (w' : World) : Prop := ∃ (u : StrA) (A : Option Addr) (c : Nat), e = .returned (.tuple #[u.v, .slice A l.length c, .int .i64 E]) ∧ u.d = d ∧ Mov w w' u0 e0 u ∧ StrAt w' u ∧ IntsF w.heap.size w' A l ∧ Below w.heap.size w w'
theorem StrAt.of_zero {w : World} {u : StrA} (h : u.d = StrD.zero) : StrAt w u := by
  obtain ⟨d, NA, XA, MA, YA, SA, FA, nc, xc, mc, yc, sc, fc⟩ := u
  subst h
  exact ⟨NetAt.zero, NetAt.zero, Ints.nil, Ints.nil, Nat.zero_le _, Nat.zero_le _⟩
/-- What a step hands back. -/
def IsTup (b : Nat) (w : World) (fo : List Int) (Y : Int) (v : Value) : Prop := ∃ A c o, v = .tuple #[.slice A fo.length c, .int .i64 Y, .bool o, .int .i64 0] ∧ IntsF b w A fo
def IsRow (b : Nat) (w : World) (fo : List Int) (v : Value) : Prop := ∃ A c, v = .slice A fo.length c ∧ IntsF b w A fo
/-- The values of the region with the step of a network. -/
def stpF (R o1 o2 : Nat) (nv sv xv : Value) (ad : Addr) (j : Nat) (y : Int) (b : Nat) (fo : List Int) (Y : Int) : Nat → Value → World → Prop
  | 0, v, _ => v = .pointer (some ⟨R, o1, none⟩)
  | 1, v, _ => v = nv
  | 2, v, _ => v = .pointer (some ⟨R, o2, none⟩)
  | 3, v, _ => v = sv
  | 4, v, _ => v = .pointer (some ⟨R + 1, 1, none⟩)
  | 5, v, _ => v = xv
  | 6, v, _ => v = .int .i64 j
  | 7, v, _ => v = .pointer (some ad)
  | 8, v, _ => v = .int .i64 y
  | 9, v, w => IsTup b w fo Y v
  | 10, v, w => IsTup b w fo Y v
  | 11, v, w => IsRow b w fo v
  | 12, v, _ => v = .int .i64 Y
  | 15, v, w => IsRow b w fo v
  | 16, v, _ => v = .int .i64 Y
  | _, _, _ => True
theorem stpF_keep {R o1 o2 : Nat} {nv sv xv : Value} {ad : Addr} {j : Nat} {y : Int} {b : Nat} {fo : List Int} {Y : Int} {w w' : World} (h : Below w.heap.size w w') : ∀ i v, stpF R o1 o2 nv sv xv ad j y b fo Y i v w → stpF R o1 o2 nv sv xv ad j y b fo Y i v w'
  | 0, _, e => e | 1, _, e => e | 2, _, e => e | 3, _, e => e | 4, _, e => e | 5, _, e => e | 6, _, e => e | 7, _, e => e | 8, _, e => e | 12, _, e => e | 16, _, e => e
  | 9, _, ⟨A, c, o, e, hi⟩ => ⟨A, c, o, e, hi.grow h⟩
  | 10, _, ⟨A, c, o, e, hi⟩ => ⟨A, c, o, e, hi.grow h⟩
  | 11, _, ⟨A, c, e, hi⟩ => ⟨A, c, e, hi.grow h⟩
  | 15, _, ⟨A, c, e, hi⟩ => ⟨A, c, e, hi.grow h⟩
  | 13, _, _ => trivial | 14, _, _ => trivial | 17, _, _ => trivial | _ + 18, _, _ => trivial
set_option maxRecDepth 100000 in
set_option maxHeartbeats 16000000 in
theorem r42_Feed_sam (u : StrA) (e : EvA) (w : World) (hu : StrAt w u) (hg : u.d.Good) (he : EvAt w e) (hk : e.kind = 1) (hlong : e.x.length ≤ 4096) (hfit : u.d.net.fit e.x = true) :
    Calls Try.prog 15 #[u.v, e.v] w (RetFeedM w u e (u.d.bump.step e.x e.x.length) (u.d.outS e.x e.x.length) 0) := by
  have CV : Hid (∀ w1, Below w.heap.size w w1 → Calls Try.prog 30 #[u.v] w1 fun e1 w' => e1 = .returned (.bool true) ∧ Below w1.heap.size w1 w') := fun w1 hb => by
    have := r42_Valid u w1 (hu.grow hb)
    rw [decide_eq_true hg] at this; exact this
  obtain ⟨k, hkk⟩ : ∃ k, e.x.length = k := ⟨_, rfl⟩
  have HXN := Lib.hid hkk
  have CW : Hid (∀ w1, Below w.heap.size w w1 → Calls Try.prog 31 #[wordV u.d.net.d0 u.d.net.d1 u.d.net.d2 u.d.net.d3, .slice e.BA k e.bc] w1 fun e1 w' => e1 = .returned (.bool true) ∧ Below w1.heap.size w1 w') := fun w1 hb => by
    have := rf_Words u.d.net.d0 u.d.net.d1 u.d.net.d2 u.d.net.d3 e.BA e.x e.bc w1 he.n (he.x.grow hb)
    rw [show wordsB _ _ _ _ _ = true from hfit, hkk] at this; exact this
  have HK := Lib.hid hk
  have HU := Lib.hid hu
  have HG := Lib.hid hg
  have HFIT := Lib.hid hfit
  have HX := Lib.hid he.x
  have hev := hg.2.2.1
  have hlo : k ≤ 4096 := by omega
  have hlo2 : (k : Int) ≤ 4096 := by omega
  rw [hkk]
  clear hu hg he hk hlong hfit hkk
  go_enter Try.func15, Try.ntmps15
  go_upto_region 1 with fail
  obtain ⟨bx0, be0, bz0, hb0, hs0⟩ := entry3 w u e _ rfl
  change Code.wp _ _ _ _ (((w.alloc (.cells u.cells.toArray 39)).alloc (.cells e.cells.toArray 33)).alloc (.cells StrA.zero.cells.toArray 39))
  generalize (((w.alloc (.cells u.cells.toArray 39)).alloc (.cells e.cells.toArray 33)).alloc (.cells StrA.zero.cells.toArray 39)) = W0 at bx0 be0 bz0 hb0 hs0 ⊢
  have BX0 := Lib.hid bx0
  have BE0 := Lib.hid be0
  have BZ0 := Lib.hid bz0
  have HB0 := Lib.hid hb0
  clear bx0 be0 bz0 hb0
  go_upto_region 9 with (first
    | ((with_reducible show wpList _ _ _ (Oper.mk _ (.load _ _) _ _ _ _ :: _) _ _); refine ld_str BX0.out rfl _ rfl rfl ?_)
    | (go_at_call 30; (with_reducible refine (CV.out _ HB0.out).mono ?_); rintro e1 w1 ⟨rfl, hb1⟩; have bx1 := BX0.out.keep hb1; have be1 := BE0.out.keep hb1; have bz1 := BZ0.out.keep hb1; have hw1 := below_then HB0.out hb1; have hs1 := hb1.size; obtain ⟨⟨a1, a2, a3, a4⟩, ⟨a5, a6, a7, a8⟩, a9, a10, a11, a12⟩ := bx1.net; obtain ⟨r1, r2, r3, r4, r5⟩ := bx1.rest; obtain ⟨v1, v2, ⟨v3, v4, v5, v6⟩, v7, v8⟩ := be1.c; rw [HK.out] at v1; rw [HXN.out] at v2)
    | (go_at_call 31; (with_reducible refine (CW.out _ hw1).mono ?_); rintro e2 w2 ⟨rfl, hb2⟩; have bx2 := bx1.keep hb2; have be2 := be1.keep hb2; have bz2 := bz1.keep hb2; have hw2 := below_then hw1 hb2; have hs2 := hb2.size; obtain ⟨⟨a1, a2, a3, a4⟩, ⟨a5, a6, a7, a8⟩, a9, a10, a11, a12⟩ := bx2.net; obtain ⟨r1, r2, r3, r4, r5⟩ := bx2.rest; obtain ⟨v1, v2, ⟨v3, v4, v5, v6⟩, v7, v8⟩ := be2.c; rw [HK.out] at v1; rw [HXN.out] at v2; have hfr2 := bx2.2.2; have hl2 := bx2.1))
  go_upto_region 24 with fail
  obtain ⟨bx3, pg3⟩ := bx2.setEv (u.d.ev + 1)
  generalize (w2.setCell ⟨w.heap.size, 28, none⟩ (.int .i64 (u.d.ev + 1))) = W3 at bx3 pg3 ⊢
  have be3 := be2.away pg3 (by omega)
  have bz3 := bz2.away pg3 (by omega)
  have hw3 := put_facts hw2 (Nat.le_refl _) pg3
  have BX3 := Lib.hid bx3
  have BE3 := Lib.hid be3
  have BZ3 := Lib.hid bz3
  have HW3 := Lib.hid hw3
  have hs3 : w.heap.size + 3 ≤ W3.heap.size := Nat.le_trans hs0 (Nat.le_trans hs1 (Nat.le_trans hs2 pg3.size))
  clear bx3 be3 bz3 hw3 pg3 bx2 be2 bz2 hw2 bx1 be1 bz1 hw1 hb1 hb2 hs0 hs1 hs2 a1 a2 a3 a4 a5 a6 a7 a8 a9 a10 a11 a12 r1 r2 r3 r4 r5 v1 v2 v3 v4 v5 v6 v7 v8 hfr2 hl2 BX0 BE0 BZ0 HB0 CV CW
  go_wp2_with fail
  go_loopw [8, 9] (fun v i wr => ∃ (j : Nat) (uj : StrA), j ≤ k ∧ i = .int .i64 j ∧ Hid (Own (w.heap.size + 3) wr v (u.d.outS e.x j)) ∧ Hid (Midway 0 wr w.heap.size v u.d.bump e.x j u uj) ∧ Hid (Below w.heap.size w wr) ∧ Hid (EvBox wr (w.heap.size + 1) e) ∧ Hid (StrBox wr (w.heap.size + 2) StrA.zero) ∧ Hid (Srcs (w.heap.size + 3) u.SA u.d.s uj.SA uj.d.s) ∧ Hid (Srcs (w.heap.size + 3) u.FA u.d.f uj.FA uj.d.f)) (fun _ i _ => k - (intOf i).toNat)
  case atStart =>
    refine ⟨0, { u with d := u.d.bump }, Nat.zero_le _, rfl, Own.nil, ⟨?_, BX3.out, ⟨rfl, rfl⟩, fun _ => ⟨rfl, rfl⟩, ?_, ?_⟩, HW3.out, BE3.out, BZ3.out, Srcs.same, Srcs.same⟩
    · rw [step_bump, step_zero HG.out]; rfl
    · rw [stS_bump]
      exact IntsV.old (b := 0) ⟨HU.out.s, fun _ _ _ => Nat.zero_le _⟩ rfl HW3.out (fun q h => by simp [Value.ownBlock] at h)
    · rw [step_bump, step_zero HG.out]
      exact IntsV.old (b := 0) ⟨HU.out.f, fun _ _ _ => Nat.zero_le _⟩ rfl HW3.out (fun q h => by simp [Value.ownBlock] at h)
  case round =>
    obtain ⟨j, uj, hj, rfl, HO, HM, HB, HE, HZ, HNS, HNF⟩ := hrel
    have hsz : w.heap.size + 3 ≤ wr.heap.size := HZ.out.1
    have v2 := HE.out.c.2.1
    rw [HXN.out] at v2
    by_cases hlt : ¬ j < k
    · have hjk : j = k := by omega
      subst hjk
      have HJX : Hid (j ≤ e.x.length) := by show _ ≤ _; rw [HXN.out]; exact Nat.le_refl _
      have hlo3 : ¬ (j : Int) < (j : Int) := by omega
      clear HXN
      go_wp2_with (first
        | ((with_reducible show wpList _ _ _ (Oper.mk _ (.load _ _) _ _ _ _ :: _) _ _); refine ld_str HM.out.box rfl _ rfl rfl ?_)
        | ((with_reducible show wpList _ _ _ (Oper.mk _ (.store _ _ _) _ _ _ _ :: _) _ _); refine st_str HZ.out (u' := uj) rfl _ _ rfl rfl rfl ?_; intro W9 bz9 pg9; have hw9 := put_facts HB.out (by omega) pg9))
      have hres := res_str bz9
      refine bodyPost_ret (results_ctt rfl _ _ _ rfl hres) rfl ?_
      have hoo := own_away HO.out pg9 (by omega)
      obtain ⟨A, c, e12, -, -⟩ := hoo.form
      rw [e12] at hoo
      have hi := (IntsF.own hoo).base (b' := w.heap.size) (by omega)
      have hdd := HM.out.dd
      have hnet : uj.d.net = u.d.net := by rw [hdd]; exact step_net _ _ _
      have hss : uj.d.s = u.d.stS e.x j := by rw [hdd, step_s, stS_bump]
      have hlen : ∀ (n : NetD) (l : List Int), n.ok = true → n.state l = true → l.length ≤ 9223372036854775807 := fun n l h1 h2 => by
        obtain ⟨-, -, ⟨p1, p2⟩, -⟩ := netB_parts h1
        have := (state_iff.1 h2).1
        omega
      have hfin : ∀ (A : Option Addr) (l : List Int), Ints wr A l → NQ (w.heap.size + 2) A l → Ints W9 A l := fun A l h hn => ints_kept h pg9 (fun hl a ha e => by injection e with e; exact hn hl a ha e)
      have hSA : StrAt W9 uj := by
        refine ⟨?_, ?_, ?_, ?_, ?_, ?_⟩
        · rw [hnet, HM.out.n.1, HM.out.n.2]; exact HU.out.net.grow hw9
        · by_cases h : (j : Int) < u.d.left
          · rw [(HM.out.m h).1, (HM.out.m h).2, hdd, step_on (d := u.d.bump) h]; exact HU.out.old.grow hw9
          · rw [hdd, step_off (d := u.d.bump) h]; exact NetAt.zero
        · refine hfin _ _ ?_ (HNS.out.nq HU.out.s (by omega) (by omega))
          rw [hss]; have := HM.out.s.1; rw [stS_bump] at this; exact this
        · refine hfin _ _ ?_ (HNF.out.nq HU.out.f (by omega) (by omega))
          have := HM.out.f.1; rw [← hdd] at this; exact this
        · rw [hss]; exact hlen _ _ HG.out.1 (stS_state HG.out HFIT.out j HJX.out)
        · by_cases h : (j : Int) < u.d.left
          · rw [hdd, step_on (d := u.d.bump) h]; show (u.d.bump.stF e.x j).length ≤ _; rw [stF_bump]; exact hlen _ _ (good_old HG.out (by omega)).1 (stF_state HG.out (by omega) HFIT.out j HJX.out)
          · rw [hdd, step_off (d := u.d.bump) h]; exact Nat.zero_le _
      refine ⟨uj, A, c, by rw [← e12]; rfl, hdd, fun w'' hg hu2 he2 => ⟨?_, ?_, ?_, ?_, hSA.n1, hSA.n2⟩, hSA, hi, hw9⟩
      · rw [hnet, HM.out.n.1, HM.out.n.2]; exact hu2.net
      · by_cases h : (j : Int) < u.d.left
        · rw [(HM.out.m h).1, (HM.out.m h).2, hdd, step_on (d := u.d.bump) h]; exact hu2.old
        · rw [hdd, step_off (d := u.d.bump) h]; exact NetAt.zero
      · exact HNS.out.mov hu2.s (hg.base (by omega)) hSA.s
      · exact HNF.out.mov hu2.f (hg.base (by omega)) hSA.f
    · have hlt := Classical.not_not.1 hlt
      obtain ⟨ad, y, hBA, hba, hy, hcy, y1, y2⟩ := HX.out.at_ (k := j) (by rw [HXN.out]; exact hlt)
      rw [hBA] at v2
      have HYI : Hid (I64 (u.d.outY e.x j y)) := outY_i64 HG.out HFIT.out hy
      have HYS := Lib.hid (outS_succ (d := u.d) hy)
      have HYK := Lib.hid hy
      have HYF : Hid (fitsW u.d.net.d0 u.d.net.d1 u.d.net.d2 u.d.net.d3 y = true) := List.all_eq_true.1 HFIT.out _ (List.mem_of_getElem? hy)
      have q1 : (0 : Int) ≤ (j : Int) := by omega
      have q2 : (j : Int) < (k : Int) := by omega
      have HLN : Hid ((u.d.outS e.x j).length + 1 ≤ 100000000) := by show _ ≤ _; rw [outS_length j (by rw [HXN.out]; omega)]; omega
      have HVa : Hid (∀ w2, Below wr.heap.size wr w2 → w2.cell? ⟨w.heap.size + 1, 1, none⟩ = some (.slice (some ad) k e.bc)) := fun w2 h => (h.cell (by show w.heap.size + 1 < _; omega)).trans v2
      have HCa : Hid (∀ w2, Below wr.heap.size wr w2 → w2.cell? (ad.add j) = some (.int .i64 y)) := fun w2 h => ((below_then HB.out h).cell (by rw [block_add]; exact hba)).trans hcy
      have HCw : Hid (∀ w2, Below w.heap.size w w2 → w2.cell? (ad.add j) = some (.int .i64 y)) := fun w2 h => (h.cell (by rw [block_add]; exact hba)).trans hcy
      have hnet : uj.d.net = u.d.net := by rw [HM.out.dd]; exact step_net _ _ _
      have hss : uj.d.s = u.d.stS e.x j := by rw [HM.out.dd, step_s, stS_bump]
      obtain ⟨fo, hfo⟩ : ∃ fo, uj.d.net.follow uj.d.s y = fo := ⟨_, rfl⟩
      obtain ⟨Y, hY⟩ : ∃ Y, uj.d.net.outp uj.d.s y = Y := ⟨_, rfl⟩
      have CS : Hid (∀ w1, Below wr.heap.size wr w1 → Calls Try.prog 33 #[.agg uj.netL.toArray, .slice uj.SA uj.d.s.length uj.sc, .int .i64 y] w1 fun e1 w' => ∃ A c o, e1 = .returned (.tuple #[.slice A fo.length c, .int .i64 Y, .bool o, .int .i64 0]) ∧ IntsF w1.heap.size w' A fo ∧ Below w1.heap.size w1 w') := fun w1 hb => by
        have hn : NetAt w1 uj.d.net uj.NA uj.XA := by rw [hnet, HM.out.n.1, HM.out.n.2]; exact HU.out.net.grow (below_then HB.out hb)
        have hs : Ints w1 uj.SA uj.d.s := by rw [hss]; have := HM.out.s.1.grow hb; rw [stS_bump] at this; exact this
        have := r22_StepOk uj.d.net uj.NA uj.XA uj.SA uj.nc uj.xc uj.sc uj.d.s y w1 hn hs (by rw [hnet]; exact HG.out.1) (by rw [hnet, hss]; exact stS_state HG.out HFIT.out j (by rw [HXN.out]; omega)) (by rw [hnet]; exact HYF.out)
        rw [hfo, hY] at this; exact this
      have hcy1 : I64 y := ⟨y1, y2⟩
      have HBX := Lib.hid HM.out.box
      have HFO := Lib.hid hfo
      have HYY := Lib.hid hY
      have HNET := Lib.hid hnet
      have HSS := Lib.hid hss
      have hlw : w.heap.size < wr.heap.size := by omega
      have hxj : j + 1 ≤ e.x.length := by rw [HXN.out]; exact hlt
      have HXJ := Lib.hid hxj
      clear hy hBA hba hcy hnet hss hfo hY hxj hcy1 HXN
      by_cases hon : (j : Int) < u.d.left
      · have hl : 0 < uj.d.left := by rw [HM.out.dd, step_on (d := u.d.bump) hon]; show 0 < u.d.left - j; omega
        have HON : Hid ((j : Int) < u.d.bump.left) := hon
        have hdd := HM.out.dd
        rw [step_on (d := u.d.bump) hon] at hdd
        have hl0 : u.d.left ≠ 0 := by omega
        have ho : uj.d.old = u.d.old := by rw [hdd]; rfl
        have hff : uj.d.f = u.d.stF e.x j := by rw [hdd]; exact stF_bump _ _ _
        have hfd : uj.d.fade = u.d.fade := by rw [hdd]; rfl
        have hlf : uj.d.left = u.d.left - j := by rw [hdd]; rfl
        obtain ⟨g0, hgo⟩ : ∃ g0, uj.d.old.follow uj.d.f y = g0 := ⟨_, rfl⟩
        obtain ⟨Z, hZ⟩ : ∃ Z, uj.d.old.outp uj.d.f y = Z := ⟨_, rfl⟩
        have st1 : uj.d.net.state uj.d.s = true := by rw [HNET.out, HSS.out]; exact stS_state HG.out HFIT.out j (by have := HXJ.out; omega)
        have st2 : uj.d.old.state uj.d.f = true := by rw [ho, hff]; exact stF_state HG.out hl0 HFIT.out j (by have := HXJ.out; omega)
        have ok2 : uj.d.old.ok = true := by rw [ho]; exact (good_old HG.out hl0).1
        have fy2 : fitsW uj.d.old.d0 uj.d.old.d1 uj.d.old.d2 uj.d.old.d3 y = true := by rw [ho, same_fits (good_old HG.out hl0).2.1]; exact HYF.out
        have CO : Hid (∀ w1, wr.grownBy w1 (some w.heap.size) → Calls Try.prog 33 #[.agg uj.oldL.toArray, .slice uj.FA uj.d.f.length uj.fc, .int .i64 y] w1 fun e1 w' => ∃ A c o, e1 = .returned (.tuple #[.slice A g0.length c, .int .i64 Z, .bool o, .int .i64 0]) ∧ IntsF w1.heap.size w' A g0 ∧ Below w1.heap.size w1 w') := fun w1 hg => by
          have hn : NetAt w1 uj.d.old uj.MA uj.YA := by rw [ho, (HM.out.m hon).1, (HM.out.m hon).2]; exact HU.out.old.grow (put_facts HB.out (Nat.le_refl _) hg)
          have hs : Ints w1 uj.FA uj.d.f := by have := HM.out.f.away hg; rw [← HM.out.dd] at this; exact this
          have := r22_StepOk uj.d.old uj.MA uj.YA uj.FA uj.mc uj.yc uj.fc uj.d.f y w1 hn hs ok2 st2 fy2
          rw [hgo, hZ] at this; exact this
        have by1 := outp_23 (by rw [HNET.out]; exact HG.out.1 : uj.d.net.ok = true) st1 (by rw [HNET.out]; exact HYF.out)
        have bz1 := outp_23 ok2 st2 fy2
        rw [HYY.out] at by1
        rw [hZ] at bz1
        have hmx := (mix_ok HG.out HFIT.out HYK.out hon).1
        rw [← ho, ← hff, ← HNET.out, ← HSS.out, ← hlf, ← hfd, hZ, HYY.out] at hmx
        obtain ⟨V, hV⟩ : ∃ V, u.d.outY e.x j y = V := ⟨_, rfl⟩
        have hVV : mixV Z Y (uj.d.fade - uj.d.left + 1) uj.d.fade = V := by rw [← hV, outY_on hon, ← ho, ← hff, ← HNET.out, ← HSS.out, ← hlf, ← hfd, hZ, HYY.out]
        have HYO := Lib.hid hV
        rw [hV] at HYI HYS
        have hgl := HG.out.2.2.2
        have l1 : 1 ≤ uj.d.left ∧ uj.d.left ≤ uj.d.fade ∧ uj.d.fade ≤ 4096 := by rw [hfd, hlf]; omega
        have CM : Hid (∀ w1 s, s = uj.d.fade - uj.d.left + 1 → Calls Try.prog 34 #[.int .i64 Z, .int .i64 Y, .int .i64 s, .int .i64 uj.d.fade] w1 fun e w' => e = .returned (.tuple #[.int .i64 V, .int .i64 0]) ∧ Below w1.heap.size w1 w') := fun w1 s e => by
          subst e
          have := rf_Mix Z Y (uj.d.fade - uj.d.left + 1) uj.d.fade w1 ⟨by omega, by omega⟩ ⟨by omega, by omega⟩
          rw [hmx, hVV] at this; exact this
        have HGO := Lib.hid hgo
        obtain ⟨l1, l2, l3⟩ := l1
        clear hdd ho hff hfd hlf hgo hZ st1 st2 ok2 fy2 by1 bz1 hmx hV hVV hgl hl0 hon
        go_upto_region 28 with fail
        refine wp_region_grow 19 (fun w2 => Below wr.heap.size wr w2) (fun a b => Below a.heap.size a b) (stpF w.heap.size 0 24 (.agg uj.netL.toArray) (.slice uj.SA uj.d.s.length uj.sc) (.slice (some ad) k e.bc) (ad.add j) j y wr.heap.size fo Y) (by kernel_rfl) (by kernel_rfl) (Below.drew (Below.refl _ _)) (fun a b h1 h2 => ⟨below_then h1 h2, fun i _ v => stpF_keep h2 i v⟩) ?_ ?_
        · refine ⟨?_, ?_, ?_, ?_, ?_, ?_, ?_, ?_, ?_, ?_, ?_, ?_, ?_, ?_, ?_, ?_, ?_, ?_, ?_, trivial⟩
          all_goals
            intro vs w2 hp hF
            have bx := HBX.out.keep hp
            obtain ⟨r1, r2, r3, r4, r5⟩ := bx.rest
            have v2 := HVa.out w2 hp
            have hcy := HCa.out w2 hp
            have BX := Lib.hid bx
            have HP := Lib.hid hp
            clear hp bx
            simp [depsB, Region.binds, stpF] at hF
            simp [stL, depsB, Region.binds, Act.put, hF]
          all_goals try (go_wp2_with fail; exact ⟨rfl, Below.refl _ _⟩)
          · refine ld_net BX.out rfl _ rfl rfl ?_
            go_wp2_with fail
            exact ⟨rfl, Below.refl _ _⟩
          · go_wp2_with fail
            refine (CS.out _ HP.out).mono ?_
            rintro e1 w3 ⟨A, c, o, rfl, hi, hb3⟩
            go_wp2_with fail
            exact ⟨A, c, o, rfl, hi.base HP.out.size⟩
          · go_wp2_with fail
            exact ⟨hF, Below.refl _ _⟩
          · obtain ⟨A, c, o, e9, hi⟩ := hF
            rw [e9]
            go_wp2_with fail
            exact ⟨⟨A, c, rfl, hi⟩, Below.refl _ _⟩
          · obtain ⟨A, c, o, e9, hi⟩ := hF
            rw [e9]
            go_wp2_with fail
            exact ⟨rfl, Below.refl _ _⟩
          · obtain ⟨A, c, o, e9, hi⟩ := hF
            rw [e9]
            go_wp2_with fail
            exact ⟨trivial, Below.refl _ _⟩
          · obtain ⟨A, c, o, e9, hi⟩ := hF
            rw [e9]
            go_wp2_with fail
            exact ⟨trivial, Below.refl _ _⟩
          · go_wp2_with fail
            exact ⟨hF.1, Below.refl _ _⟩
          · go_wp2_with fail
            exact ⟨trivial, Below.refl _ _⟩
          · go_wp2_with fail
            exact ⟨trivial, Below.refl _ _⟩
        intro vs wa hpa hF
        obtain ⟨Aa, ca, e15, hia⟩ := hF 15 (by decide)
        have e16 : vs 16 = .int .i64 Y := hF 16 (by decide)
        simp [stL, Act.put, e15, e16]
        generalize vs 0 = xa0
        generalize vs 1 = xa1
        generalize vs 2 = xa2
        generalize vs 3 = xa3
        generalize vs 4 = xa4
        generalize vs 5 = xa5
        generalize vs 6 = xa6
        generalize vs 7 = xa7
        generalize vs 8 = xa8
        generalize vs 9 = xa9
        generalize vs 10 = xa10
        generalize vs 11 = xa11
        generalize vs 12 = xa12
        generalize vs 13 = xa13
        generalize vs 14 = xa14
        generalize vs 17 = xa17
        generalize vs 18 = xa18
        clear hF e15 e16
        have bxa := HBX.out.keep hpa
        obtain ⟨r1, r2, r3, r4, r5⟩ := bxa.rest
        have hfra := bxa.2.2
        have hla := bxa.1
        go_upto_region 30 with fail
        obtain ⟨bxb, pg2⟩ := bxa.setS Aa fo ca _ rfl
        generalize (wa.setCell ⟨w.heap.size, 24, none⟩ (.slice Aa fo.length ca)) = W2 at bxb pg2 ⊢
        have pgb := grown_via hpa pg2
        have hsb := hia.away pg2 hlw
        obtain ⟨r1, r2, r3, r4, r5⟩ := bxb.rest
        have HBXb := Lib.hid bxb
        have hw2 := pgb.size
        have HVb : Hid (∀ w2, Below W2.heap.size W2 w2 → w2.cell? ⟨w.heap.size + 1, 1, none⟩ = some (.slice (some ad) k e.bc)) := fun w2 h => (h.cell (by show w.heap.size + 1 < _; omega)).trans (pgb.cell (HVa.out wr (Below.refl _ _)) (by intro e; injection e with e; have : w.heap.size + 1 = w.heap.size := e; omega))
        have HCb : Hid (∀ w2, Below W2.heap.size W2 w2 → w2.cell? (ad.add j) = some (.int .i64 y)) := fun w2 h => HCw.out w2 (below_then (put_facts HB.out (Nat.le_refl _) pgb) h)
        have COb : Hid (∀ w1, Below W2.heap.size W2 w1 → Calls Try.prog 33 #[.agg uj.oldL.toArray, .slice uj.FA uj.d.f.length uj.fc, .int .i64 y] w1 fun e1 w' => ∃ A c o, e1 = .returned (.tuple #[.slice A g0.length c, .int .i64 Z, .bool o, .int .i64 0]) ∧ IntsF w1.heap.size w' A g0 ∧ Below w1.heap.size w1 w') := fun w1 h => CO.out w1 (grown_ext pgb h)
        clear bxa hfra hla bxb
        go_upto_region 31 with fail
        refine wp_region_grow 19 (fun w2 => Below W2.heap.size W2 w2) (fun a b => Below a.heap.size a b) (stpF w.heap.size 12 25 (.agg uj.oldL.toArray) (.slice uj.FA uj.d.f.length uj.fc) (.slice (some ad) k e.bc) (ad.add j) j y W2.heap.size g0 Z) (by kernel_rfl) (by kernel_rfl) (Below.drew (Below.refl _ _)) (fun a b h1 h2 => ⟨below_then h1 h2, fun i _ v => stpF_keep h2 i v⟩) ?_ ?_
        · refine ⟨?_, ?_, ?_, ?_, ?_, ?_, ?_, ?_, ?_, ?_, ?_, ?_, ?_, ?_, ?_, ?_, ?_, ?_, ?_, trivial⟩
          all_goals
            intro vs w2 hp hF
            have bx := HBXb.out.keep hp
            obtain ⟨r1, r2, r3, r4, r5⟩ := bx.rest
            have v2 := HVb.out w2 hp
            have hcy := HCb.out w2 hp
            have BX := Lib.hid bx
            have HP := Lib.hid hp
            clear hp bx
            simp [depsB, Region.binds, stpF] at hF
            simp [stL, depsB, Region.binds, Act.put, hF]
          all_goals try (go_wp2_with fail; exact ⟨rfl, Below.refl _ _⟩)
          · refine ld_old BX.out rfl _ rfl rfl ?_
            go_wp2_with fail
            exact ⟨rfl, Below.refl _ _⟩
          · go_wp2_with fail
            refine (COb.out _ HP.out).mono ?_
            rintro e1 w3 ⟨A, c, o, rfl, hi, hb3⟩
            go_wp2_with fail
            exact ⟨A, c, o, rfl, hi.base HP.out.size⟩
          · go_wp2_with fail
            exact ⟨hF, Below.refl _ _⟩
          · obtain ⟨A, c, o, e9, hi⟩ := hF
            rw [e9]
            go_wp2_with fail
            exact ⟨⟨A, c, rfl, hi⟩, Below.refl _ _⟩
          · obtain ⟨A, c, o, e9, hi⟩ := hF
            rw [e9]
            go_wp2_with fail
            exact ⟨rfl, Below.refl _ _⟩
          · obtain ⟨A, c, o, e9, hi⟩ := hF
            rw [e9]
            go_wp2_with fail
            exact ⟨trivial, Below.refl _ _⟩
          · obtain ⟨A, c, o, e9, hi⟩ := hF
            rw [e9]
            go_wp2_with fail
            exact ⟨trivial, Below.refl _ _⟩
          · go_wp2_with fail
            exact ⟨hF.1, Below.refl _ _⟩
          · go_wp2_with fail
            exact ⟨trivial, Below.refl _ _⟩
          · go_wp2_with fail
            exact ⟨trivial, Below.refl _ _⟩
        intro vs wb hpb hF
        obtain ⟨Ab, cb, e15, hib⟩ := hF 15 (by decide)
        have e16 : vs 16 = .int .i64 Z := hF 16 (by decide)
        simp [stL, Act.put, e15, e16]
        generalize vs 0 = xb0
        generalize vs 1 = xb1
        generalize vs 2 = xb2
        generalize vs 3 = xb3
        generalize vs 4 = xb4
        generalize vs 5 = xb5
        generalize vs 6 = xb6
        generalize vs 7 = xb7
        generalize vs 8 = xb8
        generalize vs 9 = xb9
        generalize vs 10 = xb10
        generalize vs 11 = xb11
        generalize vs 12 = xb12
        generalize vs 13 = xb13
        generalize vs 14 = xb14
        generalize vs 17 = xb17
        generalize vs 18 = xb18
        clear hF e15 e16
        have bxc := HBXb.out.keep hpb
        obtain ⟨r1, r2, r3, r4, r5⟩ := bxc.rest
        have hfra := bxc.2.2
        have hla := bxc.1
        go_upto_region 33 with fail
        obtain ⟨bxd, pgd⟩ := bxc.setF Ab g0 cb _ rfl
        generalize (wb.setCell ⟨w.heap.size, 25, none⟩ (.slice Ab g0.length cb)) = W3 at bxd pgd ⊢
        have pgd2 := grown_two pgb (grown_via hpb pgd)
        have hsd := (hsb.grow hpb).away pgd hlw
        have hfd := (hib.base hw2).away pgd hlw
        clear bxc hfra hla
        obtain ⟨r1, r2, r3, r4, r5⟩ := bxd.rest
        go_upto_region 34 with (go_at_call 34; (with_reducible refine (CM.out _ _ (by omega)).mono ?_); rintro e4 w4 ⟨rfl, hb4⟩; have bxe := bxd.keep hb4; obtain ⟨r1, r2, r3, r4, r5⟩ := bxe.rest; have hfra := bxe.2.2; have hla := bxe.1)
        go_upto_region 35 with fail
        obtain ⟨bxf, pgf⟩ := bxe.setLeft (uj.d.left - 1)
        generalize (w4.setCell ⟨w.heap.size, 27, none⟩ (.int .i64 (uj.d.left - 1))) = W5 at bxf pgf ⊢
        have pg5 := grown_two (grown_ext pgd2 hb4) pgf
        have hs5 := (hsd.grow hb4).away pgf hlw
        have hf5 := (hfd.grow hb4).away pgf hlw
        clear bxe hfra hla bxd
        obtain ⟨r1, r2, r3, r4, r5⟩ := bxf.rest
        by_cases hl1 : uj.d.left = 1
        · have HL1 := Lib.hid hl1
          rw [show uj.d.left - 1 = 0 by omega] at r4
          have hfra := bxf.2.2
          have hla := bxf.1
          obtain ⟨bxg, pgg⟩ := bxf.setFade 0
          clear hl1
          go_upto_region 37 with ((with_reducible show wpList _ _ _ (Oper.mk _ (.store _ _ _) _ _ _ _ :: _) _ _); refine st_old bxg (n := NetD.zero) (NB := none) (nb := 0) (XB := none) (xb := 0) rfl _ _ rfl rfl rfl ?_; intro W7 bx7 pg7; obtain ⟨r1, r2, r3, r4, r5⟩ := bx7.rest; have hf7 := bx7.2.2; have hl7 := bx7.1)
          obtain ⟨bx8, pgh⟩ := bx7.setF none [] 0 0 rfl
          generalize (W7.setCell ⟨w.heap.size, 25, none⟩ (.slice none 0 0)) = W8 at bx8 pgh ⊢
          have pg8 := grown_two (grown_two (grown_two pg5 pgg) pg7) pgh
          have hs8 := ((hs5.away pgg hlw).away pg7 hlw).away pgh hlw
          have hal8 := (Below.refl W8.heap.size W8).alloc (Nat.le_refl _) (.cells #[.int .i64 V] 3)
          have hO8 := (own_away HO.out pg8 (by omega)).grow hal8
          have hI8 := lit_one (w := W8) (t := 3) HYI.out
          have hbs8 : w.heap.size + 3 ≤ (W8.alloc (.cells #[.int .i64 V] 3)).heap.size := Nat.le_trans (Nat.le_trans hsz pg8.size) hal8.size
          go_wp2_with (at_builtin; refine app_ints _ rfl _ _ rfl (w.heap.size + 3) (l := u.d.outS e.x j) (m := [V]) (A := some ⟨W8.heap.size, 0, none⟩) (c := 1) rfl rfl hO8 hI8 HLN.out hbs8 ?_; intro v9 w9 ho9 hg9 hv9)
          obtain ⟨k1, k2, k3⟩ := midway_next (w0 := w) (q := w.heap.size + 2) (F := .int .i64 0) (b := 0) (d := u.d.bump) (v8 := v9) (w8 := w9) HYK.out HM.out (by rw [outS_bump]; exact HO.out) (by omega) (Nat.zero_le _) rfl HB.out (HZ.out.2.1 0) (by rw [← step_next (d := u.d.bump) HYK.out HON.out, ← HM.out.dd]; unfold StrD.fadeStep; rw [if_pos HL1.out, HFO.out]; show (⟨uj.d.net, NetD.zero, fo, [], 0, uj.d.left - 1, uj.d.ev⟩ : StrD) = _; rw [HL1.out]; rfl) (by exact ⟨rfl, rfl⟩) (by rw [← step_next (d := u.d.bump) HYK.out HON.out, ← HM.out.dd]; unfold StrD.fadeStep; rw [if_pos HL1.out]; exact fun h => absurd rfl h) bx8 (by rw [step_s, stS_succ (d := u.d.bump) HYK.out, stS_bump, ← HSS.out, show u.d.bump.net = uj.d.net from HNET.out.symm, HFO.out]; exact hs8) (by rw [← step_next (d := u.d.bump) HYK.out HON.out, ← HM.out.dd]; unfold StrD.fadeStep; rw [if_pos HL1.out]; exact IntsF.nil) pg8 (by rw [outY_bump, HYO.out]; exact hg9) (by rw [outY_bump, HYO.out]; exact hv9)
          go_roundw
          case rel =>
            refine ⟨j + 1, _, by omega, by go_num, by rw [HYS.out]; exact ho9, k1, k2, (HE.out.away pg8 (by omega)).keep2 hal8 hg9 (fun q hq => ?_), (HZ.out.away pg8 (by omega)).keep2 hal8 hg9 (fun q hq => ?_), Srcs.fresh fun hl a ha => ?_, Srcs.fresh fun hl a ha => ?_⟩
            · have := (hO8.ge q hq); omega
            · have := (hO8.ge q hq); omega
            · have := hs8.2 hl a ha; omega
            · exact absurd rfl hl
          case measure => simp [intOf]; omega
        · have HL1 : Hid (¬ uj.d.left = 1) := hl1
          have hl2 : ¬ uj.d.left - 1 = 0 := by omega
          go_upto_region 37 with fail
          obtain ⟨W8, hW8⟩ : ∃ W8, W8 = W5 := ⟨_, rfl⟩
          rw [← hW8] at bxf pgf pg5 hs5 hf5 ⊢
          clear hW8
          have bx8 := bxf
          have pg8 := pg5
          have hs8 := hs5
          have hf8 := hf5
          have hal8 := (Below.refl W8.heap.size W8).alloc (Nat.le_refl _) (.cells #[.int .i64 V] 3)
          have hO8 := (own_away HO.out pg8 (by omega)).grow hal8
          have hI8 := lit_one (w := W8) (t := 3) HYI.out
          have hbs8 : w.heap.size + 3 ≤ (W8.alloc (.cells #[.int .i64 V] 3)).heap.size := Nat.le_trans (Nat.le_trans hsz pg8.size) hal8.size
          go_wp2_with (at_builtin; refine app_ints _ rfl _ _ rfl (w.heap.size + 3) (l := u.d.outS e.x j) (m := [V]) (A := some ⟨W8.heap.size, 0, none⟩) (c := 1) rfl rfl hO8 hI8 HLN.out hbs8 ?_; intro v9 w9 ho9 hg9 hv9)
          obtain ⟨k1, k2, k3⟩ := midway_next (w0 := w) (q := w.heap.size + 2) (F := .int .i64 0) (b := 0) (d := u.d.bump) (v8 := v9) (w8 := w9) HYK.out HM.out (by rw [outS_bump]; exact HO.out) (by omega) (Nat.zero_le _) rfl HB.out (HZ.out.2.1 0) (by rw [← step_next (d := u.d.bump) HYK.out HON.out, ← HM.out.dd]; unfold StrD.fadeStep; rw [if_neg HL1.out, HFO.out, HGO.out]) (by exact ⟨rfl, rfl⟩) (by exact fun _ => ⟨rfl, rfl⟩) bx8 (by rw [step_s, stS_succ (d := u.d.bump) HYK.out, stS_bump, ← HSS.out, show u.d.bump.net = uj.d.net from HNET.out.symm, HFO.out]; exact hs8) (by rw [← step_next (d := u.d.bump) HYK.out HON.out, ← HM.out.dd]; unfold StrD.fadeStep; rw [if_neg HL1.out, HGO.out]; exact hf8) pg8 (by rw [outY_bump, HYO.out]; exact hg9) (by rw [outY_bump, HYO.out]; exact hv9)
          go_roundw
          case rel =>
            refine ⟨j + 1, _, by omega, by go_num, by rw [HYS.out]; exact ho9, k1, k2, (HE.out.away pg8 (by omega)).keep2 hal8 hg9 (fun q hq => ?_), (HZ.out.away pg8 (by omega)).keep2 hal8 hg9 (fun q hq => ?_), Srcs.fresh fun hl a ha => ?_, Srcs.fresh fun hl a ha => ?_⟩
            · have := (hO8.ge q hq); omega
            · have := (hO8.ge q hq); omega
            · have := hs8.2 hl a ha; omega
            · have := hf8.2 hl a ha; omega
          case measure => simp [intOf]; omega
      · have hl : uj.d.left = 0 := by rw [HM.out.dd, step_off (d := u.d.bump) hon]
        have hYO : Hid (u.d.outY e.x j y = Y) := by show _ = _; rw [outY_off hon, ← HSS.out, ← HNET.out]; exact HYY.out
        rw [hYO.out] at HYI HYS
        have HON1 : Hid (u.d.bump.left ≤ ((j + 1 : Nat) : Int)) := by show u.d.left ≤ _; push_cast; omega
        have HON : Hid (u.d.bump.left ≤ (j : Int)) := Int.not_lt.1 hon
        go_upto_region 28 with fail
        refine wp_region_grow 19 (fun w2 => Below wr.heap.size wr w2) (fun a b => Below a.heap.size a b) (stpF w.heap.size 0 24 (.agg uj.netL.toArray) (.slice uj.SA uj.d.s.length uj.sc) (.slice (some ad) k e.bc) (ad.add j) j y wr.heap.size fo Y) (by kernel_rfl) (by kernel_rfl) (Below.drew (Below.refl _ _)) (fun a b h1 h2 => ⟨below_then h1 h2, fun i _ v => stpF_keep h2 i v⟩) ?_ ?_
        · refine ⟨?_, ?_, ?_, ?_, ?_, ?_, ?_, ?_, ?_, ?_, ?_, ?_, ?_, ?_, ?_, ?_, ?_, ?_, ?_, trivial⟩
          all_goals
            intro vs w2 hp hF
            have bx := HBX.out.keep hp
            obtain ⟨r1, r2, r3, r4, r5⟩ := bx.rest
            have v2 := HVa.out w2 hp
            have hcy := HCa.out w2 hp
            have BX := Lib.hid bx
            have HP := Lib.hid hp
            clear hp bx
            simp [depsB, Region.binds, stpF] at hF
            simp [stL, depsB, Region.binds, Act.put, hF]
          all_goals try (go_wp2_with fail; exact ⟨rfl, Below.refl _ _⟩)
          · refine ld_net BX.out rfl _ rfl rfl ?_
            go_wp2_with fail
            exact ⟨rfl, Below.refl _ _⟩
          · go_wp2_with fail
            refine (CS.out _ HP.out).mono ?_
            rintro e1 w3 ⟨A, c, o, rfl, hi, hb3⟩
            go_wp2_with fail
            exact ⟨A, c, o, rfl, hi.base HP.out.size⟩
          · go_wp2_with fail
            exact ⟨hF, Below.refl _ _⟩
          · obtain ⟨A, c, o, e9, hi⟩ := hF
            rw [e9]
            go_wp2_with fail
            exact ⟨⟨A, c, rfl, hi⟩, Below.refl _ _⟩
          · obtain ⟨A, c, o, e9, hi⟩ := hF
            rw [e9]
            go_wp2_with fail
            exact ⟨rfl, Below.refl _ _⟩
          · obtain ⟨A, c, o, e9, hi⟩ := hF
            rw [e9]
            go_wp2_with fail
            exact ⟨trivial, Below.refl _ _⟩
          · obtain ⟨A, c, o, e9, hi⟩ := hF
            rw [e9]
            go_wp2_with fail
            exact ⟨trivial, Below.refl _ _⟩
          · go_wp2_with fail
            exact ⟨hF.1, Below.refl _ _⟩
          · go_wp2_with fail
            exact ⟨trivial, Below.refl _ _⟩
          · go_wp2_with fail
            exact ⟨trivial, Below.refl _ _⟩
        intro vs wa hpa hF
        obtain ⟨Aa, ca, e15, hia⟩ := hF 15 (by decide)
        have e16 : vs 16 = .int .i64 Y := hF 16 (by decide)
        simp [stL, Act.put, e15, e16]
        generalize vs 0 = xa0
        generalize vs 1 = xa1
        generalize vs 2 = xa2
        generalize vs 3 = xa3
        generalize vs 4 = xa4
        generalize vs 5 = xa5
        generalize vs 6 = xa6
        generalize vs 7 = xa7
        generalize vs 8 = xa8
        generalize vs 9 = xa9
        generalize vs 10 = xa10
        generalize vs 11 = xa11
        generalize vs 12 = xa12
        generalize vs 13 = xa13
        generalize vs 14 = xa14
        generalize vs 17 = xa17
        generalize vs 18 = xa18
        clear hF e15 e16
        have bxa := HBX.out.keep hpa
        obtain ⟨r1, r2, r3, r4, r5⟩ := bxa.rest
        have hfra := bxa.2.2
        have hla := bxa.1
        go_upto_region 30 with fail
        obtain ⟨bx8, pg2⟩ := bxa.setS Aa fo ca _ rfl
        generalize (wa.setCell ⟨w.heap.size, 24, none⟩ (.slice Aa fo.length ca)) = W8 at bx8 pg2 ⊢
        have pg8 := grown_via hpa pg2
        have hs8 := hia.away pg2 hlw
        obtain ⟨r1, r2, r3, r4, r5⟩ := bx8.rest
        rw [show uj.d.left = 0 from hl] at r4
        have hal8 := (Below.refl W8.heap.size W8).alloc (Nat.le_refl _) (.cells #[.int .i64 Y] 3)
        have hO8 := (own_away HO.out pg8 (by omega)).grow hal8
        have hI8 := lit_one (w := W8) (t := 3) HYI.out
        have hbs8 : w.heap.size + 3 ≤ (W8.alloc (.cells #[.int .i64 Y] 3)).heap.size := Nat.le_trans (Nat.le_trans hsz pg8.size) hal8.size
        clear bxa hfra hla
        go_wp2_with (at_builtin; refine app_ints _ rfl _ _ rfl (w.heap.size + 3) (l := u.d.outS e.x j) (m := [Y]) (A := some ⟨W8.heap.size, 0, none⟩) (c := 1) rfl rfl hO8 hI8 HLN.out hbs8 ?_; intro v9 w9 ho9 hg9 hv9)
        obtain ⟨k1, k2, k3⟩ := midway_next (w0 := w) (q := w.heap.size + 2) (F := .int .i64 0) (b := 0) (d := u.d.bump) (v8 := v9) (w8 := w9) HYK.out HM.out (by rw [outS_bump]; exact HO.out) (by omega) (Nat.zero_le _) rfl HB.out (HZ.out.2.1 0) (by rw [step_off (d := u.d.bump) (Int.not_lt.2 HON1.out), stS_succ (d := u.d.bump) HYK.out, stS_bump, ← HSS.out]; show (⟨uj.d.net, uj.d.old, fo, uj.d.f, uj.d.fade, uj.d.left, uj.d.ev⟩ : StrD) = _; have hdd := HM.out.dd; rw [step_off (d := u.d.bump) (Int.not_lt.2 HON.out)] at hdd; rw [show u.d.bump.net = uj.d.net from HNET.out.symm, HFO.out, show uj.d.old = NetD.zero by rw [hdd], show uj.d.f = [] by rw [hdd], show uj.d.fade = 0 by rw [hdd], hl, show uj.d.ev = u.d.bump.ev by rw [hdd]]) (by exact ⟨rfl, rfl⟩) (by rw [step_off (d := u.d.bump) (Int.not_lt.2 HON1.out)]; exact fun h => absurd rfl h) bx8 (by rw [step_s, stS_succ (d := u.d.bump) HYK.out, stS_bump, ← HSS.out, show u.d.bump.net = uj.d.net from HNET.out.symm, HFO.out]; exact hs8) (by rw [step_off (d := u.d.bump) (Int.not_lt.2 HON1.out)]; exact IntsF.nil) pg8 (by rw [outY_bump, hYO.out]; exact hg9) (by rw [outY_bump, hYO.out]; exact hv9)
        go_roundw
        case rel =>
          refine ⟨j + 1, _, by omega, by go_num, by rw [HYS.out]; exact ho9, k1, k2, (HE.out.away pg8 (by omega)).keep2 hal8 hg9 (fun q hq => ?_), (HZ.out.away pg8 (by omega)).keep2 hal8 hg9 (fun q hq => ?_), Srcs.fresh fun hl a ha => ?_, Srcs.fresh fun hl a ha => ?_⟩
          · have := (hO8.ge q hq); omega
          · have := (hO8.ge q hq); omega
          · have := hs8.2 hl a ha; omega
          · exact absurd (by rw [HM.out.dd, step_off (d := u.d.bump) (Int.not_lt.2 HON.out)] : uj.d.f = []) hl
        case measure => simp [intOf]; omega
end Go.Proofs.Ytgabfdappeakiaa
