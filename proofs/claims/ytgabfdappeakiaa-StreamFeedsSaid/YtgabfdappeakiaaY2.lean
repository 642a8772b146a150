/- The walk of Play of package stream. -/
import Derived.Test.YtgabfdappeakiaaPd
import Derived.Test.YtgabfdappeakiaaTs
set_option linter.unusedVariables false
set_option linter.unusedSimpArgs false
namespace Go.Proofs.Ytgabfdappeakiaa
open Go.RowKit

/-- Events, one after the other: the first error; what is left; what comes out. -/
def playE : StrD → List EvA → Int
  | _, [] => 0
  | d, e :: l => if d.feedE e = 0 then playE (d.feedD e) l else d.feedE e
def playD : StrD → List EvA → StrD
  | d, [] => d
  | d, e :: l => playD (d.feedD e) l
def playO : StrD → List EvA → List Int
  | _, [] => []
  | d, e :: l => d.feedO e ++ playO (d.feedD e) l
/-- A slice of events that reads as es. -/
def EvsAt (w : World) (A : Option Addr) (es : List EvA) : Prop := ∀ (k : Nat) e, es[k]? = some e → ∃ ad, A = some ad ∧ ad.spot = none ∧ ad.block < w.heap.size ∧ w.rangeAt ad.block (ad.off + k * 15) e.cells ∧ EvAt w e
theorem EvsAt.nil {w : World} {A : Option Addr} : EvsAt w A [] := fun k e h => by simp at h
theorem range_keep {w w' : World} {b o : Nat} {cs : List Value} (h : w.rangeAt b o cs) (hb : b < w.heap.size) (hg : Below w.heap.size w w') : w'.rangeAt b o cs := fun j v hj => (hg.cell (p := ⟨b, o + j, none⟩) hb).trans (h j v hj)
theorem EvsAt.grow {w w' : World} {A : Option Addr} {es : List EvA} (h : EvsAt w A es) (hb : Below w.heap.size w w') : EvsAt w' A es := fun k e hk => by
  obtain ⟨ad, e1, e2, h1, h2, h3⟩ := h k e hk
  exact ⟨ad, e1, e2, Nat.lt_of_lt_of_le h1 hb.size, range_keep h2 h1 hb, h3.grow hb⟩
theorem add_none {a : Addr} (h : a.spot = none) (n : Nat) : a.add n = ⟨a.block, a.off + n, none⟩ := by
  obtain ⟨b, o, s⟩ := a
  have h : s = none := h
  subst h
  unfold Addr.add
  by_cases hn : n = 0
  · subst hn; rfl
  · rw [if_neg hn]
/-- A call of Play hands back. -/
def RetPlay (w : World) (D : StrD) (O : List Int) (E : Int) (e : Ending) (w' : World) : Prop := ∃ (u : StrA) (A : Option Addr) (c : Nat), e = .returned (.tuple #[.slice A O.length c, u.v, .int .i64 E]) ∧ u.d = D ∧ StrF w.heap.size w' u ∧ IntsF w.heap.size w' A O ∧ Below w.heap.size w w'
/-- The zero event. -/
def EvA.zero : EvA := ⟨0, 0, NetD.zero, [], none, none, none, 0, 0, 0⟩
theorem feedO_4096 {d : StrD} {e : EvA} (h : d.feedE e = 0) : (d.feedO e).length ≤ 4096 := by
  have h1 := feedO_small d e
  unfold StrD.feedO at h1 ⊢
  rw [if_pos h] at h1 ⊢
  by_cases hk : e.kind = 1
  · rw [if_pos hk] at h1 ⊢
    unfold StrD.feedE at h
    by_cases hg : d.Good
    · rw [if_pos hg, if_pos hk] at h
      unfold StrD.sampE at h
      by_cases hl : e.x.length ≤ 4096
      · omega
      · rw [if_neg hl] at h; exact absurd h (by decide)
    · rw [if_neg hg] at h; exact absurd h (by decide)
  · rw [if_neg hk]; exact Nat.zero_le _
/-- How far the events have been played. -/
structure Plays (d : StrD) (es : List EvA) (k : Nat) (dk : StrD) (out : List Int) : Prop where
  pe : playE d es = playE dk (es.drop k)
  pd : playD d es = playD dk (es.drop k)
  po : playO d es = out ++ playO dk (es.drop k)
  pn : out.length ≤ k * 4096
theorem Plays.start {d : StrD} {es : List EvA} : Plays d es 0 d [] := ⟨rfl, rfl, rfl, Nat.zero_le _⟩
theorem Plays.next {d : StrD} {es : List EvA} {k : Nat} {dk : StrD} {out : List Int} (h : Plays d es k dk out) {e : EvA} (he : es[k]? = some e) (h0 : dk.feedE e = 0) : Plays d es (k + 1) (dk.feedD e) (out ++ dk.feedO e) := by
  have hd : es.drop k = e :: es.drop (k + 1) := by
    obtain ⟨hk, h⟩ := List.getElem?_eq_some_iff.1 he
    rw [List.drop_eq_getElem_cons hk, h]
  obtain ⟨h1, h2, h3, h4⟩ := h
  rw [hd] at h1 h2 h3
  refine ⟨by rw [h1]; show (if _ then _ else _) = _; rw [if_pos h0], h2, by rw [h3]; show _ ++ (_ ++ _) = _; rw [List.append_assoc], ?_⟩
  rw [List.length_append]
  have := feedO_4096 h0
  omega
theorem Plays.stop {d : StrD} {es : List EvA} {k : Nat} {dk : StrD} {out : List Int} (h : Plays d es k dk out) {e : EvA} (he : es[k]? = some e) (h0 : dk.feedE e ≠ 0) : playE d es = dk.feedE e := by
  have hd : es.drop k = e :: es.drop (k + 1) := by
    obtain ⟨hk, h⟩ := List.getElem?_eq_some_iff.1 he
    rw [List.drop_eq_getElem_cons hk, h]
  rw [h.pe, hd]
  show (if _ then _ else _) = _
  rw [if_neg h0]
theorem Plays.done {d : StrD} {es : List EvA} {dk : StrD} {out : List Int} (h : Plays d es es.length dk out) : playE d es = 0 ∧ playD d es = dk ∧ playO d es = out := by
  obtain ⟨h1, h2, h3, h4⟩ := h
  rw [List.drop_length] at h1 h2 h3
  exact ⟨h1, h2, by rw [h3]; show out ++ [] = out; rw [List.append_nil]⟩
/-- What Play hands back. -/
def plD (d : StrD) (es : List EvA) : StrD := if playE d es = 0 then playD d es else StrD.zero
def plO (d : StrD) (es : List EvA) : List Int := if playE d es = 0 then playO d es else []
def plF (v : Value) (s : Value) : Nat → Value → World → Prop
  | 0, x, _ => x = v
  | 1, x, _ => x = s
  | 2, x, _ => x = v
  | _, _, _ => True
theorem plF_keep {v s : Value} {w w' : World} : ∀ i x, plF v s i x w → plF v s i x w'
  | 0, _, e => e | 1, _, e => e | 2, _, e => e | _ + 3, _, _ => trivial
theorem StrF.own {b : Nat} {r : Option Nat} {w w' : World} {u : StrA} (h : StrF b w u) (hg : w.grownBy w' r) (hr : ∀ q, r = some q → q < b) : StrF b w' u := by
  cases r with
  | none => exact h.grow ((Below.refl w.heap.size w).grown hg (Nat.le_refl _) (fun k e => by cases e))
  | some q => exact h.away hg (hr q rfl)
theorem ld_evA {ops : Array Oper} {rest : List Oper} {o : Oper} {a : Act} {Q : Exit → Act → World → Prop} {w : World} {e : EvA} {ad : Addr} {n : Nat} (hs : ad.spot = none) (hc : w.rangeAt ad.block (ad.off + n) e.cells) (hgd : o.guard = none) (x : Operand) (ho : o.op = .load 33 x) (hx : a.eval x = .pointer (some (ad.add n))) (h : wpList Try.prog ops Q rest (a.put o.dst e.v) w) : wpList Try.prog ops Q (o :: rest) a w := by
  obtain ⟨d, h1, h2⟩ := row_ev
  rw [add_none hs] at hx
  exact wpList_load_mid hgd _ x ho ad.block (ad.off + n) hx e.cells d hc h1 h2 size_ev h
theorem st_ev {ops : Array Oper} {rest : List Oper} {o : Oper} {a : Act} {Q : Exit → Act → World → Prop} {w : World} {e : EvA} {g : Nat} (hb : EvBox w g e) (hgd : o.guard = none) (x y : Operand) (ho : o.op = .store 33 x y) (hx : a.eval x = .pointer (some ⟨g, 0, none⟩)) {e' : EvA} (hy : a.eval y = e'.v)
    (h : ∀ W1, EvBox W1 g e' → w.grownBy W1 (some g) → wpList Try.prog ops Q rest (a.put o.dst undef) W1) : wpList Try.prog ops Q (o :: rest) a w :=
  wp_st hgd _ x y ho g 0 e'.cells hx hy size_ev rfl hb (by show 0 + 15 ≤ 15; omega) rfl h
set_option maxRecDepth 100000 in
set_option maxHeartbeats 8000000 in
theorem st_Play (n : NetD) (NA XA : Option Addr) (nc xc : Nat) (es : List EvA) (EA : Option Addr) (en ec : Nat) (w : World) (hn : NetAt w n NA XA) (hok : n.ok = true) (he : EvsAt w EA es) (hen : es.length = en) (hl : en ≤ 200) :
    Calls Try.prog 7 #[.agg (n.lst NA nc XA xc).toArray, .slice EA en ec] w (RetPlay w (plD (openD n) es) (plO (openD n) es) (playE (openD n) es)) := by
  have CO : Hid (∀ w1, Below w.heap.size w w1 → Calls Try.prog 12 #[.agg (n.lst NA nc XA xc).toArray] w1 (RetOpen w1 n)) := fun w1 hb => st_Open n NA XA nc xc w1 (hn.grow hb) hok
  have HEV := Lib.hid he
  have HEN := Lib.hid hen
  clear hn hok he hen
  have hl2 : (en : Int) ≤ 200 := by omega
  go_enter Try.func7, Try.ntmps7
  go_upto_region 1 with fail
  obtain ⟨bx0, bz0, hb0, hs0⟩ := entryN w n NA nc XA xc _ rfl
  change Code.wp _ _ _ _ ((w.alloc (.cells (n.lst NA nc XA xc).toArray 31)).alloc (.cells StrA.zero.cells.toArray 39))
  generalize ((w.alloc (.cells (n.lst NA nc XA xc).toArray 31)).alloc (.cells StrA.zero.cells.toArray 39)) = W0 at bx0 bz0 hb0 hs0 ⊢
  go_upto_region 2 with (first
    | ((with_reducible show wpList _ _ _ (Oper.mk _ (.load _ _) _ _ _ _ :: _) _ _); refine ld_netB bx0 rfl rfl _ rfl rfl ?_)
    | (go_at_call 12; (with_reducible refine (CO.out _ hb0).mono ?_); rintro e1 w1 ⟨u1, rfl, hd1, hf1, hb1⟩)
    | ((with_reducible show wpList _ _ _ (Oper.mk _ (.store _ _ _) _ _ _ _ :: _) _ _); refine st_str (w := w1.alloc (.cells StrA.zero.cells.toArray 39)) (g := w1.heap.size) (u := StrA.zero) (u' := u1) (Box.new rfl) rfl _ _ rfl rfl rfl ?_; intro W1 bg1 pg1))
  have hal1 := put_facts ((Below.refl w1.heap.size w1).alloc (Nat.le_refl _) (.cells StrA.zero.cells.toArray 39)) (Nat.le_refl _) pg1
  have HW1 := Lib.hid (below_then hb0 (below_then hb1 hal1))
  have HZ1 := Lib.hid ((bz0.keep hb1).keep hal1)
  have HF1 := Lib.hid ((hf1.grow hal1).base (b' := w.heap.size + 2) hs0)
  have HD1 := Lib.hid hd1
  have HG1 := Lib.hid bg1
  have hgs : w.heap.size + 2 ≤ w1.heap.size := by have := hb1.size; omega
  generalize w1.heap.size = g at HG1 hgs ⊢
  clear bx0 bz0 hb0 hs0 hb1 hf1 hd1 bg1 hal1 pg1
  go_wp2_with fail
  go_loopw [9, 30] (fun v i wr => ∃ (k : Nat) (dk : StrD) (uk : StrA) (out : List Int), k ≤ en ∧ i = .int .i64 k ∧ Hid (Plays (openD n) es k dk out) ∧ Hid (uk.d = dk) ∧ Hid (Own (g + 1) wr v out) ∧ Hid (StrBox wr g uk) ∧ Hid (StrF (w.heap.size + 2) wr uk) ∧ Hid (StrBox wr (w.heap.size + 1) StrA.zero) ∧ Hid (Below w.heap.size w wr)) (fun _ i _ => en - (intOf i).toNat)
  case atStart => exact ⟨0, openD n, u1, [], Nat.zero_le _, rfl, Plays.start, HD1, Own.nil, HG1, HF1, HZ1, HW1⟩
  case round =>
    obtain ⟨k, dk, uk, out, hk, rfl, HP, HD, HO, HG, HF, HZ, HB⟩ := hrel
    have hgl : g < wr.heap.size := HG.out.1
    by_cases hlt : ¬ k < en
    · obtain rfl : k = en := by omega
      have hlo3 : ¬ (k : Int) < (k : Int) := by omega
      obtain ⟨A, c, ev, -, hi⟩ := HO.out.form
      have HOO := HO.out
      rw [ev] at HOO
      have HIF := Lib.hid ((IntsF.own HOO).base (b' := w.heap.size + 2) (by omega))
      subst ev
      clear hi HOO
      go_upto_region 16 with fail
      refine wp_region_grow 3 (fun w2 => Below wr.heap.size wr w2) (fun a b => Below a.heap.size a b) (plF (.slice A out.length c) uk.v) (by kernel_rfl) (by kernel_rfl) (Below.drew (Below.refl _ _)) (fun a b h1 h2 => ⟨below_then h1 h2, fun i _ v => plF_keep i v⟩) ?_ ?_
      · refine ⟨?_, ?_, ?_, trivial⟩
        all_goals
          intro vs w2 hp hF
          have BG := Lib.hid (HG.out.keep hp)
          clear hp
          simp [depsB, Region.binds, plF] at hF
          simp [stL, depsB, Region.binds, Act.put, hF]
        · go_wp2_with fail
          exact ⟨rfl, Below.refl _ _⟩
        · refine ld_str BG.out rfl _ rfl rfl ?_
          go_wp2_with fail
          exact ⟨rfl, Below.refl _ _⟩
        · go_wp2_with fail
          exact ⟨rfl, Below.refl _ _⟩
      intro vs w2 hp hF
      have e0 := hF 0 (by decide)
      have e1 := hF 1 (by decide)
      have e2 := hF 2 (by decide)
      simp only [plF] at e0 e1 e2
      have bz2 := HZ.out.keep hp
      have hw2 := below_then HB.out hp
      have hs2 := hp.size
      simp [stL, Act.put, e0, e1, e2]
      refine st_str bz2 (u' := uk) rfl _ _ rfl rfl rfl ?_
      intro W3 bz3 pg3
      go_wp2_with fail
      have hres := res_str bz3
      refine bodyPost_ret (results_tct rfl _ _ _ rfl hres) rfl ?_
      have hpl := HP.out
      rw [← HEN.out] at hpl
      obtain ⟨q1, q2, q3⟩ := hpl.done
      refine ⟨uk, A, c, ?_, ?_, ((HF.out.grow hp).away pg3 (by omega)).base (by omega), ?_, put_facts hw2 (by omega) pg3⟩
      · unfold plO
        rw [q1, if_pos rfl, q3]; rfl
      · unfold plD
        rw [if_pos q1, q2]; exact HD.out
      · unfold plO
        rw [if_pos q1, q3]
        exact ((HIF.out.grow hp).away pg3 (by omega)).base (by omega)
    · have hlt := Classical.not_not.1 hlt
      obtain ⟨ek, hek⟩ : ∃ e, es[k]? = some e := ⟨_, List.getElem?_eq_getElem (by rw [HEN.out]; exact hlt)⟩
      obtain ⟨ad, rfl, hsp, hba, hr, hev⟩ := HEV.out k ek hek
      have HR := Lib.hid (range_keep hr hba HB.out)
      have HSP := Lib.hid hsp
      have q1 : (0 : Int) ≤ (k : Int) := by omega
      have q2 : (k : Int) < (en : Int) := by omega
      have CF0 : ∀ w2, Below wr.heap.size wr w2 → Calls Try.prog 14 #[uk.v, ek.v] w2 (RetFeed w2 (dk.feedD ek) (dk.feedO ek) (dk.feedE ek)) := fun w2 hb => by
        have := st_Feed uk ek w2 (HF.out.at.grow hb) (hev.grow (below_then HB.out hb))
        rw [HD.out] at this; exact this
      have HEK := Lib.hid hek
      obtain ⟨E, hE⟩ : ∃ E, dk.feedE ek = E := ⟨_, rfl⟩
      rw [hE] at CF0
      have CF := Lib.hid CF0
      have HE := Lib.hid hE
      clear hek hr hev hE CF0 hsp hba
      by_cases hE0 : E = 0
      · subst hE0
        go_upto_region 10 with (first
          | ((with_reducible show wpList _ _ _ (Oper.mk _ (.load _ _) _ _ _ _ :: _) _ _); refine ld_evA HSP.out HR.out rfl _ rfl rfl ?_)
          | ((with_reducible show wpList _ _ _ (Oper.mk _ (.store _ _ _) _ _ _ _ :: _) _ _); refine st_ev (w := wr.alloc (.cells EvA.zero.cells.toArray 33)) (g := wr.heap.size) (e := EvA.zero) (e' := ek) (Box.new rfl) rfl _ _ rfl rfl rfl ?_; intro W2 be2 pg2))
        have hal2 := put_facts ((Below.refl wr.heap.size wr).alloc (Nat.le_refl _) (.cells EvA.zero.cells.toArray 33)) (Nat.le_refl _) pg2
        have bg2 := HG.out.keep hal2
        go_upto_region 11 with (first
          | ((with_reducible show wpList _ _ _ (Oper.mk _ (.load _ _) _ _ _ _ :: _) _ _); first | (refine ld_str bg2 rfl _ rfl rfl ?_) | (refine ld_ev be2 rfl _ rfl rfl ?_))
          | (go_at_call 14; (with_reducible refine (CF.out _ hal2).mono ?_); rintro e3 w3 ⟨us, A, c, rfl, hd3, hf3, hi3, hb3⟩)
          | ((with_reducible show wpList _ _ _ (Oper.mk _ (.store _ _ _) _ _ _ _ :: _) _ _); refine st_str (w := w3.alloc (.cells StrA.zero.cells.toArray 39)) (g := w3.heap.size) (u := StrA.zero) (u' := us) (Box.new rfl) rfl _ _ rfl rfl rfl ?_; intro W4 bs4 pg4))
        have hal4 := put_facts ((Below.refl w3.heap.size w3).alloc (Nat.le_refl _) (.cells StrA.zero.cells.toArray 39)) (Nat.le_refl _) pg4
        have hb4 := below_then hal2 (below_then hb3 hal4)
        have bg4 := HG.out.keep hb4
        clear bg2 be2 pg2 pg4
        go_upto_region 14 with (first
          | ((with_reducible show wpList _ _ _ (Oper.mk _ (.load _ _) _ _ _ _ :: _) _ _); refine ld_str bs4 rfl _ rfl rfl ?_)
          | ((with_reducible show wpList _ _ _ (Oper.mk _ (.store _ _ _) _ _ _ _ :: _) _ _); refine st_str bg4 (u' := us) rfl _ _ rfl rfl rfl ?_; intro W5 bg5 pg5))
        have hO5 := own_away (HO.out.grow hb4) pg5 (Nat.lt_succ_self _)
        have hf5 := ((hf3.grow hal4).away pg5 (Nat.lt_of_lt_of_le hgl hal2.size)).base hal2.size
        have hi5 := ((hi3.grow hal4).away pg5 (Nat.lt_of_lt_of_le hgl hal2.size)).1
        have bz5 := (HZ.out.keep hb4).away pg5 (by omega)
        have hw5 := put_facts (below_then HB.out hb4) (by omega) pg5
        have hs5 : wr.heap.size ≤ W5.heap.size := Nat.le_trans hb4.size pg5.size
        have hob : ∀ q, u9.ownBlock = some q → g + 1 ≤ q ∧ q < wr.heap.size := fun q hq => HO.out.1.lt q hq
        have hlen : out.length + (dk.feedO ek).length ≤ 100000000 := by
          have h1 := HP.out.pn
          have h2 := feedO_4096 HE.out
          omega
        have HLEN := Lib.hid hlen
        have HOB := Lib.hid hob
        have HS5 := Lib.hid hs5
        clear hlen hob hs5
        go_upto_region 15 with (at_builtin; refine app_ints _ rfl _ _ rfl (g + 1) (v := u9) (l := out) (m := dk.feedO ek) (A := A) (c := c) rfl rfl hO5 hi5 HLEN.out (Nat.le_trans hgl HS5.out) ?_; intro v6 w6 ho6 hg6 hv6)
        go_wp2_with fail
        go_roundw
        case rel =>
          refine ⟨k + 1, dk.feedD ek, us, out ++ dk.feedO ek, by omega, by go_num, HP.out.next HEK.out HE.out, hd3, ho6, ?_, ?_, ?_, ?_⟩
          · exact Box.grown bg5 hg6 (fun e => by have := HOB.out g e.symm; omega)
          · exact (hf5.own hg6 (fun q hq => (HOB.out q hq).2)).base (by omega)
          · exact Box.grown bz5 hg6 (fun e => by have := HOB.out _ e.symm; omega)
          · exact hw5.grown hg6 hw5.size (fun q hq => by have := HOB.out q hq; omega)
        case measure => simp [intOf]; omega
      · go_upto_region 10 with (first
          | ((with_reducible show wpList _ _ _ (Oper.mk _ (.load _ _) _ _ _ _ :: _) _ _); refine ld_evA HSP.out HR.out rfl _ rfl rfl ?_)
          | ((with_reducible show wpList _ _ _ (Oper.mk _ (.store _ _ _) _ _ _ _ :: _) _ _); refine st_ev (w := wr.alloc (.cells EvA.zero.cells.toArray 33)) (g := wr.heap.size) (e := EvA.zero) (e' := ek) (Box.new rfl) rfl _ _ rfl rfl rfl ?_; intro W2 be2 pg2))
        have hal2 := put_facts ((Below.refl wr.heap.size wr).alloc (Nat.le_refl _) (.cells EvA.zero.cells.toArray 33)) (Nat.le_refl _) pg2
        have bg2 := HG.out.keep hal2
        go_upto_region 11 with (first
          | ((with_reducible show wpList _ _ _ (Oper.mk _ (.load _ _) _ _ _ _ :: _) _ _); first | (refine ld_str bg2 rfl _ rfl rfl ?_) | (refine ld_ev be2 rfl _ rfl rfl ?_))
          | (go_at_call 14; (with_reducible refine (CF.out _ hal2).mono ?_); rintro e3 w3 ⟨us, A, c, rfl, hd3, hf3, hi3, hb3⟩)
          | ((with_reducible show wpList _ _ _ (Oper.mk _ (.store _ _ _) _ _ _ _ :: _) _ _); refine st_str (w := w3.alloc (.cells StrA.zero.cells.toArray 39)) (g := w3.heap.size) (u := StrA.zero) (u' := us) (Box.new rfl) rfl _ _ rfl rfl rfl ?_; intro W4 bs4 pg4))
        have hal4 := put_facts ((Below.refl w3.heap.size w3).alloc (Nat.le_refl _) (.cells StrA.zero.cells.toArray 39)) (Nat.le_refl _) pg4
        have hb4 := below_then hal2 (below_then hb3 hal4)
        have bg4 := HG.out.keep hb4
        clear bg2 be2 pg2 pg4
        have bz4 := HZ.out.keep hb4
        have hw4 := below_then HB.out hb4
        go_wp2_with ((with_reducible show wpList _ _ _ (Oper.mk _ (.store _ _ _) _ _ _ _ :: _) _ _); refine st_str bz4 (u' := StrA.zero) rfl _ _ rfl rfl rfl ?_; intro W5 bz5 pg5)
        have hres := res_str bz5
        refine bodyPost_ret (results_tct rfl _ _ _ rfl hres) rfl ?_
        have hpe : playE (openD n) es = E := by rw [HP.out.stop HEK.out (by rw [HE.out]; exact hE0), HE.out]
        unfold plD plO
        rw [hpe, if_neg hE0, if_neg hE0]
        exact ⟨StrA.zero, none, 0, rfl, rfl, StrF.zero, IntsF.nil, put_facts hw4 (by omega) pg5⟩
end Go.Proofs.Ytgabfdappeakiaa
