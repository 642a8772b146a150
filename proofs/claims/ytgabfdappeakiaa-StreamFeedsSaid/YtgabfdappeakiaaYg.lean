/- Play of the reference of layer 42. -/
import Derived.Test.YtgabfdappeakiaaYf
set_option linter.unusedVariables false
set_option linter.unusedSimpArgs false
namespace Go.Proofs.Ytgabfdappeakiaa
open Go.RowKit

def RetPlayR (w : World) (D : StrD) (O : List Int) (E : Int) (e : Ending) (w' : World) : Prop := ∃ (u : StrA) (A : Option Addr) (c : Nat), e = .returned (.tuple #[.slice A O.length c, u.v, .int .i64 E]) ∧ u.d = D ∧ StrAt w' u ∧ Ints w' A O ∧ Below w.heap.size w w'
/-- What Feed hands back there. -/
def FedR (b : Nat) (uk : StrA) (ek : EvA) (D : StrD) (O : List Int) (E : Int) (w1 : World) (v : Value) (w2 : World) : Prop := (∃ (us : StrA) (A : Option Addr) (c : Nat), v = .tuple #[us.v, .slice A O.length c, .int .i64 E] ∧ us.d = D ∧ Mov w1 w2 uk ek us ∧ StrAt w2 us ∧ IntsF w1.heap.size w2 A O) ∧ b ≤ w1.heap.size ∧ Below w1.heap.size w1 w2
def rpF (B : World) (R : World → Value → World → Prop) (sv ev : Value) (EA : Option Addr) (en ec k : Nat) (p : Addr) : Nat → Value → World → Prop
  | 0, v, _ => v = sv | 1, v, _ => v = .slice EA en ec | 2, v, _ => v = .int .i64 k | 3, v, _ => v = .pointer (some p) | 4, v, _ => v = ev
  | 5, v, w => CallF B R v w ∧ Is3 v
  | 6, v, _ => Is3 v
  | 10, v, w => NewF B v w
  | _, _, _ => True
def rpG (R : World → Value → World → Prop) : Nat → Value → World → World → Prop
  | 5, v, a, b => R a v b
  | 10, v, a, _ => v = .pointer (some ⟨a.heap.size, 0, none⟩)
  | _, _, _, _ => True
theorem rpF_keep {B : World} {R : World → Value → World → Prop} {sv ev : Value} {EA : Option Addr} {en ec k : Nat} {p : Addr} {a b : World} (h : Below a.heap.size a b) : ∀ i v, rpF B R sv ev EA en ec k p i v a → rpF B R sv ev EA en ec k p i v b
  | 0, _, e => e | 1, _, e => e | 2, _, e => e | 3, _, e => e | 4, _, e => e | 6, _, e => e
  | 5, _, ⟨hc, h3⟩ => ⟨hc.keep h, h3⟩
  | 10, _, hn => NewF.keep hn h
  | 7, _, _ => trivial | 8, _, _ => trivial | 9, _, _ => trivial | _ + 11, _, _ => trivial
set_option maxRecDepth 100000 in
set_option maxHeartbeats 8000000 in
theorem r42_Play (n : NetD) (NA XA : Option Addr) (nc xc : Nat) (es : List EvA) (EA : Option Addr) (en ec : Nat) (w : World) (hn : NetAt w n NA XA) (hok : n.ok = true) (he : EvsAt w EA es) (hen : es.length = en) (hl : en ≤ 200) :
    Calls Try.prog 8 #[.agg (n.lst NA nc XA xc).toArray, .slice EA en ec] w (RetPlayR w (plD (openD n) es) (plO (openD n) es) (playE (openD n) es)) := by
  have CO : Hid (∀ w1, Below w.heap.size w w1 → Calls Try.prog 13 #[.agg (n.lst NA nc XA xc).toArray] w1 (RetOpenR w1 n NA nc XA xc)) := fun w1 hb => r42_Open n NA XA nc xc w1 (hn.grow hb) hok
  have HEV := Lib.hid he
  have HEN := Lib.hid hen
  have HN := Lib.hid hn
  obtain ⟨-, -, ⟨p2, p3⟩, -⟩ := netB_parts hok
  have HST : Hid (n.st ≤ 64) := p3
  clear hn hok he hen p2 p3
  have hl2 : (en : Int) ≤ 200 := by omega
  go_enter Try.func8, Try.ntmps8
  go_upto_region 1 with fail
  obtain ⟨bx0, bz0, hb0, hs0⟩ := entryN w n NA nc XA xc _ rfl
  change Code.wp _ _ _ _ ((w.alloc (.cells (n.lst NA nc XA xc).toArray 31)).alloc (.cells StrA.zero.cells.toArray 39))
  generalize ((w.alloc (.cells (n.lst NA nc XA xc).toArray 31)).alloc (.cells StrA.zero.cells.toArray 39)) = W0 at bx0 bz0 hb0 hs0 ⊢
  go_upto_region 2 with (first
    | ((with_reducible show wpList _ _ _ (Oper.mk _ (.load _ _) _ _ _ _ :: _) _ _); refine ld_netB bx0 rfl rfl _ rfl rfl ?_)
    | (go_at_call 13; (with_reducible refine (CO.out _ hb0).mono ?_); rintro e1 w1 ⟨OA, oc, rfl, ho1, hb1⟩)
    | ((with_reducible show wpList _ _ _ (Oper.mk _ (.store _ _ _) _ _ _ _ :: _) _ _); refine st_str (w := w1.alloc (.cells StrA.zero.cells.toArray 39)) (g := w1.heap.size) (u := StrA.zero) (u' := openA n NA nc XA xc OA oc) (Box.new rfl) rfl _ _ rfl rfl rfl ?_; intro W1 bg1 pg1))
  have hal1 := put_facts ((Below.refl w1.heap.size w1).alloc (Nat.le_refl _) (.cells StrA.zero.cells.toArray 39)) (Nat.le_refl _) pg1
  have HW1 := Lib.hid (below_then hb0 (below_then hb1 hal1))
  have HZ1 := Lib.hid ((bz0.keep hb1).keep hal1)
  have HG1 := Lib.hid bg1
  have hgs : w.heap.size + 2 ≤ w1.heap.size := by have := hb1.size; omega
  have HRB : Hid (Rob (fun k => k = w1.heap.size ∨ k = w.heap.size + 1) none W1 (openA n NA nc XA xc OA oc)) := fun w' hc => by
    have hb := ChgX.below (b := w.heap.size) (below_then hb0 (below_then hb1 hal1)) hc (Nat.le_refl _) (fun k hk => by omega) (fun q e => by cases e)
    refine openA_at (HN.out.grow hb) (intsX (ho1.grow hal1).1 hc fun hl a ha => ⟨?_, by intro e; cases e⟩) HST.out
    have h1 := ints_block ho1.1 hl ha
    have h2 := ho1.2 hl a ha
    omega
  generalize w1.heap.size = g at HG1 HRB hgs ⊢
  clear bx0 bz0 hb0 hs0 hb1 ho1 bg1 hal1 pg1
  go_wp2_with fail
  go_loopw [9, 10] (fun v i wr => ∃ (k : Nat) (dk : StrD) (uk : StrA) (out : List Int), k ≤ en ∧ i = .int .i64 k ∧ Hid (Plays (openD n) es k dk out) ∧ Hid (uk.d = dk) ∧ Hid (Own (g + 1) wr v out) ∧ Hid (StrBox wr g uk) ∧ Hid (Rob (fun k => k = g ∨ k = w.heap.size + 1) v.ownBlock wr uk) ∧ Hid (StrBox wr (w.heap.size + 1) StrA.zero) ∧ Hid (Below w.heap.size w wr)) (fun _ i _ => en - (intOf i).toNat)
  case atStart => exact ⟨0, openD n, openA n NA nc XA xc OA oc, [], Nat.zero_le _, rfl, Plays.start, Lib.hid rfl, Own.nil, HG1, HRB, HZ1, HW1⟩
  case round =>
    obtain ⟨k, dk, uk, out, hk, rfl, HP, HD, HO, HG, HF, HZ, HB⟩ := hrel
    have hgl : g < wr.heap.size := HG.out.1
    by_cases hlt : ¬ k < en
    · obtain rfl : k = en := by omega
      have hlo3 : ¬ (k : Int) < (k : Int) := by omega
      have HOB : Hid (∀ q, u9.ownBlock = some q → g + 1 ≤ q ∧ q < wr.heap.size) := fun q hq => HO.out.1.lt q hq
      obtain ⟨A, c, ev, -, hi⟩ := HO.out.form
      have HOO := HO.out
      rw [ev] at HOO
      have HIF := Lib.hid ((IntsF.own HOO).base (b' := w.heap.size + 2) (by omega))
      subst ev
      clear hi HOO
      go_upto_region 14 with fail
      refine wp_region_grow 3 (fun w2 => Below wr.heap.size wr w2) (fun a b => Below a.heap.size a b) (plF (.slice A out.length c) uk.v) (by kernel_rfl) (by kernel_rfl) (Below.drew (Below.refl _ _)) (fun a b h1 h2 => ⟨below_then h1 h2, fun i _ v => plF_keep i v⟩) ?_ ?_
      · refine ⟨?_, ?_, ?_, trivial⟩
        all_goals
          intro vs w2 hp hF
          have BG := Lib.hid (HG.out.keep hp)
          clear hp
          simp [depsB, Region.binds, plF] at hF
          simp [stL, depsB, Region.binds, Act.put, hF]
        · go_wp2_with fail
          exact ⟨rfl, Below.refl _ _⟩
        · refine ld_str BG.out rfl _ rfl rfl ?_
          go_wp2_with fail
          exact ⟨rfl, Below.refl _ _⟩
        · go_wp2_with fail
          exact ⟨rfl, Below.refl _ _⟩
      intro vs w2 hp hF
      have e0 := hF 0 (by decide)
      have e1 := hF 1 (by decide)
      have e2 := hF 2 (by decide)
      simp only [plF] at e0 e1 e2
      have bz2 := HZ.out.keep hp
      have hw2 := below_then HB.out hp
      have hs2 := hp.size
      simp [stL, Act.put, e0, e1, e2]
      refine st_str bz2 (u' := uk) rfl _ _ rfl rfl rfl ?_
      intro W3 bz3 pg3
      go_wp2_with fail
      have hres := res_str bz3
      refine bodyPost_ret (results_tct rfl _ _ _ rfl hres) rfl ?_
      have hpl := HP.out
      rw [← HEN.out] at hpl
      obtain ⟨q1, q2, q3⟩ := hpl.done
      refine ⟨uk, A, c, ?_, ?_, HF.out W3 ((ChgX.of_below hp).trans (ChgX.of_store pg3 (.inr rfl))), ?_, put_facts hw2 (by omega) pg3⟩
      · unfold plO
        rw [q1, if_pos rfl, q3]; rfl
      · unfold plD
        rw [if_pos q1, q2]; exact HD.out
      · unfold plO
        rw [if_pos q1, q3]
        exact ((HIF.out.grow hp).away pg3 (by omega)).1
    · have hlt := Classical.not_not.1 hlt
      obtain ⟨ek, hek⟩ : ∃ e, es[k]? = some e := ⟨_, List.getElem?_eq_getElem (by rw [HEN.out]; exact hlt)⟩
      obtain ⟨ad, rfl, hsp, hba, hr, hev⟩ := HEV.out k ek hek
      have HR := Lib.hid (range_keep hr hba HB.out)
      have HBA : Hid (ad.block < wr.heap.size) := Lib.hid (Nat.lt_of_lt_of_le hba HB.out.size)
      have HSP := Lib.hid hsp
      have HEVK := Lib.hid hev
      have q1 : (0 : Int) ≤ (k : Int) := by omega
      have q2 : (k : Int) < (en : Int) := by omega
      obtain ⟨E, hE⟩ : ∃ E, dk.feedE ek = E := ⟨_, rfl⟩
      have CF : Hid (∀ w2, Below wr.heap.size wr w2 → Calls Try.prog 15 #[uk.v, ek.v] w2 fun e w3 => ∃ v, e = .returned v ∧ FedR wr.heap.size uk ek (dk.feedD ek) (dk.feedO ek) E w2 v w3 ∧ Is3 v) := fun w2 hb => by
        have := r42_Feed uk ek w2 (HF.out.at.grow hb) (hev.grow (below_then HB.out hb))
        rw [HD.out, hE] at this
        refine this.mono ?_
        rintro e w3 ⟨us, A, c, rfl, h1, h2, h3, h4, h5⟩
        exact ⟨_, rfl, ⟨⟨us, A, c, rfl, h1, h2, h3, h4⟩, hb.size, h5⟩, ⟨_, _, _, rfl⟩⟩
      have HEK := Lib.hid hek
      have HE := Lib.hid hE
      clear hek hr hev hE hsp hba
      go_upto_region 10 with fail
      refine wp_region_grow4 11 (fun w3 => Below wr.heap.size wr w3) (fun j x a b => Below a.heap.size a b ∧ rpG (FedR wr.heap.size uk ek (dk.feedD ek) (dk.feedO ek) E) j x a b) (fun a b => Below a.heap.size a b) (rpF wr (FedR wr.heap.size uk ek (dk.feedD ek) (dk.feedO ek) E) uk.v ek.v (some ad) en ec k (ad.add (k * 15))) (by kernel_rfl) (by kernel_rfl) (Below.drew (Below.refl _ _)) (fun j x a b h1 h2 => ⟨below_then h1 h2.1, fun i _ v => rpF_keep h2.1 i v, Below.refl _ _, fun w0 h => below_then h h2.1⟩) ?_ ?_
      · refine ⟨?_, ?_, ?_, ?_, ?_, ?_, ?_, ?_, ?_, ?_, ?_, trivial⟩
        all_goals
          intro vs w3 hp hF _
          have HPP := Lib.hid hp
          have BG := Lib.hid (StrBox.keep HG.out hp)
          have HRR := Lib.hid (range_keep HR.out HBA.out hp)
          clear hp
          simp [depsB, Region.binds, rpF] at hF
          simp [stL, depsB, Region.binds, Act.put, hF]
        · refine ld_str BG.out rfl _ rfl rfl ?_
          go_wp2_with fail
          exact ⟨rfl, Below.refl _ _, trivial⟩
        · go_wp2_with fail
          exact ⟨rfl, Below.refl _ _, trivial⟩
        · go_wp2_with fail
          exact ⟨rfl, Below.refl _ _, trivial⟩
        · go_wp2_with fail
          exact ⟨rfl, Below.refl _ _, trivial⟩
        · refine ld_evA HSP.out HRR.out rfl _ rfl rfl ?_
          go_wp2_with fail
          exact ⟨rfl, Below.refl _ _, trivial⟩
        · go_wp2_with fail
          (with_reducible refine (CF.out _ HPP.out).mono ?_)
          rintro e1 w4 ⟨v, rfl, hv, ht⟩
          have hk5 : rpF wr (FedR wr.heap.size uk ek (dk.feedD ek) (dk.feedO ek) E) uk.v ek.v (some ad) en ec k (ad.add (k * 15)) 5 v w4 := ⟨⟨⟨w3, w4, HPP.out, hv, Below.refl _ _⟩⟩, ht⟩
          have hg5 : rpG (FedR wr.heap.size uk ek (dk.feedD ek) (dk.feedO ek) E) 5 v w3 w4 := hv
          have hb5 := hv.2.2
          go_wp2_with fail
          all_goals first | exact ⟨hk5, hb5, hg5⟩ | trivial
        · go_wp2_with fail
          exact ⟨hF.2, Below.refl _ _, trivial⟩
        all_goals first
          | (obtain ⟨x, y, z, e3⟩ := hF
             rw [e3]
             go_wp2_with fail
             exact ⟨trivial, Below.refl _ _, trivial⟩)
          | skip
        · go_wp2_with fail
          exact ⟨⟨_, rfl, Box.new rfl, HPP.out.size⟩, (Below.refl _ _).alloc (Nat.le_refl _) _, rfl⟩
      intro vs w3 hp hF hPr hL
      obtain ⟨h, wa, wb, e10, hg4, hgb, ⟨⟨us, YA, yc, e5, hsd, hmov, hsat, hyf⟩, hwa, hab⟩, hbb, hor⟩ := box_done (B := wr) (R := FedR wr.heap.size uk ek (dk.feedD ek) (dk.feedO ek) E) (ic := 5) (ia := 10) (fun v w h => h.1) (fun v w h => h) (fun v a b h => h.2) (fun v a b h => ⟨h.2, h.1⟩) (hF 5 (by decide)) (hF 10 (by decide)) (hPr 5 10 (by decide) (by decide) (by decide))
      have e6 := lag_move (hL 6 _ (by decide) rfl) rfl rfl
      simp [stL, depsB, Region.binds, Act.put] at e6
      rw [e5] at e6
      have e7 := lag_extract (hL 7 _ (by decide) rfl) rfl rfl (show _ = Value.tuple #[us.v, .slice YA (dk.feedO ek).length yc, .int .i64 E] by simp [stL, depsB, Region.binds, Act.put]; exact e6.symm) rfl
      have e8 := lag_extract (hL 8 _ (by decide) rfl) rfl rfl (show _ = Value.tuple #[us.v, .slice YA (dk.feedO ek).length yc, .int .i64 E] by simp [stL, depsB, Region.binds, Act.put]; exact e6.symm) rfl
      have e9 := lag_extract (hL 9 _ (by decide) rfl) rfl rfl (show _ = Value.tuple #[us.v, .slice YA (dk.feedO ek).length yc, .int .i64 E] by simp [stL, depsB, Region.binds, Act.put]; exact e6.symm) rfl
      clear hF hPr hL
      simp [stL, Act.put, e7, e8, e9, e10]
      generalize vs 0 = x20
      generalize vs 1 = x21
      generalize vs 2 = x22
      generalize vs 3 = x23
      generalize vs 4 = x24
      generalize vs 5 = x25
      generalize vs 6 = x26
      clear e5 e6 e7 e8 e9 e10
      go_upto_region 11 with (((with_reducible show wpList _ _ _ (Oper.mk _ (.store _ _ _) _ _ _ _ :: _) _ _); refine st_str hg4 rfl _ _ rfl rfl rfl ?_; intro W4 bg4 pg4))
      have hb4 := put_facts hp hgb pg4
      have HOB : Hid (∀ q, u9.ownBlock = some q → g + 1 ≤ q ∧ q < wr.heap.size) := fun q hq => HO.out.1.lt q hq
      have HRU : Hid (Rob (fun k => k = g ∨ k = w.heap.size + 1) u9.ownBlock W4 us) := fun w' hc => by
        have hz : w.heap.size + 1 < wr.heap.size := HZ.out.1
        refine hmov w' ⟨Nat.le_trans hbb.size (Nat.le_trans pg4.size hc.size), fun k h1 h2 => ?_⟩ (HF.out w' ((ChgX.of_below hb4).trans hc)) (HEVK.out.grow (ChgX.below (b := w.heap.size) (below_then HB.out hb4) hc (Nat.le_refl _) (fun k hk => by omega) (fun q hq => by have := HOB.out q hq; omega)))
        have h3 := hbb.size
        have h4 := pg4.size
        refine (hc.block k (by omega) (by omega) (by intro e; have := HOB.out k e.symm; omega)).trans ((pg4.block k (by omega) (by intro e; injection e with e; omega)).trans (hbb.block k h2))
      have HY4 := Lib.hid (row_end hyf hbb hor pg4)
      have HBG4 := Lib.hid bg4
      have HG4 := Lib.hid (StrBox.keep HG.out hb4)
      have HZ4 := Lib.hid (StrBox.keep HZ.out hb4)
      have HO4 := Lib.hid (HO.out.grow hb4)
      have HB4 := Lib.hid (below_then HB.out hb4)
      have HS4 := Lib.hid hb4.size
      have HGB := Lib.hid hgb
      have HSD := Lib.hid hsd
      clear hp hgb pg4 bg4 hb4 hyf hbb hor hmov hsat hsd hwa hab hg4 CF HR HBA HSP HG HO HZ
      by_cases hE0 : E = 0
      · subst hE0
        go_upto_region 13 with fail
        obtain ⟨td, hu, hd⟩ := row_str
        have hdr : Below W4.heap.size W4 W4.drew := (Below.refl _ _).drew
        have HBD := Lib.hid (StrBox.keep HBG4.out hdr)
        have HGD := Lib.hid (StrBox.keep HG4.out hdr)
        have HZD := Lib.hid (StrBox.keep HZ4.out hdr)
        have HOD := Lib.hid (HO4.out.grow hdr)
        have HYD := Lib.hid (HY4.out.grow hdr)
        have HBB := Lib.hid (below_then HB4.out hdr)
        have HRD := Lib.hid (HRU.out.step (r' := u9.ownBlock) (ChgX.of_below hdr) (.inl rfl))
        have HSZ : Hid (g + 1 ≤ W4.drew.heap.size) := by
          have := HGD.out.1
          show _ ≤ _
          omega
        clear hdr
        refine wp_region_held (S := fun w' => w'.rangeAt h 0 us.cells) (by kernel_rfl) ?_
        refine wpAnyH_take (i := 0) (oi := _) (v := us.v) rfl (by kernel_rfl) (by kernel_rfl) (by kernel_rfl) (fun _ _ _ h => h) (yieldsIf_load_mid (by kernel_rfl) _ _ rfl h 0 rfl us.cells td (fun w h => h) hu hd size_str) (Box.range HBD.out.box (str_in us)) ?_
        refine wpAnyH_take (i := 1) (oi := _) (v := u9) rfl (by kernel_rfl) (by kernel_rfl) (by kernel_rfl) (fun _ _ _ h => h) (Or.inl ⟨by kernel_rfl, fun w _ => rfl⟩) (Box.range HBD.out.box (str_in us)) ?_
        refine wpAnyH_take (i := 2) (oi := _) (v := .slice YA (dk.feedO ek).length yc) rfl (by kernel_rfl) (by kernel_rfl) (by kernel_rfl) (fun _ _ _ h => h) (Or.inl ⟨by kernel_rfl, fun w _ => rfl⟩) (Box.range HBD.out.box (str_in us)) ?_
        simp only [Act.put, List.setIfInBounds_toArray, List.set_cons_zero, List.set_cons_succ]
        have HLEN : Hid (out.length + (dk.feedO ek).length ≤ 100000000) := by
          have h1 := HP.out.pn
          have h2 := feedO_4096 HE.out
          show _ ≤ _
          omega
        refine anyH_one (i := 3) rfl (by kernel_rfl) rfl (fun cs b h => by cases h) (fun d h => by cases h; exact of_decide_eq_true rfl) ?_
        refine app_ints _ rfl _ _ rfl (g + 1) (v := u9) (l := out) (m := dk.feedO ek) (A := YA) (c := yc) rfl rfl HOD.out HYD.out HLEN.out HSZ.out ?_
        intro v6 w6 ho6 hg6 hv6
        have hn6 : ∀ q, q < g + 1 ∨ wr.heap.size ≤ q → some q ≠ u9.ownBlock := fun q hq e => by have := HOB.out q e.symm; omega
        have bh6 := Box.grown HBD.out hg6 (hn6 h (.inr HGB.out))
        have bg6 := Box.grown HGD.out hg6 (hn6 g (.inl (Nat.lt_succ_self g)))
        have bz6 := Box.grown HZD.out hg6 (hn6 (w.heap.size + 1) (.inl (by omega)))
        refine ⟨rfl, v6, rfl, Box.range bh6 (str_in us), ?_⟩
        simp only [Act.put, List.setIfInBounds_toArray, List.set_cons_zero, List.set_cons_succ]
        refine anyH_one (i := 4) rfl (by kernel_rfl) rfl (fun cs b h => by cases h) (fun d h => by cases h) ?_
        refine st_str (u' := us) bg6 rfl _ _ rfl rfl rfl ?_
        intro W7 bg7 pg7
        have hgh : h ≠ g := by have := HGD.out.1; have := HGB.out; omega
        have bh7 := StrBox.away bh6 pg7 hgh
        have bz7 := StrBox.away bz6 pg7 (by omega)
        refine ⟨rfl, undef, rfl, Box.range bh7 (str_in us), ?_⟩
        refine wpAnyH_take (i := 5) (oi := _) (v := v6) rfl (by kernel_rfl) (by kernel_rfl) (by kernel_rfl) (fun _ _ _ h => h) (Or.inl ⟨by kernel_rfl, fun w _ => rfl⟩) (Box.range bh7 (str_in us)) ?_
        refine wpAnyH_done (by kernel_rfl) ?_ _
        have HR7 : Hid (Rob (fun k => k = g ∨ k = w.heap.size + 1) v6.ownBlock W7 us) := (HRD.out.step (ChgX.of_grown hg6) (hv6.imp id fun h => ⟨_, h, Nat.le_refl _⟩)).step (ChgX.of_store pg7 (.inl rfl)) (.inl rfl)
        have HO7 := Lib.hid (own_away ho6 pg7 (Nat.lt_succ_self _))
        have HG7 := Lib.hid bg7
        have HZ7 := Lib.hid bz7
        have HB7 := Lib.hid (put_facts (HBB.out.grown hg6 HBB.out.size (fun q hq => by have := HOB.out q hq; omega)) (by omega) pg7)
        clear ho6 hg6 hv6 hn6 bh6 bg6 bz6 bg7 bh7 bz7 pg7 hu hd
        simp only [Act.put, List.setIfInBounds_toArray, List.set_cons_zero, List.set_cons_succ]
        go_wp2_with fail
        go_roundw
        case rel => exact ⟨k + 1, dk.feedD ek, us, out ++ dk.feedO ek, by omega, by go_num, HP.out.next HEK.out HE.out, HSD, HO7, HG7, HR7, HZ7, HB7⟩
        case measure => simp [intOf]; omega
      · go_wp2_with ((with_reducible show wpList _ _ _ (Oper.mk _ (.store _ _ _) _ _ _ _ :: _) _ _); refine st_str HZ4.out (u' := StrA.zero) rfl _ _ rfl rfl rfl ?_; intro W5 bz5 pg5)
        have hres := res_str bz5
        refine bodyPost_ret (results_tct rfl _ _ _ rfl hres) rfl ?_
        have hpe : playE (openD n) es = E := by rw [HP.out.stop HEK.out (by rw [HE.out]; exact hE0), HE.out]
        unfold plD plO
        rw [hpe, if_neg hE0, if_neg hE0]
        exact ⟨StrA.zero, none, 0, rfl, rfl, StrAt.of_zero rfl, Ints.nil, put_facts HB4.out (by omega) pg5⟩
end Go.Proofs.Ytgabfdappeakiaa
