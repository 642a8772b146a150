/- Several texts in one: R4 Mk. -/
import Derived.Test.YtmdfgidejdiiiaadR3
import Derived.Test.YtmdfgidejdiiiaadPltoAs
import Derived.Test.YtmdfgidejdiiiaadFxtoV1
import Derived.Test.YtmdfgidejdiiiaadJ2toVp
import Derived.ProofKit
set_option linter.unusedVariables false
set_option linter.unusedSimpArgs false
section
namespace Go.Proofs.Ytmdfgidejdiiiaa
open Go.RowKit
theorem syE_1 {ls : List Lft} {a b : List Int} (h : lftsB ls = false) : syE ls a b = 2 := by unfold syE; rw [h, need_new, need_set (k := 2) (by decide), need_set (k := 2) (by decide), need_set (k := 2) (by decide)]
theorem syE_2 {ls : List Lft} {a b : List Int} (h : lftsB ls = true) (h2 : ((a.length : Int) == (b.length : Int)) = false) : syE ls a b = 1 := by unfold syE; rw [h, h2, need_true, need_new, need_set (k := 1) (by decide), need_set (k := 1) (by decide)]
theorem syE_3 {ls : List Lft} {a b : List Int} (h : lftsB ls = true) (h2 : ((a.length : Int) == (b.length : Int)) = true) (h3 : ¬ a.length + b.length ≤ 4096) : syE ls a b = 4 := by unfold syE; rw [h, h2, need_true, need_true, decide_eq_false h3, need_new, need_set (k := 4) (by decide)]
theorem syE_4 {ls : List Lft} {a b : List Int} (h : lftsB ls = true) (h2 : ((a.length : Int) == (b.length : Int)) = true) (h3 : a.length + b.length ≤ 4096) (h4 : (a.all wB && b.all wB) = false) : syE ls a b = 17 := by unfold syE; rw [h, h2, need_true, need_true, decide_eq_true h3, need_true, h4, need_new]
theorem syE_5 {ls : List Lft} {a b : List Int} (h : lftsB ls = true) (h2 : ((a.length : Int) == (b.length : Int)) = true) (h3 : a.length + b.length ≤ 4096) (h4 : (a.all wB && b.all wB) = true) : syE ls a b = 0 := by unfold syE; rw [h, h2, need_true, need_true, decide_eq_true h3, need_true, h4, need_true]
theorem sy_no {ls : List Lft} {a b : List Int} {E : Int} (h : syE ls a b = E) (h0 : E ≠ 0) : syX ls a b = [] := by
  unfold syX
  rw [if_neg (by rw [h]; exact h0)]
theorem take_weave {a b : List Int} {k : Nat} (hk : k < a.length) : (weave a b).take (2 * (k + 1)) = (weave a b).take (2 * k) ++ [el a k, el b k] := by
  have hl := weave_length a b
  have e1 : (weave a b)[2 * k]? = some (el a k) := by
    rw [get_el (by omega), weave_el (by omega), if_pos (by omega), show 2 * k / 2 = k by omega]
  have e2 : (weave a b)[2 * k + 1]? = some (el b k) := by
    rw [get_el (by omega), weave_el (by omega), if_neg (by omega), show (2 * k + 1) / 2 = k by omega]
  rw [show 2 * (k + 1) = 2 * k + 1 + 1 by omega, List.take_add_one, List.take_add_one, e1, e2]
  simp
theorem r33_wideN (A : Option Addr) (l : List Int) (c n : Nat) (w : World) (hn : l.length = n) (hl : n ≤ 9223372036854775807) (h : Ints w A l) :
    Calls Try.prog 68 #[.slice A n c] w fun e w' => e = .returned (.bool (l.all wB)) ∧ w = w' := by
  subst hn; exact r33_wide A l c w hl h
def IAt (w : World) (v : Value) (h : Nat) (l : List Int) : Prop := ∃ C c, v = .slice C h c ∧ Ints w C l
set_option maxRecDepth 100000 in
set_option maxHeartbeats 4000000 in
theorem r33_Synthesise (A B C : Option Addr) (ls : List Lft) (x y : List Int) (c d e : Nat) (w : World) (hL : Lifts w A ls) (hx : Ints w B x) (hy : Ints w C y) (hl : ls.length ≤ 1000000) (hl2 : ∀ s ∈ ls, s.2.2.1.length ≤ 9223372036854775807) (hxl : x.length ≤ 1000000) (hyl : y.length ≤ 1000000) :
    Calls Try.prog 20 #[.slice A ls.length c, .slice B x.length d, .slice C y.length e] w (RetInts w (syX ls x y) (syE ls x y)) := by
  have HL2 := Lib.hid hl2
  clear hl2
  obtain ⟨k, hk⟩ : ∃ k, x.length = k := ⟨_, rfl⟩
  obtain ⟨h, hh⟩ : ∃ h, y.length = h := ⟨_, rfl⟩
  have HXL := Lib.hid hk
  have HYL := Lib.hid hh
  rw [hk] at hxl ⊢
  rw [hh] at hyl ⊢
  clear hk hh
  rcases hv : lftsB ls with _ | _
  · have HE := Lib.hid (syE_1 (a := x) (b := y) hv)
    have HV := Lib.hid hv
    clear hv
    have HQ := Lib.hid (sy_no (ls := ls) (a := x) (b := y) HE.out (by decide))
    go_enter Try.func20, Try.ntmps20
    go_wp2_with ((go_at_call 24; refine (r33_Valid A ls c _ hL hl HL2.out).mono ?_; rintro e' w1 ⟨rfl, rfl⟩; rw [HV.out]))
    all_goals try (exfalso; omega)
    go_ret2
    rw [HQ.out, HE.out]
    exact ⟨_, rfl, Own.nil, Below.refl _ _⟩
  · have HV := Lib.hid hv
    by_cases he : k = h
    · obtain rfl := he
      have he2 : ((x.length : Int) == (y.length : Int)) = true := by rw [HXL.out, HYL.out]; simp
      by_cases hle0 : k + k ≤ 4096
      · have hle : x.length + y.length ≤ 4096 := by rw [HXL.out, HYL.out]; exact hle0
        have x1 : IntKind.i64.wrap ((k : Int) + (k : Int)) = (k : Int) + (k : Int) := IntWalk.i64_in _ (by omega)
        have d1 : decide ((4096 : Int) < (k : Int) + (k : Int)) = false := by simp; omega
        rcases hw : x.all wB with _ | _
        · have HE := Lib.hid (syE_4 hv he2 hle (show (x.all wB && y.all wB) = false by rw [hw]; rfl))
          have HWX := Lib.hid hw
          clear hv hw he2 hle
          have HQ := Lib.hid (sy_no (ls := ls) (a := x) (b := y) HE.out (by decide))
          go_enter Try.func20, Try.ntmps20
          go_wp2_with (first | (go_at_call 24; refine (r33_Valid A ls c _ hL hl HL2.out).mono ?_; rintro e' w1 ⟨rfl, rfl⟩; rw [HV.out]) | (go_at_call 68; with_reducible refine (r33_wideN B x d k _ HXL.out (by omega) hx).mono ?_; rintro e' w1 ⟨rfl, rfl⟩; rw [HWX.out]))
          all_goals try (exfalso; omega)
          go_ret2
          rw [HQ.out, HE.out]
          exact ⟨_, rfl, Own.nil, Below.refl _ _⟩
        · rcases hw2 : y.all wB with _ | _
          · have HE := Lib.hid (syE_4 hv he2 hle (show (x.all wB && y.all wB) = false by rw [hw, hw2]; rfl))
            have HWX := Lib.hid hw
            have HWY := Lib.hid hw2
            clear hv hw hw2 he2 hle
            have HQ := Lib.hid (sy_no (ls := ls) (a := x) (b := y) HE.out (by decide))
            go_enter Try.func20, Try.ntmps20
            go_wp2_with (first | (go_at_call 24; refine (r33_Valid A ls c _ hL hl HL2.out).mono ?_; rintro e' w1 ⟨rfl, rfl⟩; rw [HV.out]) | (go_at_call 68; with_reducible refine (r33_wideN B x d k _ HXL.out (by omega) hx).mono ?_; rintro e' w1 ⟨rfl, rfl⟩; rw [HWX.out]) | (go_at_call 68; with_reducible refine (r33_wideN C y e k _ HYL.out (by omega) hy).mono ?_; rintro e' w1 ⟨rfl, rfl⟩; rw [HWY.out]))
            all_goals try (exfalso; omega)
            go_ret2
            rw [HQ.out, HE.out]
            exact ⟨_, rfl, Own.nil, Below.refl _ _⟩
          · have HE := Lib.hid (syE_5 hv he2 hle (show (x.all wB && y.all wB) = true by rw [hw, hw2]; rfl))
            have HWX := Lib.hid hw
            have HWY := Lib.hid hw2
            clear hw hw2 he2 hle
            have HOK := Lib.hid (lfts_ok hv)
            have hh2 : k ≤ 2048 := by omega
            have WX : Hid (W32 x) := wB_iff.1 HWX.out
            have WY : Hid (W32 y) := wB_iff.1 HWY.out
            have HLw := Lib.hid hL
            have HXw := Lib.hid hx
            have HYw := Lib.hid hy
            clear hv
            go_enter Try.func20, Try.ntmps20
            go_wp2_with (first | (go_at_call 24; refine (r33_Valid A ls c _ hL hl HL2.out).mono ?_; rintro e' w1 ⟨rfl, rfl⟩; rw [HV.out]) | (go_at_call 68; with_reducible refine (r33_wideN B x d k _ HXL.out (by omega) hx).mono ?_; rintro e' w1 ⟨rfl, rfl⟩; rw [HWX.out]) | (go_at_call 68; with_reducible refine (r33_wideN C y e k _ HYL.out (by omega) hy).mono ?_; rintro e' w1 ⟨rfl, rfl⟩; rw [HWY.out]))
            all_goals try (exfalso; omega)
            have hl12 := HOK.out.1
            clear x1 d1 hL hx hy
            go_loopw [8, 9, 10] (fun va vb i wr => ∃ (q : Nat) (z : Int), q ≤ ls.length ∧ i = .int .i64 z ∧ z = (q : Int) - 1 ∧ IAt wr va k (synF (ls.drop q) (x, y)).1 ∧ IAt wr vb k (synF (ls.drop q) (x, y)).2 ∧ Below w.heap.size w wr) (fun _ _ i _ => (intOf i + 1).toNat)
            case atStart => exact ⟨ls.length, (ls.length : Int) - 1, Nat.le_refl _, rfl, rfl, ⟨B, d, rfl, by rw [List.drop_length]; exact HXw.out⟩, ⟨C, e, rfl, by rw [List.drop_length]; exact HYw.out⟩, Below.refl _ _⟩
            case round =>
              obtain ⟨q, z, hq, rfl, hz, ⟨C1, e1, rfl, iA⟩, ⟨C2, e2, rfl, iB⟩, hbr⟩ := hrel
              cases q with
              | succ J =>
                obtain rfl : z = (J : Int) := by omega
                obtain ⟨s, hs⟩ : ∃ s, ls[J]? = some s := ⟨_, List.getElem?_eq_getElem (by omega)⟩
                obtain ⟨ad, D, cc, rfl, hba, c0, c1, c2, c3, hi, i1, i2⟩ := (HLw.out.grow hbr) J s hs
                have HSU := Lib.hid (syn_succ hs (x, y))
                have HLO := Lib.hid (HOK.out.2 s (List.mem_of_getElem? hs))
                have w32 := w32_fold (-1) (ls.drop (J + 1)).reverse (x, y) ⟨WX.out, WY.out⟩
                have hln := fold_length (-1) (ls.drop (J + 1)).reverse (x, y)
                obtain ⟨la, hla⟩ : ∃ l, (synF (ls.drop (J + 1)) (x, y)).1 = l := ⟨_, rfl⟩
                obtain ⟨lb, hlb⟩ : ∃ l, (synF (ls.drop (J + 1)) (x, y)).2 = l := ⟨_, rfl⟩
                have lal : la.length = k := by rw [← hla]; exact hln.1.trans HXL.out
                have lbl : lb.length = k := by rw [← hlb]; exact hln.2.trans HYL.out
                have hab : synF (ls.drop (J + 1)) (x, y) = (la, lb) := by rw [← hla, ← hlb]
                have W1 : Hid (W32 la) := by show W32 _; rw [← hla]; exact w32.1
                have W2 : Hid (W32 lb) := by show W32 _; rw [← hlb]; exact w32.2
                rw [hla] at iA
                rw [hlb] at iB
                rw [hab] at HSU
                obtain ⟨o, st, cf, sh⟩ := s
                simp only at c0 c1 c2 c3 hi i1 i2
                have HL1 := Lib.hid lal
                have HL2' := Lib.hid lbl
                have hbs := hbr.size
                have HBR := Lib.hid hbr
                have x1 : (0 : Int) ≤ (J : Int) := by omega
                have x2 : (J : Int) < (ls.length : Int) := by omega
                have x3 : IntKind.i64.wrap ((J : Int) - 1) = (J : Int) - 1 := IntWalk.i64_in _ (by omega)
                clear hs w32 hln hla hlb lal lbl hab hbr hz hba
                go_wp2_with (go_at_call 69; refine (r33_step o st sh (-1) D C1 C2 cf la lb cc e1 e2 k _ HLO.out (.inr rfl) HL1.out HL2'.out (by omega) W1.out W2.out hi iA iB).mono ?_; rintro e' w6 ⟨v1, v2, rfl, o1, o2, hb6⟩)
                go_roundw
                case rel =>
                  obtain ⟨C3, e3, rfl, _, i3⟩ := o1.form
                  obtain ⟨C4, e4, rfl, _, i4⟩ := o2.form
                  have hl2 := lift1_length (-1) (la, lb) (o, st, cf, sh)
                  refine ⟨J, (J : Int) - 1, by omega, by go_num, rfl, ?_, ?_, HBR.out.trans (hb6.mono hbs)⟩
                  · rw [HSU.out]; exact ⟨C3, e3, by rw [hl2.1]; show Value.slice C3 la.length e3 = _; rw [HL1.out], i3⟩
                  · rw [HSU.out]; exact ⟨C4, e4, by rw [hl2.2]; show Value.slice C4 lb.length e4 = _; rw [HL2'.out], i4⟩
                case measure => simp [intOf]
              | zero =>
                obtain rfl : z = -1 := by simpa using hz
                rw [List.drop_zero] at iA iB
                have hln := fold_length (-1) ls.reverse (x, y)
                obtain ⟨a, ha⟩ : ∃ a, (synF ls (x, y)).1 = a := ⟨_, rfl⟩
                obtain ⟨b, hb⟩ : ∃ b, (synF ls (x, y)).2 = b := ⟨_, rfl⟩
                rw [ha] at iA
                rw [hb] at iB
                have hal : a.length = k := by rw [← ha]; exact hln.1.trans HXL.out
                have hbl : b.length = k := by rw [← hb]; exact hln.2.trans HYL.out
                have HX : Hid (syX ls x y = weave a b) := by
                  show _ = _
                  unfold syX synthF
                  rw [if_pos HE.out, ha, hb]
                have HAL := Lib.hid hal
                have HBL := Lib.hid hbl
                have HBR := Lib.hid hbr
                have HIA := Lib.hid iA
                have HIB := Lib.hid iB
                have hbs := hbr.size
                clear hz hln ha hb hal hbl hbr iA iB
                go_wp2_with fail
                obtain ⟨wo, rfl⟩ : ∃ wo : World, wo = wr := ⟨_, rfl⟩
                go_loopw [11, 12] (fun v i wr => ∃ N : Nat, N ≤ k ∧ i = .int .i64 N ∧ Own wo.heap.size wr v ((weave a b).take (2 * N)) ∧ Below wo.heap.size wo wr) (fun _ i _ => k - (intOf i).toNat)
                case atStart => exact ⟨0, Nat.zero_le _, rfl, Own.nil, Below.refl _ _⟩
                case round =>
                  obtain ⟨N, hN, rfl, hown, hbw⟩ := hrel
                  by_cases hlt : N < k
                  · obtain ⟨ad, p, rfl, hbp, hp, cp, p1, p2⟩ := HIA.out.at_ (k := N) (by rw [HAL.out]; exact hlt)
                    obtain ⟨ad2, r, rfl, hbr2, hr, cr, r1, r2⟩ := HIB.out.at_ (k := N) (by rw [HBL.out]; exact hlt)
                    have ip : I64 p := ⟨p1, p2⟩
                    have ir : I64 r := ⟨r1, r2⟩
                    have hst := take_weave (a := a) (b := b) (k := N) (by rw [HAL.out]; exact hlt)
                    rw [el_of hp, el_of hr] at hst
                    have hlen : ((weave a b).take (2 * N)).length + [p, r].length ≤ 100000000 := by simp; omega
                    obtain ⟨L0, hL0⟩ : ∃ L, (weave a b).take (2 * N) = L := ⟨_, rfl⟩
                    rw [hL0] at hst hlen hown
                    have HST := Lib.hid hst
                    have HLEN := Lib.hid hlen
                    have HBW := Lib.hid hbw
                    have S0 : Hid (wo.cell? (ad.add N) = some (.int .i64 p) ∧ wo.cell? (ad2.add N) = some (.int .i64 r)) := ⟨cp, cr⟩
                    have hbA : (ad.add N).block < wo.heap.size := by rw [block_add]; exact hbp
                    have hbB : (ad2.add N).block < wo.heap.size := by rw [block_add]; exact hbr2
                    have hsz := hbw.size
                    have x1 : (0 : Int) ≤ (N : Int) := by omega
                    have x2 : (N : Int) < (k : Int) := by omega
                    clear hst hlen hL0 hp hr cp cr hbp hbr2
                    go_wp2_with fail
                    go_region_held3 (fun w' => w'.cell? (ad.add N) = some (.int .i64 p) ∧ w'.cell? (ad2.add N) = some (.int .i64 r))
                      (exact twoS hbA hbB S0 (by go_grown))
                      (first
                        | ((with_reducible refine step_app_ints _ ?_ (.tmp 64) (.tmp 73) rfl wo.heap.size L0 [p, r] ?_ ?_ ?_ ?_ ?_); (exact rfl); (exact hown.grow (by go_grown)); (first | exact ⟨_, _, _, rfl, lit_two ip ir, rfl⟩ | exact ⟨_, _, _, rfl, (lit_two ip ir).grow (by go_grown), rfl⟩); (exact HLEN.out); (simp; omega); intro v1 w1 ho1 hg1 hb1; (first | (have hbU := bQ1D HBW.out hsz hb1) | (have hbU := bQ1 HBW.out hsz hb1))))
                    all_goals
                      clear x1 x2
                      go_wp2
                      go_roundw
                      case rel => exact ⟨N + 1, by omega, by go_num, by rw [HST.out]; exact ho1, hbU⟩
                      case measure => simp [intOf]; omega
                  · obtain rfl : N = k := by omega
                    have hw := weave_length a b
                    rw [List.take_of_length_le (by rw [hw, HAL.out]; exact Nat.le_refl _)] at hown
                    go_wp2
                    go_ret2
                    rw [HX.out, HE.out]
                    exact ⟨_, rfl, hown.base hbs, HBR.out.trans (hbw.mono hbs)⟩
      · have hle : ¬ x.length + y.length ≤ 4096 := by rw [HXL.out, HYL.out]; exact hle0
        have HE := Lib.hid (syE_3 hv he2 hle)
        have x1 : IntKind.i64.wrap ((k : Int) + (k : Int)) = (k : Int) + (k : Int) := IntWalk.i64_in _ (by omega)
        have d1 : decide ((4096 : Int) < (k : Int) + (k : Int)) = true := by simp; omega
        clear hv he2
        have HQ := Lib.hid (sy_no (ls := ls) (a := x) (b := y) HE.out (by decide))
        go_enter Try.func20, Try.ntmps20
        go_wp2_with ((go_at_call 24; refine (r33_Valid A ls c _ hL hl HL2.out).mono ?_; rintro e' w1 ⟨rfl, rfl⟩; rw [HV.out]))
        all_goals try (exfalso; omega)
        go_ret2
        rw [HQ.out, HE.out]
        exact ⟨_, rfl, Own.nil, Below.refl _ _⟩
    · have he2 : ((x.length : Int) == (y.length : Int)) = false := by rw [HXL.out, HYL.out]; simp; omega
      have HE := Lib.hid (syE_2 hv he2)
      clear hv he2
      have HQ := Lib.hid (sy_no (ls := ls) (a := x) (b := y) HE.out (by decide))
      go_enter Try.func20, Try.ntmps20
      go_wp2_with ((go_at_call 24; refine (r33_Valid A ls c _ hL hl HL2.out).mono ?_; rintro e' w1 ⟨rfl, rfl⟩; rw [HV.out]))
      all_goals try (exfalso; omega)
      go_ret2
      rw [HQ.out, HE.out]
      exact ⟨_, rfl, Own.nil, Below.refl _ _⟩
end Go.Proofs.Ytmdfgidejdiiiaa
end
section
namespace Go.Proofs.Ytmdfgidejdiiiaa
open Go.RowKit
theorem rf_Same (A B : Option Addr) (l m : List Int) (c d : Nat) (w : World) (hm : m.length ≤ 9223372036854775807) (he : l = m) (h : Ints w A l) (g : Ints w B m) :
    Calls Try.prog 25 #[.slice A l.length c, .slice B m.length d] w fun e w' => e = .returned (.bool true) ∧ Below w.heap.size w w' :=
  (rf_SameInts A B l m c d w hm h g).mono fun e w' hh => ⟨by rw [hh.1, he]; simp, hh.2⟩
end Go.Proofs.Ytmdfgidejdiiiaa
end
