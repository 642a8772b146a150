/- Several texts in one: V4 V5 V6. -/
import Derived.Test.YtmdfgidejdiiiaadZstoV3
import Derived.Test.YtmdfgidejdiiiaadPltoAs
import Derived.Defers
import Derived.Handy
set_option linter.unusedVariables false
set_option linter.unusedSimpArgs false
section
namespace Go.Proofs.Ytmdfgidejdiiiaa
open Go.RowKit
theorem add_cell0 {b k : Nat} : (⟨b, 0, none⟩ : Addr).add k = ⟨b, k, none⟩ := by
  unfold Addr.add; by_cases h0 : k = 0 <;> simp [h0]
theorem syn_succ {ls : List Lft} {k : Nat} {s : Lft} (h : ls[k]? = some s) (p : List Int × List Int) : synF (ls.drop k) p = lift1 (-1) (synF (ls.drop (k + 1)) p) s := by
  have hk := (List.getElem?_eq_some_iff.1 h).1
  have e : ls.drop k = s :: ls.drop (k + 1) := by
    rw [List.drop_eq_getElem_cons hk]
    congr 1
    rw [List.getElem?_eq_getElem hk] at h
    injection h
  unfold synF
  rw [e, List.reverse_cons, List.foldl_append]; rfl
theorem Own.empty {w : World} {g : Nat} (hg : g = w.heap.size) : Own g (w.alloc (.cells #[] 3)) (.slice (some ⟨g, 0, none⟩) 0 0) [] := by
  subst hg
  refine ⟨⟨rfl, .inr ⟨w.heap.size, 0, #[], rfl, Nat.le_refl _, heap_alloc_new w _, Nat.le_refl _, by simp, by simp, by simp⟩⟩, by simp⟩
theorem Own.at_block {base : Nat} {w : World} {v : Value} {l : List Int} {g : Nat} (h : Own base w v l) (hv : v.ownBlock = some g) : ∃ cap, v = .slice (some ⟨g, 0, none⟩) l.length cap ∧ base ≤ g ∧ g < w.heap.size := by
  have h2 := h.1.lt g hv
  obtain ⟨_, ⟨rfl, _⟩ | ⟨g', cap, cur, rfl, _⟩⟩ := h.1
  · cases hv
  · have : some g' = some g := hv
    injection this with e
    subst e
    exact ⟨cap, rfl, h2⟩
set_option maxRecDepth 100000 in
set_option maxHeartbeats 2000000 in
theorem bk_synthesise (A B C : Option Addr) (ls : List Lft) (a b : List Int) (c d e h : Nat) (w : World) (hL : Lifts w A ls) (ha : Ints w B a) (hb : Ints w C b) (hok : ∀ s ∈ ls, LftOk s) (hll : ls.length ≤ 12) (hal : a.length = h) (hbl : b.length = h) (hh : h ≤ 2048) (wa : W32 a) (wb : W32 b) :
    Calls Try.prog 70 #[.slice A ls.length c, .slice B a.length d, .slice C b.length e] w (RetInts1 w (synthF ls a b)) := by
  have HOK := Lib.hid hok
  have WA := Lib.hid wa
  have WB := Lib.hid wb
  have l1 : a.length ≤ 2048 := by omega
  have l2 : b.length ≤ 2048 := by omega
  have HAL := Lib.hid hal
  have HBL := Lib.hid hbl
  clear hok wa wb hal hbl
  go_enter Try.func70, Try.ntmps70
  go_wp2_with (first
    | (at_builtin; refine app_ints _ rfl (.tmp 12) (.tmp 13) rfl w.heap.size rfl rfl (Own.empty rfl) (ha.grow ((Below.refl _ _).alloc (Nat.le_refl _) _)) (by simp; omega) (by simp) ?_; intro v1 w1 ho1 hg1 hv1; have hbw1 : Below w.heap.size w w1 := grown_to ((Below.refl _ _).alloc (Nat.le_refl _) _) hg1 (Nat.le_refl _); have hb1 := hb.grow hbw1)
    | (at_builtin; refine app_ints _ rfl (.tmp 15) (.tmp 16) rfl w1.heap.size rfl rfl (Own.empty rfl) (hb1.grow ((Below.refl _ _).alloc (Nat.le_refl _) _)) (by simp; omega) (by simp) ?_; intro v2 w2 ho2 hg2 hv2))
  have hbw2 : Below w1.heap.size w1 w2 := grown_to ((Below.refl _ _).alloc (Nat.le_refl _) _) hg2 (Nat.le_refl _)
  obtain ⟨g1, hv1', hg1a⟩ : ∃ g, v1.ownBlock = some g ∧ w.heap.size ≤ g := by
    rcases hv1 with h | h
    · exact ⟨_, h, Nat.le_refl _⟩
    · exact ⟨_, h, by simp⟩
  obtain ⟨g2, hv2', hg2a⟩ : ∃ g, v2.ownBlock = some g ∧ w1.heap.size ≤ g := by
    rcases hv2 with h | h
    · exact ⟨_, h, Nat.le_refl _⟩
    · exact ⟨_, h, by simp⟩
  rw [List.nil_append] at ho1 ho2
  obtain ⟨cap1, rfl, _, hg1b⟩ := ho1.at_block hv1'
  obtain ⟨cap2, rfl, _, hg2b⟩ := ho2.at_block hv2'
  have hne1 : g1 ≠ g2 := by omega
  have hne2 : g2 ≠ g1 := by omega
  have ho1 := ho1.grow hbw2
  have ho2 := ho2.base hbw1.size
  have hbw := below_then hbw1 hbw2
  rw [HAL.out] at ho1
  rw [HBL.out] at ho2
  have e1 := HAL.out
  have e2 := HBL.out
  rw [e1, e2]
  have hq1 : Own w.heap.size w2 (.slice (some ⟨g1, 0, none⟩) h cap1) (synF (ls.drop ls.length) (a, b)).1 := by rw [List.drop_length]; exact ho1
  have hq2 : Own w.heap.size w2 (.slice (some ⟨g2, 0, none⟩) h cap2) (synF (ls.drop ls.length) (a, b)).2 := by rw [List.drop_length]; exact ho2
  have hg1c : g1 < w2.heap.size := Nat.lt_of_lt_of_le hg1b hbw2.size
  clear hv1 hv2 hv1' hv2' hg1 hg2 hbw1 hbw2 hb1 ho1 ho2 e1 e2 ha hb
  go_wp2
  go_loopw [9] (fun i wr => ∃ (i0 : Int) (q : Nat), Hid (i0 = (q : Int) - 1) ∧ q ≤ ls.length ∧ -1 ≤ i0 ∧ i0 < ls.length ∧ i = .int .i64 i0 ∧ Own w.heap.size wr (.slice (some ⟨g1, 0, none⟩) h cap1) (synF (ls.drop q) (a, b)).1 ∧ Own w.heap.size wr (.slice (some ⟨g2, 0, none⟩) h cap2) (synF (ls.drop q) (a, b)).2 ∧ Below w.heap.size w wr) (fun i _ => (intOf i + 1).toNat)
  case atStart => exact ⟨(ls.length : Int) - 1, ls.length, rfl, Nat.le_refl _, by omega, by omega, rfl, hq1, hq2, hbw⟩
  case round =>
    obtain ⟨i0, q, HQ, hq, hi0, hi1, rfl, hf1, hf2, hbr⟩ := hrel
    by_cases hpos : 0 ≤ i0
    · obtain ⟨k, rfl⟩ := Int.eq_ofNat_of_zero_le hpos
      obtain rfl : q = k + 1 := by have : (k : Int) = (q : Int) - 1 := HQ.out; omega
      have hk2 : k < ls.length := by omega
      obtain ⟨s, hs⟩ : ∃ s, ls[k]? = some s := ⟨_, List.getElem?_eq_getElem hk2⟩
      obtain ⟨ad, D, cc, rfl, hba, c0, c1, c2, c3, hi, i1, i2⟩ := hL k s hs
      have hcb := fun (hc : s.2.2.1 ≠ []) (a : Addr) (e : D = some a) => hi.block hc e
      have c0 := (hbr.cell (by rw [block_add]; exact hba)).trans c0
      have c1 := (hbr.cell (p := ⟨(ad.add (k * 4)).block, (ad.add (k * 4)).off + 1, none⟩) (by show (ad.add _).block < _; rw [block_add]; exact hba)).trans c1
      have c2 := (hbr.cell (p := ⟨(ad.add (k * 4)).block, (ad.add (k * 4)).off + 2, none⟩) (by show (ad.add _).block < _; rw [block_add]; exact hba)).trans c2
      have c3 := (hbr.cell (p := ⟨(ad.add (k * 4)).block, (ad.add (k * 4)).off + 3, none⟩) (by show (ad.add _).block < _; rw [block_add]; exact hba)).trans c3
      have hir := hi.grow hbr
      clear hi
      have HSU := Lib.hid (syn_succ hs (a, b))
      have HLO := Lib.hid (HOK.out s (List.mem_of_getElem? hs))
      have w32 : W32 (synF (ls.drop (k + 1)) (a, b)).1 ∧ W32 (synF (ls.drop (k + 1)) (a, b)).2 := w32_fold (-1) (ls.drop (k + 1)).reverse (a, b) ⟨WA.out, WB.out⟩
      have W32F := Lib.hid w32
      have hln := fold_length (-1) (ls.drop (k + 1)).reverse (a, b)
      obtain ⟨x, hx⟩ : ∃ x, (synF (ls.drop (k + 1)) (a, b)).1 = x := ⟨_, rfl⟩
      obtain ⟨y, hy⟩ : ∃ y, (synF (ls.drop (k + 1)) (a, b)).2 = y := ⟨_, rfl⟩
      have lx : x.length = h := by rw [← hx]; exact hln.1.trans HAL.out
      have ly : y.length = h := by rw [← hy]; exact hln.2.trans HBL.out
      have hxy : synF (ls.drop (k + 1)) (a, b) = (x, y) := by rw [← hx, ← hy]
      rw [hx] at hf1
      rw [hy] at hf2
      rw [hx, hy] at W32F
      rw [hxy] at HSU
      obtain ⟨o, st, cf, sh⟩ := s
      simp only at c0 c1 c2 c3 hir i1 i2 hcb
      have hch1 : ∀ (W : World), Own w.heap.size W (.slice (some ⟨g1, 0, none⟩) h cap1) x → Own w.heap.size W (.slice (some ⟨g2, 0, none⟩) h cap2) y → Ints W D cf →
          Calls Try.prog 105 #[.agg #[.bool o, .int .i64 st, .slice D cf.length cc, .int .i64 sh], .slice (some ⟨g1, 0, none⟩) h cap1, .slice (some ⟨g2, 0, none⟩) h cap2, .int .i64 (-1)] W
            fun e w' => e = .returned (.tuple #[]) ∧ Own w.heap.size w' (.slice (some ⟨g1, 0, none⟩) h cap1) (stF (o, st, cf, sh) (-1) x y) ∧ W.grownBy w' (some g1) := fun W q1 q2 q3 => by
        have := bk_change o st sh (-1) D (some ⟨g2, 0, none⟩) cf y x cc cap2 h cap1 g1 w.heap.size W HLO.out (.inr rfl) lx.symm (by omega) (by omega) W32F.out.1 W32F.out.2 q1 q3 q2.ints (fun hc ad e => by have := hcb hc ad e; omega) (fun _ ad e => by injection e with e; subst e; exact hne2)
        rw [ly] at this; exact this
      have hch2 : ∀ (W : World), Own w.heap.size W (.slice (some ⟨g1, 0, none⟩) h cap1) x → Own w.heap.size W (.slice (some ⟨g2, 0, none⟩) h cap2) y → Ints W D cf →
          Calls Try.prog 105 #[.agg #[.bool o, .int .i64 st, .slice D cf.length cc, .int .i64 sh], .slice (some ⟨g2, 0, none⟩) h cap2, .slice (some ⟨g1, 0, none⟩) h cap1, .int .i64 (-1)] W
            fun e w' => e = .returned (.tuple #[]) ∧ Own w.heap.size w' (.slice (some ⟨g2, 0, none⟩) h cap2) (stF (o, st, cf, sh) (-1) y x) ∧ W.grownBy w' (some g2) := fun W q1 q2 q3 => by
        have := bk_change o st sh (-1) D (some ⟨g1, 0, none⟩) cf x y cc cap1 h cap2 g2 w.heap.size W HLO.out (.inr rfl) ly.symm (by omega) (by omega) W32F.out.2 W32F.out.1 q2 q3 q1.ints (fun hc ad e => by have := hcb hc ad e; omega) (fun _ ad e => by injection e with e; subst e; exact hne1)
        rw [lx] at this; exact this
      have HCH1 := Lib.hid hch1
      have HCH2 := Lib.hid hch2
      clear hs hx hy hxy hcb hch1 hch2 hln w32
      cases o
      · go_wp2_with (go_at_call 105; refine (HCH1.out _ hf1 hf2 hir).mono ?_; rintro e w3 ⟨rfl, ho3, hg3⟩)
        go_roundw
        case rel => exact ⟨(k : Int) - 1, k, rfl, by omega, by omega, by omega, rfl, by rw [HSU.out]; exact ho3, by rw [HSU.out]; exact hf2.kept_at hg3 hne2, grown_to hbr hg3 (by omega)⟩
        case measure => simp [intOf] <;> omega
      · go_wp2_with (go_at_call 105; refine (HCH2.out _ hf1 hf2 hir).mono ?_; rintro e w3 ⟨rfl, ho3, hg3⟩)
        go_roundw
        case rel => exact ⟨(k : Int) - 1, k, rfl, by omega, by omega, by omega, rfl, by rw [HSU.out]; exact hf1.kept_at hg3 hne1, by rw [HSU.out]; exact ho3, grown_to hbr hg3 (by omega)⟩
        case measure => simp [intOf] <;> omega
    · obtain rfl : q = 0 := by have : i0 = (q : Int) - 1 := HQ.out; omega
      rw [List.drop_zero] at hf1 hf2
      have hln := fold_length (-1) ls.reverse (a, b)
      obtain ⟨x, hx⟩ : ∃ x, (synF ls (a, b)).1 = x := ⟨_, rfl⟩
      obtain ⟨y, hy⟩ : ∃ y, (synF ls (a, b)).2 = y := ⟨_, rfl⟩
      have lx : x.length = h := by rw [← hx]; exact hln.1.trans HAL.out
      have ly : y.length = h := by rw [← hy]; exact hln.2.trans HBL.out
      have HXY : Hid (synthF ls a b = weave x y) := by show weave (synF ls (a, b)).1 (synF ls (a, b)).2 = _; rw [hx, hy]
      rw [hx] at hf1
      rw [hy] at hf2
      obtain ⟨N, hN⟩ : ∃ N, 2 * h = N := ⟨_, rfl⟩
      have hN2 : 2 * (h : Int) = (N : Int) := by omega
      have hN3 : N ≤ 100000000 := by omega
      have LW : Hid ((weave x y).length = N) := by show _ = _; rw [weave_length, lx, hN]
      have LX := Lib.hid lx
      have LY := Lib.hid ly
      have hhN1 : 2 * h ≤ N := by omega
      have hhN2 : N ≤ 2 * h := by omega
      clear hx hy hln lx ly hN
      go_wp2_with (at_make; refine mk_int rfl _ _ rfl wr.heap.size N rfl rfl rfl hN3 (Nat.le_refl _) ?_; intro w3 ho3 hb3)
      obtain ⟨wo, rfl⟩ : ∃ wo : World, wo = wr := ⟨_, rfl⟩
      have hg3 : wo.heap.size < w3.heap.size := ho3.block.2
      have hne3 : g1 < wo.heap.size := hf1.block.2
      have hgw2 : g2 < wo.heap.size := hf2.block.2
      have hf1 := (hf1.grow hb3).ints
      have hf2 := (hf2.grow hb3).ints
      have hbr := below_then hbr hb3
      have hf1b : ∀ ad, some (⟨g1, 0, none⟩ : Addr) = some ad → some ad.block ≠ some wo.heap.size := fun ad e => by injection e with e; subst e; intro e2; injection e2 with e2; have : g1 = wo.heap.size := e2; omega
      have hf2b : ∀ ad, some (⟨g2, 0, none⟩ : Addr) = some ad → some ad.block ≠ some wo.heap.size := fun ad e => by injection e with e; subst e; intro e2; injection e2 with e2; have : g2 = wo.heap.size := e2; omega
      have F1 := Lib.hid hf1
      have F2 := Lib.hid hf2
      have F1B := Lib.hid hf1b
      have F2B := Lib.hid hf2b
      have ho3' : Own wo.heap.size w3 (.slice (some ⟨wo.heap.size, 0, none⟩) N N) (prN (weave x y) (2 * 0)) := by rw [Nat.mul_zero, prN_zero, LW.out]; exact ho3
      have hwo2 : w.heap.size ≤ wo.heap.size := by omega
      clear hf1 hf2 hf1b hf2b ho3 hb3
      go_loopw [11, 50] (fun _ i w4 => ∃ k : Nat, k ≤ h ∧ i = .int .i64 k ∧ Own wo.heap.size w4 (.slice (some ⟨wo.heap.size, 0, none⟩) N N) (prN (weave x y) (2 * k)) ∧ w3.grownBy w4 (some wo.heap.size)) (fun _ i _ => h - (intOf i).toNat)
      case atStart => exact ⟨0, Nat.zero_le _, rfl, ho3', grown_refl _ _⟩
      case round =>
        obtain ⟨k, hk, rfl, hown, hgr⟩ := hrel
        by_cases hk2 : k < h
        · have G1 := F1.out.kept hgr (fun _ => F1B.out)
          have G2 := F2.out.kept hgr (fun _ => F2B.out)
          obtain ⟨ad1, p, e1, hb1, hp, cp, p1, p2⟩ := G1.at_ (k := k) (by rw [LX.out]; exact hk2)
          obtain ⟨ad2, q, e2, hb2, hq, cq, q1, q2⟩ := G2.at_ (k := k) (by rw [LY.out]; exact hk2)
          injection e1 with e1
          injection e2 with e2
          subst e1 e2
          rw [add_cell0] at cp cq
          obtain ⟨m, hm⟩ : ∃ m, 2 * k = m := ⟨_, rfl⟩
          have HS : Hid (prN (weave x y) (2 * (k + 1)) = ((prN (weave x y) (2 * k)).set m p).set (m + 1) q) := by
            show _ = _
            have hl := LW.out
            have hlx := LX.out
            have v1 : el (weave x y) (2 * k) = p := by rw [weave_el (by omega), if_pos (by omega), show 2 * k / 2 = k by omega, el_of hp]
            have v2 : el (weave x y) (2 * k + 1) = q := by rw [weave_el (by omega), if_neg (by omega), show (2 * k + 1) / 2 = k by omega, el_of hq]
            rw [show 2 * (k + 1) = 2 * k + 1 + 1 by omega, prN_succ (by omega), prN_succ (by omega), v1, v2, hm]
          have AT1 : Hid ((prN (weave x y) (2 * k))[m]? = some 0) := by rw [hm]; exact prN_at (by have := LW.out; omega)
          have AT2 : Hid ((prN (weave x y) (2 * k))[m + 1]? = some 0) := by
            have hl := LW.out
            show _ = _
            rw [hm, prN_get (by omega), if_neg (by omega)]
          have t1 := hown.cell AT1.out
          have t2 := hown.cell AT2.out
          have f1 := hown.free m
          have f2 := hown.free (m + 1)
          have z1 : IntKind.i64.wrap (2 * (k : Int)) = (m : Int) := by rw [← hm, IntWalk.i64_in _ (by omega)]; simp
          have z2 : IntKind.i64.wrap ((m : Int) + 1) = (m : Int) + 1 := IntWalk.i64_in _ (by omega)
          have z3 : (0 : Int) ≤ (m : Int) + 1 := by omega
          have z4 : (m : Int) + 1 < (N : Int) := by omega
          have z5 : (m : Int) < (N : Int) := by omega
          have z6 : ((m : Int) + 1).toNat = m + 1 := by omega
          have z7 : (k : Int) < (h : Int) := by omega
          have z8 : (0 : Int) ≤ (k : Int) := by omega
          have HO := Lib.hid hown
          clear hp hq hm hown G1 G2
          go_wp2
          go_region
          clear z1 z2 z3 z4 z5 z6 z7 z8 t1 t2 f1 f2
          go_wp2
          go_roundw
          case rel => exact ⟨k + 1, by omega, by go_num, by rw [HS.out]; exact ⟨((HO.out.set m ⟨p1, p2⟩).set (m + 1) ⟨q1, q2⟩).1.drew, ((HO.out.set m ⟨p1, p2⟩).set (m + 1) ⟨q1, q2⟩).2⟩, grown_drew (grown_set (grown_set hgr))⟩
          case measure => simp [intOf] <;> omega
        · obtain rfl : k = h := by omega
          have he : prN (weave x y) (2 * k) = weave x y := by
            have := prN_all (weave x y)
            rw [LW.out] at this
            rw [show 2 * k = N by omega]; exact this
          rw [he] at hown
          go_wp2
          go_ret
          rw [HXY.out]
          exact RetInts1.mk (hown.base hwo2) (grown_to hbr hgr hwo2)
end Go.Proofs.Ytmdfgidejdiiiaa
end
section
namespace Go.Proofs.Ytmdfgidejdiiiaa
open Go.RowKit
def needV (k : Int) (ok : Bool) (code : Int) : Int := if k = 0 ∧ ok = false then code else k
theorem need_true (k code : Int) : needV k true code = k := by unfold needV; rw [if_neg (by simp)]
theorem need_set {k code : Int} (h : k ≠ 0) (ok : Bool) : needV k ok code = k := by unfold needV; rw [if_neg (fun hc => h hc.1)]
theorem need_new (code : Int) : needV 0 false code = code := rfl
theorem need_need {k code : Int} (hc : code ≠ 0) (a b : Bool) : needV (needV k a code) b code = needV k (a && b) code := by
  by_cases hk : k = 0
  · subst hk
    cases a
    · rw [need_new, need_set hc, Bool.false_and, need_new]
    · rw [need_true, Bool.true_and]
  · rw [need_set hk, need_set hk, need_set hk]
def CheckAt (w : World) (q : Nat) (k : Int) : Prop := w.cell? ⟨q, 0, none⟩ = some (.int .i64 k) ∧ w.frozen? ⟨q, 0, none⟩ = false
theorem CheckAt.keep {w w' : World} {q : Nat} {k : Int} (h : CheckAt w q k) (hb : Below w.heap.size w w') : CheckAt w' q k :=
  ⟨(hb.cell (cell_lt h.1)).trans h.1, (hb.frozen (p := ⟨q, 0, none⟩) (cell_lt h.1)).trans h.2⟩
theorem CheckAt.set {w : World} {q : Nat} {k : Int} (h : CheckAt w q k) (v : Int) : CheckAt (w.setCell ⟨q, 0, none⟩ (.int .i64 v)) q v := by
  obtain ⟨h1, h2⟩ := h
  exact ⟨by simp [go_sem, h1], by simpa using h2⟩
def NeedPost (w : World) (q : Nat) (k : Int) (e : Ending) (w' : World) : Prop := e = .returned (.bool (decide (k = 0))) ∧ CheckAt w' q k ∧ w.grownBy w' (some q)
theorem bk_need (q : Nat) (k code : Int) (ok : Bool) (w : World) (h : CheckAt w q k) (hcode : code ≠ 0) :
    Calls Try.prog 65 #[.pointer (some ⟨q, 0, none⟩), .bool ok, .int .i64 code] w (NeedPost w q (needV k ok code)) := by
  have hset := h.set code
  have H := Lib.hid h
  obtain ⟨hc, hf⟩ := h
  by_cases hk : k = 0
  · subst hk
    cases ok
    · have hcd : ((code : Int) == 0) = false := by simpa using hcode
      have hc2 := hset.1
      have HS := Lib.hid hset
      clear hset
      go_enter Try.func65, Try.ntmps65
      go_wp2
      go_ret
      exact ⟨ret_bool (by rw [need_new]; simpa using hcode), HS.out, grown_set (grown_refl _ _)⟩
    · go_enter Try.func65, Try.ntmps65
      go_wp2
      go_ret
      exact ⟨by rw [need_true]; rfl, by rw [need_true]; exact H.out, grown_refl _ _⟩
  · have hkd : ((k : Int) == 0) = false := by simpa using hk
    have HK := Lib.hid hk
    go_enter Try.func65, Try.ntmps65
    go_wp2
    go_ret
    exact ⟨ret_bool (by rw [need_set HK.out]; simpa using HK.out), by rw [need_set HK.out]; exact H.out, grown_refl _ _⟩
def IntsFar (w : World) (q : Nat) (A : Option Addr) (ll : List (List Int)) : Prop :=
  ∀ k l, ll[k]? = some l → ∃ ad B c, A = some ad ∧ ad.block ≠ q ∧ w.cell? (ad.add k) = some (.slice B l.length c) ∧ Ints w B l ∧ (l ≠ [] → ∀ a, B = some a → a.block ≠ q)
theorem IntsFar.kept {w w' : World} {q : Nat} {A : Option Addr} {ll : List (List Int)} (h : IntsFar w q A ll) (hg : w.grownBy w' (some q)) : IntsFar w' q A ll := fun k l hk => by
  obtain ⟨ad, B, c, e, h1, h2, h3, h4⟩ := h k l hk
  exact ⟨ad, B, c, e, h1, hg.cell h2 (by rw [block_add]; intro e; injection e with e; exact h1 e), h3.kept hg (fun hl a ha e => by injection e with e; exact h4 hl a ha e), h4⟩
def wB (x : Int) : Bool := inB x (-2147483648) 2147483647
theorem wB_iff {l : List Int} : l.all wB = true ↔ W32 l := by
  constructor
  · intro h x hx
    have := inB_iff.1 (List.all_eq_true.1 h x hx); omega
  · intro h
    refine List.all_eq_true.2 fun x hx => inB_iff.2 ?_
    have := h x hx; omega
set_option maxRecDepth 100000 in
set_option maxHeartbeats 1000000 in
theorem bk_words (q : Nat) (k : Int) (A : Option Addr) (ll : List (List Int)) (c n : Nat) (w : World) (h : CheckAt w q k) (hf : IntsFar w q A ll) (hn : n = ll.length) (hl : n ≤ 1000000) (hl2 : ∀ l ∈ ll, l.length ≤ 9223372036854775807) :
    Calls Try.prog 66 #[.pointer (some ⟨q, 0, none⟩), .slice A n c] w (NeedPost w q (needV k (ll.all fun l => l.all wB) 17)) := by
  have HN := Lib.hid hn
  have hl3 : ll.length ≤ n := by omega
  have hl4 : n ≤ ll.length := by omega
  have HL2 := Lib.hid hl2
  clear hn hl2
  go_enter Try.func66, Try.ntmps66
  go_wp2
  go_loopw [6, 8, 11] (fun _ _ i wr => ∃ r : Nat, r ≤ n ∧ i = .int .i64 r ∧ CheckAt wr q (needV k ((ll.take r).all fun l => l.all wB) 17) ∧ w.grownBy wr (some q)) (fun _ _ i _ => n - (intOf i).toNat)
  case atStart => exact ⟨0, Nat.zero_le _, rfl, by show CheckAt w q (needV k true 17); rw [need_true]; exact h, grown_refl _ _⟩
  case round =>
    obtain ⟨r, hr, rfl, hck, hg⟩ := hrel
    by_cases hlt : r < n
    · obtain ⟨l, hll⟩ : ∃ l, ll[r]? = some l := ⟨_, List.getElem?_eq_getElem (by omega)⟩
      obtain ⟨ad, B, cc, rfl, hb1, hcl, hi, hb2⟩ := (hf.kept hg) r l hll
      have hlen := HL2.out l (List.mem_of_getElem? hll)
      have HSU := Lib.hid (take_succ_all hll (fun l => l.all wB))
      have HCK := Lib.hid hck
      have HG := Lib.hid hg
      have HB2 := Lib.hid (fun (hl : l ≠ []) a ha => (fun e => hb2 hl a ha (by injection e) : some a.block ≠ some q))
      clear hll hck hb2 hg
      go_wp2
      obtain ⟨wo, rfl⟩ : ∃ wo : World, wo = wr := ⟨_, rfl⟩
      go_loopw [8, 17] (fun _ i wr => ∃ j : Nat, j ≤ l.length ∧ i = .int .i64 j ∧ CheckAt wr q (needV k (((ll.take r).all fun l => l.all wB) && (l.take j).all wB) 17) ∧ wo.grownBy wr (some q)) (fun _ i _ => l.length - (intOf i).toNat)
      case atStart => exact ⟨0, Nat.zero_le _, rfl, by rw [List.take_zero, List.all_nil, Bool.and_true]; exact HCK.out, grown_refl _ _⟩
      case round =>
        obtain ⟨j, hj, rfl, hck2, hg2⟩ := hrel
        by_cases hlt2 : j < l.length
        · obtain ⟨ad2, x, rfl, hbx, hx, cx, x1, x2⟩ := (hi.kept hg2 HB2.out).at_ hlt2
          have HS2 := Lib.hid (take_succ_all hx wB)
          obtain ⟨K, hK⟩ : ∃ K, needV k (((ll.take r).all fun l => l.all wB) && (l.take j).all wB) 17 = K := ⟨_, rfl⟩
          rw [hK] at hck2
          have HK := Lib.hid hK
          have HC2 := Lib.hid hck2
          clear hx hK hck2
          rcases Bool.eq_false_or_eq_true (wB x) with hin | hin
          · obtain ⟨y1, y2⟩ := inB_iff.1 hin
            have HIN := Lib.hid hin
            clear hin
            have d1 : decide (-2147483648 ≤ x) = true := by simpa using y1
            have d2 : decide (x < 2147483648) = true := by simp; omega
            go_wp2_with (go_at_call 65; refine (bk_need q K 17 true _ HC2.out (by decide)).mono ?_; rintro e w3 ⟨rfl, hc3, hg3⟩)
            go_roundw
            case rel => exact ⟨j + 1, by omega, by go_num, by rw [HS2.out, HIN.out, Bool.and_true, HK.out]; rw [need_true] at hc3; exact hc3, hg2.trans hg3⟩
            case measure => simp [intOf]; omega
          · have y1 := inB_no.1 hin
            have HIN := Lib.hid hin
            clear hin
            rcases Int.lt_or_le x (-2147483648) with y2 | y2
            · have d1 : decide (-2147483648 ≤ x) = false := by simp; omega
              clear y1
              go_wp2_with (go_at_call 65; refine (bk_need q K 17 false _ HC2.out (by decide)).mono ?_; rintro e w3 ⟨rfl, hc3, hg3⟩)
              go_roundw
              case rel => exact ⟨j + 1, by omega, by go_num, by rw [HS2.out, HIN.out, ← Bool.and_assoc, ← need_need (by decide), HK.out]; exact hc3, hg2.trans hg3⟩
              case measure => simp [intOf]; omega
            · have d1 : decide (-2147483648 ≤ x) = true := by simp; omega
              have d2 : decide (x < 2147483648) = false := by simp; omega
              clear y1
              go_wp2_with (go_at_call 65; refine (bk_need q K 17 false _ HC2.out (by decide)).mono ?_; rintro e w3 ⟨rfl, hc3, hg3⟩)
              go_roundw
              case rel => exact ⟨j + 1, by omega, by go_num, by rw [HS2.out, HIN.out, ← Bool.and_assoc, ← need_need (by decide), HK.out]; exact hc3, hg2.trans hg3⟩
              case measure => simp [intOf]; omega
        · obtain rfl : j = l.length := by omega
          rw [List.take_length] at hck2
          go_wp2
          go_roundw
          case rel => exact ⟨r + 1, by omega, by go_num, by rw [HSU.out]; exact hck2, HG.out.trans hg2⟩
          case measure => simp [intOf]; omega
    · obtain rfl : r = n := by omega
      rw [HN.out, List.take_length] at hck
      obtain ⟨K, hK⟩ : ∃ K, needV k (ll.all fun l => l.all wB) 17 = K := ⟨_, rfl⟩
      rw [hK] at hck
      have HK := Lib.hid hK
      have HCK := Lib.hid hck
      have hc := hck.1
      clear hK hck
      go_wp2
      go_ret
      rw [HK.out]
      exact ⟨ret_bool (by rw [Bool.eq_iff_iff]; simp), HCK.out, hg⟩
end Go.Proofs.Ytmdfgidejdiiiaa
end
section
namespace Go.Proofs.Ytmdfgidejdiiiaa
open Go.RowKit
theorem bk_report (q r : Nat) (k old : Int) (u : FrameMode) (w : World) (hc : w.cell? ⟨q, 0, none⟩ = some (.int .i64 k)) (he : w.cell? ⟨r, 0, none⟩ = some (.int .i64 old)) (hf : w.frozen? ⟨r, 0, none⟩ = false) :
    CallsD Try.prog 64 #[.pointer (some ⟨q, 0, none⟩), .pointer (some ⟨r, 0, none⟩)] u w fun e u' w' => u' = u ∧ (e = .returned (.tuple #[]) ∧ w' = w.setCell ⟨r, 0, none⟩ (.int .i64 k)) := by
  go_enter_d Try.func64, Try.ntmps64
  go_wp2
  go_end0
  exact ⟨rfl, rfl⟩
def evenB (n : Nat) : Bool := (n : Int) % 2 == 0
def anE (ls : List Lft) (x : List Int) : Int := needV (needV (needV (needV 0 (lftsB ls) 2) (evenB x.length) 1) (decide (x.length ≤ 4096)) 4) (x.all wB) 17
def anLo (ls : List Lft) (x : List Int) : List Int := if anE ls x = 0 then (analyseF ls x).1 else []
def anHi (ls : List Lft) (x : List Int) : List Int := if anE ls x = 0 then (analyseF ls x).2 else []
theorem need_zero {k c : Int} {b : Bool} (hc : c ≠ 0) (h : needV k b c = 0) : k = 0 ∧ b = true := by
  unfold needV at h
  split at h
  · exact absurd h hc
  · refine ⟨h, ?_⟩
    cases b
    · rename_i hn; exact absurd ⟨h, rfl⟩ hn
    · rfl
theorem anE_zero {ls : List Lft} {x : List Int} (h : anE ls x = 0) : lftsB ls = true ∧ x.length = 2 * (x.length / 2) ∧ x.length ≤ 4096 ∧ W32 x := by
  unfold anE at h
  obtain ⟨h, h4⟩ := need_zero (by decide) h
  obtain ⟨h, h3⟩ := need_zero (by decide) h
  obtain ⟨h, h2⟩ := need_zero (by decide) h
  obtain ⟨_, h1⟩ := need_zero (by decide) h
  refine ⟨h1, ?_, of_decide_eq_true h3, wB_iff.1 h4⟩
  unfold evenB at h2
  rw [beq_iff_eq] at h2
  omega
theorem CheckAt.kept {w w' : World} {q r : Nat} {k : Int} (h : CheckAt w q k) (hg : w.grownBy w' (some r)) (hne : q ≠ r) : CheckAt w' q k :=
  ⟨hg.cell h.1 (by intro e; injection e with e; exact hne e), (World.frozen?_of_block (hg.block q (cell_lt h.1) (by intro e; injection e with e; exact hne e))).trans h.2⟩
theorem CheckAt.drew {w : World} {q : Nat} {k : Int} (h : CheckAt w q k) : CheckAt w.drew q k := h
theorem IntsFar.one {w : World} {q : Nat} {B : Option Addr} {l : List Int} {d : Nat} {t : TypeId} (h : Ints w B l) (hq : q < w.heap.size) (hb : l ≠ [] → ∀ a, B = some a → a.block ≠ q) :
    IntsFar (w.alloc (.cells #[.slice B l.length d] t)) q (some ⟨w.heap.size, 0, none⟩) [l] := fun k l' hk => by
  match k, hk with
  | 0, hk =>
    simp at hk
    subst hk
    exact ⟨_, B, d, rfl, by show w.heap.size ≠ q; omega, by simp [Addr.add, go_sem], h.grow ((Below.refl _ _).alloc (Nat.le_refl _) _), hb⟩
def Ret3 (w : World) (a b : List Int) (E : Int) (e : Ending) (w' : World) : Prop := ∃ v1 v2, e = .returned (.tuple #[v1, v2, .int .i64 E]) ∧ Own w.heap.size w' v1 a ∧ Own w.heap.size w' v2 b ∧ Below w.heap.size w w'
set_option maxRecDepth 100000 in
set_option maxHeartbeats 2000000 in
theorem bk_Analyse (A B : Option Addr) (ls : List Lft) (x : List Int) (c d : Nat) (w : World) (hL : Lifts w A ls) (hx : Ints w B x) (hl : ls.length ≤ 1000000) (hl2 : ∀ s ∈ ls, s.2.2.1.length ≤ 9223372036854775807) (hxl : x.length ≤ 1000000) :
    Calls Try.prog 17 #[.slice A ls.length c, .slice B x.length d] w (Ret3 w (anLo ls x) (anHi ls x) (anE ls x)) := by
  have hfar : x ≠ [] → ∀ a, B = some a → a.block ≠ w.heap.size + 1 := fun hc a e => by have := hx.block hc e; omega
  have HFAR := Lib.hid hfar
  have HL2 := Lib.hid hl2
  have h0 : Below w.heap.size w ((w.alloc (.cells #[.int .i64 0] 40)).alloc (.cells #[.int .i64 0] 89)) := ((Below.refl _ _).alloc (Nat.le_refl _) _).alloc (by simp) _
  have k0 : CheckAt ((w.alloc (.cells #[.int .i64 0] 40)).alloc (.cells #[.int .i64 0] 89)) w.heap.size 0 := ⟨by simp [go_sem], by simp [go_sem]⟩
  have k1 : CheckAt ((w.alloc (.cells #[.int .i64 0] 40)).alloc (.cells #[.int .i64 0] 89)) (w.heap.size + 1) 0 := ⟨by simp [go_sem], by simp [go_sem]⟩
  have H0 := Lib.hid h0
  have K0 := Lib.hid k0
  have K1 := Lib.hid k1
  clear h0 k0 k1 hfar hl2
  go_enter_defers Try.func17, Try.ntmps17
  go_wp2_with fail
  refine (bk_Valid A ls c _ (hL.grow H0.out) hl HL2.out).mono ?_
  rintro e w1 ⟨rfl, hb1⟩
  have hb := H0.out.trans (hb1.mono H0.out.size)
  have hk0 := K0.out.keep hb1
  have hk1 := K1.out.keep hb1
  clear hb1 K0 K1 H0
  go_wp2_with fail
  refine (bk_need (w.heap.size + 1) 0 2 _ _ hk1 (by decide)).mono ?_
  rintro e w2 ⟨rfl, hk1, hg⟩
  have hb := grown_to hb hg (by omega)
  have hk0 := hk0.kept hg (by omega)
  clear hg
  go_wp2_with fail
  refine (bk_need (w.heap.size + 1) _ 1 _ _ hk1 (by decide)).mono ?_
  rintro e w3 ⟨rfl, hk1, hg⟩
  have hb := grown_to hb hg (by omega)
  have hk0 := hk0.kept hg (by omega)
  clear hg
  go_wp2_with fail
  refine (bk_need (w.heap.size + 1) _ 4 _ _ hk1 (by decide)).mono ?_
  rintro e w4 ⟨rfl, hk1, hg⟩
  have hb := grown_to hb hg (by omega)
  have hk0 := hk0.kept hg (by omega)
  clear hg
  go_wp2_with fail
  have ha : Below w.heap.size w (w4.alloc (.cells #[.slice B x.length d] 33)) := hb.alloc hb.size _
  have hba : Below w4.heap.size w4 (w4.alloc (.cells #[.slice B x.length d] 33)) := (Below.refl _ _).alloc (Nat.le_refl _) _
  have hfar4 := IntsFar.one (d := d) (t := 33) (hx.grow hb) (q := w.heap.size + 1) (cell_lt hk1.1) HFAR.out
  have hk1 := hk1.keep hba
  have hk0 := hk0.keep hba
  clear hb hba
  refine (bk_words (w.heap.size + 1) _ _ [x] 1 1 _ hk1 hfar4 rfl (by omega) (by simp; omega)).mono ?_
  rintro e w5 ⟨rfl, hk1, hg⟩
  have hb := grown_to ha hg (by omega)
  have hk0 := hk0.kept hg (by omega)
  clear hg ha hfar4
  obtain ⟨K, hK⟩ : ∃ K, needV (needV (needV (needV 0 (lftsB ls) 2) ((x.length : Int) % 2 == 0) 1) (decide ((x.length : Int) ≤ 4096)) 4) ([x].all fun l => l.all wB) 17 = K := ⟨_, rfl⟩
  rw [hK] at hk1 ⊢
  have hKE : anE ls x = K := by
    rw [← hK]
    unfold anE evenB
    rw [List.all_cons, List.all_nil, Bool.and_true]
    congr 2
    rw [decide_eq_decide]; omega
  have HKE := Lib.hid hKE
  clear hKE hK
  by_cases hz : K = 0
  · subst hz
    obtain ⟨z1, z2, z3, z4⟩ := anE_zero HKE.out
    have Z := Lib.hid (lfts_ok z1)
    have Z2 := Lib.hid z2
    have Z3 := Lib.hid z3
    have Z4 := Lib.hid z4
    have HL := Lib.hid (hL.grow hb)
    have HX := Lib.hid (hx.grow hb)
    clear z1 z2 z3 z4 hL hx
    rw [decide_eq_true (show (0 : Int) = 0 from rfl)]
    go_wp2_with fail
    refine (bk_analyse A B ls x c d (x.length / 2) _ HL.out HX.out Z.out.2 Z.out.1 Z2.out (by have := Z3.out; omega) Z4.out).mono ?_
    rintro e w6 ⟨v1, v2, rfl, o1, o2, hb6⟩
    have O1 := Lib.hid o1
    have O2 := Lib.hid o2
    have HB := Lib.hid hb
    have H6 := Lib.hid (hb.trans (hb6.mono hb.size))
    have H5 := Lib.hid (cell_lt hk1.1)
    have e0 := hk0.keep hb6
    have e1 := hk1.keep hb6
    clear hk0 hk1 hb6 o1 o2 hb
    have c0 := e0.1
    have f0 := e0.2
    have E1 := Lib.hid e1
    have E0 := Lib.hid e0
    clear e0 e1
    go_wp2
    go_region
    first | go_end0 | go_wp2
    refine leaves_cons (f := 64) (args := #[.pointer (some ⟨w.heap.size + 1, 0, none⟩), .pointer (some ⟨w.heap.size, 0, none⟩)]) (by simp) (by simp [go_sem]) ?_
    refine (bk_report (w.heap.size + 1) w.heap.size 0 0 .returning _ ?_ ?_ ?_).mono ?_
    · show (w6.setCell _ _).cell? _ = _
      rw [World.cell?_setCell_other (h := by intro e; have := congrArg Addr.block e; simp at this)]; exact E1.out.1
    · exact (E0.out.set 0).1
    · exact (E0.out.set 0).2
    rintro e u' w'' ⟨rfl, rfl, rfl⟩
    refine ⟨.tuple #[v1, v2, .int .i64 0], ?_, ?_⟩
    · have hcc := ((E0.out.set 0).set 0).1
      simp [go_sem, results, Try.results17, hcc]
    · unfold anLo anHi
      rw [HKE.out, if_pos rfl, if_pos rfl]
      have hs := HB.out.size
      have h5 := H5.out
      refine ⟨v1, v2, rfl, ((O1.out.store (by omega)).store (by omega)).base hs, ((O2.out.store (by omega)).store (by omega)).base hs, ?_⟩
      exact ((H6.out.setCell (Nat.le_refl _) _).drew).setCell (Nat.le_refl _) _
  · have c0 := hk0.1
    have f0 := hk0.2
    have E1 := Lib.hid hk1
    have E0 := Lib.hid hk0
    have HB := Lib.hid hb
    have HZ := Lib.hid hz
    clear hk0 hk1 hb hL hx
    rw [decide_eq_false hz]
    clear hz
    go_wp2
    go_region
    first | go_end0 | go_wp2
    refine leaves_cons (f := 64) (args := #[.pointer (some ⟨w.heap.size + 1, 0, none⟩), .pointer (some ⟨w.heap.size, 0, none⟩)]) (by simp) (by simp [go_sem]) ?_
    refine (bk_report (w.heap.size + 1) w.heap.size K 0 .returning _ ?_ ?_ ?_).mono ?_
    · show (w5.setCell _ _).cell? _ = _
      rw [World.cell?_setCell_other (h := by intro e; have := congrArg Addr.block e; simp at this)]; exact E1.out.1
    · exact (E0.out.set 0).1
    · exact (E0.out.set 0).2
    rintro e u' w'' ⟨rfl, rfl, rfl⟩
    refine ⟨.tuple #[.slice none 0 0, .slice none 0 0, .int .i64 K], ?_, ?_⟩
    · have hcc := ((E0.out.set 0).set K).1
      simp [go_sem, results, Try.results17, hcc]
    · unfold anLo anHi
      rw [HKE.out, if_neg HZ.out, if_neg HZ.out]
      refine ⟨_, _, rfl, Own.nil, Own.nil, ?_⟩
      exact ((HB.out.setCell (Nat.le_refl _) _).drew).setCell (Nat.le_refl _) _
end Go.Proofs.Ytmdfgidejdiiiaa
end
