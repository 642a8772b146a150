/- The walk of synthesise of package bank. -/
import Derived.Test.YtimhplkkgbpapaaV3
import Derived.Test.YtimhplkkgbpapaaAs
namespace Go.Proofs.Ytimhplkkgbpapaa
open Go.RowKit

theorem add_cell0 {b k : Nat} : (⟨b, 0, none⟩ : Addr).add k = ⟨b, k, none⟩ := by
  unfold Addr.add; by_cases h0 : k = 0 <;> simp [h0]
theorem syn_succ {ls : List Lft} {k : Nat} {s : Lft} (h : ls[k]? = some s) (p : List Int × List Int) : synF (ls.drop k) p = lift1 (-1) (synF (ls.drop (k + 1)) p) s := by
  have hk := (List.getElem?_eq_some_iff.1 h).1
  have e : ls.drop k = s :: ls.drop (k + 1) := by
    rw [List.drop_eq_getElem_cons hk]
    congr 1
    rw [List.getElem?_eq_getElem hk] at h
    injection h
  unfold synF
  rw [e, List.reverse_cons, List.foldl_append]; rfl
theorem Own.empty {w : World} {g : Nat} (hg : g = w.heap.size) : Own g (w.alloc (.cells #[] 3)) (.slice (some ⟨g, 0, none⟩) 0 0) [] := by
  subst hg
  refine ⟨⟨rfl, .inr ⟨w.heap.size, 0, #[], rfl, Nat.le_refl _, heap_alloc_new w _, Nat.le_refl _, by simp, by simp, by simp⟩⟩, by simp⟩
theorem Own.at_block {base : Nat} {w : World} {v : Value} {l : List Int} {g : Nat} (h : Own base w v l) (hv : v.ownBlock = some g) : ∃ cap, v = .slice (some ⟨g, 0, none⟩) l.length cap ∧ base ≤ g ∧ g < w.heap.size := by
  have h2 := h.1.lt g hv
  obtain ⟨_, ⟨rfl, _⟩ | ⟨g', cap, cur, rfl, _⟩⟩ := h.1
  · cases hv
  · have : some g' = some g := hv
    injection this with e
    subst e
    exact ⟨cap, rfl, h2⟩
set_option maxRecDepth 100000 in
set_option maxHeartbeats 2000000 in
theorem bk_synthesise (A B C : Option Addr) (ls : List Lft) (a b : List Int) (c d e h : Nat) (w : World) (hL : Lifts w A ls) (ha : Ints w B a) (hb : Ints w C b) (hok : ∀ s ∈ ls, LftOk s) (hll : ls.length ≤ 12) (hal : a.length = h) (hbl : b.length = h) (hh : h ≤ 2048) (wa : W32 a) (wb : W32 b) :
    Calls Try.prog 27 #[.slice A ls.length c, .slice B a.length d, .slice C b.length e] w (RetInts1 w (synthF ls a b)) := by
  have HOK := Lib.hid hok
  have WA := Lib.hid wa
  have WB := Lib.hid wb
  have l1 : a.length ≤ 2048 := by omega
  have l2 : b.length ≤ 2048 := by omega
  have HAL := Lib.hid hal
  have HBL := Lib.hid hbl
  clear hok wa wb hal hbl
  go_enter Try.func27, Try.ntmps27
  go_wp2_with (first
    | (at_builtin; refine app_ints _ rfl (.tmp 12) (.tmp 13) rfl w.heap.size rfl rfl (Own.empty rfl) (ha.grow ((Below.refl _ _).alloc (Nat.le_refl _) _)) (by simp; omega) (by simp) ?_; intro v1 w1 ho1 hg1 hv1; have hbw1 : Below w.heap.size w w1 := grown_to ((Below.refl _ _).alloc (Nat.le_refl _) _) hg1 (Nat.le_refl _); have hb1 := hb.grow hbw1)
    | (at_builtin; refine app_ints _ rfl (.tmp 15) (.tmp 16) rfl w1.heap.size rfl rfl (Own.empty rfl) (hb1.grow ((Below.refl _ _).alloc (Nat.le_refl _) _)) (by simp; omega) (by simp) ?_; intro v2 w2 ho2 hg2 hv2))
  have hbw2 : Below w1.heap.size w1 w2 := grown_to ((Below.refl _ _).alloc (Nat.le_refl _) _) hg2 (Nat.le_refl _)
  obtain ⟨g1, hv1', hg1a⟩ : ∃ g, v1.ownBlock = some g ∧ w.heap.size ≤ g := by
    rcases hv1 with h | h
    · exact ⟨_, h, Nat.le_refl _⟩
    · exact ⟨_, h, by simp⟩
  obtain ⟨g2, hv2', hg2a⟩ : ∃ g, v2.ownBlock = some g ∧ w1.heap.size ≤ g := by
    rcases hv2 with h | h
    · exact ⟨_, h, Nat.le_refl _⟩
    · exact ⟨_, h, by simp⟩
  rw [List.nil_append] at ho1 ho2
  obtain ⟨cap1, rfl, _, hg1b⟩ := ho1.at_block hv1'
  obtain ⟨cap2, rfl, _, hg2b⟩ := ho2.at_block hv2'
  have hne1 : g1 ≠ g2 := by omega
  have hne2 : g2 ≠ g1 := by omega
  have ho1 := ho1.grow hbw2
  have ho2 := ho2.base hbw1.size
  have hbw := below_then hbw1 hbw2
  rw [HAL.out] at ho1
  rw [HBL.out] at ho2
  have e1 := HAL.out
  have e2 := HBL.out
  rw [e1, e2]
  have hq1 : Own w.heap.size w2 (.slice (some ⟨g1, 0, none⟩) h cap1) (synF (ls.drop ls.length) (a, b)).1 := by rw [List.drop_length]; exact ho1
  have hq2 : Own w.heap.size w2 (.slice (some ⟨g2, 0, none⟩) h cap2) (synF (ls.drop ls.length) (a, b)).2 := by rw [List.drop_length]; exact ho2
  have hg1c : g1 < w2.heap.size := Nat.lt_of_lt_of_le hg1b hbw2.size
  clear hv1 hv2 hv1' hv2' hg1 hg2 hbw1 hbw2 hb1 ho1 ho2 e1 e2 ha hb
  go_wp2
  go_loopw [9] (fun i wr => ∃ (i0 : Int) (q : Nat), Hid (i0 = (q : Int) - 1) ∧ q ≤ ls.length ∧ -1 ≤ i0 ∧ i0 < ls.length ∧ i = .int .i64 i0 ∧ Own w.heap.size wr (.slice (some ⟨g1, 0, none⟩) h cap1) (synF (ls.drop q) (a, b)).1 ∧ Own w.heap.size wr (.slice (some ⟨g2, 0, none⟩) h cap2) (synF (ls.drop q) (a, b)).2 ∧ Below w.heap.size w wr) (fun i _ => (intOf i + 1).toNat)
  case atStart => exact ⟨(ls.length : Int) - 1, ls.length, rfl, Nat.le_refl _, by omega, by omega, rfl, hq1, hq2, hbw⟩
  case round =>
    obtain ⟨i0, q, HQ, hq, hi0, hi1, rfl, hf1, hf2, hbr⟩ := hrel
    by_cases hpos : 0 ≤ i0
    · obtain ⟨k, rfl⟩ := Int.eq_ofNat_of_zero_le hpos
      obtain rfl : q = k + 1 := by have : (k : Int) = (q : Int) - 1 := HQ.out; omega
      have hk2 : k < ls.length := by omega
      obtain ⟨s, hs⟩ : ∃ s, ls[k]? = some s := ⟨_, List.getElem?_eq_getElem hk2⟩
      obtain ⟨ad, D, cc, rfl, hba, c0, c1, c2, c3, hi, i1, i2⟩ := hL k s hs
      have hcb := fun (hc : s.2.2.1 ≠ []) (a : Addr) (e : D = some a) => hi.block hc e
      have c0 := (hbr.cell (by rw [block_add]; exact hba)).trans c0
      have c1 := (hbr.cell (p := ⟨(ad.add (k * 4)).block, (ad.add (k * 4)).off + 1, none⟩) (by show (ad.add _).block < _; rw [block_add]; exact hba)).trans c1
      have c2 := (hbr.cell (p := ⟨(ad.add (k * 4)).block, (ad.add (k * 4)).off + 2, none⟩) (by show (ad.add _).block < _; rw [block_add]; exact hba)).trans c2
      have c3 := (hbr.cell (p := ⟨(ad.add (k * 4)).block, (ad.add (k * 4)).off + 3, none⟩) (by show (ad.add _).block < _; rw [block_add]; exact hba)).trans c3
      have hir := hi.grow hbr
      clear hi
      have HSU := Lib.hid (syn_succ hs (a, b))
      have HLO := Lib.hid (HOK.out s (List.mem_of_getElem? hs))
      have w32 : W32 (synF (ls.drop (k + 1)) (a, b)).1 ∧ W32 (synF (ls.drop (k + 1)) (a, b)).2 := w32_fold (-1) (ls.drop (k + 1)).reverse (a, b) ⟨WA.out, WB.out⟩
      have W32F := Lib.hid w32
      have hln := fold_length (-1) (ls.drop (k + 1)).reverse (a, b)
      obtain ⟨x, hx⟩ : ∃ x, (synF (ls.drop (k + 1)) (a, b)).1 = x := ⟨_, rfl⟩
      obtain ⟨y, hy⟩ : ∃ y, (synF (ls.drop (k + 1)) (a, b)).2 = y := ⟨_, rfl⟩
      have lx : x.length = h := by rw [← hx]; exact hln.1.trans HAL.out
      have ly : y.length = h := by rw [← hy]; exact hln.2.trans HBL.out
      have hxy : synF (ls.drop (k + 1)) (a, b) = (x, y) := by rw [← hx, ← hy]
      rw [hx] at hf1
      rw [hy] at hf2
      rw [hx, hy] at W32F
      rw [hxy] at HSU
      obtain ⟨o, st, cf, sh⟩ := s
      simp only at c0 c1 c2 c3 hir i1 i2 hcb
      have hch1 : ∀ (W : World), Own w.heap.size W (.slice (some ⟨g1, 0, none⟩) h cap1) x → Own w.heap.size W (.slice (some ⟨g2, 0, none⟩) h cap2) y → Ints W D cf →
          Calls Try.prog 34 #[.agg #[.bool o, .int .i64 st, .slice D cf.length cc, .int .i64 sh], .slice (some ⟨g1, 0, none⟩) h cap1, .slice (some ⟨g2, 0, none⟩) h cap2, .int .i64 (-1)] W
            fun e w' => e = .returned (.tuple #[]) ∧ Own w.heap.size w' (.slice (some ⟨g1, 0, none⟩) h cap1) (stF (o, st, cf, sh) (-1) x y) ∧ W.grownBy w' (some g1) := fun W q1 q2 q3 => by
        have := bk_change o st sh (-1) D (some ⟨g2, 0, none⟩) cf y x cc cap2 h cap1 g1 w.heap.size W HLO.out (.inr rfl) lx.symm (by omega) (by omega) W32F.out.1 W32F.out.2 q1 q3 q2.ints (fun hc ad e => by have := hcb hc ad e; omega) (fun _ ad e => by injection e with e; subst e; exact hne2)
        rw [ly] at this; exact this
      have hch2 : ∀ (W : World), Own w.heap.size W (.slice (some ⟨g1, 0, none⟩) h cap1) x → Own w.heap.size W (.slice (some ⟨g2, 0, none⟩) h cap2) y → Ints W D cf →
          Calls Try.prog 34 #[.agg #[.bool o, .int .i64 st, .slice D cf.length cc, .int .i64 sh], .slice (some ⟨g2, 0, none⟩) h cap2, .slice (some ⟨g1, 0, none⟩) h cap1, .int .i64 (-1)] W
            fun e w' => e = .returned (.tuple #[]) ∧ Own w.heap.size w' (.slice (some ⟨g2, 0, none⟩) h cap2) (stF (o, st, cf, sh) (-1) y x) ∧ W.grownBy w' (some g2) := fun W q1 q2 q3 => by
        have := bk_change o st sh (-1) D (some ⟨g1, 0, none⟩) cf x y cc cap1 h cap2 g2 w.heap.size W HLO.out (.inr rfl) ly.symm (by omega) (by omega) W32F.out.2 W32F.out.1 q2 q3 q1.ints (fun hc ad e => by have := hcb hc ad e; omega) (fun _ ad e => by injection e with e; subst e; exact hne1)
        rw [lx] at this; exact this
      have HCH1 := Lib.hid hch1
      have HCH2 := Lib.hid hch2
      clear hs hx hy hxy hcb hch1 hch2 hln w32
      cases o
      · go_wp2_with (go_at_call 34; refine (HCH1.out _ hf1 hf2 hir).mono ?_; rintro e w3 ⟨rfl, ho3, hg3⟩)
        go_roundw
        case rel => exact ⟨(k : Int) - 1, k, rfl, by omega, by omega, by omega, rfl, by rw [HSU.out]; exact ho3, by rw [HSU.out]; exact hf2.kept_at hg3 hne2, grown_to hbr hg3 (by omega)⟩
        case measure => simp [intOf] <;> omega
      · go_wp2_with (go_at_call 34; refine (HCH2.out _ hf1 hf2 hir).mono ?_; rintro e w3 ⟨rfl, ho3, hg3⟩)
        go_roundw
        case rel => exact ⟨(k : Int) - 1, k, rfl, by omega, by omega, by omega, rfl, by rw [HSU.out]; exact hf1.kept_at hg3 hne1, by rw [HSU.out]; exact ho3, grown_to hbr hg3 (by omega)⟩
        case measure => simp [intOf] <;> omega
    · obtain rfl : q = 0 := by have : i0 = (q : Int) - 1 := HQ.out; omega
      rw [List.drop_zero] at hf1 hf2
      have hln := fold_length (-1) ls.reverse (a, b)
      obtain ⟨x, hx⟩ : ∃ x, (synF ls (a, b)).1 = x := ⟨_, rfl⟩
      obtain ⟨y, hy⟩ : ∃ y, (synF ls (a, b)).2 = y := ⟨_, rfl⟩
      have lx : x.length = h := by rw [← hx]; exact hln.1.trans HAL.out
      have ly : y.length = h := by rw [← hy]; exact hln.2.trans HBL.out
      have HXY : Hid (synthF ls a b = weave x y) := by show weave (synF ls (a, b)).1 (synF ls (a, b)).2 = _; rw [hx, hy]
      rw [hx] at hf1
      rw [hy] at hf2
      obtain ⟨N, hN⟩ : ∃ N, 2 * h = N := ⟨_, rfl⟩
      have hN2 : 2 * (h : Int) = (N : Int) := by omega
      have hN3 : N ≤ 100000000 := by omega
      have LW : Hid ((weave x y).length = N) := by show _ = _; rw [weave_length, lx, hN]
      have LX := Lib.hid lx
      have LY := Lib.hid ly
      have hhN1 : 2 * h ≤ N := by omega
      have hhN2 : N ≤ 2 * h := by omega
      clear hx hy hln lx ly hN
      go_wp2_with (at_make; refine mk_int rfl _ _ rfl wr.heap.size N rfl rfl rfl hN3 (Nat.le_refl _) ?_; intro w3 ho3 hb3)
      obtain ⟨wo, rfl⟩ : ∃ wo : World, wo = wr := ⟨_, rfl⟩
      have hg3 : wo.heap.size < w3.heap.size := ho3.block.2
      have hne3 : g1 < wo.heap.size := hf1.block.2
      have hgw2 : g2 < wo.heap.size := hf2.block.2
      have hf1 := (hf1.grow hb3).ints
      have hf2 := (hf2.grow hb3).ints
      have hbr := below_then hbr hb3
      have hf1b : ∀ ad, some (⟨g1, 0, none⟩ : Addr) = some ad → some ad.block ≠ some wo.heap.size := fun ad e => by injection e with e; subst e; intro e2; injection e2 with e2; have : g1 = wo.heap.size := e2; omega
      have hf2b : ∀ ad, some (⟨g2, 0, none⟩ : Addr) = some ad → some ad.block ≠ some wo.heap.size := fun ad e => by injection e with e; subst e; intro e2; injection e2 with e2; have : g2 = wo.heap.size := e2; omega
      have F1 := Lib.hid hf1
      have F2 := Lib.hid hf2
      have F1B := Lib.hid hf1b
      have F2B := Lib.hid hf2b
      have ho3' : Own wo.heap.size w3 (.slice (some ⟨wo.heap.size, 0, none⟩) N N) (prN (weave x y) (2 * 0)) := by rw [Nat.mul_zero, prN_zero, LW.out]; exact ho3
      have hwo2 : w.heap.size ≤ wo.heap.size := by omega
      clear hf1 hf2 hf1b hf2b ho3 hb3
      go_loopw [11, 50] (fun _ i w4 => ∃ k : Nat, k ≤ h ∧ i = .int .i64 k ∧ Own wo.heap.size w4 (.slice (some ⟨wo.heap.size, 0, none⟩) N N) (prN (weave x y) (2 * k)) ∧ w3.grownBy w4 (some wo.heap.size)) (fun _ i _ => h - (intOf i).toNat)
      case atStart => exact ⟨0, Nat.zero_le _, rfl, ho3', grown_refl _ _⟩
      case round =>
        obtain ⟨k, hk, rfl, hown, hgr⟩ := hrel
        by_cases hk2 : k < h
        · have G1 := F1.out.kept hgr (fun _ => F1B.out)
          have G2 := F2.out.kept hgr (fun _ => F2B.out)
          obtain ⟨ad1, p, e1, hb1, hp, cp, p1, p2⟩ := G1.at_ (k := k) (by rw [LX.out]; exact hk2)
          obtain ⟨ad2, q, e2, hb2, hq, cq, q1, q2⟩ := G2.at_ (k := k) (by rw [LY.out]; exact hk2)
          injection e1 with e1
          injection e2 with e2
          subst e1 e2
          rw [add_cell0] at cp cq
          obtain ⟨m, hm⟩ : ∃ m, 2 * k = m := ⟨_, rfl⟩
          have HS : Hid (prN (weave x y) (2 * (k + 1)) = ((prN (weave x y) (2 * k)).set m p).set (m + 1) q) := by
            show _ = _
            have hl := LW.out
            have hlx := LX.out
            have v1 : el (weave x y) (2 * k) = p := by rw [weave_el (by omega), if_pos (by omega), show 2 * k / 2 = k by omega, el_of hp]
            have v2 : el (weave x y) (2 * k + 1) = q := by rw [weave_el (by omega), if_neg (by omega), show (2 * k + 1) / 2 = k by omega, el_of hq]
            rw [show 2 * (k + 1) = 2 * k + 1 + 1 by omega, prN_succ (by omega), prN_succ (by omega), v1, v2, hm]
          have AT1 : Hid ((prN (weave x y) (2 * k))[m]? = some 0) := by rw [hm]; exact prN_at (by have := LW.out; omega)
          have AT2 : Hid ((prN (weave x y) (2 * k))[m + 1]? = some 0) := by
            have hl := LW.out
            show _ = _
            rw [hm, prN_get (by omega), if_neg (by omega)]
          have t1 := hown.cell AT1.out
          have t2 := hown.cell AT2.out
          have f1 := hown.free m
          have f2 := hown.free (m + 1)
          have z1 : IntKind.i64.wrap (2 * (k : Int)) = (m : Int) := by rw [← hm, IntWalk.i64_in _ (by omega)]; simp
          have z2 : IntKind.i64.wrap ((m : Int) + 1) = (m : Int) + 1 := IntWalk.i64_in _ (by omega)
          have z3 : (0 : Int) ≤ (m : Int) + 1 := by omega
          have z4 : (m : Int) + 1 < (N : Int) := by omega
          have z5 : (m : Int) < (N : Int) := by omega
          have z6 : ((m : Int) + 1).toNat = m + 1 := by omega
          have z7 : (k : Int) < (h : Int) := by omega
          have z8 : (0 : Int) ≤ (k : Int) := by omega
          have HO := Lib.hid hown
          clear hp hq hm hown G1 G2
          go_wp2
          go_region
          clear z1 z2 z3 z4 z5 z6 z7 z8 t1 t2 f1 f2
          go_wp2
          go_roundw
          case rel => exact ⟨k + 1, by omega, by go_num, by rw [HS.out]; exact ⟨((HO.out.set m ⟨p1, p2⟩).set (m + 1) ⟨q1, q2⟩).1.drew, ((HO.out.set m ⟨p1, p2⟩).set (m + 1) ⟨q1, q2⟩).2⟩, grown_drew (grown_set (grown_set hgr))⟩
          case measure => simp [intOf] <;> omega
        · obtain rfl : k = h := by omega
          have he : prN (weave x y) (2 * k) = weave x y := by
            have := prN_all (weave x y)
            rw [LW.out] at this
            rw [show 2 * k = N by omega]; exact this
          rw [he] at hown
          go_wp2
          go_ret
          rw [HXY.out]
          exact RetInts1.mk (hown.base hwo2) (grown_to hbr hgr hwo2)
end Go.Proofs.Ytimhplkkgbpapaa
