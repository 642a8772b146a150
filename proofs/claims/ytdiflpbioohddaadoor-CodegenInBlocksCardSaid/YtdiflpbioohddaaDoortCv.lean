/- Package codegen: advance. -/
import Derived.Test.YtdiflpbioohddaaDoortCktoCu
import Derived.Deep.DeepCutAuto
import Derived.Deep.CutBlock
import Derived.Deep.LoopGhost
set_option linter.unusedVariables false
set_option linter.unusedSimpArgs false
namespace Go.Proofs.YtdiflpbioohddaaDoor
open Go.RowKit
theorem own_objs {base : Nat} {w : World} {v : Value} {l : List Int} (h : Own base w v l) : ∃ (A : Option Addr) (c : Nat) (Z : List (Nat × Obj)), v = .slice A l.length c ∧ (∀ x ∈ Z, w.heap[x.1]? = some x.2 ∧ base ≤ x.1 ∧ noI x.2) ∧ ∀ w', (∀ x ∈ Z, w'.heap[x.1]? = some x.2) → Ints w' A l := by
 obtain ⟨A, c, e, -, hi⟩ := h.form
 rcases h.1.2 with ⟨e0, h0⟩ | ⟨g, cap, cur, e1, hb, hg, r⟩
 ·refine ⟨A, c, [], e, (by simp), fun w' _ => ?_⟩
  have : l = [] := List.eq_nil_of_length_eq_zero h0
  subst this
  exact Ints.nil
 ·refine ⟨A, c, [(g, .cells cur 3 (0, 0))], e, fun x hx => ?_, fun w' hw => ?_⟩
  ·obtain rfl := List.mem_singleton.1 hx
   exact ⟨hg, hb, by show 3 ≠ 109; decide⟩
  ·have h' : Own base w' v l := ⟨⟨h.1.1, .inr ⟨g, cap, cur, e1, hb, hw _ (List.mem_singleton.2 rfl), r⟩⟩, h.2⟩
   obtain ⟨A', c', e', -, hi'⟩ := h'.form
   rw [e] at e'
   injection e' with e' _ _
   subst e'
   exact hi'
theorem heap_keep {w w' : World} {k : Nat} {o : Obj} (hb : Below w.heap.size w w') (h : w.heap[k]? = some o) : w'.heap[k]? = some o := (hb.block k (lt_heap h)).trans h
theorem heap_new (w : World) (o : Obj) : (w.alloc o).heap[w.heap.size]? = some o := by
 show (w.heap.push o)[w.heap.size]? = some o
 exact Array.getElem?_push_size
theorem ownT_obj {base g n : Nat} {w : World} {l : List Bool} (h : OwnT base w g n l) : w.heap[g]? = some (boolO l) ∧ base ≤ g := by
 obtain ⟨⟨h1, h2⟩, h3⟩ := h
 rcases h2 with ⟨e, -⟩ | ⟨q, cap, cur, e, hb, hg, hc, -, hs, ht⟩
 ·cases e
 ·injection e with e e4 e5
  injection e with e
  injection e with e
  subst e e5
  refine ⟨?_, hb⟩
  rw [hg]
  unfold boolO
  have : cur = (l.map Value.bool).toArray := by
   apply Array.ext'
   rw [← ht, List.take_of_length_le (by simp [hs])]
  rw [this]
theorem noI_bool {l : List Bool} : noI (boolO l) := by
 show 4 ≠ 109; decide
theorem GenAt.sub {base B : Nat} {t : TypeId} {R : List Value} {X X' : List (Nat × Obj)} {w : World} {v : Value} {l : List Ins} (h : GenAt base B t R X' w v l) (hX : ∀ x ∈ X, x ∈ X') : GenAt base B t R X w v l := ⟨h.heap, h.own, h.lo, h.typ, fun x hx => h.keep x (hX x hx)⟩
theorem AdvAt.mk' {base B : Nat} {t : TypeId} {nv : List Value} {gP gS bX bP bS : Nat} {SA : Option Addr} {sc : Nat} {X Z : List (Nat × Obj)} {src : List Int} {w w0 : World} {v : Value} {code : List Ins} {last : Int} {pend saved : List Bool}
  (h : GenAt base B t (genR nv last) X w v code) (h0 : GenAt base B t (genR nv last) X w0 v code) (hZ : ∀ x ∈ Z, w.heap[x.1]? = some x.2 ∧ w0.heap.size ≤ x.1 ∧ noI x.2) (hZi : ∀ w', (∀ x ∈ Z, w'.heap[x.1]? = some x.2) → Ints w' SA src)
  (hP : w.heap[gP]? = some (boolO pend)) (hS : w.heap[gS]? = some (boolO saved)) (hbX : w.heap[bX]? = some (.cells #[.slice SA src.length sc] 25 (0, 0))) (hbP : w.heap[bP]? = some (.cells #[.slice (some ⟨gP, 0, none⟩) src.length src.length] 125 (0, 0)))
  (hbS : w.heap[bS]? = some (.cells #[.slice (some ⟨gS, 0, none⟩) src.length src.length] 125 (0, 0))) (o : w0.heap.size ≤ bX ∧ bX < gP ∧ gP < bP ∧ bP < gS ∧ gS < bS) (hz : ∀ x ∈ Z, x.1 < bX) (pl : pend.length = src.length) (sl : saved.length = src.length) (la : 0 ≤ last ∧ last ≤ 6) :
  AdvAt base B t nv gP gS bX bP bS SA sc (Z ++ X) src w v ⟨code, pend, saved, last⟩ := by
 obtain ⟨o1, o2, o3, o4, o5⟩ := o
 have hB : B < w0.heap.size := lt_heap h0.heap
 have hX : ∀ x ∈ X, x.1 < w0.heap.size := fun x hx => lt_heap (h0.keep x hx).1
 have hb := h0.size
 have nS : noI (.cells #[.slice (some ⟨gS, 0, none⟩) src.length src.length] 125 (0, 0)) := by show 125 ≠ 109; decide
 have nP : noI (.cells #[.slice (some ⟨gP, 0, none⟩) src.length src.length] 125 (0, 0)) := by show 125 ≠ 109; decide
 have nX : noI (.cells #[.slice SA src.length sc] 25 (0, 0)) := by show 25 ≠ 109; decide
 have hZX : GenAt base B t (genR nv last) (Z ++ X) w v code := ⟨h.heap, h.own, h.lo, h.typ, fun x hx => by
  rcases List.mem_append.1 hx with hx | hx
  ·exact ⟨(hZ x hx).1, by have := (hZ x hx).2.1; omega, (hZ x hx).2.2⟩
  ·exact h.keep x hx⟩
 have hall := ((((hZX.more hbS (by omega) nS).more hbP (by omega) nP).more hbX (by omega) nX).more hS (by omega) noI_bool).more hP (by omega) noI_bool
 refine ⟨hall, fun w' hw => hZi w' fun x hx => hw x (List.mem_append_left _ hx), ⟨pl, sl⟩, la, by omega, by omega, by omega, fun x hx => ?_⟩
 rcases List.mem_append.1 hx with hx | hx
 ·have := hz x hx; omega
 ·have := hX x hx; omega
set_option maxRecDepth 100000 in
set_option maxHeartbeats 16000000 in
theorem cg_advance {nv : List Value} {w0 w : World} {B : Nat} {last : Int} {X : List (Nat × Obj)} {v : Value} {code : List Ins} {src : List Int} (XA : Option Addr) (xc : Nat) (hnv : nv.length = 12) (hnv10 : nv[10]? = some (.slice XA src.length xc)) (hX : Ints w0 XA src) (hB0 : Below w0.heap.size w0 w)
  (h : GenAt w0.heap.size B 86 (genR nv last) X w v code) (hn : src.length ≤ 64) (hl : code.length ≤ 500000) (hla : 0 ≤ last ∧ last ≤ 6) (hsr : ∀ x ∈ src, 0 ≤ x ∧ x ≤ 1000) :
  Calls Tryd.prog 38 #[.pointer (some ⟨B, 0, none⟩)] w (RetGen w0.heap.size B 86 (genR nv (advF code last src).last) X w (advF code last src).code) := by
 have x11 : w.cell? ⟨B, 11, none⟩ = some (.slice XA src.length xc) := by
  rw [cell_heap h.heap, List.getElem?_toArray, List.getElem?_cons_succ]
  unfold genR
  rw [List.getElem?_append_left (by omega)]
  exact hnv10
 obtain ⟨n, hn'⟩ : ∃ n, src.length = n := ⟨_, rfl⟩
 have HN := Lib.hid hn'
 rw [hn'] at x11 hn
 have HG := Lib.hid h
 have HX := Lib.hid (hX.grow hB0)
 have HSR := Lib.hid hsr
 have HNV := Lib.hid hnv
 clear h hX hB0 hsr hn' hnv hnv10
 have q0 : (0 : Int) ≤ (n : Int) := by omega
 go_enter Tryd.func38, Tryd.ntmps38
 go_upto_region 1 with (go_at_call 43; (with_reducible refine (sl_CloneI _ _ _ _ _ HX.out HN.out (by omega)).mono ?_); rintro e w1 ⟨v1, rfl, ho1, hb1⟩; obtain ⟨SA, sc, Z, ev, hZ, hZi⟩ := own_objs ho1; rw [HN.out] at ev; subst ev; have HZ := Lib.hid hZ; have HZI := Lib.hid hZi; have HB1 := Lib.hid hb1; clear hb1 ho1 hZ hZi)
 have hnb : Below w1.heap.size w1 (w1.alloc (.cells #[.slice SA n sc] 25)) := (Below.refl _ _).alloc (Nat.le_refl _) _
 have hh := heap_new w1 (.cells #[.slice SA n sc] 25)
 have hsz : w1.heap.size < (w1.alloc (.cells #[.slice SA n sc] 25)).heap.size := lt_heap hh
 obtain ⟨bX, hbX⟩ : ∃ b, b = w1.heap.size := ⟨_, rfl⟩
 rw [← hbX] at hh hsz ⊢
 have HO1 := Lib.hid (show w.heap.size ≤ bX by rw [hbX]; exact HB1.out.size)
 have HZ1 := Lib.hid (show ∀ x ∈ Z, (w1.alloc (.cells #[.slice SA n sc] 25)).heap[x.1]? = some x.2 ∧ w.heap.size ≤ x.1 ∧ noI x.2 from fun x hx => ⟨heap_keep hnb (HZ.out x hx).1, (HZ.out x hx).2⟩)
 have HZL := Lib.hid (show ∀ x ∈ Z, x.1 < bX from fun x hx => by rw [hbX]; exact lt_heap (HZ.out x hx).1)
 have HW1 := Lib.hid (below_then HB1.out hnb)
 generalize w1.alloc (.cells #[.slice SA n sc] 25) = W1 at hh hsz HZ1 HW1 ⊢
 have zX := cell_heap (j := 0) hh
 have HHX := Lib.hid hh
 clear hnb hh HZ HB1 hbX
 have HSW := Lib.hid HW1.out.size
 go_upto_region 2 with ((with_reducible show wpList _ _ _ (Oper.mk (some 23) _ _ _ _ _ :: _) _ _); refine mk_bool rfl _ _ rfl w.heap.size n rfl rfl rfl (by omega) HSW.out ?_; intro w3 ho3 hb3; have HO3 := Lib.hid ho3; have HB3 := Lib.hid hb3; clear ho3 hb3)
 obtain ⟨gP, hgP⟩ : ∃ b, b = W1.heap.size := ⟨_, rfl⟩
 obtain ⟨bP, hbP⟩ : ∃ b, b = w3.heap.size := ⟨_, rfl⟩
 have hnb : Below w3.heap.size w3 (w3.alloc (.cells #[.slice (some ⟨gP, 0, none⟩) n n] 125)) := (Below.refl _ _).alloc (Nat.le_refl _) _
 have hh := heap_new w3 (.cells #[.slice (some ⟨gP, 0, none⟩) n n] 125)
 have hoP := ownT_obj HO3.out
 have hHP := heap_keep hnb hoP.1
 have hHX := heap_keep hnb (heap_keep HB3.out HHX.out)
 have hZ2 : ∀ x ∈ Z, (w3.alloc (.cells #[.slice (some ⟨gP, 0, none⟩) n n] 125)).heap[x.1]? = some x.2 ∧ w.heap.size ≤ x.1 ∧ noI x.2 := fun x hx => ⟨heap_keep hnb (heap_keep HB3.out (HZ1.out x hx).1), (HZ1.out x hx).2⟩
 have hW2 := below_then (below_then HW1.out HB3.out) hnb
 have hlt1 : gP < bP := by rw [hgP, hbP]; exact lt_heap hoP.1
 rw [← hgP] at hsz ⊢
 try rw [← hgP] at hHP
 rw [← hbP] at hh ⊢
 generalize w3.alloc (.cells #[.slice (some ⟨gP, 0, none⟩) n n] 125) = W2 at hh hHP hHX hZ2 hW2 ⊢
 have HZ2 := Lib.hid hZ2
 have zX := cell_heap (j := 0) hHX
 have HHX := Lib.hid hHX
 have HHP := Lib.hid hHP
 have HHbP := Lib.hid hh
 have hsz2 : bP < W2.heap.size := lt_heap hh
 have HW2 := Lib.hid hW2
 clear hnb hh hoP hHP hHX hZ2 hW2 HO3 HB3 HZ1 HW1 hgP hbP
 have HSW2 := Lib.hid HW2.out.size
 go_upto_region 3 with ((with_reducible show wpList _ _ _ (Oper.mk (some 26) _ _ _ _ _ :: _) _ _); refine mk_bool rfl _ _ rfl w.heap.size n rfl rfl rfl (by omega) HSW2.out ?_; intro w4 ho4 hb4; have HO4 := Lib.hid ho4; have HB4 := Lib.hid hb4; clear ho4 hb4)
 obtain ⟨gS, hgS⟩ : ∃ b, b = W2.heap.size := ⟨_, rfl⟩
 obtain ⟨bS, hbS⟩ : ∃ b, b = w4.heap.size := ⟨_, rfl⟩
 have hnb : Below w4.heap.size w4 (w4.alloc (.cells #[.slice (some ⟨gS, 0, none⟩) n n] 125)) := (Below.refl _ _).alloc (Nat.le_refl _) _
 have hh := heap_new w4 (.cells #[.slice (some ⟨gS, 0, none⟩) n n] 125)
 have hoS := ownT_obj HO4.out
 have hHS := heap_keep hnb hoS.1
 have hHX := heap_keep hnb (heap_keep HB4.out HHX.out)
 have hHP := heap_keep hnb (heap_keep HB4.out HHP.out)
 have hHbP := heap_keep hnb (heap_keep HB4.out HHbP.out)
 have hZ3 : ∀ x ∈ Z, (w4.alloc (.cells #[.slice (some ⟨gS, 0, none⟩) n n] 125)).heap[x.1]? = some x.2 ∧ w.heap.size ≤ x.1 ∧ noI x.2 := fun x hx => ⟨heap_keep hnb (heap_keep HB4.out (HZ2.out x hx).1), (HZ2.out x hx).2⟩
 have hW3 := below_then (below_then HW2.out HB4.out) hnb
 have hlt2 : gS < bS := by rw [hgS, hbS]; exact lt_heap hoS.1
 rw [← hgS] at hsz2 ⊢
 try rw [← hgS] at hHS
 rw [← hbS] at hh ⊢
 generalize w4.alloc (.cells #[.slice (some ⟨gS, 0, none⟩) n n] 125) = W3 at hh hHS hHX hHP hHbP hZ3 hW3 ⊢
 have HA : Hid (AdvAt w0.heap.size B 86 nv gP gS bX bP bS SA sc (Z ++ X) src W3 v ⟨code, pendK src 0, List.replicate src.length false, last⟩) := Lib.hid (by
  rw [pendK_zero]
  refine AdvAt.mk' (HG.out.keepB hW3) HG.out hZ3 HZI.out ?_ ?_ ?_ ?_ ?_ ⟨HO1.out, hsz, hlt1, hsz2, hlt2⟩ HZL.out (by simp) (by simp) hla
  ·rw [HN.out]; exact hHP
  ·rw [HN.out]; exact hHS
  ·rw [HN.out]; exact hHX
  ·rw [HN.out]; exact hHbP
  ·rw [HN.out]; exact hh)
 have HWW := Lib.hid (hW3.mono HG.out.size)
 clear hnb hh hoS hHS hHX hHP hHbP hZ3 hW3 HO4 HB4 HZ2 HW2 hgS hbS HSW HSW2 HHX HHP HHbP HZI HZL HO1 hsz hsz2 hlt1 hlt2 zX HX x11 HG
 obtain ⟨zX, zP, zS⟩ := HA.out.cells
 rw [HN.out] at zX zP zS
 have HYX : Hid (∀ x ∈ X, x ∈ Z ++ X) := Lib.hid fun x hx => List.mem_append_right _ hx
 generalize Z ++ X = Y at HA HYX
 go_wp2_with fail
 go_loopw [29, 5] (fun i l wr => ∃ (k lf : Nat), k ≤ n ∧ i = .int .i64 k ∧ l = .int .i64 lf ∧ lf ≤ k ∧ Hid ((pendK src k).count true = lf) ∧ Hid (AdvAt w0.heap.size B 86 nv gP gS bX bP bS SA sc Y src wr v ⟨code, pendK src k, List.replicate src.length false, last⟩) ∧ Hid (Below w0.heap.size w wr)) (fun i _ _ => n - (intOf i).toNat)
 case atStart => exact ⟨0, 0, Nat.zero_le _, rfl, rfl, Nat.le_refl _, Lib.hid (by rw [pendK_zero]; simp [List.count_replicate]), HA, HWW⟩
 case round =>
  obtain ⟨k, lf, hk, rfl, rfl, hlf, HC, HAk, HWk⟩ := hrel
  clear zX zP zS
  obtain ⟨zX, zP, zS⟩ := HAk.out.cells
  rw [HN.out] at zX zP zS
  by_cases hlt : k < n
  ·obtain ⟨ad, x, rfl, hb, hx, hc, i1, i2⟩ := HAk.out.ints.at_ (k := k) (by rw [HN.out]; exact hlt)
   have HGX := Lib.hid (lt_getD hx)
   have x0 : (0 : Int) ≤ (k : Int) := by omega
   have x1 : (k : Int) < (n : Int) := by omega
   have wk : IntKind.i64.wrap ((k : Int) + 1) = (k : Int) + 1 := IntWalk.i64_in _ (by omega)
   have wl : IntKind.i64.wrap ((lf : Int) + 1) = (lf : Int) + 1 := IntWalk.i64_in _ (by omega)
   clear hx
   by_cases hxk : x = (k : Int) + 1
   ·subst hxk
    go_wp2_with fail
    go_roundw
    case rel => exact ⟨k + 1, lf, by omega, by go_num, rfl, by omega, Lib.hid (by rw [pendK_miss HGX.out]; exact HC.out), Lib.hid (by rw [pendK_miss HGX.out]; exact HAk.out), HWk⟩
    case measure => simp [intOf]; omega
   ·have xk : (x != (k : Int) + 1) = true := by simpa using hxk
    have zp := HAk.out.pcell (k := k) (by rw [HN.out]; exact hlt) rfl
    have fp := HAk.out.pfree k
    have HS := Lib.hid (HAk.out.setP k true)
    have HPK := Lib.hid (pendK_hit (by rw [HN.out]; exact hlt) (by rw [HGX.out]; exact hxk))
    have HCK := Lib.hid (count_mark (l := pendK src k) (by rw [pendK_len, HN.out]; exact hlt) (pendK_at (by rw [HN.out]; exact hlt)))
    clear hxk
    go_wp2_with fail
    go_roundw
    case rel => exact ⟨k + 1, lf + 1, by omega, by go_num, by go_num, by omega, Lib.hid (by rw [HPK.out, HCK.out, HC.out]), Lib.hid (by rw [HPK.out]; exact HS.out.1), Lib.hid (HWk.out.trans HS.out.2)⟩
    case measure => simp [intOf]; omega
  ·obtain rfl : n = k := by omega
   have HM : Hid (advM src (adv0 code last src) ≤ 2 * n + 1 ∧ advGo src (2 * n + 1) (adv0 code last src) = advF code last src ∧ (adv0 code last src).code.length + 3 * advM src (adv0 code last src) ≤ 500000 + 3 * (2 * n + 1)) := Lib.hid (by
    have h := adv0_m (code := code) (last := last) (src := src)
    rw [HN.out] at h
    have hcl : (adv0 code last src).code.length = code.length := rfl
    refine ⟨h, ?_, by omega⟩
    unfold advF; rw [HN.out])
   have HA0 : Hid (AdvAt w0.heap.size B 86 nv gP gS bX bP bS SA sc Y src wr v (adv0 code last src)) := Lib.hid (by
    have h := HAk.out
    rw [← HN.out, pendK_all] at h
    exact h)
   have HC0 : Hid ((adv0 code last src).left = lf) := Lib.hid (by
    have h := HC.out
    rw [← HN.out, pendK_all] at h
    exact h)
   generalize adv0 code last src = s0 at HM HA0 HC0
   clear HC HAk HHX
   have hmf : ∀ (fn : Fn) (first cap : Array Value) (w : World), (Instr.makeFunc fn first cap).run Tryd.prog w = .ok (.func fn first cap) w := fun _ _ _ _ => rfl
   obtain ⟨FIN, hFIN⟩ : ∃ x, x = advF code last src := ⟨_, rfl⟩
   rw [← hFIN] at HM
   have HFIN := Lib.hid hFIN
   clear hFIN
   go_wp2_with fail
   clear zX zP zS
   go_loopg [5] (2 * n + 1) (fun g l wr => ∃ (s : AdvS) (vj : Value), l = .int .i64 s.left ∧ Hid (advM src s ≤ g ∧ advGo src g s = FIN ∧ s.code.length + 3 * advM src s ≤ 500000 + 3 * (2 * n + 1)) ∧ Hid (AdvAt w0.heap.size B 86 nv gP gS bX bP bS SA sc Y src wr vj s) ∧ Hid (Below w0.heap.size w wr))
   case atStart => exact ⟨s0, v, by rw [HC0.out], HM, HA0, HWk⟩
   case round =>
    obtain ⟨s, vj, rfl, HMS, HAS, HWS⟩ := hrel
    obtain ⟨sl, hsl⟩ : ∃ x, s.left = x := ⟨_, rfl⟩
    have HSL := Lib.hid hsl
    have hsl64 : sl ≤ 64 := by
     have := left_le HAS.out.wf
     rw [HN.out] at this; omega
    rw [hsl]
    clear hsl
    obtain ⟨zX, zP, zS⟩ := HAS.out.cells
    rw [HN.out] at zX zP zS
    by_cases h0 : sl = 0
    ·subst h0
     go_wp2_with fail
     go_end0
     obtain ⟨-, hm2, -⟩ := HMS.out
     rw [adv_stop HSL.out] at hm2
     rw [← HFIN.out, ← hm2]
     exact ⟨rfl, HWS.out, vj, HAS.out.gen.sub (fun x hx => by unfold advX; simp [HYX.out x hx])⟩
    ·have hs0 : 0 < sl := by omega
     have xs : decide ((0 : Int) < (sl : Int)) = true := decide_eq_true (by omega)
     have xs2 : decide (0 < sl) = true := decide_eq_true hs0
     go_wp2_with fail
     have HLC : Hid (s.code.length + 2 * s.left ≤ 501000) := Lib.hid (by
      have h1 := HMS.out.2.2
      have h2 := HSL.out
      omega)
     obtain ⟨go, hgo⟩ : ∃ g, g = gk := ⟨_, rfl⟩
     subst hgo
     go_loopg [49, 5, 9] n (fun g i l m wr => ∃ (k lf : Nat) (mb : Bool) (vk : Value), k + g = n ∧ i = .int .i64 k ∧ l = .int .i64 lf ∧ m = .bool mb ∧ lf ≤ sl ∧ Hid ((passS src s k).left = lf) ∧ Hid (mb = decide (lf < sl)) ∧ Hid (AdvAt w0.heap.size B 86 nv gP gS bX bP bS SA sc Y src wr vk (passS src s k)) ∧ Hid (Below w0.heap.size w wr))
     case atStart => exact ⟨0, sl, false, vj, Nat.zero_add _, rfl, rfl, rfl, Nat.le_refl _, HSL, Lib.hid (by simp), HAS, HWS⟩
     case round =>
      obtain ⟨k, lf, mb, vk, hk, rfl, rfl, rfl, hlf, HC, HMB, HAk, HWk⟩ := hrel
      clear zX zP zS
      obtain ⟨zX, zP, zS⟩ := HAk.out.cells
      rw [HN.out] at zX zP zS
      by_cases hlt : k < n
      ·obtain ⟨ad, x, rfl, hb, hx, hc, i1, i2⟩ := HAk.out.ints.at_ (k := k) (by rw [HN.out]; exact hlt)
       have HGX := Lib.hid (lt_getD hx)
       have hxr := HSR.out x (List.mem_of_getElem? hx)
       have HKN : Hid (k < src.length) := Lib.hid (by rw [HN.out]; exact hlt)
       have HLK : Hid ((passS src s k).code.length ≤ 501000) := Lib.hid (by
        have := pass_len (src := src) (s := s) k
        have := HLC.out
        omega)
       have x0 : (0 : Int) ≤ (k : Int) := by omega
       have x1 : (k : Int) < (n : Int) := by omega
       obtain ⟨pb, hpb⟩ : ∃ b, (passS src s k).pend.getD k false = b := ⟨_, rfl⟩
       obtain ⟨nb, hnb⟩ : ∃ b, needB src (passS src s k) k = b := ⟨_, rfl⟩
       obtain ⟨sb, hsb⟩ : ∃ b, (passS src s k).saved.getD k false = b := ⟨_, rfl⟩
       have zp := HAk.out.pcell HKN.out hpb
       have zs := HAk.out.scell HKN.out hsb
       have HPS : Hid (passS src s (k + 1) = tryS src (passS src s k) k) := Lib.hid rfl
       have HPB := Lib.hid hpb
       have HNB := Lib.hid hnb
       have HSB := Lib.hid hsb
       have HCAN : Hid (canB src (passS src s k) k = (pb && !nb)) := Lib.hid (by unfold canB; rw [hpb, hnb])
       clear hpb hnb hsb hx i1 i2
       cases pb with
       | false =>
        have HNO : Hid (passS src s (k + 1) = passS src s k) := Lib.hid (by rw [HPS.out]; exact try_no HCAN.out)
        go_wp2_with fail
        go_roundg (gk - 1)
        case rel => exact ⟨k + 1, lf, mb, vk, by omega, by go_num, rfl, rfl, hlf, Lib.hid (by rw [HNO.out]; exact HC.out), HMB, Lib.hid (by rw [HNO.out]; exact HAk.out), HWk⟩
        case measure => omega
       | true =>
        cases nb with
        | true =>
         have HNO : Hid (passS src s (k + 1) = passS src s k) := Lib.hid (by rw [HPS.out]; exact try_no HCAN.out)
         go_wp2_with (go_at_call 69; (with_reducible refine (cg_needed k HAk.out (by rw [HN.out]; omega) HKN.out HNB.out).mono ?_); rintro e w5 ⟨rfl, rfl⟩)
         go_roundg (gk - 1)
         case rel => exact ⟨k + 1, lf, mb, vk, by omega, by go_num, rfl, rfl, hlf, Lib.hid (by rw [HNO.out]; exact HC.out), HMB, Lib.hid (by rw [HNO.out]; exact HAk.out), HWk⟩
         case measure => omega
        | false =>
         have HYES : Hid (passS src s (k + 1) = moveS src (passS src s k) k) := Lib.hid (by rw [HPS.out]; exact try_yes HCAN.out)
         have HLF : Hid ((passS src s (k + 1)).left + 1 = lf) := Lib.hid (by rw [HYES.out, ← HC.out]; exact move_left HPB.out)
         have hlf1 : 1 ≤ lf := by have := HLF.out; omega
         have wl : IntKind.i64.wrap ((lf : Int) - 1) = (lf : Int) - 1 := IntWalk.i64_in _ (by omega)
         have HLA := Lib.hid HAk.out.la
         generalize passS src s k = sk at HC HAk HLK HPB HNB HSB HCAN HPS HYES HLA zp zs
         cases sb with
         | true =>
          go_wp2_with (first
           | (go_at_call 69; (with_reducible refine (cg_needed k HAk.out (by rw [HN.out]; omega) HKN.out HNB.out).mono ?_); rintro e w5 ⟨rfl, rfl⟩)
           | (go_at_call 35; (with_reducible refine (cg_emit 7 7 k 0 HAk.out.gen (ok_small (by omega) (by omega) (by omega) (by omega)) (by have := HLK.out; omega)).mono ?_); rintro e w6 ⟨rfl, hb6, v6, hg6⟩; have HA6 := Lib.hid (HAk.out.emit hg6 HLA.out); have HB6 := Lib.hid hb6; clear hg6 hb6; obtain ⟨yX, yP, yS⟩ := HA6.out.cells; rw [HN.out] at yX yP yS; have yp := HA6.out.pcell HKN.out HPB.out; have yf := HA6.out.pfree k))
          go_roundg (gk - 1)
          case rel => exact ⟨k + 1, lf - 1, true, v6, by omega, by go_num, by go_num, rfl, by omega, Lib.hid (by have := HLF.out; omega), Lib.hid (by symm; apply decide_eq_true; omega), Lib.hid (by rw [HYES.out]; unfold moveS; rw [if_pos HSB.out]; exact (HA6.out.setP k false).1), Lib.hid (HWk.out.trans (HB6.out.trans (HA6.out.setP k false).2))⟩
          case measure => omega
         | false =>
          have hfr : 0 ≤ fetchR x sk.last ∧ fetchR x sk.last ≤ 6 := by
           have := nextR_in HLA.out.1
           unfold fetchR
           split <;> omega
          have HFL := Lib.hid (fetchL_in (v := x) HLA.out)
          obtain ⟨fr, hfe⟩ : ∃ f, fetchR x sk.last = f := ⟨_, rfl⟩
          have HFE := Lib.hid hfe
          rw [hfe] at hfr
          clear hfe
          have HLK2 : Hid ((sk.code ++ fetchI x sk.last).length < 1000000) := Lib.hid (by
           have h1 : (fetchI x sk.last).length ≤ 1 := by unfold fetchI; split <;> simp
           have h2 := HLK.out
           rw [List.length_append]; omega)
          have HLK1 : Hid (sk.code.length < 1000000) := Lib.hid (by have h2 := HLK.out; omega)
          have HOK : Hid (⟨7, fr, k, 0⟩ : Ins).ok := Lib.hid (ok_small (by omega) (by omega) (by omega) (by omega))
          have HXB : Hid (0 ≤ x ∧ x ≤ 1000000) := Lib.hid (by omega)
          have HMV : Hid (moveS src sk k = { sk with code := sk.code ++ fetchI x sk.last ++ [⟨7, fr, k, 0⟩], pend := sk.pend.set k false, last := fetchL x sk.last }) := Lib.hid (by
           unfold moveS
           rw [if_neg (by rw [HSB.out]; decide), HGX.out, HFE.out])
          go_wp2_with (first
           | (go_at_call 69; (with_reducible refine (cg_needed k HAk.out (by rw [HN.out]; omega) HKN.out HNB.out).mono ?_); rintro e w5 ⟨rfl, rfl⟩)
           | (go_at_call 37; (with_reducible refine (cg_fetch HAk.out.gen HNV.out HLA.out HXB.out HLK1.out).mono ?_); rw [HFE.out]; rintro e w5 ⟨rfl, hb5, v5, hg5⟩; have HA5 := Lib.hid (HAk.out.emit hg5 HFL.out); have HB5 := Lib.hid hb5; clear hg5 hb5)
           | (go_at_call 35; (with_reducible refine (cg_emit 7 fr k 0 HA5.out.gen HOK.out HLK2.out).mono ?_); rintro e w6 ⟨rfl, hb6, v6, hg6⟩; have HA6 := Lib.hid (HA5.out.emit hg6 HFL.out); have HB6 := Lib.hid hb6; clear hg6 hb6; obtain ⟨yX, yP, yS⟩ := HA6.out.cells; rw [HN.out] at yX yP yS; have yp := HA6.out.pcell HKN.out HPB.out; have yf := HA6.out.pfree k))
          go_roundg (gk - 1)
          case rel => exact ⟨k + 1, lf - 1, true, v6, by omega, by go_num, by go_num, rfl, by omega, Lib.hid (by have := HLF.out; omega), Lib.hid (by symm; apply decide_eq_true; omega), Lib.hid (by rw [HYES.out, HMV.out]; exact (HA6.out.setP k false).1), Lib.hid (HWk.out.trans (HB5.out.trans (HB6.out.trans (HA6.out.setP k false).2)))⟩
          case measure => omega
      ·obtain rfl : n = k := by omega
       have HPN : Hid (passS src s src.length = passS src s n) := Lib.hid (by rw [HN.out])
       cases mb with
       | true =>
        have HRD : Hid (roundS src s = passS src s n) := Lib.hid (by
         unfold roundS
         rw [HPN.out, HC.out, HSL.out, if_pos (of_decide_eq_true HMB.out.symm)])
        have HRL : Hid (advM src (passS src s n) < advM src s) := Lib.hid (by rw [← HRD.out]; exact round_less HAS.out.wf (by rw [HSL.out]; exact h0))
        have HRC : Hid ((passS src s n).code.length + 3 * advM src (passS src s n) ≤ s.code.length + 3 * advM src s) := Lib.hid (by rw [← HRD.out]; exact round_len HAS.out.wf (by rw [HSL.out]; exact h0))
        go_wp2_with fail
        go_roundg (go - 1)
        case rel => exact ⟨passS src s n, vk, by rw [HC.out], Lib.hid (by
         obtain ⟨m1, m2, m3⟩ := HMS.out
         have h1 := HRL.out
         have h2 := HRC.out
         refine ⟨by omega, ?_, by omega⟩
         rw [← m2, ← HRD.out]
         obtain ⟨g2, rfl⟩ : ∃ g2, go = g2 + 1 := ⟨go - 1, by omega⟩
         rw [adv_next (by rw [HSL.out]; exact h0)]
         rfl), HAk, HWk⟩
        case measure =>
         have h1 := HRL.out
         have h2 := HMS.out.1
         omega
       | false =>
        have HNM : Hid (¬ (passS src s src.length).left < s.left) := Lib.hid (by rw [HPN.out, HC.out, HSL.out]; exact of_decide_eq_false HMB.out.symm)
        have HPE : Hid (passS src s n = s) := Lib.hid (by rw [← HPN.out]; exact pass_same _ (pass_none HNM.out))
        have HAB : Hid (AdvAt w0.heap.size B 86 nv gP gS bX bP bS SA sc Y src wr vk s) := Lib.hid (by have h := HAk.out; rw [HPE.out] at h; exact h)
        have HLS : Hid (lf = sl) := Lib.hid (by rw [← HC.out, HPE.out, HSL.out])
        have HL0 : Hid (s.left ≠ 0) := Lib.hid (by rw [HSL.out]; exact h0)
        obtain ⟨fp, hfp⟩ : ∃ f, firstP s = f := ⟨_, rfl⟩
        have hfl : fp < n := by
         have h := (first_pend HL0.out).1
         rw [HAB.out.wf.pl, HN.out, hfp] at h
         exact h
        have HFP := Lib.hid hfp
        have HRD : Hid (roundS src s = brkS src s fp) := Lib.hid (by
         unfold roundS
         rw [if_neg HNM.out, hfp])
        have HRL : Hid (advM src (roundS src s) < advM src s) := Lib.hid (round_less HAS.out.wf HL0.out)
        have HRC : Hid ((roundS src s).code.length + 3 * advM src (roundS src s) ≤ s.code.length + 3 * advM src s) := Lib.hid (round_len HAS.out.wf HL0.out)
        have HBL : Hid ((brkS src s fp).left = lf) := Lib.hid (by rw [HLS.out, ← HSL.out]; rfl)
        clear hfp HAk HAS HWS HC HMB
        have wf : IntKind.i64.wrap ((fp : Int) + 1) = (fp : Int) + 1 := IntWalk.i64_in _ (by omega)
        go_wp2_with (first
         | (go_at_call 70; (with_reducible refine (sl_IndexB n HAB.out HN.out (by omega) HL0.out).mono ?_); rw [HFP.out]; rintro e w5 ⟨rfl, rfl⟩)
         | (go_at_call 35; (with_reducible refine (cg_emit 6 7 fp 0 HAB.out.gen (ok_small (by omega) (by omega) (by omega) (by omega)) (by have := HLC.out; omega)).mono ?_); rintro e w6 ⟨rfl, hb6, v6, hg6⟩; have HA6 := Lib.hid (HAB.out.emit hg6 HAB.out.la); have HW6 := Lib.hid (HWk.out.trans hb6); clear hg6 hb6; obtain ⟨yX, yP, yS⟩ := HA6.out.cells; rw [HN.out] at yX yP yS))
        clear yX yP yS zX zP zS
        go_loopg [95] n (fun g i wr => ∃ j : Nat, j + g = n ∧ i = .int .i64 j ∧ Hid (AdvAt w0.heap.size B 86 nv gP gS bX bP bS SA sc Y src wr v6 { s with code := s.code ++ [⟨6, 7, fp, 0⟩], saved := savK src s fp j }) ∧ Hid (Below w0.heap.size w wr))
        case atStart => exact ⟨0, Nat.zero_add _, rfl, Lib.hid (by rw [savK_zero HAB.out.wf]; exact HA6.out), HW6⟩
        case round =>
         obtain ⟨j, hj, rfl, HAj, HWj⟩ := hrel
         obtain ⟨zX, zP, zS⟩ := HAj.out.cells
         rw [HN.out] at zX zP zS
         by_cases hltj : j < n
         ·obtain ⟨ad, x, rfl, hb, hx, hc, i1, i2⟩ := HAj.out.ints.at_ (k := j) (by rw [HN.out]; exact hltj)
          have HGX := Lib.hid (lt_getD hx)
          have HJN : Hid (j < src.length) := Lib.hid (by rw [HN.out]; exact hltj)
          have x0 : (0 : Int) ≤ (j : Int) := by omega
          have x1 : (j : Int) < (n : Int) := by omega
          obtain ⟨pb, hpb⟩ : ∃ b, s.pend.getD j false = b := ⟨_, rfl⟩
          have zp := HAj.out.pcell HJN.out hpb
          have HPB := Lib.hid hpb
          clear hpb hx
          cases pb with
          | false =>
           have HMI : Hid (savK src s fp (j + 1) = savK src s fp j) := Lib.hid (savK_miss (by rw [HPB.out]; rintro ⟨h, -⟩; cases h))
           go_wp2_with fail
           go_roundg (gk - 1)
           case rel => exact ⟨j + 1, by omega, by go_num, Lib.hid (by rw [HMI.out]; exact HAj.out), HWj⟩
           case measure => omega
          | true =>
           by_cases hxf : x = (fp : Int) + 1
           ·subst hxf
            have HHI : Hid (savK src s fp (j + 1) = (savK src s fp j).set j true) := Lib.hid (savK_hit HJN.out HPB.out HGX.out)
            have zs := HAj.out.scell HJN.out rfl
            have zf := HAj.out.sfree j
            have HSJ := Lib.hid (HAj.out.setS j true)
            go_wp2_with fail
            go_roundg (gk - 1)
            case rel => exact ⟨j + 1, by omega, by go_num, Lib.hid (by rw [HHI.out]; exact HSJ.out.1), Lib.hid (HWj.out.trans HSJ.out.2)⟩
            case measure => omega
           ·have xf : (x == (fp : Int) + 1) = false := by simpa using hxf
            have HMI : Hid (savK src s fp (j + 1) = savK src s fp j) := Lib.hid (savK_miss (by rw [HGX.out]; rintro ⟨-, h⟩; exact hxf h))
            go_wp2_with fail
            go_roundg (gk - 1)
            case rel => exact ⟨j + 1, by omega, by go_num, Lib.hid (by rw [HMI.out]; exact HAj.out), HWj⟩
            case measure => omega
         ·obtain rfl : n = j := by omega
          have HAE : Hid (AdvAt w0.heap.size B 86 nv gP gS bX bP bS SA sc Y src wr v6 (brkS src s fp)) := Lib.hid (by
           have h := HAj.out
           have e := savK_all (src := src) (s := s) fp
           rw [HN.out] at e
           rw [e] at h
           exact h)
          go_wp2_with fail
          go_roundg (go - 1)
          case rel => exact ⟨brkS src s fp, v6, by rw [HBL.out], Lib.hid (by
           obtain ⟨m1, m2, m3⟩ := HMS.out
           have h1 := HRL.out
           have h2 := HRC.out
           rw [HRD.out] at h1 h2
           refine ⟨by omega, ?_, by omega⟩
           rw [← m2, ← HRD.out]
           obtain ⟨g2, rfl⟩ : ∃ g2, go = g2 + 1 := ⟨go - 1, by omega⟩
           rw [adv_next HL0.out]
           rfl), HAE, HWj⟩
          case measure =>
           have h1 := HRL.out
           have h2 := HMS.out.1
           omega
end Go.Proofs.YtdiflpbioohddaaDoor
