/- The walk of known of the law of layer 41. -/
import Derived.Test.YtdiflpbioohddaaDoortH2
import Derived.Test.YtdiflpbioohddaaDoortJ
import Derived.Test.YtdiflpbioohddaaDoortCtoCa
import Derived.Test.YtdiflpbioohddaaDoortS22toS28
import Derived.Deep.RegionHeld3
import Derived.Deep.DeepCutAuto
import Derived.Handy
set_option linter.unusedVariables false
set_option linter.unusedSimpArgs false
namespace Go.Proofs.YtdiflpbioohddaaDoor
open Go.RowKit
theorem form_known (A B : Option Addr) (w : World) (hB : Ints w B [1, 2, 3]) (hA : Ints w A [4]) :
  Calls Tryd.prog 28 #[.slice B 3 3, .slice A 1 1, wordV 6 3 1 1, wordV 6 4 1 1] w (RetNet w (6, 3, 1, 1) (6, 4, 1, 1) 3 [[(0, 1), (1, 2), (2, 3), (3, -4)]] [0, 1, 4] 4 0) := by
 have := dr_FormOne A B 1 3 2 1 [4] [1, 2, 3] (6, 3, 1, 1) (6, 4, 1, 1) w hA hB rfl rfl (by decide) (by decide) (by decide) (by decide) (by decide)
 rw [show oneNs [1, 2, 3] [4] 2 1 = [[(0, 1), (1, 2), (2, 3), (3, -4)]] by decide +kernel, show oneNx 2 1 = [0, 1, 4] by decide +kernel] at this
 exact this
theorem mk0D : mkW 0 6 12 2 = (6, 3, 1, 1) := by decide
theorem mk0C : mkW 0 6 9 1 = (6, 4, 1, 1) := by decide
theorem chains_known (NA XA : Option Addr) (nc xc : Nat) (w : World) (hN : NodesAt w NA [[(0, 1), (1, 2), (2, 3), (3, -4)]]) (hI : Ints w XA [0, 1, 4]) :
  Calls Tryd.prog 30 #[netV 6 3 1 1 6 4 1 1 3 NA 1 nc XA 3 xc 4] w (RetIntsL w [[0, 1], [2]] 0) := by
 have := cg_Chains 6 3 1 1 6 4 1 1 3 4 NA XA 1 nc 3 xc [0, 1, 4] true w (fun w' hb => by
  have h := nw_Valid 6 3 1 1 6 4 1 1 3 4 NA XA nc xc [[(0, 1), (1, 2), (2, 3), (3, -4)]] [0, 1, 4] w' (hN.grow hb) (hI.grow hb) (by decide) (by decide) (by decide) ⟨by decide, by decide⟩
  rw [show netB 6 3 1 1 6 4 1 1 3 [[(0, 1), (1, 2), (2, 3), (3, -4)]] [0, 1, 4] 4 = true by decide] at h
  exact h) hI (fun _ => ⟨rfl, rfl, by decide⟩)
 rw [show (if true = true then lnF [0, 1, 4] 3 else []) = [[0, 1], [2]] by decide] at this
 exact this
def zeros12 : List Value := [.int .i64 0, .int .i64 0, .int .i64 0, .int .i64 0, .int .i64 0, .int .i64 0, .int .i64 0, .int .i64 0, .int .i64 0, .slice none 0 0, .slice none 0 0, .int .i64 0]
theorem sepI {w : World} {q : Nat} {XA : Option Addr} (hq : Box w q zeros12) (h : Ints w XA [0, 1, 4]) : ∀ a, XA = some a → some a.block ≠ some q := fun a e hc => by
 subst e
 injection hc with hc
 obtain ⟨ad, x, e, _, hx, hcell, _⟩ := h.at_ (k := 1) (by decide)
 injection e with e
 subst e
 simp at hx
 subst hx
 have := hq.mem_at hcell (by rw [block_add]; exact hc)
 simp [zeros12] at this
theorem sepT {w : World} {q : Nat} {B : Option Addr} (hq : Box w q zeros12) (h : TermsAt w B [(0, 1), (1, 2), (2, 3), (3, -4)]) : ∀ a, B = some a → some a.block ≠ some q := fun a e hc => by
 subst e
 injection hc with hc
 obtain ⟨ad, e, _, hcell, _⟩ := h 1 (1, 2) rfl
 injection e with e
 subst e
 have := hq.mem_at hcell (by rw [block_add]; exact hc)
 simp [zeros12] at this
theorem sepN {w : World} {q : Nat} {A : Option Addr} (hq : Box w q zeros12) (h : NodesAt w A [[(0, 1), (1, 2), (2, 3), (3, -4)]]) : ∀ a, A = some a → some a.block ≠ some q := fun a e hc => by
 subst e
 injection hc with hc
 obtain ⟨ad, B, c, e, _, hcell, _⟩ := h 0 _ rfl
 injection e with e
 subst e
 have := hq.mem_at hcell (by rw [block_add]; exact hc)
 simp [zeros12] at this
def known41F (B : Nat) : Nat → Value → World → Prop
 | 0, v, w => ∃ A, v = .slice A 3 3 ∧ Ints w A [1, 2, 3]
 | 1, v, w => ∃ A, v = .slice A 1 1 ∧ Ints w A [4]
 | 2, v, _ => v = wordT (6, 3, 1, 1)
 | 3, v, _ => v = wordT (6, 4, 1, 1)
 | 4, v, w => ∃ NA nc XA xc, v = .tuple #[netV 6 3 1 1 6 4 1 1 3 NA 1 nc XA 3 xc 4, .int .i64 0] ∧ NodesAt w NA [[(0, 1), (1, 2), (2, 3), (3, -4)]] ∧ Ints w XA [0, 1, 4]
 | 5, v, w => ∃ NA nc XA xc, v = .tuple #[netV 6 3 1 1 6 4 1 1 3 NA 1 nc XA 3 xc 4, .int .i64 0] ∧ NodesAt w NA [[(0, 1), (1, 2), (2, 3), (3, -4)]] ∧ Ints w XA [0, 1, 4]
 | 6, v, w => ∃ NA nc XA xc, v = netV 6 3 1 1 6 4 1 1 3 NA 1 nc XA 3 xc 4 ∧ NodesAt w NA [[(0, 1), (1, 2), (2, 3), (3, -4)]] ∧ Ints w XA [0, 1, 4]
 | 7, v, _ => v = .int .i64 0
 | 8, v, w => ∃ q, v = .pointer (some ⟨q, 0, none⟩) ∧ B ≤ q ∧ Box w q [.int .i64 0, .int .i64 0, .int .i64 0, .int .i64 0, .int .i64 0, .int .i64 0, .int .i64 0, .int .i64 0, .int .i64 0, .slice none 0 0, .slice none 0 0, .int .i64 0]
 | _, _, _ => True
theorem known41F_keep {B : Nat} {w w' : World} (h : Below w.heap.size w w') : ∀ i v, known41F B i v w → known41F B i v w'
 | 0, v, ⟨A, e, hi⟩ => ⟨A, e, hi.grow h⟩
 | 1, v, ⟨A, e, hi⟩ => ⟨A, e, hi.grow h⟩
 | 2, v, e => e
 | 3, v, e => e
 | 4, v, ⟨A, c, X, d, e, hn, hi⟩ => ⟨A, c, X, d, e, hn.grow h, hi.grow h⟩
 | 5, v, ⟨A, c, X, d, e, hn, hi⟩ => ⟨A, c, X, d, e, hn.grow h, hi.grow h⟩
 | 6, v, ⟨A, c, X, d, e, hn, hi⟩ => ⟨A, c, X, d, e, hn.grow h, hi.grow h⟩
 | 7, v, e => e
 | 8, v, ⟨q, e, hB, hb⟩ => ⟨q, e, hB, hb.keep h⟩
 | _ + 9, _, _ => trivial
set_option maxRecDepth 100000 in
set_option maxHeartbeats 4000000 in
theorem known41 (w : World) : Calls Tryd.prog 8 #[] w (BoolBw w true) := by
 have hb := Below.refl w.heap.size w
 go_enter Tryd.func8, Tryd.ntmps8
 go_wp2_with fail
 refine (wd_Data 0 _).mono ?_
 rw [mk0D]
 rintro e w0 ⟨rfl, hb0⟩
 go_upto_region 2 with fail
 have hW : Below w.heap.size w (w0.alloc (.cells #[.int .i64 6, .int .i64 3, .int .i64 1, .int .i64 1] 23)) := (hb0.alloc hb0.size _)
 have hBx : Box (w0.alloc (.cells #[.int .i64 6, .int .i64 3, .int .i64 1, .int .i64 1] 23)) w0.heap.size [.int .i64 6, .int .i64 3, .int .i64 1, .int .i64 1] := Box.new (vs := #[.int .i64 6, .int .i64 3, .int .i64 1, .int .i64 1]) rfl
 generalize (w0.alloc (.cells #[.int .i64 6, .int .i64 3, .int .i64 1, .int .i64 1] 23)) = W at hW hBx ⊢
 obtain ⟨g, hg⟩ : ∃ g, w0.heap.size = g := ⟨_, rfl⟩
 rw [hg] at hBx ⊢
 have HW := Lib.hid hW
 have HBX := Lib.hid hBx
 have hlt := hBx.1
 have S0 : Hid (W.cell? ⟨g, 0, none⟩ = some (.int .i64 6) ∧ W.cell? ⟨g, 1, none⟩ = some (.int .i64 3) ∧ W.cell? ⟨g, 2, none⟩ = some (.int .i64 1) ∧ W.cell? ⟨g, 3, none⟩ = some (.int .i64 1)) := hBx.c4
 clear hb0 hW hBx hg hb
 have hbb := Below.refl W.heap.size W
 refine wp_region_grow 9 (fun w' => Below W.heap.size W w') (fun w1 w2 => Below w1.heap.size w1 w2) (known41F W.heap.size) (by kernel_rfl) (by kernel_rfl) hbb.drew (fun w1 w2 h1 h2 => ⟨below_then h1 h2, fun i _ v => known41F_keep h2 i v⟩) ?_ ?_
 ·refine ⟨?_, ?_, ?_, ?_, ?_, ?_, ?_, ?_, ?_, trivial⟩
  ·intro vs w1 hC hF
   simp [stL, depsB, Region.binds, Act.put]
   go_wp2_with fail
   exact ⟨⟨_, rfl, Ints.lit rfl (by decide)⟩, Below.alloc (Below.refl _ _) (Nat.le_refl _) _⟩
  ·intro vs w1 hC hF
   simp [stL, depsB, Region.binds, Act.put]
   go_wp2_with fail
   exact ⟨⟨_, rfl, Ints.lit rfl (by decide)⟩, Below.alloc (Below.refl _ _) (Nat.le_refl _) _⟩
  ·intro vs w1 hC hF
   simp [stL, depsB, Region.binds, Act.put]
   obtain ⟨b0, b1, b2, b3⟩ := S0.out
   have b0 := (hC.cell hlt).trans b0
   have b1 := (hC.cell hlt).trans b1
   have b2 := (hC.cell hlt).trans b2
   have b3 := (hC.cell hlt).trans b3
   go_wp2_with fail
   exact ⟨rfl, Below.refl _ _⟩
  ·intro vs w1 hC hF
   simp [stL, depsB, Region.binds, Act.put]
   go_wp2_with fail
   refine (wd_Coef 0 _).mono ?_
   rw [mk0C]
   rintro e w2 ⟨rfl, hb2⟩
   go_wp2_with fail
   exact rfl
  ·intro vs w1 hC hF
   obtain ⟨A0, e0, i0⟩ := hF 0 (by decide)
   obtain ⟨A1, e1, i1⟩ := hF 1 (by decide)
   have h2 : vs 2 = wordT (6, 3, 1, 1) := hF 2 (by decide)
   have h3 : vs 3 = wordT (6, 4, 1, 1) := hF 3 (by decide)
   simp [stL, depsB, Region.binds, Act.put]
   rw [e0, e1, h2, h3]
   go_wp2_with fail
   refine (form_known A1 A0 w1 i0 i1).mono ?_
   rintro e w2 ⟨NA, nc, XA, xc, rfl, hN, hI, hb2⟩
   go_wp2_with fail
   exact ⟨NA, nc, XA, xc, rfl, hN, hI⟩
  ·intro vs w1 hC hF
   obtain ⟨NA, nc, XA, xc, e4, hN, hI⟩ := hF 4 (by decide)
   simp [stL, depsB, Region.binds, Act.put]
   rw [e4]
   go_wp2_with fail
   exact ⟨⟨NA, nc, XA, xc, rfl, hN, hI⟩, Below.refl _ _⟩
  ·intro vs w1 hC hF
   obtain ⟨NA, nc, XA, xc, e5, hN, hI⟩ := hF 5 (by decide)
   simp [stL, depsB, Region.binds, Act.put]
   rw [e5]
   go_wp2_with fail
   exact ⟨⟨NA, nc, XA, xc, rfl, hN, hI⟩, Below.refl _ _⟩
  ·intro vs w1 hC hF
   obtain ⟨NA, nc, XA, xc, e5, hN, hI⟩ := hF 5 (by decide)
   simp [stL, depsB, Region.binds, Act.put]
   rw [e5]
   go_wp2_with fail
   exact ⟨rfl, Below.refl _ _⟩
  ·intro vs w1 hC hF
   simp [stL, depsB, Region.binds, Act.put]
   go_wp2_with fail
   exact ⟨⟨_, rfl, hC.size, Box.new rfl⟩, Below.alloc (Below.refl _ _) (Nat.le_refl _) _⟩
 ·intro vs w1 hC hF
  obtain ⟨NA, nc, XA, xc, e6, hN, hI⟩ := hF 6 (by decide)
  have e7 : vs 7 = .int .i64 0 := hF 7 (by decide)
  obtain ⟨q, e8, hqb, hq⟩ := hF 8 (by decide)
  simp [stL, Act.put]
  rw [e6, e7, e8]
  generalize vs 0 = v0
  generalize vs 1 = v1
  generalize vs 2 = v2
  generalize vs 3 = v3
  generalize vs 4 = v4
  generalize vs 5 = v5
  obtain ⟨⟨z1, z2, z3, z4⟩, ⟨z5, z6, z7, z8⟩, z9, z10, z11, z12⟩ := hq.c12
  have hf := hq.2.2
  have hql := hq.1
  go_wp2_with fail
  have hq8 := hq.fill12 (.int .i64 6) (.int .i64 3) (.int .i64 1) (.int .i64 1) (.int .i64 6) (.int .i64 4) (.int .i64 1) (.int .i64 1) (.int .i64 3) (.slice NA 1 nc) (.slice XA 3 xc) (.int .i64 4)
  have hg8 := fill12_grown w1 q (.int .i64 6) (.int .i64 3) (.int .i64 1) (.int .i64 1) (.int .i64 6) (.int .i64 4) (.int .i64 1) (.int .i64 1) (.int .i64 3) (.slice NA 1 nc) (.slice XA 3 xc) (.int .i64 4)
  unfold fill12 at hq8 hg8
  have hN := hN.grown hg8 (sepN hq hN) (fun k ts a B c hk e c0 ht b hb => by
   match k, hk with
   | 0, hk =>
    simp at hk; subst hk
    exact sepT hq ht b hb)
  have hI := hI.kept hg8 (fun _ => sepI hq hI)
  clear z1 z2 z3 z4 z5 z6 z7 z8 z9 z10 z11 z12 hf
  have hwb := HW.out.trans (hC.mono HW.out.size)
  have hw8 := grown_to hwb hg8 (Nat.le_trans HW.out.size hqb)
  generalize ((((((((((((w1.setCell ⟨q, 0, none⟩ (.int .i64 6)).setCell ⟨q, 1, none⟩ (.int .i64 3)).setCell ⟨q, 2, none⟩ (.int .i64 1)).setCell ⟨q, 3, none⟩ (.int .i64 1)).setCell ⟨q, 4, none⟩ (.int .i64 6)).setCell ⟨q, 5, none⟩ (.int .i64 4)).setCell ⟨q, 6, none⟩ (.int .i64 1)).setCell ⟨q, 7, none⟩ (.int .i64 1)).setCell ⟨q, 8, none⟩ (.int .i64 3)).setCell ⟨q, 9, none⟩ (.slice NA 1 nc)).setCell ⟨q, 10, none⟩ (.slice XA 3 xc)).setCell ⟨q, 11, none⟩ (.int .i64 4)) = W8 at hN hI hw8 ⊢
  have HW8 := Lib.hid hw8
  clear hq hq8 hg8 hwb hw8 hF hC hbb S0 HBX hlt hqb hql e6 e7 e8
  refine (chains_known NA XA nc xc W8 hN hI).mono ?_
  rintro e w2 ⟨A2, c2, rfl, hi2, hb2⟩
  have hb := below_then HW8.out hb2
  clear hN hI hb2
  obtain ⟨ad, l0, B0, c0, rfl, hba, hl0, hcell0, hi0⟩ := hi2.at_ (k := 0) (by decide)
  obtain ⟨ad', l1, B1, c1, e, _, hl1, hcell1, hi1⟩ := hi2.at_ (k := 1) (by decide)
  injection e with e
  subst e
  simp at hl0 hl1
  subst hl0
  subst hl1
  have hc0 : w2.cell? ad = some (.slice B0 2 c0) := by simpa [Addr.add] using hcell0
  have hc1 : w2.cell? ⟨ad.block, ad.off + 1, none⟩ = some (.slice B1 1 c1) := by simpa [Addr.add] using hcell1
  clear hcell0 hcell1 hi2
  go_wp2_with fail
  have hL : Ints (w2.alloc (.cells #[.int .i64 0, .int .i64 1] 3)) (some ⟨w2.heap.size, 0, none⟩) [0, 1] := Ints.lit rfl (by decide)
  refine (rf_Same _ _ [0, 1] [0, 1] _ 2 _ (by decide) rfl (hi0.grow (Below.alloc (Below.refl _ _) (Nat.le_refl _) _)) hL).mono ?_
  rintro e w3 ⟨rfl, hb3⟩
  have hg := (Below.alloc (Below.refl w2.heap.size w2) (Nat.le_refl _) _).trans (hb3.mono (by simp))
  have hb := below_then hb hg
  have hi1 := hi1.grow hg
  have hc1 := (hg.cell (p := ⟨ad.block, ad.off + 1, none⟩) hba).trans hc1
  have hba := Nat.lt_of_lt_of_le hba hg.size
  clear hg hb3 hL hi0 hc0
  go_wp2_with fail
  have hL : Ints (w3.alloc (.cells #[.int .i64 2] 3)) (some ⟨w3.heap.size, 0, none⟩) [2] := Ints.lit rfl (by decide)
  refine (rf_Same _ _ [2] [2] _ 1 _ (by decide) rfl (hi1.grow (Below.alloc (Below.refl _ _) (Nat.le_refl _) _)) hL).mono ?_
  rintro e w4 ⟨rfl, hb4⟩
  have hg := (Below.alloc (Below.refl w3.heap.size w3) (Nat.le_refl _) _).trans (hb4.mono (by simp))
  have hb := below_then hb hg
  clear hg hb4 hL
  go_wp2_with fail
  go_ret
  exact ⟨rfl, hb⟩
end Go.Proofs.YtdiflpbioohddaaDoor
