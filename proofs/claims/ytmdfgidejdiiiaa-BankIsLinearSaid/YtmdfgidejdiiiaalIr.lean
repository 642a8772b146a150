/- Reference of rationals: parts. Printed by gen_ir.py. -/
import Derived.Test.YtmdfgidejdiiiaalIq
set_option linter.unusedVariables false
set_option linter.unusedSimpArgs false
namespace Go.Proofs.Ytmdfgidejdiiiaa
open Go.RowKit
def RetPT (b : Nat) (w : World) (x y : Int) (K : Nat) (e : Ending) (w' : World) : Prop := ∃ g1 A1 n1 c1 g2 A2 n2 c2, e = .returned (.tuple #[.agg #[.bool g1, .slice A1 n1 c1], .agg #[.bool g2, .slice A2 n2 c2]]) ∧ IntB b w' (.agg #[.bool g1, .slice A1 n1 c1]) x K ∧ IntB b w' (.agg #[.bool g2, .slice A2 n2 c2]) y K ∧ Below w.heap.size w w'
def pX (neg : Bool) (l r : List Int) : Int := if nv r = 0 then 0 else sgn neg (nv l)
def pY (r : List Int) : Int := if nv r = 0 then 1 else nv r
theorem resCC {fn : Func} {t s : Tmp} {T S : TypeId} (h : fn.results = #[.cell t T, .cell s S]) (tmps : Array Value) (P : Program) (w : World) {g g' : Nat} {v v' : Value} (hp : tmps.getD t undef = .pointer (some ⟨g, 0, none⟩)) (hp' : tmps.getD s undef = .pointer (some ⟨g', 0, none⟩)) (hv : (loadVar T ⟨g, 0, none⟩).run P w = .ok v w) (hv' : (loadVar S ⟨g', 0, none⟩).run P w = .ok v' w) : (results fn tmps).run P w = .ok (.tuple #[v, v']) w := by
  have e1 : tmps[t]?.getD undef = .pointer (some ⟨g, 0, none⟩) := by rw [← Array.getD_eq_getD_getElem?]; exact hp
  have e2 : tmps[s]?.getD undef = .pointer (some ⟨g', 0, none⟩) := by rw [← Array.getD_eq_getD_getElem?]; exact hp'
  simp [results, h, e1, e2, hv, hv', asAddr]
theorem IntB.kept {b g : Nat} {w w' : World} {v : Value} {z : Int} {K : Nat} {t : TypeId} (h : IntB b w v z K) (hg : w.grownBy w' (some g)) (hb : b ≤ g) (ht : TyB w g t) (hn : t ≠ 77) : IntB b w' v z K := by
  obtain ⟨ng, A, n, c, l, e, d, r⟩ := h; exact ⟨ng, A, n, c, l, e, d.kept hg hb ht hn, r⟩
def ptC (w0 : World) (b0 b2 b3 g4 : Nat) (ca cd : List Value) (bA : Nat) (vd : Value) (l : List Int) (w : World) : Prop :=
  Below w0.heap.size w0 w ∧ Box w b0 ca ∧ Box w g4 cd ∧ (∃ x1 x2, Box w b2 [x1, x2]) ∧ Box w b3 [.bool false, .slice none 0 0] ∧ OwG bA w vd l
theorem ptC_grow {w0 w w' : World} {b0 b2 b3 g4 : Nat} {ca cd : List Value} {bA : Nat} {vd : Value} {l : List Int} (h : ptC w0 b0 b2 b3 g4 ca cd bA vd l w) (hb : Below w.heap.size w w') : ptC w0 b0 b2 b3 g4 ca cd bA vd l w' := by
  obtain ⟨h1, h2, h3, ⟨x1, x2, h4⟩, h5, h6⟩ := h
  exact ⟨below_then h1 hb, h2.keep hb, h3.keep hb, ⟨x1, x2, h4.keep hb⟩, h5.keep hb, h6.grow hb⟩
def ptF (p1 va vd : Value) (b2 : Nat) (cs : List Value) : Nat → Value → World → Prop
  | 0, v, _ => v = p1
  | 1, v, _ => v = va
  | 2, v, _ => v = vd
  | 3, _, w => Box w b2 cs
  | _, _, _ => True
theorem pY_pos {r : List Int} (h : Dig r) : 0 < pY r := by
  have := nv_low h
  unfold pY
  split <;> omega
theorem pXY {neg : Bool} {l r : List Int} : frac neg l r = (pX neg l r : Rat) / (pY r : Rat) := by
  unfold frac pX pY
  split
  · rename_i h
    rw [h]
    simp [Rat.div_def]
  · rfl
set_option maxRecDepth 100000 in
set_option maxHeartbeats 4000000 in
theorem r3_partsE (neg : Bool) (A : Option Addr) (n c : Nat) (l : List Int) (B : Option Addr) (m d : Nat) (r : List Int) (b K : Nat) (w : World) (hA : DigB b w A l ∧ l.length = n ∧ n ≤ c ∧ n ≤ K) (hB : DigB b w B r ∧ r.length = m ∧ m ≤ d ∧ m ≤ K) (hb0 : b ≤ w.heap.size) (hK : 1 ≤ K) (h9 : K ≤ 1000000) : Calls Try.prog 60 #[.agg #[.bool neg, .slice A n c, .slice B m d]] w (RetPT b w (pX neg l r) (pY r) K) := by
  obtain ⟨h1, h2, h2', h2''⟩ := hA
  obtain ⟨h3, h4, h4', h4''⟩ := hB
  have CT : Hid (∀ w1, Below w.heap.size w w1 → Calls Try.prog 100 #[.slice B m d] w1 (RetN w1 (nv r) m)) := Lib.hid fun w1 hb => r1_Trim B m d r w1 (h3.grow hb).1 h4 h4' (by omega)
  have HX : Hid (∀ W, Below w.heap.size w W → IntB b W (.agg #[.bool neg, .slice A n c]) (sgn neg (nv l)) K) := Lib.hid fun W hb => IntB.mk ⟨h1.grow hb, h2, h2', h2''⟩
  obtain ⟨px, hpx⟩ : ∃ p, pX neg l r = p := ⟨_, rfl⟩
  obtain ⟨py, hpy⟩ : ∃ p, pY r = p := ⟨_, rfl⟩
  rw [hpx, hpy]
  have HZ : Hid ((px = pX neg l r ∧ py = pY r) ∧ 0 ≤ nv r ∧ m ≤ K ∧ b ≤ w.heap.size) := Lib.hid ⟨⟨hpx.symm, hpy.symm⟩, nv_low h3.1.dig, h4'', hb0⟩
  clear h1 h2 h2' h2'' h3 h4 h4' h4'' hb0 hpx hpy
  obtain ⟨dI, hI1, hI2⟩ := row_Int
  have HI := Lib.hid (And.intro hI1 hI2)
  clear hI1 hI2
  go_enter Try.func60, Try.ntmps60
  go_upto_region 1 with fail
  have hB0 : Below w.heap.size w (((w.alloc (.cells #[.bool neg, .slice A n c, .slice B m d] 28)).alloc (.cells #[.bool false, .slice none 0 0] 26)).alloc (.cells #[.bool false, .slice none 0 0] 26)) := ((((Below.refl _ _).alloc (Nat.le_refl _) _).alloc (by simp; try omega) _).alloc (by simp; try omega) _)
  have bx0 : Box (((w.alloc (.cells #[.bool neg, .slice A n c, .slice B m d] 28)).alloc (.cells #[.bool false, .slice none 0 0] 26)).alloc (.cells #[.bool false, .slice none 0 0] 26)) (w.heap.size) [.bool neg, .slice A n c, .slice B m d] := (((Box.new (by simp)).alloc _).alloc _)
  have bx1 : Box (((w.alloc (.cells #[.bool neg, .slice A n c, .slice B m d] 28)).alloc (.cells #[.bool false, .slice none 0 0] 26)).alloc (.cells #[.bool false, .slice none 0 0] 26)) (w.heap.size + 1) [.bool false, .slice none 0 0] := ((Box.new (by simp)).alloc _)
  have bx2 : Box (((w.alloc (.cells #[.bool neg, .slice A n c, .slice B m d] 28)).alloc (.cells #[.bool false, .slice none 0 0] 26)).alloc (.cells #[.bool false, .slice none 0 0] 26)) (w.heap.size + 1 + 1) [.bool false, .slice none 0 0] := (Box.new (by simp))
  generalize ((w.alloc (.cells #[.bool neg, .slice A n c, .slice B m d] 28)).alloc (.cells #[.bool false, .slice none 0 0] 26)).alloc (.cells #[.bool false, .slice none 0 0] 26) = wA at hB0 bx0 bx1 bx2 ⊢
  have HA := Lib.hid (And.intro hB0 (And.intro bx0 (And.intro bx1 bx2)))
  clear hB0 bx0 bx1 bx2
  have x2 : wA.cell? ⟨w.heap.size, 2, none⟩ = some (.slice B m d) := HA.out.2.1.2.1 2
  go_upto_region 2 with (first
    | (go_at_call 100; (with_reducible refine (CT.out _ HA.out.1).mono ?_); rintro e1 w1 ⟨v1, l1, rfl, o1, n1, m1, k1, hb1⟩; obtain ⟨A1, c1, rfl, -, -⟩ := o1.form; have HB1 := Lib.hid hb1; have H1 := Lib.hid (And.intro o1 (And.intro n1 (And.intro m1 k1))); clear o1 n1 m1 k1 hb1)
    | ((with_reducible show wpList _ _ _ (Oper.mk none (.store 26 _ _) _ _ _ _ :: _) _ _); refine wp_st rfl 26 _ _ rfl w1.heap.size 0 [.bool false, .slice A1 l1.length c1] rfl rfl size_Int rfl (Box.new rfl) (Nat.le_refl _) rfl ?_; intro w2 d2 q2))
  obtain ⟨g4, hg4⟩ : ∃ g, w1.heap.size = g := ⟨_, rfl⟩
  have hb12 : Below w1.heap.size w1 w2 := put_facts ((Below.refl _ _).alloc (Nat.le_refl _) _) (Nat.le_refl _) q2
  have HB12 := Lib.hid (below_then HB1.out hb12)
  have HO1 : Hid (OwG wA.heap.size w2 (.slice A1 l1.length c1) l1 ∧ nv l1 = nv r ∧ Nrm l1 ∧ l1.length ≤ m) := Lib.hid ⟨H1.out.1.grow hb12, H1.out.2⟩
  have hd2 : Box w2 g4 [.bool false, .slice A1 l1.length c1] := hg4 ▸ d2
  have HD := Lib.hid hd2
  have HG4 : Hid (wA.heap.size ≤ g4) := Lib.hid (hg4 ▸ HB1.out.size)
  rw [hg4]
  clear d2 q2 hd2 hb12 hg4 H1 HB1 CT x2
  obtain ⟨q, hq⟩ : ∃ q, l1.length = q := ⟨_, rfl⟩
  rw [hq] at HD HO1 ⊢
  have y1 : w2.cell? ⟨g4, 1, none⟩ = some (.slice A1 q c1) := HD.out.2.1 1
  by_cases hq0 : q = 0
  · subst hq0
    have hr0 : nv r = 0 := by rw [← HO1.out.2.1, List.length_eq_zero_iff.1 hq]; rfl
    have HR0 : Hid (px = 0 ∧ py = 1) := Lib.hid (by
      have h := HZ.out.1
      unfold pX pY at h
      rw [if_pos hr0, if_pos hr0] at h
      exact h)
    clear hr0
    clear hq
    go_wp2_with (first
      | ((with_reducible show wpList _ _ _ (Oper.mk none (.store 26 (.tmp 2) _) _ _ _ _ :: _) _ _); refine wp_st rfl 26 _ _ rfl (w.heap.size + 1) 0 [_, _] rfl rfl size_Int rfl ((HA.out.2.2.1.keep HB12.out).alloc _) (Nat.le_refl _) rfl ?_; intro W1x cA gA)
      | ((with_reducible show wpList _ _ _ (Oper.mk none (.store 26 (.tmp 3) _) _ _ _ _ :: _) _ _); refine wp_st rfl 26 _ _ rfl (w.heap.size + 1 + 1) 0 [_, _] rfl rfl size_Int rfl (((HA.out.2.2.2.keep HB12.out).alloc _).grown gA (fun e => by injection e with e; omega)) (Nat.le_refl _) rfl ?_; intro W2x cB gB))
    have hl1 := HA.out.2.2.1.1
    have hl2 := HA.out.2.2.2.1
    have hs2 := HB12.out.size
    have hba := below_then HA.out.1 HB12.out
    have hb : Below w.heap.size w (w2.alloc (.cells #[.int .u32 1] 77)) := hba.alloc hba.size _
    have hW := put_facts (g := w.heap.size + 1 + 1) (put_facts (g := w.heap.size + 1) hb (by omega) gA) (by omega) gB
    have ho := ((digA_one (w := w2) (x := 1) (by omega)).away gA (by omega)).away gB (by omega)
    have cA' := cA.grown gB (fun e => by injection e with e; omega)
    refine bodyPost_ret (resCC rfl _ _ W2x (g := w.heap.size + 1) (g' := w.heap.size + 1 + 1) rfl rfl (res_box 26 cA' dI HI.out.1 HI.out.2 size_Int) (res_box 26 cB dI HI.out.1 HI.out.2 size_Int)) rfl ?_
    rw [HR0.out.1, HR0.out.2]
    exact ⟨false, none, 0, 0, false, _, 1, 1, rfl, ⟨false, none, 0, 0, [], rfl, ⟨DigA.nil, fun h => absurd rfl h⟩, rfl, Nat.le_refl _, by omega, rfl⟩, ⟨false, _, 1, 1, [1], rfl, ho.digB, rfl, Nat.le_refl _, hK, by decide⟩, hW⟩
  · have hq1 : (q : Int) ≠ 0 := by omega
    have hq2 : ((q : Int) == 0) = false := by simpa using hq0
    have HP0 : Hid (0 < nv r) := Lib.hid (by
      have h := HZ.out.2.1
      have : nv r ≠ 0 := fun e => hq0 (by rw [← hq]; exact List.length_eq_zero_iff.2 ((nrm_zero HO1.out.1.dig HO1.out.2.2.1).1 (HO1.out.2.1.trans e)))
      omega)
    have hc0 : ptC w w.heap.size (w.heap.size + 1) (w.heap.size + 1 + 1) g4 [.bool neg, .slice A n c, .slice B m d] [.bool false, .slice A1 q c1] wA.heap.size (.slice A1 q c1) l1 w2 := ⟨below_then HA.out.1 HB12.out, HA.out.2.1.keep HB12.out, HD.out, ⟨_, _, HA.out.2.2.1.keep HB12.out⟩, HA.out.2.2.2.keep HB12.out, HO1.out.1⟩
    have HC0 := Lib.hid hc0
    have HL1 : Hid (l1.length = q ∧ nv l1 = nv r ∧ q ≤ K) := Lib.hid ⟨hq, HO1.out.2.1, Nat.le_trans HO1.out.2.2.2 HZ.out.2.2.1⟩
    have HG2 : Hid (g4 ≠ w.heap.size + 1 ∧ g4 ≠ w.heap.size + 1 + 1 ∧ w.heap.size + 1 + 1 < wA.heap.size) := Lib.hid (by have := HG4.out; have := HA.out.2.2.2.1; omega)
    clear hc0 hq hq0
    go_upto_region 4 with fail
    clear y1 HA HD HB12 HO1 HG4
    obtain ⟨b2, hb2⟩ : ∃ b, w.heap.size + 1 = b := ⟨_, rfl⟩
    rw [hb2] at HC0 HG2 ⊢
    have HB2 : Hid (w.heap.size < b2) := Lib.hid (by omega)
    refine wp_region_grow2 (fun i => Nat.blt i 4) (fun _ => false) (ptC w w.heap.size b2 (b2 + 1) g4 [.bool neg, .slice A n c, .slice B m d] [.bool false, .slice A1 q c1] wA.heap.size (.slice A1 q c1) l1) (fun a b => (ptC w w.heap.size b2 (b2 + 1) g4 [.bool neg, .slice A n c, .slice B m d] [.bool false, .slice A1 q c1] wA.heap.size (.slice A1 q c1) l1) b ∧ (Box a b2 [.bool neg, .slice A n c] → Box b b2 [.bool neg, .slice A n c])) (ptF (.pointer (some ⟨w.heap.size, 0, none⟩)) (.agg #[.bool neg, .slice A n c]) (.agg #[.bool false, .slice A1 q c1]) b2 [.bool neg, .slice A n c]) (by kernel_rfl) (by kernel_rfl) (ptC_grow HC0.out (Below.refl _ _).drew) (fun a b h1 h2 => ⟨h2.1, fun i hi v hf => by match i, hf with | 0, e => exact e | 1, e => exact e | 2, e => exact e | 3, e => exact h2.2 e | _ + 4, _ => trivial⟩) (fun a h => ⟨h, fun h => h⟩) ?_ (fun _ _ _ _ h => by cases h) ?_
    · refine ⟨?_, ?_, ?_, ?_, trivial⟩
      all_goals
        intro vs w9 hp hF
        have HP := Lib.hid hp
        clear hp
        simp [depsB, Region.binds, ptF] at hF
        simp [stL, depsB, Region.binds, Act.put, hF]
      · go_wp2_with fail
        first | exact ⟨rfl, HP.out⟩ | exact ⟨rfl, HP.out, fun h => h⟩
      · refine wp_ld rfl 26 _ rfl w.heap.size 0 rfl HP.out.2.1 [.bool neg, .slice A n c] (fun j v h => by rcases j with _ | _ | _ | j <;> simp at h ⊢ <;> exact h) dI HI.out.1 HI.out.2 size_Int ?_
        go_wp2_with fail
        first | exact ⟨rfl, HP.out⟩ | exact ⟨rfl, HP.out, fun h => h⟩
      · refine wp_ld rfl 26 _ rfl g4 0 rfl HP.out.2.2.1 [.bool false, .slice A1 q c1] (fun j v h => by rcases j with _ | _ | _ | j <;> simp at h ⊢ <;> exact h) dI HI.out.1 HI.out.2 size_Int ?_
        go_wp2_with fail
        first | exact ⟨rfl, HP.out⟩ | exact ⟨rfl, HP.out, fun h => h⟩
      · obtain ⟨h1, h2, h3, ⟨xa, xb, h4⟩, h5, h6⟩ := HP.out
        have hg := HG2.out
        have hlt := HB2.out
        refine wp_st rfl 26 _ _ rfl b2 0 [.bool neg, .slice A n c] rfl rfl size_Int rfl h4 (Nat.le_refl _) rfl ?_
        intro W9 c9 g9
        have hC9 : (ptC w w.heap.size b2 (b2 + 1) g4 [.bool neg, .slice A n c, .slice B m d] [.bool false, .slice A1 q c1] wA.heap.size (.slice A1 q c1) l1) W9 := ⟨put_facts h1 (by omega) g9, h2.grown g9 (fun e => by injection e with e; omega), h3.grown g9 (fun e => hg.1 (by injection e)), ⟨_, _, c9⟩, h5.grown g9 (fun e => by injection e with e; omega), h6.away g9 (by omega)⟩
        have HC9 := Lib.hid (And.intro hC9 (show Box W9 b2 [.bool neg, .slice A n c] from c9))
        clear hC9 h1 h2 h3 h4 h5 h6 c9 g9
        go_wp2_with fail
        exact ⟨⟨undef, HC9.out.2⟩, HC9.out.1, fun _ => HC9.out.2⟩
    intro vs w9 hp hF
    have e2 : vs 2 = .agg #[.bool false, .slice A1 q c1] := hF 2 (by decide) rfl
    have hb3 : Box w9 b2 [.bool neg, .slice A n c] := hF 3 (by decide) rfl
    obtain ⟨h1, h2, h3, -, h5, h6⟩ := hp
    have hg := HG2.out
    have hlt := HB2.out
    clear hF
    show wpList Try.prog _ _ [_] _ _
    simp [stL, Act.put, e2]
    refine wp_st rfl 26 _ _ rfl (b2 + 1) 0 [.bool false, .slice A1 q c1] rfl rfl size_Int rfl h5 (Nat.le_refl _) rfl ?_
    intro W9 c9 g9
    have hW := put_facts h1 (by omega) g9
    have cA := hb3.grown g9 (fun e => by injection e with e; omega)
    have ho := h6.away g9 (by omega)
    have HF := Lib.hid (And.intro hW (And.intro cA (And.intro ho c9)))
    clear hW cA ho h1 h2 h3 h5 h6 g9 c9 hb3
    go_wp2_with fail
    refine bodyPost_ret (resCC rfl _ _ W9 (g := b2) (g' := b2 + 1) rfl rfl (res_box 26 HF.out.2.1 dI HI.out.1 HI.out.2 size_Int) (res_box 26 HF.out.2.2.2 dI HI.out.1 HI.out.2 size_Int)) rfl ?_
    have ho := HF.out.2.2.1
    have hx9 := HX.out W9 HF.out.1
    have hz9 := HZ.out.1
    have hp9 := HP0.out
    unfold pX pY at hz9
    rw [if_neg (by omega), if_neg (by omega)] at hz9
    rw [← hz9.1] at hx9
    exact ⟨neg, A, n, c, false, A1, q, c1, rfl, hx9, ⟨false, A1, q, c1, l1, rfl, ho.digB, HL1.out.1, ho.len.2, HL1.out.2.2, hz9.2.trans HL1.out.2.1.symm⟩, HF.out.1⟩
theorem r3_parts (v : Value) (z : Rat) (K : Nat) (w0 : World) (h : RatA w0 v z K) (hK : 1 ≤ K) (h9 : K ≤ 1000000) : ∃ x y : Int, 0 < y ∧ z = (x : Rat) / (y : Rat) ∧ ∀ w, Below w0.heap.size w0 w → Calls Try.prog 60 #[v] w (RetPT w0.heap.size w x y K) := by
  obtain ⟨neg, A, n, c, l, B, m, d, r, rfl, ⟨h1, h2⟩, ⟨h3, h4⟩, hz⟩ := h
  exact ⟨_, _, pY_pos h3.dig, hz.trans pXY, fun w hw => r3_partsE neg A n c l B m d r w0.heap.size K w ⟨h1.digB.grow hw, h2⟩ ⟨h3.digB.grow hw, h4⟩ hw.size hK h9⟩
def RatN (b : Nat) (w : World) (v : Value) (p q : Int) (K : Nat) : Prop := ∃ neg A c l B d r, v = .agg #[.bool neg, .slice A l.length c, .slice B r.length d] ∧ (OwG b w (.slice A l.length c) l ∧ Nrm l ∧ l.length ≤ K ∧ sgn neg (nv l) = p) ∧ (OwG b w (.slice B r.length d) r ∧ Nrm r ∧ r.length ≤ K ∧ nv r = q)
theorem RatN.ratO {b : Nat} {w : World} {v : Value} {p q : Int} {K : Nat} (h : RatN b w v p q K) : RatO b w v p q K K := by
  obtain ⟨g, A, c, l, B, d, r, e, h1, h2⟩ := h; exact ⟨g, A, c, l, B, d, r, e, ⟨h1.1, h1.2.2⟩, h2.1, h2.2.2⟩
theorem RatN.grow {b : Nat} {w w' : World} {v : Value} {p q : Int} {K : Nat} (h : RatN b w v p q K) (hb : Below w.heap.size w w') : RatN b w' v p q K := by
  obtain ⟨g, A, c, l, B, d, r, e, h1, h2⟩ := h; exact ⟨g, A, c, l, B, d, r, e, ⟨h1.1.grow hb, h1.2⟩, h2.1.grow hb, h2.2⟩
theorem RatN.away {b g : Nat} {w w' : World} {v : Value} {p q : Int} {K : Nat} (h : RatN b w v p q K) (hb : w.grownBy w' (some g)) (hg : g < b) : RatN b w' v p q K := by
  obtain ⟨n, A, c, l, B, d, r, e, h1, h2⟩ := h; exact ⟨n, A, c, l, B, d, r, e, ⟨h1.1.away hb hg, h1.2⟩, h2.1.away hb hg, h2.2⟩
theorem RatN.base {b b' : Nat} {w : World} {v : Value} {p q : Int} {K : Nat} (h : RatN b w v p q K) (hb : b' ≤ b) : RatN b' w v p q K := by
  obtain ⟨n, A, c, l, B, d, r, e, h1, h2⟩ := h; exact ⟨n, A, c, l, B, d, r, e, ⟨h1.1.base hb, h1.2⟩, h2.1.base hb, h2.2⟩
theorem RatN.le {b : Nat} {w : World} {v : Value} {p q : Int} {K M : Nat} (h : RatN b w v p q K) (hb : K ≤ M) : RatN b w v p q M := by
  obtain ⟨n, A, c, l, B, d, r, e, ⟨h1, h1', h1'', h1s⟩, h2, h2', h2'', h2s⟩ := h; exact ⟨n, A, c, l, B, d, r, e, ⟨h1, h1', by omega, h1s⟩, h2, h2', by omega, h2s⟩
theorem RatN.short {b : Nat} {w : World} {v : Value} {p q : Int} {K M : Nat} (h : RatN b w v p q K) (h1 : p < bp M) (h2 : -p < bp M) (h3 : q < bp M) : RatN b w v p q M := by
  obtain ⟨n, A, c, l, B, d, r, e, ⟨o, m, k, s⟩, o', m', k', s'⟩ := h
  refine ⟨n, A, c, l, B, d, r, e, ⟨o, m, nrm_len o.dig m ?_, s⟩, o', m', nrm_len o'.dig m' (by omega), s'⟩
  cases n <;> simp [sgn] at s <;> omega
theorem RatN.form {b : Nat} {w : World} {v : Value} {p q : Int} {K : Nat} (h : RatN b w v p q K) : ∃ ng A n c B m d, v = .agg #[.bool ng, .slice A n c, .slice B m d] := by
  obtain ⟨n, A, c, l, B, d, r, e, -⟩ := h
  exact ⟨_, _, _, _, _, _, _, e⟩
theorem RatN.ratQ {b : Nat} {w : World} {v : Value} {p q : Int} {K : Nat} (h : RatN b w v p q K) (hq : 0 < q) : RatQ b w v ((p : Rat) / (q : Rat)) K := ⟨p, q, h.ratO, hq, rfl⟩
end Go.Proofs.Ytmdfgidejdiiiaa
