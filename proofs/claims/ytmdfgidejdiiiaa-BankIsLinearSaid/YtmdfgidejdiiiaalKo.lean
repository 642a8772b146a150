/- The walk of BankIsLinear. Printed by gen_ko.py. -/
import Derived.Test.YtmdfgidejdiiiaalKjtoMr
import Derived.Test.YtmdfgidejdiiiaalKdtoKh
import Derived.Test.YtmdfgidejdiiiaalMktoKm
import Derived.Test.YtmdfgidejdiiiaalIltoJ8
set_option linter.unusedVariables false
set_option linter.unusedSimpArgs false
namespace Go.Proofs.Ytmdfgidejdiiiaa
open Go.RowKit
def sumK (x y : List Rat) (k : Nat) : List Rat := (List.range k).map fun i => elQ x i + elQ y i
theorem sumK_succ (x y : List Rat) (k : Nat) : sumK x y (k + 1) = sumK x y k ++ [elQ x k + elQ y k] := by simp [sumK, List.range_succ]
theorem sumK_length (x y : List Rat) (k : Nat) : (sumK x y k).length = k := by simp [sumK]
def GotRR (w : World) (z1 z2 : List Rat) (h : Nat) (e : Ending) (w' : World) : Prop := ∃ A c B d, e = .returned (.tuple #[.slice A h c, .slice B h d, .int .i64 0]) ∧ RowQ 0 w' (.slice A h c) z1 10240 ∧ RowQ 0 w' (.slice B h d) z2 10240 ∧ Below w.heap.size w w'
theorem RetRR.got {w w' : World} {z1 z2 : List Rat} {h : Nat} {e : Ending} (g : RetRR w z1 z2 10240 e w') (h1 : z1.length = h) (h2 : z2.length = h) : GotRR w z1 z2 h e w' := by
  obtain ⟨v1, v2, rfl, r1, r2, hb⟩ := g
  obtain ⟨A, c, rfl, -⟩ := r1.form
  obtain ⟨B, d, rfl, -⟩ := r2.form
  rw [h1] at r1
  rw [h2] at r2
  exact ⟨A, c, B, d, by rw [h1, h2], r1.base (Nat.zero_le _), r2.base (Nat.zero_le _), hb⟩
def GotR (w : World) (zs : List Rat) (n K : Nat) (e : Ending) (w' : World) : Prop := ∃ A c, e = .returned (.slice A n c) ∧ RowQ 0 w' (.slice A n c) zs K ∧ Below w.heap.size w w'
theorem RetRats.got {w w' : World} {zs : List Rat} {n K : Nat} {e : Ending} (g : RetRats w zs K e w') (h1 : zs.length = n) : GotR w zs n K e w' := by
  obtain ⟨v1, rfl, r1, hb⟩ := g
  obtain ⟨A, c, rfl, -⟩ := r1.form
  rw [h1] at r1
  exact ⟨A, c, by rw [h1], r1.base (Nat.zero_le _), hb⟩
theorem bk_Analyse_nil (B : Option Addr) (z : List Int) (d h Z : Nat) (w : World) (hz : z.length = 2 * h) (hZ : z.length = Z) (hh : h ≤ 20) (hw : W32 z) (hI : Ints w B z) :
    Calls Try.prog 17 #[.slice none 0 0, .slice B Z d] w (Got3 w (evF z) (odF z) h h 0) := by
  have h1 := got_Analyse none B [] z 0 d h w (by decide) hz (by omega) hw Lifts.nil hI
  rw [hZ] at h1
  have h2 := ev_length hz
  have h3 := od_length hz
  refine h1.mono fun e w' g => ?_
  obtain ⟨A, c, B, d, rfl, i1, i2, hb⟩ := g
  exact ⟨A, c, B, d, by rw [show (analyseF [] z).1 = evF z from rfl, show (analyseF [] z).2 = odF z from rfl, h2, h3], i1, i2, hb⟩
def GotP (w : World) (a b : List Int) (h : Nat) (e : Ending) (w' : World) : Prop := ∃ ad c A1 c1 A2 c2, e = .returned (.tuple #[.slice (some ad) 2 c, .int .i64 0]) ∧ ad.block < w'.heap.size ∧ w'.cell? ad = some (.slice A1 h c1) ∧ w'.cell? ⟨ad.block, ad.off + 1, none⟩ = some (.slice A2 h c2) ∧ Ints w' A1 a ∧ Ints w' A2 b ∧ Below w.heap.size w w'
theorem got_Phases (B : Option Addr) (z : List Int) (d h Z : Nat) (w : World) (hz : z.length = 2 * h) (hZ : z.length = Z) (hh : h ≤ 20) (hI : Ints w B z) :
    Calls Try.prog 31 #[.slice B Z d, .int .i64 2] w (GotP w (evF z) (odF z) h) := by
  have h1 := mr_Phases B z d 2 w (by omega) hI
  have h4 : downE z.length 2 = 0 := by unfold downE; rw [if_pos (by decide), if_neg (by omega)]
  have h5 : phV z 2 = [evF z, odF z] := by
    unfold phV
    rw [if_pos h4]
    rfl
  have h2 := ev_length hz
  have h3 := od_length hz
  rw [hZ] at h1
  rw [hZ] at h4
  rw [h4, h5] at h1
  refine h1.mono fun e w' g => ?_
  obtain ⟨A, c, rfl, hL, hb⟩ := g
  obtain ⟨ad, B1, c1, rfl, hl, e1, i1⟩ := hL 0 _ rfl
  obtain ⟨ad', B2, c2, e3, hl', e2, i2⟩ := hL 1 _ rfl
  injection e3 with e3
  subst e3
  rw [h2] at e1
  rw [h3] at e2
  exact ⟨ad, c, B1, c1, B2, c2, rfl, hl, (show ad.add 0 = ad from rfl) ▸ e1, (show ad.add 1 = ⟨ad.block, ad.off + 1, none⟩ from rfl) ▸ e2, i1, i2, hb⟩
theorem got_Lifts3 (u : (Option Addr × Nat × List Bool) × (Option Addr × Nat × List Int) × (Option Addr × Nat × List Int) × (Option Addr × Nat × List Int)) :
    ∃ ls : List Lft, lftsB ls = true ∧ ls.length ≤ 5 ∧ (∀ s ∈ ls, s.2.2.1.length ≤ 3) ∧ ∀ w, StepsAt w u → Calls Try.prog 26 #[stepsV u] w (GotL w ls) := by
  obtain ⟨⟨O, c1, os⟩, ⟨S, c2, st⟩, ⟨C, c3, cf⟩, ⟨H, c4, sh⟩⟩ := u
  refine ⟨lftsF os st cf sh (min os.length 5), lftsF_ok _ _ _ _ _ (Nat.min_le_right _ _), by rw [lftsF_length]; exact Nat.min_le_right _ _, fun s hs => ?_, fun w ⟨⟨h1, _⟩, ⟨h2, _⟩, ⟨h3, _⟩, ⟨h4, _⟩⟩ => ?_⟩
  · unfold lftsF at hs
    obtain ⟨i, -, rfl⟩ := List.mem_map.1 hs
    exact (mkL_ok _ _ _ _ i).2
  · refine (st_Lifts O S C H os st cf sh c1 c2 c3 c4 w h1 h2 h3 h4).mono ?_
    rintro e w' ⟨v, rfl, ho, hb⟩
    obtain ⟨A, c, rfl, hL⟩ := ho.form
    exact ⟨A, c, rfl, hL, hb⟩
set_option maxRecDepth 100000 in
set_option maxHeartbeats 4000000 in
theorem law_BankIsLinear (u : (Option Addr × Nat × List Bool) × (Option Addr × Nat × List Int) × (Option Addr × Nat × List Int) × (Option Addr × Nat × List Int)) (t1 t2 : Option Addr × Nat × List Int) (w : World) (hu : StepsAt w u)
    (ht1 : Ints w t1.1 t1.2.2 ∧ t1.2.2.length ≤ 9223372036854775807) (ht2 : Ints w t2.1 t2.2.2 ∧ t2.2.2.length ≤ 9223372036854775807) :
    Calls Try.prog 5 #[stepsV u, .slice t1.1 t1.2.2.length t1.2.1, .slice t2.1 t2.2.2.length t2.2.1] w fun e w' => e = .returned (.bool true) ∧ Below w.heap.size w w' := by
  obtain ⟨ls, hok, hl5, hc3, hcl⟩ := got_Lifts3 u
  obtain ⟨T, cT, x⟩ := t1
  obtain ⟨F, cF, y⟩ := t2
  obtain ⟨hT, hx1⟩ := ht1
  obtain ⟨hF, hy1⟩ := ht2
  dsimp only at hT hx1 hF hy1 ⊢
  obtain ⟨z, hz, hz1, hz2, hz3, hcw⟩ := got_wide x
  obtain ⟨X, hXn⟩ : ∃ n, x.length = n := ⟨_, rfl⟩
  obtain ⟨Y, hYn⟩ : ∃ n, y.length = n := ⟨_, rfl⟩
  obtain ⟨L, hLn⟩ : ∃ n, ls.length = n := ⟨_, rfl⟩
  obtain ⟨n, hn⟩ : ∃ n, min X Y / 2 * 2 % 20 = n := ⟨_, rfl⟩
  obtain ⟨h, hh⟩ : ∃ h, n / 2 = h := ⟨_, rfl⟩
  have hn2 : n = 2 * h ∧ h ≤ 9 := by omega
  have HN := Lib.hid hn2
  have b0 := fun o => (Below.refl w.heap.size w).alloc (Nat.le_refl _) o
  have HU2 : Hid (∀ o, StepsAt (w.alloc o) u) := Lib.hid fun o => by
    obtain ⟨⟨h1, k1⟩, ⟨h2, k2⟩, ⟨h3, k3⟩, ⟨h4, k4⟩⟩ := hu
    exact ⟨⟨h1.grow (b0 o), k1⟩, ⟨h2.grow (b0 o), k2⟩, ⟨h3.grow (b0 o), k3⟩, ⟨h4.grow (b0 o), k4⟩⟩
  have HB0 := Lib.hid b0
  have HCL := Lib.hid hcl
  have CR1 : Hid (∀ w1, Below w.heap.size w w1 → Calls Try.prog 27 #[.slice T X cT, .int .i64 (n : Int)] w1 (GotR w1 (ratsF x n) n 2)) := Lib.hid fun w1 hb => by
    have h1 := wd_Rats T x cT n w1 (by omega) (hT.grow hb)
    rw [hXn] at h1
    exact h1.mono fun e w' g => g.got (ratsF_length x n)
  have CR2 : Hid (∀ w1, Below w.heap.size w w1 → Calls Try.prog 27 #[.slice F Y cF, .int .i64 (n : Int)] w1 (GotR w1 (ratsF y n) n 2)) := Lib.hid fun w1 hb => by
    have h1 := wd_Rats F y cF n w1 (by omega) (hF.grow hb)
    rw [hYn] at h1
    exact h1.mono fun e w' g => g.got (ratsF_length y n)
  have CW : Hid (∀ w1, Below w.heap.size w w1 → Calls Try.prog 30 #[.slice T X cT] w1 (GotI w1 z)) := Lib.hid fun w1 hb => by
    have h1 := hcw w1 T cT hx1 (hT.grow hb)
    rw [hXn] at h1
    exact h1
  have CE : Hid (∀ (w1 : World) (A B : Option Addr) (c d K bx : Nat) (xs : List Rat), Lifts w1 A ls → RowQ bx w1 (.slice B n d) xs K → (2 ≤ K ∧ K ≤ 5) → Calls Try.prog 29 #[.slice A L c, .slice B n d] w1 (GotRR w1 (exactF ls xs h).1 (exactF ls xs h).2 h)) := Lib.hid fun w1 A B c d K bx xs hL hX hK =>
    (bk_Exact A B ls xs c d L n h K bx w1 hL hX hLn (by omega) hok hc3 hn2.1 (by omega) hK).mono fun e w' g => g.got (exactF_length ls xs h).1 (exactF_length ls xs h).2
  have HLN := Lib.hid hLn
  rw [hXn, hYn]
  have xX : (X : Int) ≤ 9223372036854775807 := by omega
  have xY : (Y : Int) ≤ 9223372036854775807 := by omega
  obtain ⟨q, hq⟩ : ∃ q, min X Y = q := ⟨_, rfl⟩
  have xq : min (X : Int) (Y : Int) = (q : Int) := by omega
  have xq1 : (q : Int) ≤ 9223372036854775807 := by omega
  have xn : (q : Int) / 2 * 2 % 20 = (n : Int) := by omega
  have xm : ((q : Int) / 2 * 2).tmod 20 = (n : Int) := by rw [Int.tmod_eq_emod_of_nonneg (by omega)]; exact xn
  have xt : (q : Int).tdiv 2 = (q : Int) / 2 := Int.tdiv_eq_ediv_of_nonneg (by omega)
  have xw : wrap64 ((q : Int) / 2 * 2) = (q : Int) / 2 * 2 := by unfold wrap64; omega
  have HXQ := Lib.hid xq
  have HXM := Lib.hid xm
  have HXW := Lib.hid xw
  have HXT := Lib.hid xt
  have HXN := Lib.hid xn
  obtain ⟨⟨O, k1, os⟩, ⟨S, k2, st⟩, ⟨C, k3, cf⟩, ⟨H, k4, sh⟩⟩ := u
  have HCL : Hid (∀ w, StepsAt w ((O, k1, os), (S, k2, st), (C, k3, cf), (H, k4, sh)) → Calls Try.prog 26 #[.agg #[.slice O os.length k1, .slice S st.length k2, .slice C cf.length k3, .slice H sh.length k4]] w (GotL w ls)) := hcl
  clear hok hl5 hc3 hcl hT hx1 hF hy1 hcw hn hh hn2 b0 hu hXn hYn hq xm xt xw xn
  unfold stepsV
  simp only
  obtain ⟨dsR, hR1, hR2⟩ := row_Rat
  have HRR := Lib.hid (And.intro hR1 hR2)
  clear hR1 hR2
  go_enter Try.func5, Try.ntmps5
  go_upto_region 2 with (go_at_call 26; (with_reducible refine (HCL.out _ (HU2.out _)).mono ?_); rintro e1 w1 ⟨A, cA, rfl, hL, hb1⟩)
  go_upto_region 3 with fail
  rw [HXN.out]
  have HB1 := Lib.hid (below_then (HB0.out _) hb1)
  have HL1 := Lib.hid hL
  clear hb1 hL HU2 HCL HB0 xX xY xq xq1 HXQ HXM HXW HXT HXN
  obtain ⟨xs, hxs⟩ : ∃ l, ratsF x n = l := ⟨_, rfl⟩
  obtain ⟨ys, hys⟩ : ∃ l, ratsF y n = l := ⟨_, rfl⟩
  have HXL : Hid (xs.length = n ∧ ys.length = n) := Lib.hid ⟨hxs ▸ ratsF_length x n, hys ▸ ratsF_length y n⟩
  rw [hxs] at CR1
  rw [hys] at CR2
  clear hxs hys
  go_upto_region 4 with (first
    | (go_at_call 27; (with_reducible refine (CR1.out _ HB1.out).mono ?_); rintro e2 w2 ⟨P1, p1, rfl, hr1, hb2⟩; have HB2 := Lib.hid (below_then HB1.out hb2); have HD2 := Lib.hid hb2; clear hb2)
    | (go_at_call 27; (with_reducible refine (CR2.out _ HB2.out).mono ?_); rintro e3 w3 ⟨P2, p2, rfl, hr2, hb3⟩))
  have HB3 := Lib.hid (below_then HB2.out hb3)
  have HR1 := Lib.hid (hr1.grow hb3)
  have HR2 := Lib.hid hr2
  have HL3 := Lib.hid (HL1.out.grow (below_then HD2.out hb3))
  clear hr1 hr2 hb3 HB1 HB2 HD2 HL1 CR1 CR2
  have xn18 : n ≤ 18 := by have := HN.out; omega
  go_wp2_with fail
  go_loopw [11, 12] (fun v i wr => ∃ (k : Nat) (PA : Option Addr) (pc : Nat), k ≤ n ∧ i = .int .i64 k ∧ v = .slice PA k pc ∧ Hid (RowQ w3.heap.size wr (.slice PA k pc) (sumK xs ys k) 5) ∧ Hid (Below w3.heap.size w3 wr)) (fun _ i _ => n - (intOf i).toNat)
  case atStart => exact ⟨0, none, 0, Nat.zero_le _, rfl, rfl, Lib.hid RowQ.nil, Lib.hid (Below.refl _ _)⟩
  case round =>
    obtain ⟨k, PA, pc, hk, rfl, rfl, HC, HBW⟩ := hrel
    by_cases hlt : k < n
    · have x0 : (0 : Int) ≤ (k : Int) := by omega
      have x1 : (k : Int) < (n : Int) := by omega
      obtain ⟨gx, g1, A1, n1, c1, B1, m1, d1, z1, rfl, hz1, hA1⟩ := HR1.out.atW (k := k) (by have h1 := HXL.out; omega)
      obtain ⟨gy, g2, A2, n2, c2, B2, m2, d2, z2, rfl, hz2, hA2⟩ := HR2.out.atW (k := k) (by have h1 := HXL.out; omega)
      have HZ : Hid (elQ xs k + elQ ys k = z1 + z2) := Lib.hid (by rw [elQ_of hz1, elQ_of hz2])
      have HA1 := Lib.hid hA1
      have HA2 := Lib.hid hA2
      have CA : Hid (∀ w', Below w3.heap.size w3 w' → Calls Try.prog 28 #[.agg #[.bool g1, .slice A1 n1 c1, .slice B1 m1 d1], .agg #[.bool g2, .slice A2 n2 c2, .slice B2 m2 d2]] w' (RetQ w' (z1 + z2) 5)) := Lib.hid fun w' hb => r3_Add _ _ z1 z2 2 2 w' (HA1.out w' hb).1.arg (HA2.out w' hb).1.arg (by decide) (by decide) (by decide) (by decide)
      have hl1 : (sumK xs ys k).length ≤ 100000 := by rw [sumK_length]; have h1 := HN.out; omega
      have HLL := Lib.hid hl1
      clear hz1 hz2 hA1 hA2 hl1
      go_upto_region 8 with fail
      refine wp_region_grow8 (fun i => Nat.blt i 11) (fun _ => false) (fun w9 => Below wr.heap.size wr w9) (fun a b => Below a.heap.size a b) (dT wr.heap.size [.v (.slice PA k pc), .v (.slice (some ⟨gx, 0, none⟩) n p1), .v (.int .i64 (k : Int)), .v (.pointer (some ⟨gx, k * 3, none⟩)), .v (.agg #[.bool g1, .slice A1 n1 c1, .slice B1 m1 d1]), .v (.slice (some ⟨gy, 0, none⟩) n p2), .v (.int .i64 (k : Int)), .v (.pointer (some ⟨gy, k * 3, none⟩)), .v (.agg #[.bool g2, .slice A2 n2 c2, .slice B2 m2 d2]), .rq (z1 + z2) 5, .gen (LitQ (z1 + z2) 5) LitQ_keep]) (by kernel_rfl) (by kernel_rfl) (Below.refl _ _).drew (fun a b h1 h2 => ⟨below_then h1 h2, fun i _ v => dT_keep h2 i v⟩) (fun _ _ => Below.refl _ _) ?_ (fun _ _ _ _ h => by cases h) ?_
      · refine ⟨?_, ?_, ?_, ?_, ?_, ?_, ?_, ?_, ?_, ?_, ?_, trivial⟩
        all_goals
          intro vs w9 hp hF
          have HP9 := Lib.hid hp
          clear hp
          simp [depsB, Region.binds, dT] at hF
          simp [stL, depsB, Region.binds, Act.put, hF]
        · (go_wp2_with fail; exact ⟨rfl, Below.refl _ _⟩)
        · (go_wp2_with fail; exact ⟨rfl, Below.refl _ _⟩)
        · (go_wp2_with fail; exact ⟨rfl, Below.refl _ _⟩)
        · (go_wp2_with fail; exact ⟨rfl, Below.refl _ _⟩)
        · (refine wpList_load_mid rfl 28 _ rfl (gx) (k * 3) rfl [.bool g1, .slice A1 n1 c1, .slice B1 m1 d1] dsR (HA1.out _ (below_then HBW.out HP9.out)).2 HRR.out.1 HRR.out.2 size_Rat ?_; go_wp2_with fail; exact ⟨rfl, Below.refl _ _⟩)
        · (go_wp2_with fail; exact ⟨rfl, Below.refl _ _⟩)
        · (go_wp2_with fail; exact ⟨rfl, Below.refl _ _⟩)
        · (go_wp2_with fail; exact ⟨rfl, Below.refl _ _⟩)
        · (refine wpList_load_mid rfl 28 _ rfl (gy) (k * 3) rfl [.bool g2, .slice A2 n2 c2, .slice B2 m2 d2] dsR (HA2.out _ (below_then HBW.out HP9.out)).2 HRR.out.1 HRR.out.2 size_Rat ?_; go_wp2_with fail; exact ⟨rfl, Below.refl _ _⟩)
        · go_wp2_with (go_at_call 28; (with_reducible refine (CA.out _ (below_then HBW.out HP9.out)).mono ?_); rintro e1 w1' ⟨v1, rfl, ho, hb1⟩)
          first | exact ⟨ho.base HP9.out.size, hb1⟩ | exact ho.base HP9.out.size
        · have HQ1 := Lib.hid hF
          obtain ⟨g5, A5, n5, c5, B5, m5, d5, e5⟩ := hF.form
          rw [e5] at HQ1
          simp only [e5]
          go_wp2_with fail
          have hba : Below w9.heap.size w9 (w9.alloc (.cells #[.bool g5, .slice A5 n5 c5, .slice B5 m5 d5] 28)) := (Below.refl _ _).alloc (Nat.le_refl _) _
          exact ⟨⟨w9.heap.size, g5, A5, n5, c5, B5, m5, d5, rfl, by simp, (Box.new (by simp)).range (fun j v h => by rw [Nat.zero_add]; exact h), (HQ1.out.grow hba).base (Nat.zero_le _)⟩, hba⟩
      intro vs w9 hp hF
      obtain ⟨gl, g5, A5, n5, c5, B5, m5, d5, e10, hl5, hr5, hq5⟩ : LitQ (z1 + z2) 5 wr.heap.size w9 (vs 10) := hF 10 (by decide) rfl
      have e0 : vs 0 = .slice PA k pc := hF 0 (by decide) rfl
      have HBE := Lib.hid hp
      clear hF hp
      show wpList Try.prog _ _ [_, _] _ _
      simp [stL, Act.put, e0, e10]
      clear e0 e10
      refine app_q2 w9 rfl _ _ rfl w3.heap.size gl (HC.out.grow HBE.out) rfl rfl hr5 hq5 HLL.out (by have h1 := HBE.out.size; have h2 := HBW.out.size; omega) ?_
      intro v9 w5 hown hob hg5
      obtain ⟨A', c', rfl⟩ : ∃ A c, v9 = .slice A (k + 1) c := by obtain ⟨A', c', e', -⟩ := hown.form; rw [List.length_append, sumK_length] at e'; exact ⟨_, _, e'⟩
      have HC5 : Hid (RowQ w3.heap.size w5 (.slice A' (k + 1) c') (sumK xs ys (k + 1)) 5) := Lib.hid (by rw [sumK_succ, HZ.out]; exact hown)
      have HB5 : Hid (Below w3.heap.size w3 w5) := Lib.hid (((HBW.out.trans (HBE.out.mono HBW.out.size))).grown hg5 (by have h1 := HBW.out.size; have h2 := HBE.out.size; omega) (fun k e => (HC.out.lt k e).1))
      clear hown hob hg5 CA HA1 HA2 hr5 hq5 hl5
      go_wp2_with fail
      go_roundw
      case rel => exact ⟨k + 1, A', c', by omega, by go_num, rfl, HC5, HB5⟩
      case measure => simp [intOf]; omega
    · obtain rfl : n = k := by omega
      have x1 : ¬ (n : Int) < (n : Int) := by omega
      have HSQ : Hid (sumK xs ys n = sumQ xs ys) := Lib.hid (by unfold sumQ sumK; rw [HXL.out.1])
      rw [HSQ.out] at HC
      obtain ⟨p, hp⟩ : ∃ p, exactF ls xs h = p := ⟨_, rfl⟩
      obtain ⟨r, hr⟩ : ∃ r, exactF ls ys h = r := ⟨_, rfl⟩
      have HSM : Hid (exactF ls (sumQ xs ys) h = (sumQ p.1 r.1, sumQ p.2 r.2)) := Lib.hid (by rw [← hp, ← hr]; exact exactF_sum ls h (by rw [HXL.out.1, HXL.out.2]))
      have HPL : Hid (p.1.length = h ∧ p.2.length = h ∧ r.1.length = h ∧ r.2.length = h) := Lib.hid ⟨hp ▸ (exactF_length ls xs h).1, hp ▸ (exactF_length ls xs h).2, hr ▸ (exactF_length ls ys h).1, hr ▸ (exactF_length ls ys h).2⟩
      have CE1 : Hid (∀ w1, Below wr.heap.size wr w1 → Calls Try.prog 29 #[.slice A L cA, .slice P1 n p1] w1 (GotRR w1 p.1 p.2 h)) := Lib.hid fun w1 hb => by
        have h1 := CE.out w1 A P1 cA p1 2 0 xs (HL3.out.grow (below_then HBW.out hb)) (HR1.out.grow (below_then HBW.out hb)) (by omega)
        rw [hp] at h1
        exact h1
      have CE2 : Hid (∀ w1, Below wr.heap.size wr w1 → Calls Try.prog 29 #[.slice A L cA, .slice P2 n p2] w1 (GotRR w1 r.1 r.2 h)) := Lib.hid fun w1 hb => by
        have h1 := CE.out w1 A P2 cA p2 2 0 ys (HL3.out.grow (below_then HBW.out hb)) (HR2.out.grow (below_then HBW.out hb)) (by omega)
        rw [hr] at h1
        exact h1
      have CE3 : Hid (∀ w1, Below wr.heap.size wr w1 → Calls Try.prog 29 #[.slice A L cA, .slice PA n pc] w1 (GotRR w1 (sumQ p.1 r.1) (sumQ p.2 r.2) h)) := Lib.hid fun w1 hb => by
        have h1 := CE.out w1 A PA cA pc 5 w3.heap.size (sumQ xs ys) (HL3.out.grow (below_then HBW.out hb)) (HC.out.grow hb) (by omega)
        rw [HSM.out] at h1
        exact h1
      have HB4 := Lib.hid (below_then HB3.out HBW.out)
      clear hp hr CE HR1 HR2 HC HBW HL3 HSQ HSM hk hlt HB3 HXL
      go_upto_region 10 with (go_at_call 29; (with_reducible refine (CE1.out _ (Below.refl _ _)).mono ?_); rintro e4 w4 ⟨E1, d1, E2, d2, rfl, hq1, hq2, hb4⟩)
      have HBC := Lib.hid hb4
      have HQ1 := Lib.hid (And.intro hq1 hq2)
      clear hq1 hq2 hb4 CE1
      go_upto_region 11 with (go_at_call 29; (with_reducible refine (CE2.out _ HBC.out).mono ?_); rintro e5 w5 ⟨E3, d3, E4, d4, rfl, hq3, hq4, hb5⟩)
      have HBD := Lib.hid (below_then HBC.out hb5)
      have HQ2 := Lib.hid (And.intro (And.intro (HQ1.out.1.grow hb5) (HQ1.out.2.grow hb5)) (And.intro hq3 hq4))
      clear hq3 hq4 hb5 CE2 HBC HQ1
      go_upto_region 12 with (go_at_call 29; (with_reducible refine (CE3.out _ HBD.out).mono ?_); rintro e6 w6 ⟨E5, d5, E6, d6, rfl, hq5, hq6, hb6⟩)
      have HB6 := Lib.hid (below_then HB4.out (below_then HBD.out hb6))
      have HQ : Hid ((RowQ 0 w6 (.slice E1 h d1) p.1 10240 ∧ RowQ 0 w6 (.slice E2 h d2) p.2 10240) ∧ (RowQ 0 w6 (.slice E3 h d3) r.1 10240 ∧ RowQ 0 w6 (.slice E4 h d4) r.2 10240) ∧ RowQ 0 w6 (.slice E5 h d5) (sumQ p.1 r.1) 10240 ∧ RowQ 0 w6 (.slice E6 h d6) (sumQ p.2 r.2) 10240) := Lib.hid ⟨⟨HQ2.out.1.1.grow hb6, HQ2.out.1.2.grow hb6⟩, ⟨HQ2.out.2.1.grow hb6, HQ2.out.2.2.grow hb6⟩, hq5, hq6⟩
      clear hq5 hq6 hb6 CE3 HBD HQ2 HB4
      have xh : (n : Int) / 2 = (h : Int) := by have := HN.out; omega
      have xh9 : h ≤ 9 := HN.out.2
      have xht : (n : Int).tdiv 2 = (h : Int) := by rw [Int.tdiv_eq_ediv_of_nonneg (by omega)]; exact xh
      obtain ⟨Z, hZ⟩ : ∃ Z, z.length = Z := ⟨_, rfl⟩
      have HZZ : Hid (z.length = Z ∧ z.length = 2 * hz ∧ hz ≤ 20 ∧ W32 z) := Lib.hid ⟨hZ, hz1, hz2, hz3⟩
      clear hz1 hz3 hZ
      go_wp2_with fail
      go_loopw [22] (fun i wr => ∃ k : Nat, k ≤ h ∧ i = .int .i64 k ∧ Hid (Below w6.heap.size w6 wr)) (fun i _ => h - (intOf i).toNat)
      case atStart => exact ⟨0, Nat.zero_le _, rfl, Lib.hid (Below.refl _ _)⟩
      case round =>
        obtain ⟨k, hk, rfl, HBW⟩ := hrel
        by_cases hlt : k < h
        · have x0 : (0 : Int) ≤ (k : Int) := by omega
          have x1 : (k : Int) < (h : Int) := by omega
          have x2 : (k : Int) < (n : Int) / 2 := by omega
          obtain ⟨ge1, g1, A1, n1, c1, B1, m1, f1, z1, rfl, hz1', hA1⟩ := (HQ.out.1.1).atW (k := k) (by rw [HPL.out.1]; omega)
          obtain ⟨ge2, g2, A2, n2, c2, B2, m2, f2, z2, rfl, hz2', hA2⟩ := (HQ.out.1.2).atW (k := k) (by rw [HPL.out.2.1]; omega)
          obtain ⟨ge3, g3, A3, n3, c3, B3, m3, f3, z3, rfl, hz3', hA3⟩ := (HQ.out.2.1.1).atW (k := k) (by rw [HPL.out.2.2.1]; omega)
          obtain ⟨ge4, g4, A4, n4, c4, B4, m4, f4, z4, rfl, hz4', hA4⟩ := (HQ.out.2.1.2).atW (k := k) (by rw [HPL.out.2.2.2]; omega)
          obtain ⟨ge5, g5, A5, n5, c5, B5, m5, f5, z5, rfl, hz5', hA5⟩ := (HQ.out.2.2.1).atW (k := k) (by rw [sumQ_length, HPL.out.1]; omega)
          obtain ⟨ge6, g6, A6, n6, c6, B6, m6, f6, z6, rfl, hz6', hA6⟩ := (HQ.out.2.2.2).atW (k := k) (by rw [sumQ_length, HPL.out.2.1]; omega)
          have e15 : z1 + z3 = z5 := by have h1 := elQ_of hz5'; rw [elQ_sum (by rw [HPL.out.1, HPL.out.2.2.1]), elQ_of hz1', elQ_of hz3'] at h1; exact h1
          have e16 : z2 + z4 = z6 := by have h1 := elQ_of hz6'; rw [elQ_sum (by rw [HPL.out.2.1, HPL.out.2.2.2]), elQ_of hz2', elQ_of hz4'] at h1; exact h1
          have HA1 := Lib.hid hA1
          have HA2 := Lib.hid hA2
          have HA3 := Lib.hid hA3
          have HA4 := Lib.hid hA4
          have HA5 := Lib.hid hA5
          have HA6 := Lib.hid hA6
          have CA1 : Hid (∀ w', Below w6.heap.size w6 w' → Calls Try.prog 28 #[.agg #[.bool g1, .slice A1 n1 c1, .slice B1 m1 f1], .agg #[.bool g3, .slice A3 n3 c3, .slice B3 m3 f3]] w' (RetQ w' z5 20481)) := Lib.hid fun w' hb => by
            have h1 := r3_Add _ _ z1 z3 10240 10240 w' (HA1.out w' hb).1.arg (HA3.out w' hb).1.arg (by decide) (by decide) (by decide) (by decide)
            rw [e15] at h1
            exact h1
          have CA2 : Hid (∀ w', Below w6.heap.size w6 w' → Calls Try.prog 28 #[.agg #[.bool g2, .slice A2 n2 c2, .slice B2 m2 f2], .agg #[.bool g4, .slice A4 n4 c4, .slice B4 m4 f4]] w' (RetQ w' z6 20481)) := Lib.hid fun w' hb => by
            have h1 := r3_Add _ _ z2 z4 10240 10240 w' (HA2.out w' hb).1.arg (HA4.out w' hb).1.arg (by decide) (by decide) (by decide) (by decide)
            rw [e16] at h1
            exact h1
          have CC5 : Hid (∀ bb w' v, Below w6.heap.size w6 w' → RatQ bb w' v z5 20481 → Calls Try.prog 13 #[v, .agg #[.bool g5, .slice A5 n5 c5, .slice B5 m5 f5]] w' fun e w'' => e = .returned (.int .i64 0) ∧ Below w'.heap.size w' w'') := Lib.hid fun bb w' v hb hq => cmp_same (hq.arg.le (by decide)) ((HA5.out w' hb).1.arg.le (by decide))
          have CC6 : Hid (∀ bb w' v, Below w6.heap.size w6 w' → RatQ bb w' v z6 20481 → Calls Try.prog 13 #[v, .agg #[.bool g6, .slice A6 n6 c6, .slice B6 m6 f6]] w' fun e w'' => e = .returned (.int .i64 0) ∧ Below w'.heap.size w' w'') := Lib.hid fun bb w' v hb hq => cmp_same (hq.arg.le (by decide)) ((HA6.out w' hb).1.arg.le (by decide))
          clear hz1' hA1 hz2' hA2 hz3' hA3 hz4' hA4 hz5' hA5 hz6' hA6 e15 e16
          go_upto_region 17 with fail
          refine wp_region_growG (fun i => Nat.blt i 32) (fun w9 => Below wr.heap.size wr w9) (gT [.v (.slice (some ⟨ge1, 0, none⟩) h d1), .v (.int .i64 (k : Int)), .v (.pointer (some ⟨ge1, k * 3, none⟩)), .v (.agg #[.bool g1, .slice A1 n1 c1, .slice B1 m1 f1]), .v (.slice (some ⟨ge3, 0, none⟩) h d3), .v (.int .i64 (k : Int)), .v (.pointer (some ⟨ge3, k * 3, none⟩)), .v (.agg #[.bool g3, .slice A3 n3 c3, .slice B3 m3 f3]), .rq z5 20481, .v (.slice (some ⟨ge5, 0, none⟩) h d5), .v (.int .i64 (k : Int)), .v (.pointer (some ⟨ge5, k * 3, none⟩)), .v (.agg #[.bool g5, .slice A5 n5 c5, .slice B5 m5 f5]), .v (.int .i64 0), .v (.bool false), .v (.bool false), .v (.slice (some ⟨ge2, 0, none⟩) h d2), .v (.int .i64 (k : Int)), .v (.pointer (some ⟨ge2, k * 3, none⟩)), .v (.agg #[.bool g2, .slice A2 n2 c2, .slice B2 m2 f2]), .v (.slice (some ⟨ge4, 0, none⟩) h d4), .v (.int .i64 (k : Int)), .v (.pointer (some ⟨ge4, k * 3, none⟩)), .v (.agg #[.bool g4, .slice A4 n4 c4, .slice B4 m4 f4]), .rq z6 20481, .v (.slice (some ⟨ge6, 0, none⟩) h d6), .v (.int .i64 (k : Int)), .v (.pointer (some ⟨ge6, k * 3, none⟩)), .v (.agg #[.bool g6, .slice A6 n6 c6, .slice B6 m6 f6]), .v (.int .i64 0), .v (.bool false), .v (.bool false)]) (fun a b => Below a.heap.size a b) (dT wr.heap.size [.v (.slice (some ⟨ge1, 0, none⟩) h d1), .v (.int .i64 (k : Int)), .v (.pointer (some ⟨ge1, k * 3, none⟩)), .v (.agg #[.bool g1, .slice A1 n1 c1, .slice B1 m1 f1]), .v (.slice (some ⟨ge3, 0, none⟩) h d3), .v (.int .i64 (k : Int)), .v (.pointer (some ⟨ge3, k * 3, none⟩)), .v (.agg #[.bool g3, .slice A3 n3 c3, .slice B3 m3 f3]), .rq z5 20481, .v (.slice (some ⟨ge5, 0, none⟩) h d5), .v (.int .i64 (k : Int)), .v (.pointer (some ⟨ge5, k * 3, none⟩)), .v (.agg #[.bool g5, .slice A5 n5 c5, .slice B5 m5 f5]), .v (.int .i64 0), .v (.bool false), .v (.bool false), .v (.slice (some ⟨ge2, 0, none⟩) h d2), .v (.int .i64 (k : Int)), .v (.pointer (some ⟨ge2, k * 3, none⟩)), .v (.agg #[.bool g2, .slice A2 n2 c2, .slice B2 m2 f2]), .v (.slice (some ⟨ge4, 0, none⟩) h d4), .v (.int .i64 (k : Int)), .v (.pointer (some ⟨ge4, k * 3, none⟩)), .v (.agg #[.bool g4, .slice A4 n4 c4, .slice B4 m4 f4]), .rq z6 20481, .v (.slice (some ⟨ge6, 0, none⟩) h d6), .v (.int .i64 (k : Int)), .v (.pointer (some ⟨ge6, k * 3, none⟩)), .v (.agg #[.bool g6, .slice A6 n6 c6, .slice B6 m6 f6]), .v (.int .i64 0), .v (.bool false), .v (.bool false)]) (by kernel_rfl) (by kernel_rfl) (Below.refl _ _).drew (fun j x a b h1 h2 => ⟨below_then h1 h2.1, fun i _ v => dT_keep h2.1 i v, Below.refl _ _, fun w0 h => below_then h h2.1⟩) ?_ ?_
          · refine ⟨?_, ?_, ?_, ?_, ?_, ?_, ?_, ?_, ?_, ?_, ?_, ?_, ?_, ?_, ?_, ?_, ?_, ?_, ?_, ?_, ?_, ?_, ?_, ?_, ?_, ?_, ?_, ?_, ?_, ?_, ?_, ?_, trivial⟩
            all_goals
              intro vs w9 hp hF
              have HP := Lib.hid hp
              clear hp
              simp [depsB, Region.binds, dT] at hF
              simp [stL, depsB, Region.binds, Act.put, hF]
            · (go_wp2_with fail; exact ⟨rfl, Below.refl _ _, nbx rfl⟩)
            · (go_wp2_with fail; exact ⟨rfl, Below.refl _ _, nbx rfl⟩)
            · (go_wp2_with fail; exact ⟨rfl, Below.refl _ _, nbx rfl⟩)
            · (refine wpList_load_mid rfl 28 _ rfl (ge1) (k * 3) rfl [.bool g1, .slice A1 n1 c1, .slice B1 m1 f1] dsR (HA1.out _ (below_then HBW.out HP.out)).2 HRR.out.1 HRR.out.2 size_Rat ?_; go_wp2_with fail; exact ⟨rfl, Below.refl _ _, nbx rfl⟩)
            · (go_wp2_with fail; exact ⟨rfl, Below.refl _ _, nbx rfl⟩)
            · (go_wp2_with fail; exact ⟨rfl, Below.refl _ _, nbx rfl⟩)
            · (go_wp2_with fail; exact ⟨rfl, Below.refl _ _, nbx rfl⟩)
            · (refine wpList_load_mid rfl 28 _ rfl (ge3) (k * 3) rfl [.bool g3, .slice A3 n3 c3, .slice B3 m3 f3] dsR (HA3.out _ (below_then HBW.out HP.out)).2 HRR.out.1 HRR.out.2 size_Rat ?_; go_wp2_with fail; exact ⟨rfl, Below.refl _ _, nbx rfl⟩)
            · go_wp2_with (go_at_call 28; (with_reducible refine (CA1.out _ (below_then HBW.out HP.out)).mono ?_); rintro e1 w1' ⟨v1, rfl, ho, hb1⟩)
              exact ⟨ho.base HP.out.size, hb1, nbx rfl⟩
            · (go_wp2_with fail; exact ⟨rfl, Below.refl _ _, nbx rfl⟩)
            · (go_wp2_with fail; exact ⟨rfl, Below.refl _ _, nbx rfl⟩)
            · (go_wp2_with fail; exact ⟨rfl, Below.refl _ _, nbx rfl⟩)
            · (refine wpList_load_mid rfl 28 _ rfl (ge5) (k * 3) rfl [.bool g5, .slice A5 n5 c5, .slice B5 m5 f5] dsR (HA5.out _ (below_then HBW.out HP.out)).2 HRR.out.1 HRR.out.2 size_Rat ?_; go_wp2_with fail; exact ⟨rfl, Below.refl _ _, nbx rfl⟩)
            · obtain ⟨hq, e12⟩ := hF
              have HQ1 := Lib.hid hq
              obtain ⟨g5', A5', n5', c5', B5', m5', d5', e5'⟩ := hq.form
              rw [e5'] at HQ1
              simp only [e5', e12]
              go_wp2_with (go_at_call 13; (with_reducible refine (CC5.out _ _ _ (below_then HBW.out HP.out) HQ1.out).mono ?_); rintro e1' w1' ⟨rfl, hb1⟩)
              exact ⟨rfl, hb1, nbx rfl⟩
            · (go_wp2_with fail; exact ⟨rfl, Below.refl _ _, nbx rfl⟩)
            · (go_wp2_with fail; exact ⟨rfl, Below.refl _ _, nbx rfl⟩)
            · (with_reducible refine wpList_want (by kernel_rfl) ?_)
              (go_wp2_with fail; exact ⟨rfl, Below.refl _ _, nbx rfl⟩)
            · (with_reducible refine wpList_want (by kernel_rfl) ?_)
              (go_wp2_with fail; exact ⟨rfl, Below.refl _ _, nbx rfl⟩)
            · (with_reducible refine wpList_want (by kernel_rfl) ?_)
              (go_wp2_with fail; exact ⟨rfl, Below.refl _ _, nbx rfl⟩)
            · (with_reducible refine wpList_want (by kernel_rfl) ?_)
              (refine wpList_load_mid rfl 28 _ rfl (ge2) (k * 3) rfl [.bool g2, .slice A2 n2 c2, .slice B2 m2 f2] dsR (HA2.out _ (below_then HBW.out HP.out)).2 HRR.out.1 HRR.out.2 size_Rat ?_; go_wp2_with fail; exact ⟨rfl, Below.refl _ _, nbx rfl⟩)
            · (with_reducible refine wpList_want (by kernel_rfl) ?_)
              (go_wp2_with fail; exact ⟨rfl, Below.refl _ _, nbx rfl⟩)
            · (with_reducible refine wpList_want (by kernel_rfl) ?_)
              (go_wp2_with fail; exact ⟨rfl, Below.refl _ _, nbx rfl⟩)
            · (with_reducible refine wpList_want (by kernel_rfl) ?_)
              (go_wp2_with fail; exact ⟨rfl, Below.refl _ _, nbx rfl⟩)
            · (with_reducible refine wpList_want (by kernel_rfl) ?_)
              (refine wpList_load_mid rfl 28 _ rfl (ge4) (k * 3) rfl [.bool g4, .slice A4 n4 c4, .slice B4 m4 f4] dsR (HA4.out _ (below_then HBW.out HP.out)).2 HRR.out.1 HRR.out.2 size_Rat ?_; go_wp2_with fail; exact ⟨rfl, Below.refl _ _, nbx rfl⟩)
            · (with_reducible refine wpList_want (by kernel_rfl) ?_)
              go_wp2_with (go_at_call 28; (with_reducible refine (CA2.out _ (below_then HBW.out HP.out)).mono ?_); rintro e1 w1' ⟨v1, rfl, ho, hb1⟩)
              exact ⟨ho.base HP.out.size, hb1, nbx rfl⟩
            · (with_reducible refine wpList_want (by kernel_rfl) ?_)
              (go_wp2_with fail; exact ⟨rfl, Below.refl _ _, nbx rfl⟩)
            · (with_reducible refine wpList_want (by kernel_rfl) ?_)
              (go_wp2_with fail; exact ⟨rfl, Below.refl _ _, nbx rfl⟩)
            · (with_reducible refine wpList_want (by kernel_rfl) ?_)
              (go_wp2_with fail; exact ⟨rfl, Below.refl _ _, nbx rfl⟩)
            · (with_reducible refine wpList_want (by kernel_rfl) ?_)
              (refine wpList_load_mid rfl 28 _ rfl (ge6) (k * 3) rfl [.bool g6, .slice A6 n6 c6, .slice B6 m6 f6] dsR (HA6.out _ (below_then HBW.out HP.out)).2 HRR.out.1 HRR.out.2 size_Rat ?_; go_wp2_with fail; exact ⟨rfl, Below.refl _ _, nbx rfl⟩)
            · obtain ⟨hq, e12⟩ := hF
              have HQ1 := Lib.hid hq
              obtain ⟨g5', A5', n5', c5', B5', m5', d5', e5'⟩ := hq.form
              rw [e5'] at HQ1
              simp only [e5', e12]
              (with_reducible refine wpList_want (by kernel_rfl) ?_)
              go_wp2_with (go_at_call 13; (with_reducible refine (CC6.out _ _ _ (below_then HBW.out HP.out) HQ1.out).mono ?_); rintro e1' w1' ⟨rfl, hb1⟩)
              exact ⟨rfl, hb1, nbx rfl⟩
            · (with_reducible refine wpList_want (by kernel_rfl) ?_)
              (go_wp2_with fail; exact ⟨rfl, Below.refl _ _, nbx rfl⟩)
            · (go_wp2_with fail; exact ⟨rfl, Below.refl _ _, nbx rfl⟩)
          intro vs w9 hp hF hpr
          have e31 : vs 31 = .bool false := hF 31 (by decide) rfl
          have HBN := Lib.hid (below_then HBW.out hp)
          clear hF hpr hp CA1 CA2 CC5 CC6 HA1 HA2 HA3 HA4 HA5 HA6
          show wpList Try.prog _ _ [] _ _
          simp [stL, Act.put, e31]
          go_wp2_with fail
          go_roundw
          case rel => exact ⟨k + 1, by omega, by go_num, HBN⟩
          case measure => simp [intOf]; omega
        · obtain rfl : h = k := by omega
          have x1 : ¬ (h : Int) < (h : Int) := by omega
          have x2 : ¬ (h : Int) < (n : Int) / 2 := by omega
          have HBE := Lib.hid (below_then HB6.out HBW.out)
          clear HQ HPL HB6 HBW
          have CW2 := CW.out _ HBE.out
          have hb := Below.refl w6.heap.size w6
          go_upto_region 20 with (go_at_call 30; (with_reducible refine CW2.mono ?_); rintro e7 w7 ⟨G, cG, rfl, hcG, hiG, hb7⟩)
          have HB7 := Lib.hid (below_then HBE.out hb7)
          have HI7 := Lib.hid hiG
          rw [HZZ.out.1] at hcG ⊢
          clear hiG hb7 CW CW2 HBE hb
          have CA1 : Hid (∀ w1, Below w7.heap.size w7 w1 → Calls Try.prog 17 #[.slice none 0 0, .slice G Z cG] w1 (Got3 w1 (evF z) (odF z) hz hz 0)) := Lib.hid fun w1 hb => bk_Analyse_nil G z cG hz Z w1 HZZ.out.2.1 HZZ.out.1 hz2 HZZ.out.2.2.2 (HI7.out.grow hb)
          have CP1 : Hid (∀ w1, Below w7.heap.size w7 w1 → Calls Try.prog 31 #[.slice G Z cG, .int .i64 2] w1 (GotP w1 (evF z) (odF z) hz)) := Lib.hid fun w1 hb => got_Phases G z cG hz Z w1 HZZ.out.2.1 HZZ.out.1 hz2 (HI7.out.grow hb)
          go_upto_region 21 with (go_at_call 17; (with_reducible refine (CA1.out _ (Below.refl _ _)).mono ?_); rintro e8 w8 ⟨U1, u1, U2, u2, rfl, hi1, hi2, hb8⟩)
          have HB8 := Lib.hid hb8
          have HI8 := Lib.hid (And.intro hi1 hi2)
          clear hi1 hi2 hb8 CA1
          go_upto_region 22 with (go_at_call 31; (with_reducible refine (CP1.out _ HB8.out).mono ?_); rintro e9 w9 ⟨ad, ca, U3, u3, U4, u4, rfl, had, y0, y1, hi3, hi4, hb9⟩)
          have HB9 := Lib.hid (below_then HB7.out (below_then HB8.out hb9))
          have hev := ev_length HZZ.out.2.1
          have hod := od_length HZZ.out.2.1
          have CE1 : Hid (∀ w', Below w9.heap.size w9 w' → Calls Try.prog 25 #[.slice U1 hz u1, .slice U3 hz u3] w' fun e w'' => e = .returned (.bool true) ∧ Below w'.heap.size w' w'') := Lib.hid fun w' hb => same_n hev (by omega) (HI8.out.1.grow (below_then hb9 hb)) (hi3.grow hb)
          have CE2 : Hid (∀ w', Below w9.heap.size w9 w' → Calls Try.prog 25 #[.slice U2 hz u2, .slice U4 hz u4] w' fun e w'' => e = .returned (.bool true) ∧ Below w'.heap.size w' w'') := Lib.hid fun w' hb => same_n hod (by omega) (HI8.out.2.grow (below_then hb9 hb)) (hi4.grow hb)
          have HY0 : Hid (∀ w', Below w9.heap.size w9 w' → w'.cell? ad = some (.slice U3 hz u3)) := Lib.hid fun w' hb => (hb.cell had).trans y0
          have HY1 : Hid (∀ w', Below w9.heap.size w9 w' → w'.cell? ⟨ad.block, ad.off + 1, none⟩ = some (.slice U4 hz u4)) := Lib.hid fun w' hb => (hb.cell (show (⟨ad.block, ad.off + 1, none⟩ : Addr).block < _ from had)).trans y1
          clear y0 y1 hi3 hi4 hb9 HB8 HI8 HB7 HI7 hev hod CP1 had
          have hb : Below w9.heap.size w9 w9 := Below.refl _ _
          have y0 := HY0.out w9 hb
          have y1 := HY1.out w9 hb
          go_wp2_with (first
            | (go_at_call 16; (with_reducible refine (known33 _).mono ?_); rintro e10 w10 ⟨rfl, hb10⟩; have hb := below_then hb hb10; clear y0 y1; have y0 := HY0.out w10 hb; have y1 := HY1.out w10 hb)
            | (go_at_call 25; (with_reducible refine (CE1.out _ hb).mono ?_); rintro e11 w11 ⟨rfl, hb11⟩; have hb := below_then hb hb11; clear y0 y1; have y1 := HY1.out w11 hb)
            | (go_at_call 25; (with_reducible refine (CE2.out _ hb).mono ?_); rintro e12 w12 ⟨rfl, hb12⟩; have hb := below_then hb hb12))
          go_ret
          exact ⟨rfl, below_then HB9.out hb⟩
end Go.Proofs.Ytmdfgidejdiiiaa
