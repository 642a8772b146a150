/- Several texts in one: Z8 Z9 Ia Ib Ic. -/
import Derived.Test.YtmdfgidejdiiiaalZ7
set_option linter.unusedVariables false
set_option linter.unusedSimpArgs false
section
namespace Go.Proofs.Ytmdfgidejdiiiaa
open Go.RowKit
theorem resCCT {fn : Func} {t s x : Tmp} {T S : TypeId} (h : fn.results = #[.cell t T, .cell s S, .tmp x]) (tmps : Array Value) (P : Program) (w : World) {g g' : Nat} {v v' : Value} (hp : tmps.getD t undef = .pointer (some ⟨g, 0, none⟩)) (hp' : tmps.getD s undef = .pointer (some ⟨g', 0, none⟩)) (hv : (loadVar T ⟨g, 0, none⟩).run P w = .ok v w) (hv' : (loadVar S ⟨g', 0, none⟩).run P w = .ok v' w) : (results fn tmps).run P w = .ok (.tuple #[v, v', tmps.getD x undef]) w := by
  have e1 : tmps[t]?.getD undef = .pointer (some ⟨g, 0, none⟩) := by rw [← Array.getD_eq_getD_getElem?]; exact hp
  have e2 : tmps[s]?.getD undef = .pointer (some ⟨g', 0, none⟩) := by rw [← Array.getD_eq_getD_getElem?]; exact hp'
  simp [results, h, e1, e2, hv, hv', asAddr]
def RetD (w : World) (q r : Int) (K M : Nat) (e : Ending) (w' : World) : Prop := ∃ v, e = .returned v ∧ TwoO w.heap.size w' v q r K M ∧ Below w.heap.size w w'
theorem ediv_of {X Y q r : Int} (hy : 0 < Y) (h : X = r + Y * q) (h0 : 0 ≤ r) (h1 : r < Y) : q = X / Y ∧ r = X % Y := by
  subst h
  rw [Int.add_mul_ediv_left _ _ (by omega), Int.ediv_eq_zero_of_lt h0 h1, Int.zero_add, Int.add_mul_emod_self_left, Int.emod_eq_of_lt h0 h1]
  exact ⟨rfl, rfl⟩
theorem div_neg0 {X Y : Int} (hy : 0 < Y) (h : X % Y = 0) : -(X / Y) = -X / Y ∧ (0 : Int) = -X % Y := by
  refine ediv_of hy ?_ (Int.le_refl _) hy
  have e := div_exact h
  rw [Int.mul_neg, Int.mul_comm, e, Int.zero_add]
theorem div_neg1 {X Y : Int} (hy : 0 < Y) (h : X % Y ≠ 0) : -(X / Y + 1) = -X / Y ∧ Y - X % Y = -X % Y := by
  have h1 := Int.mul_ediv_add_emod X Y
  have h2 := Int.emod_nonneg X (b := Y) (by omega)
  have h3 := Int.emod_lt_of_pos X hy
  refine ediv_of hy ?_ (by omega) (by omega)
  rw [Int.mul_neg, Int.mul_add, Int.mul_one]
  omega
end Go.Proofs.Ytmdfgidejdiiiaa
end
section
namespace Go.Proofs.Ytmdfgidejdiiiaa
open Go.RowKit
theorem OwG.keptT {b g : Nat} {w w' : World} {A : Option Addr} {n c : Nat} {l : List Int} {t : TypeId} (h : OwG b w (.slice A n c) l) (hg : w.grownBy w' (some g)) (ht : TyB w g t) (hn : t ≠ 77) : OwG b w' (.slice A n c) l :=
  ⟨h.1.kept hg (.inr fun e => by
    cases A with
    | none => cases e
    | some a =>
      have h1 := h.ty a rfl
      have h2 := h1.apart ht (Ne.symm hn)
      rcases h.1.2 with ⟨e2, -⟩ | ⟨g', cap, cur, e2, -⟩
      · injection e2 with e2; cases e2
      · injection e2 with e2
        injection e2 with e2
        subst e2
        have : g' = g := by injection e with e
        exact h2 this), h.2⟩
theorem IntO.keptT {b g : Nat} {w w' : World} {v : Value} {z : Int} {K : Nat} {t : TypeId} (h : IntO b w v z K) (hg : w.grownBy w' (some g)) (ht : TyB w g t) (hn : t ≠ 77) : IntO b w' v z K := by
  obtain ⟨ng, A, c, l, e, o, r⟩ := h
  exact ⟨ng, A, c, l, e, o.keptT hg ht hn, r⟩
end Go.Proofs.Ytmdfgidejdiiiaa
end
section
namespace Go.Proofs.Ytmdfgidejdiiiaa
open Go.RowKit
set_option maxRecDepth 100000 in
theorem r1_Trim (A : Option Addr) (n c : Nat) (l : List Int) (w : World) (h : DigA w A l) (hn : l.length = n) (hc : n ≤ c) (h9 : n ≤ 100000000) : Calls Try.prog 100 #[.slice A n c] w (RetN w (nv l) n) := by
  have HL := Lib.hid hn
  have HA := Lib.hid h
  go_enter Try.func100, Try.ntmps100
  go_upto_region 2 with fail
  go_wp2_with fail
  go_loopw [3] (fun i wr => ∃ k : Nat, k ≤ n ∧ i = .int .i64 k ∧ Hid (∀ x ∈ l.drop k, x = 0) ∧ Hid (Below w.heap.size w wr)) (fun i _ => (intOf i).toNat)
  case atStart => exact ⟨n, Nat.le_refl _, rfl, Lib.hid (by rw [List.drop_of_length_le (by omega)]; simp), Lib.hid (Below.refl _ _)⟩
  case round =>
    obtain ⟨k, hk, rfl, HZ, HB⟩ := hrel
    by_cases hk0 : k = 0
    · subst hk0
      have hd := (HA.out.grow HB.out).takeL 0
      clear h hn
      have hs := HB.out.size
      go_wp2_with (at_builtin; refine app_digsM _ rfl _ _ rfl w.heap.size rfl rfl (by simp) OwG.nil hd (by simp) hs ?_; intro v1 w1 ho1 hb1)
      go_ret
      have hcut : CutN l 0 := ⟨Nat.zero_le _, HZ.out, fun k x h => by omega⟩
      exact ⟨_, _, rfl, ho1, by rw [List.nil_append, hcut.nv], by rw [List.nil_append]; exact hcut.nrm, by simp, HB.out.trans hb1⟩
    · obtain ⟨j, rfl⟩ : ∃ j, k = j + 1 := ⟨k - 1, by omega⟩
      obtain ⟨ad, x, rfl, hb, hx, hcx, i1, i2⟩ := (h.grow HB.out).at_ (k := j) (by rw [HL.out]; omega)
      have x0 : (0 : Int) ≤ (j : Int) := by omega
      have x1 : (j : Int) < (n : Int) := by omega
      have x2 : (0 : Int) < (j : Int) + 1 := by omega
      have x3 : IntKind.i64.wrap ((j : Int) + 1 - 1) = (j : Int) := (IntWalk.i64_in _ (by omega)).trans (by omega)
      have x4 : j + 1 ≤ c := by omega
      have HK := Lib.hid hk
      have HX := Lib.hid hx
      clear hx hk h hn
      by_cases hx0 : x = 0
      · subst hx0
        go_wp2_with fail
        go_roundw
        case rel => exact ⟨j, by have := HK.out; omega, rfl, Lib.hid (cut_step (by have := HK.out; have := HL.out; omega) HZ.out HX.out), HB⟩
        case measure => simp [intOf]
      · have hxf : (x == 0) = false := by simpa using hx0
        have HX0 := Lib.hid hx0
        clear hx0
        have hcut : CutN l (j + 1) := ⟨by have := HK.out; have := HL.out; omega, HZ.out, fun k y hk hy => by
          have : k = j := by omega
          subst this
          rw [HX.out] at hy
          injection hy with hy
          exact hy ▸ HX0.out⟩
        have hd := (HA.out.grow HB.out).takeL (j + 1)
        have hlt := hcut.len
        have HCT := Lib.hid hcut
        have hs := HB.out.size
        clear hcut
        generalize hT : l.take (j + 1) = T at hd hlt
        have HT := Lib.hid hT
        clear hT
        go_wp2_with (at_builtin; refine app_digsM _ rfl _ _ rfl w.heap.size rfl rfl hlt OwG.nil hd (by simp; omega) hs ?_; intro v1 w1 ho1 hb1)
        go_ret
        refine ⟨_, _, rfl, ho1, ?_, ?_, ?_, HB.out.trans hb1⟩
        · rw [List.nil_append, ← HT.out, HCT.out.nv]
        · rw [List.nil_append, ← HT.out]; exact HCT.out.nrm
        · rw [List.nil_append, hlt]; exact HK.out
set_option maxRecDepth 100000 in
set_option maxHeartbeats 1000000 in
theorem r1_Compare (A B : Option Addr) (n m c d : Nat) (a b : List Int) (w : World) (ha : DigA w A a) (hb : DigA w B b) (hn : a.length = n) (hm : b.length = m) (hc : n ≤ c) (hd : m ≤ d) (h9 : n ≤ 100000000) (h8 : m ≤ 100000000) :
    Calls Try.prog 111 #[.slice A n c, .slice B m d] w fun e w' => e = .returned (.int .i64 (cmpI (nv a) (nv b))) ∧ Below w.heap.size w w' := by
  have CA : Hid (Calls Try.prog 100 #[.slice A n c] w (RetN w (nv a) n)) := Lib.hid (r1_Trim A n c a w ha hn hc h9)
  have CB : Hid (∀ w1, Below w.heap.size w w1 → Calls Try.prog 100 #[.slice B m d] w1 (RetN w1 (nv b) m)) := Lib.hid fun w1 h => r1_Trim B m d b w1 (hb.grow h) hm hd h8
  clear ha hb hn hm hc hd
  obtain ⟨R, hR⟩ : ∃ R, cmpI (nv a) (nv b) = R := ⟨_, rfl⟩
  rw [hR]
  go_enter Try.func111, Try.ntmps111
  go_upto_region 2 with (go_at_call 100; first
    | ((with_reducible refine CA.out.mono ?_); rintro e1 w1 ⟨v1, pl, rfl, o1, n1, m1, k1, hb1⟩; have HP := Lib.hid (And.intro o1 (And.intro n1 (And.intro m1 k1))); have HB1 := Lib.hid hb1; clear o1 n1 m1 k1 hb1)
    | ((with_reducible refine (CB.out _ HB1.out).mono ?_); rintro e2 w2 ⟨v2, ql, rfl, o2, n2, m2, k2, hb2⟩; have HQ := Lib.hid (And.intro o2 (And.intro n2 (And.intro m2 k2))); have HB2 := Lib.hid hb2; clear o2 n2 m2 k2 hb2))
  obtain ⟨A1, c1, rfl, -, d1⟩ := HP.out.1.form
  obtain ⟨B1, c2, rfl, -, d2⟩ := HQ.out.1.form
  have HPA : Hid (DigA w2 A1 pl) := Lib.hid (d1.grow HB2.out)
  have HQA : Hid (DigA w2 B1 ql) := Lib.hid d2
  obtain ⟨p, hp⟩ : ∃ p, pl.length = p := ⟨_, rfl⟩
  obtain ⟨q, hq⟩ : ∃ q, ql.length = q := ⟨_, rfl⟩
  have HPD : Hid (Dig pl ∧ Nrm pl ∧ pl.length = p ∧ nv pl = nv a) := Lib.hid ⟨d1.dig, HP.out.2.2.1, hp, HP.out.2.1⟩
  have HQD : Hid (Dig ql ∧ Nrm ql ∧ ql.length = q ∧ nv ql = nv b) := Lib.hid ⟨d2.dig, HQ.out.2.2.1, hq, HQ.out.2.1⟩
  have hp9 : p ≤ 100000000 := by have := HP.out.2.2.2; omega
  have hq9 : q ≤ 100000000 := by have := HQ.out.2.2.2; omega
  have HBB := Lib.hid (below_then HB1.out HB2.out)
  rw [← HPD.out.2.2.2, ← HQD.out.2.2.2] at hR
  have HR := Lib.hid hR
  clear hR CA CB d1 d2 HP HQ HB1 HB2
  rw [hp, hq]
  clear hp hq
  by_cases hpq : p = q
  · subst hpq
    go_upto_region 6 with fail
    go_upto_region 7 with fail
    go_wp2_with fail
    go_loopw [5] (fun i wr => ∃ (k : Nat) (t : Int), k ≤ p ∧ i = .int .i64 t ∧ Hid (t = (k : Int) - 1) ∧ Hid (pl.drop k = ql.drop k) ∧ Hid (Below w2.heap.size w2 wr)) (fun i _ => (intOf i + 1).toNat)
    case atStart => exact ⟨p, (p : Int) - 1, Nat.le_refl _, by go_num, Lib.hid rfl, Lib.hid (by rw [List.drop_of_length_le (by rw [HPD.out.2.2.1]; exact Nat.le_refl _), List.drop_of_length_le (by rw [HQD.out.2.2.1]; exact Nat.le_refl _)]), Lib.hid (Below.refl _ _)⟩
    case round =>
      obtain ⟨k, t, hk, rfl, HT, HD, HBW⟩ := hrel
      by_cases hk0 : k = 0
      · subst hk0
        obtain rfl : t = -1 := by have := HT.out; omega
        have HR0 : Hid (R = 0) := Lib.hid (by
          have h1 := HD.out
          rw [List.drop_zero, List.drop_zero] at h1
          rw [← HR.out, h1]
          unfold cmpI
          rw [if_neg (by omega), if_pos rfl])
        go_wp2_with fail
        go_ret
        exact ⟨by rw [HR0.out]; rfl, below_then HBB.out HBW.out⟩
      · obtain ⟨j, rfl⟩ : ∃ j, k = j + 1 := ⟨k - 1, by omega⟩
        obtain rfl : t = (j : Int) := by have := HT.out; omega
        obtain ⟨ad, x, rfl, hb1, hx, hcx, _, _⟩ := (HPA.out.grow HBW.out).at_ (k := j) (by rw [HPD.out.2.2.1]; omega)
        obtain ⟨bd, y, rfl, hb2, hy, hcy, _, _⟩ := (HQA.out.grow HBW.out).at_ (k := j) (by rw [HQD.out.2.2.1]; omega)
        have x0 : (0 : Int) ≤ (j : Int) := by omega
        have x1 : (j : Int) < (p : Int) := by omega
        have HX := Lib.hid hx
        have HY := Lib.hid hy
        have HK := Lib.hid hk
        clear hx hy hk hk0 HT hb1 hb2
        rcases Int.lt_trichotomy x y with hxy | hxy | hxy
        · have HE : Hid (R = -1) := Lib.hid (by rw [← HR.out, cmp_at HPD.out.1 HQD.out.1 HX.out HY.out HD.out (by omega)]; unfold cmpI; rw [if_pos hxy])
          go_wp2_with fail
          go_quiet (fail)
          go_wp2_with fail
          go_ret
          exact ⟨by rw [HE.out]; rfl, below_drewN (below_then HBB.out HBW.out) _⟩
        · subst hxy
          go_wp2_with fail
          go_quiet (fail)
          go_wp2_with fail
          go_quiet (fail)
          go_wp2_with fail
          go_roundw
          case rel => exact ⟨j, (j : Int) - 1, by have := HK.out; omega, by go_num, Lib.hid rfl, Lib.hid (by
            obtain ⟨l1, e1⟩ := List.getElem?_eq_some_iff.1 HX.out
            obtain ⟨l2, e2⟩ := List.getElem?_eq_some_iff.1 HY.out
            rw [List.drop_eq_getElem_cons l1, List.drop_eq_getElem_cons l2, e1, e2, HD.out]), Lib.hid (below_drewN HBW.out _)⟩
          case measure => simp [intOf]
        · have HE : Hid (R = 1) := Lib.hid (by rw [← HR.out, cmp_at HPD.out.1 HQD.out.1 HX.out HY.out HD.out (by omega)]; unfold cmpI; rw [if_neg (by omega), if_neg (by omega)])
          have hxy' : ¬ x < y := by omega
          go_wp2_with fail
          go_quiet (fail)
          go_wp2_with fail
          go_quiet (fail)
          go_wp2_with fail
          go_ret
          exact ⟨by rw [HE.out]; rfl, below_drewN (below_drewN (below_then HBB.out HBW.out) _) _⟩
  · have x1 : ((p : Int) != (q : Int)) = true := by simp; omega
    have hpq' : (p : Int) ≠ (q : Int) := by omega
    have HE : Hid (R = cmpI p q) := Lib.hid (by have h := cmp_len HPD.out.1 HQD.out.1 HPD.out.2.1 HQD.out.2.1 (by rw [HPD.out.2.2.1, HQD.out.2.2.1]; exact hpq); rw [HPD.out.2.2.1, HQD.out.2.2.1] at h; rw [← HR.out, h])
    by_cases hlt : p < q
    · have x2 : (p : Int) < (q : Int) := by omega
      have HE2 : Hid (R = -1) := Lib.hid (by rw [HE.out]; unfold cmpI; rw [if_pos x2])
      clear hpq
      go_wp2_with fail
      go_ret
      exact ⟨by rw [HE2.out]; rfl, HBB.out⟩
    · have x2 : (q : Int) ≤ (p : Int) := by omega
      have HE2 : Hid (R = 1) := Lib.hid (by rw [HE.out]; unfold cmpI; rw [if_neg (by omega), if_neg (by omega)])
      clear hpq hlt
      go_wp2_with fail
      go_ret
      exact ⟨by rw [HE2.out]; rfl, HBB.out⟩
end Go.Proofs.Ytmdfgidejdiiiaa
end
section
namespace Go.Proofs.Ytmdfgidejdiiiaa
open Go.RowKit
theorem add_step2 {X Y T : List Int} {k : Nat} {x y c s c' : Int} (hk : T.length = k) (hX : nv (X.take (k + 1)) = nv (X.take k) + bp k * x) (hY : nv (Y.take (k + 1)) = nv (Y.take k) + bp k * y) (hT : nv T + bp k * c = nv (X.take k) + nv (Y.take k)) (hs : s + 4294967296 * c' = x + y + c) :
    nv (T ++ [s]) + bp (k + 1) * c' = nv (X.take (k + 1)) + nv (Y.take (k + 1)) := by
  subst hk
  rw [nv_app, nv_one, hX, hY, bp_succ]
  have e : 4294967296 * bp T.length * c' = bp T.length * (4294967296 * c') := by rw [Int.mul_comm 4294967296, Int.mul_assoc]
  have h1 : bp T.length * (s + 4294967296 * c') = bp T.length * (x + y + c) := by rw [hs]
  rw [Int.mul_add, Int.mul_add, Int.mul_add] at h1
  rw [e]
  omega
set_option maxRecDepth 100000 in
set_option maxHeartbeats 1000000 in
theorem r1_Add (A B : Option Addr) (n m c d : Nat) (a b : List Int) (w : World) (ha : DigA w A a) (hb : DigA w B b) (hn : a.length = n) (hm : b.length = m) (hc : n ≤ c) (hd : m ≤ d) (h9 : n ≤ 10000000) (h8 : m ≤ 10000000) :
    Calls Try.prog 110 #[.slice A n c, .slice B m d] w (RetN w (nv a + nv b) (max n m + 1)) := by
  have HX := Lib.hid ha
  have HY := Lib.hid hb
  have HL := Lib.hid (And.intro hn hm)
  obtain ⟨V, hV⟩ : ∃ V, nv a + nv b = V := ⟨_, rfl⟩
  obtain ⟨s, hs⟩ : ∃ s, max n m = s := ⟨_, rfl⟩
  rw [hV, hs]
  have HV := Lib.hid hV
  have hns : n ≤ s ∧ m ≤ s ∧ (s ≤ n ∨ s ≤ m) ∧ s ≤ 10000000 := by omega
  have HNS := Lib.hid hns
  clear ha hb hn hm hV hs hns
  go_enter Try.func110, Try.ntmps110
  go_upto_region 4 with fail
  go_wp2_with fail
  go_loopw [5, 6, 7] (fun o cy i wr => ∃ (k : Nat) (T : List Int) (cr : Int), k ≤ s ∧ i = .int .i64 k ∧ cy = .int .u64 cr ∧ Hid (0 ≤ cr ∧ cr ≤ 1) ∧ Hid (T.length = k) ∧ Hid (nv T + bp k * cr = nv (a.take k) + nv (b.take k)) ∧ Hid (OwG w.heap.size wr o T) ∧ Hid (Below w.heap.size w wr)) (fun _ _ i _ => s - (intOf i).toNat)
  case atStart => exact ⟨0, [], 0, Nat.zero_le _, rfl, rfl, Lib.hid (by omega), Lib.hid rfl, Lib.hid (by simp [nv]), Lib.hid OwG.nil, Lib.hid (Below.refl _ _)⟩
  case round =>
    obtain ⟨k, T, cr, hk, rfl, rfl, HCR, HT, HS, HO, HBW⟩ := hrel
    have hcr := HCR.out
    have hns := HNS.out
    have x0 : (0 : Int) ≤ (k : Int) := by omega
    by_cases h1 : k < n
    · have hlt : k < s := by omega
      obtain ⟨ad, x, rfl, _, hx, hcx, i1, i2⟩ := (HX.out.grow HBW.out).at_ (k := k) (by rw [HL.out.1]; exact h1)
      have x1 : (k : Int) < (n : Int) := by omega
      have HXX := Lib.hid hx
      clear hx
      by_cases h2 : k < m
      · obtain ⟨bd, y, rfl, _, hy, hcy, j1, j2⟩ := (HY.out.grow HBW.out).at_ (k := k) (by rw [HL.out.2]; exact h2)
        have x2 : (k : Int) < (m : Int) := by omega
        have HYY := Lib.hid hy
        clear hy
        have HST := Lib.hid (add_step2 (s := (cr + x + y) % 4294967296) (c' := (cr + x + y) / 4294967296) HT.out (nv_take HXX.out) (nv_take HYY.out) HS.out (by omega))
        have HCN : Hid (0 ≤ (cr + x + y) / 4294967296 ∧ (cr + x + y) / 4294967296 ≤ 1) := Lib.hid (by omega)
        have hdg : Dg ((cr + x + y) % 4294967296) := ⟨by omega, by omega⟩
        have hln : T.length < 100000000 := by rw [HT.out]; omega
        have hsz := HBW.out.size
        have ho := HO.out
        have HK1 : Hid (k + 1 ≤ s ∧ k < s) := Lib.hid ⟨by omega, by omega⟩
        clear hk hlt
        go_wp2_with (at_builtin; refine app_dig _ rfl _ _ rfl w.heap.size ho rfl rfl hln hsz hdg ?_; intro v1 w1 ho1 hb1)
        go_roundw
        case rel => exact ⟨k + 1, T ++ [(cr + x + y) % 4294967296], (cr + x + y) / 4294967296, HK1.out.1, by go_num, rfl, HCN, Lib.hid (by rw [List.length_append, HT.out]; rfl), HST, Lib.hid ho1, Lib.hid (HBW.out.trans hb1)⟩
        case measure => have := HK1.out.2; simp [intOf]; omega
      · have x2 : (m : Int) ≤ (k : Int) := by omega
        have HST := Lib.hid (add_step2 (s := (cr + x) % 4294967296) (c' := (cr + x) / 4294967296) HT.out (nv_take HXX.out) (take_past (by rw [HL.out.2]; omega)) HS.out (by omega))
        have HCN : Hid (0 ≤ (cr + x) / 4294967296 ∧ (cr + x) / 4294967296 ≤ 1) := Lib.hid (by omega)
        have hdg : Dg ((cr + x) % 4294967296) := ⟨by omega, by omega⟩
        have hln : T.length < 100000000 := by rw [HT.out]; omega
        have hsz := HBW.out.size
        have ho := HO.out
        have HK1 : Hid (k + 1 ≤ s ∧ k < s) := Lib.hid ⟨by omega, by omega⟩
        clear hk hlt
        go_wp2_with (at_builtin; refine app_dig _ rfl _ _ rfl w.heap.size ho rfl rfl hln hsz hdg ?_; intro v1 w1 ho1 hb1)
        go_roundw
        case rel => exact ⟨k + 1, T ++ [(cr + x) % 4294967296], (cr + x) / 4294967296, HK1.out.1, by go_num, rfl, HCN, Lib.hid (by rw [List.length_append, HT.out]; rfl), HST, Lib.hid ho1, Lib.hid (HBW.out.trans hb1)⟩
        case measure => have := HK1.out.2; simp [intOf]; omega
    · by_cases h2 : k < m
      · have hlt : k < s := by omega
        have x1 : (n : Int) ≤ (k : Int) := by omega
        obtain ⟨bd, y, rfl, _, hy, hcy, j1, j2⟩ := (HY.out.grow HBW.out).at_ (k := k) (by rw [HL.out.2]; exact h2)
        have x2 : (k : Int) < (m : Int) := by omega
        have HYY := Lib.hid hy
        clear hy
        have HST := Lib.hid (add_step2 (s := (cr + y) % 4294967296) (c' := (cr + y) / 4294967296) HT.out (take_past (by rw [HL.out.1]; omega)) (nv_take HYY.out) HS.out (by omega))
        have HCN : Hid (0 ≤ (cr + y) / 4294967296 ∧ (cr + y) / 4294967296 ≤ 1) := Lib.hid (by omega)
        have hdg : Dg ((cr + y) % 4294967296) := ⟨by omega, by omega⟩
        have hln : T.length < 100000000 := by rw [HT.out]; omega
        have hsz := HBW.out.size
        have ho := HO.out
        have HK1 : Hid (k + 1 ≤ s ∧ k < s) := Lib.hid ⟨by omega, by omega⟩
        clear hk hlt
        go_wp2_with (at_builtin; refine app_dig _ rfl _ _ rfl w.heap.size ho rfl rfl hln hsz hdg ?_; intro v1 w1 ho1 hb1)
        go_roundw
        case rel => exact ⟨k + 1, T ++ [(cr + y) % 4294967296], (cr + y) / 4294967296, HK1.out.1, by go_num, rfl, HCN, Lib.hid (by rw [List.length_append, HT.out]; rfl), HST, Lib.hid ho1, Lib.hid (HBW.out.trans hb1)⟩
        case measure => have := HK1.out.2; simp [intOf]; omega
      · obtain rfl : k = s := by omega
        have x1 : (n : Int) ≤ (k : Int) := by omega
        have x2 : (m : Int) ≤ (k : Int) := by omega
        have hdg : Dg cr := ⟨by omega, by omega⟩
        have hln : T.length < 100000000 := by rw [HT.out]; omega
        have hsz := HBW.out.size
        have ho := HO.out
        have HF : Hid (nv (T ++ [cr]) = V) := Lib.hid (by
          have h1 := HS.out
          rw [take_len (by rw [HL.out.1]; omega), take_len (by rw [HL.out.2]; omega), HV.out] at h1
          rw [nv_app, nv_one, HT.out]; exact h1)
        have CT : Hid (∀ A c w1, DigA w1 A (T ++ [cr]) → (T ++ [cr]).length ≤ c → Calls Try.prog 100 #[.slice A (T ++ [cr]).length c] w1 (RetN w1 V (k + 1))) := Lib.hid fun A c w1 h hc => by
          have := r1_Trim A (T ++ [cr]).length c (T ++ [cr]) w1 h rfl hc (by rw [List.length_append, HT.out]; simp; omega)
          rw [HF.out] at this
          exact this.mono fun _ _ h => h.le (by rw [List.length_append, HT.out]; simp)
        generalize hTT : T ++ [cr] = TT at CT
        have HTT := Lib.hid hTT
        clear hTT hk
        go_wp2_with (first
          | (go_at_call 100; (with_reducible refine (CT.out _ _ _ hd1 hc1).mono ?_); intro e5 w5 h5; obtain ⟨v5, l5, rfl, h5⟩ := h5; have H5 := Lib.hid h5; clear h5)
          | (at_builtin; refine app_dig _ rfl _ _ rfl w.heap.size ho rfl rfl hln hsz hdg ?_; intro v1 w1 ho1 hb1; rw [HTT.out] at ho1; obtain ⟨A1, c1, rfl, hc1, hd1⟩ := ho1.form; have HB1 := Lib.hid (HBW.out.trans hb1); clear hb1 ho1))
        go_ret
        have h5 := H5.out
        exact ⟨_, l5, rfl, h5.1.base HB1.out.size, h5.2.1, h5.2.2.1, h5.2.2.2.1, below_then HB1.out h5.2.2.2.2⟩
end Go.Proofs.Ytmdfgidejdiiiaa
end
section
namespace Go.Proofs.Ytmdfgidejdiiiaa
open Go.RowKit
theorem OwG.some {b : Nat} {w : World} {A : Option Addr} {n c : Nat} {l : List Int} (h : OwG b w (.slice A n c) l) (hn : 0 < n) : ∃ g, A = Option.some ⟨g, 0, none⟩ ∧ b ≤ g := by
  have hl := h.len
  obtain ⟨-, h2 | ⟨g, cap, cur, e, hb, -⟩⟩ := h.1
  · injection h2.1 with _ e2 _; omega
  · injection e with e; exact ⟨g, e, hb⟩
theorem set_drop {T X : List Int} {k : Nat} {x d : Int} (hX : X[k]? = some x) (hk : T.length = k) : (T ++ X.drop k).set k d = (T ++ [d]) ++ X.drop (k + 1) := by
  subst hk
  obtain ⟨l1, e1⟩ := List.getElem?_eq_some_iff.1 hX
  rw [List.set_append_right _ _ (Nat.le_refl _), Nat.sub_self, List.drop_eq_getElem_cons l1, List.set_cons_zero, List.append_assoc]
  rfl
theorem borrow_none {T V b cr : Int} (hcr : 0 ≤ cr ∧ cr ≤ 1) (hb : 0 < b) (h : T = V + b * cr) (hT : T < b) (hV : 0 ≤ V) : T = V := by
  rcases (by omega : cr = 0 ∨ cr = 1) with rfl | rfl
  · simpa using h
  · rw [Int.mul_one] at h; omega
set_option maxRecDepth 100000 in
set_option maxHeartbeats 1000000 in
theorem r1_Sub (A B : Option Addr) (n m c d : Nat) (a b : List Int) (w : World) (ha : DigA w A a) (hb : DigA w B b) (hn : a.length = n) (hm : b.length = m) (hc : n ≤ c) (hd : m ≤ d) (h9 : n ≤ 10000000) (h8 : m ≤ 10000000) (hle : nv b ≤ nv a) :
    Calls Try.prog 112 #[.slice A n c, .slice B m d] w (RetN w (nv a - nv b) n) := by
  have CQ : Hid (Calls Try.prog 111 #[.slice A n c, .slice B m d] w fun e w' => e = .returned (.int .i64 (cmpI (nv a) (nv b))) ∧ Below w.heap.size w w') := Lib.hid (r1_Compare A B n m c d a b w ha hb hn hm hc hd (by omega) (by omega))
  have CA : Hid (∀ w1, Below w.heap.size w w1 → Calls Try.prog 100 #[.slice A n c] w1 (RetN w1 (nv a) n)) := Lib.hid fun w1 h => r1_Trim A n c a w1 (ha.grow h) hn hc (by omega)
  have CB : Hid (∀ w1, Below w.heap.size w w1 → Calls Try.prog 100 #[.slice B m d] w1 (RetN w1 (nv b) m)) := Lib.hid fun w1 h => r1_Trim B m d b w1 (hb.grow h) hm hd (by omega)
  have hx : 0 ≤ cmpI (nv a) (nv b) := by unfold cmpI; rw [if_neg (by omega)]; split <;> omega
  obtain ⟨R, hR⟩ : ∃ R, cmpI (nv a) (nv b) = R := ⟨_, rfl⟩
  rw [hR] at CQ hx
  obtain ⟨V, hV⟩ : ∃ V, nv a - nv b = V := ⟨_, rfl⟩
  rw [hV]
  have HV := Lib.hid (And.intro hV hle)
  clear hR hV hle ha hb hn hm hc hd
  go_enter Try.func112, Try.ntmps112
  go_upto_region 7 with (first
    | (go_at_call 111; (with_reducible refine CQ.out.mono ?_); rintro e0 w0 ⟨rfl, hb0⟩; have HB0 := Lib.hid hb0; clear hb0)
    | (go_at_call 100; first
      | ((with_reducible refine (CB.out _ HB0.out).mono ?_); rintro e1 w1 ⟨v1, ql, rfl, o1, n1, m1, k1, hb1⟩; have HQ := Lib.hid (And.intro o1 (And.intro n1 (And.intro m1 k1))); have HB1 := Lib.hid hb1; have HB01 := Lib.hid (below_then HB0.out hb1); clear o1 n1 m1 k1 hb1)
      | ((with_reducible refine (CA.out _ HB01.out).mono ?_); rintro e2 w2 ⟨v2, pl, rfl, o2, n2, m2, k2, hb2⟩; have HP := Lib.hid (And.intro o2 (And.intro n2 (And.intro m2 k2))); have HB2 := Lib.hid hb2; clear o2 n2 m2 k2 hb2)))
  obtain ⟨A1, c1, rfl, -, d1⟩ := HP.out.1.form
  obtain ⟨B1, c2, rfl, -, d2⟩ := HQ.out.1.form
  have HY : Hid (DigA w1 B1 ql) := Lib.hid d2
  obtain ⟨p, hp⟩ : ∃ p, pl.length = p := ⟨_, rfl⟩
  obtain ⟨q, hq⟩ : ∃ q, ql.length = q := ⟨_, rfl⟩
  have HL : Hid (pl.length = p ∧ ql.length = q) := Lib.hid ⟨hp, hq⟩
  have HXV : Hid (nv pl - nv ql = V) := Lib.hid (by rw [HP.out.2.1, HQ.out.2.1]; exact HV.out.1)
  have hpn : p ≤ n := by have := HP.out.2.2.2; omega
  have hqp : q ≤ p := by
    rcases Nat.lt_or_ge p q with h | h
    · have h1 := nrm_lt d1.dig d2.dig HQ.out.2.2.1 (by omega)
      have h2 := HV.out.2
      rw [← HP.out.2.1, ← HQ.out.2.1] at h2
      omega
    · exact h
  have HO2 : Hid (OwG w1.heap.size w2 (.slice A1 p c1) pl) := Lib.hid (hp ▸ HP.out.1)
  have HBB : Hid (Below w1.heap.size w1 w2) := HB2
  have HW1 : Hid (Below w.heap.size w w1) := HB01
  have HPN := Lib.hid (And.intro hpn hqp)
  clear d1 d2 HP HQ CA CB CQ HB0 HB1 HB2 HB01
  rw [hp, hq]
  clear hp hq hx
  go_wp2_with fail
  go_loopw [6, 7] (fun cy i wr => ∃ (k : Nat) (T : List Int) (cr : Int), k ≤ p ∧ i = .int .i64 k ∧ cy = .int .u64 cr ∧ Hid (0 ≤ cr ∧ cr ≤ 1) ∧ Hid (T.length = k) ∧ Hid (nv T = nv (pl.take k) - nv (ql.take k) + bp k * cr) ∧ Hid (OwG w1.heap.size wr (.slice A1 p c1) (T ++ pl.drop k)) ∧ Hid (Below w1.heap.size w1 wr)) (fun _ i _ => p - (intOf i).toNat)
  case atStart => exact ⟨0, [], 0, Nat.zero_le _, rfl, rfl, Lib.hid (by omega), Lib.hid rfl, Lib.hid (by simp [nv]), HO2, HBB⟩
  case round =>
    obtain ⟨k, T, cr, hk, rfl, rfl, HCR, HT, HS, HO, HBW⟩ := hrel
    have hcr := HCR.out
    have x0 : (0 : Int) ≤ (k : Int) := by omega
    by_cases hlt : k < p
    · have x1 : (k : Int) < (p : Int) := by omega
      obtain ⟨g, rfl, hg0⟩ := HO.out.some (by omega)
      have HG := Lib.hid hg0
      obtain ⟨x, hx⟩ : ∃ x, pl[k]? = some x := ⟨_, List.getElem?_eq_getElem (by rw [HL.out.1]; exact hlt)⟩
      have HXX := Lib.hid hx
      have ho := HO.out
      have hxk : (T ++ pl.drop k)[k]? = some x := by rw [List.getElem?_append_right (by rw [HT.out]; exact Nat.le_refl _), HT.out, Nat.sub_self, List.getElem?_drop, Nat.add_zero]; exact hx
      have hcx := ho.cell (k := k) hxk
      have zf := ho.free k
      obtain ⟨i1, i2⟩ := ho.dig.at_ hxk
      clear hx hxk hg0
      by_cases hky : k < q
      · obtain ⟨bd, y, rfl, _, hy, hcy, j1, j2⟩ := (HY.out.grow HBW.out).at_ (k := k) (by rw [HL.out.2]; exact hky)
        have HYY := Lib.hid hy
        have x3 : (k : Int) < (q : Int) := by omega
        clear hy
        by_cases hlow : x < (cr + y)
        · obtain ⟨dd, hdd⟩ : ∃ dd, x + 4294967296 - (cr + y) = dd := ⟨_, rfl⟩
          have hd0 : 0 ≤ dd := by omega
          have hd1 : dd < 4294967296 := by omega
          have hdw : IntKind.u64.wrap (x + 4294967296 - (cr + y)) = dd := (IntWalk.u64_in _ (by omega)).trans hdd
          have HST := Lib.hid (sub_one (s := dd) (c' := 1) (y := y) HT.out HXX.out (nv_take HYY.out) HS.out (by omega))
          have hse := ho.set k (y := dd) ⟨hd0, hd1⟩
          rw [set_drop HXX.out HT.out] at hse
          have HSE := Lib.hid hse
          have HBS := Lib.hid (HBW.out.setCell (p := ⟨g, k, none⟩) HG.out (.int .u32 dd))
          have HKK : Hid (k + 1 ≤ p ∧ k < p) := Lib.hid ⟨by omega, by omega⟩
          clear ho hse hdd hk
          go_wp2_with fail
          go_roundw
          case rel => exact ⟨k + 1, T ++ [dd], 1, HKK.out.1, by go_num, rfl, Lib.hid (by omega), Lib.hid (by rw [List.length_append, HT.out]; rfl), HST, HSE, HBS⟩
          case measure => have := HKK.out.2; simp [intOf]; omega
        · have hlow' : (cr + y) ≤ x := by omega
          obtain ⟨dd, hdd⟩ : ∃ dd, x - (cr + y) = dd := ⟨_, rfl⟩
          have hd0 : 0 ≤ dd := by omega
          have hd1 : dd < 4294967296 := by omega
          have hdw : IntKind.u64.wrap (x - (cr + y)) = dd := (IntWalk.u64_in _ (by omega)).trans hdd
          have HST := Lib.hid (sub_one (s := dd) (c' := 0) (y := y) HT.out HXX.out (nv_take HYY.out) HS.out (by omega))
          have hse := ho.set k (y := dd) ⟨hd0, hd1⟩
          rw [set_drop HXX.out HT.out] at hse
          have HSE := Lib.hid hse
          have HBS := Lib.hid (HBW.out.setCell (p := ⟨g, k, none⟩) HG.out (.int .u32 dd))
          have HKK : Hid (k + 1 ≤ p ∧ k < p) := Lib.hid ⟨by omega, by omega⟩
          clear ho hse hdd hk
          go_wp2_with fail
          go_roundw
          case rel => exact ⟨k + 1, T ++ [dd], 0, HKK.out.1, by go_num, rfl, Lib.hid (by omega), Lib.hid (by rw [List.length_append, HT.out]; rfl), HST, HSE, HBS⟩
          case measure => have := HKK.out.2; simp [intOf]; omega
      · have x3 : (q : Int) ≤ (k : Int) := by omega
        by_cases hlow : x < cr
        · obtain ⟨dd, hdd⟩ : ∃ dd, x + 4294967296 - cr = dd := ⟨_, rfl⟩
          have hd0 : 0 ≤ dd := by omega
          have hd1 : dd < 4294967296 := by omega
          have hdw : IntKind.u64.wrap (x + 4294967296 - cr) = dd := (IntWalk.u64_in _ (by omega)).trans hdd
          have HST := Lib.hid (sub_one (s := dd) (c' := 1) (y := 0) HT.out HXX.out (take_past (by rw [HL.out.2]; omega)) HS.out (by omega))
          have hse := ho.set k (y := dd) ⟨hd0, hd1⟩
          rw [set_drop HXX.out HT.out] at hse
          have HSE := Lib.hid hse
          have HBS := Lib.hid (HBW.out.setCell (p := ⟨g, k, none⟩) HG.out (.int .u32 dd))
          have HKK : Hid (k + 1 ≤ p ∧ k < p) := Lib.hid ⟨by omega, by omega⟩
          clear ho hse hdd hk
          go_wp2_with fail
          go_roundw
          case rel => exact ⟨k + 1, T ++ [dd], 1, HKK.out.1, by go_num, rfl, Lib.hid (by omega), Lib.hid (by rw [List.length_append, HT.out]; rfl), HST, HSE, HBS⟩
          case measure => have := HKK.out.2; simp [intOf]; omega
        · have hlow' : cr ≤ x := by omega
          obtain ⟨dd, hdd⟩ : ∃ dd, x - cr = dd := ⟨_, rfl⟩
          have hd0 : 0 ≤ dd := by omega
          have hd1 : dd < 4294967296 := by omega
          have hdw : IntKind.u64.wrap (x - cr) = dd := (IntWalk.u64_in _ (by omega)).trans hdd
          have HST := Lib.hid (sub_one (s := dd) (c' := 0) (y := 0) HT.out HXX.out (take_past (by rw [HL.out.2]; omega)) HS.out (by omega))
          have hse := ho.set k (y := dd) ⟨hd0, hd1⟩
          rw [set_drop HXX.out HT.out] at hse
          have HSE := Lib.hid hse
          have HBS := Lib.hid (HBW.out.setCell (p := ⟨g, k, none⟩) HG.out (.int .u32 dd))
          have HKK : Hid (k + 1 ≤ p ∧ k < p) := Lib.hid ⟨by omega, by omega⟩
          clear ho hse hdd hk
          go_wp2_with fail
          go_roundw
          case rel => exact ⟨k + 1, T ++ [dd], 0, HKK.out.1, by go_num, rfl, Lib.hid (by omega), Lib.hid (by rw [List.length_append, HT.out]; rfl), HST, HSE, HBS⟩
          case measure => have := HKK.out.2; simp [intOf]; omega
    · obtain rfl : k = p := by omega
      have HF : Hid (nv T = V) := Lib.hid (by
        have h1 := HS.out
        rw [take_len (by rw [HL.out.1]; exact Nat.le_refl _), take_len (by rw [HL.out.2]; exact HPN.out.2), HXV.out] at h1
        have h2 := nv_lt (HO.out.dig.take k)
        have h3 := nv_low (HO.out.dig.take k)
        rw [List.take_left' HT.out] at h2 h3
        rw [HT.out] at h2
        have hv := HV.out
        exact borrow_none hcr (bp_pos k) h1 h2 (by omega))
      have ho := HO.out
      rw [List.drop_of_length_le (by rw [HL.out.1]; exact Nat.le_refl _), List.append_nil] at ho
      have CT : Hid (Calls Try.prog 100 #[.slice A1 k c1] wr (RetN wr V n)) := Lib.hid (by
        have := r1_Trim A1 k c1 T wr ho.digA ho.len.1 ho.len.2 (by omega)
        rw [HF.out] at this
        exact this.mono fun _ _ h => h.le hpn)
      clear ho hk
      go_wp2_with (go_at_call 100; (with_reducible refine CT.out.mono ?_); intro e5 w5 h5; obtain ⟨v5, l5, rfl, h5⟩ := h5; have H5 := Lib.hid h5; clear h5)
      go_ret
      have h5 := H5.out
      have hbw := below_then HW1.out HBW.out
      exact ⟨_, l5, rfl, h5.1.base hbw.size, h5.2.1, h5.2.2.1, h5.2.2.2.1, below_then hbw h5.2.2.2.2⟩
end Go.Proofs.Ytmdfgidejdiiiaa
end
