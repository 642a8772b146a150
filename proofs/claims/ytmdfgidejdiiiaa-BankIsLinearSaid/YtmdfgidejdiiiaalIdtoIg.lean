/- Several texts in one: Id Ie If Ig. -/
import Derived.Test.YtmdfgidejdiiiaalZ8toIc
set_option linter.unusedVariables false
set_option linter.unusedSimpArgs false
section
namespace Go.Proofs.Ytmdfgidejdiiiaa
open Go.RowKit
theorem nrm_len {l : List Int} {k : Nat} (hd : Dig l) (hn : Nrm l) (h : nv l < bp k) : l.length ≤ k := by
  rcases Nat.lt_or_ge k l.length with hk | hk
  · have hl : l ≠ [] := by intro e; rw [e] at hk; simp at hk
    have h1 := nrm_le hd hn hl
    have h2 := bp_le (m := k) (n := l.length - 1) (by omega)
    omega
  · exact hk
theorem RetN.short {w w' : World} {x : Int} {K M : Nat} {e : Ending} (h : RetN w x K e w') (hm : x < bp M) : RetN w x M e w' := by
  obtain ⟨v, l, h1, h2, h3, h4, h5, h6⟩ := h
  exact ⟨v, l, h1, h2, h3, h4, nrm_len h2.dig h4 (by rw [h3]; exact hm), h6⟩
set_option maxRecDepth 100000 in
set_option maxHeartbeats 1000000 in
theorem r1_Mul (A B : Option Addr) (p q c d : Nat) (X Y : List Int) (w : World) (ha : DigA w A X) (hb : DigA w B Y) (hn : X.length = p) (hm : Y.length = q) (hc : p ≤ c) (hd : q ≤ d) (h9 : p ≤ 10000000) (h8 : q ≤ 10000000) :
    Calls Try.prog 104 #[.slice A p c, .slice B q d] w (RetN w (nv X * nv Y) (p + q)) := by
  have HX := Lib.hid ha
  have HY := Lib.hid hb
  have HL := Lib.hid (And.intro hn hm)
  obtain ⟨V, hV⟩ : ∃ V, nv X * nv Y = V := ⟨_, rfl⟩
  have HVB : Hid (V < bp (p + q)) := Lib.hid (by
    have h1 := nv_lt ha.dig
    have h2 := nv_lt hb.dig
    have h3 := nv_low ha.dig
    have h4 := nv_low hb.dig
    rw [hn] at h1
    rw [hm] at h2
    rw [← hV, bp_add]
    have h5 := mul_mono (a := nv X) (b := bp p) (c := nv Y) (by omega) h4
    have h6 : bp p * nv Y < bp p * bp q := Int.mul_lt_mul_of_pos_left h2 (bp_pos p)
    omega)
  rw [hV]
  have HXV := Lib.hid hV
  clear ha hb hn hm hV
  obtain ⟨s, hs⟩ : ∃ s, p + q + 1 = s := ⟨_, rfl⟩
  have HS := Lib.hid hs
  have q1 : IntKind.i64.wrap ((p : Int) + (q : Int) + 1) = (s : Int) := (IntWalk.i64_in _ (by omega)).trans (by omega)
  have q2 : (p : Int) + (q : Int) + 1 = (s : Int) := by omega
  refine Calls.mono (R := RetN w V s) ?_ fun _ _ h => h.short HVB.out
  go_enter Try.func104, Try.ntmps104
  go_upto_region 2 with ((with_reducible show wpList _ _ _ (Oper.mk _ (.makeSlice _ _ _) _ _ _ _ :: _) _ _); refine mk_dig rfl _ _ rfl w.heap.size s rfl rfl rfl (by omega) (Nat.le_refl _) ?_; intro w3 ho3 hb3; have HO3 := Lib.hid ho3; have HB3 := Lib.hid hb3; clear ho3 hb3)
  go_upto_region 3 with fail
  obtain ⟨g, hg⟩ : ∃ g, g = w.heap.size := ⟨_, rfl⟩
  have HG : Hid (w.heap.size ≤ g) := Lib.hid (by rw [hg]; exact Nat.le_refl _)
  have HO3' : Hid (OwG w.heap.size w3 (.slice (some ⟨g, 0, none⟩) s s) (List.replicate s 0)) := Lib.hid (by rw [hg]; exact HO3.out)
  rw [← hg]
  clear hg hs q1 q2 HO3
  go_wp2_with fail
  go_loopw [6] (fun i wr => ∃ (k : Nat) (P : List Int), k ≤ p ∧ i = .int .i64 k ∧ Hid (P.length = s) ∧ Hid (nv P = nv (X.take k) * nv Y) ∧ Hid (ZeroFrom P (k + q)) ∧ Hid (OwG w.heap.size wr (.slice (some ⟨g, 0, none⟩) s s) P) ∧ Hid (Below w.heap.size w wr)) (fun i _ => p - (intOf i).toNat)
  case atStart => exact ⟨0, List.replicate s 0, Nat.zero_le _, rfl, Lib.hid (by simp), Lib.hid (by rw [nv_rep]; simp [nv]), Lib.hid (ZeroFrom.rep _ _), HO3', HB3⟩
  case round =>
    obtain ⟨i, P, hk, rfl, HPL, HPV, HPZ, HO, HBW⟩ := hrel
    by_cases hlt : i < p
    · obtain ⟨ad, x, rfl, _, hx, hcx, i1, i2⟩ := (HX.out.grow HBW.out).at_ (k := i) (by rw [HL.out.1]; exact hlt)
      have HXX := Lib.hid hx
      have x0 : (0 : Int) ≤ (i : Int) := by omega
      have x1 : (i : Int) < (p : Int) := by omega
      have HIP := Lib.hid hlt
      clear hx hlt
      go_upto_region 7 with fail
      obtain ⟨wo, hwo⟩ : ∃ wo : World, wo = wr := ⟨_, rfl⟩
      have HOP := HO
      have HBP := HBW
      rw [← hwo] at HOP HBP ⊢
      clear hwo HO HBW hcx
      go_wp2_with fail
      go_loopw [7, 8] (fun cy jj wi => ∃ (j : Nat) (Q : List Int) (cr : Int), j ≤ q ∧ jj = .int .i64 j ∧ cy = .int .u64 cr ∧ Hid (0 ≤ cr ∧ cr < 4294967296) ∧ Hid (Q.length = s) ∧ Hid (nv Q + bp (i + j) * cr = nv P + bp i * (x * nv (Y.take j))) ∧ Hid (ZeroFrom Q (i + q)) ∧ Hid (OwG w.heap.size wi (.slice (some ⟨g, 0, none⟩) s s) Q) ∧ Hid (Below w.heap.size w wi)) (fun _ jj _ => q - (intOf jj).toNat)
      case atStart => exact ⟨0, P, 0, Nat.zero_le _, rfl, rfl, Lib.hid (by omega), HPL, Lib.hid (by simp [nv]), HPZ, HOP, HBP⟩
      case round =>
        obtain ⟨j, Q, cr, hj, rfl, rfl, HCR, HQL, HQV, HQZ, HQO, HBQ⟩ := hrel
        have hcr := HCR.out
        have hip := HIP.out
        have hs := HS.out
        by_cases hjq : j < q
        · obtain ⟨bd, y, rfl, _, hy, hcy, j1, j2⟩ := (HY.out.grow HBQ.out).at_ (k := j) (by rw [HL.out.2]; exact hjq)
          obtain ⟨ad', x', e1, hbx, hx', hcx, -, -⟩ := (HX.out.grow HBQ.out).at_ (k := i) (by rw [HL.out.1]; exact hip)
          injection e1 with e1
          subst e1
          rw [HXX.out] at hx'
          injection hx' with hx'
          subst hx'
          obtain ⟨ij, hij⟩ : ∃ k, i + j = k := ⟨_, rfl⟩
          obtain ⟨o, ho⟩ : ∃ o, Q[ij]? = some o := ⟨_, List.getElem?_eq_getElem (by rw [HQL.out]; omega)⟩
          have zc := HQO.out.cell ho
          obtain ⟨o1, o2⟩ := HQO.out.dig.at_ ho
          obtain ⟨M, hM⟩ : ∃ M, x * y = M := ⟨_, rfl⟩
          obtain ⟨m1, m2⟩ := mul_dig ⟨i1, i2⟩ ⟨j1, j2⟩
          rw [hM] at m1 m2
          obtain ⟨t, ht⟩ : ∃ t, cr + (M + o) = t := ⟨_, rfl⟩
          have HST := Lib.hid (mul_step (i := i) hy HQV.out (show t = x * y + o + cr by rw [hM]; omega))
          have ht0 : 0 ≤ t := by omega
          have ht1 : t < 18446744073709551616 := by omega
          have HTE := Lib.hid ht
          have HHO := Lib.hid ho
          have y0 : (0 : Int) ≤ (j : Int) := by omega
          have y1 : (j : Int) < (q : Int) := by omega
          have y2 : (0 : Int) ≤ (ij : Int) := by omega
          have y3 : (ij : Int) < (s : Int) := by omega
          have y4 : IntKind.i64.wrap ((i : Int) + (j : Int)) = (ij : Int) := (IntWalk.i64_in _ (by omega)).trans (by omega)
          have y5 : (i : Int) + (j : Int) = (ij : Int) := by omega
          have HJ : Hid (j + 1 ≤ q ∧ j < q) := Lib.hid ⟨hjq, hjq⟩
          have HIJ := Lib.hid hij
          clear ho hy hij hs hip hjq hj HQV ht hbx
          go_upto_region 9 with fail
          go_quiet (fail)
          rw [HTE.out]
          have HQ5 := Lib.hid (HQO.out.grow (below_drewN (Below.refl _ _) nq))
          have HB5 := Lib.hid (below_drewN HBQ.out nq)
          clear hcx hcy zc HQO HBQ hM
          have hs9 : s ≤ 30000000 := by have := HS.out; omega
          generalize wr.drewN nq = w5 at HQ5 HB5 ⊢
          have zf := HQ5.out.free ij
          have zc := HQ5.out.cell HHO.out
          have hse := HQ5.out.set ij (y := t % 4294967296) ⟨by omega, by omega⟩
          have HSE := Lib.hid hse
          have HBS := Lib.hid (HB5.out.setCell (p := ⟨g, ij, none⟩) HG.out (.int .u32 (t % 4294967296)))
          have HCN : Hid (0 ≤ t / 4294967296 ∧ t / 4294967296 < 4294967296) := Lib.hid (by omega)
          have HNV : Hid (nv (Q.set ij (t % 4294967296)) + bp (i + (j + 1)) * (t / 4294967296) = nv P + bp i * (x * nv (Y.take (j + 1)))) := Lib.hid (by
            have h1 := HST.out
            rw [HIJ.out] at h1
            rw [nv_set HHO.out, ← Nat.add_assoc, HIJ.out]
            exact h1)
          have HZN := Lib.hid (HQZ.out.set (i := ij) (y := t % 4294967296) (by have := HIJ.out; have := HJ.out.2; omega))
          clear hse HST
          go_wp2_with fail
          go_roundw
          case rel => exact ⟨j + 1, Q.set ij (t % 4294967296), t / 4294967296, HJ.out.1, by go_num, rfl, HCN, Lib.hid (by rw [List.length_set]; exact HQL.out), HNV, HZN, HSE, HBS⟩
          case measure => have := HJ.out.2; simp [intOf]; omega
        · obtain rfl : j = q := by omega
          obtain ⟨ij, hij⟩ : ∃ k, i + j = k := ⟨_, rfl⟩
          obtain ⟨o, ho⟩ : ∃ o, Q[ij]? = some o := ⟨_, List.getElem?_eq_getElem (by rw [HQL.out]; omega)⟩
          obtain rfl : o = 0 := HQZ.out ij o (by omega) ho
          have zc := HQO.out.cell ho
          have zf := HQO.out.free ij
          have hse := HQO.out.set ij (y := cr) ⟨by omega, by omega⟩
          have HSE := Lib.hid hse
          have HBS := Lib.hid (HBQ.out.setCell (p := ⟨g, ij, none⟩) HG.out (.int .u32 cr))
          have HNV : Hid (nv (Q.set ij cr) = nv (X.take (i + 1)) * nv Y) := Lib.hid (by
            have h1 := HQV.out
            rw [hij, take_len (by rw [HL.out.2]; exact Nat.le_refl _)] at h1
            rw [nv_set ho, Int.sub_zero, h1, mul_row HXX.out, HPV.out])
          have HZN : Hid (ZeroFrom (Q.set ij cr) (i + 1 + j)) := Lib.hid ((HQZ.out.le (t := i + 1 + j) (by omega)).set (by omega))
          have y2 : (0 : Int) ≤ (ij : Int) := by omega
          have y3 : (ij : Int) < (s : Int) := by omega
          have y4 : IntKind.i64.wrap ((i : Int) + (j : Int)) = (ij : Int) := (IntWalk.i64_in _ (by omega)).trans (by omega)
          have y5 : (i : Int) + (j : Int) = (ij : Int) := by omega
          clear hse ho hij hs hip hjq HQO HQV HQZ
          go_wp2_with fail
          go_roundw
          case rel => exact ⟨i + 1, Q.set ij cr, HIP.out, by go_num, Lib.hid (by rw [List.length_set]; exact HQL.out), HNV, HZN, HSE, HBS⟩
          case measure => have := HIP.out; simp [intOf]; omega
    · obtain rfl : i = p := by omega
      have HF : Hid (nv P = V) := Lib.hid (by rw [HPV.out, take_len (by rw [HL.out.1]; exact Nat.le_refl _)]; exact HXV.out)
      have hs := HS.out
      have CC : Hid (Calls Try.prog 100 #[.slice (some ⟨g, 0, none⟩) s s] wr (RetN wr V s)) := Lib.hid (HF.out ▸ r1_Trim _ _ _ _ wr HO.out.digA HO.out.len.1 (Nat.le_refl _) (by omega))
      go_wp2_with (go_at_call 100; (with_reducible refine CC.out.mono ?_); intro e5 w5 h5; obtain ⟨v5, l5, rfl, h5⟩ := h5; have H5 := Lib.hid h5; clear h5)
      go_ret
      have h5 := H5.out
      exact ⟨_, l5, rfl, h5.1.base HBW.out.size, h5.2.1, h5.2.2.1, h5.2.2.2.1, below_then HBW.out h5.2.2.2.2⟩
end Go.Proofs.Ytmdfgidejdiiiaa
end
section
namespace Go.Proofs.Ytmdfgidejdiiiaa
open Go.RowKit
def RetQD (w : World) (q r : Int) (K : Nat) (e : Ending) (w' : World) : Prop := ∃ v l, e = .returned (.tuple #[v, .int .u32 r]) ∧ (OwG w.heap.size w' v l ∧ nv l = q ∧ Nrm l ∧ l.length ≤ K) ∧ Below w.heap.size w w'
set_option maxRecDepth 100000 in
set_option maxHeartbeats 1000000 in
theorem r1_small (A : Option Addr) (p c : Nat) (X : List Int) (y : Int) (w : World) (hX : DigA w A X) (hp : X.length = p) (hc : p ≤ c) (h9 : p ≤ 10000000) (hy0 : 0 < y) (y2 : y < 4294967296) :
    Calls Try.prog 134 #[.slice A p c, .int .u32 y] w (RetQD w (nv X / y) (nv X % y) p) := by
  have q1 : IntKind.i64.wrap ((p : Int) - 1) = (p : Int) - 1 := IntWalk.i64_in _ (by omega)
  have HX := Lib.hid hX
  have HL := Lib.hid hp
  obtain ⟨VQ, hVQ⟩ : ∃ v, nv X / y = v := ⟨_, rfl⟩
  obtain ⟨VR, hVR⟩ : ∃ v, nv X % y = v := ⟨_, rfl⟩
  rw [hVQ, hVR]
  have HV := Lib.hid (And.intro hVQ hVR)
  clear hX hp hVQ hVR
  go_enter Try.func134, Try.ntmps134
  go_upto_region 2 with ((with_reducible show wpList _ _ _ (Oper.mk _ (.makeSlice _ _ _) _ _ _ _ :: _) _ _); refine mk_dig rfl _ _ rfl w.heap.size p rfl rfl (by omega) (by omega) (Nat.le_refl _) ?_; intro w3 ho3 hb3; have HO3 := Lib.hid ho3; have HB3 := Lib.hid hb3; clear ho3 hb3)
  go_upto_region 4 with fail
  obtain ⟨g, hg⟩ : ∃ g, g = w.heap.size := ⟨_, rfl⟩
  have HG : Hid (w.heap.size ≤ g) := Lib.hid (by rw [hg]; exact Nat.le_refl _)
  have HO3' : Hid (OwG w.heap.size w3 (.slice (some ⟨g, 0, none⟩) p p) (List.replicate p 0)) := Lib.hid (by rw [hg]; exact HO3.out)
  rw [← hg]
  clear hg HO3
  go_wp2_with fail
  go_loopw [7, 8] (fun s8 i wr => ∃ (k : Nat) (t rest : Int) (D : List Int), k ≤ p ∧ i = .int .i64 t ∧ s8 = .int .u64 rest ∧ Hid (t = (k : Int) - 1) ∧ Hid (0 ≤ rest ∧ rest < y) ∧ Hid (y * nv D + rest = nv (X.drop k)) ∧ Hid (OwG w.heap.size wr (.slice (some ⟨g, 0, none⟩) p p) (List.replicate k 0 ++ D)) ∧ Hid (Below w.heap.size w wr)) (fun _ i _ => (intOf i + 1).toNat)
  case atStart => exact ⟨p, (p : Int) - 1, 0, [], Nat.le_refl _, rfl, rfl, Lib.hid rfl, Lib.hid (by omega), Lib.hid (by rw [List.drop_of_length_le (by rw [HL.out]; exact Nat.le_refl _)]; simp [nv]), Lib.hid (by rw [List.append_nil]; exact HO3'.out), HB3⟩
  case round =>
    obtain ⟨k, t, rest, D, hk, rfl, rfl, HT, HR, HS, HO, HBW⟩ := hrel
    by_cases hk0 : k = 0
    · subst hk0
      obtain rfl : t = -1 := by have := HT.out; omega
      have hr := HR.out
      have hq : nv D = VQ ∧ rest = VR := by
        have h1 := HS.out
        rw [List.drop_zero] at h1
        have hv := HV.out
        rw [← h1, Int.mul_add_ediv_left _ _ (by omega), Int.ediv_eq_zero_of_lt hr.1 hr.2, Int.add_zero, Int.mul_add_emod_self_left, Int.emod_eq_of_lt hr.1 hr.2] at hv
        exact hv
      obtain ⟨hq1, rfl⟩ := hq
      have ho := HO.out
      rw [List.replicate_zero, List.nil_append] at ho
      have CC : Hid (Calls Try.prog 100 #[.slice (some ⟨g, 0, none⟩) p p] wr (RetN wr VQ p)) := Lib.hid (hq1 ▸ r1_Trim _ _ _ _ wr ho.digA ho.len.1 (Nat.le_refl _) (by omega))
      have hr32 : 0 ≤ rest ∧ rest < 4294967296 := by omega
      clear ho hq1 hr
      go_wp2_with (go_at_call 100; (with_reducible refine CC.out.mono ?_); intro e5 w5 h5; obtain ⟨v5, l5, rfl, h5⟩ := h5; have H5 := Lib.hid h5; clear h5)
      go_ret2
      have h5 := H5.out
      exact ⟨_, l5, rfl, ⟨h5.1.base HBW.out.size, h5.2.1, h5.2.2.1, h5.2.2.2.1⟩, below_then HBW.out h5.2.2.2.2⟩
    · obtain ⟨j, rfl⟩ : ∃ j, k = j + 1 := ⟨k - 1, by omega⟩
      obtain rfl : t = (j : Int) := by have := HT.out; omega
      obtain ⟨ad, x, rfl, _, hx, hcx, i1, i2⟩ := (HX.out.grow HBW.out).at_ (k := j) (by rw [HL.out]; omega)
      have x0 : (0 : Int) ≤ (j : Int) := by omega
      have x1 : (j : Int) < (p : Int) := by omega
      have x3 : IntKind.i64.wrap ((j : Int) - 1) = (j : Int) - 1 := IntWalk.i64_in _ (by omega)
      have hr := HR.out
      obtain ⟨⟨l1, l2⟩, ⟨l3, l4⟩, ⟨l5, l6⟩, l7⟩ := one_step hr ⟨i1, i2⟩ y2
      have s1 := shl_or (a := rest) (b := x) (by omega) ⟨i1, i2⟩
      obtain ⟨T, hT⟩ : ∃ t, 4294967296 * rest + x = t := ⟨_, rfl⟩
      rw [hT] at l1 l2 l3 l4 l5 l6 l7 s1
      have r1 : 0 ≤ rest := hr.1
      have r2 : rest < 4294967296 := by omega
      have ho := HO.out
      have zc := ho.cell (k := j) (y := 0) (by rw [List.getElem?_append_left (by simp), List.getElem?_replicate, if_pos (by omega)])
      have zf := ho.free j
      have hst : y * nv ((T / y) :: D) + T % y = nv (X.drop j) := by
        rw [nv_drop hx, ← HS.out]
        show y * (T / y + 4294967296 * nv D) + T % y = _
        rw [Int.mul_add, Int.mul_left_comm, Int.mul_add 4294967296]
        omega
      have hse := ho.set j (y := T / y) ⟨l3, l4⟩
      rw [set_front] at hse
      have HSE := Lib.hid hse
      have HBS := Lib.hid (HBW.out.setCell (p := ⟨g, j, none⟩) HG.out (.int .u32 (T / y)))
      have HST := Lib.hid hst
      have HR2 := Lib.hid (And.intro l5 l6)
      have HK := Lib.hid hk
      clear hx hst hse ho hT l7 HT hk hk0 hr
      go_wp2_with fail
      go_roundw
      case rel => exact ⟨j, (j : Int) - 1, T % y, (T / y) :: D, by have := HK.out; omega, rfl, rfl, Lib.hid rfl, HR2, HST, HSE, HBS⟩
      case measure => simp [intOf]
end Go.Proofs.Ytmdfgidejdiiiaa
end
section
namespace Go.Proofs.Ytmdfgidejdiiiaa
open Go.RowKit
def LenOf (y : Int) (k : Nat) : Prop := 1 ≤ k ∧ k ≤ 32 ∧ 2 ^ (k - 1) ≤ y ∧ y < 2 ^ k
theorem len_step {y x : Int} {k : Nat} (hy : 0 ≤ y) (hx : x = y / 2 ^ k) : x / 2 = y / 2 ^ (k + 1) := by
  rw [hx, Int.ediv_ediv_of_nonneg (by have := pow2_pos k; omega), Int.pow_succ]
theorem len_end {y : Int} {k : Nat} (hy : 0 < y ∧ y < 4294967296) (h0 : y / 2 ^ k = 0) (h1 : k = 0 ∨ y / 2 ^ (k - 1) ≠ 0) : LenOf y k := by
  have hp := pow2_pos k
  have hlt : y < 2 ^ k := by
    have a := Int.mul_ediv_add_emod y (2 ^ k)
    have b := Int.emod_lt_of_pos y hp
    rw [h0] at a
    omega
  have hk : k ≠ 0 := by
    rintro rfl
    rw [Int.pow_zero] at hlt
    omega
  have hge : 2 ^ (k - 1) ≤ y := by
    rcases h1 with h1 | h1
    · exact absurd h1 hk
    · have hp1 := pow2_pos (k - 1)
      rcases Int.lt_or_le y (2 ^ (k - 1)) with h | h
      · exact absurd (Int.ediv_eq_zero_of_lt (by omega) h) h1
      · exact h
  refine ⟨by omega, ?_, hge, hlt⟩
  rcases Nat.lt_or_ge 32 k with h | h
  · have e : (2 : Int) ^ (k - 1) = 2 ^ 32 * 2 ^ (k - 1 - 32) := by rw [← Int.pow_add]; congr 1; omega
    have := pow2_pos (k - 1 - 32)
    rw [e, show (2 : Int) ^ 32 = 4294967296 from rfl] at hge
    omega
  · exact h
set_option maxRecDepth 100000 in
set_option maxHeartbeats 1000000 in
theorem r1_BitLen (A : Option Addr) (c : Nat) (y : Int) (w : World) (hX : DigA w A [y]) (hc : 1 ≤ c) (hy : y ≠ 0) :
    Calls Try.prog 135 #[.slice A 1 c] w fun e w' => (∃ k, e = .returned (.int .i64 (k : Nat)) ∧ LenOf y k) ∧ Below w.heap.size w w' := by
  have hd := hX.dig.at_ (k := 0) (x := y) rfl
  have HY : Hid (0 < y ∧ y < 4294967296) := Lib.hid (by omega)
  have CT : Hid (Calls Try.prog 100 #[.slice A 1 c] w (RetN w y 1)) := Lib.hid (by
    have := r1_Trim A 1 c [y] w hX rfl hc (by omega)
    rw [nv_one] at this
    exact this)
  clear hX hd hy
  go_enter Try.func135, Try.ntmps135
  go_upto_region 2 with (go_at_call 100; (with_reducible refine CT.out.mono ?_); rintro e1 w1 ⟨v1, l1, rfl, o1, n1, m1, k1, hb1⟩; obtain ⟨A1, c1, rfl, hc1, hd1⟩ := o1.form; have HB1 := Lib.hid hb1; have H1 := Lib.hid (And.intro n1 k1))
  obtain ⟨y', rfl⟩ : ∃ y', l1 = [y'] := by
    have hy := HY.out
    have h1 := H1.out
    match l1, h1 with
    | [], ⟨h, _⟩ => simp [nv] at h; omega
    | [z], _ => exact ⟨z, rfl⟩
    | _ :: _ :: _, ⟨_, h⟩ => simp at h
  obtain rfl : y' = y := by have h := H1.out.1; rw [nv_one] at h; exact h
  obtain ⟨ad, x, rfl, hb, hx, hcx, i1, i2⟩ := hd1.at_ (k := 0) (by simp)
  simp at hx
  subst hx
  rw [show ad.add 0 = ad from rfl] at hcx
  clear o1 n1 m1 k1 hb1 hd1 H1 CT hb
  go_upto_region 6 with fail
  go_wp2_with fail
  go_loopw [3, 4] (fun n x wr => ∃ (k : Nat) (z : Int), n = .int .i64 k ∧ x = .int .u32 z ∧ wr = w1 ∧ Hid (z = y' / 2 ^ k) ∧ Hid (k ≤ 32) ∧ Hid (k = 0 ∨ y' / 2 ^ (k - 1) ≠ 0)) (fun _ x _ => (intOf x).toNat)
  case atStart => exact ⟨0, y', rfl, rfl, rfl, Lib.hid (by simp), Lib.hid (by omega), Lib.hid (.inl rfl)⟩
  case round =>
    obtain ⟨k, z, rfl, rfl, rfl, HZ, HK, HP⟩ := hrel
    have hz0 : 0 ≤ z := by rw [HZ.out]; exact Int.ediv_nonneg i1 (by have := pow2_pos k; omega)
    have hz1 : z < 4294967296 := by
      have := Int.ediv_le_self (2 ^ k) i1
      have := HZ.out
      omega
    have hk := HK.out
    by_cases hzz : z = 0
    · subst hzz
      have HE := Lib.hid (len_end HY.out HZ.out.symm HP.out)
      go_wp2_with fail
      go_ret
      exact ⟨⟨k, rfl, HE.out⟩, HB1.out⟩
    · have hz2 : 0 < z := by omega
      have HN : Hid (z / 2 = y' / 2 ^ (k + 1)) := Lib.hid (len_step i1 HZ.out)
      have HKN : Hid (k + 1 ≤ 32) := Lib.hid (by
        rcases Nat.lt_or_ge k 32 with h | h
        · omega
        · obtain rfl : k = 32 := by omega
          have h1 : y' / 2 ^ 32 = 0 := Int.ediv_eq_zero_of_lt i1 (by rw [show (2 : Int) ^ 32 = 4294967296 from rfl]; exact i2)
          have := HZ.out
          omega)
      have HPN : Hid (k + 1 = 0 ∨ y' / 2 ^ (k + 1 - 1) ≠ 0) := Lib.hid (.inr (by rw [Nat.add_sub_cancel, ← HZ.out]; exact hzz))
      clear hzz
      go_wp2_with fail
      go_roundw
      case rel => exact ⟨k + 1, z / 2, by go_num, by first | rfl | trivial | go_num, by first | rfl | trivial, HN, HKN, HPN⟩
      case measure => simp [intOf]; omega
end Go.Proofs.Ytmdfgidejdiiiaa
end
section
namespace Go.Proofs.Ytmdfgidejdiiiaa
open Go.RowKit
theorem shl_step {s : Nat} {x cr : Int} (hs : s < 32) (hx : 0 ≤ x ∧ x < 4294967296) (hc : 0 ≤ cr ∧ cr < 2 ^ s) :
    bits BinOp.or IntKind.u64 cr (x * 2 ^ s) = cr + x * 2 ^ s ∧ (0 ≤ x * 2 ^ s ∧ x * 2 ^ s < 9223372036854775808) ∧ (0 ≤ cr + x * 2 ^ s ∧ cr + x * 2 ^ s < 18446744073709551616) ∧ 0 ≤ (cr + x * 2 ^ s) / 4294967296 ∧ (cr + x * 2 ^ s) / 4294967296 < 2 ^ s := by
  have h1 := pow_up hs
  have h2 := pow2_pos s
  have h3 : x * 2 ^ s ≤ 4294967295 * 2 ^ s := mul_mono (by omega) (by omega)
  have h4 : 0 ≤ x * 2 ^ s := Int.mul_nonneg hx.1 (by omega)
  refine ⟨or_add64' (i := s) ⟨h4, by omega⟩ (Int.mul_emod_left _ _) hc (by omega), ⟨h4, by omega⟩, ⟨by omega, by omega⟩, Int.ediv_nonneg (by omega) (by omega), ?_⟩
  omega
set_option maxRecDepth 100000 in
set_option maxHeartbeats 1000000 in
theorem r1_ShiftL (A : Option Addr) (p c s : Nat) (X : List Int) (w : World) (hX : DigA w A X) (hp : X.length = p) (hc : p ≤ c) (h9 : p ≤ 10000000) (hs : s < 32) :
    Calls Try.prog 136 #[.slice A p c, .int .i64 s] w (RetN w (2 ^ s * nv X) (p + 1)) := by
  have CT : Hid (Calls Try.prog 100 #[.slice A p c] w (RetN w (nv X) p)) := Lib.hid (r1_Trim A p c X w hX hp hc (by omega))
  obtain ⟨V, hV⟩ : ∃ V, 2 ^ s * nv X = V := ⟨_, rfl⟩
  rw [hV]
  have HV := Lib.hid hV
  have hs1 : (s : Int) < 32 := by omega
  have hs2 : ¬ (65536 : Int) < (s : Int) := by omega
  have hs3 : ¬ (s : Int) < 0 := by omega
  have t1 : (s : Int).tmod 32 = (s : Int) := by rw [Int.tmod_eq_emod_of_nonneg (by omega), Int.emod_eq_of_lt (by omega) hs1]
  have t2 : (s : Int).tdiv 32 = 0 := by rw [Int.tdiv_eq_ediv_of_nonneg (by omega), Int.ediv_eq_zero_of_lt (by omega) hs1]
  clear hX hp hc hV
  go_enter Try.func136, Try.ntmps136
  go_upto_region 2 with (go_at_call 100; (with_reducible refine CT.out.mono ?_); rintro e1 w1 ⟨v1, pl, rfl, o1, n1, m1, k1, hb1⟩; obtain ⟨A1, c1, rfl, -, -⟩ := o1.form; have HP := Lib.hid (And.intro o1 (And.intro n1 (And.intro m1 k1))); have HB1 := Lib.hid hb1; clear o1 n1 m1 k1 hb1)
  obtain ⟨q, hq⟩ : ∃ q, pl.length = q := ⟨_, rfl⟩
  have hqp : q ≤ p := by have := HP.out.2.2.2; omega
  have HX : Hid (DigA w1 A1 pl) := Lib.hid HP.out.1.digA
  have HL : Hid (pl.length = q) := Lib.hid hq
  have HXV : Hid (2 ^ s * nv pl = V) := Lib.hid (by rw [HP.out.2.1]; exact HV.out)
  clear CT HP
  rw [hq]
  clear hq
  by_cases hq0 : q = 0
  · subst hq0
    have HE : Hid (V = 0) := Lib.hid (by rw [← HXV.out, List.length_eq_zero_iff.1 HL.out]; simp [nv])
    go_wp2_with fail
    go_ret
    exact ⟨_, [], rfl, OwG.nil, by rw [HE.out]; rfl, Nrm.nil, Nat.zero_le _, HB1.out⟩
  have hq1 : (q : Int) ≠ 0 := by omega
  have hq2 : ((q : Int) == 0) = false := by simpa using hq0
  clear hq0
  go_upto_region 18 with ((with_reducible show wpList _ _ _ (Oper.mk _ (.makeSlice _ _ _) _ _ _ _ :: _) _ _); refine mk_dig rfl _ _ rfl w1.heap.size 0 rfl rfl rfl (by omega) (Nat.le_refl _) ?_; intro w3 ho3 hb3; have HO3 := Lib.hid ho3; have HB3 := Lib.hid hb3; clear ho3 hb3)
  go_upto_region 20 with fail
  go_wp2_with fail
  go_loopw [8, 9, 10] (fun o cy i wr => ∃ (k : Nat) (T : List Int) (cr : Int), k ≤ q ∧ i = .int .i64 k ∧ cy = .int .u64 cr ∧ Hid (0 ≤ cr ∧ cr < 2 ^ s) ∧ Hid (T.length = k) ∧ Hid (nv T + bp k * cr = 2 ^ s * nv (pl.take k)) ∧ Hid (OwG w1.heap.size wr o T) ∧ Hid (Below w1.heap.size w1 wr)) (fun _ _ i _ => q - (intOf i).toNat)
  case atStart => exact ⟨0, [], 0, Nat.zero_le _, rfl, rfl, Lib.hid ⟨Int.le_refl _, pow2_pos s⟩, Lib.hid rfl, Lib.hid (by simp [nv]), HO3, HB3⟩
  case round =>
    obtain ⟨k, T, cr, hk, rfl, rfl, HCR, HT, HS, HO, HBW⟩ := hrel
    have hcr := HCR.out
    have hp31 := pow_up hs
    have x0 : (0 : Int) ≤ (k : Int) := by omega
    by_cases hlt : k < q
    · obtain ⟨ad, x, rfl, _, hx, hcx, i1, i2⟩ := (HX.out.grow HBW.out).at_ (k := k) (by rw [HL.out]; exact hlt)
      have x1 : (k : Int) < (q : Int) := by omega
      obtain ⟨l1, ⟨l2, l3⟩, ⟨l4, l5⟩, l6, l7⟩ := shl_step hs ⟨i1, i2⟩ hcr
      obtain ⟨t, ht⟩ : ∃ t, cr + x * 2 ^ s = t := ⟨_, rfl⟩
      rw [ht] at l1 l4 l5 l6 l7
      have hst := lift_val (d := t % 4294967296) (c' := t / 4294967296) HT.out hx HS.out (by omega)
      have HST := Lib.hid hst
      have HC2 := Lib.hid (And.intro l6 l7)
      have hdg : Dg (t % 4294967296) := ⟨by omega, by omega⟩
      have hln : T.length < 100000000 := by rw [HT.out]; omega
      have hsz := HBW.out.size
      have ho := HO.out
      have HK1 : Hid (k + 1 ≤ q ∧ k < q) := Lib.hid ⟨by omega, by omega⟩
      clear hx hst ht l6 l7 hk hlt
      go_wp2_with (at_builtin; refine app_dig _ rfl _ _ rfl w1.heap.size ho rfl rfl hln hsz hdg ?_; intro v1 w5 ho1 hb1)
      go_roundw
      case rel => exact ⟨k + 1, T ++ [t % 4294967296], t / 4294967296, HK1.out.1, by go_num, rfl, HC2, Lib.hid (by rw [List.length_append, HT.out]; rfl), HST, Lib.hid ho1, Lib.hid (HBW.out.trans hb1)⟩
      case measure => have := HK1.out.2; simp [intOf]; omega
    · obtain rfl : k = q := by omega
      have x1 : (k : Int) ≤ (k : Int) := by omega
      have hdg : Dg cr := ⟨by omega, by omega⟩
      have hln : T.length < 100000000 := by rw [HT.out]; omega
      have hsz := HBW.out.size
      have ho := HO.out
      have HF : Hid (nv (T ++ [cr]) = V) := Lib.hid (by
        have h1 := HS.out
        rw [take_len (by rw [HL.out]; omega), HXV.out] at h1
        rw [nv_app, nv_one, HT.out]; exact h1)
      have CT : Hid (∀ A c w1, DigA w1 A (T ++ [cr]) → (T ++ [cr]).length ≤ c → Calls Try.prog 100 #[.slice A (T ++ [cr]).length c] w1 (RetN w1 V (p + 1))) := Lib.hid fun A c w1 h hc => by
        have := r1_Trim A (T ++ [cr]).length c (T ++ [cr]) w1 h rfl hc (by rw [List.length_append, HT.out]; simp; omega)
        rw [HF.out] at this
        exact this.mono fun _ _ h => h.le (by rw [List.length_append, HT.out]; simp; omega)
      generalize hTT : T ++ [cr] = TT at CT
      have HTT := Lib.hid hTT
      clear hTT hk
      go_wp2_with (first
        | (go_at_call 100; (with_reducible refine (CT.out _ _ _ hd1 hc1).mono ?_); intro e5 w5 h5; obtain ⟨v5, l5, rfl, h5⟩ := h5; have H5 := Lib.hid h5; clear h5)
        | (at_builtin; refine app_dig _ rfl _ _ rfl w1.heap.size ho rfl rfl hln hsz hdg ?_; intro v1 w4 ho1 hb1; rw [HTT.out] at ho1; obtain ⟨A1, c1, rfl, hc1, hd1⟩ := ho1.form; have HB4 := Lib.hid (HBW.out.trans hb1); clear hb1 ho1))
      go_ret
      have h5 := H5.out
      have hb := below_then HB1.out HB4.out
      exact ⟨_, l5, rfl, h5.1.base hb.size, h5.2.1, h5.2.2.1, h5.2.2.2.1, below_then hb h5.2.2.2.2⟩
end Go.Proofs.Ytmdfgidejdiiiaa
end
