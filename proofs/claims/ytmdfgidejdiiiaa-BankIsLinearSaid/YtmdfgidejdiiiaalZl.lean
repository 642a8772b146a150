/- Package nat: divide, where the divisor is greater or has one digit. Printed by gen_zl.py. -/
import Derived.Test.YtmdfgidejdiiiaalZk
set_option linter.unusedVariables false
set_option linter.unusedSimpArgs false
namespace Go.Proofs.Ytmdfgidejdiiiaa
open Go.RowKit
def RetQR (w : World) (q r : Int) (K M : Nat) (e : Ending) (w' : World) : Prop := ∃ v1 l1 v2 l2, e = .returned (.tuple #[v1, v2]) ∧ (OwG w.heap.size w' v1 l1 ∧ nv l1 = q ∧ Nrm l1 ∧ l1.length ≤ K) ∧ (OwG w.heap.size w' v2 l2 ∧ nv l2 = r ∧ Nrm l2 ∧ l2.length ≤ M) ∧ Below w.heap.size w w'
theorem nt_divide_lt (A B : Option Addr) (p m c d : Nat) (X Y : List Int) (w : World) (hX : DigA w A X) (hY : DigA w B Y) (hp : X.length = p) (hm : Y.length = m) (hc : p ≤ c) (hd : m ≤ d) (h9 : p ≤ 10000000) (h8 : m ≤ 10000000) (nX : Nrm X) (nY : Nrm Y) (hlt : nv X < nv Y) :
    Calls Try.prog 128 #[.slice A p c, .slice B m d] w (RetQR w (nv X / nv Y) (nv X % nv Y) p m) := by
  have hpm : p ≤ m := by
    rcases Nat.lt_or_ge m p with h | h
    · have := nrm_lt hY.dig hX.dig nX (by omega); omega
    · exact h
  have h0 := nv_low hX.dig
  have e1 : nv X / nv Y = 0 := Int.ediv_eq_zero_of_lt h0 hlt
  have e2 : nv X % nv Y = nv X := Int.emod_eq_of_lt h0 hlt
  rw [e1, e2]
  have CQ : Hid (Calls Try.prog 95 #[.slice A p c, .slice B m d] w fun e w' => e = .returned (.int .i64 (cmpI (nv X) (nv Y))) ∧ Below w.heap.size w w') := nt_Compare A B p m c d X Y w hX hY hp hm hc hd (by omega) (by omega)
  have hx : cmpI (nv X) (nv Y) = -1 := by unfold cmpI; rw [if_pos hlt]
  rw [hx] at CQ
  have CL : Hid (∀ w1, Below w.heap.size w w1 → Calls Try.prog 131 #[.slice A p c] w1 (RetRow w1 X)) := fun w1 hb => sl_CloneU A p c X w1 (hX.grow hb) hp (by omega)
  have HN := Lib.hid (And.intro nX (And.intro hp hpm))
  clear hX hY hp hm e1 e2 hx nX nY hpm
  go_enter Try.func128, Try.ntmps128
  go_wp2_with (first
    | (go_at_call 95; (with_reducible refine CQ.out.mono ?_); rintro e1 w1 ⟨rfl, hb1⟩; have HB1 := Lib.hid hb1; clear hb1)
    | (go_at_call 131; (with_reducible refine (CL.out _ HB1.out).mono ?_); rintro e2 w2 ⟨v, rfl, ho, hb2⟩))
  go_ret2
  exact ⟨_, [], _, X, rfl, ⟨OwG.nil, rfl, Nrm.nil, Nat.zero_le _⟩, ⟨ho.base HB1.out.size, rfl, HN.out.1, by rw [HN.out.2.1]; exact HN.out.2.2⟩, below_then HB1.out hb2⟩
theorem one_step {rest x y : Int} (hr : 0 ≤ rest ∧ rest < y) (hx : 0 ≤ x ∧ x < 4294967296) (hy : y < 4294967296) : (0 ≤ 4294967296 * rest + x ∧ 4294967296 * rest + x < 18446744073709551616) ∧ (0 ≤ (4294967296 * rest + x) / y ∧ (4294967296 * rest + x) / y < 4294967296) ∧ (0 ≤ (4294967296 * rest + x) % y ∧ (4294967296 * rest + x) % y < y) ∧ y * ((4294967296 * rest + x) / y) + (4294967296 * rest + x) % y = 4294967296 * rest + x := by
  have hy0 : 0 < y := by omega
  have h1 := Int.mul_ediv_add_emod (4294967296 * rest + x) y
  have h2 := Int.emod_nonneg (4294967296 * rest + x) (by omega : y ≠ 0)
  have h3 := Int.emod_lt_of_pos (4294967296 * rest + x) hy0
  have h4 : 0 ≤ (4294967296 * rest + x) / y := Int.ediv_nonneg (by omega) (by omega)
  have h5 : (4294967296 * rest + x) / y < 4294967296 := by
    have : (4294967296 * rest + x) / y * y < 4294967296 * y := by rw [Int.mul_comm _ y]; omega
    exact Int.lt_of_mul_lt_mul_right this (by omega)
  exact ⟨⟨by omega, by omega⟩, ⟨h4, h5⟩, ⟨h2, h3⟩, h1⟩
theorem digA_one {w : World} {x : Int} (hx : 0 ≤ x ∧ x < 4294967296) : OwG w.heap.size (w.alloc (.cells #[.int .u32 x] 77)) (.slice (some ⟨w.heap.size, 0, none⟩) 1 1) [x] :=
  ⟨World.ownsRow_lit w #[.int .u32 x] 1 (Nat.le_refl _) (by unfold maxLen; omega) (by simp), fun y hy => by have := List.mem_singleton.1 hy; subst this; exact hx⟩
set_option maxRecDepth 100000 in
set_option maxHeartbeats 1000000 in
theorem nt_divide_one (A B : Option Addr) (p c d : Nat) (X : List Int) (y : Int) (w : World) (hX : DigA w A X) (hY : DigA w B [y]) (hp : X.length = p) (hc : p ≤ c) (hd : 1 ≤ d) (h9 : p ≤ 10000000) (nX : Nrm X) (hy : y ≠ 0) (hge : y ≤ nv X) :
    Calls Try.prog 128 #[.slice A p c, .slice B 1 d] w (RetQR w (nv X / y) (nv X % y) p 1) := by
  obtain ⟨bd, y', rfl, hbb, hy', hcy, y1, y2⟩ := hY.at_ (k := 0) (by simp)
  simp at hy'
  subst hy'
  rw [show bd.add 0 = bd from rfl] at hcy
  have CQ : Hid (Calls Try.prog 95 #[.slice A p c, .slice (some bd) 1 d] w fun e w' => e = .returned (.int .i64 (cmpI (nv X) (nv [y]))) ∧ Below w.heap.size w w') := nt_Compare A (some bd) p 1 c d X [y] w hX hY hp rfl hc hd (by omega) (by omega)
  have hx : ¬ cmpI (nv X) (nv [y]) < 0 := by rw [nv_one]; unfold cmpI; rw [if_neg (by omega)]; split <;> omega
  obtain ⟨R, hR⟩ : ∃ R, cmpI (nv X) (nv [y]) = R := ⟨_, rfl⟩
  rw [hR] at CQ hx
  have hp0 : 1 ≤ p := by
    rcases Nat.eq_zero_or_pos p with h | h
    · rw [h] at hp
      rw [List.length_eq_zero_iff.1 hp] at hge
      simp [nv] at hge; omega
    · exact h
  have q1 : IntKind.i64.wrap ((p : Int) - 1) = (p : Int) - 1 := IntWalk.i64_in _ (by omega)
  have HX := Lib.hid hX
  have HL := Lib.hid hp
  have HYC := Lib.hid (And.intro hbb hcy)
  obtain ⟨VQ, hVQ⟩ : ∃ v, nv X / y = v := ⟨_, rfl⟩
  obtain ⟨VR, hVR⟩ : ∃ v, nv X % y = v := ⟨_, rfl⟩
  rw [hVQ, hVR]
  have HV := Lib.hid (And.intro hVQ hVR)
  have hy0 : 0 < y := by omega
  clear hX hY hp hR hge hcy nX hVQ hVR
  go_enter Try.func128, Try.ntmps128
  go_upto_region 4 with (go_at_call 95; (with_reducible refine CQ.out.mono ?_); rintro e1 w1 ⟨rfl, hb1⟩; have HB1 := Lib.hid hb1; clear hb1)
  clear CQ hx
  go_upto_region 5 with ((with_reducible show wpList _ _ _ (Oper.mk _ (.makeSlice _ _ _) _ _ _ _ :: _) _ _); refine mk_dig rfl _ _ rfl w.heap.size p rfl rfl (by omega) (by omega) HB1.out.size ?_; intro w3 ho3 hb3; have HO3 := Lib.hid ho3; have HB3 := Lib.hid (below_then HB1.out hb3); clear ho3 hb3)
  go_upto_region 8 with fail
  obtain ⟨g, hg⟩ : ∃ g, g = w1.heap.size := ⟨_, rfl⟩
  have HG : Hid (w.heap.size ≤ g) := Lib.hid (by rw [hg]; exact HB1.out.size)
  rw [← hg] at HO3 ⊢
  clear hg
  go_loopw [8, 9] (fun s8 i wr => ∃ (k : Nat) (t rest : Int) (D : List Int), k ≤ p ∧ i = .int .i64 t ∧ s8 = .int .u64 rest ∧ Hid (t = (k : Int) - 1) ∧ Hid (0 ≤ rest ∧ rest < y) ∧ Hid (y * nv D + rest = nv (X.drop k)) ∧ Hid (OwG w.heap.size wr (.slice (some ⟨g, 0, none⟩) p p) (List.replicate k 0 ++ D)) ∧ Hid (Below w.heap.size w wr)) (fun _ i _ => (intOf i + 1).toNat)
  case atStart => exact ⟨p, (p : Int) - 1, 0, [], Nat.le_refl _, rfl, rfl, Lib.hid rfl, Lib.hid (by omega), Lib.hid (by rw [List.drop_of_length_le (by rw [HL.out]; exact Nat.le_refl _)]; simp [nv]), Lib.hid (by rw [List.append_nil]; exact HO3.out), HB3⟩
  case round =>
    obtain ⟨k, t, rest, D, hk, rfl, rfl, HT, HR, HS, HO, HBW⟩ := hrel
    by_cases hk0 : k = 0
    · subst hk0
      obtain rfl : t = -1 := by have := HT.out; omega
      have hr := HR.out
      have hq : nv D = VQ ∧ rest = VR := by
        have h1 := HS.out
        rw [List.drop_zero] at h1
        have hv := HV.out
        rw [← h1, Int.mul_add_ediv_left _ _ (by omega), Int.ediv_eq_zero_of_lt hr.1 hr.2, Int.add_zero, Int.mul_add_emod_self_left, Int.emod_eq_of_lt hr.1 hr.2] at hv
        exact hv
      obtain ⟨hq1, rfl⟩ := hq
      have ho := HO.out
      rw [List.replicate_zero, List.nil_append] at ho
      have HOE := Lib.hid ho
      have HQ1 := Lib.hid hq1
      have CC : Hid (Calls Try.prog 115 #[.slice (some ⟨g, 0, none⟩) p p] wr (RetCut wr (some ⟨g, 0, none⟩) p D)) := Lib.hid (nt_cut _ _ _ _ wr ho.digA ho.len.1 (Nat.le_refl _) (by omega))
      have hr32 : 0 ≤ rest ∧ rest < 4294967296 := by omega
      have CD : Hid (∀ w5 : World, Calls Try.prog 115 #[.slice (some ⟨w5.heap.size, 0, none⟩) 1 1] (w5.alloc (.cells #[.int .u32 rest] 77)) (RetCut (w5.alloc (.cells #[.int .u32 rest] 77)) (some ⟨w5.heap.size, 0, none⟩) 1 [rest])) := Lib.hid fun w5 => nt_cut _ _ _ _ _ (digA_one hr32).digA rfl (Nat.le_refl _) (by omega)
      clear ho hq1 hr
      go_wp2_with (go_at_call 115; first
        | ((with_reducible refine CC.out.mono ?_); intro e5 w5 h5; have H5 := Lib.hid (RetCut.toN HOE.out HBW.out h5); obtain ⟨k5, hk5, rfl, hb5⟩ := h5; have HB5 := Lib.hid (below_then HBW.out hb5); clear hb5 hk5)
        | ((with_reducible refine (CD.out _).mono ?_); intro e6 w6 h6; have H6 := Lib.hid (RetCut.toN ((digA_one hr32).base HB5.out.size) (HB5.out.alloc HB5.out.size _) h6); obtain ⟨k6, hk6, rfl, hb6⟩ := h6; have HB6 := Lib.hid (((Below.refl _ _).alloc (Nat.le_refl _) (.cells #[.int .u32 rest] 77)).trans (hb6.mono (by simp))); clear hb6 hk6))
      go_ret2
      obtain ⟨v1, l1, e1, o1, n1, m1, k1, -⟩ := H5.out
      obtain ⟨v2, l2, e2, o2, n2, m2, k2, b2⟩ := H6.out
      injection e1 with e1
      injection e2 with e2
      subst e1 e2
      exact ⟨_, l1, _, l2, rfl, ⟨o1.grow HB6.out, n1.trans HQ1.out, m1, k1⟩, ⟨o2, by rw [n2, nv_one], m2, k2⟩, b2⟩
    · obtain ⟨j, rfl⟩ : ∃ j, k = j + 1 := ⟨k - 1, by omega⟩
      obtain rfl : t = (j : Int) := by have := HT.out; omega
      obtain ⟨ad, x, rfl, _, hx, hcx, i1, i2⟩ := (HX.out.grow HBW.out).at_ (k := j) (by rw [HL.out]; omega)
      have x0 : (0 : Int) ≤ (j : Int) := by omega
      have x1 : (j : Int) < (p : Int) := by omega
      have x3 : IntKind.i64.wrap ((j : Int) - 1) = (j : Int) - 1 := IntWalk.i64_in _ (by omega)
      have hr := HR.out
      obtain ⟨⟨l1, l2⟩, ⟨l3, l4⟩, ⟨l5, l6⟩, l7⟩ := one_step hr ⟨i1, i2⟩ y2
      have s1 := shl_or (a := rest) (b := x) (by omega) ⟨i1, i2⟩
      obtain ⟨T, hT⟩ : ∃ t, 4294967296 * rest + x = t := ⟨_, rfl⟩
      rw [hT] at l1 l2 l3 l4 l5 l6 l7 s1
      have hyc : wr.cell? bd = some (.int .u32 y) := (HBW.out.cell HYC.out.1).trans HYC.out.2
      have r1 : 0 ≤ rest := hr.1
      have r2 : rest < 4294967296 := by omega
      have ho := HO.out
      have zc := ho.cell (k := j) (y := 0) (by rw [List.getElem?_append_left (by simp), List.getElem?_replicate, if_pos (by omega)])
      have zf := ho.free j
      have hst : y * nv ((T / y) :: D) + T % y = nv (X.drop j) := by
        rw [nv_drop hx, ← HS.out]
        show y * (T / y + 4294967296 * nv D) + T % y = _
        rw [Int.mul_add, Int.mul_left_comm, Int.mul_add 4294967296]
        omega
      have hse := ho.set j (y := T / y) ⟨l3, l4⟩
      rw [set_front] at hse
      have HSE := Lib.hid hse
      have HBS := Lib.hid (HBW.out.setCell (p := ⟨g, j, none⟩) HG.out (.int .u32 (T / y)))
      have HST := Lib.hid hst
      have HR2 := Lib.hid (And.intro l5 l6)
      have HK := Lib.hid hk
      have hyc2 : (wr.setCell ⟨g, j, none⟩ (.int .u32 (T / y))).cell? bd = some (.int .u32 y) := (HBS.out.cell HYC.out.1).trans HYC.out.2
      clear hx hst hse ho hT l7 HT hk hk0 hr
      go_wp2_with fail
      go_roundw
      case rel => exact ⟨j, (j : Int) - 1, T % y, (T / y) :: D, by have := HK.out; omega, rfl, rfl, Lib.hid rfl, HR2, HST, HSE, HBS⟩
      case measure => simp [intOf]
end Go.Proofs.Ytmdfgidejdiiiaa
