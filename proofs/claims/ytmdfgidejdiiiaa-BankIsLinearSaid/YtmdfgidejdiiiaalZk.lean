/- Package nat: digit (Knuth's step of long division). Printed by gen_zk.py. -/
import Derived.Test.YtmdfgidejdiiiaalZj
set_option linter.unusedVariables false
set_option linter.unusedSimpArgs false
namespace Go.Proofs.Ytmdfgidejdiiiaa
open Go.RowKit
theorem OwG.kept {base g : Nat} {w w' : World} {v : Value} {l : List Int} (h : OwG base w v l) (hg : w.grownBy w' (some g)) (hne : v.ownBlock ≠ some g) : OwG base w' v l := ⟨h.1.kept hg (.inr hne), h.2⟩
theorem DigA.kept {g : Nat} {w w' : World} {A : Option Addr} {l : List Int} (h : DigA w A l) (hg : w.grownBy w' (some g)) (hne : ∀ a, A = some a → a.block ≠ g) : DigA w' A l := ⟨fun k v hk => by
  obtain ⟨ad, e, h1, h2⟩ := h.1 k v hk
  exact ⟨ad, e, Nat.lt_of_lt_of_le h1 hg.size, hg.cell h2 (by rw [block_add]; intro e'; injection e' with e'; exact hne ad e e')⟩, h.2⟩
theorem shl_or {a b : Int} (ha : 0 ≤ a ∧ a < 4294967296) (hb : 0 ≤ b ∧ b < 4294967296) : bits BinOp.or IntKind.u64 (a * 4294967296) b = 4294967296 * a + b := by
  rw [or_add64 (i := 32) ⟨by omega, by omega⟩ (by rw [show (2 : Int) ^ 32 = 4294967296 by decide]; omega) (by rw [show (2 : Int) ^ 32 = 4294967296 by decide]; omega) (by omega)]
  omega
theorem zero_lt {L : List Int} {s : Nat} (hd : Dig L) (hz : ZeroFrom L s) (hs : s ≤ L.length) : nv L = nv (L.take s) ∧ nv L < bp s := by
  have h1 := nv_split L s hs
  rw [nv_zeros (l := L.drop s) fun x hx => by
    obtain ⟨k, hk⟩ := List.getElem?_of_mem hx
    rw [List.getElem?_drop] at hk
    exact hz (s + k) x (by omega) hk] at h1
  have h2 := nv_lt (hd.take s)
  rw [List.length_take, Nat.min_eq_left hs] at h2
  omega
theorem sub_wrap2 {x c y t : Int} (hx : 0 ≤ x ∧ x < 4294967296) (hc : 0 ≤ c ∧ c < 4294967296) (hy : 0 ≤ y ∧ y ≤ 1) (ht : IntKind.u64.wrap (IntKind.u64.wrap (x - c) - y) = t) :
    (0 ≤ t ∧ t < 18446744073709551616) ∧ t % 4294967296 = x - c - y + 4294967296 * (t / 9223372036854775808) ∧ 0 ≤ t / 9223372036854775808 ∧ t / 9223372036854775808 ≤ 1 := by
  rw [wrapU, wrapU] at ht
  omega
theorem dsub_step {V : List Int} {i j : Nat} {N0 N q d c b x s b' P : Int} (hV : V[i]? = some d) (hP : q * d + c = P) (h : N + bp j * (q * nv (V.take i)) = N0 + bp (j + i) * (c + b)) (hs : s = x - P % 4294967296 - b + 4294967296 * b') :
    N + bp (j + i) * (s - x) + bp j * (q * nv (V.take (i + 1))) = N0 + bp (j + (i + 1)) * (P / 4294967296 + b') := by
  rw [nv_take hV, ← Nat.add_assoc, bp_succ, Int.mul_add, Int.mul_add]
  have e1 : bp j * (q * (bp i * d)) = bp (j + i) * (q * d) := by rw [bp_add, Int.mul_left_comm q, ← Int.mul_assoc]
  have h0 := Int.mul_ediv_add_emod P 4294967296
  have e2 : 4294967296 * bp (j + i) * (P / 4294967296 + b') = bp (j + i) * (4294967296 * (P / 4294967296) + 4294967296 * b') := by
    rw [Int.mul_comm 4294967296, Int.mul_assoc, Int.mul_add]
  rw [e1, e2]
  have e3 : bp (j + i) * (s - x) + bp (j + i) * (q * d) + bp (j + i) * (c + b) = bp (j + i) * (4294967296 * (P / 4294967296) + 4294967296 * b') := by
    rw [← Int.mul_add, ← Int.mul_add]; congr 1; omega
  omega
theorem dadd_step {V : List Int} {i j : Nat} {N0 N d c x t : Int} (hV : V[i]? = some d) (h : N + bp (j + i) * c = N0 + bp j * nv (V.take i)) (ht : t = x + d + c) :
    N + bp (j + i) * (t % 4294967296 - x) + bp (j + (i + 1)) * (t / 4294967296) = N0 + bp j * nv (V.take (i + 1)) := by
  rw [nv_take hV, ← Nat.add_assoc, bp_succ, Int.mul_add, ← Int.mul_assoc, ← bp_add]
  have h0 := Int.mul_ediv_add_emod t 4294967296
  have e2 : 4294967296 * bp (j + i) * (t / 4294967296) = bp (j + i) * (4294967296 * (t / 4294967296)) := by rw [Int.mul_comm 4294967296, Int.mul_assoc]
  rw [e2]
  have e3 : bp (j + i) * (t % 4294967296 - x) + bp (j + i) * (4294967296 * (t / 4294967296)) = bp (j + i) * d + bp (j + i) * c := by
    rw [← Int.mul_add, ← Int.mul_add]; congr 1; omega
  omega
theorem grownSet {w w' : World} {g k : Nat} {u : Value} (h : w.grownBy w' (some g)) : w.grownBy (w'.setCell ⟨g, k, none⟩ u) (some g) :=
  ⟨h.os, h.tape, h.output, by simpa [World.setCell] using h.size, fun b hb hn => (Below.heap_setCell w' _ u b (fun e => hn (by rw [e]))).trans (h.block b hb hn)⟩
theorem grownB {w w' : World} {g : Nat} (h : Below w.heap.size w w') : w.grownBy w' (some g) := ⟨h.os, h.tape, h.output, h.size, fun b hb _ => h.block b hb⟩
def RetDigit (base : Nat) (w : World) (g N M : Nat) (V : Int) (Q : Int) (e : Ending) (w' : World) : Prop := ∃ L', e = .returned (.int .u32 Q) ∧ OwG base w' (.slice (some ⟨g, 0, none⟩) N M) L' ∧ nv L' = V ∧ w.grownBy w' (some g)
set_option maxRecDepth 100000 in
set_option maxHeartbeats 4000000 in
theorem nt_digit (base g N M j n c vc : Nat) (L V : List Int) (VA : Option Addr) (w : World) (hO : OwG base w (.slice (some ⟨g, 0, none⟩) N M) L) (hV : DigA w VA V) (hvg : ∀ a, VA = some a → a.block ≠ g) (hn : V.length = n) (h2 : 2 ≤ n) (hj : j + n + 1 ≤ N) (hN : N ≤ 100000000)
    (hz : ZeroFrom L (j + n + 1)) (htop : ∀ x, V[n - 1]? = some x → 2147483648 ≤ x) (hU : nv ((L.drop j).take (n + 1)) < 4294967296 * nv V) :
    Calls Try.prog 139 #[.slice (some ⟨g, j, none⟩) (n + 1) c, .slice VA n vc] w (RetDigit base w g N M (nv L - bp j * (nv ((L.drop j).take (n + 1)) / nv V * nv V)) (nv ((L.drop j).take (n + 1)) / nv V)) := by
  obtain ⟨hLN, -⟩ := hO.len
  obtain ⟨n1, hn1⟩ : ∃ k, n = k + 1 := ⟨n - 1, by omega⟩
  obtain ⟨n2, hn2⟩ : ∃ k, n = k + 2 := ⟨n - 2, by omega⟩
  obtain ⟨va, v1, rfl, hvb, hv1, hc1, v1a, v1b⟩ := hV.at_ (k := n1) (by omega)
  obtain ⟨va', v2, ev, _, hv2, hc2, v2a, v2b⟩ := hV.at_ (k := n2) (by omega)
  injection ev with ev
  subst ev
  obtain ⟨u0, hu0⟩ : ∃ x, L[j + n]? = some x := ⟨_, List.getElem?_eq_getElem (by omega)⟩
  obtain ⟨u1, hu1⟩ : ∃ x, L[j + n1]? = some x := ⟨_, List.getElem?_eq_getElem (by omega)⟩
  obtain ⟨u2, hu2⟩ : ∃ x, L[j + n2]? = some x := ⟨_, List.getElem?_eq_getElem (by omega)⟩
  have k0 := hO.cell hu0
  have k1 := hO.cell hu1
  have k2 := hO.cell hu2
  obtain ⟨u0a, u0b⟩ := hO.dig.at_ hu0
  obtain ⟨u1a, u1b⟩ := hO.dig.at_ hu1
  obtain ⟨u2a, u2b⟩ := hO.dig.at_ hu2
  have hv31 := htop v1 (by rw [show n - 1 = n1 by omega]; exact hv1)
  obtain ⟨U, hUe⟩ : ∃ U, nv ((L.drop j).take (n + 1)) = U := ⟨_, rfl⟩
  obtain ⟨W, hWe⟩ : ∃ W, nv V = W := ⟨_, rfl⟩
  obtain ⟨top, htp⟩ : ∃ t, 4294967296 * u0 + u1 = t := ⟨_, rfl⟩
  have hG : ∃ ul vl, Guess (bp n2) ul u2 top vl v2 v1 U W := by
    have hd := (hO.dig.drop j).take (n + 1)
    have g0 : ((L.drop j).take (n + 1))[n2 + 2]? = some u0 := by rw [List.getElem?_take, if_pos (by omega), List.getElem?_drop, show j + (n2 + 2) = j + n by omega]; exact hu0
    have g1 : ((L.drop j).take (n + 1))[n2 + 1]? = some u1 := by rw [List.getElem?_take, if_pos (by omega), List.getElem?_drop, show j + (n2 + 1) = j + n1 by omega]; exact hu1
    have g2 : ((L.drop j).take (n + 1))[n2]? = some u2 := by rw [List.getElem?_take, if_pos (by omega), List.getElem?_drop]; exact hu2
    have f0 := nv_take g0
    have f1 := nv_take g1
    have f2 := nv_take g2
    have hv1' : V[n2 + 1]? = some v1 := by rw [show n2 + 1 = n1 by omega]; exact hv1
    have f3 := nv_take hv1'
    have f4 := nv_take hv2
    rw [take_len (l := (L.drop j).take (n + 1)) (by simp; omega), hUe] at f0
    rw [take_len (l := V) (by omega), hWe] at f3
    refine ⟨nv (((L.drop j).take (n + 1)).take n2), nv (V.take n2), ⟨bp_pos _, nv_low (hd.take _), ?_, u2a, u2b, by omega, nv_low (hV.dig.take _), ?_, v2a, v2b, hv31, v1b, ?_, ?_⟩⟩
    · have := nv_lt (hd.take n2)
      rw [List.length_take, List.length_take, List.length_drop, Nat.min_eq_left (by omega)] at this
      exact this
    · have := nv_lt (hV.dig.take n2)
      rw [List.length_take, Nat.min_eq_left (by omega)] at this
      exact this
    · simp only [bp_succ] at f0 f1
      rw [f0, f1, f2, ← htp, Int.mul_add, Int.mul_add 4294967296, Int.mul_add]
      simp only [Int.mul_assoc, Int.mul_left_comm, Int.mul_comm]
      omega
    · simp only [bp_succ] at f3
      rw [f3, f4, Int.mul_add]
      simp only [Int.mul_assoc, Int.mul_left_comm, Int.mul_comm]
      omega
  obtain ⟨ul, vl, hG⟩ := hG
  rw [hUe, hWe] at hU ⊢
  have hW0 : 0 < W := by have := hG.V0; have := hG.p; omega
  obtain ⟨Q, hQ⟩ : ∃ Q, U / W = Q := ⟨_, rfl⟩
  have hQ0 : 0 ≤ Q := by rw [← hQ]; exact Int.ediv_nonneg hG.U0 (by omega)
  obtain ⟨hQ1, hQ2⟩ := quo_of (U := U) hW0
  rw [hQ] at hQ1 hQ2 ⊢
  have hQB : Q < 4294967296 := by
    have : Q * W < 4294967296 * W := by omega
    exact Int.lt_of_mul_lt_mul_right this (by omega)
  -- the digit above is at most the divisor's
  have hu0v : u0 ≤ v1 := by
    have hlo := hG.low hQ0 hQ1
    rcases Int.lt_or_le v1 u0 with h | h
    · exfalso
      have h3 : (4294967296 : Int) * W ≤ U := by
        have e1 := hG.hU
        have e2 := hG.hV
        have e3 := mul_mono' (a := 4294967296 * (v2 + 4294967296 * v1) + 4294967296) (b := u2 + 4294967296 * top) (c := bp n2) (by omega) (by have := hG.p; omega)
        rw [Int.mul_add, Int.mul_left_comm] at e3
        have := hG.vl1; have := hG.ul0
        omega
      omega
    · exact h
  have hLU : nv L = nv (L.take j) + bp j * U := by
    have h1 := nv_split L j (by omega)
    have h3 := nv_split (L.drop j) (n + 1) (by rw [List.length_drop]; omega)
    rw [List.drop_drop, nv_zeros (l := L.drop (j + (n + 1))) fun x hx => by
      obtain ⟨k, hk⟩ := List.getElem?_of_mem hx
      rw [List.getElem?_drop] at hk
      exact hz (j + (n + 1) + k) x (by omega) hk, hUe, Int.mul_zero, Int.add_zero] at h3
    rw [h1, h3]
  have hlo : 0 ≤ nv (L.take j) ∧ nv (L.take j) < bp j := by
    have h1 := nv_lt (hO.dig.take j)
    rw [List.length_take, Nat.min_eq_left (by omega)] at h1
    exact ⟨nv_low (hO.dig.take j), h1⟩
  obtain ⟨R, hR⟩ : ∃ R, nv L - bp j * (Q * W) = R := ⟨_, rfl⟩
  rw [hR]
  have q1 : IntKind.i64.wrap ((n : Int) - 1) = (n1 : Int) := (IntWalk.i64_in _ (by omega)).trans (by omega)
  have q2 : IntKind.i64.wrap ((n : Int) - 2) = (n2 : Int) := (IntWalk.i64_in _ (by omega)).trans (by omega)
  have s1 := shl_or ⟨u0a, u0b⟩ ⟨u1a, u1b⟩
  rw [htp] at s1
  have x0 : (n1 : Int) < (n : Int) := by omega
  have x1 : (n2 : Int) < (n : Int) := by omega
  have HO := Lib.hid hO
  have HV := Lib.hid hV
  have HVG := Lib.hid hvg
  have HG := Lib.hid hG
  have HN := Lib.hid (And.intro hn (And.intro hn1 hn2))
  have HJ := Lib.hid (And.intro hj (And.intro hN hLN))
  have HQQ := Lib.hid (And.intro hW0 (And.intro hQ0 (And.intro hQ1 (And.intro hQ2 hQB))))
  have HUV := Lib.hid (And.intro hu0v (And.intro hUe hWe))
  have HRR := Lib.hid hR
  have HTP := Lib.hid htp
  have HLU := Lib.hid (And.intro hLU hlo)
  have HZ := Lib.hid hz
  have HUS := Lib.hid (And.intro hu0 (And.intro hu1 hu2))
  have tp0 : 0 ≤ top := by omega
  have tp1 : top < 18446744073709551616 := by omega
  clear hO hV hvg hG hn hn1 hn2 hj hN hLN hW0 hQ0 hQ1 hQ2 hQB hu0v hUe hWe hR htp hu0 hu1 hu2 hv1 hv2 htop hU hQ hz hLU hlo
  go_enter Try.func139, Try.ntmps139
  have hgb := HO.out.block
  go_upto_region 2 with fail
  go_quiet (fail)
  go_upto_region 3 with fail
  have HB1 : Hid (Below w.heap.size w (w.drewN nq)) := Lib.hid (below_drewN (Below.refl _ _) _)
  generalize w.drewN nq = wa at HB1 ⊢
  have hd1 : wa.cell? (va.add n1) = some (.int .u32 v1) := (HB1.out.cell (by rw [block_add]; exact hvb)).trans hc1
  go_quiet (fail)
  have HB2 : Hid (Below w.heap.size w (wa.drewN nq)) := Lib.hid (below_drewN HB1.out _)
  generalize wa.drewN nq = wb at HB2 ⊢
  go_upto_block 0 with fail
  have e1 : top / v1 * v1 + top % v1 = top := by have := Int.mul_ediv_add_emod top v1; rw [Int.mul_comm] at this; exact this
  have e2 : 0 ≤ top % v1 ∧ top % v1 < v1 := ⟨Int.emod_nonneg top (by omega), Int.emod_lt_of_pos top (by omega)⟩
  have e3 : 0 ≤ top / v1 := Int.ediv_nonneg tp0 (by omega)
  have e4 : top / v1 ≤ 4294967297 := by
    have h1 := HTP.out
    have h2 := HUV.out.1
    have : top / v1 * v1 < 4294967298 * v1 := by omega
    have := Int.lt_of_mul_lt_mul_right this (by omega)
    omega
  have e5 : Q ≤ top / v1 := by
    have h1 := HG.out.low HQQ.out.2.1 HQQ.out.2.2.1
    exact (Int.le_ediv_iff_mul_le (by omega)).2 h1
  obtain ⟨q0, hq0⟩ : ∃ q, top / v1 = q := ⟨_, rfl⟩
  obtain ⟨r0, hr0⟩ : ∃ r, top % v1 = r := ⟨_, rfl⟩
  rw [hq0] at e1 e3 e4 e5 ⊢
  rw [hr0] at e1 e2 ⊢
  have HE1 := Lib.hid e1
  have HE2 : Hid (0 ≤ r0 ∧ r0 < 4294967296) := Lib.hid (by omega)
  have HE3 := Lib.hid (And.intro e3 e4)
  have HE5 := Lib.hid e5
  clear e1 e2 e3 e4 e5 hq0 hr0 hd1 s1 tp0 tp1 HB1
  go_cut [7, 8] (fun s7 s8 wx => ∃ q r : Int, s7 = .int .u64 q ∧ s8 = .int .u64 r ∧ Hid (q = Q ∨ q = Q + 1) ∧ Hid (0 ≤ q ∧ q < 4294967296) ∧ Hid (Below w.heap.size w wx))
  case first =>
    have FIN : Hid (∀ q r, q * v1 + r = top → 0 ≤ q → q < 4294967296 → Q ≤ q → (4294967296 ≤ r ∨ q * v2 ≤ 4294967296 * r + u2) → (q = Q ∨ q = Q + 1)) := Lib.hid fun q r h1 h2 h3 h4 h5 => digit_of HQQ.out.1 HQQ.out.2.2.1 HQQ.out.2.2.2.1 h4 (HG.out.high h1 h2 (by omega) h5)
    have DEC : Hid (∀ q r, q * v1 + r = top → (q - 1) * v1 + (r + v1) = top) := Lib.hid fun q r h => by rw [Int.sub_mul, Int.one_mul]; omega
    have BRK : Hid (∀ q r, q * v1 + r = top → 4294967296 ≤ r → q < 4294967296) := Lib.hid fun q r h1 h2 => guess_digit (u0 := u0) (u1 := u1) (by rw [h1]; exact HTP.out.symm) HUV.out.1 u1b h2 (by omega)
    go_wp2_with fail
    go_loopw [7, 8] (fun s7 s8 wr => ∃ q r : Int, s7 = .int .u64 q ∧ s8 = .int .u64 r ∧ Hid (q * v1 + r = top) ∧ Hid (0 ≤ q ∧ q ≤ 4294967297) ∧ Hid (0 ≤ r ∧ r < 4294967296) ∧ Hid (Q ≤ q) ∧ Hid (Below w.heap.size w wr)) (fun s7 _ _ => (intOf s7).toNat)
    case atStart => exact ⟨q0, r0, rfl, rfl, HE1, HE3, HE2, HE5, HB2⟩
    case round =>
      obtain ⟨q, r, rfl, rfl, HQR, HQ1, HR1, HQL, HBW⟩ := hrel
      have hq1 := HQ1.out
      have hr1 := HR1.out
      have hQB := HQQ.out.2.2.2.2
      have hQ0 := HQQ.out.2.1
      by_cases h1 : 4294967296 ≤ q
      · have HQM : Hid (Q ≤ q - 1) := Lib.hid (by omega)
        have hc1r : ∀ wx, Below w.heap.size w wx → wx.cell? (va.add n1) = some (.int .u32 v1) := fun wx hb => (hb.cell (by rw [block_add]; exact hvb)).trans hc1
        go_upto_region 4 with fail
        refine wp_region_ext (by kernel_rfl) (by kernel_rfl) ?_
        repeat (go_big_quiet_step (fail))
        refine wpQuiet_nil ?_
        rintro _ ⟨⟨wc, hbc⟩, rfl⟩
        have HBC := Lib.hid (below_then HBW.out hbc)
        clear hbc
        have hcc := hc1r _ HBC.out
        clear hc1r
        by_cases h3 : 4294967296 ≤ r + v1
        · have hB := BRK.out (q - 1) (r + v1) (DEC.out q r HQR.out) h3
          have HF := Lib.hid (FIN.out (q - 1) (r + v1) (DEC.out q r HQR.out) (by omega) hB HQM.out (.inl h3))
          have HF2 : Hid (0 ≤ q - 1 ∧ q - 1 < 4294967296) := Lib.hid (by omega)
          go_wp2_with fail
          go_meet
          exact ⟨q - 1, r + v1, rfl, rfl, HF, HF2, HBC⟩
        · go_wp2_with fail
          go_roundw
          case rel => exact ⟨q - 1, r + v1, rfl, rfl, Lib.hid (DEC.out q r HQR.out), Lib.hid (by omega), Lib.hid (by omega), HQM, HBC⟩
          case measure => simp [intOf]; omega
      · obtain ⟨M, hM⟩ : ∃ M, q * v2 = M := ⟨_, rfl⟩
        have m12 := mul_dig (d := q) (e := v2) (by omega) ⟨v2a, v2b⟩
        rw [hM] at m12
        obtain ⟨m1, m2⟩ := m12
        have s2 := shl_or (a := r) (b := u2) hr1 ⟨u2a, u2b⟩
        obtain ⟨Z, hZ⟩ : ∃ Z, 4294967296 * r + u2 = Z := ⟨_, rfl⟩
        rw [hZ] at s2
        have z1 : 0 ≤ Z ∧ Z < 18446744073709551616 := by omega
        have dc1 : wr.cell? (va.add n1) = some (.int .u32 v1) := (HBW.out.cell (by rw [block_add]; exact hvb)).trans hc1
        have dc2 : wr.cell? (va.add n2) = some (.int .u32 v2) := (HBW.out.cell (by rw [block_add]; exact hvb)).trans hc2
        have dk2 : wr.cell? ⟨g, j + n2, none⟩ = some (.int .u32 u2) := (HBW.out.cell hgb.2).trans k2
        have y0 : (0 : Int) ≤ (n2 : Int) := by omega
        have y1 : (n2 : Int) < (n : Int) + 1 := by omega
        by_cases h2 : Z < M
        · have HQM : Hid (Q ≤ q - 1) := Lib.hid (by
            have := HG.out.less HQR.out hq1.1 (by rw [hZ, hM]; exact h2) HQQ.out.2.2.1
            omega)
          have hc1r : ∀ wx, Below w.heap.size w wx → wx.cell? (va.add n1) = some (.int .u32 v1) := fun wx hb => (hb.cell (by rw [block_add]; exact hvb)).trans hc1
          go_upto_region 4 with fail
          go_quiet (fail)
          have HBC : Hid (Below w.heap.size w (wr.drewN nq)) := Lib.hid (below_drewN HBW.out _)
          generalize wr.drewN nq = wc at HBC ⊢
          have hcc := hc1r wc HBC.out
          clear hc1r dc1 dc2 dk2
          by_cases h3 : 4294967296 ≤ r + v1
          · have hB := BRK.out (q - 1) (r + v1) (DEC.out q r HQR.out) h3
            have HF := Lib.hid (FIN.out (q - 1) (r + v1) (DEC.out q r HQR.out) (by have := HQM.out; omega) hB HQM.out (.inl h3))
            have HF2 : Hid (0 ≤ q - 1 ∧ q - 1 < 4294967296) := Lib.hid (by have := HQM.out; omega)
            have hq01 : 1 ≤ q := by have := HQM.out; omega
            go_wp2_with fail
            go_meet
            exact ⟨q - 1, r + v1, rfl, rfl, HF, HF2, HBC⟩
          · have hq01 : 1 ≤ q := by have := HQM.out; omega
            go_wp2_with fail
            go_roundw
            case rel => exact ⟨q - 1, r + v1, rfl, rfl, Lib.hid (DEC.out q r HQR.out), Lib.hid (by omega), Lib.hid (by omega), HQM, HBC⟩
            case measure => simp [intOf]; omega
        · have HF := Lib.hid (FIN.out q r HQR.out hq1.1 (by omega) HQL.out (.inr (by omega)))
          have HF2 : Hid (0 ≤ q ∧ q < 4294967296) := Lib.hid (by omega)
          go_upto_region 4 with fail
          go_quiet (fail)
          have HBC : Hid (Below w.heap.size w (wr.drewN nq)) := Lib.hid (below_drewN HBW.out _)
          generalize wr.drewN nq = wc at HBC ⊢
          clear dc1 dc2 dk2
          go_wp2_with fail
          go_meet
          exact ⟨q, r, rfl, rfl, HF, HF2, HBC⟩
  case rest =>
    obtain ⟨q, r, rfl, rfl, HQC, HQB, HBX⟩ := hcut
    have HOX := Lib.hid (HO.out.grow HBX.out)
    have HGX : Hid (w.grownBy wc (some g)) := Lib.hid (grownB HBX.out)
    clear HE1 HE2 HE3 HE5 HUS HTP HG k0 k1 k2 hc1 hc2 v1a v1b v2a v2b u0a u0b u1a u1b u2a u2b hv31 HB2
    go_upto_region 10 with fail
    go_loopw [9, 10, 86] (fun s9 s10 ii wr => ∃ (i : Nat) (cr br : Int) (Lc : List Int), i ≤ n ∧ ii = .int .i64 i ∧ s9 = .int .u64 cr ∧ s10 = .int .u64 br ∧ Hid (0 ≤ cr ∧ cr < 4294967296) ∧ Hid (0 ≤ br ∧ br ≤ 1) ∧ Hid (nv Lc + bp j * (q * nv (V.take i)) = nv L + bp (j + i) * (cr + br)) ∧ Hid (ZeroFrom Lc (j + n + 1)) ∧ Hid (OwG base wr (.slice (some ⟨g, 0, none⟩) N M) Lc) ∧ Hid (w.grownBy wr (some g))) (fun _ _ ii _ => n - (intOf ii).toNat)
    case atStart => exact ⟨0, 0, 0, L, Nat.zero_le _, rfl, rfl, rfl, Lib.hid (by omega), Lib.hid (by omega), Lib.hid (by simp [nv]), HZ, HOX, HGX⟩
    case round =>
      obtain ⟨i, cr, br, Lc, hi, rfl, rfl, rfl, HCR, HBR, HS, HZC, HOC, HGW⟩ := hrel
      have hcr := HCR.out
      have hbr := HBR.out
      have hqb := HQB.out
      have hnn := HN.out
      have hjj := HJ.out
      have hlc := HOC.out.len.1
      by_cases hlt : i < n
      · obtain ⟨ad', d, ev, _, hd, hcd, d1, d2⟩ := (HV.out.kept HGW.out HVG.out).at_ (k := i) (by omega)
        injection ev with ev
        subst ev
        obtain ⟨ji, hji⟩ : ∃ k, j + i = k := ⟨_, rfl⟩
        obtain ⟨x, hx⟩ : ∃ x, Lc[ji]? = some x := ⟨_, List.getElem?_eq_getElem (by omega)⟩
        have zc := HOC.out.cell hx
        have zf := HOC.out.free ji
        obtain ⟨x1', x2'⟩ := HOC.out.dig.at_ hx
        obtain ⟨P0, hP0⟩ : ∃ P, q * d = P := ⟨_, rfl⟩
        obtain ⟨m1, m2⟩ := mul_dig hqb ⟨d1, d2⟩
        rw [hP0] at m1 m2
        obtain ⟨P, hP⟩ : ∃ P, P0 + cr = P := ⟨_, rfl⟩
        have p1 : 0 ≤ P ∧ P ≤ 18446744069414584320 := by omega
        obtain ⟨t, ht⟩ : ∃ t, IntKind.u64.wrap (IntKind.u64.wrap (x - P % 4294967296) - br) = t := ⟨_, rfl⟩
        obtain ⟨⟨t1, t2⟩, t3, t4, t5⟩ := sub_wrap2 ⟨x1', x2'⟩ (show 0 ≤ P % 4294967296 ∧ P % 4294967296 < 4294967296 by omega) hbr ht
        have hst := dsub_step hd (show q * d + cr = P by rw [hP0, hP]) HS.out t3
        have hse := HOC.out.set ji (y := t % 4294967296) ⟨by omega, by omega⟩
        have HSE := Lib.hid hse
        have HGS : Hid (w.grownBy (wr.setCell ⟨g, ji, none⟩ (.int .u32 (t % 4294967296))) (some g)) := Lib.hid (grownSet (k := ji) (u := .int .u32 (t % 4294967296)) HGW.out)
        have HST : Hid (nv (Lc.set ji (t % 4294967296)) + bp j * (q * nv (V.take (i + 1))) = nv L + bp (j + (i + 1)) * (P / 4294967296 + t / 9223372036854775808)) := Lib.hid (by rw [nv_set hx, ← hji]; exact hst)
        have HZS : Hid (ZeroFrom (Lc.set ji (t % 4294967296)) (j + n + 1)) := Lib.hid (HZC.out.set (by omega))
        have HC2 : Hid (0 ≤ P / 4294967296 ∧ P / 4294967296 < 4294967296) := Lib.hid (by omega)
        have HB5 := Lib.hid (And.intro t4 t5)
        have y0 : (0 : Int) ≤ (i : Int) := by omega
        have y1 : (i : Int) < (n : Int) := by omega
        have y2 : (i : Int) < (n : Int) + 1 := by omega
        have HI : Hid (i + 1 ≤ n) := Lib.hid hlt
        have y5 : i ≤ 100000000 := by omega
        have y6 : n ≤ 100000000 := by omega
        subst hji
        clear hst hse hd hx t3 t4 t5 hlt hi hnn hjj hlc hqb hbr
        go_upto_region 13 with fail
        try rw [hP]
        go_upto_region 15 with fail
        try rw [ht]
        go_wp2_with fail
        go_roundw
        case rel => exact ⟨i + 1, P / 4294967296, t / 9223372036854775808, Lc.set (j + i) (t % 4294967296), HI.out, by go_num, rfl, rfl, HC2, HB5, HST, HZS, HSE, HGS⟩
        case measure => have := HI.out; simp [intOf]; omega
      · obtain rfl : n = i := by omega
        obtain ⟨x, hx⟩ : ∃ x, Lc[j + n]? = some x := ⟨_, List.getElem?_eq_getElem (by omega)⟩
        have zc := HOC.out.cell hx
        have zf := HOC.out.free (j + n)
        obtain ⟨x1', x2'⟩ := HOC.out.dig.at_ hx
        obtain ⟨t, ht⟩ : ∃ t, IntKind.u64.wrap (IntKind.u64.wrap (x - cr) - br) = t := ⟨_, rfl⟩
        obtain ⟨⟨t1, t2⟩, t3, t4, t5⟩ := sub_wrap2 ⟨x1', x2'⟩ hcr hbr ht
        obtain ⟨bw, hbw⟩ : ∃ b, t / 9223372036854775808 = b := ⟨_, rfl⟩
        rw [hbw] at t3 t4 t5
        obtain ⟨L1, hL1⟩ : ∃ l, Lc.set (j + n) (t % 4294967296) = l := ⟨_, rfl⟩
        have hse := HOC.out.set (j + n) (y := t % 4294967296) ⟨by omega, by omega⟩
        rw [hL1] at hse
        have HGS : Hid (w.grownBy (wr.setCell ⟨g, j + n, none⟩ (.int .u32 (t % 4294967296))) (some g)) := Lib.hid (grownSet (k := j + n) (u := .int .u32 (t % 4294967296)) HGW.out)
        have hz1 : ZeroFrom L1 (j + n + 1) := by rw [← hL1]; exact HZC.out.set (by omega)
        have hnv : nv L1 = nv L - bp j * (q * W) + bp (j + n + 1) * bw := by
          have h1 := HS.out
          rw [take_len (l := V) (by omega), HUV.out.2.2] at h1
          rw [← hL1, nv_set hx, t3, bp_succ]
          have e1 : bp (j + n) * (x - cr - br + 4294967296 * bw - x) = 4294967296 * bp (j + n) * bw - bp (j + n) * (cr + br) := by
            rw [Int.mul_comm 4294967296 (bp (j + n)), Int.mul_assoc (bp (j + n)), ← Int.mul_sub]; congr 1; omega
          omega
        obtain ⟨-, hz2⟩ := zero_lt hse.dig hz1 (by rw [hse.len.1]; omega)
        have hz3 := nv_low hse.dig
        have HLL := HLU.out
        have HQL := HQQ.out
        have hbp := bp_pos j
        have y0 : (0 : Int) ≤ (n : Int) := by omega
        have y6 : n ≤ 100000000 := by omega
        have HSE := Lib.hid hse
        have HZ1 := Lib.hid hz1
        by_cases hb0 : bw = 0
        · have hqQ : q = Q := by
            rcases HQC.out with h | h
            · exact h
            · exfalso
              rw [hb0, Int.mul_zero, Int.add_zero, HLL.1] at hnv
              have h5 := mul_mono' (a := U - q * W) (b := -1) (c := bp j) (by rw [h]; omega) (by omega)
              rw [Int.mul_sub] at h5
              omega
          have HNV : Hid (nv L1 = R) := Lib.hid (by rw [hnv, hb0, Int.mul_zero, Int.add_zero, hqQ]; exact HRR.out)
          have hb1 : ((t / 9223372036854775808) == 0) = true := by rw [hbw, hb0]; rfl
          have hb2 : t / 9223372036854775808 = 0 := hbw.trans hb0
          subst hqQ
          have hqb' := HQB.out
          clear hnv hz1 hz2 hz3 hse hx t3 t4 t5 HLL HQL hbp hb1 hb0 hbw hlt hi hnn hjj hlc hcr hbr hqb
          go_upto_region 19 with fail
          try rw [ht]
          go_wp2_with fail
          go_ret
          exact ⟨L1, rfl, HSE.out, HNV.out, HGS.out⟩
        · obtain rfl : bw = 1 := by omega
          rw [Int.mul_one] at hnv
          have hqQ : q = Q + 1 := by
            rcases HQC.out with h | h
            · exfalso
              have h5 := mul_mono' (a := 0) (b := U - q * W) (c := bp j) (by rw [h]; omega) (by omega)
              rw [Int.mul_sub, Int.mul_zero] at h5
              omega
            · exact h
          have HRN : Hid (nv L1 + bp j * W = R + bp (j + n + 1) ∧ 0 ≤ R) := Lib.hid (by
            have h5 := mul_mono' (a := 0) (b := U - Q * W) (c := bp j) (by omega) (by omega)
            rw [Int.mul_sub, Int.mul_zero] at h5
            have h6 : bp j * (q * W) = bp j * (Q * W) + bp j * W := by rw [hqQ, Int.add_mul, Int.one_mul, Int.mul_add]
            have := HRR.out
            omega)
          have hb2 : t / 9223372036854775808 = 1 := hbw
          have HQ1 : Hid (q - 1 = Q) := Lib.hid (by omega)
          have hqb' : 1 ≤ q ∧ q < 4294967296 := by omega
          have HVW := Lib.hid HUV.out.2.2
          clear hnv hz1 hz2 hz3 hse hx t3 t4 t5 HLL HQL hbp hb0 hbw hlt hi hnn hjj hlc hcr hbr hqb hqQ HS HCR HBR
          go_upto_region 19 with fail
          try rw [ht]
          go_upto_region 24 with fail
          have hN6 := y6
          generalize wr.setCell ⟨g, j + n, none⟩ (.int .u32 (t % 4294967296)) = w1 at HSE HGS ⊢
          go_loopw [9, 139] (fun s9 ii wr => ∃ (i : Nat) (cr : Int) (Lc : List Int), i ≤ n ∧ ii = .int .i64 i ∧ s9 = .int .u64 cr ∧ Hid (0 ≤ cr ∧ cr ≤ 1) ∧ Hid (nv Lc + bp (j + i) * cr = nv L1 + bp j * nv (V.take i)) ∧ Hid (ZeroFrom Lc (j + n + 1)) ∧ Hid (OwG base wr (.slice (some ⟨g, 0, none⟩) N M) Lc) ∧ Hid (w.grownBy wr (some g))) (fun _ ii _ => n - (intOf ii).toNat)
          case atStart => exact ⟨0, 0, L1, Nat.zero_le _, rfl, rfl, Lib.hid (by omega), Lib.hid (by simp [nv]), HZ1, HSE, HGS⟩
          case round =>
            obtain ⟨i, cr, Lc, hi, rfl, rfl, HCR, HS, HZC, HOC, HGW⟩ := hrel
            have hcr := HCR.out
            have hjj := HJ.out
            have hnn := HN.out
            have hlc := HOC.out.len.1
            by_cases hlt : i < n
            · obtain ⟨ad', d, ev, _, hd, hcd, d1, d2⟩ := (HV.out.kept HGW.out HVG.out).at_ (k := i) (by omega)
              injection ev with ev
              subst ev
              obtain ⟨x, hx⟩ : ∃ x, Lc[j + i]? = some x := ⟨_, List.getElem?_eq_getElem (by omega)⟩
              have zc := HOC.out.cell hx
              have zf := HOC.out.free (j + i)
              obtain ⟨x1', x2'⟩ := HOC.out.dig.at_ hx
              have hst := dadd_step hd HS.out (show x + d + cr = x + d + cr from rfl)
              have hse := HOC.out.set (j + i) (y := (x + d + cr) % 4294967296) ⟨by omega, by omega⟩
              have HSE2 := Lib.hid hse
              have HGS2 : Hid (w.grownBy (wr.setCell ⟨g, j + i, none⟩ (.int .u32 ((x + d + cr) % 4294967296))) (some g)) := Lib.hid (grownSet (k := j + i) (u := .int .u32 ((x + d + cr) % 4294967296)) HGW.out)
              have HST : Hid (nv (Lc.set (j + i) ((x + d + cr) % 4294967296)) + bp (j + (i + 1)) * ((x + d + cr) / 4294967296) = nv L1 + bp j * nv (V.take (i + 1))) := Lib.hid (by rw [nv_set hx]; exact hst)
              have HZS : Hid (ZeroFrom (Lc.set (j + i) ((x + d + cr) % 4294967296)) (j + n + 1)) := Lib.hid (HZC.out.set (by omega))
              have HC2 : Hid (0 ≤ (x + d + cr) / 4294967296 ∧ (x + d + cr) / 4294967296 ≤ 1) := Lib.hid (by omega)
              have z0 : (0 : Int) ≤ (i : Int) := by omega
              have z1 : (i : Int) < (n : Int) := by omega
              have z2 : (i : Int) < (n : Int) + 1 := by omega
              have HI : Hid (i + 1 ≤ n) := Lib.hid hlt
              have z5 : i ≤ 100000000 := by omega
              clear hst hse hd hx hlt hi hnn hjj hlc
              go_wp2_with fail
              go_roundw
              case rel => exact ⟨i + 1, (x + d + cr) / 4294967296, Lc.set (j + i) ((x + d + cr) % 4294967296), HI.out, by go_num, rfl, HC2, HST, HZS, HSE2, HGS2⟩
              case measure => have := HI.out; simp [intOf]; omega
            · obtain rfl : n = i := by omega
              obtain ⟨x, hx⟩ : ∃ x, Lc[j + n]? = some x := ⟨_, List.getElem?_eq_getElem (by omega)⟩
              have zc := HOC.out.cell hx
              have zf := HOC.out.free (j + n)
              obtain ⟨x1', x2'⟩ := HOC.out.dig.at_ hx
              obtain ⟨y, hy⟩ : ∃ y, IntKind.u32.wrap (x + cr) = y := ⟨_, rfl⟩
              have hy' : y = (x + cr) % 4294967296 := hy.symm
              obtain ⟨L2, hL2⟩ : ∃ l, Lc.set (j + n) y = l := ⟨_, rfl⟩
              have hse := HOC.out.set (j + n) (y := y) ⟨by omega, by omega⟩
              rw [hL2] at hse
              have HGS2 : Hid (w.grownBy (wr.setCell ⟨g, j + n, none⟩ (.int .u32 y)) (some g)) := Lib.hid (grownSet (k := j + n) (u := .int .u32 y) HGW.out)
              have hz1 : ZeroFrom L2 (j + n + 1) := by rw [← hL2]; exact HZC.out.set (by omega)
              obtain ⟨-, hz2⟩ := zero_lt hse.dig hz1 (by rw [hse.len.1]; omega)
              have hnv : nv L2 + bp (j + n + 1) * ((x + cr) / 4294967296) = R + bp (j + n + 1) := by
                have h1 := HS.out
                rw [take_len (l := V) (by omega), HVW.out] at h1
                rw [← hL2, nv_set hx, hy', bp_succ]
                have h0 := Int.mul_ediv_add_emod (x + cr) 4294967296
                have e1 : bp (j + n) * ((x + cr) % 4294967296 - x) + 4294967296 * bp (j + n) * ((x + cr) / 4294967296) = bp (j + n) * cr := by
                  rw [Int.mul_comm 4294967296 (bp (j + n)), Int.mul_assoc (bp (j + n)), ← Int.mul_add]; congr 1; omega
                have h2 := HRN.out.1
                rw [bp_succ] at h2
                omega
              have HNV : Hid (nv L2 = R) := Lib.hid (by
                have h3 := HRN.out.2
                rcases (show (x + cr) / 4294967296 = 0 ∨ (x + cr) / 4294967296 = 1 by omega) with hk | hk
                · rw [hk, Int.mul_zero] at hnv; omega
                · rw [hk, Int.mul_one] at hnv; omega)
              have HSE2 := Lib.hid hse
              have z2 : (n : Int) < (n : Int) + 1 := by omega
              have hq2 := HQ1.out
              clear hnv hz1 hz2 hse hx hy' hlt hi hnn hjj hlc
              go_upto_region 30 with fail
              go_wp2_with fail
              try rw [hy]
              go_ret
              exact ⟨L2, by rw [← HQ1.out]; rfl, HSE2.out, HNV.out, HGS2.out⟩
end Go.Proofs.Ytmdfgidejdiiiaa
