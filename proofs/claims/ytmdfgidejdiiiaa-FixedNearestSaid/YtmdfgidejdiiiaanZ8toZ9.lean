/- Several texts in one: Z8 Z9. -/
import Derived.Test.YtmdfgidejdiiiaanZ7
set_option linter.unusedVariables false
set_option linter.unusedSimpArgs false
section
namespace Go.Proofs.Ytmdfgidejdiiiaa
open Go.RowKit
theorem resCCT {fn : Func} {t s x : Tmp} {T S : TypeId} (h : fn.results = #[.cell t T, .cell s S, .tmp x]) (tmps : Array Value) (P : Program) (w : World) {g g' : Nat} {v v' : Value} (hp : tmps.getD t undef = .pointer (some ⟨g, 0, none⟩)) (hp' : tmps.getD s undef = .pointer (some ⟨g', 0, none⟩)) (hv : (loadVar T ⟨g, 0, none⟩).run P w = .ok v w) (hv' : (loadVar S ⟨g', 0, none⟩).run P w = .ok v' w) : (results fn tmps).run P w = .ok (.tuple #[v, v', tmps.getD x undef]) w := by
  have e1 : tmps[t]?.getD undef = .pointer (some ⟨g, 0, none⟩) := by rw [← Array.getD_eq_getD_getElem?]; exact hp
  have e2 : tmps[s]?.getD undef = .pointer (some ⟨g', 0, none⟩) := by rw [← Array.getD_eq_getD_getElem?]; exact hp'
  simp [results, h, e1, e2, hv, hv', asAddr]
def RetD (w : World) (q r : Int) (K M : Nat) (e : Ending) (w' : World) : Prop := ∃ v, e = .returned v ∧ TwoO w.heap.size w' v q r K M ∧ Below w.heap.size w w'
theorem ediv_of {X Y q r : Int} (hy : 0 < Y) (h : X = r + Y * q) (h0 : 0 ≤ r) (h1 : r < Y) : q = X / Y ∧ r = X % Y := by
  subst h
  rw [Int.add_mul_ediv_left _ _ (by omega), Int.ediv_eq_zero_of_lt h0 h1, Int.zero_add, Int.add_mul_emod_self_left, Int.emod_eq_of_lt h0 h1]
  exact ⟨rfl, rfl⟩
theorem div_neg0 {X Y : Int} (hy : 0 < Y) (h : X % Y = 0) : -(X / Y) = -X / Y ∧ (0 : Int) = -X % Y := by
  refine ediv_of hy ?_ (Int.le_refl _) hy
  have e := div_exact h
  rw [Int.mul_neg, Int.mul_comm, e, Int.zero_add]
theorem div_neg1 {X Y : Int} (hy : 0 < Y) (h : X % Y ≠ 0) : -(X / Y + 1) = -X / Y ∧ Y - X % Y = -X % Y := by
  have h1 := Int.mul_ediv_add_emod X Y
  have h2 := Int.emod_nonneg X (b := Y) (by omega)
  have h3 := Int.emod_lt_of_pos X hy
  refine ediv_of hy ?_ (by omega) (by omega)
  rw [Int.mul_neg, Int.mul_add, Int.mul_one]
  omega
set_option maxRecDepth 100000 in
set_option maxHeartbeats 4000000 in
theorem it_DivA (v u : Value) (x : Int) (Y : List Int) (K M b : Nat) (B : Option Addr) (m d : Nat) (w : World) (hx : IntB b w v x K) (hy : DigB b w B Y ∧ Y.length = m ∧ m ≤ d ∧ m ≤ M) (h0 : 0 < nv Y) (hK : 1 ≤ K) (hu : u = .agg #[.bool false, .slice B m d]) (h9 : K ≤ 1000000) (h8 : M ≤ 1000000) : Calls Try.prog 92 #[v, u] w (RetD w (x / nv Y) (x % nv Y) (K + 1) M) := by
  subst hu
  obtain ⟨na, A, n, c, X, rfl, hX, hn, hc, hnK, rfl⟩ := hx
  obtain ⟨hY, hm, hd, hmM⟩ := hy
  have hm1 : 1 ≤ m := by
    rcases Nat.eq_zero_or_pos m with h | h
    · have e := List.length_eq_zero_iff.1 (hm.trans h)
      rw [e] at h0
      exact absurd h0 (by decide)
    · exact h
  have CDV : Hid (∀ w1, Below w.heap.size w w1 → Calls Try.prog 116 #[.slice A n c, .slice B m d] w1 (RetQRE w1 (nv X / nv Y) (nv X % nv Y) n m)) := Lib.hid fun w1 h => nt_DivMod A B n m c d X Y w1 (hX.1.grow h) (hY.1.grow h) hn hm hc hd (by omega) (by omega) (by omega)
  have CSB : Hid (∀ w1 A2 c2 l2, Below w.heap.size w w1 → DigA w1 A2 l2 → l2.length ≤ m → l2.length ≤ c2 → nv l2 = nv X % nv Y → Calls Try.prog 122 #[.slice B m d, .slice A2 l2.length c2] w1 (RetN w1 (nv Y - nv X % nv Y) m)) := Lib.hid fun w1 A2 c2 l2 h h2 h3 h4 h5 => by
    have := nt_Sub B A2 m l2.length d c2 Y l2 w1 (hY.1.grow h) h2 hm rfl hd h4 (by omega) (by omega)
    rw [h5, if_neg (by have := Int.emod_lt_of_pos (nv X) h0; omega)] at this
    exact this
  have H0 := Lib.hid (And.intro h0 (nv_low hX.1.dig))
  have HL := Lib.hid (And.intro hm1 (And.intro hmM (And.intro hnK (And.intro h9 (And.intro h8 hK)))))
  clear hX hY hn hm h0 hm1 hc hd
  obtain ⟨dI, hI1, hI2⟩ := row_Int
  have HI := Lib.hid (And.intro hI1 hI2)
  clear hI1 hI2
  cases na with
  | false =>
    go_enter Try.func92, Try.ntmps92
    go_upto_region 1 with fail
    have hB0 : Below w.heap.size w ((((w.alloc (.cells #[.bool false, .slice A n c] 26)).alloc (.cells #[.bool false, .slice B m d] 26)).alloc (.cells #[.bool false, .slice none 0 0] 26)).alloc (.cells #[.bool false, .slice none 0 0] 26)) := (((((Below.refl _ _).alloc (Nat.le_refl _) _).alloc (by simp; try omega) _).alloc (by simp; try omega) _).alloc (by simp; try omega) _)
    have bx0 : Box ((((w.alloc (.cells #[.bool false, .slice A n c] 26)).alloc (.cells #[.bool false, .slice B m d] 26)).alloc (.cells #[.bool false, .slice none 0 0] 26)).alloc (.cells #[.bool false, .slice none 0 0] 26)) (w.heap.size) [.bool false, .slice A n c] := ((((Box.new (by simp)).alloc _).alloc _).alloc _)
    have bx1 : Box ((((w.alloc (.cells #[.bool false, .slice A n c] 26)).alloc (.cells #[.bool false, .slice B m d] 26)).alloc (.cells #[.bool false, .slice none 0 0] 26)).alloc (.cells #[.bool false, .slice none 0 0] 26)) (w.heap.size + 1) [.bool false, .slice B m d] := (((Box.new (by simp)).alloc _).alloc _)
    have bx2 : Box ((((w.alloc (.cells #[.bool false, .slice A n c] 26)).alloc (.cells #[.bool false, .slice B m d] 26)).alloc (.cells #[.bool false, .slice none 0 0] 26)).alloc (.cells #[.bool false, .slice none 0 0] 26)) (w.heap.size + 1 + 1) [.bool false, .slice none 0 0] := ((Box.new (by simp)).alloc _)
    have bx3 : Box ((((w.alloc (.cells #[.bool false, .slice A n c] 26)).alloc (.cells #[.bool false, .slice B m d] 26)).alloc (.cells #[.bool false, .slice none 0 0] 26)).alloc (.cells #[.bool false, .slice none 0 0] 26)) (w.heap.size + 1 + 1 + 1) [.bool false, .slice none 0 0] := (Box.new (by simp))
    generalize (((w.alloc (.cells #[.bool false, .slice A n c] 26)).alloc (.cells #[.bool false, .slice B m d] 26)).alloc (.cells #[.bool false, .slice none 0 0] 26)).alloc (.cells #[.bool false, .slice none 0 0] 26) = wA at hB0 bx0 bx1 bx2 bx3 ⊢
    have HA := Lib.hid (And.intro hB0 (And.intro bx0 (And.intro bx1 (And.intro bx2 bx3))))
    clear hB0 bx0 bx1 bx2 bx3
    have x1 : wA.cell? ⟨w.heap.size, 0, none⟩ = some (.bool false) := HA.out.2.1.2.1 0
    have x2 : wA.cell? ⟨w.heap.size, 1, none⟩ = some (.slice A n c) := HA.out.2.1.2.1 1
    have x4 : wA.cell? ⟨w.heap.size + 1, 1, none⟩ = some (.slice B m d) := HA.out.2.2.1.2.1 1
    go_upto_region 4 with (go_at_call 116; (with_reducible refine (CDV.out _ HA.out.1).mono ?_); rintro e1 w1 ⟨v1, l1, v2, l2, rfl, ⟨o1, n1, m1, k1⟩, ⟨o2, n2, m2, k2⟩, hb1⟩; obtain ⟨A1, c1, rfl, -, -⟩ := o1.form; obtain ⟨A2, c2, rfl, -, -⟩ := o2.form; have HB1 := Lib.hid hb1; have H1 := Lib.hid (And.intro o1 (And.intro n1 (And.intro m1 k1))); have H2 := Lib.hid (And.intro o2 (And.intro n2 (And.intro m2 k2))); clear o1 n1 m1 k1 o2 n2 m2 k2 hb1)
    clear x1 x2 x4
    have y1 : w1.cell? ⟨w.heap.size, 0, none⟩ = some (.bool false) := (HA.out.2.1.keep HB1.out).2.1 0
    have y3 : w1.cell? ⟨w.heap.size + 1, 0, none⟩ = some (.bool false) := (HA.out.2.2.1.keep HB1.out).2.1 0
    have y4 : w1.cell? ⟨w.heap.size + 1, 1, none⟩ = some (.slice B m d) := (HA.out.2.2.1.keep HB1.out).2.1 1
    have HK := HB1
    have HQ : Hid (OwG wA.heap.size w1 (.slice A1 l1.length c1) l1 ∧ Nrm l1 ∧ l1.length ≤ K + 1 ∧ sgn false (nv l1) = sgn false (nv X) / nv Y) := Lib.hid ⟨H1.out.1, H1.out.2.2.1, Nat.le_trans H1.out.2.2.2 (by omega), H1.out.2.1⟩
    have HS : Hid (OwG wA.heap.size w1 (.slice A2 l2.length c2) l2 ∧ Nrm l2 ∧ l2.length ≤ M ∧ nv l2 = sgn false (nv X) % nv Y) := Lib.hid ⟨H2.out.1, H2.out.2.2.1, Nat.le_trans H2.out.2.2.2 (by omega), H2.out.2.1⟩
    go_upto_region 7 with fail
    go_wp2_with (first
      | (go_at_call 114; first
          | ((with_reducible refine (it_signed false A1 l1.length c1 _).mono ?_); rintro e8 w8 ⟨rfl, hb8⟩; have HB8 := Lib.hid hb8; clear hb8)
          | ((with_reducible refine (it_signed false A2 l2.length c2 _).mono ?_); rintro e9 w9 ⟨rfl, hb9⟩; have HB9 := Lib.hid hb9; clear hb9))
      | ((with_reducible show wpList _ _ _ (Oper.mk none (.store 26 (.tmp 4) _) _ _ _ _ :: _) _ _); refine wp_st rfl 26 _ _ rfl (w.heap.size + 1 + 1) 0 [_, _] rfl rfl size_Int rfl (((HA.out.2.2.2.1.keep HK.out).keep HB8.out).keep HB9.out) (Nat.le_refl _) rfl ?_; intro W1 cA gA)
      | ((with_reducible show wpList _ _ _ (Oper.mk none (.store 26 (.tmp 5) _) _ _ _ _ :: _) _ _); refine wp_st rfl 26 _ _ rfl (w.heap.size + 1 + 1 + 1) 0 [_, _] rfl rfl size_Int rfl ((((HA.out.2.2.2.2.keep HK.out).keep HB8.out).keep HB9.out).grown gA (fun e => by injection e with e; omega)) (Nat.le_refl _) rfl ?_; intro W2 cB gB))
    have hb := below_then (below_then (below_then HA.out.1 HK.out) HB8.out) HB9.out
    have hW := put_facts (g := w.heap.size + 1 + 1 + 1) (put_facts (g := w.heap.size + 1 + 1) hb (by omega) gA) (by omega) gB
    have hl1 := HA.out.2.2.2.1.1
    have hl2 := HA.out.2.2.2.2.1
    have hq := ((((HQ.out.1.grow HB8.out).grow HB9.out).away gA (by omega)).away gB (by omega)).base (base' := w.heap.size) HA.out.1.size
    have hr := ((((HS.out.1.grow HB8.out).grow HB9.out).away gA (by omega)).away gB (by omega)).base (base' := w.heap.size) HA.out.1.size
    have cA' := cA.grown gB (fun e => by injection e with e; omega)
    refine bodyPost_ret (resCCT rfl _ _ W2 (g := w.heap.size + 1 + 1) (g' := w.heap.size + 1 + 1 + 1) rfl rfl (res_box 26 cA' dI HI.out.1 HI.out.2 size_Int) (res_box 26 cB dI HI.out.1 HI.out.2 size_Int)) rfl ?_
    exact ⟨_, rfl, ⟨_, _, rfl, ⟨_, A1, c1, _, rfl, hq, HQ.out.2.1, HQ.out.2.2.1, (sgn_len (neg := false) HQ.out.2.1 HQ.out.1.dig).trans HQ.out.2.2.2⟩, ⟨false, A2, c2, _, rfl, hr, HS.out.2.1, HS.out.2.2.1, HS.out.2.2.2⟩⟩, hW⟩
  | true =>
    go_enter Try.func92, Try.ntmps92
    go_upto_region 1 with fail
    have hB0 : Below w.heap.size w ((((w.alloc (.cells #[.bool true, .slice A n c] 26)).alloc (.cells #[.bool false, .slice B m d] 26)).alloc (.cells #[.bool false, .slice none 0 0] 26)).alloc (.cells #[.bool false, .slice none 0 0] 26)) := (((((Below.refl _ _).alloc (Nat.le_refl _) _).alloc (by simp; try omega) _).alloc (by simp; try omega) _).alloc (by simp; try omega) _)
    have bx0 : Box ((((w.alloc (.cells #[.bool true, .slice A n c] 26)).alloc (.cells #[.bool false, .slice B m d] 26)).alloc (.cells #[.bool false, .slice none 0 0] 26)).alloc (.cells #[.bool false, .slice none 0 0] 26)) (w.heap.size) [.bool true, .slice A n c] := ((((Box.new (by simp)).alloc _).alloc _).alloc _)
    have bx1 : Box ((((w.alloc (.cells #[.bool true, .slice A n c] 26)).alloc (.cells #[.bool false, .slice B m d] 26)).alloc (.cells #[.bool false, .slice none 0 0] 26)).alloc (.cells #[.bool false, .slice none 0 0] 26)) (w.heap.size + 1) [.bool false, .slice B m d] := (((Box.new (by simp)).alloc _).alloc _)
    have bx2 : Box ((((w.alloc (.cells #[.bool true, .slice A n c] 26)).alloc (.cells #[.bool false, .slice B m d] 26)).alloc (.cells #[.bool false, .slice none 0 0] 26)).alloc (.cells #[.bool false, .slice none 0 0] 26)) (w.heap.size + 1 + 1) [.bool false, .slice none 0 0] := ((Box.new (by simp)).alloc _)
    have bx3 : Box ((((w.alloc (.cells #[.bool true, .slice A n c] 26)).alloc (.cells #[.bool false, .slice B m d] 26)).alloc (.cells #[.bool false, .slice none 0 0] 26)).alloc (.cells #[.bool false, .slice none 0 0] 26)) (w.heap.size + 1 + 1 + 1) [.bool false, .slice none 0 0] := (Box.new (by simp))
    generalize (((w.alloc (.cells #[.bool true, .slice A n c] 26)).alloc (.cells #[.bool false, .slice B m d] 26)).alloc (.cells #[.bool false, .slice none 0 0] 26)).alloc (.cells #[.bool false, .slice none 0 0] 26) = wA at hB0 bx0 bx1 bx2 bx3 ⊢
    have HA := Lib.hid (And.intro hB0 (And.intro bx0 (And.intro bx1 (And.intro bx2 bx3))))
    clear hB0 bx0 bx1 bx2 bx3
    have x1 : wA.cell? ⟨w.heap.size, 0, none⟩ = some (.bool true) := HA.out.2.1.2.1 0
    have x2 : wA.cell? ⟨w.heap.size, 1, none⟩ = some (.slice A n c) := HA.out.2.1.2.1 1
    have x4 : wA.cell? ⟨w.heap.size + 1, 1, none⟩ = some (.slice B m d) := HA.out.2.2.1.2.1 1
    go_upto_region 4 with (go_at_call 116; (with_reducible refine (CDV.out _ HA.out.1).mono ?_); rintro e1 w1 ⟨v1, l1, v2, l2, rfl, ⟨o1, n1, m1, k1⟩, ⟨o2, n2, m2, k2⟩, hb1⟩; obtain ⟨A1, c1, rfl, -, -⟩ := o1.form; obtain ⟨A2, c2, rfl, -, -⟩ := o2.form; have HB1 := Lib.hid hb1; have H1 := Lib.hid (And.intro o1 (And.intro n1 (And.intro m1 k1))); have H2 := Lib.hid (And.intro o2 (And.intro n2 (And.intro m2 k2))); clear o1 n1 m1 k1 o2 n2 m2 k2 hb1)
    clear x1 x2 x4
    have y1 : w1.cell? ⟨w.heap.size, 0, none⟩ = some (.bool true) := (HA.out.2.1.keep HB1.out).2.1 0
    have y3 : w1.cell? ⟨w.heap.size + 1, 0, none⟩ = some (.bool false) := (HA.out.2.2.1.keep HB1.out).2.1 0
    have y4 : w1.cell? ⟨w.heap.size + 1, 1, none⟩ = some (.slice B m d) := (HA.out.2.2.1.keep HB1.out).2.1 1
    by_cases hz : l2 = []
    · subst hz
      have HK := HB1
      have HQ : Hid (OwG wA.heap.size w1 (.slice A1 l1.length c1) l1 ∧ Nrm l1 ∧ l1.length ≤ K + 1 ∧ sgn true (nv l1) = sgn true (nv X) / nv Y) := Lib.hid ⟨H1.out.1, H1.out.2.2.1, Nat.le_trans H1.out.2.2.2 (by omega), by rw [H1.out.2.1]; exact (div_neg0 H0.out.1 H2.out.2.1.symm).1⟩
      have HS : Hid (OwG wA.heap.size w1 (.slice A2 0 c2) [] ∧ Nrm [] ∧ ([] : List Int).length ≤ M ∧ nv [] = sgn true (nv X) % nv Y) := Lib.hid ⟨H2.out.1, H2.out.2.2.1, Nat.le_trans H2.out.2.2.2 (by omega), (div_neg0 H0.out.1 H2.out.2.1.symm).2⟩
      go_upto_region 7 with fail
      go_wp2_with (first
        | (go_at_call 114; first
            | ((with_reducible refine (it_signed true A1 l1.length c1 _).mono ?_); rintro e8 w8 ⟨rfl, hb8⟩; have HB8 := Lib.hid hb8; clear hb8)
            | ((with_reducible refine (it_signed false A2 0 c2 _).mono ?_); rintro e9 w9 ⟨rfl, hb9⟩; have HB9 := Lib.hid hb9; clear hb9))
        | ((with_reducible show wpList _ _ _ (Oper.mk none (.store 26 (.tmp 4) _) _ _ _ _ :: _) _ _); refine wp_st rfl 26 _ _ rfl (w.heap.size + 1 + 1) 0 [_, _] rfl rfl size_Int rfl (((HA.out.2.2.2.1.keep HK.out).keep HB8.out).keep HB9.out) (Nat.le_refl _) rfl ?_; intro W1 cA gA)
        | ((with_reducible show wpList _ _ _ (Oper.mk none (.store 26 (.tmp 5) _) _ _ _ _ :: _) _ _); refine wp_st rfl 26 _ _ rfl (w.heap.size + 1 + 1 + 1) 0 [_, _] rfl rfl size_Int rfl ((((HA.out.2.2.2.2.keep HK.out).keep HB8.out).keep HB9.out).grown gA (fun e => by injection e with e; omega)) (Nat.le_refl _) rfl ?_; intro W2 cB gB))
      have hb := below_then (below_then (below_then HA.out.1 HK.out) HB8.out) HB9.out
      have hW := put_facts (g := w.heap.size + 1 + 1 + 1) (put_facts (g := w.heap.size + 1 + 1) hb (by omega) gA) (by omega) gB
      have hl1 := HA.out.2.2.2.1.1
      have hl2 := HA.out.2.2.2.2.1
      have hq := ((((HQ.out.1.grow HB8.out).grow HB9.out).away gA (by omega)).away gB (by omega)).base (base' := w.heap.size) HA.out.1.size
      have hr := ((((HS.out.1.grow HB8.out).grow HB9.out).away gA (by omega)).away gB (by omega)).base (base' := w.heap.size) HA.out.1.size
      have cA' := cA.grown gB (fun e => by injection e with e; omega)
      refine bodyPost_ret (resCCT rfl _ _ W2 (g := w.heap.size + 1 + 1) (g' := w.heap.size + 1 + 1 + 1) rfl rfl (res_box 26 cA' dI HI.out.1 HI.out.2 size_Int) (res_box 26 cB dI HI.out.1 HI.out.2 size_Int)) rfl ?_
      exact ⟨_, rfl, ⟨_, _, rfl, ⟨_, A1, c1, _, rfl, hq, HQ.out.2.1, HQ.out.2.2.1, (sgn_len (neg := true) HQ.out.2.1 HQ.out.1.dig).trans HQ.out.2.2.2⟩, ⟨false, A2, c2, _, rfl, hr, HS.out.2.1, HS.out.2.2.1, HS.out.2.2.2⟩⟩, hW⟩
    · have hlz : l2.length ≠ 0 := fun e => hz (List.length_eq_zero_iff.1 e)
      have hlz' : (0 : Int) < (l2.length : Int) := by omega
      have hnz : Hid (nv X % nv Y ≠ 0) := Lib.hid fun e => hz ((nrm_zero H2.out.1.dig H2.out.2.2.1).1 (H2.out.2.1.trans e))
      clear hz
      have hba : Below w1.heap.size w1 (w1.alloc (.cells #[.int .u32 1] 77)) := (Below.refl _ _).alloc (Nat.le_refl _) _
      have CAD : Hid (Calls Try.prog 121 #[.slice A1 l1.length c1, .slice (some ⟨w1.heap.size, 0, none⟩) 1 1] (w1.alloc (.cells #[.int .u32 1] 77)) (RetN (w1.alloc (.cells #[.int .u32 1] 77)) (nv X / nv Y + 1) (K + 1))) := Lib.hid (by
        have hk := H1.out.2.2.2
        have hL := HL.out
        have := nt_Add A1 (some ⟨w1.heap.size, 0, none⟩) l1.length 1 c1 1 l1 [1] _ (H1.out.1.digA.grow hba) (digA_one (w := w1) (x := 1) (by omega)).digA rfl rfl H1.out.1.len.2 (Nat.le_refl _) (by omega) (by omega)
        rw [H1.out.2.1, show nv [1] = 1 from by decide] at this
        exact this.mono fun _ _ h => h.le (by omega))
      have HBA := Lib.hid hba
      clear hba
      go_upto_region 7 with (first
        | (go_at_call 121; (with_reducible refine CAD.out.mono ?_); intro e2 w2 h2; obtain ⟨v2, lq, rfl, oq, nq, mq, kq, hb2⟩ := h2; obtain ⟨AQ, cq, rfl, -, -⟩ := oq.form; have HQ2 := Lib.hid (And.intro (oq.base (base' := w1.heap.size) HBA.out.size) (And.intro nq (And.intro mq kq))); have HB2 := Lib.hid (below_then HBA.out hb2); have y4' : w2.cell? ⟨w.heap.size + 1, 1, none⟩ = some (.slice B m d) := ((HA.out.2.2.1.keep HB1.out).keep HB2.out).2.1 1; clear oq nq mq kq hb2)
        | (go_at_call 122; (with_reducible refine (CSB.out _ _ _ _ (below_then (below_then HA.out.1 HB1.out) HB2.out) (H2.out.1.digA.grow HB2.out) H2.out.2.2.2 H2.out.1.len.2 H2.out.2.1).mono ?_); intro e3 w3 h3; obtain ⟨v3, lr, rfl, or, nr, mr, kr, hb3⟩ := h3; obtain ⟨AR, cr, rfl, -, -⟩ := or.form; have HR3 := Lib.hid (And.intro or (And.intro nr (And.intro mr kr))); have HB3 := Lib.hid hb3; clear or nr mr kr hb3))
      have HK : Hid (Below wA.heap.size wA w3) := Lib.hid (below_then (below_then HB1.out HB2.out) HB3.out)
      have HQ : Hid (OwG wA.heap.size w3 (.slice AQ lq.length cq) lq ∧ Nrm lq ∧ lq.length ≤ K + 1 ∧ sgn true (nv lq) = sgn true (nv X) / nv Y) := Lib.hid ⟨(HQ2.out.1.grow HB3.out).base HB1.out.size, HQ2.out.2.2.1, HQ2.out.2.2.2, by rw [HQ2.out.2.1]; exact (div_neg1 H0.out.1 hnz.out).1⟩
      have HS : Hid (OwG wA.heap.size w3 (.slice AR lr.length cr) lr ∧ Nrm lr ∧ lr.length ≤ M ∧ nv lr = sgn true (nv X) % nv Y) := Lib.hid ⟨HR3.out.1.base (below_then HB1.out HB2.out).size, HR3.out.2.2.1, Nat.le_trans HR3.out.2.2.2 HL.out.2.1, by rw [HR3.out.2.1]; exact (div_neg1 H0.out.1 hnz.out).2⟩
      have z1 : w3.cell? ⟨w.heap.size, 0, none⟩ = some (.bool true) := (HA.out.2.1.keep HK.out).2.1 0
      have z3 : w3.cell? ⟨w.heap.size + 1, 0, none⟩ = some (.bool false) := (HA.out.2.2.1.keep HK.out).2.1 0
      go_wp2_with (first
        | (go_at_call 114; first
            | ((with_reducible refine (it_signed true AQ lq.length cq _).mono ?_); rintro e8 w8 ⟨rfl, hb8⟩; have HB8 := Lib.hid hb8; clear hb8)
            | ((with_reducible refine (it_signed false AR lr.length cr _).mono ?_); rintro e9 w9 ⟨rfl, hb9⟩; have HB9 := Lib.hid hb9; clear hb9))
        | ((with_reducible show wpList _ _ _ (Oper.mk none (.store 26 (.tmp 4) _) _ _ _ _ :: _) _ _); refine wp_st rfl 26 _ _ rfl (w.heap.size + 1 + 1) 0 [_, _] rfl rfl size_Int rfl (((HA.out.2.2.2.1.keep HK.out).keep HB8.out).keep HB9.out) (Nat.le_refl _) rfl ?_; intro W1 cA gA)
        | ((with_reducible show wpList _ _ _ (Oper.mk none (.store 26 (.tmp 5) _) _ _ _ _ :: _) _ _); refine wp_st rfl 26 _ _ rfl (w.heap.size + 1 + 1 + 1) 0 [_, _] rfl rfl size_Int rfl ((((HA.out.2.2.2.2.keep HK.out).keep HB8.out).keep HB9.out).grown gA (fun e => by injection e with e; omega)) (Nat.le_refl _) rfl ?_; intro W2 cB gB))
      have hb := below_then (below_then (below_then HA.out.1 HK.out) HB8.out) HB9.out
      have hW := put_facts (g := w.heap.size + 1 + 1 + 1) (put_facts (g := w.heap.size + 1 + 1) hb (by omega) gA) (by omega) gB
      have hl1 := HA.out.2.2.2.1.1
      have hl2 := HA.out.2.2.2.2.1
      have hq := ((((HQ.out.1.grow HB8.out).grow HB9.out).away gA (by omega)).away gB (by omega)).base (base' := w.heap.size) HA.out.1.size
      have hr := ((((HS.out.1.grow HB8.out).grow HB9.out).away gA (by omega)).away gB (by omega)).base (base' := w.heap.size) HA.out.1.size
      have cA' := cA.grown gB (fun e => by injection e with e; omega)
      refine bodyPost_ret (resCCT rfl _ _ W2 (g := w.heap.size + 1 + 1) (g' := w.heap.size + 1 + 1 + 1) rfl rfl (res_box 26 cA' dI HI.out.1 HI.out.2 size_Int) (res_box 26 cB dI HI.out.1 HI.out.2 size_Int)) rfl ?_
      exact ⟨_, rfl, ⟨_, _, rfl, ⟨_, AQ, cq, _, rfl, hq, HQ.out.2.1, HQ.out.2.2.1, (sgn_len (neg := true) HQ.out.2.1 HQ.out.1.dig).trans HQ.out.2.2.2⟩, ⟨false, AR, cr, _, rfl, hr, HS.out.2.1, HS.out.2.2.1, HS.out.2.2.2⟩⟩, hW⟩
end Go.Proofs.Ytmdfgidejdiiiaa
end
section
namespace Go.Proofs.Ytmdfgidejdiiiaa
open Go.RowKit
theorem OwG.keptT {b g : Nat} {w w' : World} {A : Option Addr} {n c : Nat} {l : List Int} {t : TypeId} (h : OwG b w (.slice A n c) l) (hg : w.grownBy w' (some g)) (ht : TyB w g t) (hn : t ≠ 77) : OwG b w' (.slice A n c) l :=
  ⟨h.1.kept hg (.inr fun e => by
    cases A with
    | none => cases e
    | some a =>
      have h1 := h.ty a rfl
      have h2 := h1.apart ht (Ne.symm hn)
      rcases h.1.2 with ⟨e2, -⟩ | ⟨g', cap, cur, e2, -⟩
      · injection e2 with e2; cases e2
      · injection e2 with e2
        injection e2 with e2
        subst e2
        have : g' = g := by injection e with e
        exact h2 this), h.2⟩
theorem IntO.keptT {b g : Nat} {w w' : World} {v : Value} {z : Int} {K : Nat} {t : TypeId} (h : IntO b w v z K) (hg : w.grownBy w' (some g)) (ht : TyB w g t) (hn : t ≠ 77) : IntO b w' v z K := by
  obtain ⟨ng, A, c, l, e, o, r⟩ := h
  exact ⟨ng, A, c, l, e, o.keptT hg ht hn, r⟩
theorem le_divR {a x q : Rat} (h : 0 < q) : a ≤ x / q ↔ a * q ≤ x := by
  rw [← Rat.not_lt, Rat.div_lt_iff h, Rat.not_lt]
theorem floor_frac {ng : Bool} {l r : List Int} (h : 0 < nv r) : (frac ng l r).floor = sgn ng (nv l) / nv r := by
  have hq := cast_lt h
  apply Int.le_antisymm
  · rw [Int.le_ediv_iff_mul_le h]
    have := Rat.floor_le (frac ng l r)
    unfold frac at this ⊢
    rw [le_divR hq, ← Rat.intCast_mul] at this
    exact Rat.intCast_le_intCast.1 this
  · rw [Rat.le_floor_iff]
    unfold frac
    rw [le_divR hq, ← Rat.intCast_mul]
    exact Rat.intCast_le_intCast.2 (Int.ediv_mul_le _ (by omega))
set_option maxRecDepth 100000 in
set_option maxHeartbeats 4000000 in
theorem rt_Floor (v : Value) (z : Rat) (K : Nat) (w : World) (h : RatA w v z K) (hK : 1 ≤ K) (h9 : K ≤ 1000000) : Calls Try.prog 44 #[v] w (RetI w z.floor (K + 1)) := by
  have CR : Hid (∀ w1, Below w.heap.size w w1 → Calls Try.prog 86 #[v] w1 (RetNumB w.heap.size w1 z K)) := Lib.hid fun w1 hb => rt_readB v z K w w1 h hb hK h9
  obtain ⟨neg, A, n, c, l, B, m, d, r, rfl, -⟩ := h
  obtain ⟨dsR, hR1, hR2⟩ := row_Rat
  have HR := Lib.hid (And.intro hR1 hR2)
  clear hR1 hR2
  obtain ⟨dI, hI1, hI2⟩ := row_Int
  have HI := Lib.hid (And.intro hI1 hI2)
  clear hI1 hI2
  go_enter Try.func44, Try.ntmps44
  go_upto_region 1 with fail
  have hB0 : Below w.heap.size w ((w.alloc (.cells #[.bool neg, .slice A n c, .slice B m d] 28)).alloc (.cells #[.bool false, .slice none 0 0] 26)) := (((Below.refl _ _).alloc (Nat.le_refl _) _).alloc (by simp; try omega) _)
  have bx0 : Box ((w.alloc (.cells #[.bool neg, .slice A n c, .slice B m d] 28)).alloc (.cells #[.bool false, .slice none 0 0] 26)) (w.heap.size) [.bool neg, .slice A n c, .slice B m d] := ((Box.new (by simp)).alloc _)
  have bx1 : Box ((w.alloc (.cells #[.bool neg, .slice A n c, .slice B m d] 28)).alloc (.cells #[.bool false, .slice none 0 0] 26)) (w.heap.size + 1) [.bool false, .slice none 0 0] := (Box.new (by simp))
  generalize (w.alloc (.cells #[.bool neg, .slice A n c, .slice B m d] 28)).alloc (.cells #[.bool false, .slice none 0 0] 26) = wA at hB0 bx0 bx1 ⊢
  have HA := Lib.hid (And.intro hB0 (And.intro bx0 bx1))
  clear hB0 bx0 bx1
  go_upto_region 2 with (first
    | ((with_reducible show wpList _ _ _ (Oper.mk _ (.load 28 _) _ _ _ _ :: _) _ _); refine wp_ld rfl 28 _ rfl (w.heap.size) 0 rfl HA.out.2.1 [.bool neg, .slice A n c, .slice B m d] (fun j v h => by rcases j with _ | _ | _ | j <;> simp at h ⊢ <;> exact h) dsR HR.out.1 HR.out.2 size_Rat ?_)
    | (go_at_call 86; (with_reducible refine (CR.out _ HA.out.1).mono ?_); rintro e1 w1 ⟨v1, rfl, hq, hb1⟩; have HB1 := Lib.hid hb1; obtain ⟨xs, XA, xn, xc, xl, XB, xm, xd, xr, xw, rfl, hx⟩ := hq; have HX := Lib.hid hx; clear hx hb1)
    | ((with_reducible show wpList _ _ _ (Oper.mk none (.store 113 _ _) _ _ _ _ :: _) _ _); refine wp_st rfl 113 _ _ rfl w1.heap.size 0 [.bool xs, .slice XA xn xc, .slice XB xm xd, .bool xw] rfl rfl size_Num rfl (Box.new rfl) (Nat.le_refl _) rfl ?_; intro w2 c2 q2))
  obtain ⟨g3, hg3⟩ : ∃ g, w1.heap.size = g := ⟨_, rfl⟩
  have hb12 : Below w1.heap.size w1 w2 := put_facts ((Below.refl _ _).alloc (Nat.le_refl _) _) (Nat.le_refl _) q2
  have HB2 := Lib.hid hb12
  have HXX : Hid ((DigB w.heap.size w2 XA xl ∧ xl.length = xn ∧ xn ≤ xc ∧ xn ≤ K) ∧ (DigB w.heap.size w2 XB xr ∧ xr.length = xm ∧ xm ≤ xd ∧ xm ≤ K) ∧ (0 < nv xr ∧ (xw = true → nv xr = 1)) ∧ z = frac xs xl xr) := Lib.hid ⟨⟨HX.out.1.1.grow hb12, HX.out.1.2⟩, ⟨HX.out.2.1.1.grow hb12, HX.out.2.1.2⟩, HX.out.2.2⟩
  rw [hg3] at c2 ⊢
  have HG : Hid (Box w2 g3 [.bool xs, .slice XA xn xc, .slice XB xm xd, .bool xw]) := Lib.hid c2
  have CD : Hid (∀ w5, Below w2.heap.size w2 w5 → Calls Try.prog 92 #[.agg #[.bool xs, .slice XA xn xc], .agg #[.bool false, .slice XB xm xd]] w5 (RetD w5 (sgn xs (nv xl) / nv xr) (sgn xs (nv xl) % nv xr) (K + 1) K)) := Lib.hid fun w5 h => it_DivA _ _ _ xr K K w.heap.size XB xm xd w5 ((IntB.mk HXX.out.1).grow h) ⟨HXX.out.2.1.1.grow h, HXX.out.2.1.2⟩ HXX.out.2.2.1.1 hK rfl h9 h9
  clear hb12 c2 q2 hg3 HX
  refine wp_region_grow7 (fun i => Nat.blt i 14) (fun j => j == 10 || j == 11) (fun w9 => Below w2.heap.size w2 w9) (gT [.v (.pointer (some ⟨g3, 0, none⟩)), .v (.pointer (some ⟨g3, 0, none⟩)), .v (.agg #[.bool xs, .slice XA xn xc]), .v (.pointer (some ⟨g3, 0, none⟩)), .v (.pointer (some ⟨g3, 2, none⟩)), .v (.slice XB xm xd), .v (.agg #[.bool false, .slice XB xm xd]), .two (sgn xs (nv xl) / nv xr) (sgn xs (nv xl) % nv xr) (K + 1) K, .two (sgn xs (nv xl) / nv xr) (sgn xs (nv xl) % nv xr) (K + 1) K, .int (sgn xs (nv xl) / nv xr) (K + 1), .int (sgn xs (nv xl) % nv xr) K, .v (.int .i64 0), .box 26 [.bool false, .slice none 0 0], .box 26 [.bool false, .slice none 0 0]]) (fun a b => Below a.heap.size a b) (dT w2.heap.size [.v (.pointer (some ⟨g3, 0, none⟩)), .v (.pointer (some ⟨g3, 0, none⟩)), .v (.agg #[.bool xs, .slice XA xn xc]), .v (.pointer (some ⟨g3, 0, none⟩)), .v (.pointer (some ⟨g3, 2, none⟩)), .v (.slice XB xm xd), .v (.agg #[.bool false, .slice XB xm xd]), .two (sgn xs (nv xl) / nv xr) (sgn xs (nv xl) % nv xr) (K + 1) K, .two (sgn xs (nv xl) / nv xr) (sgn xs (nv xl) % nv xr) (K + 1) K, .int (sgn xs (nv xl) / nv xr) (K + 1), .int (sgn xs (nv xl) % nv xr) K, .v (.int .i64 0), .box 26 [.bool false, .slice none 0 0], .box 26 [.bool false, .slice none 0 0]]) (by kernel_rfl) (by kernel_rfl) (Below.refl _ _).drew (fun j x a b h1 h2 => ⟨below_then h1 h2.1, fun i _ v => dT_keep h2.1 i v, Below.refl _ _, fun w0 h => below_then h h2.1⟩) (fun j v w h _ => ⟨Below.refl _ _, by rcases (by simpa using h : j = 10 ∨ j = 11) with rfl | rfl <;> exact nbx rfl⟩) ?_ (by
    intro j o ho _ hl vs w9 hp hF
    rcases (by simpa using hl : j = 10 ∨ j = 11) with rfl | rfl
    · injection ho with ho
      subst ho
      obtain ⟨u1, u2, e, hu1, hu2⟩ : TwoO w2.heap.size w9 (vs 8) (sgn xs (nv xl) / nv xr) (sgn xs (nv xl) % nv xr) (K + 1) K := hF 8 (by decide)
      exact ⟨u2, fun w' => by simp [execOp, stL, depsB, Region.binds, go_sem, Act.put, e], hu2⟩
    · injection ho with ho
      subst ho
      obtain ⟨u1, u2, e, hu1, hu2⟩ : TwoO w2.heap.size w9 (vs 8) (sgn xs (nv xl) / nv xr) (sgn xs (nv xl) % nv xr) (K + 1) K := hF 8 (by decide)
      exact ⟨.int .i64 0, fun w' => by simp [execOp, stL, depsB, Region.binds, go_sem, Act.put, e], rfl⟩) ?_
  · refine ⟨?_, ?_, ?_, ?_, ?_, ?_, ?_, ?_, ?_, ?_, ?_, ?_, ?_, ?_, trivial⟩
    all_goals
      intro vs w9 hp hF
      have HP := Lib.hid hp
      have y2 : w9.cell? ⟨g3, 2, none⟩ = some (.slice XB xm xd) := (HG.out.keep hp).2.1 2
      clear hp
      simp [depsB, Region.binds, dT] at hF
      simp [stL, depsB, Region.binds, Act.put, hF]
    · (go_wp2_with fail; exact ⟨rfl, Below.refl _ _, nbx rfl⟩)
    · (go_wp2_with fail; exact ⟨rfl, Below.refl _ _, nbx rfl⟩)
    · (obtain ⟨dI, hI1, hI2⟩ := row_Int; refine wp_ld rfl 26 _ rfl (g3) 0 rfl (HG.out.keep HP.out) [.bool xs, .slice XA xn xc] (fun j v h => by rcases j with _ | _ | _ | _ | j <;> simp at h ⊢ <;> exact h) dI hI1 hI2 size_Int ?_; go_wp2_with fail; exact ⟨rfl, Below.refl _ _, nbx rfl⟩)
    · (go_wp2_with fail; exact ⟨rfl, Below.refl _ _, nbx rfl⟩)
    · (go_wp2_with fail; exact ⟨rfl, Below.refl _ _, nbx rfl⟩)
    · (go_wp2_with fail; exact ⟨rfl, Below.refl _ _, nbx rfl⟩)
    · go_wp2_with (go_at_call 93; (with_reducible refine (rt_natural _ _ _ _).mono ?_); rintro e1 w1' ⟨rfl, hb1⟩)
      exact ⟨rfl, hb1, nbx rfl⟩
    · go_wp2_with (go_at_call 92; (with_reducible refine (CD.out _ HP.out).mono ?_); rintro e1 w1' ⟨v1, rfl, ho, hb1⟩)
      obtain ⟨u1, u2, rfl, hu1, hu2⟩ := ho
      exact ⟨⟨u1, u2, rfl, hu1.base HP.out.size, hu2.base HP.out.size⟩, hb1, nbx rfl⟩
    · obtain ⟨u1, u2, e, hu1, hu2⟩ := hF
      simp only [e]
      go_wp2_with fail
      exact ⟨⟨u1, u2, rfl, hu1, hu2⟩, Below.refl _ _, nbx rfl⟩
    · obtain ⟨u1, u2, e, hu1, hu2⟩ := hF
      simp only [e]
      go_wp2_with fail
      exact ⟨hu1, Below.refl _ _, nbx rfl⟩
    · obtain ⟨u1, u2, e, hu1, hu2⟩ := hF
      simp only [e]
      go_wp2_with fail
      exact ⟨hu2, Below.refl _ _, nbx rfl⟩
    · obtain ⟨u1, u2, e, hu1, hu2⟩ := hF
      simp only [e]
      go_wp2_with fail
      exact ⟨rfl, Below.refl _ _, nbx rfl⟩
    · (go_wp2_with fail; exact ⟨BoxO.new HP.out.size, (Below.refl _ _).alloc (Nat.le_refl _) _, fun _ => rfl⟩)
    · (go_wp2_with fail; exact ⟨BoxO.new HP.out.size, (Below.refl _ _).alloc (Nat.le_refl _) _, fun _ => rfl⟩)
  intro vs w9 hp hF hpr
  obtain ⟨qn, QA, qc, ql, e9, hq⟩ : IntO w2.heap.size w9 (vs 9) (sgn xs (nv xl) / nv xr) (K + 1) := hF 9 (by decide) rfl
  obtain ⟨rn, RA, rc, rl, e10, hr⟩ : IntO w2.heap.size w9 (vs 10) (sgn xs (nv xl) % nv xr) K := hF 10 (by decide) rfl
  have hq' : IntO w2.heap.size w9 (.agg #[.bool qn, .slice QA ql.length qc]) (sgn xs (nv xl) / nv xr) (K + 1) := ⟨_, _, _, _, rfl, hq⟩
  have e11 : vs 11 = .int .i64 0 := hF 11 (by decide) rfl
  obtain ⟨g4, e12, k4, b4, t4⟩ : BoxO w2.heap.size w9 (vs 12) 26 [.bool false, .slice none 0 0] := hF 12 (by decide) rfl
  obtain ⟨g5, e13, k5, b5, t5⟩ : BoxO w2.heap.size w9 (vs 13) 26 [.bool false, .slice none 0 0] := hF 13 (by decide) rfl
  have hne : g4 ≠ g5 := fun e => box_ne (i := 12) (j := 13) rfl rfl (hpr 12 13 (by decide) (by decide) rfl rfl (by decide)) (by rw [e12, e13, e])
  have hne' : some g5 ≠ some g4 := fun e => hne (by injection e with e; exact e.symm)
  clear hpr hF hq hr
  show wpList Try.prog _ _ [_, _, _] _ _
  simp [stL, Act.put, e9, e10, e11, e12, e13]
  refine wp_st rfl 26 _ _ rfl g4 0 [.bool qn, .slice QA ql.length qc] rfl rfl size_Int rfl b4 (Nat.le_refl _) rfl ?_
  intro W1 c1 q1
  have b5' := b5.grown q1 hne'
  simp only [Act.put]
  refine wp_st rfl 26 _ _ rfl g5 0 [.bool rn, .slice RA rl.length rc] rfl rfl size_Int rfl b5' (Nat.le_refl _) rfl ?_
  intro W2 c2 q2
  have t5' := t5.kept q1 (Ne.symm hne)
  have HQ := Lib.hid ((hq'.keptT q1 t4 (by decide)).keptT q2 t5' (by decide))
  have HC : Hid (Box W2 g4 [.bool qn, .slice QA ql.length qc]) := Lib.hid (c1.grown q2 (fun e => hne (by injection e)))
  have HB3 : Hid (Below w2.heap.size w2 W2) := Lib.hid (put_facts (put_facts hp k4 q1) k5 q2)
  clear hq' e9 e10 e11 e12 e13 k4 k5 b4 b5 b5' t4 t5 t5' q1 q2 c1 c2 hne hne' hp
  go_wp2_with (first
    | ((with_reducible show wpList _ _ _ (Oper.mk _ (.load 26 _) _ _ _ _ :: _) _ _); refine wp_ld rfl 26 _ rfl g4 0 rfl HC.out [.bool qn, .slice QA ql.length qc] (fun j v h => by rcases j with _ | _ | _ | j <;> simp at h ⊢ <;> exact h) dI HI.out.1 HI.out.2 size_Int ?_)
    | ((with_reducible show wpList _ _ _ (Oper.mk none (.store 26 (.tmp 2) _) _ _ _ _ :: _) _ _); refine wp_st rfl 26 _ _ rfl (w.heap.size + 1) 0 [_, _] rfl rfl size_Int rfl (((HA.out.2.2.keep HB1.out).keep HB2.out).keep HB3.out) (Nat.le_refl _) rfl ?_; intro W9 c9 g9))
  have hba := below_then (below_then HA.out.1 HB1.out) HB2.out
  have hW := put_facts (g := w.heap.size + 1) (below_then hba HB3.out) (by omega) g9
  have hl := HA.out.2.2.1
  have hlt : w.heap.size + 1 < w2.heap.size := Nat.lt_of_lt_of_le hl (below_then HB1.out HB2.out).size
  have hq := (HQ.out.away g9 hlt).base (b' := w.heap.size) hba.size
  refine bodyPost_ret (resC rfl _ _ W9 (g := w.heap.size + 1) rfl (res_box 26 c9 dI HI.out.1 HI.out.2 size_Int)) rfl ?_
  refine ⟨_, rfl, ?_, hW⟩
  rw [HXX.out.2.2.2, floor_frac HXX.out.2.2.1.1]
  exact hq
end Go.Proofs.Ytmdfgidejdiiiaa
end
