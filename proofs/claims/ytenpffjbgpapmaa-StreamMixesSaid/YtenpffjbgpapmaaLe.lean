/- The walks of FixedSaturatesNearest and FixedDots. -/
import Derived.Test.YtenpffjbgpapmaaLc
namespace Go.Proofs.Ytenpffjbgpapmaa
open Go.RowKit

theorem wordF_in {b f r o : Int} (x : Int) : lowW b f r o ≤ wordF b f r o x ∧ wordF b f r o x ≤ highW b f r o := by
  obtain ⟨q1, q2, q3, q4⟩ := low_high b f r o
  obtain ⟨g1, g2⟩ := within_in (m := highW b f r o - lowW b f r o + 1) (by omega) (wrap64 (x - lowW b f r o))
  unfold wordF
  omega

theorem Ints.one {w : World} {y : Int} {t : TypeId} (hy : I64 y) : Ints (w.alloc (.cells #[.int .i64 y] t)) (some ⟨w.heap.size, 0, none⟩) [y] := by
  refine ⟨fun k v hk => ?_, by intro x hx; simp at hx; subst hx; exact hy⟩
  match k, hk with
  | 0, hk => simp at hk; subst hk; exact ⟨_, rfl, by simp, by simp [go_sem, Addr.add]⟩
theorem wd_Words1 (b f r o : Int) (A : Option Addr) (y : Int) (c : Nat) (w : World) (h : Ints w A [y]) :
    Calls Try.prog 25 #[wordV b f r o, .slice A 1 c, .int .i64 1] w fun e w' => ∃ v, e = .returned v ∧ Own w.heap.size w' v [wordF b f r o y] ∧ Below w.heap.size w w' :=
  (wd_Words b f r o A [y] c 1 w (by decide) h).mono fun e w' ⟨v, h1, h2, h3⟩ => ⟨v, h1, h2, h3⟩

set_option maxRecDepth 100000 in
set_option maxHeartbeats 1000000 in
theorem law_FixedSaturatesNearest (k v0 other : Int) (w : World) (_ : I64 k) (_ : I64 v0) (ho : I64 other) :
    Calls Try.prog 9 #[.int .i64 k, .int .i64 v0, .int .i64 other] w fun e w' => e = .returned (.bool true) ∧ Below w.heap.size w w' := by
  obtain ⟨T, e1, _, t1, t2⟩ := tmod_facts v0 (P := 1099511627776) (by decide)
  have hok := mkWF_ok k
  obtain ⟨⟨b, f, r, o⟩, hu⟩ : ∃ u, mkW k 4 24 0 = u := ⟨_, rfl⟩
  rw [hu] at hok
  dsimp only at hok
  obtain ⟨q1, q2, q3, q4⟩ := low_high b f r o
  obtain ⟨p1, p2⟩ := wordF_in (b := b) (f := f) (r := r) (o := o) other
  have hS : satW b f r o T = min (max T (lowW b f r o)) (highW b f r o) := rfl
  obtain ⟨S, hS'⟩ : ∃ S, satW b f r o T = S := ⟨_, rfl⟩
  rw [hS'] at hS
  have hf1 : fitsW b f r o S = true := by unfold fitsW; rw [hok]; exact inB_iff.2 (by omega)
  have hf2 : fitsW b f r o T = true → S = T := fun h => by
    unfold fitsW at h; rw [hok] at h; have := inB_iff.1 h; omega
  obtain ⟨y, hy⟩ : ∃ y, wordF b f r o other = y := ⟨_, rfl⟩
  rw [hy] at p1 p2
  have hSr : -8388608 ≤ S ∧ S ≤ 8388607 := by omega
  have hyr : -8388608 ≤ y ∧ y ≤ 8388607 := by omega
  have near : (S - T ≤ y - T ∨ S - T ≤ T - y) ∧ (T - S ≤ y - T ∨ T - S ≤ T - y) := by omega
  have HF2 := Lib.hid hf2
  have HY := Lib.hid hy
  have HOK := Lib.hid hok
  clear hS hf2 q1 q2 q3 q4 p1 p2 hok hy
  go_enter Try.func9, Try.ntmps9
  go_wp2_with fail
  refine (wd_WordF _ _).mono ?_
  rintro e w1 ⟨rfl, hb1⟩
  rw [hu]
  have hz1 := hb1.size
  obtain ⟨hc1, hf1'⟩ := bcell hb1
  go_wp2_with fail
  refine (fx_Saturate _ _ _ _ _ _).mono ?_
  rintro e w2 ⟨rfl, hb2⟩
  have hbx2 : Below (w1.heap.size + 1) _ w2 := hb2.mono (by simp)
  have hs2 : w1.heap.size + 1 ≤ w2.heap.size := by have := hb2.size; simp at this; omega
  obtain ⟨c0, c1, c2, c3⟩ := box4_S hbx2
  clear hb2
  go_wp2_with fail
  refine (wd_Words1 _ _ _ _ _ _ _ _ (Ints.one ho)).mono ?_
  rintro e w3 ⟨v, rfl, hown, hb3⟩
  rw [HY.out] at hown
  obtain ⟨A, c, rfl, hc', hI⟩ := hown.form
  obtain ⟨ad, x, rfl, hba, hx, hcx, _, _⟩ := hI.at_ (k := 0) (by simp)
  simp at hx
  subst hx
  have hb3' : Below w2.heap.size w2 w3 := ((Below.refl _ _).alloc (Nat.le_refl _) _).trans (hb3.mono (by simp))
  have hbx3 := hbx2.trans (hb3'.mono hs2)
  have hs3 := Nat.le_trans hs2 hb3'.size
  obtain ⟨d0, d1, d2, d3⟩ := box4_S hbx3
  have hcx' : w3.cell? ad = some (.int .i64 y) := hcx
  have hb0 : Below w.heap.size w w3 := hb1.trans ((below_box hbx3).mono hz1)
  have hb4 : Below w3.heap.size w3 w3 := Below.refl _ _
  clear c0 c1 c2 c3 hb3 hown hI hc' hb3' hcx hbx3 hbx2
  simp only [List.length_cons, List.length_nil, Nat.zero_add]
  have fact4 : ∀ w' : World, Below w3.heap.size w3 w' → w'.cell? ⟨w1.heap.size, 0, none⟩ = some (.int .i64 b) ∧ w'.cell? ⟨w1.heap.size, 1, none⟩ = some (.int .i64 f) ∧ w'.cell? ⟨w1.heap.size, 2, none⟩ = some (.int .i64 r) ∧ w'.cell? ⟨w1.heap.size, 3, none⟩ = some (.int .i64 o) := fun w' hb =>
    ⟨(hb.cell (by show w1.heap.size < _; omega)).trans d0, (hb.cell (by show w1.heap.size < _; omega)).trans d1, (hb.cell (by show w1.heap.size < _; omega)).trans d2, (hb.cell (by show w1.heap.size < _; omega)).trans d3⟩
  have F4 := Lib.hid fact4
  clear fact4
  rcases Bool.eq_false_or_eq_true (fitsW b f r o T) with hfit | hfit
  · obtain rfl : S = T := HF2.out hfit
    go_wp2_with (first
      | (go_at_call 15; refine (known21 _).mono ?_; rintro e w4 ⟨rfl, hb5⟩; have hb4 := below_then hb4 hb5; obtain ⟨x0, x1, x2, x3⟩ := F4.out _ hb4)
      | (go_at_call 26; refine (fx_Fits _ _ _ _ _ _).mono ?_; rintro e w4 ⟨rfl, hb5⟩; have hb4 := below_then hb4 hb5; obtain ⟨x0, x1, x2, x3⟩ := F4.out _ hb4))
    all_goals go_ret
    all_goals exact ⟨ret_bool (by first | rfl | (simp; omega)), hb0.trans (hb4.mono hb0.size)⟩
  · go_wp2_with (first
      | (go_at_call 15; refine (known21 _).mono ?_; rintro e w4 ⟨rfl, hb5⟩; have hb4 := below_then hb4 hb5; obtain ⟨x0, x1, x2, x3⟩ := F4.out _ hb4)
      | (go_at_call 26; refine (fx_Fits _ _ _ _ _ _).mono ?_; rintro e w4 ⟨rfl, hb5⟩; have hb4 := below_then hb4 hb5; obtain ⟨x0, x1, x2, x3⟩ := F4.out _ hb4))
    all_goals go_ret
    all_goals exact ⟨ret_bool (by first | rfl | (simp; omega)), hb0.trans (hb4.mono hb0.size)⟩
theorem belowF_in {bound : Int} (h0 : 0 ≤ bound) (l : List Int) (k : Nat) : ∀ x ∈ belowF bound l k, -bound ≤ x ∧ x ≤ bound := by
  intro x hx
  unfold belowF at hx
  obtain ⟨i, _, rfl⟩ := List.mem_map.1 hx
  obtain ⟨g1, g2⟩ := within_in (m := 2 * bound + 1) (by omega) (wrap64 (atF l i + bound))
  omega
/-- The sums of elements with the same index. -/
def sumF (q r : List Int) (k : Nat) : List Int := (List.range k).map fun (i : Nat) => q[i]?.getD 0 + r[i]?.getD 0
theorem sumF_succ (q r : List Int) (k : Nat) : sumF q r (k + 1) = sumF q r k ++ [q[k]?.getD 0 + r[k]?.getD 0] := by simp [sumF, List.range_succ]
theorem sumF_length (q r : List Int) (k : Nat) : (sumF q r k).length = k := by simp [sumF]
theorem small_of {l : List Int} (h : ∀ x ∈ l, -16777216 ≤ x ∧ x ≤ 16777216) : smallB l 24 = true := by
  unfold smallB
  rw [List.all_eq_true]
  intro x hx
  rw [show (2 : Int) ^ 24 = 16777216 by decide]
  exact inB_iff.2 (h x hx)
theorem getD_of_mem {l : List Int} {B : Int} (hB : 0 ≤ B) (h : ∀ x ∈ l, -B ≤ x ∧ x ≤ B) (k : Nat) : -B ≤ l[k]?.getD 0 ∧ l[k]?.getD 0 ≤ B := by
  cases hx : l[k]? with
  | none => simp; omega
  | some x => exact h x (List.mem_of_getElem? hx)
/-- Dot is linear in its second list, for short lists of small numbers. -/
theorem dots_law {p q r : List Int} {k : Nat} (hk : k ≤ 64) (hp : p.length = k) (hq : q.length = k) (hr : r.length = k) (bp : ∀ x ∈ p, -1048576 ≤ x ∧ x ≤ 1048576) (bq : ∀ x ∈ q, -1048576 ≤ x ∧ x ≤ 1048576) (br : ∀ x ∈ r, -1048576 ≤ x ∧ x ≤ 1048576) :
    ∃ X Y : Int, dotE p (sumF q r k) = 0 ∧ dotE p q = 0 ∧ dotE p r = 0 ∧ dotV p (sumF q r k) = X + Y ∧ dotV p q = X ∧ dotV p r = Y ∧ (-18014398509481984 ≤ X ∧ X ≤ 18014398509481984) ∧ (-18014398509481984 ≤ Y ∧ Y ≤ 18014398509481984) := by
  have sp := small_of (l := p) fun x hx => by have := bp x hx; omega
  have sq := small_of (l := q) fun x hx => by have := bq x hx; omega
  have sr := small_of (l := r) fun x hx => by have := br x hx; omega
  have ss := small_of (l := sumF q r k) fun x hx => by
    unfold sumF at hx
    obtain ⟨i, _, rfl⟩ := List.mem_map.1 hx
    have := getD_of_mem (by decide) bq i
    have := getD_of_mem (by decide) br i
    omega
  have d1 := dot_of (c := p) (x := sumF q r k) (by rw [sumF_length, hp]) (by omega) true (by rw [sp, ss]; rfl)
  have d2 := dot_of (c := p) (x := q) (by omega) (by omega) true (by rw [sp, sq]; rfl)
  have d3 := dot_of (c := p) (x := r) (by omega) (by omega) true (by rw [sp, sr]; rfl)
  simp only [if_true] at d1 d2 d3
  have hs : dotN p (sumF q r k) p.length = dotN p q p.length + dotN p r p.length := by
    refine dotN_add (sumF q r k) (fun j => ?_) p.length
    rcases Nat.lt_or_ge j k with h | h
    · simp [sumF, h]
    · rw [List.getElem?_eq_none (by rw [sumF_length]; exact h), List.getElem?_eq_none (by omega), List.getElem?_eq_none (by omega)]; rfl
  have b1 := dotN_bound sp sq p.length
  have b2 := dotN_bound sp sr p.length
  exact ⟨_, _, d1.2, d2.2, d3.2, d1.1.trans hs, d2.1, d3.1, by omega, by omega⟩

theorem cell_lt' {w : World} {a : Addr} {v : Value} (h : w.cell? a = some v) : a.block < w.heap.size := by
  rcases Nat.lt_or_ge a.block w.heap.size with hl | hl
  · exact hl
  · unfold World.cell? at h; rw [Array.getElem?_eq_none hl] at h; cases h

theorem fx_Dot_n {A B : Option Addr} {c x : List Int} {n m p q : Nat} {w : World} (h : Ints w A c) (g : Ints w B x) (hn : c.length = n) (hm : x.length = m) (h1 : n ≤ 1000000) (h2 : m ≤ 1000000) :
    Calls Try.prog 20 #[.slice A n p, .slice B m q] w fun e w' => e = .returned (.tuple #[.int .i64 (dotV c x), .int .i64 (dotE c x)]) ∧ w = w' := by
  subst hn; subst hm; exact fx_Dot A B c x p q w h1 h2 h g
set_option maxRecDepth 100000 in
set_option maxHeartbeats 1000000 in
theorem law_FixedDots (u1 u2 u3 : Option Addr × Nat × List Int) (w : World) (h1 : Ints w u1.1 u1.2.2 ∧ u1.2.2.length ≤ 9223372036854775807) (h2 : Ints w u2.1 u2.2.2 ∧ u2.2.2.length ≤ 9223372036854775807) (h3 : Ints w u3.1 u3.2.2 ∧ u3.2.2.length ≤ 9223372036854775807) :
    Calls Try.prog 8 #[.slice u1.1 u1.2.2.length u1.2.1, .slice u2.1 u2.2.2.length u2.2.1, .slice u3.1 u3.2.2.length u3.2.1] w fun e w' => e = .returned (.bool true) ∧ Below w.heap.size w w' := by
  obtain ⟨A, c1, l⟩ := u1
  obtain ⟨B, c2, m⟩ := u2
  obtain ⟨C, c3, n⟩ := u3
  obtain ⟨h1, z1⟩ := h1
  obtain ⟨h2, z2⟩ := h2
  obtain ⟨h3, z3⟩ := h3
  dsimp only at *
  by_cases hlen : l.length ≤ 100 ∧ m.length ≤ 100
  · obtain ⟨s1, s2⟩ := hlen
    obtain ⟨k, hk⟩ : ∃ k, min l.length 64 = k := ⟨_, rfl⟩
    have hk64 : k ≤ 64 := by omega
    have hmin : (if (64 : Int) < l.length then (64 : Int) else l.length) = (k : Int) := by split <;> omega
    go_enter Try.func8, Try.ntmps8
    go_wp2_with fail
    refine (fx_Dot _ _ _ _ _ _ _ (by omega) (by omega) h1 h2).mono ?_
    rintro e w' ⟨rfl, rfl⟩
    go_wp2_with fail
    refine (rf_Dot _ _ _ _ _ _ _ (by omega) (by omega) h1 h2).mono ?_
    rintro e w1 ⟨rfl, hb1⟩
    go_wp2_with fail
    refine (wd_Below _ _ _ _ _ _ (by decide) (by decide) (by omega) (h1.grow hb1)).mono ?_
    rintro e w2 ⟨v, rfl, own1, hb2⟩
    have hbA := below_then hb1 hb2
    go_wp2_with fail
    refine (wd_Below _ _ _ _ _ _ (by decide) (by decide) (by omega) (h2.grow hbA)).mono ?_
    rintro e w3 ⟨v2, rfl, own2, hb3⟩
    have hbB := below_then hbA hb3
    go_wp2_with fail
    refine (wd_Below _ _ _ _ _ _ (by decide) (by decide) (by omega) (h3.grow hbB)).mono ?_
    rintro e w4 ⟨v3, rfl, own3, hb4⟩
    have hbC := below_then hbB hb4
    have own1' := (own1.grow hb3).grow hb4
    have own2' := own2.grow hb4
    obtain ⟨X, Y, e1, e2, e3, e4, e5, e6, b1, b2⟩ := dots_law (k := k) hk64 (belowF_length 1048576 l k) (belowF_length 1048576 m k) (belowF_length 1048576 n k) (belowF_in (by decide) l k) (belowF_in (by decide) m k) (belowF_in (by decide) n k)
    have bq := belowF_in (bound := 1048576) (by decide) m k
    have br := belowF_in (bound := 1048576) (by decide) n k
    have lp := belowF_length 1048576 l k
    have lq := belowF_length 1048576 m k
    have lr := belowF_length 1048576 n k
    obtain ⟨p, hp⟩ : ∃ p, belowF 1048576 l k = p := ⟨_, rfl⟩
    obtain ⟨q, hq⟩ : ∃ q, belowF 1048576 m k = q := ⟨_, rfl⟩
    obtain ⟨r, hr⟩ : ∃ r, belowF 1048576 n k = r := ⟨_, rfl⟩
    rw [hp] at own1' e1 e2 e3 e4 e5 e6 lp
    rw [hq] at own2' e1 e2 e4 e5 bq lq
    rw [hr] at own3 e1 e3 e4 e6 br lr
    obtain ⟨P1, cp, rfl, _, Ip⟩ := own1'.form
    obtain ⟨P2, cq, rfl, _, Iq⟩ := own2'.form
    obtain ⟨P3, cr, rfl, _, Ir⟩ := own3.form
    clear own1 own2 own1' own2' own3 hb2 hb3 hb4 hbA hbB hp hq hr h1 h2 h3 hb1
    go_wp2_with fail
    go_loopw [15, 16] (fun v i wr => ∃ j : Nat, j ≤ k ∧ i = .int .i64 j ∧ Own w4.heap.size wr v (sumF q r j) ∧ Below w4.heap.size w4 wr) (fun _ i _ => k - (intOf i).toNat)
    case atStart => exact ⟨0, Nat.zero_le _, rfl, Own.nil, Below.refl _ _⟩
    case round =>
      obtain ⟨j, hj, rfl, hown, hbw⟩ := hrel
      by_cases hlt : j < k
      · obtain ⟨ad, x, rfl, ba, hx, ca, _, _⟩ := Iq.at_ (k := j) (by omega)
        obtain ⟨ad2, y, rfl, ba2, hy, ca2, _, _⟩ := Ir.at_ (k := j) (by omega)
        have rx := bq x (List.mem_of_getElem? hx)
        have ry := br y (List.mem_of_getElem? hy)
        have q1 : wr.drew.cell? (ad.add j) = some (.int .i64 x) := (hbw.cell (by rw [block_add]; exact ba)).trans ca
        have q2 : wr.drew.cell? (ad2.add j) = some (.int .i64 y) := (hbw.cell (by rw [block_add]; exact ba2)).trans ca2
        have bk1 : (ad.add j).block < w4.heap.size := by rw [block_add]; exact ba
        have bk2 : (ad2.add j).block < w4.heap.size := by rw [block_add]; exact ba2
        have bz1 : (ad.add j).block < wr.drew.heap.size := cell_lt' q1
        have bz2 : (ad2.add j).block < wr.drew.heap.size := cell_lt' q2
        have HS : Hid (sumF q r (j + 1) = sumF q r j ++ [x + y]) := by rw [sumF_succ, hx, hy]; exact rfl
        have hlen' : (sumF q r j).length < 100000000 := by rw [sumF_length]; omega
        have hown2 : Own w4.heap.size wr.drew _ _ := hown
        have hbw2 := hbw.drew
        have hsz : w4.heap.size ≤ wr.drew.heap.size := hbw2.size
        have hI : I64 (x + y) := ⟨by omega, by omega⟩
        have e7 : IntKind.i64.wrap (x + y) = x + y := IntWalk.i64_in _ (by omega)
        clear hown hbw hx hy ca ca2 bq br Ip Iq Ir e1 e2 e3 e4 e5 e6 hmin
        go_wp2_with fail
        go_region_held3 (fun w' => (w'.cell? (ad.add j) = some (.int .i64 x) ∧ w'.cell? (ad2.add j) = some (.int .i64 y)))
          (first | exact ⟨by assumption, by assumption⟩ | exact ⟨(World.cell?_alloc_lt _ _ _ bz1).trans q1, (World.cell?_alloc_lt _ _ _ bz2).trans q2⟩ | exact ⟨(hbel1.cell bk1).trans q1, (hbel1.cell bk2).trans q2⟩)
          (first
            | ((with_reducible refine step_app_int wr.drew rfl (.tmp 61) (.tmp 71) rfl w4.heap.size hown2 ?_ ?_ ?_ hlen' hsz hI ?_); (exact rfl); (exact rfl); (exact rfl); intro v1 w5 hown3 hbel1; have hbw3 := hbw2.trans hbel1))
        clear e7
        go_wp2
        go_roundw
        case rel => exact ⟨j + 1, by omega, by go_num, by rw [HS.out]; exact hown3, hbw3⟩
        case measure => simp [intOf]; omega
      · obtain rfl : j = k := by omega
        obtain ⟨P4, cs, rfl, _, Is⟩ := hown.form
        have ls := sumF_length q r j
        rw [ls]
        have hbC2 := hbC.trans (hbw.mono hbC.size)
        have Ip2 := Ip.grow hbw
        have Iq2 := Iq.grow hbw
        have Ir2 := Ir.grow hbw
        clear bq br Ip Iq Ir hown hmin
        go_wp2_with fail
        refine (fx_Dot_n Ip2 Is lp ls (by omega) (by omega)).mono ?_
        rintro e w5 ⟨rfl, rfl⟩
        rw [e1, e4]
        go_wp2_with fail
        refine (fx_Dot_n Ip2 Iq2 lp lq (by omega) (by omega)).mono ?_
        rintro e w5 ⟨rfl, rfl⟩
        rw [e2, e5]
        go_wp2_with fail
        refine (fx_Dot_n Ip2 Ir2 lp lr (by omega) (by omega)).mono ?_
        rintro e w5 ⟨rfl, rfl⟩
        rw [e3, e6]
        go_wp2_with (go_at_call 15; refine (known21 _).mono ?_; rintro e w6 ⟨rfl, hb6⟩)
        go_ret
        exact ⟨rfl, below_then hbC2 hb6⟩
  · have hno : 100 < l.length ∨ 100 < m.length := by omega
    clear hlen
    rcases hno with hno | hno
    all_goals
      go_enter Try.func8, Try.ntmps8
      go_wp2_with (go_at_call 15; refine (known21 _).mono ?_; rintro e w6 ⟨rfl, hb6⟩)
      all_goals go_ret
      all_goals exact ⟨rfl, hb6⟩
end Go.Proofs.Ytenpffjbgpapmaa
