/- Several texts in one: D Lb Lc Le Lm. -/
import Derived.Test.YtgabfdappeakiaaPr
section
/- Plain facts on sums of products, and on wrapping a sum. No program in sight. -/
set_option linter.unusedVariables false
set_option linter.unusedSimpArgs false
namespace Go.Proofs.Ytgabfdappeakiaa
open Go.RowKit

/-- The sum of the first k products. -/
def dotN (c x : List Int) : Nat → Int
  | 0 => 0
  | k + 1 => dotN c x k + (c[k]?.getD 0) * (x[k]?.getD 0)
def dotV (c x : List Int) : Int := if c.length ≠ x.length then 0 else if 64 < c.length then 0 else if (smallB c 24 && smallB x 24) = true then dotN c x c.length else 0
def dotE (c x : List Int) : Int := if c.length ≠ x.length then 1 else if 64 < c.length then 4 else if (smallB c 24 && smallB x 24) = true then 0 else 17

theorem small_at {l : List Int} {n : Nat} (h : smallB l n = true) (k : Nat) : -2 ^ n ≤ l[k]?.getD 0 ∧ l[k]?.getD 0 ≤ 2 ^ n := by
  cases hx : l[k]? with
  | none => have := pow_pos' n; exact ⟨by simp; omega, by simp; omega⟩
  | some x => exact inB_iff.1 (List.all_eq_true.1 h x (List.mem_of_getElem? hx))

theorem dotN_bound {c x : List Int} (hc : smallB c 24 = true) (hx : smallB x 24 = true) (k : Nat) : -(k * 281474976710656) ≤ dotN c x k ∧ dotN c x k ≤ k * 281474976710656 := by
  induction k with
  | zero => simp [dotN]
  | succ k ih =>
    have h24 : (2 : Int) ^ 24 = 16777216 := by decide
    have h1 := small_at hc k
    have h2 := small_at hx k
    rw [h24] at h1 h2
    obtain ⟨m1, m2⟩ := mul_bound h1 h2
    simp only [dotN]
    omega

/-- Wrapping a wrapped number plus another one is wrapping the sum. -/
theorem wrap_add {b : Int} (h1 : 1 ≤ b) (h2 : b ≤ 62) (s d : Int) : wrapF b (wrapF b s + d) = wrapF b (s + d) := by
  have hi : inB b 1 62 = true := inB_iff.2 ⟨h1, h2⟩
  unfold wrapF
  simp only [hi, if_true]
  exact Int.bmod_add_bmod
theorem wrap_of_in {b s : Int} (h1 : 1 ≤ b) (h2 : b ≤ 62) (h3 : -2 ^ (b - 1).toNat ≤ s) (h4 : s < 2 ^ (b - 1).toNat) : wrapF b s = s := by
  obtain ⟨P, H, M, e1, e2, _, _, _, ⟨p1, p2⟩, ⟨m1, m2⟩, em, ew⟩ := wrap_facts h1 h2 s
  rw [w64_pow (by omega)] at e1 e2
  rw [show (b - 1).toNat = b.toNat - 1 by omega, e2] at h3 h4
  rw [ew]
  rcases Int.lt_or_le s 0 with hn | hn
  · have : s % P = s + P := by
      rw [← Int.add_emod_right s P, Int.emod_eq_of_lt (by omega) (by omega)]
    rw [if_neg (by omega)]; omega
  · have : s % P = s := Int.emod_eq_of_lt hn (by omega)
    rw [if_pos (by omega)]; omega
theorem wrap_zero {b : Int} (h1 : 1 ≤ b) (h2 : b ≤ 62) : wrapF b 0 = 0 :=
  wrap_of_in h1 h2 (by have := pow_pos' (b - 1).toNat; omega) (by have := pow_pos' (b - 1).toNat; omega)
theorem wrap_range {b : Int} (h1 : 1 ≤ b) (h2 : b ≤ 62) (s : Int) : -2 ^ (b - 1).toNat ≤ wrapF b s ∧ wrapF b s < 2 ^ (b - 1).toNat := by
  obtain ⟨P, H, M, e1, e2, _, _, _, ⟨p1, p2⟩, ⟨m1, m2⟩, em, ew⟩ := wrap_facts h1 h2 s
  rw [w64_pow (by omega)] at e1 e2
  rw [show (b - 1).toNat = b.toNat - 1 by omega, e2, ew]
  split <;> omega

theorem dotN_add {p q r : List Int} (s : List Int) (h : ∀ k : Nat, s[k]?.getD 0 = q[k]?.getD 0 + r[k]?.getD 0) (k : Nat) : dotN p s k = dotN p q k + dotN p r k := by
  induction k with
  | zero => rfl
  | succ k ih => simp only [dotN, ih, h, Int.mul_add]; omega

theorem dotN_congr {c x c' x' : List Int} {k : Nat} (h : ∀ j : Nat, j < k → c[j]?.getD 0 = c'[j]?.getD 0 ∧ x[j]?.getD 0 = x'[j]?.getD 0) : dotN c x k = dotN c' x' k := by
  induction k with
  | zero => rfl
  | succ k ih => simp only [dotN, ih (fun j hj => h j (by omega)), (h k (by omega)).1, (h k (by omega)).2]
theorem dotN_take {c x : List Int} {k : Nat} (hc : smallB (c.take k) 24 = true) (hx : smallB (x.take k) 24 = true) (hk : k ≤ 64) : -18014398509481984 ≤ dotN c x k ∧ dotN c x k ≤ 18014398509481984 := by
  have h1 := dotN_bound hc hx k
  have h2 : dotN (c.take k) (x.take k) k = dotN c x k := dotN_congr fun j hj => by simp [hj]
  rw [h2] at h1
  omega
theorem dot_of {c x : List Int} (hl : c.length = x.length) (h64 : c.length ≤ 64) (s : Bool) (hs : (smallB c 24 && smallB x 24) = s) :
    dotV c x = (if s = true then dotN c x c.length else 0) ∧ dotE c x = (if s = true then 0 else 17) := by
  unfold dotV dotE
  have n64 : ¬ 64 < c.length := by omega
  have nl : ¬ c.length ≠ x.length := not_not_intro hl
  simp only [if_neg n64, if_neg nl, hs, and_self]
end Go.Proofs.Ytgabfdappeakiaa
end
section
/- The walks of Dot and of the statements about layer 21 that take lists. -/
set_option linter.unusedVariables false
set_option linter.unusedSimpArgs false
namespace Go.Proofs.Ytgabfdappeakiaa
open Go.RowKit

/-- y is from -2^24 to 2^24. -/
def fac (y : Int) : Bool := inB y (-2 ^ 24) (2 ^ 24)
theorem fac_iff {y : Int} : fac y = true ↔ -16777216 ≤ y ∧ y ≤ 16777216 := by
  unfold fac; rw [show (2 : Int) ^ 24 = 16777216 by decide]; exact inB_iff

end Go.Proofs.Ytgabfdappeakiaa
end
section
/- The walks of FixedWrapsSums, FixedSaturatesNearest, FixedDots. -/
set_option linter.unusedVariables false
set_option linter.unusedSimpArgs false
namespace Go.Proofs.Ytgabfdappeakiaa
open Go.RowKit

theorem rf_Small24 (A : Option Addr) (l : List Int) (c : Nat) (w : World) (hl : l.length ≤ 9223372036854775807) (h : Ints w A l) :
    Calls Try.prog 50 #[.slice A l.length c, .int .i64 24] w fun e w' => e = .returned (.bool (smallB l 24)) ∧ w = w' := rf_Small A l c 24 w (by decide) hl h
end Go.Proofs.Ytgabfdappeakiaa
end
section
/- The walks of FixedSaturatesNearest and FixedDots. -/
set_option linter.unusedVariables false
set_option linter.unusedSimpArgs false
namespace Go.Proofs.Ytgabfdappeakiaa
open Go.RowKit

theorem wordF_in {b f r o : Int} (x : Int) : lowW b f r o ≤ wordF b f r o x ∧ wordF b f r o x ≤ highW b f r o := by
  obtain ⟨q1, q2, q3, q4⟩ := low_high b f r o
  obtain ⟨g1, g2⟩ := within_in (m := highW b f r o - lowW b f r o + 1) (by omega) (wrap64 (x - lowW b f r o))
  unfold wordF
  omega

theorem Ints.one {w : World} {y : Int} {t : TypeId} (hy : I64 y) : Ints (w.alloc (.cells #[.int .i64 y] t)) (some ⟨w.heap.size, 0, none⟩) [y] := by
  refine ⟨fun k v hk => ?_, by intro x hx; simp at hx; subst hx; exact hy⟩
  match k, hk with
  | 0, hk => simp at hk; subst hk; exact ⟨_, rfl, by simp, by simp [go_sem, Addr.add]⟩
theorem wd_Words1 (b f r o : Int) (A : Option Addr) (y : Int) (c : Nat) (w : World) (h : Ints w A [y]) :
    Calls Try.prog 20 #[wordV b f r o, .slice A 1 c, .int .i64 1] w fun e w' => ∃ v, e = .returned v ∧ Own w.heap.size w' v [wordF b f r o y] ∧ Below w.heap.size w w' :=
  (wd_Words b f r o A [y] c 1 w (by decide) h).mono fun e w' ⟨v, h1, h2, h3⟩ => ⟨v, h1, h2, h3⟩

theorem belowF_in {bound : Int} (h0 : 0 ≤ bound) (l : List Int) (k : Nat) : ∀ x ∈ belowF bound l k, -bound ≤ x ∧ x ≤ bound := by
  intro x hx
  unfold belowF at hx
  obtain ⟨i, _, rfl⟩ := List.mem_map.1 hx
  obtain ⟨g1, g2⟩ := within_in (m := 2 * bound + 1) (by omega) (wrap64 (atF l i + bound))
  omega
/-- The sums of elements with the same index. -/
def sumF (q r : List Int) (k : Nat) : List Int := (List.range k).map fun (i : Nat) => q[i]?.getD 0 + r[i]?.getD 0
theorem sumF_succ (q r : List Int) (k : Nat) : sumF q r (k + 1) = sumF q r k ++ [q[k]?.getD 0 + r[k]?.getD 0] := by simp [sumF, List.range_succ]
theorem sumF_length (q r : List Int) (k : Nat) : (sumF q r k).length = k := by simp [sumF]
theorem small_of {l : List Int} (h : ∀ x ∈ l, -16777216 ≤ x ∧ x ≤ 16777216) : smallB l 24 = true := by
  unfold smallB
  rw [List.all_eq_true]
  intro x hx
  rw [show (2 : Int) ^ 24 = 16777216 by decide]
  exact inB_iff.2 (h x hx)
theorem getD_of_mem {l : List Int} {B : Int} (hB : 0 ≤ B) (h : ∀ x ∈ l, -B ≤ x ∧ x ≤ B) (k : Nat) : -B ≤ l[k]?.getD 0 ∧ l[k]?.getD 0 ≤ B := by
  cases hx : l[k]? with
  | none => simp; omega
  | some x => exact h x (List.mem_of_getElem? hx)
/-- Dot is linear in its second list, for short lists of small numbers. -/
theorem dots_law {p q r : List Int} {k : Nat} (hk : k ≤ 64) (hp : p.length = k) (hq : q.length = k) (hr : r.length = k) (bp : ∀ x ∈ p, -1048576 ≤ x ∧ x ≤ 1048576) (bq : ∀ x ∈ q, -1048576 ≤ x ∧ x ≤ 1048576) (br : ∀ x ∈ r, -1048576 ≤ x ∧ x ≤ 1048576) :
    ∃ X Y : Int, dotE p (sumF q r k) = 0 ∧ dotE p q = 0 ∧ dotE p r = 0 ∧ dotV p (sumF q r k) = X + Y ∧ dotV p q = X ∧ dotV p r = Y ∧ (-18014398509481984 ≤ X ∧ X ≤ 18014398509481984) ∧ (-18014398509481984 ≤ Y ∧ Y ≤ 18014398509481984) := by
  have sp := small_of (l := p) fun x hx => by have := bp x hx; omega
  have sq := small_of (l := q) fun x hx => by have := bq x hx; omega
  have sr := small_of (l := r) fun x hx => by have := br x hx; omega
  have ss := small_of (l := sumF q r k) fun x hx => by
    unfold sumF at hx
    obtain ⟨i, _, rfl⟩ := List.mem_map.1 hx
    have := getD_of_mem (by decide) bq i
    have := getD_of_mem (by decide) br i
    omega
  have d1 := dot_of (c := p) (x := sumF q r k) (by rw [sumF_length, hp]) (by omega) true (by rw [sp, ss]; rfl)
  have d2 := dot_of (c := p) (x := q) (by omega) (by omega) true (by rw [sp, sq]; rfl)
  have d3 := dot_of (c := p) (x := r) (by omega) (by omega) true (by rw [sp, sr]; rfl)
  simp only [if_true] at d1 d2 d3
  have hs : dotN p (sumF q r k) p.length = dotN p q p.length + dotN p r p.length := by
    refine dotN_add (sumF q r k) (fun j => ?_) p.length
    rcases Nat.lt_or_ge j k with h | h
    · simp [sumF, h]
    · rw [List.getElem?_eq_none (by rw [sumF_length]; exact h), List.getElem?_eq_none (by omega), List.getElem?_eq_none (by omega)]; rfl
  have b1 := dotN_bound sp sq p.length
  have b2 := dotN_bound sp sr p.length
  exact ⟨_, _, d1.2, d2.2, d3.2, d1.1.trans hs, d2.1, d3.1, by omega, by omega⟩

theorem cell_lt' {w : World} {a : Addr} {v : Value} (h : w.cell? a = some v) : a.block < w.heap.size := by
  rcases Nat.lt_or_ge a.block w.heap.size with hl | hl
  · exact hl
  · unfold World.cell? at h; rw [Array.getElem?_eq_none hl] at h; cases h

end Go.Proofs.Ytgabfdappeakiaa
end
section
/- The walks of Mix, of its reference and of StreamMixes. -/
set_option linter.unusedVariables false
set_option linter.unusedSimpArgs false
namespace Go.Proofs.Ytgabfdappeakiaa
open Go.RowKit

/-- What lies between two numbers, and the error. -/
def mixE (old fresh step steps : Int) : Int := if (inB steps 1 4096 && inB step 0 steps) = true then (if (inB old (-16777216) 16777216 && inB fresh (-16777216) 16777216) = true then 0 else 17) else 1
def mixV (old fresh step steps : Int) : Int := if mixE old fresh step steps = 0 then old + (fresh - old) * step / steps else 0

theorem mix_facts {old fresh step steps : Int} (h1 : 1 ≤ steps) (h2 : steps ≤ 4096) (h3 : 0 ≤ step) (h4 : step ≤ steps) (h5 : -16777216 ≤ old ∧ old ≤ 16777216) (h6 : -16777216 ≤ fresh ∧ fresh ≤ 16777216) :
    ∃ X Q R F : Int, wrap64 ((fresh - old) * step) = X ∧ X.tdiv steps = Q ∧ X.tmod steps = R ∧ (-1000000000000 ≤ Q ∧ Q ≤ 1000000000000) ∧ (R < 0 → Q - 1 = F) ∧ (0 ≤ R → Q = F) ∧ mixE old fresh step steps = 0 ∧ mixV old fresh step steps = old + F ∧
    (old ≤ fresh → 0 ≤ F ∧ F ≤ fresh - old) ∧ (fresh ≤ old → fresh - old ≤ F ∧ F ≤ 0) ∧ (step = 0 → F = 0) ∧ (step = steps → F = fresh - old) := by
  have hE : mixE old fresh step steps = 0 := by
    unfold mixE; rw [if_pos (by rw [inB_iff.2 ⟨h1, h2⟩, inB_iff.2 ⟨h3, h4⟩]; rfl), if_pos (by rw [inB_iff.2 h5, inB_iff.2 h6]; rfl)]
  have hb := mul_bound (x := fresh - old) (y := step) (B := 33554432) (C := 4096) (by omega) (by omega)
  have hd := Int.mul_ediv_add_emod ((fresh - old) * step) steps
  have m1 := Int.emod_nonneg ((fresh - old) * step) (by omega : steps ≠ 0)
  have m2 := Int.emod_lt_of_pos ((fresh - old) * step) (by omega : 0 < steps)
  have t0 := Int.mul_tdiv_add_tmod ((fresh - old) * step) steps
  have t1 := Int.lt_tmod_of_pos ((fresh - old) * step) (by omega : 0 < steps)
  have t2 := Int.tmod_lt_of_pos ((fresh - old) * step) (by omega : 0 < steps)
  have bnd : old ≤ fresh → 0 ≤ (fresh - old) * step ∧ (fresh - old) * step ≤ (fresh - old) * steps := fun h =>
    ⟨Int.mul_nonneg (by omega) h3, Int.mul_le_mul_of_nonneg_left h4 (by omega)⟩
  have bnd2 : fresh ≤ old → (fresh - old) * steps ≤ (fresh - old) * step ∧ (fresh - old) * step ≤ 0 := fun h =>
    ⟨Int.mul_le_mul_of_nonpos_left (by omega) h4, Int.mul_nonpos_of_nonpos_of_nonneg (by omega) h3⟩
  have z1 : step = 0 → (fresh - old) * step = 0 := fun h => by rw [h, Int.mul_zero]
  have z2 : step = steps → (fresh - old) * step / steps = fresh - old := fun h => by rw [h]; exact Int.mul_ediv_cancel _ (by omega)
  have hu : ∀ q r : Int, (fresh - old) * step = steps * q + r → 0 ≤ r → r < steps → (fresh - old) * step / steps = q := by
    intro q r e r0 r1
    rw [e, Int.add_comm, Int.add_mul_ediv_left _ _ (by omega), Int.ediv_eq_zero_of_lt r0 r1]; omega
  refine ⟨(fresh - old) * step, _, _, (fresh - old) * step / steps, w64_in (by omega) (by omega), rfl, rfl, ?_, ?_, ?_, hE, by unfold mixV; rw [if_pos hE], ?_, ?_, ?_, z2⟩
  · generalize (fresh - old) * step = Y at *
    generalize Y.tdiv steps = Q at *
    generalize Y.tmod steps = R at *
    constructor
    · rcases Int.lt_or_le Q (-1000000000000) with h | h
      · have : steps * Q ≤ 1 * Q := Int.mul_le_mul_of_nonpos_right h1 (by omega)
        omega
      · exact h
    · rcases Int.lt_or_le 1000000000000 Q with h | h
      · have : 1 * Q ≤ steps * Q := Int.mul_le_mul_of_nonneg_right h1 (by omega)
        omega
      · exact h
  · intro hR
    exact (hu _ (((fresh - old) * step).tmod steps + steps) (by rw [Int.mul_sub]; omega) (by omega) (by omega)).symm
  · intro hR
    exact (hu _ (((fresh - old) * step).tmod steps) (by omega) hR (by omega)).symm
  · intro h
    obtain ⟨c1, c2⟩ := bnd h
    exact ⟨Int.ediv_nonneg c1 (by omega), by
      have := Int.ediv_le_ediv (by omega : 0 < steps) c2
      rwa [Int.mul_ediv_cancel _ (by omega)] at this⟩
  · intro h
    obtain ⟨c1, c2⟩ := bnd2 h
    refine ⟨?_, ?_⟩
    · have := Int.ediv_le_ediv (by omega : 0 < steps) c1
      rwa [Int.mul_ediv_cancel _ (by omega)] at this
    · have := Int.ediv_le_ediv (by omega : 0 < steps) c2
      simpa using this
  · intro h; rw [z1 h]; simp

theorem Ints.two {w : World} {x y : Int} {t : TypeId} (hx : I64 x) (hy : I64 y) : Ints (w.alloc (.cells #[.int .i64 x, .int .i64 y] t)) (some ⟨w.heap.size, 0, none⟩) [x, y] := by
  refine ⟨fun k v hk => ?_, by intro q hq; simp at hq; rcases hq with rfl | rfl <;> assumption⟩
  match k, hk with
  | 0, hk => simp at hk; subst hk; exact ⟨_, rfl, by simp, by simp [go_sem, Addr.add]⟩
  | 1, hk => simp at hk; subst hk; exact ⟨_, rfl, by simp, by simp [go_sem, Addr.add]⟩
theorem rf_Small_two {x y : Int} {w : World} {t : TypeId} (hx : I64 x) (hy : I64 y) :
    Calls Try.prog 50 #[.slice (some ⟨w.heap.size, 0, none⟩) 2 2, .int .i64 24] (w.alloc (.cells #[.int .i64 x, .int .i64 y] t)) fun e w' => e = .returned (.bool (smallB [x, y] 24)) ∧ w.alloc (.cells #[.int .i64 x, .int .i64 y] t) = w' :=
  rf_Small24 _ [x, y] 2 _ (by simp) (Ints.two hx hy)
set_option maxHeartbeats 1000000 in
theorem st_Mix (old fresh step steps : Int) (w : World) (ho : I64 old) (hf : I64 fresh) : Calls Try.prog 16 #[.int .i64 old, .int .i64 fresh, .int .i64 step, .int .i64 steps] w fun e w' => e = .returned (.tuple #[.int .i64 (mixV old fresh step steps), .int .i64 (mixE old fresh step steps)]) ∧ Below w.heap.size w w' := by
  have hb := Below.refl w.heap.size w
  by_cases h : (1 ≤ steps ∧ steps ≤ 4096) ∧ (0 ≤ step ∧ step ≤ steps)
  · obtain ⟨⟨h1, h2⟩, h3, h4⟩ := h
    by_cases g : (-16777216 ≤ old ∧ old ≤ 16777216) ∧ (-16777216 ≤ fresh ∧ fresh ≤ 16777216)
    · obtain ⟨⟨g1, g2⟩, g3, g4⟩ := g
      obtain ⟨X, Q, R, F, e1, e2, e3, b1, f1, f2, eE, eV, c1, c2, _⟩ := mix_facts h1 h2 h3 h4 ⟨g1, g2⟩ ⟨g3, g4⟩
      have HE := Lib.hid eE
      have HV := Lib.hid eV
      have F1 := Lib.hid f1
      have F2 := Lib.hid f2
      have i1 : inB steps 1 4096 = true := inB_iff.2 ⟨h1, h2⟩
      have i2 : inB step 0 steps = true := inB_iff.2 ⟨h3, h4⟩
      have i3 : smallB [old, fresh] 24 = true := small_of (by intro x hx; simp at hx; omega)
      have HO := Lib.hid ho
      have HF := Lib.hid hf
      clear eE eV f1 f2 c1 c2 ho hf
      go_enter Try.func16, Try.ntmps16
      go_wp2
      all_goals try (exfalso; omega)
      all_goals go_ret2
      · exact ⟨by rw [HE.out, HV.out, ← F1.out (by omega)]; rfl, hb⟩
      · exact ⟨by rw [HE.out, HV.out, ← F2.out (by omega)]; rfl, hb⟩
    · have i1 : inB steps 1 4096 = true := inB_iff.2 ⟨h1, h2⟩
      have i2 : inB step 0 steps = true := inB_iff.2 ⟨h3, h4⟩
      have i3 : smallB [old, fresh] 24 = false := by
        rw [Bool.eq_false_iff]
        intro hs
        have h0 := small_at hs 0
        have h1 := small_at hs 1
        rw [show (2 : Int) ^ 24 = 16777216 by decide] at h0 h1
        simp at h0 h1
        exact g ⟨h0, h1⟩
      have hn : (inB old (-16777216) 16777216 && inB fresh (-16777216) 16777216) ≠ true := by
        intro hs
        rw [Bool.and_eq_true] at hs
        exact g ⟨inB_iff.1 hs.1, inB_iff.1 hs.2⟩
      have HE : Hid (mixE old fresh step steps = 17) := by
        show _ = _
        unfold mixE; rw [if_pos (by rw [i1, i2]; rfl), if_neg hn]
      have HV : Hid (mixV old fresh step steps = 0) := by
        show _ = _
        unfold mixV; rw [if_neg (by rw [HE.out]; decide)]
      have hno : old < -16777216 ∨ 16777216 < old ∨ fresh < -16777216 ∨ 16777216 < fresh := by omega
      have HO := Lib.hid ho
      have HF := Lib.hid hf
      clear hn g ho hf
      go_enter Try.func16, Try.ntmps16
      go_wp2
      all_goals try (exfalso; omega)
      all_goals go_ret2
      all_goals exact ⟨by rw [HE.out, HV.out]; rfl, hb⟩
  · have hi : (inB steps 1 4096 && inB step 0 steps) ≠ true := by
      intro hs
      rw [Bool.and_eq_true] at hs
      exact h ⟨inB_iff.1 hs.1, inB_iff.1 hs.2⟩
    have HE : Hid (mixE old fresh step steps = 1) := by
      show _ = _
      unfold mixE; rw [if_neg hi]
    have HV : Hid (mixV old fresh step steps = 0) := by
      show _ = _
      unfold mixV; rw [if_neg (by rw [HE.out]; decide)]
    have hno : steps < 1 ∨ 4096 < steps ∨ step < 0 ∨ steps < step := by omega
    have HO := Lib.hid ho
    have HF := Lib.hid hf
    clear hi h ho hf
    go_enter Try.func16, Try.ntmps16
    go_wp2
    all_goals try (exfalso; omega)
    all_goals go_ret2
    all_goals exact ⟨by rw [HE.out, HV.out]; rfl, hb⟩
set_option maxHeartbeats 1000000 in
theorem rf_Mix (old fresh step steps : Int) (w : World) (ho : I64 old) (hf : I64 fresh) : Calls Try.prog 34 #[.int .i64 old, .int .i64 fresh, .int .i64 step, .int .i64 steps] w fun e w' => e = .returned (.tuple #[.int .i64 (mixV old fresh step steps), .int .i64 (mixE old fresh step steps)]) ∧ Below w.heap.size w w' := by
  have hb := Below.refl w.heap.size w
  by_cases h : (1 ≤ steps ∧ steps ≤ 4096) ∧ (0 ≤ step ∧ step ≤ steps)
  · obtain ⟨⟨h1, h2⟩, h3, h4⟩ := h
    by_cases g : (-16777216 ≤ old ∧ old ≤ 16777216) ∧ (-16777216 ≤ fresh ∧ fresh ≤ 16777216)
    · obtain ⟨⟨g1, g2⟩, g3, g4⟩ := g
      obtain ⟨X, Q, R, F, e1, e2, e3, b1, f1, f2, eE, eV, c1, c2, _⟩ := mix_facts h1 h2 h3 h4 ⟨g1, g2⟩ ⟨g3, g4⟩
      have HE := Lib.hid eE
      have HV := Lib.hid eV
      have F1 := Lib.hid f1
      have F2 := Lib.hid f2
      have i1 : inB steps 1 4096 = true := inB_iff.2 ⟨h1, h2⟩
      have i2 : inB step 0 steps = true := inB_iff.2 ⟨h3, h4⟩
      have i3 : smallB [old, fresh] 24 = true := small_of (by intro x hx; simp at hx; omega)
      have HO := Lib.hid ho
      have HF := Lib.hid hf
      clear eE eV f1 f2 c1 c2 ho hf
      go_enter Try.func34, Try.ntmps34
      go_wp2_with (first
        | (go_at_call 32; refine (rf_In _ _ _ _).mono ?_; rintro e w' ⟨rfl, rfl⟩)
        | (go_at_call 50; with_reducible refine (rf_Small_two HO.out HF.out).mono ?_; rintro e w' ⟨rfl, rfl⟩))
      all_goals try (exfalso; omega)
      all_goals go_ret2
      · exact ⟨by rw [HE.out, HV.out, ← F1.out (by omega)]; rfl, (Below.refl _ _).alloc (Nat.le_refl _) _⟩
      · exact ⟨by rw [HE.out, HV.out, ← F2.out (by omega)]; rfl, (Below.refl _ _).alloc (Nat.le_refl _) _⟩
    · have i1 : inB steps 1 4096 = true := inB_iff.2 ⟨h1, h2⟩
      have i2 : inB step 0 steps = true := inB_iff.2 ⟨h3, h4⟩
      have i3 : smallB [old, fresh] 24 = false := by
        rw [Bool.eq_false_iff]
        intro hs
        have h0 := small_at hs 0
        have h1 := small_at hs 1
        rw [show (2 : Int) ^ 24 = 16777216 by decide] at h0 h1
        simp at h0 h1
        exact g ⟨h0, h1⟩
      have hn : (inB old (-16777216) 16777216 && inB fresh (-16777216) 16777216) ≠ true := by
        intro hs
        rw [Bool.and_eq_true] at hs
        exact g ⟨inB_iff.1 hs.1, inB_iff.1 hs.2⟩
      have HE : Hid (mixE old fresh step steps = 17) := by
        show _ = _
        unfold mixE; rw [if_pos (by rw [i1, i2]; rfl), if_neg hn]
      have HV : Hid (mixV old fresh step steps = 0) := by
        show _ = _
        unfold mixV; rw [if_neg (by rw [HE.out]; decide)]
      have hno : old < -16777216 ∨ 16777216 < old ∨ fresh < -16777216 ∨ 16777216 < fresh := by omega
      have HO := Lib.hid ho
      have HF := Lib.hid hf
      clear hn g ho hf
      go_enter Try.func34, Try.ntmps34
      go_wp2_with (first
        | (go_at_call 32; refine (rf_In _ _ _ _).mono ?_; rintro e w' ⟨rfl, rfl⟩)
        | (go_at_call 50; with_reducible refine (rf_Small_two HO.out HF.out).mono ?_; rintro e w' ⟨rfl, rfl⟩))
      all_goals try (exfalso; omega)
      all_goals go_ret2
      all_goals exact ⟨by rw [HE.out, HV.out]; rfl, (Below.refl _ _).alloc (Nat.le_refl _) _⟩
  · have hi : (inB steps 1 4096 && inB step 0 steps) ≠ true := by
      intro hs
      rw [Bool.and_eq_true] at hs
      exact h ⟨inB_iff.1 hs.1, inB_iff.1 hs.2⟩
    have HE : Hid (mixE old fresh step steps = 1) := by
      show _ = _
      unfold mixE; rw [if_neg hi]
    have HV : Hid (mixV old fresh step steps = 0) := by
      show _ = _
      unfold mixV; rw [if_neg (by rw [HE.out]; decide)]
    have hno : steps < 1 ∨ 4096 < steps ∨ step < 0 ∨ steps < step := by omega
    have HO := Lib.hid ho
    have HF := Lib.hid hf
    have hi' : inB steps 1 4096 = false ∨ (inB steps 1 4096 = true ∧ inB step 0 steps = false) := by
      cases h1 : inB steps 1 4096 <;> cases h2 : inB step 0 steps <;> simp_all
    clear hi h ho hf
    rcases hi' with i1 | ⟨i1, i2⟩
    all_goals
      go_enter Try.func34, Try.ntmps34
      go_wp2_with (go_at_call 32; refine (rf_In _ _ _ _).mono ?_; rintro e w' ⟨rfl, rfl⟩)
      all_goals try (exfalso; omega)
      all_goals go_ret2
      all_goals exact ⟨by rw [HE.out, HV.out]; rfl, hb⟩
theorem known42 (w : World) : Calls Try.prog 4 #[] w fun e w' => e = .returned (.bool true) ∧ Below w.heap.size w w' := by
  have e1 : mixV 0 (-3) 1 2 = -2 := by decide
  have e2 : mixE 0 (-3) 1 2 = 0 := by decide
  go_enter Try.func4, Try.ntmps4
  go_wp2_with (go_at_call 16; refine (st_Mix _ _ _ _ _ ⟨by decide, by decide⟩ ⟨by decide, by decide⟩).mono ?_; rintro e w1 ⟨rfl, hb1⟩)
  go_ret
  exact ⟨rfl, hb1⟩
end Go.Proofs.Ytgabfdappeakiaa
end
