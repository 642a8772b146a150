/- Several texts in one: Z4 Z5. -/
import Derived.Test.YtmdfgidejdiiiaadJ7toZ3
set_option linter.unusedVariables false
set_option linter.unusedSimpArgs false
section
namespace Go.Proofs.Ytmdfgidejdiiiaa
open Go.RowKit
def IntB (b : Nat) (w : World) (v : Value) (z : Int) (K : Nat) : Prop := ∃ neg A n c l, v = .agg #[.bool neg, .slice A n c] ∧ DigB b w A l ∧ l.length = n ∧ n ≤ c ∧ n ≤ K ∧ z = sgn neg (nv l)
theorem IntB.grow {b : Nat} {w w' : World} {v : Value} {z : Int} {K : Nat} (h : IntB b w v z K) (hb : Below w.heap.size w w') : IntB b w' v z K := by
  obtain ⟨g, A, n, c, l, e, d, r⟩ := h; exact ⟨g, A, n, c, l, e, d.grow hb, r⟩
theorem IntB.more {b b' : Nat} {w : World} {v : Value} {z : Int} {K : Nat} (h : IntB b w v z K) (hb : b ≤ b') : IntB b' w v z K := by
  obtain ⟨g, A, n, c, l, e, d, r⟩ := h; exact ⟨g, A, n, c, l, e, d.more hb, r⟩
theorem IntB.le {b : Nat} {w : World} {v : Value} {z : Int} {K M : Nat} (h : IntB b w v z K) (hb : K ≤ M) : IntB b w v z M := by
  obtain ⟨g, A, n, c, l, e, d, r1, r2, r3, r4⟩ := h; exact ⟨g, A, n, c, l, e, d, r1, r2, Nat.le_trans r3 hb, r4⟩
theorem IntO.intB {b b' : Nat} {w : World} {v : Value} {z : Int} {K : Nat} (h : IntO b w v z K) : IntB b' w v z K := by
  obtain ⟨g, A, c, l, e, o, n, k, s⟩ := h
  exact ⟨g, A, _, c, l, e, o.digB, rfl, o.len.2, k, s.symm⟩
theorem IntO.le {b : Nat} {w : World} {v : Value} {z : Int} {K M : Nat} (h : IntO b w v z K) (hb : K ≤ M) : IntO b w v z M := by
  obtain ⟨g, A, c, l, e, o, n, k, s⟩ := h; exact ⟨g, A, c, l, e, o, n, Nat.le_trans k hb, s⟩
theorem IntO.away {b g : Nat} {w w' : World} {v : Value} {z : Int} {K : Nat} (h : IntO b w v z K) (hb : w.grownBy w' (some g)) (hg : g < b) : IntO b w' v z K := by
  obtain ⟨g, A, c, l, e, o, n, k, s⟩ := h; exact ⟨g, A, c, l, e, o.away hb hg, n, k, s⟩
def PairB (b : Nat) (w : World) (v : Value) (z : Rat) (K : Nat) : Prop := ∃ neg A n c l B m d r, v = .agg #[.bool neg, .slice A n c, .slice B m d] ∧ (DigB b w A l ∧ l.length = n ∧ n ≤ c ∧ n ≤ K) ∧ (DigB b w B r ∧ r.length = m ∧ m ≤ d ∧ m ≤ K) ∧ 0 < nv r ∧ z = frac neg l r
theorem PairB.grow {b : Nat} {w w' : World} {v : Value} {z : Rat} {K : Nat} (h : PairB b w v z K) (hb : Below w.heap.size w w') : PairB b w' v z K := by
  obtain ⟨neg, A, n, c, l, B, m, d, r, e, ⟨h1, h2⟩, ⟨h3, h4⟩, h5⟩ := h
  exact ⟨neg, A, n, c, l, B, m, d, r, e, ⟨h1.grow hb, h2⟩, ⟨h3.grow hb, h4⟩, h5⟩
theorem rt_low (v : Value) (z : Rat) (K b : Nat) (w : World) (h : PairB b w v z K) (hK : K ≤ 1000000) : Calls Try.prog 90 #[v] w (RetQ w z K) := by
  obtain ⟨neg, A, n, c, l, B, m, d, r, rfl, ⟨h1, h2, h2', h2''⟩, ⟨h3, h4, h4', h4''⟩, h0, rfl⟩ := h
  refine (rt_lowest neg A B n c m d l r w h1.1 h3.1 h2 h4 h2' h4' (by omega) (by omega) h0).mono ?_
  rintro e w' ⟨v, rfl, hq, hb⟩
  exact ⟨v, rfl, hq.rq h0 h2'' h4'', hb⟩
def RetQb (b : Nat) (w : World) (z : Rat) (K : Nat) (e : Ending) (w' : World) : Prop := ∃ v, e = .returned v ∧ RatQ b w' v z K ∧ Below w.heap.size w w'
theorem RetQ.at_ {b : Nat} {w : World} {z : Rat} {K : Nat} {e : Ending} {w' : World} (h : RetQ w z K e w') (hb : b ≤ w.heap.size) : RetQb b w z K e w' := by
  obtain ⟨v, e, q, r⟩ := h; exact ⟨v, e, q.base hb, r⟩
theorem one_div (z : Int) : (z : Rat) = (z : Rat) / ((1 : Int) : Rat) := by
  have h := Rat.mul_inv_cancel ((1 : Int) : Rat) (cast_pos (by decide))
  rw [show ((1 : Int) : Rat) = 1 from rfl, Rat.one_mul] at h
  rw [Rat.div_def, show ((1 : Int) : Rat) = 1 from rfl, h, Rat.mul_one]
theorem rt_wholeQ (v : Value) (z : Int) (K b : Nat) (w : World) (h : IntO b w v z K) (hb : b ≤ w.heap.size) (hK : 1 ≤ K) : Calls Try.prog 88 #[v] w (RetQb b w (z : Rat) K) := by
  obtain ⟨neg, A, c, l, rfl, o, n, k, s⟩ := h
  refine (rt_whole neg A l.length c w).mono ?_
  rintro e w' ⟨g, rfl, o2, hb2⟩
  refine ⟨_, rfl, ⟨z, 1, ⟨neg, A, c, l, _, 1, [1], rfl, ⟨o.grow hb2, k, s⟩, o2.base hb, hK, by decide⟩, by decide, ?_⟩, hb2⟩
  exact one_div z
theorem RetI.le {w : World} {z : Int} {K M : Nat} {e : Ending} {w' : World} (h : RetI w z K e w') (hm : K ≤ M) : RetI w z M e w' := by
  obtain ⟨v, e, q, r⟩ := h; exact ⟨v, e, q.le hm, r⟩
theorem it_AddA (v u : Value) (x y : Int) (K M b b' : Nat) (w : World) (h : IntB b w v x K) (h' : IntB b' w u y M) (hK : K ≤ 1000000) (hM : M ≤ 1000000) : Calls Try.prog 94 #[v, u] w (RetI w (x + y) (max K M + 1)) := by
  obtain ⟨na, A, n, c, a, rfl, d, n1, n2, n3, rfl⟩ := h
  obtain ⟨nb, B, m, e, r, rfl, d', m1, m2, m3, rfl⟩ := h'
  exact (it_Add na nb A B n m c e a r w d.1 d'.1 n1 m1 n2 m2 (by omega) (by omega)).mono fun _ _ h => h.le (by omega)
theorem it_MulA (v u : Value) (x y : Int) (K M b b' : Nat) (w : World) (h : IntB b w v x K) (h' : IntB b' w u y M) (hK : K ≤ 1000000) (hM : M ≤ 1000000) : Calls Try.prog 87 #[v, u] w (RetI w (x * y) (K + M)) := by
  obtain ⟨na, A, n, c, a, rfl, d, n1, n2, n3, rfl⟩ := h
  obtain ⟨nb, B, m, e, r, rfl, d', m1, m2, m3, rfl⟩ := h'
  exact (it_Mul na nb A B n m c e a r w d.1 d'.1 n1 m1 n2 m2 (by omega) (by omega)).mono fun _ _ h => h.le (by omega)
theorem nt_MulA (v u : Value) (a r : List Int) (K M b b' : Nat) (w : World) (h : SlB b w v a K) (h' : SlB b' w u r M) (hK : K ≤ 1000000) (hM : M ≤ 1000000) : Calls Try.prog 89 #[v, u] w (RetN w (nv a * nv r) (K + M)) := by
  obtain ⟨A, n, c, rfl, d, n1, n2, n3⟩ := h
  obtain ⟨B, m, e, rfl, d', m1, m2, m3⟩ := h'
  exact (nt_Mul A B n m c e a r w d.1 d'.1 n1 m1 n2 m2 (by omega) (by omega)).mono fun _ _ h => h.le (by omega)
theorem nt_CompareA (v u : Value) (a r : List Int) (K M b b' : Nat) (w : World) (h : SlB b w v a K) (h' : SlB b' w u r M) (hK : K ≤ 1000000) (hM : M ≤ 1000000) : Calls Try.prog 95 #[v, u] w fun e w' => e = .returned (.int .i64 (cmpI (nv a) (nv r))) ∧ Below w.heap.size w w' := by
  obtain ⟨A, n, c, rfl, d, n1, n2, n3⟩ := h
  obtain ⟨B, m, e, rfl, d', m1, m2, m3⟩ := h'
  exact nt_Compare A B n m c e a r w d.1 d'.1 n1 m1 n2 m2 (by omega) (by omega)
inductive Dt where
  | v (u : Value)
  | num (x : Int) (K : Nat)
  | int (z : Int) (K : Nat)
  | rq (z : Rat) (K : Nat)
  | box (t : TypeId) (cs : List Value)
  | two (q r : Int) (K M : Nat)
  | rd (z : Rat) (K : Nat)
  | pr (z : Rat) (K : Nat)
  | gen (P : Nat → World → Value → Prop) (h : ∀ b w w' v, P b w v → Below w.heap.size w w' → P b w' v)
  | any
def TwoO (b : Nat) (w : World) (v : Value) (q r : Int) (K M : Nat) : Prop := ∃ u1 u2, v = .tuple #[u1, u2, .int .i64 0] ∧ IntO b w u1 q K ∧ IntO b w u2 r M
theorem TwoO.grow {b : Nat} {w w' : World} {v : Value} {q r : Int} {K M : Nat} (h : TwoO b w v q r K M) (hb : Below w.heap.size w w') : TwoO b w' v q r K M := by
  obtain ⟨u1, u2, e, h1, h2⟩ := h; exact ⟨u1, u2, e, h1.grow hb, h2.grow hb⟩
def BoxO (b : Nat) (w : World) (v : Value) (t : TypeId) (cs : List Value) : Prop := ∃ g, v = .pointer (some ⟨g, 0, none⟩) ∧ b ≤ g ∧ Box w g cs ∧ TyB w g t
theorem BoxO.grow {b : Nat} {w w' : World} {v : Value} {t : TypeId} {cs : List Value} (h : BoxO b w v t cs) (hb : Below w.heap.size w w') : BoxO b w' v t cs := by
  obtain ⟨g, e, h1, h2, h3⟩ := h; exact ⟨g, e, h1, h2.keep hb, h3.grow hb⟩
def dT (b : Nat) (ds : List Dt) (i : Nat) (v : Value) (w : World) : Prop :=
  match ds[i]? with
  | some (.v u) => v = u
  | some (.num x K) => NumO b w v x K
  | some (.int z K) => IntO b w v z K
  | some (.rq z K) => RatQ b w v z K
  | some (.box t cs) => BoxO b w v t cs
  | some (.two q r K M) => TwoO b w v q r K M
  | some (.rd z K) => NumA b w v z K
  | some (.pr z K) => PairB b w v z K
  | some (.gen P _) => P b w v
  | some .any => True
  | none => True
theorem dT_keep {b : Nat} {ds : List Dt} {w w' : World} (h : Below w.heap.size w w') (i : Nat) (v : Value) (hf : dT b ds i v w) : dT b ds i v w' := by
  unfold dT at hf ⊢
  split at hf
  · exact hf
  · exact hf.grow h
  · exact hf.grow h
  · exact hf.grow h
  · exact hf.grow h
  · exact hf.grow h
  · exact hf.grow h
  · exact hf.grow h
  · rename_i P hP _
    exact hP _ _ _ _ hf h
  · trivial
  · trivial
def isBx (ds : List Dt) (j : Nat) : Bool := match ds[j]? with
  | some (.box _ _) => true
  | _ => false
def gT (ds : List Dt) (j : Nat) (v : Value) (a b : World) : Prop := Below a.heap.size a b ∧ (isBx ds j = true → v = .pointer (some ⟨a.heap.size, 0, none⟩))
theorem box_ne {b : Nat} {ds : List Dt} {i j : Nat} {u v : Value} {w : World} {t s : TypeId} {cs ds' : List Value} (hi : ds[i]? = some (.box t cs)) (hj : ds[j]? = some (.box s ds'))
    (h : Prior4 (dT b ds) (gT ds) (fun a b => Below a.heap.size a b) i j u v w ∨ Prior4 (dT b ds) (gT ds) (fun a b => Below a.heap.size a b) j i v u w) : u ≠ v := by
  have bi : isBx ds i = true := by unfold isBx; rw [hi]
  have bj : isBx ds j = true := by unfold isBx; rw [hj]
  rintro rfl
  rcases h with ⟨w1, w2, h1, ⟨-, h2⟩, -⟩ | ⟨w1, w2, h1, ⟨-, h2⟩, -⟩
  · unfold dT at h1
    rw [hi] at h1
    obtain ⟨g, e, -, hb, -⟩ := h1
    have := h2 bj
    rw [e] at this
    injection this with this; injection this with this; injection this with this
    have := hb.1
    omega
  · unfold dT at h1
    rw [hj] at h1
    obtain ⟨g, e, -, hb, -⟩ := h1
    have := h2 bi
    rw [e] at this
    injection this with this; injection this with this; injection this with this
    have := hb.1
    omega
theorem BoxO.new {b : Nat} {w : World} {t : TypeId} {cs : Array Value} (hb : b ≤ w.heap.size) : BoxO b (w.alloc (.cells cs t)) (.pointer (some ⟨w.heap.size, 0, none⟩)) t cs.toList := ⟨_, rfl, hb, Box.new rfl, TyB.new⟩
end Go.Proofs.Ytmdfgidejdiiiaa
end
section
namespace Go.Proofs.Ytmdfgidejdiiiaa
open Go.RowKit
theorem cast_lt {q : Int} (h : 0 < q) : (0 : Rat) < (q : Rat) := by
  have := Rat.intCast_lt_intCast.2 h
  simpa using this
theorem rt_OfQ (k : Int) (w : World) (hk : I64 k) : Calls Try.prog 43 #[.int .i64 k] w (RetQ w (k : Rat) 2) := by
  refine (rt_Of k w hk).mono ?_
  rintro e w' ⟨v, rfl, hq, hb⟩
  exact ⟨v, rfl, ⟨k, 1, hq.le (Nat.le_refl _) (by decide), by decide, one_div k⟩, hb⟩
theorem sgn_ne {b : Bool} {x y : Int} (h : sgn b x = y) (hy : y ≠ 0) (hx : 0 ≤ x) : 0 < x := by
  cases b <;> simp [sgn] at h <;> omega
theorem inv_neg' {x : Rat} (h : x ≠ 0) : (-x)⁻¹ = -x⁻¹ := by
  have h' : -x ≠ 0 := fun e => h (by rw [← Rat.neg_neg x, e]; rfl)
  have e1 : x⁻¹ * ((-x) * (-x)⁻¹) = x⁻¹ := by rw [Rat.mul_inv_cancel _ h', Rat.mul_one]
  rw [← Rat.mul_assoc, Rat.mul_neg, Rat.mul_comm x⁻¹, Rat.mul_inv_cancel _ h, Rat.neg_mul, Rat.one_mul] at e1
  rw [← e1, Rat.neg_neg]
theorem neg_div (a b : Int) (hb : 0 < b) : ((a : Rat) / ((-b : Int) : Rat)) = ((-a : Int) : Rat) / (b : Rat) := by
  rw [Rat.intCast_neg, Rat.intCast_neg, Rat.div_def, Rat.div_def, inv_neg' (cast_pos hb), Rat.mul_neg, Rat.neg_mul]
theorem PairB.mk {b : Nat} {w : World} {ng : Bool} {A B : Option Addr} {n c m d : Nat} {l r : List Int} {z : Rat} {K : Nat} (h1 : DigB b w A l ∧ l.length = n ∧ n ≤ c ∧ n ≤ K) (h3 : DigB b w B r ∧ r.length = m ∧ m ≤ d ∧ m ≤ K) (h0 : 0 < nv r) (hz : z = frac ng l r) : PairB b w (.agg #[.bool ng, .slice A n c, .slice B m d]) z K := ⟨_, _, _, _, _, _, _, _, _, rfl, h1, h3, h0, hz⟩
theorem IntB.mk {b : Nat} {w : World} {ng : Bool} {A : Option Addr} {n c : Nat} {l : List Int} {K : Nat} (h1 : DigB b w A l ∧ l.length = n ∧ n ≤ c ∧ n ≤ K) : IntB b w (.agg #[.bool ng, .slice A n c]) (sgn ng (nv l)) K := ⟨_, _, _, _, _, rfl, h1.1, h1.2.1, h1.2.2.1, h1.2.2.2, rfl⟩
theorem pair_of {b : Nat} {w : World} {na nb : Bool} {A1 A2 : Option Addr} {n1 c1 n2 c2 : Nat} {x y : Int} {K b1 b2 : Nat} (hy : y ≠ 0) (h1 : IntO b1 w (.agg #[.bool na, .slice A1 n1 c1]) x K) (h2 : IntO b2 w (.agg #[.bool nb, .slice A2 n2 c2]) y K) : PairB b w (.agg #[.bool (na != nb), .slice A1 n1 c1, .slice A2 n2 c2]) ((x : Rat) / (y : Rat)) K := by
  obtain ⟨g, A, c, l, e, o, n, k, s⟩ := h1
  obtain ⟨g', A', c', l', e', o', n', k', s'⟩ := h2
  simp at e e'
  obtain ⟨rfl, rfl, rfl, rfl⟩ := e
  obtain ⟨rfl, rfl, rfl, rfl⟩ := e'
  have hp := sgn_ne s' hy (nv_low o'.dig)
  refine ⟨_, _, _, _, l, _, _, _, l', rfl, ⟨o.digB, rfl, o.len.2, k⟩, ⟨o'.digB, rfl, o'.len.2, k'⟩, hp, ?_⟩
  rw [← s, ← s']
  have hne := cast_pos hp
  unfold frac
  cases na <;> cases nb <;> simp only [sgn, Bool.bne_false, Bool.bne_true, Bool.not_true, Bool.not_false, if_true, if_false, Bool.false_eq_true]
  · exact neg_div _ _ hp
  · rw [neg_div _ _ hp, Int.neg_neg]
set_option maxRecDepth 100000 in
set_option maxHeartbeats 4000000 in
theorem rt_Frac (x y : Int) (w : World) (hx : I64 x) (hy : I64 y) : Calls Try.prog 46 #[.int .i64 x, .int .i64 y] w (RetQ w ((x : Rat) / (y : Rat)) 2) := by
  have CX : Hid (∀ w1, Calls Try.prog 91 #[.int .i64 x] w1 (RetI w1 x 2)) := Lib.hid fun w1 => it_Of x w1 hx
  have CY : Hid (∀ w1, Calls Try.prog 91 #[.int .i64 y] w1 (RetI w1 y 2)) := Lib.hid fun w1 => it_Of y w1 hy
  have CL : Hid (∀ v1 w1 b, PairB b w1 v1 ((x : Rat) / (y : Rat)) 2 → Calls Try.prog 90 #[v1] w1 (RetQ w1 ((x : Rat) / (y : Rat)) 2)) := Lib.hid fun v1 w1 b h => rt_low v1 _ 2 b w1 h (by decide)
  obtain ⟨dsR, hR1, hR2⟩ := row_Rat
  have HR := Lib.hid (And.intro hR1 hR2)
  clear hR1 hR2
  by_cases h0 : y = 0
  · subst h0
    have CZ : Hid (∀ w1, Calls Try.prog 43 #[.int .i64 0] w1 (RetQ w1 ((x : Rat) / ((0 : Int) : Rat)) 2)) := Lib.hid fun w1 => by
      rw [show (x : Rat) / ((0 : Int) : Rat) = ((0 : Int) : Rat) by simp [Rat.div_def]]
      exact rt_OfQ 0 w1 (by unfold I64; omega)
    clear hx hy CX CY CL
    go_enter Try.func46, Try.ntmps46
    go_upto_region 1 with fail
    have hB0 : Below w.heap.size w (w.alloc (.cells #[.bool false, .slice none 0 0, .slice none 0 0] 28)) := ((Below.refl _ _).alloc (Nat.le_refl _) _)
    have bx0 : Box (w.alloc (.cells #[.bool false, .slice none 0 0, .slice none 0 0] 28)) (w.heap.size) [.bool false, .slice none 0 0, .slice none 0 0] := (Box.new (by simp))
    generalize w.alloc (.cells #[.bool false, .slice none 0 0, .slice none 0 0] 28) = wA at hB0 bx0 ⊢
    have HA := Lib.hid (And.intro hB0 bx0)
    clear hB0 bx0
    go_wp2_with (first
      | (go_at_call 43; (with_reducible refine (CZ.out _).mono ?_); rintro e2 w2 ⟨v2, rfl, hq, hb2⟩; have HQ := Lib.hid hq; obtain ⟨g2, A2, n2, c2, B2, m2, d2, rfl⟩ := hq.form; have HB2 := Lib.hid hb2; clear hq hb2)
      | ((with_reducible show wpList _ _ _ (Oper.mk none (.store 28 _ _) _ _ _ _ :: _) _ _); refine wp_st rfl 28 _ _ rfl (w.heap.size) 0 [_, _, _] rfl rfl size_Rat rfl (HA.out.2.keep HB2.out) (Nat.le_refl _) rfl ?_; intro W9 c9 g9))
    have hW := put_facts (g := w.heap.size) (below_then HA.out.1 HB2.out) (by omega) g9
    have hq := (HQ.out.away g9 HA.out.2.1).base (b' := w.heap.size) HA.out.1.size
    refine bodyPost_ret (resC rfl _ _ W9 (g := w.heap.size) rfl (res_box 28 c9 dsR HR.out.1 HR.out.2 size_Rat)) rfl ?_
    exact ⟨_, rfl, hq, hW⟩
  · have H0 := Lib.hid h0
    clear hx hy h0
    go_enter Try.func46, Try.ntmps46
    have h0 := H0.out
    go_upto_region 1 with fail
    have hB0 : Below w.heap.size w (w.alloc (.cells #[.bool false, .slice none 0 0, .slice none 0 0] 28)) := ((Below.refl _ _).alloc (Nat.le_refl _) _)
    have bx0 : Box (w.alloc (.cells #[.bool false, .slice none 0 0, .slice none 0 0] 28)) (w.heap.size) [.bool false, .slice none 0 0, .slice none 0 0] := (Box.new (by simp))
    generalize w.alloc (.cells #[.bool false, .slice none 0 0, .slice none 0 0] 28) = wA at hB0 bx0 ⊢
    have HA := Lib.hid (And.intro hB0 bx0)
    clear hB0 bx0
    go_upto_region 3 with fail
    go_wp2_with (first
      | (go_at_call 91; first
          | ((with_reducible refine (CX.out _).mono ?_); rintro e1 w1 ⟨v1, rfl, hi, hb1⟩; have HI := Lib.hid hi; obtain ⟨na, A1, c1, l1, rfl, -⟩ := hi; have HB1 := Lib.hid hb1; clear hb1)
          | ((with_reducible refine (CY.out _).mono ?_); rintro e2 w2 ⟨v2, rfl, hi, hb2⟩; have HJ := Lib.hid hi; obtain ⟨nb, A2, c2, l2, rfl, -⟩ := hi; have HB2 := Lib.hid hb2; clear hb2))
      | (go_at_call 96; (with_reducible refine (rt_quotient _ _ _ _ _ _ _ _ _).mono ?_); rintro e3 w3 ⟨rfl, hb3⟩; have HB3 := Lib.hid hb3; clear hb3)
      | (go_at_call 90; (with_reducible refine (CL.out _ _ w1.heap.size (pair_of H0.out ((HI.out.grow HB2.out).grow HB3.out) (HJ.out.grow HB3.out))).mono ?_); rintro e4 w4 ⟨v4, rfl, hq, hb4⟩; have HQ := Lib.hid hq; obtain ⟨g4, A4, n4, c4, B4, m4, d4, rfl⟩ := hq.form; have HB4 := Lib.hid hb4; clear hq hb4)
      | ((with_reducible show wpList _ _ _ (Oper.mk none (.store 28 _ _) _ _ _ _ :: _) _ _); refine wp_st rfl 28 _ _ rfl (w.heap.size) 0 [_, _, _] rfl rfl size_Rat rfl ((((HA.out.2.keep HB1.out).keep HB2.out).keep HB3.out).keep HB4.out) (Nat.le_refl _) rfl ?_; intro W9 c9 g9))
    have hb3 := below_then (below_then (below_then HA.out.1 HB1.out) HB2.out) HB3.out
    have hW := put_facts (g := w.heap.size) (below_then hb3 HB4.out) (by omega) g9
    have hq := (HQ.out.away g9 (Nat.lt_of_lt_of_le HA.out.2.1 (below_then (below_then HB1.out HB2.out) HB3.out).size)).base (b' := w.heap.size) hb3.size
    refine bodyPost_ret (resC rfl _ _ W9 (g := w.heap.size) rfl (res_box 28 c9 dsR HR.out.1 HR.out.2 size_Rat)) rfl ?_
    exact ⟨_, rfl, hq, hW⟩
end Go.Proofs.Ytmdfgidejdiiiaa
end
