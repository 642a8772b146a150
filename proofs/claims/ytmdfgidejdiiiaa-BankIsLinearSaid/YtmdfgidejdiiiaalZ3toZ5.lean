/- Several texts in one: Z3 Z4 Z5. -/
import Derived.Test.YtmdfgidejdiiiaalZ2toJ7
set_option linter.unusedVariables false
set_option linter.unusedSimpArgs false
section
namespace Go.Proofs.Ytmdfgidejdiiiaa
open Go.RowKit
def TyB (w : World) (q : Nat) (t : TypeId) : Prop := ∃ cs r, w.heap[q]? = some (.cells cs t r)
theorem TyB.lt {w : World} {q : Nat} {t : TypeId} (h : TyB w q t) : q < w.heap.size := by
  obtain ⟨cs, r, e⟩ := h
  exact (Array.getElem?_eq_some_iff.1 e).1
theorem TyB.grow {w w' : World} {q : Nat} {t : TypeId} (h : TyB w q t) (hb : Below w.heap.size w w') : TyB w' q t := by
  have hl := h.lt
  obtain ⟨cs, r, e⟩ := h
  exact ⟨cs, r, (hb.block q hl).trans e⟩
theorem TyB.kept {w w' : World} {q g : Nat} {t : TypeId} (h : TyB w q t) (hg : w.grownBy w' (some g)) (hn : q ≠ g) : TyB w' q t := by
  have hl := h.lt
  obtain ⟨cs, r, e⟩ := h
  exact ⟨cs, r, (hg.block q hl (fun e => hn (by injection e))).trans e⟩
theorem TyB.apart {w : World} {q g : Nat} {s t : TypeId} (h : TyB w q s) (h' : TyB w g t) (hn : s ≠ t) : q ≠ g := by
  rintro rfl
  obtain ⟨cs, r, e⟩ := h
  obtain ⟨cs', r', e'⟩ := h'
  rw [e] at e'
  injection e' with e'
  injection e' with _ e2 _
  exact hn e2
theorem TyB.new {w : World} {cs : Array Value} {t : TypeId} : TyB (w.alloc (.cells cs t)) w.heap.size t := ⟨_, _, heap_alloc_new w _⟩
def DigB (b : Nat) (w : World) (A : Option Addr) (l : List Int) : Prop := DigA w A l ∧ (l ≠ [] → ∀ a, A = some a → a.block < b ∨ TyB w a.block 77)
theorem DigB.grow {b : Nat} {w w' : World} {A : Option Addr} {l : List Int} (h : DigB b w A l) (hb : Below w.heap.size w w') : DigB b w' A l := ⟨h.1.grow hb, fun n a e => (h.2 n a e).imp id fun t => t.grow hb⟩
theorem DigB.more {b b' : Nat} {w : World} {A : Option Addr} {l : List Int} (h : DigB b w A l) (hb : b ≤ b') : DigB b' w A l := ⟨h.1, fun n a e => (h.2 n a e).imp (fun t => Nat.lt_of_lt_of_le t hb) id⟩
theorem DigA.keptL {w w' : World} {A : Option Addr} {l : List Int} {g : Nat} (h : DigA w A l) (hg : w.grownBy w' (some g)) (hn : l ≠ [] → ∀ a, A = some a → a.block ≠ g) : DigA w' A l := ⟨fun k v hk => by
  obtain ⟨ad, e, hb, hc⟩ := h.1 k v hk
  have hl : l ≠ [] := by intro e; rw [e] at hk; simp at hk
  have hne := hn hl ad e
  refine ⟨ad, e, Nat.lt_of_lt_of_le hb hg.size, ?_⟩
  exact (World.cell?_of_block (a := ad.add k) (by rw [block_add]; exact hg.block ad.block hb (fun e => hne (by injection e)))).trans hc, h.2⟩
theorem DigB.kept {b g : Nat} {w w' : World} {A : Option Addr} {l : List Int} {t : TypeId} (h : DigB b w A l) (hg : w.grownBy w' (some g)) (hb : b ≤ g) (ht : TyB w g t) (hn : t ≠ 77) : DigB b w' A l := by
  have hne : l ≠ [] → ∀ a, A = some a → a.block ≠ g := fun n a e => by
    rcases h.2 n a e with h | h
    · omega
    · exact h.apart ht (Ne.symm hn)
  refine ⟨h.1.keptL hg hne, fun n a e => (h.2 n a e).imp id fun t => t.kept hg (hne n a e)⟩
theorem OwG.ty {b : Nat} {w : World} {A : Option Addr} {n c : Nat} {l : List Int} (h : OwG b w (.slice A n c) l) (a : Addr) (e : A = some a) : TyB w a.block 77 := by
  subst e
  rcases h.1.2 with ⟨e, -⟩ | ⟨g, cap, cur, e, -, hh, -⟩
  · injection e with e; cases e
  · injection e with e
    injection e with e
    subst e
    exact ⟨_, _, hh⟩
theorem OwG.digB {b b' : Nat} {w : World} {A : Option Addr} {n c : Nat} {l : List Int} (h : OwG b w (.slice A n c) l) : DigB b' w A l := ⟨h.digA, fun _ a e => .inr (h.ty a e)⟩
theorem DigA.digB {w : World} {A : Option Addr} {l : List Int} (h : DigA w A l) : DigB w.heap.size w A l := ⟨h, fun n a e => .inl (by
  obtain ⟨x, hx⟩ := List.exists_mem_of_ne_nil l n
  obtain ⟨k, hk⟩ := List.getElem?_of_mem hx
  obtain ⟨ad, e2, hb, -⟩ := h.1 k (.int .u32 x) (by simp [hk])
  rw [e] at e2
  injection e2 with e2
  rw [e2]; exact hb)⟩
def SlB (b : Nat) (w : World) (v : Value) (l : List Int) (K : Nat) : Prop := ∃ A n c, v = .slice A n c ∧ DigB b w A l ∧ l.length = n ∧ n ≤ c ∧ n ≤ K
theorem SlB.grow {b : Nat} {w w' : World} {v : Value} {l : List Int} {K : Nat} (h : SlB b w v l K) (hb : Below w.heap.size w w') : SlB b w' v l K := by
  obtain ⟨A, n, c, e, d, r⟩ := h; exact ⟨A, n, c, e, d.grow hb, r⟩
theorem SlB.more {b b' : Nat} {w : World} {v : Value} {l : List Int} {K : Nat} (h : SlB b w v l K) (hb : b ≤ b') : SlB b' w v l K := by
  obtain ⟨A, n, c, e, d, r⟩ := h; exact ⟨A, n, c, e, d.more hb, r⟩
theorem SlB.kept {b g : Nat} {w w' : World} {v : Value} {l : List Int} {K : Nat} {t : TypeId} (h : SlB b w v l K) (hg : w.grownBy w' (some g)) (hb : b ≤ g) (ht : TyB w g t) (hn : t ≠ 77) : SlB b w' v l K := by
  obtain ⟨A, n, c, e, d, r⟩ := h; exact ⟨A, n, c, e, d.kept hg hb ht hn, r⟩
theorem SlB.le {b : Nat} {w : World} {v : Value} {l : List Int} {K M : Nat} (h : SlB b w v l K) (hb : K ≤ M) : SlB b w v l M := by
  obtain ⟨A, n, c, e, d, r1, r2, r3⟩ := h; exact ⟨A, n, c, e, d, r1, r2, Nat.le_trans r3 hb⟩
def frac (neg : Bool) (l r : List Int) : Rat := (sgn neg (nv l) : Rat) / (nv r : Rat)
def RatA (w : World) (v : Value) (z : Rat) (K : Nat) : Prop := ∃ neg A n c l B m d r, v = .agg #[.bool neg, .slice A n c, .slice B m d] ∧ (DigA w A l ∧ l.length = n ∧ n ≤ c ∧ n ≤ K) ∧ (DigA w B r ∧ r.length = m ∧ m ≤ d ∧ m ≤ K) ∧ z = frac neg l r
theorem RatA.grow {w w' : World} {v : Value} {z : Rat} {K : Nat} (h : RatA w v z K) (hb : Below w.heap.size w w') : RatA w' v z K := by
  obtain ⟨neg, A, n, c, l, B, m, d, r, e, ⟨h1, h2⟩, ⟨h3, h4⟩, h5⟩ := h
  exact ⟨neg, A, n, c, l, B, m, d, r, e, ⟨h1.grow hb, h2⟩, ⟨h3.grow hb, h4⟩, h5⟩
theorem RatA.le {w : World} {v : Value} {z : Rat} {K M : Nat} (h : RatA w v z K) (hm : K ≤ M) : RatA w v z M := by
  obtain ⟨neg, A, n, c, l, B, m, d, r, e, ⟨h1, h2, h2', h2''⟩, ⟨h3, h4, h4', h4''⟩, h5⟩ := h
  exact ⟨neg, A, n, c, l, B, m, d, r, e, ⟨h1, h2, h2', by omega⟩, ⟨h3, h4, h4', by omega⟩, h5⟩
def RatQ (b : Nat) (w : World) (v : Value) (z : Rat) (K : Nat) : Prop := ∃ p q : Int, RatO b w v p q K K ∧ 0 < q ∧ z = (p : Rat) / (q : Rat)
theorem RatQ.grow {b : Nat} {w w' : World} {v : Value} {z : Rat} {K : Nat} (h : RatQ b w v z K) (hb : Below w.heap.size w w') : RatQ b w' v z K := by
  obtain ⟨p, q, h, r⟩ := h; exact ⟨p, q, h.grow hb, r⟩
theorem RatQ.away {b g : Nat} {w w' : World} {v : Value} {z : Rat} {K : Nat} (h : RatQ b w v z K) (hb : w.grownBy w' (some g)) (hg : g < b) : RatQ b w' v z K := by
  obtain ⟨p, q, h, r⟩ := h; exact ⟨p, q, h.away hb hg, r⟩
theorem RatQ.base {b b' : Nat} {w : World} {v : Value} {z : Rat} {K : Nat} (h : RatQ b w v z K) (hb : b' ≤ b) : RatQ b' w v z K := by
  obtain ⟨p, q, h, r⟩ := h; exact ⟨p, q, h.base hb, r⟩
theorem RatO.le {b : Nat} {w : World} {v : Value} {p q : Int} {K M K' M' : Nat} (h : RatO b w v p q K M) (h1 : K ≤ K') (h2 : M ≤ M') : RatO b w v p q K' M' := by
  obtain ⟨n, A, c, l, B, d, r, e, ⟨o, o', o''⟩, t, t', t''⟩ := h; exact ⟨n, A, c, l, B, d, r, e, ⟨o, by omega, o''⟩, t, by omega, t''⟩
theorem RatQ.le {b : Nat} {w : World} {v : Value} {z : Rat} {K M : Nat} (h : RatQ b w v z K) (hm : K ≤ M) : RatQ b w v z M := by
  obtain ⟨p, q, h, r⟩ := h; exact ⟨p, q, h.le hm hm, r⟩
theorem RatQ.arg {b : Nat} {w : World} {v : Value} {z : Rat} {K : Nat} (h : RatQ b w v z K) : RatA w v z K := by
  obtain ⟨p, q, ⟨n, A, c, l, B, d, r, e, ⟨o, o', o''⟩, t, t', t''⟩, h0, hz⟩ := h
  refine ⟨n, A, _, c, l, B, _, d, r, e, ⟨o.digA, rfl, o.len.2, o'⟩, ⟨t.digA, rfl, t.len.2, t'⟩, ?_⟩
  rw [hz]; unfold frac; rw [o'', t'']
theorem RatQ.form {b : Nat} {w : World} {v : Value} {z : Rat} {K : Nat} (h : RatQ b w v z K) : ∃ ng A n c B m d, v = .agg #[.bool ng, .slice A n c, .slice B m d] := by
  obtain ⟨p, q, ⟨n, A, c, l, B, d, r, e, -⟩, -⟩ := h
  exact ⟨_, _, _, _, _, _, _, e⟩
def RetQ (w : World) (z : Rat) (K : Nat) (e : Ending) (w' : World) : Prop := ∃ v, e = .returned v ∧ RatQ w.heap.size w' v z K ∧ Below w.heap.size w w'
theorem cast_pos {q : Int} (h : 0 < q) : (q : Rat) ≠ 0 := by
  intro e
  have : q = 0 := Rat.intCast_inj.1 (by simpa using e)
  omega
theorem frac_eq {p q P Q : Int} (h1 : 0 < q) (h2 : 0 < Q) (h : p * Q = P * q) : (p : Rat) / (q : Rat) = (P : Rat) / (Q : Rat) := by
  have a := cast_pos h1
  have b := cast_pos h2
  have c : (p : Rat) * (Q : Rat) = (P : Rat) * (q : Rat) := by rw [← Rat.intCast_mul, ← Rat.intCast_mul, h]
  rw [Rat.div_def, Rat.div_def]
  have e1 : (p : Rat) * (q : Rat)⁻¹ = (p : Rat) * (Q : Rat) * ((Q : Rat)⁻¹ * (q : Rat)⁻¹) := by
    rw [Rat.mul_assoc, ← Rat.mul_assoc (Q : Rat), Rat.mul_inv_cancel _ b, Rat.one_mul]
  rw [e1, c, Rat.mul_comm (Q : Rat)⁻¹, Rat.mul_assoc, ← Rat.mul_assoc (q : Rat), Rat.mul_inv_cancel _ a, Rat.one_mul]
theorem RatE.rq {b : Nat} {w : World} {v : Value} {P Q : Int} {K M N : Nat} (h : RatE b w v P Q K M) (h0 : 0 < Q) (h1 : K ≤ N) (h2 : M ≤ N) : RatQ b w v ((P : Rat) / (Q : Rat)) N := by
  obtain ⟨p, q, o, e, hq⟩ := h
  exact ⟨p, q, o.le h1 h2, hq, (frac_eq hq h0 e).symm⟩
def NumA (b : Nat) (w : World) (v : Value) (z : Rat) (K : Nat) : Prop := ∃ ng A n c l B m d r wh, v = .agg #[.bool ng, .slice A n c, .slice B m d, .bool wh] ∧ (DigB b w A l ∧ l.length = n ∧ n ≤ c ∧ n ≤ K) ∧ (DigB b w B r ∧ r.length = m ∧ m ≤ d ∧ m ≤ K) ∧ (0 < nv r ∧ (wh = true → nv r = 1)) ∧ z = frac ng l r
theorem NumA.grow {b : Nat} {w w' : World} {v : Value} {z : Rat} {K : Nat} (h : NumA b w v z K) (hb : Below w.heap.size w w') : NumA b w' v z K := by
  obtain ⟨ng, A, n, c, l, B, m, d, r, wh, e, ⟨h1, h2⟩, ⟨h3, h4⟩, h5⟩ := h
  exact ⟨ng, A, n, c, l, B, m, d, r, wh, e, ⟨h1.grow hb, h2⟩, ⟨h3.grow hb, h4⟩, h5⟩
theorem NumA.more {b b' : Nat} {w : World} {v : Value} {z : Rat} {K : Nat} (h : NumA b w v z K) (hb : b ≤ b') : NumA b' w v z K := by
  obtain ⟨ng, A, n, c, l, B, m, d, r, wh, e, ⟨h1, h2⟩, ⟨h3, h4⟩, h5⟩ := h
  exact ⟨ng, A, n, c, l, B, m, d, r, wh, e, ⟨h1.more hb, h2⟩, ⟨h3.more hb, h4⟩, h5⟩
theorem NumA.kept {b g : Nat} {w w' : World} {v : Value} {z : Rat} {K : Nat} {t : TypeId} (h : NumA b w v z K) (hg : w.grownBy w' (some g)) (hb : b ≤ g) (ht : TyB w g t) (hn : t ≠ 77) : NumA b w' v z K := by
  obtain ⟨ng, A, n, c, l, B, m, d, r, wh, e, ⟨h1, h2⟩, ⟨h3, h4⟩, h5⟩ := h
  exact ⟨ng, A, n, c, l, B, m, d, r, wh, e, ⟨h1.kept hg hb ht hn, h2⟩, ⟨h3.kept hg hb ht hn, h4⟩, h5⟩
def RetNum (w : World) (z : Rat) (K : Nat) (e : Ending) (w' : World) : Prop := ∃ v, e = .returned v ∧ NumA w.heap.size w' v z K ∧ Below w.heap.size w w'
theorem frac_zero {neg : Bool} {l r : List Int} (h : nv r = 0) : frac neg l r = 0 := by
  unfold frac
  rw [h]
  simp [Rat.div_def]
def RetNumB (b : Nat) (w : World) (z : Rat) (K : Nat) (e : Ending) (w' : World) : Prop := ∃ v, e = .returned v ∧ NumA b w' v z K ∧ Below w.heap.size w w'
theorem rt_readB (v : Value) (z : Rat) (K : Nat) (w0 w : World) (h : RatA w0 v z K) (hw : Below w0.heap.size w0 w) (hK : 1 ≤ K) (h9 : K ≤ 1000000) : Calls Try.prog 86 #[v] w (RetNumB w0.heap.size w z K) := by
  obtain ⟨neg, A, n, c, l, B, m, d, r, rfl, ⟨h1, h2, h2', h2''⟩, ⟨h3, h4, h4', h4''⟩, rfl⟩ := h
  have old : ∀ (wh : Bool), 0 < nv r ∧ (wh = true → nv r = 1) → ∀ e w', RetV w (.agg #[.bool neg, .slice A n c, .slice B m d, .bool wh]) e w' → RetNumB w0.heap.size w (frac neg l r) K e w' := by
    rintro wh h0 e w' ⟨rfl, hb⟩
    exact ⟨_, rfl, ⟨neg, A, n, c, l, B, m, d, r, wh, rfl, ⟨(h1.digB.grow hw).grow hb, h2, h2', h2''⟩, ⟨(h3.digB.grow hw).grow hb, h4, h4', h4''⟩, h0, rfl⟩, hb⟩
  have new : nv r = 0 → ∀ e w', RetZ w e w' → RetNumB w0.heap.size w (frac neg l r) K e w' := by
    rintro h0 e w' ⟨g, rfl, o, hb⟩
    refine ⟨_, rfl, ⟨false, none, 0, 0, [], _, 1, 1, [1], true, rfl, ⟨⟨DigA.nil, fun h => absurd rfl h⟩, rfl, Nat.le_refl _, by omega⟩, ⟨o.digB, rfl, Nat.le_refl _, by omega⟩, ⟨by decide, fun _ => by decide⟩, ?_⟩, hb⟩
    rw [frac_zero h0]
    simp [frac, sgn, nv, Rat.div_def]
  have hp := nv_low h3.dig
  by_cases hm : m = 1
  · by_cases hr : r = [1]
    · subst hr
      subst hm
      exact (rt_read_one neg A B n c d w (h3.grow hw)).mono (old true ⟨by decide, fun _ => by decide⟩)
    · by_cases h0 : nv r = 0
      · exact (rt_read_zero1 neg A B n c m d r w (h3.grow hw) h4 h4' (by omega) hm hr h0).mono (new h0)
      · exact (rt_read_big1 neg A B n c m d r w (h3.grow hw) h4 h4' (by omega) hm hr h0).mono (old false ⟨by omega, fun h => by cases h⟩)
  · by_cases h0 : nv r = 0
    · exact (rt_read_zero neg A B n c m d r w (h3.grow hw) h4 h4' (by omega) hm h0).mono (new h0)
    · exact (rt_read_big neg A B n c m d r w (h3.grow hw) h4 h4' (by omega) hm h0).mono (old false ⟨by omega, fun h => by cases h⟩)
theorem rt_read (v : Value) (z : Rat) (K : Nat) (w : World) (h : RatA w v z K) (hK : 1 ≤ K) (h9 : K ≤ 1000000) : Calls Try.prog 86 #[v] w (RetNum w z K) := rt_readB v z K w w h (Below.refl _ _) hK h9
end Go.Proofs.Ytmdfgidejdiiiaa
end
section
namespace Go.Proofs.Ytmdfgidejdiiiaa
open Go.RowKit
def IntB (b : Nat) (w : World) (v : Value) (z : Int) (K : Nat) : Prop := ∃ neg A n c l, v = .agg #[.bool neg, .slice A n c] ∧ DigB b w A l ∧ l.length = n ∧ n ≤ c ∧ n ≤ K ∧ z = sgn neg (nv l)
theorem IntB.grow {b : Nat} {w w' : World} {v : Value} {z : Int} {K : Nat} (h : IntB b w v z K) (hb : Below w.heap.size w w') : IntB b w' v z K := by
  obtain ⟨g, A, n, c, l, e, d, r⟩ := h; exact ⟨g, A, n, c, l, e, d.grow hb, r⟩
theorem IntB.more {b b' : Nat} {w : World} {v : Value} {z : Int} {K : Nat} (h : IntB b w v z K) (hb : b ≤ b') : IntB b' w v z K := by
  obtain ⟨g, A, n, c, l, e, d, r⟩ := h; exact ⟨g, A, n, c, l, e, d.more hb, r⟩
theorem IntB.le {b : Nat} {w : World} {v : Value} {z : Int} {K M : Nat} (h : IntB b w v z K) (hb : K ≤ M) : IntB b w v z M := by
  obtain ⟨g, A, n, c, l, e, d, r1, r2, r3, r4⟩ := h; exact ⟨g, A, n, c, l, e, d, r1, r2, Nat.le_trans r3 hb, r4⟩
theorem IntO.intB {b b' : Nat} {w : World} {v : Value} {z : Int} {K : Nat} (h : IntO b w v z K) : IntB b' w v z K := by
  obtain ⟨g, A, c, l, e, o, n, k, s⟩ := h
  exact ⟨g, A, _, c, l, e, o.digB, rfl, o.len.2, k, s.symm⟩
theorem IntO.le {b : Nat} {w : World} {v : Value} {z : Int} {K M : Nat} (h : IntO b w v z K) (hb : K ≤ M) : IntO b w v z M := by
  obtain ⟨g, A, c, l, e, o, n, k, s⟩ := h; exact ⟨g, A, c, l, e, o, n, Nat.le_trans k hb, s⟩
theorem IntO.away {b g : Nat} {w w' : World} {v : Value} {z : Int} {K : Nat} (h : IntO b w v z K) (hb : w.grownBy w' (some g)) (hg : g < b) : IntO b w' v z K := by
  obtain ⟨g, A, c, l, e, o, n, k, s⟩ := h; exact ⟨g, A, c, l, e, o.away hb hg, n, k, s⟩
def PairB (b : Nat) (w : World) (v : Value) (z : Rat) (K : Nat) : Prop := ∃ neg A n c l B m d r, v = .agg #[.bool neg, .slice A n c, .slice B m d] ∧ (DigB b w A l ∧ l.length = n ∧ n ≤ c ∧ n ≤ K) ∧ (DigB b w B r ∧ r.length = m ∧ m ≤ d ∧ m ≤ K) ∧ 0 < nv r ∧ z = frac neg l r
theorem PairB.grow {b : Nat} {w w' : World} {v : Value} {z : Rat} {K : Nat} (h : PairB b w v z K) (hb : Below w.heap.size w w') : PairB b w' v z K := by
  obtain ⟨neg, A, n, c, l, B, m, d, r, e, ⟨h1, h2⟩, ⟨h3, h4⟩, h5⟩ := h
  exact ⟨neg, A, n, c, l, B, m, d, r, e, ⟨h1.grow hb, h2⟩, ⟨h3.grow hb, h4⟩, h5⟩
theorem rt_low (v : Value) (z : Rat) (K b : Nat) (w : World) (h : PairB b w v z K) (hK : K ≤ 1000000) : Calls Try.prog 90 #[v] w (RetQ w z K) := by
  obtain ⟨neg, A, n, c, l, B, m, d, r, rfl, ⟨h1, h2, h2', h2''⟩, ⟨h3, h4, h4', h4''⟩, h0, rfl⟩ := h
  refine (rt_lowest neg A B n c m d l r w h1.1 h3.1 h2 h4 h2' h4' (by omega) (by omega) h0).mono ?_
  rintro e w' ⟨v, rfl, hq, hb⟩
  exact ⟨v, rfl, hq.rq h0 h2'' h4'', hb⟩
def RetQb (b : Nat) (w : World) (z : Rat) (K : Nat) (e : Ending) (w' : World) : Prop := ∃ v, e = .returned v ∧ RatQ b w' v z K ∧ Below w.heap.size w w'
theorem RetQ.at_ {b : Nat} {w : World} {z : Rat} {K : Nat} {e : Ending} {w' : World} (h : RetQ w z K e w') (hb : b ≤ w.heap.size) : RetQb b w z K e w' := by
  obtain ⟨v, e, q, r⟩ := h; exact ⟨v, e, q.base hb, r⟩
theorem one_div (z : Int) : (z : Rat) = (z : Rat) / ((1 : Int) : Rat) := by
  have h := Rat.mul_inv_cancel ((1 : Int) : Rat) (cast_pos (by decide))
  rw [show ((1 : Int) : Rat) = 1 from rfl, Rat.one_mul] at h
  rw [Rat.div_def, show ((1 : Int) : Rat) = 1 from rfl, h, Rat.mul_one]
theorem rt_wholeQ (v : Value) (z : Int) (K b : Nat) (w : World) (h : IntO b w v z K) (hb : b ≤ w.heap.size) (hK : 1 ≤ K) : Calls Try.prog 88 #[v] w (RetQb b w (z : Rat) K) := by
  obtain ⟨neg, A, c, l, rfl, o, n, k, s⟩ := h
  refine (rt_whole neg A l.length c w).mono ?_
  rintro e w' ⟨g, rfl, o2, hb2⟩
  refine ⟨_, rfl, ⟨z, 1, ⟨neg, A, c, l, _, 1, [1], rfl, ⟨o.grow hb2, k, s⟩, o2.base hb, hK, by decide⟩, by decide, ?_⟩, hb2⟩
  exact one_div z
theorem RetI.le {w : World} {z : Int} {K M : Nat} {e : Ending} {w' : World} (h : RetI w z K e w') (hm : K ≤ M) : RetI w z M e w' := by
  obtain ⟨v, e, q, r⟩ := h; exact ⟨v, e, q.le hm, r⟩
theorem it_AddA (v u : Value) (x y : Int) (K M b b' : Nat) (w : World) (h : IntB b w v x K) (h' : IntB b' w u y M) (hK : K ≤ 1000000) (hM : M ≤ 1000000) : Calls Try.prog 94 #[v, u] w (RetI w (x + y) (max K M + 1)) := by
  obtain ⟨na, A, n, c, a, rfl, d, n1, n2, n3, rfl⟩ := h
  obtain ⟨nb, B, m, e, r, rfl, d', m1, m2, m3, rfl⟩ := h'
  exact (it_Add na nb A B n m c e a r w d.1 d'.1 n1 m1 n2 m2 (by omega) (by omega)).mono fun _ _ h => h.le (by omega)
theorem it_MulA (v u : Value) (x y : Int) (K M b b' : Nat) (w : World) (h : IntB b w v x K) (h' : IntB b' w u y M) (hK : K ≤ 1000000) (hM : M ≤ 1000000) : Calls Try.prog 87 #[v, u] w (RetI w (x * y) (K + M)) := by
  obtain ⟨na, A, n, c, a, rfl, d, n1, n2, n3, rfl⟩ := h
  obtain ⟨nb, B, m, e, r, rfl, d', m1, m2, m3, rfl⟩ := h'
  exact (it_Mul na nb A B n m c e a r w d.1 d'.1 n1 m1 n2 m2 (by omega) (by omega)).mono fun _ _ h => h.le (by omega)
theorem nt_MulA (v u : Value) (a r : List Int) (K M b b' : Nat) (w : World) (h : SlB b w v a K) (h' : SlB b' w u r M) (hK : K ≤ 1000000) (hM : M ≤ 1000000) : Calls Try.prog 89 #[v, u] w (RetN w (nv a * nv r) (K + M)) := by
  obtain ⟨A, n, c, rfl, d, n1, n2, n3⟩ := h
  obtain ⟨B, m, e, rfl, d', m1, m2, m3⟩ := h'
  exact (nt_Mul A B n m c e a r w d.1 d'.1 n1 m1 n2 m2 (by omega) (by omega)).mono fun _ _ h => h.le (by omega)
theorem nt_CompareA (v u : Value) (a r : List Int) (K M b b' : Nat) (w : World) (h : SlB b w v a K) (h' : SlB b' w u r M) (hK : K ≤ 1000000) (hM : M ≤ 1000000) : Calls Try.prog 95 #[v, u] w fun e w' => e = .returned (.int .i64 (cmpI (nv a) (nv r))) ∧ Below w.heap.size w w' := by
  obtain ⟨A, n, c, rfl, d, n1, n2, n3⟩ := h
  obtain ⟨B, m, e, rfl, d', m1, m2, m3⟩ := h'
  exact nt_Compare A B n m c e a r w d.1 d'.1 n1 m1 n2 m2 (by omega) (by omega)
inductive Dt where
  | v (u : Value)
  | num (x : Int) (K : Nat)
  | int (z : Int) (K : Nat)
  | rq (z : Rat) (K : Nat)
  | box (t : TypeId) (cs : List Value)
  | two (q r : Int) (K M : Nat)
  | rd (z : Rat) (K : Nat)
  | pr (z : Rat) (K : Nat)
  | gen (P : Nat → World → Value → Prop) (h : ∀ b w w' v, P b w v → Below w.heap.size w w' → P b w' v)
  | any
def TwoO (b : Nat) (w : World) (v : Value) (q r : Int) (K M : Nat) : Prop := ∃ u1 u2, v = .tuple #[u1, u2, .int .i64 0] ∧ IntO b w u1 q K ∧ IntO b w u2 r M
theorem TwoO.grow {b : Nat} {w w' : World} {v : Value} {q r : Int} {K M : Nat} (h : TwoO b w v q r K M) (hb : Below w.heap.size w w') : TwoO b w' v q r K M := by
  obtain ⟨u1, u2, e, h1, h2⟩ := h; exact ⟨u1, u2, e, h1.grow hb, h2.grow hb⟩
def BoxO (b : Nat) (w : World) (v : Value) (t : TypeId) (cs : List Value) : Prop := ∃ g, v = .pointer (some ⟨g, 0, none⟩) ∧ b ≤ g ∧ Box w g cs ∧ TyB w g t
theorem BoxO.grow {b : Nat} {w w' : World} {v : Value} {t : TypeId} {cs : List Value} (h : BoxO b w v t cs) (hb : Below w.heap.size w w') : BoxO b w' v t cs := by
  obtain ⟨g, e, h1, h2, h3⟩ := h; exact ⟨g, e, h1, h2.keep hb, h3.grow hb⟩
def dT (b : Nat) (ds : List Dt) (i : Nat) (v : Value) (w : World) : Prop :=
  match ds[i]? with
  | some (.v u) => v = u
  | some (.num x K) => NumO b w v x K
  | some (.int z K) => IntO b w v z K
  | some (.rq z K) => RatQ b w v z K
  | some (.box t cs) => BoxO b w v t cs
  | some (.two q r K M) => TwoO b w v q r K M
  | some (.rd z K) => NumA b w v z K
  | some (.pr z K) => PairB b w v z K
  | some (.gen P _) => P b w v
  | some .any => True
  | none => True
theorem dT_keep {b : Nat} {ds : List Dt} {w w' : World} (h : Below w.heap.size w w') (i : Nat) (v : Value) (hf : dT b ds i v w) : dT b ds i v w' := by
  unfold dT at hf ⊢
  split at hf
  · exact hf
  · exact hf.grow h
  · exact hf.grow h
  · exact hf.grow h
  · exact hf.grow h
  · exact hf.grow h
  · exact hf.grow h
  · exact hf.grow h
  · rename_i P hP _
    exact hP _ _ _ _ hf h
  · trivial
  · trivial
def isBx (ds : List Dt) (j : Nat) : Bool := match ds[j]? with
  | some (.box _ _) => true
  | _ => false
def gT (ds : List Dt) (j : Nat) (v : Value) (a b : World) : Prop := Below a.heap.size a b ∧ (isBx ds j = true → v = .pointer (some ⟨a.heap.size, 0, none⟩))
theorem box_ne {b : Nat} {ds : List Dt} {i j : Nat} {u v : Value} {w : World} {t s : TypeId} {cs ds' : List Value} (hi : ds[i]? = some (.box t cs)) (hj : ds[j]? = some (.box s ds'))
    (h : Prior4 (dT b ds) (gT ds) (fun a b => Below a.heap.size a b) i j u v w ∨ Prior4 (dT b ds) (gT ds) (fun a b => Below a.heap.size a b) j i v u w) : u ≠ v := by
  have bi : isBx ds i = true := by unfold isBx; rw [hi]
  have bj : isBx ds j = true := by unfold isBx; rw [hj]
  rintro rfl
  rcases h with ⟨w1, w2, h1, ⟨-, h2⟩, -⟩ | ⟨w1, w2, h1, ⟨-, h2⟩, -⟩
  · unfold dT at h1
    rw [hi] at h1
    obtain ⟨g, e, -, hb, -⟩ := h1
    have := h2 bj
    rw [e] at this
    injection this with this; injection this with this; injection this with this
    have := hb.1
    omega
  · unfold dT at h1
    rw [hj] at h1
    obtain ⟨g, e, -, hb, -⟩ := h1
    have := h2 bi
    rw [e] at this
    injection this with this; injection this with this; injection this with this
    have := hb.1
    omega
theorem BoxO.new {b : Nat} {w : World} {t : TypeId} {cs : Array Value} (hb : b ≤ w.heap.size) : BoxO b (w.alloc (.cells cs t)) (.pointer (some ⟨w.heap.size, 0, none⟩)) t cs.toList := ⟨_, rfl, hb, Box.new rfl, TyB.new⟩
end Go.Proofs.Ytmdfgidejdiiiaa
end
section
namespace Go.Proofs.Ytmdfgidejdiiiaa
open Go.RowKit
theorem fld_num (b0 b1 : Bool) (A B : Option Addr) (n c m d : Nat) (w : World) : (Instr.field 113 (.agg #[.bool b0, .slice A n c, .slice B m d, .bool b1]) 0).run Try.prog w = .ok (.agg #[.bool b0, .slice A n c, .slice B m d]) w := by kernel_rfl
theorem cast_lt {q : Int} (h : 0 < q) : (0 : Rat) < (q : Rat) := by
  have := Rat.intCast_lt_intCast.2 h
  simpa using this
theorem rt_OfQ (k : Int) (w : World) (hk : I64 k) : Calls Try.prog 43 #[.int .i64 k] w (RetQ w (k : Rat) 2) := by
  refine (rt_Of k w hk).mono ?_
  rintro e w' ⟨v, rfl, hq, hb⟩
  exact ⟨v, rfl, ⟨k, 1, hq.le (Nat.le_refl _) (by decide), by decide, one_div k⟩, hb⟩
theorem sgn_ne {b : Bool} {x y : Int} (h : sgn b x = y) (hy : y ≠ 0) (hx : 0 ≤ x) : 0 < x := by
  cases b <;> simp [sgn] at h <;> omega
theorem inv_neg' {x : Rat} (h : x ≠ 0) : (-x)⁻¹ = -x⁻¹ := by
  have h' : -x ≠ 0 := fun e => h (by rw [← Rat.neg_neg x, e]; rfl)
  have e1 : x⁻¹ * ((-x) * (-x)⁻¹) = x⁻¹ := by rw [Rat.mul_inv_cancel _ h', Rat.mul_one]
  rw [← Rat.mul_assoc, Rat.mul_neg, Rat.mul_comm x⁻¹, Rat.mul_inv_cancel _ h, Rat.neg_mul, Rat.one_mul] at e1
  rw [← e1, Rat.neg_neg]
theorem neg_div (a b : Int) (hb : 0 < b) : ((a : Rat) / ((-b : Int) : Rat)) = ((-a : Int) : Rat) / (b : Rat) := by
  rw [Rat.intCast_neg, Rat.intCast_neg, Rat.div_def, Rat.div_def, inv_neg' (cast_pos hb), Rat.mul_neg, Rat.neg_mul]
theorem PairB.mk {b : Nat} {w : World} {ng : Bool} {A B : Option Addr} {n c m d : Nat} {l r : List Int} {z : Rat} {K : Nat} (h1 : DigB b w A l ∧ l.length = n ∧ n ≤ c ∧ n ≤ K) (h3 : DigB b w B r ∧ r.length = m ∧ m ≤ d ∧ m ≤ K) (h0 : 0 < nv r) (hz : z = frac ng l r) : PairB b w (.agg #[.bool ng, .slice A n c, .slice B m d]) z K := ⟨_, _, _, _, _, _, _, _, _, rfl, h1, h3, h0, hz⟩
theorem IntB.mk {b : Nat} {w : World} {ng : Bool} {A : Option Addr} {n c : Nat} {l : List Int} {K : Nat} (h1 : DigB b w A l ∧ l.length = n ∧ n ≤ c ∧ n ≤ K) : IntB b w (.agg #[.bool ng, .slice A n c]) (sgn ng (nv l)) K := ⟨_, _, _, _, _, rfl, h1.1, h1.2.1, h1.2.2.1, h1.2.2.2, rfl⟩
theorem pair_of {b : Nat} {w : World} {na nb : Bool} {A1 A2 : Option Addr} {n1 c1 n2 c2 : Nat} {x y : Int} {K b1 b2 : Nat} (hy : y ≠ 0) (h1 : IntO b1 w (.agg #[.bool na, .slice A1 n1 c1]) x K) (h2 : IntO b2 w (.agg #[.bool nb, .slice A2 n2 c2]) y K) : PairB b w (.agg #[.bool (na != nb), .slice A1 n1 c1, .slice A2 n2 c2]) ((x : Rat) / (y : Rat)) K := by
  obtain ⟨g, A, c, l, e, o, n, k, s⟩ := h1
  obtain ⟨g', A', c', l', e', o', n', k', s'⟩ := h2
  simp at e e'
  obtain ⟨rfl, rfl, rfl, rfl⟩ := e
  obtain ⟨rfl, rfl, rfl, rfl⟩ := e'
  have hp := sgn_ne s' hy (nv_low o'.dig)
  refine ⟨_, _, _, _, l, _, _, _, l', rfl, ⟨o.digB, rfl, o.len.2, k⟩, ⟨o'.digB, rfl, o'.len.2, k'⟩, hp, ?_⟩
  rw [← s, ← s']
  have hne := cast_pos hp
  unfold frac
  cases na <;> cases nb <;> simp only [sgn, Bool.bne_false, Bool.bne_true, Bool.not_true, Bool.not_false, if_true, if_false, Bool.false_eq_true]
  · exact neg_div _ _ hp
  · rw [neg_div _ _ hp, Int.neg_neg]
set_option maxRecDepth 100000 in
set_option maxHeartbeats 4000000 in
theorem rt_Trim (v : Value) (z : Rat) (K : Nat) (w : World) (h : RatA w v z K) (hK : 1 ≤ K) (h9 : K ≤ 1000000) : Calls Try.prog 75 #[v] w (RetQ w z K) := by
  have CR : Hid (∀ w1, Below w.heap.size w w1 → Calls Try.prog 86 #[v] w1 (RetNum w1 z K)) := Lib.hid fun w1 hb => rt_read v z K w1 (h.grow hb) hK h9
  obtain ⟨neg, A, n, c, l, B, m, d, r, rfl, -⟩ := h
  have CL : Hid (∀ v1 w1 b, PairB b w1 v1 z K → Calls Try.prog 90 #[v1] w1 (RetQ w1 z K)) := Lib.hid fun v1 w1 b h => rt_low v1 z K b w1 h h9
  obtain ⟨dsR, hR1, hR2⟩ := row_Rat
  have HR := Lib.hid (And.intro hR1 hR2)
  clear hR1 hR2
  have hfn := @fld_num
  go_enter Try.func75, Try.ntmps75
  go_upto_region 1 with fail
  have hB0 : Below w.heap.size w ((w.alloc (.cells #[.bool neg, .slice A n c, .slice B m d] 28)).alloc (.cells #[.bool false, .slice none 0 0, .slice none 0 0] 28)) := (((Below.refl _ _).alloc (Nat.le_refl _) _).alloc (by simp; try omega) _)
  have bx0 : Box ((w.alloc (.cells #[.bool neg, .slice A n c, .slice B m d] 28)).alloc (.cells #[.bool false, .slice none 0 0, .slice none 0 0] 28)) (w.heap.size) [.bool neg, .slice A n c, .slice B m d] := ((Box.new (by simp)).alloc _)
  have bx1 : Box ((w.alloc (.cells #[.bool neg, .slice A n c, .slice B m d] 28)).alloc (.cells #[.bool false, .slice none 0 0, .slice none 0 0] 28)) (w.heap.size + 1) [.bool false, .slice none 0 0, .slice none 0 0] := (Box.new (by simp))
  generalize (w.alloc (.cells #[.bool neg, .slice A n c, .slice B m d] 28)).alloc (.cells #[.bool false, .slice none 0 0, .slice none 0 0] 28) = wA at hB0 bx0 bx1 ⊢
  have HA := Lib.hid (And.intro hB0 (And.intro bx0 bx1))
  clear hB0 bx0 bx1
  go_wp2_with (first
    | ((with_reducible show wpList _ _ _ (Oper.mk _ (.load 28 _) _ _ _ _ :: _) _ _); refine wp_ld rfl 28 _ rfl (w.heap.size) 0 rfl (HA.out.2.1) [.bool neg, .slice A n c, .slice B m d] (fun j v h => by rcases j with _ | _ | _ | j <;> simp at h ⊢ <;> exact h) dsR HR.out.1 HR.out.2 size_Rat ?_)
    | (go_at_call 86; (with_reducible refine (CR.out _ HA.out.1).mono ?_); rintro e1 w1 ⟨v1, rfl, ⟨ng1, A1, n1, c1, l1, B1, m1, d1, r1, wh1, rfl, ⟨h1, h2, h2', h2''⟩, ⟨h3, h4, h4', h4''⟩, ⟨h0, h0'⟩, hz⟩, hb1⟩; have HB1 := Lib.hid hb1; have HL1 := Lib.hid (And.intro h1 (And.intro h2 (And.intro h2' h2''))); have HM1 := Lib.hid (And.intro h3 (And.intro h4 (And.intro h4' h4''))); have H01 := Lib.hid (And.intro h0 (And.intro h0' hz)); clear h1 h2 h2' h2'' h3 h4 h4' h4'' h0 h0' hz hb1)
    | (go_at_call 90; (with_reducible refine (CL.out _ _ wA.heap.size (PairB.mk HL1.out HM1.out H01.out.1 H01.out.2.2)).mono ?_); rintro e2 w2 ⟨v2, rfl, hq, hb2⟩; have HQ := Lib.hid hq; obtain ⟨g2, A2, n2, c2, B2, m2, d2, rfl⟩ := hq.form; have HB2 := Lib.hid hb2; clear hq hb2)
    | ((with_reducible show wpList _ _ _ (Oper.mk none (.store 28 _ _) _ _ _ _ :: _) _ _); refine wp_st rfl 28 _ _ rfl (w.heap.size + 1) 0 [_, _, _] rfl rfl size_Rat rfl ((HA.out.2.2.keep HB1.out).keep HB2.out) (Nat.le_refl _) rfl ?_; intro W9 c9 g9))
  have hb1 := below_then HA.out.1 HB1.out
  have hW := put_facts (g := w.heap.size + 1) (below_then hb1 HB2.out) (by omega) g9
  have hq := (HQ.out.away g9 (Nat.lt_of_lt_of_le HA.out.2.2.1 HB1.out.size)).base (b' := w.heap.size) hb1.size
  refine bodyPost_ret (resC rfl _ _ W9 (g := w.heap.size + 1) rfl (res_box 28 c9 dsR HR.out.1 HR.out.2 size_Rat)) rfl ?_
  exact ⟨_, rfl, hq, hW⟩
set_option maxRecDepth 100000 in
set_option maxHeartbeats 4000000 in
theorem rt_Frac (x y : Int) (w : World) (hx : I64 x) (hy : I64 y) : Calls Try.prog 46 #[.int .i64 x, .int .i64 y] w (RetQ w ((x : Rat) / (y : Rat)) 2) := by
  have CX : Hid (∀ w1, Calls Try.prog 91 #[.int .i64 x] w1 (RetI w1 x 2)) := Lib.hid fun w1 => it_Of x w1 hx
  have CY : Hid (∀ w1, Calls Try.prog 91 #[.int .i64 y] w1 (RetI w1 y 2)) := Lib.hid fun w1 => it_Of y w1 hy
  have CL : Hid (∀ v1 w1 b, PairB b w1 v1 ((x : Rat) / (y : Rat)) 2 → Calls Try.prog 90 #[v1] w1 (RetQ w1 ((x : Rat) / (y : Rat)) 2)) := Lib.hid fun v1 w1 b h => rt_low v1 _ 2 b w1 h (by decide)
  obtain ⟨dsR, hR1, hR2⟩ := row_Rat
  have HR := Lib.hid (And.intro hR1 hR2)
  clear hR1 hR2
  by_cases h0 : y = 0
  · subst h0
    have CZ : Hid (∀ w1, Calls Try.prog 43 #[.int .i64 0] w1 (RetQ w1 ((x : Rat) / ((0 : Int) : Rat)) 2)) := Lib.hid fun w1 => by
      rw [show (x : Rat) / ((0 : Int) : Rat) = ((0 : Int) : Rat) by simp [Rat.div_def]]
      exact rt_OfQ 0 w1 (by unfold I64; omega)
    clear hx hy CX CY CL
    go_enter Try.func46, Try.ntmps46
    go_upto_region 1 with fail
    have hB0 : Below w.heap.size w (w.alloc (.cells #[.bool false, .slice none 0 0, .slice none 0 0] 28)) := ((Below.refl _ _).alloc (Nat.le_refl _) _)
    have bx0 : Box (w.alloc (.cells #[.bool false, .slice none 0 0, .slice none 0 0] 28)) (w.heap.size) [.bool false, .slice none 0 0, .slice none 0 0] := (Box.new (by simp))
    generalize w.alloc (.cells #[.bool false, .slice none 0 0, .slice none 0 0] 28) = wA at hB0 bx0 ⊢
    have HA := Lib.hid (And.intro hB0 bx0)
    clear hB0 bx0
    go_wp2_with (first
      | (go_at_call 43; (with_reducible refine (CZ.out _).mono ?_); rintro e2 w2 ⟨v2, rfl, hq, hb2⟩; have HQ := Lib.hid hq; obtain ⟨g2, A2, n2, c2, B2, m2, d2, rfl⟩ := hq.form; have HB2 := Lib.hid hb2; clear hq hb2)
      | ((with_reducible show wpList _ _ _ (Oper.mk none (.store 28 _ _) _ _ _ _ :: _) _ _); refine wp_st rfl 28 _ _ rfl (w.heap.size) 0 [_, _, _] rfl rfl size_Rat rfl (HA.out.2.keep HB2.out) (Nat.le_refl _) rfl ?_; intro W9 c9 g9))
    have hW := put_facts (g := w.heap.size) (below_then HA.out.1 HB2.out) (by omega) g9
    have hq := (HQ.out.away g9 HA.out.2.1).base (b' := w.heap.size) HA.out.1.size
    refine bodyPost_ret (resC rfl _ _ W9 (g := w.heap.size) rfl (res_box 28 c9 dsR HR.out.1 HR.out.2 size_Rat)) rfl ?_
    exact ⟨_, rfl, hq, hW⟩
  · have H0 := Lib.hid h0
    clear hx hy h0
    go_enter Try.func46, Try.ntmps46
    have h0 := H0.out
    go_upto_region 1 with fail
    have hB0 : Below w.heap.size w (w.alloc (.cells #[.bool false, .slice none 0 0, .slice none 0 0] 28)) := ((Below.refl _ _).alloc (Nat.le_refl _) _)
    have bx0 : Box (w.alloc (.cells #[.bool false, .slice none 0 0, .slice none 0 0] 28)) (w.heap.size) [.bool false, .slice none 0 0, .slice none 0 0] := (Box.new (by simp))
    generalize w.alloc (.cells #[.bool false, .slice none 0 0, .slice none 0 0] 28) = wA at hB0 bx0 ⊢
    have HA := Lib.hid (And.intro hB0 bx0)
    clear hB0 bx0
    go_upto_region 3 with fail
    go_wp2_with (first
      | (go_at_call 91; first
          | ((with_reducible refine (CX.out _).mono ?_); rintro e1 w1 ⟨v1, rfl, hi, hb1⟩; have HI := Lib.hid hi; obtain ⟨na, A1, c1, l1, rfl, -⟩ := hi; have HB1 := Lib.hid hb1; clear hb1)
          | ((with_reducible refine (CY.out _).mono ?_); rintro e2 w2 ⟨v2, rfl, hi, hb2⟩; have HJ := Lib.hid hi; obtain ⟨nb, A2, c2, l2, rfl, -⟩ := hi; have HB2 := Lib.hid hb2; clear hb2))
      | (go_at_call 96; (with_reducible refine (rt_quotient _ _ _ _ _ _ _ _ _).mono ?_); rintro e3 w3 ⟨rfl, hb3⟩; have HB3 := Lib.hid hb3; clear hb3)
      | (go_at_call 90; (with_reducible refine (CL.out _ _ w1.heap.size (pair_of H0.out ((HI.out.grow HB2.out).grow HB3.out) (HJ.out.grow HB3.out))).mono ?_); rintro e4 w4 ⟨v4, rfl, hq, hb4⟩; have HQ := Lib.hid hq; obtain ⟨g4, A4, n4, c4, B4, m4, d4, rfl⟩ := hq.form; have HB4 := Lib.hid hb4; clear hq hb4)
      | ((with_reducible show wpList _ _ _ (Oper.mk none (.store 28 _ _) _ _ _ _ :: _) _ _); refine wp_st rfl 28 _ _ rfl (w.heap.size) 0 [_, _, _] rfl rfl size_Rat rfl ((((HA.out.2.keep HB1.out).keep HB2.out).keep HB3.out).keep HB4.out) (Nat.le_refl _) rfl ?_; intro W9 c9 g9))
    have hb3 := below_then (below_then (below_then HA.out.1 HB1.out) HB2.out) HB3.out
    have hW := put_facts (g := w.heap.size) (below_then hb3 HB4.out) (by omega) g9
    have hq := (HQ.out.away g9 (Nat.lt_of_lt_of_le HA.out.2.1 (below_then (below_then HB1.out HB2.out) HB3.out).size)).base (b' := w.heap.size) hb3.size
    refine bodyPost_ret (resC rfl _ _ W9 (g := w.heap.size) rfl (res_box 28 c9 dsR HR.out.1 HR.out.2 size_Rat)) rfl ?_
    exact ⟨_, rfl, hq, hW⟩
end Go.Proofs.Ytmdfgidejdiiiaa
end
