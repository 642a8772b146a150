/- Several texts in one: Z3 Z4. -/
import Derived.Test.YtmdfgidejdiiiaanZ2toJ7
set_option linter.unusedVariables false
set_option linter.unusedSimpArgs false
section
namespace Go.Proofs.Ytmdfgidejdiiiaa
open Go.RowKit
def TyB (w : World) (q : Nat) (t : TypeId) : Prop := ∃ cs r, w.heap[q]? = some (.cells cs t r)
theorem TyB.lt {w : World} {q : Nat} {t : TypeId} (h : TyB w q t) : q < w.heap.size := by
  obtain ⟨cs, r, e⟩ := h
  exact (Array.getElem?_eq_some_iff.1 e).1
theorem TyB.grow {w w' : World} {q : Nat} {t : TypeId} (h : TyB w q t) (hb : Below w.heap.size w w') : TyB w' q t := by
  have hl := h.lt
  obtain ⟨cs, r, e⟩ := h
  exact ⟨cs, r, (hb.block q hl).trans e⟩
theorem TyB.kept {w w' : World} {q g : Nat} {t : TypeId} (h : TyB w q t) (hg : w.grownBy w' (some g)) (hn : q ≠ g) : TyB w' q t := by
  have hl := h.lt
  obtain ⟨cs, r, e⟩ := h
  exact ⟨cs, r, (hg.block q hl (fun e => hn (by injection e))).trans e⟩
theorem TyB.apart {w : World} {q g : Nat} {s t : TypeId} (h : TyB w q s) (h' : TyB w g t) (hn : s ≠ t) : q ≠ g := by
  rintro rfl
  obtain ⟨cs, r, e⟩ := h
  obtain ⟨cs', r', e'⟩ := h'
  rw [e] at e'
  injection e' with e'
  injection e' with _ e2 _
  exact hn e2
theorem TyB.new {w : World} {cs : Array Value} {t : TypeId} : TyB (w.alloc (.cells cs t)) w.heap.size t := ⟨_, _, heap_alloc_new w _⟩
def DigB (b : Nat) (w : World) (A : Option Addr) (l : List Int) : Prop := DigA w A l ∧ (l ≠ [] → ∀ a, A = some a → a.block < b ∨ TyB w a.block 77)
theorem DigB.grow {b : Nat} {w w' : World} {A : Option Addr} {l : List Int} (h : DigB b w A l) (hb : Below w.heap.size w w') : DigB b w' A l := ⟨h.1.grow hb, fun n a e => (h.2 n a e).imp id fun t => t.grow hb⟩
theorem DigB.more {b b' : Nat} {w : World} {A : Option Addr} {l : List Int} (h : DigB b w A l) (hb : b ≤ b') : DigB b' w A l := ⟨h.1, fun n a e => (h.2 n a e).imp (fun t => Nat.lt_of_lt_of_le t hb) id⟩
theorem DigA.keptL {w w' : World} {A : Option Addr} {l : List Int} {g : Nat} (h : DigA w A l) (hg : w.grownBy w' (some g)) (hn : l ≠ [] → ∀ a, A = some a → a.block ≠ g) : DigA w' A l := ⟨fun k v hk => by
  obtain ⟨ad, e, hb, hc⟩ := h.1 k v hk
  have hl : l ≠ [] := by intro e; rw [e] at hk; simp at hk
  have hne := hn hl ad e
  refine ⟨ad, e, Nat.lt_of_lt_of_le hb hg.size, ?_⟩
  exact (World.cell?_of_block (a := ad.add k) (by rw [block_add]; exact hg.block ad.block hb (fun e => hne (by injection e)))).trans hc, h.2⟩
theorem DigB.kept {b g : Nat} {w w' : World} {A : Option Addr} {l : List Int} {t : TypeId} (h : DigB b w A l) (hg : w.grownBy w' (some g)) (hb : b ≤ g) (ht : TyB w g t) (hn : t ≠ 77) : DigB b w' A l := by
  have hne : l ≠ [] → ∀ a, A = some a → a.block ≠ g := fun n a e => by
    rcases h.2 n a e with h | h
    · omega
    · exact h.apart ht (Ne.symm hn)
  refine ⟨h.1.keptL hg hne, fun n a e => (h.2 n a e).imp id fun t => t.kept hg (hne n a e)⟩
theorem OwG.ty {b : Nat} {w : World} {A : Option Addr} {n c : Nat} {l : List Int} (h : OwG b w (.slice A n c) l) (a : Addr) (e : A = some a) : TyB w a.block 77 := by
  subst e
  rcases h.1.2 with ⟨e, -⟩ | ⟨g, cap, cur, e, -, hh, -⟩
  · injection e with e; cases e
  · injection e with e
    injection e with e
    subst e
    exact ⟨_, _, hh⟩
theorem OwG.digB {b b' : Nat} {w : World} {A : Option Addr} {n c : Nat} {l : List Int} (h : OwG b w (.slice A n c) l) : DigB b' w A l := ⟨h.digA, fun _ a e => .inr (h.ty a e)⟩
theorem DigA.digB {w : World} {A : Option Addr} {l : List Int} (h : DigA w A l) : DigB w.heap.size w A l := ⟨h, fun n a e => .inl (by
  obtain ⟨x, hx⟩ := List.exists_mem_of_ne_nil l n
  obtain ⟨k, hk⟩ := List.getElem?_of_mem hx
  obtain ⟨ad, e2, hb, -⟩ := h.1 k (.int .u32 x) (by simp [hk])
  rw [e] at e2
  injection e2 with e2
  rw [e2]; exact hb)⟩
def SlB (b : Nat) (w : World) (v : Value) (l : List Int) (K : Nat) : Prop := ∃ A n c, v = .slice A n c ∧ DigB b w A l ∧ l.length = n ∧ n ≤ c ∧ n ≤ K
theorem SlB.grow {b : Nat} {w w' : World} {v : Value} {l : List Int} {K : Nat} (h : SlB b w v l K) (hb : Below w.heap.size w w') : SlB b w' v l K := by
  obtain ⟨A, n, c, e, d, r⟩ := h; exact ⟨A, n, c, e, d.grow hb, r⟩
theorem SlB.more {b b' : Nat} {w : World} {v : Value} {l : List Int} {K : Nat} (h : SlB b w v l K) (hb : b ≤ b') : SlB b' w v l K := by
  obtain ⟨A, n, c, e, d, r⟩ := h; exact ⟨A, n, c, e, d.more hb, r⟩
theorem SlB.kept {b g : Nat} {w w' : World} {v : Value} {l : List Int} {K : Nat} {t : TypeId} (h : SlB b w v l K) (hg : w.grownBy w' (some g)) (hb : b ≤ g) (ht : TyB w g t) (hn : t ≠ 77) : SlB b w' v l K := by
  obtain ⟨A, n, c, e, d, r⟩ := h; exact ⟨A, n, c, e, d.kept hg hb ht hn, r⟩
theorem SlB.le {b : Nat} {w : World} {v : Value} {l : List Int} {K M : Nat} (h : SlB b w v l K) (hb : K ≤ M) : SlB b w v l M := by
  obtain ⟨A, n, c, e, d, r1, r2, r3⟩ := h; exact ⟨A, n, c, e, d, r1, r2, Nat.le_trans r3 hb⟩
def frac (neg : Bool) (l r : List Int) : Rat := (sgn neg (nv l) : Rat) / (nv r : Rat)
def RatA (w : World) (v : Value) (z : Rat) (K : Nat) : Prop := ∃ neg A n c l B m d r, v = .agg #[.bool neg, .slice A n c, .slice B m d] ∧ (DigA w A l ∧ l.length = n ∧ n ≤ c ∧ n ≤ K) ∧ (DigA w B r ∧ r.length = m ∧ m ≤ d ∧ m ≤ K) ∧ z = frac neg l r
theorem RatA.grow {w w' : World} {v : Value} {z : Rat} {K : Nat} (h : RatA w v z K) (hb : Below w.heap.size w w') : RatA w' v z K := by
  obtain ⟨neg, A, n, c, l, B, m, d, r, e, ⟨h1, h2⟩, ⟨h3, h4⟩, h5⟩ := h
  exact ⟨neg, A, n, c, l, B, m, d, r, e, ⟨h1.grow hb, h2⟩, ⟨h3.grow hb, h4⟩, h5⟩
theorem RatA.le {w : World} {v : Value} {z : Rat} {K M : Nat} (h : RatA w v z K) (hm : K ≤ M) : RatA w v z M := by
  obtain ⟨neg, A, n, c, l, B, m, d, r, e, ⟨h1, h2, h2', h2''⟩, ⟨h3, h4, h4', h4''⟩, h5⟩ := h
  exact ⟨neg, A, n, c, l, B, m, d, r, e, ⟨h1, h2, h2', by omega⟩, ⟨h3, h4, h4', by omega⟩, h5⟩
def RatQ (b : Nat) (w : World) (v : Value) (z : Rat) (K : Nat) : Prop := ∃ p q : Int, RatO b w v p q K K ∧ 0 < q ∧ z = (p : Rat) / (q : Rat)
theorem RatQ.grow {b : Nat} {w w' : World} {v : Value} {z : Rat} {K : Nat} (h : RatQ b w v z K) (hb : Below w.heap.size w w') : RatQ b w' v z K := by
  obtain ⟨p, q, h, r⟩ := h; exact ⟨p, q, h.grow hb, r⟩
theorem RatQ.away {b g : Nat} {w w' : World} {v : Value} {z : Rat} {K : Nat} (h : RatQ b w v z K) (hb : w.grownBy w' (some g)) (hg : g < b) : RatQ b w' v z K := by
  obtain ⟨p, q, h, r⟩ := h; exact ⟨p, q, h.away hb hg, r⟩
theorem RatQ.base {b b' : Nat} {w : World} {v : Value} {z : Rat} {K : Nat} (h : RatQ b w v z K) (hb : b' ≤ b) : RatQ b' w v z K := by
  obtain ⟨p, q, h, r⟩ := h; exact ⟨p, q, h.base hb, r⟩
theorem RatO.le {b : Nat} {w : World} {v : Value} {p q : Int} {K M K' M' : Nat} (h : RatO b w v p q K M) (h1 : K ≤ K') (h2 : M ≤ M') : RatO b w v p q K' M' := by
  obtain ⟨n, A, c, l, B, d, r, e, ⟨o, o', o''⟩, t, t', t''⟩ := h; exact ⟨n, A, c, l, B, d, r, e, ⟨o, by omega, o''⟩, t, by omega, t''⟩
theorem RatQ.le {b : Nat} {w : World} {v : Value} {z : Rat} {K M : Nat} (h : RatQ b w v z K) (hm : K ≤ M) : RatQ b w v z M := by
  obtain ⟨p, q, h, r⟩ := h; exact ⟨p, q, h.le hm hm, r⟩
theorem RatQ.arg {b : Nat} {w : World} {v : Value} {z : Rat} {K : Nat} (h : RatQ b w v z K) : RatA w v z K := by
  obtain ⟨p, q, ⟨n, A, c, l, B, d, r, e, ⟨o, o', o''⟩, t, t', t''⟩, h0, hz⟩ := h
  refine ⟨n, A, _, c, l, B, _, d, r, e, ⟨o.digA, rfl, o.len.2, o'⟩, ⟨t.digA, rfl, t.len.2, t'⟩, ?_⟩
  rw [hz]; unfold frac; rw [o'', t'']
theorem RatQ.form {b : Nat} {w : World} {v : Value} {z : Rat} {K : Nat} (h : RatQ b w v z K) : ∃ ng A n c B m d, v = .agg #[.bool ng, .slice A n c, .slice B m d] := by
  obtain ⟨p, q, ⟨n, A, c, l, B, d, r, e, -⟩, -⟩ := h
  exact ⟨_, _, _, _, _, _, _, e⟩
def RetQ (w : World) (z : Rat) (K : Nat) (e : Ending) (w' : World) : Prop := ∃ v, e = .returned v ∧ RatQ w.heap.size w' v z K ∧ Below w.heap.size w w'
theorem cast_pos {q : Int} (h : 0 < q) : (q : Rat) ≠ 0 := by
  intro e
  have : q = 0 := Rat.intCast_inj.1 (by simpa using e)
  omega
theorem frac_eq {p q P Q : Int} (h1 : 0 < q) (h2 : 0 < Q) (h : p * Q = P * q) : (p : Rat) / (q : Rat) = (P : Rat) / (Q : Rat) := by
  have a := cast_pos h1
  have b := cast_pos h2
  have c : (p : Rat) * (Q : Rat) = (P : Rat) * (q : Rat) := by rw [← Rat.intCast_mul, ← Rat.intCast_mul, h]
  rw [Rat.div_def, Rat.div_def]
  have e1 : (p : Rat) * (q : Rat)⁻¹ = (p : Rat) * (Q : Rat) * ((Q : Rat)⁻¹ * (q : Rat)⁻¹) := by
    rw [Rat.mul_assoc, ← Rat.mul_assoc (Q : Rat), Rat.mul_inv_cancel _ b, Rat.one_mul]
  rw [e1, c, Rat.mul_comm (Q : Rat)⁻¹, Rat.mul_assoc, ← Rat.mul_assoc (q : Rat), Rat.mul_inv_cancel _ a, Rat.one_mul]
theorem RatE.rq {b : Nat} {w : World} {v : Value} {P Q : Int} {K M N : Nat} (h : RatE b w v P Q K M) (h0 : 0 < Q) (h1 : K ≤ N) (h2 : M ≤ N) : RatQ b w v ((P : Rat) / (Q : Rat)) N := by
  obtain ⟨p, q, o, e, hq⟩ := h
  exact ⟨p, q, o.le h1 h2, hq, (frac_eq hq h0 e).symm⟩
def NumA (b : Nat) (w : World) (v : Value) (z : Rat) (K : Nat) : Prop := ∃ ng A n c l B m d r wh, v = .agg #[.bool ng, .slice A n c, .slice B m d, .bool wh] ∧ (DigB b w A l ∧ l.length = n ∧ n ≤ c ∧ n ≤ K) ∧ (DigB b w B r ∧ r.length = m ∧ m ≤ d ∧ m ≤ K) ∧ (0 < nv r ∧ (wh = true → nv r = 1)) ∧ z = frac ng l r
theorem NumA.grow {b : Nat} {w w' : World} {v : Value} {z : Rat} {K : Nat} (h : NumA b w v z K) (hb : Below w.heap.size w w') : NumA b w' v z K := by
  obtain ⟨ng, A, n, c, l, B, m, d, r, wh, e, ⟨h1, h2⟩, ⟨h3, h4⟩, h5⟩ := h
  exact ⟨ng, A, n, c, l, B, m, d, r, wh, e, ⟨h1.grow hb, h2⟩, ⟨h3.grow hb, h4⟩, h5⟩
theorem NumA.more {b b' : Nat} {w : World} {v : Value} {z : Rat} {K : Nat} (h : NumA b w v z K) (hb : b ≤ b') : NumA b' w v z K := by
  obtain ⟨ng, A, n, c, l, B, m, d, r, wh, e, ⟨h1, h2⟩, ⟨h3, h4⟩, h5⟩ := h
  exact ⟨ng, A, n, c, l, B, m, d, r, wh, e, ⟨h1.more hb, h2⟩, ⟨h3.more hb, h4⟩, h5⟩
theorem NumA.kept {b g : Nat} {w w' : World} {v : Value} {z : Rat} {K : Nat} {t : TypeId} (h : NumA b w v z K) (hg : w.grownBy w' (some g)) (hb : b ≤ g) (ht : TyB w g t) (hn : t ≠ 77) : NumA b w' v z K := by
  obtain ⟨ng, A, n, c, l, B, m, d, r, wh, e, ⟨h1, h2⟩, ⟨h3, h4⟩, h5⟩ := h
  exact ⟨ng, A, n, c, l, B, m, d, r, wh, e, ⟨h1.kept hg hb ht hn, h2⟩, ⟨h3.kept hg hb ht hn, h4⟩, h5⟩
def RetNum (w : World) (z : Rat) (K : Nat) (e : Ending) (w' : World) : Prop := ∃ v, e = .returned v ∧ NumA w.heap.size w' v z K ∧ Below w.heap.size w w'
theorem frac_zero {neg : Bool} {l r : List Int} (h : nv r = 0) : frac neg l r = 0 := by
  unfold frac
  rw [h]
  simp [Rat.div_def]
def RetNumB (b : Nat) (w : World) (z : Rat) (K : Nat) (e : Ending) (w' : World) : Prop := ∃ v, e = .returned v ∧ NumA b w' v z K ∧ Below w.heap.size w w'
theorem rt_readB (v : Value) (z : Rat) (K : Nat) (w0 w : World) (h : RatA w0 v z K) (hw : Below w0.heap.size w0 w) (hK : 1 ≤ K) (h9 : K ≤ 1000000) : Calls Try.prog 86 #[v] w (RetNumB w0.heap.size w z K) := by
  obtain ⟨neg, A, n, c, l, B, m, d, r, rfl, ⟨h1, h2, h2', h2''⟩, ⟨h3, h4, h4', h4''⟩, rfl⟩ := h
  have old : ∀ (wh : Bool), 0 < nv r ∧ (wh = true → nv r = 1) → ∀ e w', RetV w (.agg #[.bool neg, .slice A n c, .slice B m d, .bool wh]) e w' → RetNumB w0.heap.size w (frac neg l r) K e w' := by
    rintro wh h0 e w' ⟨rfl, hb⟩
    exact ⟨_, rfl, ⟨neg, A, n, c, l, B, m, d, r, wh, rfl, ⟨(h1.digB.grow hw).grow hb, h2, h2', h2''⟩, ⟨(h3.digB.grow hw).grow hb, h4, h4', h4''⟩, h0, rfl⟩, hb⟩
  have new : nv r = 0 → ∀ e w', RetZ w e w' → RetNumB w0.heap.size w (frac neg l r) K e w' := by
    rintro h0 e w' ⟨g, rfl, o, hb⟩
    refine ⟨_, rfl, ⟨false, none, 0, 0, [], _, 1, 1, [1], true, rfl, ⟨⟨DigA.nil, fun h => absurd rfl h⟩, rfl, Nat.le_refl _, by omega⟩, ⟨o.digB, rfl, Nat.le_refl _, by omega⟩, ⟨by decide, fun _ => by decide⟩, ?_⟩, hb⟩
    rw [frac_zero h0]
    simp [frac, sgn, nv, Rat.div_def]
  have hp := nv_low h3.dig
  by_cases hm : m = 1
  · by_cases hr : r = [1]
    · subst hr
      subst hm
      exact (rt_read_one neg A B n c d w (h3.grow hw)).mono (old true ⟨by decide, fun _ => by decide⟩)
    · by_cases h0 : nv r = 0
      · exact (rt_read_zero1 neg A B n c m d r w (h3.grow hw) h4 h4' (by omega) hm hr h0).mono (new h0)
      · exact (rt_read_big1 neg A B n c m d r w (h3.grow hw) h4 h4' (by omega) hm hr h0).mono (old false ⟨by omega, fun h => by cases h⟩)
  · by_cases h0 : nv r = 0
    · exact (rt_read_zero neg A B n c m d r w (h3.grow hw) h4 h4' (by omega) hm h0).mono (new h0)
    · exact (rt_read_big neg A B n c m d r w (h3.grow hw) h4 h4' (by omega) hm h0).mono (old false ⟨by omega, fun h => by cases h⟩)
theorem rt_read (v : Value) (z : Rat) (K : Nat) (w : World) (h : RatA w v z K) (hK : 1 ≤ K) (h9 : K ≤ 1000000) : Calls Try.prog 86 #[v] w (RetNum w z K) := rt_readB v z K w w h (Below.refl _ _) hK h9
end Go.Proofs.Ytmdfgidejdiiiaa
end
section
namespace Go.Proofs.Ytmdfgidejdiiiaa
open Go.RowKit
def IntB (b : Nat) (w : World) (v : Value) (z : Int) (K : Nat) : Prop := ∃ neg A n c l, v = .agg #[.bool neg, .slice A n c] ∧ DigB b w A l ∧ l.length = n ∧ n ≤ c ∧ n ≤ K ∧ z = sgn neg (nv l)
theorem IntB.grow {b : Nat} {w w' : World} {v : Value} {z : Int} {K : Nat} (h : IntB b w v z K) (hb : Below w.heap.size w w') : IntB b w' v z K := by
  obtain ⟨g, A, n, c, l, e, d, r⟩ := h; exact ⟨g, A, n, c, l, e, d.grow hb, r⟩
theorem IntB.more {b b' : Nat} {w : World} {v : Value} {z : Int} {K : Nat} (h : IntB b w v z K) (hb : b ≤ b') : IntB b' w v z K := by
  obtain ⟨g, A, n, c, l, e, d, r⟩ := h; exact ⟨g, A, n, c, l, e, d.more hb, r⟩
theorem IntB.le {b : Nat} {w : World} {v : Value} {z : Int} {K M : Nat} (h : IntB b w v z K) (hb : K ≤ M) : IntB b w v z M := by
  obtain ⟨g, A, n, c, l, e, d, r1, r2, r3, r4⟩ := h; exact ⟨g, A, n, c, l, e, d, r1, r2, Nat.le_trans r3 hb, r4⟩
theorem IntO.intB {b b' : Nat} {w : World} {v : Value} {z : Int} {K : Nat} (h : IntO b w v z K) : IntB b' w v z K := by
  obtain ⟨g, A, c, l, e, o, n, k, s⟩ := h
  exact ⟨g, A, _, c, l, e, o.digB, rfl, o.len.2, k, s.symm⟩
theorem IntO.le {b : Nat} {w : World} {v : Value} {z : Int} {K M : Nat} (h : IntO b w v z K) (hb : K ≤ M) : IntO b w v z M := by
  obtain ⟨g, A, c, l, e, o, n, k, s⟩ := h; exact ⟨g, A, c, l, e, o, n, Nat.le_trans k hb, s⟩
theorem IntO.away {b g : Nat} {w w' : World} {v : Value} {z : Int} {K : Nat} (h : IntO b w v z K) (hb : w.grownBy w' (some g)) (hg : g < b) : IntO b w' v z K := by
  obtain ⟨g, A, c, l, e, o, n, k, s⟩ := h; exact ⟨g, A, c, l, e, o.away hb hg, n, k, s⟩
def PairB (b : Nat) (w : World) (v : Value) (z : Rat) (K : Nat) : Prop := ∃ neg A n c l B m d r, v = .agg #[.bool neg, .slice A n c, .slice B m d] ∧ (DigB b w A l ∧ l.length = n ∧ n ≤ c ∧ n ≤ K) ∧ (DigB b w B r ∧ r.length = m ∧ m ≤ d ∧ m ≤ K) ∧ 0 < nv r ∧ z = frac neg l r
theorem PairB.grow {b : Nat} {w w' : World} {v : Value} {z : Rat} {K : Nat} (h : PairB b w v z K) (hb : Below w.heap.size w w') : PairB b w' v z K := by
  obtain ⟨neg, A, n, c, l, B, m, d, r, e, ⟨h1, h2⟩, ⟨h3, h4⟩, h5⟩ := h
  exact ⟨neg, A, n, c, l, B, m, d, r, e, ⟨h1.grow hb, h2⟩, ⟨h3.grow hb, h4⟩, h5⟩
theorem rt_low (v : Value) (z : Rat) (K b : Nat) (w : World) (h : PairB b w v z K) (hK : K ≤ 1000000) : Calls Try.prog 90 #[v] w (RetQ w z K) := by
  obtain ⟨neg, A, n, c, l, B, m, d, r, rfl, ⟨h1, h2, h2', h2''⟩, ⟨h3, h4, h4', h4''⟩, h0, rfl⟩ := h
  refine (rt_lowest neg A B n c m d l r w h1.1 h3.1 h2 h4 h2' h4' (by omega) (by omega) h0).mono ?_
  rintro e w' ⟨v, rfl, hq, hb⟩
  exact ⟨v, rfl, hq.rq h0 h2'' h4'', hb⟩
def RetQb (b : Nat) (w : World) (z : Rat) (K : Nat) (e : Ending) (w' : World) : Prop := ∃ v, e = .returned v ∧ RatQ b w' v z K ∧ Below w.heap.size w w'
theorem RetQ.at_ {b : Nat} {w : World} {z : Rat} {K : Nat} {e : Ending} {w' : World} (h : RetQ w z K e w') (hb : b ≤ w.heap.size) : RetQb b w z K e w' := by
  obtain ⟨v, e, q, r⟩ := h; exact ⟨v, e, q.base hb, r⟩
theorem one_div (z : Int) : (z : Rat) = (z : Rat) / ((1 : Int) : Rat) := by
  have h := Rat.mul_inv_cancel ((1 : Int) : Rat) (cast_pos (by decide))
  rw [show ((1 : Int) : Rat) = 1 from rfl, Rat.one_mul] at h
  rw [Rat.div_def, show ((1 : Int) : Rat) = 1 from rfl, h, Rat.mul_one]
theorem rt_wholeQ (v : Value) (z : Int) (K b : Nat) (w : World) (h : IntO b w v z K) (hb : b ≤ w.heap.size) (hK : 1 ≤ K) : Calls Try.prog 88 #[v] w (RetQb b w (z : Rat) K) := by
  obtain ⟨neg, A, c, l, rfl, o, n, k, s⟩ := h
  refine (rt_whole neg A l.length c w).mono ?_
  rintro e w' ⟨g, rfl, o2, hb2⟩
  refine ⟨_, rfl, ⟨z, 1, ⟨neg, A, c, l, _, 1, [1], rfl, ⟨o.grow hb2, k, s⟩, o2.base hb, hK, by decide⟩, by decide, ?_⟩, hb2⟩
  exact one_div z
theorem RetI.le {w : World} {z : Int} {K M : Nat} {e : Ending} {w' : World} (h : RetI w z K e w') (hm : K ≤ M) : RetI w z M e w' := by
  obtain ⟨v, e, q, r⟩ := h; exact ⟨v, e, q.le hm, r⟩
theorem it_AddA (v u : Value) (x y : Int) (K M b b' : Nat) (w : World) (h : IntB b w v x K) (h' : IntB b' w u y M) (hK : K ≤ 1000000) (hM : M ≤ 1000000) : Calls Try.prog 94 #[v, u] w (RetI w (x + y) (max K M + 1)) := by
  obtain ⟨na, A, n, c, a, rfl, d, n1, n2, n3, rfl⟩ := h
  obtain ⟨nb, B, m, e, r, rfl, d', m1, m2, m3, rfl⟩ := h'
  exact (it_Add na nb A B n m c e a r w d.1 d'.1 n1 m1 n2 m2 (by omega) (by omega)).mono fun _ _ h => h.le (by omega)
theorem it_MulA (v u : Value) (x y : Int) (K M b b' : Nat) (w : World) (h : IntB b w v x K) (h' : IntB b' w u y M) (hK : K ≤ 1000000) (hM : M ≤ 1000000) : Calls Try.prog 87 #[v, u] w (RetI w (x * y) (K + M)) := by
  obtain ⟨na, A, n, c, a, rfl, d, n1, n2, n3, rfl⟩ := h
  obtain ⟨nb, B, m, e, r, rfl, d', m1, m2, m3, rfl⟩ := h'
  exact (it_Mul na nb A B n m c e a r w d.1 d'.1 n1 m1 n2 m2 (by omega) (by omega)).mono fun _ _ h => h.le (by omega)
theorem nt_MulA (v u : Value) (a r : List Int) (K M b b' : Nat) (w : World) (h : SlB b w v a K) (h' : SlB b' w u r M) (hK : K ≤ 1000000) (hM : M ≤ 1000000) : Calls Try.prog 89 #[v, u] w (RetN w (nv a * nv r) (K + M)) := by
  obtain ⟨A, n, c, rfl, d, n1, n2, n3⟩ := h
  obtain ⟨B, m, e, rfl, d', m1, m2, m3⟩ := h'
  exact (nt_Mul A B n m c e a r w d.1 d'.1 n1 m1 n2 m2 (by omega) (by omega)).mono fun _ _ h => h.le (by omega)
theorem nt_CompareA (v u : Value) (a r : List Int) (K M b b' : Nat) (w : World) (h : SlB b w v a K) (h' : SlB b' w u r M) (hK : K ≤ 1000000) (hM : M ≤ 1000000) : Calls Try.prog 95 #[v, u] w fun e w' => e = .returned (.int .i64 (cmpI (nv a) (nv r))) ∧ Below w.heap.size w w' := by
  obtain ⟨A, n, c, rfl, d, n1, n2, n3⟩ := h
  obtain ⟨B, m, e, rfl, d', m1, m2, m3⟩ := h'
  exact nt_Compare A B n m c e a r w d.1 d'.1 n1 m1 n2 m2 (by omega) (by omega)
inductive Dt where
  | v (u : Value)
  | num (x : Int) (K : Nat)
  | int (z : Int) (K : Nat)
  | rq (z : Rat) (K : Nat)
  | box (t : TypeId) (cs : List Value)
  | two (q r : Int) (K M : Nat)
  | rd (z : Rat) (K : Nat)
  | pr (z : Rat) (K : Nat)
  | gen (P : Nat → World → Value → Prop) (h : ∀ b w w' v, P b w v → Below w.heap.size w w' → P b w' v)
  | any
def TwoO (b : Nat) (w : World) (v : Value) (q r : Int) (K M : Nat) : Prop := ∃ u1 u2, v = .tuple #[u1, u2, .int .i64 0] ∧ IntO b w u1 q K ∧ IntO b w u2 r M
theorem TwoO.grow {b : Nat} {w w' : World} {v : Value} {q r : Int} {K M : Nat} (h : TwoO b w v q r K M) (hb : Below w.heap.size w w') : TwoO b w' v q r K M := by
  obtain ⟨u1, u2, e, h1, h2⟩ := h; exact ⟨u1, u2, e, h1.grow hb, h2.grow hb⟩
def BoxO (b : Nat) (w : World) (v : Value) (t : TypeId) (cs : List Value) : Prop := ∃ g, v = .pointer (some ⟨g, 0, none⟩) ∧ b ≤ g ∧ Box w g cs ∧ TyB w g t
theorem BoxO.grow {b : Nat} {w w' : World} {v : Value} {t : TypeId} {cs : List Value} (h : BoxO b w v t cs) (hb : Below w.heap.size w w') : BoxO b w' v t cs := by
  obtain ⟨g, e, h1, h2, h3⟩ := h; exact ⟨g, e, h1, h2.keep hb, h3.grow hb⟩
def dT (b : Nat) (ds : List Dt) (i : Nat) (v : Value) (w : World) : Prop :=
  match ds[i]? with
  | some (.v u) => v = u
  | some (.num x K) => NumO b w v x K
  | some (.int z K) => IntO b w v z K
  | some (.rq z K) => RatQ b w v z K
  | some (.box t cs) => BoxO b w v t cs
  | some (.two q r K M) => TwoO b w v q r K M
  | some (.rd z K) => NumA b w v z K
  | some (.pr z K) => PairB b w v z K
  | some (.gen P _) => P b w v
  | some .any => True
  | none => True
theorem dT_keep {b : Nat} {ds : List Dt} {w w' : World} (h : Below w.heap.size w w') (i : Nat) (v : Value) (hf : dT b ds i v w) : dT b ds i v w' := by
  unfold dT at hf ⊢
  split at hf
  · exact hf
  · exact hf.grow h
  · exact hf.grow h
  · exact hf.grow h
  · exact hf.grow h
  · exact hf.grow h
  · exact hf.grow h
  · exact hf.grow h
  · rename_i P hP _
    exact hP _ _ _ _ hf h
  · trivial
  · trivial
def isBx (ds : List Dt) (j : Nat) : Bool := match ds[j]? with
  | some (.box _ _) => true
  | _ => false
def gT (ds : List Dt) (j : Nat) (v : Value) (a b : World) : Prop := Below a.heap.size a b ∧ (isBx ds j = true → v = .pointer (some ⟨a.heap.size, 0, none⟩))
theorem box_ne {b : Nat} {ds : List Dt} {i j : Nat} {u v : Value} {w : World} {t s : TypeId} {cs ds' : List Value} (hi : ds[i]? = some (.box t cs)) (hj : ds[j]? = some (.box s ds'))
    (h : Prior4 (dT b ds) (gT ds) (fun a b => Below a.heap.size a b) i j u v w ∨ Prior4 (dT b ds) (gT ds) (fun a b => Below a.heap.size a b) j i v u w) : u ≠ v := by
  have bi : isBx ds i = true := by unfold isBx; rw [hi]
  have bj : isBx ds j = true := by unfold isBx; rw [hj]
  rintro rfl
  rcases h with ⟨w1, w2, h1, ⟨-, h2⟩, -⟩ | ⟨w1, w2, h1, ⟨-, h2⟩, -⟩
  · unfold dT at h1
    rw [hi] at h1
    obtain ⟨g, e, -, hb, -⟩ := h1
    have := h2 bj
    rw [e] at this
    injection this with this; injection this with this; injection this with this
    have := hb.1
    omega
  · unfold dT at h1
    rw [hj] at h1
    obtain ⟨g, e, -, hb, -⟩ := h1
    have := h2 bi
    rw [e] at this
    injection this with this; injection this with this; injection this with this
    have := hb.1
    omega
theorem BoxO.new {b : Nat} {w : World} {t : TypeId} {cs : Array Value} (hb : b ≤ w.heap.size) : BoxO b (w.alloc (.cells cs t)) (.pointer (some ⟨w.heap.size, 0, none⟩)) t cs.toList := ⟨_, rfl, hb, Box.new rfl, TyB.new⟩
end Go.Proofs.Ytmdfgidejdiiiaa
end
