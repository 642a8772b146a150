/- Plain laws: lifting steps, forth and back, and around. -/
import Derived.Test.YtimhplkkgbpapaaNc
namespace Go.Proofs.Ytimhplkkgbpapaa
open Go.RowKit

/-! ### Steps -/
/-- A step: whether it changes the second phase, where it starts, its coefficients, its shift. -/
abbrev Lft := Bool × Int × List Int × Int
/-- The sum over the first coefficients. -/
def chS (c : List Int) (st : Int) (o : List Int) (n : Nat) : Nat → Int
  | 0 => 0
  | k + 1 => chS c st o n k + el c k * el o (((n : Int) + st + k) % (o.length : Int)).toNat
def chF (s : Lft) (o : List Int) (n : Nat) : Int := shiftF (chS s.2.2.1 s.2.1 o n s.2.2.1.length) s.2.2.2 1
/-- A phase of which the first K elements are changed. -/
def stN (s : Lft) (g : Int) (to fr : List Int) (K : Nat) : List Int := (List.range to.length).map fun n => if n < K then wrapF 32 (el to n + g * chF s fr n) else el to n
def stF (s : Lft) (g : Int) (to fr : List Int) : List Int := stN s g to fr to.length
def lift1 (g : Int) (p : List Int × List Int) (s : Lft) : List Int × List Int := if s.1 = true then (p.1, stF s g p.2 p.1) else (stF s g p.1 p.2, p.2)
def anaF (ls : List Lft) (p : List Int × List Int) : List Int × List Int := ls.foldl (lift1 1) p
def synF (ls : List Lft) (p : List Int × List Int) : List Int × List Int := ls.reverse.foldl (lift1 (-1)) p
/-- Words of 32 bits. -/
def W32 (l : List Int) : Prop := ∀ x ∈ l, -2147483648 ≤ x ∧ x < 2147483648

theorem stN_length (s : Lft) (g : Int) (to fr : List Int) (K : Nat) : (stN s g to fr K).length = to.length := by simp [stN]
theorem stF_length (s : Lft) (g : Int) (to fr : List Int) : (stF s g to fr).length = to.length := stN_length _ _ _ _ _
theorem stN_get {s : Lft} {g : Int} {to fr : List Int} {K n : Nat} (h : n < to.length) : (stN s g to fr K)[n]? = some (if n < K then wrapF 32 (el to n + g * chF s fr n) else el to n) := by
  simp only [stN, List.getElem?_map, List.getElem?_range h]; rfl
theorem get_el {l : List Int} {n : Nat} (h : n < l.length) : l[n]? = some (el l n) := by unfold el; rw [List.getElem?_eq_getElem h]; rfl
theorem list_ext {a b : List Int} (hl : a.length = b.length) (h : ∀ n, n < a.length → el a n = el b n) : a = b := by
  apply List.ext_getElem?
  intro n
  rcases Nat.lt_or_ge n a.length with hn | hn
  · rw [get_el hn, get_el (by omega), h n hn]
  · rw [List.getElem?_eq_none hn, List.getElem?_eq_none (by omega)]
theorem el_stF {s : Lft} {g : Int} {to fr : List Int} {n : Nat} (h : n < to.length) : el (stF s g to fr) n = wrapF 32 (el to n + g * chF s fr n) := by
  have : (stF s g to fr)[n]? = _ := stN_get (K := to.length) h
  rw [if_pos h] at this
  exact el_of this
theorem stN_zero (s : Lft) (g : Int) (to fr : List Int) : stN s g to fr 0 = to := by
  refine list_ext (stN_length _ _ _ _ _) fun n hn => ?_
  rw [stN_length] at hn
  rw [el_of (stN_get hn), if_neg (by omega)]
theorem stN_at {s : Lft} {g : Int} {to fr : List Int} {K : Nat} (h : K < to.length) : (stN s g to fr K)[K]? = some (el to K) := by rw [stN_get h, if_neg (by omega)]
theorem stN_succ {s : Lft} {g : Int} {to fr : List Int} {K : Nat} (h : K < to.length) : stN s g to fr (K + 1) = (stN s g to fr K).set K (wrapF 32 (el to K + g * chF s fr K)) := by
  apply List.ext_getElem?
  intro n
  rw [List.getElem?_set, stN_length]
  rcases Nat.lt_or_ge n to.length with hn | hn
  · rw [stN_get hn, stN_get hn]
    by_cases e : K = n
    · subst e; rw [if_pos rfl, if_pos h, if_pos (by omega)]
    · rw [if_neg e]
      congr 1
      by_cases h1 : n < K
      · rw [if_pos h1, if_pos (by omega)]
      · rw [if_neg h1, if_neg (by omega)]
  · rw [if_neg (by omega), List.getElem?_eq_none (by rw [stN_length]; exact hn), List.getElem?_eq_none (by rw [stN_length]; exact hn)]
theorem lift1_length (g : Int) (p : List Int × List Int) (s : Lft) : (lift1 g p s).1.length = p.1.length ∧ (lift1 g p s).2.length = p.2.length := by
  unfold lift1
  split
  · exact ⟨rfl, stF_length _ _ _ _⟩
  · exact ⟨stF_length _ _ _ _, rfl⟩
theorem fold_length (g : Int) (ls : List Lft) : ∀ p : List Int × List Int, (ls.foldl (lift1 g) p).1.length = p.1.length ∧ (ls.foldl (lift1 g) p).2.length = p.2.length := by
  induction ls with
  | nil => intro p; exact ⟨rfl, rfl⟩
  | cons s ls ih =>
    intro p
    have h1 := ih (lift1 g p s)
    have h2 := lift1_length g p s
    exact ⟨h1.1.trans h2.1, h1.2.trans h2.2⟩
theorem w32_el {l : List Int} (h : W32 l) (n : Nat) : -2147483648 ≤ el l n ∧ el l n < 2147483648 := by
  rcases Nat.lt_or_ge n l.length with hn | hn
  · exact h _ (List.mem_of_getElem? (get_el hn))
  · rw [el_none hn]; omega
theorem w32_wrap (v : Int) : -2147483648 ≤ wrapF 32 v ∧ wrapF 32 v < 2147483648 := by
  have h := wrap_in (b := 32) (v := v) (by decide) (by decide)
  have e : (2 : Int) ^ ((32 : Int) - 1).toNat = 2147483648 := by decide
  rw [e] at h
  omega
theorem w32_st (s : Lft) (g : Int) (to fr : List Int) : W32 (stF s g to fr) := by
  intro x hx
  obtain ⟨n, hn⟩ := List.getElem?_of_mem hx
  have hl : n < to.length := by
    have := (List.getElem?_eq_some_iff.1 hn).1
    rwa [stF_length] at this
  rw [← el_of hn, el_stF hl]
  exact w32_wrap _
theorem w32_lift {g : Int} {p : List Int × List Int} {s : Lft} (h : W32 p.1 ∧ W32 p.2) : W32 (lift1 g p s).1 ∧ W32 (lift1 g p s).2 := by
  unfold lift1
  split
  · exact ⟨h.1, w32_st _ _ _ _⟩
  · exact ⟨w32_st _ _ _ _, h.2⟩
theorem w32_fold (g : Int) (ls : List Lft) : ∀ p : List Int × List Int, W32 p.1 ∧ W32 p.2 → W32 (ls.foldl (lift1 g) p).1 ∧ W32 (ls.foldl (lift1 g) p).2 := by
  induction ls with
  | nil => intro p h; exact h
  | cons s ls ih => intro p h; exact ih _ (w32_lift h)
theorem wrap32_in {v : Int} (h : -2147483648 ≤ v ∧ v < 2147483648) : wrapF 32 v = v := by
  unfold wrapF
  rw [if_pos (by decide)]
  exact Int.bmod_eq_of_le (by simp; omega) (by simp; omega)
theorem wrap32_add (s d : Int) : wrapF 32 (wrapF 32 s + d) = wrapF 32 (s + d) := by
  unfold wrapF
  rw [if_pos (by decide), if_pos (by decide), if_pos (by decide)]
  exact Int.bmod_add_bmod

/-! ### Forth and back -/
theorem st_undo {s : Lft} {g : Int} {to fr : List Int} (h : W32 to) : stF s (-g) (stF s g to fr) fr = to := by
  refine list_ext (by rw [stF_length, stF_length]) fun n hn => ?_
  rw [stF_length, stF_length] at hn
  rw [el_stF (by rw [stF_length]; exact hn), el_stF hn, wrap32_add, Int.neg_mul, show el to n + g * chF s fr n + -(g * chF s fr n) = el to n by omega]
  exact wrap32_in (w32_el h n)
theorem lift_undo {s : Lft} {g : Int} {p : List Int × List Int} (h : W32 p.1 ∧ W32 p.2) : lift1 (-g) (lift1 g p s) s = p := by
  unfold lift1
  by_cases hs : s.1 = true
  · simp only [if_pos hs]
    rw [st_undo h.2]
  · simp only [if_neg hs]
    rw [st_undo h.1]
theorem syn_ana (ls : List Lft) : ∀ p : List Int × List Int, W32 p.1 ∧ W32 p.2 → synF ls (anaF ls p) = p := by
  induction ls with
  | nil => intro p _; rfl
  | cons s ls ih =>
    intro p h
    have := ih (lift1 1 p s) (w32_lift h)
    unfold synF anaF at this ⊢
    have e : (s :: ls).foldl (lift1 1) p = ls.foldl (lift1 1) (lift1 1 p s) := rfl
    rw [e, List.reverse_cons, List.foldl_append, this]
    exact lift_undo h
theorem ana_syn (ls : List Lft) : ∀ p : List Int × List Int, W32 p.1 ∧ W32 p.2 → anaF ls (synF ls p) = p := by
  induction ls with
  | nil => intro p _; rfl
  | cons s ls ih =>
    intro p h
    have h2 : W32 (synF ls p).1 ∧ W32 (synF ls p).2 := w32_fold (-1) ls.reverse p h
    have e : lift1 1 (lift1 (-1) (synF ls p) s) s = synF ls p := lift_undo (g := -1) h2
    have h3 := ih p h
    unfold anaF synF at h3 e ⊢
    have e2 : (ls.reverse ++ [s]).foldl (lift1 (-1)) p = lift1 (-1) (ls.reverse.foldl (lift1 (-1)) p) s := by rw [List.foldl_append]; rfl
    rw [List.reverse_cons, e2, List.foldl_cons, e, h3]

/-! ### Two phases -/
def evF (x : List Int) : List Int := everyF x 0 2
def odF (x : List Int) : List Int := everyF x 1 2
def weave (a b : List Int) : List Int := (List.range (2 * a.length)).map fun i => if i % 2 = 0 then el a (i / 2) else el b (i / 2)
theorem weave_length (a b : List Int) : (weave a b).length = 2 * a.length := by simp [weave]
theorem weave_el {a b : List Int} {i : Nat} (h : i < 2 * a.length) : el (weave a b) i = if i % 2 = 0 then el a (i / 2) else el b (i / 2) := by
  unfold el weave
  rw [List.getElem?_map, List.getElem?_range h]; rfl
theorem el_ev (x : List Int) (i : Nat) : el (evF x) i = el x (2 * i) := by
  unfold evF el; rw [everyF_get (by decide), Nat.zero_add, Nat.mul_comm]
theorem el_od (x : List Int) (i : Nat) : el (odF x) i = el x (2 * i + 1) := by
  unfold odF el; rw [everyF_get (by decide), Nat.mul_comm, Nat.add_comm]
theorem ev_length {x : List Int} {h : Nat} (hx : x.length = 2 * h) : (evF x).length = h := by
  rw [show (evF x).length = cnt x.length 0 2 from everyN_length _ _ _ _]; unfold cnt; omega
theorem od_length {x : List Int} {h : Nat} (hx : x.length = 2 * h) : (odF x).length = h := by
  rw [show (odF x).length = cnt x.length 1 2 from everyN_length _ _ _ _]; unfold cnt; omega
theorem weave_back {x : List Int} {h : Nat} (hx : x.length = 2 * h) : weave (evF x) (odF x) = x := by
  refine list_ext (by rw [weave_length, ev_length hx, hx]) fun i hi => ?_
  rw [weave_length] at hi
  rw [weave_el hi, el_ev, el_od]
  split
  · congr 1; omega
  · congr 1; omega
theorem ev_weave {a b : List Int} : evF (weave a b) = a := by
  refine list_ext (ev_length (weave_length a b)) fun i hi => ?_
  rw [ev_length (weave_length a b)] at hi
  rw [el_ev, weave_el (by omega), if_pos (by omega)]
  congr 1; omega
theorem od_weave {a b : List Int} (h : a.length = b.length) : odF (weave a b) = b := by
  refine list_ext ((od_length (weave_length a b)).trans h) fun i hi => ?_
  rw [od_length (weave_length a b)] at hi
  rw [el_od, weave_el (by omega), if_neg (by omega)]
  congr 1; omega
theorem w32_ev {x : List Int} (h : W32 x) : W32 (evF x) := by
  intro y hy
  obtain ⟨n, hn⟩ := List.getElem?_of_mem hy
  rw [← el_of hn, el_ev]; exact w32_el h _
theorem w32_od {x : List Int} (h : W32 x) : W32 (odF x) := by
  intro y hy
  obtain ⟨n, hn⟩ := List.getElem?_of_mem hy
  rw [← el_of hn, el_od]; exact w32_el h _
theorem w32_weave {a b : List Int} (ha : W32 a) (hb : W32 b) : W32 (weave a b) := by
  intro y hy
  obtain ⟨n, hn⟩ := List.getElem?_of_mem hy
  have hl := (List.getElem?_eq_some_iff.1 hn).1
  rw [weave_length] at hl
  rw [← el_of hn, weave_el hl]
  split
  · exact w32_el ha _
  · exact w32_el hb _

/-- What Analyse and Synthesise compute. -/
def analyseF (ls : List Lft) (x : List Int) : List Int × List Int := anaF ls (evF x, odF x)
def synthF (ls : List Lft) (a b : List Int) : List Int := weave (synF ls (a, b)).1 (synF ls (a, b)).2
theorem synth_analyse {ls : List Lft} {x : List Int} {h : Nat} (hx : x.length = 2 * h) (hw : W32 x) : synthF ls (analyseF ls x).1 (analyseF ls x).2 = x := by
  unfold synthF analyseF
  have := syn_ana ls (evF x, odF x) ⟨w32_ev hw, w32_od hw⟩
  rw [show ((anaF ls (evF x, odF x)).1, (anaF ls (evF x, odF x)).2) = anaF ls (evF x, odF x) from rfl, this]
  exact weave_back hx
theorem analyse_synth {ls : List Lft} {a b : List Int} (h : a.length = b.length) (ha : W32 a) (hb : W32 b) : analyseF ls (synthF ls a b) = (a, b) := by
  unfold synthF analyseF
  have hl := fold_length (-1) ls.reverse (a, b)
  rw [ev_weave, od_weave (by show (List.foldl (lift1 (-1)) (a, b) ls.reverse).1.length = (List.foldl (lift1 (-1)) (a, b) ls.reverse).2.length; rw [hl.1, hl.2]; exact h)]
  exact ana_syn ls (a, b) ⟨ha, hb⟩

/-! ### Around -/
def rot (l : List Int) : List Int := (List.range l.length).map fun i => el l ((i + 1) % l.length)
theorem rot_length (l : List Int) : (rot l).length = l.length := by simp [rot]
theorem rot_el {l : List Int} {i : Nat} (h : i < l.length) : el (rot l) i = el l ((i + 1) % l.length) := by
  unfold rot
  generalize hn : l.length = n at *
  unfold el
  rw [List.getElem?_map, List.getElem?_range h]; rfl
theorem rot_drop {l : List Int} (h : 1 ≤ l.length) : rot l = l.drop 1 ++ [el l 0] := by
  refine list_ext (by rw [rot_length]; simp; omega) fun i hi => ?_
  rw [rot_length] at hi
  rw [rot_el hi]
  unfold el
  rcases Nat.lt_or_ge (i + 1) l.length with h1 | h1
  · rw [Nat.mod_eq_of_lt h1, List.getElem?_append_left (by simp; omega), List.getElem?_drop, Nat.add_comm]
  · have e : (i + 1) % l.length = 0 := by rw [show i + 1 = l.length by omega, Nat.mod_self]
    have e2 : i - (l.drop 1).length = 0 := by simp; omega
    rw [e, List.getElem?_append_right (by simp; omega), e2]; rfl
theorem int_mod_add (a b n : Int) : (a % n + b) % n = (a + b) % n := by
  rw [Int.add_emod (a % n) b n, Int.emod_emod_of_dvd _ (Int.dvd_refl n), ← Int.add_emod]
theorem nat_mod_cast {n : Nat} (a : Int) (h : 0 < n) : ((a % (n : Int)).toNat + 1) % n = ((a + 1) % (n : Int)).toNat := by
  have h0 := Int.emod_nonneg a (show (n : Int) ≠ 0 by omega)
  have h1 := Int.emod_lt_of_pos a (show (0 : Int) < n by omega)
  have h2 := int_mod_add a 1 n
  obtain ⟨q, hq⟩ := Int.eq_ofNat_of_zero_le h0
  rw [← h2, hq]
  have : ((q : Int) + 1) % (n : Int) = (((q + 1) % n : Nat) : Int) := by push_cast; rfl
  rw [this, Int.toNat_natCast, Int.toNat_natCast]
theorem rot_chS {c o : List Int} {st : Int} {n : Nat} (hn : n < o.length) : ∀ k, chS c st (rot o) n k = chS c st o ((n + 1) % o.length) k := by
  intro k
  induction k with
  | zero => rfl
  | succ k ih =>
    unfold chS
    rw [ih, rot_length]
    congr 2
    have h0 := Int.emod_nonneg ((n : Int) + st + k) (show (o.length : Int) ≠ 0 by omega)
    have h1 := Int.emod_lt_of_pos ((n : Int) + st + k) (show (0 : Int) < o.length by omega)
    rw [rot_el (by omega), nat_mod_cast _ (by omega)]
    congr 2
    have e : (((n + 1) % o.length : Nat) : Int) = ((n : Int) + 1) % (o.length : Int) := by push_cast; rfl
    rw [e, show ((n : Int) + 1) % (o.length : Int) + st + k = (((n : Int) + 1) % (o.length : Int)) + (st + k) by omega, int_mod_add]
    congr 1; omega
theorem rot_st {s : Lft} {g : Int} {to fr : List Int} (h : to.length = fr.length) : stF s g (rot to) (rot fr) = rot (stF s g to fr) := by
  refine list_ext (by rw [stF_length, rot_length, rot_length, stF_length]) fun n hn => ?_
  rw [stF_length, rot_length] at hn
  have hm : (n + 1) % to.length < to.length := Nat.mod_lt _ (by omega)
  rw [el_stF (by rw [rot_length]; exact hn), rot_el hn, rot_el (l := stF s g to fr) (by rw [stF_length]; exact hn), stF_length, el_stF hm]
  unfold chF
  rw [rot_chS (by omega), h]
theorem rot_lift {g : Int} {p : List Int × List Int} {s : Lft} (h : p.1.length = p.2.length) : lift1 g (rot p.1, rot p.2) s = (rot (lift1 g p s).1, rot (lift1 g p s).2) := by
  unfold lift1
  by_cases hs : s.1 = true
  · simp only [if_pos hs]
    rw [rot_st h.symm]
  · simp only [if_neg hs]
    rw [rot_st h]
theorem rot_fold (g : Int) (ls : List Lft) : ∀ p : List Int × List Int, p.1.length = p.2.length → ls.foldl (lift1 g) (rot p.1, rot p.2) = (rot (ls.foldl (lift1 g) p).1, rot (ls.foldl (lift1 g) p).2) := by
  induction ls with
  | nil => intro p _; rfl
  | cons s ls ih =>
    intro p h
    have hl := lift1_length g p s
    rw [List.foldl_cons, rot_lift h, ih _ (by rw [hl.1, hl.2]; exact h)]; rfl
/-- A list moved around by two elements. -/
def turn2 (x : List Int) : List Int := x.drop 2 ++ [el x 0, el x 1]
theorem turn2_length {x : List Int} (h : 2 ≤ x.length) : (turn2 x).length = x.length := by simp [turn2]; omega
theorem turn2_el {x : List Int} {i : Nat} (h2 : 2 ≤ x.length) (hi : i < x.length) : el (turn2 x) i = el x ((i + 2) % x.length) := by
  unfold turn2
  rcases Nat.lt_or_ge (i + 2) x.length with h1 | h1
  · rw [Nat.mod_eq_of_lt h1]
    unfold el
    rw [List.getElem?_append_left (by simp; omega), List.getElem?_drop, Nat.add_comm]
  · have : (i + 2) % x.length = i + 2 - x.length := by rw [Nat.mod_eq_sub_mod h1, Nat.mod_eq_of_lt (by omega)]
    rw [this]
    have h3 : (x.drop 2 ++ [el x 0, el x 1])[i]? = [el x 0, el x 1][i + 2 - x.length]? := by
      rw [List.getElem?_append_right (by simp; omega)]
      congr 1; simp; omega
    rw [show el (x.drop 2 ++ [el x 0, el x 1]) i = ([el x 0, el x 1][i + 2 - x.length]?).getD 0 from by unfold el at *; rw [h3]]
    obtain h4 | h4 : i + 2 - x.length = 0 ∨ i + 2 - x.length = 1 := by omega
    · rw [h4]; rfl
    · rw [h4]; rfl
theorem ev_turn {x : List Int} {h : Nat} (hx : x.length = 2 * h) (h1 : 1 ≤ h) : evF (turn2 x) = rot (evF x) := by
  have hl : (turn2 x).length = 2 * h := by rw [turn2_length (by omega), hx]
  refine list_ext (by rw [ev_length hl, rot_length, ev_length hx]) fun i hi => ?_
  rw [ev_length hl] at hi
  rw [el_ev, turn2_el (by omega) (by omega), rot_el (by rw [ev_length hx]; exact hi), el_ev, ev_length hx, hx]
  congr 1
  rw [show 2 * i + 2 = 2 * (i + 1) by omega, Nat.mul_mod_mul_left]
theorem od_turn {x : List Int} {h : Nat} (hx : x.length = 2 * h) (h1 : 1 ≤ h) : odF (turn2 x) = rot (odF x) := by
  have hl : (turn2 x).length = 2 * h := by rw [turn2_length (by omega), hx]
  refine list_ext (by rw [od_length hl, rot_length, od_length hx]) fun i hi => ?_
  rw [od_length hl] at hi
  rw [el_od, turn2_el (by omega) (by omega), rot_el (by rw [od_length hx]; exact hi), el_od, od_length hx, hx]
  congr 1
  rcases Nat.lt_or_ge (i + 1) h with h2 | h2
  · rw [Nat.mod_eq_of_lt (by omega), Nat.mod_eq_of_lt h2]; omega
  · obtain rfl : i + 1 = h := by omega
    rw [Nat.mod_self, Nat.mod_eq_sub_mod (by omega), Nat.mod_eq_of_lt (by omega)]; omega
theorem analyse_turn {ls : List Lft} {x : List Int} {h : Nat} (hx : x.length = 2 * h) (h1 : 1 ≤ h) : analyseF ls (turn2 x) = (rot (analyseF ls x).1, rot (analyseF ls x).2) := by
  unfold analyseF
  rw [ev_turn hx h1, od_turn hx h1]
  exact rot_fold 1 ls (evF x, odF x) (by show (evF x).length = (odF x).length; rw [ev_length hx, od_length hx])
theorem analyse_length {ls : List Lft} {x : List Int} {h : Nat} (hx : x.length = 2 * h) : (analyseF ls x).1.length = h ∧ (analyseF ls x).2.length = h := by
  have := fold_length 1 ls (evF x, odF x)
  exact ⟨this.1.trans (ev_length hx), this.2.trans (od_length hx)⟩
theorem synth_length (ls : List Lft) (a b : List Int) : (synthF ls a b).length = 2 * a.length := by
  unfold synthF
  rw [weave_length]
  have := fold_length (-1) ls.reverse (a, b)
  rw [show (synF ls (a, b)).1.length = a.length from this.1]
end Go.Proofs.Ytimhplkkgbpapaa
