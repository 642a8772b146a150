/- Package bank: shift. Printed by gen_ki.py. -/
import Derived.Test.YtmdfgidejdiiiaalKdtoKh
import Derived.Test.YtmdfgidejdiiiaalFxtoV1
set_option linter.unusedVariables false
set_option linter.unusedSimpArgs false
namespace Go.Proofs.Ytmdfgidejdiiiaa
open Go.RowKit
theorem pi64 {P : Int} (h : 0 < P ∧ P ≤ 2147483648) : I64 P := ⟨by omega, by omega⟩
def elQ (l : List Rat) (k : Nat) : Rat := l[k]?.getD ((0 : Int) : Rat)
def exqS (c : List Int) (st : Int) (zf : List Rat) (n : Nat) : Nat → Rat
  | 0 => ((0 : Int) : Rat)
  | k + 1 => exqS c st zf n k + ((el c k : Int) : Rat) * elQ zf (((n : Int) + st + k) % (zf.length : Int)).toNat
def exqE (s : Lft) (zt zf : List Rat) (n : Nat) : Rat := elQ zt n + exqS s.2.2.1 s.2.1 zf n s.2.2.1.length * (((1 : Int) : Rat) / ((2 ^ s.2.2.2.toNat : Int) : Rat))
def exqN (s : Lft) (zt zf : List Rat) (K : Nat) : List Rat := (List.range zt.length).map fun n => if n < K then exqE s zt zf n else elQ zt n
def exqT (s : Lft) (zt zf : List Rat) : List Rat := exqN s zt zf zt.length
theorem exqN_length (s : Lft) (zt zf : List Rat) (K : Nat) : (exqN s zt zf K).length = zt.length := by simp [exqN]
theorem exqT_length (s : Lft) (zt zf : List Rat) : (exqT s zt zf).length = zt.length := exqN_length _ _ _ _
theorem elQ_of {l : List Rat} {k : Nat} {z : Rat} (h : l[k]? = some z) : elQ l k = z := by unfold elQ; rw [h]; rfl
theorem get_elQ {l : List Rat} {n : Nat} (h : n < l.length) : l[n]? = some (elQ l n) := by unfold elQ; rw [List.getElem?_eq_getElem h]; rfl
theorem exqN_get {s : Lft} {zt zf : List Rat} {K n : Nat} (h : n < zt.length) : (exqN s zt zf K)[n]? = some (if n < K then exqE s zt zf n else elQ zt n) := by
  simp only [exqN, List.getElem?_map, List.getElem?_range h]; rfl
theorem exqN_zero (s : Lft) (zt zf : List Rat) : exqN s zt zf 0 = zt := by
  apply List.ext_getElem?
  intro n
  rcases Nat.lt_or_ge n zt.length with h | h
  · rw [exqN_get h, if_neg (by omega), get_elQ h]
  · rw [List.getElem?_eq_none h, List.getElem?_eq_none (by rw [exqN_length]; exact h)]
theorem exqN_at {s : Lft} {zt zf : List Rat} {K : Nat} (h : K < zt.length) : (exqN s zt zf K)[K]? = some (elQ zt K) := by rw [exqN_get h, if_neg (by omega)]
theorem exqN_succ {s : Lft} {zt zf : List Rat} {K : Nat} (h : K < zt.length) : exqN s zt zf (K + 1) = (exqN s zt zf K).set K (exqE s zt zf K) := by
  apply List.ext_getElem?
  intro n
  rw [List.getElem?_set, exqN_length]
  rcases Nat.lt_or_ge n zt.length with hn | hn
  · rw [exqN_get hn, exqN_get hn]
    by_cases e : K = n
    · subst e; rw [if_pos rfl, if_pos h, if_pos (by omega)]
    · rw [if_neg e]
      congr 1
      by_cases h1 : n < K
      · rw [if_pos h1, if_pos (by omega)]
      · rw [if_neg h1, if_neg (by omega)]
  · rw [if_neg (by omega), List.getElem?_eq_none (by rw [exqN_length]; exact hn), List.getElem?_eq_none (by rw [exqN_length]; exact hn)]
def RowS (base : Nat) (w : World) (v : Value) (zs : List Rat) (k M K : Nat) : Prop :=
  ∃ us : List Value, w.ownsRow base 28 3 v us.length (us.flatMap triV) ∧ us.length = zs.length ∧ ∀ (i : Nat) u z, us[i]? = some u → zs[i]? = some z → RatQ 0 w u z (if i < k then M else K)
theorem RowQ.toS {base : Nat} {w : World} {v : Value} {zs : List Rat} {M K : Nat} (h : RowQ base w v zs K) : RowS base w v zs 0 M K := by
  obtain ⟨us, h1, h2, h3⟩ := h
  exact ⟨us, h1, h2, fun i u z a b => by rw [if_neg (by omega)]; exact h3 i u z a b⟩
theorem RowS.toQ {base : Nat} {w : World} {v : Value} {zs : List Rat} {M K k : Nat} (h : RowS base w v zs k M K) (hk : zs.length ≤ k) : RowQ base w v zs M := by
  obtain ⟨us, h1, h2, h3⟩ := h
  exact ⟨us, h1, h2, fun i u z a b => by have := h3 i u z a b; rw [if_pos (by have := (List.getElem?_eq_some_iff.1 b).1; omega)] at this; exact this⟩
theorem RowS.grow {base : Nat} {w w' : World} {v : Value} {zs : List Rat} {k M K : Nat} (h : RowS base w v zs k M K) (hb : Below w.heap.size w w') : RowS base w' v zs k M K := by
  obtain ⟨us, h1, h2, h3⟩ := h
  exact ⟨us, own_grow h1 hb, h2, fun i u z a b => (h3 i u z a b).grow hb⟩
theorem RowS.atW {base : Nat} {w : World} {A : Option Addr} {n c : Nat} {zs : List Rat} {k M K : Nat} (h : RowS base w (.slice A n c) zs k M K) (hk : k < zs.length) :
    ∃ g g0 A0 n0 c0 B0 m0 d0 z, A = some ⟨g, 0, none⟩ ∧ zs[k]? = some z ∧ (base ≤ g ∧ g < w.heap.size ∧ TyB w g 28) ∧ ∀ w1, Below w.heap.size w w1 → RatQ 0 w1 (.agg #[.bool g0, .slice A0 n0 c0, .slice B0 m0 d0]) z K ∧ w1.rangeAt g (k * 3) [.bool g0, .slice A0 n0 c0, .slice B0 m0 d0] := by
  obtain ⟨us, h1, h2, h3⟩ := h
  have hu : us[k]? = some us[k] := List.getElem?_eq_getElem (by omega)
  have hz : zs[k]? = some zs[k] := List.getElem?_eq_getElem hk
  have hq := h3 k _ _ hu hz
  rw [if_neg (by omega)] at hq
  obtain ⟨g0, A0, n0, c0, B0, m0, d0, e⟩ := hq.form
  rw [e] at hu hq
  obtain ⟨A', c', e', hc'⟩ := own_form h1
  injection e' with e1 e2 e3
  subst e1 e2 e3
  have cell : ∀ j v, ([.bool g0, .slice A0 n0 c0, .slice B0 m0 d0] : List Value)[j]? = some v → ∃ g, A = some ⟨g, 0, none⟩ ∧ g < w.heap.size ∧ w.cell? ⟨g, k * 3 + j, none⟩ = some v := fun j v hv => by
    have hj : j < 3 := (List.getElem?_eq_some_iff.1 hv).1
    refine own_cells h1 ?_
    rw [flatV_get triV_len us k j _ hu hj]
    exact hv
  obtain ⟨g, e4, hg, -⟩ := cell 0 _ rfl
  refine ⟨g, g0, A0, n0, c0, B0, m0, d0, _, e4, hz, ⟨(h1.lt g (by rw [e4]; rfl)).1, hg, row_ty h1 g (by rw [e4]; rfl)⟩, fun w1 hb => ⟨hq.grow hb, fun j v hv => ?_⟩⟩
  obtain ⟨g', e5, -, hc⟩ := cell j v hv
  rw [e4] at e5
  injection e5 with e5
  injection e5 with e5
  subst e5
  exact (World.cell?_of_block (a := ⟨g, _, none⟩) (hb.block g hg)).trans hc
theorem st_s {ops : Array Oper} {rest : List Oper} {o : Oper} {a : Act} {Q : Exit → Act → World → Prop} {w : World} {base g n c k : Nat} {zs : List Rat} {M K : Nat} {g0 : Bool} {A0 B0 : Option Addr} {n0 c0 m0 d0 : Nat} {z : Rat} (h : RowS base w (.slice (some ⟨g, 0, none⟩) n c) zs k M K) (hk : k < zs.length) (hq : RatQ 0 w (.agg #[.bool g0, .slice A0 n0 c0, .slice B0 m0 d0]) z M) (hgd : o.guard = none) (x y : Operand) (ho : o.op = .store 28 x y)
    (hx : a.eval x = .pointer (some ⟨g, k * 3, none⟩)) (hy : a.eval y = .agg #[.bool g0, .slice A0 n0 c0, .slice B0 m0 d0])
    (hK : ∀ w', RowS base w' (.slice (some ⟨g, 0, none⟩) n c) (zs.set k z) (k + 1) M K → w.grownBy w' (some g) → wpList Try.prog ops Q rest (a.put o.dst undef) w') : wpList Try.prog ops Q (o :: rest) a w := by
  have hth : w.there g (k * 3) 3 := by
    obtain ⟨g', g0', A0', n0', c0', B0', m0', d0', z', e, -, -, hr⟩ := h.atW hk
    injection e with e
    injection e with e
    subst e
    obtain ⟨us, h1, -⟩ := h
    obtain ⟨A', c', e', -⟩ := own_form h1
    injection e' with _ e2 _
    subst e2
    intro j hj
    refine ⟨?_, h1.frozenAt _⟩
    have hr := (hr w (Below.refl _ _)).2
    have : ∀ v, ([.bool g0', .slice A0' n0' c0', .slice B0' m0' d0'] : List Value)[j]? = some v → (w.cell? ⟨g, k * 3 + j, none⟩).isSome = true := fun v hv => by rw [hr j v hv]; rfl
    match j, hj with
    | 0, _ | 1, _ | 2, _ => exact this _ rfl
  refine wpList_store_mid hgd 28 x y ho g (k * 3) #[.bool g0, .slice A0 n0 c0, .slice B0 m0 d0] hx hy hth size_Rat (all_oneCell_toArray (cs := [.bool g0, .slice A0 n0 c0, .slice B0 m0 d0]) (fun v hv => ?_)) ?_
  · simp at hv
    rcases hv with rfl | rfl | rfl <;> rfl
  · have hg : w.grownBy (w.setCells g (k * 3) [.bool g0, .slice A0 n0 c0, .slice B0 m0 d0]) (some g) := sets_grown _ _ _ (grown_refl w (some g))
    refine hK _ ?_ hg
    obtain ⟨us, h1, h2, h3⟩ := h
    have hty := row_ty h1 g rfl
    obtain ⟨A', c', e', -⟩ := own_form h1
    injection e' with _ e2 _
    subst e2
    have a0 := (h1.stored (k * 3) (.bool g0)).1
    have a1 := (a0.stored (k * 3 + 1) (.slice A0 n0 c0)).1
    have a2 := (a1.stored (k * 3 + 2) (.slice B0 m0 d0)).1
    refine ⟨us.set k (.agg #[.bool g0, .slice A0 n0 c0, .slice B0 m0 d0]), by rw [List.length_set, flatQ_set]; exact a2, by rw [List.length_set, List.length_set]; exact h2, fun i u y hu hy => ?_⟩
    rw [List.getElem?_set] at hu hy
    by_cases e : k = i
    · subst e
      rw [if_pos rfl] at hu hy
      rw [if_pos (by omega)]
      split at hu
      · rw [if_pos (by omega)] at hy
        injection hu with hu
        injection hy with hy
        subst hu hy
        exact hq.keptT hg hty (by decide)
      · cases hu
    · rw [if_neg e] at hu hy
      have h4 := (h3 i u y hu hy).keptT hg hty (by decide)
      have h5 : (if i < k + 1 then M else K) = (if i < k then M else K) := by
        by_cases q : i < k
        · rw [if_pos q, if_pos (by omega)]
        · rw [if_neg q, if_neg (by omega)]
      rw [h5]
      exact h4
def SumAt (w : World) (g : Nat) (z : Rat) (M : Nat) : Prop := ∃ g8 A8 n8 c8 B8 m8 d8, Box w g [.bool g8, .slice A8 n8 c8, .slice B8 m8 d8] ∧ RatQ 0 w (.agg #[.bool g8, .slice A8 n8 c8, .slice B8 m8 d8]) z M
set_option maxRecDepth 100000 in
set_option maxHeartbeats 4000000 in
theorem bk_shift (o : Bool) (st : Int) (Cc A B : Option Addr) (cc m n h ct cb K b1 b2 : Nat) (cf : List Int) (zt zf : List Rat) (w : World) (hok : LftOk (o, st, cf, (n : Int))) (hm : cf.length = m) (hm3 : m ≤ 3) (hc : Ints w Cc cf) (hT : RowQ b1 w (.slice A h ct) zt K) (hF : RowQ b2 w (.slice B h cb) zf K) (hh : h ≤ 2048) (hK : 2 ≤ K) (h9 : K ≤ 90000)
    (hd : ∀ g, A = some ⟨g, 0, none⟩ → (∀ ad, B = some ad → ad.block ≠ g) ∧ (cf ≠ [] → ∀ ad, Cc = some ad → ad.block ≠ g)) :
    Calls Try.prog 76 #[.agg #[.bool o, .int .i64 st, .slice Cc m cc, .int .i64 (n : Int)], .slice A h ct, .slice B h cb] w fun e w' => e = .returned (.tuple #[]) ∧ RowQ b1 w' (.slice A h ct) (exqT (o, st, cf, (n : Int)) zt zf) (4 * K + 14) ∧ w.grownBy w' (Value.slice A h ct).ownBlock := by
  have hlt := hT.len
  have hlf := hF.len
  have HT := Lib.hid hT
  have HF := Lib.hid hF
  have HC := Lib.hid hc
  have HD := Lib.hid hd
  have HOK := Lib.hid (And.intro hok hm)
  have HLN := Lib.hid (And.intro hlt hlf)
  have HKK := Lib.hid (And.intro hK h9)
  have hn20 : n ≤ 20 := by have := hok.2.2.1; simp at this; omega
  have hst : -8 ≤ st ∧ st ≤ 8 := ⟨hok.2.2.2.1, hok.2.2.2.2.1⟩
  obtain ⟨P, hP⟩ : ∃ P : Int, (2 : Int) ^ n = P := ⟨_, rfl⟩
  have hpi : 0 < P ∧ P ≤ 2147483648 := hP ▸ ⟨pow2_pos n, pow_up (by omega)⟩
  have hw : wrap64 (2 ^ n) = P := by rw [hP]; unfold wrap64; omega
  have hPI : I64 P := pi64 hpi
  obtain ⟨u, hu⟩ : ∃ u : Rat, ((1 : Int) : Rat) / (P : Rat) = u := ⟨_, rfl⟩
  have CF : Hid (∀ w1, Calls Try.prog 46 #[.int .i64 1, .int .i64 P] w1 (RetQ w1 u 2)) := Lib.hid fun w1 => by
    have h := rt_Frac 1 P w1 ⟨by decide, by decide⟩ hPI
    rw [hu] at h
    exact h
  have HU : Hid (((1 : Int) : Rat) / ((2 ^ ((n : Int)).toNat : Int) : Rat) = u) := Lib.hid (by rw [Int.toNat_natCast, hP]; exact hu)
  have x9 : (0 : Int) ≤ (n : Int) := by omega
  have CO : Hid (∀ w1, Calls Try.prog 43 #[.int .i64 0] w1 (RetQ w1 ((0 : Int) : Rat) 2)) := Lib.hid fun w1 => rt_OfQ 0 w1 (by unfold I64; omega)
  clear hok hm hc hT hF hd hlt hlf hK h9 hP hpi hu hPI
  obtain ⟨dsR, hR1, hR2⟩ := row_Rat
  have HRR := Lib.hid (And.intro hR1 hR2)
  clear hR1 hR2
  go_enter Try.func76, Try.ntmps76
  go_upto_region 1 with fail
  have hB0 : Below w.heap.size w (w.alloc (.cells #[.bool o, .int .i64 st, .slice Cc m cc, .int .i64 (n : Int)] 64)) := ((Below.refl _ _).alloc (Nat.le_refl _) _)
  have bx0 : Box (w.alloc (.cells #[.bool o, .int .i64 st, .slice Cc m cc, .int .i64 (n : Int)] 64)) (w.heap.size) [.bool o, .int .i64 st, .slice Cc m cc, .int .i64 (n : Int)] := (Box.new (by simp))
  generalize w.alloc (.cells #[.bool o, .int .i64 st, .slice Cc m cc, .int .i64 (n : Int)] 64) = wA at hB0 bx0 ⊢
  have HA := Lib.hid (And.intro hB0 bx0)
  clear hB0 bx0
  have y3 : wA.cell? ⟨w.heap.size, 3, none⟩ = some (.int .i64 (n : Int)) := HA.out.2.2.1 3
  go_upto_region 2 with (first
    | (go_at_call 46; (with_reducible refine (CF.out _).mono ?_); rintro e4 w4 ⟨v4, rfl, hq, hb4⟩; have HQ4 := Lib.hid hq; obtain ⟨g4, A4, n4, c4, B4, m4, d4, rfl⟩ := hq.form; have HB4 := Lib.hid hb4; clear hq hb4)
    | ((with_reducible show wpList _ _ _ (Oper.mk none (.store 28 (.tmp 6) _) _ _ _ _ :: _) _ _); refine wp_stT rfl 28 _ _ rfl (w4.heap.size) 0 [_, _, _] rfl rfl size_Rat rfl (Box.new (by simp)) (Nat.le_refl _) rfl ?_; intro W1 k1 q1 t1))
  have hb1 : Below w4.heap.size w4 W1 := put_facts ((Below.refl _ _).alloc (Nat.le_refl _) _) (Nat.le_refl _) q1
  have hw4 := HB4.out.size
  have hwA := HA.out.2.1
  have HB1 : Hid (Below w.heap.size w W1) := Lib.hid (below_then (below_then HA.out.1 HB4.out) hb1)
  have HX1 := Lib.hid ((HA.out.2.keep HB4.out).keep hb1)
  have HU1 : Hid (Box W1 w4.heap.size [.bool g4, .slice A4 n4 c4, .slice B4 m4 d4] ∧ RatQ 0 W1 (.agg #[.bool g4, .slice A4 n4 c4, .slice B4 m4 d4]) u 2) := Lib.hid ⟨k1, (HQ4.out.grow hb1).base (Nat.zero_le _)⟩
  have HSZ : Hid (w.heap.size < w4.heap.size) := Lib.hid (by omega)
  have HT1 := Lib.hid (HT.out.grow HB1.out)
  have HF1 := Lib.hid (HF.out.grow HB1.out)
  have HC1 := Lib.hid (HC.out.grow HB1.out)
  obtain ⟨gu, hgu⟩ : ∃ g, w4.heap.size = g := ⟨_, rfl⟩
  rw [hgu] at HU1 HSZ ⊢
  have HS0 : Hid (RowS b1 W1 (.slice A h ct) (exqN (o, st, cf, (n : Int)) zt zf 0) 0 (4 * K + 14) K) := Lib.hid (by rw [exqN_zero]; exact HT1.out.toS)
  clear hb1 hw4 hwA k1 q1 t1 hgu HQ4 HB4 HA y3 CF HT1 hw
  go_wp2_with fail
  go_loopw [18] (fun i wr => ∃ k : Nat, k ≤ h ∧ i = .int .i64 k ∧ Hid (RowS b1 wr (.slice A h ct) (exqN (o, st, cf, (n : Int)) zt zf k) k (4 * K + 14) K) ∧ Hid (W1.grownBy wr (Value.slice A h ct).ownBlock)) (fun i _ => h - (intOf i).toNat)
  case atStart => exact ⟨0, Nat.zero_le _, rfl, HS0, Lib.hid (grown_refl _ _)⟩
  case round =>
    obtain ⟨k, hk, rfl, HS, HG⟩ := hrel
    by_cases hlt : k < h
    · obtain ⟨gt, g1, A1, n1, c1, B1, m1, d1, a, rfl, ha, ⟨hg1, hg2, hg3⟩, hA⟩ := HS.out.atW (k := k) (by rw [exqN_length]; have := HLN.out.1; omega)
      have hga : gt < w.heap.size := (HT.out.lt gt rfl).2
      have ha' : elQ zt k = a := by rw [exqN_at (by have := HLN.out.1; omega)] at ha; injection ha
      have HGT : Hid (gt < w.heap.size ∧ gt < wr.heap.size ∧ TyB wr gt 28 ∧ b1 ≤ gt) := Lib.hid ⟨hga, hg2, hg3, hg1⟩
      have HAV := Lib.hid ha'
      have HA := Lib.hid hA
      have hgr : W1.grownBy wr (some gt) := HG.out
      have hty1 : TyB W1 gt 28 := (HT.out.ty gt rfl).grow HB1.out
      have hd := HD.out gt rfl
      have HX2 := Lib.hid (HX1.out.grown hgr (fun e => by injection e with e; omega))
      have HU2 : Hid (Box wr gu [.bool g4, .slice A4 n4 c4, .slice B4 m4 d4] ∧ RatQ 0 wr (.agg #[.bool g4, .slice A4 n4 c4, .slice B4 m4 d4]) u 2) := Lib.hid ⟨HU1.out.1.grown hgr (fun e => by injection e with e; have := HSZ.out; omega), HU1.out.2.keptT hgr hty1 (by decide)⟩
      have hnB : (Value.slice B h cb).ownBlock = none ∨ (Value.slice B h cb).ownBlock ≠ some gt := by
        cases B with
        | none => exact .inl rfl
        | some ad => exact .inr (fun e => hd.1 ad rfl (by injection e))
      have HF2 := Lib.hid (HF1.out.kept hgr (fun g e => by injection e with e; subst e; exact hty1) hnB)
      have HC2 : Hid (Ints wr Cc cf) := Lib.hid (HC1.out.kept hgr (fun hn ad e => fun e2 => hd.2 hn ad e (by injection e2)))
      clear ha ha' hA hga hg1 hg2 hg3 hgr hty1 hd hnB
      go_upto_region 6 with (first
        | (go_at_call 43; (with_reducible refine (CO.out _).mono ?_); rintro e5 w5 ⟨v5, rfl, hq, hb5⟩; have HQ5 := Lib.hid hq; obtain ⟨g5, A5, n5, c5, B5, m5, d5, rfl⟩ := hq.form; have HB5 := Lib.hid hb5; clear hq hb5)
        | ((with_reducible show wpList _ _ _ (Oper.mk none (.store 28 (.tmp 8) _) _ _ _ _ :: _) _ _); refine wp_stT rfl 28 _ _ rfl (w5.heap.size) 0 [_, _, _] rfl rfl size_Rat rfl (Box.new (by simp)) (Nat.le_refl _) rfl ?_; intro W5 k5 q5 t5))
      have hb5 : Below w5.heap.size w5 W5 := put_facts ((Below.refl _ _).alloc (Nat.le_refl _) _) (Nat.le_refl _) q5
      have HB5' : Hid (Below wr.heap.size wr W5) := Lib.hid (below_then HB5.out hb5)
      have HS5 : Hid (SumAt W5 w5.heap.size (exqS cf st zf k 0) 2) := Lib.hid ⟨g5, A5, n5, c5, B5, m5, d5, k5, (HQ5.out.grow hb5).base (Nat.zero_le _)⟩
      have HSR : Hid (wr.heap.size ≤ w5.heap.size) := Lib.hid HB5.out.size
      have y2 : W5.cell? ⟨w.heap.size, 2, none⟩ = some (.slice Cc m cc) := (HX2.out.keep HB5'.out).2.1 2
      obtain ⟨gs, hgs⟩ : ∃ g, w5.heap.size = g := ⟨_, rfl⟩
      rw [hgs] at HS5 HSR ⊢
      clear k5 q5 t5 hb5 hgs HB5 HQ5
      go_wp2_with fail
      clear y2
      obtain ⟨wo, rfl⟩ : ∃ wo : World, wo = wr := ⟨_, rfl⟩
      go_loopw [25] (fun i wr => ∃ (j M : Nat), j ≤ m ∧ i = .int .i64 j ∧ Hid (M = 2 + j * (K + 3)) ∧ Hid (SumAt wr gs (exqS cf st zf k j) M) ∧ Hid (Below wo.heap.size wo wr)) (fun i _ => m - (intOf i).toNat)
      case atStart => exact ⟨0, 2, Nat.zero_le _, rfl, Lib.hid (by omega), HS5, HB5'⟩
      case round =>
        obtain ⟨j, M, hj, rfl, HM, HSM, HB2⟩ := hrel
        obtain ⟨g8, A8, n8, c8, B8, m8, d8, hbs, hqs⟩ := HSM.out
        have HSB := Lib.hid hbs
        have HSQ := Lib.hid hqs
        clear hbs hqs
        by_cases hl2 : j < m
        · obtain ⟨ac, x, rfl, _, hx, hcx, i1, i2⟩ := (HC2.out.grow HB2.out).at_ (k := j) (by have := HOK.out.2; omega)
          have hxb := HOK.out.1.2.2.2.2.2 x (List.mem_of_getElem? hx)
          have HX := Lib.hid (el_of hx)
          have hJ1 : 0 ≤ ((k : Int) + st + (j : Int)) % (h : Int) := Int.emod_nonneg _ (by omega)
          have hJ2 : ((k : Int) + st + (j : Int)) % (h : Int) < (h : Int) := Int.emod_lt_of_pos _ (by omega)
          obtain ⟨J, hJ⟩ : ∃ J : Nat, ((k : Int) + st + (j : Int)) % (h : Int) = (J : Int) := ⟨(((k : Int) + st + (j : Int)) % (h : Int)).toNat, by omega⟩
          have hJl : J < h := by omega
          have HJ := Lib.hid hJ
          have CAR : Hid (∀ w1, Calls Try.prog 113 #[.int .i64 ((k : Int) + st + (j : Int)), .int .i64 (h : Int)] w1 fun e w' => e = .returned (.int .i64 (J : Int)) ∧ w1 = w') := Lib.hid fun w1 => by
            have h1 := bk_around ((k : Int) + st + (j : Int)) (h : Int) w1 (by omega) (by omega)
            rw [HJ.out] at h1
            exact h1
          obtain ⟨gf, g2, A2, n2, c2, B2, m2, d2, zJ, rfl, hzJ, hFJ⟩ := (HF2.out.grow HB2.out).atW (k := J) (by have := HLN.out.2; omega)
          have HZJ := Lib.hid (elQ_of hzJ)
          have HFJ := Lib.hid hFJ
          obtain ⟨S, hS⟩ : ∃ S, exqS cf st zf k j = S := ⟨_, rfl⟩
          obtain ⟨p, hp⟩ : ∃ p : Rat, ((x : Int) : Rat) * zJ = p := ⟨_, rfl⟩
          obtain ⟨S2, hS2⟩ : ∃ S2 : Rat, S + p = S2 := ⟨_, rfl⟩
          have HSX : Hid (exqS cf st zf k (j + 1) = S2) := Lib.hid (by unfold exqS; rw [HX.out, ← HLN.out.2, HJ.out, Int.toNat_natCast, HZJ.out, hS, hp, hS2])
          have hMb : M ≤ 3 * K + 11 := by
            have h1 := HM.out
            have h2 := Nat.mul_le_mul_right (K + 3) (show j ≤ 3 by omega)
            omega
          have HMB := Lib.hid hMb
          rw [hS] at HSQ
          have COx : Hid (∀ w1, Calls Try.prog 43 #[.int .i64 x] w1 (RetQ w1 ((x : Int) : Rat) 2)) := Lib.hid fun w1 => rt_OfQ x w1 ⟨i1, i2⟩
          have CM : Hid (∀ u' w1 bb, Below wr.heap.size wr w1 → RatQ bb w1 u' ((x : Int) : Rat) 2 → Calls Try.prog 42 #[u', .agg #[.bool g2, .slice A2 n2 c2, .slice B2 m2 d2]] w1 (RetQ w1 p (2 + K))) := Lib.hid fun u' w1 bb hb hu => by
            have hk := HKK.out
            have h1 := rt_Mul u' _ _ zJ 2 K w1 hu.arg (HFJ.out w1 hb).1.arg (by decide) (by omega) (by decide) (by omega)
            rw [hp] at h1
            exact h1
          have CA : Hid (∀ u' w1 bb, Below wr.heap.size wr w1 → RatQ bb w1 u' p (2 + K) → Calls Try.prog 45 #[.agg #[.bool g8, .slice A8 n8 c8, .slice B8 m8 d8], u'] w1 (RetQ w1 S2 (M + (2 + K) + 1))) := Lib.hid fun u' w1 bb hb hu => by
            have hk := HKK.out
            have hm1 := HMB.out
            have hm2 := HM.out
            have h1 := rt_Add _ u' S p M (2 + K) w1 (HSQ.out.grow hb).arg hu.arg (by omega) (by omega) (by omega) (by omega)
            rw [hS2] at h1
            exact h1
          have y1 : wr.cell? ⟨w.heap.size, 1, none⟩ = some (.int .i64 st) := (HX2.out.keep HB2.out).2.1 1
          have hgs := HSB.out.1
          clear hx hxb hzJ hFJ hS hp hS2 hMb hJ hJ1 hJ2
          go_upto_region 10 with (first
            | (go_at_call 113; (with_reducible refine (CAR.out _).mono ?_); rintro e6 w6 ⟨rfl, rfl⟩)
            | ((with_reducible show wpList _ _ _ (Oper.mk _ (.load 28 _) _ _ _ _ :: _) _ _); refine wpList_load_mid rfl 28 _ rfl (gf) (J * 3) rfl [.bool g2, .slice A2 n2 c2, .slice B2 m2 d2] dsR (HFJ.out _ (Below.refl _ _)).2 HRR.out.1 HRR.out.2 size_Rat ?_)
            | ((with_reducible show wpList _ _ _ (Oper.mk none (.store 28 (.tmp 11) _) _ _ _ _ :: _) _ _); refine wp_stT rfl 28 _ _ rfl (wr.heap.size) 0 [_, _, _] rfl rfl size_Rat rfl (Box.new (by simp)) (Nat.le_refl _) rfl ?_; intro W6 k6 q6 t6))
          have hb6 : Below wr.heap.size wr W6 := put_facts ((Below.refl _ _).alloc (Nat.le_refl _) _) (Nat.le_refl _) q6
          have HB6 := Lib.hid hb6
          have HV6 : Hid (Box W6 wr.heap.size [.bool g2, .slice A2 n2 c2, .slice B2 m2 d2]) := Lib.hid k6
          have HS6 := Lib.hid (HSB.out.keep hb6)
          obtain ⟨gv, hgv⟩ : ∃ g, wr.heap.size = g := ⟨_, rfl⟩
          rw [hgv] at HV6 ⊢
          clear y1 hcx k6 q6 t6 hb6 hgv CAR
          refine wp_region_grow7 (fun i => Nat.blt i 6) (fun _ => false) (fun w9 => Below W6.heap.size W6 w9) (gT [.v (.agg #[.bool g8, .slice A8 n8 c8, .slice B8 m8 d8]), .v (.int .i64 x), .rq ((x : Int) : Rat) 2, .v (.agg #[.bool g2, .slice A2 n2 c2, .slice B2 m2 d2]), .rq p (2 + K), .rq S2 (M + (2 + K) + 1)]) (fun a b => Below a.heap.size a b) (dT W6.heap.size [.v (.agg #[.bool g8, .slice A8 n8 c8, .slice B8 m8 d8]), .v (.int .i64 x), .rq ((x : Int) : Rat) 2, .v (.agg #[.bool g2, .slice A2 n2 c2, .slice B2 m2 d2]), .rq p (2 + K), .rq S2 (M + (2 + K) + 1)]) (by kernel_rfl) (by kernel_rfl) (Below.refl _ _).drew (fun j x a b h1 h2 => ⟨below_then h1 h2.1, fun i _ v => dT_keep h2.1 i v, Below.refl _ _, fun w0 h => below_then h h2.1⟩) (fun j v w h => by cases h) ?_ (fun j o _ _ h => by cases h) ?_
          · refine ⟨?_, ?_, ?_, ?_, ?_, ?_, trivial⟩
            all_goals
              intro vs w9 hp hF
              have HP := Lib.hid hp
              clear hp
              simp [depsB, Region.binds, dT] at hF
              simp [stL, depsB, Region.binds, Act.put, hF]
            · (obtain ⟨dI, hI1, hI2⟩ := row_Rat; refine wp_ld rfl 28 _ rfl (gs) 0 rfl (HS6.out.keep HP.out) [.bool g8, .slice A8 n8 c8, .slice B8 m8 d8] (fun j v h => by rcases j with _ | _ | _ | _ | j <;> simp at h ⊢ <;> exact h) dI hI1 hI2 size_Rat ?_; go_wp2_with fail; exact ⟨rfl, Below.refl _ _, nbx rfl⟩)
            · (go_wp2_with fail; exact ⟨rfl, Below.refl _ _, nbx rfl⟩)
            · go_wp2_with (go_at_call 43; (with_reducible refine (COx.out _).mono ?_); rintro e1 w1' ⟨v1, rfl, ho, hb1⟩)
              exact ⟨ho.base HP.out.size, hb1, nbx rfl⟩
            · (obtain ⟨dI, hI1, hI2⟩ := row_Rat; refine wp_ld rfl 28 _ rfl (gv) 0 rfl (HV6.out.keep HP.out) [.bool g2, .slice A2 n2 c2, .slice B2 m2 d2] (fun j v h => by rcases j with _ | _ | _ | _ | j <;> simp at h ⊢ <;> exact h) dI hI1 hI2 size_Rat ?_; go_wp2_with fail; exact ⟨rfl, Below.refl _ _, nbx rfl⟩)
            · obtain ⟨hq, e3⟩ := hF
              have HQ1 := Lib.hid hq
              obtain ⟨g5, A5, n5, c5, B5, m5, d5, e5⟩ := hq.form
              rw [e5] at HQ1
              simp only [e5, e3]
              go_wp2_with (go_at_call 42; (with_reducible refine (CM.out _ _ _ (below_then HB6.out HP.out) HQ1.out).mono ?_); rintro e1' w1' ⟨v1, rfl, ho, hb1⟩)
              exact ⟨ho.base HP.out.size, hb1, nbx rfl⟩
            · obtain ⟨e0, hq⟩ := hF
              have HQ1 := Lib.hid hq
              obtain ⟨g5, A5, n5, c5, B5, m5, d5, e5⟩ := hq.form
              rw [e5] at HQ1
              simp only [e0, e5]
              go_wp2_with (go_at_call 45; (with_reducible refine (CA.out _ _ _ (below_then HB6.out HP.out) HQ1.out).mono ?_); rintro e1' w1' ⟨v1, rfl, ho, hb1⟩)
              exact ⟨ho.base HP.out.size, hb1, nbx rfl⟩
          intro vs w9 hp hF hpr
          have hq : RatQ W6.heap.size w9 (vs 5) S2 (M + (2 + K) + 1) := hF 5 (by decide) rfl
          have HQ2 := Lib.hid hq
          obtain ⟨g9, A9, n9, c9, B9, m9, d9, e9⟩ := hq.form
          rw [e9] at HQ2
          have HBE := Lib.hid hp
          clear hF hpr hq hp
          show wpList Try.prog _ _ [_] _ _
          simp [stL, Act.put, e9]
          refine wp_stT rfl 28 _ _ rfl gs 0 [_, _, _] rfl rfl size_Rat rfl (HS6.out.keep HBE.out) (Nat.le_refl _) rfl ?_
          intro W7 k7 q7 t7
          have HS7 : Hid (SumAt W7 gs (exqS cf st zf k (j + 1)) (M + (2 + K) + 1)) := Lib.hid (by rw [HSX.out]; exact ⟨g9, A9, n9, c9, B9, m9, d9, k7, (HQ2.out.away q7 HS6.out.1).base (Nat.zero_le _)⟩)
          have HB7 : Hid (Below wo.heap.size wo W7) := Lib.hid (put_facts (below_then (below_then HB2.out HB6.out) HBE.out) HSR.out q7)
          have HM7 : Hid (M + (2 + K) + 1 = 2 + (j + 1) * (K + 3)) := Lib.hid (by rw [Nat.succ_mul, HM.out]; omega)
          clear k7 q7 t7 CM CA COx hgs
          go_wp2_with fail
          go_roundw
          case rel => exact ⟨j + 1, M + (2 + K) + 1, by omega, by go_num, HM7, HS7, HB7⟩
          case measure => simp [intOf]; omega
        · obtain rfl : m = j := by omega
          obtain ⟨S, hS⟩ : ∃ S, exqS cf st zf k m = S := ⟨_, rfl⟩
          rw [hS] at HSQ
          obtain ⟨q, hq⟩ : ∃ q : Rat, S * u = q := ⟨_, rfl⟩
          obtain ⟨y, hy⟩ : ∃ y : Rat, a + q = y := ⟨_, rfl⟩
          have HEY : Hid (exqE (o, st, cf, (n : Int)) zt zf k = y) := Lib.hid (by unfold exqE; dsimp only; rw [HU.out, HOK.out.2, HAV.out, hS, hq, hy])
          have hMb : M ≤ 3 * K + 11 := by
            have h1 := HM.out
            have h2 := Nat.mul_le_mul_right (K + 3) hm3
            omega
          have HMB := Lib.hid hMb
          have HU3 := Lib.hid (HU2.out.1.keep HB2.out)
          have CM : Hid (∀ w1, Below wr.heap.size wr w1 → Calls Try.prog 42 #[.agg #[.bool g8, .slice A8 n8 c8, .slice B8 m8 d8], .agg #[.bool g4, .slice A4 n4 c4, .slice B4 m4 d4]] w1 (RetQ w1 q (M + 2))) := Lib.hid fun w1 hb => by
            have hk := HKK.out
            have hm1 := HMB.out
            have hm2 := HM.out
            have h1 := rt_Mul _ _ S u M 2 w1 (HSQ.out.grow hb).arg (HU2.out.2.grow (below_then HB2.out hb)).arg (by omega) (by decide) (by omega) (by decide)
            rw [hq] at h1
            exact h1
          have CA : Hid (∀ u' w1 bb, Below wr.heap.size wr w1 → RatQ bb w1 u' q (M + 2) → Calls Try.prog 45 #[.agg #[.bool g1, .slice A1 n1 c1, .slice B1 m1 d1], u'] w1 (RetQ w1 y (K + (M + 2) + 1))) := Lib.hid fun u' w1 bb hb hu => by
            have hk := HKK.out
            have hm1 := HMB.out
            have h1 := rt_Add _ u' a q K (M + 2) w1 (HA.out w1 (below_then HB2.out hb)).1.arg hu.arg (by omega) (by omega) (by omega) (by omega)
            rw [hy] at h1
            exact h1
          clear hS hq hy hMb
          go_upto_region 12 with fail
          refine wp_region_grow7 (fun i => Nat.blt i 11) (fun _ => false) (fun w9 => Below wr.heap.size wr w9) (gT [.v (.slice (some ⟨gt, 0, none⟩) h ct), .v (.int .i64 (k : Int)), .v (.slice (some ⟨gt, 0, none⟩) h ct), .v (.int .i64 (k : Int)), .v (.pointer (some ⟨gt, k * 3, none⟩)), .v (.agg #[.bool g1, .slice A1 n1 c1, .slice B1 m1 d1]), .v (.agg #[.bool g8, .slice A8 n8 c8, .slice B8 m8 d8]), .v (.agg #[.bool g4, .slice A4 n4 c4, .slice B4 m4 d4]), .rq q (M + 2), .rq y (K + (M + 2) + 1), .v (.pointer (some ⟨gt, k * 3, none⟩))]) (fun a b => Below a.heap.size a b) (dT wr.heap.size [.v (.slice (some ⟨gt, 0, none⟩) h ct), .v (.int .i64 (k : Int)), .v (.slice (some ⟨gt, 0, none⟩) h ct), .v (.int .i64 (k : Int)), .v (.pointer (some ⟨gt, k * 3, none⟩)), .v (.agg #[.bool g1, .slice A1 n1 c1, .slice B1 m1 d1]), .v (.agg #[.bool g8, .slice A8 n8 c8, .slice B8 m8 d8]), .v (.agg #[.bool g4, .slice A4 n4 c4, .slice B4 m4 d4]), .rq q (M + 2), .rq y (K + (M + 2) + 1), .v (.pointer (some ⟨gt, k * 3, none⟩))]) (by kernel_rfl) (by kernel_rfl) (Below.refl _ _).drew (fun j x a b h1 h2 => ⟨below_then h1 h2.1, fun i _ v => dT_keep h2.1 i v, Below.refl _ _, fun w0 h => below_then h h2.1⟩) (fun j v w h => by cases h) ?_ (fun j o _ _ h => by cases h) ?_
          · refine ⟨?_, ?_, ?_, ?_, ?_, ?_, ?_, ?_, ?_, ?_, ?_, trivial⟩
            all_goals
              intro vs w9 hp hF
              have HP := Lib.hid hp
              clear hp
              simp [depsB, Region.binds, dT] at hF
              simp [stL, depsB, Region.binds, Act.put, hF]
            · (go_wp2_with fail; exact ⟨rfl, Below.refl _ _, nbx rfl⟩)
            · (go_wp2_with fail; exact ⟨rfl, Below.refl _ _, nbx rfl⟩)
            · (go_wp2_with fail; exact ⟨rfl, Below.refl _ _, nbx rfl⟩)
            · (go_wp2_with fail; exact ⟨rfl, Below.refl _ _, nbx rfl⟩)
            · (go_wp2_with fail; exact ⟨rfl, Below.refl _ _, nbx rfl⟩)
            · (refine wpList_load_mid rfl 28 _ rfl (gt) (k * 3) rfl [.bool g1, .slice A1 n1 c1, .slice B1 m1 d1] dsR (HA.out _ (below_then HB2.out HP.out)).2 HRR.out.1 HRR.out.2 size_Rat ?_; go_wp2_with fail; exact ⟨rfl, Below.refl _ _, nbx rfl⟩)
            · (obtain ⟨dI, hI1, hI2⟩ := row_Rat; refine wp_ld rfl 28 _ rfl (gs) 0 rfl (HSB.out.keep HP.out) [.bool g8, .slice A8 n8 c8, .slice B8 m8 d8] (fun j v h => by rcases j with _ | _ | _ | _ | j <;> simp at h ⊢ <;> exact h) dI hI1 hI2 size_Rat ?_; go_wp2_with fail; exact ⟨rfl, Below.refl _ _, nbx rfl⟩)
            · (obtain ⟨dI, hI1, hI2⟩ := row_Rat; refine wp_ld rfl 28 _ rfl (gu) 0 rfl (HU3.out.keep HP.out) [.bool g4, .slice A4 n4 c4, .slice B4 m4 d4] (fun j v h => by rcases j with _ | _ | _ | _ | j <;> simp at h ⊢ <;> exact h) dI hI1 hI2 size_Rat ?_; go_wp2_with fail; exact ⟨rfl, Below.refl _ _, nbx rfl⟩)
            · go_wp2_with (go_at_call 42; (with_reducible refine (CM.out _ HP.out).mono ?_); rintro e1' w1' ⟨v1, rfl, ho, hb1⟩)
              exact ⟨ho.base HP.out.size, hb1, nbx rfl⟩
            · obtain ⟨e5', hq⟩ := hF
              have HQ1 := Lib.hid hq
              obtain ⟨g5, A5, n5, c5, B5, m5, d5, e5⟩ := hq.form
              rw [e5] at HQ1
              simp only [e5', e5]
              go_wp2_with (go_at_call 45; (with_reducible refine (CA.out _ _ _ HP.out HQ1.out).mono ?_); rintro e1' w1' ⟨v1, rfl, ho, hb1⟩)
              exact ⟨ho.base HP.out.size, hb1, nbx rfl⟩
            · (go_wp2_with fail; exact ⟨rfl, Below.refl _ _, nbx rfl⟩)
          intro vs w9 hp hF hpr
          have hq : RatQ wr.heap.size w9 (vs 9) y (K + (M + 2) + 1) := hF 9 (by decide) rfl
          have e16 : vs 10 = .pointer (some ⟨gt, k * 3, none⟩) := hF 10 (by decide) rfl
          have HQ2 := Lib.hid hq
          obtain ⟨g9, A9, n9, c9, B9, m9, d9, e9⟩ := hq.form
          rw [e9] at HQ2
          have HBE := Lib.hid (below_then HB2.out hp)
          clear hF hpr hq hp
          show wpList Try.prog _ _ [_] _ _
          simp [stL, Act.put, e9, e16]
          refine st_s (k := k) (HS.out.grow HBE.out) (by rw [exqN_length]; have := HLN.out.1; omega) ((HQ2.out.base (Nat.zero_le _)).le (by have := HMB.out; omega)) rfl _ _ rfl rfl rfl ?_
          intro W8 hr8 hg8
          have HR8 : Hid (RowS b1 W8 (.slice (some ⟨gt, 0, none⟩) h ct) (exqN (o, st, cf, (n : Int)) zt zf (k + 1)) (k + 1) (4 * K + 14) K) := Lib.hid (by rw [exqN_succ (by have := HLN.out.1; omega), HEY.out]; exact hr8)
          have HG8 : Hid (W1.grownBy W8 (Value.slice (some ⟨gt, 0, none⟩) h ct).ownBlock) := Lib.hid ((grown_below HG.out HBE.out).trans hg8)
          clear hr8 hg8 CM CA e9 e16
          go_wp2_with fail
          go_roundw
          case rel => exact ⟨k + 1, by omega, by go_num, HR8, HG8⟩
          case measure => simp [intOf]; omega
    · obtain rfl : h = k := by omega
      go_wp2_with fail
      go_end0
      have he : exqT (o, st, cf, (n : Int)) zt zf = exqN (o, st, cf, (n : Int)) zt zf h := by unfold exqT; rw [← HLN.out.1]
      rw [he]
      exact ⟨rfl, HS.out.toQ (by rw [exqN_length]; have := HLN.out.1; omega), (grown_below (grown_refl w _) HB1.out).trans HG.out⟩
end Go.Proofs.Ytmdfgidejdiiiaa
