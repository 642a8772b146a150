/- Several texts in one: Ix Jg Ka Kd Ke Kf. -/
import Derived.Test.YtmdfgidejdiiiaadIu
import Derived.Test.YtmdfgidejdiiiaadFxtoV1
import Derived.Test.YtmdfgidejdiiiaadJ7toZ3
import Derived.Test.YtmdfgidejdiiiaadV7toZt
import Derived.Test.YtmdfgidejdiiiaadPltoAs
import Derived.Deep.RegionHeld3
import Derived.Test.YtmdfgidejdiiiaadZstoV3
set_option linter.unusedVariables false
set_option linter.unusedSimpArgs false
section
namespace Go.Proofs.Ytmdfgidejdiiiaa
open Go.RowKit
theorem RatN.keptT {b g : Nat} {w w' : World} {v : Value} {p q : Int} {K : Nat} {t : TypeId} (h : RatN b w v p q K) (hg : w.grownBy w' (some g)) (ht : TyB w g t) (hn : t ≠ 77) : RatN b w' v p q K := by
  obtain ⟨ng, A, c, l, B, d, r, e, ⟨o, m⟩, o', m'⟩ := h
  exact ⟨ng, A, c, l, B, d, r, e, ⟨o.keptT hg ht hn, m⟩, o'.keptT hg ht hn, m'⟩
end Go.Proofs.Ytmdfgidejdiiiaa
end
section
namespace Go.Proofs.Ytmdfgidejdiiiaa
open Go.RowKit
theorem wpList_want {P : Program} {ops : Array Oper} {Q : Exit → Act → World → Prop} {rest : List Oper} {a : Act} {w : World} {d : Option Tmp} {op : Op} {t : TypeId} {p : String} {af : Array Edge} {g : Option (Nat × Bool)}
    (hw : Region.wanted (Oper.mk d op t p af g) (yielded ops a.tmps) = true) (h : wpList P ops Q (Oper.mk d op t p af none :: rest) a w) : wpList P ops Q (Oper.mk d op t p af g :: rest) a w := by
  unfold wpList at h ⊢
  rw [if_pos hw]
  rw [if_pos (by rfl)] at h
  exact h
end Go.Proofs.Ytmdfgidejdiiiaa
end
section
namespace Go.Proofs.Ytmdfgidejdiiiaa
open Go.RowKit
theorem RatQ.keptT {b g : Nat} {w w' : World} {v : Value} {z : Rat} {K : Nat} {t : TypeId} (h : RatQ b w v z K) (hg : w.grownBy w' (some g)) (ht : TyB w g t) (hn : t ≠ 77) : RatQ b w' v z K := by
  obtain ⟨p, q, ⟨ng, A, c, l, B, d, r, e, ⟨o, m⟩, o', m'⟩, hr⟩ := h
  exact ⟨p, q, ⟨ng, A, c, l, B, d, r, e, ⟨o.keptT hg ht hn, m⟩, o'.keptT hg ht hn, m'⟩, hr⟩
end Go.Proofs.Ytmdfgidejdiiiaa
end
section
namespace Go.Proofs.Ytmdfgidejdiiiaa
open Go.RowKit
def triV (u : Value) : List Value := match u with
  | .agg cs => [cs.getD 0 undef, cs.getD 1 undef, cs.getD 2 undef]
  | _ => [undef, undef, undef]
theorem triV_len (u : Value) : (triV u).length = 3 := by unfold triV; split <;> rfl
theorem flatV_get {α : Type} {enc : α → List Value} {sz : Nat} (he : ∀ x, (enc x).length = sz) : ∀ (xs : List α) (k j : Nat) (x : α), xs[k]? = some x → j < sz → (xs.flatMap enc)[k * sz + j]? = (enc x)[j]?
  | [], k, j, x, h, _ => by simp at h
  | a :: l, 0, j, x, h, hj => by
    simp only [List.getElem?_cons_zero, Option.some.injEq] at h
    subst h
    rw [List.flatMap_cons, Nat.zero_mul, Nat.zero_add, List.getElem?_append_left (by rw [he]; exact hj)]
  | a :: l, k + 1, j, x, h, hj => by
    simp only [List.getElem?_cons_succ] at h
    rw [List.flatMap_cons, List.getElem?_append_right (by rw [he]; rw [Nat.add_mul]; omega), he, show (k + 1) * sz + j - sz = k * sz + j by rw [Nat.add_mul]; omega]
    exact flatV_get he l k j x h hj
theorem flatQ_set : ∀ (us : List Value) (k : Nat) (a b c : Value), (us.set k (.agg #[a, b, c])).flatMap triV = (((us.flatMap triV).set (k * 3) a).set (k * 3 + 1) b).set (k * 3 + 2) c
  | [], k, a, b, c => by simp
  | u :: l, 0, a, b, c => by
    obtain ⟨x, y, z, h⟩ : ∃ x y z, triV u = [x, y, z] := by unfold triV; split <;> exact ⟨_, _, _, rfl⟩
    rw [List.set_cons_zero, List.flatMap_cons, List.flatMap_cons, h]
    rfl
  | u :: l, k + 1, a, b, c => by
    rw [List.set_cons_succ, List.flatMap_cons, flatQ_set l k a b c, List.flatMap_cons]
    obtain ⟨x, y, z, h⟩ : ∃ x y z, triV u = [x, y, z] := by unfold triV; split <;> exact ⟨_, _, _, rfl⟩
    rw [h, show (k + 1) * 3 = k * 3 + 1 + 1 + 1 by omega]
    simp
theorem RatQ.row {b : Nat} {w w' : World} {v : Value} {z : Rat} {K : Nat} {r : Option Nat} (h : RatQ b w v z K) (hg : w.grownBy w' r) (ht : ∀ g, r = some g → TyB w g 28) : RatQ b w' v z K := by
  cases r with
  | none => exact h.grow ((Below.refl _ _).grown hg (Nat.le_refl _) (by intro k hk; cases hk))
  | some g => exact h.keptT hg (ht g rfl) (by decide)
theorem row_ty {w : World} {base n size : Nat} {e : TypeId} {v : Value} {xs : List Value} (h : w.ownsRow base e size v n xs) : ∀ g, v.ownBlock = some g → TyB w g e := by
  intro k hk
  rcases h.2 with ⟨rfl, _⟩ | ⟨g, cap, cur, rfl, hb, hg, _⟩
  · simp [Value.ownBlock] at hk
  · simp [Value.ownBlock] at hk
    subst hk
    exact ⟨_, _, hg⟩
def RowQ (base : Nat) (w : World) (v : Value) (zs : List Rat) (K : Nat) : Prop :=
  ∃ us : List Value, w.ownsRow base 28 3 v us.length (us.flatMap triV) ∧ us.length = zs.length ∧ ∀ (i : Nat) u z, us[i]? = some u → zs[i]? = some z → RatQ 0 w u z K
theorem RowQ.nil {base : Nat} {w : World} {K : Nat} : RowQ base w (.slice none 0 0) [] K := ⟨[], World.ownsRow_nil _ _ _ _, rfl, fun i u z h => by simp at h⟩
theorem RowQ.grow {base : Nat} {w w' : World} {v : Value} {zs : List Rat} {K : Nat} (h : RowQ base w v zs K) (hb : Below w.heap.size w w') : RowQ base w' v zs K := by
  obtain ⟨us, h1, h2, h3⟩ := h
  exact ⟨us, own_grow h1 hb, h2, fun i u z a b => (h3 i u z a b).grow hb⟩
theorem RowQ.base {base base' : Nat} {w : World} {v : Value} {zs : List Rat} {K : Nat} (h : RowQ base w v zs K) (hb : base' ≤ base) : RowQ base' w v zs K := by
  obtain ⟨us, h1, h2⟩ := h
  exact ⟨us, own_base h1 hb, h2⟩
theorem RowQ.le {base : Nat} {w : World} {v : Value} {zs : List Rat} {K M : Nat} (h : RowQ base w v zs K) (hb : K ≤ M) : RowQ base w v zs M := by
  obtain ⟨us, h1, h2, h3⟩ := h
  exact ⟨us, h1, h2, fun i u z a b => (h3 i u z a b).le hb⟩
theorem RowQ.ty {base : Nat} {w : World} {v : Value} {zs : List Rat} {K : Nat} (h : RowQ base w v zs K) : ∀ g, v.ownBlock = some g → TyB w g 28 := by
  obtain ⟨us, h1, -⟩ := h
  exact row_ty h1
theorem RowQ.lt {base : Nat} {w : World} {v : Value} {zs : List Rat} {K : Nat} (h : RowQ base w v zs K) : ∀ g, v.ownBlock = some g → base ≤ g ∧ g < w.heap.size := by
  obtain ⟨us, h1, -⟩ := h
  exact h1.lt
theorem RowQ.kept {base : Nat} {w w' : World} {v : Value} {zs : List Rat} {K : Nat} {r : Option Nat} (h : RowQ base w v zs K) (hg : w.grownBy w' r) (ht : ∀ g, r = some g → TyB w g 28) (hn : v.ownBlock = none ∨ v.ownBlock ≠ r) : RowQ base w' v zs K := by
  obtain ⟨us, h1, h2, h3⟩ := h
  exact ⟨us, h1.kept hg hn, h2, fun i u z a b => (h3 i u z a b).row hg ht⟩
theorem RowQ.form {base : Nat} {w : World} {v : Value} {zs : List Rat} {K : Nat} (h : RowQ base w v zs K) : ∃ A c, v = .slice A zs.length c ∧ zs.length ≤ c := by
  obtain ⟨us, h1, h2, -⟩ := h
  obtain ⟨A, c, rfl, hc⟩ := own_form h1
  exact ⟨A, c, by rw [h2], by omega⟩
theorem RowQ.at_ {base : Nat} {w : World} {A : Option Addr} {n c : Nat} {zs : List Rat} {K k : Nat} (h : RowQ base w (.slice A n c) zs K) (hk : k < zs.length) :
    ∃ g g0 A0 n0 c0 B0 m0 d0 z, A = some ⟨g, 0, none⟩ ∧ n = zs.length ∧ zs[k]? = some z ∧ RatQ 0 w (.agg #[.bool g0, .slice A0 n0 c0, .slice B0 m0 d0]) z K ∧ w.rangeAt g (k * 3) [.bool g0, .slice A0 n0 c0, .slice B0 m0 d0] ∧ base ≤ g ∧ g < w.heap.size := by
  obtain ⟨us, h1, h2, h3⟩ := h
  have hu : us[k]? = some us[k] := List.getElem?_eq_getElem (by omega)
  have hz : zs[k]? = some zs[k] := List.getElem?_eq_getElem hk
  have hq := h3 k _ _ hu hz
  obtain ⟨g0, A0, n0, c0, B0, m0, d0, e⟩ := hq.form
  rw [e] at hu hq
  obtain ⟨A', c', e', hc'⟩ := own_form h1
  injection e' with e1 e2 e3
  subst e1 e2 e3
  have cell : ∀ j v, ([.bool g0, .slice A0 n0 c0, .slice B0 m0 d0] : List Value)[j]? = some v → ∃ g, A = some ⟨g, 0, none⟩ ∧ g < w.heap.size ∧ w.cell? ⟨g, k * 3 + j, none⟩ = some v := fun j v hv => by
    have hj : j < 3 := (List.getElem?_eq_some_iff.1 hv).1
    refine own_cells h1 ?_
    rw [flatV_get triV_len us k j _ hu hj]
    exact hv
  obtain ⟨g, e4, hg, -⟩ := cell 0 _ rfl
  refine ⟨g, g0, A0, n0, c0, B0, m0, d0, _, e4, h2, hz, hq, fun j v hv => ?_, (h1.lt g (by rw [e4]; rfl)).1, hg⟩
  obtain ⟨g', e5, -, hc⟩ := cell j v hv
  rw [e4] at e5
  injection e5 with e5
  injection e5 with e5
  subst e5
  exact hc
theorem RowQ.len {base : Nat} {w : World} {A : Option Addr} {n c : Nat} {zs : List Rat} {K : Nat} (h : RowQ base w (.slice A n c) zs K) : n = zs.length := by
  obtain ⟨A', c', e, -⟩ := h.form
  injection e
theorem RowQ.there {base : Nat} {w : World} {g n c : Nat} {zs : List Rat} {K k : Nat} (h : RowQ base w (.slice (some ⟨g, 0, none⟩) n c) zs K) (hk : k < zs.length) : w.there g (k * 3) 3 := by
  obtain ⟨g', g0, A0, n0, c0, B0, m0, d0, z, e, -, -, -, hr, -, -⟩ := h.at_ hk
  injection e with e
  injection e with e
  subst e
  obtain ⟨us, h1, -⟩ := h
  obtain ⟨A', c', e', -⟩ := own_form h1
  injection e' with _ e2 _
  subst e2
  intro j hj
  refine ⟨?_, h1.frozenAt _⟩
  have : ∀ v, ([.bool g0, .slice A0 n0 c0, .slice B0 m0 d0] : List Value)[j]? = some v → (w.cell? ⟨g, k * 3 + j, none⟩).isSome = true := fun v hv => by rw [hr j v hv]; rfl
  match j, hj with
  | 0, _ | 1, _ | 2, _ => exact this _ rfl
theorem RowQ.put {base : Nat} {w : World} {g n c : Nat} {zs : List Rat} {K : Nat} {g0 : Bool} {A0 B0 : Option Addr} {n0 c0 m0 d0 : Nat} {z : Rat} (h : RowQ base w (.slice (some ⟨g, 0, none⟩) n c) zs K) (k : Nat) (hq : RatQ 0 w (.agg #[.bool g0, .slice A0 n0 c0, .slice B0 m0 d0]) z K) :
    RowQ base (w.setCells g (k * 3) [.bool g0, .slice A0 n0 c0, .slice B0 m0 d0]) (.slice (some ⟨g, 0, none⟩) n c) (zs.set k z) K := by
  have hty := h.ty g rfl
  obtain ⟨us, h1, h2, h3⟩ := h
  obtain ⟨A', c', e', -⟩ := own_form h1
  injection e' with _ e2 _
  subst e2
  have a0 := (h1.stored (k * 3) (.bool g0)).1
  have a1 := (a0.stored (k * 3 + 1) (.slice A0 n0 c0)).1
  have a2 := (a1.stored (k * 3 + 2) (.slice B0 m0 d0)).1
  have hg : w.grownBy (w.setCells g (k * 3) [.bool g0, .slice A0 n0 c0, .slice B0 m0 d0]) (some g) := sets_grown _ _ _ (grown_refl w (some g))
  refine ⟨us.set k (.agg #[.bool g0, .slice A0 n0 c0, .slice B0 m0 d0]), by rw [List.length_set, flatQ_set]; exact a2, by rw [List.length_set, List.length_set]; exact h2, fun i u y hu hy => ?_⟩
  rw [List.getElem?_set] at hu hy
  by_cases e : k = i
  · subst e
    rw [if_pos rfl] at hu hy
    split at hu
    · rename_i hl
      rw [if_pos (by omega)] at hy
      injection hu with hu
      injection hy with hy
      subst hu hy
      exact hq.keptT hg hty (by decide)
    · cases hu
  · rw [if_neg e] at hu hy
    exact (h3 i u y hu hy).keptT hg hty (by decide)
theorem st_q {ops : Array Oper} {rest : List Oper} {o : Oper} {a : Act} {Q : Exit → Act → World → Prop} {w : World} {base g n c k : Nat} {zs : List Rat} {K : Nat} {g0 : Bool} {A0 B0 : Option Addr} {n0 c0 m0 d0 : Nat} {z : Rat} (h : RowQ base w (.slice (some ⟨g, 0, none⟩) n c) zs K) (hk : k < zs.length) (hq : RatQ 0 w (.agg #[.bool g0, .slice A0 n0 c0, .slice B0 m0 d0]) z K) (hgd : o.guard = none) (x y : Operand) (ho : o.op = .store 28 x y)
    (hx : a.eval x = .pointer (some ⟨g, k * 3, none⟩)) (hy : a.eval y = .agg #[.bool g0, .slice A0 n0 c0, .slice B0 m0 d0])
    (hK : ∀ w', RowQ base w' (.slice (some ⟨g, 0, none⟩) n c) (zs.set k z) K → w.grownBy w' (some g) → wpList Try.prog ops Q rest (a.put o.dst undef) w') : wpList Try.prog ops Q (o :: rest) a w := by
  refine wpList_store_mid hgd 28 x y ho g (k * 3) #[.bool g0, .slice A0 n0 c0, .slice B0 m0 d0] hx hy (h.there hk) size_Rat (all_oneCell_toArray (cs := [.bool g0, .slice A0 n0 c0, .slice B0 m0 d0]) (fun v hv => ?_)) ?_
  · simp at hv
    rcases hv with rfl | rfl | rfl <;> rfl
  · exact hK _ (h.put k hq) (sets_grown _ _ _ (grown_refl w (some g)))
end Go.Proofs.Ytmdfgidejdiiiaa
end
section
namespace Go.Proofs.Ytmdfgidejdiiiaa
open Go.RowKit
theorem RowQ.atW {base : Nat} {w : World} {A : Option Addr} {n c : Nat} {zs : List Rat} {K k : Nat} (h : RowQ base w (.slice A n c) zs K) (hk : k < zs.length) :
    ∃ g g0 A0 n0 c0 B0 m0 d0 z, A = some ⟨g, 0, none⟩ ∧ zs[k]? = some z ∧ ∀ w1, Below w.heap.size w w1 → RatQ 0 w1 (.agg #[.bool g0, .slice A0 n0 c0, .slice B0 m0 d0]) z K ∧ w1.rangeAt g (k * 3) [.bool g0, .slice A0 n0 c0, .slice B0 m0 d0] := by
  obtain ⟨g, g0, A0, n0, c0, B0, m0, d0, z, e, -, hz, hq, hr, -, hl⟩ := h.at_ hk
  exact ⟨g, g0, A0, n0, c0, B0, m0, d0, z, e, hz, fun w1 hb => ⟨hq.grow hb, fun j v hv => (World.cell?_of_block (a := ⟨g, _, none⟩) (hb.block g hl)).trans (hr j v hv)⟩⟩
end Go.Proofs.Ytmdfgidejdiiiaa
end
section
namespace Go.Proofs.Ytmdfgidejdiiiaa
open Go.RowKit
theorem tmod_range {x P : Int} (h : 0 < P) : -P < x.tmod P ∧ x.tmod P < P := by
  rcases (show P = 1 ∨ 2 ≤ P by omega) with rfl | h2
  · rw [Int.tmod_one]; omega
  · obtain ⟨T, e, -, h3, h4⟩ := tmod_facts x h2
    rw [e]; exact ⟨h3, h4⟩
def absS (c : List Int) : Nat → Int
  | 0 => 0
  | k + 1 => absS c k + (if el c k < 0 then -el c k else el c k)
def rndB (c : List Int) (u : Int) : Nat → Bool
  | 0 => false
  | k + 1 => rndB c u k || !decide (el c k % u = 0)
theorem absS_bound {c : List Int} (hc : ∀ x ∈ c, -4096 ≤ x ∧ x ≤ 4096) : ∀ k : Nat, 0 ≤ absS c k ∧ absS c k ≤ 4096 * (k : Int)
  | 0 => ⟨Int.le_refl _, Int.le_refl _⟩
  | k + 1 => by
    have ih := absS_bound hc k
    have he : -4096 ≤ el c k ∧ el c k ≤ 4096 := by
      unfold el
      cases hx : c[k]? with
      | none => simp
      | some x => exact hc x (List.mem_of_getElem? hx)
    unfold absS
    split <;> omega
def growF (s : Lft) (z : Rat) : Rat :=
  if rndB s.2.2.1 (2 ^ s.2.2.2.toNat) s.2.2.1.length = true then ((absS s.2.2.1 s.2.2.1.length : Int) : Rat) / ((2 ^ s.2.2.2.toNat : Int) : Rat) * z + ((1 : Int) : Rat)
  else ((absS s.2.2.1 s.2.2.1.length : Int) : Rat) / ((2 ^ s.2.2.2.toNat : Int) : Rat) * z
theorem tmod_zero {x P T : Int} (hp : 0 < P) (h : x.tmod P = T) : T = 0 ↔ x % P = 0 := by
  rw [← h]
  constructor
  · intro e
    exact Int.emod_eq_zero_of_dvd (Int.dvd_of_tmod_eq_zero e)
  · intro e
    exact Int.tmod_eq_zero_of_dvd (Int.dvd_of_emod_eq_zero e)
set_option maxRecDepth 100000 in
set_option maxHeartbeats 4000000 in
theorem bk_growth (o : Bool) (st : Int) (C : Option Addr) (cc m n M : Nat) (c : List Int) (u : Value) (z : Rat) (w : World) (hok : LftOk (o, st, c, (n : Int))) (hm : c.length = m) (hc : Ints w C c) (hu : RatA w u z M) (hM : 1 ≤ M) (h9 : M ≤ 300000) : Calls Try.prog 71 #[.agg #[.bool o, .int .i64 st, .slice C m cc, .int .i64 (n : Int)], u] w (RetQ w (growF (o, st, c, (n : Int)) z) (M + 5)) := by
  obtain ⟨neg, A, na, ca, l, B, mb, db, rr, rfl, hxx⟩ := hu
  have hx : RatA w (.agg #[.bool neg, .slice A na ca, .slice B mb db]) z M := ⟨neg, A, na, ca, l, B, mb, db, rr, rfl, hxx⟩
  have HX0 := Lib.hid hx
  have HOK := Lib.hid hok
  have hn : n ≤ 20 := by have := hok.2.2.1; simp at this; omega
  have hm8 : m ≤ 8 := by have := hok.1; simp at this; omega
  obtain ⟨P, hP⟩ : ∃ P : Int, (2 : Int) ^ n = P := ⟨_, rfl⟩
  have hpi : 0 < P ∧ P ≤ 2147483648 := hP ▸ ⟨pow2_pos n, pow_up (by omega)⟩
  have hw : wrap64 (2 ^ n) = P := by rw [hP]; unfold wrap64; omega
  have HG : Hid (growF (o, st, c, (n : Int)) z = if rndB c P m = true then ((absS c m : Int) : Rat) / (P : Rat) * z + ((1 : Int) : Rat) else ((absS c m : Int) : Rat) / (P : Rat) * z) := Lib.hid (by
    unfold growF
    simp only [Int.toNat_natCast, hP, hm])
  have HP0 := Lib.hid hpi.1
  have HPB := Lib.hid hpi.2
  have HM := Lib.hid (And.intro hm hm8)
  have HMM := Lib.hid (And.intro hM h9)
  have x9 : (0 : Int) ≤ (n : Int) := by omega
  have HC := Lib.hid hc
  clear hxx hx hok hm hP hpi hc hM h9
  obtain ⟨dsR, hR1, hR2⟩ := row_Rat
  have HRR := Lib.hid (And.intro hR1 hR2)
  clear hR1 hR2
  go_enter Try.func71, Try.ntmps71
  go_upto_region 1 with fail
  have hB0 : Below w.heap.size w (((w.alloc (.cells #[.bool o, .int .i64 st, .slice C m cc, .int .i64 (n : Int)] 64)).alloc (.cells #[.bool neg, .slice A na ca, .slice B mb db] 28)).alloc (.cells #[.bool false, .slice none 0 0, .slice none 0 0] 28)) := ((((Below.refl _ _).alloc (Nat.le_refl _) _).alloc (by simp; try omega) _).alloc (by simp; try omega) _)
  have bx0 : Box (((w.alloc (.cells #[.bool o, .int .i64 st, .slice C m cc, .int .i64 (n : Int)] 64)).alloc (.cells #[.bool neg, .slice A na ca, .slice B mb db] 28)).alloc (.cells #[.bool false, .slice none 0 0, .slice none 0 0] 28)) (w.heap.size) [.bool o, .int .i64 st, .slice C m cc, .int .i64 (n : Int)] := (((Box.new (by simp)).alloc _).alloc _)
  have bx1 : Box (((w.alloc (.cells #[.bool o, .int .i64 st, .slice C m cc, .int .i64 (n : Int)] 64)).alloc (.cells #[.bool neg, .slice A na ca, .slice B mb db] 28)).alloc (.cells #[.bool false, .slice none 0 0, .slice none 0 0] 28)) (w.heap.size + 1) [.bool neg, .slice A na ca, .slice B mb db] := ((Box.new (by simp)).alloc _)
  have bx2 : Box (((w.alloc (.cells #[.bool o, .int .i64 st, .slice C m cc, .int .i64 (n : Int)] 64)).alloc (.cells #[.bool neg, .slice A na ca, .slice B mb db] 28)).alloc (.cells #[.bool false, .slice none 0 0, .slice none 0 0] 28)) (w.heap.size + 1 + 1) [.bool false, .slice none 0 0, .slice none 0 0] := (Box.new (by simp))
  generalize ((w.alloc (.cells #[.bool o, .int .i64 st, .slice C m cc, .int .i64 (n : Int)] 64)).alloc (.cells #[.bool neg, .slice A na ca, .slice B mb db] 28)).alloc (.cells #[.bool false, .slice none 0 0, .slice none 0 0] 28) = wA at hB0 bx0 bx1 bx2 ⊢
  have HA := Lib.hid (And.intro hB0 (And.intro bx0 (And.intro bx1 bx2)))
  clear hB0 bx0 bx1 bx2
  have y3 : wA.cell? ⟨w.heap.size, 3, none⟩ = some (.int .i64 (n : Int)) := HA.out.2.1.2.1 3
  have y2 : wA.cell? ⟨w.heap.size, 2, none⟩ = some (.slice C m cc) := HA.out.2.1.2.1 2
  have HC := Lib.hid (HC.out.grow HA.out.1)
  go_upto_region 3 with fail
  go_wp2_with fail
  go_loopw [6, 7, 17] (fun s r i wr => ∃ j : Nat, j ≤ m ∧ s = .int .i64 (absS c j) ∧ r = .bool (rndB c P j) ∧ i = .int .i64 j ∧ wr = wA) (fun _ _ i _ => m - (intOf i).toNat)
  case atStart => exact ⟨0, Nat.zero_le _, rfl, rfl, rfl, rfl⟩
  case round =>
    obtain ⟨j, hj, rfl, rfl, rfl, rfl⟩ := hrel
    by_cases hlt : j < m
    · obtain ⟨ad, x, rfl, hb, hx, hc, i1, i2⟩ := HC.out.at_ (k := j) (by have := HM.out; omega)
      have HX := Lib.hid (el_of hx)
      have hxb := HOK.out.2.2.2.2.2 x (List.mem_of_getElem? hx)
      have hsb := absS_bound HOK.out.2.2.2.2.2 j
      obtain ⟨S, hS⟩ : ∃ S, absS c j = S := ⟨_, rfl⟩
      obtain ⟨R, hR⟩ : ∃ R, rndB c P j = R := ⟨_, rfl⟩
      obtain ⟨T, hT⟩ : ∃ T, x.tmod P = T := ⟨_, rfl⟩
      have HT := Lib.hid (tmod_zero HP0.out hT)
      have hTb : -2147483648 < T ∧ T < 2147483648 := by
        have h1 := tmod_range (x := x) HP0.out
        have h2 := HPB.out
        rw [hT] at h1
        omega
      rw [hS] at hsb ⊢
      rw [hR]
      have hS1 : S ≤ 32768 := by have := HM.out; omega
      have HS := Lib.hid hS
      have HR := Lib.hid hR
      clear hx hS hR
      obtain ⟨X, hX⟩ : ∃ X, max x (-x) = X := ⟨_, rfl⟩
      have HE : Hid (absS c (j + 1) = S + X) := Lib.hid (by unfold absS; rw [HS.out, HX.out]; split <;> omega)
      have hXb : 0 ≤ X ∧ X ≤ 4096 := by omega
      have hp0 : P ≠ 0 := by have := HP0.out; omega
      by_cases ht : T = 0
      · have HE2 : Hid (rndB c P (j + 1) = R) := Lib.hid (by unfold rndB; rw [HR.out, HX.out, decide_eq_true (HT.out.1 ht)]; simp)
        subst ht
        go_wp2_with fail
        go_roundw
        case rel => exact ⟨j + 1, by omega, by rw [HE.out], by rw [HE2.out], by go_num, by first | rfl | trivial⟩
        case measure => simp [intOf]; omega
      · have HE2 : Hid (rndB c P (j + 1) = true) := Lib.hid (by unfold rndB; rw [HR.out, HX.out, decide_eq_false (fun e => ht (HT.out.2 e))]; simp)
        have ht2 : ((T : Int) == 0) = false := by simpa using ht
        go_wp2_with fail
        go_roundw
        case rel => exact ⟨j + 1, by omega, by rw [HE.out], by rw [HE2.out], by go_num, by first | rfl | trivial⟩
        case measure => simp [intOf]; omega
    · obtain rfl : m = j := by omega
      have hsb := absS_bound HOK.out.2.2.2.2.2 m
      have HGG := HG.out
      obtain ⟨S, hS⟩ : ∃ S, absS c m = S := ⟨_, rfl⟩
      obtain ⟨R, hR⟩ : ∃ R, rndB c P m = R := ⟨_, rfl⟩
      obtain ⟨G0, hG0⟩ : ∃ G0, growF (o, st, c, (n : Int)) z = G0 := ⟨_, rfl⟩
      rw [hS] at hsb HGG ⊢
      rw [hR] at HGG ⊢
      have HGR := Lib.hid hG0
      rw [hG0] at HGG
      have HG := Lib.hid HGG
      have hSi : 0 ≤ S ∧ S ≤ 32768 := by have := HM.out; omega
      obtain ⟨f, hf⟩ : ∃ f : Rat, (S : Rat) / (P : Rat) = f := ⟨_, rfl⟩
      obtain ⟨g, hg⟩ : ∃ g : Rat, f * z = g := ⟨_, rfl⟩
      rw [hf, hg] at HG
      have CF : Hid (∀ w1, Calls Try.prog 46 #[.int .i64 S, .int .i64 P] w1 (RetQ w1 f 2)) := Lib.hid fun w1 => hf ▸ rt_Frac S P w1 (by unfold I64; omega) (by have h1 := HP0.out; have h2 := HPB.out; unfold I64; omega)
      have CM : Hid (∀ u w1 b1, Below w.heap.size w w1 → RatQ b1 w1 u f 2 → Calls Try.prog 42 #[u, .agg #[.bool neg, .slice A na ca, .slice B mb db]] w1 (RetQ w1 g (2 + M))) := Lib.hid fun u w1 b1 hb hu => by
        have hk := HMM.out
        have h := rt_Mul u _ f z 2 M w1 hu.arg (HX0.out.grow hb) (by decide) (by omega) (by decide) (by omega)
        rw [hg] at h
        exact h
      clear hS hR hG0 HGG hsb hf hg hj hlt y2 y3
      go_upto_region 10 with fail
      refine wp_region_grow7 (fun i => Nat.blt i 6) (fun _ => false) (fun w9 => Below wr.heap.size wr w9) (gT [.v (.int .i64 S), .v (.int .i64 P), .rq f 2, .v (.agg #[.bool neg, .slice A na ca, .slice B mb db]), .rq g (2 + M), .box 28 [.bool false, .slice none 0 0, .slice none 0 0]]) (fun a b => Below a.heap.size a b) (dT wr.heap.size [.v (.int .i64 S), .v (.int .i64 P), .rq f 2, .v (.agg #[.bool neg, .slice A na ca, .slice B mb db]), .rq g (2 + M), .box 28 [.bool false, .slice none 0 0, .slice none 0 0]]) (by kernel_rfl) (by kernel_rfl) (Below.refl _ _).drew (fun j x a b h1 h2 => ⟨below_then h1 h2.1, fun i _ v => dT_keep h2.1 i v, Below.refl _ _, fun w0 h => below_then h h2.1⟩) (fun j v w h => by cases h) ?_ (fun j o _ _ h => by cases h) ?_
      · refine ⟨?_, ?_, ?_, ?_, ?_, ?_, trivial⟩
        all_goals
          intro vs w9 hp hF
          have HP := Lib.hid hp
          clear hp
          simp [depsB, Region.binds, dT] at hF
          simp [stL, depsB, Region.binds, Act.put, hF]
        · (go_wp2_with fail; exact ⟨rfl, Below.refl _ _, nbx rfl⟩)
        · (go_wp2_with fail; exact ⟨rfl, Below.refl _ _, nbx rfl⟩)
        · go_wp2_with (go_at_call 46; (with_reducible refine (CF.out _).mono ?_); rintro e1 w1' ⟨v1, rfl, ho, hb1⟩)
          exact ⟨ho.base HP.out.size, hb1, nbx rfl⟩
        · (obtain ⟨dI, hI1, hI2⟩ := row_Rat; refine wp_ld rfl 28 _ rfl (w.heap.size + 1) 0 rfl (HA.out.2.2.1.keep HP.out) [.bool neg, .slice A na ca, .slice B mb db] (fun j v h => by rcases j with _ | _ | _ | _ | j <;> simp at h ⊢ <;> exact h) dI hI1 hI2 size_Rat ?_; go_wp2_with fail; exact ⟨rfl, Below.refl _ _, nbx rfl⟩)
        · obtain ⟨hq, e3⟩ := hF
          have HQ1 := Lib.hid hq
          obtain ⟨g1, A1, n1, c1, B1, m1, d1, e1⟩ := hq.form
          rw [e1] at HQ1
          simp only [e1, e3]
          go_wp2_with (go_at_call 42; (with_reducible refine (CM.out _ _ _ (below_then HA.out.1 HP.out) HQ1.out).mono ?_); rintro e1' w1' ⟨v1, rfl, ho, hb1⟩)
          exact ⟨ho.base HP.out.size, hb1, nbx rfl⟩
        · (go_wp2_with fail; exact ⟨BoxO.new HP.out.size, (Below.refl _ _).alloc (Nat.le_refl _) _, fun _ => rfl⟩)
      intro vs w9 hp hF hpr
      have hq : RatQ wr.heap.size w9 (vs 4) g (2 + M) := hF 4 (by decide) rfl
      obtain ⟨g7, A7, n7, c7, B7, m7, d7, e7⟩ := hq.form
      rw [e7] at hq
      obtain ⟨G, e9, k9, b9, t9⟩ : BoxO wr.heap.size w9 (vs 5) 28 [.bool false, .slice none 0 0, .slice none 0 0] := hF 5 (by decide) rfl
      clear hpr hF
      show wpList Try.prog _ _ [_] _ _
      simp [stL, Act.put, e7, e9]
      refine wp_st rfl 28 _ _ rfl G 0 [_, _, _] rfl rfl size_Rat rfl b9 (Nat.le_refl _) rfl ?_
      intro W1 c1 q1
      have HQ := Lib.hid (hq.keptT q1 t9 (by decide))
      have HCG : Hid (Box W1 G [.bool g7, .slice A7 n7 c7, .slice B7 m7 d7]) := Lib.hid c1
      have hb3 : Below wr.heap.size wr W1 := put_facts hp k9 q1
      have HB3 := Lib.hid (below_then HA.out.1 hb3)
      have HZ := Lib.hid (HA.out.2.2.2.keep hb3)
      have HGB : Hid (w.heap.size + 1 + 1 < G) := Lib.hid (Nat.lt_of_lt_of_le HA.out.2.2.2.1 k9)
      clear hq e7 e9 k9 b9 t9 c1 q1 hp hb3 CF CM
      cases R with
      | false =>
        have HG1 : Hid (G0 = g) := Lib.hid (by rw [HG.out]; rfl)
        go_wp2_with (first
          | ((with_reducible show wpList _ _ _ (Oper.mk _ (.load 28 _) _ _ _ _ :: _) _ _); refine wp_ld rfl 28 _ rfl (G) 0 rfl (HCG.out) [.bool g7, .slice A7 n7 c7, .slice B7 m7 d7] (fun j v h => by rcases j with _ | _ | _ | j <;> simp at h ⊢ <;> exact h) dsR HRR.out.1 HRR.out.2 size_Rat ?_)
          | ((with_reducible show wpList _ _ _ (Oper.mk none (.store 28 _ _) _ _ _ _ :: _) _ _); refine wp_st rfl 28 _ _ rfl (w.heap.size + 1 + 1) 0 [_, _, _] rfl rfl size_Rat rfl (HZ.out) (Nat.le_refl _) rfl ?_; intro W9 c9 g9))
        have hgb := HGB.out
        have hW := put_facts (g := w.heap.size + 1 + 1) HB3.out (by omega) g9
        have hq := (HQ.out.away g9 HA.out.2.2.2.1).base (b' := w.heap.size) HA.out.1.size
        refine bodyPost_ret (resC rfl _ _ W9 (g := w.heap.size + 1 + 1) rfl (res_box 28 c9 dsR HRR.out.1 HRR.out.2 size_Rat)) rfl ?_
        rw [HGR.out, HG1.out]
        exact ⟨_, rfl, hq.le (by omega), hW⟩
      | true =>
        have HG1 : Hid (G0 = g + ((1 : Int) : Rat)) := Lib.hid (by rw [HG.out]; rfl)
        obtain ⟨g', hg'⟩ : ∃ g' : Rat, g + ((1 : Int) : Rat) = g' := ⟨_, rfl⟩
        have CO : Hid (∀ w1, Calls Try.prog 43 #[.int .i64 1] w1 (RetQ w1 ((1 : Int) : Rat) 2)) := Lib.hid fun w1 => rt_OfQ 1 w1 (by unfold I64; omega)
        have CA : Hid (∀ u w1 b1, Below W1.heap.size W1 w1 → RatQ b1 w1 u ((1 : Int) : Rat) 2 → Calls Try.prog 45 #[.agg #[.bool g7, .slice A7 n7 c7, .slice B7 m7 d7], u] w1 (RetQ w1 g' (2 + M + 2 + 1))) := Lib.hid fun u w1 b1 hb hu => by
          have hk := HMM.out
          have h := rt_Add _ u g _ (2 + M) 2 w1 (HQ.out.grow hb).arg hu.arg (by omega) (by decide) (by omega) (by decide)
          rw [hg'] at h
          exact h
        rw [hg'] at HG1
        clear hg'
        go_upto_region 12 with fail
        refine wp_region_grow7 (fun i => Nat.blt i 3) (fun _ => false) (fun w9 => Below W1.heap.size W1 w9) (gT [.v (.agg #[.bool g7, .slice A7 n7 c7, .slice B7 m7 d7]), .rq ((1 : Int) : Rat) 2, .rq g' (2 + M + 2 + 1)]) (fun a b => Below a.heap.size a b) (dT W1.heap.size [.v (.agg #[.bool g7, .slice A7 n7 c7, .slice B7 m7 d7]), .rq ((1 : Int) : Rat) 2, .rq g' (2 + M + 2 + 1)]) (by kernel_rfl) (by kernel_rfl) (Below.refl _ _).drew (fun j x a b h1 h2 => ⟨below_then h1 h2.1, fun i _ v => dT_keep h2.1 i v, Below.refl _ _, fun w0 h => below_then h h2.1⟩) (fun j v w h => by cases h) ?_ (fun j o _ _ h => by cases h) ?_
        · refine ⟨?_, ?_, ?_, trivial⟩
          all_goals
            intro vs w9 hp hF
            have HP := Lib.hid hp
            clear hp
            simp [depsB, Region.binds, dT] at hF
            simp [stL, depsB, Region.binds, Act.put, hF]
          · (obtain ⟨dI, hI1, hI2⟩ := row_Rat; refine wp_ld rfl 28 _ rfl (G) 0 rfl (HCG.out.keep HP.out) [.bool g7, .slice A7 n7 c7, .slice B7 m7 d7] (fun j v h => by rcases j with _ | _ | _ | _ | j <;> simp at h ⊢ <;> exact h) dI hI1 hI2 size_Rat ?_; go_wp2_with fail; exact ⟨rfl, Below.refl _ _, nbx rfl⟩)
          · go_wp2_with (go_at_call 43; (with_reducible refine (CO.out _).mono ?_); rintro e1 w1' ⟨v1, rfl, ho, hb1⟩)
            exact ⟨ho.base HP.out.size, hb1, nbx rfl⟩
          · obtain ⟨e0, hq⟩ := hF
            have HQ1 := Lib.hid hq
            obtain ⟨g1, A1, n1, c1, B1, m1, d1, e1⟩ := hq.form
            rw [e1] at HQ1
            simp only [e0, e1]
            go_wp2_with (go_at_call 45; (with_reducible refine (CA.out _ _ _ HP.out HQ1.out).mono ?_); rintro e1' w1' ⟨v1, rfl, ho, hb1⟩)
            exact ⟨ho.base HP.out.size, hb1, nbx rfl⟩
        intro vs w9 hp hF hpr
        have hq : RatQ W1.heap.size w9 (vs 2) g' (2 + M + 2 + 1) := hF 2 (by decide) rfl
        have HQ2 := Lib.hid hq
        obtain ⟨g8, A8, n8, c8, B8, m8, d8, e8⟩ := hq.form
        rw [e8] at HQ2
        have HBE := Lib.hid hp
        clear hF hpr hq hp
        show wpList Try.prog _ _ [_] _ _
        simp [stL, Act.put, e8]
        refine wp_st rfl 28 _ _ rfl G 0 [_, _, _] rfl rfl size_Rat rfl (HCG.out.keep HBE.out) (Nat.le_refl _) rfl ?_
        intro W5 k5 q5
        have hgb := HGB.out
        have HQ5 := Lib.hid (HQ2.out.away q5 HCG.out.1)
        have HC5 : Hid (Box W5 G [.bool g8, .slice A8 n8 c8, .slice B8 m8 d8]) := Lib.hid k5
        have HZ5 := Lib.hid ((HZ.out.keep HBE.out).grown q5 (fun e => by injection e with e; omega))
        have HB5 : Hid (Below w.heap.size w W5) := Lib.hid (put_facts (below_then HB3.out HBE.out) (by omega) q5)
        have HS5 : Hid (w.heap.size ≤ W1.heap.size) := Lib.hid HB3.out.size
        have HL5 : Hid (w.heap.size + 1 + 1 < W1.heap.size) := Lib.hid HZ.out.1
        clear k5 q5 hgb CO CA
        go_wp2_with (first
          | ((with_reducible show wpList _ _ _ (Oper.mk _ (.load 28 _) _ _ _ _ :: _) _ _); refine wp_ld rfl 28 _ rfl (G) 0 rfl (HC5.out) [.bool g8, .slice A8 n8 c8, .slice B8 m8 d8] (fun j v h => by rcases j with _ | _ | _ | j <;> simp at h ⊢ <;> exact h) dsR HRR.out.1 HRR.out.2 size_Rat ?_)
          | ((with_reducible show wpList _ _ _ (Oper.mk none (.store 28 _ _) _ _ _ _ :: _) _ _); refine wp_st rfl 28 _ _ rfl (w.heap.size + 1 + 1) 0 [_, _, _] rfl rfl size_Rat rfl (HZ5.out) (Nat.le_refl _) rfl ?_; intro W9 c9 g9))
        have hW := put_facts (g := w.heap.size + 1 + 1) HB5.out (by omega) g9
        have hq := (HQ5.out.away g9 HL5.out).base (b' := w.heap.size) HS5.out
        refine bodyPost_ret (resC rfl _ _ W9 (g := w.heap.size + 1 + 1) rfl (res_box 28 c9 dsR HRR.out.1 HRR.out.2 size_Rat)) rfl ?_
        rw [HGR.out, HG1.out]
        exact ⟨_, rfl, hq.le (by omega), hW⟩
end Go.Proofs.Ytmdfgidejdiiiaa
end
