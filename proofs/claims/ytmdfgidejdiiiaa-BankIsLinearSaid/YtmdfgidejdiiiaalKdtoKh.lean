/- Several texts in one: Kd Ke Kg Kh. -/
import Derived.Test.YtmdfgidejdiiiaalJgtoKa
import Derived.Test.YtmdfgidejdiiiaalV9toU
import Derived.Test.YtmdfgidejdiiiaalIutoIx
import Derived.Test.YtmdfgidejdiiiaalV5toV8
import Derived.Test.YtmdfgidejdiiiaalZstoV4
import Derived.Test.YtmdfgidejdiiiaalPltoZa
import Derived.Maps.AppendAt
import Derived.BigQuiet
set_option linter.unusedVariables false
set_option linter.unusedSimpArgs false
section
namespace Go.Proofs.Ytmdfgidejdiiiaa
open Go.RowKit
def triV (u : Value) : List Value := match u with
  | .agg cs => [cs.getD 0 undef, cs.getD 1 undef, cs.getD 2 undef]
  | _ => [undef, undef, undef]
theorem triV_len (u : Value) : (triV u).length = 3 := by unfold triV; split <;> rfl
theorem flatV_get {α : Type} {enc : α → List Value} {sz : Nat} (he : ∀ x, (enc x).length = sz) : ∀ (xs : List α) (k j : Nat) (x : α), xs[k]? = some x → j < sz → (xs.flatMap enc)[k * sz + j]? = (enc x)[j]?
  | [], k, j, x, h, _ => by simp at h
  | a :: l, 0, j, x, h, hj => by
    simp only [List.getElem?_cons_zero, Option.some.injEq] at h
    subst h
    rw [List.flatMap_cons, Nat.zero_mul, Nat.zero_add, List.getElem?_append_left (by rw [he]; exact hj)]
  | a :: l, k + 1, j, x, h, hj => by
    simp only [List.getElem?_cons_succ] at h
    rw [List.flatMap_cons, List.getElem?_append_right (by rw [he]; rw [Nat.add_mul]; omega), he, show (k + 1) * sz + j - sz = k * sz + j by rw [Nat.add_mul]; omega]
    exact flatV_get he l k j x h hj
theorem flatQ_set : ∀ (us : List Value) (k : Nat) (a b c : Value), (us.set k (.agg #[a, b, c])).flatMap triV = (((us.flatMap triV).set (k * 3) a).set (k * 3 + 1) b).set (k * 3 + 2) c
  | [], k, a, b, c => by simp
  | u :: l, 0, a, b, c => by
    obtain ⟨x, y, z, h⟩ : ∃ x y z, triV u = [x, y, z] := by unfold triV; split <;> exact ⟨_, _, _, rfl⟩
    rw [List.set_cons_zero, List.flatMap_cons, List.flatMap_cons, h]
    rfl
  | u :: l, k + 1, a, b, c => by
    rw [List.set_cons_succ, List.flatMap_cons, flatQ_set l k a b c, List.flatMap_cons]
    obtain ⟨x, y, z, h⟩ : ∃ x y z, triV u = [x, y, z] := by unfold triV; split <;> exact ⟨_, _, _, rfl⟩
    rw [h, show (k + 1) * 3 = k * 3 + 1 + 1 + 1 by omega]
    simp
theorem RatQ.row {b : Nat} {w w' : World} {v : Value} {z : Rat} {K : Nat} {r : Option Nat} (h : RatQ b w v z K) (hg : w.grownBy w' r) (ht : ∀ g, r = some g → TyB w g 28) : RatQ b w' v z K := by
  cases r with
  | none => exact h.grow ((Below.refl _ _).grown hg (Nat.le_refl _) (by intro k hk; cases hk))
  | some g => exact h.keptT hg (ht g rfl) (by decide)
theorem row_ty {w : World} {base n size : Nat} {e : TypeId} {v : Value} {xs : List Value} (h : w.ownsRow base e size v n xs) : ∀ g, v.ownBlock = some g → TyB w g e := by
  intro k hk
  rcases h.2 with ⟨rfl, _⟩ | ⟨g, cap, cur, rfl, hb, hg, _⟩
  · simp [Value.ownBlock] at hk
  · simp [Value.ownBlock] at hk
    subst hk
    exact ⟨_, _, hg⟩
def RowQ (base : Nat) (w : World) (v : Value) (zs : List Rat) (K : Nat) : Prop :=
  ∃ us : List Value, w.ownsRow base 28 3 v us.length (us.flatMap triV) ∧ us.length = zs.length ∧ ∀ (i : Nat) u z, us[i]? = some u → zs[i]? = some z → RatQ 0 w u z K
theorem RowQ.nil {base : Nat} {w : World} {K : Nat} : RowQ base w (.slice none 0 0) [] K := ⟨[], World.ownsRow_nil _ _ _ _, rfl, fun i u z h => by simp at h⟩
theorem RowQ.grow {base : Nat} {w w' : World} {v : Value} {zs : List Rat} {K : Nat} (h : RowQ base w v zs K) (hb : Below w.heap.size w w') : RowQ base w' v zs K := by
  obtain ⟨us, h1, h2, h3⟩ := h
  exact ⟨us, own_grow h1 hb, h2, fun i u z a b => (h3 i u z a b).grow hb⟩
theorem RowQ.base {base base' : Nat} {w : World} {v : Value} {zs : List Rat} {K : Nat} (h : RowQ base w v zs K) (hb : base' ≤ base) : RowQ base' w v zs K := by
  obtain ⟨us, h1, h2⟩ := h
  exact ⟨us, own_base h1 hb, h2⟩
theorem RowQ.le {base : Nat} {w : World} {v : Value} {zs : List Rat} {K M : Nat} (h : RowQ base w v zs K) (hb : K ≤ M) : RowQ base w v zs M := by
  obtain ⟨us, h1, h2, h3⟩ := h
  exact ⟨us, h1, h2, fun i u z a b => (h3 i u z a b).le hb⟩
theorem RowQ.ty {base : Nat} {w : World} {v : Value} {zs : List Rat} {K : Nat} (h : RowQ base w v zs K) : ∀ g, v.ownBlock = some g → TyB w g 28 := by
  obtain ⟨us, h1, -⟩ := h
  exact row_ty h1
theorem RowQ.lt {base : Nat} {w : World} {v : Value} {zs : List Rat} {K : Nat} (h : RowQ base w v zs K) : ∀ g, v.ownBlock = some g → base ≤ g ∧ g < w.heap.size := by
  obtain ⟨us, h1, -⟩ := h
  exact h1.lt
theorem RowQ.kept {base : Nat} {w w' : World} {v : Value} {zs : List Rat} {K : Nat} {r : Option Nat} (h : RowQ base w v zs K) (hg : w.grownBy w' r) (ht : ∀ g, r = some g → TyB w g 28) (hn : v.ownBlock = none ∨ v.ownBlock ≠ r) : RowQ base w' v zs K := by
  obtain ⟨us, h1, h2, h3⟩ := h
  exact ⟨us, h1.kept hg hn, h2, fun i u z a b => (h3 i u z a b).row hg ht⟩
theorem RowQ.form {base : Nat} {w : World} {v : Value} {zs : List Rat} {K : Nat} (h : RowQ base w v zs K) : ∃ A c, v = .slice A zs.length c ∧ zs.length ≤ c := by
  obtain ⟨us, h1, h2, -⟩ := h
  obtain ⟨A, c, rfl, hc⟩ := own_form h1
  exact ⟨A, c, by rw [h2], by omega⟩
theorem RowQ.at_ {base : Nat} {w : World} {A : Option Addr} {n c : Nat} {zs : List Rat} {K k : Nat} (h : RowQ base w (.slice A n c) zs K) (hk : k < zs.length) :
    ∃ g g0 A0 n0 c0 B0 m0 d0 z, A = some ⟨g, 0, none⟩ ∧ n = zs.length ∧ zs[k]? = some z ∧ RatQ 0 w (.agg #[.bool g0, .slice A0 n0 c0, .slice B0 m0 d0]) z K ∧ w.rangeAt g (k * 3) [.bool g0, .slice A0 n0 c0, .slice B0 m0 d0] ∧ base ≤ g ∧ g < w.heap.size := by
  obtain ⟨us, h1, h2, h3⟩ := h
  have hu : us[k]? = some us[k] := List.getElem?_eq_getElem (by omega)
  have hz : zs[k]? = some zs[k] := List.getElem?_eq_getElem hk
  have hq := h3 k _ _ hu hz
  obtain ⟨g0, A0, n0, c0, B0, m0, d0, e⟩ := hq.form
  rw [e] at hu hq
  obtain ⟨A', c', e', hc'⟩ := own_form h1
  injection e' with e1 e2 e3
  subst e1 e2 e3
  have cell : ∀ j v, ([.bool g0, .slice A0 n0 c0, .slice B0 m0 d0] : List Value)[j]? = some v → ∃ g, A = some ⟨g, 0, none⟩ ∧ g < w.heap.size ∧ w.cell? ⟨g, k * 3 + j, none⟩ = some v := fun j v hv => by
    have hj : j < 3 := (List.getElem?_eq_some_iff.1 hv).1
    refine own_cells h1 ?_
    rw [flatV_get triV_len us k j _ hu hj]
    exact hv
  obtain ⟨g, e4, hg, -⟩ := cell 0 _ rfl
  refine ⟨g, g0, A0, n0, c0, B0, m0, d0, _, e4, h2, hz, hq, fun j v hv => ?_, (h1.lt g (by rw [e4]; rfl)).1, hg⟩
  obtain ⟨g', e5, -, hc⟩ := cell j v hv
  rw [e4] at e5
  injection e5 with e5
  injection e5 with e5
  subst e5
  exact hc
theorem info_ratQ : (Try.prog.info? 28).map (fun i => (i.zero, i.size, i.bytes)) = some (some (.agg #[.bool false, .slice none 0 0, .slice none 0 0]), 3, 56) := by kernel_rfl
theorem app_q {ops : Array Oper} {rest : List Oper} {o : Oper} {a : Act} {Q : Exit → Act → World → Prop} (W : World) (hgd : o.guard = none) (s x : Operand) (ho : o.op = .call { callee := .builtin .append, args := #[s, x], argTypes := #[53, 53] })
    (base : Nat) {v : Value} {zs : List Rat} {z : Rat} {K : Nat} {g0 : Bool} {A0 B0 : Option Addr} {n0 c0 m0 d0 : Nat} (hown : RowQ base W v zs K) (hs : a.eval s = v) (hx : a.eval x = .slice (some ⟨W.heap.size, 0, none⟩) 1 1) (hq : RatQ 0 W (.agg #[.bool g0, .slice A0 n0 c0, .slice B0 m0 d0]) z K) (hn : zs.length ≤ 100000) (hbase : base ≤ W.heap.size)
    (h : ∀ v' w', RowQ base w' v' (zs ++ [z]) K → Below base W w' → (v'.ownBlock = v.ownBlock ∨ v'.ownBlock = some (W.heap.size + 1)) → W.grownBy w' v.ownBlock → wpList Try.prog ops Q rest (a.put o.dst v') w') :
    wpList Try.prog ops Q (o :: rest) a (W.alloc (.cells #[.bool g0, .slice A0 n0 c0, .slice B0 m0 d0] 28)) := by
  obtain ⟨i0, hi, hz0, hz1, hz2⟩ := info_parts info_ratQ
  obtain ⟨us, hr, hlen, hus⟩ := hown
  have hba := (Below.refl W.heap.size W).alloc (Nat.le_refl _) (.cells #[.bool g0, .slice A0 n0 c0, .slice B0 m0 d0] 28)
  have hb0 := (Below.refl base W).alloc hbase (.cells #[.bool g0, .slice A0 n0 c0, .slice B0 m0 d0] 28)
  obtain ⟨v', w', hrun, hr', hg, _, hob⟩ := run_append_own_at (P := Try.prog) (W.alloc (.cells #[.bool g0, .slice A0 n0 c0, .slice B0 m0 d0] 28)) base 53 o.type 28 i0 _ 3 56 Try.underlying53 hi hz0 hz1 hz2 rfl (by decide) v us.length _ (own_grow hr hba) ⟨W.heap.size, 0, none⟩ 1 1 [.bool g0, .slice A0 n0 c0, .slice B0 m0 d0] rfl
    (fun j u hu => by
      rw [add_cellsB]
      match j, hu with
      | 0, hu => simp at hu; subst hu; simp [go_sem]
      | 1, hu => simp at hu; subst hu; simp [go_sem]
      | 2, hu => simp at hu; subst hu; simp [go_sem])
    (fun u hu => by simp at hu; rcases hu with rfl | rfl | rfl <;> rfl) (by unfold maxLen; omega) (by omega) (by simp; omega)
  refine wpList_plain hgd fun K hK => ?_
  unfold Oper.wp execOp
  simp only [ho, resolve, invoke, builtin, Sem.run_bind, Sem.run_pure, Result.andThen_ok, List.map_toArray, List.map_cons, List.map_nil, hs, hx, hrun]
  have hty : ∀ g, v.ownBlock = some g → TyB (W.alloc (.cells #[.bool g0, .slice A0 n0 c0, .slice B0 m0 d0] 28)) g 28 := fun g e => (row_ty hr g e).grow hba
  have hgW : W.grownBy w' v.ownBlock := ⟨hg.os, hg.tape, hg.output, Nat.le_trans hba.size hg.size, fun k hk hne => (hg.block k (Nat.lt_of_lt_of_le hk hba.size) hne).trans (hba.block k hk)⟩
  refine hK _ _ (h v' w' ?_ ?_ (by simpa using hob) hgW)
  · refine ⟨us ++ [.agg #[.bool g0, .slice A0 n0 c0, .slice B0 m0 d0]], by rw [List.length_append, List.flatMap_append]; exact hr', by rw [List.length_append, List.length_append, hlen]; rfl, fun i u y hu hy => ?_⟩
    rw [List.getElem?_append] at hu hy
    rw [hlen] at hu
    split at hu
    · rename_i hl
      rw [if_pos hl] at hy
      exact ((hus i u y hu hy).grow hba).row hg hty
    · rename_i hl
      rw [if_neg hl] at hy
      have hi0 : i - zs.length = 0 := by
        rcases Nat.lt_or_ge (i - zs.length) 1 with h | h
        · omega
        · rw [List.getElem?_eq_none (by simpa using h)] at hu; cases hu
      rw [hi0] at hu hy
      simp at hu hy
      subst hu hy
      exact (hq.grow hba).row hg hty
  · exact hb0.grown hg (by simp; omega) (fun k hk => (hr.lt k hk).1)
theorem RowQ.len {base : Nat} {w : World} {A : Option Addr} {n c : Nat} {zs : List Rat} {K : Nat} (h : RowQ base w (.slice A n c) zs K) : n = zs.length := by
  obtain ⟨A', c', e, -⟩ := h.form
  injection e
theorem RowQ.there {base : Nat} {w : World} {g n c : Nat} {zs : List Rat} {K k : Nat} (h : RowQ base w (.slice (some ⟨g, 0, none⟩) n c) zs K) (hk : k < zs.length) : w.there g (k * 3) 3 := by
  obtain ⟨g', g0, A0, n0, c0, B0, m0, d0, z, e, -, -, -, hr, -, -⟩ := h.at_ hk
  injection e with e
  injection e with e
  subst e
  obtain ⟨us, h1, -⟩ := h
  obtain ⟨A', c', e', -⟩ := own_form h1
  injection e' with _ e2 _
  subst e2
  intro j hj
  refine ⟨?_, h1.frozenAt _⟩
  have : ∀ v, ([.bool g0, .slice A0 n0 c0, .slice B0 m0 d0] : List Value)[j]? = some v → (w.cell? ⟨g, k * 3 + j, none⟩).isSome = true := fun v hv => by rw [hr j v hv]; rfl
  match j, hj with
  | 0, _ | 1, _ | 2, _ => exact this _ rfl
theorem RowQ.put {base : Nat} {w : World} {g n c : Nat} {zs : List Rat} {K : Nat} {g0 : Bool} {A0 B0 : Option Addr} {n0 c0 m0 d0 : Nat} {z : Rat} (h : RowQ base w (.slice (some ⟨g, 0, none⟩) n c) zs K) (k : Nat) (hq : RatQ 0 w (.agg #[.bool g0, .slice A0 n0 c0, .slice B0 m0 d0]) z K) :
    RowQ base (w.setCells g (k * 3) [.bool g0, .slice A0 n0 c0, .slice B0 m0 d0]) (.slice (some ⟨g, 0, none⟩) n c) (zs.set k z) K := by
  have hty := h.ty g rfl
  obtain ⟨us, h1, h2, h3⟩ := h
  obtain ⟨A', c', e', -⟩ := own_form h1
  injection e' with _ e2 _
  subst e2
  have a0 := (h1.stored (k * 3) (.bool g0)).1
  have a1 := (a0.stored (k * 3 + 1) (.slice A0 n0 c0)).1
  have a2 := (a1.stored (k * 3 + 2) (.slice B0 m0 d0)).1
  have hg : w.grownBy (w.setCells g (k * 3) [.bool g0, .slice A0 n0 c0, .slice B0 m0 d0]) (some g) := sets_grown _ _ _ (grown_refl w (some g))
  refine ⟨us.set k (.agg #[.bool g0, .slice A0 n0 c0, .slice B0 m0 d0]), by rw [List.length_set, flatQ_set]; exact a2, by rw [List.length_set, List.length_set]; exact h2, fun i u y hu hy => ?_⟩
  rw [List.getElem?_set] at hu hy
  by_cases e : k = i
  · subst e
    rw [if_pos rfl] at hu hy
    split at hu
    · rename_i hl
      rw [if_pos (by omega)] at hy
      injection hu with hu
      injection hy with hy
      subst hu hy
      exact hq.keptT hg hty (by decide)
    · cases hu
  · rw [if_neg e] at hu hy
    exact (h3 i u y hu hy).keptT hg hty (by decide)
end Go.Proofs.Ytmdfgidejdiiiaa
end
section
namespace Go.Proofs.Ytmdfgidejdiiiaa
open Go.RowKit
def ratF (v : Int) : Rat := ((v % 25 - 12 : Int) : Rat) / ((1 + v / 25 % 8 : Int) : Rat)
def ratsF (l : List Int) (n : Nat) : List Rat := (List.range n).map fun (i : Nat) => ratF (withinF (atF l i) 2000)
theorem ratsF_succ (l : List Int) (k : Nat) : ratsF l (k + 1) = ratsF l k ++ [ratF (withinF (atF l k) 2000)] := by simp [ratsF, List.range_succ]
theorem ratsF_length (l : List Int) (k : Nat) : (ratsF l k).length = k := by simp [ratsF]
def RetRats (w : World) (zs : List Rat) (K : Nat) (e : Ending) (w' : World) : Prop := ∃ v, e = .returned v ∧ RowQ w.heap.size w' v zs K ∧ Below w.heap.size w w'
set_option maxRecDepth 100000 in
set_option maxHeartbeats 4000000 in
theorem wd_Rats (A : Option Addr) (l : List Int) (c n : Nat) (w : World) (hn : n ≤ 100000) (h : Ints w A l) : Calls Try.prog 27 #[.slice A l.length c, .int .i64 n] w (RetRats w (ratsF l n) 2) := by
  go_enter Try.func27, Try.ntmps27
  go_wp2
  go_loopw [5, 6] (fun v i wr => ∃ k : Nat, k ≤ n ∧ i = .int .i64 k ∧ Hid (RowQ w.heap.size wr v (ratsF l k) 2) ∧ Below w.heap.size w wr) (fun _ i _ => n - (intOf i).toNat)
  case atStart => exact ⟨0, Nat.zero_le _, rfl, Lib.hid RowQ.nil, Below.refl _ _⟩
  case round =>
    obtain ⟨k, hk, rfl, HR, hbw⟩ := hrel
    have HBW := Lib.hid hbw
    by_cases hlt : k < n
    · have HS := Lib.hid (ratsF_succ l k)
      have hlen' : (ratsF l k).length ≤ 100000 := by rw [ratsF_length]; omega
      obtain ⟨g1, g2⟩ := within_in (m := 2000) (by omega) (atF l k)
      obtain ⟨y, hy⟩ : ∃ y, withinF (atF l k) 2000 = y := ⟨_, rfl⟩
      have HY := Lib.hid hy
      rw [hy] at g1 g2
      have CF : Hid (∀ w1, Calls Try.prog 53 #[.int .i64 (y % 25 - 12), .int .i64 (1 + y / 25 % 8)] w1 (RetQ w1 (ratF y) 2)) := Lib.hid fun w1 => r3_Frac _ _ w1 (by unfold I64; omega) (by unfold I64; omega)
      go_wp2_with (first
        | (go_at_call 58; refine (wd_At _ _ _ _ _ (h.grow HBW.out)).mono ?_; rintro e w' ⟨rfl, rfl⟩)
        | (go_at_call 56; refine (wd_Within _ _ _ (by omega)).mono ?_; rintro e w' ⟨rfl, rfl⟩)
        | (go_at_call 53; (with_reducible refine (CF.out _).mono ?_); rintro e5 w5 ⟨v5, rfl, hq, hb5⟩; have HQ5 := Lib.hid hq; obtain ⟨g5, A5, n5, c5, B5, m5, d5, rfl⟩ := hq.form; have HB5 := Lib.hid hb5; clear hq hb5; have HR5 := Lib.hid (HR.out.grow HB5.out))
        | (at_builtin; refine app_q _ rfl _ _ rfl w.heap.size HR5.out rfl rfl (HQ5.out.base (Nat.zero_le _)) hlen' (Nat.le_trans HBW.out.size HB5.out.size) ?_; intro v1 w1 hown1 hbel1 _ _))
      go_roundw
      case rel => exact ⟨k + 1, by omega, by go_num, by rw [HS.out, HY.out]; exact Lib.hid hown1, (below_then HBW.out HB5.out).trans hbel1⟩
      case measure => simp [intOf]; omega
    · go_wp2
      go_ret
      obtain rfl : k = n := by omega
      exact ⟨_, rfl, HR.out, HBW.out⟩
theorem RowQ.atW {base : Nat} {w : World} {A : Option Addr} {n c : Nat} {zs : List Rat} {K k : Nat} (h : RowQ base w (.slice A n c) zs K) (hk : k < zs.length) :
    ∃ g g0 A0 n0 c0 B0 m0 d0 z, A = some ⟨g, 0, none⟩ ∧ zs[k]? = some z ∧ ∀ w1, Below w.heap.size w w1 → RatQ 0 w1 (.agg #[.bool g0, .slice A0 n0 c0, .slice B0 m0 d0]) z K ∧ w1.rangeAt g (k * 3) [.bool g0, .slice A0 n0 c0, .slice B0 m0 d0] := by
  obtain ⟨g, g0, A0, n0, c0, B0, m0, d0, z, e, -, hz, hq, hr, -, hl⟩ := h.at_ hk
  exact ⟨g, g0, A0, n0, c0, B0, m0, d0, z, e, hz, fun w1 hb => ⟨hq.grow hb, fun j v hv => (World.cell?_of_block (a := ⟨g, _, none⟩) (hb.block g hl)).trans (hr j v hv)⟩⟩
end Go.Proofs.Ytmdfgidejdiiiaa
end
section
namespace Go.Proofs.Ytmdfgidejdiiiaa
open Go.RowKit
theorem RatA.zero {w : World} {K : Nat} : RatA w (.agg #[.bool false, .slice none 0 0, .slice none 0 0]) 0 K :=
  ⟨false, none, 0, 0, [], none, 0, 0, [], rfl, ⟨DigA.nil, rfl, Nat.le_refl _, Nat.zero_le _⟩, ⟨DigA.nil, rfl, Nat.le_refl _, Nat.zero_le _⟩, (frac_zero rfl).symm⟩
end Go.Proofs.Ytmdfgidejdiiiaa
end
section
namespace Go.Proofs.Ytmdfgidejdiiiaa
open Go.RowKit
theorem TyB.set {w : World} {q g o : Nat} {t : TypeId} (h : TyB w q t) (v : Value) : TyB (w.setCell ⟨g, o, none⟩ v) q t := by
  obtain ⟨cs, r, e⟩ := h
  by_cases hq : q = g
  · subst hq
    exact ⟨cs.setIfInBounds o v, r, by simp [World.setCell, Array.getElem?_modify, e]⟩
  · exact ⟨cs, r, (Below.heap_setCell w _ v q hq).trans e⟩
theorem TyB.sets {q g : Nat} {t : TypeId} : ∀ (l : List Value) (k : Nat) (w : World), TyB w q t → TyB (w.setCells g k l) q t
  | [], _, _, h => h
  | v :: l, k, w, h => TyB.sets l (k + 1) _ (h.set v)
theorem wp_stT {ops : Array Oper} {rest : List Oper} {o : Oper} {a : Act} {Q : Exit → Act → World → Prop} {w : World} (hgd : o.guard = none) (ty : TypeId) (x y : Operand) (ho : o.op = .store ty x y) (g k : Nat) (cs : List Value) (hx : a.eval x = .pointer (some ⟨g, k, none⟩)) (hy : a.eval y = .agg cs.toArray)
    (hi : (Try.prog.info? ty).map (·.size) = some cs.length) (h1 : cs.all (·.oneCell') = true) {vs vs' : List Value} (hb : Box w g vs) (hk : k + cs.length ≤ vs.length) (e : vs.take k ++ cs ++ vs.drop (k + cs.length) = vs')
    (h : ∀ W1, Box W1 g vs' → w.grownBy W1 (some g) → (∀ q t, TyB w q t → TyB W1 q t) → wpList Try.prog ops Q rest (a.put o.dst undef) W1) : wpList Try.prog ops Q (o :: rest) a w := by
  refine wpList_store_mid hgd ty x y ho g k cs.toArray hx hy (by simpa using hb.there hk) (by simpa using hi) (all_oneCell_toArray (fun v hv => List.all_eq_true.1 h1 v hv)) ?_
  have e2 : cs.toArray.toList = cs := by simp
  rw [e2]
  refine h _ ?_ (sets_grown _ _ _ (grown_refl w (some g))) (fun q t h => TyB.sets _ _ _ h)
  rw [← e]
  exact Box.sets _ _ _ _ hb hk
theorem Lifts.atW {w : World} {A : Option Addr} {ls : List Lft} {k : Nat} {s : Lft} (h : Lifts w A ls) (hk : ls[k]? = some s) : ∃ ad C c, A = some ad ∧ ∀ w1, Below w.heap.size w w1 → (w1.cell? (ad.add (k * 4)) = some (.bool s.1) ∧ w1.cell? ⟨(ad.add (k * 4)).block, (ad.add (k * 4)).off + 1, none⟩ = some (.int .i64 s.2.1) ∧
    w1.cell? ⟨(ad.add (k * 4)).block, (ad.add (k * 4)).off + 2, none⟩ = some (.slice C s.2.2.1.length c) ∧ w1.cell? ⟨(ad.add (k * 4)).block, (ad.add (k * 4)).off + 3, none⟩ = some (.int .i64 s.2.2.2)) ∧ Ints w1 C s.2.2.1 := by
  obtain ⟨ad, C, c, e, h1, c0, c1, c2, c3, hi, -, -⟩ := h k s hk
  exact ⟨ad, C, c, e, fun w1 hb => ⟨⟨(hb.cell (by rw [block_add]; exact h1)).trans c0, (hb.cell (by show (ad.add _).block < _; rw [block_add]; exact h1)).trans c1, (hb.cell (by show (ad.add _).block < _; rw [block_add]; exact h1)).trans c2, (hb.cell (by show (ad.add _).block < _; rw [block_add]; exact h1)).trans c3⟩, hi.grow hb⟩⟩
theorem RowQ.lit2 {w : World} {base : Nat} {g1 g2 : Bool} {A1 B1 A2 B2 : Option Addr} {n1 c1 m1 d1 n2 c2 m2 d2 : Nat} {p1 p2 : Rat} {K : Nat} (h1 : RatQ 0 w (.agg #[.bool g1, .slice A1 n1 c1, .slice B1 m1 d1]) p1 K) (h2 : RatQ 0 w (.agg #[.bool g2, .slice A2 n2 c2, .slice B2 m2 d2]) p2 K) (hb : base ≤ w.heap.size) :
    RowQ base (w.alloc (.cells #[.bool g1, .slice A1 n1 c1, .slice B1 m1 d1, .bool g2, .slice A2 n2 c2, .slice B2 m2 d2] 28)) (.slice (some ⟨w.heap.size, 0, none⟩) 2 2) [p1, p2] K := by
  have hg : Below w.heap.size w (w.alloc (.cells #[.bool g1, .slice A1 n1 c1, .slice B1 m1 d1, .bool g2, .slice A2 n2 c2, .slice B2 m2 d2] 28)) := (Below.refl _ _).alloc (Nat.le_refl _) _
  refine ⟨[.agg #[.bool g1, .slice A1 n1 c1, .slice B1 m1 d1], .agg #[.bool g2, .slice A2 n2 c2, .slice B2 m2 d2]], ⟨rfl, .inr ⟨w.heap.size, 2, _, rfl, hb, heap_alloc_new w _, Nat.le_refl _, by unfold maxLen; omega, rfl, rfl⟩⟩, rfl, fun i u z hu hz => ?_⟩
  match i, hu, hz with
  | 0, hu, hz => simp at hu hz; subst hu hz; exact h1.grow hg
  | 1, hu, hz => simp at hu hz; subst hu hz; exact h2.grow hg
end Go.Proofs.Ytmdfgidejdiiiaa
end
