/- Several texts in one: A B G1 Mp Mj Nc Vp K Q O V1. -/
import Derived.Test.YtdiflpbioohddaaDoortPltoLa
import Derived.Test.YtdiflpbioohddaaDoorRows
import Derived.Deep.RegionHeld3
import Derived.Laws.MakeOwn
import Derived.ProofKit
import Derived.Lib.SmallJoins
import Derived.Deep.RegionLaw
import Derived.Maps.AppendAt
set_option linter.unusedVariables false
set_option linter.unusedSimpArgs false
section
namespace Go.Proofs.YtdiflpbioohddaaDoor
open Go.RowKit
theorem wpList_app1 {P : Program} {ops : Array Oper} {rest : List Oper} {o : Oper} {a : Act} {Q : Exit → Act → World → Prop} (W : World) (hgd : o.guard = none) (s x : Operand) (t : TypeId)
  (ho : o.op = .call { callee := .builtin .append, args := #[s, x], argTypes := #[t, t] })
  (base : Nat) (e : TypeId) (i : TypeInfo) (z : Value) (bytes : Nat) (ht : P.underlying t = some (.slice e)) (hi : P.info? e = some i) (hz : i.zero = some z)
  (hsize : i.size = 1) (hby : i.bytes = bytes) (hzs : z.cells.size = 1) (hbl : bytes ≤ 1000000)
  {v u : Value} {n : Nat} {xs : List Value} (hown : W.ownsRow base e 1 v n xs) (hs : a.eval s = v)
  (hx : a.eval x = .slice (some ⟨W.heap.size, 0, none⟩) 1 1) (h1 : u.oneCell' = true) (hn : n < 100000000) (hbase : base ≤ W.heap.size)
  (h : ∀ v' w', w'.ownsRow base e 1 v' (n + 1) (xs ++ [u]) → Below base W w' → wpList P ops Q rest (a.put o.dst v') w') :
  wpList P ops Q (o :: rest) a (W.alloc (.cells #[u] e)) := by
 refine wpList_append_own _ hgd s x t ho base e i z 1 bytes ht hi hz hsize hby hzs (by decide) v n xs hs (hown.alloc _) ⟨W.heap.size, 0, none⟩ 1 1 [u] hx rfl ?_ ?_ ?_ ?_ ?_ ?_
 ·intro j q hj
  match j, hj with
  | 0, hj => simp at hj; subst hj; simp [Addr.add]
 ·intro q hq; simp at hq; subst hq; exact h1
 ·unfold maxLen; omega
 ·have : (n + 1) * bytes ≤ 100000000 * 1000000 := Nat.mul_le_mul (by omega) hbl
  omega
 ·simp; omega
 ·intro v' w' ho' hg' _
  refine h v' w' ho' ?_
  have hb := (Below.refl base W).alloc hbase (.cells #[u] e)
  exact hb.grown hg' (by simp; omega) (fun k hk => (hown.lt k hk).1)
theorem step_app1 {P : Program} {ops : Array Oper} {o : Oper} {a : Act} {K : Act → World → Prop} {Q : Exit → Act → World → Prop} {E : Prop} (W : World) (hgd : o.guard = none) (s x : Operand) (t : TypeId)
  (ho : o.op = .call { callee := .builtin .append, args := #[s, x], argTypes := #[t, t] })
  (base : Nat) (e : TypeId) (i : TypeInfo) (z : Value) (bytes : Nat) (ht : P.underlying t = some (.slice e)) (hi : P.info? e = some i) (hz : i.zero = some z)
  (hsize : i.size = 1) (hby : i.bytes = bytes) (hzs : z.cells.size = 1) (hbl : bytes ≤ 1000000)
  {v u : Value} {n : Nat} {xs : List Value} (hown : W.ownsRow base e 1 v n xs) (hs : a.eval s = v)
  (hx : a.eval x = .slice (some ⟨W.heap.size, 0, none⟩) 1 1) (h1 : u.oneCell' = true) (hn : n < 100000000) (hbase : base ≤ W.heap.size)
  (h : ∀ v' w', w'.ownsRow base e 1 v' (n + 1) (xs ++ [u]) → Below base W w' → K (a.put o.dst v') w') :
  if Region.wanted o (yielded ops a.tmps) = true then Oper.wp P o a (W.alloc (.cells #[u] e)) K Q else E := by
 have hw : Region.wanted o (yielded ops a.tmps) = true := by simp [Region.wanted, hgd]
 rw [if_pos hw]
 refine wp_append_own _ s x t ho base e i z 1 bytes ht hi hz hsize hby hzs (by decide) v n xs hs (hown.alloc _) ⟨W.heap.size, 0, none⟩ 1 1 [u] hx rfl ?_ ?_ ?_ ?_ ?_ ?_
 ·intro j q hj
  match j, hj with
  | 0, hj => simp at hj; subst hj; simp [Addr.add]
 ·intro q hq; simp at hq; subst hq; exact h1
 ·unfold maxLen; omega
 ·have : (n + 1) * bytes ≤ 100000000 * 1000000 := Nat.mul_le_mul (by omega) hbl
  omega
 ·simp; omega
 ·intro v' w' ho' hg' _
  refine h v' w' ho' ?_
  have hb := (Below.refl base W).alloc hbase (.cells #[u] e)
  exact hb.grown hg' (by simp; omega) (fun k hk => (hown.lt k hk).1)
theorem own_grow {w w' : World} {base n size : Nat} {e : TypeId} {v : Value} {xs : List Value} (h : w.ownsRow base e size v n xs) (hb : Below w.heap.size w w') : w'.ownsRow base e size v n xs := by
 obtain ⟨h1, h2 | ⟨g, cap, cur, hv, hg, hh, r⟩⟩ := h
 ·exact ⟨h1, .inl h2⟩
 ·have hlt : g < w.heap.size := by
   rcases Nat.lt_or_ge g w.heap.size with h | h
   ·exact h
   ·rw [Array.getElem?_eq_none h] at hh; cases hh
  exact ⟨h1, .inr ⟨g, cap, cur, hv, hg, (hb.block g hlt).trans hh, r⟩⟩
theorem own_base {w : World} {base base' n size : Nat} {e : TypeId} {v : Value} {xs : List Value} (h : w.ownsRow base e size v n xs) (hb : base' ≤ base) : w.ownsRow base' e size v n xs := by
 obtain ⟨h1, h2 | ⟨g, cap, cur, hv, hg, r⟩⟩ := h
 ·exact ⟨h1, .inl h2⟩
 ·exact ⟨h1, .inr ⟨g, cap, cur, hv, by omega, r⟩⟩
theorem info_int : (Tryd.prog.info? 3).map (fun i => (i.zero, i.size, i.bytes)) = some (some (.int .i64 0), 1, 8) := by kernel_rfl
def Own (base : Nat) (w : World) (v : Value) (l : List Int) : Prop := w.ownsRow base 3 1 v l.length (l.map (Value.int .i64)) ∧ ∀ x ∈ l, I64 x
theorem Own.nil {base : Nat} {w : World} : Own base w (.slice none 0 0) [] := ⟨World.ownsRow_nil _ _ _ _, by simp⟩
theorem Own.form {base : Nat} {w : World} {v : Value} {l : List Int} (h : Own base w v l) : ∃ A c, v = .slice A l.length c ∧ l.length ≤ c ∧ Ints w A l := by
 obtain ⟨A, c, rfl, hc⟩ := own_form h.1
 exact ⟨A, c, rfl, hc, Row.of_own h.1, h.2⟩
theorem Own.grow {base : Nat} {w w' : World} {v : Value} {l : List Int} (h : Own base w v l) (hb : Below w.heap.size w w') : Own base w' v l := ⟨own_grow h.1 hb, h.2⟩
theorem Own.base {base base' : Nat} {w : World} {v : Value} {l : List Int} (h : Own base w v l) (hb : base' ≤ base) : Own base' w v l := ⟨own_base h.1 hb, h.2⟩
theorem step_app_int {ops : Array Oper} {o : Oper} {a : Act} {K : Act → World → Prop} {Q : Exit → Act → World → Prop} {E : Prop} (W : World) {W1 : World} (hgd : o.guard = none) (s x : Operand)
  (ho : o.op = .call { callee := .builtin .append, args := #[s, x], argTypes := #[25, 25] }) (base : Nat) {v : Value} {l : List Int} {y : Int} (hown : Own base W v l) (hW : W1 = W.alloc (.cells #[.int .i64 y] 3)) (hs : a.eval s = v)
  (hx : a.eval x = .slice (some ⟨W.heap.size, 0, none⟩) 1 1) (hn : l.length < 100000000) (hbase : base ≤ W.heap.size) (hy : I64 y)
  (h : ∀ v' w', Own base w' v' (l ++ [y]) → Below base W w' → K (a.put o.dst v') w') :
  if Region.wanted o (yielded ops a.tmps) = true then Oper.wp Tryd.prog o a W1 K Q else E := by
 subst hW
 obtain ⟨i0, hi, hz0, hz1, hz2⟩ := info_parts info_int
 refine step_app1 W hgd s x 25 ho base 3 i0 (.int .i64 0) 8 Tryd.underlying25 hi hz0 hz1 hz2 rfl (by decide) hown.1 hs hx rfl hn hbase fun v' w' h1 h2 => h v' w' ⟨?_, ?_⟩ h2
 ·simpa using h1
 ·intro q hq
  rcases List.mem_append.1 hq with hq | hq
  ·exact hown.2 q hq
  ·simp at hq; subst hq; exact hy
theorem app_int {ops : Array Oper} {rest : List Oper} {o : Oper} {a : Act} {Q : Exit → Act → World → Prop} (W : World) (hgd : o.guard = none) (s x : Operand)
  (ho : o.op = .call { callee := .builtin .append, args := #[s, x], argTypes := #[25, 25] }) (base : Nat) {v : Value} {l : List Int} {y : Int} (hown : Own base W v l) (hs : a.eval s = v)
  (hx : a.eval x = .slice (some ⟨W.heap.size, 0, none⟩) 1 1) (hn : l.length < 100000000) (hbase : base ≤ W.heap.size) (hy : I64 y)
  (h : ∀ v' w', Own base w' v' (l ++ [y]) → Below base W w' → wpList Tryd.prog ops Q rest (a.put o.dst v') w') :
  wpList Tryd.prog ops Q (o :: rest) a (W.alloc (.cells #[.int .i64 y] 3)) := by
 obtain ⟨i0, hi, hz0, hz1, hz2⟩ := info_parts info_int
 refine wpList_app1 W hgd s x 25 ho base 3 i0 (.int .i64 0) 8 Tryd.underlying25 hi hz0 hz1 hz2 rfl (by decide) hown.1 hs hx rfl hn hbase fun v' w' h1 h2 => h v' w' ⟨?_, ?_⟩ h2
 ·simpa using h1
 ·intro q hq
  rcases List.mem_append.1 hq with hq | hq
  ·exact hown.2 q hq
  ·simp at hq; subst hq; exact hy
theorem box4_S {w w' : World} {x0 x1 x2 x3 : Value} {t : TypeId} (h : Below (w.heap.size + 1) (w.alloc (.cells #[x0, x1, x2, x3] t)) w') :
  w'.cell? ⟨w.heap.size, 0, none⟩ = some x0 ∧ w'.cell? ⟨w.heap.size, 1, none⟩ = some x1 ∧ w'.cell? ⟨w.heap.size, 2, none⟩ = some x2 ∧ w'.cell? ⟨w.heap.size, 3, none⟩ = some x3 := by
 refine ⟨?_, ?_, ?_, ?_⟩ <;> exact (h.cell (Nat.lt_succ_self _)).trans (by simp [go_sem])
theorem below_box {w w' : World} {o : Obj} (h : Below (w.heap.size + 1) (w.alloc o) w') : Below w.heap.size w w' := ((Below.refl _ _).alloc (Nat.le_refl _) _).trans (h.mono (by omega))
end Go.Proofs.YtdiflpbioohddaaDoor
end
section
namespace Go.Proofs.YtdiflpbioohddaaDoor
open Go.RowKit
def belowF (bound : Int) (l : List Int) (count : Nat) : List Int := (List.range count).map fun (i : Nat) => withinF (wrap64 (atF l i + bound)) (2 * bound + 1) - bound
theorem belowF_succ (bound : Int) (l : List Int) (k : Nat) : belowF bound l (k + 1) = belowF bound l k ++ [withinF (wrap64 (atF l k + bound)) (2 * bound + 1) - bound] := by
 simp [belowF, List.range_succ]
theorem belowF_length (bound : Int) (l : List Int) (k : Nat) : (belowF bound l k).length = k := by simp [belowF]
theorem wd_Below (bound : Int) (A : Option Addr) (l : List Int) (c : Nat) (n : Nat) (w : World) (hb0 : 0 ≤ bound) (hb1 : bound ≤ 1048576) (hn : n ≤ 1000000) (h : Ints w A l) :
  Calls Tryd.prog 45 #[.int .i64 bound, .slice A l.length c, .int .i64 n] w fun e w' => ∃ v, e = .returned v ∧ Own w.heap.size w' v (belowF bound l n) ∧ Below w.heap.size w w' := by
 go_enter Tryd.func45, Tryd.ntmps45
 go_wp2
 go_loopw [7, 8] (fun v i wr => ∃ k : Nat, k ≤ n ∧ i = .int .i64 k ∧ Own w.heap.size wr v (belowF bound l k) ∧ Below w.heap.size w wr) (fun _ i _ => n - (intOf i).toNat)
 case atStart => exact ⟨0, Nat.zero_le _, rfl, Own.nil, Below.refl _ _⟩
 case round =>
  obtain ⟨k, hk, rfl, hown, hbw⟩ := hrel
  by_cases hlt : k < n
  ·have HS := Lib.hid (belowF_succ bound l k)
   have hlen := belowF_length bound l k
   obtain ⟨g1, g2⟩ := within_in (m := 2 * bound + 1) (by omega) (wrap64 (atF l k + bound))
   obtain ⟨y, hy⟩ : ∃ y, withinF (wrap64 (atF l k + bound)) (2 * bound + 1) = y := ⟨_, rfl⟩
   have HY := Lib.hid hy
   rw [hy] at g1 g2
   have hlen' : (belowF bound l k).length < 100000000 := by omega
   have hI : I64 (y - bound) := ⟨by omega, by omega⟩
   clear hlen
   go_wp2_with (first
    | (go_at_call 24; refine (wd_At _ _ _ _ _ (h.grow hbw)).mono ?_; rintro e w' ⟨rfl, rfl⟩)
    | (go_at_call 23; refine (wd_Within _ _ _ (by omega)).mono ?_; rintro e w' ⟨rfl, rfl⟩)
    | (at_builtin; refine app_int wr rfl _ _ rfl w.heap.size hown rfl rfl hlen' hbw.size hI ?_; intro v1 w1 hown1 hbel1))
   go_roundw
   case rel => exact ⟨k + 1, by omega, by go_num, by rw [HS.out, HY.out]; exact hown1, hbw.trans hbel1⟩
   case measure => simp [intOf]; omega
  ·go_wp2
   go_ret
   obtain rfl : k = n := by omega
   exact ⟨_, rfl, hown, hbw⟩
def wordF (b f r o : Int) (x : Int) : Int := lowW b f r o + withinF (wrap64 (x - lowW b f r o)) (highW b f r o - lowW b f r o + 1)
def wordsF (b f r o : Int) (l : List Int) (count : Nat) : List Int := (List.range count).map fun (i : Nat) => wordF b f r o (atF l i)
theorem wordsF_succ (b f r o : Int) (l : List Int) (k : Nat) : wordsF b f r o l (k + 1) = wordsF b f r o l k ++ [wordF b f r o (atF l k)] := by
 simp [wordsF, List.range_succ]
theorem wordsF_length (b f r o : Int) (l : List Int) (k : Nat) : (wordsF b f r o l k).length = k := by simp [wordsF]
theorem wd_Words (b f r o : Int) (A : Option Addr) (l : List Int) (c : Nat) (n : Nat) (w : World) (hn : n ≤ 1000000) (h : Ints w A l) :
  Calls Tryd.prog 19 #[wordV b f r o, .slice A l.length c, .int .i64 n] w fun e w' => ∃ v, e = .returned v ∧ Own w.heap.size w' v (wordsF b f r o l n) ∧ Below w.heap.size w w' := by
 go_enter Tryd.func19, Tryd.ntmps19
 go_wp2
 go_loopw [7, 8] (fun v i wr => ∃ k : Nat, k ≤ n ∧ i = .int .i64 k ∧ Own (w.heap.size + 1) wr v (wordsF b f r o l k) ∧ Below (w.heap.size + 1) (w.alloc (.cells #[.int .i64 b, .int .i64 f, .int .i64 r, .int .i64 o] 23)) wr) (fun _ i _ => n - (intOf i).toNat)
 case atStart => exact ⟨0, Nat.zero_le _, rfl, Own.nil, Below.refl _ _⟩
 case round =>
  obtain ⟨k, hk, rfl, hown, hbw⟩ := hrel
  by_cases hlt : k < n
  ·have HS := Lib.hid (wordsF_succ b f r o l k)
   have hlen' : (wordsF b f r o l k).length < 100000000 := by rw [wordsF_length]; omega
   obtain ⟨L, hL⟩ : ∃ L, lowW b f r o = L := ⟨_, rfl⟩
   obtain ⟨H, hH⟩ : ∃ H, highW b f r o = H := ⟨_, rfl⟩
   obtain ⟨q1, q2, q3, q4⟩ := low_high b f r o
   rw [hL] at q1 q2
   rw [hH] at q3 q4
   obtain ⟨g1, g2⟩ := within_in (m := H - L + 1) (by omega) (wrap64 (atF l k - L))
   obtain ⟨y, hy⟩ : ∃ y, withinF (wrap64 (atF l k - L)) (H - L + 1) = y := ⟨_, rfl⟩
   have HY : Hid (wordF b f r o (atF l k) = L + y) := by unfold wordF; rw [hL, hH, hy]; exact rfl
   rw [hy] at g1 g2
   have hI : I64 (L + y) := ⟨by omega, by omega⟩
   have hsz : w.heap.size + 1 ≤ wr.drew.heap.size := by have := hbw.size; simp at this; show _ ≤ wr.heap.size; omega
   have hbw2 := hbw.drew
   have hown2 : Own (w.heap.size + 1) wr.drew _ _ := hown
   have hm : H - L + 1 ≤ 9223372036854775807 := by omega
   obtain ⟨X, hX⟩ : ∃ X, IntKind.i64.wrap (atF l k - L) = X := ⟨_, rfl⟩
   have hy2 : withinF X (H - L + 1) = y := by rw [← hX, IntKind.wrap_i64]; unfold wrap64 at hy; exact hy
   have e1 : IntKind.i64.wrap (H - L) = H - L := IntWalk.i64_in _ (by omega)
   have e2 : IntKind.i64.wrap (H - L + 1) = H - L + 1 := IntWalk.i64_in _ (by omega)
   have e3 : IntKind.i64.wrap (L + y) = L + y := IntWalk.i64_in _ (by omega)
   clear hown hbw hy
   go_wp2_with fail
   go_region_held3 (fun w' => (w'.cell? ⟨w.heap.size, 0, none⟩ = some (.int .i64 b) ∧ w'.cell? ⟨w.heap.size, 1, none⟩ = some (.int .i64 f) ∧ w'.cell? ⟨w.heap.size, 2, none⟩ = some (.int .i64 r) ∧ w'.cell? ⟨w.heap.size, 3, none⟩ = some (.int .i64 o)))
    (first | exact box4_S (by assumption) | exact box4_S (hbw2.alloc hsz _))
    (first
     | (go_at_call 50; refine (rf_Low _ _ _ _ _).mono ?_; rintro e w1 ⟨rfl, hb1⟩; have hown2 := hown2.grow hb1; have hbw2 := hbw2.trans (hb1.mono hsz); have hsz := Nat.le_trans hsz hb1.size)
     | (go_at_call 51; refine (rf_High _ _ _ _ _).mono ?_; rintro e w1 ⟨rfl, hb1⟩; have hown2 := hown2.grow hb1; have hbw2 := hbw2.trans (hb1.mono hsz); have hsz := Nat.le_trans hsz hb1.size)
     | (go_at_call 24; refine (wd_At _ _ _ _ _ (h.grow (below_box hbw2))).mono ?_; rintro e w1 ⟨rfl, rfl⟩)
     | (go_at_call 23; refine (wd_Within _ _ _ hm).mono ?_; rintro e w1 ⟨rfl, rfl⟩)
     | ((with_reducible refine step_app_int _ rfl (.tmp 14) (.tmp 31) rfl (w.heap.size + 1) hown2 ?_ ?_ ?_ hlen' hsz hI ?_); (exact rfl); (exact rfl); (exact rfl); intro v1 w1 hown3 hbel1; have hbw2 := hbw2.trans hbel1))
   clear e1 e2 e3 hX hy2
   go_wp2
   go_roundw
   case rel => exact ⟨k + 1, by omega, by go_num, by rw [HS.out, HY.out]; exact hown3, hbw2⟩
   case measure => simp [intOf]; omega
  ·go_wp2
   go_ret
   obtain rfl : k = n := by omega
   exact ⟨_, rfl, hown.base (by omega), below_box hbw⟩
end Go.Proofs.YtdiflpbioohddaaDoor
end
section
namespace Go.Proofs.YtdiflpbioohddaaDoor
theorem pigeon : ∀ (S k : Nat) (f : Nat → Nat), (∀ i, i ≤ k → f i < S) → (∀ i j, i ≤ k → j ≤ k → f i = f j → i = j) → k < S
 | 0, _, _, h, _ => absurd (h 0 (Nat.zero_le _)) (Nat.not_lt_zero _)
 | S + 1, 0, _, _, _ => Nat.succ_pos _
 | S + 1, k + 1, f, h, inj => by
  have key : k < S := by
   refine pigeon S k (fun i => if f i = S then f (k + 1) else f i) ?_ ?_
   ·intro i hi
    show (if f i = S then f (k + 1) else f i) < S
    split
    ·rename_i hs
     have h1 := h (k + 1) (Nat.le_refl _)
     have h2 : f (k + 1) ≠ S := fun e => by have := inj i (k + 1) (by omega) (Nat.le_refl _) (hs.trans e.symm); omega
     omega
    ·have := h i (by omega); omega
   ·intro i j hi hj
    show (if f i = S then f (k + 1) else f i) = (if f j = S then f (k + 1) else f j) → i = j
    split <;> split
    ·rename_i h1 h2
     exact fun _ => inj i j (by omega) (by omega) (h1.trans h2.symm)
    ·intro e
     have := inj (k + 1) j (Nat.le_refl _) (by omega) e
     omega
    ·intro e
     have := inj i (k + 1) (by omega) (Nat.le_refl _) e
     omega
    ·exact fun e => inj i j (by omega) (by omega) e
  omega
def foll (nx : List Int) (a : Nat) : Option Nat := nx.findIdx? (fun v => v == (a : Int) + 1)
theorem foll_some {nx : List Int} {a b : Nat} (h : foll nx a = some b) : nx[b]? = some ((a : Int) + 1) ∧ ∀ j, j < b → nx[j]? ≠ some ((a : Int) + 1) := by
 unfold foll at h
 obtain ⟨hb, h1, h2⟩ := List.findIdx?_eq_some_iff_getElem.1 h
 refine ⟨by rw [List.getElem?_eq_getElem hb]; simpa using h1, fun j hj e => ?_⟩
 have hjl : j < nx.length := by omega
 have := h2 j hj
 rw [List.getElem?_eq_getElem hjl] at e
 injection e with e
 simp [e] at this
theorem foll_lt {nx : List Int} {a b : Nat} (h : foll nx a = some b) : b < nx.length := (List.getElem?_eq_some_iff.1 (foll_some h).1).1
theorem foll_inj {nx : List Int} {a a' b : Nat} (h : foll nx a = some b) (h' : foll nx a' = some b) : a = a' := by
 have h1 := (foll_some h).1
 rw [(foll_some h').1] at h1
 injection h1 with h1
 omega
def ledP (nx : List Int) (s : Nat) : Prop := ∃ a, a < nx.length ∧ foll nx a = some s
def itF (nx : List Int) (s : Nat) : Nat → Option Nat
 | 0 => some s
 | k + 1 => (itF nx s k).bind (foll nx)
theorem it_lt {nx : List Int} {s : Nat} (hs : s < nx.length) : ∀ k x, itF nx s k = some x → x < nx.length
 | 0, x, h => by injection h with h; omega
 | k + 1, x, h => by
  obtain ⟨y, _, h2⟩ := Option.bind_eq_some_iff.1 h
  exact foll_lt h2
theorem it_down {nx : List Int} {s k : Nat} {x : Nat} (h : itF nx s (k + 1) = some x) : ∃ y, itF nx s k = some y ∧ foll nx y = some x := by
 obtain ⟨y, h1, h2⟩ := Option.bind_eq_some_iff.1 h
 exact ⟨y, h1, h2⟩
theorem it_some {nx : List Int} {s : Nat} : ∀ {k j x}, itF nx s k = some x → j ≤ k → ∃ y, itF nx s j = some y
 | 0, j, x, h, hj => ⟨x, by rw [show j = 0 by omega]; exact h⟩
 | k + 1, j, x, h, hj => by
  rcases Nat.lt_or_ge k j with h1 | h1
  ·exact ⟨x, by rw [show j = k + 1 by omega]; exact h⟩
  ·obtain ⟨y, h2, _⟩ := it_down h
   exact it_some h2 h1
theorem it_ne {nx : List Int} {s : Nat} (hs : s < nx.length) (hl : ¬ ledP nx s) : ∀ i d x, itF nx s i = some x → itF nx s (i + d + 1) ≠ some x
 | 0, d, x, h, h2 => by
  injection h with h
  subst h
  obtain ⟨y, h3, h4⟩ := it_down (k := 0 + d) h2
  exact hl ⟨y, it_lt hs _ _ h3, h4⟩
 | i + 1, d, x, h, h2 => by
  obtain ⟨y, h3, h4⟩ := it_down h
  rw [show i + 1 + d + 1 = (i + d + 1) + 1 by omega] at h2
  obtain ⟨z, h5, h6⟩ := it_down h2
  have e := foll_inj h4 h6
  subst e
  exact it_ne hs hl i d y h3 h5
theorem it_short {nx : List Int} {s : Nat} (hs : s < nx.length) (hl : ¬ ledP nx s) {k x : Nat} (h : itF nx s k = some x) : k < nx.length := by
 refine pigeon nx.length k (fun i => (itF nx s i).getD 0) ?_ ?_
 ·intro i hi
  obtain ⟨y, hy⟩ := it_some h hi
  simp only [hy, Option.getD_some]
  exact it_lt hs i y hy
 ·have main : ∀ i j, i < j → j ≤ k → (itF nx s i).getD 0 ≠ (itF nx s j).getD 0 := by
   intro i j hij hj e
   obtain ⟨y, hy⟩ := it_some h (show i ≤ k by omega)
   obtain ⟨z, hz⟩ := it_some h hj
   rw [hy, hz] at e
   simp at e
   subst e
   exact it_ne hs hl i (j - i - 1) y hy (by rw [show i + (j - i - 1) + 1 = j by omega]; exact hz)
  intro i j hi hj e
  rcases Nat.lt_trichotomy i j with h1 | h1 | h1
  ·exact absurd e (main i j h1 hj)
  ·exact h1
  ·exact absurd e.symm (main j i h1 hi)
def preF (nx : List Int) (s : Nat) : Nat → List Int
 | 0 => []
 | k + 1 => preF nx s k ++ (match itF nx s k with | some x => [(x : Int)] | none => [])
def lineF (nx : List Int) (s : Nat) : List Int := preF nx s nx.length
theorem pre_some {nx : List Int} {s k x : Nat} (h : itF nx s k = some x) : preF nx s (k + 1) = preF nx s k ++ [(x : Int)] := by
 show preF nx s k ++ (match itF nx s k with | some x => [(x : Int)] | none => []) = _
 rw [h]
theorem it_none {nx : List Int} {s k : Nat} (h : itF nx s k = none) : ∀ d, itF nx s (k + d) = none
 | 0 => h
 | d + 1 => by
  show (itF nx s (k + d)).bind (foll nx) = none
  rw [it_none h d]; rfl
theorem pre_end {nx : List Int} {s k : Nat} (h : itF nx s k = none) : ∀ d, preF nx s (k + d) = preF nx s k
 | 0 => rfl
 | d + 1 => by
  show preF nx s (k + d) ++ (match itF nx s (k + d) with | some x => [(x : Int)] | none => []) = _
  rw [it_none h d, pre_end h d]
  simp
theorem pre_line {nx : List Int} {s k : Nat} (h : itF nx s k = none) (hk : k ≤ nx.length) : preF nx s k = lineF nx s := by
 unfold lineF
 have := pre_end h (nx.length - k)
 rw [show k + (nx.length - k) = nx.length by omega] at this
 exact this.symm
theorem pre_length {nx : List Int} {s : Nat} : ∀ {k x}, itF nx s k = some x → (preF nx s (k + 1)).length = k + 1
 | 0, x, h => by rw [pre_some h]; simp [preF]
 | k + 1, x, h => by
  obtain ⟨y, h1, _⟩ := it_down h
  rw [pre_some h, List.length_append, pre_length h1]; rfl
end Go.Proofs.YtdiflpbioohddaaDoor
end
section
namespace Go.Proofs.YtdiflpbioohddaaDoor
open Go.RowKit
def cnt (n fr m : Nat) : Nat := (n - fr + m - 1) / m
end Go.Proofs.YtdiflpbioohddaaDoor
end
section
namespace Go.Proofs.YtdiflpbioohddaaDoor
open Go.RowKit
def el (l : List Int) (k : Nat) : Int := l[k]?.getD 0
end Go.Proofs.YtdiflpbioohddaaDoor
end
section
namespace Go.Proofs.YtdiflpbioohddaaDoor
open Go.RowKit
theorem wrap_in {b v : Int} (h1 : 1 ≤ b) (h2 : b ≤ 62) : -2 ^ (b - 1).toNat ≤ wrapF b v ∧ wrapF b v ≤ 2 ^ (b - 1).toNat - 1 := by
 unfold wrapF
 rw [if_pos (inB_iff.2 ⟨h1, h2⟩)]
 have e : b.toNat = (b - 1).toNat + 1 := by omega
 have hp := pow_pos' (b - 1).toNat
 have e2 : (2 : Nat) ^ b.toNat = 2 * 2 ^ (b - 1).toNat := by rw [e, Nat.pow_succ, Nat.mul_comm]
 have c : ((2 ^ (b - 1).toNat : Nat) : Int) = (2 : Int) ^ (b - 1).toNat := by push_cast; rfl
 have h3 := @Int.le_bmod v (2 ^ b.toNat) (by rw [e2]; have := Nat.two_pow_pos (b - 1).toNat; omega)
 have h4 := @Int.bmod_le v (2 ^ b.toNat) (by rw [e2]; have := Nat.two_pow_pos (b - 1).toNat; omega)
 rw [e2] at h3 h4
 rw [e2]
 rw [← c] at hp ⊢
 generalize (2 ^ (b - 1).toNat : Nat) = P at *
 generalize v.bmod (2 * P) = q at *
 omega
theorem reduce_in (b f r o v : Int) : lowW b f r o ≤ reduceW b f r o v ∧ reduceW b f r o v ≤ highW b f r o := by
 unfold reduceW
 by_cases h : okW b f r o = true
 ·rw [if_pos h]
  have hlh := low_high b f r o
  obtain ⟨h1, h2, _⟩ := okW_iff.1 h
  by_cases ho : o = 2
  ·rw [if_pos ho]
   have := wrap_in (b := b) (v := v) (by omega) (by omega)
   unfold lowW highW
   rw [if_pos h, if_pos h]
   exact this
  ·rw [if_neg ho]
   unfold satW
   omega
 ·rw [if_neg h]
  unfold lowW highW
  rw [if_neg h, if_neg h]; omega
theorem fits_iff {b f r o v : Int} : fitsW b f r o v = true ↔ okW b f r o = true ∧ lowW b f r o ≤ v ∧ v ≤ highW b f r o := by
 unfold fitsW; rw [Bool.and_eq_true, inB_iff]
theorem fits_reduce {b f r o : Int} (h : okW b f r o = true) (v : Int) : fitsW b f r o (reduceW b f r o v) = true := fits_iff.2 ⟨h, reduce_in b f r o v⟩
end Go.Proofs.YtdiflpbioohddaaDoor
end
section
namespace Go.Proofs.YtdiflpbioohddaaDoor
open Go.RowKit
abbrev Lft := Bool × Int × List Int × Int
def chS (c : List Int) (st : Int) (o : List Int) (n : Nat) : Nat → Int
 | 0 => 0
 | k + 1 => chS c st o n k + el c k * el o (((n : Int) + st + k) % (o.length : Int)).toNat
def chF (s : Lft) (o : List Int) (n : Nat) : Int := shiftF (chS s.2.2.1 s.2.1 o n s.2.2.1.length) s.2.2.2 1
def stN (s : Lft) (g : Int) (to fr : List Int) (K : Nat) : List Int := (List.range to.length).map fun n => if n < K then wrapF 32 (el to n + g * chF s fr n) else el to n
def stF (s : Lft) (g : Int) (to fr : List Int) : List Int := stN s g to fr to.length
end Go.Proofs.YtdiflpbioohddaaDoor
end
section
namespace Go.Proofs.YtdiflpbioohddaaDoor
open Go.RowKit
theorem Own.cell {base : Nat} {w : World} {g n c : Nat} {l : List Int} (h : Own base w (.slice (some ⟨g, 0, none⟩) n c) l) {k : Nat} {y : Int} (hk : l[k]? = some y) : w.cell? ⟨g, k, none⟩ = some (.int .i64 y) := by
 obtain ⟨A, c', e, _⟩ := own_form h.1
 injection e with _ e2
 subst e2
 have hkl := (List.getElem?_eq_some_iff.1 hk).1
 rw [h.1.cellAt k (by omega), List.getElem?_map, hk]; rfl
theorem Own.free {base : Nat} {w : World} {g n c : Nat} {l : List Int} (h : Own base w (.slice (some ⟨g, 0, none⟩) n c) l) (k : Nat) : w.frozen? ⟨g, k, none⟩ = false := by
 obtain ⟨A, c', e, _⟩ := own_form h.1
 injection e with _ e2
 subst e2
 exact h.1.frozenAt k
theorem Own.block {base : Nat} {w : World} {g n c : Nat} {l : List Int} (h : Own base w (.slice (some ⟨g, 0, none⟩) n c) l) : base ≤ g ∧ g < w.heap.size := h.1.lt g rfl
theorem Own.set {base : Nat} {w : World} {g n c : Nat} {l : List Int} (h : Own base w (.slice (some ⟨g, 0, none⟩) n c) l) (k : Nat) {y : Int} (hy : I64 y) :
  Own base (w.setCell ⟨g, k, none⟩ (.int .i64 y)) (.slice (some ⟨g, 0, none⟩) n c) (l.set k y) := by
 obtain ⟨A, c', e, _⟩ := own_form h.1
 injection e with _ e2
 subst e2
 have := (h.1.stored k (.int .i64 y)).1
 refine ⟨by rw [List.length_set, List.map_set]; exact this, fun q hq => ?_⟩
 rcases List.mem_or_eq_of_mem_set hq with hq | hq
 ·exact h.2 q hq
 ·rw [hq]; exact hy
theorem below_set {base : Nat} {a w : World} {g k : Nat} {u : Value} (h : Below base a w) (hg : base ≤ g) : Below base a (w.setCell ⟨g, k, none⟩ u) := h.setCell hg u
theorem zeros_cells (n : Nat) : (madeCells (Value.int .i64 0).cells (n * 1)).toList = (List.replicate n (0 : Int)).map (Value.int .i64) := by
 apply List.ext_getElem?
 intro k
 simp only [madeCells, Value.cells, Array.toList_map, Array.toList_range, List.getElem?_map, List.getElem?_replicate, Nat.mul_one]
 rcases Nat.lt_or_ge k n with h | h
 ·rw [List.getElem?_range h]; simp [h, Nat.mod_one]
 ·rw [List.getElem?_eq_none (by simpa using h)]; simp; omega
theorem mk_int {ops : Array Oper} {rest : List Oper} {o : Oper} {a : Act} {Q : Exit → Act → World → Prop} {w : World} (hg : o.guard = none) (s c : Operand) (hop : o.op = Op.makeSlice 25 s c)
  (base n : Nat) {N : Int} (hs : a.eval s = .int .i64 N) (hc : a.eval c = .int .i64 N) (hN : N = (n : Int)) (hn : n ≤ 100000000) (hb : base ≤ w.heap.size)
  (h : ∀ w', Own base w' (.slice (some ⟨w.heap.size, 0, none⟩) n n) (List.replicate n 0) → Below w.heap.size w w' → wpList Tryd.prog ops Q rest (a.put o.dst (.slice (some ⟨w.heap.size, 0, none⟩) n n)) w') :
  wpList Tryd.prog ops Q (o :: rest) a w := by
 subst hN
 obtain ⟨i0, hi, hz0, hz1, hz2⟩ := info_parts info_int
 refine wpList_make_full w hg s c 25 hop base 3 i0 (.int .i64 0) 1 Tryd.underlying25 hi hz0 hz1 .i64 .i64 n n n hs hc rfl rfl (by rw [hz2]; omega) (by unfold maxLen; omega) hb fun w' h1 h2 => h w' ⟨?_, ?_⟩ ?_
 ·rw [List.length_replicate, ← zeros_cells]; exact h1
 ·intro q hq; rw [List.eq_of_mem_replicate hq]; exact ⟨by decide, by decide⟩
 ·exact (Below.refl _ _).grown h2 (Nat.le_refl _) (by intro k hk; cases hk)
def RetInts (w : World) (l : List Int) (E : Int) (e : Ending) (w' : World) : Prop := ∃ v, e = .returned (.tuple #[v, .int .i64 E]) ∧ Own w.heap.size w' v l ∧ Below w.heap.size w w'
theorem RetInts.mk {w w' : World} {l : List Int} {E : Int} {v : Value} (ho : Own w.heap.size w' v l) (hb : Below w.heap.size w w') : RetInts w l E (.returned (.tuple #[v, .int .i64 E])) w' := ⟨v, rfl, ho, hb⟩
def RetInts1 (w : World) (l : List Int) (e : Ending) (w' : World) : Prop := ∃ v, e = .returned v ∧ Own w.heap.size w' v l ∧ Below w.heap.size w w'
theorem RetInts1.mk {w w' : World} {l : List Int} {v : Value} (ho : Own w.heap.size w' v l) (hb : Below w.heap.size w w') : RetInts1 w l (.returned v) w' := ⟨v, rfl, ho, hb⟩
end Go.Proofs.YtdiflpbioohddaaDoor
end
section
namespace Go.Proofs.YtdiflpbioohddaaDoor
open Go.RowKit
def IntsL (w : World) (A : Option Addr) (ll : List (List Int)) : Prop :=
 ∀ k l, ll[k]? = some l → ∃ ad B c, A = some ad ∧ ad.block < w.heap.size ∧ w.cell? (ad.add k) = some (.slice B l.length c) ∧ Ints w B l
theorem IntsL.nil {w : World} {A : Option Addr} : IntsL w A [] := fun k l h => by simp at h
theorem IntsL.grow {w w' : World} {A : Option Addr} {ll : List (List Int)} (h : IntsL w A ll) (hb : Below w.heap.size w w') : IntsL w' A ll := fun k l hk => by
 obtain ⟨ad, B, c, e, h1, h2, h3⟩ := h k l hk
 exact ⟨ad, B, c, e, Nat.lt_of_lt_of_le h1 hb.size, (hb.cell (by rw [block_add]; exact h1)).trans h2, h3.grow hb⟩
theorem IntsL.at_ {w : World} {A : Option Addr} {ll : List (List Int)} (h : IntsL w A ll) {k : Nat} (hk : k < ll.length) :
  ∃ ad l B c, A = some ad ∧ ad.block < w.heap.size ∧ ll[k]? = some l ∧ w.cell? (ad.add k) = some (.slice B l.length c) ∧ Ints w B l := by
 obtain ⟨ad, B, c, e, h1, h2, h3⟩ := h k ll[k] (List.getElem?_eq_getElem hk)
 exact ⟨ad, ll[k], B, c, e, h1, List.getElem?_eq_getElem hk, h2, h3⟩
theorem own_store {w : World} {base n size g k : Nat} {e : TypeId} {v u : Value} {xs : List Value} (h : w.ownsRow base e size v n xs) (hg : g < base) : (w.setCell ⟨g, k, none⟩ u).ownsRow base e size v n xs := by
 obtain ⟨h1, h2 | ⟨q, cap, cur, hv, hq, hh, r⟩⟩ := h
 ·exact ⟨h1, .inl h2⟩
 ·exact ⟨h1, .inr ⟨q, cap, cur, hv, hq, (Below.heap_setCell w _ u q (by show q ≠ g; omega)).trans hh, r⟩⟩
theorem info_ints : (Tryd.prog.info? 25).map (fun i => (i.zero, i.size, i.bytes)) = some (some (.slice none 0 0), 1, 24) := by kernel_rfl
theorem Own.store {w : World} {base g k : Nat} {v u : Value} {l : List Int} (h : Own base w v l) (hg : g < base) : Own base (w.setCell ⟨g, k, none⟩ u) v l := ⟨own_store h.1 hg, h.2⟩
def OwnL (base : Nat) (w : World) (g m : Nat) (ll : List (List Int)) : Prop :=
 ∃ vs : List Value, w.ownsRow base 25 1 (.slice (some ⟨g, 0, none⟩) m m) m vs ∧ vs.length = ll.length ∧ ll.length = m ∧ base ≤ g ∧ ∀ (k : Nat) v l, vs[k]? = some v → ll[k]? = some l → Own (g + 1) w v l
theorem OwnL.grow {base : Nat} {w w' : World} {g m : Nat} {ll : List (List Int)} (h : OwnL base w g m ll) (hb : Below w.heap.size w w') : OwnL base w' g m ll := by
 obtain ⟨vs, h1, h2, h3, h4, h5⟩ := h
 exact ⟨vs, own_grow h1 hb, h2, h3, h4, fun k v l hv hl => (h5 k v l hv hl).grow hb⟩
theorem OwnL.block {base : Nat} {w : World} {g m : Nat} {ll : List (List Int)} (h : OwnL base w g m ll) : base ≤ g ∧ g < w.heap.size := by
 obtain ⟨vs, h1, _⟩ := h
 exact h1.lt g rfl
theorem OwnL.cell {base : Nat} {w : World} {g m : Nat} {ll : List (List Int)} (h : OwnL base w g m ll) {k : Nat} {l : List Int} (hk : ll[k]? = some l) :
  ∃ B c, w.cell? ⟨g, k, none⟩ = some (.slice B l.length c) ∧ Own (g + 1) w (.slice B l.length c) l := by
 obtain ⟨vs, h1, h2, h3, h4, h5⟩ := h
 have hkl := (List.getElem?_eq_some_iff.1 hk).1
 have hv : vs[k]? = some vs[k] := List.getElem?_eq_getElem (by omega)
 have ho := h5 k _ l hv hk
 obtain ⟨B, c, e, hc, hi⟩ := ho.form
 refine ⟨B, c, ?_, by rw [← e]; exact ho⟩
 rw [h1.cellAt k (by omega), hv, e]
theorem OwnL.free {base : Nat} {w : World} {g m : Nat} {ll : List (List Int)} (h : OwnL base w g m ll) (k : Nat) : w.frozen? ⟨g, k, none⟩ = false := by
 obtain ⟨vs, h1, _⟩ := h
 exact h1.frozenAt k
theorem OwnL.ints {base : Nat} {w : World} {g m : Nat} {ll : List (List Int)} (h : OwnL base w g m ll) : IntsL w (some ⟨g, 0, none⟩) ll := fun k l hk => by
 have hg := h.block
 obtain ⟨B, c, h1, h2⟩ := h.cell hk
 obtain ⟨B', c', e, hc, hi⟩ := h2.form
 injection e with e1 e2 e3
 subst e1
 refine ⟨⟨g, 0, none⟩, B, c, rfl, hg.2, ?_, hi⟩
 have : (⟨g, 0, none⟩ : Addr).add k = ⟨g, k, none⟩ := by
  unfold Addr.add
  by_cases h0 : k = 0 <;> simp [h0]
 rw [this]; exact h1
theorem OwnL.set {base : Nat} {w : World} {g m : Nat} {ll : List (List Int)} (h : OwnL base w g m ll) (k : Nat) {v : Value} {l : List Int} (hv : Own (g + 1) w v l) : OwnL base (w.setCell ⟨g, k, none⟩ v) g m (ll.set k l) := by
 obtain ⟨vs, h1, h2, h3, h4, h5⟩ := h
 refine ⟨vs.set k v, (h1.stored k v).1, by simp [h2], by simp [h3], h4, fun j u q hu hq => ?_⟩
 rw [List.getElem?_set] at hu hq
 by_cases e : k = j
 ·rw [if_pos e] at hu hq
  split at hu
  ·split at hq
   ·injection hu with hu; injection hq with hq; subst hu; subst hq; exact hv.store (by omega)
   ·cases hq
  ·cases hu
 ·rw [if_neg e] at hu hq
  exact (h5 j u q hu hq).store (by omega)
def RetIntsL (w : World) (ll : List (List Int)) (E : Int) (e : Ending) (w' : World) : Prop := ∃ A c, e = .returned (.tuple #[.slice A ll.length c, .int .i64 E]) ∧ IntsL w' A ll ∧ Below w.heap.size w w'
theorem RetIntsL.mk {w w' : World} {ll : List (List Int)} {E : Int} {A : Option Addr} {n c : Nat} (hn : n = ll.length) (ho : IntsL w' A ll) (hb : Below w.heap.size w w') : RetIntsL w ll E (.returned (.tuple #[.slice A n c, .int .i64 E])) w' := by
 subst hn; exact ⟨A, c, rfl, ho, hb⟩
end Go.Proofs.YtdiflpbioohddaaDoor
end
section
set_option maxRecDepth 100000
namespace Go.Proofs.YtdiflpbioohddaaDoor
open Go.Joins Go.ChangeShapes Go.WideShapes Go.RowKit
theorem cell_lt {w : World} {a : Addr} {v : Value} (h : w.cell? a = some v) : a.block < w.heap.size := by
 rcases Nat.lt_or_ge a.block w.heap.size with hl | hl
 ·exact hl
 ·unfold World.cell? at h; rw [Array.getElem?_eq_none hl] at h; cases h
theorem open_Ints {H : Type} {enc : TypeId × Value → H} {w : World} {base : Nat} {spare : Nat → Bool} {held : Bool} {r : Reach} {b0 : Nat} {v : Value} {d : DataW H} {p : List MemPlace}
  (hv : Value.okWide Tryd.prog w r b0 25 v) (h : DataW.Trod enc Tryd.prog w base spare held 25 v d p) :
  ∃ u : Option Addr × Nat × List Int, v = .slice u.1 u.2.2.length u.2.1 ∧ (Ints w u.1 u.2.2 ∧ u.2.2.length ≤ 9223372036854775807) := by
 obtain ⟨A, len, cap, rfl⟩ := okWide_slice Tryd.underlying25 hv
 obtain ⟨fuel, hf⟩ := h
 rcases open_ints Tryd.underlying25 Tryd.underlying3 (by kernel_rfl) hf with ⟨hcs, _⟩ | ⟨x, l, c, zs, hcs, _, hl, hm, hz, _, hcell, hwz⟩
 ·simp [Value.cells] at hcs
  obtain ⟨rfl, rfl, rfl⟩ := hcs
  exact ⟨⟨none, 0, []⟩, rfl, Ints.nil, by simp⟩
 ·simp [Value.cells] at hcs
  obtain ⟨rfl, rfl, rfl⟩ := hcs
  have hlz : len ≤ zs.length := by rw [hz]; split <;> omega
  have hlen : (zs.take len).length = len := by simp; omega
  refine ⟨⟨some x, cap, zs.take len⟩, by rw [hlen], ⟨fun k v hk => ?_, fun y hy => i64_of_wf (hwz y (List.mem_of_mem_take hy))⟩, by rw [hlen]; unfold maxLen at hm; omega⟩
  rw [List.getElem?_map] at hk
  cases hx : (zs.take len)[k]? with
  | none => rw [hx] at hk; cases hk
  | some q =>
   rw [hx] at hk
   simp only [Option.map_some, Option.some.injEq] at hk
   subst hk
   have hkl : k < len := by
    have := (List.getElem?_eq_some_iff.1 hx).1
    omega
   rw [List.getElem?_take_of_lt hkl] at hx
   have hc := hcell k (by omega)
   rw [List.getD_eq_getElem?_getD, hx] at hc
   have hb := cell_lt hc
   rw [block_add] at hb
   exact ⟨x, rfl, hb, hc⟩
end Go.Proofs.YtdiflpbioohddaaDoor
end
section
namespace Go.Proofs.YtdiflpbioohddaaDoor
open Go.RowKit
theorem grown_refl (w : World) (r : Option Nat) : w.grownBy w r := ⟨rfl, rfl, rfl, Nat.le_refl _, fun _ _ _ => rfl⟩
theorem grown_set {a w : World} {g k : Nat} {u : Value} (h : a.grownBy w (some g)) : a.grownBy (w.setCell ⟨g, k, none⟩ u) (some g) :=
 h.trans ⟨rfl, rfl, rfl, by simp [World.setCell], fun i _ hr => Below.heap_setCell w _ u i (by show i ≠ g; intro e; exact hr (by rw [e]))⟩
theorem grown_to {w a w' : World} {g : Nat} (h0 : Below w.heap.size w a) (h : a.grownBy w' (some g)) (hg : w.heap.size ≤ g) : Below w.heap.size w w' :=
 h0.trans ⟨h.os, h.tape, h.output, h.size, fun k hk => h.block k (Nat.lt_of_lt_of_le hk h0.size) (by intro e; injection e with e; omega)⟩
theorem Ints.kept {w w' : World} {A : Option Addr} {l : List Int} {r : Option Nat} (h : Ints w A l) (hg : w.grownBy w' r) (hne : l ≠ [] → ∀ ad, A = some ad → some ad.block ≠ r) : Ints w' A l := by
 refine ⟨fun k v hk => ?_, h.2⟩
 obtain ⟨ad, e, h1, h2⟩ := h.1 k v hk
 exact ⟨ad, e, Nat.lt_of_lt_of_le h1 hg.size, hg.cell h2 (by rw [block_add]; exact hne (by intro hc; rw [hc] at hk; simp at hk) ad e)⟩
theorem Ints.block {w : World} {A : Option Addr} {l : List Int} (h : Ints w A l) (hl : l ≠ []) {ad : Addr} (e : A = some ad) : ad.block < w.heap.size := by
 obtain ⟨ad', x, e', hb, _⟩ := h.at_ (k := 0) (List.length_pos_iff.2 hl)
 rw [e] at e'; injection e' with e'; rw [e']; exact hb
end Go.Proofs.YtdiflpbioohddaaDoor
end
