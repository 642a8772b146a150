/- Several texts in one: Sm La A B G1 Mp Mj Nc Vp K. -/
import Derived.Test.YtdiflpbioohddaaDoorrPltoS
import Derived.Test.YtdiflpbioohddaaDoorRows
import Derived.Deep.RegionHeld3
import Derived.Laws.MakeOwn
set_option linter.unusedVariables false
set_option linter.unusedSimpArgs false
section
namespace Go.Proofs.YtdiflpbioohddaaDoor
open Go.RowKit
def wordsB (b f r o : Int) (l : List Int) : Bool := l.all fun x => fitsW b f r o x
theorem rf_Words (b f r o : Int) (A : Option Addr) (l : List Int) (c : Nat) (w : World) (hl : l.length ≤ 9223372036854775807) (h : Ints w A l) :
    Calls Tryd.prog 15 #[wordV b f r o, .slice A l.length c] w fun e w' => e = .returned (.bool (wordsB b f r o l)) ∧ Below w.heap.size w w' := by
  go_enter Tryd.func15, Tryd.ntmps15
  go_wp2
  go_loopw [5] (fun i wr => ∃ k : Nat, k ≤ l.length ∧ i = .int .i64 k ∧ (l.take k).all (fun x => fitsW b f r o x) = true ∧ Below (w.heap.size + 1) (w.alloc (.cells #[.int .i64 b, .int .i64 f, .int .i64 r, .int .i64 o] 23)) wr) (fun i _ => l.length - (intOf i).toNat)
  case atStart => exact ⟨0, Nat.zero_le _, rfl, rfl, Below.refl _ _⟩
  case round =>
    obtain ⟨k, hk, rfl, hall, hbw⟩ := hrel
    have hz : w.heap.size < wr.heap.size := by have := hbw.size; simp at this; omega
    by_cases hlt : k < l.length
    · obtain ⟨ad, x, rfl, hb, hx, hc, i1, i2⟩ := h.at_ hlt
      have HS := Lib.hid (take_succ_all hx (fun x => fitsW b f r o x))
      have HN := Lib.hid (all_no hx (p := fun x => fitsW b f r o x))
      have HA := Lib.hid hall
      have x0 : ∀ n : Ext wr, n.to.cell? ⟨w.heap.size, 0, none⟩ = some (.int .i64 b) := fun n => (n.cell _ hz).trans ((hbw.cell (Nat.lt_succ_self _)).trans (by simp [go_sem]))
      have x1 : ∀ n : Ext wr, n.to.cell? ⟨w.heap.size, 1, none⟩ = some (.int .i64 f) := fun n => (n.cell _ hz).trans ((hbw.cell (Nat.lt_succ_self _)).trans (by simp [go_sem]))
      have x2 : ∀ n : Ext wr, n.to.cell? ⟨w.heap.size, 2, none⟩ = some (.int .i64 r) := fun n => (n.cell _ hz).trans ((hbw.cell (Nat.lt_succ_self _)).trans (by simp [go_sem]))
      have x3 : ∀ n : Ext wr, n.to.cell? ⟨w.heap.size, 3, none⟩ = some (.int .i64 o) := fun n => (n.cell _ hz).trans ((hbw.cell (Nat.lt_succ_self _)).trans (by simp [go_sem]))
      have xk : ∀ n : Ext wr, n.to.cell? (ad.add k) = some (.int .i64 x) := fun n => (n.cell _ (by rw [block_add]; omega)).trans ((hbw.cell (by rw [block_add]; omega)).trans ((World.cell?_alloc_lt _ _ _ (by rw [block_add]; omega)).trans hc))
      clear hall hx hc h
      rcases Bool.eq_false_or_eq_true (fitsW b f r o x) with hin | hin
      all_goals
        go_wp2_with fail
        refine wp_region_ext (by kernel_rfl) (by kernel_rfl) ?_
        repeat (go_big_quiet_step (first | (go_at_call 33; exact ext_below (rf_Fits _ _ _ _ _ _))))
        refine wpQuiet_nil ?_
        rintro _ ⟨⟨w1, hb1⟩, rfl⟩
        go_wp2
      · go_roundw
        case rel => exact ⟨k + 1, by omega, by go_num, by rw [HS.out, HA.out, hin]; rfl, hbw.trans (hb1.mono (by omega))⟩
        case measure => simp [intOf]; omega
      · go_ret
        exact ⟨ret_bool (HN.out hin).symm, ((Below.refl _ _).alloc (Nat.le_refl _) _).trans ((hbw.trans (hb1.mono (by omega))).mono (by omega))⟩
    · go_wp2
      go_ret
      exact ⟨ret_bool (by rw [List.take_of_length_le (by omega)] at hall; exact hall.symm), ((Below.refl _ _).alloc (Nat.le_refl _) _).trans (hbw.mono (by omega))⟩
theorem rf_SameInts (A B : Option Addr) (l m : List Int) (c d : Nat) (w : World) (hm : m.length ≤ 9223372036854775807) (h : Ints w A l) (g : Ints w B m) :
    Calls Tryd.prog 26 #[.slice A l.length c, .slice B m.length d] w fun e w' => e = .returned (.bool (l == m)) ∧ Below w.heap.size w w' := by
  by_cases hlen : l.length = m.length
  · have hlen' : ((l.length : Int) != (m.length : Int)) = false := by simp [hlen]
    have HL := Lib.hid hlen
    have hle : l.length ≤ m.length := by omega
    clear hlen
    go_enter Tryd.func26, Tryd.ntmps26
    go_wp2
    go_loopw [5] (fun i wr => ∃ k : Nat, k ≤ l.length ∧ i = .int .i64 k ∧ l.take k = m.take k ∧ Below w.heap.size w wr) (fun i _ => l.length - (intOf i).toNat)
    case atStart => exact ⟨0, Nat.zero_le _, rfl, rfl, Below.refl _ _⟩
    case round =>
      obtain ⟨k, hk, rfl, hall, hbw⟩ := hrel
      by_cases hlt : k < l.length
      · obtain ⟨ad, x, rfl, hb, hx, hc, i1, i2⟩ := h.at_ hlt
        obtain ⟨ad2, y, rfl, hb2, hy, hc2, j1, j2⟩ := g.at_ (k := k) (by omega)
        have q1 := (hbw.cell (p := ad.add k) (by rw [block_add]; exact hb)).trans hc
        have q2 := (hbw.cell (p := ad2.add k) (by rw [block_add]; exact hb2)).trans hc2
        have HS := Lib.hid (take_snoc' hx)
        have HT := Lib.hid (take_snoc' hy)
        have HA := Lib.hid hall
        have HX := Lib.hid hx
        have HY := Lib.hid hy
        clear hall hx hy hc hc2 h g
        by_cases hxy : x = y
        · subst hxy
          go_wp2
          go_quiet (fail)
          go_wp2
          go_roundw
          case rel => exact ⟨k + 1, by omega, by go_num, by rw [HS.out, HT.out, HA.out], below_drewN hbw _⟩
          case measure => simp [intOf]; omega
        · have hne : (x != y) = true := by simp [hxy]
          go_wp2
          go_quiet (fail)
          go_wp2
          go_ret
          refine ⟨ret_bool ?_, below_drewN hbw _⟩
          have h1 := HX.out
          have h2 := HY.out
          symm
          rw [beq_eq_false_iff_ne]
          intro e
          rw [e, h2] at h1
          exact hxy (Option.some.inj h1).symm
      · go_wp2
        go_ret
        refine ⟨ret_bool ?_, hbw⟩
        have h1 := HL.out
        rw [List.take_of_length_le (by omega), List.take_of_length_le (by omega)] at hall
        rw [hall]; simp
  · have hlen' : ((l.length : Int) != (m.length : Int)) = true := by simp; omega
    have hne : (l == m) = false := by simp; intro e; rw [e] at hlen; exact hlen rfl
    have HE := Lib.hid hne
    clear hlen hne
    go_enter Tryd.func26, Tryd.ntmps26
    go_wp2
    go_ret
    exact ⟨ret_bool HE.out.symm, Below.refl _ _⟩
def atF (l : List Int) (i : Int) : Int := if 0 ≤ i then l[i.toNat]?.getD 0 else 0
theorem atF_nat {l : List Int} {k : Nat} {x : Int} (h : l[k]? = some x) : atF l (k : Int) = x := by
  unfold atF; rw [if_pos (by omega), Int.toNat_natCast, h]; rfl
theorem atF_no {l : List Int} {i : Int} (h : i < 0 ∨ (l.length : Int) ≤ i) : atF l i = 0 := by
  unfold atF
  split
  · rw [List.getElem?_eq_none (by omega)]; rfl
  · rfl
theorem wd_At (A : Option Addr) (l : List Int) (c : Nat) (i : Int) (w : World) (h : Ints w A l) :
    Calls Tryd.prog 24 #[.slice A l.length c, .int .i64 i] w fun e w' => e = .returned (.int .i64 (atF l i)) ∧ w = w' := by
  by_cases h1 : 0 ≤ i ∧ i < l.length
  · obtain ⟨k, rfl⟩ := Int.eq_ofNat_of_zero_le h1.1
    have h2 : k < l.length := by omega
    obtain ⟨ad, x, rfl, hb, hx, hc, i1, i2⟩ := h.at_ h2
    have HX := Lib.hid (atF_nat hx)
    clear hx h h1
    go_enter Tryd.func24, Tryd.ntmps24
    go_wp2
    go_ret
    exact ⟨ret_int HX.out.symm, rfl⟩
  · have HX := Lib.hid (atF_no (l := l) (i := i) (by omega))
    have h2 : 0 ≤ i → (l.length : Int) ≤ i := by omega
    clear h1
    go_enter Tryd.func24, Tryd.ntmps24
    go_wp2
    all_goals go_ret
    all_goals exact ⟨ret_int HX.out.symm, rfl⟩
end Go.Proofs.YtdiflpbioohddaaDoor
end
section
namespace Go.Proofs.YtdiflpbioohddaaDoor
open Go.RowKit
theorem wd_Within (v m : Int) (w : World) (hm : m ≤ 9223372036854775807) : Calls Tryd.prog 23 #[.int .i64 v, .int .i64 m] w fun e w' => e = .returned (.int .i64 (withinF v m)) ∧ w = w' := by
  by_cases h : 1 ≤ m
  · obtain ⟨T, e1, a1, f1, f2⟩ := within_facts h v
    have F1 := Lib.hid f1
    have F2 := Lib.hid f2
    clear f1 f2
    go_enter Tryd.func23, Tryd.ntmps23
    go_wp2
    all_goals go_ret
    · exact ⟨ret_int (F1.out (by omega)).symm, rfl⟩
    · exact ⟨ret_int (F2.out (by omega)).symm, rfl⟩
  · have E : Hid (withinF v m = 0) := by unfold withinF; rw [if_pos (by omega)]; exact rfl
    go_enter Tryd.func23, Tryd.ntmps23
    go_wp2
    go_ret
    exact ⟨ret_int E.out.symm, rfl⟩
end Go.Proofs.YtdiflpbioohddaaDoor
end
section
namespace Go.Proofs.YtdiflpbioohddaaDoor
open Go.RowKit
theorem wpList_app1 {P : Program} {ops : Array Oper} {rest : List Oper} {o : Oper} {a : Act} {Q : Exit → Act → World → Prop} (W : World) (hgd : o.guard = none) (s x : Operand) (t : TypeId)
    (ho : o.op = .call { callee := .builtin .append, args := #[s, x], argTypes := #[t, t] })
    (base : Nat) (e : TypeId) (i : TypeInfo) (z : Value) (bytes : Nat) (ht : P.underlying t = some (.slice e)) (hi : P.info? e = some i) (hz : i.zero = some z)
    (hsize : i.size = 1) (hby : i.bytes = bytes) (hzs : z.cells.size = 1) (hbl : bytes ≤ 1000000)
    {v u : Value} {n : Nat} {xs : List Value} (hown : W.ownsRow base e 1 v n xs) (hs : a.eval s = v)
    (hx : a.eval x = .slice (some ⟨W.heap.size, 0, none⟩) 1 1) (h1 : u.oneCell' = true) (hn : n < 100000000) (hbase : base ≤ W.heap.size)
    (h : ∀ v' w', w'.ownsRow base e 1 v' (n + 1) (xs ++ [u]) → Below base W w' → wpList P ops Q rest (a.put o.dst v') w') :
    wpList P ops Q (o :: rest) a (W.alloc (.cells #[u] e)) := by
  refine wpList_append_own _ hgd s x t ho base e i z 1 bytes ht hi hz hsize hby hzs (by decide) v n xs hs (hown.alloc _) ⟨W.heap.size, 0, none⟩ 1 1 [u] hx rfl ?_ ?_ ?_ ?_ ?_ ?_
  · intro j q hj
    match j, hj with
    | 0, hj => simp at hj; subst hj; simp [Addr.add]
  · intro q hq; simp at hq; subst hq; exact h1
  · unfold maxLen; omega
  · have : (n + 1) * bytes ≤ 100000000 * 1000000 := Nat.mul_le_mul (by omega) hbl
    omega
  · simp; omega
  · intro v' w' ho' hg' _
    refine h v' w' ho' ?_
    have hb := (Below.refl base W).alloc hbase (.cells #[u] e)
    exact hb.grown hg' (by simp; omega) (fun k hk => (hown.lt k hk).1)
theorem step_app1 {P : Program} {ops : Array Oper} {o : Oper} {a : Act} {K : Act → World → Prop} {Q : Exit → Act → World → Prop} {E : Prop} (W : World) (hgd : o.guard = none) (s x : Operand) (t : TypeId)
    (ho : o.op = .call { callee := .builtin .append, args := #[s, x], argTypes := #[t, t] })
    (base : Nat) (e : TypeId) (i : TypeInfo) (z : Value) (bytes : Nat) (ht : P.underlying t = some (.slice e)) (hi : P.info? e = some i) (hz : i.zero = some z)
    (hsize : i.size = 1) (hby : i.bytes = bytes) (hzs : z.cells.size = 1) (hbl : bytes ≤ 1000000)
    {v u : Value} {n : Nat} {xs : List Value} (hown : W.ownsRow base e 1 v n xs) (hs : a.eval s = v)
    (hx : a.eval x = .slice (some ⟨W.heap.size, 0, none⟩) 1 1) (h1 : u.oneCell' = true) (hn : n < 100000000) (hbase : base ≤ W.heap.size)
    (h : ∀ v' w', w'.ownsRow base e 1 v' (n + 1) (xs ++ [u]) → Below base W w' → K (a.put o.dst v') w') :
    if Region.wanted o (yielded ops a.tmps) = true then Oper.wp P o a (W.alloc (.cells #[u] e)) K Q else E := by
  have hw : Region.wanted o (yielded ops a.tmps) = true := by simp [Region.wanted, hgd]
  rw [if_pos hw]
  refine wp_append_own _ s x t ho base e i z 1 bytes ht hi hz hsize hby hzs (by decide) v n xs hs (hown.alloc _) ⟨W.heap.size, 0, none⟩ 1 1 [u] hx rfl ?_ ?_ ?_ ?_ ?_ ?_
  · intro j q hj
    match j, hj with
    | 0, hj => simp at hj; subst hj; simp [Addr.add]
  · intro q hq; simp at hq; subst hq; exact h1
  · unfold maxLen; omega
  · have : (n + 1) * bytes ≤ 100000000 * 1000000 := Nat.mul_le_mul (by omega) hbl
    omega
  · simp; omega
  · intro v' w' ho' hg' _
    refine h v' w' ho' ?_
    have hb := (Below.refl base W).alloc hbase (.cells #[u] e)
    exact hb.grown hg' (by simp; omega) (fun k hk => (hown.lt k hk).1)
theorem own_grow {w w' : World} {base n size : Nat} {e : TypeId} {v : Value} {xs : List Value} (h : w.ownsRow base e size v n xs) (hb : Below w.heap.size w w') : w'.ownsRow base e size v n xs := by
  obtain ⟨h1, h2 | ⟨g, cap, cur, hv, hg, hh, r⟩⟩ := h
  · exact ⟨h1, .inl h2⟩
  · have hlt : g < w.heap.size := by
      rcases Nat.lt_or_ge g w.heap.size with h | h
      · exact h
      · rw [Array.getElem?_eq_none h] at hh; cases hh
    exact ⟨h1, .inr ⟨g, cap, cur, hv, hg, (hb.block g hlt).trans hh, r⟩⟩
theorem own_base {w : World} {base base' n size : Nat} {e : TypeId} {v : Value} {xs : List Value} (h : w.ownsRow base e size v n xs) (hb : base' ≤ base) : w.ownsRow base' e size v n xs := by
  obtain ⟨h1, h2 | ⟨g, cap, cur, hv, hg, r⟩⟩ := h
  · exact ⟨h1, .inl h2⟩
  · exact ⟨h1, .inr ⟨g, cap, cur, hv, by omega, r⟩⟩
theorem info_int : (Tryd.prog.info? 3).map (fun i => (i.zero, i.size, i.bytes)) = some (some (.int .i64 0), 1, 8) := by kernel_rfl
def Own (base : Nat) (w : World) (v : Value) (l : List Int) : Prop := w.ownsRow base 3 1 v l.length (l.map (Value.int .i64)) ∧ ∀ x ∈ l, I64 x
theorem Own.nil {base : Nat} {w : World} : Own base w (.slice none 0 0) [] := ⟨World.ownsRow_nil _ _ _ _, by simp⟩
theorem Own.form {base : Nat} {w : World} {v : Value} {l : List Int} (h : Own base w v l) : ∃ A c, v = .slice A l.length c ∧ l.length ≤ c ∧ Ints w A l := by
  obtain ⟨A, c, rfl, hc⟩ := own_form h.1
  exact ⟨A, c, rfl, hc, Row.of_own h.1, h.2⟩
theorem Own.grow {base : Nat} {w w' : World} {v : Value} {l : List Int} (h : Own base w v l) (hb : Below w.heap.size w w') : Own base w' v l := ⟨own_grow h.1 hb, h.2⟩
theorem Own.base {base base' : Nat} {w : World} {v : Value} {l : List Int} (h : Own base w v l) (hb : base' ≤ base) : Own base' w v l := ⟨own_base h.1 hb, h.2⟩
theorem step_app_int {ops : Array Oper} {o : Oper} {a : Act} {K : Act → World → Prop} {Q : Exit → Act → World → Prop} {E : Prop} (W : World) {W1 : World} (hgd : o.guard = none) (s x : Operand)
    (ho : o.op = .call { callee := .builtin .append, args := #[s, x], argTypes := #[25, 25] }) (base : Nat) {v : Value} {l : List Int} {y : Int} (hown : Own base W v l) (hW : W1 = W.alloc (.cells #[.int .i64 y] 3)) (hs : a.eval s = v)
    (hx : a.eval x = .slice (some ⟨W.heap.size, 0, none⟩) 1 1) (hn : l.length < 100000000) (hbase : base ≤ W.heap.size) (hy : I64 y)
    (h : ∀ v' w', Own base w' v' (l ++ [y]) → Below base W w' → K (a.put o.dst v') w') :
    if Region.wanted o (yielded ops a.tmps) = true then Oper.wp Tryd.prog o a W1 K Q else E := by
  subst hW
  obtain ⟨i0, hi, hz0, hz1, hz2⟩ := info_parts info_int
  refine step_app1 W hgd s x 25 ho base 3 i0 (.int .i64 0) 8 Tryd.underlying25 hi hz0 hz1 hz2 rfl (by decide) hown.1 hs hx rfl hn hbase fun v' w' h1 h2 => h v' w' ⟨?_, ?_⟩ h2
  · simpa using h1
  · intro q hq
    rcases List.mem_append.1 hq with hq | hq
    · exact hown.2 q hq
    · simp at hq; subst hq; exact hy
theorem app_int {ops : Array Oper} {rest : List Oper} {o : Oper} {a : Act} {Q : Exit → Act → World → Prop} (W : World) (hgd : o.guard = none) (s x : Operand)
    (ho : o.op = .call { callee := .builtin .append, args := #[s, x], argTypes := #[25, 25] }) (base : Nat) {v : Value} {l : List Int} {y : Int} (hown : Own base W v l) (hs : a.eval s = v)
    (hx : a.eval x = .slice (some ⟨W.heap.size, 0, none⟩) 1 1) (hn : l.length < 100000000) (hbase : base ≤ W.heap.size) (hy : I64 y)
    (h : ∀ v' w', Own base w' v' (l ++ [y]) → Below base W w' → wpList Tryd.prog ops Q rest (a.put o.dst v') w') :
    wpList Tryd.prog ops Q (o :: rest) a (W.alloc (.cells #[.int .i64 y] 3)) := by
  obtain ⟨i0, hi, hz0, hz1, hz2⟩ := info_parts info_int
  refine wpList_app1 W hgd s x 25 ho base 3 i0 (.int .i64 0) 8 Tryd.underlying25 hi hz0 hz1 hz2 rfl (by decide) hown.1 hs hx rfl hn hbase fun v' w' h1 h2 => h v' w' ⟨?_, ?_⟩ h2
  · simpa using h1
  · intro q hq
    rcases List.mem_append.1 hq with hq | hq
    · exact hown.2 q hq
    · simp at hq; subst hq; exact hy
theorem box4_S {w w' : World} {x0 x1 x2 x3 : Value} {t : TypeId} (h : Below (w.heap.size + 1) (w.alloc (.cells #[x0, x1, x2, x3] t)) w') :
    w'.cell? ⟨w.heap.size, 0, none⟩ = some x0 ∧ w'.cell? ⟨w.heap.size, 1, none⟩ = some x1 ∧ w'.cell? ⟨w.heap.size, 2, none⟩ = some x2 ∧ w'.cell? ⟨w.heap.size, 3, none⟩ = some x3 := by
  refine ⟨?_, ?_, ?_, ?_⟩ <;> exact (h.cell (Nat.lt_succ_self _)).trans (by simp [go_sem])
theorem below_box {w w' : World} {o : Obj} (h : Below (w.heap.size + 1) (w.alloc o) w') : Below w.heap.size w w' := ((Below.refl _ _).alloc (Nat.le_refl _) _).trans (h.mono (by omega))
end Go.Proofs.YtdiflpbioohddaaDoor
end
section
namespace Go.Proofs.YtdiflpbioohddaaDoor
open Go.RowKit
def belowF (bound : Int) (l : List Int) (count : Nat) : List Int := (List.range count).map fun (i : Nat) => withinF (wrap64 (atF l i + bound)) (2 * bound + 1) - bound
theorem belowF_succ (bound : Int) (l : List Int) (k : Nat) : belowF bound l (k + 1) = belowF bound l k ++ [withinF (wrap64 (atF l k + bound)) (2 * bound + 1) - bound] := by
  simp [belowF, List.range_succ]
theorem belowF_length (bound : Int) (l : List Int) (k : Nat) : (belowF bound l k).length = k := by simp [belowF]
theorem wd_Below (bound : Int) (A : Option Addr) (l : List Int) (c : Nat) (n : Nat) (w : World) (hb0 : 0 ≤ bound) (hb1 : bound ≤ 1048576) (hn : n ≤ 1000000) (h : Ints w A l) :
    Calls Tryd.prog 45 #[.int .i64 bound, .slice A l.length c, .int .i64 n] w fun e w' => ∃ v, e = .returned v ∧ Own w.heap.size w' v (belowF bound l n) ∧ Below w.heap.size w w' := by
  go_enter Tryd.func45, Tryd.ntmps45
  go_wp2
  go_loopw [7, 8] (fun v i wr => ∃ k : Nat, k ≤ n ∧ i = .int .i64 k ∧ Own w.heap.size wr v (belowF bound l k) ∧ Below w.heap.size w wr) (fun _ i _ => n - (intOf i).toNat)
  case atStart => exact ⟨0, Nat.zero_le _, rfl, Own.nil, Below.refl _ _⟩
  case round =>
    obtain ⟨k, hk, rfl, hown, hbw⟩ := hrel
    by_cases hlt : k < n
    · have HS := Lib.hid (belowF_succ bound l k)
      have hlen := belowF_length bound l k
      obtain ⟨g1, g2⟩ := within_in (m := 2 * bound + 1) (by omega) (wrap64 (atF l k + bound))
      obtain ⟨y, hy⟩ : ∃ y, withinF (wrap64 (atF l k + bound)) (2 * bound + 1) = y := ⟨_, rfl⟩
      have HY := Lib.hid hy
      rw [hy] at g1 g2
      have hlen' : (belowF bound l k).length < 100000000 := by omega
      have hI : I64 (y - bound) := ⟨by omega, by omega⟩
      clear hlen
      go_wp2_with (first
        | (go_at_call 24; refine (wd_At _ _ _ _ _ (h.grow hbw)).mono ?_; rintro e w' ⟨rfl, rfl⟩)
        | (go_at_call 23; refine (wd_Within _ _ _ (by omega)).mono ?_; rintro e w' ⟨rfl, rfl⟩)
        | (at_builtin; refine app_int wr rfl _ _ rfl w.heap.size hown rfl rfl hlen' hbw.size hI ?_; intro v1 w1 hown1 hbel1))
      go_roundw
      case rel => exact ⟨k + 1, by omega, by go_num, by rw [HS.out, HY.out]; exact hown1, hbw.trans hbel1⟩
      case measure => simp [intOf]; omega
    · go_wp2
      go_ret
      obtain rfl : k = n := by omega
      exact ⟨_, rfl, hown, hbw⟩
def wordF (b f r o : Int) (x : Int) : Int := lowW b f r o + withinF (wrap64 (x - lowW b f r o)) (highW b f r o - lowW b f r o + 1)
def wordsF (b f r o : Int) (l : List Int) (count : Nat) : List Int := (List.range count).map fun (i : Nat) => wordF b f r o (atF l i)
theorem wordsF_succ (b f r o : Int) (l : List Int) (k : Nat) : wordsF b f r o l (k + 1) = wordsF b f r o l k ++ [wordF b f r o (atF l k)] := by
  simp [wordsF, List.range_succ]
theorem wordsF_length (b f r o : Int) (l : List Int) (k : Nat) : (wordsF b f r o l k).length = k := by simp [wordsF]
theorem wd_Words (b f r o : Int) (A : Option Addr) (l : List Int) (c : Nat) (n : Nat) (w : World) (hn : n ≤ 1000000) (h : Ints w A l) :
    Calls Tryd.prog 19 #[wordV b f r o, .slice A l.length c, .int .i64 n] w fun e w' => ∃ v, e = .returned v ∧ Own w.heap.size w' v (wordsF b f r o l n) ∧ Below w.heap.size w w' := by
  go_enter Tryd.func19, Tryd.ntmps19
  go_wp2
  go_loopw [7, 8] (fun v i wr => ∃ k : Nat, k ≤ n ∧ i = .int .i64 k ∧ Own (w.heap.size + 1) wr v (wordsF b f r o l k) ∧ Below (w.heap.size + 1) (w.alloc (.cells #[.int .i64 b, .int .i64 f, .int .i64 r, .int .i64 o] 23)) wr) (fun _ i _ => n - (intOf i).toNat)
  case atStart => exact ⟨0, Nat.zero_le _, rfl, Own.nil, Below.refl _ _⟩
  case round =>
    obtain ⟨k, hk, rfl, hown, hbw⟩ := hrel
    by_cases hlt : k < n
    · have HS := Lib.hid (wordsF_succ b f r o l k)
      have hlen' : (wordsF b f r o l k).length < 100000000 := by rw [wordsF_length]; omega
      obtain ⟨L, hL⟩ : ∃ L, lowW b f r o = L := ⟨_, rfl⟩
      obtain ⟨H, hH⟩ : ∃ H, highW b f r o = H := ⟨_, rfl⟩
      obtain ⟨q1, q2, q3, q4⟩ := low_high b f r o
      rw [hL] at q1 q2
      rw [hH] at q3 q4
      obtain ⟨g1, g2⟩ := within_in (m := H - L + 1) (by omega) (wrap64 (atF l k - L))
      obtain ⟨y, hy⟩ : ∃ y, withinF (wrap64 (atF l k - L)) (H - L + 1) = y := ⟨_, rfl⟩
      have HY : Hid (wordF b f r o (atF l k) = L + y) := by unfold wordF; rw [hL, hH, hy]; exact rfl
      rw [hy] at g1 g2
      have hI : I64 (L + y) := ⟨by omega, by omega⟩
      have hsz : w.heap.size + 1 ≤ wr.drew.heap.size := by have := hbw.size; simp at this; show _ ≤ wr.heap.size; omega
      have hbw2 := hbw.drew
      have hown2 : Own (w.heap.size + 1) wr.drew _ _ := hown
      have hm : H - L + 1 ≤ 9223372036854775807 := by omega
      obtain ⟨X, hX⟩ : ∃ X, IntKind.i64.wrap (atF l k - L) = X := ⟨_, rfl⟩
      have hy2 : withinF X (H - L + 1) = y := by rw [← hX, IntKind.wrap_i64]; unfold wrap64 at hy; exact hy
      have e1 : IntKind.i64.wrap (H - L) = H - L := IntWalk.i64_in _ (by omega)
      have e2 : IntKind.i64.wrap (H - L + 1) = H - L + 1 := IntWalk.i64_in _ (by omega)
      have e3 : IntKind.i64.wrap (L + y) = L + y := IntWalk.i64_in _ (by omega)
      clear hown hbw hy
      go_wp2_with fail
      go_region_held3 (fun w' => (w'.cell? ⟨w.heap.size, 0, none⟩ = some (.int .i64 b) ∧ w'.cell? ⟨w.heap.size, 1, none⟩ = some (.int .i64 f) ∧ w'.cell? ⟨w.heap.size, 2, none⟩ = some (.int .i64 r) ∧ w'.cell? ⟨w.heap.size, 3, none⟩ = some (.int .i64 o)))
        (first | exact box4_S (by assumption) | exact box4_S (hbw2.alloc hsz _))
        (first
          | (go_at_call 50; refine (rf_Low _ _ _ _ _).mono ?_; rintro e w1 ⟨rfl, hb1⟩; have hown2 := hown2.grow hb1; have hbw2 := hbw2.trans (hb1.mono hsz); have hsz := Nat.le_trans hsz hb1.size)
          | (go_at_call 51; refine (rf_High _ _ _ _ _).mono ?_; rintro e w1 ⟨rfl, hb1⟩; have hown2 := hown2.grow hb1; have hbw2 := hbw2.trans (hb1.mono hsz); have hsz := Nat.le_trans hsz hb1.size)
          | (go_at_call 24; refine (wd_At _ _ _ _ _ (h.grow (below_box hbw2))).mono ?_; rintro e w1 ⟨rfl, rfl⟩)
          | (go_at_call 23; refine (wd_Within _ _ _ hm).mono ?_; rintro e w1 ⟨rfl, rfl⟩)
          | ((with_reducible refine step_app_int _ rfl (.tmp 14) (.tmp 31) rfl (w.heap.size + 1) hown2 ?_ ?_ ?_ hlen' hsz hI ?_); (exact rfl); (exact rfl); (exact rfl); intro v1 w1 hown3 hbel1; have hbw2 := hbw2.trans hbel1))
      clear e1 e2 e3 hX hy2
      go_wp2
      go_roundw
      case rel => exact ⟨k + 1, by omega, by go_num, by rw [HS.out, HY.out]; exact hown3, hbw2⟩
      case measure => simp [intOf]; omega
    · go_wp2
      go_ret
      obtain rfl : k = n := by omega
      exact ⟨_, rfl, hown.base (by omega), below_box hbw⟩
end Go.Proofs.YtdiflpbioohddaaDoor
end
section
namespace Go.Proofs.YtdiflpbioohddaaDoor
theorem pigeon : ∀ (S k : Nat) (f : Nat → Nat), (∀ i, i ≤ k → f i < S) → (∀ i j, i ≤ k → j ≤ k → f i = f j → i = j) → k < S
  | 0, _, _, h, _ => absurd (h 0 (Nat.zero_le _)) (Nat.not_lt_zero _)
  | S + 1, 0, _, _, _ => Nat.succ_pos _
  | S + 1, k + 1, f, h, inj => by
    have key : k < S := by
      refine pigeon S k (fun i => if f i = S then f (k + 1) else f i) ?_ ?_
      · intro i hi
        show (if f i = S then f (k + 1) else f i) < S
        split
        · rename_i hs
          have h1 := h (k + 1) (Nat.le_refl _)
          have h2 : f (k + 1) ≠ S := fun e => by have := inj i (k + 1) (by omega) (Nat.le_refl _) (hs.trans e.symm); omega
          omega
        · have := h i (by omega); omega
      · intro i j hi hj
        show (if f i = S then f (k + 1) else f i) = (if f j = S then f (k + 1) else f j) → i = j
        split <;> split
        · rename_i h1 h2
          exact fun _ => inj i j (by omega) (by omega) (h1.trans h2.symm)
        · intro e
          have := inj (k + 1) j (Nat.le_refl _) (by omega) e
          omega
        · intro e
          have := inj i (k + 1) (by omega) (Nat.le_refl _) e
          omega
        · exact fun e => inj i j (by omega) (by omega) e
    omega
def foll (nx : List Int) (a : Nat) : Option Nat := nx.findIdx? (fun v => v == (a : Int) + 1)
theorem foll_some {nx : List Int} {a b : Nat} (h : foll nx a = some b) : nx[b]? = some ((a : Int) + 1) ∧ ∀ j, j < b → nx[j]? ≠ some ((a : Int) + 1) := by
  unfold foll at h
  obtain ⟨hb, h1, h2⟩ := List.findIdx?_eq_some_iff_getElem.1 h
  refine ⟨by rw [List.getElem?_eq_getElem hb]; simpa using h1, fun j hj e => ?_⟩
  have hjl : j < nx.length := by omega
  have := h2 j hj
  rw [List.getElem?_eq_getElem hjl] at e
  injection e with e
  simp [e] at this
theorem foll_lt {nx : List Int} {a b : Nat} (h : foll nx a = some b) : b < nx.length := (List.getElem?_eq_some_iff.1 (foll_some h).1).1
theorem foll_inj {nx : List Int} {a a' b : Nat} (h : foll nx a = some b) (h' : foll nx a' = some b) : a = a' := by
  have h1 := (foll_some h).1
  rw [(foll_some h').1] at h1
  injection h1 with h1
  omega
def ledP (nx : List Int) (s : Nat) : Prop := ∃ a, a < nx.length ∧ foll nx a = some s
def itF (nx : List Int) (s : Nat) : Nat → Option Nat
  | 0 => some s
  | k + 1 => (itF nx s k).bind (foll nx)
theorem it_lt {nx : List Int} {s : Nat} (hs : s < nx.length) : ∀ k x, itF nx s k = some x → x < nx.length
  | 0, x, h => by injection h with h; omega
  | k + 1, x, h => by
    obtain ⟨y, _, h2⟩ := Option.bind_eq_some_iff.1 h
    exact foll_lt h2
theorem it_down {nx : List Int} {s k : Nat} {x : Nat} (h : itF nx s (k + 1) = some x) : ∃ y, itF nx s k = some y ∧ foll nx y = some x := by
  obtain ⟨y, h1, h2⟩ := Option.bind_eq_some_iff.1 h
  exact ⟨y, h1, h2⟩
theorem it_some {nx : List Int} {s : Nat} : ∀ {k j x}, itF nx s k = some x → j ≤ k → ∃ y, itF nx s j = some y
  | 0, j, x, h, hj => ⟨x, by rw [show j = 0 by omega]; exact h⟩
  | k + 1, j, x, h, hj => by
    rcases Nat.lt_or_ge k j with h1 | h1
    · exact ⟨x, by rw [show j = k + 1 by omega]; exact h⟩
    · obtain ⟨y, h2, _⟩ := it_down h
      exact it_some h2 h1
theorem it_ne {nx : List Int} {s : Nat} (hs : s < nx.length) (hl : ¬ ledP nx s) : ∀ i d x, itF nx s i = some x → itF nx s (i + d + 1) ≠ some x
  | 0, d, x, h, h2 => by
    injection h with h
    subst h
    obtain ⟨y, h3, h4⟩ := it_down (k := 0 + d) h2
    exact hl ⟨y, it_lt hs _ _ h3, h4⟩
  | i + 1, d, x, h, h2 => by
    obtain ⟨y, h3, h4⟩ := it_down h
    rw [show i + 1 + d + 1 = (i + d + 1) + 1 by omega] at h2
    obtain ⟨z, h5, h6⟩ := it_down h2
    have e := foll_inj h4 h6
    subst e
    exact it_ne hs hl i d y h3 h5
theorem it_short {nx : List Int} {s : Nat} (hs : s < nx.length) (hl : ¬ ledP nx s) {k x : Nat} (h : itF nx s k = some x) : k < nx.length := by
  refine pigeon nx.length k (fun i => (itF nx s i).getD 0) ?_ ?_
  · intro i hi
    obtain ⟨y, hy⟩ := it_some h hi
    simp only [hy, Option.getD_some]
    exact it_lt hs i y hy
  · have main : ∀ i j, i < j → j ≤ k → (itF nx s i).getD 0 ≠ (itF nx s j).getD 0 := by
      intro i j hij hj e
      obtain ⟨y, hy⟩ := it_some h (show i ≤ k by omega)
      obtain ⟨z, hz⟩ := it_some h hj
      rw [hy, hz] at e
      simp at e
      subst e
      exact it_ne hs hl i (j - i - 1) y hy (by rw [show i + (j - i - 1) + 1 = j by omega]; exact hz)
    intro i j hi hj e
    rcases Nat.lt_trichotomy i j with h1 | h1 | h1
    · exact absurd e (main i j h1 hj)
    · exact h1
    · exact absurd e.symm (main j i h1 hi)
def preF (nx : List Int) (s : Nat) : Nat → List Int
  | 0 => []
  | k + 1 => preF nx s k ++ (match itF nx s k with | some x => [(x : Int)] | none => [])
def lineF (nx : List Int) (s : Nat) : List Int := preF nx s nx.length
theorem pre_some {nx : List Int} {s k x : Nat} (h : itF nx s k = some x) : preF nx s (k + 1) = preF nx s k ++ [(x : Int)] := by
  show preF nx s k ++ (match itF nx s k with | some x => [(x : Int)] | none => []) = _
  rw [h]
theorem it_none {nx : List Int} {s k : Nat} (h : itF nx s k = none) : ∀ d, itF nx s (k + d) = none
  | 0 => h
  | d + 1 => by
    show (itF nx s (k + d)).bind (foll nx) = none
    rw [it_none h d]; rfl
theorem pre_end {nx : List Int} {s k : Nat} (h : itF nx s k = none) : ∀ d, preF nx s (k + d) = preF nx s k
  | 0 => rfl
  | d + 1 => by
    show preF nx s (k + d) ++ (match itF nx s (k + d) with | some x => [(x : Int)] | none => []) = _
    rw [it_none h d, pre_end h d]
    simp
theorem pre_line {nx : List Int} {s k : Nat} (h : itF nx s k = none) (hk : k ≤ nx.length) : preF nx s k = lineF nx s := by
  unfold lineF
  have := pre_end h (nx.length - k)
  rw [show k + (nx.length - k) = nx.length by omega] at this
  exact this.symm
theorem pre_length {nx : List Int} {s : Nat} : ∀ {k x}, itF nx s k = some x → (preF nx s (k + 1)).length = k + 1
  | 0, x, h => by rw [pre_some h]; simp [preF]
  | k + 1, x, h => by
    obtain ⟨y, h1, _⟩ := it_down h
    rw [pre_some h, List.length_append, pre_length h1]; rfl
end Go.Proofs.YtdiflpbioohddaaDoor
end
section
namespace Go.Proofs.YtdiflpbioohddaaDoor
open Go.RowKit
def cnt (n fr m : Nat) : Nat := (n - fr + m - 1) / m
end Go.Proofs.YtdiflpbioohddaaDoor
end
section
namespace Go.Proofs.YtdiflpbioohddaaDoor
open Go.RowKit
def el (l : List Int) (k : Nat) : Int := l[k]?.getD 0
end Go.Proofs.YtdiflpbioohddaaDoor
end
section
namespace Go.Proofs.YtdiflpbioohddaaDoor
open Go.RowKit
theorem wrap_in {b v : Int} (h1 : 1 ≤ b) (h2 : b ≤ 62) : -2 ^ (b - 1).toNat ≤ wrapF b v ∧ wrapF b v ≤ 2 ^ (b - 1).toNat - 1 := by
  unfold wrapF
  rw [if_pos (inB_iff.2 ⟨h1, h2⟩)]
  have e : b.toNat = (b - 1).toNat + 1 := by omega
  have hp := pow_pos' (b - 1).toNat
  have e2 : (2 : Nat) ^ b.toNat = 2 * 2 ^ (b - 1).toNat := by rw [e, Nat.pow_succ, Nat.mul_comm]
  have c : ((2 ^ (b - 1).toNat : Nat) : Int) = (2 : Int) ^ (b - 1).toNat := by push_cast; rfl
  have h3 := @Int.le_bmod v (2 ^ b.toNat) (by rw [e2]; have := Nat.two_pow_pos (b - 1).toNat; omega)
  have h4 := @Int.bmod_le v (2 ^ b.toNat) (by rw [e2]; have := Nat.two_pow_pos (b - 1).toNat; omega)
  rw [e2] at h3 h4
  rw [e2]
  rw [← c] at hp ⊢
  generalize (2 ^ (b - 1).toNat : Nat) = P at *
  generalize v.bmod (2 * P) = q at *
  omega
theorem reduce_in (b f r o v : Int) : lowW b f r o ≤ reduceW b f r o v ∧ reduceW b f r o v ≤ highW b f r o := by
  unfold reduceW
  by_cases h : okW b f r o = true
  · rw [if_pos h]
    have hlh := low_high b f r o
    obtain ⟨h1, h2, _⟩ := okW_iff.1 h
    by_cases ho : o = 2
    · rw [if_pos ho]
      have := wrap_in (b := b) (v := v) (by omega) (by omega)
      unfold lowW highW
      rw [if_pos h, if_pos h]
      exact this
    · rw [if_neg ho]
      unfold satW
      omega
  · rw [if_neg h]
    unfold lowW highW
    rw [if_neg h, if_neg h]; omega
theorem fits_iff {b f r o v : Int} : fitsW b f r o v = true ↔ okW b f r o = true ∧ lowW b f r o ≤ v ∧ v ≤ highW b f r o := by
  unfold fitsW; rw [Bool.and_eq_true, inB_iff]
theorem fits_reduce {b f r o : Int} (h : okW b f r o = true) (v : Int) : fitsW b f r o (reduceW b f r o v) = true := fits_iff.2 ⟨h, reduce_in b f r o v⟩
end Go.Proofs.YtdiflpbioohddaaDoor
end
section
namespace Go.Proofs.YtdiflpbioohddaaDoor
open Go.RowKit
abbrev Lft := Bool × Int × List Int × Int
def chS (c : List Int) (st : Int) (o : List Int) (n : Nat) : Nat → Int
  | 0 => 0
  | k + 1 => chS c st o n k + el c k * el o (((n : Int) + st + k) % (o.length : Int)).toNat
def chF (s : Lft) (o : List Int) (n : Nat) : Int := shiftF (chS s.2.2.1 s.2.1 o n s.2.2.1.length) s.2.2.2 1
def stN (s : Lft) (g : Int) (to fr : List Int) (K : Nat) : List Int := (List.range to.length).map fun n => if n < K then wrapF 32 (el to n + g * chF s fr n) else el to n
def stF (s : Lft) (g : Int) (to fr : List Int) : List Int := stN s g to fr to.length
end Go.Proofs.YtdiflpbioohddaaDoor
end
section
namespace Go.Proofs.YtdiflpbioohddaaDoor
open Go.RowKit
theorem Own.cell {base : Nat} {w : World} {g n c : Nat} {l : List Int} (h : Own base w (.slice (some ⟨g, 0, none⟩) n c) l) {k : Nat} {y : Int} (hk : l[k]? = some y) : w.cell? ⟨g, k, none⟩ = some (.int .i64 y) := by
  obtain ⟨A, c', e, _⟩ := own_form h.1
  injection e with _ e2
  subst e2
  have hkl := (List.getElem?_eq_some_iff.1 hk).1
  rw [h.1.cellAt k (by omega), List.getElem?_map, hk]; rfl
theorem Own.free {base : Nat} {w : World} {g n c : Nat} {l : List Int} (h : Own base w (.slice (some ⟨g, 0, none⟩) n c) l) (k : Nat) : w.frozen? ⟨g, k, none⟩ = false := by
  obtain ⟨A, c', e, _⟩ := own_form h.1
  injection e with _ e2
  subst e2
  exact h.1.frozenAt k
theorem Own.block {base : Nat} {w : World} {g n c : Nat} {l : List Int} (h : Own base w (.slice (some ⟨g, 0, none⟩) n c) l) : base ≤ g ∧ g < w.heap.size := h.1.lt g rfl
theorem Own.set {base : Nat} {w : World} {g n c : Nat} {l : List Int} (h : Own base w (.slice (some ⟨g, 0, none⟩) n c) l) (k : Nat) {y : Int} (hy : I64 y) :
    Own base (w.setCell ⟨g, k, none⟩ (.int .i64 y)) (.slice (some ⟨g, 0, none⟩) n c) (l.set k y) := by
  obtain ⟨A, c', e, _⟩ := own_form h.1
  injection e with _ e2
  subst e2
  have := (h.1.stored k (.int .i64 y)).1
  refine ⟨by rw [List.length_set, List.map_set]; exact this, fun q hq => ?_⟩
  rcases List.mem_or_eq_of_mem_set hq with hq | hq
  · exact h.2 q hq
  · rw [hq]; exact hy
theorem below_set {base : Nat} {a w : World} {g k : Nat} {u : Value} (h : Below base a w) (hg : base ≤ g) : Below base a (w.setCell ⟨g, k, none⟩ u) := h.setCell hg u
theorem zeros_cells (n : Nat) : (madeCells (Value.int .i64 0).cells (n * 1)).toList = (List.replicate n (0 : Int)).map (Value.int .i64) := by
  apply List.ext_getElem?
  intro k
  simp only [madeCells, Value.cells, Array.toList_map, Array.toList_range, List.getElem?_map, List.getElem?_replicate, Nat.mul_one]
  rcases Nat.lt_or_ge k n with h | h
  · rw [List.getElem?_range h]; simp [h, Nat.mod_one]
  · rw [List.getElem?_eq_none (by simpa using h)]; simp; omega
theorem mk_int {ops : Array Oper} {rest : List Oper} {o : Oper} {a : Act} {Q : Exit → Act → World → Prop} {w : World} (hg : o.guard = none) (s c : Operand) (hop : o.op = Op.makeSlice 25 s c)
    (base n : Nat) {N : Int} (hs : a.eval s = .int .i64 N) (hc : a.eval c = .int .i64 N) (hN : N = (n : Int)) (hn : n ≤ 100000000) (hb : base ≤ w.heap.size)
    (h : ∀ w', Own base w' (.slice (some ⟨w.heap.size, 0, none⟩) n n) (List.replicate n 0) → Below w.heap.size w w' → wpList Tryd.prog ops Q rest (a.put o.dst (.slice (some ⟨w.heap.size, 0, none⟩) n n)) w') :
    wpList Tryd.prog ops Q (o :: rest) a w := by
  subst hN
  obtain ⟨i0, hi, hz0, hz1, hz2⟩ := info_parts info_int
  refine wpList_make_full w hg s c 25 hop base 3 i0 (.int .i64 0) 1 Tryd.underlying25 hi hz0 hz1 .i64 .i64 n n n hs hc rfl rfl (by rw [hz2]; omega) (by unfold maxLen; omega) hb fun w' h1 h2 => h w' ⟨?_, ?_⟩ ?_
  · rw [List.length_replicate, ← zeros_cells]; exact h1
  · intro q hq; rw [List.eq_of_mem_replicate hq]; exact ⟨by decide, by decide⟩
  · exact (Below.refl _ _).grown h2 (Nat.le_refl _) (by intro k hk; cases hk)
def RetInts1 (w : World) (l : List Int) (e : Ending) (w' : World) : Prop := ∃ v, e = .returned v ∧ Own w.heap.size w' v l ∧ Below w.heap.size w w'
theorem RetInts1.mk {w w' : World} {l : List Int} {v : Value} (ho : Own w.heap.size w' v l) (hb : Below w.heap.size w w') : RetInts1 w l (.returned v) w' := ⟨v, rfl, ho, hb⟩
end Go.Proofs.YtdiflpbioohddaaDoor
end
