/- Several texts in one: S9 S10 S11 U6 S12 S2 S14 S16 S19. -/
import Derived.Test.YtgdccmmcjicgkaaDoorkS8
import Derived.Test.YtgdccmmcjicgkaaDoorkE24
import Derived.Test.YtgdccmmcjicgkaaDoorkL5toO2
import Derived.Test.YtgdccmmcjicgkaaDoorkS5
import Derived.Test.YtgdccmmcjicgkaaDoorkOdtoS1
import Derived.Test.YtgdccmmcjicgkaaDoorkQtoU3
import Derived.Test.YtgdccmmcjicgkaaDoorkE1toI0
import Derived.Laws.EntriesVeiled
set_option linter.unusedVariables false
set_option linter.unusedSimpArgs false
section
namespace Go.Proofs.YtgdccmmcjicgkaaDoor
open Go.RowKit
set_option maxRecDepth 100000 in
theorem r38_Valid (u : PrgA) (w : World) (hp : PrgAt w u) (hr9 : u.d.rg.length ≤ 9223372036854775807) (hc9 : u.d.code.length ≤ 9223372036854775807) {c : Bool} (hc : validB u.d = c) :
    Calls Tryd.prog 29 #[u.v] w fun e w' => e = .returned (.bool c) ∧ Below w.heap.size w w' := by
  have CC : Hid (∀ w1, Below w.heap.size w w1 → Calls Tryd.prog 42 #[.agg u.lst.toArray] w1 (RetChk w1 u.d)) := Lib.hid fun w1 hb => by
    have h := r38_Check u w1 (hp.grow hb) hr9 hc9
    unfold PrgA.v at h
    exact h
  have hcv := chk_valid u.d
  rw [hc] at hcv
  obtain ⟨a, b, hab⟩ : ∃ a b : Int, chkF u.d = (a, b) := ⟨_, _, rfl⟩
  rw [hab] at hcv
  have hbc : (b == 0) = c := hcv
  have HAB := Lib.hid hab
  clear hcv hc hp hab
  go_enter Tryd.func29, Tryd.ntmps29
  go_upto_region 1 with fail
  unfold PrgA.v
  obtain ⟨bp, hb0⟩ := entryP w u.lst _ rfl
  generalize (w.alloc (.cells u.lst.toArray 43)) = W0 at bp hb0 ⊢
  have HB0 := Lib.hid hb0
  have HBP0 := Lib.hid bp
  clear hb0 bp
  generalize w.heap.size = gp at HBP0 ⊢
  go_wp2_with (first
    | ((with_reducible show wpList _ _ _ (Oper.mk _ (.load 43 _) _ _ _ _ :: _) _ _); refine ld_prg HBP0.out rfl rfl _ rfl rfl ?_)
    | (go_at_call 42; (with_reducible refine (CC.out _ HB0.out).mono ?_); rintro e1 w1 ⟨rfl, hb1⟩; rw [HAB.out]))
  go_ret
  exact ⟨rfl, below_then HB0.out hb1⟩
set_option maxRecDepth 100000 in
theorem pr_Valid (u : PrgA) (w : World) (hf : FormsAt w) (hp : PrgAt w u) (hr9 : u.d.rg.length ≤ 9223372036854775807) (hc9 : u.d.code.length ≤ 9223372036854775807) {c : Bool} (hc : validB u.d = c) :
    Calls Tryd.prog 43 #[u.v] w fun e w' => e = .returned (.bool c) ∧ Below w.heap.size w w' := by
  have CC : Hid (∀ w1, Below w.heap.size w w1 → Calls Tryd.prog 41 #[.agg u.lst.toArray] w1 (RetChk w1 u.d)) := Lib.hid fun w1 hb => by
    have h := pr_Check u w1 (hf.grow hb) (hp.grow hb) hr9 hc9
    unfold PrgA.v at h
    exact h
  have hcv := chk_valid u.d
  rw [hc] at hcv
  obtain ⟨a, b, hab⟩ : ∃ a b : Int, chkF u.d = (a, b) := ⟨_, _, rfl⟩
  rw [hab] at hcv
  have hbc : (b == 0) = c := hcv
  have HAB := Lib.hid hab
  clear hcv hc hp hab hf
  go_enter Tryd.func43, Tryd.ntmps43
  go_upto_region 1 with fail
  unfold PrgA.v
  obtain ⟨bp, hb0⟩ := entryP w u.lst _ rfl
  generalize (w.alloc (.cells u.lst.toArray 43)) = W0 at bp hb0 ⊢
  have HB0 := Lib.hid hb0
  have HBP0 := Lib.hid bp
  clear hb0 bp
  generalize w.heap.size = gp at HBP0 ⊢
  go_wp2_with (first
    | ((with_reducible show wpList _ _ _ (Oper.mk _ (.load 43 _) _ _ _ _ :: _) _ _); refine ld_prg HBP0.out rfl rfl _ rfl rfl ?_)
    | (go_at_call 41; (with_reducible refine (CC.out _ HB0.out).mono ?_); rintro e1 w1 ⟨rfl, hb1⟩; rw [HAB.out]))
  go_ret
  exact ⟨rfl, below_then HB0.out hb1⟩
end Go.Proofs.YtgdccmmcjicgkaaDoor
end
section
namespace Go.Proofs.YtgdccmmcjicgkaaDoor
open Go.RowKit
theorem OwnRg.below {base : Nat} {w w' : World} {v : Value} {l : List (Int × Int)} (h : OwnRg base w v l) (hb : w.grownBy w' v.ownBlock) (hs : base ≤ w.heap.size) : Below base w w' := own_below (Below.refl _ _) hs h.ge hb
end Go.Proofs.YtgdccmmcjicgkaaDoor
end
section
namespace Go.Proofs.YtgdccmmcjicgkaaDoor
open Go.RowKit
theorem valid_rl {d : PrgD} (h : validB d = true) : d.rg.length ≤ 8 ∧ ∀ x ∈ d.rg, ringIn x = true := by
  obtain ⟨-, h2, -, -⟩ := valid_parts h
  unfold ringsB at h2
  rw [Bool.and_eq_true, decide_eq_true_eq] at h2
  refine ⟨h2.1, ?_⟩
  have := ringsK_all h2.2 (Nat.le_refl _)
  rw [List.take_length] at this
  exact this
theorem st_prgB {ops : Array Oper} {rest : List Oper} {o : Oper} {a : Act} {Q : Exit → Act → World → Prop} {w : World} {L M : List Value} {g : Nat} (hb : Box w g M) (hM : M.length = 10) (hL : L.length = 10) (h1 : L.all (·.oneCell') = true) (hgd : o.guard = none) (x y : Operand) (ho : o.op = .store 43 x y) (hx : a.eval x = .pointer (some ⟨g, 0, none⟩)) (hy : a.eval y = .agg L.toArray)
    (h : ∀ W1, Box W1 g L → w.grownBy W1 (some g) → wpList Tryd.prog ops Q rest (a.put o.dst undef) W1) : wpList Tryd.prog ops Q (o :: rest) a w :=
  wp_st hgd _ x y ho g 0 L hx hy (by rw [hL]; exact size_prg) h1 hb (by rw [hM, hL]; exact Nat.le_refl _) (by rw [List.take_zero, List.nil_append, List.drop_eq_nil_of_le (by rw [hM, hL]; exact Nat.le_refl _), List.append_nil]) h
end Go.Proofs.YtgdccmmcjicgkaaDoor
end
section
namespace Go.Proofs.YtgdccmmcjicgkaaDoor
open Go.RowKit
theorem run_app0 {P : Program} {w w' : World} {t ty e : TypeId} {i : TypeInfo} (ht : P.underlying t = some (.slice e)) (hi : P.info? e = some i) {p a : Addr} {m c : Nat} (hm : 0 < m) {v' : Value}
    (h : (Builtin.append_ #[t, t] ty #[.slice none 0 0, .slice (some a) m c]).run P w = .ok v' w') : (Builtin.append_ #[t, t] ty #[.slice (some p) 0 0, .slice (some a) m c]).run P w = .ok v' w' := by
  have hm0 : ¬ m ≤ 0 := by omega
  have hm1 : ¬ m = 0 := by omega
  have e1 : ∀ w : World, (Builtin.firstCells i.size 0 (Value.slice none 0 0)).run P w = .ok #[] w := fun w => by simp [Builtin.firstCells]
  have e2 : ∀ w : World, (Builtin.firstCells i.size 0 (Value.slice (some p) 0 0)).run P w = .ok #[] w := fun w => by simp [Builtin.firstCells, loadCells, loadCellsFrom]
  simp [Builtin.append_, run_underlying ht, sizeOf, typeInfo, hi, Builtin.lenOf, hm0] at h ⊢
  rw [if_neg hm1] at h ⊢
  by_cases h1 : 9223372036854775807 < (m : Int) ∧ i.bytes = 0
  · rw [if_pos h1] at h
    simp [runtimePanic] at h
  · rw [if_neg h1] at h ⊢
    by_cases h2 : 281474976710656 < Builtin.nextslicecap m 0 * i.bytes
    · rw [if_pos h2] at h
      cases hq : (Builtin.mayShare i.size 0 m none (Value.slice (some a) m c)).run P w with
      | ok x w1 => rw [hq] at h; simp at h
      | halt x w1 => rw [hq] at h; simp at h
    · rw [if_neg h2] at h ⊢
      simp only [e1, e2] at h ⊢
      exact h
set_option maxRecDepth 100000 in
theorem app_row0 {ops : Array Oper} {rest : List Oper} {o : Oper} {a : Act} {Q : Exit → Act → World → Prop} (w : World) (hg : o.guard = none) (s x : Operand) (S E : TypeId) (z : Value) (size bytes : Nat)
    (ho : o.op = .call { callee := .builtin .append, args := #[s, x], argTypes := #[S, S] }) (hu : Tryd.prog.underlying S = some (.slice E)) (info : (Tryd.prog.info? E).map (fun i => (i.zero, i.size, i.bytes)) = some (some z, size, bytes)) (hzs : z.cells.size = size) (hpos : 0 < size) (hby : bytes ≤ 1000)
    (base : Nat) {p : Addr} {m c : Nat} {ys : List Value} {A : Option Addr} (hs : a.eval s = .slice (some p) 0 0) (hx : a.eval x = .slice A m c) (hown : w.ownsRow base E size (.slice (some p) 0 0) 0 []) (hl : ys.length = m * size)
    (hy : ∀ j u, ys[j]? = some u → ∃ ad, A = some ad ∧ w.cell? (ad.add j) = some u) (h1 : ∀ u ∈ ys, u.oneCell' = true) (hn : m ≤ 100000000) (hbase : base ≤ w.heap.size)
    (h : ∀ v' w', w'.ownsRow base E size v' m ys → Below w.heap.size w w' → wpList Tryd.prog ops Q rest (a.put o.dst v') w') : wpList Tryd.prog ops Q (o :: rest) a w := by
  refine wpList_plain hg fun K hK => ?_
  obtain ⟨i0, hi, hz0, hz1, hz2⟩ := info_parts info
  have main : ∃ v' w', (Builtin.append_ #[S, S] o.type #[.slice (some p) 0 0, .slice A m c]).run Tryd.prog w = .ok v' w' ∧ w'.ownsRow base E size v' m ys ∧ Below w.heap.size w w' := by
    by_cases hm : m = 0
    · subst hm
      have hy0 : ys = [] := List.eq_nil_of_length_eq_zero (by rw [hl, Nat.zero_mul])
      subst hy0
      refine ⟨.slice (some p) 0 0, w, ?_, hown, Below.refl _ _⟩
      cases A with
      | none => simp [Builtin.append_, run_underlying hu, sizeOf, typeInfo, hi, Builtin.lenOf, Builtin.firstCells, storeCells]
      | some ad => simp [Builtin.append_, run_underlying hu, sizeOf, typeInfo, hi, Builtin.lenOf, Builtin.firstCells, loadCells, loadCellsFrom, storeCells]
    · cases A with
      | none =>
        have hpos2 : 0 < ys.length := by rw [hl]; exact Nat.mul_pos (by omega) hpos
        obtain ⟨ad, e, _⟩ := hy 0 ys[0] (List.getElem?_eq_getElem hpos2)
        cases e
      | some ad =>
        have hnews : ∀ j u, ys[j]? = some u → w.cell? (ad.add j) = some u := fun j u hu => by
          obtain ⟨ad', e, h⟩ := hy j u hu
          injection e with e
          rw [e]; exact h
        obtain ⟨v', w', q1, q2, q3, _, _⟩ := run_append_own_at (P := Tryd.prog) w base S o.type E i0 z size bytes hu hi hz0 hz1 hz2 hzs hpos (.slice none 0 0) 0 [] (World.ownsRow_nil _ _ _ _) ad m c ys hl hnews h1
          (by unfold maxLen; omega) (by have : (0 + m) * bytes ≤ 100000000 * 1000 := Nat.mul_le_mul (show 0 + m ≤ 100000000 by omega) hby; omega) hbase
        rw [Nat.zero_add, List.nil_append] at q2
        exact ⟨v', w', run_app0 hu hi (by omega) q1, q2, own_below (Below.refl _ _) (Nat.le_refl _) (fun k hk => by cases hk) q3⟩
  obtain ⟨v', w', hrun, q1, q2⟩ := main
  unfold Oper.wp execOp
  simp only [ho, resolve, invoke, builtin, Sem.run_bind, Sem.run_pure, Result.andThen_ok, List.map_toArray, List.map_cons, List.map_nil, hs, hx, hrun]
  exact hK _ _ (h v' w' q1 q2)
end Go.Proofs.YtgdccmmcjicgkaaDoor
end
section
namespace Go.Proofs.YtgdccmmcjicgkaaDoor
open Go.RowKit
theorem app_ins0 {ops : Array Oper} {rest : List Oper} {o : Oper} {a : Act} {Q : Exit → Act → World → Prop} (w : World) (hg : o.guard = none) (s x : Operand) (ho : o.op = .call { callee := .builtin .append, args := #[s, x], argTypes := #[22, 22] })
    (base : Nat) {p : Addr} {m : List Ins} {A : Option Addr} {n c : Nat} (hs : a.eval s = .slice (some p) 0 0) (hx : a.eval x = .slice A n c) (hown : OwnIR base w (.slice (some p) 0 0) []) (hI : InsAt w A m) (hm : m.length = n) (hn : n ≤ 100000000) (hbase : base ≤ w.heap.size)
    (h : ∀ v' w', OwnIR base w' v' m → Below w.heap.size w w' → wpList Tryd.prog ops Q rest (a.put o.dst v') w') : wpList Tryd.prog ops Q (o :: rest) a w := by
  subst hm
  refine app_row0 w hg s x 22 24 (.agg #[.int .i64 0, .int .i64 0, .int .i64 0, .int .i64 0]) 4 32 ho und_ins info_ins rfl (by decide) (by decide) base hs hx hown.1 (ys := (m.flatMap encI).map (Value.int .i64)) ?_ hI.row nums_one hn hbase fun v' w' h1 h2 => h v' w' ⟨h1, hI.ok⟩ h2
  rw [List.length_map, flat_length (enc := encI) (sz := 4) (fun _ => rfl)]
end Go.Proofs.YtgdccmmcjicgkaaDoor
end
section
namespace Go.Proofs.YtgdccmmcjicgkaaDoor
open Go.RowKit
theorem fits_wordF {b f r o : Int} (h : okW b f r o = true) (x : Int) : fitsW b f r o (wordF b f r o x) = true := by
  obtain ⟨q1, q2, q3, q4⟩ := low_high b f r o
  obtain ⟨g1, g2⟩ := within_in (m := highW b f r o - lowW b f r o + 1) (by omega) (wrap64 (x - lowW b f r o))
  unfold fitsW
  rw [h, Bool.true_and, inB_iff]
  unfold wordF
  omega
theorem ringsF_get {rs : List Int} {n k : Nat} (hk : k < n) : (ringsF rs n).getD k (0, 0) = (20 + 10 * (k : Int), 1 + withinF (rs.getD k 0) 6) := by
  rw [List.getD_eq_getElem?_getD]
  unfold ringsF
  rw [List.getElem?_map, List.getElem?_range hk]; rfl
theorem ringsF_take {rs : List Int} {n k : Nat} (hk : k ≤ n) : (ringsF rs n).take k = ringsF rs k := by
  unfold ringsF
  rw [← List.map_take, List.take_range, Nat.min_eq_left hk]
theorem ringsF_mem {rs : List Int} {n : Nat} {y : Int × Int} (h : y ∈ ringsF rs n) : ∃ k, k < n ∧ y.1 = 20 + 10 * (k : Int) ∧ 1 ≤ y.2 ∧ y.2 ≤ 6 := by
  unfold ringsF at h
  obtain ⟨k, hk, rfl⟩ := List.mem_map.1 h
  have := within_in (m := 6) (by omega) (rs.getD k 0)
  exact ⟨k, List.mem_range.1 hk, rfl, by show 1 ≤ 1 + _; omega, by show 1 + _ ≤ 6; omega⟩
theorem ringsF_ok (rs : List Int) (n : Nat) (hn : n ≤ 3) : ∀ k, k ≤ n → ringsK (ringsF rs n) k = true
  | 0, _ => rfl
  | k + 1, hk => by
    unfold ringsK
    rw [ringsF_ok rs n hn k (by omega), ringsF_get (show k < n by omega), ringsF_take (show k ≤ n by omega)]
    have := within_in (m := 6) (by omega) (rs.getD k 0)
    rw [ringIn_iff.2 (by simp only; omega), Bool.true_and, Bool.true_and, Bool.not_eq_true', Bool.eq_false_iff]
    intro h
    obtain ⟨y, hy, hc⟩ := List.any_eq_true.1 h
    obtain ⟨j, hj, e1, e2, e3⟩ := ringsF_mem hy
    rw [clash_iff] at hc
    simp only at hc
    omega
theorem ringsF_valid (rs : List Int) (n : Nat) (hn : n ≤ 3) : ringsB (ringsF rs n) = true := by
  unfold ringsB
  rw [ringsF_length, ringsF_ok rs n hn n (Nat.le_refl _), decide_eq_true (by omega)]; rfl
theorem ringsF_unused (rs : List Int) (n : Nat) {m : Int} (h : m < 20) : usdB (ringsF rs n) m = false := by
  rw [Bool.eq_false_iff]
  intro h2
  obtain ⟨y, hy, hc⟩ := List.any_eq_true.1 h2
  obtain ⟨j, hj, e1, e2, e3⟩ := ringsF_mem hy
  rw [inR_iff] at hc
  omega
theorem insF_fit {d : PrgD} {op a b y : Int} (ho : 1 ≤ op ∧ op ≤ 11) (ha : 0 ≤ a ∧ a < 1000) (hb : 0 ≤ b) (hy : fitsW d.c0 d.c1 d.c2 d.c3 y = true) (h6 : ∀ x ∈ d.rg, 1 ≤ x.2 ∧ x.2 ≤ 6) (hu : ∀ m, m < 20 → usdB d.rg m = false) :
    fitI d (insF d.rg op a b y) = true ∧ (insF d.rg op a b y).op ≠ 0 := by
  have hc : op = 1 ∨ op = 2 ∨ op = 3 ∨ op = 4 ∨ op = 5 ∨ op = 6 ∨ op = 7 ∨ op = 8 ∨ op = 9 ∨ op = 10 ∨ op = 11 := by omega
  rcases hc with rfl | rfl | rfl | rfl | rfl | rfl | rfl | rfl | rfl | rfl | rfl
  · rw [insF_1]; simp [fitI]
  · rw [insF_2]; simp [fitI, hy]
  · rw [insF_3]; simp [fitI, hy, hu (a % 10) (by omega)]
  · by_cases h0 : d.rg.length = 0
    · rw [insF_40 _ _ _ h0]; simp [fitI]
    · have e0 := Int.emod_nonneg a (show (d.rg.length : Int) ≠ 0 by omega)
      have e1 := Int.emod_lt_of_pos a (show (0 : Int) < d.rg.length by omega)
      obtain ⟨m, hm⟩ := Int.eq_ofNat_of_zero_le e0
      obtain ⟨x, hx⟩ : ∃ x, d.rg[m]? = some x := ⟨_, List.getElem?_eq_getElem (by omega)⟩
      rw [insF_4 rfl (by omega) hm hx]
      have := h6 x (List.mem_of_getElem? hx)
      have := Int.emod_nonneg (a / 10) (show x.2 ≠ 0 by omega)
      have := Int.emod_lt_of_pos (a / 10) (show 0 < x.2 by omega)
      have hml : m < d.rg.length := by omega
      simp [fitI, hy, List.getD_eq_getElem?_getD, hx]
      omega
  · rw [insF_5]; simp [fitI]
  · rw [insF_6]; simp [fitI, hu (b % 10) (by omega)]
  · rw [insF_7]; simp [fitI, hu (b % 10) (by omega)]
  · by_cases h0 : d.rg.length = 0
    · rw [insF_80 _ _ _ h0]; simp [fitI]
    · have e0 := Int.emod_nonneg a (show (d.rg.length : Int) ≠ 0 by omega)
      have e1 := Int.emod_lt_of_pos a (show (0 : Int) < d.rg.length by omega)
      obtain ⟨m, hm⟩ := Int.eq_ofNat_of_zero_le e0
      rw [insF_8 rfl (by omega) hm]
      simp [fitI]; omega
  · rw [insF_9]; simp [fitI]
  · rw [insF_10]; simp [fitI]
  · rw [insF_11]; simp [fitI]
theorem prgF_valid (dn cn : Int) (rs os fs : List Int) (most : Nat) (hm : most ≤ 511) : validB (prgF dn cn rs os fs most) = true := by
  have hfo := prgF_formed dn cn rs os fs most
  have hp := prgF_code_pos dn cn rs os fs most
  have h1 : okWD (prgF dn cn rs os fs most) = true := by
    unfold okWD prgF
    simp only
    rw [mkWD_ok, mkWC_ok]; rfl
  have h2 : ringsB (prgF dn cn rs os fs most).rg = true := ringsF_valid rs _ (by omega)
  unfold validB
  rw [h1, h2, inB_iff.2 (by omega), Bool.true_and, Bool.true_and, Bool.true_and]
  refine List.all_eq_true.2 fun j hj => ?_
  have hj := List.mem_range.1 hj
  unfold goodAt suitB
  have hmem : (prgF dn cn rs os fs most).code.getD j Ins.zero ∈ (prgF dn cn rs os fs most).code := by
    rw [List.getD_eq_getElem?_getD, List.getElem?_eq_getElem hj]
    exact List.getElem_mem hj
  rw [hfo _ hmem, Bool.true_and]
  have hlen : (prgF dn cn rs os fs most).code.length = min os.length most + 1 := by
    unfold prgF
    simp only
    rw [List.length_append, codeK_length]; rfl
  by_cases hl : j < min os.length most
  · have e : (prgF dn cn rs os fs most).code.getD j Ins.zero = insK (mkW cn 6 9 1).1 (mkW cn 6 9 1).2.1 (mkW cn 6 9 1).2.2.1 (mkW cn 6 9 1).2.2.2 (ringsF rs (min rs.length 3)) os fs j := by
      unfold prgF
      simp only
      rw [List.getD_eq_getElem?_getD, List.getElem?_append_left (by rw [codeK_length]; exact hl)]
      unfold codeK
      rw [List.getElem?_map, List.getElem?_range hl]; rfl
    rw [e]
    have hw := within_in (m := 11) (by omega) (os.getD j 0)
    have hw1 := within_in (m := 1000) (by omega) (atF fs (2 * (j : Int)))
    have hw2 := within_in (m := 1048576) (by omega) (atF fs (2 * (j : Int) + 1))
    have hh := insF_fit (d := prgF dn cn rs os fs most) (op := 1 + withinF (os.getD j 0) 11) (a := withinF (atF fs (2 * (j : Int))) 1000) (b := withinF (atF fs (2 * (j : Int) + 1)) 1048576) (y := wordF (mkW cn 6 9 1).1 (mkW cn 6 9 1).2.1 (mkW cn 6 9 1).2.2.1 (mkW cn 6 9 1).2.2.2 (withinF (atF fs (2 * (j : Int) + 1)) 1048576 - 524288)) (by omega) hw1 hw2.1 (fits_wordF (mkWC_ok cn) _) (ringsF_six rs _) (fun m hm => ringsF_unused rs _ hm)
    unfold insK
    have h3 : (prgF dn cn rs os fs most).rg = ringsF rs (min rs.length 3) := rfl
    rw [h3] at hh
    rw [hh.1, Bool.true_and, decide_eq_false hh.2, hlen, decide_eq_false (by omega)]; rfl
  · have e : (prgF dn cn rs os fs most).code.getD j Ins.zero = ⟨0, 0, 0, 0⟩ := by
      have hj2 : j = min os.length most := by omega
      unfold prgF
      simp only
      rw [List.getD_eq_getElem?_getD, List.getElem?_append_right (by rw [codeK_length]; omega), codeK_length, hj2, Nat.sub_self]; rfl
    rw [e, hlen, decide_eq_true (show j + 1 = min os.length most + 1 by omega)]
    simp [fitI]
end Go.Proofs.YtgdccmmcjicgkaaDoor
end
section
namespace Go.Proofs.YtgdccmmcjicgkaaDoor
open Go.RowKit
theorem lst_one (u : PrgA) : u.lst.all (·.oneCell') = true := rfl
theorem lst_ten (u : PrgA) : u.lst.length = 10 := rfl
theorem lst_nine {u : PrgA} {n : Nat} (h : u.d.code.length = n) : u.lst[9]? = some (.slice u.CA n u.cc) := by rw [← h]; rfl
end Go.Proofs.YtgdccmmcjicgkaaDoor
end
section
namespace Go.Proofs.YtgdccmmcjicgkaaDoor
open Go.RowKit
theorem Box.c5 {w : World} {g : Nat} {a b c d e : Value} (x : Box w g [a, b, c, d, e]) : w.cell? ⟨g, 0, none⟩ = some a ∧ w.cell? ⟨g, 1, none⟩ = some b ∧ w.cell? ⟨g, 2, none⟩ = some c ∧ w.cell? ⟨g, 3, none⟩ = some d ∧ w.cell? ⟨g, 4, none⟩ = some e :=
  ⟨x.2.1 0, x.2.1 1, x.2.1 2, x.2.1 3, x.2.1 4⟩
end Go.Proofs.YtgdccmmcjicgkaaDoor
end
section
namespace Go.Proofs.YtgdccmmcjicgkaaDoor
open Go.RowKit
theorem lst_eight {u : PrgA} {n : Nat} (h : u.d.rg.length = n) : u.lst[8]? = some (.slice u.RA n u.rc) := by rw [← h]; rfl
end Go.Proofs.YtgdccmmcjicgkaaDoor
end
