/- append(out, make([]T, m)...): a row of the call's own takes m zeros. -/
import Derived.Test.YtlomhaabiodofaaK
namespace Go.Proofs.Ytlomhaabiodofaa
open Go.RowKit

section
variable {P : Program}
theorem zeros_list (z : Value) (m : Nat) : List.map (fun i => [z][i % 1]?.getD default) (List.range m) = List.replicate m z := by
  apply List.ext_getElem?
  intro k
  simp only [List.getElem?_map, List.getElem?_replicate]
  rcases Nat.lt_or_ge k m with h | h
  · rw [List.getElem?_range h]; simp [h, Nat.mod_one]
  · rw [List.getElem?_eq_none (by simpa using h)]; simp; omega
theorem zeros_cells' (z : Value) (m : Nat) : Builtin.zeroCells #[z] m = (List.replicate m z).toArray := by
  apply Array.ext'
  simp [Builtin.zeroCells, zeros_list]

theorem run_zeros_room (w : World) (t tn ty e : TypeId) (k : IntKind) (i : TypeInfo) (z : Value) (ht : P.underlying t = some (.slice e)) (hu : P.underlying tn = some (.int k)) (hi : P.info? e = some i) (hz : i.zero = some z) (hsz : i.size = 1) (hzc : z.cells = #[z]) (hz1 : z.oneCell' = true)
    (hby : i.bytes ≤ 1000) (g sLen sCap : Nat) (cur : Array Value) (hg : w.heap[g]? = some (.cells cur e (0, 0))) (m : Nat) (hm : m ≤ 1000000) (hroom : sLen + m ≤ sCap) (hfit : sLen + m ≤ cur.size) :
    (Builtin.append_ #[t, tn] ty #[.slice (some ⟨g, 0, none⟩) sLen sCap, .int .i64 m]).run P w =
      .ok (.slice (some ⟨g, 0, none⟩) (sLen + m) sCap) (w.setRow g (cur.toList.take sLen ++ List.replicate m z ++ cur.toList.drop (sLen + m)).toArray) := by
  have hst := run_storeCells_at P g sLen e (List.replicate m z) 0 cur w hg (by simpa using hfit) (by intro u hu; rw [List.eq_of_mem_replicate hu]; exact hz1)
  have hw : IntKind.i64.wrap (m : Int) = m := IntWalk.i64_in _ (by omega)
  have h0 : ¬ ((m : Int) < 0) := by omega
  have h1 : ¬ (281474976710656 < (m : Int) * i.bytes) := by
    have : (m : Int) * i.bytes ≤ 1000000 * 1000 := by
      rw [← Int.natCast_mul]
      have : m * i.bytes ≤ 1000000 * 1000 := Nat.mul_le_mul hm hby
      omega
    omega
  simp only [Nat.add_zero, List.length_replicate] at hst
  simp [Builtin.append_, run_underlying ht, run_underlying hu, sizeOf, typeInfo, hi, hsz, asInt, asIntOf, hw, hroom, zeroValue, hz, Builtin.zeroCells, hzc, h0, h1, zeros_list, Addr.add_lit]
  rcases Nat.eq_zero_or_pos m with hm0 | hm0
  · subst hm0
    simp only [List.replicate_zero, Nat.add_zero] at hst
    simp [hst]
  · rw [if_neg (by omega)]
    simp [hst]

theorem run_zeros_nil (w : World) (t tn ty e : TypeId) (k : IntKind) (i : TypeInfo) (z : Value) (ht : P.underlying t = some (.slice e)) (hu : P.underlying tn = some (.int k)) (hi : P.info? e = some i) (hz : i.zero = some z) (hsz : i.size = 1) (hzc : z.cells = #[z])
    (hby : i.bytes ≤ 1000) (m : Nat) (hm : m ≤ 1000000) (hm0 : 0 < m) :
    (Builtin.append_ #[t, tn] ty #[.slice none 0 0, .int .i64 m]).run P w =
      .ok (.slice (some ⟨w.heap.size, 0, none⟩) m (grownCap w m 0 e)) (w.drew.alloc (.cells (List.replicate m z ++ List.replicate (grownCap w m 0 e - m) z).toArray e)) := by
  have hw : IntKind.i64.wrap (m : Int) = m := IntWalk.i64_in _ (by omega)
  have h0 : ¬ ((m : Int) < 0) := by omega
  have h2 : m * i.bytes ≤ 1000000 * 1000 := Nat.mul_le_mul hm hby
  have h1 : ¬ (281474976710656 < (m : Int) * i.bytes) := by rw [← Int.natCast_mul]; omega
  have hn : m ≠ 0 := by omega
  have h63' : ¬ (9223372036854775807 < (m : Int)) := by omega
  have h48' : ¬ (281474976710656 < Builtin.nextslicecap m 0 * i.bytes) := by rw [nextslicecap_zero hm0]; omega
  simp [Builtin.append_, run_underlying ht, run_underlying hu, sizeOf, typeInfo, hi, hsz, asInt, asIntOf, hw, zeroValue, hz, hzc, h0, h1, hn, h63', h48', zeros_cells', Question.forced, newRow, grownCap, Builtin.firstCells]

theorem run_zeros_grow (w : World) (t tn ty e : TypeId) (k : IntKind) (i : TypeInfo) (z : Value) (ht : P.underlying t = some (.slice e)) (hu : P.underlying tn = some (.int k)) (hi : P.info? e = some i) (hz : i.zero = some z) (hsz : i.size = 1) (hzc : z.cells = #[z])
    (hby : i.bytes ≤ 1000) (b : Addr) (sLen sCap : Nat) (olds : List Value) (hlo : olds.length = sLen) (holds : ∀ j v, olds[j]? = some v → w.cell? (b.add j) = some v) (m : Nat) (hm : sLen + m ≤ 1000000) (hm0 : 0 < m) (hg : sCap < sLen + m) :
    (Builtin.append_ #[t, tn] ty #[.slice (some b) sLen sCap, .int .i64 m]).run P w =
      .ok (.slice (some ⟨w.heap.size, 0, none⟩) (sLen + m) (grownCap w (sLen + m) sCap e)) (w.drew.alloc (.cells (olds ++ List.replicate m z ++ List.replicate (grownCap w (sLen + m) sCap e - (sLen + m)) z).toArray e)) := by
  have hw : IntKind.i64.wrap (m : Int) = m := IntWalk.i64_in _ (by omega)
  have h0 : ¬ ((m : Int) < 0) := by omega
  have h2 : m * i.bytes ≤ 1000000 * 1000 := Nat.mul_le_mul (by omega) hby
  have h1 : ¬ (281474976710656 < (m : Int) * i.bytes) := by rw [← Int.natCast_mul]; omega
  have hn : ¬ (sLen + m ≤ sCap) := by omega
  have h63' : ¬ (9223372036854775807 < ((sLen : Int) + (m : Int))) := by omega
  have h48' : ¬ (281474976710656 < Builtin.nextslicecap (sLen + m) sCap * i.bytes) := by
    have := growslice_fits (need := sLen + m) (old := sCap) (by omega) (by have : (sLen + m) * i.bytes ≤ 1000000 * 1000 := Nat.mul_le_mul hm hby; omega : (sLen + m) * i.bytes ≤ 140737488355328)
    omega
  have hfo := run_firstCells_some (P := P) w.drew 1 sLen b sLen sCap olds (by simpa using hlo) (by simpa using holds)
  have hne : m ≠ 0 := by omega
  simp [Builtin.append_, run_underlying ht, run_underlying hu, sizeOf, typeInfo, hi, hsz, asInt, asIntOf, hw, zeroValue, hz, hzc, h0, h1, hn, hne, h63', h48', zeros_cells', Question.forced, newRow, grownCap, hfo]
  try (congr 2; apply Array.ext'; simp)

/-- A row of the call's own takes m zeros. -/
theorem run_zeros_own (w : World) (base : Nat) (t tn ty e : TypeId) (k : IntKind) (i : TypeInfo) (z : Value) (ht : P.underlying t = some (.slice e)) (hu : P.underlying tn = some (.int k)) (hi : P.info? e = some i) (hz : i.zero = some z) (hsz : i.size = 1) (hzc : z.cells = #[z]) (hz1 : z.oneCell' = true)
    (hby : i.bytes ≤ 1000) (v : Value) (n : Nat) (xs : List Value) (hown : w.ownsRow base e 1 v n xs) (m : Nat) (hm : n + m ≤ 1000000) (hbase : base ≤ w.heap.size) :
    ∃ v' w', (Builtin.append_ #[t, tn] ty #[v, .int .i64 m]).run P w = .ok v' w' ∧ w'.ownsRow base e 1 v' (n + m) (xs ++ List.replicate m z) ∧ w.grownBy w' v.ownBlock := by
  have hlen : (xs ++ List.replicate m z).length = (n + m) * 1 := by rw [List.length_append, hown.1, List.length_replicate]; omega
  have grown : ∀ (old : Nat) (row : Option Nat),
      (w.drew.alloc (.cells (xs ++ List.replicate m z ++ List.replicate (grownCap w (n + m) old e - (n + m)) z).toArray e)).ownsRow base e 1
        (.slice (some ⟨w.heap.size, 0, none⟩) (n + m) (grownCap w (n + m) old e)) (n + m) (xs ++ List.replicate m z) ∧
      w.grownBy (w.drew.alloc (.cells (xs ++ List.replicate m z ++ List.replicate (grownCap w (n + m) old e - (n + m)) z).toArray e)) row := by
    intro old row
    have hge := grownCap_ge w (n + m) old e
    have hcm : grownCap w (n + m) old e ≤ maxLen := grownCap_le_maxLen w (n + m) old e (by unfold maxLen; omega)
    refine ⟨⟨hlen, .inr ⟨w.heap.size, _, _, rfl, hbase, heap_alloc_new w.drew _, hge, hcm, ?_, ?_⟩⟩, ⟨rfl, rfl, rfl, by simp, fun q hq _ => Below.heap_alloc w.drew _ q hq⟩⟩
    · have := hown.1
      simp
      omega
    · rw [List.toList_toArray, ← hlen]
      exact List.take_left
  rcases hown.2 with ⟨rfl, rfl⟩ | ⟨g, cap, cur, rfl, hbg, hg, hnc, hcm, hcs, htake⟩
  · have hx : xs = [] := List.eq_nil_of_length_eq_zero (by simpa using hown.1)
    subst hx
    rcases Nat.eq_zero_or_pos m with hm0 | hm0
    · subst hm0
      refine ⟨.slice none 0 0, w, ?_, World.ownsRow_nil w base e 1, ⟨rfl, rfl, rfl, Nat.le_refl _, fun _ _ _ => rfl⟩⟩
      have hw : IntKind.i64.wrap 0 = 0 := by decide
      simp [Builtin.append_, run_underlying ht, run_underlying hu, sizeOf, typeInfo, hi, asInt, asIntOf, hw]
    · have hr := run_zeros_nil (P := P) w t tn ty e k i z ht hu hi hz hsz hzc hby m (by omega) hm0
      have hgr := grown 0 (Value.ownBlock (.slice none 0 0))
      simp only [Nat.zero_add, List.nil_append] at hgr ⊢
      exact ⟨_, _, hr, hgr.1, hgr.2⟩
  · by_cases hroom : n + m ≤ cap
    · have hr := run_zeros_room (P := P) w t tn ty e k i z ht hu hi hz hsz hzc hz1 hby g n cap cur hg m (by omega) hroom (by omega)
      refine ⟨_, _, hr, ⟨hlen, .inr ⟨g, cap, _, rfl, hbg, setRow_heap w g cur _ e _ hg, hroom, hcm, ?_, ?_⟩⟩, ⟨rfl, rfl, rfl, by simp, fun k _ hk => setRow_other w g k _ (fun e => hk (by simp [Value.ownBlock, e]))⟩⟩
      · simp only [List.size_toArray, List.length_append, List.length_take, List.length_drop, Array.length_toList, List.length_replicate]
        omega
      · have ht' : List.take n cur.toList = xs := by simpa using htake
        rw [List.toList_toArray, ht', ← hlen]
        exact List.take_left
    · have holds : ∀ j u, xs[j]? = some u → w.cell? ((⟨g, 0, none⟩ : Addr).add j) = some u := hown.cells (g := g) rfl
      have hr := run_zeros_grow (P := P) w t tn ty e k i z ht hu hi hz hsz hzc hby ⟨g, 0, none⟩ n cap xs (by simpa using hown.1) holds m hm (by omega) (by omega)
      have hgr := grown cap (Value.ownBlock (.slice (some ⟨g, 0, none⟩) n cap))
      exact ⟨_, _, hr, hgr.1, hgr.2⟩

theorem wpList_zeros {ops : Array Oper} {rest : List Oper} {o : Oper} {a : Act} {Q : Exit → Act → World → Prop} {w : World} (hgd : o.guard = none) (s x : Operand) (t tn : TypeId)
    (ho : o.op = .call { callee := .builtin .append, args := #[s, x], argTypes := #[t, tn] }) (base : Nat) (e : TypeId) (k : IntKind) (i : TypeInfo) (z : Value)
    (ht : P.underlying t = some (.slice e)) (hu : P.underlying tn = some (.int k)) (hi : P.info? e = some i) (hz : i.zero = some z) (hsz : i.size = 1) (hzc : z.cells = #[z]) (hz1 : z.oneCell' = true) (hby : i.bytes ≤ 1000)
    {v : Value} {n : Nat} {xs : List Value} (hown : w.ownsRow base e 1 v n xs) (m : Nat) (hs : a.eval s = v) (hx : a.eval x = .int .i64 (m : Int)) (hm : n + m ≤ 1000000) (hbase : base ≤ w.heap.size)
    (h : ∀ v' w', w'.ownsRow base e 1 v' (n + m) (xs ++ List.replicate m z) → Below base w w' → wpList P ops Q rest (a.put o.dst v') w') : wpList P ops Q (o :: rest) a w := by
  refine wpList_plain hgd fun K hK => ?_
  obtain ⟨v', w', hrun, h2, h3⟩ := run_zeros_own (P := P) w base t tn o.type e k i z ht hu hi hz hsz hzc hz1 hby v n xs hown m hm hbase
  unfold Oper.wp execOp
  simp only [ho, resolve, invoke, builtin, Sem.run_bind, Sem.run_pure, Result.andThen_ok, List.map_toArray, List.map_cons, List.map_nil, hs, hx, hrun]
  exact hK _ _ (h v' w' h2 ((Below.refl _ _).grown h3 hbase (fun q hq => (hown.lt q hq).1)))
end
theorem zeros_int {ops : Array Oper} {rest : List Oper} {o : Oper} {a : Act} {Q : Exit → Act → World → Prop} {w : World} (hgd : o.guard = none) (s x : Operand)
    (ho : o.op = .call { callee := .builtin .append, args := #[s, x], argTypes := #[22, 3] }) (base : Nat) {v : Value} {l : List Int} {N : Int} (m : Nat) (hown : Own base w v l) (hs : a.eval s = v) (hx : a.eval x = .int .i64 N) (hN : N = (m : Int))
    (hm : l.length + m ≤ 1000000) (hbase : base ≤ w.heap.size)
    (h : ∀ v' w', Own base w' v' (l ++ List.replicate m 0) → Below base w w' → wpList Try.prog ops Q rest (a.put o.dst v') w') : wpList Try.prog ops Q (o :: rest) a w := by
  subst hN
  obtain ⟨i0, hi, hz0, hz1, hz2⟩ := info_parts info_int
  refine wpList_zeros hgd s x 22 3 ho base 3 .i64 i0 (.int .i64 0) Try.underlying22 Try.underlying3 hi hz0 hz1 rfl rfl (by rw [hz2]; decide) hown.1 m hs hx hm hbase fun v' w' h1 h2 => h v' w' ⟨?_, ?_⟩ h2
  · simpa using h1
  · intro q hq
    rcases List.mem_append.1 hq with hq | hq
    · exact hown.2 q hq
    · rw [List.eq_of_mem_replicate hq]; exact ⟨by decide, by decide⟩
end Go.Proofs.Ytlomhaabiodofaa
