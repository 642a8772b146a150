/- Several texts in one: T1 T2 T3 T4 I0 U6. -/
import Derived.Test.YtpmbgcfnehplaaaDoorPt
import Derived.Test.YtpmbgcfnehplaaaDoorPr
import Derived.Test.YtpmbgcfnehplaaaDoorPv
import Derived.Test.YtpmbgcfnehplaaaDoorPu
import Derived.Test.YtpmbgcfnehplaaaDoorPs
import Derived.Lib.SliceRun
section
/- Plain: the values of a network for a state and an input, and a step. -/
set_option linter.unusedVariables false
set_option linter.unusedSimpArgs false
namespace Go.Proofs.YtpmbgcfnehplaaaDoor
open Go.RowKit

/-- The sum of the first i products of a node. -/
def sumT (ts : List (Int × Int)) (vs : List Int) : Nat → Int
  | 0 => 0
  | i + 1 => sumT ts vs i + (match ts[i]? with | some t => t.2 * atF vs t.1 | none => 0)
/-- What a node has before it is reduced. -/
def nodeV (d2 c1 : Int) (vs : List Int) (ts : List (Int × Int)) : Int := shiftF (sumT ts vs ts.length) c1 d2
/-- The input, the states and the first k nodes' values. -/
def valsF (d0 d1 d2 d3 c1 : Int) (ns : List (List (Int × Int))) (x : List Int) : Nat → List Int
  | 0 => x
  | k + 1 => valsF d0 d1 d2 d3 c1 ns x k ++ (match ns[k]? with | some ts => [reduceW d0 d1 d2 d3 (nodeV d2 c1 (valsF d0 d1 d2 d3 c1 ns x k) ts)] | none => [])
/-- One of the first k nodes overflows. -/
def overF (d0 d1 d2 d3 c1 : Int) (ns : List (List (Int × Int))) (x : List Int) : Nat → Bool
  | 0 => false
  | k + 1 => overF d0 d1 d2 d3 c1 ns x k || (match ns[k]? with | some ts => !fitsW d0 d1 d2 d3 (nodeV d2 c1 (valsF d0 d1 d2 d3 c1 ns x k) ts) | none => false)
theorem valsF_succ {d0 d1 d2 d3 c1 : Int} {ns : List (List (Int × Int))} {x : List Int} {k : Nat} {ts : List (Int × Int)} (h : ns[k]? = some ts) :
    valsF d0 d1 d2 d3 c1 ns x (k + 1) = valsF d0 d1 d2 d3 c1 ns x k ++ [reduceW d0 d1 d2 d3 (nodeV d2 c1 (valsF d0 d1 d2 d3 c1 ns x k) ts)] := by
  show valsF d0 d1 d2 d3 c1 ns x k ++ _ = _
  rw [h]
theorem overF_succ {d0 d1 d2 d3 c1 : Int} {ns : List (List (Int × Int))} {x : List Int} {k : Nat} {ts : List (Int × Int)} (h : ns[k]? = some ts) :
    overF d0 d1 d2 d3 c1 ns x (k + 1) = (overF d0 d1 d2 d3 c1 ns x k || !fitsW d0 d1 d2 d3 (nodeV d2 c1 (valsF d0 d1 d2 d3 c1 ns x k) ts)) := by
  show (overF d0 d1 d2 d3 c1 ns x k || _) = _
  rw [h]
theorem valsF_length (d0 d1 d2 d3 c1 : Int) (ns : List (List (Int × Int))) (x : List Int) : ∀ k, k ≤ ns.length → (valsF d0 d1 d2 d3 c1 ns x k).length = x.length + k
  | 0, _ => rfl
  | k + 1, h => by
    obtain ⟨ts, hts⟩ : ∃ ts, ns[k]? = some ts := ⟨_, List.getElem?_eq_getElem (by omega)⟩
    rw [valsF_succ hts, List.length_append, valsF_length d0 d1 d2 d3 c1 ns x k (by omega)]
    simp
    omega
theorem valsF_fits {d0 d1 d2 d3 c1 : Int} {ns : List (List (Int × Int))} {x : List Int} (hd : okW d0 d1 d2 d3 = true) (hx : ∀ v ∈ x, fitsW d0 d1 d2 d3 v = true) : ∀ k, ∀ v ∈ valsF d0 d1 d2 d3 c1 ns x k, fitsW d0 d1 d2 d3 v = true
  | 0 => hx
  | k + 1 => fun v hv => by
    change v ∈ valsF d0 d1 d2 d3 c1 ns x k ++ (match ns[k]? with | some ts => [reduceW d0 d1 d2 d3 (nodeV d2 c1 (valsF d0 d1 d2 d3 c1 ns x k) ts)] | none => []) at hv
    rcases List.mem_append.1 hv with h | h
    · exact valsF_fits hd hx k v h
    · split at h
      · rw [List.mem_singleton] at h; subst h; exact fits_reduce hd _
      · cases h
/-- The next state. -/
def followF (nx vs : List Int) : List Int := nx.map (atF vs)
theorem pow_23 {b : Int} (h1 : 4 ≤ b) (h2 : b ≤ 24) : (2 : Int) ^ (b - 1).toNat ≤ 8388608 := by
  have : (2 : Int) ^ (b - 1).toNat ≤ 2 ^ 23 := pow_le (by omega)
  simpa using this
theorem fits_23 {b f r o v : Int} (h : fitsW b f r o v = true) : -8388608 ≤ v ∧ v ≤ 8388608 := by
  obtain ⟨hc, h1, h2⟩ := fits_iff.1 h
  obtain ⟨a1, a2, _⟩ := okW_iff.1 hc
  have hp := pow_23 a1 a2
  unfold lowW at h1
  unfold highW at h2
  rw [if_pos hc] at h1 h2
  omega
theorem term_23 {c0 c1 c2 c3 last : Int} {t : Int × Int} (hc : okW c0 c1 c2 c3 = true) (h : termB c0 c1 c2 c3 last t = true) : (0 ≤ t.1 ∧ t.1 ≤ last) ∧ -8388608 ≤ t.2 ∧ t.2 ≤ 8388608 := by
  unfold termB at h
  simp only [Bool.and_eq_true, Bool.or_eq_true, beq_iff_eq] at h
  refine ⟨inB_iff.1 h.1, ?_⟩
  rcases h.2 with h | h
  · exact fits_23 h
  · obtain ⟨a1, a2, a3, a4, _⟩ := okW_iff.1 hc
    have := pow_23 a1 a2
    have h3 : (2 : Int) ^ c1.toNat ≤ 2 ^ (c0 - 1).toNat := pow_le (by omega)
    have h4 : 0 < (2 : Int) ^ c1.toNat := pow_pos' _
    omega
theorem prod_46 {a b : Int} (ha : -8388608 ≤ a ∧ a ≤ 8388608) (hb : -8388608 ≤ b ∧ b ≤ 8388608) : -70368744177664 ≤ a * b ∧ a * b ≤ 70368744177664 := by
  have h : (a * b).natAbs ≤ 8388608 * 8388608 := by
    rw [Int.natAbs_mul]
    exact Nat.mul_le_mul (by omega) (by omega)
  omega
theorem atF_23 {vs : List Int} (hv : ∀ v ∈ vs, -8388608 ≤ v ∧ v ≤ 8388608) (i : Int) : -8388608 ≤ atF vs i ∧ atF vs i ≤ 8388608 := by
  unfold atF
  split
  · cases h : vs[i.toNat]? with
    | none => simp
    | some v => exact hv v (List.mem_of_getElem? h)
  · simp
theorem sumT_bound {ts : List (Int × Int)} {vs : List Int} (ht : ∀ t ∈ ts, -8388608 ≤ t.2 ∧ t.2 ≤ 8388608) (hv : ∀ v ∈ vs, -8388608 ≤ v ∧ v ≤ 8388608) : ∀ i : Nat, -(70368744177664 * (i : Int)) ≤ sumT ts vs i ∧ sumT ts vs i ≤ 70368744177664 * (i : Int)
  | 0 => by simp [sumT]
  | i + 1 => by
    have ih := sumT_bound ht hv i
    show -(70368744177664 * ((i + 1 : Nat) : Int)) ≤ sumT ts vs i + _ ∧ sumT ts vs i + _ ≤ _
    cases h : ts[i]? with
    | none => simp only []; omega
    | some t =>
      have := prod_46 (ht t (List.mem_of_getElem? h)) (atF_23 hv t.1)
      simp only []
      omega
end Go.Proofs.YtpmbgcfnehplaaaDoor
end
section
/- Networks as arguments, with all cells; the walks of follow, wrong and compute of package network. -/
set_option linter.unusedVariables false
set_option linter.unusedSimpArgs false
namespace Go.Proofs.YtpmbgcfnehplaaaDoor
open Go.RowKit

/-- make([]int, 0, n). -/
theorem mk_int0 {ops : Array Oper} {rest : List Oper} {o : Oper} {a : Act} {Q : Exit → Act → World → Prop} {w : World} (hg : o.guard = none) (s c : Operand) (hop : o.op = Op.makeSlice 22 s c)
    (base n : Nat) {N : Int} (hs : a.eval s = .int .i64 0) (hc : a.eval c = .int .i64 N) (hN : N = (n : Int)) (hn : n ≤ 100000000) (hb : base ≤ w.heap.size)
    (h : ∀ w', Own base w' (.slice (some ⟨w.heap.size, 0, none⟩) 0 n) [] → Below w.heap.size w w' → wpList Tryd.prog ops Q rest (a.put o.dst (.slice (some ⟨w.heap.size, 0, none⟩) 0 n)) w') :
    wpList Tryd.prog ops Q (o :: rest) a w := by
  subst hN
  obtain ⟨i0, hi, hz0, hz1, hz2⟩ := info_parts info_int
  refine wpList_make_own w hg s c 22 hop base 3 i0 (.int .i64 0) 1 Tryd.underlying22 hi hz0 hz1 .i64 .i64 n n hs hc rfl (by rw [hz2]; omega) (by unfold maxLen; omega) hb fun w' h1 h2 => h w' ⟨h1, by simp⟩ ((Below.refl _ _).grown h2 (Nat.le_refl _) (by intro k hk; cases hk))
theorem own_below {a w w' : World} {b : Nat} {v : Value} (h : Below b a w) (hb : b ≤ w.heap.size) (hv : ∀ k, v.ownBlock = some k → b ≤ k) (hg : w.grownBy w' v.ownBlock) : Below b a w' := h.grown hg hb hv
theorem Own.ge {base : Nat} {w : World} {v : Value} {l : List Int} (h : Own base w v l) : ∀ k, v.ownBlock = some k → base ≤ k := fun k hk => (h.1.lt k hk).1
theorem Own.single {w : World} {x : Int} (hx : I64 x) : Own w.heap.size (w.alloc (.cells #[.int .i64 x] 3)) (.slice (some ⟨w.heap.size, 0, none⟩) 1 1) [x] := by
  refine ⟨?_, by simpa using hx⟩
  exact World.ownsRow_lit w #[.int .i64 x] 1 (Nat.le_refl _) (by unfold maxLen; omega) (by simp)
/-- append(v, s...) with a name for the length. -/
theorem app_intsN {ops : Array Oper} {rest : List Oper} {o : Oper} {a : Act} {Q : Exit → Act → World → Prop} (w : World) (hg : o.guard = none) (s x : Operand) (ho : o.op = .call { callee := .builtin .append, args := #[s, x], argTypes := #[22, 22] })
    (base : Nat) {v : Value} {l m : List Int} {A : Option Addr} {c n : Nat} (hs : a.eval s = v) (hx : a.eval x = .slice A n c) (hm : m.length = n) (hown : Own base w v l) (hI : Ints w A m) (hn : l.length + n ≤ 100000000) (hbase : base ≤ w.heap.size)
    (h : ∀ v' w', Own base w' v' (l ++ m) → Below base w w' → wpList Tryd.prog ops Q rest (a.put o.dst v') w') : wpList Tryd.prog ops Q (o :: rest) a w := by
  subst hm
  exact app_ints w hg s x ho base hs hx hown hI hn hbase fun v' w' h1 h2 _ => h v' w' h1 (own_below (Below.refl _ _) hbase hown.ge h2)
end Go.Proofs.YtpmbgcfnehplaaaDoor
end
section
/- The walks of wrong, compute, Values and Step of package network, for valid networks, states and inputs. -/
set_option linter.unusedVariables false
set_option linter.unusedSimpArgs false
namespace Go.Proofs.YtpmbgcfnehplaaaDoor
open Go.RowKit

theorem fits_cons {d0 d1 d2 d3 x : Int} {s : List Int} (h1 : fitsW d0 d1 d2 d3 x = true) (h2 : ∀ v ∈ s, fitsW d0 d1 d2 d3 v = true) : ∀ v ∈ x :: s, fitsW d0 d1 d2 d3 v = true := fun v hv => by
  rcases List.mem_cons.1 hv with rfl | h
  · exact h1
  · exact h2 v h
theorem sumT_succ {ts : List (Int × Int)} {vs : List Int} {i : Nat} {t : Int × Int} (h : ts[i]? = some t) : sumT ts vs (i + 1) = sumT ts vs i + t.2 * atF vs t.1 := by
  show sumT ts vs i + _ = _
  rw [h]
/-- What a step of a sum needs. -/
theorem sum_step {ts : List (Int × Int)} {vs : List Int} {i : Nat} {f c y : Int} (ht : ∀ t ∈ ts, -8388608 ≤ t.2 ∧ t.2 ≤ 8388608) (hv : ∀ v ∈ vs, -8388608 ≤ v ∧ v ≤ 8388608) (h64 : ts.length ≤ 64) (h : ts[i]? = some (f, c)) (hy : atF vs f = y) :
    sumT ts vs (i + 1) = sumT ts vs i + c * y ∧ IntKind.i64.wrap (c * y) = c * y ∧ IntKind.i64.wrap (sumT ts vs i + c * y) = sumT ts vs i + c * y := by
  have h1 := sumT_succ (vs := vs) h
  simp only at h1
  rw [hy] at h1
  have hi := (List.getElem?_eq_some_iff.1 h).1
  have b1 := prod_46 (ht _ (List.mem_of_getElem? h)) (atF_23 hv f)
  rw [hy] at b1
  simp only at b1
  have b2 := sumT_bound ht hv (i + 1)
  rw [h1] at b2
  exact ⟨h1, IntWalk.i64_in _ (by omega), IntWalk.i64_in _ (by omega)⟩
theorem sum_i64 {ts : List (Int × Int)} {vs : List Int} (ht : ∀ t ∈ ts, -8388608 ≤ t.2 ∧ t.2 ≤ 8388608) (hv : ∀ v ∈ vs, -8388608 ≤ v ∧ v ≤ 8388608) (h64 : ts.length ≤ 64) : I64 (sumT ts vs ts.length) := by
  have := sumT_bound ht hv ts.length
  constructor <;> omega
/-- The values of a network, and whether one overflowed. -/
def RetVals (w : World) (l : List Int) (o : Bool) (e : Ending) (w' : World) : Prop := ∃ v, e = .returned (.tuple #[v, .bool o]) ∧ Own w.heap.size w' v l ∧ Below w.heap.size w w'
def RetVals3 (w : World) (l : List Int) (o : Bool) (e : Ending) (w' : World) : Prop := ∃ A c, e = .returned (.tuple #[.slice A l.length c, .bool o, .int .i64 0]) ∧ Ints w' A l ∧ Below w.heap.size w w'
/-- A step: the next state, the output, an overflow. -/
def RetStep (w : World) (l : List Int) (y : Int) (o : Bool) (e : Ending) (w' : World) : Prop := ∃ A c, e = .returned (.tuple #[.slice A l.length c, .int .i64 y, .bool o, .int .i64 0]) ∧ Ints w' A l ∧ (l ≠ [] → ∀ a, A = some a → w.heap.size ≤ a.block) ∧ Below w.heap.size w w'
end Go.Proofs.YtpmbgcfnehplaaaDoor
end
section
/- The walks of Values, Step and Run of package network, for valid networks, states and inputs. -/
set_option linter.unusedVariables false
set_option linter.unusedSimpArgs false
namespace Go.Proofs.YtpmbgcfnehplaaaDoor
open Go.RowKit

theorem results_tmp4 {fn : Func} {t u v x : Tmp} (h : fn.results = #[.tmp t, .tmp u, .tmp v, .tmp x]) (tmps : Array Value) (P : Program) (w : World) :
    (results fn tmps).run P w = .ok (.tuple #[tmps.getD t undef, tmps.getD u undef, tmps.getD v undef, tmps.getD x undef]) w := by
  simp [results, h]
/-- The output of a step. -/
theorem vals_at {d0 d1 d2 d3 c0 c1 c2 c3 st out x : Int} {ns : List (List (Int × Int))} {nx s : List Int} (h : netB d0 d1 d2 d3 c0 c1 c2 c3 st ns nx out = true) (hs : (s.length : Int) = st) :
    (valsF d0 d1 d2 d3 c1 ns (x :: s) ns.length).length = 1 + s.length + ns.length := by
  rw [valsF_length _ _ _ _ _ _ _ _ (Nat.le_refl _), List.length_cons]; omega
end Go.Proofs.YtpmbgcfnehplaaaDoor
end
section
/- Numbers that lie in blocks from b on; rows that stay; slices.Clone of numbers. -/
set_option linter.unusedVariables false
set_option linter.unusedSimpArgs false
namespace Go.Proofs.YtpmbgcfnehplaaaDoor
open Go.RowKit

theorem ints_none {w : World} {l : List Int} (h : Ints w none l) : l = [] := by
  cases l with
  | nil => rfl
  | cons x t => obtain ⟨ad, _, e, _⟩ := h.at_ (k := 0) (by simp); cases e
/-- Numbers that lie in blocks from b on. -/
def IntsF (b : Nat) (w : World) (A : Option Addr) (l : List Int) : Prop := Ints w A l ∧ (l ≠ [] → ∀ a, A = some a → b ≤ a.block)
theorem IntsF.nil {b : Nat} {w : World} {A : Option Addr} : IntsF b w A [] := ⟨Ints.nil, fun h => absurd rfl h⟩
theorem IntsF.base {b b' : Nat} {w : World} {A : Option Addr} {l : List Int} (h : IntsF b w A l) (hb : b' ≤ b) : IntsF b' w A l := ⟨h.1, fun hl a ha => Nat.le_trans hb (h.2 hl a ha)⟩
theorem IntsF.grow {b : Nat} {w w' : World} {A : Option Addr} {l : List Int} (h : IntsF b w A l) (hb : Below w.heap.size w w') : IntsF b w' A l := ⟨h.1.grow hb, h.2⟩
theorem IntsF.away {b q : Nat} {w w' : World} {A : Option Addr} {l : List Int} (h : IntsF b w A l) (hg : w.grownBy w' (some q)) (hq : q < b) : IntsF b w' A l := by
  refine ⟨⟨fun k v hk => ?_, h.1.2⟩, h.2⟩
  obtain ⟨ad, e, hb, hc⟩ := h.1.1 k v hk
  have hl : l ≠ [] := by rintro rfl; simp at hk
  have := h.2 hl ad e
  exact ⟨ad, e, Nat.lt_of_lt_of_le hb hg.size, hg.cell hc (by rw [block_add]; intro e'; injection e' with e'; omega)⟩
theorem IntsF.own {b n c : Nat} {w : World} {A : Option Addr} {l : List Int} (h : Own b w (.slice A n c) l) : IntsF b w A l := ⟨h.ints, fun _ a ha => by subst ha; exact (h.1.lt a.block rfl).1⟩
theorem ints_kept {w w' : World} {A : Option Addr} {l : List Int} {r : Option Nat} (h : Ints w A l) (hg : w.grownBy w' r) (hn : l ≠ [] → ∀ a, A = some a → some a.block ≠ r) : Ints w' A l := by
  refine ⟨fun k v hk => ?_, h.2⟩
  obtain ⟨ad, e, hb, hc⟩ := h.1 k v hk
  have hl : l ≠ [] := by rintro rfl; simp at hk
  exact ⟨ad, e, Nat.lt_of_lt_of_le hb hg.size, hg.cell hc (by rw [block_add]; exact hn hl ad e)⟩
theorem ints_block {w : World} {A : Option Addr} {l : List Int} (h : Ints w A l) (hl : l ≠ []) {a : Addr} (e : A = some a) : a.block < w.heap.size := by
  obtain ⟨ad, _, e', hb, _⟩ := h.at_ (k := 0) (List.length_pos_iff.2 hl)
  rw [e] at e'; injection e' with e'; subst e'; exact hb
end Go.Proofs.YtpmbgcfnehplaaaDoor
end
section
/- append onto an empty slice without room: nothing that was there changes. -/
set_option linter.unusedVariables false
set_option linter.unusedSimpArgs false
namespace Go.Proofs.YtpmbgcfnehplaaaDoor
open Go.RowKit

theorem run_app0 {P : Program} {w w' : World} {t ty e : TypeId} {i : TypeInfo} (ht : P.underlying t = some (.slice e)) (hi : P.info? e = some i) {p a : Addr} {m c : Nat} (hm : 0 < m) {v' : Value}
    (h : (Builtin.append_ #[t, t] ty #[.slice none 0 0, .slice (some a) m c]).run P w = .ok v' w') : (Builtin.append_ #[t, t] ty #[.slice (some p) 0 0, .slice (some a) m c]).run P w = .ok v' w' := by
  have hm0 : ¬ m ≤ 0 := by omega
  have hm1 : ¬ m = 0 := by omega
  have e1 : ∀ w : World, (Builtin.firstCells i.size 0 (Value.slice none 0 0)).run P w = .ok #[] w := fun w => by simp [Builtin.firstCells]
  have e2 : ∀ w : World, (Builtin.firstCells i.size 0 (Value.slice (some p) 0 0)).run P w = .ok #[] w := fun w => by simp [Builtin.firstCells, loadCells, loadCellsFrom]
  simp [Builtin.append_, run_underlying ht, sizeOf, typeInfo, hi, Builtin.lenOf, hm0] at h ⊢
  rw [if_neg hm1] at h ⊢
  by_cases h1 : 9223372036854775807 < (m : Int) ∧ i.bytes = 0
  · rw [if_pos h1] at h
    simp [runtimePanic] at h
  · rw [if_neg h1] at h ⊢
    by_cases h2 : 281474976710656 < Builtin.nextslicecap m 0 * i.bytes
    · rw [if_pos h2] at h
      cases hq : (Builtin.mayShare i.size 0 m none (Value.slice (some a) m c)).run P w with
      | ok x w1 => rw [hq] at h; simp at h
      | halt x w1 => rw [hq] at h; simp at h
    · rw [if_neg h2] at h ⊢
      simp only [e1, e2] at h ⊢
      exact h
set_option maxRecDepth 100000 in
/-- append(T{}, s...) where T{} has no room. -/
theorem app_row0 {ops : Array Oper} {rest : List Oper} {o : Oper} {a : Act} {Q : Exit → Act → World → Prop} (w : World) (hg : o.guard = none) (s x : Operand) (S E : TypeId) (z : Value) (size bytes : Nat)
    (ho : o.op = .call { callee := .builtin .append, args := #[s, x], argTypes := #[S, S] }) (hu : Tryd.prog.underlying S = some (.slice E)) (info : (Tryd.prog.info? E).map (fun i => (i.zero, i.size, i.bytes)) = some (some z, size, bytes)) (hzs : z.cells.size = size) (hpos : 0 < size) (hby : bytes ≤ 1000)
    (base : Nat) {p : Addr} {m c : Nat} {ys : List Value} {A : Option Addr} (hs : a.eval s = .slice (some p) 0 0) (hx : a.eval x = .slice A m c) (hown : w.ownsRow base E size (.slice (some p) 0 0) 0 []) (hl : ys.length = m * size)
    (hy : ∀ j u, ys[j]? = some u → ∃ ad, A = some ad ∧ w.cell? (ad.add j) = some u) (h1 : ∀ u ∈ ys, u.oneCell' = true) (hn : m ≤ 100000000) (hbase : base ≤ w.heap.size)
    (h : ∀ v' w', w'.ownsRow base E size v' m ys → Below w.heap.size w w' → wpList Tryd.prog ops Q rest (a.put o.dst v') w') : wpList Tryd.prog ops Q (o :: rest) a w := by
  refine wpList_plain hg fun K hK => ?_
  obtain ⟨i0, hi, hz0, hz1, hz2⟩ := info_parts info
  have main : ∃ v' w', (Builtin.append_ #[S, S] o.type #[.slice (some p) 0 0, .slice A m c]).run Tryd.prog w = .ok v' w' ∧ w'.ownsRow base E size v' m ys ∧ Below w.heap.size w w' := by
    by_cases hm : m = 0
    · subst hm
      have hy0 : ys = [] := List.eq_nil_of_length_eq_zero (by rw [hl, Nat.zero_mul])
      subst hy0
      refine ⟨.slice (some p) 0 0, w, ?_, hown, Below.refl _ _⟩
      cases A with
      | none => simp [Builtin.append_, run_underlying hu, sizeOf, typeInfo, hi, Builtin.lenOf, Builtin.firstCells, storeCells]
      | some ad => simp [Builtin.append_, run_underlying hu, sizeOf, typeInfo, hi, Builtin.lenOf, Builtin.firstCells, loadCells, loadCellsFrom, storeCells]
    · cases A with
      | none =>
        have hpos2 : 0 < ys.length := by rw [hl]; exact Nat.mul_pos (by omega) hpos
        obtain ⟨ad, e, _⟩ := hy 0 ys[0] (List.getElem?_eq_getElem hpos2)
        cases e
      | some ad =>
        have hnews : ∀ j u, ys[j]? = some u → w.cell? (ad.add j) = some u := fun j u hu => by
          obtain ⟨ad', e, h⟩ := hy j u hu
          injection e with e
          rw [e]; exact h
        obtain ⟨v', w', q1, q2, q3, _, _⟩ := run_append_own_at (P := Tryd.prog) w base S o.type E i0 z size bytes hu hi hz0 hz1 hz2 hzs hpos (.slice none 0 0) 0 [] (World.ownsRow_nil _ _ _ _) ad m c ys hl hnews h1
          (by unfold maxLen; omega) (by have : (0 + m) * bytes ≤ 100000000 * 1000 := Nat.mul_le_mul (show 0 + m ≤ 100000000 by omega) hby; omega) hbase
        rw [Nat.zero_add, List.nil_append] at q2
        exact ⟨v', w', run_app0 hu hi (by omega) q1, q2, own_below (Below.refl _ _) (Nat.le_refl _) (fun k hk => by cases hk) q3⟩
  obtain ⟨v', w', hrun, q1, q2⟩ := main
  unfold Oper.wp execOp
  simp only [ho, resolve, invoke, builtin, Sem.run_bind, Sem.run_pure, Result.andThen_ok, List.map_toArray, List.map_cons, List.map_nil, hs, hx, hrun]
  exact hK _ _ (h v' w' q1 q2)
end Go.Proofs.YtpmbgcfnehplaaaDoor
end
