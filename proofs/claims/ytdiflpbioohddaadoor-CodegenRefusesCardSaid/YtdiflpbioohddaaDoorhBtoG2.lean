/- Several texts in one: B G1 Mj Nc Vp K Q O V1 V3 As V4 V8 V9 Ve G2. -/
import Derived.Test.YtdiflpbioohddaaDoorhPltoA
import Derived.Deep.RegionHeld3
import Derived.Laws.MakeOwn
import Derived.ProofKit
import Derived.Lib.SmallJoins
import Derived.Deep.RegionLaw
import Derived.Maps.AppendAt
import Derived.Defers
import Derived.Handy
set_option linter.unusedVariables false
set_option linter.unusedSimpArgs false
section
namespace Go.Proofs.YtdiflpbioohddaaDoor
open Go.RowKit
def wordF (b f r o : Int) (x : Int) : Int := lowW b f r o + withinF (wrap64 (x - lowW b f r o)) (highW b f r o - lowW b f r o + 1)
def wordsF (b f r o : Int) (l : List Int) (count : Nat) : List Int := (List.range count).map fun (i : Nat) => wordF b f r o (atF l i)
theorem wordsF_succ (b f r o : Int) (l : List Int) (k : Nat) : wordsF b f r o l (k + 1) = wordsF b f r o l k ++ [wordF b f r o (atF l k)] := by
  simp [wordsF, List.range_succ]
theorem wordsF_length (b f r o : Int) (l : List Int) (k : Nat) : (wordsF b f r o l k).length = k := by simp [wordsF]
theorem wd_Words (b f r o : Int) (A : Option Addr) (l : List Int) (c : Nat) (n : Nat) (w : World) (hn : n ≤ 1000000) (h : Ints w A l) :
    Calls Tryd.prog 19 #[wordV b f r o, .slice A l.length c, .int .i64 n] w fun e w' => ∃ v, e = .returned v ∧ Own w.heap.size w' v (wordsF b f r o l n) ∧ Below w.heap.size w w' := by
  go_enter Tryd.func19, Tryd.ntmps19
  go_wp2
  go_loopw [7, 8] (fun v i wr => ∃ k : Nat, k ≤ n ∧ i = .int .i64 k ∧ Own (w.heap.size + 1) wr v (wordsF b f r o l k) ∧ Below (w.heap.size + 1) (w.alloc (.cells #[.int .i64 b, .int .i64 f, .int .i64 r, .int .i64 o] 23)) wr) (fun _ i _ => n - (intOf i).toNat)
  case atStart => exact ⟨0, Nat.zero_le _, rfl, Own.nil, Below.refl _ _⟩
  case round =>
    obtain ⟨k, hk, rfl, hown, hbw⟩ := hrel
    by_cases hlt : k < n
    · have HS := Lib.hid (wordsF_succ b f r o l k)
      have hlen' : (wordsF b f r o l k).length < 100000000 := by rw [wordsF_length]; omega
      obtain ⟨L, hL⟩ : ∃ L, lowW b f r o = L := ⟨_, rfl⟩
      obtain ⟨H, hH⟩ : ∃ H, highW b f r o = H := ⟨_, rfl⟩
      obtain ⟨q1, q2, q3, q4⟩ := low_high b f r o
      rw [hL] at q1 q2
      rw [hH] at q3 q4
      obtain ⟨g1, g2⟩ := within_in (m := H - L + 1) (by omega) (wrap64 (atF l k - L))
      obtain ⟨y, hy⟩ : ∃ y, withinF (wrap64 (atF l k - L)) (H - L + 1) = y := ⟨_, rfl⟩
      have HY : Hid (wordF b f r o (atF l k) = L + y) := by unfold wordF; rw [hL, hH, hy]; exact rfl
      rw [hy] at g1 g2
      have hI : I64 (L + y) := ⟨by omega, by omega⟩
      have hsz : w.heap.size + 1 ≤ wr.drew.heap.size := by have := hbw.size; simp at this; show _ ≤ wr.heap.size; omega
      have hbw2 := hbw.drew
      have hown2 : Own (w.heap.size + 1) wr.drew _ _ := hown
      have hm : H - L + 1 ≤ 9223372036854775807 := by omega
      obtain ⟨X, hX⟩ : ∃ X, IntKind.i64.wrap (atF l k - L) = X := ⟨_, rfl⟩
      have hy2 : withinF X (H - L + 1) = y := by rw [← hX, IntKind.wrap_i64]; unfold wrap64 at hy; exact hy
      have e1 : IntKind.i64.wrap (H - L) = H - L := IntWalk.i64_in _ (by omega)
      have e2 : IntKind.i64.wrap (H - L + 1) = H - L + 1 := IntWalk.i64_in _ (by omega)
      have e3 : IntKind.i64.wrap (L + y) = L + y := IntWalk.i64_in _ (by omega)
      clear hown hbw hy
      go_wp2_with fail
      go_region_held3 (fun w' => (w'.cell? ⟨w.heap.size, 0, none⟩ = some (.int .i64 b) ∧ w'.cell? ⟨w.heap.size, 1, none⟩ = some (.int .i64 f) ∧ w'.cell? ⟨w.heap.size, 2, none⟩ = some (.int .i64 r) ∧ w'.cell? ⟨w.heap.size, 3, none⟩ = some (.int .i64 o)))
        (first | exact box4_S (by assumption) | exact box4_S (hbw2.alloc hsz _))
        (first
          | (go_at_call 50; refine (rf_Low _ _ _ _ _).mono ?_; rintro e w1 ⟨rfl, hb1⟩; have hown2 := hown2.grow hb1; have hbw2 := hbw2.trans (hb1.mono hsz); have hsz := Nat.le_trans hsz hb1.size)
          | (go_at_call 51; refine (rf_High _ _ _ _ _).mono ?_; rintro e w1 ⟨rfl, hb1⟩; have hown2 := hown2.grow hb1; have hbw2 := hbw2.trans (hb1.mono hsz); have hsz := Nat.le_trans hsz hb1.size)
          | (go_at_call 24; refine (wd_At _ _ _ _ _ (h.grow (below_box hbw2))).mono ?_; rintro e w1 ⟨rfl, rfl⟩)
          | (go_at_call 23; refine (wd_Within _ _ _ hm).mono ?_; rintro e w1 ⟨rfl, rfl⟩)
          | ((with_reducible refine step_app_int _ rfl (.tmp 14) (.tmp 31) rfl (w.heap.size + 1) hown2 ?_ ?_ ?_ hlen' hsz hI ?_); (exact rfl); (exact rfl); (exact rfl); intro v1 w1 hown3 hbel1; have hbw2 := hbw2.trans hbel1))
      clear e1 e2 e3 hX hy2
      go_wp2
      go_roundw
      case rel => exact ⟨k + 1, by omega, by go_num, by rw [HS.out, HY.out]; exact hown3, hbw2⟩
      case measure => simp [intOf]; omega
    · go_wp2
      go_ret
      obtain rfl : k = n := by omega
      exact ⟨_, rfl, hown.base (by omega), below_box hbw⟩
end Go.Proofs.YtdiflpbioohddaaDoor
end
section
namespace Go.Proofs.YtdiflpbioohddaaDoor
theorem pigeon : ∀ (S k : Nat) (f : Nat → Nat), (∀ i, i ≤ k → f i < S) → (∀ i j, i ≤ k → j ≤ k → f i = f j → i = j) → k < S
  | 0, _, _, h, _ => absurd (h 0 (Nat.zero_le _)) (Nat.not_lt_zero _)
  | S + 1, 0, _, _, _ => Nat.succ_pos _
  | S + 1, k + 1, f, h, inj => by
    have key : k < S := by
      refine pigeon S k (fun i => if f i = S then f (k + 1) else f i) ?_ ?_
      · intro i hi
        show (if f i = S then f (k + 1) else f i) < S
        split
        · rename_i hs
          have h1 := h (k + 1) (Nat.le_refl _)
          have h2 : f (k + 1) ≠ S := fun e => by have := inj i (k + 1) (by omega) (Nat.le_refl _) (hs.trans e.symm); omega
          omega
        · have := h i (by omega); omega
      · intro i j hi hj
        show (if f i = S then f (k + 1) else f i) = (if f j = S then f (k + 1) else f j) → i = j
        split <;> split
        · rename_i h1 h2
          exact fun _ => inj i j (by omega) (by omega) (h1.trans h2.symm)
        · intro e
          have := inj (k + 1) j (Nat.le_refl _) (by omega) e
          omega
        · intro e
          have := inj i (k + 1) (by omega) (Nat.le_refl _) e
          omega
        · exact fun e => inj i j (by omega) (by omega) e
    omega
def foll (nx : List Int) (a : Nat) : Option Nat := nx.findIdx? (fun v => v == (a : Int) + 1)
theorem foll_some {nx : List Int} {a b : Nat} (h : foll nx a = some b) : nx[b]? = some ((a : Int) + 1) ∧ ∀ j, j < b → nx[j]? ≠ some ((a : Int) + 1) := by
  unfold foll at h
  obtain ⟨hb, h1, h2⟩ := List.findIdx?_eq_some_iff_getElem.1 h
  refine ⟨by rw [List.getElem?_eq_getElem hb]; simpa using h1, fun j hj e => ?_⟩
  have hjl : j < nx.length := by omega
  have := h2 j hj
  rw [List.getElem?_eq_getElem hjl] at e
  injection e with e
  simp [e] at this
theorem foll_lt {nx : List Int} {a b : Nat} (h : foll nx a = some b) : b < nx.length := (List.getElem?_eq_some_iff.1 (foll_some h).1).1
theorem foll_inj {nx : List Int} {a a' b : Nat} (h : foll nx a = some b) (h' : foll nx a' = some b) : a = a' := by
  have h1 := (foll_some h).1
  rw [(foll_some h').1] at h1
  injection h1 with h1
  omega
def ledP (nx : List Int) (s : Nat) : Prop := ∃ a, a < nx.length ∧ foll nx a = some s
def itF (nx : List Int) (s : Nat) : Nat → Option Nat
  | 0 => some s
  | k + 1 => (itF nx s k).bind (foll nx)
theorem it_lt {nx : List Int} {s : Nat} (hs : s < nx.length) : ∀ k x, itF nx s k = some x → x < nx.length
  | 0, x, h => by injection h with h; omega
  | k + 1, x, h => by
    obtain ⟨y, _, h2⟩ := Option.bind_eq_some_iff.1 h
    exact foll_lt h2
theorem it_down {nx : List Int} {s k : Nat} {x : Nat} (h : itF nx s (k + 1) = some x) : ∃ y, itF nx s k = some y ∧ foll nx y = some x := by
  obtain ⟨y, h1, h2⟩ := Option.bind_eq_some_iff.1 h
  exact ⟨y, h1, h2⟩
theorem it_some {nx : List Int} {s : Nat} : ∀ {k j x}, itF nx s k = some x → j ≤ k → ∃ y, itF nx s j = some y
  | 0, j, x, h, hj => ⟨x, by rw [show j = 0 by omega]; exact h⟩
  | k + 1, j, x, h, hj => by
    rcases Nat.lt_or_ge k j with h1 | h1
    · exact ⟨x, by rw [show j = k + 1 by omega]; exact h⟩
    · obtain ⟨y, h2, _⟩ := it_down h
      exact it_some h2 h1
theorem it_ne {nx : List Int} {s : Nat} (hs : s < nx.length) (hl : ¬ ledP nx s) : ∀ i d x, itF nx s i = some x → itF nx s (i + d + 1) ≠ some x
  | 0, d, x, h, h2 => by
    injection h with h
    subst h
    obtain ⟨y, h3, h4⟩ := it_down (k := 0 + d) h2
    exact hl ⟨y, it_lt hs _ _ h3, h4⟩
  | i + 1, d, x, h, h2 => by
    obtain ⟨y, h3, h4⟩ := it_down h
    rw [show i + 1 + d + 1 = (i + d + 1) + 1 by omega] at h2
    obtain ⟨z, h5, h6⟩ := it_down h2
    have e := foll_inj h4 h6
    subst e
    exact it_ne hs hl i d y h3 h5
theorem it_short {nx : List Int} {s : Nat} (hs : s < nx.length) (hl : ¬ ledP nx s) {k x : Nat} (h : itF nx s k = some x) : k < nx.length := by
  refine pigeon nx.length k (fun i => (itF nx s i).getD 0) ?_ ?_
  · intro i hi
    obtain ⟨y, hy⟩ := it_some h hi
    simp only [hy, Option.getD_some]
    exact it_lt hs i y hy
  · have main : ∀ i j, i < j → j ≤ k → (itF nx s i).getD 0 ≠ (itF nx s j).getD 0 := by
      intro i j hij hj e
      obtain ⟨y, hy⟩ := it_some h (show i ≤ k by omega)
      obtain ⟨z, hz⟩ := it_some h hj
      rw [hy, hz] at e
      simp at e
      subst e
      exact it_ne hs hl i (j - i - 1) y hy (by rw [show i + (j - i - 1) + 1 = j by omega]; exact hz)
    intro i j hi hj e
    rcases Nat.lt_trichotomy i j with h1 | h1 | h1
    · exact absurd e (main i j h1 hj)
    · exact h1
    · exact absurd e.symm (main j i h1 hi)
def preF (nx : List Int) (s : Nat) : Nat → List Int
  | 0 => []
  | k + 1 => preF nx s k ++ (match itF nx s k with | some x => [(x : Int)] | none => [])
def lineF (nx : List Int) (s : Nat) : List Int := preF nx s nx.length
theorem pre_some {nx : List Int} {s k x : Nat} (h : itF nx s k = some x) : preF nx s (k + 1) = preF nx s k ++ [(x : Int)] := by
  show preF nx s k ++ (match itF nx s k with | some x => [(x : Int)] | none => []) = _
  rw [h]
theorem it_none {nx : List Int} {s k : Nat} (h : itF nx s k = none) : ∀ d, itF nx s (k + d) = none
  | 0 => h
  | d + 1 => by
    show (itF nx s (k + d)).bind (foll nx) = none
    rw [it_none h d]; rfl
theorem pre_end {nx : List Int} {s k : Nat} (h : itF nx s k = none) : ∀ d, preF nx s (k + d) = preF nx s k
  | 0 => rfl
  | d + 1 => by
    show preF nx s (k + d) ++ (match itF nx s (k + d) with | some x => [(x : Int)] | none => []) = _
    rw [it_none h d, pre_end h d]
    simp
theorem pre_line {nx : List Int} {s k : Nat} (h : itF nx s k = none) (hk : k ≤ nx.length) : preF nx s k = lineF nx s := by
  unfold lineF
  have := pre_end h (nx.length - k)
  rw [show k + (nx.length - k) = nx.length by omega] at this
  exact this.symm
theorem pre_length {nx : List Int} {s : Nat} : ∀ {k x}, itF nx s k = some x → (preF nx s (k + 1)).length = k + 1
  | 0, x, h => by rw [pre_some h]; simp [preF]
  | k + 1, x, h => by
    obtain ⟨y, h1, _⟩ := it_down h
    rw [pre_some h, List.length_append, pre_length h1]; rfl
end Go.Proofs.YtdiflpbioohddaaDoor
end
section
namespace Go.Proofs.YtdiflpbioohddaaDoor
open Go.RowKit
def el (l : List Int) (k : Nat) : Int := l[k]?.getD 0
end Go.Proofs.YtdiflpbioohddaaDoor
end
section
namespace Go.Proofs.YtdiflpbioohddaaDoor
open Go.RowKit
theorem fits_iff {b f r o v : Int} : fitsW b f r o v = true ↔ okW b f r o = true ∧ lowW b f r o ≤ v ∧ v ≤ highW b f r o := by
  unfold fitsW; rw [Bool.and_eq_true, inB_iff]
end Go.Proofs.YtdiflpbioohddaaDoor
end
section
namespace Go.Proofs.YtdiflpbioohddaaDoor
open Go.RowKit
abbrev Lft := Bool × Int × List Int × Int
def chS (c : List Int) (st : Int) (o : List Int) (n : Nat) : Nat → Int
  | 0 => 0
  | k + 1 => chS c st o n k + el c k * el o (((n : Int) + st + k) % (o.length : Int)).toNat
def chF (s : Lft) (o : List Int) (n : Nat) : Int := shiftF (chS s.2.2.1 s.2.1 o n s.2.2.1.length) s.2.2.2 1
def stN (s : Lft) (g : Int) (to fr : List Int) (K : Nat) : List Int := (List.range to.length).map fun n => if n < K then wrapF 32 (el to n + g * chF s fr n) else el to n
def stF (s : Lft) (g : Int) (to fr : List Int) : List Int := stN s g to fr to.length
end Go.Proofs.YtdiflpbioohddaaDoor
end
section
namespace Go.Proofs.YtdiflpbioohddaaDoor
open Go.RowKit
theorem Own.cell {base : Nat} {w : World} {g n c : Nat} {l : List Int} (h : Own base w (.slice (some ⟨g, 0, none⟩) n c) l) {k : Nat} {y : Int} (hk : l[k]? = some y) : w.cell? ⟨g, k, none⟩ = some (.int .i64 y) := by
  obtain ⟨A, c', e, _⟩ := own_form h.1
  injection e with _ e2
  subst e2
  have hkl := (List.getElem?_eq_some_iff.1 hk).1
  rw [h.1.cellAt k (by omega), List.getElem?_map, hk]; rfl
theorem Own.free {base : Nat} {w : World} {g n c : Nat} {l : List Int} (h : Own base w (.slice (some ⟨g, 0, none⟩) n c) l) (k : Nat) : w.frozen? ⟨g, k, none⟩ = false := by
  obtain ⟨A, c', e, _⟩ := own_form h.1
  injection e with _ e2
  subst e2
  exact h.1.frozenAt k
theorem Own.block {base : Nat} {w : World} {g n c : Nat} {l : List Int} (h : Own base w (.slice (some ⟨g, 0, none⟩) n c) l) : base ≤ g ∧ g < w.heap.size := h.1.lt g rfl
theorem Own.set {base : Nat} {w : World} {g n c : Nat} {l : List Int} (h : Own base w (.slice (some ⟨g, 0, none⟩) n c) l) (k : Nat) {y : Int} (hy : I64 y) :
    Own base (w.setCell ⟨g, k, none⟩ (.int .i64 y)) (.slice (some ⟨g, 0, none⟩) n c) (l.set k y) := by
  obtain ⟨A, c', e, _⟩ := own_form h.1
  injection e with _ e2
  subst e2
  have := (h.1.stored k (.int .i64 y)).1
  refine ⟨by rw [List.length_set, List.map_set]; exact this, fun q hq => ?_⟩
  rcases List.mem_or_eq_of_mem_set hq with hq | hq
  · exact h.2 q hq
  · rw [hq]; exact hy
theorem below_set {base : Nat} {a w : World} {g k : Nat} {u : Value} (h : Below base a w) (hg : base ≤ g) : Below base a (w.setCell ⟨g, k, none⟩ u) := h.setCell hg u
theorem zeros_cells (n : Nat) : (madeCells (Value.int .i64 0).cells (n * 1)).toList = (List.replicate n (0 : Int)).map (Value.int .i64) := by
  apply List.ext_getElem?
  intro k
  simp only [madeCells, Value.cells, Array.toList_map, Array.toList_range, List.getElem?_map, List.getElem?_replicate, Nat.mul_one]
  rcases Nat.lt_or_ge k n with h | h
  · rw [List.getElem?_range h]; simp [h, Nat.mod_one]
  · rw [List.getElem?_eq_none (by simpa using h)]; simp; omega
theorem mk_int {ops : Array Oper} {rest : List Oper} {o : Oper} {a : Act} {Q : Exit → Act → World → Prop} {w : World} (hg : o.guard = none) (s c : Operand) (hop : o.op = Op.makeSlice 25 s c)
    (base n : Nat) {N : Int} (hs : a.eval s = .int .i64 N) (hc : a.eval c = .int .i64 N) (hN : N = (n : Int)) (hn : n ≤ 100000000) (hb : base ≤ w.heap.size)
    (h : ∀ w', Own base w' (.slice (some ⟨w.heap.size, 0, none⟩) n n) (List.replicate n 0) → Below w.heap.size w w' → wpList Tryd.prog ops Q rest (a.put o.dst (.slice (some ⟨w.heap.size, 0, none⟩) n n)) w') :
    wpList Tryd.prog ops Q (o :: rest) a w := by
  subst hN
  obtain ⟨i0, hi, hz0, hz1, hz2⟩ := info_parts info_int
  refine wpList_make_full w hg s c 25 hop base 3 i0 (.int .i64 0) 1 Tryd.underlying25 hi hz0 hz1 .i64 .i64 n n n hs hc rfl rfl (by rw [hz2]; omega) (by unfold maxLen; omega) hb fun w' h1 h2 => h w' ⟨?_, ?_⟩ ?_
  · rw [List.length_replicate, ← zeros_cells]; exact h1
  · intro q hq; rw [List.eq_of_mem_replicate hq]; exact ⟨by decide, by decide⟩
  · exact (Below.refl _ _).grown h2 (Nat.le_refl _) (by intro k hk; cases hk)
def RetInts1 (w : World) (l : List Int) (e : Ending) (w' : World) : Prop := ∃ v, e = .returned v ∧ Own w.heap.size w' v l ∧ Below w.heap.size w w'
theorem RetInts1.mk {w w' : World} {l : List Int} {v : Value} (ho : Own w.heap.size w' v l) (hb : Below w.heap.size w w') : RetInts1 w l (.returned v) w' := ⟨v, rfl, ho, hb⟩
end Go.Proofs.YtdiflpbioohddaaDoor
end
section
namespace Go.Proofs.YtdiflpbioohddaaDoor
open Go.RowKit
def IntsL (w : World) (A : Option Addr) (ll : List (List Int)) : Prop :=
  ∀ k l, ll[k]? = some l → ∃ ad B c, A = some ad ∧ ad.block < w.heap.size ∧ w.cell? (ad.add k) = some (.slice B l.length c) ∧ Ints w B l
theorem IntsL.nil {w : World} {A : Option Addr} : IntsL w A [] := fun k l h => by simp at h
theorem IntsL.grow {w w' : World} {A : Option Addr} {ll : List (List Int)} (h : IntsL w A ll) (hb : Below w.heap.size w w') : IntsL w' A ll := fun k l hk => by
  obtain ⟨ad, B, c, e, h1, h2, h3⟩ := h k l hk
  exact ⟨ad, B, c, e, Nat.lt_of_lt_of_le h1 hb.size, (hb.cell (by rw [block_add]; exact h1)).trans h2, h3.grow hb⟩
theorem IntsL.at_ {w : World} {A : Option Addr} {ll : List (List Int)} (h : IntsL w A ll) {k : Nat} (hk : k < ll.length) :
    ∃ ad l B c, A = some ad ∧ ad.block < w.heap.size ∧ ll[k]? = some l ∧ w.cell? (ad.add k) = some (.slice B l.length c) ∧ Ints w B l := by
  obtain ⟨ad, B, c, e, h1, h2, h3⟩ := h k ll[k] (List.getElem?_eq_getElem hk)
  exact ⟨ad, ll[k], B, c, e, h1, List.getElem?_eq_getElem hk, h2, h3⟩
theorem own_store {w : World} {base n size g k : Nat} {e : TypeId} {v u : Value} {xs : List Value} (h : w.ownsRow base e size v n xs) (hg : g < base) : (w.setCell ⟨g, k, none⟩ u).ownsRow base e size v n xs := by
  obtain ⟨h1, h2 | ⟨q, cap, cur, hv, hq, hh, r⟩⟩ := h
  · exact ⟨h1, .inl h2⟩
  · exact ⟨h1, .inr ⟨q, cap, cur, hv, hq, (Below.heap_setCell w _ u q (by show q ≠ g; omega)).trans hh, r⟩⟩
theorem info_ints : (Tryd.prog.info? 25).map (fun i => (i.zero, i.size, i.bytes)) = some (some (.slice none 0 0), 1, 24) := by kernel_rfl
theorem Own.store {w : World} {base g k : Nat} {v u : Value} {l : List Int} (h : Own base w v l) (hg : g < base) : Own base (w.setCell ⟨g, k, none⟩ u) v l := ⟨own_store h.1 hg, h.2⟩
def RetIntsL (w : World) (ll : List (List Int)) (E : Int) (e : Ending) (w' : World) : Prop := ∃ A c, e = .returned (.tuple #[.slice A ll.length c, .int .i64 E]) ∧ IntsL w' A ll ∧ Below w.heap.size w w'
theorem RetIntsL.mk {w w' : World} {ll : List (List Int)} {E : Int} {A : Option Addr} {n c : Nat} (hn : n = ll.length) (ho : IntsL w' A ll) (hb : Below w.heap.size w w') : RetIntsL w ll E (.returned (.tuple #[.slice A n c, .int .i64 E])) w' := by
  subst hn; exact ⟨A, c, rfl, ho, hb⟩
end Go.Proofs.YtdiflpbioohddaaDoor
end
section
set_option maxRecDepth 100000
namespace Go.Proofs.YtdiflpbioohddaaDoor
open Go.Joins Go.ChangeShapes Go.WideShapes Go.RowKit
theorem cell_lt {w : World} {a : Addr} {v : Value} (h : w.cell? a = some v) : a.block < w.heap.size := by
  rcases Nat.lt_or_ge a.block w.heap.size with hl | hl
  · exact hl
  · unfold World.cell? at h; rw [Array.getElem?_eq_none hl] at h; cases h
theorem open_Ints {H : Type} {enc : TypeId × Value → H} {w : World} {base : Nat} {spare : Nat → Bool} {held : Bool} {r : Reach} {b0 : Nat} {v : Value} {d : DataW H} {p : List MemPlace}
    (hv : Value.okWide Tryd.prog w r b0 25 v) (h : DataW.Trod enc Tryd.prog w base spare held 25 v d p) :
    ∃ u : Option Addr × Nat × List Int, v = .slice u.1 u.2.2.length u.2.1 ∧ (Ints w u.1 u.2.2 ∧ u.2.2.length ≤ 9223372036854775807) := by
  obtain ⟨A, len, cap, rfl⟩ := okWide_slice Tryd.underlying25 hv
  obtain ⟨fuel, hf⟩ := h
  rcases open_ints Tryd.underlying25 Tryd.underlying3 (by kernel_rfl) hf with ⟨hcs, _⟩ | ⟨x, l, c, zs, hcs, _, hl, hm, hz, _, hcell, hwz⟩
  · simp [Value.cells] at hcs
    obtain ⟨rfl, rfl, rfl⟩ := hcs
    exact ⟨⟨none, 0, []⟩, rfl, Ints.nil, by simp⟩
  · simp [Value.cells] at hcs
    obtain ⟨rfl, rfl, rfl⟩ := hcs
    have hlz : len ≤ zs.length := by rw [hz]; split <;> omega
    have hlen : (zs.take len).length = len := by simp; omega
    refine ⟨⟨some x, cap, zs.take len⟩, by rw [hlen], ⟨fun k v hk => ?_, fun y hy => i64_of_wf (hwz y (List.mem_of_mem_take hy))⟩, by rw [hlen]; unfold maxLen at hm; omega⟩
    rw [List.getElem?_map] at hk
    cases hx : (zs.take len)[k]? with
    | none => rw [hx] at hk; cases hk
    | some q =>
      rw [hx] at hk
      simp only [Option.map_some, Option.some.injEq] at hk
      subst hk
      have hkl : k < len := by
        have := (List.getElem?_eq_some_iff.1 hx).1
        omega
      rw [List.getElem?_take_of_lt hkl] at hx
      have hc := hcell k (by omega)
      rw [List.getD_eq_getElem?_getD, hx] at hc
      have hb := cell_lt hc
      rw [block_add] at hb
      exact ⟨x, rfl, hb, hc⟩
end Go.Proofs.YtdiflpbioohddaaDoor
end
section
namespace Go.Proofs.YtdiflpbioohddaaDoor
open Go.RowKit
theorem grown_refl (w : World) (r : Option Nat) : w.grownBy w r := ⟨rfl, rfl, rfl, Nat.le_refl _, fun _ _ _ => rfl⟩
theorem grown_below {a w w' : World} {r : Option Nat} (h : a.grownBy w r) (hb : Below w.heap.size w w') : a.grownBy w' r :=
  ⟨hb.os.trans h.os, hb.tape.trans h.tape, hb.output.trans h.output, Nat.le_trans h.size hb.size, fun k hk hr => (hb.block k (Nat.lt_of_lt_of_le hk h.size)).trans (h.block k hk hr)⟩
theorem grown_set {a w : World} {g k : Nat} {u : Value} (h : a.grownBy w (some g)) : a.grownBy (w.setCell ⟨g, k, none⟩ u) (some g) :=
  h.trans ⟨rfl, rfl, rfl, by simp [World.setCell], fun i _ hr => Below.heap_setCell w _ u i (by show i ≠ g; intro e; exact hr (by rw [e]))⟩
theorem grown_to {w a w' : World} {g : Nat} (h0 : Below w.heap.size w a) (h : a.grownBy w' (some g)) (hg : w.heap.size ≤ g) : Below w.heap.size w w' :=
  h0.trans ⟨h.os, h.tape, h.output, h.size, fun k hk => h.block k (Nat.lt_of_lt_of_le hk h0.size) (by intro e; injection e with e; omega)⟩
theorem Ints.kept {w w' : World} {A : Option Addr} {l : List Int} {r : Option Nat} (h : Ints w A l) (hg : w.grownBy w' r) (hne : l ≠ [] → ∀ ad, A = some ad → some ad.block ≠ r) : Ints w' A l := by
  refine ⟨fun k v hk => ?_, h.2⟩
  obtain ⟨ad, e, h1, h2⟩ := h.1 k v hk
  exact ⟨ad, e, Nat.lt_of_lt_of_le h1 hg.size, hg.cell h2 (by rw [block_add]; exact hne (by intro hc; rw [hc] at hk; simp at hk) ad e)⟩
theorem Ints.block {w : World} {A : Option Addr} {l : List Int} (h : Ints w A l) (hl : l ≠ []) {ad : Addr} (e : A = some ad) : ad.block < w.heap.size := by
  obtain ⟨ad', x, e', hb, _⟩ := h.at_ (k := 0) (List.length_pos_iff.2 hl)
  rw [e] at e'; injection e' with e'; rw [e']; exact hb
end Go.Proofs.YtdiflpbioohddaaDoor
end
section
namespace Go.Proofs.YtdiflpbioohddaaDoor
open Go.RowKit
theorem Own.kept {base : Nat} {w w' : World} {v : Value} {l : List Int} {r : Option Nat} (h : Own base w v l) (hg : w.grownBy w' r) (hne : v.ownBlock = none ∨ v.ownBlock ≠ r) : Own base w' v l := ⟨h.1.kept hg hne, h.2⟩
theorem Own.ints {base : Nat} {w : World} {A : Option Addr} {n c : Nat} {l : List Int} (h : Own base w (.slice A n c) l) : Ints w A l := by
  obtain ⟨A', c', e, _, hi⟩ := h.form
  injection e with e
  rw [e]; exact hi
theorem Own.len {base : Nat} {w : World} {A : Option Addr} {n c : Nat} {l : List Int} (h : Own base w (.slice A n c) l) : n = l.length := by
  obtain ⟨A', c', e, _, _⟩ := h.form
  injection e
theorem Own.other {base : Nat} {w : World} {g g' k n c : Nat} {l : List Int} {u : Value} (h : Own base w (.slice (some ⟨g, 0, none⟩) n c) l) (hne : g ≠ g') : Own base (w.setCell ⟨g', k, none⟩ u) (.slice (some ⟨g, 0, none⟩) n c) l :=
  h.kept (grown_set (grown_refl w (some g'))) (.inr (by show some g ≠ some g'; intro e; injection e with e; exact hne e))
theorem Own.kept_at {base : Nat} {w w' : World} {g g' n c : Nat} {l : List Int} (h : Own base w (.slice (some ⟨g, 0, none⟩) n c) l) (hg : w.grownBy w' (some g')) (hne : g ≠ g') : Own base w' (.slice (some ⟨g, 0, none⟩) n c) l :=
  h.kept hg (.inr (by show some g ≠ some g'; intro e; injection e with e; exact hne e))
end Go.Proofs.YtdiflpbioohddaaDoor
end
section
namespace Go.Proofs.YtdiflpbioohddaaDoor
open Go.RowKit
set_option maxRecDepth 100000 in
theorem run_app_ints (w : World) (base : Nat) (ty : TypeId) (v : Value) (l m : List Int) (A : Option Addr) (c : Nat) (hown : Own base w v l) (hI : Ints w A m) (hn : l.length + m.length ≤ 100000000) (hbase : base ≤ w.heap.size) :
    ∃ v' w', (Builtin.append_ #[25, 25] ty #[v, .slice A m.length c]).run Tryd.prog w = .ok v' w' ∧ Own base w' v' (l ++ m) ∧ w.grownBy w' v.ownBlock ∧ (v'.ownBlock = v.ownBlock ∨ v'.ownBlock = some w.heap.size) := by
  obtain ⟨i0, hi, hz0, hz1, hz2⟩ := info_parts info_int
  have h64 : ∀ x ∈ l ++ m, I64 x := fun x hx => by
    rcases List.mem_append.1 hx with hx | hx
    · exact hown.2 x hx
    · exact hI.2 x hx
  cases A with
  | none =>
    have hm : m = [] := by
      cases m with
      | nil => rfl
      | cons y t => obtain ⟨ad, _, e, _⟩ := hI.at_ (k := 0) (by simp); cases e
    subst hm
    refine ⟨v, w, ?_, by simpa using hown, ⟨rfl, rfl, rfl, Nat.le_refl _, fun _ _ _ => rfl⟩, .inl rfl⟩
    rcases hown.1.2 with ⟨rfl, _⟩ | ⟨g, cap, cur, rfl, _, _, hnc, _⟩
    · simp [Builtin.append_, run_underlying Tryd.underlying25, sizeOf, typeInfo, hi, Builtin.lenOf, Builtin.firstCells]
    · simp [Builtin.append_, run_underlying Tryd.underlying25, sizeOf, typeInfo, hi, Builtin.lenOf, Builtin.firstCells, hnc, storeCells]
  | some ad =>
    have hnews : ∀ j u, (m.map (Value.int .i64))[j]? = some u → w.cell? (ad.add j) = some u := fun j u hu => by
      obtain ⟨ad', e, _, h⟩ := hI.1 j u hu
      injection e with e
      rw [e]; exact h
    obtain ⟨v', w', h1, h2, h3, _, h5⟩ := run_append_own_at (P := Tryd.prog) w base 25 ty 3 i0 (.int .i64 0) 1 8 Tryd.underlying25 hi hz0 hz1 hz2 rfl (by decide) v l.length _ hown.1 ad m.length c (m.map (Value.int .i64)) (by simp) hnews
      (fun u hu => by obtain ⟨x, _, rfl⟩ := List.mem_map.1 hu; rfl) (by unfold maxLen; omega) (by omega) hbase
    refine ⟨v', w', h1, ⟨?_, h64⟩, h3, h5⟩
    rw [List.map_append, List.length_append]
    exact h2
theorem app_ints {ops : Array Oper} {rest : List Oper} {o : Oper} {a : Act} {Q : Exit → Act → World → Prop} (w : World) (hg : o.guard = none) (s x : Operand) (ho : o.op = .call { callee := .builtin .append, args := #[s, x], argTypes := #[25, 25] })
    (base : Nat) {v : Value} {l m : List Int} {A : Option Addr} {c : Nat} (hs : a.eval s = v) (hx : a.eval x = .slice A m.length c) (hown : Own base w v l) (hI : Ints w A m) (hn : l.length + m.length ≤ 100000000) (hbase : base ≤ w.heap.size)
    (h : ∀ v' w', Own base w' v' (l ++ m) → w.grownBy w' v.ownBlock → (v'.ownBlock = v.ownBlock ∨ v'.ownBlock = some w.heap.size) → wpList Tryd.prog ops Q rest (a.put o.dst v') w') : wpList Tryd.prog ops Q (o :: rest) a w := by
  refine wpList_plain hg fun K hK => ?_
  obtain ⟨v', w', hrun, h1, h2, h3⟩ := run_app_ints w base o.type v l m A c hown hI hn hbase
  unfold Oper.wp execOp
  simp only [ho, resolve, invoke, builtin, Sem.run_bind, Sem.run_pure, Result.andThen_ok, List.map_toArray, List.map_cons, List.map_nil, hs, hx, hrun]
  exact hK _ _ (h v' w' h1 h2 h3)
end Go.Proofs.YtdiflpbioohddaaDoor
end
section
namespace Go.Proofs.YtdiflpbioohddaaDoor
open Go.RowKit
theorem Own.empty {w : World} {g : Nat} (hg : g = w.heap.size) : Own g (w.alloc (.cells #[] 3)) (.slice (some ⟨g, 0, none⟩) 0 0) [] := by
  subst hg
  refine ⟨⟨rfl, .inr ⟨w.heap.size, 0, #[], rfl, Nat.le_refl _, heap_alloc_new w _, Nat.le_refl _, by simp, by simp, by simp⟩⟩, by simp⟩
end Go.Proofs.YtdiflpbioohddaaDoor
end
section
namespace Go.Proofs.YtdiflpbioohddaaDoor
open Go.RowKit
theorem add_cellsB (g k : Nat) : (⟨g, 0, none⟩ : Addr).add k = ⟨g, k, none⟩ := by
  unfold Addr.add
  by_cases h0 : k = 0 <;> simp [h0]
theorem litB {w : World} {cs : Array Value} {t : TypeId} {l : List Int} (hc : cs.toList = l.map (Value.int .i64)) (hl : l.all (fun x => decide (-9223372036854775808 ≤ x) && decide (x ≤ 9223372036854775807)) = true) : Ints (w.alloc (.cells cs t)) (some ⟨w.heap.size, 0, none⟩) l := by
  refine ⟨?_, fun x hx => by have := List.all_eq_true.1 hl x hx; simp at this; exact this⟩
  rw [← hc]
  intro k v hk
  refine ⟨_, rfl, by simp, ?_⟩
  rw [add_cellsB]
  simpa [go_sem] using hk
end Go.Proofs.YtdiflpbioohddaaDoor
end
section
namespace Go.Proofs.YtdiflpbioohddaaDoor
open Go.RowKit
theorem own_cells {base n c size : Nat} {e : TypeId} {A : Option Addr} {w : World} {xs : List Value} (h : w.ownsRow base e size (.slice A n c) n xs) {k : Nat} {v : Value} (hk : xs[k]? = some v) :
    ∃ g, A = some ⟨g, 0, none⟩ ∧ g < w.heap.size ∧ w.cell? ⟨g, k, none⟩ = some v := by
  obtain ⟨h1, h2 | ⟨g, cap, cur, hv, hg, hh, _, _, hs, ht⟩⟩ := h
  · obtain ⟨_, rfl⟩ := h2
    have : xs = [] := List.length_eq_zero_iff.1 (by omega)
    subst this; simp at hk
  · injection hv with hA _ _
    have hlt : g < w.heap.size := by
      rcases Nat.lt_or_ge g w.heap.size with h | h
      · exact h
      · rw [Array.getElem?_eq_none h] at hh; cases hh
    refine ⟨g, hA, hlt, ?_⟩
    rw [← ht, List.getElem?_take] at hk
    split at hk
    · simp [World.cell?, hh] 
      simpa using hk
    · cases hk
end Go.Proofs.YtdiflpbioohddaaDoor
end
section
namespace Go.Proofs.YtdiflpbioohddaaDoor
open Go.RowKit
def OwnB (base : Nat) (w : World) (v : Value) (ll : List (List Int)) : Prop :=
  ∃ cs : List Value, w.ownsRow base 25 1 v ll.length cs ∧ ∀ (k : Nat) l, ll[k]? = some l → ∃ C c, cs[k]? = some (.slice C l.length c) ∧ Ints w C l ∧ (l ≠ [] → ∀ a, C = some a → base ≤ a.block ∧ some a.block ≠ v.ownBlock)
theorem OwnB.nil {base : Nat} {w : World} : OwnB base w (.slice none 0 0) [] := ⟨[], World.ownsRow_nil _ _ _ _, fun k s h => by simp at h⟩
theorem OwnB.grow {base : Nat} {w w' : World} {v : Value} {ll : List (List Int)} (h : OwnB base w v ll) (hb : Below w.heap.size w w') : OwnB base w' v ll := by
  obtain ⟨cs, h1, h2⟩ := h
  refine ⟨cs, own_grow h1 hb, fun k s hk => ?_⟩
  obtain ⟨C, c, c0, hi, hn⟩ := h2 k s hk
  exact ⟨C, c, c0, hi.grow hb, hn⟩
theorem OwnB.base {base base' : Nat} {w : World} {v : Value} {ll : List (List Int)} (h : OwnB base w v ll) (hb : base' ≤ base) : OwnB base' w v ll := by
  obtain ⟨cs, h1, h2⟩ := h
  refine ⟨cs, own_base h1 hb, fun k s hk => ?_⟩
  obtain ⟨C, c, c0, hi, hn⟩ := h2 k s hk
  exact ⟨C, c, c0, hi, fun hl a ha => ⟨Nat.le_trans hb (hn hl a ha).1, (hn hl a ha).2⟩⟩
theorem Ints.other {w : World} {g k : Nat} {C : Option Addr} {l : List Int} {u : Value} (h : Ints w C l) (hn : l ≠ [] → ∀ a, C = some a → a.block ≠ g) : Ints (w.setCell ⟨g, k, none⟩ u) C l :=
  h.kept (grown_set (grown_refl w (some g))) (fun hl a ha e => by injection e with e; exact hn hl a ha e)
theorem OwnB.store {base g k : Nat} {w : World} {v u : Value} {ll : List (List Int)} (h : OwnB base w v ll) (hg : g < base) : OwnB base (w.setCell ⟨g, k, none⟩ u) v ll := by
  obtain ⟨cs, h1, h2⟩ := h
  refine ⟨cs, own_store h1 hg, fun k s hk => ?_⟩
  obtain ⟨C, c, c0, hi, hn⟩ := h2 k s hk
  exact ⟨C, c, c0, hi.other (fun hl a ha => by have := (hn hl a ha).1; omega), hn⟩
theorem OwnB.lt {base : Nat} {w : World} {v : Value} {ll : List (List Int)} (h : OwnB base w v ll) : ∀ b, v.ownBlock = some b → base ≤ b ∧ b < w.heap.size := fun b hb => by
  obtain ⟨cs, h1, _⟩ := h
  exact h1.lt b hb
theorem OwnB.form {base : Nat} {w : World} {v : Value} {ll : List (List Int)} (h : OwnB base w v ll) : ∃ A c, v = .slice A ll.length c ∧ IntsL w A ll := by
  obtain ⟨cs, h1, h2⟩ := h
  obtain ⟨A, c, rfl, _⟩ := own_form h1
  refine ⟨A, c, rfl, fun k l hk => ?_⟩
  obtain ⟨C, d, c0, hi, _⟩ := h2 k l hk
  obtain ⟨g, e0, hg, d0⟩ := own_cells h1 c0
  exact ⟨_, C, d, e0, hg, by rw [add_cellsB]; exact d0, hi⟩
theorem app_band {ops : Array Oper} {rest : List Oper} {o : Oper} {a : Act} {Q : Exit → Act → World → Prop} (W : World) (hgd : o.guard = none) (s x : Operand) (ho : o.op = .call { callee := .builtin .append, args := #[s, x], argTypes := #[74, 74] })
    (base : Nat) {v : Value} {ll : List (List Int)} {l : List Int} {n : Nat} {C : Option Addr} {c : Nat} (hown : OwnB base W v ll) (hs : a.eval s = v) (hx : a.eval x = .slice (some ⟨W.heap.size, 0, none⟩) 1 1) (hln : l.length = n) (hC : Ints W C l) (hne : l ≠ [] → ∀ a, C = some a → base ≤ a.block ∧ some a.block ≠ v.ownBlock)
    (hn : ll.length ≤ 1000) (hbase : base ≤ W.heap.size)
    (h : ∀ v' w', OwnB base w' v' (ll ++ [l]) → Below base W w' → (W.alloc (.cells #[.slice C n c] 25)).grownBy w' v.ownBlock → (v'.ownBlock = v.ownBlock ∨ v'.ownBlock = some (W.heap.size + 1)) → wpList Tryd.prog ops Q rest (a.put o.dst v') w') :
    wpList Tryd.prog ops Q (o :: rest) a (W.alloc (.cells #[.slice C n c] 25)) := by
  subst hln
  obtain ⟨i0, hi, hz0, hz1, hz2⟩ := info_parts info_ints
  obtain ⟨cs, hr, hcs⟩ := hown
  have hba := (Below.refl W.heap.size W).alloc (Nat.le_refl _) (.cells #[.slice C l.length c] 25)
  have hb0 := (Below.refl base W).alloc hbase (.cells #[.slice C l.length c] 25)
  obtain ⟨v', w', hrun, hr', hg, _, hob⟩ := run_append_own_at (P := Tryd.prog) (W.alloc (.cells #[.slice C l.length c] 25)) base 74 o.type 25 i0 _ 1 24 Tryd.underlying74 hi hz0 hz1 hz2 rfl (by decide) v ll.length cs (hr.alloc _) ⟨W.heap.size, 0, none⟩ 1 1 [.slice C l.length c] rfl
    (fun j u hu => by
      rw [add_cellsB]
      match j, hu with
      | 0, hu => simp at hu; subst hu; simp [go_sem])
    (fun u hu => by simp at hu; subst hu; rfl) (by unfold maxLen; omega) (by omega) (by simp; omega)
  refine wpList_plain hgd fun K hK => ?_
  unfold Oper.wp execOp
  simp only [ho, resolve, invoke, builtin, Sem.run_bind, Sem.run_pure, Result.andThen_ok, List.map_toArray, List.map_cons, List.map_nil, hs, hx, hrun]
  refine hK _ _ (h v' w' ?_ ?_ hg (by rcases hob with h1 | h1; exact .inl h1; exact .inr (by rw [h1]; simp)))
  · have keep : ∀ (C : Option Addr) (l : List Int), Ints W C l → (l ≠ [] → ∀ a, C = some a → base ≤ a.block ∧ some a.block ≠ v.ownBlock) → Ints w' C l ∧ (l ≠ [] → ∀ a, C = some a → base ≤ a.block ∧ some a.block ≠ v'.ownBlock) := fun C l hI hn => by
      refine ⟨(hI.grow hba).kept hg (fun hl a ha => (hn hl a ha).2), fun hl a ha => ⟨(hn hl a ha).1, fun e => ?_⟩⟩
      rcases hob with h1 | h1
      · exact (hn hl a ha).2 (e.trans h1)
      · rw [h1] at e
        injection e with e
        have := hI.block hl ha
        simp at e
        omega
    refine ⟨cs ++ [.slice C l.length c], by rw [List.length_append]; exact hr', fun k s hk => ?_⟩
    have hlen := hr.1
    rw [List.getElem?_append] at hk
    split at hk
    · rename_i hlt
      obtain ⟨C', c', c0, hI, hn'⟩ := hcs k s hk
      obtain ⟨k1, k2⟩ := keep C' _ hI hn'
      refine ⟨C', c', ?_, k1, k2⟩
      rw [List.getElem?_append_left (by omega)]; assumption
    · rename_i hlt
      have hk0 : k = ll.length := by
        rcases Nat.lt_or_ge (k - ll.length) 1 with h | h
        · omega
        · rw [List.getElem?_eq_none (by simpa using h)] at hk; cases hk
      subst hk0
      simp at hk
      subst hk
      obtain ⟨k1, k2⟩ := keep C _ hC hne
      refine ⟨C, c, ?_, k1, k2⟩
      rw [List.getElem?_append_right (by omega), show ll.length - cs.length = 0 by omega]; rfl
  · exact hb0.grown hg (by simp; omega) (fun k hk => (hr.lt k hk).1)
end Go.Proofs.YtdiflpbioohddaaDoor
end
section
namespace Go.Proofs.YtdiflpbioohddaaDoor
open Go.RowKit
def idxV (l : List Int) (v : Int) : Int := match l.findIdx? (fun x => x == v) with | some b => (b : Int) | none => -1
theorem idx_found {l : List Int} {v : Int} {k : Nat} (hk : l[k]? = some v) (h : ∀ j, j < k → l[j]? ≠ some v) : idxV l v = (k : Int) := by
  have e : l.findIdx? (fun x => x == v) = some k := by
    obtain ⟨hb, h1⟩ := List.getElem?_eq_some_iff.1 hk
    refine List.findIdx?_eq_some_iff_getElem.2 ⟨hb, by simp [h1], fun j hj => ?_⟩
    have := h j hj
    rw [List.getElem?_eq_getElem (by omega)] at this
    simpa using this
  unfold idxV
  rw [e]
theorem idx_none {l : List Int} {v : Int} (h : ∀ j, j < l.length → l[j]? ≠ some v) : idxV l v = -1 := by
  have e : l.findIdx? (fun x => x == v) = none := by
    refine List.findIdx?_eq_none_iff.2 fun x hx => ?_
    obtain ⟨j, hj, rfl⟩ := List.getElem_of_mem hx
    have := h j hj
    rw [List.getElem?_eq_getElem hj] at this
    simpa using this
  unfold idxV
  rw [e]
set_option maxRecDepth 100000 in
theorem sl_Index (A : Option Addr) (l : List Int) (c n : Nat) (v : Int) (w : World) (hn : l.length = n) (hl : n ≤ 9223372036854775807) (h : Ints w A l) :
    Calls Tryd.prog 66 #[.slice A n c, .int .i64 v] w fun e w' => e = .returned (.int .i64 (idxV l v)) ∧ w = w' := by
  have HN := Lib.hid hn
  clear hn
  go_enter Tryd.func66, Tryd.ntmps66
  go_wp2
  go_loop [5, 8] (fun _ i => ∃ k : Nat, k ≤ n ∧ i = .int .i64 k ∧ Hid (∀ j, j < k → l[j]? ≠ some v)) (fun _ i => n - (intOf i).toNat)
  case atStart => exact ⟨0, Nat.zero_le _, rfl, fun j hj => absurd hj (Nat.not_lt_zero _)⟩
  case round =>
    obtain ⟨k, hk, rfl, HA⟩ := hrel
    by_cases hlt : k < n
    · obtain ⟨ad, x, rfl, hb, hx, hc, i1, i2⟩ := h.at_ (k := k) (by have := HN.out; omega)
      by_cases he : v = x
      · subst he
        have HI := Lib.hid (idx_found hx HA.out)
        clear hx
        go_wp2
        go_ret
        exact ⟨ret_int HI.out.symm, rfl⟩
      · have HX := Lib.hid hx
        clear hx
        go_wp2
        go_round
        case rel => exact ⟨k + 1, by omega, by go_num, fun j hj e => by
          rcases Nat.lt_or_ge j k with h1 | h1
          · exact HA.out j h1 e
          · obtain rfl : j = k := by omega
            rw [HX.out] at e
            injection e with e
            exact he e.symm⟩
        case measure => simp [intOf]; omega
    · have HI := Lib.hid (idx_none (l := l) (v := v) fun j hj => HA.out j (by have := HN.out; omega))
      go_wp2
      go_ret
      exact ⟨ret_int HI.out.symm, rfl⟩
end Go.Proofs.YtdiflpbioohddaaDoor
end
