/- Several texts in one: Fz S Sm A Mj K Q O V1 V3 As V4 V8 G4 Vb Vc. -/
import Derived.Test.YtgdccmmcjicgkaaDoorsPltoFy
import Derived.Laws.OwnMore
import Derived.OwnWalk
import Derived.Test.YtgdccmmcjicgkaaDoorRows
import Derived.Laws.MakeOwn
import Derived.ProofKit
import Derived.Lib.SmallJoins
import Derived.Deep.RegionHeld3
import Derived.Deep.RegionLaw
import Derived.Maps.AppendAt
import Derived.Defers
import Derived.Handy
import Derived.Deep.DeepCutAuto
set_option linter.unusedVariables false
set_option linter.unusedSimpArgs false
section
namespace Go.Proofs.YtgdccmmcjicgkaaDoor
open Go.RowKit
theorem rf_Fits (b f r o v : Int) (w : World) : Calls Tryd.prog 67 #[wordV b f r o, .int .i64 v] w fun e w' => e = .returned (.bool (fitsW b f r o v)) ∧ Below w.heap.size w w' := by
  have hx := @Ext.cell
  rcases Bool.eq_false_or_eq_true (okW b f r o) with h | h
  all_goals
    go_enter Tryd.func67, Tryd.ntmps67
    go_wp2
    refine wp_region_ext (by kernel_rfl) (by kernel_rfl) ?_
    repeat (go_big_quiet_step (first
      | (go_at_call 75; exact ext_below (rf_Valid_is h _))
      | (go_at_call 56; exact ext_below (rf_Low _ _ _ _ _))
      | (go_at_call 57; exact ext_below (rf_High _ _ _ _ _))
      | (go_at_call 64; exact ext_same (rf_In _ _ _ _))))
    refine wpQuiet_nil ?_
    rintro _ ⟨⟨w1, hb1⟩, rfl⟩
    go_wp2
    go_ret
    exact ⟨ret_bool (by simp [fitsW, h]), ((Below.refl _ _).alloc (Nat.le_refl _) _).trans (hb1.mono (by simp))⟩
theorem fx_Fits (b f r o v : Int) (w : World) : Calls Tryd.prog 58 #[wordV b f r o, .int .i64 v] w fun e w' => e = .returned (.bool (fitsW b f r o v)) ∧ Below w.heap.size w w' := by
  rcases Bool.eq_false_or_eq_true (okW b f r o) with h | h
  · go_enter Tryd.func58, Tryd.ntmps58
    go_wp2_with (first
      | (go_at_call 73; refine (fx_Valid_is h _).mono ?_; rintro e w1 ⟨rfl, hb1⟩; obtain ⟨hc1, hf1⟩ := bcell hb1)
      | (go_at_call 92; refine (fx_Low _ _ _ _ _).mono ?_; rintro e w2 ⟨rfl, hb2'⟩; have hb2 := below_then hb1 hb2'; clear hb2'; obtain ⟨hc2, hf2⟩ := bcell hb2)
      | (go_at_call 93; refine (fx_High _ _ _ _ _).mono ?_; rintro e w3 ⟨rfl, hb3'⟩; have hb3 := below_then hb2 hb3'; clear hb3'))
    all_goals go_ret
    · exact ⟨ret_bool (by simp [fitsW, h, inB]; omega), ((Below.refl _ _).alloc (Nat.le_refl _) _).trans (hb3.mono (by simp))⟩
    · exact ⟨ret_bool (by simp [fitsW, h, inB]; omega), ((Below.refl _ _).alloc (Nat.le_refl _) _).trans (hb2.mono (by simp))⟩
  · go_enter Tryd.func58, Tryd.ntmps58
    go_wp2_with (first
      | (go_at_call 73; refine (fx_Valid_is h _).mono ?_; rintro e w1 ⟨rfl, hb1⟩))
    all_goals go_ret
    all_goals exact ⟨ret_bool (by simp [fitsW, h]), ((Below.refl _ _).alloc (Nat.le_refl _) _).trans (hb1.mono (by simp))⟩
theorem fx_Saturate (b f r o v : Int) (w : World) : Calls Tryd.prog 119 #[wordV b f r o, .int .i64 v] w fun e w' => e = .returned (.int .i64 (satW b f r o v)) ∧ Below w.heap.size w w' := by
  have hx := @Ext.cell
  go_enter Tryd.func119, Tryd.ntmps119
  go_wp2_with fail
  refine wp_region_ext (by kernel_rfl) (by kernel_rfl) ?_
  repeat (go_big_quiet_step (first
      | (go_at_call 92; exact ext_below (fx_Low _ _ _ _ _))
      | (go_at_call 93; exact ext_below (fx_High _ _ _ _ _))))
  refine wpQuiet_nil ?_
  rintro _ ⟨⟨w1, hb1⟩, rfl⟩
  rw [sat_if]
  simp only [max_if]
  go_wp2
  go_ret
  exact ⟨ret_int rfl, ((Below.refl _ _).alloc (Nat.le_refl _) _).trans (hb1.mono (by simp))⟩
theorem rf_Saturate (b f r o v : Int) (w : World) : Calls Tryd.prog 110 #[wordV b f r o, .int .i64 v] w fun e w' => e = .returned (.int .i64 (satW b f r o v)) ∧ Below w.heap.size w w' := by
  have hx := @Ext.cell
  go_enter Tryd.func110, Tryd.ntmps110
  go_wp2_with fail
  refine wp_region_ext (by kernel_rfl) (by kernel_rfl) ?_
  repeat (go_big_quiet_step (first
      | (go_at_call 56; exact ext_below (rf_Low _ _ _ _ _))
      | (go_at_call 57; exact ext_below (rf_High _ _ _ _ _))))
  refine wpQuiet_nil ?_
  rintro _ ⟨⟨w1, hb1⟩, rfl⟩
  rw [sat_if]
  simp only [max_if]
  go_wp2
  go_ret
  exact ⟨ret_int rfl, ((Below.refl _ _).alloc (Nat.le_refl _) _).trans (hb1.mono (by simp))⟩
theorem fx_Reduce (b f r o v : Int) (w : World) : Calls Tryd.prog 101 #[wordV b f r o, .int .i64 v] w fun e w' => e = .returned (.int .i64 (reduceW b f r o v)) ∧ Below w.heap.size w w' := by
  rcases Bool.eq_false_or_eq_true (okW b f r o) with h | h
  · rcases (show o = 1 ∨ o = 2 by have := okW_iff.1 h; omega) with rfl | rfl
    all_goals
      go_enter Tryd.func101, Tryd.ntmps101
      go_wp2_with (first
        | (go_at_call 73; refine (fx_Valid_is h _).mono ?_; rintro e w1 ⟨rfl, hb1⟩; obtain ⟨hc1, hf1⟩ := bcell hb1)
        | (go_at_call 118; refine (fx_Wrap _ _ _).mono ?_; rintro e w2 ⟨rfl, hb2⟩)
        | (go_at_call 119; refine (fx_Saturate _ _ _ _ _ _).mono ?_; rintro e w2 ⟨rfl, hb2⟩))
      go_ret
      refine ⟨ret_int (by simp [reduceW, h]), ?_⟩
      first
        | (subst hb2; exact ((Below.refl _ _).alloc (Nat.le_refl _) _).trans (hb1.mono (by simp)))
        | exact (((Below.refl _ _).alloc (Nat.le_refl _) _).trans (hb1.mono (by simp))).trans (hb2.mono (by have := hb1.size; simp at this; omega))
  · go_enter Tryd.func101, Tryd.ntmps101
    go_wp2_with (first
      | (go_at_call 73; refine (fx_Valid_is h _).mono ?_; rintro e w1 ⟨rfl, hb1⟩))
    go_ret
    exact ⟨ret_int (by simp [reduceW, h]), ((Below.refl _ _).alloc (Nat.le_refl _) _).trans (hb1.mono (by simp))⟩
theorem rf_Reduce (b f r o v : Int) (w : World) : Calls Tryd.prog 70 #[wordV b f r o, .int .i64 v] w fun e w' => e = .returned (.int .i64 (reduceW b f r o v)) ∧ Below w.heap.size w w' := by
  rcases Bool.eq_false_or_eq_true (okW b f r o) with h | h
  · rcases (show o = 1 ∨ o = 2 by have := okW_iff.1 h; omega) with rfl | rfl
    all_goals
      go_enter Tryd.func70, Tryd.ntmps70
      go_wp2_with (first
        | (go_at_call 75; refine (rf_Valid_is h _).mono ?_; rintro e w1 ⟨rfl, hb1⟩; obtain ⟨hc1, hf1⟩ := bcell hb1)
        | (go_at_call 109; refine (rf_Wrap _ _ _).mono ?_; rintro e w2 ⟨rfl, hb2⟩)
        | (go_at_call 110; refine (rf_Saturate _ _ _ _ _ _).mono ?_; rintro e w2 ⟨rfl, hb2⟩))
      go_ret
      refine ⟨ret_int (by simp [reduceW, h]), ?_⟩
      first
        | (subst hb2; exact ((Below.refl _ _).alloc (Nat.le_refl _) _).trans (hb1.mono (by simp)))
        | exact (((Below.refl _ _).alloc (Nat.le_refl _) _).trans (hb1.mono (by simp))).trans (hb2.mono (by have := hb1.size; simp at this; omega))
  · go_enter Tryd.func70, Tryd.ntmps70
    go_wp2_with (first
      | (go_at_call 75; refine (rf_Valid_is h _).mono ?_; rintro e w1 ⟨rfl, hb1⟩))
    go_ret
    exact ⟨ret_int (by simp [reduceW, h]), ((Below.refl _ _).alloc (Nat.le_refl _) _).trans (hb1.mono (by simp))⟩
end Go.Proofs.YtgdccmmcjicgkaaDoor
end
section
namespace Go.Proofs.YtgdccmmcjicgkaaDoor
open Go.RowKit
theorem block_add (a : Addr) (n : Nat) : (a.add n).block = a.block := by unfold Addr.add; split <;> rfl
def Row (w : World) (B : Nat) (A : Option Addr) (xs : List Value) : Prop :=
  ∀ (k : Nat) (v : Value), xs[k]? = some v → ∃ ad, A = some ad ∧ ad.block < B ∧ w.cell? (ad.add k) = some v
section
variable {w w' : World} {B B' : Nat} {A : Option Addr} {xs : List Value}
theorem Row.nil : Row w B A [] := fun k v h => by simp at h
theorem Row.keep (h : Row w B A xs) (hb : Below B w w') : Row w' B A xs := fun k v hk => by
  obtain ⟨ad, e, h1, h2⟩ := h k v hk
  exact ⟨ad, e, h1, (hb.cell (by rw [block_add]; exact h1)).trans h2⟩
theorem Row.more (h : Row w B A xs) (hB : B ≤ B') : Row w B' A xs := fun k v hk => by
  obtain ⟨ad, e, h1, h2⟩ := h k v hk
  exact ⟨ad, e, by omega, h2⟩
theorem Row.grow (h : Row w w.heap.size A xs) (hb : Below w.heap.size w w') : Row w' w'.heap.size A xs := (h.keep hb).more hb.size
theorem Row.at_ {k : Nat} (h : Row w B A xs) (hk : k < xs.length) : ∃ ad v, A = some ad ∧ ad.block < B ∧ xs[k]? = some v ∧ w.cell? (ad.add k) = some v := by
  obtain ⟨ad, e, h1, h2⟩ := h k xs[k] (List.getElem?_eq_getElem hk)
  exact ⟨ad, xs[k], e, h1, List.getElem?_eq_getElem hk, h2⟩
theorem Row.of_own {base n c : Nat} {e : TypeId} (h : w.ownsRow base e 1 (.slice A n c) n xs) : Row w w.heap.size A xs := fun k v hk => by
  have h0 := h
  obtain ⟨hl, h2 | ⟨g, cap, cur, hv, hb, hh, hn, hm, hs, ht⟩⟩ := h
  · obtain ⟨_, rfl⟩ := h2
    have : xs = [] := List.eq_nil_of_length_eq_zero (by omega)
    subst this; simp at hk
  · injection hv with hA
    subst hA
    exact ⟨_, rfl, (h0.lt g rfl).2, h0.cells (g := g) rfl k v hk⟩
end
theorem own_form {w : World} {base n size : Nat} {e : TypeId} {v : Value} {xs : List Value} (h : w.ownsRow base e size v n xs) : ∃ A c, v = .slice A n c ∧ n ≤ c := by
  obtain ⟨_, ⟨rfl, rfl⟩ | ⟨g, cap, cur, rfl, _, _, hn, _⟩⟩ := h
  · exact ⟨none, 0, rfl, Nat.le_refl _⟩
  · exact ⟨_, cap, rfl, hn⟩
def Ints (w : World) (A : Option Addr) (l : List Int) : Prop := Row w w.heap.size A (l.map (Value.int .i64)) ∧ ∀ x ∈ l, I64 x
section
variable {w w' : World} {A : Option Addr} {l : List Int}
theorem Ints.nil : Ints w A [] := ⟨Row.nil, by simp⟩
theorem Ints.grow (h : Ints w A l) (hb : Below w.heap.size w w') : Ints w' A l := ⟨h.1.grow hb, h.2⟩
theorem Ints.at_ {k : Nat} (h : Ints w A l) (hk : k < l.length) : ∃ ad x, A = some ad ∧ ad.block < w.heap.size ∧ l[k]? = some x ∧ w.cell? (ad.add k) = some (.int .i64 x) ∧ -9223372036854775808 ≤ x ∧ x ≤ 9223372036854775807 := by
  obtain ⟨ad, v, e, h1, h2, h3⟩ := h.1.at_ (k := k) (by simpa using hk)
  have hx : l[k]? = some l[k] := List.getElem?_eq_getElem hk
  rw [List.getElem?_map, hx] at h2
  simp only [Option.map_some, Option.some.injEq] at h2
  subst h2
  obtain ⟨i1, i2⟩ := h.2 l[k] (List.getElem_mem hk)
  exact ⟨ad, l[k], e, h1, hx, h3, i1, i2⟩
end
theorem take_succ_all {α : Type} {l : List α} {k : Nat} {x : α} (h : l[k]? = some x) (p : α → Bool) : (l.take (k + 1)).all p = ((l.take k).all p && p x) := by
  rw [List.take_add_one, h]; simp
theorem all_no {α : Type} {l : List α} {k : Nat} {x : α} (h : l[k]? = some x) {p : α → Bool} (hp : p x = false) : l.all p = false := by
  rw [List.all_eq_false]; exact ⟨x, List.mem_of_getElem? h, by simp [hp]⟩
theorem take_snoc' {α : Type} {l : List α} {k : Nat} {x : α} (h : l[k]? = some x) : l.take (k + 1) = l.take k ++ [x] := by
  rw [List.take_add_one, h]; simp
end Go.Proofs.YtgdccmmcjicgkaaDoor
end
section
namespace Go.Proofs.YtgdccmmcjicgkaaDoor
open Go.RowKit
def wordsB (b f r o : Int) (l : List Int) : Bool := l.all fun x => fitsW b f r o x
theorem rf_Words (b f r o : Int) (A : Option Addr) (l : List Int) (c : Nat) (w : World) (hl : l.length ≤ 9223372036854775807) (h : Ints w A l) :
    Calls Tryd.prog 61 #[wordV b f r o, .slice A l.length c] w fun e w' => e = .returned (.bool (wordsB b f r o l)) ∧ Below w.heap.size w w' := by
  go_enter Tryd.func61, Tryd.ntmps61
  go_wp2
  go_loopw [5] (fun i wr => ∃ k : Nat, k ≤ l.length ∧ i = .int .i64 k ∧ (l.take k).all (fun x => fitsW b f r o x) = true ∧ Below (w.heap.size + 1) (w.alloc (.cells #[.int .i64 b, .int .i64 f, .int .i64 r, .int .i64 o] 40)) wr) (fun i _ => l.length - (intOf i).toNat)
  case atStart => exact ⟨0, Nat.zero_le _, rfl, rfl, Below.refl _ _⟩
  case round =>
    obtain ⟨k, hk, rfl, hall, hbw⟩ := hrel
    have hz : w.heap.size < wr.heap.size := by have := hbw.size; simp at this; omega
    by_cases hlt : k < l.length
    · obtain ⟨ad, x, rfl, hb, hx, hc, i1, i2⟩ := h.at_ hlt
      have HS := Lib.hid (take_succ_all hx (fun x => fitsW b f r o x))
      have HN := Lib.hid (all_no hx (p := fun x => fitsW b f r o x))
      have HA := Lib.hid hall
      have x0 : ∀ n : Ext wr, n.to.cell? ⟨w.heap.size, 0, none⟩ = some (.int .i64 b) := fun n => (n.cell _ hz).trans ((hbw.cell (Nat.lt_succ_self _)).trans (by simp [go_sem]))
      have x1 : ∀ n : Ext wr, n.to.cell? ⟨w.heap.size, 1, none⟩ = some (.int .i64 f) := fun n => (n.cell _ hz).trans ((hbw.cell (Nat.lt_succ_self _)).trans (by simp [go_sem]))
      have x2 : ∀ n : Ext wr, n.to.cell? ⟨w.heap.size, 2, none⟩ = some (.int .i64 r) := fun n => (n.cell _ hz).trans ((hbw.cell (Nat.lt_succ_self _)).trans (by simp [go_sem]))
      have x3 : ∀ n : Ext wr, n.to.cell? ⟨w.heap.size, 3, none⟩ = some (.int .i64 o) := fun n => (n.cell _ hz).trans ((hbw.cell (Nat.lt_succ_self _)).trans (by simp [go_sem]))
      have xk : ∀ n : Ext wr, n.to.cell? (ad.add k) = some (.int .i64 x) := fun n => (n.cell _ (by rw [block_add]; omega)).trans ((hbw.cell (by rw [block_add]; omega)).trans ((World.cell?_alloc_lt _ _ _ (by rw [block_add]; omega)).trans hc))
      clear hall hx hc h
      rcases Bool.eq_false_or_eq_true (fitsW b f r o x) with hin | hin
      all_goals
        go_wp2_with fail
        refine wp_region_ext (by kernel_rfl) (by kernel_rfl) ?_
        repeat (go_big_quiet_step (first | (go_at_call 67; exact ext_below (rf_Fits _ _ _ _ _ _))))
        refine wpQuiet_nil ?_
        rintro _ ⟨⟨w1, hb1⟩, rfl⟩
        go_wp2
      · go_roundw
        case rel => exact ⟨k + 1, by omega, by go_num, by rw [HS.out, HA.out, hin]; rfl, hbw.trans (hb1.mono (by omega))⟩
        case measure => simp [intOf]; omega
      · go_ret
        exact ⟨ret_bool (HN.out hin).symm, ((Below.refl _ _).alloc (Nat.le_refl _) _).trans ((hbw.trans (hb1.mono (by omega))).mono (by omega))⟩
    · go_wp2
      go_ret
      exact ⟨ret_bool (by rw [List.take_of_length_le (by omega)] at hall; exact hall.symm), ((Below.refl _ _).alloc (Nat.le_refl _) _).trans (hbw.mono (by omega))⟩
theorem rf_SameInts (A B : Option Addr) (l m : List Int) (c d : Nat) (w : World) (hm : m.length ≤ 9223372036854775807) (h : Ints w A l) (g : Ints w B m) :
    Calls Tryd.prog 19 #[.slice A l.length c, .slice B m.length d] w fun e w' => e = .returned (.bool (l == m)) ∧ Below w.heap.size w w' := by
  by_cases hlen : l.length = m.length
  · have hlen' : ((l.length : Int) != (m.length : Int)) = false := by simp [hlen]
    have HL := Lib.hid hlen
    have hle : l.length ≤ m.length := by omega
    clear hlen
    go_enter Tryd.func19, Tryd.ntmps19
    go_wp2
    go_loopw [5] (fun i wr => ∃ k : Nat, k ≤ l.length ∧ i = .int .i64 k ∧ l.take k = m.take k ∧ Below w.heap.size w wr) (fun i _ => l.length - (intOf i).toNat)
    case atStart => exact ⟨0, Nat.zero_le _, rfl, rfl, Below.refl _ _⟩
    case round =>
      obtain ⟨k, hk, rfl, hall, hbw⟩ := hrel
      by_cases hlt : k < l.length
      · obtain ⟨ad, x, rfl, hb, hx, hc, i1, i2⟩ := h.at_ hlt
        obtain ⟨ad2, y, rfl, hb2, hy, hc2, j1, j2⟩ := g.at_ (k := k) (by omega)
        have q1 := (hbw.cell (p := ad.add k) (by rw [block_add]; exact hb)).trans hc
        have q2 := (hbw.cell (p := ad2.add k) (by rw [block_add]; exact hb2)).trans hc2
        have HS := Lib.hid (take_snoc' hx)
        have HT := Lib.hid (take_snoc' hy)
        have HA := Lib.hid hall
        have HX := Lib.hid hx
        have HY := Lib.hid hy
        clear hall hx hy hc hc2 h g
        by_cases hxy : x = y
        · subst hxy
          go_wp2
          go_quiet (fail)
          go_wp2
          go_roundw
          case rel => exact ⟨k + 1, by omega, by go_num, by rw [HS.out, HT.out, HA.out], below_drewN hbw _⟩
          case measure => simp [intOf]; omega
        · have hne : (x != y) = true := by simp [hxy]
          go_wp2
          go_quiet (fail)
          go_wp2
          go_ret
          refine ⟨ret_bool ?_, below_drewN hbw _⟩
          have h1 := HX.out
          have h2 := HY.out
          symm
          rw [beq_eq_false_iff_ne]
          intro e
          rw [e, h2] at h1
          exact hxy (Option.some.inj h1).symm
      · go_wp2
        go_ret
        refine ⟨ret_bool ?_, hbw⟩
        have h1 := HL.out
        rw [List.take_of_length_le (by omega), List.take_of_length_le (by omega)] at hall
        rw [hall]; simp
  · have hlen' : ((l.length : Int) != (m.length : Int)) = true := by simp; omega
    have hne : (l == m) = false := by simp; intro e; rw [e] at hlen; exact hlen rfl
    have HE := Lib.hid hne
    clear hlen hne
    go_enter Tryd.func19, Tryd.ntmps19
    go_wp2
    go_ret
    exact ⟨ret_bool HE.out.symm, Below.refl _ _⟩
end Go.Proofs.YtgdccmmcjicgkaaDoor
end
section
namespace Go.Proofs.YtgdccmmcjicgkaaDoor
open Go.RowKit
theorem wpList_app1 {P : Program} {ops : Array Oper} {rest : List Oper} {o : Oper} {a : Act} {Q : Exit → Act → World → Prop} (W : World) (hgd : o.guard = none) (s x : Operand) (t : TypeId)
    (ho : o.op = .call { callee := .builtin .append, args := #[s, x], argTypes := #[t, t] })
    (base : Nat) (e : TypeId) (i : TypeInfo) (z : Value) (bytes : Nat) (ht : P.underlying t = some (.slice e)) (hi : P.info? e = some i) (hz : i.zero = some z)
    (hsize : i.size = 1) (hby : i.bytes = bytes) (hzs : z.cells.size = 1) (hbl : bytes ≤ 1000000)
    {v u : Value} {n : Nat} {xs : List Value} (hown : W.ownsRow base e 1 v n xs) (hs : a.eval s = v)
    (hx : a.eval x = .slice (some ⟨W.heap.size, 0, none⟩) 1 1) (h1 : u.oneCell' = true) (hn : n < 100000000) (hbase : base ≤ W.heap.size)
    (h : ∀ v' w', w'.ownsRow base e 1 v' (n + 1) (xs ++ [u]) → Below base W w' → wpList P ops Q rest (a.put o.dst v') w') :
    wpList P ops Q (o :: rest) a (W.alloc (.cells #[u] e)) := by
  refine wpList_append_own _ hgd s x t ho base e i z 1 bytes ht hi hz hsize hby hzs (by decide) v n xs hs (hown.alloc _) ⟨W.heap.size, 0, none⟩ 1 1 [u] hx rfl ?_ ?_ ?_ ?_ ?_ ?_
  · intro j q hj
    match j, hj with
    | 0, hj => simp at hj; subst hj; simp [Addr.add]
  · intro q hq; simp at hq; subst hq; exact h1
  · unfold maxLen; omega
  · have : (n + 1) * bytes ≤ 100000000 * 1000000 := Nat.mul_le_mul (by omega) hbl
    omega
  · simp; omega
  · intro v' w' ho' hg' _
    refine h v' w' ho' ?_
    have hb := (Below.refl base W).alloc hbase (.cells #[u] e)
    exact hb.grown hg' (by simp; omega) (fun k hk => (hown.lt k hk).1)
theorem own_grow {w w' : World} {base n size : Nat} {e : TypeId} {v : Value} {xs : List Value} (h : w.ownsRow base e size v n xs) (hb : Below w.heap.size w w') : w'.ownsRow base e size v n xs := by
  obtain ⟨h1, h2 | ⟨g, cap, cur, hv, hg, hh, r⟩⟩ := h
  · exact ⟨h1, .inl h2⟩
  · have hlt : g < w.heap.size := by
      rcases Nat.lt_or_ge g w.heap.size with h | h
      · exact h
      · rw [Array.getElem?_eq_none h] at hh; cases hh
    exact ⟨h1, .inr ⟨g, cap, cur, hv, hg, (hb.block g hlt).trans hh, r⟩⟩
theorem own_base {w : World} {base base' n size : Nat} {e : TypeId} {v : Value} {xs : List Value} (h : w.ownsRow base e size v n xs) (hb : base' ≤ base) : w.ownsRow base' e size v n xs := by
  obtain ⟨h1, h2 | ⟨g, cap, cur, hv, hg, r⟩⟩ := h
  · exact ⟨h1, .inl h2⟩
  · exact ⟨h1, .inr ⟨g, cap, cur, hv, by omega, r⟩⟩
theorem info_int : (Tryd.prog.info? 3).map (fun i => (i.zero, i.size, i.bytes)) = some (some (.int .i64 0), 1, 8) := by kernel_rfl
def Own (base : Nat) (w : World) (v : Value) (l : List Int) : Prop := w.ownsRow base 3 1 v l.length (l.map (Value.int .i64)) ∧ ∀ x ∈ l, I64 x
theorem Own.nil {base : Nat} {w : World} : Own base w (.slice none 0 0) [] := ⟨World.ownsRow_nil _ _ _ _, by simp⟩
theorem Own.form {base : Nat} {w : World} {v : Value} {l : List Int} (h : Own base w v l) : ∃ A c, v = .slice A l.length c ∧ l.length ≤ c ∧ Ints w A l := by
  obtain ⟨A, c, rfl, hc⟩ := own_form h.1
  exact ⟨A, c, rfl, hc, Row.of_own h.1, h.2⟩
theorem Own.grow {base : Nat} {w w' : World} {v : Value} {l : List Int} (h : Own base w v l) (hb : Below w.heap.size w w') : Own base w' v l := ⟨own_grow h.1 hb, h.2⟩
theorem Own.base {base base' : Nat} {w : World} {v : Value} {l : List Int} (h : Own base w v l) (hb : base' ≤ base) : Own base' w v l := ⟨own_base h.1 hb, h.2⟩
theorem app_int {ops : Array Oper} {rest : List Oper} {o : Oper} {a : Act} {Q : Exit → Act → World → Prop} (W : World) (hgd : o.guard = none) (s x : Operand)
    (ho : o.op = .call { callee := .builtin .append, args := #[s, x], argTypes := #[32, 32] }) (base : Nat) {v : Value} {l : List Int} {y : Int} (hown : Own base W v l) (hs : a.eval s = v)
    (hx : a.eval x = .slice (some ⟨W.heap.size, 0, none⟩) 1 1) (hn : l.length < 100000000) (hbase : base ≤ W.heap.size) (hy : I64 y)
    (h : ∀ v' w', Own base w' v' (l ++ [y]) → Below base W w' → wpList Tryd.prog ops Q rest (a.put o.dst v') w') :
    wpList Tryd.prog ops Q (o :: rest) a (W.alloc (.cells #[.int .i64 y] 3)) := by
  obtain ⟨i0, hi, hz0, hz1, hz2⟩ := info_parts info_int
  refine wpList_app1 W hgd s x 32 ho base 3 i0 (.int .i64 0) 8 Tryd.underlying32 hi hz0 hz1 hz2 rfl (by decide) hown.1 hs hx rfl hn hbase fun v' w' h1 h2 => h v' w' ⟨?_, ?_⟩ h2
  · simpa using h1
  · intro q hq
    rcases List.mem_append.1 hq with hq | hq
    · exact hown.2 q hq
    · simp at hq; subst hq; exact hy
end Go.Proofs.YtgdccmmcjicgkaaDoor
end
section
namespace Go.Proofs.YtgdccmmcjicgkaaDoor
open Go.RowKit
def el (l : List Int) (k : Nat) : Int := l[k]?.getD 0
end Go.Proofs.YtgdccmmcjicgkaaDoor
end
section
namespace Go.Proofs.YtgdccmmcjicgkaaDoor
open Go.RowKit
theorem Own.cell {base : Nat} {w : World} {g n c : Nat} {l : List Int} (h : Own base w (.slice (some ⟨g, 0, none⟩) n c) l) {k : Nat} {y : Int} (hk : l[k]? = some y) : w.cell? ⟨g, k, none⟩ = some (.int .i64 y) := by
  obtain ⟨A, c', e, _⟩ := own_form h.1
  injection e with _ e2
  subst e2
  have hkl := (List.getElem?_eq_some_iff.1 hk).1
  rw [h.1.cellAt k (by omega), List.getElem?_map, hk]; rfl
theorem Own.free {base : Nat} {w : World} {g n c : Nat} {l : List Int} (h : Own base w (.slice (some ⟨g, 0, none⟩) n c) l) (k : Nat) : w.frozen? ⟨g, k, none⟩ = false := by
  obtain ⟨A, c', e, _⟩ := own_form h.1
  injection e with _ e2
  subst e2
  exact h.1.frozenAt k
theorem Own.block {base : Nat} {w : World} {g n c : Nat} {l : List Int} (h : Own base w (.slice (some ⟨g, 0, none⟩) n c) l) : base ≤ g ∧ g < w.heap.size := h.1.lt g rfl
theorem Own.set {base : Nat} {w : World} {g n c : Nat} {l : List Int} (h : Own base w (.slice (some ⟨g, 0, none⟩) n c) l) (k : Nat) {y : Int} (hy : I64 y) :
    Own base (w.setCell ⟨g, k, none⟩ (.int .i64 y)) (.slice (some ⟨g, 0, none⟩) n c) (l.set k y) := by
  obtain ⟨A, c', e, _⟩ := own_form h.1
  injection e with _ e2
  subst e2
  have := (h.1.stored k (.int .i64 y)).1
  refine ⟨by rw [List.length_set, List.map_set]; exact this, fun q hq => ?_⟩
  rcases List.mem_or_eq_of_mem_set hq with hq | hq
  · exact h.2 q hq
  · rw [hq]; exact hy
theorem below_set {base : Nat} {a w : World} {g k : Nat} {u : Value} (h : Below base a w) (hg : base ≤ g) : Below base a (w.setCell ⟨g, k, none⟩ u) := h.setCell hg u
theorem zeros_cells (n : Nat) : (madeCells (Value.int .i64 0).cells (n * 1)).toList = (List.replicate n (0 : Int)).map (Value.int .i64) := by
  apply List.ext_getElem?
  intro k
  simp only [madeCells, Value.cells, Array.toList_map, Array.toList_range, List.getElem?_map, List.getElem?_replicate, Nat.mul_one]
  rcases Nat.lt_or_ge k n with h | h
  · rw [List.getElem?_range h]; simp [h, Nat.mod_one]
  · rw [List.getElem?_eq_none (by simpa using h)]; simp; omega
theorem mk_int {ops : Array Oper} {rest : List Oper} {o : Oper} {a : Act} {Q : Exit → Act → World → Prop} {w : World} (hg : o.guard = none) (s c : Operand) (hop : o.op = Op.makeSlice 32 s c)
    (base n : Nat) {N : Int} (hs : a.eval s = .int .i64 N) (hc : a.eval c = .int .i64 N) (hN : N = (n : Int)) (hn : n ≤ 100000000) (hb : base ≤ w.heap.size)
    (h : ∀ w', Own base w' (.slice (some ⟨w.heap.size, 0, none⟩) n n) (List.replicate n 0) → Below w.heap.size w w' → wpList Tryd.prog ops Q rest (a.put o.dst (.slice (some ⟨w.heap.size, 0, none⟩) n n)) w') :
    wpList Tryd.prog ops Q (o :: rest) a w := by
  subst hN
  obtain ⟨i0, hi, hz0, hz1, hz2⟩ := info_parts info_int
  refine wpList_make_full w hg s c 32 hop base 3 i0 (.int .i64 0) 1 Tryd.underlying32 hi hz0 hz1 .i64 .i64 n n n hs hc rfl rfl (by rw [hz2]; omega) (by unfold maxLen; omega) hb fun w' h1 h2 => h w' ⟨?_, ?_⟩ ?_
  · rw [List.length_replicate, ← zeros_cells]; exact h1
  · intro q hq; rw [List.eq_of_mem_replicate hq]; exact ⟨by decide, by decide⟩
  · exact (Below.refl _ _).grown h2 (Nat.le_refl _) (by intro k hk; cases hk)
def RetInts1 (w : World) (l : List Int) (e : Ending) (w' : World) : Prop := ∃ v, e = .returned v ∧ Own w.heap.size w' v l ∧ Below w.heap.size w w'
theorem RetInts1.mk {w w' : World} {l : List Int} {v : Value} (ho : Own w.heap.size w' v l) (hb : Below w.heap.size w w') : RetInts1 w l (.returned v) w' := ⟨v, rfl, ho, hb⟩
end Go.Proofs.YtgdccmmcjicgkaaDoor
end
section
namespace Go.Proofs.YtgdccmmcjicgkaaDoor
open Go.RowKit
theorem own_store {w : World} {base n size g k : Nat} {e : TypeId} {v u : Value} {xs : List Value} (h : w.ownsRow base e size v n xs) (hg : g < base) : (w.setCell ⟨g, k, none⟩ u).ownsRow base e size v n xs := by
  obtain ⟨h1, h2 | ⟨q, cap, cur, hv, hq, hh, r⟩⟩ := h
  · exact ⟨h1, .inl h2⟩
  · exact ⟨h1, .inr ⟨q, cap, cur, hv, hq, (Below.heap_setCell w _ u q (by show q ≠ g; omega)).trans hh, r⟩⟩
theorem Own.store {w : World} {base g k : Nat} {v u : Value} {l : List Int} (h : Own base w v l) (hg : g < base) : Own base (w.setCell ⟨g, k, none⟩ u) v l := ⟨own_store h.1 hg, h.2⟩
end Go.Proofs.YtgdccmmcjicgkaaDoor
end
section
set_option maxRecDepth 100000
namespace Go.Proofs.YtgdccmmcjicgkaaDoor
open Go.Joins Go.ChangeShapes Go.WideShapes Go.RowKit
theorem cell_lt {w : World} {a : Addr} {v : Value} (h : w.cell? a = some v) : a.block < w.heap.size := by
  rcases Nat.lt_or_ge a.block w.heap.size with hl | hl
  · exact hl
  · unfold World.cell? at h; rw [Array.getElem?_eq_none hl] at h; cases h
end Go.Proofs.YtgdccmmcjicgkaaDoor
end
section
namespace Go.Proofs.YtgdccmmcjicgkaaDoor
open Go.RowKit
theorem grown_refl (w : World) (r : Option Nat) : w.grownBy w r := ⟨rfl, rfl, rfl, Nat.le_refl _, fun _ _ _ => rfl⟩
theorem grown_set {a w : World} {g k : Nat} {u : Value} (h : a.grownBy w (some g)) : a.grownBy (w.setCell ⟨g, k, none⟩ u) (some g) :=
  h.trans ⟨rfl, rfl, rfl, by simp [World.setCell], fun i _ hr => Below.heap_setCell w _ u i (by show i ≠ g; intro e; exact hr (by rw [e]))⟩
theorem Ints.kept {w w' : World} {A : Option Addr} {l : List Int} {r : Option Nat} (h : Ints w A l) (hg : w.grownBy w' r) (hne : l ≠ [] → ∀ ad, A = some ad → some ad.block ≠ r) : Ints w' A l := by
  refine ⟨fun k v hk => ?_, h.2⟩
  obtain ⟨ad, e, h1, h2⟩ := h.1 k v hk
  exact ⟨ad, e, Nat.lt_of_lt_of_le h1 hg.size, hg.cell h2 (by rw [block_add]; exact hne (by intro hc; rw [hc] at hk; simp at hk) ad e)⟩
theorem Ints.block {w : World} {A : Option Addr} {l : List Int} (h : Ints w A l) (hl : l ≠ []) {ad : Addr} (e : A = some ad) : ad.block < w.heap.size := by
  obtain ⟨ad', x, e', hb, _⟩ := h.at_ (k := 0) (List.length_pos_iff.2 hl)
  rw [e] at e'; injection e' with e'; rw [e']; exact hb
end Go.Proofs.YtgdccmmcjicgkaaDoor
end
section
namespace Go.Proofs.YtgdccmmcjicgkaaDoor
open Go.RowKit
theorem Own.kept {base : Nat} {w w' : World} {v : Value} {l : List Int} {r : Option Nat} (h : Own base w v l) (hg : w.grownBy w' r) (hne : v.ownBlock = none ∨ v.ownBlock ≠ r) : Own base w' v l := ⟨h.1.kept hg hne, h.2⟩
theorem Own.ints {base : Nat} {w : World} {A : Option Addr} {n c : Nat} {l : List Int} (h : Own base w (.slice A n c) l) : Ints w A l := by
  obtain ⟨A', c', e, _, hi⟩ := h.form
  injection e with e
  rw [e]; exact hi
theorem Own.len {base : Nat} {w : World} {A : Option Addr} {n c : Nat} {l : List Int} (h : Own base w (.slice A n c) l) : n = l.length := by
  obtain ⟨A', c', e, _, _⟩ := h.form
  injection e
end Go.Proofs.YtgdccmmcjicgkaaDoor
end
section
namespace Go.Proofs.YtgdccmmcjicgkaaDoor
open Go.RowKit
set_option maxRecDepth 100000 in
theorem run_app_ints (w : World) (base : Nat) (ty : TypeId) (v : Value) (l m : List Int) (A : Option Addr) (c : Nat) (hown : Own base w v l) (hI : Ints w A m) (hn : l.length + m.length ≤ 100000000) (hbase : base ≤ w.heap.size) :
    ∃ v' w', (Builtin.append_ #[32, 32] ty #[v, .slice A m.length c]).run Tryd.prog w = .ok v' w' ∧ Own base w' v' (l ++ m) ∧ w.grownBy w' v.ownBlock ∧ (v'.ownBlock = v.ownBlock ∨ v'.ownBlock = some w.heap.size) := by
  obtain ⟨i0, hi, hz0, hz1, hz2⟩ := info_parts info_int
  have h64 : ∀ x ∈ l ++ m, I64 x := fun x hx => by
    rcases List.mem_append.1 hx with hx | hx
    · exact hown.2 x hx
    · exact hI.2 x hx
  cases A with
  | none =>
    have hm : m = [] := by
      cases m with
      | nil => rfl
      | cons y t => obtain ⟨ad, _, e, _⟩ := hI.at_ (k := 0) (by simp); cases e
    subst hm
    refine ⟨v, w, ?_, by simpa using hown, ⟨rfl, rfl, rfl, Nat.le_refl _, fun _ _ _ => rfl⟩, .inl rfl⟩
    rcases hown.1.2 with ⟨rfl, _⟩ | ⟨g, cap, cur, rfl, _, _, hnc, _⟩
    · simp [Builtin.append_, run_underlying Tryd.underlying32, sizeOf, typeInfo, hi, Builtin.lenOf, Builtin.firstCells]
    · simp [Builtin.append_, run_underlying Tryd.underlying32, sizeOf, typeInfo, hi, Builtin.lenOf, Builtin.firstCells, hnc, storeCells]
  | some ad =>
    have hnews : ∀ j u, (m.map (Value.int .i64))[j]? = some u → w.cell? (ad.add j) = some u := fun j u hu => by
      obtain ⟨ad', e, _, h⟩ := hI.1 j u hu
      injection e with e
      rw [e]; exact h
    obtain ⟨v', w', h1, h2, h3, _, h5⟩ := run_append_own_at (P := Tryd.prog) w base 32 ty 3 i0 (.int .i64 0) 1 8 Tryd.underlying32 hi hz0 hz1 hz2 rfl (by decide) v l.length _ hown.1 ad m.length c (m.map (Value.int .i64)) (by simp) hnews
      (fun u hu => by obtain ⟨x, _, rfl⟩ := List.mem_map.1 hu; rfl) (by unfold maxLen; omega) (by omega) hbase
    refine ⟨v', w', h1, ⟨?_, h64⟩, h3, h5⟩
    rw [List.map_append, List.length_append]
    exact h2
theorem app_ints {ops : Array Oper} {rest : List Oper} {o : Oper} {a : Act} {Q : Exit → Act → World → Prop} (w : World) (hg : o.guard = none) (s x : Operand) (ho : o.op = .call { callee := .builtin .append, args := #[s, x], argTypes := #[32, 32] })
    (base : Nat) {v : Value} {l m : List Int} {A : Option Addr} {c : Nat} (hs : a.eval s = v) (hx : a.eval x = .slice A m.length c) (hown : Own base w v l) (hI : Ints w A m) (hn : l.length + m.length ≤ 100000000) (hbase : base ≤ w.heap.size)
    (h : ∀ v' w', Own base w' v' (l ++ m) → w.grownBy w' v.ownBlock → (v'.ownBlock = v.ownBlock ∨ v'.ownBlock = some w.heap.size) → wpList Tryd.prog ops Q rest (a.put o.dst v') w') : wpList Tryd.prog ops Q (o :: rest) a w := by
  refine wpList_plain hg fun K hK => ?_
  obtain ⟨v', w', hrun, h1, h2, h3⟩ := run_app_ints w base o.type v l m A c hown hI hn hbase
  unfold Oper.wp execOp
  simp only [ho, resolve, invoke, builtin, Sem.run_bind, Sem.run_pure, Result.andThen_ok, List.map_toArray, List.map_cons, List.map_nil, hs, hx, hrun]
  exact hK _ _ (h v' w' h1 h2 h3)
end Go.Proofs.YtgdccmmcjicgkaaDoor
end
section
namespace Go.Proofs.YtgdccmmcjicgkaaDoor
open Go.RowKit
theorem Own.empty {w : World} {g : Nat} (hg : g = w.heap.size) : Own g (w.alloc (.cells #[] 3)) (.slice (some ⟨g, 0, none⟩) 0 0) [] := by
  subst hg
  refine ⟨⟨rfl, .inr ⟨w.heap.size, 0, #[], rfl, Nat.le_refl _, heap_alloc_new w _, Nat.le_refl _, by simp, by simp, by simp⟩⟩, by simp⟩
end Go.Proofs.YtgdccmmcjicgkaaDoor
end
section
namespace Go.Proofs.YtgdccmmcjicgkaaDoor
open Go.RowKit
theorem rf_SameB (A B : Option Addr) (l m : List Int) (c d : Nat) (w : World) (hm : m.length ≤ 9223372036854775807) (he : l = m) (h : Ints w A l) (g : Ints w B m) :
    Calls Tryd.prog 19 #[.slice A l.length c, .slice B m.length d] w fun e w' => e = .returned (.bool true) ∧ Below w.heap.size w w' :=
  (rf_SameInts A B l m c d w hm h g).mono fun e w' hh => ⟨by rw [hh.1, he]; simp, hh.2⟩
theorem add_cellsB (g k : Nat) : (⟨g, 0, none⟩ : Addr).add k = ⟨g, k, none⟩ := by
  unfold Addr.add
  by_cases h0 : k = 0 <;> simp [h0]
theorem litB {w : World} {cs : Array Value} {t : TypeId} {l : List Int} (hc : cs.toList = l.map (Value.int .i64)) (hl : l.all (fun x => decide (-9223372036854775808 ≤ x) && decide (x ≤ 9223372036854775807)) = true) : Ints (w.alloc (.cells cs t)) (some ⟨w.heap.size, 0, none⟩) l := by
  refine ⟨?_, fun x hx => by have := List.all_eq_true.1 hl x hx; simp at this; exact this⟩
  rw [← hc]
  intro k v hk
  refine ⟨_, rfl, by simp, ?_⟩
  rw [add_cellsB]
  simpa [go_sem] using hk
end Go.Proofs.YtgdccmmcjicgkaaDoor
end
section
namespace Go.Proofs.YtgdccmmcjicgkaaDoor
open Go.RowKit
end Go.Proofs.YtgdccmmcjicgkaaDoor
end
section
namespace Go.Proofs.YtgdccmmcjicgkaaDoor
open Go.RowKit
theorem rf_SameN (A B : Option Addr) (l m : List Int) (c d p q : Nat) (w : World) (hp : l.length = p) (hq : m.length = q) (hm : q ≤ 1000000) (he : l = m) (h : Ints w A l) (g : Ints w B m) :
    Calls Tryd.prog 19 #[.slice A p c, .slice B q d] w fun e w' => e = .returned (.bool true) ∧ Below w.heap.size w w' := by
  subst hp; subst hq
  exact rf_SameB A B l m c d w (by omega) he h g
end Go.Proofs.YtgdccmmcjicgkaaDoor
end
section
namespace Go.Proofs.YtgdccmmcjicgkaaDoor
open Go.RowKit
theorem emp1 {w : World} : Own w.heap.size (w.alloc (.cells #[] 3)) (.slice (some ⟨w.heap.size, 0, none⟩) 0 0) [] := Own.empty rfl
theorem lit_one {w : World} {x : Int} {t : TypeId} (hx : I64 x) : Ints (w.alloc (.cells #[.int .i64 x] t)) (some ⟨w.heap.size, 0, none⟩) [x] := by
  refine litB rfl (List.all_eq_true.2 fun u hu => ?_)
  simp at hu
  subst hu
  have u1 := hx.1
  have u2 := hx.2
  simp; omega
end Go.Proofs.YtgdccmmcjicgkaaDoor
end
