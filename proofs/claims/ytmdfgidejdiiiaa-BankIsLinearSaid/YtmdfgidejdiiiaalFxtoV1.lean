/- Several texts in one: Fx Fy Sm Q O V1. -/
import Derived.Test.YtmdfgidejdiiiaaRows
import Derived.Test.YtmdfgidejdiiiaalPltoZa
import Derived.ProofKit
import Derived.Lib.SmallJoins
import Derived.Test.YtmdfgidejdiiiaalJ2toVp
import Derived.Deep.RegionHeld3
import Derived.Deep.RegionLaw
import Derived.Maps.AppendAt
set_option linter.unusedVariables false
set_option linter.unusedSimpArgs false
section
namespace Go.Proofs.Ytmdfgidejdiiiaa
open Go.RowKit
theorem fx_mode (r : Int) (w : World) : Calls Try.prog 85 #[.int .i64 r] w fun e w' => e = .returned (.bool (inB r 1 3)) ∧ w = w' := by
  go_enter Try.func85, Try.ntmps85
  go_wp2
  all_goals go_ret
  all_goals exact ⟨ret_bool (by rw [Bool.eq_iff_iff]; simp [inB]; omega), rfl⟩
theorem rf_In (v lo hi : Int) (w : World) : Calls Try.prog 72 #[.int .i64 v, .int .i64 lo, .int .i64 hi] w fun e w' => e = .returned (.bool (inB v lo hi)) ∧ w = w' := by
  go_enter Try.func72, Try.ntmps72
  go_wp2
  all_goals go_ret
  all_goals exact ⟨ret_bool (by rw [Bool.eq_iff_iff]; simp [inB]; omega), rfl⟩
theorem fx_Wrap (b v : Int) (w : World) : Calls Try.prog 40 #[.int .i64 b, .int .i64 v] w fun e w' => e = .returned (.int .i64 (wrapF b v)) ∧ w = w' := by
  by_cases h : inB b 1 62 = true
  · obtain ⟨h1, h2⟩ := inB_iff.1 h
    obtain ⟨P, H, M, e1, e2, e3, a1, a2, a3, a4, a5, e4⟩ := wrap_facts h1 h2 v
    have E := Lib.hid e4
    clear e4 h a5
    go_enter Try.func40, Try.ntmps40
    go_wp2
    all_goals go_ret
    all_goals refine ⟨ret_int ?_, rfl⟩
    · rw [E.out, if_neg (by omega)]
    · rw [E.out, if_pos (by omega)]
  · have h' : inB b 1 62 = false := by simpa using h
    have := inB_no.1 h'
    have E : Hid (wrapF b v = 0) := by unfold wrapF; rw [if_neg h]; exact rfl
    clear h h'
    go_enter Try.func40, Try.ntmps40
    go_wp2
    all_goals go_ret
    all_goals exact ⟨ret_int E.out.symm, rfl⟩
theorem rf_Wrap (b v : Int) (w : World) : Calls Try.prog 77 #[.int .i64 b, .int .i64 v] w fun e w' => e = .returned (.int .i64 (wrapF b v)) ∧ w = w' := by
  by_cases h : inB b 1 62 = true
  · obtain ⟨h1, h2⟩ := inB_iff.1 h
    obtain ⟨P, H, M, e1, e2, e3, a1, a2, a3, a4, a5, e4⟩ := wrap_facts h1 h2 v
    obtain ⟨T, e5, e6, b1, b2⟩ := tmod_facts v a1
    have E := Lib.hid e4
    have E6 := Lib.hid e6
    have E5 := Lib.hid a5
    clear e4 e6 e2 e3 a5
    go_enter Try.func77, Try.ntmps77
    go_wp2_with (go_at_call 72; refine (rf_In _ _ _ _).mono ?_; rintro e w' ⟨rfl, rfl⟩)
    all_goals go_ret
    all_goals refine ⟨ret_int ?_, rfl⟩
    all_goals have E6' := E6.out
    all_goals have E5' := E5.out
    all_goals rw [E.out]
    · rw [if_neg (by omega)]; omega
    · rw [if_pos (by omega)]; omega
    · rw [if_neg (by omega)]; omega
    · rw [if_pos (by omega)]; omega
  · have h' : inB b 1 62 = false := by simpa using h
    have E : Hid (wrapF b v = 0) := by unfold wrapF; rw [if_neg h]; exact rfl
    clear h
    go_enter Try.func77, Try.ntmps77
    go_wp2_with (go_at_call 72; refine (rf_In _ _ _ _).mono ?_; rintro e w' ⟨rfl, rfl⟩)
    all_goals go_ret
    all_goals exact ⟨ret_int E.out.symm, rfl⟩
end Go.Proofs.Ytmdfgidejdiiiaa
end
section
namespace Go.Proofs.Ytmdfgidejdiiiaa
open Go.RowKit
set_option maxHeartbeats 1000000 in
theorem fx_Shift (v n r : Int) (w : World) (hv : I64 v) : Calls Try.prog 39 #[.int .i64 v, .int .i64 n, .int .i64 r] w fun e w' => e = .returned (.int .i64 (shiftF v n r)) ∧ Below w.heap.size w w' := by
  by_cases h : inB n 0 62 = true
  · obtain ⟨h1, h2⟩ := inB_iff.1 h
    by_cases h' : inB r 1 3 = true
    · obtain ⟨h3, h4⟩ := inB_iff.1 h'
      by_cases hn : n = 0
      · subst hn
        have E := Lib.hid (shift_zero (v := v) h3 h4)
        clear h1 h2
        go_enter Try.func39, Try.ntmps39
        go_wp2_with (go_at_call 85; refine (fx_mode _ _).mono ?_; rintro e w' ⟨rfl, rfl⟩)
        go_ret
        exact ⟨ret_int E.out.symm, Below.refl _ _⟩
      · have hn1 : 1 ≤ n := by omega
        obtain ⟨P, M, D, C, B, e1, e2, e3, e4, e5, a1, a2, a3, a4, a5, e6, f1, f2, f3, e7, e8⟩ := shift_facts hn1 h2 hv
        have E1 := Lib.hid f1
        have E2 := Lib.hid f2
        have E3 := Lib.hid f3
        clear h e6 f1 f2 f3 e7 e8
        have hr : r = 1 ∨ r = 2 ∨ r = 3 := by omega
        by_cases hv0 : v < 0
        · by_cases hm : M = 0
          · have hm' : (M != 0) = false := by simp [hm]
            have E3' : Hid (shiftF v n 3 = D) := by rw [E3.out, if_neg (by omega)]; exact rfl
            clear hm E3
            rcases hr with rfl | rfl | rfl
            all_goals
              go_enter Try.func39, Try.ntmps39
              go_wp2_with (go_at_call 85; refine (fx_mode _ _).mono ?_; rintro e w' ⟨rfl, rfl⟩)
              all_goals try (exfalso; omega)
              go_ret
              exact ⟨ret_int (by first | exact E1.out.symm | exact E2.out.symm | exact E3'.out.symm), (Below.refl _ _).alloc (Nat.le_refl _) _⟩
          · have hm' : (M != 0) = true := by simp [hm]
            have E3' : Hid (shiftF v n 3 = D + 1) := by rw [E3.out, if_pos ⟨by omega, by omega⟩]; exact rfl
            clear hm E3
            rcases hr with rfl | rfl | rfl
            all_goals
              go_enter Try.func39, Try.ntmps39
              go_wp2_with (go_at_call 85; refine (fx_mode _ _).mono ?_; rintro e w' ⟨rfl, rfl⟩)
              all_goals try (exfalso; omega)
              go_ret
              exact ⟨ret_int (by first | exact E1.out.symm | exact E2.out.symm | exact E3'.out.symm), (Below.refl _ _).alloc (Nat.le_refl _) _⟩
        · have E3' : Hid (shiftF v n 3 = D) := by rw [E3.out, if_neg (by omega)]; exact rfl
          clear E3
          rcases hr with rfl | rfl | rfl
          all_goals
            go_enter Try.func39, Try.ntmps39
            go_wp2_with (go_at_call 85; refine (fx_mode _ _).mono ?_; rintro e w' ⟨rfl, rfl⟩)
            all_goals try (exfalso; omega)
            go_ret
            exact ⟨ret_int (by first | exact E1.out.symm | exact E2.out.symm | exact E3'.out.symm), (Below.refl _ _).alloc (Nat.le_refl _) _⟩
    · have h'' : inB r 1 3 = false := by simpa using h'
      have E : Hid (shiftF v n r = 0) := by unfold shiftF; rw [if_neg (by simp [h, h''])]; exact rfl
      clear h h'
      go_enter Try.func39, Try.ntmps39
      go_wp2_with (go_at_call 85; refine (fx_mode _ _).mono ?_; rintro e w' ⟨rfl, rfl⟩)
      all_goals go_ret
      all_goals exact ⟨ret_int E.out.symm, Below.refl _ _⟩
  · have h' : inB n 0 62 = false := by simpa using h
    have hn := inB_no.1 h'
    have E : Hid (shiftF v n r = 0) := by unfold shiftF; rw [if_neg (by simp [h'])]; exact rfl
    clear h h'
    go_enter Try.func39, Try.ntmps39
    go_wp2_with (go_at_call 85; refine (fx_mode _ _).mono ?_; rintro e w' ⟨rfl, rfl⟩)
    all_goals go_ret
    all_goals exact ⟨ret_int E.out.symm, Below.refl _ _⟩
end Go.Proofs.Ytmdfgidejdiiiaa
end
section
namespace Go.Proofs.Ytmdfgidejdiiiaa
open Go.RowKit
theorem rf_SameInts (A B : Option Addr) (l m : List Int) (c d : Nat) (w : World) (hm : m.length ≤ 9223372036854775807) (h : Ints w A l) (g : Ints w B m) :
    Calls Try.prog 25 #[.slice A l.length c, .slice B m.length d] w fun e w' => e = .returned (.bool (l == m)) ∧ Below w.heap.size w w' := by
  by_cases hlen : l.length = m.length
  · have hlen' : ((l.length : Int) != (m.length : Int)) = false := by simp [hlen]
    have HL := Lib.hid hlen
    have hle : l.length ≤ m.length := by omega
    clear hlen
    go_enter Try.func25, Try.ntmps25
    go_wp2
    go_loopw [5] (fun i wr => ∃ k : Nat, k ≤ l.length ∧ i = .int .i64 k ∧ l.take k = m.take k ∧ Below w.heap.size w wr) (fun i _ => l.length - (intOf i).toNat)
    case atStart => exact ⟨0, Nat.zero_le _, rfl, rfl, Below.refl _ _⟩
    case round =>
      obtain ⟨k, hk, rfl, hall, hbw⟩ := hrel
      by_cases hlt : k < l.length
      · obtain ⟨ad, x, rfl, hb, hx, hc, i1, i2⟩ := h.at_ hlt
        obtain ⟨ad2, y, rfl, hb2, hy, hc2, j1, j2⟩ := g.at_ (k := k) (by omega)
        have q1 := (hbw.cell (p := ad.add k) (by rw [block_add]; exact hb)).trans hc
        have q2 := (hbw.cell (p := ad2.add k) (by rw [block_add]; exact hb2)).trans hc2
        have HS := Lib.hid (take_snoc' hx)
        have HT := Lib.hid (take_snoc' hy)
        have HA := Lib.hid hall
        have HX := Lib.hid hx
        have HY := Lib.hid hy
        clear hall hx hy hc hc2 h g
        by_cases hxy : x = y
        · subst hxy
          go_wp2
          go_quiet (fail)
          go_wp2
          go_roundw
          case rel => exact ⟨k + 1, by omega, by go_num, by rw [HS.out, HT.out, HA.out], below_drewN hbw _⟩
          case measure => simp [intOf]; omega
        · have hne : (x != y) = true := by simp [hxy]
          go_wp2
          go_quiet (fail)
          go_wp2
          go_ret
          refine ⟨ret_bool ?_, below_drewN hbw _⟩
          have h1 := HX.out
          have h2 := HY.out
          symm
          rw [beq_eq_false_iff_ne]
          intro e
          rw [e, h2] at h1
          exact hxy (Option.some.inj h1).symm
      · go_wp2
        go_ret
        refine ⟨ret_bool ?_, hbw⟩
        have h1 := HL.out
        rw [List.take_of_length_le (by omega), List.take_of_length_le (by omega)] at hall
        rw [hall]; simp
  · have hlen' : ((l.length : Int) != (m.length : Int)) = true := by simp; omega
    have hne : (l == m) = false := by simp; intro e; rw [e] at hlen; exact hlen rfl
    have HE := Lib.hid hne
    clear hlen hne
    go_enter Try.func25, Try.ntmps25
    go_wp2
    go_ret
    exact ⟨ret_bool HE.out.symm, Below.refl _ _⟩
def atF (l : List Int) (i : Int) : Int := if 0 ≤ i then l[i.toNat]?.getD 0 else 0
theorem atF_nat {l : List Int} {k : Nat} {x : Int} (h : l[k]? = some x) : atF l (k : Int) = x := by
  unfold atF; rw [if_pos (by omega), Int.toNat_natCast, h]; rfl
theorem atF_no {l : List Int} {i : Int} (h : i < 0 ∨ (l.length : Int) ≤ i) : atF l i = 0 := by
  unfold atF
  split
  · rw [List.getElem?_eq_none (by omega)]; rfl
  · rfl
theorem wd_At (A : Option Addr) (l : List Int) (c : Nat) (i : Int) (w : World) (h : Ints w A l) :
    Calls Try.prog 58 #[.slice A l.length c, .int .i64 i] w fun e w' => e = .returned (.int .i64 (atF l i)) ∧ w = w' := by
  by_cases h1 : 0 ≤ i ∧ i < l.length
  · obtain ⟨k, rfl⟩ := Int.eq_ofNat_of_zero_le h1.1
    have h2 : k < l.length := by omega
    obtain ⟨ad, x, rfl, hb, hx, hc, i1, i2⟩ := h.at_ h2
    have HX := Lib.hid (atF_nat hx)
    clear hx h h1
    go_enter Try.func58, Try.ntmps58
    go_wp2
    go_ret
    exact ⟨ret_int HX.out.symm, rfl⟩
  · have HX := Lib.hid (atF_no (l := l) (i := i) (by omega))
    have h2 : 0 ≤ i → (l.length : Int) ≤ i := by omega
    clear h1
    go_enter Try.func58, Try.ntmps58
    go_wp2
    all_goals go_ret
    all_goals exact ⟨ret_int HX.out.symm, rfl⟩
end Go.Proofs.Ytmdfgidejdiiiaa
end
section
namespace Go.Proofs.Ytmdfgidejdiiiaa
open Go.RowKit
def IntsL (w : World) (A : Option Addr) (ll : List (List Int)) : Prop :=
  ∀ k l, ll[k]? = some l → ∃ ad B c, A = some ad ∧ ad.block < w.heap.size ∧ w.cell? (ad.add k) = some (.slice B l.length c) ∧ Ints w B l
theorem IntsL.nil {w : World} {A : Option Addr} : IntsL w A [] := fun k l h => by simp at h
theorem IntsL.grow {w w' : World} {A : Option Addr} {ll : List (List Int)} (h : IntsL w A ll) (hb : Below w.heap.size w w') : IntsL w' A ll := fun k l hk => by
  obtain ⟨ad, B, c, e, h1, h2, h3⟩ := h k l hk
  exact ⟨ad, B, c, e, Nat.lt_of_lt_of_le h1 hb.size, (hb.cell (by rw [block_add]; exact h1)).trans h2, h3.grow hb⟩
theorem IntsL.at_ {w : World} {A : Option Addr} {ll : List (List Int)} (h : IntsL w A ll) {k : Nat} (hk : k < ll.length) :
    ∃ ad l B c, A = some ad ∧ ad.block < w.heap.size ∧ ll[k]? = some l ∧ w.cell? (ad.add k) = some (.slice B l.length c) ∧ Ints w B l := by
  obtain ⟨ad, B, c, e, h1, h2, h3⟩ := h k ll[k] (List.getElem?_eq_getElem hk)
  exact ⟨ad, ll[k], B, c, e, h1, List.getElem?_eq_getElem hk, h2, h3⟩
theorem own_store {w : World} {base n size g k : Nat} {e : TypeId} {v u : Value} {xs : List Value} (h : w.ownsRow base e size v n xs) (hg : g < base) : (w.setCell ⟨g, k, none⟩ u).ownsRow base e size v n xs := by
  obtain ⟨h1, h2 | ⟨q, cap, cur, hv, hq, hh, r⟩⟩ := h
  · exact ⟨h1, .inl h2⟩
  · exact ⟨h1, .inr ⟨q, cap, cur, hv, hq, (Below.heap_setCell w _ u q (by show q ≠ g; omega)).trans hh, r⟩⟩
theorem info_ints : (Try.prog.info? 33).map (fun i => (i.zero, i.size, i.bytes)) = some (some (.slice none 0 0), 1, 24) := by kernel_rfl
theorem Own.store {w : World} {base g k : Nat} {v u : Value} {l : List Int} (h : Own base w v l) (hg : g < base) : Own base (w.setCell ⟨g, k, none⟩ u) v l := ⟨own_store h.1 hg, h.2⟩
def OwnL (base : Nat) (w : World) (g m : Nat) (ll : List (List Int)) : Prop :=
  ∃ vs : List Value, w.ownsRow base 33 1 (.slice (some ⟨g, 0, none⟩) m m) m vs ∧ vs.length = ll.length ∧ ll.length = m ∧ base ≤ g ∧ ∀ (k : Nat) v l, vs[k]? = some v → ll[k]? = some l → Own (g + 1) w v l
theorem OwnL.grow {base : Nat} {w w' : World} {g m : Nat} {ll : List (List Int)} (h : OwnL base w g m ll) (hb : Below w.heap.size w w') : OwnL base w' g m ll := by
  obtain ⟨vs, h1, h2, h3, h4, h5⟩ := h
  exact ⟨vs, own_grow h1 hb, h2, h3, h4, fun k v l hv hl => (h5 k v l hv hl).grow hb⟩
theorem OwnL.block {base : Nat} {w : World} {g m : Nat} {ll : List (List Int)} (h : OwnL base w g m ll) : base ≤ g ∧ g < w.heap.size := by
  obtain ⟨vs, h1, _⟩ := h
  exact h1.lt g rfl
theorem OwnL.cell {base : Nat} {w : World} {g m : Nat} {ll : List (List Int)} (h : OwnL base w g m ll) {k : Nat} {l : List Int} (hk : ll[k]? = some l) :
    ∃ B c, w.cell? ⟨g, k, none⟩ = some (.slice B l.length c) ∧ Own (g + 1) w (.slice B l.length c) l := by
  obtain ⟨vs, h1, h2, h3, h4, h5⟩ := h
  have hkl := (List.getElem?_eq_some_iff.1 hk).1
  have hv : vs[k]? = some vs[k] := List.getElem?_eq_getElem (by omega)
  have ho := h5 k _ l hv hk
  obtain ⟨B, c, e, hc, hi⟩ := ho.form
  refine ⟨B, c, ?_, by rw [← e]; exact ho⟩
  rw [h1.cellAt k (by omega), hv, e]
theorem OwnL.free {base : Nat} {w : World} {g m : Nat} {ll : List (List Int)} (h : OwnL base w g m ll) (k : Nat) : w.frozen? ⟨g, k, none⟩ = false := by
  obtain ⟨vs, h1, _⟩ := h
  exact h1.frozenAt k
theorem OwnL.ints {base : Nat} {w : World} {g m : Nat} {ll : List (List Int)} (h : OwnL base w g m ll) : IntsL w (some ⟨g, 0, none⟩) ll := fun k l hk => by
  have hg := h.block
  obtain ⟨B, c, h1, h2⟩ := h.cell hk
  obtain ⟨B', c', e, hc, hi⟩ := h2.form
  injection e with e1 e2 e3
  subst e1
  refine ⟨⟨g, 0, none⟩, B, c, rfl, hg.2, ?_, hi⟩
  have : (⟨g, 0, none⟩ : Addr).add k = ⟨g, k, none⟩ := by
    unfold Addr.add
    by_cases h0 : k = 0 <;> simp [h0]
  rw [this]; exact h1
theorem OwnL.set {base : Nat} {w : World} {g m : Nat} {ll : List (List Int)} (h : OwnL base w g m ll) (k : Nat) {v : Value} {l : List Int} (hv : Own (g + 1) w v l) : OwnL base (w.setCell ⟨g, k, none⟩ v) g m (ll.set k l) := by
  obtain ⟨vs, h1, h2, h3, h4, h5⟩ := h
  refine ⟨vs.set k v, (h1.stored k v).1, by simp [h2], by simp [h3], h4, fun j u q hu hq => ?_⟩
  rw [List.getElem?_set] at hu hq
  by_cases e : k = j
  · rw [if_pos e] at hu hq
    split at hu
    · split at hq
      · injection hu with hu; injection hq with hq; subst hu; subst hq; exact hv.store (by omega)
      · cases hq
    · cases hu
  · rw [if_neg e] at hu hq
    exact (h5 j u q hu hq).store (by omega)
theorem mk_intL {ops : Array Oper} {rest : List Oper} {o : Oper} {a : Act} {Q : Exit → Act → World → Prop} {w : World} (hg : o.guard = none) (s c : Operand) (hop : o.op = Op.makeSlice 59 s c)
    (n : Nat) {N : Int} (hs : a.eval s = .int .i64 N) (hc : a.eval c = .int .i64 N) (hN : N = (n : Int)) (hn : n ≤ 100000000)
    (h : ∀ w', OwnL w.heap.size w' w.heap.size n (List.replicate n []) → Below w.heap.size w w' → wpList Try.prog ops Q rest (a.put o.dst (.slice (some ⟨w.heap.size, 0, none⟩) n n)) w') :
    wpList Try.prog ops Q (o :: rest) a w := by
  subst hN
  obtain ⟨i0, hi, hz0, hz1, hz2⟩ := info_parts info_ints
  refine wpList_make_full w hg s c 59 hop w.heap.size 33 i0 (.slice none 0 0) 1 Try.underlying59 hi hz0 hz1 .i64 .i64 n n n hs hc rfl rfl (by rw [hz2]; omega) (by unfold maxLen; omega) (Nat.le_refl _) fun w' h1 h2 => h w' ⟨_, h1, ?_, by simp, Nat.le_refl _, ?_⟩ ?_
  · simp [size_madeCells]
  · intro k v l hv hl
    rw [List.getElem?_replicate] at hl
    split at hl
    · injection hl with hl
      subst hl
      have : v = .slice none 0 0 := by
        have hc1 : (Value.slice none 0 0).cells = #[.slice none 0 0] := rfl
        rw [hc1, toList_madeCells_one] at hv
        exact List.eq_of_mem_replicate (List.mem_of_getElem? hv)
      subst this
      exact Own.nil
    · cases hl
  · exact (Below.refl _ _).grown h2 (Nat.le_refl _) (by intro k hk; cases hk)
def RetIntsL (w : World) (ll : List (List Int)) (E : Int) (e : Ending) (w' : World) : Prop := ∃ A c, e = .returned (.tuple #[.slice A ll.length c, .int .i64 E]) ∧ IntsL w' A ll ∧ Below w.heap.size w w'
theorem RetIntsL.mk {w w' : World} {ll : List (List Int)} {E : Int} {A : Option Addr} {n c : Nat} (hn : n = ll.length) (ho : IntsL w' A ll) (hb : Below w.heap.size w w') : RetIntsL w ll E (.returned (.tuple #[.slice A n c, .int .i64 E])) w' := by
  subst hn; exact ⟨A, c, rfl, ho, hb⟩
end Go.Proofs.Ytmdfgidejdiiiaa
end
section
set_option maxRecDepth 100000
namespace Go.Proofs.Ytmdfgidejdiiiaa
open Go.Joins Go.ChangeShapes Go.WideShapes Go.RowKit
theorem cell_lt {w : World} {a : Addr} {v : Value} (h : w.cell? a = some v) : a.block < w.heap.size := by
  rcases Nat.lt_or_ge a.block w.heap.size with hl | hl
  · exact hl
  · unfold World.cell? at h; rw [Array.getElem?_eq_none hl] at h; cases h
theorem open_Ints {H : Type} {enc : TypeId × Value → H} {w : World} {base : Nat} {spare : Nat → Bool} {held : Bool} {r : Reach} {b0 : Nat} {v : Value} {d : DataW H} {p : List MemPlace}
    (hv : Value.okWide Try.prog w r b0 33 v) (h : DataW.Trod enc Try.prog w base spare held 33 v d p) :
    ∃ u : Option Addr × Nat × List Int, v = .slice u.1 u.2.2.length u.2.1 ∧ (Ints w u.1 u.2.2 ∧ u.2.2.length ≤ 9223372036854775807) := by
  obtain ⟨A, len, cap, rfl⟩ := okWide_slice Try.underlying33 hv
  obtain ⟨fuel, hf⟩ := h
  rcases open_ints Try.underlying33 Try.underlying3 (by kernel_rfl) hf with ⟨hcs, _⟩ | ⟨x, l, c, zs, hcs, _, hl, hm, hz, _, hcell, hwz⟩
  · simp [Value.cells] at hcs
    obtain ⟨rfl, rfl, rfl⟩ := hcs
    exact ⟨⟨none, 0, []⟩, rfl, Ints.nil, by simp⟩
  · simp [Value.cells] at hcs
    obtain ⟨rfl, rfl, rfl⟩ := hcs
    have hlz : len ≤ zs.length := by rw [hz]; split <;> omega
    have hlen : (zs.take len).length = len := by simp; omega
    refine ⟨⟨some x, cap, zs.take len⟩, by rw [hlen], ⟨fun k v hk => ?_, fun y hy => i64_of_wf (hwz y (List.mem_of_mem_take hy))⟩, by rw [hlen]; unfold maxLen at hm; omega⟩
    rw [List.getElem?_map] at hk
    cases hx : (zs.take len)[k]? with
    | none => rw [hx] at hk; cases hk
    | some q =>
      rw [hx] at hk
      simp only [Option.map_some, Option.some.injEq] at hk
      subst hk
      have hkl : k < len := by
        have := (List.getElem?_eq_some_iff.1 hx).1
        omega
      rw [List.getElem?_take_of_lt hkl] at hx
      have hc := hcell k (by omega)
      rw [List.getD_eq_getElem?_getD, hx] at hc
      have hb := cell_lt hc
      rw [block_add] at hb
      exact ⟨x, rfl, hb, hc⟩
end Go.Proofs.Ytmdfgidejdiiiaa
end
section
namespace Go.Proofs.Ytmdfgidejdiiiaa
open Go.RowKit
theorem grown_refl (w : World) (r : Option Nat) : w.grownBy w r := ⟨rfl, rfl, rfl, Nat.le_refl _, fun _ _ _ => rfl⟩
theorem grown_drew {a w : World} {r : Option Nat} (h : a.grownBy w r) : a.grownBy w.drew r := ⟨h.os, h.tape, h.output, h.size, h.block⟩
theorem grown_below {a w w' : World} {r : Option Nat} (h : a.grownBy w r) (hb : Below w.heap.size w w') : a.grownBy w' r :=
  ⟨hb.os.trans h.os, hb.tape.trans h.tape, hb.output.trans h.output, Nat.le_trans h.size hb.size, fun k hk hr => (hb.block k (Nat.lt_of_lt_of_le hk h.size)).trans (h.block k hk hr)⟩
theorem grown_set {a w : World} {g k : Nat} {u : Value} (h : a.grownBy w (some g)) : a.grownBy (w.setCell ⟨g, k, none⟩ u) (some g) :=
  h.trans ⟨rfl, rfl, rfl, by simp [World.setCell], fun i _ hr => Below.heap_setCell w _ u i (by show i ≠ g; intro e; exact hr (by rw [e]))⟩
theorem grown_to {w a w' : World} {g : Nat} (h0 : Below w.heap.size w a) (h : a.grownBy w' (some g)) (hg : w.heap.size ≤ g) : Below w.heap.size w w' :=
  h0.trans ⟨h.os, h.tape, h.output, h.size, fun k hk => h.block k (Nat.lt_of_lt_of_le hk h0.size) (by intro e; injection e with e; omega)⟩
theorem Ints.kept {w w' : World} {A : Option Addr} {l : List Int} {r : Option Nat} (h : Ints w A l) (hg : w.grownBy w' r) (hne : l ≠ [] → ∀ ad, A = some ad → some ad.block ≠ r) : Ints w' A l := by
  refine ⟨fun k v hk => ?_, h.2⟩
  obtain ⟨ad, e, h1, h2⟩ := h.1 k v hk
  exact ⟨ad, e, Nat.lt_of_lt_of_le h1 hg.size, hg.cell h2 (by rw [block_add]; exact hne (by intro hc; rw [hc] at hk; simp at hk) ad e)⟩
theorem Ints.block {w : World} {A : Option Addr} {l : List Int} (h : Ints w A l) (hl : l ≠ []) {ad : Addr} (e : A = some ad) : ad.block < w.heap.size := by
  obtain ⟨ad', x, e', hb, _⟩ := h.at_ (k := 0) (List.length_pos_iff.2 hl)
  rw [e] at e'; injection e' with e'; rw [e']; exact hb
theorem bk_around (i n : Int) (w : World) (h1 : 1 ≤ n) (h2 : n ≤ 1000000) : Calls Try.prog 113 #[.int .i64 i, .int .i64 n] w fun e w' => e = .returned (.int .i64 (i % n)) ∧ w = w' := by
  obtain ⟨T, e1, hT, b1, b2⟩ : ∃ T, i.tmod n = T ∧ (T = i % n ∨ (T < 0 ∧ T + n = i % n)) ∧ -n < T ∧ T < n := by
    rcases Int.lt_or_le 1 n with h | h
    · exact tmod_facts i (by omega)
    · obtain rfl : n = 1 := by omega
      exact ⟨0, by simp, .inl (by simp), by omega, by omega⟩
  have hm := Int.emod_nonneg i (show n ≠ 0 by omega)
  obtain ⟨M, hM⟩ : ∃ M, i % n = M := ⟨_, rfl⟩
  rw [hM] at hT hm
  have HM := Lib.hid hM
  have n0 : n ≠ 0 := by omega
  clear hM
  go_enter Try.func113, Try.ntmps113
  go_wp2
  all_goals go_ret
  all_goals exact ⟨ret_int (by rw [HM.out]; omega), rfl⟩
def LftOk (s : Lft) : Prop := s.2.2.1.length ≤ 8 ∧ 0 ≤ s.2.2.2 ∧ s.2.2.2 ≤ 20 ∧ -8 ≤ s.2.1 ∧ s.2.1 ≤ 8 ∧ ∀ x ∈ s.2.2.1, -4096 ≤ x ∧ x ≤ 4096
theorem chS_bound {c o : List Int} {st : Int} {n : Nat} (hc : ∀ x ∈ c, -4096 ≤ x ∧ x ≤ 4096) (ho : W32 o) : ∀ k : Nat, -(8796093022208 * (k : Int)) ≤ chS c st o n k ∧ chS c st o n k ≤ 8796093022208 * (k : Int) := by
  intro k
  induction k with
  | zero => simp [chS]
  | succ k ih =>
    have h1 : -4096 ≤ el c k ∧ el c k ≤ 4096 := el_bound (by decide) hc k
    have h2 := w32_el ho (((n : Int) + st + k) % (o.length : Int)).toNat
    have := mul_bound (x := el c k) (y := el o (((n : Int) + st + k) % (o.length : Int)).toNat) (B := 4096) (C := 2147483648) h1 ⟨h2.1, by omega⟩
    unfold chS
    omega
theorem step_bound {s sh : Int} (hs : -70368744177664 ≤ s ∧ s ≤ 70368744177664) (h0 : 0 ≤ sh) (h1 : sh ≤ 20) : -70368744177664 ≤ shiftF s sh 1 ∧ shiftF s sh 1 ≤ 70368744177664 := by
  rw [shift_down h0 (by omega)]
  have hp := pow_pos' sh.toNat
  generalize (2 : Int) ^ sh.toNat = P at *
  constructor
  · have : -70368744177664 * P ≤ s := by
      have : (70368744177664 : Int) * 1 ≤ 70368744177664 * P := Int.mul_le_mul_of_nonneg_left hp (by decide)
      rw [Int.neg_mul]; omega
    exact (Int.le_ediv_iff_mul_le (by omega)).2 this
  · rcases Int.lt_or_le s 0 with h | h
    · have := Int.ediv_neg_of_neg_of_pos h (by omega : 0 < P); omega
    · have := Int.ediv_le_self P h; omega
set_option maxRecDepth 100000 in
set_option maxHeartbeats 2000000 in
theorem bk_change (o : Bool) (st sh sg : Int) (C B : Option Addr) (c fr to : List Int) (cc cb n cap g base : Nat) (w : World) (hok : LftOk (o, st, c, sh)) (hsg : sg = 1 ∨ sg = -1)
    (hn : n = to.length) (hn2 : n ≤ 4096) (hlen : fr.length = to.length) (hto : W32 to) (hfr : W32 fr) (ho : Own base w (.slice (some ⟨g, 0, none⟩) n cap) to) (hc : Ints w C c) (hf : Ints w B fr) (hC : c ≠ [] → ∀ ad, C = some ad → ad.block ≠ g) (hB : fr ≠ [] → ∀ ad, B = some ad → ad.block ≠ g) :
    Calls Try.prog 105 #[.agg #[.bool o, .int .i64 st, .slice C c.length cc, .int .i64 sh], .slice (some ⟨g, 0, none⟩) n cap, .slice B fr.length cb, .int .i64 sg] w
      fun e w' => e = .returned (.tuple #[]) ∧ Own base w' (.slice (some ⟨g, 0, none⟩) n cap) (stF (o, st, c, sh) sg to fr) ∧ w.grownBy w' (some g) := by
  obtain ⟨k1, k2, k3, k4, k5, k6⟩ := hok
  simp only at k1 k2 k3 k4 k5 k6
  have hgb := ho.block.2
  have K6 := Lib.hid k6
  have HTO := Lib.hid hto
  have HFR := Lib.hid hfr
  have hne : w.heap.size ≠ g := by omega
  have hC' : c ≠ [] → ∀ ad, C = some ad → some ad.block ≠ some g := fun q ad h e => by injection e with e; exact hC q ad h e
  have hB' : fr ≠ [] → ∀ ad, B = some ad → some ad.block ≠ some g := fun q ad h e => by injection e with e; exact hB q ad h e
  have HC := Lib.hid hC'
  have HB := Lib.hid hB'
  have HN := Lib.hid hn
  have HL := Lib.hid hlen
  have hl1 : fr.length ≤ n := by omega
  have hl2 : n ≤ fr.length := by omega
  rw [← stN_zero (o, st, c, sh) sg to fr] at ho
  clear k6 hto hfr hC hB hC' hB' hn hlen
  have hal := fun x => Below.alloc (Below.refl w.heap.size w) (Nat.le_refl _) x
  have hc1 := fun x => hc.grow (hal x)
  have hf1 := fun x => hf.grow (hal x)
  have ho1 := fun x => ho.grow (hal x)
  have HC1 := Lib.hid hc1
  have HF1 := Lib.hid hf1
  have HO1 := Lib.hid ho1
  have HAL := Lib.hid (grown_below (grown_refl w (some g)) (hal (.cells #[.bool o, .int .i64 st, .slice C c.length cc, .int .i64 sh] 64)))
  clear hal hc1 hf1 ho1 hc hf ho
  go_enter Try.func105, Try.ntmps105
  go_wp2
  generalize hW : w.alloc (.cells #[.bool o, .int .i64 st, .slice C c.length cc, .int .i64 sh] 64) = W
  have q1 : W.cell? ⟨w.heap.size, 1, none⟩ = some (.int .i64 st) := by rw [← hW]; simp [go_sem]
  have q2 : W.cell? ⟨w.heap.size, 2, none⟩ = some (.slice C c.length cc) := by rw [← hW]; simp [go_sem]
  have q3 : W.cell? ⟨w.heap.size, 3, none⟩ = some (.int .i64 sh) := by rw [← hW]; simp [go_sem]
  have hc := HC1.out (.cells #[.bool o, .int .i64 st, .slice C c.length cc, .int .i64 sh] 64)
  have hf := HF1.out (.cells #[.bool o, .int .i64 st, .slice C c.length cc, .int .i64 sh] 64)
  have ho := HO1.out (.cells #[.bool o, .int .i64 st, .slice C c.length cc, .int .i64 sh] 64)
  rw [hW] at hc hf ho HAL
  have Q1 := Lib.hid q1
  have Q2 := Lib.hid q2
  have Q3 := Lib.hid q3
  have HW1 : some w.heap.size ≠ some g := fun e => hne (by injection e)
  have HW := Lib.hid HW1
  clear hW q1 q2 q3 HC1 HF1 HO1 HW1
  go_loopw [8, 9, 10, 11, 14] (fun _ _ _ _ i wr => ∃ N : Nat, N ≤ n ∧ i = .int .i64 N ∧ Own base wr (.slice (some ⟨g, 0, none⟩) n cap) (stN (o, st, c, sh) sg to fr N) ∧ W.grownBy wr (some g)) (fun _ _ _ _ i _ => n - (intOf i).toNat)
  case atStart => exact ⟨0, Nat.zero_le _, rfl, ho, grown_refl _ _⟩
  case round =>
    obtain ⟨N, hN, rfl, hown, hg⟩ := hrel
    by_cases hlt : N < n
    · have hcr := hc.kept hg HC.out
      have hfr := hf.kept hg HB.out
      have c1 := hg.cell Q1.out HW.out
      have c2 := hg.cell Q2.out HW.out
      have c3 := hg.cell Q3.out HW.out
      have HS := Lib.hid (stN_succ (s := (o, st, c, sh)) (g := sg) (to := to) (fr := fr) (K := N) (by rw [← HN.out]; exact hlt))
      have HAT := Lib.hid (stN_at (s := (o, st, c, sh)) (g := sg) (to := to) (fr := fr) (K := N) (by rw [← HN.out]; exact hlt))
      go_wp2
      go_loop [9, 10, 11, 20] (fun s _ _ i => ∃ K : Nat, ∃ S : Int, K ≤ c.length ∧ i = .int .i64 K ∧ s = .int .i64 S ∧ Hid (S = chS c st fr N K)) (fun _ _ _ i => c.length - (intOf i).toNat)
      case atStart => exact ⟨0, 0, Nat.zero_le _, rfl, rfl, rfl⟩
      case round =>
        obtain ⟨K, S, hK, rfl, rfl, HCS⟩ := hrel
        have hsb := chS_bound (st := st) (n := N) K6.out HFR.out K
        rw [← HCS.out] at hsb
        by_cases hlt2 : K < c.length
        · obtain ⟨ad, a, rfl, ba, ha, ca, a1, a2⟩ := hcr.at_ hlt2
          obtain ⟨a3, a4⟩ := K6.out a (List.mem_of_getElem? ha)
          have m0 := Int.emod_nonneg ((N : Int) + st + K) (show (fr.length : Int) ≠ 0 by omega)
          have m1 := Int.emod_lt_of_pos ((N : Int) + st + K) (show (0 : Int) < fr.length by omega)
          obtain ⟨J, hJ⟩ := Int.eq_ofNat_of_zero_le m0
          rw [hJ] at m0 m1
          have hJl : J < fr.length := by omega
          obtain ⟨ad2, y, rfl, by', hy, cy, y1, y2⟩ := hfr.at_ hJl
          obtain ⟨y3, y4⟩ := HFR.out y (List.mem_of_getElem? hy)
          have hmb := mul_bound (x := a) (y := y) (B := 4096) (C := 2147483648) ⟨a3, a4⟩ ⟨y3, by omega⟩
          obtain ⟨P, hP⟩ : ∃ P, a * y = P := ⟨_, rfl⟩
          have HST : Hid (chS c st fr N (K + 1) = S + P) := by
            show chS c st fr N K + el c K * el fr (((N : Int) + st + K) % (fr.length : Int)).toNat = _
            rw [← HCS.out, el_of ha, hJ, Int.toNat_natCast, el_of hy, hP]
          rw [hP] at hmb
          have hcar : ∀ w, Calls Try.prog 113 #[.int .i64 ((N : Int) + st + K), .int .i64 fr.length] w fun e w' => e = .returned (.int .i64 J) ∧ w = w' := fun w => by
            have := bk_around ((N : Int) + st + K) fr.length w (by omega) (by omega)
            rw [hJ] at this; exact this
          have HCAR := Lib.hid hcar
          clear ha hy hJ hcar m0 m1
          go_wp2_with (go_at_call 113; refine (HCAR.out _).mono ?_; rintro e w' ⟨rfl, rfl⟩)
          all_goals try (exfalso; omega)
          go_round
          case rel => exact ⟨K + 1, S + P, by omega, by go_num, rfl, HST.out.symm⟩
          case measure => simp [intOf]; omega
        · obtain rfl : K = c.length := by omega
          have hI : I64 S := ⟨by omega, by omega⟩
          obtain ⟨z1, z2⟩ := step_bound (s := S) (sh := sh) ⟨by omega, by omega⟩ k2 k3
          obtain ⟨t1, t2⟩ := w32_el HTO.out N
          have HE : Hid (chF (o, st, c, sh) fr N = shiftF S sh 1) := by
            show shiftF (chS c st fr N c.length) sh 1 = _
            rw [← HCS.out]
          obtain ⟨Z, hZ⟩ : ∃ Z, shiftF S sh 1 = Z := ⟨_, rfl⟩
          have hcs : ∀ w, Calls Try.prog 39 #[.int .i64 S, .int .i64 sh, .int .i64 1] w fun e w' => e = .returned (.int .i64 Z) ∧ Below w.heap.size w w' := fun w => by rw [← hZ]; exact fx_Shift S sh 1 w hI
          have HCSH := Lib.hid hcs
          rw [hZ] at z1 z2 HE
          obtain ⟨E, hE⟩ : ∃ E, el to N = E := ⟨_, rfl⟩
          rw [hE] at t1 t2 HAT HS
          obtain ⟨M, hM⟩ : ∃ M, sg * Z = M := ⟨_, rfl⟩
          have hMb : -70368744177664 ≤ M ∧ M ≤ 70368744177664 := by rcases hsg with h | h <;> (subst h; omega)
          rw [HE.out, hM] at HS
          have ct := hown.cell HAT.out
          have cf := hown.free N
          have hown2 : Own base wr.drew _ _ := hown
          have hg2 : W.grownBy wr.drew (some g) := grown_drew hg
          have HI2 := Lib.hid (w32_wrap (E + M))
          have n0 : (0 : Int) ≤ (N : Int) := by omega
          have n1 : (N : Int) < (n : Int) := by omega
          have e1 : IntKind.i64.wrap M = M := IntWalk.i64_in _ (by omega)
          have e2 : IntKind.i64.wrap (E + M) = E + M := IntWalk.i64_in _ (by omega)
          clear hZ hE hcs
          go_wp2_with fail
          have cs := hg2.cell Q3.out HW.out
          go_region_law (first
              | (go_simp; go_at_call 39; refine (HCSH.out _).mono ?_; rintro e w3 ⟨rfl, hb3⟩; have hown2 := hown2.grow hb3; have hg2 := grown_below hg2 hb3; have ct := hown2.cell HAT.out; have cf := hown2.free N; have cs := hg2.cell Q3.out HW.out)
              | (go_simp; go_at_call 40; refine (fx_Wrap _ _ _).mono ?_; rintro e w3 ⟨rfl, rfl⟩))
          all_goals
            clear ct cf cs
            go_wp2
            go_roundw
            case rel => exact ⟨N + 1, by omega, by go_num, by rw [HS.out]; exact hown2.set N ⟨by have := HI2.out; omega, by have := HI2.out; omega⟩, grown_set hg2⟩
            case measure => simp [intOf]; omega
    · obtain rfl : N = n := by omega
      go_wp2
      go_end0
      have hst : stN (o, st, c, sh) sg to fr N = stF (o, st, c, sh) sg to fr := by rw [HN.out]; rfl
      rw [hst] at hown
      exact ⟨rfl, hown, HAL.trans hg⟩
end Go.Proofs.Ytmdfgidejdiiiaa
end
