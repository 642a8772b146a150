/- What each instruction of a list uses, in rows of the call's own: uses of package schedule. -/
import Derived.Test.YtpmbgcfnehplaaaDoorE9
set_option linter.unusedVariables false
set_option linter.unusedSimpArgs false
namespace Go.Proofs.YtpmbgcfnehplaaaDoor
open Go.RowKit

def depE (l : List Ins) : Int := if fineF l then 0 else 21
theorem fine_encE (l : List Ins) : fineF l = true ↔ encE l = 0 ∧ l.length ≠ 0 := by
  unfold fineF encE inB
  rw [Bool.and_eq_true, Bool.and_eq_true, decide_eq_true_eq, decide_eq_true_eq]
  by_cases h : 512 < l.length
  · rw [if_pos h]
    constructor
    · rintro ⟨⟨-, h2⟩, -⟩; omega
    · rintro ⟨h1, -⟩; exact absurd h1 (by decide)
  · rw [if_neg h]
    by_cases ha : l.all Ins.formed = true
    · rw [if_pos ha]
      constructor
      · rintro ⟨⟨h1, -⟩, -⟩; exact ⟨rfl, by omega⟩
      · rintro ⟨-, h2⟩; exact ⟨⟨by omega, by omega⟩, ha⟩
    · rw [if_neg ha]
      constructor
      · rintro ⟨-, h1⟩; exact absurd h1 ha
      · rintro ⟨h1, -⟩; exact absurd h1 (by decide)
/-- A slice of uses. -/
def UsesAt (w : World) (A : Option Addr) (l : List Ins) : Prop := ∀ (k : Nat) i, l[k]? = some i → ∃ ad B b C c, A = some ad ∧ ad.spot = none ∧ ad.block < w.heap.size ∧ w.rangeAt ad.block (ad.off + k * 2) [.slice B i.rd.length b, .slice C i.wt.length c] ∧ Ints w B i.rd ∧ Ints w C i.wt
theorem UsesAt.grow {w w' : World} {A : Option Addr} {l : List Ins} (h : UsesAt w A l) (hb : Below w.heap.size w w') : UsesAt w' A l := fun k i hk => by
  obtain ⟨ad, B, b, C, c, e, h1, h2, h3, h4, h5⟩ := h k i hk
  exact ⟨ad, B, b, C, c, e, h1, Nat.lt_of_lt_of_le h2 hb.size, range_keepI h3 h2 hb, h4.grow hb, h5.grow hb⟩
theorem info_use : (Tryd.prog.info? 77).map (fun i => (i.zero, i.size, i.bytes)) = some (some (.agg #[.slice none 0 0, .slice none 0 0]), 2, 48) := by kernel_rfl
theorem row_use : ∃ d, Tryd.prog.underlying 77 = some d ∧ d.isRow = true := ⟨_, Tryd.underlying77, rfl⟩
theorem size_use : (Tryd.prog.info? 77).map (·.size) = some 2 := by kernel_rfl
/-- Uses of the call's own, those of us written. -/
def OwnU (base : Nat) (w : World) (g n : Nat) (us : List Ins) : Prop :=
  ∃ vs : List Value, w.ownsRow base 77 2 (.slice (some ⟨g, 0, none⟩) n n) n vs ∧ vs.length = n * 2 ∧ base ≤ g ∧ us.length ≤ n ∧
    ∀ (k : Nat) i, us[k]? = some i → ∃ B b C c, vs[k * 2]? = some (.slice B i.rd.length b) ∧ vs[k * 2 + 1]? = some (.slice C i.wt.length c) ∧ IntsF (g + 1) w B i.rd ∧ IntsF (g + 1) w C i.wt
theorem OwnU.grow {base : Nat} {w w' : World} {g n : Nat} {us : List Ins} (h : OwnU base w g n us) (hb : Below w.heap.size w w') : OwnU base w' g n us := by
  obtain ⟨vs, h1, h2, h3, h4, h5⟩ := h
  refine ⟨vs, own_grow h1 hb, h2, h3, h4, fun k i hk => ?_⟩
  obtain ⟨B, b, C, c, e1, e2, i1, i2⟩ := h5 k i hk
  exact ⟨B, b, C, c, e1, e2, i1.grow hb, i2.grow hb⟩
theorem OwnU.lt {base : Nat} {w : World} {g n : Nat} {us : List Ins} (h : OwnU base w g n us) : g < w.heap.size := by
  obtain ⟨vs, h1, -⟩ := h
  exact (h1.lt g rfl).2
theorem OwnU.cell {base : Nat} {w : World} {g n : Nat} {us : List Ins} (h : OwnU base w g n us) {j : Nat} (hj : j < n * 2) : (∃ v, w.cell? ⟨g, j, none⟩ = some v) ∧ w.frozen? ⟨g, j, none⟩ = false := by
  obtain ⟨vs, h1, h2, -⟩ := h
  exact ⟨⟨vs[j]'(by omega), by rw [h1.cellAt j hj]; exact List.getElem?_eq_getElem _⟩, h1.frozenAt j⟩
theorem OwnU.at {base : Nat} {w : World} {g n : Nat} {us : List Ins} (h : OwnU base w g n us) : UsesAt w (some ⟨g, 0, none⟩) us := fun k i hk => by
  have hg := h.lt
  obtain ⟨vs, h1, h2, h3, h4, h5⟩ := h
  obtain ⟨B, b, C, c, e1, e2, i1, i2⟩ := h5 k i hk
  have hkl := (List.getElem?_eq_some_iff.1 hk).1
  refine ⟨_, B, b, C, c, rfl, rfl, hg, fun j v hj => ?_, i1.1, i2.1⟩
  show w.cell? ⟨g, 0 + k * 2 + j, none⟩ = _
  match j, hj with
  | 0, hj =>
    rw [show 0 + k * 2 + 0 = k * 2 by omega, h1.cellAt _ (by omega), e1]; exact hj
  | 1, hj =>
    rw [show 0 + k * 2 + 1 = k * 2 + 1 by omega, h1.cellAt _ (by omega), e2]; exact hj
  | j + 2, hj => simp at hj
theorem OwnU.set {base : Nat} {w : World} {g n : Nat} {us : List Ins} {i : Ins} {B C : Option Addr} {b c : Nat} (h : OwnU base w g n us) (hn : us.length < n) (hB : IntsF (g + 1) w B i.rd) (hC : IntsF (g + 1) w C i.wt) :
    OwnU base ((w.setCell ⟨g, us.length * 2, none⟩ (.slice B i.rd.length b)).setCell ⟨g, us.length * 2 + 1, none⟩ (.slice C i.wt.length c)) g n (us ++ [i]) := by
  obtain ⟨vs, h1, h2, h3, h4, h5⟩ := h
  obtain ⟨o1, g1⟩ := h1.stored (us.length * 2) (.slice B i.rd.length b)
  obtain ⟨o2, g2⟩ := o1.stored (us.length * 2 + 1) (.slice C i.wt.length c)
  have away : ∀ (A : Option Addr) (l : List Int), IntsF (g + 1) w A l → IntsF (g + 1) ((w.setCell ⟨g, us.length * 2, none⟩ (.slice B i.rd.length b)).setCell ⟨g, us.length * 2 + 1, none⟩ (.slice C i.wt.length c)) A l := fun A l hi => (hi.away g1 (by omega)).away g2 (by omega)
  refine ⟨_, o2, by simp [h2], h3, by rw [List.length_append]; simp; omega, fun k x hk => ?_⟩
  by_cases e : k = us.length
  · subst e
    rw [List.getElem?_append_right (Nat.le_refl _), Nat.sub_self] at hk
    simp only [List.getElem?_cons_zero, Option.some.injEq] at hk
    subst hk
    refine ⟨B, b, C, c, ?_, ?_, away _ _ hB, away _ _ hC⟩
    · rw [List.getElem?_set_ne (by omega), List.getElem?_set_self (by omega)]
    · rw [List.getElem?_set_self (by simp; omega)]
  · have hlt : k < us.length := by
      have := (List.getElem?_eq_some_iff.1 hk).1
      rw [List.length_append] at this; simp at this; omega
    rw [List.getElem?_append_left hlt] at hk
    obtain ⟨B', b', C', c', e1, e2, i1, i2⟩ := h5 k x hk
    refine ⟨B', b', C', c', ?_, ?_, away _ _ i1, away _ _ i2⟩
    · rw [List.getElem?_set_ne (by omega), List.getElem?_set_ne (by omega)]; exact e1
    · rw [List.getElem?_set_ne (by omega), List.getElem?_set_ne (by omega)]; exact e2
/-- make([]use, n). -/
theorem mk_use {ops : Array Oper} {rest : List Oper} {o : Oper} {a : Act} {Q : Exit → Act → World → Prop} {w : World} (hg : o.guard = none) (s c : Operand) (hop : o.op = Op.makeSlice 72 s c)
    (n : Nat) {N : Int} (hs : a.eval s = .int .i64 N) (hc : a.eval c = .int .i64 N) (hN : N = (n : Int)) (hn : n ≤ 100000000)
    (h : ∀ w', OwnU w.heap.size w' w.heap.size n [] → Below w.heap.size w w' → wpList Tryd.prog ops Q rest (a.put o.dst (.slice (some ⟨w.heap.size, 0, none⟩) n n)) w') :
    wpList Tryd.prog ops Q (o :: rest) a w := by
  subst hN
  obtain ⟨i0, hi, hz0, hz1, hz2⟩ := info_parts info_use
  refine wpList_make_full w hg s c 72 hop w.heap.size 77 i0 (.agg #[.slice none 0 0, .slice none 0 0]) 2 Tryd.underlying72 hi hz0 hz1 .i64 .i64 n n n hs hc rfl rfl (by rw [hz2]; omega) (by unfold maxLen; omega) (Nat.le_refl _) fun w' h1 h2 => h w' ⟨_, h1, ?_, Nat.le_refl _, Nat.zero_le _, fun k i hk => by simp at hk⟩ ?_
  · simp [size_madeCells]
  · exact (Below.refl _ _).grown h2 (Nat.le_refl _) (by intro k hk; cases hk)
/-- What uses hands back. -/
def RetUses (w : World) (l : List Ins) (e : Ending) (w' : World) : Prop := (∃ A c, e = .returned (.tuple #[.slice A (if fineF l then l.length else 0) c, .int .i64 (depE l)]) ∧ (fineF l = true → UsesAt w' A l)) ∧ Below w.heap.size w w'
set_option maxRecDepth 100000 in
set_option maxHeartbeats 4000000 in
theorem sc_uses (A : Option Addr) (n c : Nat) (l : List Ins) (w : World) (hf : FormsAt w) (h : InsAt w A l) (hn : l.length = n) (h9 : n ≤ 9223372036854775807) : Calls Tryd.prog 34 #[.slice A n c] w (RetUses w l) := by
  have CE := Lib.hid (pr_Encode A n c l w hf h hn h9)
  have HI := Lib.hid h
  have HN := Lib.hid hn
  have HF := Lib.hid hf
  clear h hn hf
  obtain ⟨E, hE⟩ : ∃ E, encE l = E := ⟨_, rfl⟩
  rw [hE] at CE
  by_cases hfl : fineF l = true
  · obtain ⟨e0, e1⟩ := (fine_encE l).1 hfl
    have hE0 : E = 0 := hE.symm.trans e0
    subst hE0
    have hn512 : n ≤ 512 := by
      unfold fineF inB at hfl
      rw [Bool.and_eq_true, Bool.and_eq_true, decide_eq_true_eq, decide_eq_true_eq, HN.out] at hfl
      omega
    rw [HN.out] at e1
    have q0 : ¬ (n : Int) = 0 := by omega
    have q00 : ((n : Int) == 0) = false := by simpa using q0
    have HFL := Lib.hid hfl
    clear hE e0 hfl e1
    go_enter Tryd.func34, Tryd.ntmps34
    go_upto_region 4 with (go_at_call 23; (with_reducible refine CE.out.mono ?_); rintro e1 w1 ⟨⟨v, rfl, -⟩, hb1⟩)
    go_upto_region 5 with ((with_reducible show wpList _ _ _ (Oper.mk (some 23) _ _ _ _ _ :: _) _ _); refine mk_use rfl _ _ rfl n rfl rfl rfl (by omega) ?_; intro w2 ho2 hb2)
    have HO2 := Lib.hid ho2
    have HB2 := Lib.hid (below_then hb1 hb2)
    have HG1 : Hid (w.heap.size ≤ w1.heap.size) := hb1.size
    generalize w1.heap.size = g at HO2 HG1 ⊢
    clear ho2 hb2 hb1 q0 q00
    go_wp2_with fail
    go_loopw [26] (fun x wr => ∃ k : Nat, k ≤ n ∧ x = .int .i64 k ∧ Hid (OwnU g wr g n (l.take k)) ∧ Hid (Below w.heap.size w wr)) (fun x _ => n - (intOf x).toNat)
    case atStart => exact ⟨0, Nat.zero_le _, rfl, HO2, HB2⟩
    case round =>
      obtain ⟨k, hk, rfl, HO, HB⟩ := hrel
      by_cases hlt : k < n
      · obtain ⟨i, hi⟩ : ∃ i, l[k]? = some i := ⟨_, List.getElem?_eq_getElem (by rw [HN.out]; exact hlt)⟩
        obtain ⟨ad, rfl, hs, hb, hr, hok⟩ := (HI.out.grow HB.out) k i hi
        have HS := Lib.hid hs
        have HR := Lib.hid hr
        have HK := Lib.hid hi
        have HTL : Hid ((l.take k).length = k) := by show _ = _; rw [List.length_take, HN.out]; omega
        have q1 : (0 : Int) ≤ (k : Int) := by omega
        have q2 : (k : Int) < (n : Int) := by omega
        have wk : IntKind.i64.wrap ((k : Int) + 1) = ((k + 1 : Nat) : Int) := (IntWalk.i64_in _ (by omega)).trans (by omega)
        have CU : Hid (∀ w1, Below wr.heap.size wr w1 → Calls Tryd.prog 24 #[i.v] w1 (RetII w1 i.rd i.wt)) := fun w1 hb => pr_Uses i w1 ((HF.out.grow HB.out).grow hb) hok
        clear hs hr hb hok hi
        go_upto_region 8 with (first
          | ((with_reducible show wpList _ _ _ (Oper.mk _ (.load _ _) _ _ _ _ :: _) _ _); refine ld_insA HS.out HR.out rfl _ rfl rfl ?_)
          | ((with_reducible show wpList _ _ _ (Oper.mk _ (.store _ _ _) _ _ _ _ :: _) _ _); refine st_ins (w := wr.alloc (.cells Ins.zero.cells.toArray 48)) (g := wr.heap.size) (i := Ins.zero) (j := i) (Box.new rfl) rfl _ _ rfl rfl rfl ?_; intro W2 b2 p2))
        have hb2 := put_facts ((Below.refl wr.heap.size wr).alloc (Nat.le_refl _) (.cells Ins.zero.cells.toArray 48)) (Nat.le_refl _) p2
        generalize wr.heap.size = g8 at b2 ⊢
        go_upto_region 9 with (first
          | ((with_reducible show wpList _ _ _ (Oper.mk _ (.load _ _) _ _ _ _ :: _) _ _); refine ld_ins b2 rfl _ rfl rfl ?_)
          | (go_at_call 24; (with_reducible refine (CU.out _ hb2).mono ?_); rintro e1 w3 ⟨RA, WA, rc, wc, rfl, hra, hwa, hb3⟩; have ho3 := HO.out.grow (below_then hb2 hb3); obtain ⟨⟨x0, c0⟩, f0⟩ := ho3.cell (j := k * 2) (by omega); obtain ⟨⟨x1, c1⟩, f1⟩ := ho3.cell (j := k * 2 + 1) (by omega)))
        have hgs : g < W2.heap.size := Nat.lt_of_lt_of_le HO.out.lt hb2.size
        have ho5 := OwnU.set (i := i) (b := rc) (c := wc) ho3 (by rw [HTL.out]; exact hlt) (hra.base (by omega)) (hwa.base (by omega))
        rw [HTL.out, ← take_snoc' HK.out] at ho5
        have hb5 := put_facts (below_then HB.out (below_then hb2 hb3)) HG1.out (grown_set (grown_set (grown_refl w3 (some g)) (k := k * 2) (u := .slice RA i.rd.length rc)) (k := k * 2 + 1) (u := .slice WA i.wt.length wc))
        have HO5 := Lib.hid ho5
        have HB5 := Lib.hid hb5
        clear ho5 hb5 hra hwa hb2 hb3 ho3 f0 f1 c0 c1 b2 p2
        go_wp2_with fail
        go_roundw
        case rel => exact ⟨k + 1, by omega, rfl, HO5, HB5⟩
        case measure => simp [intOf]; omega
      · obtain rfl : k = n := by omega
        have hlo : ¬ (k : Int) < (k : Int) := by omega
        have hat := HO.out.at
        rw [← HN.out, List.take_length] at hat
        have HAT := Lib.hid hat
        clear hat
        go_wp2_with fail
        go_ret2
        refine ⟨⟨some ⟨g, 0, none⟩, k, ?_, fun _ => HAT.out⟩, HB.out⟩
        unfold depE
        rw [if_pos HFL.out, if_pos HFL.out, HN.out]; rfl
  · have hfl : fineF l = false := by simpa using hfl
    have HFL := Lib.hid hfl
    by_cases hE0 : E = 0
    · subst hE0
      have hn0 : n = 0 := by
        have := mt (fine_encE l).2 (by rw [hfl]; decide)
        rw [HN.out] at this
        by_cases h0 : n = 0
        · exact h0
        · exact absurd ⟨hE, h0⟩ this
      subst hn0
      clear hE hfl
      go_enter Tryd.func34, Tryd.ntmps34
      go_wp2_with (go_at_call 23; (with_reducible refine CE.out.mono ?_); rintro e1 w1 ⟨⟨v, rfl, -⟩, hb1⟩)
      go_ret2
      refine ⟨⟨none, 0, ?_, fun h => absurd (HFL.out.symm.trans h) (by decide)⟩, hb1⟩
      unfold depE
      rw [HFL.out]; rfl
    · have hEb : (E == 0) = false := by simpa using hE0
      clear hE hfl
      go_enter Tryd.func34, Tryd.ntmps34
      go_wp2_with (go_at_call 23; (with_reducible refine CE.out.mono ?_); rintro e1 w1 ⟨⟨v, rfl, -⟩, hb1⟩)
      go_ret2
      refine ⟨⟨none, 0, ?_, fun h => absurd (HFL.out.symm.trans h) (by decide)⟩, hb1⟩
      unfold depE
      rw [HFL.out]; rfl
end Go.Proofs.YtpmbgcfnehplaaaDoor
