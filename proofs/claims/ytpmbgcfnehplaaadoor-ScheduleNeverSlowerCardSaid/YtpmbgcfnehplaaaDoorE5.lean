/- Slices of instructions; AllFormed of the reference; Encode. -/
import Derived.Test.YtpmbgcfnehplaaaDoorE4
set_option linter.unusedVariables false
set_option linter.unusedSimpArgs false
namespace Go.Proofs.YtpmbgcfnehplaaaDoor
open Go.RowKit

/-- A slice of instructions. -/
def InsAt (w : World) (A : Option Addr) (l : List Ins) : Prop := ∀ (k : Nat) i, l[k]? = some i → ∃ ad, A = some ad ∧ ad.spot = none ∧ ad.block < w.heap.size ∧ w.rangeAt ad.block (ad.off + k * 4) i.cells ∧ i.ok
theorem range_keepI {w w' : World} {b o : Nat} {cs : List Value} {B : Nat} (h : w.rangeAt b o cs) (hb : b < B) (hB : Below B w w') : w'.rangeAt b o cs := fun j v hj => (hB.cell (p := ⟨b, o + j, none⟩) hb).trans (h j v hj)
theorem InsAt.grow {w w' : World} {A : Option Addr} {l : List Ins} (h : InsAt w A l) (hb : Below w.heap.size w w') : InsAt w' A l := fun k i hk => by
  obtain ⟨ad, e, h1, h2, h3, h4⟩ := h k i hk
  exact ⟨ad, e, h1, Nat.lt_of_lt_of_le h2 hb.size, range_keepI h3 h2 hb, h4⟩
theorem InsAt.ok {w : World} {A : Option Addr} {l : List Ins} (h : InsAt w A l) : ∀ i ∈ l, i.ok := fun i hi => by
  obtain ⟨k, hk⟩ := List.getElem?_of_mem hi
  obtain ⟨ad, -, -, -, -, h4⟩ := h k i hk
  exact h4
theorem add_noneI {ad : Addr} {n : Nat} (h : ad.spot = none) : ad.add n = ⟨ad.block, ad.off + n, none⟩ := by
  obtain ⟨b, o, s⟩ := ad
  simp only at h
  subst h
  unfold Addr.add
  split
  · rename_i e; subst e; rfl
  · rfl
/-- The four cells, as a walk names them. -/
theorem ins_cells {w : World} {i : Ins} {ad : Addr} {n : Nat} (hs : ad.spot = none) (hr : w.rangeAt ad.block (ad.off + n) i.cells) :
    w.cell? (ad.add n) = some (.int .i64 i.op) ∧ w.cell? ⟨(ad.add n).block, (ad.add n).off + 1, none⟩ = some (.int .i64 i.a) ∧ w.cell? ⟨(ad.add n).block, (ad.add n).off + 2, none⟩ = some (.int .i64 i.b) ∧ w.cell? ⟨(ad.add n).block, (ad.add n).off + 3, none⟩ = some (.int .i64 i.imm) := by
  rw [add_noneI hs]
  exact ⟨hr 0 _ rfl, hr 1 _ rfl, hr 2 _ rfl, hr 3 _ rfl⟩
theorem row_ins : ∃ d, Tryd.prog.underlying 48 = some d ∧ d.isRow = true := ⟨_, Tryd.underlying48, rfl⟩
theorem size_ins : (Tryd.prog.info? 48).map (·.size) = some 4 := by kernel_rfl
theorem ld_insA {ops : Array Oper} {rest : List Oper} {o : Oper} {a : Act} {Q : Exit → Act → World → Prop} {w : World} {i : Ins} {ad : Addr} {n : Nat} (hs : ad.spot = none) (hr : w.rangeAt ad.block (ad.off + n) i.cells) (hgd : o.guard = none) (x : Operand) (ho : o.op = .load 48 x) (hx : a.eval x = .pointer (some (ad.add n))) (h : wpList Tryd.prog ops Q rest (a.put o.dst i.v) w) : wpList Tryd.prog ops Q (o :: rest) a w := by
  obtain ⟨d, h1, h2⟩ := row_ins
  rw [add_noneI hs] at hx
  exact wpList_load_mid hgd _ x ho ad.block (ad.off + n) hx i.cells d hr h1 h2 size_ins h
theorem ld_ins {ops : Array Oper} {rest : List Oper} {o : Oper} {a : Act} {Q : Exit → Act → World → Prop} {w : World} {i : Ins} {g : Nat} (hb : Box w g i.cells) (hgd : o.guard = none) (x : Operand) (ho : o.op = .load 48 x) (hx : a.eval x = .pointer (some ⟨g, 0, none⟩)) (h : wpList Tryd.prog ops Q rest (a.put o.dst i.v) w) : wpList Tryd.prog ops Q (o :: rest) a w := by
  obtain ⟨d, h1, h2⟩ := row_ins
  exact wp_ld hgd _ x ho g 0 hx hb i.cells (fun j v hj => by rw [Nat.zero_add]; exact hj) d h1 h2 size_ins h
theorem st_ins {ops : Array Oper} {rest : List Oper} {o : Oper} {a : Act} {Q : Exit → Act → World → Prop} {w : World} {i j : Ins} {g : Nat} (hb : Box w g i.cells) (hgd : o.guard = none) (x y : Operand) (ho : o.op = .store 48 x y) (hx : a.eval x = .pointer (some ⟨g, 0, none⟩)) (hy : a.eval y = j.v)
    (h : ∀ W1, Box W1 g j.cells → w.grownBy W1 (some g) → wpList Tryd.prog ops Q rest (a.put o.dst undef) W1) : wpList Tryd.prog ops Q (o :: rest) a w :=
  wp_st hgd _ x y ho g 0 j.cells hx hy size_ins rfl hb (by show 0 + 4 ≤ 4; omega) rfl h
def Ins.zero : Ins := ⟨0, 0, 0, 0⟩
set_option maxRecDepth 100000 in
theorem r38_AllFormed (A : Option Addr) (n c : Nat) (l : List Ins) (w : World) (h : InsAt w A l) (hn : l.length = n) (h9 : n ≤ 9223372036854775807) : Calls Tryd.prog 40 #[.slice A n c] w fun e w' => e = .returned (.bool (l.all Ins.formed)) ∧ Below w.heap.size w w' := by
  have HI := Lib.hid h
  have HN := Lib.hid hn
  clear h hn
  go_enter Tryd.func40, Tryd.ntmps40
  go_wp2_with fail
  go_loopw [3] (fun i wr => ∃ k : Nat, k ≤ n ∧ i = .int .i64 k ∧ Hid ((l.take k).all Ins.formed = true) ∧ Below w.heap.size w wr) (fun i _ => n - (intOf i).toNat)
  case atStart => exact ⟨0, Nat.zero_le _, rfl, Lib.hid rfl, Below.refl _ _⟩
  case round =>
    obtain ⟨k, hk, rfl, HT, hbw⟩ := hrel
    have HB := Lib.hid hbw
    by_cases hlt : k < n
    · obtain ⟨i, hi⟩ : ∃ i, l[k]? = some i := ⟨_, List.getElem?_eq_getElem (by rw [HN.out]; exact hlt)⟩
      obtain ⟨ad, rfl, hs, hb, hr, hok⟩ := (HI.out.grow hbw) k i hi
      have HS := Lib.hid hs
      have HR := Lib.hid hr
      have q1 : (0 : Int) ≤ (k : Int) := by omega
      have q2 : (k : Int) < (n : Int) := by omega
      have wk : IntKind.i64.wrap ((k : Int) + 1) = ((k + 1 : Nat) : Int) := (IntWalk.i64_in _ (by omega)).trans (by omega)
      have CF := Lib.hid (r38_Formed i wr hok)
      have HK := Lib.hid hi
      obtain ⟨x, hx⟩ : ∃ x, i.formed = x := ⟨_, rfl⟩
      rw [hx] at CF
      have HX := Lib.hid hx
      clear hs hr hb hok hi hx hbw
      cases x with
      | false =>
        go_wp2_with (first
          | ((with_reducible show wpList _ _ _ (Oper.mk _ (.load _ _) _ _ _ _ :: _) _ _); refine ld_insA HS.out HR.out rfl _ rfl rfl ?_)
          | (go_at_call 49; (with_reducible refine CF.out.mono ?_); rintro e1 w1 ⟨rfl, hb1⟩))
        go_ret
        exact ⟨by rw [all_no HK.out HX.out]; rfl, below_then HB.out hb1⟩
      | true =>
        go_wp2_with (first
          | ((with_reducible show wpList _ _ _ (Oper.mk _ (.load _ _) _ _ _ _ :: _) _ _); refine ld_insA HS.out HR.out rfl _ rfl rfl ?_)
          | (go_at_call 49; (with_reducible refine CF.out.mono ?_); rintro e1 w1 ⟨rfl, hb1⟩))
        go_roundw
        case rel => exact ⟨k + 1, by omega, rfl, Lib.hid (by show _ = _; rw [take_succ_all HK.out, HT.out, HX.out]; rfl), below_then HB.out hb1⟩
        case measure => simp [intOf]; omega
    · obtain rfl : k = n := by omega
      have hlo : ¬ (k : Int) < (k : Int) := by omega
      have ht : l.all Ins.formed = true := by have := HT.out; rwa [← HN.out, List.take_length] at this
      go_wp2_with fail
      go_ret
      exact ⟨by first | rfl | (rw [ht]; rfl), HB.out⟩
end Go.Proofs.YtpmbgcfnehplaaaDoor
