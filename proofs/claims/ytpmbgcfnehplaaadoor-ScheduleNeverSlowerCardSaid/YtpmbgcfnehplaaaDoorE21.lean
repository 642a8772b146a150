/- SameCode of the reference of layer 38; literals of instructions. -/
import Derived.Test.YtpmbgcfnehplaaaDoorE18
set_option linter.unusedVariables false
set_option linter.unusedSimpArgs false
namespace Go.Proofs.YtpmbgcfnehplaaaDoor
open Go.RowKit

def litI (w : World) (l : List Ins) : World := w.alloc (.cells ((l.flatMap encI).map (Value.int .i64)).toArray 48)
theorem InsAt.lit {w : World} {l : List Ins} (hl : ∀ i ∈ l, i.ok) : InsAt (litI w l) (some ⟨w.heap.size, 0, none⟩) l := fun k i hk => by
  refine ⟨_, rfl, rfl, by unfold litI; simp, fun j v hj => ?_, hl i (List.mem_of_getElem? hk)⟩
  have hj4 : j < 4 := (List.getElem?_eq_some_iff.1 hj).1
  have hb := Box.new (w := w) (vs := ((l.flatMap encI).map (Value.int .i64)).toArray) (t := 48) (g := w.heap.size) rfl
  have h2 := hb.2.1 (k * 4 + j)
  rw [show (⟨w.heap.size, 0, none⟩ : Addr).off + k * 4 + j = k * 4 + j by show 0 + k * 4 + j = _; omega]
  exact h2.trans ((flatI_get hk hj4).trans hj)
theorem litI_below (w : World) (l : List Ins) : Below w.heap.size w (litI w l) := (Below.refl _ _).alloc (Nat.le_refl _) _
theorem bld_ins4 {ops : Array Oper} {rest : List Oper} {o : Oper} {a : Act} {Q : Exit → Act → World → Prop} {w : World} (i0 i1 i2 i3 : Ins) (hgd : o.guard = none) (x0 x1 x2 x3 : Operand) (ho : o.op = .buildSlice 28 4 #[(0, x0), (1, x1), (2, x2), (3, x3)]) (h0 : a.eval x0 = i0.v) (h1 : a.eval x1 = i1.v) (h2 : a.eval x2 = i2.v) (h3 : a.eval x3 = i3.v)
    (h : wpList Tryd.prog ops Q rest (a.put o.dst (.slice (some ⟨w.heap.size, 0, none⟩) 4 4)) (litI w [i0, i1, i2, i3])) : wpList Tryd.prog ops Q (o :: rest) a w :=
  wp_bldS hgd 28 48 4 _ ho und_ins 4 size_ins (by decide) (by decide) _ rfl (by show builtS Tryd.prog 48 4 [(0, a.eval x0), (1, a.eval x1), (2, a.eval x2), (3, a.eval x3)] = _; rw [h0, h1, h2, h3]; kernel_rfl) h
theorem bld_ins5 {ops : Array Oper} {rest : List Oper} {o : Oper} {a : Act} {Q : Exit → Act → World → Prop} {w : World} (i0 i1 i2 i3 i4 : Ins) (hgd : o.guard = none) (x0 x1 x2 x3 x4 : Operand) (ho : o.op = .buildSlice 28 5 #[(0, x0), (1, x1), (2, x2), (3, x3), (4, x4)]) (h0 : a.eval x0 = i0.v) (h1 : a.eval x1 = i1.v) (h2 : a.eval x2 = i2.v) (h3 : a.eval x3 = i3.v) (h4 : a.eval x4 = i4.v)
    (h : wpList Tryd.prog ops Q rest (a.put o.dst (.slice (some ⟨w.heap.size, 0, none⟩) 5 5)) (litI w [i0, i1, i2, i3, i4])) : wpList Tryd.prog ops Q (o :: rest) a w :=
  wp_bldS hgd 28 48 5 _ ho und_ins 4 size_ins (by decide) (by decide) _ rfl (by show builtS Tryd.prog 48 5 [(0, a.eval x0), (1, a.eval x1), (2, a.eval x2), (3, a.eval x3), (4, a.eval x4)] = _; rw [h0, h1, h2, h3, h4]; kernel_rfl) h
set_option maxRecDepth 100000 in
set_option maxHeartbeats 4000000 in
theorem r38_SameCode (A B : Option Addr) (n c d : Nat) (l : List Ins) (w : World) (hA : InsAt w A l) (hB : InsAt w B l) (hn : l.length = n) (h9 : n ≤ 9223372036854775807) : Calls Tryd.prog 29 #[.slice A n c, .slice B n d] w fun e w' => e = .returned (.bool true) ∧ Below w.heap.size w w' := by
  have HA := Lib.hid hA
  have HB := Lib.hid hB
  have HN := Lib.hid hn
  clear hA hB hn
  go_enter Tryd.func29, Tryd.ntmps29
  go_wp2_with fail
  go_loopw [5] (fun x wr => ∃ k : Nat, k ≤ n ∧ x = .int .i64 k ∧ Hid (Below w.heap.size w wr)) (fun x _ => n - (intOf x).toNat)
  case atStart => exact ⟨0, Nat.zero_le _, rfl, Lib.hid (Below.refl _ _)⟩
  case round =>
    obtain ⟨k, hk, rfl, HW⟩ := hrel
    by_cases hlt : k < n
    · obtain ⟨i, hi⟩ : ∃ i, l[k]? = some i := ⟨_, List.getElem?_eq_getElem (by rw [HN.out]; exact hlt)⟩
      obtain ⟨ad, ea, s1, b1, r1, -⟩ := (HA.out.grow HW.out) k i hi
      obtain ⟨bd, eb, s2, b2, r2, -⟩ := (HB.out.grow HW.out) k i hi
      subst ea eb
      have D1 : Hid (ad.spot = none ∧ ad.block < wr.heap.size ∧ wr.rangeAt ad.block (ad.off + k * 4) i.cells) := ⟨s1, b1, r1⟩
      have D2 : Hid (bd.spot = none ∧ bd.block < wr.heap.size ∧ wr.rangeAt bd.block (bd.off + k * 4) i.cells) := ⟨s2, b2, r2⟩
      have x1 : (0 : Int) ≤ (k : Int) := by omega
      have x2 : (k : Int) < (n : Int) := by omega
      have wk : IntKind.i64.wrap ((k : Int) + 1) = ((k + 1 : Nat) : Int) := (IntWalk.i64_in _ (by omega)).trans (by omega)
      clear s1 s2 b1 b2 r1 r2 hi
      go_upto_region 6 with fail
      refine wp_region_ext (by kernel_rfl) (by kernel_rfl) ?_
      repeat (first
        | ((with_reducible show wpQuiet _ _ _ _ (Oper.mk (some 20) (.load 48 _) _ _ _ _ :: _) _); refine qld_insA D1.out.1 D1.out.2.1 D1.out.2.2 rfl _ rfl rfl ?_; simp [Act.put])
        | ((with_reducible show wpQuiet _ _ _ _ (Oper.mk (some 24) (.load 48 _) _ _ _ _ :: _) _); refine qld_insA D2.out.1 D2.out.2.1 D2.out.2.2 rfl _ rfl rfl ?_; simp [Act.put])
        | (go_big_quiet_step (fail)))
      refine wpQuiet_nil ?_
      rintro ⟨w3, hb3⟩
      dsimp only
      have HB3 := Lib.hid (below_then HW.out hb3)
      clear hb3
      go_wp2_with fail
      go_roundw
      case rel => exact ⟨k + 1, by omega, rfl, HB3⟩
      case measure => simp [intOf]; omega
    · obtain rfl : k = n := by omega
      have hlo : ¬ (k : Int) < (k : Int) := by omega
      go_wp2_with fail
      go_ret
      exact ⟨rfl, HW.out⟩
end Go.Proofs.YtpmbgcfnehplaaaDoor
