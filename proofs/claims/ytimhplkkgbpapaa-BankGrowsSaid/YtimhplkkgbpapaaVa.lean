/- The walk of Steps.Lifts. -/
import Derived.Test.YtimhplkkgbpapaaV9
import Derived.Deep.DeepCutAuto
import Derived.Handy
namespace Go.Proofs.Ytimhplkkgbpapaa
open Go.RowKit

/-- A slice of Booleans that reads as l. -/
def Bools (w : World) (A : Option Addr) (l : List Bool) : Prop := Row w w.heap.size A (l.map Value.bool)
theorem Bools.grow {w w' : World} {A : Option Addr} {l : List Bool} (h : Bools w A l) (hb : Below w.heap.size w w') : Bools w' A l := fun k v hk => by
  obtain ⟨ad, e, h1, h2⟩ := h k v hk
  exact ⟨ad, e, Nat.lt_of_lt_of_le h1 hb.size, (hb.cell (by rw [block_add]; exact h1)).trans h2⟩
/-- Four cells of a step that can be written. -/
def StepAt (w : World) (g : Nat) (b : Bool) (st sh : Int) (C : Option Addr) (n c : Nat) : Prop :=
  g < w.heap.size ∧ w.cell? ⟨g, 0, none⟩ = some (.bool b) ∧ w.cell? ⟨g, 1, none⟩ = some (.int .i64 st) ∧ w.cell? ⟨g, 2, none⟩ = some (.slice C n c) ∧ w.cell? ⟨g, 3, none⟩ = some (.int .i64 sh) ∧ w.frozen? ⟨g, 2, none⟩ = false
theorem StepAt.keep {w w' : World} {g : Nat} {b : Bool} {st sh : Int} {C : Option Addr} {n c : Nat} (h : StepAt w g b st sh C n c) (hb : Below w.heap.size w w') : StepAt w' g b st sh C n c := by
  obtain ⟨h0, h1, h2, h3, h4, h5⟩ := h
  exact ⟨Nat.lt_of_lt_of_le h0 hb.size, (hb.cell h0).trans h1, (hb.cell h0).trans h2, (hb.cell h0).trans h3, (hb.cell h0).trans h4, (hb.frozen (p := ⟨g, 2, none⟩) h0).trans h5⟩
theorem StepAt.set {w : World} {g : Nat} {b : Bool} {st sh : Int} {C D : Option Addr} {n c m d : Nat} (h : StepAt w g b st sh C n c) : StepAt (w.setCell ⟨g, 2, none⟩ (.slice D m d)) g b st sh D m d := by
  obtain ⟨h0, h1, h2, h3, h4, h5⟩ := h
  exact ⟨by simpa using h0, by simp [go_sem, h1], by simp [go_sem, h2], by simp [go_sem, h3], by simp [go_sem, h4], by simpa using h5⟩
theorem StepAt.new {a : World} {b : Bool} {st sh : Int} {C : Option Addr} {n c : Nat} {t : TypeId} : StepAt (a.alloc (.cells #[.bool b, .int .i64 st, .slice C n c, .int .i64 sh] t)).drew a.heap.size b st sh C n c :=
  ⟨by simp, by simp [go_sem], by simp [go_sem], by simp [go_sem], by simp [go_sem], by simp [go_sem]⟩
theorem StepAt.cell2 {w w' : World} {g : Nat} {b : Bool} {st sh : Int} {C : Option Addr} {n c : Nat} (h : Hid (StepAt w g b st sh C n c)) (hb : Below w.heap.size w w') : w'.cell? ⟨g, 2, none⟩ = some (.slice C n c) := (h.out.keep hb).2.2.2.1
theorem StepAt.free {w w' : World} {g : Nat} {b : Bool} {st sh : Int} {C : Option Addr} {n c : Nat} (h : Hid (StepAt w g b st sh C n c)) (hb : Below w.heap.size w w') : w'.frozen? ⟨g, 2, none⟩ = false := (h.out.keep hb).2.2.2.2.2
theorem cellS {a w' : World} {H B k : Nat} {v : Value} (hH : H < B) (hB : B ≤ a.heap.size) (S : Hid (a.cell? ⟨H, k, none⟩ = some v)) (b : Below a.heap.size a w') : w'.cell? ⟨H, k, none⟩ = some v := (b.cell (Nat.lt_of_lt_of_le hH hB)).trans S.out
theorem cellS2 {a w' : World} {H B k g : Nat} {v x : Value} (hH : H < B) (hB : B ≤ a.heap.size) (hg : B ≤ g) (S : Hid (a.cell? ⟨H, k, none⟩ = some v)) (b : Below a.heap.size a w') : (w'.setCell ⟨g, 2, none⟩ x).cell? ⟨H, k, none⟩ = some v := by
  rw [World.cell?_setCell_other _ _ _ _ (by intro hc; injection hc with hc; omega)]
  exact cellS hH hB S b
theorem ints3 {a : World} {x y z : Int} {t : TypeId} (h : I64 x ∧ I64 y ∧ I64 z) : Ints (a.alloc (.cells #[.int .i64 x, .int .i64 y, .int .i64 z] t)) (some ⟨a.heap.size, 0, none⟩) [x, y, z] := by
  refine litB rfl (List.all_eq_true.2 fun u hu => ?_)
  have hu2 : I64 u := by
    simp at hu
    rcases hu with rfl | rfl | rfl
    · exact h.1
    · exact h.2.1
    · exact h.2.2
  have u1 := hu2.1
  have u2 := hu2.2
  simp; omega
theorem ints3d {a : World} {x y z : Int} {t : TypeId} (h : I64 x ∧ I64 y ∧ I64 z) : Ints (a.alloc (.cells #[.int .i64 x, .int .i64 y, .int .i64 z] t)).drew (some ⟨a.heap.size, 0, none⟩) [x, y, z] := ints3 h
theorem Own.far {base n c : Nat} {w : World} {A : Option Addr} {l : List Int} (h : Own base w (.slice A n c) l) : ∀ a, A = some a → base ≤ a.block := fun a e => by subst e; exact (h.1.lt a.block rfl).1
theorem belowAD {a w' : World} {o : Obj} (h : Below (a.alloc o).drew.heap.size (a.alloc o).drew w') : Below a.heap.size a w' := ((Below.refl _ _).alloc (Nat.le_refl _) _).drew.trans (h.mono (by simp))
theorem sizeAD (a : World) (o : Obj) : a.heap.size ≤ (a.alloc o).drew.heap.size := by simp
theorem boxS {W w' : World} {B H : Nat} {v0 v1 v2 v3 : Value} (hH : H < B) (y : W.cell? ⟨H, 0, none⟩ = some v0 ∧ W.cell? ⟨H, 1, none⟩ = some v1 ∧ W.cell? ⟨H, 2, none⟩ = some v2 ∧ W.cell? ⟨H, 3, none⟩ = some v3) (h : Below B W w') :
    w'.cell? ⟨H, 0, none⟩ = some v0 ∧ w'.cell? ⟨H, 1, none⟩ = some v1 ∧ w'.cell? ⟨H, 2, none⟩ = some v2 ∧ w'.cell? ⟨H, 3, none⟩ = some v3 := by
  obtain ⟨y0, y1, y2, y3⟩ := y
  exact ⟨(h.cell hH).trans y0, (h.cell hH).trans y1, (h.cell hH).trans y2, (h.cell hH).trans y3⟩
theorem stepS {a w' : World} {H : Nat} {p : Addr} {x0 x1 x2 x3 y : Value} (hH : H < a.heap.size) (hp : p.block < a.heap.size) (S : Hid ((a.cell? ⟨H, 0, none⟩ = some x0 ∧ a.cell? ⟨H, 1, none⟩ = some x1 ∧ a.cell? ⟨H, 2, none⟩ = some x2 ∧ a.cell? ⟨H, 3, none⟩ = some x3) ∧ a.cell? p = some y)) (b : Below a.heap.size a w') :
    (w'.cell? ⟨H, 0, none⟩ = some x0 ∧ w'.cell? ⟨H, 1, none⟩ = some x1 ∧ w'.cell? ⟨H, 2, none⟩ = some x2 ∧ w'.cell? ⟨H, 3, none⟩ = some x3) ∧ w'.cell? p = some y := by
  obtain ⟨⟨y0, y1, y2, y3⟩, y4⟩ := S.out
  exact ⟨⟨(b.cell hH).trans y0, (b.cell hH).trans y1, (b.cell hH).trans y2, (b.cell hH).trans y3⟩, (b.cell hp).trans y4⟩
def LfPost (w : World) (ls : List Lft) (e : Ending) (w' : World) : Prop := ∃ v, e = .returned v ∧ OwnLf w.heap.size w' v ls ∧ Below w.heap.size w w'
set_option maxRecDepth 100000 in
set_option maxHeartbeats 2000000 in
theorem st_Lifts (O S C H : Option Addr) (os : List Bool) (st cf sh : List Int) (c1 c2 c3 c4 : Nat) (w : World) (hO : Bools w O os) (hS : Ints w S st) (hC : Ints w C cf) (hH : Ints w H sh) :
    Calls Try.prog 7 #[.agg #[.slice O os.length c1, .slice S st.length c2, .slice C cf.length c3, .slice H sh.length c4]] w (LfPost w (lftsF os st cf sh (min os.length 5))) := by
  go_enter Try.func7, Try.ntmps7
  go_wp2
  generalize hW : w.alloc (.cells #[.slice O os.length c1, .slice S st.length c2, .slice C cf.length c3, .slice H sh.length c4] 25) = W0
  have hWB : Below w.heap.size w W0 := by rw [← hW]; exact (Below.refl _ _).alloc (Nat.le_refl _) _
  have HW0 : Hid (W0.heap.size = w.heap.size + 1) := by show _ = _; rw [← hW]; simp
  have HL : Hid (W0.cell? ⟨w.heap.size, 0, none⟩ = some (.slice O os.length c1) ∧ W0.cell? ⟨w.heap.size, 1, none⟩ = some (.slice S st.length c2) ∧ W0.cell? ⟨w.heap.size, 2, none⟩ = some (.slice C cf.length c3) ∧ W0.cell? ⟨w.heap.size, 3, none⟩ = some (.slice H sh.length c4)) := by
    rw [← hW]; exact ⟨by simp [go_sem], by simp [go_sem], by simp [go_sem], by simp [go_sem]⟩
  have HO := Lib.hid (hO.grow hWB)
  have HS := Lib.hid (hS.grow hWB)
  have HC := Lib.hid (hC.grow hWB)
  have HH := Lib.hid (hH.grow hWB)
  have HB := Lib.hid hWB
  clear hW hWB hO hS hC hH
  go_loopw [3, 4] (fun v i wr => ∃ k : Nat, k ≤ min os.length 5 ∧ i = .int .i64 k ∧ OwnLf (w.heap.size + 1) wr v (lftsF os st cf sh k) ∧ Below (w.heap.size + 1) W0 wr) (fun _ i _ => 5 - (intOf i).toNat)
  case atStart => exact ⟨0, Nat.zero_le _, rfl, OwnLf.nil, Below.refl _ _⟩
  case round =>
    obtain ⟨k, hk, rfl, hown, hbw⟩ := hrel
    have hlt0 : w.heap.size < W0.heap.size := by have := HW0.out; omega
    have hle0 : W0.heap.size ≤ w.heap.size + 1 := by have := HW0.out; omega
    have hsz := hbw.size
    obtain ⟨y0, y1, y2, y3⟩ := boxS (Nat.lt_succ_self _) HL.out hbw
    have k1 : k ≤ 5 := by omega
    have k2 : k ≤ os.length := by omega
    by_cases h1 : k < os.length
    · by_cases h2 : k < 5
      · have HBW := Lib.hid hbw
        have HOWN := Lib.hid hown
        have HVB : Hid (∀ b, u3.ownBlock = some b → b < wr.heap.size) := fun b hb => by
          obtain ⟨xs, hr, _⟩ := HOWN.out
          exact (hr.lt b hb).2
        clear hbw hown hk
        have d1 : decide ((k : Int) < (os.length : Int)) = true := by simp; omega
        have d2 : decide ((k : Int) < 5) = true := by simp; omega
        go_upto_region 5 with fail
        have hbwr : Below w.heap.size w wr := HB.out.trans (HBW.out.mono (by omega))
        obtain ⟨b, hb⟩ : ∃ b, os[k]? = some b := ⟨_, List.getElem?_eq_getElem h1⟩
        obtain ⟨ad, rfl, had, hadc⟩ := (HO.out.grow (HBW.out.mono hle0)) k (.bool b) (by rw [List.getElem?_map, hb]; rfl)
        have hSr := HS.out.grow (HBW.out.mono hle0)
        have hHr := HH.out.grow (HBW.out.mono hle0)
        have hCr := HC.out.grow (HBW.out.mono hle0)
        have HEB : Hid (elB os k = b) := by show _ = _; unfold elB; rw [hb]; rfl
        obtain ⟨p, hp⟩ : ∃ p, withinF (atF st k) 17 = p := ⟨_, rfl⟩
        obtain ⟨q, hq⟩ : ∃ q, withinF (atF sh k) 8 = q := ⟨_, rfl⟩
        have hp1 := within_in (m := 17) (by omega) (atF st k)
        rw [hp] at hp1
        obtain ⟨hp1, hp2⟩ := hp1
        have hwp : ∀ w, Calls Try.prog 18 #[.int .i64 (atF st k), .int .i64 17] w fun e w' => e = .returned (.int .i64 p) ∧ w = w' := fun w => by rw [← hp]; exact wd_Within _ _ w (by omega)
        have hwq : ∀ w, Calls Try.prog 18 #[.int .i64 (atF sh k), .int .i64 8] w fun e w' => e = .returned (.int .i64 q) ∧ w = w' := fun w => by rw [← hq]; exact wd_Within _ _ w (by omega)
        have HWP := Lib.hid hwp
        have HWQ := Lib.hid hwq
        have HP := Lib.hid hp
        have HQ := Lib.hid hq
        have e1 : IntKind.i64.wrap (p - 8) = p - 8 := IntWalk.i64_in _ (by omega)
        have S0 : Hid ((wr.cell? ⟨w.heap.size, 0, none⟩ = some (.slice (some ad) os.length c1) ∧ wr.cell? ⟨w.heap.size, 1, none⟩ = some (.slice S st.length c2) ∧ wr.cell? ⟨w.heap.size, 2, none⟩ = some (.slice C cf.length c3) ∧ wr.cell? ⟨w.heap.size, 3, none⟩ = some (.slice H sh.length c4)) ∧ wr.cell? (ad.add k) = some (.bool b)) := ⟨⟨y0, y1, y2, y3⟩, hadc⟩
        have had2 : (ad.add k).block < wr.heap.size := by rw [block_add]; exact had
        have hlt1 : w.heap.size < wr.heap.size := by omega
        clear hwp hwq hp hq hb hadc y0 y1 y2 y3
        go_cut [5] (fun s5 wx => ∃ g : Nat, s5 = .pointer (some ⟨g, 0, none⟩) ∧ StepAt wx g b (p - 8) q none 0 0 ∧ wr.heap.size ≤ g ∧ Below wr.heap.size wr wx)
        case first =>
          go_region_held3 (fun w' => ((w'.cell? ⟨w.heap.size, 0, none⟩ = some (.slice (some ad) os.length c1) ∧ w'.cell? ⟨w.heap.size, 1, none⟩ = some (.slice S st.length c2) ∧ w'.cell? ⟨w.heap.size, 2, none⟩ = some (.slice C cf.length c3) ∧ w'.cell? ⟨w.heap.size, 3, none⟩ = some (.slice H sh.length c4)) ∧ w'.cell? (ad.add k) = some (.bool b)))
            (exact stepS hlt1 had2 S0 (by go_grown))
            (first
              | (go_at_call 20; with_reducible refine (wd_At S st c2 k _ (hSr.grow (by go_grown))).mono ?_; rintro e w1 ⟨rfl, rfl⟩)
              | (go_at_call 20; with_reducible refine (wd_At H sh c4 k _ (hHr.grow (by go_grown))).mono ?_; rintro e w1 ⟨rfl, rfl⟩)
              | (go_at_call 18; with_reducible refine (HWP.out _).mono ?_; rintro e w1 ⟨rfl, rfl⟩)
              | (go_at_call 18; with_reducible refine (HWQ.out _).mono ?_; rintro e w1 ⟨rfl, rfl⟩))
          all_goals
            go_wp2_with fail
            go_meet
            exact ⟨_, rfl, StepAt.new, Nat.le_refl _, ((Below.refl _ _).alloc (Nat.le_refl _) _).drew⟩
        case rest =>
          obtain ⟨g, rfl, hst, hg, hbx⟩ := hcut
          have hCc := hCr.grow hbx
          have S1 : Hid (wc.cell? ⟨w.heap.size, 2, none⟩ = some (.slice C cf.length c3)) := (hbx.cell hlt1).trans S0.out.1.2.2.1
          have hgl := hst.1
          have hs1 := hbx.size
          have HST := Lib.hid hst
          obtain ⟨a0, ha0⟩ : ∃ a0, atF cf (3 * (k : Int)) = a0 := ⟨_, rfl⟩
          obtain ⟨a1, ha1⟩ : ∃ a1, atF cf (3 * (k : Int) + 1) = a1 := ⟨_, rfl⟩
          obtain ⟨a2, ha2⟩ : ∃ a2, atF cf (3 * (k : Int) + 2) = a2 := ⟨_, rfl⟩
          obtain ⟨m, hm⟩ : ∃ m : Nat, withinF (atF cf k) 4 = m := Int.eq_ofNat_of_zero_le (within_in (by omega) _).1
          have hm4 : m ≤ 4 := by have := (within_in (m := 4) (by omega) (atF cf k)).2; omega
          have hI3 : I64 a0 ∧ I64 a1 ∧ I64 a2 := ⟨by rw [← ha0]; exact atF_i64 hCc.2 _, by rw [← ha1]; exact atF_i64 hCc.2 _, by rw [← ha2]; exact atF_i64 hCc.2 _⟩
          have HI3 := Lib.hid hI3
          have hat0 : ∀ w, Ints w C cf → Calls Try.prog 20 #[.slice C cf.length c3, .int .i64 (3 * (k : Int))] w fun e w' => e = .returned (.int .i64 a0) ∧ w = w' := fun w h => by rw [← ha0]; exact wd_At C cf c3 _ w h
          have hat1 : ∀ w, Ints w C cf → Calls Try.prog 20 #[.slice C cf.length c3, .int .i64 (3 * (k : Int) + 1)] w fun e w' => e = .returned (.int .i64 a1) ∧ w = w' := fun w h => by rw [← ha1]; exact wd_At C cf c3 _ w h
          have hat2 : ∀ w, Ints w C cf → Calls Try.prog 20 #[.slice C cf.length c3, .int .i64 (3 * (k : Int) + 2)] w fun e w' => e = .returned (.int .i64 a2) ∧ w = w' := fun w h => by rw [← ha2]; exact wd_At C cf c3 _ w h
          have hwm : ∀ w, Calls Try.prog 18 #[.int .i64 (atF cf k), .int .i64 4] w fun e w' => e = .returned (.int .i64 m) ∧ w = w' := fun w => by rw [← hm]; exact wd_Within _ _ w (by omega)
          obtain ⟨cs, hcs⟩ : ∃ cs, belowF 4096 [a0, a1, a2] m = cs := ⟨_, rfl⟩
          have hbel : ∀ (w0 : World) x, Ints w0 (some ⟨x, 0, none⟩) [a0, a1, a2] → Calls Try.prog 21 #[.int .i64 4096, .slice (some ⟨x, 0, none⟩) 3 3, .int .i64 m] w0 fun e w' => ∃ v, e = .returned v ∧ Own w0.heap.size w' v cs ∧ Below w0.heap.size w0 w' := fun w0 x h => by
            rw [← hcs]; exact wd_Below 4096 _ [a0, a1, a2] 3 m w0 (by omega) (by omega) (by omega) h
          have HAT0 := Lib.hid hat0
          have HAT1 := Lib.hid hat1
          have HAT2 := Lib.hid hat2
          have HWM := Lib.hid hwm
          have HBEL := Lib.hid hbel
          have MK : Hid (mkL os st cf sh k = (b, p - 8, cs, q)) := by
            show _ = _
            unfold mkL
            rw [ha0, ha1, ha2, hm, HP.out, HQ.out, HEB.out, ← hcs]
            rfl
          have f1 : IntKind.i64.wrap (3 * (k : Int)) = 3 * (k : Int) := IntWalk.i64_in _ (by omega)
          have f2 : IntKind.i64.wrap (3 * (k : Int) + 1) = 3 * (k : Int) + 1 := IntWalk.i64_in _ (by omega)
          have f3 : IntKind.i64.wrap (3 * (k : Int) + 2) = 3 * (k : Int) + 2 := IntWalk.i64_in _ (by omega)
          clear hat0 hat1 hat2 hwm hbel ha0 ha1 ha2 hm hcs hI3 hst
          have hbc := Below.refl wc.heap.size wc
          go_upto_region 6 with fail
          go_cut [5] (fun s5 wx => ∃ C' d', s5 = .pointer (some ⟨g, 0, none⟩) ∧ StepAt wx g b (p - 8) q C' cs.length d' ∧ Own wr.heap.size wx (.slice C' cs.length d') cs ∧ Below wr.heap.size wr wx)
          case first =>
            go_region_held3 (fun w' => w'.cell? ⟨w.heap.size, 2, none⟩ = some (.slice C cf.length c3))
              (first | ((with_reducible refine cellS2 hlt1 hs1 hg S1 ?_); go_grown) | (exact cellS hlt1 hs1 S1 (by go_grown)))
              (first
                | (go_at_call 20; with_reducible refine (HAT0.out _ (hCc.grow (by go_grown))).mono ?_; rintro e w1 ⟨rfl, rfl⟩)
                | (go_at_call 20; with_reducible refine (HAT1.out _ (hCc.grow (by go_grown))).mono ?_; rintro e w1 ⟨rfl, rfl⟩)
                | (go_at_call 20; with_reducible refine (HAT2.out _ (hCc.grow (by go_grown))).mono ?_; rintro e w1 ⟨rfl, rfl⟩)
                | (go_at_call 20; with_reducible refine (wd_At C cf c3 k _ (hCc.grow (by go_grown))).mono ?_; rintro e w1 ⟨rfl, rfl⟩)
                | (go_at_call 18; with_reducible refine (HWM.out _).mono ?_; rintro e w1 ⟨rfl, rfl⟩)
                | (go_at_call 21; with_reducible refine (HBEL.out _ _ ?_).mono ?_; (first | exact ints3d HI3.out | exact ints3 HI3.out); rintro e w1 ⟨v1, rfl, ho1, hb1⟩; have hbc := belowAD hb1; obtain ⟨C1, d1, rfl, _, _⟩ := ho1.form; have t2 := StepAt.cell2 HST hbc; have tf := StepAt.free HST hbc; have ho1 := Own.base ho1 (sizeAD _ _)))
            all_goals
              go_wp2_with fail
              go_meet
              exact ⟨_, _, rfl, (HST.out.keep hbc).set, (Own.store ho1 hgl).base hs1, (hbx.trans (hbc.mono hs1)).setCell (p := ⟨g, 2, none⟩) hg _⟩
          case rest =>
            obtain ⟨C', d', rfl, hst2, hoc, hbx2⟩ := hcut
            have hlen := lftsF_length os st cf sh k
            have hown2 := HOWN.out.grow hbx2
            have hq2 := (within_in (m := 8) (by omega) (atF sh k))
            rw [HQ.out] at hq2
            have hi1 : I64 (p - 8) := ⟨by omega, by omega⟩
            have hi2 : I64 q := ⟨by omega, by omega⟩
            have x1 := hst2.2.1
            have x2 := hst2.2.2.1
            have x3 := hst2.2.2.2.1
            have x4 := hst2.2.2.2.2.1
            have hs2 := hbx2.size
            have HX := Lib.hid hbx2
            have HOC := Lib.hid hoc
            clear hst2 hq2 hoc hbx2
            go_wp2_with (at_builtin; refine app_lift wc rfl _ _ rfl (w.heap.size + 1) (p := (b, p - 8, cs, q)) (C := C') (c := d') hown2 rfl rfl HOC.out.ints (fun _ a ha e => absurd (HVB.out a.block e.symm) (Nat.not_lt.2 (HOC.out.far a ha))) hi1 hi2 (by omega) (by omega) ?_; intro v1 w1 hown1 hbel1)
            go_roundw
            case rel => exact ⟨k + 1, by omega, by go_num, by rw [lftsF_succ, MK.out]; exact hown1, (HBW.out.trans (HX.out.mono (by omega))).trans hbel1⟩
            case measure => simp [intOf]; omega
      · have hN : min os.length 5 = k := by omega
        have HN := Lib.hid hN
        clear hN hk
        have d1 : decide ((k : Int) < (os.length : Int)) = true := by simp; omega
        have d2 : decide ((k : Int) < 5) = false := by simp; omega
        go_wp2
        go_ret
        rw [HN.out]
        exact ⟨_, rfl, hown.base (by omega), HB.out.trans (hbw.mono (by omega))⟩
    · have hN : min os.length 5 = k := by omega
      have HN := Lib.hid hN
      clear hN hk
      have d1 : decide ((k : Int) < (os.length : Int)) = false := by simp; omega
      go_wp2
      go_ret
      rw [HN.out]
      exact ⟨_, rfl, hown.base (by omega), HB.out.trans (hbw.mono (by omega))⟩
end Go.Proofs.Ytimhplkkgbpapaa
