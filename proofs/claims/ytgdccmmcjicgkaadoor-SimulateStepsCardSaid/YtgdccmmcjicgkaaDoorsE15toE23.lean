/- Several texts in one: E15 U4 E16 E23. -/
import Derived.Test.YtgdccmmcjicgkaaDoorsE5toE14
import Derived.OwnWalk
import Derived.Test.YtgdccmmcjicgkaaDoorsUtoU3
import Derived.Test.YtgdccmmcjicgkaaDoorsFztoVc
import Derived.Deep.RegionHeld3
set_option linter.unusedVariables false
set_option linter.unusedSimpArgs false
section
namespace Go.Proofs.YtgdccmmcjicgkaaDoor
open Go.RowKit
def rdF (R : List Int) (N : Int) (rs : List Int) : Int := rs.foldl (fun m s => if s < 8 then max m (R.getD s.toNat 0) else m) N
def wrF (R : List Int) (v : Int) (ws : List Int) : List Int := ws.foldl (fun r s => if s < 8 then r.set s.toNat v else r) R
def tmS (t : Int × List Int) (i : Ins) : Int × List Int := (rdF t.2 t.1 i.rd + 1, wrF t.2 (rdF t.2 t.1 i.rd + 1 + delayF i.op) i.wt)
def tmF (l : List Ins) : Int × List Int := l.foldl tmS (0, List.replicate 8 0)
theorem tmF_snoc (l : List Ins) (i : Ins) : tmF (l ++ [i]) = tmS (tmF l) i := by unfold tmF; rw [List.foldl_append]; rfl
theorem rdF_snoc (R : List Int) (N : Int) (rs : List Int) (s : Int) : rdF R N (rs ++ [s]) = if s < 8 then max (rdF R N rs) (R.getD s.toNat 0) else rdF R N rs := by unfold rdF; rw [List.foldl_append]; rfl
theorem wrF_snoc (R : List Int) (v : Int) (ws : List Int) (s : Int) : wrF R v (ws ++ [s]) = if s < 8 then (wrF R v ws).set s.toNat v else wrF R v ws := by unfold wrF; rw [List.foldl_append]; rfl
theorem rdF_in {R : List Int} {B : Int} (hR : InB R 8 B) (hB : 0 ≤ B) : ∀ (rs : List Int) (N : Int), 0 ≤ N ∧ N ≤ B → N ≤ rdF R N rs ∧ rdF R N rs ≤ B
  | [], N, h => ⟨Int.le_refl _, h.2⟩
  | s :: rs, N, h => by
    have h1 := hR.getD hB s.toNat
    show N ≤ rdF R (if s < 8 then max N (R.getD s.toNat 0) else N) rs ∧ rdF R (if s < 8 then max N (R.getD s.toNat 0) else N) rs ≤ B
    split
    · have := rdF_in hR hB rs (max N (R.getD s.toNat 0)) (by omega)
      omega
    · exact rdF_in hR hB rs N h
theorem wrF_in {v B : Int} (hv : 0 ≤ v ∧ v ≤ B) : ∀ (ws : List Int) (R : List Int), InB R 8 B → InB (wrF R v ws) 8 B
  | [], R, h => h
  | s :: ws, R, h => by
    show InB (wrF (if s < 8 then R.set s.toNat v else R) v ws) 8 B
    split
    · exact wrF_in hv ws _ (h.set _ hv)
    · exact wrF_in hv ws R h
theorem tmF_in (l : List Ins) : ∀ k, (0 ≤ (tmF (l.take k)).1 ∧ (tmF (l.take k)).1 ≤ 4 * k) ∧ InB (tmF (l.take k)).2 8 (4 * k)
  | 0 => ⟨⟨Int.le_refl _, by show (0 : Int) ≤ _; omega⟩, by show (List.replicate 8 (0 : Int)).length = 8; simp, fun v hv => by rw [List.eq_of_mem_replicate hv]; omega⟩
  | k + 1 => by
    obtain ⟨h1, h2⟩ := tmF_in l k
    cases e : l[k]? with
    | none =>
      have : l.take (k + 1) = l.take k := by
        have := List.getElem?_eq_none_iff.1 e
        rw [List.take_of_length_le (by omega), List.take_of_length_le (by omega)]
      rw [this]
      exact ⟨by omega, h2.le (by omega)⟩
    | some i =>
      rw [take_snoc' e, tmF_snoc]
      have h3 := rdF_in h2 (by omega) i.rd _ h1
      have h4 := delayF_in i.op
      exact ⟨by show 0 ≤ rdF _ _ _ + 1 ∧ rdF _ _ _ + 1 ≤ _; omega, wrF_in (by omega) _ _ (h2.le (by omega))⟩
theorem rd_nat (i : Ins) : ∀ s ∈ i.rd, 0 ≤ s := fun s hs => by
  unfold Ins.rd at hs
  by_cases hf : i.formed = true
  · rw [if_pos hf] at hs
    obtain ⟨h1, h2, h3, h4⟩ := formed_parts hf
    split at hs <;> simp only [List.mem_cons, List.not_mem_nil, or_false] at hs <;> omega
  · rw [if_neg hf] at hs; simp at hs
theorem wt_nat (i : Ins) : ∀ s ∈ i.wt, 0 ≤ s := fun s hs => by
  unfold Ins.wt at hs
  by_cases hf : i.formed = true
  · rw [if_pos hf] at hs
    obtain ⟨h1, h2, h3, h4⟩ := formed_parts hf
    split at hs <;> simp only [List.mem_cons, List.not_mem_nil, or_false] at hs <;> omega
  · rw [if_neg hf] at hs; simp at hs
def cycF (l : List Ins) : Int := if fineF l then (tmF l).1 else 0
def stlF (l : List Ins) : Int := if fineF l then (tmF l).1 - l.length else 0
def RetTime (w : World) (l : List Ins) (e : Ending) (w' : World) : Prop := e = .returned (.tuple #[.int .i64 (cycF l), .int .i64 (stlF l), .int .i64 (depE l)]) ∧ Below w.heap.size w w'
def BoxI (w : World) (g : Nat) (R : List Int) : Prop := Box w g (R.map (Value.int .i64))
theorem BoxI.cell {w : World} {g : Nat} {R : List Int} {n : Nat} {B : Int} (h : BoxI w g R) (hb : InB R n B) {s : Nat} (hs : s < n) : w.cell? ⟨g, s, none⟩ = some (.int .i64 (R.getD s 0)) ∧ w.frozen? ⟨g, s, none⟩ = false :=
  ⟨(h.2.1 s).trans (by rw [List.getElem?_map, hb.at hs]; rfl), h.2.2 s⟩
theorem BoxI.set {w : World} {g : Nat} {R : List Int} {n : Nat} {B : Int} (h : BoxI w g R) (hb : InB R n B) {s : Nat} (hs : s < n) (v : Int) : BoxI (w.setCell ⟨g, s, none⟩ (.int .i64 v)) g (R.set s v) := by
  have := Box.set (u := Value.int .i64 v) h (k := s) (by rw [List.length_map, hb.1]; exact hs)
  rw [← List.map_set] at this
  exact this
theorem ins_opA {w : World} {A : Option Addr} {l : List Ins} (h : InsAt w A l) {k : Nat} {i : Ins} (hk : l[k]? = some i) {ad : Addr} (hA : A = some ad) : w.cell? (ad.add (k * 4)) = some (.int .i64 i.op) := by
  obtain ⟨ad2, e, hs, hb, hr, -⟩ := h k i hk
  rw [hA] at e
  obtain rfl : ad = ad2 := Option.some.inj e
  exact (ins_cells hs hr).1
set_option maxRecDepth 100000 in
set_option maxHeartbeats 8000000 in
theorem r39_Time (A : Option Addr) (n c : Nat) (l : List Ins) (w : World) (h : InsAt w A l) (hn : l.length = n) (h9 : n ≤ 9223372036854775807) : Calls Tryd.prog 31 #[.slice A n c] w (RetTime w l) := by
  have CI : Hid (∀ w, Calls Tryd.prog 64 #[.int .i64 n, .int .i64 1, .int .i64 512] w fun e w' => e = .returned (.bool (inB n 1 512)) ∧ w = w') := fun w => rf_In n 1 512 w
  have CA := Lib.hid (r38_AllFormed A n c l w h hn h9)
  have hfe : fineF l = (inB n 1 512 && l.all Ins.formed) := by unfold fineF; rw [hn]
  by_cases hfl : fineF l = true
  · have hl := fineF_len hfl
    rw [hn] at hl
    have e1 : cycF l = (tmF l).1 := by unfold cycF; rw [if_pos hfl]
    have e2 : stlF l = (tmF l).1 - n := by unfold stlF; rw [if_pos hfl, hn]
    have e3 : depE l = 0 := by unfold depE; rw [if_pos hfl]
    rw [hfl] at hfe
    obtain ⟨h1, h2⟩ := Bool.and_eq_true_iff.1 hfe.symm
    rw [h1] at CI
    rw [h2] at CA
    have HE : Hid (cycF l = (tmF l).1 ∧ stlF l = (tmF l).1 - n ∧ depE l = 0) := ⟨e1, e2, e3⟩
    have HI := Lib.hid h
    have HN := Lib.hid hn
    have hn512 : n ≤ 512 := hl.2
    clear e1 e2 e3 h1 h2 hfe h hn h9 hfl hl
    go_enter Tryd.func31, Tryd.ntmps31
    go_upto_region 3 with (first
      | (go_at_call 64; (with_reducible refine (CI.out _).mono ?_); rintro e1 w1 ⟨rfl, rfl⟩)
      | (go_at_call 48; (with_reducible refine CA.out.mono ?_); rintro e1 w1 ⟨rfl, hb1⟩))
    go_upto_region 4 with fail
    have bx := Box.new (w := w1) (vs := #[.int .i64 0, .int .i64 0, .int .i64 0, .int .i64 0, .int .i64 0, .int .i64 0, .int .i64 0, .int .i64 0]) (t := 104) (g := w1.heap.size) rfl
    have HBX0 : Hid (BoxI _ w1.heap.size (List.replicate 8 0)) := bx
    have HBW0 := Lib.hid (hb1.alloc hb1.size (.cells #[.int .i64 0, .int .i64 0, .int .i64 0, .int .i64 0, .int .i64 0, .int .i64 0, .int .i64 0, .int .i64 0] 104))
    have HGB : Hid (w.heap.size ≤ w1.heap.size) := hb1.size
    clear bx hb1 CA CI
    generalize w1.alloc (.cells #[.int .i64 0, .int .i64 0, .int .i64 0, .int .i64 0, .int .i64 0, .int .i64 0, .int .i64 0, .int .i64 0] 104) = w2 at HBX0 HBW0 ⊢
    generalize w1.heap.size = g at HBX0 HGB ⊢
    go_wp2_with fail
    go_loopw [6, 7] (fun nx x wr => ∃ (k : Nat) (N : Int) (R : List Int), k ≤ n ∧ x = .int .i64 k ∧ nx = .int .i64 N ∧ Hid (tmF (l.take k) = (N, R)) ∧ Hid (BoxI wr g R) ∧ Hid (Below w.heap.size w wr)) (fun _ x _ => n - (intOf x).toNat)
    case atStart => exact ⟨0, 0, _, Nat.zero_le _, rfl, rfl, Lib.hid rfl, HBX0, HBW0⟩
    case round =>
      obtain ⟨k, N, R, hk, rfl, rfl, HT, HBX, HBW⟩ := hrel
      obtain ⟨hNb, hRb⟩ := tmF_in l k
      rw [HT.out] at hNb hRb
      by_cases hlt : k < n
      · obtain ⟨i, hi⟩ : ∃ i, l[k]? = some i := ⟨_, List.getElem?_eq_getElem (by rw [HN.out]; exact hlt)⟩
        have HX := Lib.hid hi
        obtain ⟨ad, rfl, hs, hb, hr, oki⟩ := (HI.out.grow HBW.out) k i hi
        have HS := Lib.hid hs
        have HR := Lib.hid hr
        have CU : Hid (Calls Tryd.prog 18 #[i.v] wr (RetII wr i.rd i.wt)) := r38_Uses i wr oki
        have hNb : 0 ≤ N ∧ N ≤ 4 * 512 := by
          have : (tmF (l.take k)).1 = N := by rw [HT.out]
          have := hNb
          simp only at this
          omega
        have HRB0 : Hid (InB R 8 (4 * 512)) := hRb.le (by omega)
        have HRB : Hid (InB R 8 (4 * 512 + 8)) := hRb.le (by omega)
        have hM := rdF_in HRB0.out (by omega) i.rd N hNb
        have hD := delayF_in i.op
        have HTM0 : Hid (tmF (l.take (k + 1)) = (rdF R N i.rd + 1, wrF R (rdF R N i.rd + 1 + delayF i.op) i.wt)) := by
          show _ = _
          rw [take_snoc' hi, tmF_snoc, HT.out]; rfl
        have HOP0 : Hid ((i.op = 6 ∧ delayF i.op = 1) ∨ (i.op = 5 ∧ delayF i.op = 2) ∨ (¬ i.op = 6 ∧ ¬ i.op = 5 ∧ delayF i.op = 0)) := by
          by_cases h6 : i.op = 6
          · exact .inl ⟨h6, by rw [h6]; rfl⟩
          · by_cases h5 : i.op = 5
            · exact .inr (.inl ⟨h5, by rw [h5]; rfl⟩)
            · exact .inr (.inr ⟨h6, h5, delay_ne h6 h5⟩)
        obtain ⟨dl, hdl⟩ : ∃ dl, delayF i.op = dl := ⟨_, rfl⟩
        rw [hdl] at hD HTM0 HOP0
        have HOP := HOP0
        clear hdl HOP0
        have q1 : (0 : Int) ≤ (k : Int) := by omega
        have q2 : (k : Int) < (n : Int) := by omega
        have wk : IntKind.i64.wrap ((k : Int) + 1) = ((k + 1 : Nat) : Int) := (IntWalk.i64_in _ (by omega)).trans (by omega)
        clear hs hr hb oki hi hRb HT
        go_upto_region 9 with (first
          | ((with_reducible show wpList _ _ _ (Oper.mk (some 31) (.load _ _) _ _ _ _ :: _) _ _); refine ld_insA HS.out HR.out rfl _ rfl rfl ?_)
          | (go_at_call 18; (with_reducible refine CU.out.mono ?_); rintro e1 w3 ⟨RA, WA, rc, wc, rfl, hra, hwa, hb3⟩))
        obtain ⟨rn, hrn⟩ : ∃ rn, i.rd.length = rn := ⟨_, rfl⟩
        obtain ⟨wn, hwn⟩ : ∃ wn, i.wt.length = wn := ⟨_, rfl⟩
        have hrn2 : rn ≤ 2 := hrn ▸ rd_len i
        have hwn2 : wn ≤ 1 := hwn ▸ wt_len i
        have HRN := Lib.hid hrn
        have HWN := Lib.hid hwn
        rw [hrn, hwn]
        have HRA := Lib.hid hra.1
        have HWA3 : Hid (IntsF (g + 1) w3 WA i.wt) := hwa.base (HBX.out.1)
        have HBX3 : Hid (BoxI w3 g R) := Box.keep HBX.out hb3
        have HBW3 := Lib.hid (below_then HBW.out hb3)
        clear hrn hwn hra hwa hb3 CU HBX HBW HR
        obtain ⟨wo, hwo⟩ : ∃ wo : World, wo = wr := ⟨_, rfl⟩
        go_wp2_with fail
        go_loopw [6, 10] (fun nx x wr => ∃ (m : Nat) (M : Int), m ≤ rn ∧ x = .int .i64 m ∧ nx = .int .i64 M ∧ Hid (rdF R N (i.rd.take m) = M) ∧ w3 = wr) (fun _ x _ => rn - (intOf x).toNat)
        case atStart => exact ⟨0, N, Nat.zero_le _, rfl, rfl, Lib.hid rfl, rfl⟩
        case round =>
          obtain ⟨m, M, hm, rfl, rfl, HM, rfl⟩ := hrel
          by_cases hmt : m < rn
          · obtain ⟨rd, sv, rfl, hrb, hsv, hrc, -, -⟩ := HRA.out.at_ (k := m) (by rw [HRN.out]; exact hmt)
            have hs0 := rd_nat i sv (List.mem_of_getElem? hsv)
            have HST : Hid (rdF R N (i.rd.take (m + 1)) = if sv < 8 then max M (R.getD sv.toNat 0) else M) := by
              show _ = _
              rw [take_snoc' hsv, rdF_snoc, HM.out]
            obtain ⟨s, rfl⟩ : ∃ s : Nat, sv = (s : Int) := ⟨sv.toNat, by omega⟩
            have p1 : (0 : Int) ≤ (m : Int) := by omega
            have p2 : (m : Int) < (rn : Int) := by omega
            have wm : IntKind.i64.wrap ((m : Int) + 1) = ((m + 1 : Nat) : Int) := (IntWalk.i64_in _ (by omega)).trans (by omega)
            clear hsv hrb hs0
            by_cases hs8 : s < 8
            · have p3 : (s : Int) < 8 := by omega
              have p4 : (0 : Int) ≤ (s : Int) := by omega
              obtain ⟨c5, c6⟩ := HBX3.out.cell HRB.out hs8
              have HST2 : Hid (rdF R N (i.rd.take (m + 1)) = max M (R.getD s 0)) := by
                show _ = _
                rw [HST.out, if_pos p3, Int.toNat_natCast]
              obtain ⟨mx, hmx⟩ : ∃ mx, max M (R.getD s 0) = mx := ⟨_, rfl⟩
              have HX2 := Lib.hid hmx
              rw [hmx] at HST2
              obtain ⟨rv, hrv⟩ : ∃ rv, R.getD s 0 = rv := ⟨_, rfl⟩
              have HRV := Lib.hid hrv
              rw [hrv] at c5
              clear hmx hrv c6
              go_wp2_with fail
              go_roundw
              case rel => exact ⟨m + 1, mx, by omega, rfl, by rw [← HRV.out, HX2.out], HST2, by first | rfl | trivial⟩
              case measure => simp [intOf]; omega
            · have p3 : ¬ (s : Int) < 8 := by omega
              go_wp2_with fail
              go_roundw
              case rel => exact ⟨m + 1, M, by omega, rfl, rfl, Lib.hid (by show _ = _; rw [HST.out, if_neg p3]), by first | rfl | trivial⟩
              case measure => simp [intOf]; omega
          · obtain rfl : m = rn := by omega
            have hlo : ¬ (m : Int) < (m : Int) := by omega
            have hMe : rdF R N i.rd = M := by
              have := HM.out
              rw [List.take_of_length_le (Nat.le_of_eq HRN.out)] at this
              exact this
            rw [hMe] at hM HTM0
            obtain ⟨tR, htR⟩ : ∃ tR, wrF R (M + 1 + dl) i.wt = tR := ⟨_, rfl⟩
            have HTR := Lib.hid htR
            rw [htR] at HTM0
            have HTM := HTM0
            have wM : IntKind.i64.wrap (M + 1) = M + 1 := IntWalk.i64_in _ (by omega)
            clear htR HTM0 hMe HM
            obtain ⟨rnn, hrnn⟩ : ∃ rnn : Nat, rnn = m := ⟨_, rfl⟩
            go_wp2_with fail
            go_loopw [11] (fun x wr => ∃ m : Nat, m ≤ wn ∧ x = .int .i64 m ∧ Hid (BoxI wr g (wrF R (M + 1 + dl) (i.wt.take m))) ∧ Hid (Below w.heap.size w wr) ∧ Hid (IntsF (g + 1) wr WA i.wt)) (fun x _ => wn - (intOf x).toNat)
            case atStart => exact ⟨0, Nat.zero_le _, rfl, HBX3, HBW3, HWA3⟩
            case round =>
              obtain ⟨m, hm, rfl, HBX, HBW, HWA⟩ := hrel
              by_cases hmt : m < wn
              · obtain ⟨wd, sv, rfl, hwb, hsv, hwc, -, -⟩ := HWA.out.1.at_ (k := m) (by rw [HWN.out]; exact hmt)
                have hs0 := wt_nat i sv (List.mem_of_getElem? hsv)
                have HST : Hid (wrF R (M + 1 + dl) (i.wt.take (m + 1)) = if sv < 8 then (wrF R (M + 1 + dl) (i.wt.take m)).set sv.toNat (M + 1 + dl) else wrF R (M + 1 + dl) (i.wt.take m)) := by
                  show _ = _
                  rw [take_snoc' hsv, wrF_snoc]
                have HIBm := Lib.hid (wrF_in (v := M + 1 + dl) (B := 4 * 512 + 8) (by omega) (i.wt.take m) R HRB.out)
                obtain ⟨R5, hR5⟩ : ∃ R5, wrF R (M + 1 + dl) (i.wt.take m) = R5 := ⟨_, rfl⟩
                rw [hR5] at HBX HST HIBm
                obtain ⟨s, rfl⟩ : ∃ s : Nat, sv = (s : Int) := ⟨sv.toNat, by omega⟩
                have HSV := Lib.hid hsv
                have p1 : (0 : Int) ≤ (m : Int) := by omega
                have p2 : (m : Int) < (wn : Int) := by omega
                have wm : IntKind.i64.wrap ((m : Int) + 1) = ((m + 1 : Nat) : Int) := (IntWalk.i64_in _ (by omega)).trans (by omega)
                clear hR5 hsv
                by_cases hs8 : s < 8
                · have p3 : (s : Int) < 8 := by omega
                  have p4 : (0 : Int) ≤ (s : Int) := by omega
                  obtain ⟨c5, c6⟩ := HBX.out.cell HIBm.out hs8
                  go_upto_region 19 with fail
                  have HBX5 := Lib.hid (HBX.out.set HIBm.out (s := s) hs8 (M + 1))
                  have HIB5 := Lib.hid (HIBm.out.set s (v := M + 1) (by omega))
                  have HBW5 := Lib.hid (below_set (k := s) (u := .int .i64 (M + 1)) HBW.out HGB.out)
                  have HWA5 := Lib.hid (HWA.out.away (grown_set (grown_refl _ (some g)) (k := s) (u := .int .i64 (M + 1))) (Nat.lt_succ_self g))
                  generalize wr.setCell ⟨g, s, none⟩ (.int .i64 (M + 1)) = w5 at HBX5 HBW5 HWA5 ⊢
                  clear hwc c5 c6 HBX HBW HWA hwb
                  have f5 := ins_opA (HI.out.grow HBW5.out) HX.out rfl
                  have HV : Hid (∃ V, M + 1 = V) := ⟨_, rfl⟩
                  obtain ⟨V, hV⟩ := HV.out
                  have hvb : 0 ≤ V ∧ V ≤ 4 * 512 + 6 := by omega
                  have HVV := Lib.hid hV
                  obtain ⟨wd2, sv2, e2, hwb, hsv2, hy2, -, -⟩ := HWA5.out.1.at_ (k := m) (by rw [HWN.out]; exact hmt)
                  obtain rfl : wd = wd2 := Option.some.inj e2
                  obtain rfl : (s : Int) = sv2 := Option.some.inj (HSV.out.symm.trans hsv2)
                  obtain ⟨c5, c6⟩ := HBX5.out.cell HIB5.out hs8
                  rw [getD_setS HIBm.out.1 hs8] at c5
                  clear hsv2 e2 hwb HV
                  rcases HOP.out with ⟨hop, hdl⟩ | ⟨hop, hdl⟩ | ⟨hop6, hop5, hdl⟩
                  · have HDV : Hid (V + 1 = M + 1 + dl) := by show _ = _; rw [hdl, hV]
                    rw [hop] at f5
                    rw [hV] at c5 HBX5 HIB5 ⊢
                    clear hV hdl
                    have wa : IntKind.i64.wrap (V + 1) = V + 1 := IntWalk.i64_in _ (by omega)
                    go_upto_region 21 with fail
                    have HBX6 := Lib.hid (HBX5.out.set HIB5.out (s := s) hs8 (V + 1))
                    have HBW6 := Lib.hid (below_set (k := s) (u := .int .i64 (V + 1)) HBW5.out HGB.out)
                    have HWA6 := Lib.hid (HWA5.out.away (grown_set (grown_refl _ (some g)) (k := s) (u := .int .i64 (V + 1))) (Nat.lt_succ_self g))
                    generalize w5.setCell ⟨g, s, none⟩ (.int .i64 (V + 1)) = w6 at HBX6 HBW6 HWA6 ⊢
                    clear hy2 c5 c6
                    have f6 := ins_opA (HI.out.grow HBW6.out) HX.out rfl
                    rw [hop] at f6
                    go_wp2_with fail
                    go_roundw
                    case rel => exact ⟨m + 1, by omega, rfl, Lib.hid (by
                      show BoxI w6 g _
                      rw [HST.out, if_pos (by omega), Int.toNat_natCast, ← HDV.out]
                      have := HBX6.out
                      rw [List.set_set] at this
                      exact this), HBW6, HWA6⟩
                    case measure => simp [intOf]; omega
                  · have HDV : Hid (V + 2 = M + 1 + dl) := by show _ = _; rw [hdl, hV]
                    rw [hop] at f5
                    rw [hV] at c5 HBX5 HIB5 ⊢
                    clear hV hdl
                    have wa : IntKind.i64.wrap (V + 2) = V + 2 := IntWalk.i64_in _ (by omega)
                    go_upto_region 16 with fail
                    have HBX6 := Lib.hid (HBX5.out.set HIB5.out (s := s) hs8 (V + 2))
                    have HBW6 := Lib.hid (below_set (k := s) (u := .int .i64 (V + 2)) HBW5.out HGB.out)
                    have HWA6 := Lib.hid (HWA5.out.away (grown_set (grown_refl _ (some g)) (k := s) (u := .int .i64 (V + 2))) (Nat.lt_succ_self g))
                    generalize w5.setCell ⟨g, s, none⟩ (.int .i64 (V + 2)) = w6 at HBX6 HBW6 HWA6 ⊢
                    clear hy2 c5 c6
                    have f6 := ins_opA (HI.out.grow HBW6.out) HX.out rfl
                    rw [hop] at f6
                    go_wp2_with fail
                    go_roundw
                    case rel => exact ⟨m + 1, by omega, rfl, Lib.hid (by
                      show BoxI w6 g _
                      rw [HST.out, if_pos (by omega), Int.toNat_natCast, ← HDV.out]
                      have := HBX6.out
                      rw [List.set_set] at this
                      exact this), HBW6, HWA6⟩
                    case measure => simp [intOf]; omega
                  · have HDV : Hid (M + 1 + dl = M + 1 + 0) := by show _ = _; rw [hdl]
                    obtain ⟨op, hop⟩ : ∃ op, i.op = op := ⟨_, rfl⟩
                    rw [hop] at f5 hop6 hop5
                    have e6 : (op == 6) = false := by simpa using hop6
                    have e5 : (op == 5) = false := by simpa using hop5
                    clear hV hdl hop
                    go_wp2_with fail
                    go_roundw
                    case rel => exact ⟨m + 1, by omega, rfl, Lib.hid (by
                      show BoxI w5 g _
                      rw [HST.out, if_pos (by omega), Int.toNat_natCast, HDV.out, Int.add_zero]
                      exact HBX5.out), HBW5, HWA5⟩
                    case measure => simp [intOf]; omega
                · have p3 : ¬ (s : Int) < 8 := by omega
                  go_wp2_with fail
                  go_roundw
                  case rel => exact ⟨m + 1, by omega, rfl, Lib.hid (by show BoxI wr g _; rw [HST.out, if_neg (by omega)]; exact HBX.out), HBW, HWA⟩
                  case measure => simp [intOf]; omega
              · obtain rfl : m = wn := by omega
                have hlo : ¬ (m : Int) < (m : Int) := by omega
                go_wp2_with fail
                go_roundw
                case rel => exact ⟨k + 1, M + 1, tR, by omega, rfl, rfl, HTM, Lib.hid (by
                  show BoxI wr g tR
                  have := HBX.out
                  rw [List.take_of_length_le (Nat.le_of_eq HWN.out), HTR.out] at this
                  exact this), HBW⟩
                case measure => simp [intOf]; omega
      · obtain rfl : k = n := by omega
        have hlo : ¬ (k : Int) < (k : Int) := by omega
        have hT := HT.out
        rw [List.take_of_length_le (Nat.le_of_eq HN.out)] at hT
        have HTT := Lib.hid hT
        have wN : IntKind.i64.wrap (N - (k : Int)) = N - (k : Int) := IntWalk.i64_in _ (by
          have := hNb
          simp only at this
          omega)
        clear hT hNb hRb
        go_wp2_with fail
        go_ret3
        refine ⟨?_, HBW.out⟩
        rw [HE.out.1, HE.out.2.1, HE.out.2.2, HTT.out]; rfl
  · have hfl : fineF l = false := by simpa using hfl
    have e1 : cycF l = 0 := by unfold cycF; rw [hfl]; rfl
    have e2 : stlF l = 0 := by unfold stlF; rw [hfl]; rfl
    have e3 : depE l = 21 := by unfold depE; rw [hfl]; rfl
    rw [hfl] at hfe
    have HE : Hid (cycF l = 0 ∧ stlF l = 0 ∧ depE l = 21) := ⟨e1, e2, e3⟩
    clear e1 e2 e3 h hn h9 hfl
    generalize inB n 1 512 = x at CI hfe
    generalize l.all Ins.formed = y at CA hfe
    cases x with
    | false =>
      clear hfe
      go_enter Tryd.func31, Tryd.ntmps31
      go_wp2_with (go_at_call 64; (with_reducible refine (CI.out _).mono ?_); rintro e1 w1 ⟨rfl, rfl⟩)
      go_ret3
      refine ⟨?_, Below.refl _ _⟩
      rw [HE.out.1, HE.out.2.1, HE.out.2.2]; rfl
    | true =>
      obtain rfl : y = false := by simpa using hfe.symm
      clear hfe
      go_enter Tryd.func31, Tryd.ntmps31
      go_wp2_with (first
        | (go_at_call 64; (with_reducible refine (CI.out _).mono ?_); rintro e1 w1 ⟨rfl, rfl⟩)
        | (go_at_call 48; (with_reducible refine CA.out.mono ?_); rintro e1 w1 ⟨rfl, hb1⟩))
      go_ret3
      refine ⟨?_, hb1⟩
      rw [HE.out.1, HE.out.2.1, HE.out.2.2]; rfl
end Go.Proofs.YtgdccmmcjicgkaaDoor
end
section
namespace Go.Proofs.YtgdccmmcjicgkaaDoor
open Go.RowKit
def builtS (P : Program) (e : TypeId) (len : Nat) (parts : List (Nat × Value)) : Option (Array Value) :=
  match P.info? e with
  | some ie => match ie.zero with
    | some z => Instr.fill (fun i => some (i * ie.size, ie.size)) ((Array.range (len * ie.size)).map (z.cells[· % z.cells.size]!)) parts
    | none => none
  | none => none
theorem run_bldS {P : Program} (w : World) (t e : TypeId) (len : Nat) (parts : Array (Nat × Value)) (cells : Array Value) (hu : P.underlying t = some (.slice e)) (n : Nat) (hn : (P.info? e).map (·.size) = some n) (hl : len * n ≤ 2 ^ 24) (h0 : len * n ≠ 0) (h : builtS P e len parts.toList = some cells) :
    (Instr.buildSlice t len parts).run P w = .ok (.slice (some ⟨w.heap.size, 0, none⟩) len len) (w.alloc (.cells cells e)) := by
  unfold builtS at h
  cases hi : P.info? e with
  | none => simp [hi] at h
  | some ie =>
    cases hz : ie.zero with
    | none => simp [hi, hz] at h
    | some z =>
      simp only [hi, hz] at h
      have hs : ie.size = n := by simpa [hi] using hn
      subst hs
      have hl' : ¬ (2 ^ 24 < len * ie.size) := by omega
      simp [Instr.buildSlice, run_underlying hu, sizeOf, typeInfo, zeroValue, hi, hz, hl', h0, h]
      simp [go_sem]
theorem wp_bldS {ops : Array Oper} {rest : List Oper} {o : Oper} {a : Act} {Q : Exit → Act → World → Prop} {w : World} (hgd : o.guard = none) (ty e : TypeId) (len : Nat) (parts : Array (Nat × Operand)) (ho : o.op = .buildSlice ty len parts) (hu : Tryd.prog.underlying ty = some (.slice e)) (n : Nat) (hn : (Tryd.prog.info? e).map (·.size) = some n) (hl : len * n ≤ 2 ^ 24) (h0 : len * n ≠ 0)
    (ps : List (Nat × Value)) (hp : parts.toList.map (fun p => (p.1, a.eval p.2)) = ps) {cells : Array Value} (hb : builtS Tryd.prog e len ps = some cells)
    (h : wpList Tryd.prog ops Q rest (a.put o.dst (.slice (some ⟨w.heap.size, 0, none⟩) len len)) (w.alloc (.cells cells e))) : wpList Tryd.prog ops Q (o :: rest) a w := by
  have e1 : (parts.map fun (i, x) => (i, a.eval x)).toList = ps := by rw [Array.toList_map]; exact hp
  refine wpList_plain hgd fun _ hK => ?_
  unfold Oper.wp execOp
  simp only [ho, Sem.run_bind, run_bldS w ty e len _ cells hu n hn hl h0 (by rw [e1]; exact hb), Result.andThen_ok]
  exact hK _ _ h
end Go.Proofs.YtgdccmmcjicgkaaDoor
end
section
namespace Go.Proofs.YtgdccmmcjicgkaaDoor
open Go.RowKit
def encI (i : Ins) : List Int := [i.op, i.a, i.b, i.imm]
theorem flatI_get {l : List Ins} {k j : Nat} {i : Ins} (h : l[k]? = some i) (hj : j < 4) : ((l.flatMap encI).map (Value.int .i64))[k * 4 + j]? = i.cells[j]? := by
  rw [List.getElem?_map, flat_get (enc := encI) (sz := 4) (fun _ => rfl) l k j i h hj, ← List.getElem?_map]; rfl
theorem InsAt.row {w : World} {A : Option Addr} {l : List Ins} (h : InsAt w A l) : ∀ j u, ((l.flatMap encI).map (Value.int .i64))[j]? = some u → ∃ ad, A = some ad ∧ w.cell? (ad.add j) = some u := fun j u hu => by
  have hj : j < l.length * 4 := by
    have := (List.getElem?_eq_some_iff.1 hu).1
    rw [List.length_map, flat_length (enc := encI) (sz := 4) (fun _ => rfl)] at this
    exact this
  have hk : j / 4 < l.length := by omega
  have ht : l[j / 4]? = some l[j / 4] := List.getElem?_eq_getElem hk
  obtain ⟨ad, e, hs, -, hr, -⟩ := h _ _ ht
  refine ⟨ad, e, ?_⟩
  have ej : j = j / 4 * 4 + j % 4 := by omega
  rw [ej, flatI_get ht (by omega)] at hu
  rw [add_noneI hs, show ad.off + j = ad.off + j / 4 * 4 + j % 4 by omega]
  exact hr (j % 4) u hu
theorem InsAt.grown {w w' : World} {A : Option Addr} {l : List Ins} {r : Option Nat} (h : InsAt w A l) (hg : w.grownBy w' r) (hn : ∀ a, A = some a → some a.block ≠ r) : InsAt w' A l := fun k i hk => by
  obtain ⟨ad, e, h1, h2, h3, h4⟩ := h k i hk
  exact ⟨ad, e, h1, Nat.lt_of_lt_of_le h2 hg.size, fun j v hj => hg.cell (h3 j v hj) (hn ad e), h4⟩
theorem nums_one {l : List Int} : ∀ u ∈ l.map (Value.int .i64), u.oneCell' = true := fun u hu => by
  obtain ⟨x, _, rfl⟩ := List.mem_map.1 hu; rfl
theorem und_ins : Tryd.prog.underlying 22 = some (.slice 24) := Tryd.underlying22
end Go.Proofs.YtgdccmmcjicgkaaDoor
end
section
namespace Go.Proofs.YtgdccmmcjicgkaaDoor
open Go.RowKit
def encR (x : Int × Int) : List Int := [x.1, x.2]
def rgCells (x : Int × Int) : List Value := [.int .i64 x.1, .int .i64 x.2]
def RingsAt (w : World) (A : Option Addr) (l : List (Int × Int)) : Prop := ∀ (k : Nat) x, l[k]? = some x → ∃ ad, A = some ad ∧ ad.spot = none ∧ ad.block < w.heap.size ∧ w.rangeAt ad.block (ad.off + k * 2) (rgCells x) ∧ I64 x.1 ∧ I64 x.2
theorem RingsAt.nil {w : World} {A : Option Addr} : RingsAt w A [] := fun k x h => by simp at h
theorem RingsAt.grow {w w' : World} {A : Option Addr} {l : List (Int × Int)} (h : RingsAt w A l) (hb : Below w.heap.size w w') : RingsAt w' A l := fun k i hk => by
  obtain ⟨ad, e, h1, h2, h3, h4⟩ := h k i hk
  exact ⟨ad, e, h1, Nat.lt_of_lt_of_le h2 hb.size, range_keepI h3 h2 hb, h4⟩
theorem ring_cells {w : World} {x : Int × Int} {ad : Addr} {n : Nat} (hs : ad.spot = none) (hr : w.rangeAt ad.block (ad.off + n) (rgCells x)) :
    w.cell? (ad.add n) = some (.int .i64 x.1) ∧ w.cell? ⟨(ad.add n).block, (ad.add n).off + 1, none⟩ = some (.int .i64 x.2) := by
  rw [add_noneI hs]
  exact ⟨hr 0 _ rfl, hr 1 _ rfl⟩
theorem flatR_get {l : List (Int × Int)} {k j : Nat} {x : Int × Int} (h : l[k]? = some x) (hj : j < 2) : ((l.flatMap encR).map (Value.int .i64))[k * 2 + j]? = (rgCells x)[j]? := by
  rw [List.getElem?_map, flat_get (enc := encR) (sz := 2) (fun _ => rfl) l k j x h hj, ← List.getElem?_map]; rfl
theorem RingsAt.row {w : World} {A : Option Addr} {l : List (Int × Int)} (h : RingsAt w A l) : ∀ j u, ((l.flatMap encR).map (Value.int .i64))[j]? = some u → ∃ ad, A = some ad ∧ w.cell? (ad.add j) = some u := fun j u hu => by
  have hj : j < l.length * 2 := by
    have := (List.getElem?_eq_some_iff.1 hu).1
    rw [List.length_map, flat_length (enc := encR) (sz := 2) (fun _ => rfl)] at this
    exact this
  have hk : j / 2 < l.length := by omega
  have ht : l[j / 2]? = some l[j / 2] := List.getElem?_eq_getElem hk
  obtain ⟨ad, e, hs, -, hr, -⟩ := h _ _ ht
  refine ⟨ad, e, ?_⟩
  have ej : j = j / 2 * 2 + j % 2 := by omega
  rw [ej, flatR_get ht (by omega)] at hu
  rw [add_noneI hs, show ad.off + j = ad.off + j / 2 * 2 + j % 2 by omega]
  exact hr (j % 2) u hu
theorem RingsAt.grown {w w' : World} {A : Option Addr} {l : List (Int × Int)} {r : Option Nat} (h : RingsAt w A l) (hg : w.grownBy w' r) (hn : ∀ a, A = some a → some a.block ≠ r) : RingsAt w' A l := fun k i hk => by
  obtain ⟨ad, e, h1, h2, h3, h4⟩ := h k i hk
  exact ⟨ad, e, h1, Nat.lt_of_lt_of_le h2 hg.size, fun j v hj => hg.cell (h3 j v hj) (hn ad e), h4⟩
theorem RingsAt.ok {w : World} {A : Option Addr} {l : List (Int × Int)} (h : RingsAt w A l) : ∀ x ∈ l, I64 x.1 ∧ I64 x.2 := fun x hx => by
  obtain ⟨k, hk, rfl⟩ := List.getElem_of_mem hx
  obtain ⟨ad, -, -, -, -, h4⟩ := h k _ (List.getElem?_eq_getElem hk)
  exact h4
theorem size_ring : (Tryd.prog.info? 64).map (·.size) = some 2 := by kernel_rfl
structure PrgD where
  (d0 d1 d2 d3 c0 c1 c2 c3 : Int)
  (rg : List (Int × Int))
  (code : List Ins)
structure PrgA where
  (d : PrgD)
  (RA CA : Option Addr)
  (rc cc : Nat)
def PrgA.lst (u : PrgA) : List Value := [.int .i64 u.d.d0, .int .i64 u.d.d1, .int .i64 u.d.d2, .int .i64 u.d.d3, .int .i64 u.d.c0, .int .i64 u.d.c1, .int .i64 u.d.c2, .int .i64 u.d.c3, .slice u.RA u.d.rg.length u.rc, .slice u.CA u.d.code.length u.cc]
def PrgA.v (u : PrgA) : Value := .agg u.lst.toArray
def PrgAt (w : World) (u : PrgA) : Prop := RingsAt w u.RA u.d.rg ∧ InsAt w u.CA u.d.code
theorem PrgAt.grow {w w' : World} {u : PrgA} (h : PrgAt w u) (hb : Below w.heap.size w w') : PrgAt w' u := ⟨h.1.grow hb, h.2.grow hb⟩
end Go.Proofs.YtgdccmmcjicgkaaDoor
end
