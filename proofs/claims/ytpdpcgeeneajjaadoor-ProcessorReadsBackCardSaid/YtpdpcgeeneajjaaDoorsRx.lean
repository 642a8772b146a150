/- read of package processor. Printed by gen_rx.py. -/
import Derived.Test.YtpdpcgeeneajjaaDoorsRw
import Derived.Lib.AtoiAllCases
import Derived.Lib.SmallJoins
set_option linter.unusedVariables false
set_option linter.unusedSimpArgs false
namespace Go.Proofs.YtpdpcgeeneajjaaDoor
open Go.RowKit
def rowF (k : Nat) : List Value := [.string (opStr k), .int .i64 (kA k), .int .i64 (kB k), .int .i64 (kC k)]
theorem flat4 {α : Type} (f : Nat → List α) (hf : ∀ k, (f k).length = 4) : ∀ (m s q r : Nat), q < m → r < 4 → ((List.range' s m).flatMap f)[q * 4 + r]? = (f (s + q))[r]?
  | 0, _, _, _, h, _ => absurd h (Nat.not_lt_zero _)
  | m + 1, s, 0, r, _, hr => by
    rw [List.range'_succ, List.flatMap_cons, List.getElem?_append_left (by rw [hf]; omega)]
    simp
  | m + 1, s, q + 1, r, h, hr => by
    rw [List.range'_succ, List.flatMap_cons, List.getElem?_append_right (by rw [hf]; omega), hf, show (q + 1) * 4 + r - 4 = q * 4 + r by omega, flat4 f hf m (s + 1) q r (by omega) hr, show s + 1 + q = s + (q + 1) by omega]
def tabF : List Value := (List.range' 0 12).flatMap rowF
theorem tabF_len : tabF.length = 48 := rfl
theorem tabF_get {q r : Nat} (hq : q < 12) (hr : r < 4) : tabF[q * 4 + r]? = (rowF q)[r]? := by
  have := flat4 rowF (fun _ => rfl) 12 0 q r hq hr
  rw [Nat.zero_add] at this
  exact this
theorem tab_range {w : World} (h : PrAt w) : w.rangeAt 0 0 tabF := fun j v hj => by
  have hlt : j < 48 := by have := (List.getElem?_eq_some_iff.1 hj).1; rwa [tabF_len] at this
  rw [Nat.zero_add]
  obtain ⟨q, r, hq, hr, rfl⟩ : ∃ q r, q < 12 ∧ r < 4 ∧ j = q * 4 + r := ⟨j / 4, j % 4, by omega, by omega, by omega⟩
  rw [tabF_get hq hr] at hj
  obtain ⟨h1, h2, h3⟩ := h.forms.cells q hq
  match r, hr with
  | 0, _ => exact (h.word q hq).trans hj
  | 1, _ => exact h1.trans hj
  | 2, _ => exact h2.trans hj
  | 3, _ => exact h3.trans hj
@[irreducible]
def tabV : Value := .agg tabF.toArray
theorem row_tab : ∃ d, Tryd.prog.underlying 91 = some d ∧ d.isRow = true := ⟨_, Tryd.underlying91, rfl⟩
theorem size_tab : (Tryd.prog.info? 91).map (·.size) = some tabF.length := by kernel_rfl
theorem ld_tab {ops : Array Oper} {rest : List Oper} {o : Oper} {a : Act} {Q : Exit → Act → World → Prop} {w : World} (hp : PrAt w) (hgd : o.guard = none) (x : Operand) (ho : o.op = .load 91 x) (hx : a.eval x = .pointer (some ⟨0, 0, none⟩)) (h : wpList Tryd.prog ops Q rest (a.put o.dst tabV) w) : wpList Tryd.prog ops Q (o :: rest) a w := by
  obtain ⟨d, h1, h2⟩ := row_tab
  refine wpList_load_mid hgd _ x ho 0 0 hx tabF d (tab_range hp) h1 h2 size_tab ?_
  unfold tabV at h; exact h
theorem tab_cut {k : Nat} (hk : k < 12) : tabF.toArray.extract (k * 4) (k * 4 + 4) = (rowF k).toArray := by
  match k, hk with
  | 0, _ | 1, _ | 2, _ | 3, _ | 4, _ | 5, _ | 6, _ | 7, _ | 8, _ | 9, _ | 10, _ | 11, _ => rfl
theorem run_ixT {k : Nat} (hk : k < 12) (w : World) : (Instr.index 91 tabV (.int .i64 (k : Int))).run Tryd.prog w = .ok (.agg (rowF k).toArray) w := by
  have h1 : ((k : Int) < 12) := by omega
  have h2 := tab_cut hk
  unfold tabV
  simp [Instr.index, go_sem, run_underlying Tryd.underlying91, Tryd.sizeOf90, part, Tryd.isAgg90, h1, hk, Nat.mul_comm 4 k]
  simpa using h2
theorem wp_ixT {ops : Array Oper} {rest : List Oper} {o : Oper} {a : Act} {Q : Exit → Act → World → Prop} {w : World} (hgd : o.guard = none) (x y : Operand) (ho : o.op = .index 91 x y) (k : Nat) (hk : k < 12) (hx : a.eval x = tabV) (hy : a.eval y = .int .i64 (k : Int))
    (h : wpList Tryd.prog ops Q rest (a.put o.dst (.agg #[.string (opStr k), .int .i64 (kA k), .int .i64 (kB k), .int .i64 (kC k)])) w) : wpList Tryd.prog ops Q (o :: rest) a w := by
  refine wpList_plain hgd fun _ hK => ?_
  unfold Oper.wp execOp
  simp only [ho, hx, hy, Sem.run_bind, Sem.run_pure, Result.andThen_ok, run_ixT hk w]
  exact hK _ _ h
def stp (A B C : Int) (T : List (List UInt8)) : Nat → Option (List Int × List (List UInt8))
  | 0 => some ([0, 0, 0], T)
  | n + 1 => match stp A B C T n with
    | none => none
    | some (L, r) => match fieldP ([A, B, C].getD n 0) r with
      | none => none
      | some (v, r') => some (L.set n v, r')
theorem stp_up {A B C : Int} {T : List (List UInt8)} {n : Nat} (h : stp A B C T n = none) : stp A B C T (n + 1) = none := by
  show (match stp A B C T n with | none => none | some (L, r) => match fieldP ([A, B, C].getD n 0) r with | none => none | some (v, r') => some (L.set n v, r')) = none
  rw [h]
theorem stp_next {A B C : Int} {T : List (List UInt8)} {n : Nat} {L : List Int} {r : List (List UInt8)} (h : stp A B C T n = some (L, r)) : stp A B C T (n + 1) = match fieldP ([A, B, C].getD n 0) r with | none => none | some (v, r') => some (L.set n v, r') := by
  show (match stp A B C T n with | none => none | some (L, r) => match fieldP ([A, B, C].getD n 0) r with | none => none | some (v, r') => some (L.set n v, r')) = _
  rw [h]
theorem stp_ins (k : Nat) (T : List (List UInt8)) : insP k T = (stp (kA k) (kB k) (kC k) T 3).map fun x => ⟨k, x.1.getD 0 0, x.1.getD 1 0, x.1.getD 2 0⟩ := by
  unfold insP
  cases h1 : fieldP (kA k) T with
  | none => simp [stp, h1]
  | some x =>
    obtain ⟨a, r1⟩ := x
    cases h2 : fieldP (kB k) r1 with
    | none => simp [stp, h1, h2]
    | some x =>
      obtain ⟨b, r2⟩ := x
      cases h3 : fieldP (kC k) r2 with
      | none => simp [stp, h1, h2, h3]
      | some x =>
        obtain ⟨c, r3⟩ := x
        simp [stp, h1, h2, h3]
def StpOk (T : List (List UInt8)) (n : Nat) (L : List Int) (r : List (List UInt8)) : Prop := L.length = 3 ∧ (∀ x ∈ L, I64 x) ∧ (∀ j, n ≤ j → j < 3 → L[j]? = some 0) ∧ ∀ x ∈ r, x ∈ T
theorem stp_zero (T : List (List UInt8)) : StpOk T 0 [0, 0, 0] T := ⟨rfl, fun x hx => by simp at hx; subst hx; exact ⟨by decide, by decide⟩, fun j _ hj => by match j, hj with | 0, _ | 1, _ | 2, _ => rfl, fun _ hx => hx⟩
theorem StpOk.skip {T : List (List UInt8)} {n : Nat} {L : List Int} {r : List (List UInt8)} (h : StpOk T n L r) : StpOk T (n + 1) L r := ⟨h.1, h.2.1, fun j hj hl => h.2.2.1 j (by omega) hl, h.2.2.2⟩
theorem StpOk.same {T : List (List UInt8)} {n : Nat} {L : List Int} {r : List (List UInt8)} (h : StpOk T n L r) (hn : n < 3) : L.set n 0 = L := by
  have := h.2.2.1 n (Nat.le_refl _) hn
  obtain ⟨h1, h2⟩ := List.getElem?_eq_some_iff.1 this
  conv => rhs; rw [← List.set_getElem_self h1]
  rw [h2]
theorem StpOk.put {T : List (List UInt8)} {n : Nat} {L : List Int} {t : List UInt8} {r : List (List UInt8)} {v : Int} (h : StpOk T n L (t :: r)) (hv : I64 v) : StpOk T (n + 1) (L.set n v) r :=
  ⟨by rw [List.length_set]; exact h.1, fun x hx => by rcases List.mem_or_eq_of_mem_set hx with hx | rfl; · exact h.2.1 x hx
                                                      · exact hv, fun j hj hl => by rw [List.getElem?_set_ne (by omega)]; exact h.2.2.1 j (by omega) hl, fun x hx => h.2.2.2 x (List.mem_cons_of_mem _ hx)⟩
theorem fieldP_nil {K : Int} (h : K ≠ 0) : fieldP K [] = none := by unfold fieldP; rw [if_neg h]
theorem fieldP_zero (r : List (List UInt8)) : fieldP 0 r = some (0, r) := by unfold fieldP; rw [if_pos rfl]
theorem fieldP_ok {K v : Int} (h : K ≠ 0) {t : List UInt8} {r : List (List UInt8)} (ha : Lib.atoiAll (Lib.trimPrefix t (letB K)) = .ok v) : fieldP K (t :: r) = some (v, r) := by
  unfold fieldP; rw [if_neg h]; simp only [ha]
theorem fieldP_bad {K : Int} (h : K ≠ 0) {t : List UInt8} {r : List (List UInt8)} (ha : ∀ v, Lib.atoiAll (Lib.trimPrefix t (letB K)) ≠ .ok v) : fieldP K (t :: r) = none := by
  unfold fieldP; rw [if_neg h]
  cases e : Lib.atoiAll (Lib.trimPrefix t (letB K)) with
  | ok v => exact absurd e (ha v)
  | _ => simp only [e]
theorem read_no {s p : List UInt8} {T : List (List UInt8)} (h : splF 32 s = p :: T) (hp : opOf p = none) : readF s = none := by
  unfold readF; rw [h]; simp only [List.headD_cons, hp]
theorem read_hit {s p : List UInt8} {T : List (List UInt8)} {k : Nat} (h : splF 32 s = p :: T) (hp : opOf p = some k) : readF s = match insP k T with | none => none | some i => if goodB s i = true then some i else none := by
  unfold readF; rw [h]; simp only [List.headD_cons, List.tail_cons, hp]; cases insP k T <;> rfl
theorem stp_bad {k j : Nat} {T : List (List UInt8)} (hj : j ≤ 3) (h : stp (kA k) (kB k) (kC k) T j = none) : insP k T = none := by
  have h3 : stp (kA k) (kB k) (kC k) T 3 = none := by
    match j, hj with
    | 0, _ => cases h
    | 1, _ => exact stp_up (stp_up h)
    | 2, _ => exact stp_up h
    | 3, _ => exact h
  rw [stp_ins, h3]; rfl
theorem ne_gv {g gv c : Nat} {ad : Addr} (hg : g ≤ gv) (h : ∀ a, some ad = some a → a.block < g) : ∀ a, (if c = 1 then some ad else Option.map (fun x => x.add 1) (some ad)) = some a → a.block ≠ gv := fun a ha => by
  have := lt_add (c := c) h a ha
  omega
theorem trim_len (t p : List UInt8) : (Lib.trimPrefix t p).length ≤ t.length := by
  unfold Lib.trimPrefix
  split
  · rw [List.length_drop]; omega
  · exact Nat.le_refl _
theorem lib_Trim (t p : List UInt8) (w : World) : Calls Tryd.prog 49 #[.string (str t), .string (str p)] w fun e w' => e = .returned (.string (str (Lib.trimPrefix t p))) ∧ w = w' :=
  (Tryd.strings_TrimPrefix (str t) (str p) w).mono fun e w' ⟨h1, h2⟩ => ⟨h1, h2.symm⟩
theorem lib_AtoiOk (l : List UInt8) (v : Int) (w : World) (hl : l.length ≤ 1000000) (h : Lib.atoiAll l = .ok v) : Calls Tryd.prog 48 #[.string (str l)] w fun e w' => e = .returned (.tuple #[.int .i64 v, .nilIface]) ∧ Below w.heap.size w w' :=
  (Tryd.strconv_Atoi_ok (str l) (by rw [str_size]; omega) v h w).mono fun e w' ⟨h1, h2⟩ => ⟨h1, by
    rcases h2 with rfl | ⟨t, rfl⟩
    · exact Below.refl _ _
    · exact Lib.bytesWorld_below _ _ _⟩
def RetBad (w : World) (e : Ending) (w' : World) : Prop := ∃ x N, e = .returned (.tuple #[.int .i64 x, .iface 121 (.pointer (some ⟨N, 0, none⟩))]) ∧ Below w.heap.size w w'
theorem lib_AtoiBad (l : List UInt8) (w : World) (hw : RdAt w) (hl : l.length ≤ 1000000) (h : ∀ v, Lib.atoiAll l ≠ .ok v) : Calls Tryd.prog 48 #[.string (str l)] w (RetBad w) := by
  rcases e : Lib.atoiAll l with v | _ | _
  · exact absurd e (h v)
  · obtain ⟨te, pe, hs⟩ := hw.syn
    exact (Tryd.strconv_Atoi_syntax (str l) (by rw [str_size]; omega) e _ w hs (.inr ⟨te, pe, rfl⟩)).mono fun _ _ ⟨N, h1, _, _, h2⟩ => ⟨_, N, h1, h2⟩
  · obtain ⟨te, pe, hs⟩ := hw.rng
    exact (Tryd.strconv_Atoi_range (str l) (by rw [str_size]; omega) e _ w hs (.inr ⟨te, pe, rfl⟩)).mono fun _ _ ⟨N, h1, _, _, h2⟩ => ⟨_, N, h1, h2⟩
set_option maxRecDepth 100000 in
set_option maxHeartbeats 8000000 in
theorem pr_read (s : List UInt8) (w : World) (h : RdAt w) (hs : s.length ≤ 100000) : Calls Tryd.prog 25 #[.string (str s)] w (RetIn w (readF s)) := by
  obtain ⟨p0, T, hPT⟩ : ∃ p0 T, splF 32 s = p0 :: T := by
    cases e : splF 32 s with
    | nil => exact absurd e (splF_ne 32 s)
    | cons a t => exact ⟨a, t, rfl⟩
  have hpl : ∀ x ∈ T, x.length ≤ 100000 := fun x hx => Nat.le_trans (splF_mem (c := 32) (s := s) x (by rw [hPT]; exact List.mem_cons_of_mem _ hx)) hs
  have hTl : T.length ≤ 100000 := by
    have h1 := splF_length 32 s
    have h2 : s.count 32 ≤ s.length := List.count_le_length
    rw [hPT, List.length_cons] at h1
    omega
  have CS : Hid (∀ w1, RdAt w1 → Calls Tryd.prog 24 #[.string (str s), .string ⟨#[32]⟩] w1 (RetStrs w1 (p0 :: T))) := Lib.hid fun w1 h1 => by
    have h2 := lib_Split s 32 w1 h1 (by omega)
    rw [hPT] at h2
    exact h2.mono fun e w' ⟨A, e1, e2, e3⟩ => ⟨A, _, e1, Nat.le_refl _, e2, e3⟩
  have HPT := Lib.hid hPT
  have HPL := Lib.hid hpl
  have HTL := Lib.hid hTl
  have HSS := Lib.hid hs
  have HRD := Lib.hid h
  clear hPT hpl hTl hs h
  go_enter Tryd.func25, Tryd.ntmps25
  go_upto_region 1 with fail
  have HR0 : Hid (Box (w.alloc (.cells Ins.zero.cells.toArray 50)) w.heap.size Ins.zero.cells) := Lib.hid (Box.new rfl)
  have HB0 : Hid (Below w.heap.size w (w.alloc (.cells Ins.zero.cells.toArray 50))) := Lib.hid ((Below.refl _ _).alloc (Nat.le_refl _) _)
  change Code.wp _ _ _ _ (w.alloc (.cells Ins.zero.cells.toArray 50))
  generalize w.alloc (.cells Ins.zero.cells.toArray 50) = W0 at HR0 HB0 ⊢
  have HRD0 : Hid (RdAt W0) := Lib.hid (HRD.out.grow HB0.out)
  go_upto_region 2 with (go_at_call 24; (with_reducible refine (CS.out _ HRD0.out).mono ?_); rintro e1 w1 ⟨A, c, rfl, hc, hA, hb1⟩)
  have HRA := Lib.hid (HR0.out.keep hb1)
  have HBA := Lib.hid (below_then HB0.out hb1)
  have HRD1 : Hid (RdAt w1) := Lib.hid (HRD.out.grow HBA.out)
  obtain ⟨ad, rfl, hp0, hadb⟩ := hA 0 p0 rfl
  have hp0' : w1.cell? ad = some (.string (str p0)) := by simpa [Addr.add] using hp0
  have HP0 := Lib.hid hp0'
  have HA := Lib.hid hA
  have hcl : T.length + 1 ≤ c := hc
  clear hA hp0 hc hb1 hp0'
  go_wp2_with ((with_reducible show wpList _ _ _ (Oper.mk _ (.load _ _) _ _ _ _ :: _) _ _); refine ld_tab HRD1.out.pr rfl _ rfl rfl ?_)
  go_loopw [17] (fun o wr => ∃ k : Nat, k ≤ 12 ∧ o = .int .i64 k ∧ Hid (∀ j, j < k → (opStr j).data.toList ≠ p0) ∧ Hid (Below w1.heap.size w1 wr)) (fun o _ => 12 - (intOf o).toNat)
  case atStart => exact ⟨0, by omega, rfl, Lib.hid fun j hj => absurd hj (Nat.not_lt_zero _), Lib.hid (Below.refl _ _)⟩
  case round =>
    obtain ⟨k, hk, rfl, HNO, HBK⟩ := hrel
    by_cases hlt : k < 12
    · have q1 : (k : Int) < 12 := by omega
      have wk : IntKind.i64.wrap ((k : Int) + 1) = ((k + 1 : Nat) : Int) := (IntWalk.i64_in _ (by omega)).trans (by omega)
      have hp0' : wr.cell? ad = some (.string (str p0)) := cell_b HBK.out HP0.out
      obtain ⟨so, hso⟩ : ∃ x, opStr k = x := ⟨_, rfl⟩
      obtain ⟨KA, hKA⟩ : ∃ x, kA k = x := ⟨_, rfl⟩
      obtain ⟨KB, hKB⟩ : ∃ x, kB k = x := ⟨_, rfl⟩
      obtain ⟨KC, hKC⟩ : ∃ x, kC k = x := ⟨_, rfl⟩
      obtain ⟨sp, hsp⟩ : ∃ x, str p0 = x := ⟨_, rfl⟩
      have HLT := Lib.hid hlt
      rw [hsp] at hp0'
      go_upto_region 5 with ((with_reducible show wpList _ _ _ (Oper.mk (some 20) (.index _ _ _) _ _ _ _ :: _) _ _); refine wp_ixT rfl _ _ rfl k HLT.out rfl rfl ?_; rw [hso, hKA, hKB, hKC])
      have HF1 : Hid (Box (wr.alloc (.cells #[.string so, .int .i64 KA, .int .i64 KB, .int .i64 KC] 90)) wr.heap.size [.string so, .int .i64 KA, .int .i64 KB, .int .i64 KC]) := Lib.hid (Box.new rfl)
      have HBW : Hid (Below wr.heap.size wr (wr.alloc (.cells #[.string so, .int .i64 KA, .int .i64 KB, .int .i64 KC] 90))) := Lib.hid ((Below.refl _ _).alloc (Nat.le_refl _) _)
      generalize wr.alloc (.cells #[.string so, .int .i64 KA, .int .i64 KB, .int .i64 KC] 90) = W2 at HF1 HBW ⊢
      have HBX : Hid (Below w1.heap.size w1 W2) := Lib.hid (below_then HBK.out HBW.out)
      have HGF : Hid (w1.heap.size ≤ wr.heap.size) := Lib.hid HBK.out.size
      generalize wr.heap.size = gf at HF1 HGF ⊢
      have y0 : W2.cell? ⟨gf, 0, none⟩ = some (.string so) := HF1.out.2.1 0
      replace hp0' : W2.cell? ad = some (.string sp) := cell_b HBW.out hp0'
      have hS0 : W2.drew.cell? ⟨gf, 0, none⟩ = some (.string so) ∧ W2.drew.cell? ad = some (.string sp) := ⟨HF1.out.drew.2.1 0, cell_b ((Below.refl _ _).drew) hp0'⟩
      by_cases heq : (opStr k).data.toList = p0
      · have hqs : (so.toList == sp.toList) = true := by
          rw [← hso, ← hsp, ByteArray.toList_eq, ByteArray.toList_eq]
          exact beq_iff_eq.2 heq
        have hop := opOf_hit hlt heq
        have HIN := Lib.hid (read_hit HPT.out hop)
        have HT0 : Hid (StrsAt w1 (if c = 1 then some ad else some (ad.add 1)) T) := Lib.hid (by
          have := HA.out.tailL (c := c) hcl
          exact this)
        go_region_held3 (fun w' => w'.cell? ⟨gf, 0, none⟩ = some (.string so) ∧ w'.cell? ad = some (.string sp)) (exact hS0) (fail)
        clear hS0 hqs y0 hp0' heq HNO HPT
        go_upto_region 7 with fail
        obtain ⟨B1, hB1⟩ : ∃ B, (if c = 1 then some ad else some (⟨ad.block, ad.off + 1, none⟩ : Addr)) = B := ⟨_, rfl⟩
        rw [hB1]
        go_upto_region 8 with fail
        have HV3 : Hid (Box ((W2.alloc (.cells #[.int .i64 0, .int .i64 0, .int .i64 0] 88)).drew) W2.heap.size [.int .i64 0, .int .i64 0, .int .i64 0]) := Lib.hid (Box.new rfl).drew
        have HW3 : Hid (Below W2.heap.size W2 ((W2.alloc (.cells #[.int .i64 0, .int .i64 0, .int .i64 0] 88)).drew)) := Lib.hid ((Below.refl _ _).alloc (Nat.le_refl _) _).drew
        generalize (W2.alloc (.cells #[.int .i64 0, .int .i64 0, .int .i64 0] 88)).drew = W3 at HV3 HW3 ⊢
        have HB3 : Hid (Below w1.heap.size w1 W3) := Lib.hid (below_then HBX.out HW3.out)
        have HF3 := Lib.hid (HF1.out.keep HW3.out)
        have HGV : Hid (w1.heap.size ≤ W2.heap.size) := Lib.hid HBX.out.size
        generalize W2.heap.size = gv at HV3 HGV ⊢
        have HBL : Hid (∀ a, B1 = some a → a.block < w1.heap.size) := Lib.hid fun a ha => by
          rw [← hB1] at ha
          split at ha
          · injection ha with ha; rw [← ha]; exact hadb
          · injection ha with ha; rw [← ha]; exact hadb
        have HT1 : Hid (StrsAt w1 B1 T) := Lib.hid (by rw [← hB1]; exact HT0.out)
        have HT3 := Lib.hid (HT1.out.grow HB3.out)
        have hc1 : T.length ≤ c - 1 := by omega
        generalize c - 1 = c1 at hc1 ⊢
        have y1 : W3.cell? ⟨gf, 1, none⟩ = some (.int .i64 KA) := HF3.out.2.1 1
        have y2 : W3.cell? ⟨gf, 2, none⟩ = some (.int .i64 KB) := HF3.out.2.1 2
        have y3 : W3.cell? ⟨gf, 3, none⟩ = some (.int .i64 KC) := HF3.out.2.1 3
        clear HF1 HBW HBX HT0 HT1 HW3 hB1
        go_wp2_with fail
        clear y1 y2 y3
        go_loopw [7, 31] (fun rs kk wr => ∃ (n : Nat) (a b d : Int) (r : List (List UInt8)) (B : Option Addr) (m c : Nat), n ≤ 3 ∧ kk = .int .i64 n ∧ rs = .slice B m c ∧ Hid (m = r.length) ∧ m ≤ c ∧ Hid (StrsAt wr B r) ∧ Hid (∀ a, B = some a → a.block < w1.heap.size) ∧ Hid (stp KA KB KC T n = some ([a, b, d], r)) ∧ Hid (StpOk T n [a, b, d] r) ∧ Hid (Box wr gv [.int .i64 a, .int .i64 b, .int .i64 d]) ∧ Hid (Below w1.heap.size w1 wr)) (fun rs kk _ => 3 - (intOf kk).toNat)
        case atStart => exact ⟨0, 0, 0, 0, T, B1, T.length, c1, by omega, rfl, rfl, Lib.hid rfl, hc1, HT3, HBL, Lib.hid rfl, Lib.hid (stp_zero T), HV3, HB3⟩
        case round =>
          obtain ⟨n, a, b, d, r, B, m, c2, hn, rfl, rfl, HM, hmc, HT, HBB, HS, HOK, HV, HB⟩ := hrel
          clear HT3 HV3 HB3 HF3
          have hn4 : n = 0 ∨ n = 1 ∨ n = 2 ∨ n = 3 := by omega
          rcases hn4 with rfl | rfl | rfl | rfl
          · -- field 0
            by_cases hz : KA = 0
            · have HZ := Lib.hid hz
              subst hz
              go_wp2_with ((with_reducible show wpList _ _ _ (Oper.mk (some 34) (.index _ _ _) _ _ _ _ :: _) _ _); refine wp_ix3 rfl _ _ rfl 0 KB KC 0 (by decide) rfl rfl ?_)
              go_roundw
              case rel => exact ⟨1, a, b, d, r, B, m, c2, by omega, rfl, rfl, HM, hmc, HT, HBB, Lib.hid (by rw [stp_next HS.out]; show (match fieldP 0 r with | none => none | some (v, r') => some ([a, b, d].set 0 v, r')) = _; rw [fieldP_zero]; show some ([a, b, d].set 0 0, r) = _; rw [HOK.out.same (by omega)]), Lib.hid HOK.out.skip, HV, HB⟩
              case measure => simp [intOf]
            · have d0 : decide (KA = 0) = false := decide_eq_false hz
              rcases list_or r with hR | ⟨t, r', hR⟩
              · have hm0 : m = 0 := by rw [HM.out, hR]; rfl
                subst hm0
                have hin : readF s = none := by rw [HIN.out, stp_bad (j := 1) (by omega) (by rw [hKA, hKB, hKC, stp_next HS.out, hR]; show (match fieldP KA [] with | none => none | some (v, r') => some ([a, b, d].set 0 v, r')) = _; rw [fieldP_nil hz])]
                have HZB := HRA.out.keep HB.out
                go_wp2_with (first
                  | ((with_reducible show wpList _ _ _ (Oper.mk (some 34) (.index _ _ _) _ _ _ _ :: _) _ _); refine wp_ix3 rfl _ _ rfl KA KB KC 0 (by decide) rfl rfl ?_)
                  | ((with_reducible show wpList _ _ _ (Oper.mk _ (.store _ _ _) _ _ _ _ :: _) _ _); refine st_ins (i := Ins.zero) (j := Ins.zero) HZB rfl _ _ rfl rfl rfl ?_; intro W9 b9 p9))
                obtain ⟨dsc, hd1, hd2⟩ := row_ins
                refine bodyPost_ret (resCT rfl _ _ W9 (g := w.heap.size) (v := Ins.zero.v) rfl (res_box _ b9 dsc hd1 hd2 size_ins)) rfl ?_
                rw [hin]
                exact ⟨Ins.zero, zero_ok, rfl, fun j hj => (by cases hj), put_facts (below_then HBA.out HB.out) (Nat.le_refl _) p9⟩
              · rw [hR] at HT
                obtain ⟨m', hm'⟩ : ∃ m', m = m' + 1 := ⟨r'.length, by rw [HM.out, hR]; rfl⟩
                subst hm'
                obtain ⟨ad2, rfl, hct, had2⟩ := HT.out 0 t rfl
                have hct' : wr.cell? ad2 = some (.string (str t)) := by simpa [Addr.add] using hct
                have hnn : ¬ ((m' : Int) + 1 = 0) := by omega
                have htl : t.length ≤ 100000 := HPL.out t (HOK.out.2.2.2 t (by rw [hR]; exact List.mem_cons_self ..))
                have hkb : 0 ≤ KA ∧ KA ≤ 5 := by rw [← hKA]; exact kA_bound k
                have CL : Hid (∀ w1, Calls Tryd.prog 50 #[.int .i64 KA] w1 fun e w' => e = .returned (.string (str (letB KA))) ∧ w1 = w') := Lib.hid fun w1 => pr_letter KA w1 hkb
                have CT : Hid (∀ w1, Calls Tryd.prog 49 #[.string (str t), .string (str (letB KA))] w1 fun e w' => e = .returned (.string (str (Lib.trimPrefix t (letB KA)))) ∧ w1 = w') := Lib.hid fun w1 => lib_Trim t _ w1
                have htm := trim_len t (letB KA)
                obtain ⟨u, hu⟩ : ∃ u, Lib.trimPrefix t (letB KA) = u := ⟨_, rfl⟩
                rw [hu] at CT htm
                have HRW : Hid (RdAt wr.drew) := Lib.hid ((HRD.out.grow (below_then HBA.out HB.out)).grow ((Below.refl _ _).drew))
                have HRR := Lib.hid hR
                have HHU := Lib.hid hu
                have HZ := Lib.hid hz
                have HTL := Lib.hid (show u.length ≤ 1000000 by omega)
                clear hR hu htl htm hkb hct
                by_cases hat : ∃ v, Lib.atoiAll u = .ok v
                · obtain ⟨v, hv⟩ := hat
                  have HVB : Hid (I64 v) := Lib.hid ((fun h => ⟨h.1, h.2⟩ : (-9223372036854775808 ≤ v ∧ v ≤ 9223372036854775807) → I64 v) (Lib.atoiAll_bounds hv))
                  have CA : Hid (∀ w1, Calls Tryd.prog 48 #[.string (str u)] w1 fun e w' => e = .returned (.tuple #[.int .i64 v, .nilIface]) ∧ Below w1.heap.size w1 w') := Lib.hid fun w1 => lib_AtoiOk u v w1 HTL.out hv
                  have HST : Hid (stp KA KB KC T 1 = some ([a, b, d].set 0 v, r')) := Lib.hid (by rw [stp_next HS.out, HRR.out]; show (match fieldP KA (t :: r') with | none => none | some (v, r') => some ([a, b, d].set 0 v, r')) = _; rw [fieldP_ok HZ.out (v := v) (by rw [HHU.out]; exact hv)])
                  have HHV := Lib.hid hv
                  clear hv
                  generalize str (letB KA) = sl at CL CT
                  generalize str u = su at CT CA
                  generalize str t = tt at CT hct'
                  go_upto_region 14 with ((with_reducible show wpList _ _ _ (Oper.mk (some 34) (.index _ _ _) _ _ _ _ :: _) _ _); refine wp_ix3 rfl _ _ rfl KA KB KC 0 (by decide) rfl rfl ?_)
                  have hS0 : wr.drew.cell? ad2 = some (.string tt) := cell_b ((Below.refl _ _).drew) hct'
                  go_region_held3 (fun w' => w'.cell? ad2 = some (.string tt)) (first | exact hS0 | exact cell_b hb5 hS0) (first
                    | (go_at_call 50; (with_reducible refine (CL.out _).mono ?_); rintro e1 w3 ⟨rfl, rfl⟩)
                    | (go_at_call 49; (with_reducible refine (CT.out _).mono ?_); rintro e2 w4 ⟨rfl, rfl⟩)
                    | (go_at_call 48; (with_reducible refine (CA.out _).mono ?_); rintro e3 w5 ⟨rfl, hb5⟩))
                  all_goals
                    have HV5 := Lib.hid (HV.out.drew.keep hb5)
                    have hx1 : w5.cell? ⟨gv, 0, none⟩ = some (.int .i64 a) := HV5.out.2.1 0
                    have hx2 : w5.frozen? ⟨gv, 0, none⟩ = false := HV5.out.2.2 0
                    have HB5 := Lib.hid (below_then HB.out.drew hb5)
                    have HT5 := Lib.hid (HT.out.drew.grow hb5)
                    clear hb5
                    go_wp2_with fail
                    go_roundw
                    case rel => exact ⟨1, v, b, d, r', _, m', c2 - 1, by omega, rfl, rfl, Lib.hid (by have := HM.out; rw [HRR.out] at this; simpa using this), by omega, Lib.hid ((HT5.out.tailL (c := c2) (by have := HM.out; rw [HRR.out] at this; omega)).past (ne_gv HGV.out HBB.out)), Lib.hid (lt_add HBB.out), HST, Lib.hid (StpOk.put (by have := HOK.out; rwa [HRR.out] at this) HVB.out), Lib.hid (HV5.out.set (k := 0) (u := .int .i64 v) (by show 0 < 3; omega)), Lib.hid (HB5.out.setCell (p := ⟨gv, 0, none⟩) HGV.out _)⟩
                    case measure => simp [intOf]
                · have hbad : ∀ v, Lib.atoiAll u ≠ .ok v := fun v hv => hat ⟨v, hv⟩
                  have CA : Hid (∀ w1, RdAt w1 → Calls Tryd.prog 48 #[.string (str u)] w1 (RetBad w1)) := Lib.hid fun w1 h1 => lib_AtoiBad u w1 h1 HTL.out hbad
                  have hin : readF s = none := by rw [HIN.out, stp_bad (j := 1) (by omega) (by rw [hKA, hKB, hKC, stp_next HS.out, HRR.out]; show (match fieldP KA (t :: r') with | none => none | some (v, r') => some ([a, b, d].set 0 v, r')) = _; rw [fieldP_bad HZ.out (by rw [HHU.out]; exact hbad)])]
                  clear hat hbad
                  generalize str (letB KA) = sl at CL CT
                  generalize str u = su at CT CA
                  generalize str t = tt at CT hct'
                  go_upto_region 14 with ((with_reducible show wpList _ _ _ (Oper.mk (some 34) (.index _ _ _) _ _ _ _ :: _) _ _); refine wp_ix3 rfl _ _ rfl KA KB KC 0 (by decide) rfl rfl ?_)
                  have hS0 : wr.drew.cell? ad2 = some (.string tt) := cell_b ((Below.refl _ _).drew) hct'
                  go_region_held3 (fun w' => w'.cell? ad2 = some (.string tt)) (first | exact hS0 | exact cell_b hb5 hS0) (first
                    | (go_at_call 50; (with_reducible refine (CL.out _).mono ?_); rintro e1 w3 ⟨rfl, rfl⟩)
                    | (go_at_call 49; (with_reducible refine (CT.out _).mono ?_); rintro e2 w4 ⟨rfl, rfl⟩)
                    | (go_at_call 48; (with_reducible refine (CA.out _ HRW.out).mono ?_); rintro e3 w5 ⟨x5, N5, rfl, hb5⟩))
                  all_goals
                    have HB5 := below_then HB.out.drew hb5
                    have HZB := HRA.out.keep HB5
                    go_wp2_with ((with_reducible show wpList _ _ _ (Oper.mk _ (.store _ _ _) _ _ _ _ :: _) _ _); refine st_ins (i := Ins.zero) (j := Ins.zero) HZB rfl _ _ rfl rfl rfl ?_; intro W9 b9 p9)
                    obtain ⟨dsc, hd1, hd2⟩ := row_ins
                    refine bodyPost_ret (resCT rfl _ _ W9 (g := w.heap.size) (v := Ins.zero.v) rfl (res_box _ b9 dsc hd1 hd2 size_ins)) rfl ?_
                    rw [hin]
                    exact ⟨Ins.zero, zero_ok, rfl, fun j hj => (by cases hj), put_facts (below_then HBA.out HB5) (Nat.le_refl _) p9⟩
          · -- field 1
            by_cases hz : KB = 0
            · have HZ := Lib.hid hz
              subst hz
              go_wp2_with ((with_reducible show wpList _ _ _ (Oper.mk (some 34) (.index _ _ _) _ _ _ _ :: _) _ _); refine wp_ix3 rfl _ _ rfl KA 0 KC 1 (by decide) rfl rfl ?_)
              go_roundw
              case rel => exact ⟨2, a, b, d, r, B, m, c2, by omega, rfl, rfl, HM, hmc, HT, HBB, Lib.hid (by rw [stp_next HS.out]; show (match fieldP 0 r with | none => none | some (v, r') => some ([a, b, d].set 1 v, r')) = _; rw [fieldP_zero]; show some ([a, b, d].set 1 0, r) = _; rw [HOK.out.same (by omega)]), Lib.hid HOK.out.skip, HV, HB⟩
              case measure => simp [intOf]
            · have d0 : decide (KB = 0) = false := decide_eq_false hz
              rcases list_or r with hR | ⟨t, r', hR⟩
              · have hm0 : m = 0 := by rw [HM.out, hR]; rfl
                subst hm0
                have hin : readF s = none := by rw [HIN.out, stp_bad (j := 2) (by omega) (by rw [hKA, hKB, hKC, stp_next HS.out, hR]; show (match fieldP KB [] with | none => none | some (v, r') => some ([a, b, d].set 1 v, r')) = _; rw [fieldP_nil hz])]
                have HZB := HRA.out.keep HB.out
                go_wp2_with (first
                  | ((with_reducible show wpList _ _ _ (Oper.mk (some 34) (.index _ _ _) _ _ _ _ :: _) _ _); refine wp_ix3 rfl _ _ rfl KA KB KC 1 (by decide) rfl rfl ?_)
                  | ((with_reducible show wpList _ _ _ (Oper.mk _ (.store _ _ _) _ _ _ _ :: _) _ _); refine st_ins (i := Ins.zero) (j := Ins.zero) HZB rfl _ _ rfl rfl rfl ?_; intro W9 b9 p9))
                obtain ⟨dsc, hd1, hd2⟩ := row_ins
                refine bodyPost_ret (resCT rfl _ _ W9 (g := w.heap.size) (v := Ins.zero.v) rfl (res_box _ b9 dsc hd1 hd2 size_ins)) rfl ?_
                rw [hin]
                exact ⟨Ins.zero, zero_ok, rfl, fun j hj => (by cases hj), put_facts (below_then HBA.out HB.out) (Nat.le_refl _) p9⟩
              · rw [hR] at HT
                obtain ⟨m', hm'⟩ : ∃ m', m = m' + 1 := ⟨r'.length, by rw [HM.out, hR]; rfl⟩
                subst hm'
                obtain ⟨ad2, rfl, hct, had2⟩ := HT.out 0 t rfl
                have hct' : wr.cell? ad2 = some (.string (str t)) := by simpa [Addr.add] using hct
                have hnn : ¬ ((m' : Int) + 1 = 0) := by omega
                have htl : t.length ≤ 100000 := HPL.out t (HOK.out.2.2.2 t (by rw [hR]; exact List.mem_cons_self ..))
                have hkb : 0 ≤ KB ∧ KB ≤ 5 := by rw [← hKB]; exact kB_bound k
                have CL : Hid (∀ w1, Calls Tryd.prog 50 #[.int .i64 KB] w1 fun e w' => e = .returned (.string (str (letB KB))) ∧ w1 = w') := Lib.hid fun w1 => pr_letter KB w1 hkb
                have CT : Hid (∀ w1, Calls Tryd.prog 49 #[.string (str t), .string (str (letB KB))] w1 fun e w' => e = .returned (.string (str (Lib.trimPrefix t (letB KB)))) ∧ w1 = w') := Lib.hid fun w1 => lib_Trim t _ w1
                have htm := trim_len t (letB KB)
                obtain ⟨u, hu⟩ : ∃ u, Lib.trimPrefix t (letB KB) = u := ⟨_, rfl⟩
                rw [hu] at CT htm
                have HRW : Hid (RdAt wr.drew) := Lib.hid ((HRD.out.grow (below_then HBA.out HB.out)).grow ((Below.refl _ _).drew))
                have HRR := Lib.hid hR
                have HHU := Lib.hid hu
                have HZ := Lib.hid hz
                have HTL := Lib.hid (show u.length ≤ 1000000 by omega)
                clear hR hu htl htm hkb hct
                by_cases hat : ∃ v, Lib.atoiAll u = .ok v
                · obtain ⟨v, hv⟩ := hat
                  have HVB : Hid (I64 v) := Lib.hid ((fun h => ⟨h.1, h.2⟩ : (-9223372036854775808 ≤ v ∧ v ≤ 9223372036854775807) → I64 v) (Lib.atoiAll_bounds hv))
                  have CA : Hid (∀ w1, Calls Tryd.prog 48 #[.string (str u)] w1 fun e w' => e = .returned (.tuple #[.int .i64 v, .nilIface]) ∧ Below w1.heap.size w1 w') := Lib.hid fun w1 => lib_AtoiOk u v w1 HTL.out hv
                  have HST : Hid (stp KA KB KC T 2 = some ([a, b, d].set 1 v, r')) := Lib.hid (by rw [stp_next HS.out, HRR.out]; show (match fieldP KB (t :: r') with | none => none | some (v, r') => some ([a, b, d].set 1 v, r')) = _; rw [fieldP_ok HZ.out (v := v) (by rw [HHU.out]; exact hv)])
                  have HHV := Lib.hid hv
                  clear hv
                  generalize str (letB KB) = sl at CL CT
                  generalize str u = su at CT CA
                  generalize str t = tt at CT hct'
                  go_upto_region 14 with ((with_reducible show wpList _ _ _ (Oper.mk (some 34) (.index _ _ _) _ _ _ _ :: _) _ _); refine wp_ix3 rfl _ _ rfl KA KB KC 1 (by decide) rfl rfl ?_)
                  have hS0 : wr.drew.cell? ad2 = some (.string tt) := cell_b ((Below.refl _ _).drew) hct'
                  go_region_held3 (fun w' => w'.cell? ad2 = some (.string tt)) (first | exact hS0 | exact cell_b hb5 hS0) (first
                    | (go_at_call 50; (with_reducible refine (CL.out _).mono ?_); rintro e1 w3 ⟨rfl, rfl⟩)
                    | (go_at_call 49; (with_reducible refine (CT.out _).mono ?_); rintro e2 w4 ⟨rfl, rfl⟩)
                    | (go_at_call 48; (with_reducible refine (CA.out _).mono ?_); rintro e3 w5 ⟨rfl, hb5⟩))
                  all_goals
                    have HV5 := Lib.hid (HV.out.drew.keep hb5)
                    have hx1 : w5.cell? ⟨gv, 1, none⟩ = some (.int .i64 b) := HV5.out.2.1 1
                    have hx2 : w5.frozen? ⟨gv, 1, none⟩ = false := HV5.out.2.2 1
                    have HB5 := Lib.hid (below_then HB.out.drew hb5)
                    have HT5 := Lib.hid (HT.out.drew.grow hb5)
                    clear hb5
                    go_wp2_with fail
                    go_roundw
                    case rel => exact ⟨2, a, v, d, r', _, m', c2 - 1, by omega, rfl, rfl, Lib.hid (by have := HM.out; rw [HRR.out] at this; simpa using this), by omega, Lib.hid ((HT5.out.tailL (c := c2) (by have := HM.out; rw [HRR.out] at this; omega)).past (ne_gv HGV.out HBB.out)), Lib.hid (lt_add HBB.out), HST, Lib.hid (StpOk.put (by have := HOK.out; rwa [HRR.out] at this) HVB.out), Lib.hid (HV5.out.set (k := 1) (u := .int .i64 v) (by show 1 < 3; omega)), Lib.hid (HB5.out.setCell (p := ⟨gv, 1, none⟩) HGV.out _)⟩
                    case measure => simp [intOf]
                · have hbad : ∀ v, Lib.atoiAll u ≠ .ok v := fun v hv => hat ⟨v, hv⟩
                  have CA : Hid (∀ w1, RdAt w1 → Calls Tryd.prog 48 #[.string (str u)] w1 (RetBad w1)) := Lib.hid fun w1 h1 => lib_AtoiBad u w1 h1 HTL.out hbad
                  have hin : readF s = none := by rw [HIN.out, stp_bad (j := 2) (by omega) (by rw [hKA, hKB, hKC, stp_next HS.out, HRR.out]; show (match fieldP KB (t :: r') with | none => none | some (v, r') => some ([a, b, d].set 1 v, r')) = _; rw [fieldP_bad HZ.out (by rw [HHU.out]; exact hbad)])]
                  clear hat hbad
                  generalize str (letB KB) = sl at CL CT
                  generalize str u = su at CT CA
                  generalize str t = tt at CT hct'
                  go_upto_region 14 with ((with_reducible show wpList _ _ _ (Oper.mk (some 34) (.index _ _ _) _ _ _ _ :: _) _ _); refine wp_ix3 rfl _ _ rfl KA KB KC 1 (by decide) rfl rfl ?_)
                  have hS0 : wr.drew.cell? ad2 = some (.string tt) := cell_b ((Below.refl _ _).drew) hct'
                  go_region_held3 (fun w' => w'.cell? ad2 = some (.string tt)) (first | exact hS0 | exact cell_b hb5 hS0) (first
                    | (go_at_call 50; (with_reducible refine (CL.out _).mono ?_); rintro e1 w3 ⟨rfl, rfl⟩)
                    | (go_at_call 49; (with_reducible refine (CT.out _).mono ?_); rintro e2 w4 ⟨rfl, rfl⟩)
                    | (go_at_call 48; (with_reducible refine (CA.out _ HRW.out).mono ?_); rintro e3 w5 ⟨x5, N5, rfl, hb5⟩))
                  all_goals
                    have HB5 := below_then HB.out.drew hb5
                    have HZB := HRA.out.keep HB5
                    go_wp2_with ((with_reducible show wpList _ _ _ (Oper.mk _ (.store _ _ _) _ _ _ _ :: _) _ _); refine st_ins (i := Ins.zero) (j := Ins.zero) HZB rfl _ _ rfl rfl rfl ?_; intro W9 b9 p9)
                    obtain ⟨dsc, hd1, hd2⟩ := row_ins
                    refine bodyPost_ret (resCT rfl _ _ W9 (g := w.heap.size) (v := Ins.zero.v) rfl (res_box _ b9 dsc hd1 hd2 size_ins)) rfl ?_
                    rw [hin]
                    exact ⟨Ins.zero, zero_ok, rfl, fun j hj => (by cases hj), put_facts (below_then HBA.out HB5) (Nat.le_refl _) p9⟩
          · -- field 2
            by_cases hz : KC = 0
            · have HZ := Lib.hid hz
              subst hz
              go_wp2_with ((with_reducible show wpList _ _ _ (Oper.mk (some 34) (.index _ _ _) _ _ _ _ :: _) _ _); refine wp_ix3 rfl _ _ rfl KA KB 0 2 (by decide) rfl rfl ?_)
              go_roundw
              case rel => exact ⟨3, a, b, d, r, B, m, c2, by omega, rfl, rfl, HM, hmc, HT, HBB, Lib.hid (by rw [stp_next HS.out]; show (match fieldP 0 r with | none => none | some (v, r') => some ([a, b, d].set 2 v, r')) = _; rw [fieldP_zero]; show some ([a, b, d].set 2 0, r) = _; rw [HOK.out.same (by omega)]), Lib.hid HOK.out.skip, HV, HB⟩
              case measure => simp [intOf]
            · have d0 : decide (KC = 0) = false := decide_eq_false hz
              rcases list_or r with hR | ⟨t, r', hR⟩
              · have hm0 : m = 0 := by rw [HM.out, hR]; rfl
                subst hm0
                have hin : readF s = none := by rw [HIN.out, stp_bad (j := 3) (by omega) (by rw [hKA, hKB, hKC, stp_next HS.out, hR]; show (match fieldP KC [] with | none => none | some (v, r') => some ([a, b, d].set 2 v, r')) = _; rw [fieldP_nil hz])]
                have HZB := HRA.out.keep HB.out
                go_wp2_with (first
                  | ((with_reducible show wpList _ _ _ (Oper.mk (some 34) (.index _ _ _) _ _ _ _ :: _) _ _); refine wp_ix3 rfl _ _ rfl KA KB KC 2 (by decide) rfl rfl ?_)
                  | ((with_reducible show wpList _ _ _ (Oper.mk _ (.store _ _ _) _ _ _ _ :: _) _ _); refine st_ins (i := Ins.zero) (j := Ins.zero) HZB rfl _ _ rfl rfl rfl ?_; intro W9 b9 p9))
                obtain ⟨dsc, hd1, hd2⟩ := row_ins
                refine bodyPost_ret (resCT rfl _ _ W9 (g := w.heap.size) (v := Ins.zero.v) rfl (res_box _ b9 dsc hd1 hd2 size_ins)) rfl ?_
                rw [hin]
                exact ⟨Ins.zero, zero_ok, rfl, fun j hj => (by cases hj), put_facts (below_then HBA.out HB.out) (Nat.le_refl _) p9⟩
              · rw [hR] at HT
                obtain ⟨m', hm'⟩ : ∃ m', m = m' + 1 := ⟨r'.length, by rw [HM.out, hR]; rfl⟩
                subst hm'
                obtain ⟨ad2, rfl, hct, had2⟩ := HT.out 0 t rfl
                have hct' : wr.cell? ad2 = some (.string (str t)) := by simpa [Addr.add] using hct
                have hnn : ¬ ((m' : Int) + 1 = 0) := by omega
                have htl : t.length ≤ 100000 := HPL.out t (HOK.out.2.2.2 t (by rw [hR]; exact List.mem_cons_self ..))
                have hkb : 0 ≤ KC ∧ KC ≤ 5 := by rw [← hKC]; exact kC_bound k
                have CL : Hid (∀ w1, Calls Tryd.prog 50 #[.int .i64 KC] w1 fun e w' => e = .returned (.string (str (letB KC))) ∧ w1 = w') := Lib.hid fun w1 => pr_letter KC w1 hkb
                have CT : Hid (∀ w1, Calls Tryd.prog 49 #[.string (str t), .string (str (letB KC))] w1 fun e w' => e = .returned (.string (str (Lib.trimPrefix t (letB KC)))) ∧ w1 = w') := Lib.hid fun w1 => lib_Trim t _ w1
                have htm := trim_len t (letB KC)
                obtain ⟨u, hu⟩ : ∃ u, Lib.trimPrefix t (letB KC) = u := ⟨_, rfl⟩
                rw [hu] at CT htm
                have HRW : Hid (RdAt wr.drew) := Lib.hid ((HRD.out.grow (below_then HBA.out HB.out)).grow ((Below.refl _ _).drew))
                have HRR := Lib.hid hR
                have HHU := Lib.hid hu
                have HZ := Lib.hid hz
                have HTL := Lib.hid (show u.length ≤ 1000000 by omega)
                clear hR hu htl htm hkb hct
                by_cases hat : ∃ v, Lib.atoiAll u = .ok v
                · obtain ⟨v, hv⟩ := hat
                  have HVB : Hid (I64 v) := Lib.hid ((fun h => ⟨h.1, h.2⟩ : (-9223372036854775808 ≤ v ∧ v ≤ 9223372036854775807) → I64 v) (Lib.atoiAll_bounds hv))
                  have CA : Hid (∀ w1, Calls Tryd.prog 48 #[.string (str u)] w1 fun e w' => e = .returned (.tuple #[.int .i64 v, .nilIface]) ∧ Below w1.heap.size w1 w') := Lib.hid fun w1 => lib_AtoiOk u v w1 HTL.out hv
                  have HST : Hid (stp KA KB KC T 3 = some ([a, b, d].set 2 v, r')) := Lib.hid (by rw [stp_next HS.out, HRR.out]; show (match fieldP KC (t :: r') with | none => none | some (v, r') => some ([a, b, d].set 2 v, r')) = _; rw [fieldP_ok HZ.out (v := v) (by rw [HHU.out]; exact hv)])
                  have HHV := Lib.hid hv
                  clear hv
                  generalize str (letB KC) = sl at CL CT
                  generalize str u = su at CT CA
                  generalize str t = tt at CT hct'
                  go_upto_region 14 with ((with_reducible show wpList _ _ _ (Oper.mk (some 34) (.index _ _ _) _ _ _ _ :: _) _ _); refine wp_ix3 rfl _ _ rfl KA KB KC 2 (by decide) rfl rfl ?_)
                  have hS0 : wr.drew.cell? ad2 = some (.string tt) := cell_b ((Below.refl _ _).drew) hct'
                  go_region_held3 (fun w' => w'.cell? ad2 = some (.string tt)) (first | exact hS0 | exact cell_b hb5 hS0) (first
                    | (go_at_call 50; (with_reducible refine (CL.out _).mono ?_); rintro e1 w3 ⟨rfl, rfl⟩)
                    | (go_at_call 49; (with_reducible refine (CT.out _).mono ?_); rintro e2 w4 ⟨rfl, rfl⟩)
                    | (go_at_call 48; (with_reducible refine (CA.out _).mono ?_); rintro e3 w5 ⟨rfl, hb5⟩))
                  all_goals
                    have HV5 := Lib.hid (HV.out.drew.keep hb5)
                    have hx1 : w5.cell? ⟨gv, 2, none⟩ = some (.int .i64 d) := HV5.out.2.1 2
                    have hx2 : w5.frozen? ⟨gv, 2, none⟩ = false := HV5.out.2.2 2
                    have HB5 := Lib.hid (below_then HB.out.drew hb5)
                    have HT5 := Lib.hid (HT.out.drew.grow hb5)
                    clear hb5
                    go_wp2_with fail
                    go_roundw
                    case rel => exact ⟨3, a, b, v, r', _, m', c2 - 1, by omega, rfl, rfl, Lib.hid (by have := HM.out; rw [HRR.out] at this; simpa using this), by omega, Lib.hid ((HT5.out.tailL (c := c2) (by have := HM.out; rw [HRR.out] at this; omega)).past (ne_gv HGV.out HBB.out)), Lib.hid (lt_add HBB.out), HST, Lib.hid (StpOk.put (by have := HOK.out; rwa [HRR.out] at this) HVB.out), Lib.hid (HV5.out.set (k := 2) (u := .int .i64 v) (by show 2 < 3; omega)), Lib.hid (HB5.out.setCell (p := ⟨gv, 2, none⟩) HGV.out _)⟩
                    case measure => simp [intOf]
                · have hbad : ∀ v, Lib.atoiAll u ≠ .ok v := fun v hv => hat ⟨v, hv⟩
                  have CA : Hid (∀ w1, RdAt w1 → Calls Tryd.prog 48 #[.string (str u)] w1 (RetBad w1)) := Lib.hid fun w1 h1 => lib_AtoiBad u w1 h1 HTL.out hbad
                  have hin : readF s = none := by rw [HIN.out, stp_bad (j := 3) (by omega) (by rw [hKA, hKB, hKC, stp_next HS.out, HRR.out]; show (match fieldP KC (t :: r') with | none => none | some (v, r') => some ([a, b, d].set 2 v, r')) = _; rw [fieldP_bad HZ.out (by rw [HHU.out]; exact hbad)])]
                  clear hat hbad
                  generalize str (letB KC) = sl at CL CT
                  generalize str u = su at CT CA
                  generalize str t = tt at CT hct'
                  go_upto_region 14 with ((with_reducible show wpList _ _ _ (Oper.mk (some 34) (.index _ _ _) _ _ _ _ :: _) _ _); refine wp_ix3 rfl _ _ rfl KA KB KC 2 (by decide) rfl rfl ?_)
                  have hS0 : wr.drew.cell? ad2 = some (.string tt) := cell_b ((Below.refl _ _).drew) hct'
                  go_region_held3 (fun w' => w'.cell? ad2 = some (.string tt)) (first | exact hS0 | exact cell_b hb5 hS0) (first
                    | (go_at_call 50; (with_reducible refine (CL.out _).mono ?_); rintro e1 w3 ⟨rfl, rfl⟩)
                    | (go_at_call 49; (with_reducible refine (CT.out _).mono ?_); rintro e2 w4 ⟨rfl, rfl⟩)
                    | (go_at_call 48; (with_reducible refine (CA.out _ HRW.out).mono ?_); rintro e3 w5 ⟨x5, N5, rfl, hb5⟩))
                  all_goals
                    have HB5 := below_then HB.out.drew hb5
                    have HZB := HRA.out.keep HB5
                    go_wp2_with ((with_reducible show wpList _ _ _ (Oper.mk _ (.store _ _ _) _ _ _ _ :: _) _ _); refine st_ins (i := Ins.zero) (j := Ins.zero) HZB rfl _ _ rfl rfl rfl ?_; intro W9 b9 p9)
                    obtain ⟨dsc, hd1, hd2⟩ := row_ins
                    refine bodyPost_ret (resCT rfl _ _ W9 (g := w.heap.size) (v := Ins.zero.v) rfl (res_box _ b9 dsc hd1 hd2 size_ins)) rfl ?_
                    rw [hin]
                    exact ⟨Ins.zero, zero_ok, rfl, fun j hj => (by cases hj), put_facts (below_then HBA.out HB5) (Nat.le_refl _) p9⟩
          · -- all fields
            have hlo : ¬ (3 : Int) < 3 := by omega
            obtain ⟨i, hi⟩ : ∃ i : Ins, i = ⟨k, a, b, d⟩ := ⟨_, rfl⟩
            have hok : i.ok := by
              have h1 := HOK.out.2.1
              rw [hi]
              exact ⟨show I64 (k : Int) from ⟨by omega, by omega⟩, h1 a (by simp), h1 b (by simp), h1 d (by simp)⟩
            have HRI : Hid (readF s = if goodB s i = true then some i else none) := Lib.hid (by
              rw [HIN.out, stp_ins, hKA, hKB, hKC, HS.out, hi]; rfl)
            have HOI := Lib.hid hok
            have ev : i.v = .agg #[.int .i64 (k : Int), .int .i64 a, .int .i64 b, .int .i64 d] := by rw [hi]
            obtain ⟨x, hx⟩ : ∃ x, i.formed = x := ⟨_, rfl⟩
            have CF : Hid (∀ w1, RdAt w1 → Calls Tryd.prog 21 #[i.v] w1 fun e w' => e = .returned (.bool x) ∧ Below w1.heap.size w1 w') := Lib.hid fun w1 h1 => by
              have := pr_formed i w1 h1.pr.forms
              rw [hx] at this; exact this
            have CLI : Hid (x = true → ∀ w1, RdAt w1 → Calls Tryd.prog 33 #[i.v] w1 fun e w' => e = .returned (.string (str (lineB i))) ∧ Below w1.heap.size w1 w') := Lib.hid fun hxt w1 h1 => pr_line i w1 h1.pr HOI.out (hx.trans hxt)
            have HG : Hid (x = true → ((str (lineB i)).toList == (str s).toList) = goodB s i) := Lib.hid fun hxt => by
              rw [ByteArray.toList_eq, ByteArray.toList_eq]
              exact good_list (hx.trans hxt)
            have HX := Lib.hid hx
            have HEI := Lib.hid hi
            have x0 : wr.cell? ⟨gv, 0, none⟩ = some (.int .i64 a) := HV.out.2.1 0
            have x1 : wr.cell? ⟨gv, 1, none⟩ = some (.int .i64 b) := HV.out.2.1 1
            have x2 : wr.cell? ⟨gv, 2, none⟩ = some (.int .i64 d) := HV.out.2.1 2
            clear hi hok hx
            go_upto_region 21 with ((with_reducible show wpList _ _ _ (Oper.mk _ (.store _ _ _) _ _ _ _ :: _) _ _); refine st_ins (w := wr.alloc (.cells Ins.zero.cells.toArray 50)) (g := wr.heap.size) (i := Ins.zero) (j := i) (Box.new rfl) rfl _ _ rfl rfl ev.symm ?_; intro W4 b4 p4)
            have hb4 := put_facts ((Below.refl wr.heap.size wr).alloc (Nat.le_refl _) (.cells Ins.zero.cells.toArray 50)) (Nat.le_refl _) p4
            have HB4 := Lib.hid (below_then HB.out hb4)
            have HI4 := Lib.hid b4
            have HRW : Hid (RdAt W4) := Lib.hid (HRD.out.grow (below_then HBA.out HB4.out))
            generalize wr.heap.size = g13 at HI4 ⊢
            clear x0 x1 x2 b4 p4 hb4 ev
            cases x with
            | false =>
              have hin : readF s = none := by rw [HRI.out, if_neg]; intro h; have := (good_iff.1 h).1; rw [HX.out] at this; cases this
              go_wp2_with (first
                | ((with_reducible show wpList _ _ _ (Oper.mk (some 68) (.load _ _) _ _ _ _ :: _) _ _); refine ld_ins HI4.out rfl _ rfl rfl ?_)
                | (go_at_call 21; (with_reducible refine (CF.out _ HRW.out).mono ?_); rintro e6 w6 ⟨rfl, hb6⟩)
                | ((with_reducible show wpList _ _ _ (Oper.mk _ (.store _ _ _) _ _ _ _ :: _) _ _); refine st_ins (i := Ins.zero) (j := Ins.zero) (HRA.out.keep (below_then HB4.out hb6)) rfl _ _ rfl rfl rfl ?_; intro W9 b9 p9))
              obtain ⟨dsc, hd1, hd2⟩ := row_ins
              refine bodyPost_ret (resCT rfl _ _ W9 (g := w.heap.size) (v := Ins.zero.v) rfl (res_box _ b9 dsc hd1 hd2 size_ins)) rfl ?_
              rw [hin]
              exact ⟨Ins.zero, zero_ok, rfl, fun j hj => (by cases hj), put_facts (below_then HBA.out (below_then HB4.out hb6)) (Nat.le_refl _) p9⟩
            | true =>
              have HG' := HG.out rfl
              obtain ⟨Y, hY⟩ : ∃ Y, goodB s i = Y := ⟨_, rfl⟩
              rw [hY] at HG'
              have CLJ := Lib.hid (CLI.out rfl)
              have ev2 : i.v = .agg #[.int .i64 i.op, .int .i64 i.a, .int .i64 i.b, .int .i64 i.imm] := rfl
              rw [ev2] at CLJ
              generalize str (lineB i) = sl at CLJ HG'
              generalize hss : str s = ss at HG' ⊢
              cases Y with
              | false =>
                have hin : readF s = none := by rw [HRI.out, hY]; rfl
                go_wp2_with (first
                  | ((with_reducible show wpList _ _ _ (Oper.mk (some 68) (.load _ _) _ _ _ _ :: _) _ _); refine ld_ins HI4.out rfl _ rfl rfl ?_)
                  | (go_at_call 21; (with_reducible refine (CF.out _ HRW.out).mono ?_); rintro e6 w6 ⟨rfl, hb6⟩; obtain ⟨z0, z1, z2, z3⟩ := (HI4.out.keep hb6).c4)
                  | (go_at_call 33; (with_reducible refine (CLJ.out _ (HRW.out.grow hb6)).mono ?_); rintro e7 w7 ⟨rfl, hb7⟩)
                  | ((with_reducible show wpList _ _ _ (Oper.mk _ (.store _ _ _) _ _ _ _ :: _) _ _); refine st_ins (i := Ins.zero) (j := Ins.zero) (HRA.out.keep (below_then (below_then HB4.out hb6) hb7)) rfl _ _ rfl rfl rfl ?_; intro W9 b9 p9))
                obtain ⟨dsc, hd1, hd2⟩ := row_ins
                refine bodyPost_ret (resCT rfl _ _ W9 (g := w.heap.size) (v := Ins.zero.v) rfl (res_box _ b9 dsc hd1 hd2 size_ins)) rfl ?_
                rw [hin]
                exact ⟨Ins.zero, zero_ok, rfl, fun j hj => (by cases hj), put_facts (below_then HBA.out (below_then (below_then HB4.out hb6) hb7)) (Nat.le_refl _) p9⟩
              | true =>
                have hin : readF s = some i := by rw [HRI.out, hY]; rfl
                go_wp2_with (first
                  | ((with_reducible show wpList _ _ _ (Oper.mk (some 68) (.load _ _) _ _ _ _ :: _) _ _); refine ld_ins HI4.out rfl _ rfl rfl ?_)
                  | ((with_reducible show wpList _ _ _ (Oper.mk (some 76) (.load _ _) _ _ _ _ :: _) _ _); refine ld_ins ((HI4.out.keep hb6).keep hb7) rfl _ rfl rfl ?_)
                  | (go_at_call 21; (with_reducible refine (CF.out _ HRW.out).mono ?_); rintro e6 w6 ⟨rfl, hb6⟩; obtain ⟨z0, z1, z2, z3⟩ := (HI4.out.keep hb6).c4)
                  | (go_at_call 33; (with_reducible refine (CLJ.out _ (HRW.out.grow hb6)).mono ?_); rintro e7 w7 ⟨rfl, hb7⟩)
                  | ((with_reducible show wpList _ _ _ (Oper.mk _ (.store _ _ _) _ _ _ _ :: _) _ _); refine st_ins (i := Ins.zero) (j := i) (HRA.out.keep (below_then (below_then HB4.out hb6) hb7)) rfl _ _ rfl rfl rfl ?_; intro W9 b9 p9))
                obtain ⟨dsc, hd1, hd2⟩ := row_ins
                refine bodyPost_ret (resCT rfl _ _ W9 (g := w.heap.size) (v := i.v) rfl (res_box _ b9 dsc hd1 hd2 size_ins)) rfl ?_
                rw [hin]
                exact ⟨i, HOI.out, rfl, fun j hj => (by injection hj), put_facts (below_then HBA.out (below_then (below_then HB4.out hb6) hb7)) (Nat.le_refl _) p9⟩
      · have hqs : (so.toList == sp.toList) = false := by
          rw [← hso, ← hsp, ByteArray.toList_eq, ByteArray.toList_eq]
          exact beq_eq_false_iff_ne.2 heq
        go_region_held3 (fun w' => w'.cell? ⟨gf, 0, none⟩ = some (.string so) ∧ w'.cell? ad = some (.string sp)) (exact hS0) (fail)
        all_goals
          go_wp2_with fail
          go_roundw
          case rel => exact ⟨k + 1, by omega, rfl, Lib.hid fun j hj => by rcases Nat.lt_succ_iff_lt_or_eq.1 hj with h | h; (· exact HNO.out j h); (· subst h; exact heq), Lib.hid HBX.out.drew⟩
          case measure => simp [intOf]; omega
    · obtain rfl : k = 12 := by omega
      have hno := opOf_none HNO.out
      have hin := read_no HPT.out hno
      have HR2 := HRA.out.keep HBK.out
      go_wp2_with ((with_reducible show wpList _ _ _ (Oper.mk _ (.store _ _ _) _ _ _ _ :: _) _ _); refine st_ins (i := Ins.zero) (j := Ins.zero) HR2 rfl _ _ rfl rfl rfl ?_; intro W2 b2 p2)
      obtain ⟨dsc, hd1, hd2⟩ := row_ins
      refine bodyPost_ret (resCT rfl _ _ W2 (g := w.heap.size) (v := Ins.zero.v) rfl (res_box _ b2 dsc hd1 hd2 size_ins)) rfl ?_
      rw [hin]
      exact ⟨Ins.zero, zero_ok, rfl, fun j hj => (by cases hj), put_facts (below_then HBA.out HBK.out) (Nat.le_refl _) p2⟩
end Go.Proofs.YtpdpcgeeneajjaaDoor
