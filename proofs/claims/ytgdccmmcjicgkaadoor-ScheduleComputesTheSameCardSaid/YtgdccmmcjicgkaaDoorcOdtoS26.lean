/- Several texts in one: Od Oi E30 E32 S2 S3 S26. -/
import Derived.Test.YtgdccmmcjicgkaaDoorcE19toOn
import Derived.Test.YtgdccmmcjicgkaaDoorcE24
import Derived.Test.YtgdccmmcjicgkaaDoorcE5toE7
import Derived.Deep.CutBlock
import Derived.Deep.DeepCutAuto
import Derived.Test.YtgdccmmcjicgkaaDoorcCtoE17
import Derived.Test.YtgdccmmcjicgkaaDoorcE13toE16
set_option linter.unusedVariables false
set_option linter.unusedSimpArgs false
section
set_option maxRecDepth 100000
namespace Go.Proofs.YtgdccmmcjicgkaaDoor
open Go.Joins Go.ChangeShapes Go.WideShapes Go.RowKit Go.Deep
structure DraftA where
  (dn cn : Int)
  (RA OA FA : Option Addr)
  (rc oc fc : Nat)
  (rs os fs : List Int)
def DraftOk (w : World) (u : DraftA) : Prop := (Ints w u.RA u.rs ∧ Ints w u.OA u.os ∧ Ints w u.FA u.fs) ∧ u.rs.length ≤ 9223372036854775807 ∧ u.os.length ≤ 9223372036854775807 ∧ u.fs.length ≤ 9223372036854775807
theorem DraftOk.grow {w w' : World} {u : DraftA} (h : DraftOk w u) (hb : Below w.heap.size w w') : DraftOk w' u := ⟨⟨h.1.1.grow hb, h.1.2.1.grow hb, h.1.2.2.grow hb⟩, h.2⟩
theorem array5 {α : Type} {cs : Array α} (h : cs.size = 5) : ∃ c0 c1 c2 c3 c4, cs = #[c0, c1, c2, c3, c4] := by
  obtain ⟨l⟩ := cs
  match l, h with
  | [c0, c1, c2, c3, c4], _ => exact ⟨c0, c1, c2, c3, c4, rfl⟩
abbrev DraftA.v (u : DraftA) : Value := dftV u.dn u.cn u.RA u.OA u.FA u.rs.length u.rc u.os.length u.oc u.fs.length u.fc
def DraftA.d (u : DraftA) (most : Nat) : PrgD := prgF u.dn u.cn u.rs u.os u.fs most
theorem open_Draft {H : Type} {enc : TypeId × Value → H} {w : World} {base : Nat} {r : Reach} {b0 : Nat} {v : Value} {d : DataW H} {p : List MemPlace}
    (hv : Value.okWide Tryd.prog w r b0 38 v) (h : DataW.Trod enc Tryd.prog w base (fun _ => true) true 38 v d p) :
    ∃ u : DraftA, v = u.v ∧ DraftOk w u := by
  obtain ⟨cs, rfl, hsz⟩ := okWide_struct Tryd.underlying38 hv
  obtain ⟨v0, v1, v2, v3, v4, rfl⟩ := array5 (hsz.trans (by kernel_rfl))
  obtain ⟨fuel, hf⟩ := h
  obtain ⟨xs, n, _, _, _, hlen, hf⟩ := DataW.trod_struct Tryd.underlying38 hf
  have ki : Tryd.prog.cellsOf 3 = 1 := by kernel_rfl
  have ks : Tryd.prog.cellsOf 32 = 1 := by kernel_rfl
  have h0 := hf 0 _ rfl
  have h1 := hf 1 _ rfl
  have h2 := hf 2 _ rfl
  have h3 := hf 3 _ rfl
  have h4 := hf 4 _ rfl
  obtain ⟨y0, q0⟩ := get_lt hlen (i := 0) (by decide)
  obtain ⟨y1, q1⟩ := get_lt hlen (i := 1) (by decide)
  obtain ⟨y2, q2⟩ := get_lt hlen (i := 2) (by decide)
  obtain ⟨y3, q3⟩ := get_lt hlen (i := 3) (by decide)
  obtain ⟨y4, q4⟩ := get_lt hlen (i := 4) (by decide)
  rw [q0] at h0
  rw [q1] at h1
  rw [q2] at h2
  rw [q3] at h3
  rw [q4] at h4
  clear hf q0 q1 q2 q3 q4
  simp [ki, ks, Value.cells] at h0 h1 h2 h3 h4
  obtain ⟨dn, g0, _, w0⟩ := DataW.trod_int Tryd.underlying3 h0
  obtain ⟨cn, g1, _, w1⟩ := DataW.trod_int Tryd.underlying3 h1
  obtain ⟨u2, rfl, f2, l2⟩ := trod_Ints h2
  obtain ⟨u3, rfl, f3, l3⟩ := trod_Ints h3
  obtain ⟨u4, rfl, f4, l4⟩ := trod_Ints h4
  simp at g0 g1
  subst g0 g1
  exact ⟨⟨dn, cn, u2.1, u3.1, u4.1, u2.2.1, u3.2.1, u4.2.1, u2.2.2, u3.2.2, u4.2.2⟩, rfl, ⟨f2, f3, f4⟩, l2, l3, l4⟩
theorem dr_Code (u : DraftA) (most : Nat) (w : World) (h : DraftOk w u) (hm : most ≤ 1000) :
    Calls Tryd.prog 21 #[u.v, .int .i64 most] w fun e w' => ∃ (p : PrgA), p.d = u.d most ∧ e = .returned (.agg #[.int .i64 p.d.d0, .int .i64 p.d.d1, .int .i64 p.d.d2, .int .i64 p.d.d3, .int .i64 p.d.c0, .int .i64 p.d.c1, .int .i64 p.d.c2, .int .i64 p.d.c3, .slice p.RA p.d.rg.length p.rc, .slice p.CA p.d.code.length p.cc]) ∧ PrgAt w' p ∧ Below w.heap.size w w' := by
  refine (dr_Program u.dn u.cn u.RA u.OA u.FA u.rs.length u.rc u.os.length u.oc u.fs.length u.fc most u.rs u.os u.fs w h.1.1 h.1.2.1 h.1.2.2 rfl rfl rfl h.2.1 h.2.2.1 h.2.2.2 hm).mono fun e w' hr => ?_
  obtain ⟨p, h1, h2, h3, h4⟩ := hr
  exact ⟨p, h1, h2, h3, h4⟩
end Go.Proofs.YtgdccmmcjicgkaaDoor
end
section
set_option maxRecDepth 100000
namespace Go.Proofs.YtgdccmmcjicgkaaDoor
open Go.Joins Go.ChangeShapes Go.WideShapes Go.RowKit Go.Deep
instance : Inhabited Ins := ⟨Ins.zero⟩
end Go.Proofs.YtgdccmmcjicgkaaDoor
end
section
namespace Go.Proofs.YtgdccmmcjicgkaaDoor
open Go.RowKit
theorem prgF_code_pos (dn cn : Int) (rs os fs : List Int) (most : Nat) : 1 ≤ (prgF dn cn rs os fs most).code.length ∧ (prgF dn cn rs os fs most).code.length ≤ most + 1 := by
  unfold prgF
  simp [codeK_length]
  omega
theorem size_dft : (Tryd.prog.info? 38).map (·.size) = some 5 := by kernel_rfl
theorem row_dft : ∃ d, Tryd.prog.underlying 38 = some d ∧ d.isRow = true := ⟨_, Tryd.underlying38, rfl⟩
def DraftA.lst (u : DraftA) : List Value := [.int .i64 u.dn, .int .i64 u.cn, .slice u.RA u.rs.length u.rc, .slice u.OA u.os.length u.oc, .slice u.FA u.fs.length u.fc]
theorem ld_dft {ops : Array Oper} {rest : List Oper} {o : Oper} {a : Act} {Q : Exit → Act → World → Prop} {w : World} {u : DraftA} {g : Nat} (hb : Box w g u.lst) (hgd : o.guard = none) (x : Operand) (ho : o.op = .load 38 x) (hx : a.eval x = .pointer (some ⟨g, 0, none⟩)) (h : wpList Tryd.prog ops Q rest (a.put o.dst u.v) w) : wpList Tryd.prog ops Q (o :: rest) a w := by
  obtain ⟨d, h1, h2⟩ := row_dft
  exact wp_ld hgd _ x ho g 0 hx hb u.lst (fun j v hj => by rw [Nat.zero_add]; exact hj) d h1 h2 size_dft h
theorem OwnIR.some {base : Nat} {w : World} {v : Value} {l : List Ins} (h : OwnIR base w v l) (hl : 1 ≤ l.length) : ∃ g c, v = .slice (some ⟨g, 0, none⟩) l.length c := by
  obtain ⟨A, c, rfl, -⟩ := own_form h.1
  obtain ⟨i, hi⟩ : ∃ i, l[0]? = Option.some i := ⟨_, List.getElem?_eq_getElem (by omega)⟩
  obtain ⟨g, e0, -, -⟩ := own_cells h.1 (k := 0 * 4 + 0) (v := .int .i64 i.op) (by rw [flatI_get hi (by omega)]; rfl)
  subst e0
  exact ⟨g, c, rfl⟩
end Go.Proofs.YtgdccmmcjicgkaaDoor
end
section
namespace Go.Proofs.YtgdccmmcjicgkaaDoor
open Go.RowKit
theorem insF_formed {rg : List (Int × Int)} {op a b y : Int} (ho : 1 ≤ op ∧ op ≤ 11) (hy : -8388608 ≤ y ∧ y ≤ 8388608) (hg : rg.length ≤ 3) (h6 : ∀ x ∈ rg, 1 ≤ x.2 ∧ x.2 ≤ 6) : (insF rg op a b y).formed = true := by
  have hc : op = 1 ∨ op = 2 ∨ op = 3 ∨ op = 4 ∨ op = 5 ∨ op = 6 ∨ op = 7 ∨ op = 8 ∨ op = 9 ∨ op = 10 ∨ op = 11 := by omega
  rcases hc with rfl | rfl | rfl | rfl | rfl | rfl | rfl | rfl | rfl | rfl | rfl
  · rw [insF_1]; rfl
  · rw [insF_2]; simp [Ins.formed, kA, kB, kC, fitsK]; omega
  · rw [insF_3]; simp [Ins.formed, kA, kB, kC, fitsK]; omega
  · by_cases h0 : rg.length = 0
    · rw [insF_40 _ _ _ h0]; rfl
    · have e0 := Int.emod_nonneg a (show (rg.length : Int) ≠ 0 by omega)
      have e1 := Int.emod_lt_of_pos a (show (0 : Int) < rg.length by omega)
      obtain ⟨m, hm⟩ := Int.eq_ofNat_of_zero_le e0
      obtain ⟨x, hx⟩ : ∃ x, rg[m]? = some x := ⟨_, List.getElem?_eq_getElem (by omega)⟩
      rw [insF_4 rfl (by omega) hm hx]
      have := h6 x (List.mem_of_getElem? hx)
      have := Int.emod_nonneg (a / 10) (show x.2 ≠ 0 by omega)
      have := Int.emod_lt_of_pos (a / 10) (show 0 < x.2 by omega)
      simp [Ins.formed, kA, kB, kC, fitsK]; omega
  · rw [insF_5]; simp [Ins.formed, kA, kB, kC, fitsK]; omega
  · rw [insF_6]; simp [Ins.formed, kA, kB, kC, fitsK]; omega
  · rw [insF_7]; simp [Ins.formed, kA, kB, kC, fitsK]; omega
  · by_cases h0 : rg.length = 0
    · rw [insF_80 _ _ _ h0]; rfl
    · have e0 := Int.emod_nonneg a (show (rg.length : Int) ≠ 0 by omega)
      have e1 := Int.emod_lt_of_pos a (show (0 : Int) < rg.length by omega)
      obtain ⟨m, hm⟩ := Int.eq_ofNat_of_zero_le e0
      rw [insF_8 rfl (by omega) hm]
      simp [Ins.formed, kA, kB, kC, fitsK]; omega
  · rw [insF_9]; simp [Ins.formed, kA, kB, kC, fitsK]; omega
  · rw [insF_10]; simp [Ins.formed, kA, kB, kC, fitsK]; omega
  · rw [insF_11]; simp [Ins.formed, kA, kB, kC, fitsK]; omega
theorem ringsF_six (rs : List Int) (n : Nat) : ∀ x ∈ ringsF rs n, 1 ≤ x.2 ∧ x.2 ≤ 6 := fun x hx => by
  unfold ringsF at hx
  obtain ⟨k, -, rfl⟩ := List.mem_map.1 hx
  have := within_in (m := 6) (by omega) (rs.getD k 0)
  show 1 ≤ 1 + _ ∧ 1 + _ ≤ 6
  omega
theorem wordF_23 (b f r o x : Int) : -8388608 ≤ wordF b f r o x ∧ wordF b f r o x ≤ 8388608 := by
  obtain ⟨q1, q2, q3, q4⟩ := low_high b f r o
  obtain ⟨g1, g2⟩ := within_in (m := highW b f r o - lowW b f r o + 1) (by omega) (wrap64 (x - lowW b f r o))
  unfold wordF
  omega
theorem prgF_formed (dn cn : Int) (rs os fs : List Int) (most : Nat) : ∀ i ∈ (prgF dn cn rs os fs most).code, i.formed = true := fun i hi => by
  unfold prgF at hi
  simp only at hi
  rcases List.mem_append.1 hi with h | h
  · unfold codeK at h
    obtain ⟨k, -, rfl⟩ := List.mem_map.1 h
    unfold insK
    have := within_in (m := 11) (by omega) (os.getD k 0)
    exact insF_formed (by omega) (wordF_23 _ _ _ _ _) (by rw [ringsF_length]; omega) (ringsF_six _ _)
  · rw [List.mem_singleton.1 h]; rfl
theorem Tr.len {x y : List Ins} (h : Tr x y) : y.length = x.length := h.perm.length_eq.symm
theorem Tr.fine {x y : List Ins} (h : Tr x y) (hf : fineF x = true) : fineF y = true := by
  have := fineF_len hf
  have hl := h.len
  exact gr_fine hf (by omega) (by omega) fun i hi => h.perm.mem_iff.2 hi
end Go.Proofs.YtgdccmmcjicgkaaDoor
end
section
namespace Go.Proofs.YtgdccmmcjicgkaaDoor
open Go.RowKit
theorem fits_wordF {b f r o : Int} (h : okW b f r o = true) (x : Int) : fitsW b f r o (wordF b f r o x) = true := by
  obtain ⟨q1, q2, q3, q4⟩ := low_high b f r o
  obtain ⟨g1, g2⟩ := within_in (m := highW b f r o - lowW b f r o + 1) (by omega) (wrap64 (x - lowW b f r o))
  unfold fitsW
  rw [h, Bool.true_and, inB_iff]
  unfold wordF
  omega
theorem ringsF_get {rs : List Int} {n k : Nat} (hk : k < n) : (ringsF rs n).getD k (0, 0) = (20 + 10 * (k : Int), 1 + withinF (rs.getD k 0) 6) := by
  rw [List.getD_eq_getElem?_getD]
  unfold ringsF
  rw [List.getElem?_map, List.getElem?_range hk]; rfl
theorem ringsF_take {rs : List Int} {n k : Nat} (hk : k ≤ n) : (ringsF rs n).take k = ringsF rs k := by
  unfold ringsF
  rw [← List.map_take, List.take_range, Nat.min_eq_left hk]
theorem ringsF_mem {rs : List Int} {n : Nat} {y : Int × Int} (h : y ∈ ringsF rs n) : ∃ k, k < n ∧ y.1 = 20 + 10 * (k : Int) ∧ 1 ≤ y.2 ∧ y.2 ≤ 6 := by
  unfold ringsF at h
  obtain ⟨k, hk, rfl⟩ := List.mem_map.1 h
  have := within_in (m := 6) (by omega) (rs.getD k 0)
  exact ⟨k, List.mem_range.1 hk, rfl, by show 1 ≤ 1 + _; omega, by show 1 + _ ≤ 6; omega⟩
theorem ringsF_ok (rs : List Int) (n : Nat) (hn : n ≤ 3) : ∀ k, k ≤ n → ringsK (ringsF rs n) k = true
  | 0, _ => rfl
  | k + 1, hk => by
    unfold ringsK
    rw [ringsF_ok rs n hn k (by omega), ringsF_get (show k < n by omega), ringsF_take (show k ≤ n by omega)]
    have := within_in (m := 6) (by omega) (rs.getD k 0)
    rw [ringIn_iff.2 (by simp only; omega), Bool.true_and, Bool.true_and, Bool.not_eq_true', Bool.eq_false_iff]
    intro h
    obtain ⟨y, hy, hc⟩ := List.any_eq_true.1 h
    obtain ⟨j, hj, e1, e2, e3⟩ := ringsF_mem hy
    rw [clash_iff] at hc
    simp only at hc
    omega
theorem ringsF_valid (rs : List Int) (n : Nat) (hn : n ≤ 3) : ringsB (ringsF rs n) = true := by
  unfold ringsB
  rw [ringsF_length, ringsF_ok rs n hn n (Nat.le_refl _), decide_eq_true (by omega)]; rfl
theorem ringsF_unused (rs : List Int) (n : Nat) {m : Int} (h : m < 20) : usdB (ringsF rs n) m = false := by
  rw [Bool.eq_false_iff]
  intro h2
  obtain ⟨y, hy, hc⟩ := List.any_eq_true.1 h2
  obtain ⟨j, hj, e1, e2, e3⟩ := ringsF_mem hy
  rw [inR_iff] at hc
  omega
theorem insF_fit {d : PrgD} {op a b y : Int} (ho : 1 ≤ op ∧ op ≤ 11) (ha : 0 ≤ a ∧ a < 1000) (hb : 0 ≤ b) (hy : fitsW d.c0 d.c1 d.c2 d.c3 y = true) (h6 : ∀ x ∈ d.rg, 1 ≤ x.2 ∧ x.2 ≤ 6) (hu : ∀ m, m < 20 → usdB d.rg m = false) :
    fitI d (insF d.rg op a b y) = true ∧ (insF d.rg op a b y).op ≠ 0 := by
  have hc : op = 1 ∨ op = 2 ∨ op = 3 ∨ op = 4 ∨ op = 5 ∨ op = 6 ∨ op = 7 ∨ op = 8 ∨ op = 9 ∨ op = 10 ∨ op = 11 := by omega
  rcases hc with rfl | rfl | rfl | rfl | rfl | rfl | rfl | rfl | rfl | rfl | rfl
  · rw [insF_1]; simp [fitI]
  · rw [insF_2]; simp [fitI, hy]
  · rw [insF_3]; simp [fitI, hy, hu (a % 10) (by omega)]
  · by_cases h0 : d.rg.length = 0
    · rw [insF_40 _ _ _ h0]; simp [fitI]
    · have e0 := Int.emod_nonneg a (show (d.rg.length : Int) ≠ 0 by omega)
      have e1 := Int.emod_lt_of_pos a (show (0 : Int) < d.rg.length by omega)
      obtain ⟨m, hm⟩ := Int.eq_ofNat_of_zero_le e0
      obtain ⟨x, hx⟩ : ∃ x, d.rg[m]? = some x := ⟨_, List.getElem?_eq_getElem (by omega)⟩
      rw [insF_4 rfl (by omega) hm hx]
      have := h6 x (List.mem_of_getElem? hx)
      have := Int.emod_nonneg (a / 10) (show x.2 ≠ 0 by omega)
      have := Int.emod_lt_of_pos (a / 10) (show 0 < x.2 by omega)
      have hml : m < d.rg.length := by omega
      simp [fitI, hy, List.getD_eq_getElem?_getD, hx]
      omega
  · rw [insF_5]; simp [fitI]
  · rw [insF_6]; simp [fitI, hu (b % 10) (by omega)]
  · rw [insF_7]; simp [fitI, hu (b % 10) (by omega)]
  · by_cases h0 : d.rg.length = 0
    · rw [insF_80 _ _ _ h0]; simp [fitI]
    · have e0 := Int.emod_nonneg a (show (d.rg.length : Int) ≠ 0 by omega)
      have e1 := Int.emod_lt_of_pos a (show (0 : Int) < d.rg.length by omega)
      obtain ⟨m, hm⟩ := Int.eq_ofNat_of_zero_le e0
      rw [insF_8 rfl (by omega) hm]
      simp [fitI]; omega
  · rw [insF_9]; simp [fitI]
  · rw [insF_10]; simp [fitI]
  · rw [insF_11]; simp [fitI]
theorem prgF_valid (dn cn : Int) (rs os fs : List Int) (most : Nat) (hm : most ≤ 511) : validB (prgF dn cn rs os fs most) = true := by
  have hfo := prgF_formed dn cn rs os fs most
  have hp := prgF_code_pos dn cn rs os fs most
  have h1 : okWD (prgF dn cn rs os fs most) = true := by
    unfold okWD prgF
    simp only
    rw [mkWD_ok, mkWC_ok]; rfl
  have h2 : ringsB (prgF dn cn rs os fs most).rg = true := ringsF_valid rs _ (by omega)
  unfold validB
  rw [h1, h2, inB_iff.2 (by omega), Bool.true_and, Bool.true_and, Bool.true_and]
  refine List.all_eq_true.2 fun j hj => ?_
  have hj := List.mem_range.1 hj
  unfold goodAt suitB
  have hmem : (prgF dn cn rs os fs most).code.getD j Ins.zero ∈ (prgF dn cn rs os fs most).code := by
    rw [List.getD_eq_getElem?_getD, List.getElem?_eq_getElem hj]
    exact List.getElem_mem hj
  rw [hfo _ hmem, Bool.true_and]
  have hlen : (prgF dn cn rs os fs most).code.length = min os.length most + 1 := by
    unfold prgF
    simp only
    rw [List.length_append, codeK_length]; rfl
  by_cases hl : j < min os.length most
  · have e : (prgF dn cn rs os fs most).code.getD j Ins.zero = insK (mkW cn 6 9 1).1 (mkW cn 6 9 1).2.1 (mkW cn 6 9 1).2.2.1 (mkW cn 6 9 1).2.2.2 (ringsF rs (min rs.length 3)) os fs j := by
      unfold prgF
      simp only
      rw [List.getD_eq_getElem?_getD, List.getElem?_append_left (by rw [codeK_length]; exact hl)]
      unfold codeK
      rw [List.getElem?_map, List.getElem?_range hl]; rfl
    rw [e]
    have hw := within_in (m := 11) (by omega) (os.getD j 0)
    have hw1 := within_in (m := 1000) (by omega) (atF fs (2 * (j : Int)))
    have hw2 := within_in (m := 1048576) (by omega) (atF fs (2 * (j : Int) + 1))
    have hh := insF_fit (d := prgF dn cn rs os fs most) (op := 1 + withinF (os.getD j 0) 11) (a := withinF (atF fs (2 * (j : Int))) 1000) (b := withinF (atF fs (2 * (j : Int) + 1)) 1048576) (y := wordF (mkW cn 6 9 1).1 (mkW cn 6 9 1).2.1 (mkW cn 6 9 1).2.2.1 (mkW cn 6 9 1).2.2.2 (withinF (atF fs (2 * (j : Int) + 1)) 1048576 - 524288)) (by omega) hw1 hw2.1 (fits_wordF (mkWC_ok cn) _) (ringsF_six rs _) (fun m hm => ringsF_unused rs _ hm)
    unfold insK
    have h3 : (prgF dn cn rs os fs most).rg = ringsF rs (min rs.length 3) := rfl
    rw [h3] at hh
    rw [hh.1, Bool.true_and, decide_eq_false hh.2, hlen, decide_eq_false (by omega)]; rfl
  · have e : (prgF dn cn rs os fs most).code.getD j Ins.zero = ⟨0, 0, 0, 0⟩ := by
      have hj2 : j = min os.length most := by omega
      unfold prgF
      simp only
      rw [List.getD_eq_getElem?_getD, List.getElem?_append_right (by rw [codeK_length]; omega), codeK_length, hj2, Nat.sub_self]; rfl
    rw [e, hlen, decide_eq_true (show j + 1 = min os.length most + 1 by omega)]
    simp [fitI]
end Go.Proofs.YtgdccmmcjicgkaaDoor
end
section
namespace Go.Proofs.YtgdccmmcjicgkaaDoor
open Go.RowKit
structure Mac where
  (regs mem heads : List Int)
  (cyc stl : Int)
structure Smp where
  (regs mem heads : List Int)
  (sum out : Int)
  (ov : Bool)
def rgA (d : PrgD) (a : Int) : Int × Int := d.rg.getD a.toNat (0, 0)
def plc (d : PrgD) (hs : List Int) (a b : Int) : Int := (rgA d a).1 + (hs.getD a.toNat 0 + b) % (rgA d a).2
def redD (d : PrgD) (v : Int) : Int := reduceW d.d0 d.d1 d.d2 d.d3 v
def fitD (d : PrgD) (v : Int) : Bool := fitsW d.d0 d.d1 d.d2 d.d3 v
def shD (d : PrgD) (v : Int) : Int := shiftF v d.c1 d.d2
def stepM (d : PrgD) (x : Int) (s : Smp) (i : Ins) : Smp :=
  match i.op.toNat with
  | 1 => { s with sum := 0 }
  | 2 => { s with sum := wrap64 (s.sum + s.regs.getD i.a.toNat 0 * i.imm) }
  | 3 => { s with sum := wrap64 (s.sum + s.mem.getD i.a.toNat 0 * i.imm) }
  | 4 => { s with sum := wrap64 (s.sum + s.mem.getD (plc d s.heads i.a i.b).toNat 0 * i.imm) }
  | 5 => { s with regs := s.regs.set i.a.toNat (redD d (shD d s.sum)), ov := s.ov || !fitD d (shD d s.sum) }
  | 6 => { s with regs := s.regs.set i.a.toNat (s.mem.getD i.b.toNat 0) }
  | 7 => { s with mem := s.mem.set i.b.toNat (s.regs.getD i.a.toNat 0) }
  | 8 => { s with heads := s.heads.set i.a.toNat ((s.heads.getD i.a.toNat 0 + (rgA d i.a).2 - 1) % (rgA d i.a).2),
                  mem := s.mem.set (plc d (s.heads.set i.a.toNat ((s.heads.getD i.a.toNat 0 + (rgA d i.a).2 - 1) % (rgA d i.a).2)) i.a 0).toNat (s.regs.getD i.b.toNat 0) }
  | 9 => { s with regs := s.regs.set i.a.toNat x }
  | 10 => { s with out := s.regs.getD i.a.toNat 0 }
  | 11 => { s with regs := s.regs.set i.a.toNat (s.regs.getD i.b.toNat 0) }
  | _ => s
def smp0 (m : Mac) : Smp := ⟨m.regs, m.mem, m.heads, 0, 0, false⟩
def sampF (d : PrgD) (x : Int) (m : Mac) (l : List Ins) : Smp := l.foldl (stepM d x) (smp0 m)
theorem sampF_snoc (d : PrgD) (x : Int) (m : Mac) (l : List Ins) (i : Ins) : sampF d x m (l ++ [i]) = stepM d x (sampF d x m l) i := by unfold sampF; rw [List.foldl_append]; rfl
def macN (d : PrgD) (x : Int) (m : Mac) : Mac := ⟨(sampF d x m d.code).regs, (sampF d x m d.code).mem, (sampF d x m d.code).heads, m.cyc + cycF d.code, m.stl + stlF d.code⟩
def runM (d : PrgD) (m : Mac) (xs : List Int) : Mac := xs.foldl (fun m x => macN d x m) m
def runO (d : PrgD) : Mac → List Int → List Int
  | _, [] => []
  | m, x :: xs => (sampF d x m d.code).out :: runO d (macN d x m) xs
def ovN (d : PrgD) (x : Int) (m : Mac) : Int := if (sampF d x m d.code).ov then 1 else 0
def runV (d : PrgD) : Mac → List Int → Int
  | _, [] => 0
  | m, x :: xs => ovN d x m + runV d (macN d x m) xs
theorem runM_append (d : PrgD) (m : Mac) (xs ys : List Int) : runM d m (xs ++ ys) = runM d (runM d m xs) ys := by unfold runM; rw [List.foldl_append]
theorem runO_append (d : PrgD) : ∀ (m : Mac) (xs ys : List Int), runO d m (xs ++ ys) = runO d m xs ++ runO d (runM d m xs) ys
  | _, [], _ => rfl
  | m, x :: xs, ys => by
    show _ :: runO d _ (xs ++ ys) = _ :: (runO d _ xs ++ _)
    rw [runO_append d _ xs ys]; rfl
theorem runV_append (d : PrgD) : ∀ (m : Mac) (xs ys : List Int), runV d m (xs ++ ys) = runV d m xs + runV d (runM d m xs) ys
  | _, [], ys => by show runV d _ ys = 0 + _; rw [Int.zero_add]; rfl
  | m, x :: xs, ys => by
    show _ + runV d _ (xs ++ ys) = _ + runV d _ xs + _
    rw [runV_append d _ xs ys, Int.add_assoc]; rfl
theorem runM_snoc (d : PrgD) (m : Mac) (xs : List Int) (x : Int) : runM d m (xs ++ [x]) = macN d x (runM d m xs) := by rw [runM_append]; rfl
theorem runO_snoc (d : PrgD) (m : Mac) (xs : List Int) (x : Int) : runO d m (xs ++ [x]) = runO d m xs ++ [(sampF d x (runM d m xs) d.code).out] := by rw [runO_append]; rfl
theorem runV_snoc (d : PrgD) (m : Mac) (xs : List Int) (x : Int) : runV d m (xs ++ [x]) = runV d m xs + ovN d x (runM d m xs) := by
  rw [runV_append]
  show _ + (ovN d x _ + 0) = _
  rw [Int.add_zero]
theorem runO_len (d : PrgD) : ∀ (m : Mac) (xs : List Int), (runO d m xs).length = xs.length
  | _, [] => rfl
  | m, x :: xs => by show (runO d _ xs).length + 1 = xs.length + 1; rw [runO_len d _ xs]
theorem runV_in (d : PrgD) : ∀ (m : Mac) (xs : List Int), 0 ≤ runV d m xs ∧ runV d m xs ≤ xs.length
  | _, [] => by show (0 : Int) ≤ 0 ∧ (0 : Int) ≤ ((0 : Nat) : Int); omega
  | m, x :: xs => by
    have := runV_in d (macN d x m) xs
    show 0 ≤ ovN d x m + runV d _ xs ∧ ovN d x m + runV d _ xs ≤ ((xs.length + 1 : Nat) : Int)
    unfold ovN
    split <;> omega
theorem runM_time (d : PrgD) : ∀ (xs : List Int) (m : Mac), (runM d m xs).cyc = m.cyc + xs.length * cycF d.code ∧ (runM d m xs).stl = m.stl + xs.length * stlF d.code
  | [], m => by
    show m.cyc = m.cyc + ((0 : Nat) : Int) * _ ∧ m.stl = m.stl + ((0 : Nat) : Int) * _
    rw [Int.natCast_zero, Int.zero_mul, Int.zero_mul]; omega
  | x :: xs, m => by
    obtain ⟨h1, h2⟩ := runM_time d xs (macN d x m)
    refine ⟨?_, ?_⟩
    · show (runM d (macN d x m) xs).cyc = m.cyc + ((xs.length + 1 : Nat) : Int) * _
      rw [h1]
      show m.cyc + cycF d.code + _ = _
      rw [Int.natCast_succ, Int.add_mul]; omega
    · show (runM d (macN d x m) xs).stl = m.stl + ((xs.length + 1 : Nat) : Int) * _
      rw [h2]
      show m.stl + stlF d.code + _ = _
      rw [Int.natCast_succ, Int.add_mul]; omega
def headsB (rg : List (Int × Int)) (hs : List Int) : Bool := (List.range hs.length).all fun k => decide (0 ≤ hs.getD k 0 ∧ hs.getD k 0 < (rg.getD k (0, 0)).2)
def wordD (d : PrgD) (l : List Int) : Bool := wordsB d.d0 d.d1 d.d2 d.d3 l
structure StOk (d : PrgD) (rs ms hs : List Int) : Prop where
  rl : rs.length = 8
  ml : ms.length = 128
  hl : hs.length = d.rg.length
  rw : wordD d rs = true
  mw : wordD d ms = true
  hw : headsB d.rg hs = true
theorem wordD_at {d : PrgD} {l : List Int} (h : wordD d l = true) {k : Nat} (hk : k < l.length) : fitD d (l.getD k 0) = true := by
  unfold wordD wordsB at h
  rw [List.getD_eq_getElem?_getD, List.getElem?_eq_getElem hk]
  exact List.all_eq_true.1 h _ (List.getElem_mem hk)
theorem wordD_set {d : PrgD} {l : List Int} (h : wordD d l = true) {v : Int} (hv : fitD d v = true) (k : Nat) : wordD d (l.set k v) = true := by
  unfold wordD wordsB at *
  refine List.all_eq_true.2 fun x hx => ?_
  rcases List.mem_or_eq_of_mem_set hx with h1 | rfl
  · exact List.all_eq_true.1 h x h1
  · exact hv
theorem fitD_bound {d : PrgD} {v : Int} (h : fitD d v = true) : -8388608 ≤ v ∧ v ≤ 8388607 := by
  unfold fitD fitsW at h
  rw [Bool.and_eq_true, inB_iff] at h
  have := low_high d.d0 d.d1 d.d2 d.d3
  omega
theorem wrapF_in {b : Int} (h1 : 1 ≤ b) (h2 : b ≤ 62) (s : Int) : -2 ^ (b - 1).toNat ≤ wrapF b s ∧ wrapF b s < 2 ^ (b - 1).toNat := by
  obtain ⟨n, hn⟩ := Int.eq_ofNat_of_zero_le (show 0 ≤ b - 1 by omega)
  obtain rfl : b = (n : Int) + 1 := by omega
  unfold wrapF
  rw [if_pos (inB_iff.2 ⟨h1, h2⟩), show ((n : Int) + 1).toNat = n + 1 by omega, show ((n : Int) + 1 - 1).toNat = n by omega]
  have hp : (0 : Nat) < 2 ^ (n + 1) := Nat.pow_pos (by decide)
  have e : (2 : Nat) ^ (n + 1) = 2 * 2 ^ n := by rw [Nat.pow_succ]; omega
  have a1 := Int.le_bmod (x := s) hp
  have a2 := Int.bmod_lt (x := s) hp
  rw [e] at a1 a2 ⊢
  have hc : ((2 ^ n : Nat) : Int) = 2 ^ n := by simp
  push_cast at a1 a2 ⊢
  omega
theorem fitD_red {d : PrgD} (h : okW d.d0 d.d1 d.d2 d.d3 = true) (v : Int) : fitD d (redD d v) = true := by
  have ho := okW_iff.1 h
  have hl : lowW d.d0 d.d1 d.d2 d.d3 = -2 ^ (d.d0 - 1).toNat := by unfold lowW; rw [if_pos h]
  have hh : highW d.d0 d.d1 d.d2 d.d3 = 2 ^ (d.d0 - 1).toNat - 1 := by unfold highW; rw [if_pos h]
  unfold fitD fitsW redD reduceW
  rw [h, Bool.true_and, if_pos rfl, inB_iff]
  split
  · have := wrapF_in (b := d.d0) (by omega) (by omega) v
    omega
  · have := low_high d.d0 d.d1 d.d2 d.d3
    unfold satW
    omega
theorem headsB_at {rg : List (Int × Int)} {hs : List Int} (h : headsB rg hs = true) {k : Nat} (hk : k < hs.length) : 0 ≤ hs.getD k 0 ∧ hs.getD k 0 < (rg.getD k (0, 0)).2 := by
  unfold headsB at h
  have := List.all_eq_true.1 h k (List.mem_range.2 hk)
  simpa using this
theorem headsB_set {rg : List (Int × Int)} {hs : List Int} (h : headsB rg hs = true) {k : Nat} {v : Int} (hv : 0 ≤ v ∧ v < (rg.getD k (0, 0)).2) : headsB rg (hs.set k v) = true := by
  unfold headsB
  rw [List.length_set]
  refine List.all_eq_true.2 fun j hj => ?_
  have hj := List.mem_range.1 hj
  rw [decide_eq_true_eq]
  have := headsB_at h hj
  by_cases e : k = j
  · subst e
    have e2 : (hs.set k v).getD k 0 = v := by rw [List.getD_eq_getElem?_getD, List.getElem?_set_self (by omega)]; rfl
    rw [e2]; exact hv
  · have e2 : (hs.set k v).getD j 0 = hs.getD j 0 := by rw [List.getD_eq_getElem?_getD, List.getElem?_set_ne e, List.getD_eq_getElem?_getD]
    rw [e2]; exact this
theorem valid_ring {d : PrgD} (h : validB d = true) {k : Nat} (hk : k < d.rg.length) : ringIn (d.rg.getD k (0, 0)) = true := by
  obtain ⟨-, h2, -, -⟩ := valid_parts h
  unfold ringsB at h2
  rw [Bool.and_eq_true] at h2
  refine ringsK_all h2.2 (Nat.le_refl _) _ ?_
  rw [List.getD_eq_getElem?_getD, List.getElem?_eq_getElem hk, List.take_length]
  exact List.getElem_mem hk
theorem valid_suit {d : PrgD} (h : validB d = true) {k : Nat} {i : Ins} (hi : d.code[k]? = some i) : suitB d i = true := by
  obtain ⟨-, -, -, h4⟩ := valid_parts h
  have hk := (List.getElem?_eq_some_iff.1 hi).1
  have := h4 k hk
  unfold goodAt at this
  rw [Bool.and_eq_true, List.getD_eq_getElem?_getD, hi] at this
  exact this.1
theorem suit_mem {d : PrgD} (h : validB d = true) : ∀ i ∈ d.code, suitB d i = true := fun i hi => by
  obtain ⟨k, hk, rfl⟩ := List.getElem_of_mem hi
  exact valid_suit h (List.getElem?_eq_getElem hk)
theorem suit_ring {d : PrgD} {i : Ins} (h : suitB d i = true) (ho : i.op = 4 ∨ i.op = 8) : 0 ≤ i.a ∧ i.a < d.rg.length ∧ (i.op = 4 → 0 ≤ i.b ∧ i.b < (rgA d i.a).2) := by
  unfold suitB at h
  rw [Bool.and_eq_true] at h
  obtain ⟨hf, h⟩ := h
  have hp := formed_parts hf
  unfold fitI at h
  rw [Bool.and_eq_true] at h
  rcases ho with ho | ho
  · rw [if_pos ho] at h
    have := h.1
    simp only [Bool.and_eq_true, decide_eq_true_eq] at this
    exact ⟨hp.2.1.1, this.1, fun _ => ⟨hp.2.2.1.1, this.2⟩⟩
  · rw [if_neg (by omega), if_pos ho] at h
    have := h.1
    simp only [decide_eq_true_eq] at this
    exact ⟨hp.2.1.1, this, fun e => by omega⟩
theorem plc_in {d : PrgD} (hv : validB d = true) {hs : List Int} {a b : Int} (h0 : 0 ≤ a) (h1 : a < d.rg.length) : (rgA d a).1 ≤ plc d hs a b ∧ plc d hs a b < (rgA d a).1 + (rgA d a).2 ∧ 0 ≤ plc d hs a b ∧ plc d hs a b < 128 := by
  have hr := ringIn_iff.1 (valid_ring hv (k := a.toNat) (by omega))
  unfold plc
  unfold rgA at *
  have e1 := Int.emod_nonneg (hs.getD a.toNat 0 + b) (show (d.rg.getD a.toNat (0, 0)).2 ≠ 0 by omega)
  have e2 := Int.emod_lt_of_pos (hs.getD a.toNat 0 + b) (show 0 < (d.rg.getD a.toNat (0, 0)).2 by omega)
  omega
structure SmpOk (d : PrgD) (s : Smp) : Prop where
  st : StOk d s.regs s.mem s.heads
  sum : I64 s.sum
  out : I64 s.out
theorem wrap64_I64 (x : Int) : I64 (wrap64 x) := by
  unfold wrap64 I64
  have := Int.bmod_lt (x := x) (m := 2 ^ 64) (by decide)
  have := Int.le_bmod (x := x) (m := 2 ^ 64) (by decide)
  simp at *
  omega
theorem stepM_ok {d : PrgD} (hv : validB d = true) {x : Int} (hx : fitD d x = true) {s : Smp} (hs : SmpOk d s) {i : Ins} (hi : suitB d i = true) : SmpOk d (stepM d x s i) := by
  obtain ⟨hw1, -, -, -⟩ := valid_parts hv
  have hw : okW d.d0 d.d1 d.d2 d.d3 = true := by unfold okWD at hw1; exact (Bool.and_eq_true_iff.1 hw1).1
  obtain ⟨⟨rl, ml, hl, rw', mw, hw'⟩, h1, h2⟩ := hs
  have hf : i.formed = true := by unfold suitB at hi; exact (Bool.and_eq_true_iff.1 hi).1
  obtain ⟨hop, -, -, -⟩ := formed_parts hf
  have hB : ∀ k : Nat, fitD d (s.regs.getD k 0) = true → I64 (s.regs.getD k 0) := fun k h => by have := fitD_bound h; exact ⟨by omega, by omega⟩
  have hc : i.op = 0 ∨ i.op = 1 ∨ i.op = 2 ∨ i.op = 3 ∨ i.op = 4 ∨ i.op = 5 ∨ i.op = 6 ∨ i.op = 7 ∨ i.op = 8 ∨ i.op = 9 ∨ i.op = 10 ∨ i.op = 11 := by omega
  obtain ⟨op, a, b, imm⟩ := i
  simp only at hc
  have hk := hf
  unfold Ins.formed at hk
  simp only [Bool.and_eq_true] at hk
  rcases hc with rfl | rfl | rfl | rfl | rfl | rfl | rfl | rfl | rfl | rfl | rfl | rfl
  · exact ⟨⟨rl, ml, hl, rw', mw, hw'⟩, h1, h2⟩
  · exact ⟨⟨rl, ml, hl, rw', mw, hw'⟩, ⟨by show (_ : Int) ≤ 0; omega, by show (0 : Int) ≤ _; omega⟩, h2⟩
  · exact ⟨⟨rl, ml, hl, rw', mw, hw'⟩, wrap64_I64 _, h2⟩
  · exact ⟨⟨rl, ml, hl, rw', mw, hw'⟩, wrap64_I64 _, h2⟩
  · exact ⟨⟨rl, ml, hl, rw', mw, hw'⟩, wrap64_I64 _, h2⟩
  · exact ⟨⟨by show (List.set _ _ _).length = 8; rw [List.length_set]; exact rl, ml, hl, wordD_set rw' (fitD_red hw _) _, mw, hw'⟩, h1, h2⟩
  · have hb : 0 ≤ b ∧ b < 128 := by have := hk.1.2; simpa [kB, fitsK] using this
    exact ⟨⟨by show (List.set _ _ _).length = 8; rw [List.length_set]; exact rl, ml, hl, wordD_set rw' (wordD_at mw (by show b.toNat < _; omega)) _, mw, hw'⟩, h1, h2⟩
  · have ha : 0 ≤ a ∧ a < 8 := by have := hk.1.1.2; simpa [kA, fitsK] using this
    exact ⟨⟨rl, by show (List.set _ _ _).length = 128; rw [List.length_set]; exact ml, hl, rw', wordD_set mw (wordD_at rw' (by show a.toNat < _; omega)) _, hw'⟩, h1, h2⟩
  · have hb : 0 ≤ b ∧ b < 8 := by have := hk.1.2; simpa [kB, fitsK] using this
    obtain ⟨a0, a1, -⟩ := suit_ring hi (.inr rfl)
    simp only at a0 a1
    have hr := ringIn_iff.1 (valid_ring hv (k := a.toNat) (by omega))
    have e1 := Int.emod_nonneg (s.heads.getD a.toNat 0 + (rgA d a).2 - 1) (show (rgA d a).2 ≠ 0 by unfold rgA; omega)
    have e2 := Int.emod_lt_of_pos (s.heads.getD a.toNat 0 + (rgA d a).2 - 1) (show 0 < (rgA d a).2 by unfold rgA; omega)
    refine ⟨⟨rl, ?_, ?_, rw', wordD_set mw (wordD_at rw' (by show b.toNat < _; omega)) _, headsB_set hw' ⟨e1, e2⟩⟩, h1, h2⟩
    · show (List.set _ _ _).length = 128
      rw [List.length_set]; exact ml
    · show (List.set _ _ _).length = _
      rw [List.length_set]; exact hl
  · exact ⟨⟨by show (List.set _ _ _).length = 8; rw [List.length_set]; exact rl, ml, hl, wordD_set rw' hx _, mw, hw'⟩, h1, h2⟩
  · have ha : 0 ≤ a ∧ a < 8 := by have := hk.1.1.2; simpa [kA, fitsK] using this
    exact ⟨⟨rl, ml, hl, rw', mw, hw'⟩, h1, hB _ (wordD_at rw' (by show a.toNat < _; omega))⟩
  · have hb : 0 ≤ b ∧ b < 8 := by have := hk.1.2; simpa [kB, fitsK] using this
    exact ⟨⟨by show (List.set _ _ _).length = 8; rw [List.length_set]; exact rl, ml, hl, wordD_set rw' (wordD_at rw' (by show b.toNat < _; omega)) _, mw, hw'⟩, h1, h2⟩
def MacOk (d : PrgD) (m : Mac) : Prop := StOk d m.regs m.mem m.heads
theorem i64_zero : I64 0 := ⟨by decide, by decide⟩
theorem smp0_ok {d : PrgD} {m : Mac} (h : MacOk d m) : SmpOk d (smp0 m) := ⟨h, i64_zero, i64_zero⟩
theorem sampF_ok {d : PrgD} (hv : validB d = true) {x : Int} (hx : fitD d x = true) {m : Mac} (hm : MacOk d m) : ∀ (l : List Ins) (s : Smp), SmpOk d s → (∀ i ∈ l, suitB d i = true) → SmpOk d (l.foldl (stepM d x) s)
  | [], s, h, _ => h
  | i :: l, s, h, hl => sampF_ok hv hx hm l _ (stepM_ok hv hx h (hl i List.mem_cons_self)) fun j hj => hl j (List.mem_cons_of_mem _ hj)
theorem samp_take {d : PrgD} (hv : validB d = true) {x : Int} (hx : fitD d x = true) {m : Mac} (hm : MacOk d m) (k : Nat) : SmpOk d (sampF d x m (d.code.take k)) :=
  sampF_ok hv hx hm _ _ (smp0_ok hm) fun i hi => suit_mem hv i (List.mem_of_mem_take hi)
theorem samp_all {d : PrgD} (hv : validB d = true) {x : Int} (hx : fitD d x = true) {m : Mac} (hm : MacOk d m) : SmpOk d (sampF d x m d.code) :=
  sampF_ok hv hx hm _ _ (smp0_ok hm) fun i hi => suit_mem hv i hi
theorem macN_ok {d : PrgD} (hv : validB d = true) {x : Int} (hx : fitD d x = true) {m : Mac} (hm : MacOk d m) : MacOk d (macN d x m) := (samp_all hv hx hm).st
theorem runM_ok {d : PrgD} (hv : validB d = true) : ∀ (xs : List Int) (m : Mac), wordD d xs = true → MacOk d m → MacOk d (runM d m xs)
  | [], _, _, hm => hm
  | x :: xs, m, hx, hm => by
    unfold wordD wordsB at hx
    rw [List.all_cons, Bool.and_eq_true] at hx
    exact runM_ok hv xs _ hx.2 (macN_ok hv hx.1 hm)
def macB (d : PrgD) (m : Mac) : Bool :=
  validB d && (decide (m.regs.length = 8 ∧ m.mem.length = 128 ∧ m.heads.length = d.rg.length) && (wordD d m.regs && (wordD d m.mem && (headsB d.rg m.heads && (inB m.cyc 0 1099511627776 && inB m.stl 0 1099511627776)))))
theorem macB_parts {d : PrgD} {m : Mac} (h : macB d m = true) : validB d = true ∧ MacOk d m ∧ (0 ≤ m.cyc ∧ m.cyc ≤ 1099511627776) ∧ (0 ≤ m.stl ∧ m.stl ≤ 1099511627776) := by
  unfold macB at h
  simp only [Bool.and_eq_true, decide_eq_true_eq, inB_iff] at h
  obtain ⟨h1, ⟨h2, h3, h4⟩, h5, h6, h7, h8, h9⟩ := h
  exact ⟨h1, ⟨h2, h3, h4, h5, h6, h7⟩, h8, h9⟩
theorem macB_mk {d : PrgD} {m : Mac} (hv : validB d = true) (hm : MacOk d m) (hc : 0 ≤ m.cyc ∧ m.cyc ≤ 1099511627776) (hs : 0 ≤ m.stl ∧ m.stl ≤ 1099511627776) : macB d m = true := by
  unfold macB
  rw [hv, decide_eq_true ⟨hm.rl, hm.ml, hm.hl⟩, hm.rw, hm.mw, hm.hw, inB_iff.2 hc, inB_iff.2 hs]; rfl
end Go.Proofs.YtgdccmmcjicgkaaDoor
end
section
namespace Go.Proofs.YtgdccmmcjicgkaaDoor
open Go.RowKit
theorem fitD_wordF {d : PrgD} (h : okW d.d0 d.d1 d.d2 d.d3 = true) (x : Int) : fitD d (wordF d.d0 d.d1 d.d2 d.d3 x) = true := fits_wordF h x
theorem wordD_wordsF {d : PrgD} (h : okW d.d0 d.d1 d.d2 d.d3 = true) (l : List Int) (n : Nat) : wordD d (wordsF d.d0 d.d1 d.d2 d.d3 l n) = true := by
  unfold wordD wordsB
  refine List.all_eq_true.2 fun y hy => ?_
  unfold wordsF at hy
  obtain ⟨k, -, rfl⟩ := List.mem_map.1 hy
  exact fitD_wordF h _
def shiftedF (l : List Int) (n : Nat) : List Int := (List.range n).map fun (i : Nat) => wrap64 (atF l ((i % 17 : Nat) : Int) + (i : Int))
theorem shiftedF_succ (l : List Int) (n : Nat) : shiftedF l (n + 1) = shiftedF l n ++ [wrap64 (atF l ((n % 17 : Nat) : Int) + (n : Int))] := by simp [shiftedF, List.range_succ]
theorem shiftedF_length (l : List Int) (n : Nat) : (shiftedF l n).length = n := by simp [shiftedF]
def headsF (rg : List (Int × Int)) (l : List Int) (n : Nat) : List Int := (List.range n).map fun (i : Nat) => withinF (atF l ((i : Int) + 3)) (rg.getD i (0, 0)).2
theorem headsF_succ (rg : List (Int × Int)) (l : List Int) (n : Nat) : headsF rg l (n + 1) = headsF rg l n ++ [withinF (atF l ((n : Int) + 3)) (rg.getD n (0, 0)).2] := by simp [headsF, List.range_succ]
theorem headsF_length (rg : List (Int × Int)) (l : List Int) (n : Nat) : (headsF rg l n).length = n := by simp [headsF]
def macF (d : PrgD) (l : List Int) : Mac := ⟨wordsF d.d0 d.d1 d.d2 d.d3 l 8, wordsF d.d0 d.d1 d.d2 d.d3 (shiftedF l 128) 128, headsF d.rg l d.rg.length, 0, 0⟩
theorem valid_words {d : PrgD} (h : validB d = true) : okW d.d0 d.d1 d.d2 d.d3 = true ∧ okW d.c0 d.c1 d.c2 d.c3 = true := by
  obtain ⟨h1, -⟩ := valid_parts h
  unfold okWD at h1
  exact Bool.and_eq_true_iff.1 h1
theorem headsF_ok {d : PrgD} (h : validB d = true) (l : List Int) : headsB d.rg (headsF d.rg l d.rg.length) = true := by
  unfold headsB
  rw [headsF_length]
  refine List.all_eq_true.2 fun j hj => ?_
  have hj := List.mem_range.1 hj
  rw [decide_eq_true_eq]
  have hr := ringIn_iff.1 (valid_ring h hj)
  have e : (headsF d.rg l d.rg.length).getD j 0 = withinF (atF l ((j : Int) + 3)) (d.rg.getD j (0, 0)).2 := by
    unfold headsF
    rw [List.getD_eq_getElem?_getD, List.getElem?_map, List.getElem?_range hj]; rfl
  rw [e]
  exact within_in (by omega) _
theorem macF_ok {d : PrgD} (h : validB d = true) (l : List Int) : MacOk d (macF d l) :=
  ⟨wordsF_length _ _ _ _ _ _, wordsF_length _ _ _ _ _ _, headsF_length _ _ _, wordD_wordsF (valid_words h).1 _ _, wordD_wordsF (valid_words h).1 _ _, headsF_ok h l⟩
theorem macF_valid {d : PrgD} (h : validB d = true) (l : List Int) : macB d (macF d l) = true := macB_mk h (macF_ok h l) ⟨Int.le_refl _, by show (0 : Int) ≤ _; omega⟩ ⟨Int.le_refl _, by show (0 : Int) ≤ _; omega⟩
end Go.Proofs.YtgdccmmcjicgkaaDoor
end
