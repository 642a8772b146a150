/- Several texts in one: S2 S14 S16 L6 L8. -/
import Derived.Test.YtpdpcgeeneajjaaDoorsE21toS1
import Derived.Test.YtpdpcgeeneajjaaDoorsS5toS11
import Derived.Test.YtpdpcgeeneajjaaDoorsQtoU3
import Derived.Test.YtpdpcgeeneajjaaDoorsE1toI0
import Derived.Test.YtpdpcgeeneajjaaDoorsE15toU5
import Derived.Laws.EntriesVeiled
import Derived.Test.YtpdpcgeeneajjaaDoorsRutoE13
import Derived.Test.YtpdpcgeeneajjaaDoorsE3toL1
import Derived.Test.YtpdpcgeeneajjaaDoorsRytoE19
import Derived.Lib.BufferRead
set_option linter.unusedVariables false
set_option linter.unusedSimpArgs false
section
namespace Go.Proofs.YtpdpcgeeneajjaaDoor
open Go.RowKit
theorem fits_wordF {b f r o : Int} (h : okW b f r o = true) (x : Int) : fitsW b f r o (wordF b f r o x) = true := by
  obtain ⟨q1, q2, q3, q4⟩ := low_high b f r o
  obtain ⟨g1, g2⟩ := within_in (m := highW b f r o - lowW b f r o + 1) (by omega) (wrap64 (x - lowW b f r o))
  unfold fitsW
  rw [h, Bool.true_and, inB_iff]
  unfold wordF
  omega
theorem ringsF_get {rs : List Int} {n k : Nat} (hk : k < n) : (ringsF rs n).getD k (0, 0) = (20 + 10 * (k : Int), 1 + withinF (rs.getD k 0) 6) := by
  rw [List.getD_eq_getElem?_getD]
  unfold ringsF
  rw [List.getElem?_map, List.getElem?_range hk]; rfl
theorem ringsF_take {rs : List Int} {n k : Nat} (hk : k ≤ n) : (ringsF rs n).take k = ringsF rs k := by
  unfold ringsF
  rw [← List.map_take, List.take_range, Nat.min_eq_left hk]
theorem ringsF_mem {rs : List Int} {n : Nat} {y : Int × Int} (h : y ∈ ringsF rs n) : ∃ k, k < n ∧ y.1 = 20 + 10 * (k : Int) ∧ 1 ≤ y.2 ∧ y.2 ≤ 6 := by
  unfold ringsF at h
  obtain ⟨k, hk, rfl⟩ := List.mem_map.1 h
  have := within_in (m := 6) (by omega) (rs.getD k 0)
  exact ⟨k, List.mem_range.1 hk, rfl, by show 1 ≤ 1 + _; omega, by show 1 + _ ≤ 6; omega⟩
theorem ringsF_ok (rs : List Int) (n : Nat) (hn : n ≤ 3) : ∀ k, k ≤ n → ringsK (ringsF rs n) k = true
  | 0, _ => rfl
  | k + 1, hk => by
    unfold ringsK
    rw [ringsF_ok rs n hn k (by omega), ringsF_get (show k < n by omega), ringsF_take (show k ≤ n by omega)]
    have := within_in (m := 6) (by omega) (rs.getD k 0)
    rw [ringIn_iff.2 (by simp only; omega), Bool.true_and, Bool.true_and, Bool.not_eq_true', Bool.eq_false_iff]
    intro h
    obtain ⟨y, hy, hc⟩ := List.any_eq_true.1 h
    obtain ⟨j, hj, e1, e2, e3⟩ := ringsF_mem hy
    rw [clash_iff] at hc
    simp only at hc
    omega
theorem ringsF_valid (rs : List Int) (n : Nat) (hn : n ≤ 3) : ringsB (ringsF rs n) = true := by
  unfold ringsB
  rw [ringsF_length, ringsF_ok rs n hn n (Nat.le_refl _), decide_eq_true (by omega)]; rfl
theorem ringsF_unused (rs : List Int) (n : Nat) {m : Int} (h : m < 20) : usdB (ringsF rs n) m = false := by
  rw [Bool.eq_false_iff]
  intro h2
  obtain ⟨y, hy, hc⟩ := List.any_eq_true.1 h2
  obtain ⟨j, hj, e1, e2, e3⟩ := ringsF_mem hy
  rw [inR_iff] at hc
  omega
theorem insF_fit {d : PrgD} {op a b y : Int} (ho : 1 ≤ op ∧ op ≤ 11) (ha : 0 ≤ a ∧ a < 1000) (hb : 0 ≤ b) (hy : fitsW d.c0 d.c1 d.c2 d.c3 y = true) (h6 : ∀ x ∈ d.rg, 1 ≤ x.2 ∧ x.2 ≤ 6) (hu : ∀ m, m < 20 → usdB d.rg m = false) :
    fitI d (insF d.rg op a b y) = true ∧ (insF d.rg op a b y).op ≠ 0 := by
  have hc : op = 1 ∨ op = 2 ∨ op = 3 ∨ op = 4 ∨ op = 5 ∨ op = 6 ∨ op = 7 ∨ op = 8 ∨ op = 9 ∨ op = 10 ∨ op = 11 := by omega
  rcases hc with rfl | rfl | rfl | rfl | rfl | rfl | rfl | rfl | rfl | rfl | rfl
  · rw [insF_1]; simp [fitI]
  · rw [insF_2]; simp [fitI, hy]
  · rw [insF_3]; simp [fitI, hy, hu (a % 10) (by omega)]
  · by_cases h0 : d.rg.length = 0
    · rw [insF_40 _ _ _ h0]; simp [fitI]
    · have e0 := Int.emod_nonneg a (show (d.rg.length : Int) ≠ 0 by omega)
      have e1 := Int.emod_lt_of_pos a (show (0 : Int) < d.rg.length by omega)
      obtain ⟨m, hm⟩ := Int.eq_ofNat_of_zero_le e0
      obtain ⟨x, hx⟩ : ∃ x, d.rg[m]? = some x := ⟨_, List.getElem?_eq_getElem (by omega)⟩
      rw [insF_4 rfl (by omega) hm hx]
      have := h6 x (List.mem_of_getElem? hx)
      have := Int.emod_nonneg (a / 10) (show x.2 ≠ 0 by omega)
      have := Int.emod_lt_of_pos (a / 10) (show 0 < x.2 by omega)
      have hml : m < d.rg.length := by omega
      simp [fitI, hy, List.getD_eq_getElem?_getD, hx]
      omega
  · rw [insF_5]; simp [fitI]
  · rw [insF_6]; simp [fitI, hu (b % 10) (by omega)]
  · rw [insF_7]; simp [fitI, hu (b % 10) (by omega)]
  · by_cases h0 : d.rg.length = 0
    · rw [insF_80 _ _ _ h0]; simp [fitI]
    · have e0 := Int.emod_nonneg a (show (d.rg.length : Int) ≠ 0 by omega)
      have e1 := Int.emod_lt_of_pos a (show (0 : Int) < d.rg.length by omega)
      obtain ⟨m, hm⟩ := Int.eq_ofNat_of_zero_le e0
      rw [insF_8 rfl (by omega) hm]
      simp [fitI]; omega
  · rw [insF_9]; simp [fitI]
  · rw [insF_10]; simp [fitI]
  · rw [insF_11]; simp [fitI]
theorem prgF_valid (dn cn : Int) (rs os fs : List Int) (most : Nat) (hm : most ≤ 511) : validB (prgF dn cn rs os fs most) = true := by
  have hfo := prgF_formed dn cn rs os fs most
  have hp := prgF_code_pos dn cn rs os fs most
  have h1 : okWD (prgF dn cn rs os fs most) = true := by
    unfold okWD prgF
    simp only
    rw [mkWD_ok, mkWC_ok]; rfl
  have h2 : ringsB (prgF dn cn rs os fs most).rg = true := ringsF_valid rs _ (by omega)
  unfold validB
  rw [h1, h2, inB_iff.2 (by omega), Bool.true_and, Bool.true_and, Bool.true_and]
  refine List.all_eq_true.2 fun j hj => ?_
  have hj := List.mem_range.1 hj
  unfold goodAt suitB
  have hmem : (prgF dn cn rs os fs most).code.getD j Ins.zero ∈ (prgF dn cn rs os fs most).code := by
    rw [List.getD_eq_getElem?_getD, List.getElem?_eq_getElem hj]
    exact List.getElem_mem hj
  rw [hfo _ hmem, Bool.true_and]
  have hlen : (prgF dn cn rs os fs most).code.length = min os.length most + 1 := by
    unfold prgF
    simp only
    rw [List.length_append, codeK_length]; rfl
  by_cases hl : j < min os.length most
  · have e : (prgF dn cn rs os fs most).code.getD j Ins.zero = insK (mkW cn 6 9 1).1 (mkW cn 6 9 1).2.1 (mkW cn 6 9 1).2.2.1 (mkW cn 6 9 1).2.2.2 (ringsF rs (min rs.length 3)) os fs j := by
      unfold prgF
      simp only
      rw [List.getD_eq_getElem?_getD, List.getElem?_append_left (by rw [codeK_length]; exact hl)]
      unfold codeK
      rw [List.getElem?_map, List.getElem?_range hl]; rfl
    rw [e]
    have hw := within_in (m := 11) (by omega) (os.getD j 0)
    have hw1 := within_in (m := 1000) (by omega) (atF fs (2 * (j : Int)))
    have hw2 := within_in (m := 1048576) (by omega) (atF fs (2 * (j : Int) + 1))
    have hh := insF_fit (d := prgF dn cn rs os fs most) (op := 1 + withinF (os.getD j 0) 11) (a := withinF (atF fs (2 * (j : Int))) 1000) (b := withinF (atF fs (2 * (j : Int) + 1)) 1048576) (y := wordF (mkW cn 6 9 1).1 (mkW cn 6 9 1).2.1 (mkW cn 6 9 1).2.2.1 (mkW cn 6 9 1).2.2.2 (withinF (atF fs (2 * (j : Int) + 1)) 1048576 - 524288)) (by omega) hw1 hw2.1 (fits_wordF (mkWC_ok cn) _) (ringsF_six rs _) (fun m hm => ringsF_unused rs _ hm)
    unfold insK
    have h3 : (prgF dn cn rs os fs most).rg = ringsF rs (min rs.length 3) := rfl
    rw [h3] at hh
    rw [hh.1, Bool.true_and, decide_eq_false hh.2, hlen, decide_eq_false (by omega)]; rfl
  · have e : (prgF dn cn rs os fs most).code.getD j Ins.zero = ⟨0, 0, 0, 0⟩ := by
      have hj2 : j = min os.length most := by omega
      unfold prgF
      simp only
      rw [List.getD_eq_getElem?_getD, List.getElem?_append_right (by rw [codeK_length]; omega), codeK_length, hj2, Nat.sub_self]; rfl
    rw [e, hlen, decide_eq_true (show j + 1 = min os.length most + 1 by omega)]
    simp [fitI]
end Go.Proofs.YtpdpcgeeneajjaaDoor
end
section
namespace Go.Proofs.YtpdpcgeeneajjaaDoor
open Go.RowKit
theorem lst_one (u : PrgA) : u.lst.all (·.oneCell') = true := rfl
theorem lst_ten (u : PrgA) : u.lst.length = 10 := rfl
end Go.Proofs.YtpdpcgeeneajjaaDoor
end
section
namespace Go.Proofs.YtpdpcgeeneajjaaDoor
open Go.RowKit
theorem Box.c5 {w : World} {g : Nat} {a b c d e : Value} (x : Box w g [a, b, c, d, e]) : w.cell? ⟨g, 0, none⟩ = some a ∧ w.cell? ⟨g, 1, none⟩ = some b ∧ w.cell? ⟨g, 2, none⟩ = some c ∧ w.cell? ⟨g, 3, none⟩ = some d ∧ w.cell? ⟨g, 4, none⟩ = some e :=
  ⟨x.2.1 0, x.2.1 1, x.2.1 2, x.2.1 3, x.2.1 4⟩
end Go.Proofs.YtpdpcgeeneajjaaDoor
end
section
namespace Go.Proofs.YtpdpcgeeneajjaaDoor
open Go.RowKit
def ByAt (w : World) (A : Option Addr) (l : List Int) : Prop := ∀ (k : Nat) x, l[k]? = some x → 0 ≤ x ∧ x < 256 ∧ ∃ q, A = some ⟨q, 0, none⟩ ∧ q < w.heap.size ∧ w.cell? ⟨q, k, none⟩ = some (.int .u8 x)
theorem ByAt.grow {w w' : World} {A : Option Addr} {l : List Int} (h : ByAt w A l) (hb : Below w.heap.size w w') : ByAt w' A l := fun k x hk => by
  obtain ⟨h1, h2, q, e, h3, h4⟩ := h k x hk
  exact ⟨h1, h2, q, e, Nat.lt_of_lt_of_le h3 hb.size, (hb.cell (p := ⟨q, k, none⟩) h3).trans h4⟩
theorem OwnBy.byAt {base : Nat} {w : World} {v : Value} {l : List Int} (h : OwnBy base w v l) (hr : ∀ x ∈ l, 0 ≤ x ∧ x < 256) : ∃ A c, v = .slice A l.length c ∧ ByAt w A l := by
  have h' : w.ownsRow base 5 1 v l.length (l.map (Value.int .u8)) := h
  rcases h'.2 with ⟨e, h0⟩ | ⟨g, cap, cur, e, -, -, -⟩
  · have hl : l = [] := List.length_eq_zero_iff.1 h0
    subst hl
    exact ⟨none, 0, e, fun k x hk => by simp at hk⟩
  · refine ⟨_, cap, e, fun k x hk => ?_⟩
    have hx := hr x (List.mem_of_getElem? hk)
    have hown : v.ownBlock = some g := by rw [e]; rfl
    exact ⟨hx.1, hx.2, g, rfl, (h'.lt g hown).2, by
      have := h'.cells (g := g) hown k (.int .u8 x) (by rw [List.getElem?_map, hk]; rfl)
      rw [add_noneI (ad := ⟨g, 0, none⟩) (n := k) rfl, Nat.zero_add] at this
      exact this⟩
theorem bytes_in (l : List Ins) : ∀ x ∈ encB l, 0 ≤ x ∧ x < 256 := fun x hx => by
  unfold encB at hx
  split at hx
  · obtain ⟨i, -, hi⟩ := List.mem_flatMap.1 hx
    unfold Ins.bytes at hi
    simp only [List.mem_cons, List.not_mem_nil, or_false] at hi
    rcases hi with rfl | rfl | rfl | rfl | rfl | rfl | rfl | rfl <;> omega
  · simp at hx
abbrev kn38 : List Ins := [⟨4, 1, 2, -3⟩, ⟨0, 0, 0, 0⟩]
theorem kn38_ok : ∀ i ∈ kn38, i.ok := by
  intro i hi
  simp only [kn38, List.mem_cons, List.not_mem_nil, or_false] at hi
  rcases hi with rfl | rfl
  · exact ⟨⟨by decide, by decide⟩, ⟨by decide, by decide⟩, ⟨by decide, by decide⟩, ⟨by decide, by decide⟩⟩
  · exact ⟨⟨by decide, by decide⟩, ⟨by decide, by decide⟩, ⟨by decide, by decide⟩, ⟨by decide, by decide⟩⟩
theorem kn38_enc : encE kn38 = 0 := by decide
theorem kn38_text : str (fmtB kn38) = ⟨#[109, 97, 99, 99, 32, 99, 49, 32, 50, 32, 45, 51, 10, 104, 97, 108, 116, 10]⟩ := by
  have e1 : Lib.itoa 1 = [49] := itoa_small (by decide) (by decide)
  have e2 : Lib.itoa 2 = [50] := itoa_small (by decide) (by decide)
  have e3 : Lib.itoa (-3) = [45, 51] := by rw [itoa_minus (by decide), show -(-3 : Int) = 3 by decide, itoa_small (by decide) (by decide)]; rfl
  unfold fmtB
  rw [kn38_enc, if_pos rfl]
  have h1 : lineB ⟨4, 1, 2, -3⟩ = [109, 97, 99, 99, 32, 99, 49, 32, 50, 32, 45, 51] := by
    show (opStr 4).data.toList ++ partB 3 1 ++ partB 4 2 ++ partB 5 (-3) = _
    unfold partB
    rw [e1, e2, e3]
    decide
  have h2 : lineB ⟨0, 0, 0, 0⟩ = [104, 97, 108, 116] := by
    show (opStr 0).data.toList ++ partB 0 0 ++ partB 0 0 ++ partB 0 0 = _
    unfold partB
    decide
  unfold fmtL kn38
  rw [List.flatMap_cons, List.flatMap_cons, List.flatMap_nil, h1, h2]
  rfl
set_option maxRecDepth 100000 in
set_option maxHeartbeats 4000000 in
theorem known38 (w : World) (hf : PrAt w) : Calls Tryd.prog 6 #[] w fun e w' => e = .returned (.bool true) ∧ Below w.heap.size w w' := by
  have HF := Lib.hid hf
  have CFm : Hid (∀ w1 A c, Below w.heap.size w w1 → InsAt w1 A kn38 → Calls Tryd.prog 14 #[.slice A 2 c] w1 fun e w' => e = .returned (.tuple #[.string ⟨#[109, 97, 99, 99, 32, 99, 49, 32, 50, 32, 45, 51, 10, 104, 97, 108, 116, 10]⟩, .int .i64 0]) ∧ Below w1.heap.size w1 w') := Lib.hid fun w1 A c hb hi => by
    have h := pr_Format A 2 c kn38 w1 (HF.out.grow hb) hi rfl (by decide)
    rw [kn38_text, kn38_enc] at h
    exact h
  have CU : Hid (∀ w1, Below w.heap.size w w1 → Calls Tryd.prog 18 #[.agg #[.int .i64 2, .int .i64 2, .int .i64 0, .int .i64 7]] w1 fun e w' => ∃ (A B : Option Addr) (c d : Nat), e = .returned (.tuple #[.slice A 2 c, .slice B 1 d]) ∧ Ints w' A [2, 8] ∧ Ints w' B [8] ∧ Below w1.heap.size w1 w') := Lib.hid fun w1 hb => by
    have h := pr_Uses ⟨2, 2, 0, 7⟩ w1 (HF.out.forms.grow hb) ⟨⟨by decide, by decide⟩, ⟨by decide, by decide⟩, ⟨by decide, by decide⟩, ⟨by decide, by decide⟩⟩
    refine h.mono ?_
    rintro e w' ⟨A, B, c, d, h1, h2, h3, h4⟩
    exact ⟨A, B, c, d, h1, h2.1, h3.1, h4⟩
  have CS2 : Hid (∀ w1 A c, Ints w1 A [2, 8] → Calls Tryd.prog 19 #[.slice A 2 c, .slice (some ⟨w1.heap.size, 0, none⟩) 2 2] (w1.alloc (.cells #[.int .i64 2, .int .i64 8] 3)) fun e w' => e = .returned (.bool true) ∧ Below w1.heap.size w1 w') := Lib.hid fun w1 A c h1 =>
    (rf_SameN A _ [2, 8] [2, 8] c 2 2 2 _ rfl rfl (by decide) rfl (h1.grow ((Below.refl _ _).alloc (Nat.le_refl _) _)) (lit_two ⟨by decide, by decide⟩ ⟨by decide, by decide⟩)).mono fun e w' h => ⟨h.1, below_then ((Below.refl _ _).alloc (Nat.le_refl _) _) h.2⟩
  have CS1 : Hid (∀ w1 A c, Ints w1 A [8] → Calls Tryd.prog 19 #[.slice A 1 c, .slice (some ⟨w1.heap.size, 0, none⟩) 1 1] (w1.alloc (.cells #[.int .i64 8] 3)) fun e w' => e = .returned (.bool true) ∧ Below w1.heap.size w1 w') := Lib.hid fun w1 A c h1 =>
    (rf_SameN A _ [8] [8] c 1 1 1 _ rfl rfl (by decide) rfl (h1.grow ((Below.refl _ _).alloc (Nat.le_refl _) _)) (lit_one ⟨by decide, by decide⟩)).mono fun e w' h => ⟨h.1, below_then ((Below.refl _ _).alloc (Nat.le_refl _) _) h.2⟩
  clear hf
  go_enter Tryd.func6, Tryd.ntmps6
  go_upto_region 2 with (first
    | ((with_reducible show wpList _ _ _ (Oper.mk (some 8) _ _ _ _ _ :: _) _ _); refine bld_ins2 ⟨4, 1, 2, -3⟩ ⟨0, 0, 0, 0⟩ rfl _ _ rfl rfl rfl ?_)
    | (go_at_call 14; (with_reducible refine (CFm.out _ _ _ (litI_below w kn38) (InsAt.lit kn38_ok)).mono ?_); rintro e1 w1 ⟨rfl, hb1⟩))
  have HB1 := Lib.hid (below_then (litI_below w kn38) hb1)
  clear hb1
  go_upto_region 3 with (go_at_call 18; (with_reducible refine (CU.out _ HB1.out).mono ?_); rintro e2 w2 ⟨A, B, c, d, rfl, hA, hB, hb2⟩)
  have HB2 := Lib.hid (below_then HB1.out hb2)
  have HA := Lib.hid hA
  have HBI := Lib.hid hB
  clear hA hB hb2
  go_wp2_with (go_at_call 19; first
    | ((with_reducible refine (CS2.out _ _ _ HA.out).mono ?_); rintro e3 w3 ⟨rfl, hb3⟩)
    | ((with_reducible refine (CS1.out _ _ _ (HBI.out.grow hb3)).mono ?_); rintro e4 w4 ⟨rfl, hb4⟩; have hb24 := below_then hb3 hb4))
  go_ret
  exact ⟨rfl, below_then HB2.out hb24⟩
end Go.Proofs.YtpdpcgeeneajjaaDoor
end
section
namespace Go.Proofs.YtpdpcgeeneajjaaDoor
open Go.RowKit
def txtF (l : List Ins) (w : List UInt8) (k i : Nat) : List UInt8 := endl ((l.take (min i k)).map lineB) ++ (if k < i then endl (w :: ((l.take i).drop k).map lineB) else [])
theorem endl_app (a b : List (List UInt8)) : endl (a ++ b) = endl a ++ endl b := by unfold endl; rw [List.flatMap_append]
theorem endl_one (a : List UInt8) : endl [a] = a ++ [10] := by unfold endl; simp
theorem endl_cons (a : List UInt8) (b : List (List UInt8)) : endl (a :: b) = a ++ [10] ++ endl b := by unfold endl; rw [List.flatMap_cons]
theorem txt_zero (l : List Ins) (w : List UInt8) (k : Nat) : txtF l w k 0 = [] := by unfold txtF; rw [Nat.zero_min, if_neg (Nat.not_lt_zero _)]; rfl
theorem take_snoc {l : List Ins} {i : Nat} {x : Ins} (h : l[i]? = some x) : l.take (i + 1) = l.take i ++ [x] := by rw [List.take_add_one, h]; rfl
theorem txt_miss {l : List Ins} {w : List UInt8} {k i : Nat} {x : Ins} (hi : i < k) (h : l[i]? = some x) : txtF l w k (i + 1) = txtF l w k i ++ (lineB x ++ [10]) := by
  unfold txtF
  rw [if_neg (by omega), if_neg (by omega), Nat.min_eq_left (by omega), Nat.min_eq_left (by omega), take_snoc h, List.map_append, endl_app, List.append_nil, List.append_nil]
  show _ ++ endl [lineB x] = _
  rw [endl_one]
theorem txt_hit {l : List Ins} {w : List UInt8} {k : Nat} (hk : k ≤ l.length) : endl ((l.take (min (k + 1) k)).map lineB) = txtF l w k k := by
  unfold txtF
  rw [if_neg (by omega), Nat.min_eq_right (by omega), Nat.min_self, List.append_nil]
theorem txt_hit_some {l : List Ins} {w : List UInt8} {k : Nat} {x : Ins} (h : l[k]? = some x) : txtF l w k (k + 1) = txtF l w k k ++ (w ++ [10]) ++ (lineB x ++ [10]) := by
  have hlt := (List.getElem?_eq_some_iff.1 h).1
  conv => lhs; unfold txtF
  rw [txt_hit (w := w) (by omega), if_pos (by omega), endl_cons, take_snoc h, List.drop_append_of_le_length (by rw [List.length_take]; omega), List.drop_eq_nil_of_le (by rw [List.length_take]; omega), List.nil_append]
  show _ ++ (w ++ [10] ++ endl [lineB x]) = _
  rw [endl_one]; simp
theorem txt_hit_none {l : List Ins} {w : List UInt8} {k : Nat} (h : l.length = k) : txtF l w k (k + 1) = txtF l w k k ++ (w ++ [10]) := by
  conv => lhs; unfold txtF
  rw [txt_hit (w := w) (by omega), if_pos (by omega), endl_cons, List.drop_eq_nil_of_le (by rw [List.length_take]; omega)]
  show _ ++ (w ++ [10] ++ []) = _
  simp
theorem txt_after {l : List Ins} {w : List UInt8} {k i : Nat} {x : Ins} (hi : k < i) (h : l[i]? = some x) : txtF l w k (i + 1) = txtF l w k i ++ (lineB x ++ [10]) := by
  have hlt := (List.getElem?_eq_some_iff.1 h).1
  unfold txtF
  rw [if_pos (by omega), if_pos hi, Nat.min_eq_right (by omega), Nat.min_eq_right (by omega), take_snoc h, List.drop_append_of_le_length (by rw [List.length_take]; omega), List.map_append, endl_cons, endl_cons, endl_app, ← endl_one]
  have e1 : endl [lineB x] = lineB x ++ [10] := endl_one _
  simp [e1]
theorem txt_end {l : List Ins} {w : List UInt8} {k i : Nat} (hi : k < i) (h : l.length ≤ i) : txtF l w k (i + 1) = txtF l w k i := by
  unfold txtF
  rw [if_pos (by omega), if_pos hi, Nat.min_eq_right (by omega), Nat.min_eq_right (by omega), List.take_of_length_le (by omega : l.length ≤ i + 1), List.take_of_length_le h]
theorem txt_all {l : List Ins} {w : List UInt8} {k : Nat} (hk : k ≤ l.length) : txtF l w k (l.length + 1) = endl ((l.take k).map lineB ++ w :: (l.drop k).map lineB) := by
  unfold txtF
  rw [if_pos (by omega), Nat.min_eq_right (by omega), List.take_of_length_le (by omega : l.length ≤ l.length + 1), endl_app]
theorem endl_len {L : List (List UInt8)} {m : Nat} (h : ∀ x ∈ L, x.length ≤ m) : (endl L).length ≤ (m + 1) * L.length := by
  induction L with
  | nil => simp [endl]
  | cons a L ih =>
    have h1 := h a (List.mem_cons_self ..)
    have h2 := ih fun x hx => h x (List.mem_cons_of_mem _ hx)
    rw [endl_cons, List.length_append, List.length_append]
    show a.length + 1 + (endl L).length ≤ (m + 1) * (L.length + 1)
    rw [Nat.mul_add]; omega
theorem txt_len {l : List Ins} {w : List UInt8} {k i : Nat} (hl : l.length ≤ 21) (hw : w.length ≤ 20) (hok : ∀ x ∈ l, x.ok) : (txtF l w k i).length ≤ 10000 := by
  have hline : ∀ x ∈ l, (lineB x).length ≤ 80 := fun x hx => lineB_len (hok x hx)
  have h1 : (endl ((l.take (min i k)).map lineB)).length ≤ 81 * 21 := by
    have := endl_len (L := (l.take (min i k)).map lineB) (m := 80) (fun y hy => by
      obtain ⟨x, hx, rfl⟩ := List.mem_map.1 hy
      exact hline x (List.mem_of_mem_take hx))
    rw [List.length_map, List.length_take] at this
    have : min (min i k) l.length ≤ 21 := by omega
    omega
  have h2 : (if k < i then endl (w :: ((l.take i).drop k).map lineB) else []).length ≤ 81 * 22 := by
    split
    · have := endl_len (L := w :: ((l.take i).drop k).map lineB) (m := 80) (fun y hy => by
        rcases List.mem_cons.1 hy with rfl | hy
        · omega
        · obtain ⟨x, hx, rfl⟩ := List.mem_map.1 hy
          exact hline x (List.mem_of_mem_take (List.mem_of_mem_drop hx)))
      rw [List.length_cons, List.length_map, List.length_drop, List.length_take] at this
      have : min i l.length - k ≤ 21 := by omega
      omega
    · simp
  unfold txtF
  rw [List.length_append]
  omega
def RetBadP (w : World) (line : Int) (e : Ending) (w' : World) : Prop := ∃ A c, e = .returned (.tuple #[.slice A 0 c, .int .i64 line, .int .i64 21]) ∧ Below w.heap.size w w'
set_option maxRecDepth 100000 in
set_option maxHeartbeats 8000000 in
theorem law_ProcessorNamesLines (dd : DraftA) (at0 : Int) (wd : List UInt8) (w : World) (hf : RdAt w) (hd : DraftOk w dd) (hat : I64 at0) (hwd : wd.length ≤ 9223372036854775807) :
    Calls Tryd.prog 5 #[dd.v, .int .i64 at0, .string (str wd)] w fun e w' => e = .returned (.bool true) ∧ Below w.heap.size w w' := by
  have CK : Hid (∀ w1, Below w.heap.size w w1 → Calls Tryd.prog 6 #[] w1 fun e w' => e = .returned (.bool true) ∧ Below w1.heap.size w1 w') := Lib.hid fun w1 hb => known38 w1 (hf.pr.grow hb)
  have HENT := Lib.hid (show Below w.heap.size w (w.alloc (.cells #[.int .i64 dd.dn, .int .i64 dd.cn, .slice dd.RA dd.rs.length dd.rc, .slice dd.OA dd.os.length dd.oc, .slice dd.FA dd.fs.length dd.fc] 34)) from (Below.refl _ _).alloc (Nat.le_refl _) _)
  have HBOX := Lib.hid (show Box (w.alloc (.cells #[.int .i64 dd.dn, .int .i64 dd.cn, .slice dd.RA dd.rs.length dd.rc, .slice dd.OA dd.os.length dd.oc, .slice dd.FA dd.fs.length dd.fc] 34)) w.heap.size dd.lst from Box.new rfl)
  obtain ⟨D, hD⟩ : ∃ x, dd.d 20 = x := ⟨_, rfl⟩
  have hfo : ∀ i ∈ D.code, i.formed = true := by rw [← hD]; exact prgF_formed _ _ _ _ _ 20
  have hlen : D.code.length ≤ 21 := by
    rw [← hD]
    show (prgF _ _ _ _ _ 20).code.length ≤ 21
    have hl : (prgF dd.dn dd.cn dd.rs dd.os dd.fs 20).code.length = min dd.os.length 20 + 1 := by
      unfold prgF
      rw [List.length_append, codeK_length]; rfl
    rw [hl]; omega
  have hc1 : 1 ≤ D.code.length := by
    rw [← hD]
    show 1 ≤ (prgF _ _ _ _ _ 20).code.length
    have hl : (prgF dd.dn dd.cn dd.rs dd.os dd.fs 20).code.length = min dd.os.length 20 + 1 := by
      unfold prgF
      rw [List.length_append, codeK_length]; rfl
    rw [hl]; omega
  obtain ⟨cn, hcn⟩ : ∃ m, D.code.length = m := ⟨_, rfl⟩
  rw [hcn] at hlen hc1
  obtain ⟨k, hk⟩ : ∃ k : Nat, withinF at0 ((cn : Int) + 1) = (k : Int) := Int.eq_ofNat_of_zero_le (within_in (by omega) at0).1
  have hkc : k ≤ cn := by have := (within_in (m := (cn : Int) + 1) (by omega) at0).2; omega
  obtain ⟨n, hn⟩ : ∃ n, wd.length = n := ⟨_, rfl⟩
  have hzn : (str wd).size = n := (str_size wd).trans hn
  rw [hn] at hwd
  have CP : Hid (∀ w1, Below w.heap.size w w1 → Calls Tryd.prog 12 #[dd.v, .int .i64 20] w1 (RetPrgC w1 D)) := Lib.hid fun w1 hb => by
    rw [← hD]; exact dr_CodeC dd 20 w1 (hd.grow hb) (by omega)
  have CWi : Hid (∀ w1, Calls Tryd.prog 16 #[.int .i64 at0, .int .i64 ((cn : Int) + 1)] w1 fun e w' => e = .returned (.int .i64 (k : Int)) ∧ w1 = w') := Lib.hid fun w1 => hk ▸ wd_Within at0 ((cn : Int) + 1) w1 (by omega)
  have HCN := Lib.hid hcn
  have HFO := Lib.hid hfo
  have HN := Lib.hid hn
  have HRD := Lib.hid hf
  obtain ⟨sw, hsw⟩ : ∃ s, str wd = s := ⟨_, rfl⟩
  have HSW := Lib.hid hsw
  rw [hsw] at hzn ⊢
  clear hf hd hD hcn hfo hk hat hn hsw
  go_enter Tryd.func5, Tryd.ntmps5
  go_upto_region 1 with fail
  have HE0 := HENT.out
  have HX0 := HBOX.out
  generalize w.alloc (.cells #[.int .i64 dd.dn, .int .i64 dd.cn, .slice dd.RA dd.rs.length dd.rc, .slice dd.OA dd.os.length dd.oc, .slice dd.FA dd.fs.length dd.fc] 34) = w0 at HE0 HX0 ⊢
  have HB0 := Lib.hid HE0
  have HX := Lib.hid HX0
  clear HE0 HX0 HENT HBOX
  go_upto_region 2 with (first
    | ((with_reducible show wpList _ _ _ (Oper.mk _ (.load 34 _) _ _ _ _ :: _) _ _); refine ld_dft HX.out rfl _ rfl rfl ?_)
    | (go_at_call 12; (with_reducible refine (CP.out _ HB0.out).mono ?_); rintro e1 w1 ⟨u, hu, rfl, hat, hb1, hcap⟩)
    | ((with_reducible show wpList _ _ _ (Oper.mk none (.store 39 _ _) _ _ _ _ :: _) _ _); refine st_prgB (w := w1.alloc (.cells zeros10.toArray 39)) (M := zeros10) (g := w1.heap.size) (Box.new rfl) rfl (L := u.lst) (lst_ten u) (lst_one u) rfl _ _ rfl rfl rfl ?_; intro W2 b2 p2))
  have hb2 := put_facts ((Below.refl w1.heap.size w1).alloc (Nat.le_refl _) (.cells zeros10.toArray 39)) (Nat.le_refl _) p2
  have HB2 := Lib.hid (below_then (below_then HB0.out hb1) hb2)
  have HP2 := Lib.hid b2
  have hia2 : InsAt W2 u.CA D.code := by have := (hat.grow hb2).2; rw [hu] at this; exact this
  obtain ⟨x0, hx0⟩ : ∃ x, D.code[0]? = some x := ⟨_, List.getElem?_eq_getElem (by rw [HCN.out]; exact hc1)⟩
  obtain ⟨ad, e0, -⟩ := hia2 0 x0 hx0
  rw [e0] at hia2
  have HIA2 := Lib.hid hia2
  have HU : Hid (u.d.code.length = cn) := Lib.hid (by rw [hu]; exact HCN.out)
  clear hb1 hb2 b2 p2 hat hu hcap CP HX HB0 hia2 hx0
  generalize w1.heap.size = gp at HP2 ⊢
  obtain ⟨cc, hcce⟩ : ∃ c, u.cc = c := ⟨_, rfl⟩
  have HX9 : Hid (∀ W, Below W2.heap.size W2 W → W.cell? ⟨gp, 9, none⟩ = some (.slice (some ad) cn cc)) := Lib.hid fun W hb => by
    have := (HP2.out.keep hb).2.1 9
    rw [this]
    show some (Value.slice u.CA u.d.code.length u.cc) = _
    rw [HU.out, hcce, e0]
  clear hcce HU HP2 e0
  by_cases hbig : 20 < n
  · have q : (20 : Int) < (n : Int) := by omega
    go_wp2_with (go_at_call 6; (with_reducible refine (CK.out _ HB2.out).mono ?_); rintro e12 w12 ⟨rfl, hb12⟩)
    go_ret
    exact ⟨rfl, below_then HB2.out hb12⟩
  have q : ¬ (20 : Int) < (n : Int) := by omega
  have hn20 : n ≤ 20 := by omega
  clear hbig
  go_upto_region 5 with fail
  go_loopw [8] (fun i wr => ∃ j : Nat, j ≤ n ∧ i = .int .i64 j ∧ Hid (∀ b ∈ wd.take j, 65 ≤ b.toNat ∧ b.toNat ≤ 90) ∧ W2 = wr) (fun i _ => n - (intOf i).toNat)
  case atStart => exact ⟨0, Nat.zero_le _, rfl, Lib.hid (by simp), rfl⟩
  case round =>
    obtain ⟨j, hj, rfl, HWU, rfl⟩ := hrel
    by_cases hlt : j < n
    · obtain ⟨b, hb⟩ : ∃ b, wd[j]? = some b := ⟨_, List.getElem?_eq_getElem (by rw [HN.out]; exact hlt)⟩
      have q1 : (j : Int) < (n : Int) := by omega
      have q0 : (0 : Int) ≤ (j : Int) := by omega
      have wk : IntKind.i64.wrap ((j : Int) + 1) = ((j + 1 : Nat) : Int) := (IntWalk.i64_in _ (by omega)).trans (by omega)
      obtain ⟨vb, hvb⟩ : ∃ v, (b.toNat : Int) = v := ⟨_, rfl⟩
      have ix : (Instr.index 9 (.string sw) (.int .i64 (j : Int))).run Tryd.prog W2 = .ok (.int .u8 vb) W2 := by rw [← HSW.out, ← hvb]; exact run_ixS hb W2
      have HVB := Lib.hid hvb
      have HBJ := Lib.hid hb
      clear hb hvb
      by_cases hlo : vb < 65
      · go_wp2_with (go_at_call 6; (with_reducible refine (CK.out _ HB2.out).mono ?_); rintro e12 w12 ⟨rfl, hb12⟩)
        go_ret
        exact ⟨rfl, below_then HB2.out hb12⟩
      · by_cases hhi : 90 < vb
        · go_wp2_with (go_at_call 6; (with_reducible refine (CK.out _ HB2.out).mono ?_); rintro e12 w12 ⟨rfl, hb12⟩)
          go_ret
          exact ⟨rfl, below_then HB2.out hb12⟩
        · go_wp2_with fail
          go_roundw
          case rel => exact ⟨j + 1, by omega, rfl, Lib.hid (by
            rw [List.take_add_one, HBJ.out]
            intro x hx
            rcases List.mem_append.1 hx with hx | hx
            · exact HWU.out x hx
            · rw [List.mem_singleton.1 hx]; have := HVB.out; omega), by trivial⟩
          case measure => simp [intOf]; omega
    · obtain rfl : j = n := by omega
      have hlo : ¬ (j : Int) < (j : Int) := by omega
      have HWW : Hid (wordU wd) := Lib.hid (by have := HWU.out; rwa [List.take_of_length_le (by rw [HN.out]; exact Nat.le_refl _)] at this)
      have CPa : Hid (∀ w1, Below W2.heap.size W2 w1 → Calls Tryd.prog 9 #[.string (str (txtF D.code wd k (cn + 1)))] w1 (RetBadP w1 ((k : Int) + 1))) := Lib.hid fun w1 hb => by
        have h1 : parseF (txtF D.code wd k (cn + 1)) = ([], (k : Int) + 1, 21) := by
          rw [← HCN.out, txt_all (by rw [HCN.out]; exact hkc)]
          exact parse_bad HFO.out (by rw [HCN.out]; omega) HWW.out (by rw [HCN.out]; exact hkc)
        refine (pr_Parse (txtF D.code wd k (cn + 1)) w1 (HRD.out.grow (below_then HB2.out hb)) (Nat.le_trans (txt_len (by rw [HCN.out]; exact hlen) (by rw [HN.out]; exact hn20) HIA2.out.ok) (by omega))).mono fun e w' ⟨A, c, e1, _, _, e2⟩ => ?_
        rw [h1] at e1
        exact ⟨A, c, e1, e2⟩
      have x9 := HX9.out W2 (Below.refl _ _)
      have wc : IntKind.i64.wrap ((cn : Int) + 1) = (cn : Int) + 1 := IntWalk.i64_in _ (by omega)
      have hz20 : sw.size ≤ 20 := by omega
      clear HWU q hwd
      go_upto_region 10 with (go_at_call 16; (with_reducible refine (CWi.out _).mono ?_); rintro e2 w2 ⟨rfl, rfl⟩)
      clear wc x9
      go_wp2_with fail
      go_loopw [9, 10] (fun t i wr => ∃ (j : Nat) (ts : ByteArray), j ≤ cn + 1 ∧ i = .int .i64 j ∧ t = .string ts ∧ Hid (ts = str (txtF D.code wd k j)) ∧ Hid (Below W2.heap.size W2 wr)) (fun _ i _ => cn + 1 - (intOf i).toNat)
      case atStart => exact ⟨0, ⟨#[]⟩, Nat.zero_le _, rfl, rfl, Lib.hid (by rw [txt_zero]; rfl), Lib.hid (Below.refl _ _)⟩
      case round =>
        obtain ⟨i, ts, hi, rfl, rfl, HT, HB⟩ := hrel
        by_cases hle : i ≤ cn
        · have q1 : (i : Int) ≤ (cn : Int) := by omega
          have q0 : (0 : Int) ≤ (i : Int) := by omega
          have wk : IntKind.i64.wrap ((i : Int) + 1) = ((i + 1 : Nat) : Int) := (IntWalk.i64_in _ (by omega)).trans (by omega)
          have x9 := HX9.out wr HB.out
          have hts : ts.size ≤ 10000 := by rw [HT.out, str_size]; exact txt_len (by rw [HCN.out]; exact hlen) (by rw [HN.out]; exact hn20) HIA2.out.ok
          by_cases hic : i < cn
          · have q2 : (i : Int) < (cn : Int) := by omega
            obtain ⟨x, hx⟩ : ∃ x, D.code[i]? = some x := ⟨_, List.getElem?_eq_getElem (by rw [HCN.out]; exact hic)⟩
            obtain ⟨ad', e0, hs, hb, hr, hok⟩ := (HIA2.out.grow HB.out) i x hx
            injection e0 with e0
            subst e0
            have HS := Lib.hid hs
            have HR := Lib.hid hr
            have CL : Hid (∀ w1, Calls Tryd.prog 17 #[x.v] w1 fun e w' => e = .returned (.string (str (lineB x))) ∧ Below w1.heap.size w1 w') := Lib.hid fun w1 => r38_Line x w1 (HFO.out x (List.mem_of_getElem? hx))
            have hsl : (str (lineB x)).size ≤ 80 := by rw [str_size]; exact lineB_len hok
            by_cases hik : i = k
            · subst hik
              have HNX : Hid (ts ++ sw ++ ⟨#[10]⟩ ++ str (lineB x) ++ ⟨#[10]⟩ = str (txtF D.code wd i (i + 1))) := Lib.hid (by
                rw [txt_hit_some hx, HT.out, ← HSW.out]
                show str _ ++ str _ ++ str [10] ++ str _ ++ str [10] = _
                rw [str_add, str_add, str_add, str_add]; simp)
              generalize str (lineB x) = sl at CL hsl HNX
              clear hs hb hr hok hx
              go_wp2_with (first
                | ((with_reducible show wpList _ _ _ (Oper.mk _ (.load 50 _) _ _ _ _ :: _) _ _); refine ld_insA HS.out HR.out rfl _ rfl rfl ?_)
                | (go_at_call 17; (with_reducible refine (CL.out _).mono ?_); rintro e3 w3 ⟨rfl, hb3⟩))
              go_roundw
              case rel => exact ⟨i + 1, _, by omega, rfl, rfl, HNX, Lib.hid (below_then HB.out hb3)⟩
              case measure => simp [intOf]; omega
            · have hik' : ¬ (i : Int) = (k : Int) := by omega
              have HNX : Hid (ts ++ str (lineB x) ++ ⟨#[10]⟩ = str (txtF D.code wd k (i + 1))) := Lib.hid (by
                have h1 : txtF D.code wd k (i + 1) = txtF D.code wd k i ++ (lineB x ++ [10]) := by
                  rcases Nat.lt_or_gt_of_ne hik with h | h
                  · exact txt_miss h hx
                  · exact txt_after h hx
                rw [h1, HT.out]
                show str _ ++ str _ ++ str [10] = _
                rw [str_add, str_add]; simp)
              generalize str (lineB x) = sl at CL hsl HNX
              clear hs hb hr hok hx
              go_wp2_with (first
                | ((with_reducible show wpList _ _ _ (Oper.mk _ (.load 50 _) _ _ _ _ :: _) _ _); refine ld_insA HS.out HR.out rfl _ rfl rfl ?_)
                | (go_at_call 17; (with_reducible refine (CL.out _).mono ?_); rintro e3 w3 ⟨rfl, hb3⟩))
              go_roundw
              case rel => exact ⟨i + 1, _, by omega, rfl, rfl, HNX, Lib.hid (below_then HB.out hb3)⟩
              case measure => simp [intOf]; omega
          · obtain rfl : i = cn := by omega
            have q2 : ¬ (i : Int) < (i : Int) := by omega
            by_cases hik : i = k
            · subst hik
              have HNX : Hid (ts ++ sw ++ ⟨#[10]⟩ = str (txtF D.code wd i (i + 1))) := Lib.hid (by
                rw [txt_hit_none HCN.out, HT.out, ← HSW.out]
                show str _ ++ str _ ++ str [10] = _
                rw [str_add, str_add]; simp)
              go_wp2_with fail
              go_roundw
              case rel => exact ⟨i + 1, _, by omega, rfl, rfl, HNX, HB⟩
              case measure => simp [intOf]
            · have hik' : ¬ (i : Int) = (k : Int) := by omega
              have HNX : Hid (ts = str (txtF D.code wd k (i + 1))) := Lib.hid (by rw [txt_end (by omega) (by rw [HCN.out]; exact Nat.le_refl _)]; exact HT.out)
              go_wp2_with fail
              go_roundw
              case rel => exact ⟨i + 1, _, by omega, rfl, rfl, HNX, HB⟩
              case measure => simp [intOf]
        · obtain rfl : i = cn + 1 := by omega
          have q1 : ¬ ((cn + 1 : Nat) : Int) ≤ (cn : Int) := by omega
          have x9 := HX9.out wr HB.out
          have HT' := HT.out
          rw [← HT'] at CPa
          have wk : IntKind.i64.wrap ((k : Int) + 1) = (k : Int) + 1 := IntWalk.i64_in _ (by omega)
          clear HT'
          go_upto_region 19 with (go_at_call 9; (with_reducible refine (CPa.out _ HB.out).mono ?_); rintro e4 w4 ⟨A4, c4, rfl, hb4⟩)
          have HB4 := Lib.hid (below_then HB2.out (below_then HB.out hb4))
          clear hb4
          go_wp2_with (go_at_call 6; (with_reducible refine (CK.out _ HB4.out).mono ?_); rintro e12 w12 ⟨rfl, hb12⟩)
          go_ret
          exact ⟨rfl, below_then HB4.out hb12⟩
end Go.Proofs.YtpdpcgeeneajjaaDoor
end
