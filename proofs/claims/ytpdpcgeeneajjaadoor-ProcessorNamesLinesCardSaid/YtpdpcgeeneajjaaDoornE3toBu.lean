/- Several texts in one: E3 E5 E6 L1 Rp Bu. -/
import Derived.Test.YtpdpcgeeneajjaaDoornE2toT4
import Derived.Lib.ItoaLen
import Derived.Lib.SplitLaws
import Derived.Lib.AtoiTie
import Derived.Lib.Strings
import Derived.Test.YtpdpcgeeneajjaaDoorSh
set_option linter.unusedVariables false
set_option linter.unusedSimpArgs false
section
namespace Go.Proofs.YtpdpcgeeneajjaaDoor
open Go.RowKit
def opStr : Nat → ByteArray
  | 0 => ⟨#[104, 97, 108, 116]⟩
  | 1 => ⟨#[99, 108, 101, 97, 114]⟩
  | 2 => ⟨#[109, 97, 99]⟩
  | 3 => ⟨#[109, 97, 99, 109]⟩
  | 4 => ⟨#[109, 97, 99, 99]⟩
  | 5 => ⟨#[114, 111, 117, 110, 100]⟩
  | 6 => ⟨#[108, 111, 97, 100]⟩
  | 7 => ⟨#[115, 116, 111, 114, 101]⟩
  | 8 => ⟨#[112, 117, 115, 104]⟩
  | 9 => ⟨#[105, 110]⟩
  | 10 => ⟨#[111, 117, 116]⟩
  | _ => ⟨#[109, 111, 118, 101]⟩
def formR (op : Int) : Value :=
  if 0 ≤ op ∧ op < 12 then .tuple #[.string (opStr op.toNat), .int .i64 (kA op.toNat), .int .i64 (kB op.toNat), .bool (kC op.toNat == 5)] else .tuple #[.string ⟨#[]⟩, .int .i64 0, .int .i64 0, .bool false]
set_option maxRecDepth 100000 in
theorem r38_form (op : Int) (w : World) : Calls Tryd.prog 37 #[.int .i64 op] w fun e w' => e = .returned (formR op) ∧ w = w' := by
  by_cases h : 0 ≤ op ∧ op < 12
  · unfold formR
    rw [if_pos h]
    obtain ⟨h0, h1⟩ := h
    obtain rfl | rfl | rfl | rfl | rfl | rfl | rfl | rfl | rfl | rfl | rfl | rfl : op = 0 ∨ op = 1 ∨ op = 2 ∨ op = 3 ∨ op = 4 ∨ op = 5 ∨ op = 6 ∨ op = 7 ∨ op = 8 ∨ op = 9 ∨ op = 10 ∨ op = 11 := by omega
    all_goals
      clear h0 h1
      go_enter Tryd.func37, Tryd.ntmps37
      go_wp2_with fail
      refine bodyPost_ret (results_tmp4 rfl _ _ _) rfl ?_
      exact ⟨rfl, rfl⟩
  · unfold formR
    rw [if_neg h]
    have n0 : (op == 0) = false := by simp; omega
    have n1 : (op == 1) = false := by simp; omega
    have n2 : (op == 2) = false := by simp; omega
    have n3 : (op == 3) = false := by simp; omega
    have n4 : (op == 4) = false := by simp; omega
    have n5 : (op == 5) = false := by simp; omega
    have n6 : (op == 6) = false := by simp; omega
    have n7 : (op == 7) = false := by simp; omega
    have n8 : (op == 8) = false := by simp; omega
    have n9 : (op == 9) = false := by simp; omega
    have n10 : (op == 10) = false := by simp; omega
    have n11 : (op == 11) = false := by simp; omega
    clear h
    go_enter Tryd.func37, Tryd.ntmps37
    go_wp2_with fail
    refine bodyPost_ret (results_tmp4 rfl _ _ _) rfl ?_
    exact ⟨rfl, rfl⟩
end Go.Proofs.YtpdpcgeeneajjaaDoor
end
section
namespace Go.Proofs.YtpdpcgeeneajjaaDoor
open Go.RowKit
def InsAt (w : World) (A : Option Addr) (l : List Ins) : Prop := ∀ (k : Nat) i, l[k]? = some i → ∃ ad, A = some ad ∧ ad.spot = none ∧ ad.block < w.heap.size ∧ w.rangeAt ad.block (ad.off + k * 4) i.cells ∧ i.ok
theorem range_keepI {w w' : World} {b o : Nat} {cs : List Value} {B : Nat} (h : w.rangeAt b o cs) (hb : b < B) (hB : Below B w w') : w'.rangeAt b o cs := fun j v hj => (hB.cell (p := ⟨b, o + j, none⟩) hb).trans (h j v hj)
theorem InsAt.grow {w w' : World} {A : Option Addr} {l : List Ins} (h : InsAt w A l) (hb : Below w.heap.size w w') : InsAt w' A l := fun k i hk => by
  obtain ⟨ad, e, h1, h2, h3, h4⟩ := h k i hk
  exact ⟨ad, e, h1, Nat.lt_of_lt_of_le h2 hb.size, range_keepI h3 h2 hb, h4⟩
theorem InsAt.ok {w : World} {A : Option Addr} {l : List Ins} (h : InsAt w A l) : ∀ i ∈ l, i.ok := fun i hi => by
  obtain ⟨k, hk⟩ := List.getElem?_of_mem hi
  obtain ⟨ad, -, -, -, -, h4⟩ := h k i hk
  exact h4
theorem add_noneI {ad : Addr} {n : Nat} (h : ad.spot = none) : ad.add n = ⟨ad.block, ad.off + n, none⟩ := by
  obtain ⟨b, o, s⟩ := ad
  simp only at h
  subst h
  unfold Addr.add
  split
  · rename_i e; subst e; rfl
  · rfl
theorem row_ins : ∃ d, Tryd.prog.underlying 50 = some d ∧ d.isRow = true := ⟨_, Tryd.underlying50, rfl⟩
theorem size_ins : (Tryd.prog.info? 50).map (·.size) = some 4 := by kernel_rfl
theorem ld_insA {ops : Array Oper} {rest : List Oper} {o : Oper} {a : Act} {Q : Exit → Act → World → Prop} {w : World} {i : Ins} {ad : Addr} {n : Nat} (hs : ad.spot = none) (hr : w.rangeAt ad.block (ad.off + n) i.cells) (hgd : o.guard = none) (x : Operand) (ho : o.op = .load 50 x) (hx : a.eval x = .pointer (some (ad.add n))) (h : wpList Tryd.prog ops Q rest (a.put o.dst i.v) w) : wpList Tryd.prog ops Q (o :: rest) a w := by
  obtain ⟨d, h1, h2⟩ := row_ins
  rw [add_noneI hs] at hx
  exact wpList_load_mid hgd _ x ho ad.block (ad.off + n) hx i.cells d hr h1 h2 size_ins h
theorem ld_ins {ops : Array Oper} {rest : List Oper} {o : Oper} {a : Act} {Q : Exit → Act → World → Prop} {w : World} {i : Ins} {g : Nat} (hb : Box w g i.cells) (hgd : o.guard = none) (x : Operand) (ho : o.op = .load 50 x) (hx : a.eval x = .pointer (some ⟨g, 0, none⟩)) (h : wpList Tryd.prog ops Q rest (a.put o.dst i.v) w) : wpList Tryd.prog ops Q (o :: rest) a w := by
  obtain ⟨d, h1, h2⟩ := row_ins
  exact wp_ld hgd _ x ho g 0 hx hb i.cells (fun j v hj => by rw [Nat.zero_add]; exact hj) d h1 h2 size_ins h
theorem st_ins {ops : Array Oper} {rest : List Oper} {o : Oper} {a : Act} {Q : Exit → Act → World → Prop} {w : World} {i j : Ins} {g : Nat} (hb : Box w g i.cells) (hgd : o.guard = none) (x y : Operand) (ho : o.op = .store 50 x y) (hx : a.eval x = .pointer (some ⟨g, 0, none⟩)) (hy : a.eval y = j.v)
    (h : ∀ W1, Box W1 g j.cells → w.grownBy W1 (some g) → wpList Tryd.prog ops Q rest (a.put o.dst undef) W1) : wpList Tryd.prog ops Q (o :: rest) a w :=
  wp_st hgd _ x y ho g 0 j.cells hx hy size_ins rfl hb (by show 0 + 4 ≤ 4; omega) rfl h
def Ins.zero : Ins := ⟨0, 0, 0, 0⟩
end Go.Proofs.YtpdpcgeeneajjaaDoor
end
section
namespace Go.Proofs.YtpdpcgeeneajjaaDoor
open Go.RowKit
def encE (l : List Ins) : Int := if 512 < l.length then 5 else if l.all Ins.formed then 0 else 21
def Ins.bytes (i : Ins) : List Int := [i.op % 256, i.a % 256, i.b % 256, 0, i.imm % 4294967296 % 256, i.imm % 4294967296 / 256 % 256, i.imm % 4294967296 / 65536 % 256, i.imm % 4294967296 / 16777216 % 256]
theorem info_byte : (Tryd.prog.info? 5).map (fun i => (i.zero, i.size, i.bytes)) = some (some (.int .u8 0), 1, 1) := by kernel_rfl
end Go.Proofs.YtpdpcgeeneajjaaDoor
end
section
namespace Go.Proofs.YtpdpcgeeneajjaaDoor
open Go.RowKit
def str (l : List UInt8) : ByteArray := ⟨l.toArray⟩
theorem str_add (a b : List UInt8) : str a ++ str b = str (a ++ b) := ByteArray.mk_append_mk a b
theorem str_size (l : List UInt8) : (str l).size = l.length := by simp [str, ByteArray.size]
theorem str_eq {s : ByteArray} {l : List UInt8} (h : s.data.toList = l) : s = str l := by
  subst h; rfl
def letB (k : Int) : List UInt8 := if k = 1 then [114] else if k = 2 then [109] else if k = 3 then [99] else []
def partB (k v : Int) : List UInt8 := if k = 0 then [] else [32] ++ letB k ++ Lib.itoa v
def lineB (i : Ins) : List UInt8 := (opStr i.op.toNat).data.toList ++ partB (kA i.op.toNat) i.a ++ partB (kB i.op.toNat) i.b ++ partB (kC i.op.toNat) i.imm
theorem itoa_len {v : Int} (h : I64 v) : (Lib.itoa v).length ≤ 21 := Lib.itoa_length_le v h.1 h.2
theorem letB_len (k : Int) : (letB k).length ≤ 1 := by
  unfold letB; split
  · decide
  · split
    · decide
    · split <;> decide
theorem partB_len (k : Int) {v : Int} (h : I64 v) : (partB k v).length ≤ 23 := by
  have h1 := itoa_len h
  have h2 := letB_len k
  unfold partB
  split
  · simp
  · simp only [List.length_append, List.length_singleton]; omega
theorem opStr_len (k : Nat) : (opStr k).data.toList.length ≤ 5 := by unfold opStr; split <;> decide
theorem lineB_len {i : Ins} (h : i.ok) : (lineB i).length ≤ 80 := by
  have h1 := partB_len (kA i.op.toNat) h.2.1
  have h2 := partB_len (kB i.op.toNat) h.2.2.1
  have h3 := partB_len (kC i.op.toNat) h.2.2.2
  have h4 := opStr_len i.op.toNat
  unfold lineB
  simp only [List.length_append]; omega
theorem itoa_small {v : Int} (h0 : 0 ≤ v) (h : v < 10) : Lib.itoa v = [UInt8.ofNat (48 + v.toNat)] := by
  unfold Lib.itoa
  rw [if_neg (by omega), Lib.decDigits_one (by omega)]
theorem itoa_ten {v : Int} (h : 9 < v) : Lib.itoa v = Lib.itoa (v / 10) ++ Lib.itoa (v % 10) := by
  obtain ⟨u, rfl⟩ : ∃ u : Nat, v = u := ⟨v.toNat, by omega⟩
  have e1 : Lib.itoa (u : Int) = Lib.decDigits u := Lib.itoa_nonneg u
  have e2 : Lib.itoa ((u : Int) / 10) = Lib.decDigits (u / 10) := by
    have := Lib.itoa_nonneg (u / 10)
    rwa [show ((u / 10 : Nat) : Int) = (u : Int) / 10 by omega] at this
  have e3 : Lib.itoa ((u : Int) % 10) = Lib.decDigits (u % 10) := by
    have := Lib.itoa_nonneg (u % 10)
    rwa [show ((u % 10 : Nat) : Int) = (u : Int) % 10 by omega] at this
  rw [e1, e2, e3, Lib.decDigits, dif_neg (by omega), Lib.decDigits_one (i := u % 10) (by omega)]
theorem itoa_minus {v : Int} (h : v < 0) : Lib.itoa v = [45] ++ Lib.itoa (-v) := by
  obtain ⟨u, rfl⟩ : ∃ u : Nat, v = -(u : Int) := ⟨v.natAbs, by omega⟩
  rw [Lib.itoa_neg u (by omega), Int.neg_neg, Lib.itoa_nonneg]; rfl
set_option maxRecDepth 100000 in
set_option maxHeartbeats 2000000 in
theorem r38_DecN : ∀ (n : Nat) (v : Int) (w : World), 0 ≤ v → v ≤ n → v ≤ 4611686018427387904 → Calls Tryd.prog 39 #[.int .i64 v] w fun e w' => e = .returned (.string (str (Lib.itoa v))) ∧ Below w.heap.size w w' := by
  intro n
  induction n using Nat.strongRecOn with
  | _ n ih =>
    intro v w h0 hn h9
    have q1 : ¬ v < 0 := by omega
    by_cases h : 9 < v
    · have CD : Hid (∀ w1 (u : Int), 0 ≤ u → u < v → Calls Tryd.prog 39 #[.int .i64 u] w1 fun e w' => e = .returned (.string (str (Lib.itoa u))) ∧ Below w1.heap.size w1 w') := Lib.hid fun w1 u h1 h2 => ih (n - 1) (by omega) u w1 h1 (by omega) (by omega)
      have d1 : v.tdiv 10 = v / 10 := Int.tdiv_eq_ediv_of_nonneg h0
      have d2 : v.tmod 10 = v % 10 := Int.tmod_eq_emod_of_nonneg h0
      obtain ⟨q, hq⟩ : ∃ q, v / 10 = q := ⟨_, rfl⟩
      obtain ⟨r, hr⟩ : ∃ r, v % 10 = r := ⟨_, rfl⟩
      have hqv : 0 ≤ q ∧ q < v := by omega
      have hrv : 0 ≤ r ∧ r < v := by omega
      have wq : wrap64 q = q := by unfold wrap64; omega
      have wr : wrap64 r = r := by unfold wrap64; omega
      rw [hq] at d1
      rw [hr] at d2
      have HE : Hid (str (Lib.itoa q) ++ str (Lib.itoa r) = str (Lib.itoa v)) := by rw [str_add, ← hq, ← hr, ← itoa_ten h]; exact Lib.hid rfl
      have HQ := Lib.hid hqv
      have HR := Lib.hid hrv
      have hs1 : (str (Lib.itoa q)).size ≤ 100 := by rw [str_size]; have := itoa_len (v := q) ⟨by omega, by omega⟩; omega
      have hs2 : (str (Lib.itoa r)).size ≤ 100 := by rw [str_size]; have := itoa_len (v := r) ⟨by omega, by omega⟩; omega
      generalize str (Lib.itoa v) = sv at HE ⊢
      clear hq hr hqv hrv ih
      go_enter Tryd.func39, Tryd.ntmps39
      go_wp2_with (go_at_call 39; first
        | ((with_reducible refine (CD.out _ q HQ.out.1 HQ.out.2).mono ?_); rintro e1 w1 ⟨rfl, hb1⟩)
        | ((with_reducible refine (CD.out _ r HR.out.1 HR.out.2).mono ?_); rintro e2 w2 ⟨rfl, hb2⟩))
      go_ret
      exact ⟨congrArg (fun x => Ending.returned (.string x)) HE.out, below_then hb1 hb2⟩
    · have q2 : ¬ 9 < v := h
      have wv : IntKind.i64.wrap (48 + v) = 48 + v := IntWalk.i64_in _ (by omega)
      have hm : (48 + v) % 256 = 48 + v := by omega
      have HE := Lib.hid (itoa_small h0 (by omega))
      obtain ⟨B, hB⟩ : ∃ B : UInt8, B = UInt8.ofNat (48 + v.toNat) := ⟨_, rfl⟩
      have hBv : ((B.toNat : Nat) : Int) = 48 + v := by
        rw [hB]
        have : (UInt8.ofNat (48 + v.toNat)).toNat = (48 + v.toNat) % 256 := by simp
        rw [this]; omega
      have HB := Lib.hid hB
      have HBV := Lib.hid hBv
      have CV : Hid (∀ w1 : World, w1.cell? ⟨w.heap.size, 0, none⟩ = some (.int .u8 (48 + v)) → (convert 22 9 (.slice (some ⟨w.heap.size, 0, none⟩) 1 1)).run Tryd.prog w1 = .ok (.string (str (Lib.itoa v))) w1) := Lib.hid fun w1 hc => by
        have := Go.run_convert_bytes_back (P := Tryd.prog) w1 22 9 5 ⟨w.heap.size, 0, none⟩ 1 [B] Tryd.underlying22 Tryd.underlying5 Tryd.underlying9 (fun j hj => by
          obtain rfl : j = 0 := by simpa using hj
          simp only [List.getElem_cons_zero]
          rw [hBv]; exact hc)
        rw [HE.out, ← hB]
        exact this
      clear hB hBv ih h
      go_enter Tryd.func39, Tryd.ntmps39
      go_wp2
      rw [CV.out _ (by simp)]
      simp only [Result.andThen]
      rw [Oper.upon_value]
      go_wp2
      go_ret
      exact ⟨rfl, (Below.refl _ _).alloc (Nat.le_refl _) _⟩
set_option maxRecDepth 100000 in
set_option maxHeartbeats 2000000 in
theorem r38_Decimal (v : Int) (w : World) (h1 : -4611686018427387904 ≤ v) (h2 : v ≤ 4611686018427387904) : Calls Tryd.prog 39 #[.int .i64 v] w fun e w' => e = .returned (.string (str (Lib.itoa v))) ∧ Below w.heap.size w w' := by
  by_cases h : v < 0
  · have CD : Hid (∀ w1, Calls Tryd.prog 39 #[.int .i64 (-v)] w1 fun e w' => e = .returned (.string (str (Lib.itoa (-v)))) ∧ Below w1.heap.size w1 w') := Lib.hid fun w1 => r38_DecN (-v).toNat (-v) w1 (by omega) (by omega) (by omega)
    have HE : Hid (str [45] ++ str (Lib.itoa (-v)) = str (Lib.itoa v)) := by rw [str_add, ← itoa_minus h]; exact Lib.hid rfl
    have hs1 : (str (Lib.itoa (-v))).size ≤ 100 := by rw [str_size]; have := itoa_len (v := -v) ⟨by omega, by omega⟩; omega
    have wv : wrap64 (-v) = -v := by unfold wrap64; omega
    generalize str (Lib.itoa v) = sv at HE ⊢
    generalize str (Lib.itoa (-v)) = su at HE CD hs1
    go_enter Tryd.func39, Tryd.ntmps39
    go_wp2_with (go_at_call 39; (with_reducible refine (CD.out _).mono ?_); rintro e1 w1 ⟨rfl, hb1⟩)
    go_ret
    exact ⟨congrArg (fun x => Ending.returned (.string x)) HE.out, hb1⟩
  · exact r38_DecN v.toNat v w (by omega) (by omega) h2
set_option maxRecDepth 100000 in
set_option maxHeartbeats 2000000 in
theorem r38_part (k v : Int) (w : World) (hk : 0 ≤ k ∧ k ≤ 4) (h1 : -4611686018427387904 ≤ v) (h2 : v ≤ 4611686018427387904) : Calls Tryd.prog 38 #[.int .i64 k, .int .i64 v] w fun e w' => e = .returned (.string (str (partB k v))) ∧ Below w.heap.size w w' := by
  have CD := Lib.hid (r38_Decimal v w h1 h2)
  have hs1 : (str (Lib.itoa v)).size ≤ 100 := by rw [str_size]; have := itoa_len (v := v) ⟨by omega, by omega⟩; omega
  have HE : Hid (∀ c : List UInt8, str c ++ str (Lib.itoa v) = str (c ++ Lib.itoa v)) := Lib.hid fun c => str_add _ _
  obtain rfl | rfl | rfl | rfl | rfl : k = 0 ∨ k = 1 ∨ k = 2 ∨ k = 3 ∨ k = 4 := by omega
  · go_enter Tryd.func38, Tryd.ntmps38
    go_wp2
    go_ret
    exact ⟨rfl, Below.refl _ _⟩
  · have HP : Hid (str (partB 1 v) = str [32, 114] ++ str (Lib.itoa v)) := Lib.hid (HE.out [32, 114]).symm
    generalize str (partB 1 v) = sp at HP ⊢
    generalize str (Lib.itoa v) = su at HE CD hs1 HP
    go_enter Tryd.func38, Tryd.ntmps38
    go_wp2_with (go_at_call 39; (with_reducible refine CD.out.mono ?_); rintro e1 w1 ⟨rfl, hb1⟩)
    go_ret
    exact ⟨congrArg (fun x => Ending.returned (.string x)) HP.out.symm, hb1⟩
  · have HP : Hid (str (partB 2 v) = str [32, 109] ++ str (Lib.itoa v)) := Lib.hid (HE.out [32, 109]).symm
    generalize str (partB 2 v) = sp at HP ⊢
    generalize str (Lib.itoa v) = su at HE CD hs1 HP
    go_enter Tryd.func38, Tryd.ntmps38
    go_wp2_with (go_at_call 39; (with_reducible refine CD.out.mono ?_); rintro e1 w1 ⟨rfl, hb1⟩)
    go_ret
    exact ⟨congrArg (fun x => Ending.returned (.string x)) HP.out.symm, hb1⟩
  · have HP : Hid (str (partB 3 v) = str [32, 99] ++ str (Lib.itoa v)) := Lib.hid (HE.out [32, 99]).symm
    generalize str (partB 3 v) = sp at HP ⊢
    generalize str (Lib.itoa v) = su at HE CD hs1 HP
    go_enter Tryd.func38, Tryd.ntmps38
    go_wp2_with (go_at_call 39; (with_reducible refine CD.out.mono ?_); rintro e1 w1 ⟨rfl, hb1⟩)
    go_ret
    exact ⟨congrArg (fun x => Ending.returned (.string x)) HP.out.symm, hb1⟩
  · have HP : Hid (str (partB 4 v) = str [32] ++ str (Lib.itoa v)) := Lib.hid (HE.out [32]).symm
    generalize str (partB 4 v) = sp at HP ⊢
    generalize str (Lib.itoa v) = su at HE CD hs1 HP
    go_enter Tryd.func38, Tryd.ntmps38
    go_wp2_with (go_at_call 39; (with_reducible refine CD.out.mono ?_); rintro e1 w1 ⟨rfl, hb1⟩)
    go_ret
    exact ⟨congrArg (fun x => Ending.returned (.string x)) HP.out.symm, hb1⟩
end Go.Proofs.YtpdpcgeeneajjaaDoor
end
section
namespace Go.Proofs.YtpdpcgeeneajjaaDoor
open Go.RowKit
def splF (c : UInt8) : List UInt8 → List (List UInt8)
  | [] => [[]]
  | b :: l => if b = c then [] :: splF c l else (b :: (splF c l).headD []) :: (splF c l).tail
theorem splF_ne (c : UInt8) : ∀ l, splF c l ≠ []
  | [] => by simp [splF]
  | b :: l => by unfold splF; split <;> simp
theorem splF_eta (c : UInt8) (l : List UInt8) : (splF c l).headD [] :: (splF c l).tail = splF c l := by
  have := splF_ne c l
  cases h : splF c l with
  | nil => exact absurd h this
  | cons a t => rfl
theorem splF_hit (c : UInt8) (l : List UInt8) : splF c (c :: l) = [] :: splF c l := by
  show (if c = c then _ else _) = _
  rw [if_pos rfl]
theorem splF_miss {c b : UInt8} (h : b ≠ c) (l : List UInt8) : splF c (b :: l) = (b :: (splF c l).headD []) :: (splF c l).tail := by
  conv => lhs; unfold splF
  rw [if_neg h]
theorem splF_pre {c : UInt8} : ∀ {p : List UInt8}, (∀ b ∈ p, b ≠ c) → ∀ l, splF c (p ++ l) = (p ++ (splF c l).headD []) :: (splF c l).tail
  | [], _, l => by rw [List.nil_append, List.nil_append, splF_eta]
  | b :: p, h, l => by
    rw [List.cons_append, splF_miss (h b (List.mem_cons_self ..)), splF_pre (fun x hx => h x (List.mem_cons_of_mem _ hx)) l]
    rfl
theorem splF_plain {c : UInt8} {p : List UInt8} (h : ∀ b ∈ p, b ≠ c) : splF c p = [p] := by
  have := splF_pre h []
  rw [List.append_nil] at this
  rw [this]
  show (p ++ []) :: [] = [p]
  rw [List.append_nil]
theorem splF_part {c : UInt8} {p : List UInt8} (h : ∀ b ∈ p, b ≠ c) (l : List UInt8) : splF c (p ++ c :: l) = p :: splF c l := by
  rw [splF_pre h, splF_hit]
  show (p ++ []) :: _ = _
  rw [List.append_nil]; rfl
theorem splF_length (c : UInt8) : ∀ l, (splF c l).length = l.count c + 1
  | [] => rfl
  | b :: l => by
    by_cases h : b = c
    · subst h
      rw [splF_hit, List.length_cons, splF_length b l, List.count_cons_self]
    · have h1 := splF_length c l
      rw [splF_miss h, List.length_cons, List.length_tail, h1, List.count_cons_of_ne h]
      omega
theorem idx_one (c : UInt8) : ∀ l : List UInt8, (Lib.index l [c] = -1 ∧ c ∉ l) ∨ ∃ i : Nat, Lib.index l [c] = i ∧ i < l.length
  | [] => .inl ⟨by simp [Lib.index], by simp⟩
  | b :: l => by
    unfold Lib.index
    by_cases h : b = c
    · subst h
      exact .inr ⟨0, by simp [List.isPrefixOf], by simp⟩
    · have hp : ([c].isPrefixOf (b :: l)) = false := by simp [List.isPrefixOf]; exact fun e => h e.symm
      rw [hp]
      rcases idx_one c l with ⟨h1, h2⟩ | ⟨i, h1, h2⟩
      · exact .inl ⟨by simp [h1], by simp [h2]; exact fun e => h e.symm⟩
      · refine .inr ⟨i + 1, ?_, by simp; omega⟩
        rw [h1]
        have : ¬ ((i : Int) == -1) = true := fun e => by have := beq_iff_eq.1 e; omega
        rw [if_neg (by decide), if_neg this]; omega
theorem splK_miss {c : UInt8} {l : List UInt8} (h : Lib.index l [c] = -1) : ∀ k, Lib.splitK [c] 0 k l = [l]
  | 0 => rfl
  | k + 1 => by unfold Lib.splitK; rw [if_pos (beq_iff_eq.2 h)]
theorem splK_hit {c : UInt8} {l : List UInt8} {i : Nat} (h : Lib.index l [c] = i) (k : Nat) : Lib.splitK [c] 0 (k + 1) l = l.take i :: Lib.splitK [c] 0 k (l.drop (i + 1)) := by
  conv => lhs; unfold Lib.splitK
  have hm : ¬ (Lib.index l [c] == -1) = true := fun e => by have := beq_iff_eq.1 e; omega
  rw [if_neg hm, h]
  rfl
theorem splK_eq (c : UInt8) : ∀ (l : List UInt8) (k : Nat), l.count c ≤ k → Lib.splitK [c] 0 k l = splF c l
  | [], k, _ => by rw [splK_miss (by simp [Lib.index]) k]; rfl
  | b :: l, k, hk => by
    by_cases h : b = c
    · subst h
      rw [List.count_cons_self] at hk
      obtain ⟨k', rfl⟩ : ∃ k', k = k' + 1 := ⟨k - 1, by omega⟩
      rw [splK_hit (i := 0) (by unfold Lib.index; simp [List.isPrefixOf]), splF_hit, List.take_zero]
      show [] :: Lib.splitK [b] 0 k' l = _
      rw [splK_eq b l k' (by omega)]
    · rw [List.count_cons_of_ne h] at hk
      have hp : ([c].isPrefixOf (b :: l)) = false := by simp [List.isPrefixOf]; exact fun e => h e.symm
      rw [splF_miss h, ← splK_eq c l k hk]
      rcases idx_one c l with ⟨h1, -⟩ | ⟨i, h1, h2⟩
      · rw [splK_miss h1, splK_miss (by unfold Lib.index; rw [hp, h1]; rfl)]
        rfl
      · have hb : Lib.index (b :: l) [c] = ((i + 1 : Nat) : Int) := by
          unfold Lib.index
          rw [hp, h1]
          have : ¬ ((i : Int) == -1) = true := fun e => by have := beq_iff_eq.1 e; omega
          rw [if_neg (by decide), if_neg this]; omega
        cases k with
        | zero =>
          exfalso
          have hc : c ∈ l := by
            have h3 := splF_length c l
            rcases idx_one c l with ⟨h4, -⟩ | ⟨j, h4, -⟩
            · omega
            · by_cases hcl : c ∈ l
              · exact hcl
              · have := idx_none hcl
                omega
          have := List.count_pos_iff.2 hc
          omega
        | succ k =>
          rw [splK_hit hb, splK_hit h1]
          rfl
where
  idx_none {c : UInt8} : ∀ {l : List UInt8}, c ∉ l → Lib.index l [c] = -1
    | [], _ => by simp [Lib.index]
    | b :: l, h => by
      unfold Lib.index
      have hp : ([c].isPrefixOf (b :: l)) = false := by simp [List.isPrefixOf]; intro e; exact h (by rw [e]; simp)
      rw [hp, idx_none (fun hc => h (List.mem_cons_of_mem _ hc))]
      rfl
theorem spl_lib (c : UInt8) (s : ByteArray) (k : Nat) (hk : s.data.toList.count c ≤ k) : Lib.splitB (str [c]) 0 k s = (splF c s.data.toList).map str := by
  have h := Lib.splitB_data (str [c]) 0 k s
  have e : (str [c]).data.toList = [c] := rfl
  rw [e, splK_eq c _ k hk] at h
  rw [← h, List.map_map]
  have : ∀ l : List ByteArray, l = l.map (str ∘ fun x => x.data.toList) := fun l => by
    conv => lhs; rw [← List.map_id l]
    exact List.map_congr_left fun x _ => str_eq rfl
  exact this _
theorem decFrom_snoc : ∀ (l : List UInt8) (acc n d : Nat) (b : UInt8), Lib.decFrom acc l = some n → Lib.digitVal b = some d → Lib.decFrom acc (l ++ [b]) = some (n * 10 + d)
  | [], acc, n, d, b, h, hd => by
    simp only [Lib.decFrom, Option.some.injEq] at h
    subst h
    simp [Lib.decFrom, hd]
  | a :: l, acc, n, d, b, h, hd => by
    simp only [List.cons_append, Lib.decFrom] at h ⊢
    cases ha : Lib.digitVal a with
    | none => rw [ha] at h; cases h
    | some e => rw [ha] at h; exact decFrom_snoc l _ n d b h hd
theorem dig_byte {d : Nat} (h : d < 10) : (UInt8.ofNat (48 + d)).toNat = 48 + d := by
  have : (UInt8.ofNat (48 + d)).toNat = (48 + d) % 256 := by simp
  omega
theorem dig_val {d : Nat} (h : d < 10) : Lib.digitVal (UInt8.ofNat (48 + d)) = some d := by
  unfold Lib.digitVal
  rw [dig_byte h, if_pos (by omega)]
  congr 1
  omega
theorem dec_digits (u : Nat) : Lib.decFrom 0 (Lib.decDigits u) = some u := by
  induction u using Nat.strongRecOn with
  | _ u ih =>
    by_cases h : u < 10
    · rw [Lib.decDigits_one h]
      have := decFrom_snoc [] 0 0 u _ rfl (dig_val h)
      simpa using this
    · rw [Lib.decDigits, dif_neg h]
      have := decFrom_snoc _ 0 _ (u % 10) _ (ih (u / 10) (by omega)) (dig_val (by omega))
      rw [this]
      congr 1
      omega
theorem digits_mem {u : Nat} {b : UInt8} (h : b ∈ Lib.decDigits u) : 48 ≤ b.toNat ∧ b.toNat ≤ 57 := by
  obtain ⟨k, hk⟩ := List.mem_iff_getElem?.1 h
  obtain ⟨d, hd⟩ := Lib.digit_of_decFrom _ 0 u (dec_digits u) k b hk
  unfold Lib.digitVal at hd
  split at hd
  · assumption
  · cases hd
theorem digits_ne (u : Nat) : Lib.decDigits u ≠ [] := fun e => by
  have := Lib.decDigits_length u
  rw [e] at this
  have := Lib.nDigits_pos u
  simp at *
  omega
def numF (s : List UInt8) : Option Int :=
  let neg := decide (1 < s.length) && (s.head? == some 45)
  let t := if neg then s.drop 1 else s
  if t.length < 1 ∨ 8 < t.length then none else (Lib.decFrom 0 t).map fun (m : Nat) => if neg then -(m : Int) else m
def numV (s : List UInt8) : Int := (numF s).getD 0
theorem itoa_mem {v : Int} {b : UInt8} (h : b ∈ Lib.itoa v) : b.toNat = 45 ∨ (48 ≤ b.toNat ∧ b.toNat ≤ 57) := by
  unfold Lib.itoa at h
  split at h
  · rcases List.mem_cons.1 h with rfl | h
    · exact .inl rfl
    · exact .inr (digits_mem h)
  · exact .inr (digits_mem h)
theorem nDigits_pow : ∀ (k u : Nat), u < 10 ^ (k + 1) → Lib.nDigits u ≤ k + 1
  | 0, u, h => by rw [Lib.nDigits_small (by omega)]; omega
  | k + 1, u, h => by
    by_cases hu : u < 10
    · rw [Lib.nDigits_small hu]; omega
    · rw [Lib.nDigits_big hu]
      have := nDigits_pow k (u / 10) (by rw [Nat.pow_succ] at h; omega)
      omega
theorem nDigits_le {u : Nat} (h : u < 100000000) : Lib.nDigits u ≤ 8 := nDigits_pow 7 u (Nat.lt_of_lt_of_le h (by decide))
theorem num_itoa {v : Int} (h0 : -100000000 < v) (h1 : v < 100000000) : numF (Lib.itoa v) = some v := by
  by_cases hv : v < 0
  · obtain ⟨u, rfl⟩ : ∃ u : Nat, v = -(u : Int) := ⟨v.natAbs, by omega⟩
    rw [Lib.itoa_neg u (by omega)]
    have hl := Lib.decDigits_length u
    have h8 := nDigits_le (u := u) (by omega)
    have hp := Lib.nDigits_pos u
    unfold numF
    have hn : (decide (1 < (45 :: Lib.decDigits u).length) && ((45 :: Lib.decDigits u).head? == some 45)) = true := by
      rw [List.length_cons, hl, decide_eq_true (by omega)]
      rfl
    simp only [hn, if_true]
    rw [List.drop_succ_cons, List.drop_zero, if_neg (by omega), dec_digits]
    rfl
  · obtain ⟨u, rfl⟩ : ∃ u : Nat, v = (u : Int) := ⟨v.toNat, by omega⟩
    rw [Lib.itoa_nonneg]
    have hl := Lib.decDigits_length u
    have h8 := nDigits_le (u := u) (by omega)
    have hp := Lib.nDigits_pos u
    unfold numF
    have hn : (decide (1 < (Lib.decDigits u).length) && ((Lib.decDigits u).head? == some 45)) = false := by
      cases e : Lib.decDigits u with
      | nil => rfl
      | cons b l =>
        have hb := digits_mem (u := u) (b := b) (by rw [e]; simp)
        have : ((b :: l).head? == some 45) = false := by
          show (some b == some 45) = false
          have : b ≠ 45 := fun e => by rw [e] at hb; exact absurd hb.1 (by decide)
          simpa using this
        rw [this, Bool.and_false]
    simp only [hn, Bool.false_eq_true, if_false]
    rw [if_neg (by omega), dec_digits]
    rfl
theorem atoi_itoa {v : Int} (h0 : -100000000 < v) (h1 : v < 100000000) : Lib.atoiAll (Lib.itoa v) = .ok v := by
  have hlen : (Lib.itoa v).length ≤ 18 := by
    unfold Lib.itoa
    split
    · have := nDigits_le (u := v.natAbs) (by omega)
      rw [List.length_cons, Lib.decDigits_length]; omega
    · have := nDigits_le (u := v.toNat) (by omega)
      rw [Lib.decDigits_length]; omega
  rw [Lib.atoiAll_short _ hlen]
  have hd : ∀ u : Nat, Lib.decNat (Lib.decDigits u) = some u := fun u => by
    unfold Lib.decNat
    have := digits_ne u
    cases e : Lib.decDigits u with
    | nil => exact absurd e this
    | cons b l => rw [← e, dec_digits]; simp [e]
  have : Lib.atoi (Lib.itoa v) = some v := by
    by_cases hv : v < 0
    · obtain ⟨u, rfl⟩ : ∃ u : Nat, v = -(u : Int) := ⟨v.natAbs, by omega⟩
      rw [Lib.itoa_neg u (by omega)]
      show (if ((45 : UInt8) == 45) = true then (Lib.decNat (Lib.decDigits u)).map (fun (m : Nat) => -(m : Int)) else if ((45 : UInt8) == 43) = true then (Lib.decNat (Lib.decDigits u)).map (fun (m : Nat) => (m : Int)) else (Lib.decNat (45 :: Lib.decDigits u)).map (fun (m : Nat) => (m : Int))) = _
      rw [if_pos (by decide), hd]
      rfl
    · obtain ⟨u, rfl⟩ : ∃ u : Nat, v = (u : Int) := ⟨v.toNat, by omega⟩
      rw [Lib.itoa_nonneg]
      have h2 := hd u
      cases e : Lib.decDigits u with
      | nil => exact absurd e (digits_ne u)
      | cons b l =>
        have hb := digits_mem (u := u) (b := b) (by rw [e]; simp)
        rw [e] at h2
        show (if (b == 45) = true then (Lib.decNat l).map (fun (m : Nat) => -(m : Int)) else if (b == 43) = true then (Lib.decNat l).map (fun (m : Nat) => (m : Int)) else (Lib.decNat (b :: l)).map (fun (m : Nat) => (m : Int))) = _
        have n1 : (b == 45) = false := by
          have : b ≠ 45 := fun e => by rw [e] at hb; exact absurd hb.1 (by decide)
          simpa using this
        have n2 : (b == 43) = false := by
          have : b ≠ 43 := fun e => by rw [e] at hb; exact absurd hb.1 (by decide)
          simpa using this
        rw [n1, n2, if_neg (by decide), if_neg (by decide), h2]
        rfl
  rw [this]
  rfl
end Go.Proofs.YtpdpcgeeneajjaaDoor
end
section
namespace Go.Proofs.YtpdpcgeeneajjaaDoor
open Go.RowKit
abbrev IsBu (B b : Nat) (bs : List Value) (w : World) : Prop := Lib.IsBuilder 74 5 B b bs w
theorem bu_size : (Tryd.prog.info? 74).map (·.size) = some 2 := by kernel_rfl
theorem bu_lies : liesAt Tryd.prog Tryd.prog.depth 74 (2 / Tryd.prog.cellsOf 74) 0 74 1 = true := by kernel_rfl
set_option maxHeartbeats 1000000 in
set_option maxRecDepth 100000 in
theorem bu_check_used (b : Nat) (w : World) (h0 : w.cell? ⟨b, 0, none⟩ = some (.pointer (some ⟨b, 0, none⟩))) :
    Calls Tryd.prog 55 #[.pointer (some ⟨b, 0, none⟩)] w fun e w' => e = .returned (.tuple #[]) ∧ w' = w := by
  obtain ⟨j, hj, _⟩ := Option.map_eq_some_iff.1 bu_size
  go_enter Tryd.func55, Tryd.ntmps55
  go_wp2
  rw [Lib.run_neq_ptr_same w _ Tryd.underlying72 hj]
  go_wp2
  go_end0
  exact ⟨rfl, rfl⟩
set_option maxHeartbeats 1000000 in
set_option maxRecDepth 100000 in
theorem bu_check_fresh (b : Nat) (w : World) (h0 : w.cell? ⟨b, 0, none⟩ = some (.pointer none)) (hsh : w.shape? b = some (74, 2)) (hfz : w.frozen? ⟨b, 0, none⟩ = false) :
    Calls Tryd.prog 55 #[.pointer (some ⟨b, 0, none⟩)] w fun e w' => e = .returned (.tuple #[]) ∧ w' = w.setCell ⟨b, 0, none⟩ (.pointer (some ⟨b, 0, none⟩)) := by
  obtain ⟨j, hj, hjs⟩ := Option.map_eq_some_iff.1 bu_size
  go_enter Tryd.func55, Tryd.ntmps55
  go_wp2
  rw [Lib.run_to_unsafe w ⟨b, 0, none⟩ Tryd.underlying72 Tryd.underlying111 hj (by rw [hjs]; decide) hsh (Nat.zero_lt_succ 1)]
  simp only [Result.andThen]
  rw [Oper.upon_value]
  go_wp2
  rw [run_callFunc_extern Tryd.func65 (by kernel_rfl) (by kernel_rfl) (by kernel_rfl) (e := Extern.AbiNoEscape.same) (by kernel_rfl)]
  rw [Lib.run_noEscape]
  simp only [Result.andThen]
  rw [Oper.upon_value]
  go_wp2
  rw [Lib.run_from_unsafe w ⟨b, 0, none⟩ Tryd.underlying111 Tryd.underlying72 hj hsh bu_lies]
  simp only [Result.andThen]
  rw [Oper.upon_value]
  go_wp2
  go_end0
  exact ⟨rfl, rfl⟩
theorem bu_check (B b : Nat) (bs : List Value) (w : World) (h : IsBu B b bs w) :
    Calls Tryd.prog 55 #[.pointer (some ⟨b, 0, none⟩)] w fun e w' => e = .returned (.tuple #[]) ∧ (Lib.BuilderAt 74 5 B b (.pointer (some ⟨b, 0, none⟩)) bs w' ∧ Below B w w') := by
  rcases h with h | h
  · refine (bu_check_fresh b w h.cell0 h.shape h.frozen0).mono ?_
    rintro e w' ⟨rfl, rfl⟩
    exact ⟨rfl, h.used _, (Below.refl B w).setCell (p := ⟨b, 0, none⟩) h.1 _⟩
  · refine (bu_check_used b w h.cell0).mono ?_
    rintro e w' ⟨rfl, rfl⟩
    exact ⟨rfl, h, Below.refl B _⟩
set_option maxHeartbeats 2000000 in
set_option maxRecDepth 100000 in
theorem bu_byte (B b : Nat) (bs : List Value) (c : Int) (w : World) (h : IsBu B b bs w) (hlen : bs.length + 1 ≤ 140737488355328) (hBw : B ≤ w.heap.size) :
    Calls Tryd.prog 34 #[.pointer (some ⟨b, 0, none⟩), .int .u8 c] w fun e w' => e = .returned .nilIface ∧ IsBu B b (bs ++ [.int .u8 c]) w' ∧ Below B w w' := by
  obtain ⟨i0, hi, hz0, hz1, hz2⟩ := info_parts info_byte
  have CC := Lib.hid (bu_check B b bs w h)
  go_enter Tryd.func34, Tryd.ntmps34
  go_upto_region 2 with (go_at_call 55; refine CC.out.mono ?_; rintro e w1 ⟨rfl, h1, hb1⟩)
  obtain ⟨hB, v, hbk, hown, hne⟩ := h1
  have c0 : w1.cell? ⟨b, 0, none⟩ = some (.pointer (some ⟨b, 0, none⟩)) := by rw [Lib.cell_of_heap hbk]; rfl
  have c1 : w1.cell? ⟨b, 1, none⟩ = some v := by rw [Lib.cell_of_heap hbk]; rfl
  go_wp2_with (at_builtin; refine wpList_append_own _ rfl _ _ 22 rfl B 5 i0 (.int .u8 0) 1 1 Tryd.underlying22 hi hz0 hz1 hz2 rfl (by decide) _ _ _ rfl (hown.alloc _) ⟨w1.heap.size, 0, none⟩ 1 1 [.int .u8 c] rfl rfl ?c1 ?c2 ?c3 ?c4 ?c5 ?_)
  case c1 =>
    intro j u hj
    match j, hj with
    | 0, hj => simp at hj; subst hj; simp [Addr.add]
  case c2 => intro u hu; simp at hu; subst hu; rfl
  case c3 => unfold maxLen; omega
  case c4 => omega
  case c5 => have := hb1.size; simp; omega
  intro v' w2 hown' hgrow _
  have hlt : b < w1.heap.size := by
    rcases Nat.lt_or_ge b w1.heap.size with h' | h'
    · exact h'
    · simp [Array.getElem?_eq_none h'] at hbk
  have hb2 : w2.heap[b]? = some (.cells #[.pointer (some ⟨b, 0, none⟩), v] 74 (0, 0)) := by
    rw [hgrow.block b (by simp; omega) (fun e => hne e.symm), Lib.alloc_old w1 _ b hlt]
    exact hbk
  have d0 : w2.cell? ⟨b, 0, none⟩ = some (.pointer (some ⟨b, 0, none⟩)) := by rw [Lib.cell_of_heap hb2]; rfl
  have d1 : w2.cell? ⟨b, 1, none⟩ = some v := by rw [Lib.cell_of_heap hb2]; rfl
  have f1 : w2.frozen? ⟨b, 1, none⟩ = false := Lib.frozen_of_heap hb2 1
  obtain ⟨g, cap, rfl⟩ : ∃ g cap, v' = .slice (some ⟨g, 0, none⟩) (bs.length + 1) cap := by
    rcases hown'.2 with ⟨_, h0⟩ | ⟨g, cap, cur, hv, _⟩
    · omega
    · exact ⟨g, cap, hv⟩
  go_wp2
  go_ret
  refine ⟨rfl, .inr ?_, ?_⟩
  · exact Lib.BuilderAt.put (T := 74) (e := 5) hB hb2 (bs' := bs ++ [.int .u8 c]) (by simpa using hown') (by decide)
  · exact ((hb1.alloc (by have := hb1.size; omega) _).grown hgrow (by have := hb1.size; simp; omega) (fun k hk => (hown.lt k hk).1)).setCell (p := ⟨b, 1, none⟩) hB _
set_option maxHeartbeats 2000000 in
set_option maxRecDepth 100000 in
theorem bu_str (B b : Nat) (bs : List Value) (s : ByteArray) (w : World) (h : IsBu B b bs w) (hlen : bs.length + s.size ≤ 140737488355328) (hBw : B ≤ w.heap.size) :
    Calls Tryd.prog 32 #[.pointer (some ⟨b, 0, none⟩), .string s] w fun e w' => e = .returned (.tuple #[.int .i64 s.size, .nilIface]) ∧ IsBu B b (bs ++ Lib.strCells s) w' ∧ Below B w w' := by
  obtain ⟨i0, hi, hz0, hz1, hz2⟩ := info_parts info_byte
  have CC := Lib.hid (bu_check B b bs w h)
  go_enter Tryd.func32, Tryd.ntmps32
  go_upto_region 2 with (go_at_call 55; refine CC.out.mono ?_; rintro e w1 ⟨rfl, h1, hb1⟩)
  obtain ⟨hB, v, hbk, hown, hne⟩ := h1
  have c0 : w1.cell? ⟨b, 0, none⟩ = some (.pointer (some ⟨b, 0, none⟩)) := by rw [Lib.cell_of_heap hbk]; rfl
  have c1 : w1.cell? ⟨b, 1, none⟩ = some v := by rw [Lib.cell_of_heap hbk]; rfl
  go_wp2_with (at_builtin; refine Lib.wpList_append_own_string _ rfl _ _ 22 9 rfl B 5 i0 Tryd.underlying22 Tryd.underlying9 hi hz0 hz1 hz2 _ _ _ rfl hown s rfl ?c3 ?c4 ?c5 ?_)
  case c3 => unfold maxLen; omega
  case c4 => omega
  case c5 => have := hb1.size; omega
  intro v' w2 hown' hgrow _
  have hlt : b < w1.heap.size := by
    rcases Nat.lt_or_ge b w1.heap.size with h' | h'
    · exact h'
    · simp [Array.getElem?_eq_none h'] at hbk
  have hb2 : w2.heap[b]? = some (.cells #[.pointer (some ⟨b, 0, none⟩), v] 74 (0, 0)) := by
    rw [hgrow.block b hlt (fun e => hne e.symm)]
    exact hbk
  have d0 : w2.cell? ⟨b, 0, none⟩ = some (.pointer (some ⟨b, 0, none⟩)) := by rw [Lib.cell_of_heap hb2]; rfl
  have d1 : w2.cell? ⟨b, 1, none⟩ = some v := by rw [Lib.cell_of_heap hb2]; rfl
  have f1 : w2.frozen? ⟨b, 1, none⟩ = false := Lib.frozen_of_heap hb2 1
  obtain ⟨ao, n', cap, rfl⟩ : ∃ ao n' cap, v' = .slice ao n' cap := by
    rcases hown'.2 with ⟨hv, _⟩ | ⟨g, cap, cur, hv, _⟩
    · exact ⟨_, _, _, hv⟩
    · exact ⟨_, _, _, hv⟩
  go_wp2
  go_ret2
  refine ⟨rfl, .inr ?_, ?_⟩
  · exact Lib.BuilderAt.put (T := 74) (e := 5) hB hb2 (bs' := bs ++ Lib.strCells s) (by simpa [Lib.strCells_length] using hown') (by decide)
  · exact (hb1.grown hgrow (by have := hb1.size; omega) (fun k hk => (hown.lt k hk).1)).setCell (p := ⟨b, 1, none⟩) hB _
end Go.Proofs.YtpdpcgeeneajjaaDoor
end
