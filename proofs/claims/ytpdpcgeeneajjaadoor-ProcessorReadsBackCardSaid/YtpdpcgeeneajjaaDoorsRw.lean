/- instruction of the reference. Printed by gen_rw.py. -/
import Derived.Test.YtpdpcgeeneajjaaDoorsRutoE13
import Derived.Test.YtpdpcgeeneajjaaDoorsE24
import Derived.Deep.RegionHeld3
import Derived.Test.YtpdpcgeeneajjaaDoorsJ2
import Derived.OrdersHeld
set_option linter.unusedVariables false
set_option linter.unusedSimpArgs false
namespace Go.Proofs.YtpdpcgeeneajjaaDoor
open Go.RowKit
def RetIn (w : World) (r : Option Ins) (e : Ending) (w' : World) : Prop := ∃ i : Ins, i.ok ∧ e = .returned (.tuple #[i.v, .bool r.isSome]) ∧ (∀ j, r = some j → i = j) ∧ Below w.heap.size w w'
theorem opOf_none {p : List UInt8} (h : ∀ j, j < 12 → (opStr j).data.toList ≠ p) : opOf p = none := by
  cases e : opOf p with
  | none => rfl
  | some k => exact absurd (opOf_some e).2 (h k (opOf_some e).1)
theorem opOf_hit {p : List UInt8} {k : Nat} (hk : k < 12) (h : (opStr k).data.toList = p) : opOf p = some k := by rw [← h]; exact opOf_op hk
theorem instr_none {s p : List UInt8} {T : List (List UInt8)} (h : splF 32 s = p :: T) (hp : opOf p = none) : instrF s = none := by
  unfold instrF; rw [h]; simp only [List.headD_cons, hp]
theorem instr_hit {s p : List UInt8} {T : List (List UInt8)} {k : Nat} (h : splF 32 s = p :: T) (hp : opOf p = some k) : instrF s = if goodB s (insR k T) = true then some (insR k T) else none := by
  unfold instrF
  rw [h]
  show (match opOf p with | none => none | some k => if i : goodB s (insR k T) = true then some (insR k T) else none) = _
  rw [hp]
  by_cases hg : goodB s (insR k T) = true
  · rw [if_pos hg]; exact dif_pos hg
  · rw [if_neg hg]; exact dif_neg hg
theorem splF_mem {c : UInt8} : ∀ {s : List UInt8}, ∀ x ∈ splF c s, x.length ≤ s.length
  | [], x, h => by rw [List.mem_singleton.1 h]; exact Nat.le_refl _
  | b :: s, x, h => by
    have hm : ∀ y ∈ splF c s, y.length ≤ s.length := fun y hy => splF_mem y hy
    by_cases hb : b = c
    · subst hb
      rw [splF_hit] at h
      rcases List.mem_cons.1 h with rfl | h
      · exact Nat.zero_le _
      · have := hm x h; simp; omega
    · rw [splF_miss hb] at h
      rcases List.mem_cons.1 h with rfl | h
      · have hne := splF_ne c s
        cases e : splF c s with
        | nil => exact absurd e hne
        | cons a t =>
          have := hm a (by rw [e]; exact List.mem_cons_self ..)
          simp only [List.headD_cons, List.length_cons]; omega
      · have := hm x (List.mem_of_mem_tail h); simp; omega
theorem dec_lt : ∀ (l : List UInt8) (acc m : Nat), Lib.decFrom acc l = some m → m < (acc + 1) * 10 ^ l.length
  | [], acc, m, h => by
    simp only [Lib.decFrom, Option.some.injEq] at h
    subst h; simp
  | a :: l, acc, m, h => by
    unfold Lib.decFrom at h
    cases hd : Lib.digitVal a with
    | none => rw [hd] at h; cases h
    | some d =>
      rw [hd] at h
      have h9 : d ≤ 9 := by
        unfold Lib.digitVal at hd
        split at hd
        · injection hd with hd; omega
        · cases hd
      have h1 := dec_lt l _ m h
      have h2 : (acc * 10 + d + 1) * 10 ^ l.length ≤ ((acc + 1) * 10) * 10 ^ l.length := Nat.mul_le_mul_right _ (by omega)
      rw [List.length_cons, Nat.pow_succ, Nat.mul_comm (10 ^ l.length) 10, ← Nat.mul_assoc]
      omega
theorem num_bound (s : List UInt8) : -100000000 < numV s ∧ numV s < 100000000 := by
  unfold numV
  cases h : numF s with
  | none => exact ⟨by decide, by decide⟩
  | some v =>
    show -100000000 < v ∧ v < 100000000
    have e : numF s = numT (decide (1 < s.length) && (s.head? == some 45)) (if (decide (1 < s.length) && (s.head? == some 45)) = true then s.drop 1 else s) := rfl
    rw [e] at h
    generalize (if (decide (1 < s.length) && (s.head? == some 45)) = true then s.drop 1 else s) = t at h
    generalize (decide (1 < s.length) && (s.head? == some 45)) = neg at h
    unfold numT at h
    by_cases hl : t.length < 1 ∨ 8 < t.length
    · rw [if_pos hl] at h; cases h
    · rw [if_neg hl] at h
      obtain ⟨m, hm, he⟩ := Option.map_eq_some_iff.1 h
      have h1 := dec_lt _ 0 m hm
      have h2 := pow_lt8 (k := t.length) (v := m) (by omega) (by omega)
      rw [← he]
      split <;> omega
theorem zero_ok : Ins.zero.ok := by unfold Ins.ok Ins.zero I64; simp
def stR (k : Nat) (T : List (List UInt8)) : Nat → List (List UInt8)
  | 0 => T
  | 1 => (fieldR (kA k) T).2
  | _ => (fieldR (kB k) (fieldR (kA k) T).2).2
def stX (k : Nat) (T : List (List UInt8)) : Nat → Int
  | 0 => 0
  | _ => (fieldR (kA k) T).1
def stY (k : Nat) (T : List (List UInt8)) : Nat → Int
  | 0 | 1 => 0
  | _ => (fieldR (kB k) (fieldR (kA k) T).2).1
theorem list_or {α : Type} (l : List α) : l = [] ∨ ∃ a t, l = a :: t := by
  cases l with
  | nil => exact .inl rfl
  | cons a t => exact .inr ⟨a, t, rfl⟩
theorem StrsAt.past {w : World} {B : Option Addr} {l : List (List UInt8)} {g k : Nat} {u : Value} (h : StrsAt w B l) (hn : ∀ a, B = some a → a.block ≠ g) : StrsAt (w.setCell ⟨g, k, none⟩ u) B l := fun j x hj => by
  obtain ⟨ad, e, h1, h2⟩ := h j x hj
  refine ⟨ad, e, ?_, by rw [World.size_setCell]; exact h2⟩
  rw [World.cell?_setCell_other _ _ _ _ (fun e2 => hn ad e (by rw [← block_add ad j, ← e2]))]
  exact h1
theorem StrsAt.drew {w : World} {B : Option Addr} {l : List (List UInt8)} (h : StrsAt w B l) : StrsAt w.drew B l := h.grow ((Below.refl _ _).drew)
theorem lt_add {g c : Nat} {ad : Addr} (h : ∀ a, some ad = some a → a.block < g) : ∀ a, (if c = 1 then some ad else some (⟨ad.block, ad.off + 1, none⟩ : Addr)) = some a → a.block < g := fun a ha => by
  split at ha
  · exact h a ha
  · injection ha with ha; rw [← ha]; exact h ad rfl
theorem ne_add {g c : Nat} {ad : Addr} (h : ∀ a, some ad = some a → a.block < g) : ∀ a, (if c = 1 then some ad else Option.map (fun x => x.add 1) (some ad)) = some a → a.block ≠ g := fun a ha => by
  have := lt_add (c := c) h a ha
  omega
theorem fieldR_mem {K : Int} {T : List (List UInt8)} : ∀ x ∈ (fieldR K T).2, x ∈ T := fun x hx => by
  unfold fieldR at hx
  split at hx
  · exact hx
  · cases T with
    | nil => exact hx
    | cons a t => exact List.mem_cons_of_mem _ hx
theorem stR_mem {k : Nat} {T : List (List UInt8)} : ∀ j, ∀ x ∈ stR k T j, x ∈ T
  | 0, x, hx => hx
  | 1, x, hx => fieldR_mem x hx
  | _ + 2, x, hx => fieldR_mem x (fieldR_mem x hx)
theorem fieldR_zero (T : List (List UInt8)) : fieldR 0 T = (0, T) := rfl
theorem fieldR_nil {K : Int} : fieldR K [] = (0, []) := by unfold fieldR; split <;> rfl
theorem fieldR_cons {K : Int} (h : K ≠ 0) (t : List UInt8) (r : List (List UInt8)) : fieldR K (t :: r) = (numV (if K ≠ 4 ∧ 0 < t.length then t.drop 1 else t), r) := by unfold fieldR; rw [if_neg h]
theorem good_list {s : List UInt8} {i : Ins} (h : i.formed = true) : ((str (lineB i)).data.toList == (str s).data.toList) = goodB s i := by
  cases e : goodB s i with
  | true => rw [(good_iff.1 e).2]; exact beq_iff_eq.2 rfl
  | false =>
    refine beq_eq_false_iff_ne.2 fun h2 => ?_
    have : goodB s i = true := good_iff.2 ⟨h, h2⟩
    rw [e] at this; cases this
theorem z_bound : -100000000 < (0 : Int) ∧ (0 : Int) < 100000000 := ⟨by decide, by decide⟩
theorem fieldR_bound {K : Int} {T : List (List UInt8)} : -100000000 < (fieldR K T).1 ∧ (fieldR K T).1 < 100000000 := by
  unfold fieldR
  split
  · exact z_bound
  · cases T with
    | nil => exact z_bound
    | cons t r => exact num_bound _
theorem coefR_bound {K : Int} {T : List (List UInt8)} : -100000000 < coefR K T ∧ coefR K T < 100000000 := by
  unfold coefR
  split
  · cases T with
    | nil => exact z_bound
    | cons t r => exact num_bound _
  · exact z_bound
theorem insR_ok {k : Nat} {T : List (List UInt8)} (hk : k < 12) : (insR k T).ok := by
  have h1 := fieldR_bound (K := kA k) (T := T)
  have h2 := fieldR_bound (K := kB k) (T := (fieldR (kA k) T).2)
  have h3 := coefR_bound (K := kC k) (T := (fieldR (kB k) (fieldR (kA k) T).2).2)
  unfold Ins.ok insR I64
  refine ⟨?_, ?_, ?_, ?_⟩ <;> constructor <;> (simp only; omega)
theorem frozen_b {w w' : World} (hb : Below w.heap.size w w') {g k : Nat} (hg : g < w.heap.size) (h : w.frozen? ⟨g, k, none⟩ = false) : w'.frozen? ⟨g, k, none⟩ = false := (hb.frozen (p := ⟨g, k, none⟩) hg).trans h
theorem cell_b {w w' : World} (hb : Below w.heap.size w w') {a : Addr} {v : Value} (h : w.cell? a = some v) : w'.cell? a = some v := (hb.cell (lt_of_cell h)).trans h
@[irreducible] def cv (w : World) (a : Addr) : Value := (w.cell? a).getD undef
theorem cv_is {w : World} {a : Addr} {v : Value} (h : w.cell? a = some v) : w.cell? a = some (cv w a) := by unfold cv; rw [h]; rfl
theorem rs_keep {w w' : World} {g q : Nat} {v0 v1 v2 v3 : Value} (hb : Below w.heap.size w w') (h : w.cell? ⟨g, 0, none⟩ = some v0 ∧ w.cell? ⟨g, 1, none⟩ = some v1 ∧ w.cell? ⟨g, 2, none⟩ = some v2 ∧ w.cell? ⟨g, 3, none⟩ = some v3 ∧ w.cell? ⟨q, 0, none⟩ = some (cv w ⟨q, 0, none⟩) ∧ w.cell? ⟨q, 1, none⟩ = some (cv w ⟨q, 1, none⟩) ∧ w.cell? ⟨q, 2, none⟩ = some (cv w ⟨q, 2, none⟩) ∧ w.cell? ⟨q, 3, none⟩ = some (cv w ⟨q, 3, none⟩) ∧ w.frozen? ⟨q, 0, none⟩ = false ∧ w.frozen? ⟨q, 1, none⟩ = false ∧ w.frozen? ⟨q, 2, none⟩ = false ∧ w.frozen? ⟨q, 3, none⟩ = false) : w'.cell? ⟨g, 0, none⟩ = some v0 ∧ w'.cell? ⟨g, 1, none⟩ = some v1 ∧ w'.cell? ⟨g, 2, none⟩ = some v2 ∧ w'.cell? ⟨g, 3, none⟩ = some v3 ∧ w'.cell? ⟨q, 0, none⟩ = some (cv w' ⟨q, 0, none⟩) ∧ w'.cell? ⟨q, 1, none⟩ = some (cv w' ⟨q, 1, none⟩) ∧ w'.cell? ⟨q, 2, none⟩ = some (cv w' ⟨q, 2, none⟩) ∧ w'.cell? ⟨q, 3, none⟩ = some (cv w' ⟨q, 3, none⟩) ∧ w'.frozen? ⟨q, 0, none⟩ = false ∧ w'.frozen? ⟨q, 1, none⟩ = false ∧ w'.frozen? ⟨q, 2, none⟩ = false ∧ w'.frozen? ⟨q, 3, none⟩ = false := by
  obtain ⟨a0, a1, a2, a3, b0, b1, b2, b3, c0, c1, c2, c3⟩ := h
  exact ⟨cell_b hb a0, cell_b hb a1, cell_b hb a2, cell_b hb a3, cv_is (cell_b hb b0), cv_is (cell_b hb b1), cv_is (cell_b hb b2), cv_is (cell_b hb b3), frozen_b hb (lt_of_cell b0) c0, frozen_b hb (lt_of_cell b0) c1, frozen_b hb (lt_of_cell b0) c2, frozen_b hb (lt_of_cell b0) c3⟩
theorem some_set {w : World} {a b : Addr} {u v : Value} (h : w.cell? a = some v) : ∃ x, (w.setCell b u).cell? a = some x := by
  by_cases e : b = a
  · subst e; exact ⟨u, World.cell?_setCell_same _ _ _ h⟩
  · exact ⟨v, (World.cell?_setCell_other _ _ _ _ e).trans h⟩
theorem rs_set {w : World} {g q k : Nat} {v0 v1 v2 v3 u : Value} (hn : g ≠ q) (h : w.cell? ⟨g, 0, none⟩ = some v0 ∧ w.cell? ⟨g, 1, none⟩ = some v1 ∧ w.cell? ⟨g, 2, none⟩ = some v2 ∧ w.cell? ⟨g, 3, none⟩ = some v3 ∧ w.cell? ⟨q, 0, none⟩ = some (cv w ⟨q, 0, none⟩) ∧ w.cell? ⟨q, 1, none⟩ = some (cv w ⟨q, 1, none⟩) ∧ w.cell? ⟨q, 2, none⟩ = some (cv w ⟨q, 2, none⟩) ∧ w.cell? ⟨q, 3, none⟩ = some (cv w ⟨q, 3, none⟩) ∧ w.frozen? ⟨q, 0, none⟩ = false ∧ w.frozen? ⟨q, 1, none⟩ = false ∧ w.frozen? ⟨q, 2, none⟩ = false ∧ w.frozen? ⟨q, 3, none⟩ = false) : (w.setCell ⟨q, k, none⟩ u).cell? ⟨g, 0, none⟩ = some v0 ∧ (w.setCell ⟨q, k, none⟩ u).cell? ⟨g, 1, none⟩ = some v1 ∧ (w.setCell ⟨q, k, none⟩ u).cell? ⟨g, 2, none⟩ = some v2 ∧ (w.setCell ⟨q, k, none⟩ u).cell? ⟨g, 3, none⟩ = some v3 ∧ (w.setCell ⟨q, k, none⟩ u).cell? ⟨q, 0, none⟩ = some (cv (w.setCell ⟨q, k, none⟩ u) ⟨q, 0, none⟩) ∧ (w.setCell ⟨q, k, none⟩ u).cell? ⟨q, 1, none⟩ = some (cv (w.setCell ⟨q, k, none⟩ u) ⟨q, 1, none⟩) ∧ (w.setCell ⟨q, k, none⟩ u).cell? ⟨q, 2, none⟩ = some (cv (w.setCell ⟨q, k, none⟩ u) ⟨q, 2, none⟩) ∧ (w.setCell ⟨q, k, none⟩ u).cell? ⟨q, 3, none⟩ = some (cv (w.setCell ⟨q, k, none⟩ u) ⟨q, 3, none⟩) ∧ (w.setCell ⟨q, k, none⟩ u).frozen? ⟨q, 0, none⟩ = false ∧ (w.setCell ⟨q, k, none⟩ u).frozen? ⟨q, 1, none⟩ = false ∧ (w.setCell ⟨q, k, none⟩ u).frozen? ⟨q, 2, none⟩ = false ∧ (w.setCell ⟨q, k, none⟩ u).frozen? ⟨q, 3, none⟩ = false := by
  obtain ⟨a0, a1, a2, a3, b0, b1, b2, b3, c0, c1, c2, c3⟩ := h
  have hx : ∀ j v, w.cell? ⟨g, j, none⟩ = some v → (w.setCell ⟨q, k, none⟩ u).cell? ⟨g, j, none⟩ = some v := fun j v hv =>
    (World.cell?_setCell_other _ _ _ _ (fun e => hn (by injection e with e1 _ _; exact e1.symm))).trans hv
  have hy : ∀ j v, w.cell? ⟨q, j, none⟩ = some v → (w.setCell ⟨q, k, none⟩ u).cell? ⟨q, j, none⟩ = some (cv (w.setCell ⟨q, k, none⟩ u) ⟨q, j, none⟩) := fun j v hv => cv_is (some_set hv).choose_spec
  exact ⟨hx 0 _ a0, hx 1 _ a1, hx 2 _ a2, hx 3 _ a3, hy 0 _ b0, hy 1 _ b1, hy 2 _ b2, hy 3 _ b3, by rw [World.frozen?_setCell]; exact c0, by rw [World.frozen?_setCell]; exact c1, by rw [World.frozen?_setCell]; exact c2, by rw [World.frozen?_setCell]; exact c3⟩
theorem box_four {w : World} {g : Nat} {i : Ins} (h : Box w g Ins.zero.cells) : Box ((((w.setCell ⟨g, 0, none⟩ (.int .i64 i.op)).setCell ⟨g, 1, none⟩ (.int .i64 i.a)).setCell ⟨g, 2, none⟩ (.int .i64 i.b)).setCell ⟨g, 3, none⟩ (.int .i64 i.imm)) g i.cells :=
  (((h.set (k := 0) (u := .int .i64 i.op) (by show 0 < 4; omega)).set (k := 1) (u := .int .i64 i.a) (by show 1 < 4; omega)).set (k := 2) (u := .int .i64 i.b) (by show 2 < 4; omega)).set (k := 3) (u := .int .i64 i.imm) (by show 3 < 4; omega)
theorem below_four {w0 w : World} {g : Nat} {i : Ins} (h : Below g w0 w) : Below g w0 ((((w.setCell ⟨g, 0, none⟩ (.int .i64 i.op)).setCell ⟨g, 1, none⟩ (.int .i64 i.a)).setCell ⟨g, 2, none⟩ (.int .i64 i.b)).setCell ⟨g, 3, none⟩ (.int .i64 i.imm)) :=
  (((h.setCell (p := ⟨g, 0, none⟩) (Nat.le_refl _) _).setCell (p := ⟨g, 1, none⟩) (Nat.le_refl _) _).setCell (p := ⟨g, 2, none⟩) (Nat.le_refl _) _).setCell (p := ⟨g, 3, none⟩) (Nat.le_refl _) _
theorem anyX_oneR {P : Program} {md : Region.Mode} {ops : Array Oper} {Q : Exit → Act → World → Prop} {S : World → Prop} {fuel : Nat} {listed : Array Bool} {a : Act} {w : World} {i : Nat} {o : Oper} (R : Value → World → Prop) (hi : ops[i]? = some o) (hr : Region.ready md ops listed = [i]) (hg : o.guard = none) (hs : ∀ cs b, o.op ≠ .select cs b) (hd : ∀ d, o.dst = some d → d < a.tmps.size)
    (h : wpList P #[o] (fun e c w' => e = .normal ∧ ∃ v, c = a.put o.dst v ∧ R v w') [o] a w) (hR : ∀ v w', R v w' → S w' ∧ wpAnyH P md ops Q S fuel (listed.setIfInBounds i true) (a.put o.dst v) w') : wpAnyH P md ops Q S (fuel + 1) listed a w := by
  refine wpAnyH_all hr (by simp) fun j hj => ?_
  obtain rfl := List.mem_singleton.1 hj
  unfold wpOp
  have hw : Region.wanted o (yielded ops a.tmps) = true := by simp [Region.wanted, hg]
  simp only [hi, hw, if_true]
  exact .inl (wp_move_frame hg hs ⟨rfl, fun _ _ => rfl⟩ hd h hR)
set_option maxRecDepth 100000 in
set_option maxHeartbeats 8000000 in
theorem r38_instruction (s : List UInt8) (w : World) (hs : s.length ≤ 100000) : Calls Tryd.prog 27 #[.string (str s)] w (RetIn w (instrF s)) := by
  obtain ⟨p0, T, hPT⟩ : ∃ p0 T, splF 32 s = p0 :: T := by
    cases e : splF 32 s with
    | nil => exact absurd e (splF_ne 32 s)
    | cons a t => exact ⟨a, t, rfl⟩
  have hpl : ∀ x ∈ T, x.length ≤ 100000 := fun x hx => Nat.le_trans (splF_mem (c := 32) (s := s) x (by rw [hPT]; exact List.mem_cons_of_mem _ hx)) hs
  have hTl : T.length ≤ 100000 := by
    have h1 := splF_length 32 s
    have h2 : s.count 32 ≤ s.length := List.count_le_length
    rw [hPT, List.length_cons] at h1
    omega
  have CS : Hid (∀ w1, Calls Tryd.prog 26 #[.string (str s), .int .u8 32] w1 (RetStrs w1 (p0 :: T))) := Lib.hid fun w1 => by
    have := r38_split s 32 w1 (by omega)
    rw [hPT] at this; exact this
  have HPT := Lib.hid hPT
  have HPL := Lib.hid hpl
  have HTL := Lib.hid hTl
  have HSS := Lib.hid hs
  clear hPT hpl hTl hs
  go_enter Tryd.func27, Tryd.ntmps27
  go_upto_region 1 with fail
  have HR0 : Hid (Box (w.alloc (.cells Ins.zero.cells.toArray 50)) w.heap.size Ins.zero.cells) := Lib.hid (Box.new rfl)
  have HB0 : Hid (Below w.heap.size w (w.alloc (.cells Ins.zero.cells.toArray 50))) := Lib.hid ((Below.refl _ _).alloc (Nat.le_refl _) _)
  change Code.wp _ _ _ _ (w.alloc (.cells Ins.zero.cells.toArray 50))
  generalize w.alloc (.cells Ins.zero.cells.toArray 50) = W0 at HR0 HB0 ⊢
  go_upto_region 2 with (go_at_call 26; (with_reducible refine (CS.out _).mono ?_); rintro e1 w1 ⟨A, c, rfl, hc, hA, hb1⟩)
  have HRA := Lib.hid (HR0.out.keep hb1)
  have HBA := Lib.hid (below_then HB0.out hb1)
  obtain ⟨ad, rfl, hp0, hadb⟩ := hA 0 p0 rfl
  have hp0' : w1.cell? ad = some (.string (str p0)) := by simpa [Addr.add] using hp0
  have HA := Lib.hid hA
  have hcl : T.length + 1 ≤ c := hc
  clear hA hp0 hc hb1
  have CF : Hid (∀ k : Nat, k < 12 → Calls Tryd.prog 37 #[.int .i64 (k : Int)] w1 fun e w' => e = .returned (.tuple #[.string (opStr k), .int .i64 (kA k), .int .i64 (kB k), .bool (kC k == 5)]) ∧ w1 = w') := Lib.hid fun k hk => by
    have h := r38_form (k : Int) w1
    unfold formR at h
    rw [if_pos ⟨by omega, by omega⟩, Int.toNat_natCast] at h
    exact h
  go_wp2_with fail
  go_loopw [5, 6, 7, 8, 9] (fun o x6 x7 x8 x9 wr => ∃ k : Nat, k ≤ 12 ∧ o = .int .i64 k ∧ Hid (∀ j, j < k → (opStr j).data.toList ≠ p0) ∧ w1 = wr) (fun o x6 x7 x8 x9 _ => 12 - (intOf o).toNat)
  case atStart => exact ⟨0, by omega, rfl, Lib.hid fun j hj => absurd hj (Nat.not_lt_zero _), rfl⟩
  case round =>
    obtain ⟨k, hk, rfl, HNO, rfl⟩ := hrel
    by_cases hlt : k < 12
    · have q1 : (k : Int) ≤ 11 := by omega
      have wk : IntKind.i64.wrap ((k : Int) + 1) = ((k + 1 : Nat) : Int) := (IntWalk.i64_in _ (by omega)).trans (by omega)
      obtain ⟨so, hso⟩ : ∃ x, opStr k = x := ⟨_, rfl⟩
      obtain ⟨KA, hKA⟩ : ∃ x, kA k = x := ⟨_, rfl⟩
      obtain ⟨KB, hKB⟩ : ∃ x, kB k = x := ⟨_, rfl⟩
      obtain ⟨C, hC⟩ : ∃ x, (kC k == 5) = x := ⟨_, rfl⟩
      obtain ⟨sp, hsp⟩ : ∃ x, str p0 = x := ⟨_, rfl⟩
      have CFk := Lib.hid (CF.out k hlt)
      rw [hso, hKA, hKB, hC] at CFk
      rw [hsp] at hp0'
      by_cases heq : (opStr k).data.toList = p0
      · have hqs : (so.toList == sp.toList) = true := by
          rw [← hso, ← hsp, ByteArray.toList_eq, ByteArray.toList_eq]
          exact beq_iff_eq.2 heq
        have hop := opOf_hit hlt heq
        have HIN := Lib.hid (instr_hit HPT.out hop)
        have HT0 : Hid (StrsAt w1 (if c = 1 then some ad else some (ad.add 1)) T) := Lib.hid (by
          have := HA.out.tailL (c := c) hcl
          exact this)
        go_upto_region 8 with (first
          | (go_at_call 37; (with_reducible refine CFk.out.mono ?_); rintro e2 w2 ⟨rfl, rfl⟩)
          | ((with_reducible show wpList _ _ _ (Oper.mk _ (.store _ _ _) _ _ _ _ :: _) _ _); refine st_ins (w := w1.alloc (.cells Ins.zero.cells.toArray 50)) (g := w1.heap.size) (i := Ins.zero) (j := ⟨k, 0, 0, 0⟩) (Box.new rfl) rfl _ _ rfl rfl rfl ?_; intro W2 b2 p2))
        have hb2 := put_facts ((Below.refl w1.heap.size w1).alloc (Nat.le_refl _) (.cells Ins.zero.cells.toArray 50)) (Nat.le_refl _) p2
        have HT2 := Lib.hid (HT0.out.grow hb2)
        have HR2 := Lib.hid (HRA.out.keep hb2)
        have HB2 := Lib.hid (below_then HBA.out hb2)
        have HI2 := Lib.hid b2
        have hg10 : w1.heap.size < W2.heap.size := b2.1
        have hg2 : w.heap.size < w1.heap.size := HRA.out.1
        generalize w1.heap.size = g10 at HI2 hg10 hg2 hadb ⊢
        clear b2 p2 hb2 HT0 HRA HBA HA CF CFk hp0' hqs hop heq HNO CS HPT
        go_upto_region 11 with fail
        have HFX := Lib.hid ((Box.new (w := W2) (t := 98) (vs := #[.pointer (some ⟨g10, 1, none⟩), .pointer (some ⟨g10, 2, none⟩)]) rfl).alloc (.cells #[.int .i64 KA, .int .i64 KB] 3))
        have HKX := Lib.hid (Box.new (w := W2.alloc (.cells #[.pointer (some ⟨g10, 1, none⟩), .pointer (some ⟨g10, 2, none⟩)] 98)) (t := 3) (vs := #[.int .i64 KA, .int .i64 KB]) rfl)
        have hb3 : Below W2.heap.size W2 ((W2.alloc (.cells #[.pointer (some ⟨g10, 1, none⟩), .pointer (some ⟨g10, 2, none⟩)] 98)).alloc (.cells #[.int .i64 KA, .int .i64 KB] 3)) := ((Below.refl _ _).alloc (Nat.le_refl _) _).alloc (by simp) _
        obtain ⟨B1, hB1⟩ : ∃ B, (if c = 1 then some ad else some (⟨ad.block, ad.off + 1, none⟩ : Addr)) = B := ⟨_, rfl⟩
        rw [hB1]
        have HBL : Hid (∀ a, B1 = some a → a.block < g10) := Lib.hid fun a ha => by
          rw [← hB1] at ha
          split at ha
          · injection ha with ha; rw [← ha]; exact hadb
          · injection ha with ha; rw [← ha]; exact hadb
        have HT2' : Hid (StrsAt W2 B1 T) := Lib.hid (by rw [← hB1]; exact HT2.out)
        rw [World.size_alloc] at HKX
        have HT3 := Lib.hid (HT2'.out.grow hb3)
        have HI3 := Lib.hid (HI2.out.keep hb3)
        have HR3 := Lib.hid (HR2.out.keep hb3)
        have HB3 := Lib.hid (below_then HB2.out hb3)
        have hgF : W2.heap.size ≠ g10 := by omega
        have hgK : W2.heap.size + 1 ≠ g10 := by omega
        obtain ⟨gF, hgFe⟩ : ∃ g, W2.heap.size = g := ⟨_, rfl⟩
        rw [hgFe] at hgF hgK HFX HKX ⊢
        obtain ⟨gK, hgKe⟩ : ∃ g, gF + 1 = g := ⟨_, rfl⟩
        rw [hgKe] at hgK HKX ⊢
        generalize (W2.alloc (.cells #[.pointer (some ⟨g10, 1, none⟩), .pointer (some ⟨g10, 2, none⟩)] 98)).alloc (.cells #[.int .i64 KA, .int .i64 KB] 3) = W3 at HFX HKX HT3 HI3 HR3 HB3 ⊢
        clear hb3 HT2 HT2' HI2 HR2 HB2 hB1 hgFe hgKe HB0 HR0 hg10
        have hc1 : T.length ≤ c - 1 := by omega
        generalize c - 1 = c1 at hc1 ⊢
        go_wp2_with fail
        go_loopw [11, 14, 15] (fun rs kk tt wr => ∃ (j : Nat) (B : Option Addr) (n c : Nat), j ≤ 2 ∧ kk = .int .i64 j ∧ rs = .slice B n c ∧ Hid (n = (stR k T j).length) ∧ n ≤ c ∧ Hid (StrsAt wr B (stR k T j)) ∧ Hid (∀ a, B = some a → a.block < g10) ∧ Hid (Box wr g10 (⟨k, stX k T j, stY k T j, 0⟩ : Ins).cells) ∧ Hid (Box wr w.heap.size Ins.zero.cells) ∧
            Hid (Box wr gF [.pointer (some ⟨g10, 1, none⟩), .pointer (some ⟨g10, 2, none⟩)]) ∧ Hid (Box wr gK [.int .i64 KA, .int .i64 KB]) ∧ Hid (Below w.heap.size w wr)) (fun rs kk tt _ => 2 - (intOf kk).toNat)
        case atStart => exact ⟨0, B1, T.length, c1, by omega, rfl, rfl, Lib.hid rfl, hc1, HT3, HBL, HI3, HR3, HFX, HKX, HB3⟩
        case round =>
          obtain ⟨j, B, n, c2, hj, rfl, rfl, HN, hnc, HT, HBB, HI, HRX, HF, HK, HB⟩ := hrel
          clear HT3 HI3 HR3 HB3 HFX HKX
          have hj3 : j = 0 ∨ j = 1 ∨ j = 2 := by omega
          rcases hj3 with rfl | rfl | rfl
          · -- field 0
            have ck := HK.out.c2
            have ck0 := ck.1
            have hrs : stR k T 0 = T := rfl
            have hnx : stR k T 1 = (fieldR KA T).2 := by rw [← hKA]; rfl
            have hvx : stX k T 1 = (fieldR KA T).1 := by rw [← hKA]; rfl
            rw [hrs] at HN HT
            by_cases hK0 : KA = 0
            · rw [hK0] at ck0 hnx hvx
              rw [fieldR_zero] at hnx hvx
              clear ck
              go_wp2_with fail
              go_roundw
              case rel => exact ⟨1, B, n, c2, by omega, rfl, rfl, Lib.hid (by rw [hnx]; exact HN.out), hnc, Lib.hid (by rw [hnx]; exact HT.out), HBB, Lib.hid (by have h := HI.out; rw [show stX k T 1 = 0 from hvx]; exact h), HRX, HF, HK, HB⟩
              case measure => simp [intOf]
            · clear ck
              rcases list_or T with hR | ⟨t, r, hR⟩
              · skip
                rw [hR] at HN HT
                have hn0 : n = 0 := HN.out
                subst hn0
                replace hnx := hnx.trans (show (fieldR KA T).2 = [] by rw [hR, fieldR_nil])
                replace hvx := hvx.trans (show (fieldR KA T).1 = 0 by rw [hR, fieldR_nil])
                go_wp2_with fail
                go_roundw
                case rel => exact ⟨1, B, 0, c2, by omega, rfl, rfl, Lib.hid (by rw [hnx]; rfl), hnc, Lib.hid (by rw [hnx]; exact HT.out), HBB, Lib.hid (by have h := HI.out; rw [show stX k T 1 = 0 from hvx]; exact h), HRX, HF, HK, HB⟩
                case measure => simp [intOf]
              · skip
                rw [hR] at HN HT
                obtain ⟨n', hn'⟩ : ∃ n', n = n' + 1 := ⟨r.length, HN.out⟩
                subst hn'
                replace hnx := hnx.trans (show (fieldR KA T).2 = r by rw [hR, fieldR_cons hK0])
                replace hvx := hvx.trans (show (fieldR KA T).1 = numV (if KA ≠ 4 ∧ 0 < t.length then t.drop 1 else t) by rw [hR, fieldR_cons hK0])
                obtain ⟨ad2, rfl, hct, had2⟩ := HT.out 0 t rfl
                have hct' : wr.cell? ad2 = some (.string (str t)) := by simpa [Addr.add] using hct
                have cf := HF.out.c2
                have cf0 := cf.1
                have htl : t.length ≤ 100000 := HPL.out t (stR_mem 0 t (by rw [hrs, hR]; exact List.mem_cons_self ..))
                have hnn : ¬ ((n' : Int) + 1 = 0) := by omega
                obtain ⟨m, hm⟩ : ∃ m, t.length = m := ⟨_, rfl⟩
                have hmz : (str t).size = m := (str_size t).trans hm
                have HRL := Lib.hid hR
                clear hR
                by_cases h4 : KA = 4
                · have htt : (if KA ≠ 4 ∧ 0 < t.length then t.drop 1 else t) = t := if_neg fun h => h.1 h4
                  rw [htt] at hvx
                  clear ck0
                  have ck0 : wr.cell? ⟨gK, 0, none⟩ = some (.int .i64 4) := by rw [← h4]; exact HK.out.c2.1
                  clear h4 htt
                  obtain ⟨NV, hNV⟩ : ∃ x, numV t = x := ⟨_, rfl⟩
                  obtain ⟨NB, hNB⟩ : ∃ x, (numF t).isSome = x := ⟨_, rfl⟩
                  have CN : Hid (∀ w1, Calls Tryd.prog 51 #[.string (str t)] w1 fun e w' => e = .returned (.tuple #[.int .i64 NV, .bool NB]) ∧ w1 = w') := Lib.hid fun w1 => by
                    rw [← hNV, ← hNB]; exact r38_number t w1 (by omega)
                  rw [hNV] at hvx
                  go_upto_region 18 with fail
                  have hx1 : wr.cell? ⟨g10, 1, none⟩ = some (.int .i64 (stX k T 0)) := HI.out.2.1 1
                  have hx2 : wr.frozen? ⟨g10, 1, none⟩ = false := HI.out.2.2 1
                  go_region_with (go_at_call 51; (with_reducible refine (CN.out _).mono ?_); rintro e1 w3 ⟨rfl, rfl⟩)
                  all_goals
                    go_wp2_with fail
                    go_roundw
                    case rel =>
                      have hi := (HI.out.set (k := 1) (u := .int .i64 NV) (by show 1 < 4; omega)).drew
                      exact ⟨1, _, n', c2 - 1, by omega, rfl, rfl, Lib.hid (by rw [hnx]; have := HN.out; simpa using this), by omega, Lib.hid (by rw [hnx]; exact ((HT.out.tailL (c := c2) (HN.out ▸ hnc)).past (ne_add HBB.out)).drew), Lib.hid (lt_add HBB.out), Lib.hid (by rw [hvx]; exact hi), Lib.hid (HRX.out.past (by omega)).drew, Lib.hid (HF.out.past (by omega)).drew, Lib.hid (HK.out.past (by omega)).drew, Lib.hid ((HB.out.setCell (p := ⟨g10, 1, none⟩) (by show w.heap.size ≤ g10; omega) _).drew)⟩
                    case measure => simp [intOf]
                · have d4 : decide (KA = 4) = false := decide_eq_false h4
                  by_cases hm0 : m = 0
                  · have htt : (if KA ≠ 4 ∧ 0 < t.length then t.drop 1 else t) = t := if_neg fun h => by have := h.2; omega
                    rw [htt] at hvx
                    clear htt
                    subst hm0
                    obtain ⟨NV, hNV⟩ : ∃ x, numV t = x := ⟨_, rfl⟩
                    obtain ⟨NB, hNB⟩ : ∃ x, (numF t).isSome = x := ⟨_, rfl⟩
                    have CN : Hid (∀ w1, Calls Tryd.prog 51 #[.string (str t)] w1 fun e w' => e = .returned (.tuple #[.int .i64 NV, .bool NB]) ∧ w1 = w') := Lib.hid fun w1 => by
                      rw [← hNV, ← hNB]; exact r38_number t w1 (by omega)
                    rw [hNV] at hvx
                    go_upto_region 18 with fail
                    have hx1 : wr.cell? ⟨g10, 1, none⟩ = some (.int .i64 (stX k T 0)) := HI.out.2.1 1
                    have hx2 : wr.frozen? ⟨g10, 1, none⟩ = false := HI.out.2.2 1
                    go_region_with (go_at_call 51; (with_reducible refine (CN.out _).mono ?_); rintro e1 w3 ⟨rfl, rfl⟩)
                    all_goals
                      go_wp2_with fail
                      go_roundw
                      case rel =>
                        have hi := (HI.out.set (k := 1) (u := .int .i64 NV) (by show 1 < 4; omega)).drew
                        exact ⟨1, _, n', c2 - 1, by omega, rfl, rfl, Lib.hid (by rw [hnx]; have := HN.out; simpa using this), by omega, Lib.hid (by rw [hnx]; exact ((HT.out.tailL (c := c2) (HN.out ▸ hnc)).past (ne_add HBB.out)).drew), Lib.hid (lt_add HBB.out), Lib.hid (by rw [hvx]; exact hi), Lib.hid (HRX.out.past (by omega)).drew, Lib.hid (HF.out.past (by omega)).drew, Lib.hid (HK.out.past (by omega)).drew, Lib.hid ((HB.out.setCell (p := ⟨g10, 1, none⟩) (by show w.heap.size ≤ g10; omega) _).drew)⟩
                      case measure => simp [intOf]
                  · have htt : (if KA ≠ 4 ∧ 0 < t.length then t.drop 1 else t) = t.tail := by rw [if_pos ⟨h4, by omega⟩, List.drop_one]
                    rw [htt] at hvx
                    clear htt
                    have q0 : (0 : Int) < (m : Int) := by omega
                    have d0 : decide ((0 : Int) < (m : Int)) = true := decide_eq_true q0
                    have hm1 : 1 ≤ t.length := by omega
                    obtain ⟨NV, hNV⟩ : ∃ x, numV t.tail = x := ⟨_, rfl⟩
                    obtain ⟨NB, hNB⟩ : ∃ x, (numF t.tail).isSome = x := ⟨_, rfl⟩
                    have CN : Hid (∀ w1, Calls Tryd.prog 51 #[.string (str t.tail)] w1 fun e w' => e = .returned (.tuple #[.int .i64 NV, .bool NB]) ∧ w1 = w') := Lib.hid fun w1 => by
                      rw [← hNV, ← hNB]; exact r38_number t.tail w1 (by rw [List.length_tail]; omega)
                    rw [hNV] at hvx
                    go_upto_region 18 with ((with_reducible show wpList _ _ _ (Oper.mk _ (.slice _ _ _ _ _) _ _ _ _ :: _) _ _); refine wp_slF rfl _ _ rfl t 1 hm1 rfl rfl ?_)
                    have hx1 : wr.cell? ⟨g10, 1, none⟩ = some (.int .i64 (stX k T 0)) := HI.out.2.1 1
                    have hx2 : wr.frozen? ⟨g10, 1, none⟩ = false := HI.out.2.2 1
                    go_region_with (go_at_call 51; (with_reducible refine (CN.out _).mono ?_); rintro e1 w3 ⟨rfl, rfl⟩)
                    all_goals
                      go_wp2_with fail
                      go_roundw
                      case rel =>
                        have hi := (HI.out.set (k := 1) (u := .int .i64 NV) (by show 1 < 4; omega)).drew
                        exact ⟨1, _, n', c2 - 1, by omega, rfl, rfl, Lib.hid (by rw [hnx]; have := HN.out; simpa using this), by omega, Lib.hid (by rw [hnx]; exact ((HT.out.tailL (c := c2) (HN.out ▸ hnc)).past (ne_add HBB.out)).drew), Lib.hid (lt_add HBB.out), Lib.hid (by rw [hvx]; exact hi), Lib.hid (HRX.out.past (by omega)).drew, Lib.hid (HF.out.past (by omega)).drew, Lib.hid (HK.out.past (by omega)).drew, Lib.hid ((HB.out.setCell (p := ⟨g10, 1, none⟩) (by show w.heap.size ≤ g10; omega) _).drew)⟩
                      case measure => simp [intOf]
          · -- field 1
            have ck := HK.out.c2
            have ck0 := ck.2
            have hrs : stR k T 1 = (stR k T 1) := rfl
            have hnx : stR k T 2 = (fieldR KB (stR k T 1)).2 := by rw [← hKB]; rfl
            have hvx : stY k T 2 = (fieldR KB (stR k T 1)).1 := by rw [← hKB]; rfl
            rw [hrs] at HN HT
            by_cases hK0 : KB = 0
            · rw [hK0] at ck0 hnx hvx
              rw [fieldR_zero] at hnx hvx
              clear ck
              go_wp2_with fail
              go_roundw
              case rel => exact ⟨2, B, n, c2, by omega, rfl, rfl, Lib.hid (by rw [hnx]; exact HN.out), hnc, Lib.hid (by rw [hnx]; exact HT.out), HBB, Lib.hid (by have h := HI.out; rw [show stY k T 2 = 0 from hvx]; exact h), HRX, HF, HK, HB⟩
              case measure => simp [intOf]
            · clear ck
              rcases list_or (stR k T 1) with hR | ⟨t, r, hR⟩
              · skip
                rw [hR] at HN HT
                have hn0 : n = 0 := HN.out
                subst hn0
                replace hnx := hnx.trans (show (fieldR KB (stR k T 1)).2 = [] by rw [hR, fieldR_nil])
                replace hvx := hvx.trans (show (fieldR KB (stR k T 1)).1 = 0 by rw [hR, fieldR_nil])
                go_wp2_with fail
                go_roundw
                case rel => exact ⟨2, B, 0, c2, by omega, rfl, rfl, Lib.hid (by rw [hnx]; rfl), hnc, Lib.hid (by rw [hnx]; exact HT.out), HBB, Lib.hid (by have h := HI.out; rw [show stY k T 2 = 0 from hvx]; exact h), HRX, HF, HK, HB⟩
                case measure => simp [intOf]
              · skip
                rw [hR] at HN HT
                obtain ⟨n', hn'⟩ : ∃ n', n = n' + 1 := ⟨r.length, HN.out⟩
                subst hn'
                replace hnx := hnx.trans (show (fieldR KB (stR k T 1)).2 = r by rw [hR, fieldR_cons hK0])
                replace hvx := hvx.trans (show (fieldR KB (stR k T 1)).1 = numV (if KB ≠ 4 ∧ 0 < t.length then t.drop 1 else t) by rw [hR, fieldR_cons hK0])
                obtain ⟨ad2, rfl, hct, had2⟩ := HT.out 0 t rfl
                have hct' : wr.cell? ad2 = some (.string (str t)) := by simpa [Addr.add] using hct
                have cf := HF.out.c2
                have cf0 := cf.2
                have htl : t.length ≤ 100000 := HPL.out t (stR_mem 1 t (by rw [hrs, hR]; exact List.mem_cons_self ..))
                have hnn : ¬ ((n' : Int) + 1 = 0) := by omega
                obtain ⟨m, hm⟩ : ∃ m, t.length = m := ⟨_, rfl⟩
                have hmz : (str t).size = m := (str_size t).trans hm
                have HRL := Lib.hid hR
                clear hR
                by_cases h4 : KB = 4
                · have htt : (if KB ≠ 4 ∧ 0 < t.length then t.drop 1 else t) = t := if_neg fun h => h.1 h4
                  rw [htt] at hvx
                  clear ck0
                  have ck0 : wr.cell? ⟨gK, 1, none⟩ = some (.int .i64 4) := by rw [← h4]; exact HK.out.c2.2
                  clear h4 htt
                  obtain ⟨NV, hNV⟩ : ∃ x, numV t = x := ⟨_, rfl⟩
                  obtain ⟨NB, hNB⟩ : ∃ x, (numF t).isSome = x := ⟨_, rfl⟩
                  have CN : Hid (∀ w1, Calls Tryd.prog 51 #[.string (str t)] w1 fun e w' => e = .returned (.tuple #[.int .i64 NV, .bool NB]) ∧ w1 = w') := Lib.hid fun w1 => by
                    rw [← hNV, ← hNB]; exact r38_number t w1 (by omega)
                  rw [hNV] at hvx
                  go_upto_region 18 with fail
                  have hx1 : wr.cell? ⟨g10, 2, none⟩ = some (.int .i64 (stY k T 1)) := HI.out.2.1 2
                  have hx2 : wr.frozen? ⟨g10, 2, none⟩ = false := HI.out.2.2 2
                  go_region_with (go_at_call 51; (with_reducible refine (CN.out _).mono ?_); rintro e1 w3 ⟨rfl, rfl⟩)
                  all_goals
                    go_wp2_with fail
                    go_roundw
                    case rel =>
                      have hi := (HI.out.set (k := 2) (u := .int .i64 NV) (by show 2 < 4; omega)).drew
                      exact ⟨2, _, n', c2 - 1, by omega, rfl, rfl, Lib.hid (by rw [hnx]; have := HN.out; simpa using this), by omega, Lib.hid (by rw [hnx]; exact ((HT.out.tailL (c := c2) (HN.out ▸ hnc)).past (ne_add HBB.out)).drew), Lib.hid (lt_add HBB.out), Lib.hid (by rw [hvx]; exact hi), Lib.hid (HRX.out.past (by omega)).drew, Lib.hid (HF.out.past (by omega)).drew, Lib.hid (HK.out.past (by omega)).drew, Lib.hid ((HB.out.setCell (p := ⟨g10, 2, none⟩) (by show w.heap.size ≤ g10; omega) _).drew)⟩
                    case measure => simp [intOf]
                · have d4 : decide (KB = 4) = false := decide_eq_false h4
                  by_cases hm0 : m = 0
                  · have htt : (if KB ≠ 4 ∧ 0 < t.length then t.drop 1 else t) = t := if_neg fun h => by have := h.2; omega
                    rw [htt] at hvx
                    clear htt
                    subst hm0
                    obtain ⟨NV, hNV⟩ : ∃ x, numV t = x := ⟨_, rfl⟩
                    obtain ⟨NB, hNB⟩ : ∃ x, (numF t).isSome = x := ⟨_, rfl⟩
                    have CN : Hid (∀ w1, Calls Tryd.prog 51 #[.string (str t)] w1 fun e w' => e = .returned (.tuple #[.int .i64 NV, .bool NB]) ∧ w1 = w') := Lib.hid fun w1 => by
                      rw [← hNV, ← hNB]; exact r38_number t w1 (by omega)
                    rw [hNV] at hvx
                    go_upto_region 18 with fail
                    have hx1 : wr.cell? ⟨g10, 2, none⟩ = some (.int .i64 (stY k T 1)) := HI.out.2.1 2
                    have hx2 : wr.frozen? ⟨g10, 2, none⟩ = false := HI.out.2.2 2
                    go_region_with (go_at_call 51; (with_reducible refine (CN.out _).mono ?_); rintro e1 w3 ⟨rfl, rfl⟩)
                    all_goals
                      go_wp2_with fail
                      go_roundw
                      case rel =>
                        have hi := (HI.out.set (k := 2) (u := .int .i64 NV) (by show 2 < 4; omega)).drew
                        exact ⟨2, _, n', c2 - 1, by omega, rfl, rfl, Lib.hid (by rw [hnx]; have := HN.out; simpa using this), by omega, Lib.hid (by rw [hnx]; exact ((HT.out.tailL (c := c2) (HN.out ▸ hnc)).past (ne_add HBB.out)).drew), Lib.hid (lt_add HBB.out), Lib.hid (by rw [hvx]; exact hi), Lib.hid (HRX.out.past (by omega)).drew, Lib.hid (HF.out.past (by omega)).drew, Lib.hid (HK.out.past (by omega)).drew, Lib.hid ((HB.out.setCell (p := ⟨g10, 2, none⟩) (by show w.heap.size ≤ g10; omega) _).drew)⟩
                      case measure => simp [intOf]
                  · have htt : (if KB ≠ 4 ∧ 0 < t.length then t.drop 1 else t) = t.tail := by rw [if_pos ⟨h4, by omega⟩, List.drop_one]
                    rw [htt] at hvx
                    clear htt
                    have q0 : (0 : Int) < (m : Int) := by omega
                    have d0 : decide ((0 : Int) < (m : Int)) = true := decide_eq_true q0
                    have hm1 : 1 ≤ t.length := by omega
                    obtain ⟨NV, hNV⟩ : ∃ x, numV t.tail = x := ⟨_, rfl⟩
                    obtain ⟨NB, hNB⟩ : ∃ x, (numF t.tail).isSome = x := ⟨_, rfl⟩
                    have CN : Hid (∀ w1, Calls Tryd.prog 51 #[.string (str t.tail)] w1 fun e w' => e = .returned (.tuple #[.int .i64 NV, .bool NB]) ∧ w1 = w') := Lib.hid fun w1 => by
                      rw [← hNV, ← hNB]; exact r38_number t.tail w1 (by rw [List.length_tail]; omega)
                    rw [hNV] at hvx
                    go_upto_region 18 with ((with_reducible show wpList _ _ _ (Oper.mk _ (.slice _ _ _ _ _) _ _ _ _ :: _) _ _); refine wp_slF rfl _ _ rfl t 1 hm1 rfl rfl ?_)
                    have hx1 : wr.cell? ⟨g10, 2, none⟩ = some (.int .i64 (stY k T 1)) := HI.out.2.1 2
                    have hx2 : wr.frozen? ⟨g10, 2, none⟩ = false := HI.out.2.2 2
                    go_region_with (go_at_call 51; (with_reducible refine (CN.out _).mono ?_); rintro e1 w3 ⟨rfl, rfl⟩)
                    all_goals
                      go_wp2_with fail
                      go_roundw
                      case rel =>
                        have hi := (HI.out.set (k := 2) (u := .int .i64 NV) (by show 2 < 4; omega)).drew
                        exact ⟨2, _, n', c2 - 1, by omega, rfl, rfl, Lib.hid (by rw [hnx]; have := HN.out; simpa using this), by omega, Lib.hid (by rw [hnx]; exact ((HT.out.tailL (c := c2) (HN.out ▸ hnc)).past (ne_add HBB.out)).drew), Lib.hid (lt_add HBB.out), Lib.hid (by rw [hvx]; exact hi), Lib.hid (HRX.out.past (by omega)).drew, Lib.hid (HF.out.past (by omega)).drew, Lib.hid (HK.out.past (by omega)).drew, Lib.hid ((HB.out.setCell (p := ⟨g10, 2, none⟩) (by show w.heap.size ≤ g10; omega) _).drew)⟩
                      case measure => simp [intOf]
          · have hlo : ¬ (2 : Int) < 2 := by omega
            obtain ⟨D, hD⟩ : ∃ D, (C && decide (0 < n)) = D := ⟨_, rfl⟩
            have HD := Lib.hid hD
            clear hD
            go_upto_region 20 with fail
            go_cut [90] (fun s wx => s = .bool D ∧ wx = wr)
            case first =>
              obtain ⟨x, hx⟩ : ∃ x, decide (0 < n) = x := ⟨_, rfl⟩
              have hx2 : decide ((0 : Int) < (n : Int)) = x := by rw [← hx]; exact decide_eq_decide.2 (by omega)
              have hD := HD.out
              rw [hx] at hD
              cases C with
              | false =>
                go_wp2_with fail
                go_meet
                exact ⟨by first | (simp; done) | simpa using hD.symm, rfl⟩
              | true =>
                go_wp2_with fail
                go_meet
                exact ⟨by first | (simp; done) | simpa using hD, rfl⟩
            case rest =>
              obtain ⟨rfl, rfl⟩ := hcut
              go_upto_if 90 with fail
              go_cut [] (fun wx => Hid (Box wx g10 (insR k T).cells) ∧ Hid (Box wx w.heap.size Ins.zero.cells) ∧ Hid (Below w.heap.size w wx))
              case first =>
                have hins : insR k T = ⟨k, stX k T 2, stY k T 2, coefR (kC k) (stR k T 2)⟩ := rfl
                cases D with
                | false =>
                  have hco : coefR (kC k) (stR k T 2) = 0 := by
                    have h1 := HD.out
                    rw [← hC] at h1
                    unfold coefR
                    by_cases h5 : kC k = 5
                    · rw [if_pos h5]
                      rw [h5] at h1
                      have h2 : ¬ 0 < n := by simpa using h1
                      have h3 := HN.out
                      rw [show stR k T 2 = [] from List.length_eq_zero_iff.1 (by omega)]
                    · rw [if_neg h5]
                  rw [hco] at hins
                  go_wp2_with fail
                  go_meet
                  exact ⟨Lib.hid (by rw [hins]; exact HI.out), HRX, HB⟩
                | true =>
                  have h1 := HD.out
                  rw [Bool.and_eq_true, decide_eq_true_eq] at h1
                  obtain ⟨h1, h2⟩ := h1
                  have h5 : kC k = 5 := by rw [← hC] at h1; simpa using h1
                  obtain hR | ⟨t, r, hR⟩ := list_or (stR k T 2)
                  · have := HN.out; rw [hR] at this; simp at this; omega
                  have hco : coefR (kC k) (stR k T 2) = numV t := by unfold coefR; rw [if_pos h5, hR]
                  have ht : t.length ≤ 100000 := HPL.out t (stR_mem 2 t (by rw [hR]; exact List.mem_cons_self ..))
                  rw [hR] at HT
                  obtain ⟨ad2, rfl, hct, had2⟩ := HT.out 0 t rfl
                  have hct' : wc.cell? ad2 = some (.string (str t)) := by simpa [Addr.add] using hct
                  obtain ⟨NV, hNV⟩ : ∃ x, numV t = x := ⟨_, rfl⟩
                  obtain ⟨NB, hNB⟩ : ∃ x, (numF t).isSome = x := ⟨_, rfl⟩
                  have CN : Hid (∀ w1, Calls Tryd.prog 51 #[.string (str t)] w1 fun e w' => e = .returned (.tuple #[.int .i64 NV, .bool NB]) ∧ w1 = w') := Lib.hid fun w1 => by
                    rw [← hNV, ← hNB]; exact r38_number t w1 (by omega)
                  rw [hco, hNV] at hins
                  have HINS := Lib.hid hins
                  have q0 : (0 : Int) < (n : Int) := by omega
                  have hx1 : wc.cell? ⟨g10, 3, none⟩ = some (.int .i64 0) := HI.out.2.1 3
                  have hx2 : wc.frozen? ⟨g10, 3, none⟩ = false := HI.out.2.2 3
                  clear hins hco hNV hNB hct hR h1 h5
                  go_wp2_with (go_at_call 51; (with_reducible refine (CN.out _).mono ?_); rintro e1 w3 ⟨rfl, rfl⟩)
                  go_meet
                  have hi := HI.out.set (k := 3) (u := .int .i64 NV) (by show 3 < 4; omega)
                  exact ⟨Lib.hid (by rw [HINS.out]; exact hi), Lib.hid (HRX.out.past (by omega)), Lib.hid (HB.out.setCell (p := ⟨g10, 3, none⟩) (by show w.heap.size ≤ g10; omega) _)⟩
              case rest =>
                obtain ⟨HIW, HRW, HBW⟩ := hcut
                go_upto_region 22 with fail
                clear HI HRX HB HF HK HT HN HBB HD
                have HOK : Hid (insR k T).ok := Lib.hid (insR_ok hlt)
                generalize insR k T = i at HIN HIW HOK
                obtain ⟨x, hx⟩ : ∃ x, i.formed = x := ⟨_, rfl⟩
                have CFO : Hid (∀ w1, Calls Tryd.prog 22 #[i.v] w1 fun e w' => e = .returned (.bool x) ∧ Below w1.heap.size w1 w') := Lib.hid fun w1 => by rw [← hx]; exact r38_Formed i w1 HOK.out
                have ev : i.v = .agg #[.int .i64 i.op, .int .i64 i.a, .int .i64 i.b, .int .i64 i.imm] := rfl
                obtain ⟨c0, c1, c2, c3⟩ := HIW.out.c4
                cases x with
                | false =>
                  rw [ev] at CFO
                  have HRR : Hid (instrF s = none) := Lib.hid (by rw [HIN.out, if_neg]; intro h; have := (good_iff.1 h).1; rw [hx] at this; cases this)
                  clear hx ev c0 c1 c2 c3
                  obtain ⟨dsc, hd1, hd2⟩ := row_ins
                  have hS0 : wc.drew.rangeAt g10 0 i.cells := HIW.out.drew.range (fun j v hj => by rw [Nat.zero_add]; exact hj)
                  refine wp_region_held (S := fun w' => w'.rangeAt g10 0 i.cells) (by kernel_rfl) ?_
                  show wpAnyH Tryd.prog .any _ _ _ 11 #[false, false, false, false, false, false, false, false, false, false, false] _ wc.drew
                  refine wpAnyH_take (i := 0) (oi := _) (v := i.v) rfl (by kernel_rfl) (by kernel_rfl) (by kernel_rfl) (fun _ _ _ h => h) (yieldsIf_load_mid (by kernel_rfl) 50 _ rfl g10 0 rfl i.cells dsc (fun w h => h) hd1 hd2 size_ins) hS0 ?_
                  show wpAnyH Tryd.prog .any _ _ _ _ _ (Act.put _ (some 99) _) _
                  simp only [Act.put, List.setIfInBounds_toArray, List.set_cons_zero, List.set_cons_succ]
                  refine wpAnyH_take (i := 1) (oi := _) (v := i.v) rfl (by kernel_rfl) (by kernel_rfl) (by kernel_rfl) (fun _ _ _ h => h) (yieldsIf_load_mid (by kernel_rfl) 50 _ rfl g10 0 rfl i.cells dsc (fun w h => h) hd1 hd2 size_ins) hS0 ?_
                  show wpAnyH Tryd.prog .any _ _ _ _ _ (Act.put _ (some 100) _) _
                  simp only [Act.put, List.setIfInBounds_toArray, List.set_cons_zero, List.set_cons_succ]
                  refine anyX_oneR (i := 2) (fun v w' => v = .bool false ∧ Below wc.drew.heap.size wc.drew w') rfl (by kernel_rfl) rfl (fun cs b h => by cases h) (fun d h => by cases h; exact of_decide_eq_true rfl) ?_ ?_
                  · go_wp2_with (go_at_call 22; (with_reducible refine (CFO.out _).mono ?_); rintro e1 w3 ⟨rfl, hb3⟩)
                    exact hb3
                  rintro _ w3 ⟨rfl, hb3⟩
                  have HI3 := Lib.hid (HIW.out.drew.keep hb3)
                  have HR3 := Lib.hid (HRW.out.drew.keep hb3)
                  have hS3 : w3.rangeAt g10 0 i.cells := HI3.out.range (fun j v hj => by rw [Nat.zero_add]; exact hj)
                  refine ⟨hS3, ?_⟩
                  show wpAnyH Tryd.prog .any _ _ _ _ _ (Act.put _ (some 101) _) _
                  simp only [Act.put, List.setIfInBounds_toArray, List.set_cons_zero, List.set_cons_succ]
                  refine wpAnyH_take (i := 3) (oi := _) (v := (.bool false)) rfl (by kernel_rfl) (by kernel_rfl) (by kernel_rfl) (fun _ _ _ h => h) (Or.inl ⟨by kernel_rfl, fun w _ => by kernel_rfl⟩) hS3 ?_
                  show wpAnyH Tryd.prog .any _ _ _ _ _ (Act.put _ (some 102) _) _
                  simp only [Act.put, List.setIfInBounds_toArray, List.set_cons_zero, List.set_cons_succ]
                  refine wpAnyH_take (i := 4) (oi := _) (v := undef) rfl (by kernel_rfl) (by kernel_rfl) (by kernel_rfl) (fun _ _ _ h => h) (Or.inr ⟨by kernel_rfl, rfl⟩) hS3 ?_
                  show wpAnyH Tryd.prog .any _ _ _ _ _ (Act.put _ (some 103) _) _
                  simp only [Act.put, List.setIfInBounds_toArray, List.set_cons_zero, List.set_cons_succ]
                  refine wpAnyH_take (i := 6) (oi := _) (v := undef) rfl (by kernel_rfl) (by kernel_rfl) (by kernel_rfl) (fun _ _ _ h => h) (Or.inr ⟨by kernel_rfl, rfl⟩) hS3 ?_
                  show wpAnyH Tryd.prog .any _ _ _ _ _ (Act.put _ (some 105) _) _
                  simp only [Act.put, List.setIfInBounds_toArray, List.set_cons_zero, List.set_cons_succ]
                  refine wpAnyH_take (i := 5) (oi := _) (v := undef) rfl (by kernel_rfl) (by kernel_rfl) (by kernel_rfl) (fun _ _ _ h => h) (Or.inr ⟨by kernel_rfl, rfl⟩) hS3 ?_
                  show wpAnyH Tryd.prog .any _ _ _ _ _ (Act.put _ (some 104) _) _
                  simp only [Act.put, List.setIfInBounds_toArray, List.set_cons_zero, List.set_cons_succ]
                  refine wpAnyH_take (i := 7) (oi := _) (v := undef) rfl (by kernel_rfl) (by kernel_rfl) (by kernel_rfl) (fun _ _ _ h => h) (Or.inr ⟨by kernel_rfl, rfl⟩) hS3 ?_
                  show wpAnyH Tryd.prog .any _ _ _ _ _ (Act.put _ (some 106) _) _
                  simp only [Act.put, List.setIfInBounds_toArray, List.set_cons_zero, List.set_cons_succ]
                  refine wpAnyH_take (i := 8) (oi := _) (v := (.bool false)) rfl (by kernel_rfl) (by kernel_rfl) (by kernel_rfl) (fun _ _ _ h => h) (Or.inl ⟨by kernel_rfl, fun w _ => by kernel_rfl⟩) hS3 ?_
                  show wpAnyH Tryd.prog .any _ _ _ _ _ (Act.put _ (some 107) _) _
                  simp only [Act.put, List.setIfInBounds_toArray, List.set_cons_zero, List.set_cons_succ]
                  refine anyX_oneR (i := 9) (fun _ w' => Box w' w.heap.size i.cells ∧ w3.grownBy w' (some w.heap.size)) rfl (by kernel_rfl) rfl (fun cs b h => by cases h) (fun d h => by cases h) ?_ ?_
                  · refine st_ins (i := Ins.zero) (j := i) HR3.out (by kernel_rfl) (.tmp 2) (.tmp 99) (by kernel_rfl) (by kernel_rfl) (by kernel_rfl) ?_
                    intro W4 b4 p4
                    exact wpList_nil ⟨rfl, undef, rfl, b4, p4⟩
                  rintro _ W4 ⟨b4, p4⟩
                  have hS4 : W4.rangeAt g10 0 i.cells := (HI3.out.grown p4 (fun e => by injection e with e; omega)).range (fun j v hj => by rw [Nat.zero_add]; exact hj)
                  refine ⟨hS4, ?_⟩
                  show wpAnyH Tryd.prog .any _ _ _ _ _ (Act.put _ none _) _
                  simp only [Act.put, List.setIfInBounds_toArray, List.set_cons_zero, List.set_cons_succ]
                  refine wpAnyH_take (i := 10) (oi := _) (v := (.bool false)) rfl (by kernel_rfl) (by kernel_rfl) (by kernel_rfl) (fun _ _ _ h => h) (Or.inl ⟨by kernel_rfl, fun w _ => by kernel_rfl⟩) hS4 ?_
                  show wpAnyH Tryd.prog .any _ _ _ _ _ (Act.put _ (some 3) _) _
                  simp only [Act.put, List.setIfInBounds_toArray, List.set_cons_zero, List.set_cons_succ]
                  refine wpAnyH_done (by kernel_rfl) ?_ _
                  have hbw : Below w.heap.size w W4 := put_facts (below_then HBW.out.drew hb3) (Nat.le_refl _) p4
                  have HBWX := Lib.hid hbw
                  have HB4 := Lib.hid b4
                  clear hd1 hd2 hS0 hS3 hS4 hbw b4 p4 hb3 HI3 HR3
                  simp only [Exit.then]
                  refine (‹∀ (a : Act) (w : World), Code.wp Tryd.prog Code.ret _ a w → _› _ _ ?_)
                  refine wp_ret ?_
                  show bodyPost Tryd.prog Tryd.f27 (RetIn w (instrF s)) Exit.ret _ W4
                  obtain ⟨dsc, hd1, hd2⟩ := row_ins
                  have b4 := HB4.out
                  have hbw := HBWX.out
                  refine bodyPost_ret (resCT rfl _ _ _ (g := w.heap.size) (v := i.v) rfl (res_box _ b4 dsc hd1 hd2 size_ins)) rfl ?_
                  rw [HRR.out]
                  exact ⟨i, HOK.out, rfl, fun j hj => (by cases hj), hbw⟩
                | true =>
                  have HG := Lib.hid hx
                  have CLI : Hid (∀ w1, Calls Tryd.prog 17 #[i.v] w1 fun e w' => e = .returned (.string (str (lineB i))) ∧ Below w1.heap.size w1 w') := Lib.hid fun w1 => r38_Line i w1 HG.out
                  obtain ⟨Y, hY⟩ : ∃ Y, goodB s i = Y := ⟨_, rfl⟩
                  have hY2 : ((str (lineB i)).toList == (str s).toList) = Y := by
                    rw [← hY, ByteArray.toList_eq, ByteArray.toList_eq]
                    exact good_list HG.out
                  have HRR : Hid (instrF s = if Y = true then some i else none) := Lib.hid (by rw [HIN.out, hY])
                  generalize str (lineB i) = sl at CLI hY2
                  generalize hss : str s = ss at hY2 ⊢
                  rw [ev] at CFO CLI
                  clear hx ev hY
                  have hne2 : g10 ≠ w.heap.size := by omega
                  obtain ⟨z0, z1, z2, z3⟩ := HRW.out.c4
                  have hS0 := rs_keep ((Below.refl _ _).drew) ⟨c0, c1, c2, c3, cv_is z0, cv_is z1, cv_is z2, cv_is z3, HRW.out.2.2 0, HRW.out.2.2 1, HRW.out.2.2 2, HRW.out.2.2 3⟩
                  go_region_held3 (fun w' => w'.cell? ⟨g10, 0, none⟩ = some (.int .i64 i.op) ∧ w'.cell? ⟨g10, 1, none⟩ = some (.int .i64 i.a) ∧ w'.cell? ⟨g10, 2, none⟩ = some (.int .i64 i.b) ∧ w'.cell? ⟨g10, 3, none⟩ = some (.int .i64 i.imm) ∧ w'.cell? ⟨w.heap.size, 0, none⟩ = some (cv w' ⟨w.heap.size, 0, none⟩) ∧ w'.cell? ⟨w.heap.size, 1, none⟩ = some (cv w' ⟨w.heap.size, 1, none⟩) ∧ w'.cell? ⟨w.heap.size, 2, none⟩ = some (cv w' ⟨w.heap.size, 2, none⟩) ∧ w'.cell? ⟨w.heap.size, 3, none⟩ = some (cv w' ⟨w.heap.size, 3, none⟩) ∧ w'.frozen? ⟨w.heap.size, 0, none⟩ = false ∧ w'.frozen? ⟨w.heap.size, 1, none⟩ = false ∧ w'.frozen? ⟨w.heap.size, 2, none⟩ = false ∧ w'.frozen? ⟨w.heap.size, 3, none⟩ = false) (first | with_reducible exact hS0 | with_reducible exact rs_keep hb5 (by with_reducible assumption) | with_reducible exact rs_keep hb3 (by with_reducible assumption) | with_reducible exact rs_set hne2 (rs_set hne2 (rs_set hne2 (rs_set hne2 (by with_reducible assumption))))) (first
                    | (go_at_call 22; (with_reducible refine (CFO.out _).mono ?_); rintro e1 w3 ⟨rfl, hb3⟩)
                    | (go_at_call 17; (with_reducible refine (CLI.out _).mono ?_); rintro e2 w5 ⟨rfl, hb5⟩))
                  have b4 := box_four (i := i) ((HRW.out.drew.keep hb3).keep hb5)
                  have hbw : Below w.heap.size w w5 := below_then (below_then HBW.out.drew hb3) hb5
                  simp only [Exit.then]
                  refine (‹∀ (a : Act) (w : World), Code.wp Tryd.prog Code.ret _ a w → _› _ _ ?_)
                  refine wp_ret ?_
                  show bodyPost Tryd.prog Tryd.f27 (RetIn w (instrF s)) Exit.ret _ _
                  obtain ⟨dsc, hd1, hd2⟩ := row_ins
                  refine bodyPost_ret (resCT rfl _ _ _ (g := w.heap.size) (v := i.v) rfl (res_box _ b4 dsc hd1 hd2 size_ins)) rfl ?_
                  rw [HRR.out]
                  exact ⟨i, HOK.out, by cases Y <;> rfl, fun j hj => (by cases Y with | true => injection hj | false => cases hj), below_four hbw⟩
      · have hqs : (so.toList == sp.toList) = false := by
          rw [← hso, ← hsp, ByteArray.toList_eq, ByteArray.toList_eq]
          exact beq_eq_false_iff_ne.2 heq
        go_wp2_with (go_at_call 37; (with_reducible refine CFk.out.mono ?_); rintro e2 w2 ⟨rfl, rfl⟩)
        go_roundw
        case rel => exact ⟨k + 1, by omega, rfl, Lib.hid fun j hj => by rcases Nat.lt_succ_iff_lt_or_eq.1 hj with h | h; (· exact HNO.out j h); (· subst h; exact heq), by trivial⟩
        case measure => simp [intOf]; omega
    · obtain rfl : k = 12 := by omega
      have hno := opOf_none HNO.out
      have hin := instr_none HPT.out hno
      go_wp2_with ((with_reducible show wpList _ _ _ (Oper.mk _ (.store _ _ _) _ _ _ _ :: _) _ _); refine st_ins (i := Ins.zero) (j := Ins.zero) HRA.out rfl _ _ rfl rfl rfl ?_; intro W2 b2 p2)
      obtain ⟨dsc, hd1, hd2⟩ := row_ins
      refine bodyPost_ret (resCT rfl _ _ W2 (g := w.heap.size) (v := Ins.zero.v) rfl (res_box _ b2 dsc hd1 hd2 size_ins)) rfl ?_
      rw [hin]
      exact ⟨Ins.zero, zero_ok, rfl, fun j hj => (by cases hj), put_facts HBA.out (Nat.le_refl _) p2⟩
end Go.Proofs.YtpdpcgeeneajjaaDoor
