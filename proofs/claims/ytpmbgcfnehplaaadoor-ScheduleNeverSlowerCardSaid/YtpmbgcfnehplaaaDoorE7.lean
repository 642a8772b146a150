/- What depends on what: the small functions of package schedule and of the reference of layer 40; the relation of both. -/
import Derived.Test.YtpmbgcfnehplaaaDoorE6
import Derived.Laws.EntriesVeiled
set_option linter.unusedVariables false
set_option linter.unusedSimpArgs false
namespace Go.Proofs.YtpmbgcfnehplaaaDoor
open Go.RowKit

def sumOp (op : Int) : Bool := op == 2 || (op == 3 || op == 4)
/-- v is written by the one and read or written by the other. -/
def touchF (s : Bool) (v : Int) (r w : List Int) : Bool := !(s && v == 8) && (r.contains v || w.contains v)
def depF (i j : Ins) : Bool := (i.op == 0 || j.op == 0) || (i.wt.any (fun v => touchF (sumOp i.op && sumOp j.op) v j.rd j.wt) || j.wt.any (fun v => touchF (sumOp i.op && sumOp j.op) v i.rd i.wt))
/-- As the reference has it. -/
def conF (i j : Ins) : Bool := (i.op == 0 || j.op == 0) || (i.wt.any (fun v => (j.rd.contains v || j.wt.contains v) && !(v == 8 && sumOp i.op && sumOp j.op)) || j.wt.any (fun v => i.rd.contains v && !(v == 8 && sumOp i.op && sumOp j.op)))
theorem conF_dep (i j : Ins) : conF i j = depF i j := by
  unfold conF depF
  by_cases h : (i.op == 0 || j.op == 0) = true
  · rw [h]; rfl
  · have h : (i.op == 0 || j.op == 0) = false := by simpa using h
    rw [h, Bool.false_or, Bool.false_or]
    have e1 : ∀ v : Int, (v == 8 && sumOp i.op && sumOp j.op) = ((sumOp i.op && sumOp j.op) && v == 8) := fun v => by
      cases (v == 8) <;> cases sumOp i.op <;> cases sumOp j.op <;> rfl
    generalize (sumOp i.op && sumOp j.op) = s at e1 ⊢
    have e2 : (fun v => (j.rd.contains v || j.wt.contains v) && !(v == 8 && sumOp i.op && sumOp j.op)) = fun v => touchF s v j.rd j.wt := by
      funext v; rw [e1]; unfold touchF; rw [Bool.and_comm]
    rw [e2]
    have e3 : (fun v => i.rd.contains v && !(v == 8 && sumOp i.op && sumOp j.op)) = fun v => !(s && v == 8) && i.rd.contains v := by
      funext v; rw [e1, Bool.and_comm]
    rw [e3]
    rw [Bool.eq_iff_iff]
    simp only [Bool.or_eq_true, List.any_eq_true]
    constructor
    · rintro (⟨v, h1, h2⟩ | ⟨v, h1, h2⟩)
      · exact .inl ⟨v, h1, h2⟩
      · refine .inr ⟨v, h1, ?_⟩
        unfold touchF
        rw [Bool.and_eq_true] at h2 ⊢
        exact ⟨h2.1, by rw [h2.2]; rfl⟩
    · rintro (⟨v, h1, h2⟩ | ⟨v, h1, h2⟩)
      · exact .inl ⟨v, h1, h2⟩
      · unfold touchF at h2
        rw [Bool.and_eq_true, Bool.or_eq_true] at h2
        rcases h2.2 with h3 | h3
        · exact .inr ⟨v, h1, by rw [Bool.and_eq_true]; exact ⟨h2.1, h3⟩⟩
        · refine .inl ⟨v, by simpa using h3, ?_⟩
          unfold touchF
          rw [Bool.and_eq_true]
          refine ⟨h2.1, ?_⟩
          have : j.wt.contains v = true := by simpa using h1
          rw [this]; simp
theorem idx_contains (l : List Int) (v : Int) : decide (0 ≤ idxV l v) = l.contains v := by
  by_cases h : l.contains v = true
  · rw [h]
    have hv : v ∈ l := by simpa using h
    unfold idxV
    cases e : l.findIdx? (fun x => x == v) with
    | none => exact absurd (List.findIdx?_eq_none_iff.1 e v hv) (by simp)
    | some b => simp
  · have h : l.contains v = false := by simpa using h
    rw [h, idx_none (fun j hj hc => by
      have := List.mem_of_getElem? hc
      rw [show l.contains v = true by simpa using this] at h; cases h)]
    rfl
theorem sl_Contains (A : Option Addr) (l : List Int) (c n : Nat) (v : Int) (w : World) (hn : l.length = n) (hl : n ≤ 9223372036854775807) (h : Ints w A l) :
    Calls Tryd.prog 55 #[.slice A n c, .int .i64 v] w fun e w' => e = .returned (.bool (l.contains v)) ∧ w = w' := by
  have CI := Lib.hid (sl_Index A l c n v w hn hl h)
  rw [← idx_contains]
  clear h
  go_enter Tryd.func55, Tryd.ntmps55
  go_wp2_with (go_at_call 66; (with_reducible refine CI.out.mono ?_); rintro e1 w1 ⟨rfl, rfl⟩)
  go_ret
  exact ⟨rfl, rfl⟩
theorem r40_has (A : Option Addr) (l : List Int) (c n : Nat) (v : Int) (w : World) (hn : l.length = n) (hl : n ≤ 9223372036854775807) (h : Ints w A l) :
    Calls Tryd.prog 64 #[.slice A n c, .int .i64 v] w fun e w' => e = .returned (.bool (l.contains v)) ∧ w = w' := by
  have HI := Lib.hid h
  have HN := Lib.hid hn
  obtain ⟨C, hC⟩ : ∃ b, l.contains v = b := ⟨_, rfl⟩
  rw [hC]
  have HCC := Lib.hid hC
  clear h hn hC
  go_enter Tryd.func64, Tryd.ntmps64
  go_wp2_with fail
  go_loopw [5] (fun i wr => ∃ k : Nat, k ≤ n ∧ i = .int .i64 k ∧ Hid ((l.take k).contains v = false) ∧ w = wr) (fun i _ => n - (intOf i).toNat)
  case atStart => exact ⟨0, Nat.zero_le _, rfl, Lib.hid rfl, rfl⟩
  case round =>
    obtain ⟨k, hk, rfl, HT, rfl⟩ := hrel
    by_cases hlt : k < n
    · obtain ⟨ad, x, rfl, hb, hx, hc, i1, i2⟩ := HI.out.at_ (k := k) (by rw [HN.out]; exact hlt)
      have q1 : (0 : Int) ≤ (k : Int) := by omega
      have q2 : (k : Int) < (n : Int) := by omega
      have wk : IntKind.i64.wrap ((k : Int) + 1) = ((k + 1 : Nat) : Int) := (IntWalk.i64_in _ (by omega)).trans (by omega)
      have HX := Lib.hid hx
      clear hx hb
      by_cases e : x = v
      · have ht : l.contains v = true := by have := List.mem_of_getElem? HX.out; subst e; simpa using this
        have ed : decide (x = v) = true := decide_eq_true e
        have hc1 : C = true := HCC.out.symm.trans ht
        subst hc1
        clear ht
        go_wp2_with fail
        go_ret
        exact ⟨rfl, rfl⟩
      · have ed : decide (x = v) = false := decide_eq_false e
        have HE := Lib.hid ed
        go_wp2_with fail
        go_roundw
        case rel => exact ⟨k + 1, by omega, rfl, Lib.hid (by
          show _ = _
          rw [take_snoc' HX.out]
          have h1 := HT.out
          have h2 := of_decide_eq_false HE.out
          simp at h1 ⊢
          exact ⟨h1, fun hc => h2 hc.symm⟩), by first | rfl | trivial⟩
        case measure => simp [intOf]; omega
    · obtain rfl : k = n := by omega
      have hlo : ¬ (k : Int) < (k : Int) := by omega
      have ht : l.contains v = false := by have := HT.out; rwa [← HN.out, List.take_length] at this
      have hc1 : C = false := HCC.out.symm.trans ht
      subst hc1
      clear ht
      go_wp2_with fail
      go_ret
      exact ⟨rfl, rfl⟩
theorem sc_product (op : Int) (w : World) : Calls Tryd.prog 56 #[.int .i64 op] w fun e w' => e = .returned (.bool (sumOp op)) ∧ w = w' := by
  by_cases h2 : op = 2
  · subst h2
    go_enter Tryd.func56, Tryd.ntmps56
    go_wp2_with fail
    go_ret
    exact ⟨rfl, rfl⟩
  · have e2 : (op == 2) = false := by simpa using h2
    by_cases h3 : op = 3
    · subst h3
      go_enter Tryd.func56, Tryd.ntmps56
      go_wp2_with fail
      go_ret
      exact ⟨rfl, rfl⟩
    · have e3 : (op == 3) = false := by simpa using h3
      unfold sumOp
      rw [e2, e3, Bool.false_or, Bool.false_or]
      go_enter Tryd.func56, Tryd.ntmps56
      go_wp2_with fail
      go_ret
      exact ⟨rfl, rfl⟩
theorem r40_sum (i : Ins) (w : World) : Calls Tryd.prog 65 #[i.v] w fun e w' => e = .returned (.bool (sumOp i.op)) ∧ Below w.heap.size w w' := by
  obtain ⟨op, a, b, imm⟩ := i
  show Calls Tryd.prog 65 #[.agg #[.int .i64 op, .int .i64 a, .int .i64 b, .int .i64 imm]] w fun e w' => e = .returned (.bool (sumOp op)) ∧ Below w.heap.size w w'
  by_cases h2 : op = 2
  · subst h2
    go_enter Tryd.func65, Tryd.ntmps65
    go_wp2_with fail
    go_ret
    exact ⟨rfl, (Below.refl _ _).alloc (Nat.le_refl _) _⟩
  · have e2 : (op == 2) = false := by simpa using h2
    by_cases h3 : op = 3
    · subst h3
      go_enter Tryd.func65, Tryd.ntmps65
      go_wp2_with fail
      go_ret
      exact ⟨rfl, (Below.refl _ _).alloc (Nat.le_refl _) _⟩
    · have e3 : (op == 3) = false := by simpa using h3
      unfold sumOp
      rw [e2, e3, Bool.false_or, Bool.false_or]
      go_enter Tryd.func65, Tryd.ntmps65
      go_wp2_with fail
      go_ret
      exact ⟨rfl, (Below.refl _ _).alloc (Nat.le_refl _) _⟩
def delayF (op : Int) : Int := if op = 6 then 1 else if op = 5 then 2 else 0
theorem sc_delay (op : Int) (w : World) : Calls Tryd.prog 35 #[.int .i64 op] w fun e w' => e = .returned (.int .i64 (delayF op)) ∧ w = w' := by
  by_cases h6 : op = 6
  · subst h6
    go_enter Tryd.func35, Tryd.ntmps35
    go_wp2_with fail
    go_ret
    exact ⟨rfl, rfl⟩
  · have e6 : (op == 6) = false := by simpa using h6
    by_cases h5 : op = 5
    · subst h5
      go_enter Tryd.func35, Tryd.ntmps35
      go_wp2_with fail
      go_ret
      exact ⟨rfl, rfl⟩
    · have e5 : (op == 5) = false := by simpa using h5
      have e : delayF op = 0 := by unfold delayF; rw [if_neg h6, if_neg h5]
      rw [e]
      go_enter Tryd.func35, Tryd.ntmps35
      go_wp2_with fail
      go_ret
      exact ⟨rfl, rfl⟩
def fineF (l : List Ins) : Bool := inB l.length 1 512 && l.all Ins.formed
theorem r40_fine (A : Option Addr) (n c : Nat) (l : List Ins) (w : World) (h : InsAt w A l) (hn : l.length = n) (h9 : n ≤ 9223372036854775807) : Calls Tryd.prog 51 #[.slice A n c] w fun e w' => e = .returned (.bool (fineF l)) ∧ Below w.heap.size w w' := by
  have CA := Lib.hid (r38_AllFormed A n c l w h hn h9)
  have e : fineF l = (inB n 1 512 && l.all Ins.formed) := by unfold fineF; rw [hn]
  rw [e]
  have CI : Hid (∀ w1, Calls Tryd.prog 39 #[.int .i64 n, .int .i64 1, .int .i64 512] w1 fun e w' => e = .returned (.bool (inB n 1 512)) ∧ w1 = w') := fun w1 => rf_In n 1 512 w1
  clear h e
  generalize inB n 1 512 = x at CI ⊢
  cases x with
  | false =>
    go_enter Tryd.func51, Tryd.ntmps51
    go_wp2_with (go_at_call 39; (with_reducible refine (CI.out _).mono ?_); rintro e1 w1 ⟨rfl, rfl⟩)
    go_ret
    exact ⟨rfl, Below.refl _ _⟩
  | true =>
    go_enter Tryd.func51, Tryd.ntmps51
    go_wp2_with (first
      | (go_at_call 39; (with_reducible refine (CI.out _).mono ?_); rintro e1 w1 ⟨rfl, rfl⟩)
      | (go_at_call 40; (with_reducible refine CA.out.mono ?_); rintro e1 w1 ⟨rfl, hb1⟩))
    go_ret
    exact ⟨rfl, hb1⟩
end Go.Proofs.YtpmbgcfnehplaaaDoor
