/- Lower of package schedule and of the reference; slices.Max. -/
import Derived.Test.YtpmbgcfnehplaaaDoorE13
set_option linter.unusedVariables false
set_option linter.unusedSimpArgs false
namespace Go.Proofs.YtpmbgcfnehplaaaDoor
open Go.RowKit

def maxF : List Int → Int
  | [] => 0
  | x :: xs => xs.foldl max x
theorem maxF_snoc {l : List Int} (h : l ≠ []) (y : Int) : maxF (l ++ [y]) = max (maxF l) y := by
  cases l with
  | nil => exact absurd rfl h
  | cons x xs => show (xs ++ [y]).foldl max x = _; rw [List.foldl_append]; rfl
theorem foldl_max (a b : Int) : ∀ l : List Int, l.foldl max (max a b) = max a (l.foldl max b)
  | [] => rfl
  | y :: l => by
    show l.foldl max (max (max a b) y) = max a (l.foldl max (max b y))
    rw [show max (max a b) y = max a (max b y) by omega]
    exact foldl_max a (max b y) l
theorem foldl_maxF (a : Int) {l : List Int} (h : l ≠ []) : l.foldl max a = max a (maxF l) := by
  cases l with
  | nil => exact absurd rfl h
  | cons x xs => exact foldl_max a x xs
def lowF (l : List Ins) : Int := max (l.length : Int) (maxF (htF l))
def lowD (l : List Ins) : Int := if fineF l then lowF l else 0
theorem foldl_max_in {B : Int} : ∀ (l : List Int) (a : Int), a ≤ B → (∀ v ∈ l, v ≤ B) → a ≤ l.foldl max a ∧ l.foldl max a ≤ B
  | [], a, h, _ => ⟨Int.le_refl _, h⟩
  | y :: l, a, h, hl => by
    have h1 := hl y (List.mem_cons_self ..)
    have := foldl_max_in l (max a y) (by omega) (fun v hv => hl v (List.mem_cons_of_mem _ hv))
    show a ≤ l.foldl max (max a y) ∧ l.foldl max (max a y) ≤ B
    omega
set_option maxRecDepth 100000 in
set_option maxHeartbeats 4000000 in
theorem sl_Max (A : Option Addr) (l : List Int) (c n : Nat) (w : World) (hn : l.length = n) (h0 : 0 < n) (hl : n ≤ 9223372036854775807) (h : Ints w A l) :
    Calls Tryd.prog 27 #[.slice A n c] w fun e w' => e = .returned (.int .i64 (maxF l)) ∧ w = w' := by
  have HI := Lib.hid h
  have HN := Lib.hid hn
  obtain ⟨ad0, x0, rfl, hb0, hx0, hc0, -, -⟩ := h.at_ (k := 0) (by rw [hn]; exact h0)
  have q0 : (0 : Int) < (n : Int) := by omega
  have q1 : ¬ (n : Int) < 1 := by omega
  have HX0 := Lib.hid hx0
  clear h hn hb0 hx0
  have HM1 : Hid (maxF (l.take 1) = x0) := by show _ = _; rw [take_snoc' HX0.out]; rfl
  have e0 : ad0.add 0 = ad0 := by unfold Addr.add; simp
  rw [e0] at hc0
  clear e0
  go_enter Tryd.func27, Tryd.ntmps27
  go_wp2_with fail
  go_loopw [3, 4] (fun m i wr => ∃ (k : Nat) (x : Int), 1 ≤ k ∧ k ≤ n ∧ i = .int .i64 k ∧ m = .int .i64 x ∧ Hid (maxF (l.take k) = x) ∧ w = wr) (fun _ i _ => n - (intOf i).toNat)
  case atStart => exact ⟨1, x0, Nat.le_refl _, h0, rfl, rfl, HM1, rfl⟩
  case round =>
    obtain ⟨k, x, hk1, hk, rfl, rfl, HM, rfl⟩ := hrel
    by_cases hlt : k < n
    · obtain ⟨ad, y, e2, hb, hy, hc, i1, i2⟩ := HI.out.at_ (k := k) (by rw [HN.out]; exact hlt)
      obtain rfl : ad0 = ad := Option.some.inj e2
      have p1 : (0 : Int) ≤ (k : Int) := by omega
      have p2 : (k : Int) < (n : Int) := by omega
      have wk : IntKind.i64.wrap ((k : Int) + 1) = ((k + 1 : Nat) : Int) := (IntWalk.i64_in _ (by omega)).trans (by omega)
      have HM2 : Hid (maxF (l.take (k + 1)) = max x y) := by
        show _ = _
        rw [take_snoc' hy, maxF_snoc (by intro hc; have := congrArg List.length hc; rw [List.length_take, HN.out] at this; simp at this; omega), HM.out]
      obtain ⟨mx, hmx⟩ : ∃ mx, max x y = mx := ⟨_, rfl⟩
      rw [hmx] at HM2
      have HX := Lib.hid hmx
      clear hb hy i1 i2 e2 hmx
      go_wp2_with fail
      go_roundw
      case rel => exact ⟨k + 1, mx, by omega, by omega, rfl, by rw [HX.out], HM2, by first | rfl | trivial⟩
      case measure => simp [intOf]; omega
    · obtain rfl : k = n := by omega
      have hlo : ¬ (k : Int) < (k : Int) := by omega
      have ht := HM.out
      rw [← HN.out, List.take_length] at ht
      have HT := Lib.hid ht
      clear ht
      go_wp2_with fail
      go_ret
      exact ⟨by rw [HT.out]; rfl, rfl⟩
theorem RetInts.form {w w' : World} {l : List Int} {E : Int} {e : Ending} (h : RetInts w l E e w') : ∃ A c, e = .returned (.tuple #[.slice A l.length c, .int .i64 E]) ∧ Ints w' A l ∧ Below w.heap.size w w' := by
  obtain ⟨v, he, ho, hb⟩ := h
  obtain ⟨A, c, rfl, hc, hi⟩ := ho.form
  exact ⟨A, c, he, hi, hb⟩
theorem htF_in (l : List Ins) (h : l.length ≤ 512) : (htF l).length = l.length ∧ ∀ v ∈ htF l, 0 ≤ v ∧ v ≤ 2000 := by
  have := hts_in l l.length l.length (Nat.le_refl _)
  exact ⟨this.1, fun v hv => by have := this.2 v hv; omega⟩
theorem fineF_len {l : List Ins} (h : fineF l = true) : 1 ≤ l.length ∧ l.length ≤ 512 := by
  unfold fineF inB at h
  rw [Bool.and_eq_true, Bool.and_eq_true, decide_eq_true_eq, decide_eq_true_eq] at h
  omega
/-- A number and an error. -/
def RetIE (w : World) (v E : Int) (e : Ending) (w' : World) : Prop := e = .returned (.tuple #[.int .i64 v, .int .i64 E]) ∧ Below w.heap.size w w'
set_option maxRecDepth 100000 in
set_option maxHeartbeats 4000000 in
theorem sc_Lower (A : Option Addr) (n c : Nat) (l : List Ins) (w : World) (hf : FormsAt w) (h : InsAt w A l) (hn : l.length = n) (h9 : n ≤ 9223372036854775807) : Calls Tryd.prog 8 #[.slice A n c] w (RetIE w (lowD l) (depE l)) := by
  have CH := Lib.hid (sc_Heights A n c l w hf h hn h9)
  by_cases hfl : fineF l = true
  · have hl := fineF_len hfl
    have e2 : depE l = 0 := by unfold depE; rw [if_pos hfl]
    have e3 : htD l = htF l := by unfold htD; rw [if_pos hfl]
    have e4 : lowD l = max (n : Int) (maxF (htF l)) := by unfold lowD lowF; rw [if_pos hfl, hn]
    have h5 := (htF_in l hl.2).1
    rw [hn] at h5 hl
    rw [e2, e3] at CH
    rw [e2, e4]
    have H5 := Lib.hid h5
    have HL := Lib.hid hl
    clear h hn hf hfl h9 hl e2 e3 e4 h5
    go_enter Tryd.func8, Tryd.ntmps8
    go_upto_region 4 with (go_at_call 26; (with_reducible refine CH.out.mono ?_); rintro e1 w1 hr; obtain ⟨HA, hc, rfl, hi, hb1⟩ := hr.form; clear hr)
    rw [H5.out]
    have CM := Lib.hid (sl_Max HA (htF l) hc n w1 H5.out (by have := HL.out; omega) (by have := HL.out; omega) hi)
    obtain ⟨M, hM⟩ : ∃ M, maxF (htF l) = M := ⟨_, rfl⟩
    rw [hM] at CM
    have HMM := Lib.hid hM
    clear hM hi
    go_wp2_with (go_at_call 27; (with_reducible refine CM.out.mono ?_); rintro e1 w2 ⟨rfl, rfl⟩)
    go_ret2
    refine ⟨?_, hb1⟩
    rw [HMM.out]; rfl
  · have hfl : fineF l = false := by simpa using hfl
    have e2 : depE l = 21 := by unfold depE; rw [hfl]; rfl
    have e3 : lowD l = 0 := by unfold lowD; rw [hfl]; rfl
    rw [e2] at CH
    rw [e2, e3]
    clear h hn hf hfl h9 e2 e3
    go_enter Tryd.func8, Tryd.ntmps8
    go_wp2_with (go_at_call 26; (with_reducible refine CH.out.mono ?_); rintro e1 w1 hr; obtain ⟨HA, hc, rfl, hi, hb1⟩ := hr.form; clear hr)
    go_ret2
    exact ⟨rfl, hb1⟩
end Go.Proofs.YtpmbgcfnehplaaaDoor
