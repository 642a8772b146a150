/- The walks of report and Analyse of package bank. -/
import Derived.Test.YtimhplkkgbpapaaV5
import Derived.Handy
namespace Go.Proofs.Ytimhplkkgbpapaa
open Go.RowKit

theorem bk_report (q r : Nat) (k old : Int) (u : FrameMode) (w : World) (hc : w.cell? ⟨q, 0, none⟩ = some (.int .i64 k)) (he : w.cell? ⟨r, 0, none⟩ = some (.int .i64 old)) (hf : w.frozen? ⟨r, 0, none⟩ = false) :
    CallsD Try.prog 22 #[.pointer (some ⟨q, 0, none⟩), .pointer (some ⟨r, 0, none⟩)] u w fun e u' w' => u' = u ∧ (e = .returned (.tuple #[]) ∧ w' = w.setCell ⟨r, 0, none⟩ (.int .i64 k)) := by
  go_enter_d Try.func22, Try.ntmps22
  go_wp2
  go_end0
  exact ⟨rfl, rfl⟩
def evenB (n : Nat) : Bool := (n : Int) % 2 == 0
def anE (ls : List Lft) (x : List Int) : Int := needV (needV (needV (needV 0 (lftsB ls) 2) (evenB x.length) 1) (decide (x.length ≤ 4096)) 4) (x.all wB) 17
def anLo (ls : List Lft) (x : List Int) : List Int := if anE ls x = 0 then (analyseF ls x).1 else []
def anHi (ls : List Lft) (x : List Int) : List Int := if anE ls x = 0 then (analyseF ls x).2 else []
theorem need_zero {k c : Int} {b : Bool} (hc : c ≠ 0) (h : needV k b c = 0) : k = 0 ∧ b = true := by
  unfold needV at h
  split at h
  · exact absurd h hc
  · refine ⟨h, ?_⟩
    cases b
    · rename_i hn; exact absurd ⟨h, rfl⟩ hn
    · rfl
theorem anE_zero {ls : List Lft} {x : List Int} (h : anE ls x = 0) : lftsB ls = true ∧ x.length = 2 * (x.length / 2) ∧ x.length ≤ 4096 ∧ W32 x := by
  unfold anE at h
  obtain ⟨h, h4⟩ := need_zero (by decide) h
  obtain ⟨h, h3⟩ := need_zero (by decide) h
  obtain ⟨h, h2⟩ := need_zero (by decide) h
  obtain ⟨_, h1⟩ := need_zero (by decide) h
  refine ⟨h1, ?_, of_decide_eq_true h3, wB_iff.1 h4⟩
  unfold evenB at h2
  rw [beq_iff_eq] at h2
  omega
theorem CheckAt.kept {w w' : World} {q r : Nat} {k : Int} (h : CheckAt w q k) (hg : w.grownBy w' (some r)) (hne : q ≠ r) : CheckAt w' q k :=
  ⟨hg.cell h.1 (by intro e; injection e with e; exact hne e), (World.frozen?_of_block (hg.block q (cell_lt h.1) (by intro e; injection e with e; exact hne e))).trans h.2⟩
theorem CheckAt.drew {w : World} {q : Nat} {k : Int} (h : CheckAt w q k) : CheckAt w.drew q k := h
theorem IntsFar.one {w : World} {q : Nat} {B : Option Addr} {l : List Int} {d : Nat} {t : TypeId} (h : Ints w B l) (hq : q < w.heap.size) (hb : l ≠ [] → ∀ a, B = some a → a.block ≠ q) :
    IntsFar (w.alloc (.cells #[.slice B l.length d] t)) q (some ⟨w.heap.size, 0, none⟩) [l] := fun k l' hk => by
  match k, hk with
  | 0, hk =>
    simp at hk
    subst hk
    exact ⟨_, B, d, rfl, by show w.heap.size ≠ q; omega, by simp [Addr.add, go_sem], h.grow ((Below.refl _ _).alloc (Nat.le_refl _) _), hb⟩
/-- A call hands back two slices of its own and an error. -/
def Ret3 (w : World) (a b : List Int) (E : Int) (e : Ending) (w' : World) : Prop := ∃ v1 v2, e = .returned (.tuple #[v1, v2, .int .i64 E]) ∧ Own w.heap.size w' v1 a ∧ Own w.heap.size w' v2 b ∧ Below w.heap.size w w'
set_option maxRecDepth 100000 in
set_option maxHeartbeats 2000000 in
theorem bk_Analyse (A B : Option Addr) (ls : List Lft) (x : List Int) (c d : Nat) (w : World) (hL : Lifts w A ls) (hx : Ints w B x) (hl : ls.length ≤ 1000000) (hl2 : ∀ s ∈ ls, s.2.2.1.length ≤ 9223372036854775807) (hxl : x.length ≤ 1000000) :
    Calls Try.prog 10 #[.slice A ls.length c, .slice B x.length d] w (Ret3 w (anLo ls x) (anHi ls x) (anE ls x)) := by
  have hfar : x ≠ [] → ∀ a, B = some a → a.block ≠ w.heap.size + 1 := fun hc a e => by have := hx.block hc e; omega
  have HFAR := Lib.hid hfar
  have HL2 := Lib.hid hl2
  have h0 : Below w.heap.size w ((w.alloc (.cells #[.int .i64 0] 30)).alloc (.cells #[.int .i64 0] 51)) := ((Below.refl _ _).alloc (Nat.le_refl _) _).alloc (by simp) _
  have k0 : CheckAt ((w.alloc (.cells #[.int .i64 0] 30)).alloc (.cells #[.int .i64 0] 51)) w.heap.size 0 := ⟨by simp [go_sem], by simp [go_sem]⟩
  have k1 : CheckAt ((w.alloc (.cells #[.int .i64 0] 30)).alloc (.cells #[.int .i64 0] 51)) (w.heap.size + 1) 0 := ⟨by simp [go_sem], by simp [go_sem]⟩
  have H0 := Lib.hid h0
  have K0 := Lib.hid k0
  have K1 := Lib.hid k1
  clear h0 k0 k1 hfar hl2
  go_enter_defers Try.func10, Try.ntmps10
  go_wp2_with fail
  refine (bk_Valid A ls c _ (hL.grow H0.out) hl HL2.out).mono ?_
  rintro e w1 ⟨rfl, hb1⟩
  have hb := H0.out.trans (hb1.mono H0.out.size)
  have hk0 := K0.out.keep hb1
  have hk1 := K1.out.keep hb1
  clear hb1 K0 K1 H0
  go_wp2_with fail
  refine (bk_need (w.heap.size + 1) 0 2 _ _ hk1 (by decide)).mono ?_
  rintro e w2 ⟨rfl, hk1, hg⟩
  have hb := grown_to hb hg (by omega)
  have hk0 := hk0.kept hg (by omega)
  clear hg
  go_wp2_with fail
  refine (bk_need (w.heap.size + 1) _ 1 _ _ hk1 (by decide)).mono ?_
  rintro e w3 ⟨rfl, hk1, hg⟩
  have hb := grown_to hb hg (by omega)
  have hk0 := hk0.kept hg (by omega)
  clear hg
  go_wp2_with fail
  refine (bk_need (w.heap.size + 1) _ 4 _ _ hk1 (by decide)).mono ?_
  rintro e w4 ⟨rfl, hk1, hg⟩
  have hb := grown_to hb hg (by omega)
  have hk0 := hk0.kept hg (by omega)
  clear hg
  go_wp2_with fail
  have ha : Below w.heap.size w (w4.alloc (.cells #[.slice B x.length d] 23)) := hb.alloc hb.size _
  have hba : Below w4.heap.size w4 (w4.alloc (.cells #[.slice B x.length d] 23)) := (Below.refl _ _).alloc (Nat.le_refl _) _
  have hfar4 := IntsFar.one (d := d) (t := 23) (hx.grow hb) (q := w.heap.size + 1) (cell_lt hk1.1) HFAR.out
  have hk1 := hk1.keep hba
  have hk0 := hk0.keep hba
  clear hb hba
  refine (bk_words (w.heap.size + 1) _ _ [x] 1 1 _ hk1 hfar4 rfl (by omega) (by simp; omega)).mono ?_
  rintro e w5 ⟨rfl, hk1, hg⟩
  have hb := grown_to ha hg (by omega)
  have hk0 := hk0.kept hg (by omega)
  clear hg ha hfar4
  obtain ⟨K, hK⟩ : ∃ K, needV (needV (needV (needV 0 (lftsB ls) 2) ((x.length : Int) % 2 == 0) 1) (decide ((x.length : Int) ≤ 4096)) 4) ([x].all fun l => l.all wB) 17 = K := ⟨_, rfl⟩
  rw [hK] at hk1 ⊢
  have hKE : anE ls x = K := by
    rw [← hK]
    unfold anE evenB
    rw [List.all_cons, List.all_nil, Bool.and_true]
    congr 2
    rw [decide_eq_decide]; omega
  have HKE := Lib.hid hKE
  clear hKE hK
  by_cases hz : K = 0
  · subst hz
    obtain ⟨z1, z2, z3, z4⟩ := anE_zero HKE.out
    have Z := Lib.hid (lfts_ok z1)
    have Z2 := Lib.hid z2
    have Z3 := Lib.hid z3
    have Z4 := Lib.hid z4
    have HL := Lib.hid (hL.grow hb)
    have HX := Lib.hid (hx.grow hb)
    clear z1 z2 z3 z4 hL hx
    rw [decide_eq_true (show (0 : Int) = 0 from rfl)]
    go_wp2_with fail
    refine (bk_analyse A B ls x c d (x.length / 2) _ HL.out HX.out Z.out.2 Z.out.1 Z2.out (by have := Z3.out; omega) Z4.out).mono ?_
    rintro e w6 ⟨v1, v2, rfl, o1, o2, hb6⟩
    have O1 := Lib.hid o1
    have O2 := Lib.hid o2
    have HB := Lib.hid hb
    have H6 := Lib.hid (hb.trans (hb6.mono hb.size))
    have H5 := Lib.hid (cell_lt hk1.1)
    have e0 := hk0.keep hb6
    have e1 := hk1.keep hb6
    clear hk0 hk1 hb6 o1 o2 hb
    have c0 := e0.1
    have f0 := e0.2
    have E1 := Lib.hid e1
    have E0 := Lib.hid e0
    clear e0 e1
    go_wp2
    go_region
    first | go_end0 | go_wp2
    refine leaves_cons (f := 22) (args := #[.pointer (some ⟨w.heap.size + 1, 0, none⟩), .pointer (some ⟨w.heap.size, 0, none⟩)]) (by simp) (by simp [go_sem]) ?_
    refine (bk_report (w.heap.size + 1) w.heap.size 0 0 .returning _ ?_ ?_ ?_).mono ?_
    · show (w6.setCell _ _).cell? _ = _
      rw [World.cell?_setCell_other (h := by intro e; have := congrArg Addr.block e; simp at this)]; exact E1.out.1
    · exact (E0.out.set 0).1
    · exact (E0.out.set 0).2
    rintro e u' w'' ⟨rfl, rfl, rfl⟩
    refine ⟨.tuple #[v1, v2, .int .i64 0], ?_, ?_⟩
    · have hcc := ((E0.out.set 0).set 0).1
      simp [go_sem, results, settle, Try.results10, hcc]
    · unfold anLo anHi
      rw [HKE.out, if_pos rfl, if_pos rfl]
      have hs := HB.out.size
      have h5 := H5.out
      refine ⟨v1, v2, rfl, ((O1.out.store (by omega)).store (by omega)).base hs, ((O2.out.store (by omega)).store (by omega)).base hs, ?_⟩
      exact ((H6.out.setCell (Nat.le_refl _) _).drew).setCell (Nat.le_refl _) _
  · have c0 := hk0.1
    have f0 := hk0.2
    have E1 := Lib.hid hk1
    have E0 := Lib.hid hk0
    have HB := Lib.hid hb
    have HZ := Lib.hid hz
    clear hk0 hk1 hb hL hx
    rw [decide_eq_false hz]
    clear hz
    go_wp2
    go_region
    first | go_end0 | go_wp2
    refine leaves_cons (f := 22) (args := #[.pointer (some ⟨w.heap.size + 1, 0, none⟩), .pointer (some ⟨w.heap.size, 0, none⟩)]) (by simp) (by simp [go_sem]) ?_
    refine (bk_report (w.heap.size + 1) w.heap.size K 0 .returning _ ?_ ?_ ?_).mono ?_
    · show (w5.setCell _ _).cell? _ = _
      rw [World.cell?_setCell_other (h := by intro e; have := congrArg Addr.block e; simp at this)]; exact E1.out.1
    · exact (E0.out.set 0).1
    · exact (E0.out.set 0).2
    rintro e u' w'' ⟨rfl, rfl, rfl⟩
    refine ⟨.tuple #[.slice none 0 0, .slice none 0 0, .int .i64 K], ?_, ?_⟩
    · have hcc := ((E0.out.set 0).set K).1
      simp [go_sem, results, settle, Try.results10, hcc]
    · unfold anLo anHi
      rw [HKE.out, if_neg HZ.out, if_neg HZ.out]
      refine ⟨_, _, rfl, Own.nil, Own.nil, ?_⟩
      exact ((HB.out.setCell (Nat.le_refl _) _).drew).setCell (Nat.le_refl _) _
end Go.Proofs.Ytimhplkkgbpapaa
