/- The walk of Tree of package bank. -/
import Derived.Test.YtimhplkkgbpapaaVb
import Derived.Test.YtimhplkkgbpapaaVe
namespace Go.Proofs.Ytimhplkkgbpapaa
open Go.RowKit

/-- May a sequence of n elements have lv levels? -/
def okT (lv : Int) (n : Nat) : Bool := decide (1 ≤ lv) && (decide (lv ≤ 6) && ((n : Int) % (2 : Int) ^ lv.toNat == 0))
theorem okT_low {lv : Int} {n : Nat} (h : ¬ 1 ≤ lv) : okT lv n = false := by unfold okT; rw [decide_eq_false h]; rfl
theorem okT_high {lv : Int} {n : Nat} (h : ¬ lv ≤ 6) : okT lv n = false := by unfold okT; rw [decide_eq_false h, Bool.false_and, Bool.and_false]
theorem okT_pos {L n : Nat} (h1 : 1 ≤ L) (h6 : L ≤ 6) : okT (L : Int) n = ((n : Int) % (2 : Int) ^ L == 0) := by
  unfold okT
  rw [decide_eq_true (by omega : (1 : Int) ≤ (L : Int)), decide_eq_true (by omega : (L : Int) ≤ 6)]; rfl
theorem len_pow {n L : Nat} (h : (n : Int) % (2 : Int) ^ L = 0) : ∃ m, n = 2 ^ L * m := by
  obtain ⟨m, hm⟩ := Int.dvd_of_emod_eq_zero h
  have h2 : ((2 : Int) ^ L) = ((2 ^ L : Nat) : Int) := by simp
  refine ⟨n / 2 ^ L, ?_⟩
  have : (2 ^ L : Nat) ∣ n := by
    have : ((2 ^ L : Nat) : Int) ∣ (n : Int) := ⟨m, by rw [← h2]; exact hm⟩
    exact Int.natCast_dvd_natCast.1 this
  exact (Nat.mul_div_cancel' this).symm
def trE (ls : List Lft) (x : List Int) (lv : Int) : Int := needV (needV (needV (needV 0 (lftsB ls) 2) (okT lv x.length) 1) (decide (x.length ≤ 4096)) 4) (x.all wB) 17
def trL (ls : List Lft) (x : List Int) (lv : Int) : List (List Int) := if trE ls x lv = 0 then treeB ls x lv.toNat else []
theorem trE_zero {ls : List Lft} {x : List Int} {lv : Int} (h : trE ls x lv = 0) : lftsB ls = true ∧ okT lv x.length = true ∧ x.length ≤ 4096 ∧ W32 x := by
  unfold trE at h
  obtain ⟨h, h4⟩ := need_zero (by decide) h
  obtain ⟨h, h3⟩ := need_zero (by decide) h
  obtain ⟨h, h2⟩ := need_zero (by decide) h
  obtain ⟨_, h1⟩ := need_zero (by decide) h
  exact ⟨h1, h2, of_decide_eq_true h3, wB_iff.1 h4⟩
theorem trE_ok {ls : List Lft} {x : List Int} {lv : Int} (h1 : lftsB ls = true) (h2 : okT lv x.length = true) (h3 : x.length ≤ 4096) (h4 : W32 x) : trE ls x lv = 0 := by
  unfold trE
  rw [h1, h2, wB_iff.2 h4, decide_eq_true h3]
  rfl
/-- The low band in hand. -/
def LoAt (w : World) (f v : Value) (base k : Nat) (l : List Int) : Prop := ∃ C c, f = .slice C l.length c ∧ Ints w C l ∧ (l ≠ [] → ∀ a, C = some a → (0 < k → base ≤ a.block) ∧ some a.block ≠ v.ownBlock)
theorem hiF_lo (ls : List Lft) (x : List Int) (k : Nat) : hiF ls x k ++ [loF ls x k] = treeB ls x k := rfl
theorem lo_le {ls : List Lft} {x : List Int} {L m k : Nat} (hx : x.length = 2 ^ L * m) (h : k ≤ L) : (loF ls x k).length ≤ x.length := by
  have := tree_sum (ls := ls) hx k h
  omega
set_option maxRecDepth 100000 in
set_option maxHeartbeats 4000000 in
theorem bk_Tree (A B : Option Addr) (ls : List Lft) (x : List Int) (c d : Nat) (lv : Int) (w : World) (hL : Lifts w A ls) (hx : Ints w B x) (hl : ls.length ≤ 1000000) (hl2 : ∀ s ∈ ls, s.2.2.1.length ≤ 9223372036854775807) (hxl : x.length ≤ 1000000) (hlv : I64 lv) :
    Calls Try.prog 14 #[.slice A ls.length c, .slice B x.length d, .int .i64 lv] w (RetIntsL w (trL ls x lv) (trE ls x lv)) := by
  have hfar : x ≠ [] → ∀ a, B = some a → a.block ≠ w.heap.size + 1 := fun hc a e => by have := hx.block hc e; omega
  have HFAR := Lib.hid hfar
  have HL2 := Lib.hid hl2
  have h0 : Below w.heap.size w ((w.alloc (.cells #[.int .i64 0] 30)).alloc (.cells #[.int .i64 0] 51)) := ((Below.refl _ _).alloc (Nat.le_refl _) _).alloc (by simp) _
  have k0 : CheckAt ((w.alloc (.cells #[.int .i64 0] 30)).alloc (.cells #[.int .i64 0] 51)) w.heap.size 0 := ⟨by simp [go_sem], by simp [go_sem]⟩
  have k1 : CheckAt ((w.alloc (.cells #[.int .i64 0] 30)).alloc (.cells #[.int .i64 0] 51)) (w.heap.size + 1) 0 := ⟨by simp [go_sem], by simp [go_sem]⟩
  have H0 := Lib.hid h0
  have K0 := Lib.hid k0
  have K1 := Lib.hid k1
  clear h0 k0 k1 hfar hl2
  by_cases c1 : 1 ≤ lv
  · by_cases c6 : lv ≤ 6
    · obtain ⟨L, rfl⟩ := Int.eq_ofNat_of_zero_le (by omega : 0 ≤ lv)
      have hL1 : 1 ≤ L := by omega
      have hL6 : L ≤ 6 := by omega
      have hp := okT_pos (n := x.length) hL1 hL6
      obtain ⟨P, hP⟩ : ∃ P, (2 : Int) ^ L = P := ⟨_, rfl⟩
      have hP1 : 1 ≤ P ∧ P ≤ 64 := by
        rw [← hP]
        have : L = 1 ∨ L = 2 ∨ L = 3 ∨ L = 4 ∨ L = 5 ∨ L = 6 := by omega
        rcases this with h | h | h | h | h | h <;> subst h <;> decide
      obtain ⟨hP1, hP2⟩ := hP1
      rw [hP] at hp
      have e1 : IntKind.i64.wrap ((2 : Int) ^ L) = P := by rw [hP]; exact IntWalk.i64_in _ (by omega)
      have e2 : P ≠ 0 := by omega
      have e3 : ¬ P = 0 := e2
      have e4 : (x.length : Int).tmod P = (x.length : Int) % P := Int.tmod_eq_emod_of_nonneg (by omega)
      have e5 : 0 ≤ (x.length : Int) % P := Int.emod_nonneg _ e2
      have e6 : (x.length : Int) % P < P := Int.emod_lt_of_pos _ (by omega)
      have HPP := Lib.hid hp
      have HP := Lib.hid hP
      have d1 : decide ((1 : Int) ≤ (L : Int)) = true := by simp; omega
      have d2 : decide ((L : Int) ≤ 6) = true := by simp; omega
      clear hp hP
      go_enter_defers Try.func14, Try.ntmps14
      go_wp2_with fail
      refine (bk_Valid A ls c _ (hL.grow H0.out) hl HL2.out).mono ?_
      rintro e' w1 ⟨rfl, hb1⟩
      have hb := H0.out.trans (hb1.mono H0.out.size)
      have hk0 := K0.out.keep hb1
      have hk1 := K1.out.keep hb1
      clear hb1 K0 K1 H0
      go_wp2_with fail
      refine (bk_need (w.heap.size + 1) 0 2 _ _ hk1 (by decide)).mono ?_
      rintro e' w2 ⟨rfl, hk1, hg⟩
      have hb := grown_to hb hg (by omega)
      have hk0 := hk0.kept hg (by omega)
      clear hg
      go_wp2_with fail
      refine (bk_need (w.heap.size + 1) _ 1 (((x.length : Int) % P) == 0) _ hk1 (by decide)).mono ?_
      rintro e' w3 ⟨rfl, hk1, hg⟩
      have hb := grown_to hb hg (by omega)
      have hk0 := hk0.kept hg (by omega)
      clear hg e1 e2 e3 e4 e5 e6
      go_wp2_with fail
      refine (bk_need (w.heap.size + 1) _ 4 _ _ hk1 (by decide)).mono ?_
      rintro e' w4 ⟨rfl, hk1, hg⟩
      have hb := grown_to hb hg (by omega)
      have hk0 := hk0.kept hg (by omega)
      clear hg
      go_wp2_with fail
      have ha : Below w.heap.size w (w4.alloc (.cells #[.slice B x.length d] 23)) := hb.alloc hb.size _
      have hba : Below w4.heap.size w4 (w4.alloc (.cells #[.slice B x.length d] 23)) := (Below.refl _ _).alloc (Nat.le_refl _) _
      have hfar4 := IntsFar.one (d := d) (t := 23) (hx.grow hb) (q := w.heap.size + 1) (cell_lt hk1.1) HFAR.out
      have hk1 := hk1.keep hba
      have hk0 := hk0.keep hba
      clear hb hba
      refine (bk_words (w.heap.size + 1) _ _ [x] 1 1 _ hk1 hfar4 rfl (by omega) (by simp; omega)).mono ?_
      rintro e' w5 ⟨rfl, hk1, hg⟩
      have hb := grown_to ha hg (by omega)
      have hk0 := hk0.kept hg (by omega)
      clear hg ha hfar4
      obtain ⟨K, hK⟩ : ∃ K, needV (needV (needV (needV 0 (lftsB ls) 2) (((x.length : Int) % P) == 0) 1) (decide ((x.length : Int) ≤ 4096)) 4) ([x].all fun l => l.all wB) 17 = K := ⟨_, rfl⟩
      rw [hK] at hk1 ⊢
      have hKE : trE ls x (L : Int) = K := by
        rw [← hK]
        unfold trE
        rw [HPP.out, List.all_cons, List.all_nil, Bool.and_true]
        congr 2
        rw [decide_eq_decide]; omega
      have HKE := Lib.hid hKE
      clear hKE hK
      by_cases hz : K = 0
      · subst hz
        obtain ⟨z1, z2, z3, z4⟩ := trE_zero HKE.out
        have HLV := Lib.hid hL1
        have HDV : Hid ((x.length : Int) % (2 : Int) ^ L = 0) := by
          show _ = _
          have := z2
          rw [okT_pos hL1 hL6] at this
          simpa using this
        have Z := Lib.hid (lfts_ok z1)
        have Z3 := Lib.hid z3
        have Z4 := Lib.hid z4
        have HL := Lib.hid (hL.grow hb)
        have HX := Lib.hid (hx.grow hb)
        have HKL := Lib.hid hk1
        have HK0 := Lib.hid hk0
        have HB := Lib.hid hb
        obtain ⟨m, hm⟩ := len_pow HDV.out
        have HM := Lib.hid hm
        clear z1 z2 z3 z4 hL hx hk0 hk1 hb hm
        rw [decide_eq_true (show (0 : Int) = 0 from rfl)]
        go_wp2_with fail
        go_loopw [6, 10, 11, 40] (fun v f _ i wr => ∃ k : Nat, k ≤ L ∧ i = .int .i64 k ∧ OwnB w5.heap.size wr v (hiF ls x k) ∧ LoAt wr f v w5.heap.size k (loF ls x k) ∧ Below w5.heap.size w5 wr) (fun _ _ _ i _ => L - (intOf i).toNat)
        case atStart => exact ⟨0, Nat.zero_le _, rfl, OwnB.nil, ⟨B, d, rfl, HX.out, fun _ _ _ => ⟨fun h => absurd h (Nat.lt_irrefl _), fun e => by cases e⟩⟩, Below.refl _ _⟩
        case round =>
          obtain ⟨k, hk, rfl, hown, ⟨C, cc, rfl, hI, hne⟩, hbw⟩ := hrel
          by_cases hlt : k < L
          · have hev := lo_even (ls := ls) HM.out hlt
            have hle := lo_le (ls := ls) HM.out hk
            have HEV := Lib.hid hev
            have hh : 2 ^ (L - 1 - k) * m ≤ 2048 := by have := Z3.out; omega
            have HLr := Lib.hid (HL.out.grow hbw)
            have HV := Lib.hid (fun b hb => (hown.lt b hb).2)
            have HLE : Hid ((hiF ls x k).length ≤ 1000) := by show _ ≤ _; rw [hiF_length]; omega
            have HOW := Lib.hid hown
            have HBW := Lib.hid hbw
            have hs5 := hbw.size
            have k7 : k < 7 := by omega
            have hlt2 : (k : Int) < (L : Int) := by omega
            clear hev hle hown hbw hne
            go_wp2_with fail
            refine (bk_analyse A C ls (loF ls x k) c cc (2 ^ (L - 1 - k) * m) _ HLr.out hI Z.out.2 Z.out.1 HEV.out hh (w32_lo Z4.out k)).mono ?_
            rintro e' w6 ⟨v1, v2, rfl, o1, o2, hb6⟩
            obtain ⟨C1, c1', rfl, _, i1⟩ := o1.form
            obtain ⟨C2, c2', rfl, _, i2⟩ := o2.form
            have F1 := Lib.hid o1.far
            have F2 := Lib.hid o2.far
            have hs6 := hb6.size
            have HB6 := Lib.hid hb6
            clear o1 o2 hb6
            go_wp2_with (at_builtin; refine app_band w6 rfl _ _ rfl w5.heap.size (HOW.out.grow HB6.out) rfl rfl rfl i2 (fun _ a ha => ⟨Nat.le_trans hs5 (F2.out a ha), fun e => absurd (HV.out a.block e.symm) (Nat.not_lt.2 (F2.out a ha))⟩) HLE.out (Nat.le_trans hs5 hs6) ?_; intro v3 w7 ho3 hb7 hg7 hob)
            go_roundw
            case rel =>
              refine ⟨k + 1, by omega, by go_num, by rw [hiF_succ]; exact ho3, ⟨C1, c1', rfl, ?_, ?_⟩, ?_⟩
              · refine (i1.grow ((Below.refl _ _).alloc (Nat.le_refl _) _)).kept hg7 (fun _ a ha e => absurd (HV.out a.block e.symm) (Nat.not_lt.2 (F1.out a ha)))
              · refine fun hl a ha => ⟨fun _ => Nat.le_trans hs5 (F1.out a ha), fun e => ?_⟩
                rcases hob with h | h
                · exact absurd (HV.out a.block (e.trans h).symm) (Nat.not_lt.2 (F1.out a ha))
                · rw [h] at e
                  injection e with e
                  have := i1.block hl ha
                  omega
              · exact (HBW.out.trans (HB6.out.mono hs5)).trans hb7
            case measure => simp [intOf]; omega
          · obtain rfl : k = L := by omega
            have hs5 := hbw.size
            have HLE : Hid ((hiF ls x k).length ≤ 1000) := by show _ ≤ _; rw [hiF_length]; omega
            have HBW := Lib.hid hbw
            have HNE := Lib.hid hne
            have HQ5 := Lib.hid (cell_lt HKL.out.1)
            clear hbw hne
            go_wp2_with (at_builtin; refine app_band wr rfl _ _ rfl w5.heap.size hown rfl rfl rfl hI (fun hl a ha => ⟨(HNE.out hl a ha).1 hL1, (HNE.out hl a ha).2⟩) HLE.out hs5 ?_; intro v3 w7 ho3 hb7 hg7 hob)
            have H7 := Lib.hid (HBW.out.trans hb7)
            have HO3 := Lib.hid ho3
            clear ho3 hb7 hg7 hob hown hI
            have e0 := HK0.out.keep H7.out
            have e1 := HKL.out.keep H7.out
            have c0 := e0.1
            have f0 := e0.2
            have E1 := Lib.hid e1
            have E0 := Lib.hid e0
            clear e0 e1
            obtain ⟨A3, c3, hv3, _⟩ := HO3.out.form
            go_wp2
            go_region
            first | go_end0 | go_wp2
            refine leaves_cons (f := 22) (args := #[.pointer (some ⟨w.heap.size + 1, 0, none⟩), .pointer (some ⟨w.heap.size, 0, none⟩)]) (by simp) (by simp [go_sem]) ?_
            refine (bk_report (w.heap.size + 1) w.heap.size 0 0 .returning _ ?_ ?_ ?_).mono ?_
            · show (w7.setCell _ _).cell? _ = _
              rw [World.cell?_setCell_other (h := by intro e; have := congrArg Addr.block e; simp at this)]; exact E1.out.1
            · exact (E0.out.set 0).1
            · exact (E0.out.set 0).2
            rintro e' u' w'' ⟨rfl, rfl, rfl⟩
            refine ⟨.tuple #[v3, .int .i64 0], ?_, ?_⟩
            · have hcc := ((E0.out.set 0).set 0).1
              simp [go_sem, results, Try.results14, hcc]
            · unfold trL
              rw [HKE.out, if_pos rfl, Int.toNat_natCast]
              have hs := HB.out.size
              have h5 := HQ5.out
              have h6 := cell_lt HK0.out.1
              have ho := (HO3.out.store (g := w.heap.size) (k := 0) (u := .int .i64 0) (by simpa using h6)).grow ((Below.refl _ _).drew)
              have ho := ho.store (g := w.heap.size) (k := 0) (u := .int .i64 0) (by simpa using h6)
              obtain ⟨A4, c4, hv4, hi4⟩ := ho.form
              rw [hv4, ← hiF_lo]
              exact ⟨A4, c4, rfl, hi4, (((HB.out.trans (H7.out.mono hs)).setCell (p := ⟨w.heap.size, 0, none⟩) (Nat.le_refl _) _).drew).setCell (p := ⟨w.heap.size, 0, none⟩) (Nat.le_refl _) _⟩
      · have c0 := hk0.1
        have f0 := hk0.2
        have E1 := Lib.hid hk1
        have E0 := Lib.hid hk0
        have HB := Lib.hid hb
        have HZ := Lib.hid hz
        clear hk0 hk1 hb hL hx
        rw [decide_eq_false hz]
        clear hz
        go_wp2
        go_region
        first | go_end0 | go_wp2
        refine leaves_cons (f := 22) (args := #[.pointer (some ⟨w.heap.size + 1, 0, none⟩), .pointer (some ⟨w.heap.size, 0, none⟩)]) (by simp) (by simp [go_sem]) ?_
        refine (bk_report (w.heap.size + 1) w.heap.size K 0 .returning _ ?_ ?_ ?_).mono ?_
        · show (w5.setCell _ _).cell? _ = _
          rw [World.cell?_setCell_other (h := by intro e; have := congrArg Addr.block e; simp at this)]; exact E1.out.1
        · exact (E0.out.set 0).1
        · exact (E0.out.set 0).2
        rintro e' u' w'' ⟨rfl, rfl, rfl⟩
        refine ⟨.tuple #[.slice none 0 0, .int .i64 K], ?_, ?_⟩
        · have hcc := ((E0.out.set 0).set K).1
          simp [go_sem, results, Try.results14, hcc]
        · unfold trL
          rw [HKE.out, if_neg HZ.out]
          exact ⟨none, 0, rfl, IntsL.nil, ((HB.out.setCell (Nat.le_refl _) _).drew).setCell (Nat.le_refl _) _⟩
    · have hp := okT_high (n := x.length) c6
      have HPP := Lib.hid hp
      have d1 : decide ((1 : Int) ≤ lv) = true := by simp; omega
      have d2 : decide (lv ≤ 6) = false := by simp; omega
      clear hp
      go_enter_defers Try.func14, Try.ntmps14
      go_wp2_with fail
      refine (bk_Valid A ls c _ (hL.grow H0.out) hl HL2.out).mono ?_
      rintro e' w1 ⟨rfl, hb1⟩
      have hb := H0.out.trans (hb1.mono H0.out.size)
      have hk0 := K0.out.keep hb1
      have hk1 := K1.out.keep hb1
      clear hb1 K0 K1 H0
      go_wp2_with fail
      refine (bk_need (w.heap.size + 1) 0 2 _ _ hk1 (by decide)).mono ?_
      rintro e' w2 ⟨rfl, hk1, hg⟩
      have hb := grown_to hb hg (by omega)
      have hk0 := hk0.kept hg (by omega)
      clear hg
      go_wp2_with fail
      refine (bk_need (w.heap.size + 1) _ 1 false _ hk1 (by decide)).mono ?_
      rintro e' w3 ⟨rfl, hk1, hg⟩
      have hb := grown_to hb hg (by omega)
      have hk0 := hk0.kept hg (by omega)
      clear hg 
      go_wp2_with fail
      refine (bk_need (w.heap.size + 1) _ 4 _ _ hk1 (by decide)).mono ?_
      rintro e' w4 ⟨rfl, hk1, hg⟩
      have hb := grown_to hb hg (by omega)
      have hk0 := hk0.kept hg (by omega)
      clear hg
      go_wp2_with fail
      have ha : Below w.heap.size w (w4.alloc (.cells #[.slice B x.length d] 23)) := hb.alloc hb.size _
      have hba : Below w4.heap.size w4 (w4.alloc (.cells #[.slice B x.length d] 23)) := (Below.refl _ _).alloc (Nat.le_refl _) _
      have hfar4 := IntsFar.one (d := d) (t := 23) (hx.grow hb) (q := w.heap.size + 1) (cell_lt hk1.1) HFAR.out
      have hk1 := hk1.keep hba
      have hk0 := hk0.keep hba
      clear hb hba
      refine (bk_words (w.heap.size + 1) _ _ [x] 1 1 _ hk1 hfar4 rfl (by omega) (by simp; omega)).mono ?_
      rintro e' w5 ⟨rfl, hk1, hg⟩
      have hb := grown_to ha hg (by omega)
      have hk0 := hk0.kept hg (by omega)
      clear hg ha hfar4
      obtain ⟨K, hK⟩ : ∃ K, needV (needV (needV (needV 0 (lftsB ls) 2) false 1) (decide ((x.length : Int) ≤ 4096)) 4) ([x].all fun l => l.all wB) 17 = K := ⟨_, rfl⟩
      rw [hK] at hk1 ⊢
      have hKE : trE ls x lv = K := by
        rw [← hK]
        unfold trE
        rw [HPP.out, List.all_cons, List.all_nil, Bool.and_true]
        congr 2
        rw [decide_eq_decide]; omega
      have HKE := Lib.hid hKE
      clear hKE hK
      by_cases hz : K = 0
      · exact absurd (trE_zero (HKE.out.trans hz)).2.1 (by rw [HPP.out]; decide)
      · have c0 := hk0.1
        have f0 := hk0.2
        have E1 := Lib.hid hk1
        have E0 := Lib.hid hk0
        have HB := Lib.hid hb
        have HZ := Lib.hid hz
        clear hk0 hk1 hb hL hx
        rw [decide_eq_false hz]
        clear hz
        go_wp2
        go_region
        first | go_end0 | go_wp2
        refine leaves_cons (f := 22) (args := #[.pointer (some ⟨w.heap.size + 1, 0, none⟩), .pointer (some ⟨w.heap.size, 0, none⟩)]) (by simp) (by simp [go_sem]) ?_
        refine (bk_report (w.heap.size + 1) w.heap.size K 0 .returning _ ?_ ?_ ?_).mono ?_
        · show (w5.setCell _ _).cell? _ = _
          rw [World.cell?_setCell_other (h := by intro e; have := congrArg Addr.block e; simp at this)]; exact E1.out.1
        · exact (E0.out.set 0).1
        · exact (E0.out.set 0).2
        rintro e' u' w'' ⟨rfl, rfl, rfl⟩
        refine ⟨.tuple #[.slice none 0 0, .int .i64 K], ?_, ?_⟩
        · have hcc := ((E0.out.set 0).set K).1
          simp [go_sem, results, Try.results14, hcc]
        · unfold trL
          rw [HKE.out, if_neg HZ.out]
          exact ⟨none, 0, rfl, IntsL.nil, ((HB.out.setCell (Nat.le_refl _) _).drew).setCell (Nat.le_refl _) _⟩
  · have hp := okT_low (n := x.length) c1
    have HPP := Lib.hid hp
    have d1 : decide ((1 : Int) ≤ lv) = false := by simp; omega
    clear hp
    go_enter_defers Try.func14, Try.ntmps14
    go_wp2_with fail
    refine (bk_Valid A ls c _ (hL.grow H0.out) hl HL2.out).mono ?_
    rintro e' w1 ⟨rfl, hb1⟩
    have hb := H0.out.trans (hb1.mono H0.out.size)
    have hk0 := K0.out.keep hb1
    have hk1 := K1.out.keep hb1
    clear hb1 K0 K1 H0
    go_wp2_with fail
    refine (bk_need (w.heap.size + 1) 0 2 _ _ hk1 (by decide)).mono ?_
    rintro e' w2 ⟨rfl, hk1, hg⟩
    have hb := grown_to hb hg (by omega)
    have hk0 := hk0.kept hg (by omega)
    clear hg
    go_wp2_with fail
    refine (bk_need (w.heap.size + 1) _ 1 false _ hk1 (by decide)).mono ?_
    rintro e' w3 ⟨rfl, hk1, hg⟩
    have hb := grown_to hb hg (by omega)
    have hk0 := hk0.kept hg (by omega)
    clear hg 
    go_wp2_with fail
    refine (bk_need (w.heap.size + 1) _ 4 _ _ hk1 (by decide)).mono ?_
    rintro e' w4 ⟨rfl, hk1, hg⟩
    have hb := grown_to hb hg (by omega)
    have hk0 := hk0.kept hg (by omega)
    clear hg
    go_wp2_with fail
    have ha : Below w.heap.size w (w4.alloc (.cells #[.slice B x.length d] 23)) := hb.alloc hb.size _
    have hba : Below w4.heap.size w4 (w4.alloc (.cells #[.slice B x.length d] 23)) := (Below.refl _ _).alloc (Nat.le_refl _) _
    have hfar4 := IntsFar.one (d := d) (t := 23) (hx.grow hb) (q := w.heap.size + 1) (cell_lt hk1.1) HFAR.out
    have hk1 := hk1.keep hba
    have hk0 := hk0.keep hba
    clear hb hba
    refine (bk_words (w.heap.size + 1) _ _ [x] 1 1 _ hk1 hfar4 rfl (by omega) (by simp; omega)).mono ?_
    rintro e' w5 ⟨rfl, hk1, hg⟩
    have hb := grown_to ha hg (by omega)
    have hk0 := hk0.kept hg (by omega)
    clear hg ha hfar4
    obtain ⟨K, hK⟩ : ∃ K, needV (needV (needV (needV 0 (lftsB ls) 2) false 1) (decide ((x.length : Int) ≤ 4096)) 4) ([x].all fun l => l.all wB) 17 = K := ⟨_, rfl⟩
    rw [hK] at hk1 ⊢
    have hKE : trE ls x lv = K := by
      rw [← hK]
      unfold trE
      rw [HPP.out, List.all_cons, List.all_nil, Bool.and_true]
      congr 2
      rw [decide_eq_decide]; omega
    have HKE := Lib.hid hKE
    clear hKE hK
    by_cases hz : K = 0
    · exact absurd (trE_zero (HKE.out.trans hz)).2.1 (by rw [HPP.out]; decide)
    · have c0 := hk0.1
      have f0 := hk0.2
      have E1 := Lib.hid hk1
      have E0 := Lib.hid hk0
      have HB := Lib.hid hb
      have HZ := Lib.hid hz
      clear hk0 hk1 hb hL hx
      rw [decide_eq_false hz]
      clear hz
      go_wp2
      go_region
      first | go_end0 | go_wp2
      refine leaves_cons (f := 22) (args := #[.pointer (some ⟨w.heap.size + 1, 0, none⟩), .pointer (some ⟨w.heap.size, 0, none⟩)]) (by simp) (by simp [go_sem]) ?_
      refine (bk_report (w.heap.size + 1) w.heap.size K 0 .returning _ ?_ ?_ ?_).mono ?_
      · show (w5.setCell _ _).cell? _ = _
        rw [World.cell?_setCell_other (h := by intro e; have := congrArg Addr.block e; simp at this)]; exact E1.out.1
      · exact (E0.out.set 0).1
      · exact (E0.out.set 0).2
      rintro e' u' w'' ⟨rfl, rfl, rfl⟩
      refine ⟨.tuple #[.slice none 0 0, .int .i64 K], ?_, ?_⟩
      · have hcc := ((E0.out.set 0).set K).1
        simp [go_sem, results, Try.results14, hcc]
      · unfold trL
        rw [HKE.out, if_neg HZ.out]
        exact ⟨none, 0, rfl, IntsL.nil, ((HB.out.setCell (Nat.le_refl _) _).drew).setCell (Nat.le_refl _) _⟩
end Go.Proofs.Ytimhplkkgbpapaa
