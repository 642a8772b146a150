/- The walk of Untree of package bank. -/
import Derived.Test.YtimhplkkgbpapaaVg
namespace Go.Proofs.Ytimhplkkgbpapaa
open Go.RowKit

theorem fit_le {ll : List (List Int)} (hf : fitB ll = true) : ∀ i, i + 2 ≤ ll.length → lenL ll i ≤ lenL ll 0 := by
  intro i
  induction i with
  | zero => intro _; exact Nat.le_refl _
  | succ i ih =>
    intro h
    have := (fitB_iff.1 hf).2.2.1 i (by omega)
    have := ih (by omega)
    omega
theorem take_sum {ll : List (List Int)} {r : Nat} {l : List Int} (h : ll[r]? = some l) : sumL (ll.take (r + 1)) = sumL (ll.take r) + l.length := by
  rw [List.take_add_one, h, sumL_append]
  simp [sumL]
theorem sum_le {ll : List (List Int)} {b : Nat} (h : ∀ l ∈ ll, l.length ≤ b) : sumL ll ≤ ll.length * b := by
  induction ll with
  | nil => simp [sumL]
  | cons a t ih =>
    have h1 := h a (List.mem_cons_self ..)
    have h2 := ih (fun l hl => h l (List.mem_cons_of_mem _ hl))
    have e : sumL (a :: t) = a.length + sumL t := by simp [sumL]
    rw [e, List.length_cons, Nat.succ_mul]
    omega
def unE (ls : List Lft) (ll : List (List Int)) : Int := needV (needV (needV (needV 0 (lftsB ls) 2) (fitB ll) 1) (decide ((sumL ll : Int) ≤ 4096)) 4) (ll.all fun l => l.all wB) 17
def unX (ls : List Lft) (ll : List (List Int)) : List Int := if unE ls ll = 0 then unF ls ll.dropLast (ll.getLastD []) else []
theorem unE_zero {ls : List Lft} {ll : List (List Int)} (h : unE ls ll = 0) : lftsB ls = true ∧ fitB ll = true ∧ sumL ll ≤ 4096 ∧ ∀ l ∈ ll, W32 l := by
  unfold unE at h
  obtain ⟨h, h4⟩ := need_zero (by decide) h
  obtain ⟨h, h3⟩ := need_zero (by decide) h
  obtain ⟨h, h2⟩ := need_zero (by decide) h
  obtain ⟨_, h1⟩ := need_zero (by decide) h
  have h3 := of_decide_eq_true h3
  exact ⟨h1, h2, by omega, fun l hl => wB_iff.1 (List.all_eq_true.1 h4 l hl)⟩
theorem unE_ok {ls : List Lft} {ll : List (List Int)} (h1 : lftsB ls = true) (h2 : fitB ll = true) (h3 : sumL ll ≤ 4096) (h4 : ∀ l ∈ ll, W32 l) : unE ls ll = 0 := by
  unfold unE
  rw [h1, h2, List.all_eq_true.2 fun l hl => wB_iff.2 (h4 l hl), decide_eq_true (by omega : (sumL ll : Int) ≤ 4096)]
  rfl
theorem IntsL.far {w w' : World} {q : Nat} {A : Option Addr} {ll : List (List Int)} (h : IntsL w A ll) (hb : Below w.heap.size w w') (hq : w.heap.size ≤ q) : IntsFar w' q A ll := fun k l hk => by
  obtain ⟨ad, B, c, e, h1, h2, h3⟩ := h k l hk
  exact ⟨ad, B, c, e, by omega, (hb.cell (by rw [block_add]; exact h1)).trans h2, h3.grow hb, fun hl a ha => by have := h3.block hl ha; omega⟩
/-- One slice and an error. -/
def RetI (w : World) (l : List Int) (E : Int) (e : Ending) (w' : World) : Prop := ∃ A c, e = .returned (.tuple #[.slice A l.length c, .int .i64 E]) ∧ Ints w' A l ∧ Below w.heap.size w w'
/-- The sequence in hand on the way back. -/
def XAt (w : World) (q : Nat) (x : Value) (l : List Int) : Prop := ∃ C c, x = .slice C l.length c ∧ Ints w C l ∧ (l ≠ [] → ∀ a, C = some a → a.block ≠ q)
set_option maxRecDepth 100000 in
set_option maxHeartbeats 4000000 in
theorem bk_Untree (A B : Option Addr) (ls : List Lft) (ll : List (List Int)) (c d n : Nat) (w : World) (hL : Lifts w A ls) (hx : IntsL w B ll) (hn : n = ll.length) (hl : ls.length ≤ 1000000) (hl2 : ∀ s ∈ ls, s.2.2.1.length ≤ 9223372036854775807) (hn2 : n ≤ 1000) (hxl : ∀ l ∈ ll, l.length ≤ 1000000) :
    Calls Try.prog 16 #[.slice A ls.length c, .slice B n d] w (RetI w (unX ls ll) (unE ls ll)) := by
  have HL2 := Lib.hid hl2
  have HXL := Lib.hid hxl
  have HN := Lib.hid hn
  have h0 : Below w.heap.size w ((w.alloc (.cells #[.int .i64 0] 30)).alloc (.cells #[.int .i64 0] 51)) := ((Below.refl _ _).alloc (Nat.le_refl _) _).alloc (by simp) _
  have k0 : CheckAt ((w.alloc (.cells #[.int .i64 0] 30)).alloc (.cells #[.int .i64 0] 51)) w.heap.size 0 := ⟨by simp [go_sem], by simp [go_sem]⟩
  have k1 : CheckAt ((w.alloc (.cells #[.int .i64 0] 30)).alloc (.cells #[.int .i64 0] 51)) (w.heap.size + 1) 0 := ⟨by simp [go_sem], by simp [go_sem]⟩
  have H0 := Lib.hid h0
  have K0 := Lib.hid k0
  have K1 := Lib.hid k1
  have HX := Lib.hid hx
  clear h0 k0 k1 hl2 hxl hn hx
  go_enter_defers Try.func16, Try.ntmps16
  go_wp2_with fail
  refine (bk_Valid A ls c _ (hL.grow H0.out) hl HL2.out).mono ?_
  rintro e' w1 ⟨rfl, hb1⟩
  have hb := H0.out.trans (hb1.mono H0.out.size)
  have hk0 := K0.out.keep hb1
  have hk1 := K1.out.keep hb1
  clear hb1 K0 K1 H0
  go_wp2_with fail
  refine (bk_need (w.heap.size + 1) 0 2 _ _ hk1 (by decide)).mono ?_
  rintro e' w2 ⟨rfl, hk1, hg⟩
  have hb := grown_to hb hg (by omega)
  have hk0 := hk0.kept hg (by omega)
  clear hg
  go_wp2_with fail
  refine (bk_fitting B ll d n _ (HX.out.grow hb) HN.out HXL.out (by omega)).mono ?_
  rintro e' w9 ⟨rfl, hb1⟩
  have hk0 := hk0.keep hb1
  have hk1 := hk1.keep hb1
  have hb := hb.trans (hb1.mono hb.size)
  clear hb1
  go_wp2_with fail
  refine (bk_need (w.heap.size + 1) _ 1 _ _ hk1 (by decide)).mono ?_
  rintro e' w3 ⟨rfl, hk1, hg⟩
  have hb := grown_to hb hg (by omega)
  have hk0 := hk0.kept hg (by omega)
  clear hg
  have HB3 := Lib.hid hb
  have HK0 := Lib.hid hk0
  have HK1 := Lib.hid hk1
  have HLw := Lib.hid hL
  clear hb hk0 hk1 hL
  go_wp2_with fail
  go_loopw [7, 9, 20] (fun s _ i wr => ∃ r t : Nat, r ≤ n ∧ i = .int .i64 r ∧ s = .int .i64 t ∧ t = sumL (ll.take r) ∧ wr = w3) (fun _ _ i _ => n - (intOf i).toNat)
  case atStart => exact ⟨0, 0, Nat.zero_le _, rfl, rfl, by simp [sumL], rfl⟩
  case round =>
    obtain ⟨r, t, hr, rfl, rfl, ht, rfl⟩ := hrel
    by_cases hlt : r < n
    · obtain ⟨ad, l1, B1, c1, rfl, hb1, hg1, hc1, _⟩ := (HX.out.grow HB3.out).at_ (k := r) (by have := HN.out; omega)
      have hts : t + l1.length = sumL (ll.take (r + 1)) := by rw [take_sum hg1, ht]
      have hle : sumL (ll.take r) ≤ 1000 * 1000000 := by
        have h1 := sum_le (ll := ll.take r) (b := 1000000) (fun l hl => HXL.out l (List.mem_of_mem_take hl))
        have h2 : (ll.take r).length ≤ 1000 := by rw [List.length_take]; omega
        exact Nat.le_trans h1 (Nat.mul_le_mul_right _ h2)
      have hll := HXL.out l1 (List.mem_of_getElem? hg1)
      rw [← ht] at hle
      obtain ⟨a, ha⟩ : ∃ a, l1.length = a := ⟨_, rfl⟩
      rw [ha] at hc1 hts hll
      have HT := Lib.hid hts
      have x1 : IntKind.i64.wrap ((t : Int) + (a : Int)) = (t : Int) + (a : Int) := IntWalk.i64_in _ (by omega)
      clear ht hts ha hg1 hb1
      go_wp2
      go_roundw
      case rel => exact ⟨r + 1, t + a, by omega, by go_num, by go_num, HT.out, by trivial⟩
      case measure => simp [intOf]; omega
    · obtain rfl : r = n := by omega
      rw [List.take_of_length_le (by have := HN.out; omega)] at ht
      have HT := Lib.hid ht
      clear ht
      go_wp2_with fail
      refine (bk_need (w.heap.size + 1) _ 4 _ _ HK1.out (by decide)).mono ?_
      rintro e' w4 ⟨rfl, hk1, hg⟩
      have hb := grown_to HB3.out hg (by omega)
      have hk0 := HK0.out.kept hg (by omega)
      clear hg HK1 HK0 HB3
      go_wp2_with fail
      refine (bk_words (w.heap.size + 1) _ _ ll d r _ hk1 (HX.out.far hb (by omega)) HN.out (by omega) (fun l hl => by have := HXL.out l hl; omega)).mono ?_
      rintro e' w5 ⟨rfl, hk1, hg⟩
      have hb := grown_to hb hg (by omega)
      have hk0 := hk0.kept hg (by omega)
      clear hg
      obtain ⟨K, hK⟩ : ∃ K, needV (needV (needV (needV 0 (lftsB ls) 2) (fitB ll) 1) (decide ((t : Int) ≤ 4096)) 4) (ll.all fun l => l.all wB) 17 = K := ⟨_, rfl⟩
      rw [hK] at hk1 ⊢
      have hKE : unE ls ll = K := by rw [← hK, HT.out]; rfl
      have HKE := Lib.hid hKE
      clear hKE hK HT
      by_cases hz : K = 0
      · subst hz
        obtain ⟨z1, z2, z3, z4⟩ := unE_zero HKE.out
        have hf := fitB_iff.1 z2
        obtain ⟨bs, a, hba⟩ : ∃ bs a, ll = bs ++ [a] := ⟨ll.dropLast, ll.getLast (by intro e; rw [e] at hf; have := hf.1; simp at this), (List.dropLast_concat_getLast _).symm⟩
        have hbl : bs.length + 1 = r := by rw [HN.out, hba]; simp
        obtain ⟨M, hM⟩ : ∃ M, bs.length = M := ⟨_, rfl⟩
        have hM1 : 1 ≤ M := by have := hf.1; have := HN.out; omega
        have hM7 : M ≤ 7 := by have := hf.2.1; have := HN.out; omega
        have hs0 := fit_sum (ll := ll) (ll.length - 2) (by have := hf.1; omega) hf.2.2.1 hf.2.2.2
        have HS0 : Hid (lenL ll 0 ≤ 2048) := by show _ ≤ _; omega
        have Z := Lib.hid (lfts_ok z1)
        have Z2 := Lib.hid z2
        have Z4 := Lib.hid z4
        have HBA := Lib.hid hba
        have HML := Lib.hid hM
        have HMR : Hid (M + 1 = r) := by show _ = _; omega
        have hrM : (r : Int) = (M : Int) + 1 := by omega
        have e1 : IntKind.i64.wrap ((r : Int) - 1) = (M : Int) := by rw [IntWalk.i64_in _ (by omega)]; omega
        have e2 : (0 : Int) ≤ (M : Int) := by omega
        have e3 : (M : Int) < (r : Int) := by omega
        obtain ⟨ad, l1, B1, c1, rfl, hb1, hg1, hc1, hi1⟩ := HX.out.at_ (k := M) (by have := HN.out; omega)
        have hga : ll[M]? = some a := by rw [hba, List.getElem?_append_right (by omega), hM, Nat.sub_self]; rfl
        rw [hga] at hg1
        injection hg1 with hg1
        subst hg1
        have hc1 := (hb.cell (by rw [block_add]; exact hb1)).trans hc1
        have hfa : a ≠ [] → ∀ p, B1 = some p → p.block ≠ w.heap.size := fun hl p hp => by have := hi1.block hl hp; omega
        have HFA := Lib.hid hfa
        have HI1 := Lib.hid (hi1.grow hb)
        have HB := Lib.hid hb
        have HK0 := Lib.hid hk0
        have HK1 := Lib.hid hk1
        have e4 : IntKind.i64.wrap ((M : Int) - 1) = (M : Int) - 1 := IntWalk.i64_in _ (by omega)
        clear z1 z2 z3 z4 hf hba hbl hM hs0 hga hfa hi1 hb hk0 hk1 hrM hb1
        rw [decide_eq_true (show (0 : Int) = 0 from rfl)]
        go_wp2_with fail
        clear e1 e2 e3 hc1
        go_loopw [4, 11] (fun x i wr => ∃ (j : Nat) (z : Int), j ≤ M ∧ i = .int .i64 z ∧ z = (j : Int) - 1 ∧ XAt wr w.heap.size x (unD ls bs a j) ∧ Below w5.heap.size w5 wr) (fun _ i _ => (intOf i + 1).toNat)
        case atStart => exact ⟨M, (M : Int) - 1, Nat.le_refl _, rfl, rfl, ⟨B1, c1, by rw [← HML.out, unD_end], by rw [← HML.out, unD_end]; exact HI1.out, by rw [← HML.out, unD_end]; exact HFA.out⟩, Below.refl _ _⟩
        case round =>
          obtain ⟨j, z, hj, rfl, hz, ⟨C, cc, rfl, hI, hne⟩, hbw⟩ := hrel
          cases j with
          | succ J =>
            obtain rfl : z = (J : Int) := by omega
            obtain ⟨ad', l1, D1, d1, e, hb1, hg1, hc1, hi1⟩ := HX.out.at_ (k := J) (by have := HN.out; have := HMR.out; omega)
            injection e with e
            subst e
            have hgb : bs[J]? = some l1 := by
              rw [HBA.out, List.getElem?_append_left (by have := HML.out; omega)] at hg1
              exact hg1
            have hst := unD_step (ls := ls) (a := a) hgb
            have hlen := fit_len (ls := ls) Z2.out HBA.out (M - (J + 1)) J (by have := HML.out; omega)
            have hlj := lenL_get hg1
            have hle := fit_le Z2.out J (by have := HN.out; have := HMR.out; omega)
            have hwa : W32 a := Z4.out a (by rw [HBA.out]; simp)
            have hwb : ∀ l ∈ bs, W32 l := fun l hl => Z4.out l (by rw [HBA.out]; exact List.mem_append_left _ hl)
            have hwx := w32_unD (ls := ls) hwa hwb (M - (J + 1)) (J + 1) (by have := HML.out; omega)
            have hw1 := hwb l1 (List.mem_of_getElem? hgb)
            obtain ⟨X, hX⟩ : ∃ X, unD ls bs a (J + 1) = X := ⟨_, rfl⟩
            rw [hX] at hst hlen hwx hI hne
            have hc1 := ((HB.out.trans (hbw.mono HB.out.size)).cell (by rw [block_add]; exact hb1)).trans hc1
            have HI2 := Lib.hid (hi1.grow (HB.out.trans (hbw.mono HB.out.size)))
            have HLr := Lib.hid (HLw.out.grow (HB.out.trans (hbw.mono HB.out.size)))
            have HST := Lib.hid hst
            have HL1 : Hid (X.length = lenL ll J) := hlen
            have HL3 : Hid (l1.length = lenL ll J) := hlj.symm
            have hh : lenL ll J ≤ 2048 := Nat.le_trans hle HS0.out
            have HWX := Lib.hid hwx
            have HW1 := Lib.hid hw1
            have HBW := Lib.hid hbw
            have x1 : (0 : Int) ≤ (J : Int) := by omega
            have x2 : (J : Int) < (r : Int) := by have := HMR.out; omega
            have x3 : IntKind.i64.wrap ((J : Int) - 1) = (J : Int) - 1 := IntWalk.i64_in _ (by omega)
            have hs5 := hbw.size
            have J7 : J ≤ 7 := by omega
            rw [hX]
            clear hst hlen hlj hwx hw1 hbw hg1 hgb hwa hwb hX hi1 hne hz e4 hle
            go_wp2_with (go_at_call 27; refine (bk_synthesise A C D1 ls X l1 c cc d1 (lenL ll J) _ HLr.out hI HI2.out Z.out.2 Z.out.1 HL1.out HL3.out hh HWX.out HW1.out).mono ?_; rintro e' w6 ⟨v1, rfl, o1, hb6⟩)
            go_roundw
            case rel =>
              obtain ⟨C1, c1', rfl, _, i1⟩ := o1.form
              have hs := HB.out.size
              exact ⟨J, (J : Int) - 1, by omega, by go_num, rfl, ⟨C1, c1', by rw [HST.out], by rw [HST.out]; exact i1, fun _ p hp => by have := o1.far p hp; have := cell_lt HK0.out.1; simp at this; omega⟩, HBW.out.trans (hb6.mono hs5)⟩
            case measure => simp [intOf]
          | zero =>
            obtain rfl : z = -1 := by simpa using hz
            have HBW := Lib.hid hbw
            have HI := Lib.hid hI
            have HNE := Lib.hid hne
            have hs5 := hbw.size
            have e0 := HK0.out.keep hbw
            have e1 := HK1.out.keep hbw
            have c0 := e0.1
            have f0 := e0.2
            have E1 := Lib.hid e1
            have E0 := Lib.hid e0
            clear e0 e1 hbw hI hne hz e4
            go_wp2
            go_region
            first | go_end0 | go_wp2
            refine leaves_cons (f := 22) (args := #[.pointer (some ⟨w.heap.size + 1, 0, none⟩), .pointer (some ⟨w.heap.size, 0, none⟩)]) (by simp) (by simp [go_sem]) ?_
            refine (bk_report (w.heap.size + 1) w.heap.size 0 0 .returning _ ?_ ?_ ?_).mono ?_
            · show (wr.setCell _ _).cell? _ = _
              rw [World.cell?_setCell_other (h := by intro e; have := congrArg Addr.block e; simp at this)]; exact E1.out.1
            · exact (E0.out.set 0).1
            · exact (E0.out.set 0).2
            rintro e' u' w'' ⟨rfl, rfl, rfl⟩
            refine ⟨.tuple #[.slice C (unD ls bs a 0).length cc, .int .i64 0], ?_, ?_⟩
            · have hcc := ((E0.out.set 0).set 0).1
              simp [go_sem, results, Try.results16, hcc]
            · have hX : unX ls ll = unD ls bs a 0 := by
                unfold unX
                rw [HKE.out, if_pos rfl, HBA.out, List.dropLast_concat, unD_zero]
                simp
              rw [HKE.out, hX]
              have hs := HB.out.size
              have h1 := (HI.out.other (g := w.heap.size) (k := 0) (u := .int .i64 0) HNE.out).grow ((Below.refl _ _).drew)
              have h2 := h1.other (g := w.heap.size) (k := 0) (u := .int .i64 0) HNE.out
              exact ⟨C, cc, rfl, h2, (((HB.out.trans (HBW.out.mono hs)).setCell (p := ⟨w.heap.size, 0, none⟩) (Nat.le_refl _) _).drew).setCell (p := ⟨w.heap.size, 0, none⟩) (Nat.le_refl _) _⟩
      · have c0 := hk0.1
        have f0 := hk0.2
        have E1 := Lib.hid hk1
        have E0 := Lib.hid hk0
        have HB := Lib.hid hb
        have HZ := Lib.hid hz
        clear hk0 hk1 hb
        rw [decide_eq_false hz]
        clear hz
        go_wp2
        go_region
        first | go_end0 | go_wp2
        refine leaves_cons (f := 22) (args := #[.pointer (some ⟨w.heap.size + 1, 0, none⟩), .pointer (some ⟨w.heap.size, 0, none⟩)]) (by simp) (by simp [go_sem]) ?_
        refine (bk_report (w.heap.size + 1) w.heap.size K 0 .returning _ ?_ ?_ ?_).mono ?_
        · show (w5.setCell _ _).cell? _ = _
          rw [World.cell?_setCell_other (h := by intro e; have := congrArg Addr.block e; simp at this)]; exact E1.out.1
        · exact (E0.out.set 0).1
        · exact (E0.out.set 0).2
        rintro e' u' w'' ⟨rfl, rfl, rfl⟩
        refine ⟨.tuple #[.slice none 0 0, .int .i64 K], ?_, ?_⟩
        · have hcc := ((E0.out.set 0).set K).1
          simp [go_sem, results, Try.results16, hcc]
        · unfold unX
          rw [HKE.out, if_neg HZ.out]
          exact ⟨none, 0, rfl, Ints.nil, ((HB.out.setCell (p := ⟨w.heap.size, 0, none⟩) (Nat.le_refl _) _).drew).setCell (p := ⟨w.heap.size, 0, none⟩) (Nat.le_refl _) _⟩
end Go.Proofs.Ytimhplkkgbpapaa
