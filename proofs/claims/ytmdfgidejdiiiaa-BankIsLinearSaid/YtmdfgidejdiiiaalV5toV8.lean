/- Several texts in one: V5 V6 V7 La B V8. -/
import Derived.Test.YtmdfgidejdiiiaalZstoV4
import Derived.Defers
import Derived.Handy
import Derived.Test.YtmdfgidejdiiiaalFxtoV1
import Derived.Test.YtmdfgidejdiiiaalPltoZa
import Derived.Deep.RegionHeld3
set_option linter.unusedVariables false
set_option linter.unusedSimpArgs false
section
namespace Go.Proofs.Ytmdfgidejdiiiaa
open Go.RowKit
def needV (k : Int) (ok : Bool) (code : Int) : Int := if k = 0 ∧ ok = false then code else k
theorem need_true (k code : Int) : needV k true code = k := by unfold needV; rw [if_neg (by simp)]
theorem need_set {k code : Int} (h : k ≠ 0) (ok : Bool) : needV k ok code = k := by unfold needV; rw [if_neg (fun hc => h hc.1)]
theorem need_new (code : Int) : needV 0 false code = code := rfl
theorem need_need {k code : Int} (hc : code ≠ 0) (a b : Bool) : needV (needV k a code) b code = needV k (a && b) code := by
  by_cases hk : k = 0
  · subst hk
    cases a
    · rw [need_new, need_set hc, Bool.false_and, need_new]
    · rw [need_true, Bool.true_and]
  · rw [need_set hk, need_set hk, need_set hk]
def CheckAt (w : World) (q : Nat) (k : Int) : Prop := w.cell? ⟨q, 0, none⟩ = some (.int .i64 k) ∧ w.frozen? ⟨q, 0, none⟩ = false
theorem CheckAt.keep {w w' : World} {q : Nat} {k : Int} (h : CheckAt w q k) (hb : Below w.heap.size w w') : CheckAt w' q k :=
  ⟨(hb.cell (cell_lt h.1)).trans h.1, (hb.frozen (p := ⟨q, 0, none⟩) (cell_lt h.1)).trans h.2⟩
theorem CheckAt.set {w : World} {q : Nat} {k : Int} (h : CheckAt w q k) (v : Int) : CheckAt (w.setCell ⟨q, 0, none⟩ (.int .i64 v)) q v := by
  obtain ⟨h1, h2⟩ := h
  exact ⟨by simp [go_sem, h1], by simpa using h2⟩
def NeedPost (w : World) (q : Nat) (k : Int) (e : Ending) (w' : World) : Prop := e = .returned (.bool (decide (k = 0))) ∧ CheckAt w' q k ∧ w.grownBy w' (some q)
theorem bk_need (q : Nat) (k code : Int) (ok : Bool) (w : World) (h : CheckAt w q k) (hcode : code ≠ 0) :
    Calls Try.prog 65 #[.pointer (some ⟨q, 0, none⟩), .bool ok, .int .i64 code] w (NeedPost w q (needV k ok code)) := by
  have hset := h.set code
  have H := Lib.hid h
  obtain ⟨hc, hf⟩ := h
  by_cases hk : k = 0
  · subst hk
    cases ok
    · have hcd : ((code : Int) == 0) = false := by simpa using hcode
      have hc2 := hset.1
      have HS := Lib.hid hset
      clear hset
      go_enter Try.func65, Try.ntmps65
      go_wp2
      go_ret
      exact ⟨ret_bool (by rw [need_new]; simpa using hcode), HS.out, grown_set (grown_refl _ _)⟩
    · go_enter Try.func65, Try.ntmps65
      go_wp2
      go_ret
      exact ⟨by rw [need_true]; rfl, by rw [need_true]; exact H.out, grown_refl _ _⟩
  · have hkd : ((k : Int) == 0) = false := by simpa using hk
    have HK := Lib.hid hk
    go_enter Try.func65, Try.ntmps65
    go_wp2
    go_ret
    exact ⟨ret_bool (by rw [need_set HK.out]; simpa using HK.out), by rw [need_set HK.out]; exact H.out, grown_refl _ _⟩
def IntsFar (w : World) (q : Nat) (A : Option Addr) (ll : List (List Int)) : Prop :=
  ∀ k l, ll[k]? = some l → ∃ ad B c, A = some ad ∧ ad.block ≠ q ∧ w.cell? (ad.add k) = some (.slice B l.length c) ∧ Ints w B l ∧ (l ≠ [] → ∀ a, B = some a → a.block ≠ q)
theorem IntsFar.kept {w w' : World} {q : Nat} {A : Option Addr} {ll : List (List Int)} (h : IntsFar w q A ll) (hg : w.grownBy w' (some q)) : IntsFar w' q A ll := fun k l hk => by
  obtain ⟨ad, B, c, e, h1, h2, h3, h4⟩ := h k l hk
  exact ⟨ad, B, c, e, h1, hg.cell h2 (by rw [block_add]; intro e; injection e with e; exact h1 e), h3.kept hg (fun hl a ha e => by injection e with e; exact h4 hl a ha e), h4⟩
def wB (x : Int) : Bool := inB x (-2147483648) 2147483647
theorem wB_iff {l : List Int} : l.all wB = true ↔ W32 l := by
  constructor
  · intro h x hx
    have := inB_iff.1 (List.all_eq_true.1 h x hx); omega
  · intro h
    refine List.all_eq_true.2 fun x hx => inB_iff.2 ?_
    have := h x hx; omega
set_option maxRecDepth 100000 in
set_option maxHeartbeats 1000000 in
theorem bk_words (q : Nat) (k : Int) (A : Option Addr) (ll : List (List Int)) (c n : Nat) (w : World) (h : CheckAt w q k) (hf : IntsFar w q A ll) (hn : n = ll.length) (hl : n ≤ 1000000) (hl2 : ∀ l ∈ ll, l.length ≤ 9223372036854775807) :
    Calls Try.prog 66 #[.pointer (some ⟨q, 0, none⟩), .slice A n c] w (NeedPost w q (needV k (ll.all fun l => l.all wB) 17)) := by
  have HN := Lib.hid hn
  have hl3 : ll.length ≤ n := by omega
  have hl4 : n ≤ ll.length := by omega
  have HL2 := Lib.hid hl2
  clear hn hl2
  go_enter Try.func66, Try.ntmps66
  go_wp2
  go_loopw [6, 8, 11] (fun _ _ i wr => ∃ r : Nat, r ≤ n ∧ i = .int .i64 r ∧ CheckAt wr q (needV k ((ll.take r).all fun l => l.all wB) 17) ∧ w.grownBy wr (some q)) (fun _ _ i _ => n - (intOf i).toNat)
  case atStart => exact ⟨0, Nat.zero_le _, rfl, by show CheckAt w q (needV k true 17); rw [need_true]; exact h, grown_refl _ _⟩
  case round =>
    obtain ⟨r, hr, rfl, hck, hg⟩ := hrel
    by_cases hlt : r < n
    · obtain ⟨l, hll⟩ : ∃ l, ll[r]? = some l := ⟨_, List.getElem?_eq_getElem (by omega)⟩
      obtain ⟨ad, B, cc, rfl, hb1, hcl, hi, hb2⟩ := (hf.kept hg) r l hll
      have hlen := HL2.out l (List.mem_of_getElem? hll)
      have HSU := Lib.hid (take_succ_all hll (fun l => l.all wB))
      have HCK := Lib.hid hck
      have HG := Lib.hid hg
      have HB2 := Lib.hid (fun (hl : l ≠ []) a ha => (fun e => hb2 hl a ha (by injection e) : some a.block ≠ some q))
      clear hll hck hb2 hg
      go_wp2
      obtain ⟨wo, rfl⟩ : ∃ wo : World, wo = wr := ⟨_, rfl⟩
      go_loopw [8, 17] (fun _ i wr => ∃ j : Nat, j ≤ l.length ∧ i = .int .i64 j ∧ CheckAt wr q (needV k (((ll.take r).all fun l => l.all wB) && (l.take j).all wB) 17) ∧ wo.grownBy wr (some q)) (fun _ i _ => l.length - (intOf i).toNat)
      case atStart => exact ⟨0, Nat.zero_le _, rfl, by rw [List.take_zero, List.all_nil, Bool.and_true]; exact HCK.out, grown_refl _ _⟩
      case round =>
        obtain ⟨j, hj, rfl, hck2, hg2⟩ := hrel
        by_cases hlt2 : j < l.length
        · obtain ⟨ad2, x, rfl, hbx, hx, cx, x1, x2⟩ := (hi.kept hg2 HB2.out).at_ hlt2
          have HS2 := Lib.hid (take_succ_all hx wB)
          obtain ⟨K, hK⟩ : ∃ K, needV k (((ll.take r).all fun l => l.all wB) && (l.take j).all wB) 17 = K := ⟨_, rfl⟩
          rw [hK] at hck2
          have HK := Lib.hid hK
          have HC2 := Lib.hid hck2
          clear hx hK hck2
          rcases Bool.eq_false_or_eq_true (wB x) with hin | hin
          · obtain ⟨y1, y2⟩ := inB_iff.1 hin
            have HIN := Lib.hid hin
            clear hin
            have d1 : decide (-2147483648 ≤ x) = true := by simpa using y1
            have d2 : decide (x < 2147483648) = true := by simp; omega
            go_wp2_with (go_at_call 65; refine (bk_need q K 17 true _ HC2.out (by decide)).mono ?_; rintro e w3 ⟨rfl, hc3, hg3⟩)
            go_roundw
            case rel => exact ⟨j + 1, by omega, by go_num, by rw [HS2.out, HIN.out, Bool.and_true, HK.out]; rw [need_true] at hc3; exact hc3, hg2.trans hg3⟩
            case measure => simp [intOf]; omega
          · have y1 := inB_no.1 hin
            have HIN := Lib.hid hin
            clear hin
            rcases Int.lt_or_le x (-2147483648) with y2 | y2
            · have d1 : decide (-2147483648 ≤ x) = false := by simp; omega
              clear y1
              go_wp2_with (go_at_call 65; refine (bk_need q K 17 false _ HC2.out (by decide)).mono ?_; rintro e w3 ⟨rfl, hc3, hg3⟩)
              go_roundw
              case rel => exact ⟨j + 1, by omega, by go_num, by rw [HS2.out, HIN.out, ← Bool.and_assoc, ← need_need (by decide), HK.out]; exact hc3, hg2.trans hg3⟩
              case measure => simp [intOf]; omega
            · have d1 : decide (-2147483648 ≤ x) = true := by simp; omega
              have d2 : decide (x < 2147483648) = false := by simp; omega
              clear y1
              go_wp2_with (go_at_call 65; refine (bk_need q K 17 false _ HC2.out (by decide)).mono ?_; rintro e w3 ⟨rfl, hc3, hg3⟩)
              go_roundw
              case rel => exact ⟨j + 1, by omega, by go_num, by rw [HS2.out, HIN.out, ← Bool.and_assoc, ← need_need (by decide), HK.out]; exact hc3, hg2.trans hg3⟩
              case measure => simp [intOf]; omega
        · obtain rfl : j = l.length := by omega
          rw [List.take_length] at hck2
          go_wp2
          go_roundw
          case rel => exact ⟨r + 1, by omega, by go_num, by rw [HSU.out]; exact hck2, HG.out.trans hg2⟩
          case measure => simp [intOf]; omega
    · obtain rfl : r = n := by omega
      rw [HN.out, List.take_length] at hck
      obtain ⟨K, hK⟩ : ∃ K, needV k (ll.all fun l => l.all wB) 17 = K := ⟨_, rfl⟩
      rw [hK] at hck
      have HK := Lib.hid hK
      have HCK := Lib.hid hck
      have hc := hck.1
      clear hK hck
      go_wp2
      go_ret
      rw [HK.out]
      exact ⟨ret_bool (by rw [Bool.eq_iff_iff]; simp), HCK.out, hg⟩
end Go.Proofs.Ytmdfgidejdiiiaa
end
section
namespace Go.Proofs.Ytmdfgidejdiiiaa
open Go.RowKit
theorem bk_report (q r : Nat) (k old : Int) (u : FrameMode) (w : World) (hc : w.cell? ⟨q, 0, none⟩ = some (.int .i64 k)) (he : w.cell? ⟨r, 0, none⟩ = some (.int .i64 old)) (hf : w.frozen? ⟨r, 0, none⟩ = false) :
    CallsD Try.prog 64 #[.pointer (some ⟨q, 0, none⟩), .pointer (some ⟨r, 0, none⟩)] u w fun e u' w' => u' = u ∧ (e = .returned (.tuple #[]) ∧ w' = w.setCell ⟨r, 0, none⟩ (.int .i64 k)) := by
  go_enter_d Try.func64, Try.ntmps64
  go_wp2
  go_end0
  exact ⟨rfl, rfl⟩
def evenB (n : Nat) : Bool := (n : Int) % 2 == 0
def anE (ls : List Lft) (x : List Int) : Int := needV (needV (needV (needV 0 (lftsB ls) 2) (evenB x.length) 1) (decide (x.length ≤ 4096)) 4) (x.all wB) 17
def anLo (ls : List Lft) (x : List Int) : List Int := if anE ls x = 0 then (analyseF ls x).1 else []
def anHi (ls : List Lft) (x : List Int) : List Int := if anE ls x = 0 then (analyseF ls x).2 else []
theorem need_zero {k c : Int} {b : Bool} (hc : c ≠ 0) (h : needV k b c = 0) : k = 0 ∧ b = true := by
  unfold needV at h
  split at h
  · exact absurd h hc
  · refine ⟨h, ?_⟩
    cases b
    · rename_i hn; exact absurd ⟨h, rfl⟩ hn
    · rfl
theorem anE_zero {ls : List Lft} {x : List Int} (h : anE ls x = 0) : lftsB ls = true ∧ x.length = 2 * (x.length / 2) ∧ x.length ≤ 4096 ∧ W32 x := by
  unfold anE at h
  obtain ⟨h, h4⟩ := need_zero (by decide) h
  obtain ⟨h, h3⟩ := need_zero (by decide) h
  obtain ⟨h, h2⟩ := need_zero (by decide) h
  obtain ⟨_, h1⟩ := need_zero (by decide) h
  refine ⟨h1, ?_, of_decide_eq_true h3, wB_iff.1 h4⟩
  unfold evenB at h2
  rw [beq_iff_eq] at h2
  omega
theorem CheckAt.kept {w w' : World} {q r : Nat} {k : Int} (h : CheckAt w q k) (hg : w.grownBy w' (some r)) (hne : q ≠ r) : CheckAt w' q k :=
  ⟨hg.cell h.1 (by intro e; injection e with e; exact hne e), (World.frozen?_of_block (hg.block q (cell_lt h.1) (by intro e; injection e with e; exact hne e))).trans h.2⟩
theorem CheckAt.drew {w : World} {q : Nat} {k : Int} (h : CheckAt w q k) : CheckAt w.drew q k := h
theorem IntsFar.one {w : World} {q : Nat} {B : Option Addr} {l : List Int} {d : Nat} {t : TypeId} (h : Ints w B l) (hq : q < w.heap.size) (hb : l ≠ [] → ∀ a, B = some a → a.block ≠ q) :
    IntsFar (w.alloc (.cells #[.slice B l.length d] t)) q (some ⟨w.heap.size, 0, none⟩) [l] := fun k l' hk => by
  match k, hk with
  | 0, hk =>
    simp at hk
    subst hk
    exact ⟨_, B, d, rfl, by show w.heap.size ≠ q; omega, by simp [Addr.add, go_sem], h.grow ((Below.refl _ _).alloc (Nat.le_refl _) _), hb⟩
def Ret3 (w : World) (a b : List Int) (E : Int) (e : Ending) (w' : World) : Prop := ∃ v1 v2, e = .returned (.tuple #[v1, v2, .int .i64 E]) ∧ Own w.heap.size w' v1 a ∧ Own w.heap.size w' v2 b ∧ Below w.heap.size w w'
set_option maxRecDepth 100000 in
set_option maxHeartbeats 2000000 in
theorem bk_Analyse (A B : Option Addr) (ls : List Lft) (x : List Int) (c d : Nat) (w : World) (hL : Lifts w A ls) (hx : Ints w B x) (hl : ls.length ≤ 1000000) (hl2 : ∀ s ∈ ls, s.2.2.1.length ≤ 9223372036854775807) (hxl : x.length ≤ 1000000) :
    Calls Try.prog 17 #[.slice A ls.length c, .slice B x.length d] w (Ret3 w (anLo ls x) (anHi ls x) (anE ls x)) := by
  have hfar : x ≠ [] → ∀ a, B = some a → a.block ≠ w.heap.size + 1 := fun hc a e => by have := hx.block hc e; omega
  have HFAR := Lib.hid hfar
  have HL2 := Lib.hid hl2
  have h0 : Below w.heap.size w ((w.alloc (.cells #[.int .i64 0] 40)).alloc (.cells #[.int .i64 0] 89)) := ((Below.refl _ _).alloc (Nat.le_refl _) _).alloc (by simp) _
  have k0 : CheckAt ((w.alloc (.cells #[.int .i64 0] 40)).alloc (.cells #[.int .i64 0] 89)) w.heap.size 0 := ⟨by simp [go_sem], by simp [go_sem]⟩
  have k1 : CheckAt ((w.alloc (.cells #[.int .i64 0] 40)).alloc (.cells #[.int .i64 0] 89)) (w.heap.size + 1) 0 := ⟨by simp [go_sem], by simp [go_sem]⟩
  have H0 := Lib.hid h0
  have K0 := Lib.hid k0
  have K1 := Lib.hid k1
  clear h0 k0 k1 hfar hl2
  go_enter_defers Try.func17, Try.ntmps17
  go_wp2_with fail
  refine (bk_Valid A ls c _ (hL.grow H0.out) hl HL2.out).mono ?_
  rintro e w1 ⟨rfl, hb1⟩
  have hb := H0.out.trans (hb1.mono H0.out.size)
  have hk0 := K0.out.keep hb1
  have hk1 := K1.out.keep hb1
  clear hb1 K0 K1 H0
  go_wp2_with fail
  refine (bk_need (w.heap.size + 1) 0 2 _ _ hk1 (by decide)).mono ?_
  rintro e w2 ⟨rfl, hk1, hg⟩
  have hb := grown_to hb hg (by omega)
  have hk0 := hk0.kept hg (by omega)
  clear hg
  go_wp2_with fail
  refine (bk_need (w.heap.size + 1) _ 1 _ _ hk1 (by decide)).mono ?_
  rintro e w3 ⟨rfl, hk1, hg⟩
  have hb := grown_to hb hg (by omega)
  have hk0 := hk0.kept hg (by omega)
  clear hg
  go_wp2_with fail
  refine (bk_need (w.heap.size + 1) _ 4 _ _ hk1 (by decide)).mono ?_
  rintro e w4 ⟨rfl, hk1, hg⟩
  have hb := grown_to hb hg (by omega)
  have hk0 := hk0.kept hg (by omega)
  clear hg
  go_wp2_with fail
  have ha : Below w.heap.size w (w4.alloc (.cells #[.slice B x.length d] 33)) := hb.alloc hb.size _
  have hba : Below w4.heap.size w4 (w4.alloc (.cells #[.slice B x.length d] 33)) := (Below.refl _ _).alloc (Nat.le_refl _) _
  have hfar4 := IntsFar.one (d := d) (t := 33) (hx.grow hb) (q := w.heap.size + 1) (cell_lt hk1.1) HFAR.out
  have hk1 := hk1.keep hba
  have hk0 := hk0.keep hba
  clear hb hba
  refine (bk_words (w.heap.size + 1) _ _ [x] 1 1 _ hk1 hfar4 rfl (by omega) (by simp; omega)).mono ?_
  rintro e w5 ⟨rfl, hk1, hg⟩
  have hb := grown_to ha hg (by omega)
  have hk0 := hk0.kept hg (by omega)
  clear hg ha hfar4
  obtain ⟨K, hK⟩ : ∃ K, needV (needV (needV (needV 0 (lftsB ls) 2) ((x.length : Int) % 2 == 0) 1) (decide ((x.length : Int) ≤ 4096)) 4) ([x].all fun l => l.all wB) 17 = K := ⟨_, rfl⟩
  rw [hK] at hk1 ⊢
  have hKE : anE ls x = K := by
    rw [← hK]
    unfold anE evenB
    rw [List.all_cons, List.all_nil, Bool.and_true]
    congr 2
    rw [decide_eq_decide]; omega
  have HKE := Lib.hid hKE
  clear hKE hK
  by_cases hz : K = 0
  · subst hz
    obtain ⟨z1, z2, z3, z4⟩ := anE_zero HKE.out
    have Z := Lib.hid (lfts_ok z1)
    have Z2 := Lib.hid z2
    have Z3 := Lib.hid z3
    have Z4 := Lib.hid z4
    have HL := Lib.hid (hL.grow hb)
    have HX := Lib.hid (hx.grow hb)
    clear z1 z2 z3 z4 hL hx
    rw [decide_eq_true (show (0 : Int) = 0 from rfl)]
    go_wp2_with fail
    refine (bk_analyse A B ls x c d (x.length / 2) _ HL.out HX.out Z.out.2 Z.out.1 Z2.out (by have := Z3.out; omega) Z4.out).mono ?_
    rintro e w6 ⟨v1, v2, rfl, o1, o2, hb6⟩
    have O1 := Lib.hid o1
    have O2 := Lib.hid o2
    have HB := Lib.hid hb
    have H6 := Lib.hid (hb.trans (hb6.mono hb.size))
    have H5 := Lib.hid (cell_lt hk1.1)
    have e0 := hk0.keep hb6
    have e1 := hk1.keep hb6
    clear hk0 hk1 hb6 o1 o2 hb
    have c0 := e0.1
    have f0 := e0.2
    have E1 := Lib.hid e1
    have E0 := Lib.hid e0
    clear e0 e1
    go_wp2
    go_region
    first | go_end0 | go_wp2
    refine leaves_cons (f := 64) (args := #[.pointer (some ⟨w.heap.size + 1, 0, none⟩), .pointer (some ⟨w.heap.size, 0, none⟩)]) (by simp) (by simp [go_sem]) ?_
    refine (bk_report (w.heap.size + 1) w.heap.size 0 0 .returning _ ?_ ?_ ?_).mono ?_
    · show (w6.setCell _ _).cell? _ = _
      rw [World.cell?_setCell_other (h := by intro e; have := congrArg Addr.block e; simp at this)]; exact E1.out.1
    · exact (E0.out.set 0).1
    · exact (E0.out.set 0).2
    rintro e u' w'' ⟨rfl, rfl, rfl⟩
    refine ⟨.tuple #[v1, v2, .int .i64 0], ?_, ?_⟩
    · have hcc := ((E0.out.set 0).set 0).1
      simp [go_sem, results, Try.results17, hcc]
    · unfold anLo anHi
      rw [HKE.out, if_pos rfl, if_pos rfl]
      have hs := HB.out.size
      have h5 := H5.out
      refine ⟨v1, v2, rfl, ((O1.out.store (by omega)).store (by omega)).base hs, ((O2.out.store (by omega)).store (by omega)).base hs, ?_⟩
      exact ((H6.out.setCell (Nat.le_refl _) _).drew).setCell (Nat.le_refl _) _
  · have c0 := hk0.1
    have f0 := hk0.2
    have E1 := Lib.hid hk1
    have E0 := Lib.hid hk0
    have HB := Lib.hid hb
    have HZ := Lib.hid hz
    clear hk0 hk1 hb hL hx
    rw [decide_eq_false hz]
    clear hz
    go_wp2
    go_region
    first | go_end0 | go_wp2
    refine leaves_cons (f := 64) (args := #[.pointer (some ⟨w.heap.size + 1, 0, none⟩), .pointer (some ⟨w.heap.size, 0, none⟩)]) (by simp) (by simp [go_sem]) ?_
    refine (bk_report (w.heap.size + 1) w.heap.size K 0 .returning _ ?_ ?_ ?_).mono ?_
    · show (w5.setCell _ _).cell? _ = _
      rw [World.cell?_setCell_other (h := by intro e; have := congrArg Addr.block e; simp at this)]; exact E1.out.1
    · exact (E0.out.set 0).1
    · exact (E0.out.set 0).2
    rintro e u' w'' ⟨rfl, rfl, rfl⟩
    refine ⟨.tuple #[.slice none 0 0, .slice none 0 0, .int .i64 K], ?_, ?_⟩
    · have hcc := ((E0.out.set 0).set K).1
      simp [go_sem, results, Try.results17, hcc]
    · unfold anLo anHi
      rw [HKE.out, if_neg HZ.out, if_neg HZ.out]
      refine ⟨_, _, rfl, Own.nil, Own.nil, ?_⟩
      exact ((HB.out.setCell (Nat.le_refl _) _).drew).setCell (Nat.le_refl _) _
end Go.Proofs.Ytmdfgidejdiiiaa
end
section
namespace Go.Proofs.Ytmdfgidejdiiiaa
open Go.RowKit
theorem IntsFar.two {w : World} {q : Nat} {A B : Option Addr} {a b : List Int} {c d : Nat} {t : TypeId} (h : Ints w A a) (k : Ints w B b) (hq : q < w.heap.size) (ha : a ≠ [] → ∀ p, A = some p → p.block ≠ q) (hb : b ≠ [] → ∀ p, B = some p → p.block ≠ q) :
    IntsFar (w.alloc (.cells #[.slice A a.length c, .slice B b.length d] t)) q (some ⟨w.heap.size, 0, none⟩) [a, b] := fun n l' hk => by
  match n, hk with
  | 0, hk =>
    simp at hk
    subst hk
    exact ⟨_, A, c, rfl, by show w.heap.size ≠ q; omega, by simp [Addr.add, go_sem], h.grow ((Below.refl _ _).alloc (Nat.le_refl _) _), ha⟩
  | 1, hk =>
    simp at hk
    subst hk
    exact ⟨_, B, d, rfl, by show w.heap.size ≠ q; omega, by simp [Addr.add, go_sem], k.grow ((Below.refl _ _).alloc (Nat.le_refl _) _), hb⟩
end Go.Proofs.Ytmdfgidejdiiiaa
end
section
namespace Go.Proofs.Ytmdfgidejdiiiaa
open Go.RowKit
theorem wd_Within (v m : Int) (w : World) (hm : m ≤ 9223372036854775807) : Calls Try.prog 56 #[.int .i64 v, .int .i64 m] w fun e w' => e = .returned (.int .i64 (withinF v m)) ∧ w = w' := by
  by_cases h : 1 ≤ m
  · obtain ⟨T, e1, a1, f1, f2⟩ := within_facts h v
    have F1 := Lib.hid f1
    have F2 := Lib.hid f2
    clear f1 f2
    go_enter Try.func56, Try.ntmps56
    go_wp2
    all_goals go_ret
    · exact ⟨ret_int (F1.out (by omega)).symm, rfl⟩
    · exact ⟨ret_int (F2.out (by omega)).symm, rfl⟩
  · have E : Hid (withinF v m = 0) := by unfold withinF; rw [if_pos (by omega)]; exact rfl
    go_enter Try.func56, Try.ntmps56
    go_wp2
    go_ret
    exact ⟨ret_int E.out.symm, rfl⟩
end Go.Proofs.Ytmdfgidejdiiiaa
end
section
namespace Go.Proofs.Ytmdfgidejdiiiaa
open Go.RowKit
def belowF (bound : Int) (l : List Int) (count : Nat) : List Int := (List.range count).map fun (i : Nat) => withinF (wrap64 (atF l i + bound)) (2 * bound + 1) - bound
theorem belowF_succ (bound : Int) (l : List Int) (k : Nat) : belowF bound l (k + 1) = belowF bound l k ++ [withinF (wrap64 (atF l k + bound)) (2 * bound + 1) - bound] := by
  simp [belowF, List.range_succ]
theorem belowF_length (bound : Int) (l : List Int) (k : Nat) : (belowF bound l k).length = k := by simp [belowF]
theorem atF_i64 {l : List Int} (h : ∀ x ∈ l, I64 x) (i : Int) : I64 (atF l i) := by
  unfold atF
  split
  · cases hx : l[i.toNat]? with
    | none => exact ⟨by decide, by decide⟩
    | some x => exact h x (List.mem_of_getElem? hx)
  · exact ⟨by decide, by decide⟩
theorem wd_Below (bound : Int) (A : Option Addr) (l : List Int) (c : Nat) (n : Nat) (w : World) (hb0 : 0 ≤ bound) (hb1 : bound ≤ 1048576) (hn : n ≤ 1000000) (h : Ints w A l) :
    Calls Try.prog 32 #[.int .i64 bound, .slice A l.length c, .int .i64 n] w fun e w' => ∃ v, e = .returned v ∧ Own w.heap.size w' v (belowF bound l n) ∧ Below w.heap.size w w' := by
  go_enter Try.func32, Try.ntmps32
  go_wp2
  go_loopw [7, 8] (fun v i wr => ∃ k : Nat, k ≤ n ∧ i = .int .i64 k ∧ Own w.heap.size wr v (belowF bound l k) ∧ Below w.heap.size w wr) (fun _ i _ => n - (intOf i).toNat)
  case atStart => exact ⟨0, Nat.zero_le _, rfl, Own.nil, Below.refl _ _⟩
  case round =>
    obtain ⟨k, hk, rfl, hown, hbw⟩ := hrel
    by_cases hlt : k < n
    · have HS := Lib.hid (belowF_succ bound l k)
      have hlen := belowF_length bound l k
      obtain ⟨g1, g2⟩ := within_in (m := 2 * bound + 1) (by omega) (wrap64 (atF l k + bound))
      obtain ⟨y, hy⟩ : ∃ y, withinF (wrap64 (atF l k + bound)) (2 * bound + 1) = y := ⟨_, rfl⟩
      have HY := Lib.hid hy
      rw [hy] at g1 g2
      have hlen' : (belowF bound l k).length < 100000000 := by omega
      have hI : I64 (y - bound) := ⟨by omega, by omega⟩
      clear hlen
      go_wp2_with (first
        | (go_at_call 58; refine (wd_At _ _ _ _ _ (h.grow hbw)).mono ?_; rintro e w' ⟨rfl, rfl⟩)
        | (go_at_call 56; refine (wd_Within _ _ _ (by omega)).mono ?_; rintro e w' ⟨rfl, rfl⟩)
        | (at_builtin; refine app_int wr rfl _ _ rfl w.heap.size hown rfl rfl hlen' hbw.size hI ?_; intro v1 w1 hown1 hbel1))
      go_roundw
      case rel => exact ⟨k + 1, by omega, by go_num, by rw [HS.out, HY.out]; exact hown1, hbw.trans hbel1⟩
      case measure => simp [intOf]; omega
    · go_wp2
      go_ret
      obtain rfl : k = n := by omega
      exact ⟨_, rfl, hown, hbw⟩
end Go.Proofs.Ytmdfgidejdiiiaa
end
section
namespace Go.Proofs.Ytmdfgidejdiiiaa
open Go.RowKit
def wdF (x : List Int) (k : Nat) : List Int := (List.range k).map fun i => wrapF 32 (el x i)
theorem wdF_length (x : List Int) (k : Nat) : (wdF x k).length = k := by simp [wdF]
theorem wdF_succ (x : List Int) (k : Nat) : wdF x (k + 1) = wdF x k ++ [wrapF 32 (el x k)] := by simp [wdF, List.range_succ]
theorem wdF_w32 (x : List Int) (k : Nat) : W32 (wdF x k) := by
  intro y hy
  obtain ⟨i, _, rfl⟩ := List.mem_map.1 hy
  exact w32_wrap _
def wdN (x : List Int) : Nat := min (2 * (x.length / 2)) 40
theorem wdN_even (x : List Int) : ∃ h, wdN x = 2 * h ∧ h ≤ 20 := ⟨min (x.length / 2) 20, by unfold wdN; omega, by omega⟩
theorem l33_wide (A : Option Addr) (x : List Int) (c : Nat) (w : World) (hl : x.length ≤ 9223372036854775807) (h : Ints w A x) :
    Calls Try.prog 30 #[.slice A x.length c] w (RetInts1 w (wdF x (wdN x))) := by
  obtain ⟨q, hq⟩ : ∃ q : Nat, x.length / 2 = q := ⟨_, rfl⟩
  have l1 : (x.length : Int) / 2 = (q : Int) := by omega
  have l2 : (x.length : Int).tdiv 2 = (q : Int) := by rw [Int.tdiv_eq_ediv_of_nonneg (by omega)]; exact l1
  have hq2 : q ≤ 4611686018427387903 := by omega
  have hq3 : 2 * q ≤ x.length := by omega
  have HN : Hid (wdN x = min (2 * q) 40) := by rw [← hq]; exact rfl
  clear hq
  go_enter Try.func30, Try.ntmps30
  go_wp2
  go_loopw [3, 4] (fun v i wr => ∃ k : Nat, k ≤ min (2 * q) 40 ∧ i = .int .i64 k ∧ Own w.heap.size wr v (wdF x k) ∧ Below w.heap.size w wr) (fun _ i _ => 40 - (intOf i).toNat)
  case atStart => exact ⟨0, Nat.zero_le _, rfl, Own.nil, Below.refl _ _⟩
  case round =>
    obtain ⟨k, hk, rfl, hown, hbw⟩ := hrel
    have k1 : k ≤ 40 := by omega
    have k2 : k ≤ 2 * q := by omega
    clear hk
    by_cases h1 : k < 2 * q
    · by_cases h2 : k < 40
      · have HS := Lib.hid (wdF_succ x k)
        have hlen := wdF_length x k
        have hlen' : (wdF x k).length < 100000000 := by omega
        obtain ⟨ad, y, rfl, hb, hy, hc, y1, y2⟩ := (h.grow hbw).at_ (k := k) (by omega)
        have HE : Hid (el x k = y) := by unfold el; rw [hy]; exact rfl
        obtain ⟨z, hz⟩ : ∃ z, wrapF 32 y = z := ⟨_, rfl⟩
        obtain ⟨g1, g2⟩ := w32_wrap y
        rw [hz] at g1 g2
        have HZ := Lib.hid hz
        have hI : I64 z := ⟨by omega, by omega⟩
        clear hlen hy hz
        have d1 : decide ((k : Int) < (q : Int) * 2) = true := by simp; omega
        have d2 : decide ((k : Int) < 40) = true := by simp; omega
        go_wp2_with (first
          | (go_at_call 77; refine (rf_Wrap 32 y _).mono ?_; rintro e w' ⟨rfl, rfl⟩; rw [HZ.out])
          | (at_builtin; refine app_int wr rfl _ _ rfl w.heap.size hown rfl rfl hlen' hbw.size hI ?_; intro v1 w1 hown1 hbel1))
        go_roundw
        case rel => exact ⟨k + 1, by omega, by go_num, by rw [HS.out, HE.out, HZ.out]; exact hown1, hbw.trans hbel1⟩
        case measure => simp [intOf]; omega
      · have hN : wdN x = k := by rw [HN.out]; omega
        have HN := Lib.hid hN
        clear hN
        have d1 : decide ((k : Int) < (q : Int) * 2) = true := by simp; omega
        have d2 : decide ((k : Int) < 40) = false := by simp; omega
        go_wp2
        go_ret
        rw [HN.out]
        exact .mk hown hbw
    · have hN : wdN x = k := by rw [HN.out]; omega
      have HN := Lib.hid hN
      clear hN
      obtain rfl : k = 2 * q := by omega
      go_wp2
      go_ret
      rw [HN.out]
      exact .mk hown hbw
theorem Lifts.lit2 {w : World} {n g1 g2 : Nat} {b1 b2 : Bool} {s1 s2 h1 h2 : Int} {c1 c2 : List Int} {d1 d2 : Nat} {t : TypeId} (hn : n = w.heap.size) (i1 : Ints w (some ⟨g1, 0, none⟩) c1) (i2 : Ints w (some ⟨g2, 0, none⟩) c2) (a1 : I64 s1) (a2 : I64 s2) (a3 : I64 h1) (a4 : I64 h2) :
    Lifts (w.alloc (.cells #[.bool b1, .int .i64 s1, .slice (some ⟨g1, 0, none⟩) c1.length d1, .int .i64 h1, .bool b2, .int .i64 s2, .slice (some ⟨g2, 0, none⟩) c2.length d2, .int .i64 h2] t)) (some ⟨n, 0, none⟩) [(b1, s1, c1, h1), (b2, s2, c2, h2)] := fun k s hk => by
  subst hn
  match k, hk with
  | 0, hk =>
    simp at hk
    subst hk
    exact ⟨_, _, _, rfl, by simp, by simp [Addr.add, go_sem], by simp [Addr.add, go_sem], by simp [Addr.add, go_sem]; rfl, by simp [Addr.add, go_sem], i1.grow ((Below.refl _ _).alloc (Nat.le_refl _) _), a1, a3⟩
  | 1, hk =>
    simp at hk
    subst hk
    exact ⟨_, _, _, rfl, by simp, by simp [Addr.add, go_sem], by simp [Addr.add, go_sem], by simp [Addr.add, go_sem]; rfl, by simp [Addr.add, go_sem], i2.grow ((Below.refl _ _).alloc (Nat.le_refl _) _), a2, a4⟩
theorem rf_SameB (A B : Option Addr) (l m : List Int) (c d : Nat) (w : World) (hm : m.length ≤ 9223372036854775807) (he : l = m) (h : Ints w A l) (g : Ints w B m) :
    Calls Try.prog 25 #[.slice A l.length c, .slice B m.length d] w fun e w' => e = .returned (.bool true) ∧ Below w.heap.size w w' :=
  (rf_SameInts A B l m c d w hm h g).mono fun e w' hh => ⟨by rw [hh.1, he]; simp, hh.2⟩
theorem add_cellsB (g k : Nat) : (⟨g, 0, none⟩ : Addr).add k = ⟨g, k, none⟩ := by
  unfold Addr.add
  by_cases h0 : k = 0 <;> simp [h0]
theorem litB {w : World} {cs : Array Value} {t : TypeId} {l : List Int} (hc : cs.toList = l.map (Value.int .i64)) (hl : l.all (fun x => decide (-9223372036854775808 ≤ x) && decide (x ≤ 9223372036854775807)) = true) : Ints (w.alloc (.cells cs t)) (some ⟨w.heap.size, 0, none⟩) l := by
  refine ⟨?_, fun x hx => by have := List.all_eq_true.1 hl x hx; simp at this; exact this⟩
  rw [← hc]
  intro k v hk
  refine ⟨_, rfl, by simp, ?_⟩
  rw [add_cellsB]
  simpa [go_sem] using hk
theorem belowA {W w : World} {o : Obj} (h : Below W.heap.size W w) : Below W.heap.size W (w.alloc o) := h.alloc h.size _
theorem litBn {w : World} {n : Nat} {cs : Array Value} {t : TypeId} {l : List Int} (hn : n = w.heap.size) (hc : cs.toList = l.map (Value.int .i64)) (hl : l.all (fun x => decide (-9223372036854775808 ≤ x) && decide (x ≤ 9223372036854775807)) = true) : Ints (w.alloc (.cells cs t)) (some ⟨n, 0, none⟩) l := by
  subst hn; exact litB hc hl
set_option maxRecDepth 100000 in
set_option maxHeartbeats 400000 in
theorem known33 (w : World) : Calls Try.prog 16 #[] w fun e w' => e = .returned (.bool true) ∧ Below w.heap.size w w' := by
  have hb := Below.refl w.heap.size w
  go_enter Try.func16, Try.ntmps16
  go_wp2_with fail
  have H1 : Ints (w.alloc (.cells #[.int .i64 (-1)] 3)) (some ⟨w.heap.size, 0, none⟩) [-1] := litB rfl (by decide)
  have H1 := H1.grow (belowA (o := .cells #[.int .i64 1] 3) (Below.refl _ _))
  have H2 : Ints ((w.alloc (.cells #[.int .i64 (-1)] 3)).alloc (.cells #[.int .i64 1] 3)) (some ⟨w.heap.size + 1, 0, none⟩) [1] := litBn (by simp) rfl (by decide)
  have HL : Lifts (((w.alloc (.cells #[.int .i64 (-1)] 3)).alloc (.cells #[.int .i64 1] 3)).alloc (.cells #[.bool true, .int .i64 0, .slice (some ⟨w.heap.size, 0, none⟩) 1 1, .int .i64 0, .bool false, .int .i64 0, .slice (some ⟨w.heap.size + 1, 0, none⟩) 1 1, .int .i64 1] 64)) (some ⟨w.heap.size + 1 + 1, 0, none⟩) [(true, 0, [-1], 0), (false, 0, [1], 1)] := Lifts.lit2 (by simp) H1 H2 ⟨by decide, by decide⟩ ⟨by decide, by decide⟩ ⟨by decide, by decide⟩ ⟨by decide, by decide⟩
  have HL := HL.grow (belowA (o := .cells #[.int .i64 5, .int .i64 8] 3) (Below.refl _ _))
  have HX : Ints ((((w.alloc (.cells #[.int .i64 (-1)] 3)).alloc (.cells #[.int .i64 1] 3)).alloc (.cells #[.bool true, .int .i64 0, .slice (some ⟨w.heap.size, 0, none⟩) 1 1, .int .i64 0, .bool false, .int .i64 0, .slice (some ⟨w.heap.size + 1, 0, none⟩) 1 1, .int .i64 1] 64)).alloc (.cells #[.int .i64 5, .int .i64 8] 3)) (some ⟨w.heap.size + 1 + 1 + 1, 0, none⟩) [5, 8] := litBn (by simp) rfl (by decide)
  refine (bk_Analyse _ _ [(true, 0, [-1], 0), (false, 0, [1], 1)] [5, 8] 2 2 _ HL HX (by decide) (by decide) (by decide)).mono ?_
  rintro e w1 ⟨v1, v2, rfl, o1, o2, hb1⟩
  have hb := below_then (belowA (belowA (belowA (belowA hb)))) hb1
  have e1 : anLo [(true, 0, [-1], 0), (false, 0, [1], 1)] [5, 8] = [6] := by decide +kernel
  have e2 : anHi [(true, 0, [-1], 0), (false, 0, [1], 1)] [5, 8] = [3] := by decide +kernel
  have e3 : anE [(true, 0, [-1], 0), (false, 0, [1], 1)] [5, 8] = 0 := by decide +kernel
  rw [e1] at o1
  rw [e2] at o2
  rw [e3]
  obtain ⟨A1, c1, rfl, _, hi1⟩ := o1.form
  obtain ⟨A2, c2, rfl, _, hi2⟩ := o2.form
  clear hb1 HL HX H1 H2 e1 e2 e3 o1 o2
  go_wp2_with fail
  have hL : Ints (w1.alloc (.cells #[.int .i64 6] 3)) (some ⟨w1.heap.size, 0, none⟩) [6] := litB rfl (by decide)
  refine (rf_SameB _ _ [6] [6] _ _ _ (by decide) rfl (hi1.grow (belowA (Below.refl _ _))) hL).mono ?_
  rintro e w2 ⟨rfl, hb2⟩
  have hb := below_then (belowA hb) hb2
  have hi2 := hi2.grow (below_then (belowA (Below.refl _ _)) hb2)
  clear hb2 hL
  go_wp2_with fail
  have hL : Ints (w2.alloc (.cells #[.int .i64 3] 3)) (some ⟨w2.heap.size, 0, none⟩) [3] := litB rfl (by decide)
  refine (rf_SameB _ _ [3] [3] _ _ _ (by decide) rfl (hi2.grow (belowA (Below.refl _ _))) hL).mono ?_
  rintro e w3 ⟨rfl, hb3⟩
  have hb := below_then (belowA hb) hb3
  clear hb3 hL
  go_wp2
  go_ret
  exact ⟨rfl, hb⟩
end Go.Proofs.Ytmdfgidejdiiiaa
end
