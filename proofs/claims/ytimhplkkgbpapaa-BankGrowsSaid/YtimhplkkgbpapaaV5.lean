/- The walks of the checks of package bank: need, words, report. -/
import Derived.Test.YtimhplkkgbpapaaV4
import Derived.Defers
namespace Go.Proofs.Ytimhplkkgbpapaa
open Go.RowKit

/-- The error that is kept, behind a test. -/
def needV (k : Int) (ok : Bool) (code : Int) : Int := if k = 0 ∧ ok = false then code else k
theorem need_true (k code : Int) : needV k true code = k := by unfold needV; rw [if_neg (by simp)]
theorem need_set {k code : Int} (h : k ≠ 0) (ok : Bool) : needV k ok code = k := by unfold needV; rw [if_neg (fun hc => h hc.1)]
theorem need_new (code : Int) : needV 0 false code = code := rfl
theorem need_need {k code : Int} (hc : code ≠ 0) (a b : Bool) : needV (needV k a code) b code = needV k (a && b) code := by
  by_cases hk : k = 0
  · subst hk
    cases a
    · rw [need_new, need_set hc, Bool.false_and, need_new]
    · rw [need_true, Bool.true_and]
  · rw [need_set hk, need_set hk, need_set hk]
/-- The cell of the check. -/
def CheckAt (w : World) (q : Nat) (k : Int) : Prop := w.cell? ⟨q, 0, none⟩ = some (.int .i64 k) ∧ w.frozen? ⟨q, 0, none⟩ = false
theorem CheckAt.keep {w w' : World} {q : Nat} {k : Int} (h : CheckAt w q k) (hb : Below w.heap.size w w') : CheckAt w' q k :=
  ⟨(hb.cell (cell_lt h.1)).trans h.1, (hb.frozen (p := ⟨q, 0, none⟩) (cell_lt h.1)).trans h.2⟩
theorem CheckAt.set {w : World} {q : Nat} {k : Int} (h : CheckAt w q k) (v : Int) : CheckAt (w.setCell ⟨q, 0, none⟩ (.int .i64 v)) q v := by
  obtain ⟨h1, h2⟩ := h
  exact ⟨by simp [go_sem, h1], by simpa using h2⟩
/-- What need, words hand back. -/
def NeedPost (w : World) (q : Nat) (k : Int) (e : Ending) (w' : World) : Prop := e = .returned (.bool (decide (k = 0))) ∧ CheckAt w' q k ∧ w.grownBy w' (some q)
theorem bk_need (q : Nat) (k code : Int) (ok : Bool) (w : World) (h : CheckAt w q k) (hcode : code ≠ 0) :
    Calls Try.prog 23 #[.pointer (some ⟨q, 0, none⟩), .bool ok, .int .i64 code] w (NeedPost w q (needV k ok code)) := by
  have hset := h.set code
  have H := Lib.hid h
  obtain ⟨hc, hf⟩ := h
  by_cases hk : k = 0
  · subst hk
    cases ok
    · have hcd : ((code : Int) == 0) = false := by simpa using hcode
      have hc2 := hset.1
      have HS := Lib.hid hset
      clear hset
      go_enter Try.func23, Try.ntmps23
      go_wp2
      go_ret
      exact ⟨ret_bool (by rw [need_new]; simpa using hcode), HS.out, grown_set (grown_refl _ _)⟩
    · go_enter Try.func23, Try.ntmps23
      go_wp2
      go_ret
      exact ⟨by rw [need_true]; rfl, by rw [need_true]; exact H.out, grown_refl _ _⟩
  · have hkd : ((k : Int) == 0) = false := by simpa using hk
    have HK := Lib.hid hk
    go_enter Try.func23, Try.ntmps23
    go_wp2
    go_ret
    exact ⟨ret_bool (by rw [need_set HK.out]; simpa using HK.out), by rw [need_set HK.out]; exact H.out, grown_refl _ _⟩
/-- A slice of slices that lies outside a block. -/
def IntsFar (w : World) (q : Nat) (A : Option Addr) (ll : List (List Int)) : Prop :=
  ∀ k l, ll[k]? = some l → ∃ ad B c, A = some ad ∧ ad.block ≠ q ∧ w.cell? (ad.add k) = some (.slice B l.length c) ∧ Ints w B l ∧ (l ≠ [] → ∀ a, B = some a → a.block ≠ q)
theorem IntsFar.kept {w w' : World} {q : Nat} {A : Option Addr} {ll : List (List Int)} (h : IntsFar w q A ll) (hg : w.grownBy w' (some q)) : IntsFar w' q A ll := fun k l hk => by
  obtain ⟨ad, B, c, e, h1, h2, h3, h4⟩ := h k l hk
  exact ⟨ad, B, c, e, h1, hg.cell h2 (by rw [block_add]; intro e; injection e with e; exact h1 e), h3.kept hg (fun hl a ha e => by injection e with e; exact h4 hl a ha e), h4⟩
def wB (x : Int) : Bool := inB x (-2147483648) 2147483647
theorem wB_iff {l : List Int} : l.all wB = true ↔ W32 l := by
  constructor
  · intro h x hx
    have := inB_iff.1 (List.all_eq_true.1 h x hx); omega
  · intro h
    refine List.all_eq_true.2 fun x hx => inB_iff.2 ?_
    have := h x hx; omega
set_option maxRecDepth 100000 in
set_option maxHeartbeats 1000000 in
theorem bk_words (q : Nat) (k : Int) (A : Option Addr) (ll : List (List Int)) (c n : Nat) (w : World) (h : CheckAt w q k) (hf : IntsFar w q A ll) (hn : n = ll.length) (hl : n ≤ 1000000) (hl2 : ∀ l ∈ ll, l.length ≤ 9223372036854775807) :
    Calls Try.prog 25 #[.pointer (some ⟨q, 0, none⟩), .slice A n c] w (NeedPost w q (needV k (ll.all fun l => l.all wB) 17)) := by
  have HN := Lib.hid hn
  have hl3 : ll.length ≤ n := by omega
  have hl4 : n ≤ ll.length := by omega
  have HL2 := Lib.hid hl2
  clear hn hl2
  go_enter Try.func25, Try.ntmps25
  go_wp2
  go_loopw [6, 8, 11] (fun _ _ i wr => ∃ r : Nat, r ≤ n ∧ i = .int .i64 r ∧ CheckAt wr q (needV k ((ll.take r).all fun l => l.all wB) 17) ∧ w.grownBy wr (some q)) (fun _ _ i _ => n - (intOf i).toNat)
  case atStart => exact ⟨0, Nat.zero_le _, rfl, by show CheckAt w q (needV k true 17); rw [need_true]; exact h, grown_refl _ _⟩
  case round =>
    obtain ⟨r, hr, rfl, hck, hg⟩ := hrel
    by_cases hlt : r < n
    · obtain ⟨l, hll⟩ : ∃ l, ll[r]? = some l := ⟨_, List.getElem?_eq_getElem (by omega)⟩
      obtain ⟨ad, B, cc, rfl, hb1, hcl, hi, hb2⟩ := (hf.kept hg) r l hll
      have hlen := HL2.out l (List.mem_of_getElem? hll)
      have HSU := Lib.hid (take_succ_all hll (fun l => l.all wB))
      have HCK := Lib.hid hck
      have HG := Lib.hid hg
      have HB2 := Lib.hid (fun (hl : l ≠ []) a ha => (fun e => hb2 hl a ha (by injection e) : some a.block ≠ some q))
      clear hll hck hb2 hg
      go_wp2
      obtain ⟨wo, rfl⟩ : ∃ wo : World, wo = wr := ⟨_, rfl⟩
      go_loopw [8, 17] (fun _ i wr => ∃ j : Nat, j ≤ l.length ∧ i = .int .i64 j ∧ CheckAt wr q (needV k (((ll.take r).all fun l => l.all wB) && (l.take j).all wB) 17) ∧ wo.grownBy wr (some q)) (fun _ i _ => l.length - (intOf i).toNat)
      case atStart => exact ⟨0, Nat.zero_le _, rfl, by rw [List.take_zero, List.all_nil, Bool.and_true]; exact HCK.out, grown_refl _ _⟩
      case round =>
        obtain ⟨j, hj, rfl, hck2, hg2⟩ := hrel
        by_cases hlt2 : j < l.length
        · obtain ⟨ad2, x, rfl, hbx, hx, cx, x1, x2⟩ := (hi.kept hg2 HB2.out).at_ hlt2
          have HS2 := Lib.hid (take_succ_all hx wB)
          obtain ⟨K, hK⟩ : ∃ K, needV k (((ll.take r).all fun l => l.all wB) && (l.take j).all wB) 17 = K := ⟨_, rfl⟩
          rw [hK] at hck2
          have HK := Lib.hid hK
          have HC2 := Lib.hid hck2
          clear hx hK hck2
          rcases Bool.eq_false_or_eq_true (wB x) with hin | hin
          · obtain ⟨y1, y2⟩ := inB_iff.1 hin
            have HIN := Lib.hid hin
            clear hin
            have d1 : decide (-2147483648 ≤ x) = true := by simpa using y1
            have d2 : decide (x < 2147483648) = true := by simp; omega
            go_wp2_with (go_at_call 23; refine (bk_need q K 17 true _ HC2.out (by decide)).mono ?_; rintro e w3 ⟨rfl, hc3, hg3⟩)
            go_roundw
            case rel => exact ⟨j + 1, by omega, by go_num, by rw [HS2.out, HIN.out, Bool.and_true, HK.out]; rw [need_true] at hc3; exact hc3, hg2.trans hg3⟩
            case measure => simp [intOf]; omega
          · have y1 := inB_no.1 hin
            have HIN := Lib.hid hin
            clear hin
            rcases Int.lt_or_le x (-2147483648) with y2 | y2
            · have d1 : decide (-2147483648 ≤ x) = false := by simp; omega
              clear y1
              go_wp2_with (go_at_call 23; refine (bk_need q K 17 false _ HC2.out (by decide)).mono ?_; rintro e w3 ⟨rfl, hc3, hg3⟩)
              go_roundw
              case rel => exact ⟨j + 1, by omega, by go_num, by rw [HS2.out, HIN.out, ← Bool.and_assoc, ← need_need (by decide), HK.out]; exact hc3, hg2.trans hg3⟩
              case measure => simp [intOf]; omega
            · have d1 : decide (-2147483648 ≤ x) = true := by simp; omega
              have d2 : decide (x < 2147483648) = false := by simp; omega
              clear y1
              go_wp2_with (go_at_call 23; refine (bk_need q K 17 false _ HC2.out (by decide)).mono ?_; rintro e w3 ⟨rfl, hc3, hg3⟩)
              go_roundw
              case rel => exact ⟨j + 1, by omega, by go_num, by rw [HS2.out, HIN.out, ← Bool.and_assoc, ← need_need (by decide), HK.out]; exact hc3, hg2.trans hg3⟩
              case measure => simp [intOf]; omega
        · obtain rfl : j = l.length := by omega
          rw [List.take_length] at hck2
          go_wp2
          go_roundw
          case rel => exact ⟨r + 1, by omega, by go_num, by rw [HSU.out]; exact hck2, HG.out.trans hg2⟩
          case measure => simp [intOf]; omega
    · obtain rfl : r = n := by omega
      rw [HN.out, List.take_length] at hck
      obtain ⟨K, hK⟩ : ∃ K, needV k (ll.all fun l => l.all wB) 17 = K := ⟨_, rfl⟩
      rw [hK] at hck
      have HK := Lib.hid hK
      have HCK := Lib.hid hck
      have hc := hck.1
      clear hK hck
      go_wp2
      go_ret
      rw [HK.out]
      exact ⟨ret_bool (by rw [Bool.eq_iff_iff]; simp), HCK.out, hg⟩
end Go.Proofs.Ytimhplkkgbpapaa
