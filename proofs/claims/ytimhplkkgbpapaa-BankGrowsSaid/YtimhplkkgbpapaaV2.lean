/- Slices of steps; the walk of Valid of package bank. -/
import Derived.Test.YtimhplkkgbpapaaV1
namespace Go.Proofs.Ytimhplkkgbpapaa
open Go.RowKit

/-- A slice of steps that reads as the list. -/
def Lifts (w : World) (A : Option Addr) (ls : List Lft) : Prop :=
  ∀ k s, ls[k]? = some s → ∃ ad C c, A = some ad ∧ ad.block < w.heap.size ∧ w.cell? (ad.add (k * 4)) = some (.bool s.1) ∧ w.cell? ⟨(ad.add (k * 4)).block, (ad.add (k * 4)).off + 1, none⟩ = some (.int .i64 s.2.1) ∧
    w.cell? ⟨(ad.add (k * 4)).block, (ad.add (k * 4)).off + 2, none⟩ = some (.slice C s.2.2.1.length c) ∧ w.cell? ⟨(ad.add (k * 4)).block, (ad.add (k * 4)).off + 3, none⟩ = some (.int .i64 s.2.2.2) ∧ Ints w C s.2.2.1 ∧ I64 s.2.1 ∧ I64 s.2.2.2
theorem Lifts.nil {w : World} {A : Option Addr} : Lifts w A [] := fun k s h => by simp at h
theorem Lifts.grow {w w' : World} {A : Option Addr} {ls : List Lft} (h : Lifts w A ls) (hb : Below w.heap.size w w') : Lifts w' A ls := fun k s hk => by
  obtain ⟨ad, C, c, e, h1, c0, c1, c2, c3, hi, i1, i2⟩ := h k s hk
  exact ⟨ad, C, c, e, Nat.lt_of_lt_of_le h1 hb.size, (hb.cell (by rw [block_add]; exact h1)).trans c0, (hb.cell (by show (ad.add _).block < _; rw [block_add]; exact h1)).trans c1, (hb.cell (by show (ad.add _).block < _; rw [block_add]; exact h1)).trans c2, (hb.cell (by show (ad.add _).block < _; rw [block_add]; exact h1)).trans c3, hi.grow hb, i1, i2⟩
/-- A coefficient, a step, a list of steps is permitted. -/
def cfB (x : Int) : Bool := inB x (-4096) 4096
def headB (s : Lft) : Bool := decide (s.2.2.1.length ≤ 8) && (inB s.2.2.2 0 20 && inB s.2.1 (-8) 8)
def lftB (s : Lft) : Bool := headB s && s.2.2.1.all cfB
def lftsB (ls : List Lft) : Bool := decide (ls.length ≤ 12) && ls.all lftB
theorem lftB_ok {s : Lft} (h : lftB s = true) : LftOk s := by
  unfold lftB headB at h
  simp only [Bool.and_eq_true, decide_eq_true_eq, inB_iff] at h
  obtain ⟨⟨h1, ⟨h2, h3⟩, h4, h5⟩, h6⟩ := h
  exact ⟨h1, h2, h3, h4, h5, fun x hx => inB_iff.1 (List.all_eq_true.1 h6 x hx)⟩
theorem lfts_ok {ls : List Lft} (h : lftsB ls = true) : ls.length ≤ 12 ∧ ∀ s ∈ ls, LftOk s := by
  unfold lftsB at h
  rw [Bool.and_eq_true, decide_eq_true_eq] at h
  exact ⟨h.1, fun s hs => lftB_ok (List.all_eq_true.1 h.2 s hs)⟩
theorem lfts_no {ls : List Lft} {k : Nat} {s : Lft} (hk : ls[k]? = some s) (h : lftB s = false) : lftsB ls = false := by
  unfold lftsB; rw [all_no hk h, Bool.and_false]
theorem head_iff {s : Lft} : headB s = true ↔ s.2.2.1.length ≤ 8 ∧ (0 ≤ s.2.2.2 ∧ s.2.2.2 ≤ 20) ∧ -8 ≤ s.2.1 ∧ s.2.1 ≤ 8 := by
  unfold headB; simp only [Bool.and_eq_true, decide_eq_true_eq, inB_iff]
set_option maxRecDepth 100000 in
set_option maxHeartbeats 2000000 in
theorem bk_Valid (A : Option Addr) (ls : List Lft) (c : Nat) (w : World) (h : Lifts w A ls) (hl : ls.length ≤ 1000000) (hl2 : ∀ s ∈ ls, s.2.2.1.length ≤ 9223372036854775807) :
    Calls Try.prog 24 #[.slice A ls.length c] w fun e w' => e = .returned (.bool (lftsB ls)) ∧ Below w.heap.size w w' := by
  by_cases hl12 : 12 < ls.length
  · have hf : lftsB ls = false := by unfold lftsB; rw [decide_eq_false (by omega), Bool.false_and]
    have HF := Lib.hid hf
    clear hf
    go_enter Try.func24, Try.ntmps24
    go_wp2
    all_goals try (exfalso; omega)
    all_goals go_ret
    all_goals exact ⟨ret_bool HF.out.symm, Below.refl _ _⟩
  · have hl3 : ls.length ≤ 12 := by omega
    have HL2 := Lib.hid hl2
    clear hl2
    go_enter Try.func24, Try.ntmps24
    go_wp2
    all_goals try (exfalso; omega)
    go_loopw [12] (fun i wr => ∃ k : Nat, k ≤ ls.length ∧ i = .int .i64 k ∧ Hid ((ls.take k).all lftB = true) ∧ Below w.heap.size w wr) (fun i _ => ls.length - (intOf i).toNat)
    case atStart => exact ⟨0, Nat.zero_le _, rfl, rfl, Below.refl _ _⟩
    case round =>
      obtain ⟨k, hk, rfl, HA, hb⟩ := hrel
      by_cases hlt : k < ls.length
      · obtain ⟨s, hs⟩ : ∃ s, ls[k]? = some s := ⟨_, List.getElem?_eq_getElem hlt⟩
        obtain ⟨ad, C, cc, rfl, hba, c0, c1, c2, c3, hi, i1, i2⟩ := (h.grow hb) k s hs
        have HSU := Lib.hid (take_succ_all hs lftB)
        have HNO := Lib.hid (fun q => lfts_no hs q)
        have hcl := HL2.out s (List.mem_of_getElem? hs)
        obtain ⟨o, st, cf, sh⟩ := s
        simp only at c0 c1 c2 c3 hi i1 i2 hcl
        clear hs
        rcases Bool.eq_false_or_eq_true (headB (o, st, cf, sh)) with hh | hh
        · obtain ⟨g1, ⟨g2, g3⟩, g4, g5⟩ := head_iff.1 hh
          simp only at g1 g2 g3 g4 g5
          have HH := Lib.hid hh
          have hi2 := fun x => hi.grow (Below.alloc (Below.refl wr.heap.size wr) (Nat.le_refl _) x)
          have HI2 := Lib.hid hi2
          have hb2 := fun x => Below.alloc hb hb.size x
          have HB2 := Lib.hid hb2
          clear hh hi hi2 hb hb2
          go_wp2
          all_goals try (exfalso; omega)
          go_loop [6, 41] (fun _ i => ∃ j : Nat, j ≤ cf.length ∧ i = .int .i64 j ∧ Hid ((cf.take j).all cfB = true)) (fun _ i => cf.length - (intOf i).toNat)
          case atStart => exact ⟨0, Nat.zero_le _, rfl, rfl⟩
          case round =>
            obtain ⟨j, hj, rfl, HC⟩ := hrel
            by_cases hlt2 : j < cf.length
            · obtain ⟨ad2, x, rfl, hbx, hx, cx, x1, x2⟩ := (HI2.out (.cells #[.bool o, .int .i64 st, .slice C cf.length cc, .int .i64 sh] 48)).at_ hlt2
              have HS2 := Lib.hid (take_succ_all hx cfB)
              have HN2 := Lib.hid (all_no hx (p := cfB))
              clear hx
              rcases Bool.eq_false_or_eq_true (cfB x) with hin | hin
              · obtain ⟨y1, y2⟩ := inB_iff.1 hin
                have HIN := Lib.hid hin
                clear hin
                go_wp2
                all_goals try (exfalso; omega)
                go_round
                case rel => exact ⟨j + 1, by omega, by go_num, by show _ = _; rw [HS2.out, HC.out, HIN.out]; rfl⟩
                case measure => simp [intOf]; omega
              · have y1 := inB_no.1 hin
                have HIN := Lib.hid hin
                clear hin
                go_wp2
                all_goals try (exfalso; omega)
                all_goals go_ret
                all_goals exact ⟨ret_bool (HNO.out (by unfold lftB; rw [HN2.out HIN.out, Bool.and_false])).symm, HB2.out _⟩
            · obtain rfl : j = cf.length := by omega
              go_wp2
              all_goals try (exfalso; omega)
              go_roundw
              case rel => exact ⟨k + 1, by omega, by go_num, by show _ = _; rw [HSU.out, HA.out]; unfold lftB; rw [HH.out]; have := HC.out; rw [List.take_length] at this; rw [this]; rfl, HB2.out _⟩
              case measure => simp [intOf]; omega
        · have hno : ¬ (cf.length ≤ 8 ∧ (0 ≤ sh ∧ sh ≤ 20) ∧ -8 ≤ st ∧ st ≤ 8) := fun hc => by
            have := (head_iff (s := (o, st, cf, sh))).2 hc
            rw [hh] at this; cases this
          have HH := Lib.hid hh
          clear hh
          go_wp2
          all_goals try (exfalso; omega)
          all_goals go_ret
          all_goals exact ⟨ret_bool (HNO.out (by unfold lftB; rw [HH.out]; rfl)).symm, hb.alloc hb.size _⟩
      · obtain rfl : k = ls.length := by omega
        go_wp2
        all_goals try (exfalso; omega)
        go_ret
        exact ⟨ret_bool (by unfold lftsB; have := HA.out; rw [List.take_length] at this; rw [this, decide_eq_true hl3]; rfl), hb⟩
end Go.Proofs.Ytimhplkkgbpapaa
