/- Plain: events keep a stream valid; its parts are short. -/
import Derived.Test.YtgabfdappeakiaaTd
import Derived.Test.YtgabfdappeakiaaTj
import Derived.Test.YtgabfdappeakiaaTi
set_option linter.unusedVariables false
set_option linter.unusedSimpArgs false
namespace Go.Proofs.Ytgabfdappeakiaa
open Go.RowKit

theorem step_good {d : StrD} {x : List Int} {k : Nat} (hg : d.Good) (hx : d.net.fit x = true) (hk : k ≤ x.length) : (d.step x k).Good := by
  have hs := stS_state hg hx k hk
  obtain ⟨g1, -, g3, g4, g5, -⟩ := id hg
  by_cases h : (k : Int) < d.left
  · rw [step_on h]
    obtain ⟨o1, o2, -⟩ := good_old hg (by omega)
    exact ⟨g1, hs, g3, g4, by show 0 ≤ d.left - k ∧ d.left - k ≤ d.fade; omega, .inr ⟨by show d.left - k ≠ 0; omega, o1, o2, stF_state hg (by omega) hx k hk⟩⟩
  · rw [step_off h]
    exact ⟨g1, hs, g3, (show (0 : Int) ≤ 0 ∧ (0 : Int) ≤ 4096 by decide), (show (0 : Int) ≤ 0 ∧ (0 : Int) ≤ 0 by decide), .inl ⟨rfl, rfl, NetD.isZero_iff.2 rfl, rfl⟩⟩
theorem state_same {n m : NetD} {s : List Int} (h : n.same m = true) (hst : n.st = m.st) (hs : m.state s = true) : n.state s = true := by
  obtain ⟨h1, h2⟩ := state_iff.1 hs
  exact state_iff.2 ⟨by rw [h1, hst], fun v hv => by rw [same_fits h]; exact h2 v hv⟩
theorem same_comm {n m : NetD} (h : n.same m = true) : m.same n = true := by
  unfold NetD.same at h ⊢
  obtain ⟨h0, h1, h2, h3⟩ := of_decide_eq_true h
  exact decide_eq_true ⟨h0.symm, h1.symm, h2.symm, h3.symm⟩
theorem zeros_state {n : NetD} (h : n.ok = true) : n.state (List.replicate n.st.toNat 0) = true := by
  obtain ⟨p1, -, ⟨p2, p3⟩, -⟩ := netB_parts h
  refine state_iff.2 ⟨by rw [List.length_replicate]; omega, fun v hv => ?_⟩
  rw [(List.mem_replicate.1 hv).2]
  exact fits_0 p1
theorem chOk_good {d : StrD} {e : EvA} (hg : d.Good) (h0 : d.chE e = 0) : (d.chOk e).Good := by
  obtain ⟨hok, hsm, ⟨hf1, hf2⟩, hl0⟩ := chOk_parts hg h0
  obtain ⟨g1, g2, g3, g4, g5, -⟩ := id hg
  have hs : e.net.state (d.chOk e).s = true := by
    show e.net.state (if e.net.st = d.net.st then d.s else List.replicate e.net.st.toNat 0) = true
    by_cases h : e.net.st = d.net.st
    · rw [if_pos h]; exact state_same hsm h g2
    · rw [if_neg h]; exact zeros_state hok
  refine ⟨hok, hs, g3, ⟨hf1, hf2⟩, ⟨hf1, Int.le_refl _⟩, ?_⟩
  by_cases h : 0 < e.fade
  · refine .inr ⟨by show e.fade ≠ 0; omega, ?_, ?_, ?_⟩
    · show NetD.ok (if 0 < e.fade then d.net else NetD.zero) = true
      rw [if_pos h]; exact g1
    · show NetD.same (if 0 < e.fade then d.net else NetD.zero) e.net = true
      rw [if_pos h]; exact same_comm hsm
    · show NetD.state (if 0 < e.fade then d.net else NetD.zero) (if 0 < e.fade then d.s else []) = true
      rw [if_pos h, if_pos h]; exact g2
  · have hz : e.fade = 0 := by omega
    refine .inl ⟨hz, hz, ?_, ?_⟩
    · show NetD.isZero (if 0 < e.fade then d.net else NetD.zero) = true
      rw [if_neg h]; exact NetD.isZero_iff.2 rfl
    · show List.length (if 0 < e.fade then d.s else []) = 0
      rw [if_neg h]; rfl
/-- An event that goes through: the stream before it is counted. -/
theorem feedS_good {d : StrD} {e : EvA} (h : d.feedE e = 0) : d.Good ∧ (d.feedS e).Good ∧ (d.feedS e).ev = d.ev := by
  unfold StrD.feedE at h
  by_cases hg : d.Good
  · rw [if_pos hg] at h
    refine ⟨hg, ?_⟩
    unfold StrD.feedS
    by_cases hk : e.kind = 1
    · rw [if_pos hk] at h ⊢
      have h' := h
      unfold StrD.sampE at h'
      have hf : d.net.fit e.x = true := by
        by_cases hl : e.x.length ≤ 4096
        · rw [if_pos hl] at h'
          by_cases hf : d.net.fit e.x = true
          · exact hf
          · rw [if_neg hf] at h'; exact absurd h' (by decide)
        · rw [if_neg hl] at h'; exact absurd h' (by decide)
      unfold StrD.sampD
      rw [if_pos h]
      exact ⟨step_good hg hf (Nat.le_refl _), step_ev _ _ _⟩
    · rw [if_neg hk] at h ⊢
      by_cases hk2 : e.kind = 2
      · rw [if_pos hk2] at h
        unfold StrD.chD
        rw [if_pos h]
        exact ⟨chOk_good hg h, rfl⟩
      · rw [if_neg hk2] at h; exact absurd h (by decide)
  · rw [if_neg hg] at h; exact absurd h (by decide)
theorem feedD_good {d : StrD} {e : EvA} (h : d.feedE e = 0) (hev : d.ev < 1099511627776) : (d.feedD e).Good := by
  obtain ⟨hg, ⟨g1, g2, g3, g4⟩, he⟩ := feedS_good h
  unfold StrD.feedD
  rw [if_pos h]
  refine ⟨g1, g2, ?_, g4⟩
  show 0 ≤ (d.feedS e).ev + 1 ∧ (d.feedS e).ev + 1 ≤ 1099511627776
  rw [he] at g3 ⊢
  omega
theorem good_small {d : StrD} (hg : d.Good) : (d.net.nx.length ≤ 64 ∧ d.net.ns.length ≤ 64) ∧ (d.old.nx.length ≤ 64 ∧ d.old.ns.length ≤ 64) ∧ d.s.length ≤ 64 ∧ d.f.length ≤ 64 := by
  have net : ∀ (n : NetD) (s : List Int), n.ok = true → n.state s = true → (n.nx.length ≤ 64 ∧ n.ns.length ≤ 64) ∧ s.length ≤ 64 := fun n s h1 h2 => by
    obtain ⟨-, -, ⟨p1, p2⟩, p3, p4, -⟩ := netB_parts h1
    have := (state_iff.1 h2).1
    exact ⟨⟨by omega, p3⟩, by omega⟩
  obtain ⟨n1, s1⟩ := net _ _ hg.1 hg.2.1
  refine ⟨n1, ?_, s1, ?_⟩
  · by_cases h : d.left = 0
    · rw [(good_zero hg h).2.1]; exact ⟨Nat.zero_le _, Nat.zero_le _⟩
    · obtain ⟨o1, -, o3⟩ := good_old hg h
      exact (net _ _ o1 o3).1
  · by_cases h : d.left = 0
    · rw [(good_zero hg h).2.2]; exact Nat.zero_le _
    · obtain ⟨o1, -, o3⟩ := good_old hg h
      exact (net _ _ o1 o3).2
theorem feedD_small (d : StrD) (e : EvA) : ((d.feedD e).net.nx.length ≤ 64 ∧ (d.feedD e).net.ns.length ≤ 64) ∧ ((d.feedD e).old.nx.length ≤ 64 ∧ (d.feedD e).old.ns.length ≤ 64) ∧ (d.feedD e).s.length ≤ 64 ∧ (d.feedD e).f.length ≤ 64 := by
  unfold StrD.feedD
  by_cases h : d.feedE e = 0
  · rw [if_pos h]
    have := good_small (feedS_good h).2.1
    exact this
  · rw [if_neg h]
    exact ⟨⟨Nat.zero_le _, Nat.zero_le _⟩, ⟨Nat.zero_le _, Nat.zero_le _⟩, Nat.zero_le _, Nat.zero_le _⟩
theorem feedO_small (d : StrD) (e : EvA) : (d.feedO e).length ≤ e.x.length := by
  unfold StrD.feedO
  by_cases h : d.feedE e = 0
  · rw [if_pos h]
    by_cases hk : e.kind = 1
    · rw [if_pos hk]
      unfold StrD.sampO
      split
      · rw [outS_length _ (Nat.le_refl _)]; exact Nat.le_refl _
      · exact Nat.zero_le _
    · rw [if_neg hk]; exact Nat.zero_le _
  · rw [if_neg h]; exact Nat.zero_le _
end Go.Proofs.Ytgabfdappeakiaa
