/- Feed of the reference of layer 42. -/
import Derived.Test.YtgabfdappeakiaaTn
set_option linter.unusedVariables false
set_option linter.unusedSimpArgs false
namespace Go.Proofs.Ytgabfdappeakiaa
open Go.RowKit

theorem r42_Feed (u : StrA) (e : EvA) (w : World) (hu : StrAt w u) (he : EvAt w e) : Calls Try.prog 15 #[u.v, e.v] w (RetFeedM w u e (u.d.feedD e) (u.d.feedO e) (u.d.feedE e)) := by
  by_cases h : u.d.feedE e = 0
  · have hE := h
    unfold StrD.feedE at h
    by_cases hg : u.d.Good
    · rw [if_pos hg] at h
      by_cases hk : e.kind = 1
      · rw [if_pos hk] at h
        have h' := h
        unfold StrD.sampE at h'
        have hl : e.x.length ≤ 4096 := by
          by_cases hl : e.x.length ≤ 4096
          · exact hl
          · rw [if_neg hl] at h'; exact absurd h' (by decide)
        rw [if_pos hl] at h'
        have hf : u.d.net.fit e.x = true := by
          by_cases hf : u.d.net.fit e.x = true
          · exact hf
          · rw [if_neg hf] at h'; exact absurd h' (by decide)
        have hc := r42_Feed_sam u e w hu hg he hk hl hf
        have e1 : ({ u.d.feedS e with ev := (u.d.feedS e).ev + 1 } : StrD) = u.d.bump.step e.x e.x.length := by
          unfold StrD.feedS StrD.sampD
          rw [if_pos hk, if_pos h, step_bump]
        have e2 : u.d.sampO e.x = u.d.outS e.x e.x.length := by
          unfold StrD.sampO
          rw [if_pos h]
        unfold StrD.feedD StrD.feedO
        rw [hE, if_pos rfl, if_pos rfl, if_pos hk, e1, e2]
        exact hc
      · rw [if_neg hk] at h
        by_cases hk2 : e.kind = 2
        · rw [if_pos hk2] at h
          have hc := r42_Feed_ch u e w hu hg he hk2 h
          have e1 : ({ u.d.feedS e with ev := (u.d.feedS e).ev + 1 } : StrD) = { u.d.chOk e with ev := u.d.ev + 1 } := by
            unfold StrD.feedS StrD.chD
            rw [if_neg hk, if_pos h]; rfl
          unfold StrD.feedD StrD.feedO
          rw [hE, if_pos rfl, if_pos rfl, if_neg hk, e1]
          exact hc
        · rw [if_neg hk2] at h; exact absurd h (by decide)
    · rw [if_neg hg] at h; exact absurd h (by decide)
  · have hD : u.d.feedD e = StrD.zero := by unfold StrD.feedD; rw [if_neg h]
    have hO : u.d.feedO e = [] := by unfold StrD.feedO; rw [if_neg h]
    refine (r42_Feed_no u e w hu he h).mono ?_
    rintro e1 w1 ⟨us, A, c, rfl, hd, hs, hi, hb⟩
    exact ⟨us, A, c, rfl, hd, fun w'' _ _ _ => StrAt.of_zero (hd.trans hD), hs, by rw [hO]; exact IntsF.nil, hb⟩
end Go.Proofs.Ytgabfdappeakiaa
