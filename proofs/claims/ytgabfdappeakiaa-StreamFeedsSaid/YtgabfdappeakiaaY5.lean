/- Plain: a stream over two blocks; a crossfade lies between; a change to the same network is not heard. -/
import Derived.Test.YtgabfdappeakiaaY4
import Derived.Test.YtgabfdappeakiaaY3
import Derived.Test.YtgabfdappeakiaaTl0
set_option linter.unusedVariables false
set_option linter.unusedSimpArgs false
namespace Go.Proofs.Ytgabfdappeakiaa
open Go.RowKit

theorem getA {a b : List Int} (k : Nat) : (a ++ b)[a.length + k]? = b[k]? := by
  rw [List.getElem?_append_right (by omega)]
  congr 1; omega
theorem stS_left (d : StrD) (a b : List Int) : ∀ k, k ≤ a.length → d.stS (a ++ b) k = d.stS a k
  | 0, _ => rfl
  | k + 1, h => by
    unfold StrD.stS
    rw [List.getElem?_append_left (by omega), stS_left d a b k (by omega)]
theorem stF_left (d : StrD) (a b : List Int) : ∀ k, k ≤ a.length → d.stF (a ++ b) k = d.stF a k
  | 0, _ => rfl
  | k + 1, h => by
    unfold StrD.stF
    rw [List.getElem?_append_left (by omega), stF_left d a b k (by omega)]
theorem outS_left (d : StrD) (a b : List Int) : ∀ k, k ≤ a.length → d.outS (a ++ b) k = d.outS a k
  | 0, _ => rfl
  | k + 1, h => by
    unfold StrD.outS
    rw [List.getElem?_append_left (by omega), outS_left d a b k (by omega)]
    unfold StrD.outY
    rw [stS_left d a b k (by omega), stF_left d a b k (by omega)]
theorem stS_right (d : StrD) (a b : List Int) : ∀ k, d.stS (a ++ b) (a.length + k) = (d.step a a.length).stS b k
  | 0 => by
    show d.stS (a ++ b) a.length = (d.step a a.length).s
    rw [stS_left d a b _ (Nat.le_refl _), step_s]
  | k + 1 => by
    show (match (a ++ b)[a.length + k]? with | some y => d.net.follow (d.stS (a ++ b) (a.length + k)) y | none => d.stS (a ++ b) (a.length + k)) = (match b[k]? with | some y => (d.step a a.length).net.follow ((d.step a a.length).stS b k) y | none => (d.step a a.length).stS b k)
    rw [getA, stS_right d a b k, step_net]
theorem stF_right (d : StrD) (a b : List Int) (h : (a.length : Int) < d.left) : ∀ k, d.stF (a ++ b) (a.length + k) = (d.step a a.length).stF b k
  | 0 => by
    show d.stF (a ++ b) a.length = (d.step a a.length).f
    rw [stF_left d a b _ (Nat.le_refl _), step_on h]
  | k + 1 => by
    show (match (a ++ b)[a.length + k]? with | some y => d.old.follow (d.stF (a ++ b) (a.length + k)) y | none => d.stF (a ++ b) (a.length + k)) = (match b[k]? with | some y => (d.step a a.length).old.follow ((d.step a a.length).stF b k) y | none => (d.step a a.length).stF b k)
    rw [getA, stF_right d a b h k, step_on h]
theorem outY_right (d : StrD) (a b : List Int) (k : Nat) (y : Int) : d.outY (a ++ b) (a.length + k) y = (d.step a a.length).outY b k y := by
  unfold StrD.outY
  rw [stS_right]
  by_cases h : (a.length : Int) < d.left
  · rw [stF_right d a b h]
    rw [show (d.step a a.length).net = d.net from step_net _ _ _]
    have e1 : (d.step a a.length).left = d.left - a.length := by rw [step_on h]
    have e2 : (d.step a a.length).fade = d.fade := by rw [step_on h]
    have e3 : (d.step a a.length).old = d.old := by rw [step_on h]
    rw [e1, e2, e3]
    by_cases hk : (k : Int) < d.left - a.length
    · rw [if_pos hk, if_pos (by push_cast; omega), show d.fade - (d.left - ((a.length + k : Nat) : Int)) + 1 = d.fade - (d.left - a.length - k) + 1 by push_cast; omega]
    · rw [if_neg hk, if_neg (by push_cast; omega)]
  · have e1 : (d.step a a.length).left = 0 := by rw [step_off h]
    rw [e1, if_neg (by push_cast; omega), if_neg (by omega), show (d.step a a.length).net = d.net from step_net _ _ _]
theorem outS_right (d : StrD) (a b : List Int) : ∀ k, d.outS (a ++ b) (a.length + k) = d.outS a a.length ++ (d.step a a.length).outS b k
  | 0 => by
    show d.outS (a ++ b) a.length = d.outS a a.length ++ []
    rw [outS_left d a b _ (Nat.le_refl _), List.append_nil]
  | k + 1 => by
    show (match (a ++ b)[a.length + k]? with | some y => d.outS (a ++ b) (a.length + k) ++ [d.outY (a ++ b) (a.length + k) y] | none => d.outS (a ++ b) (a.length + k)) = d.outS a a.length ++ (match b[k]? with | some y => (d.step a a.length).outS b k ++ [(d.step a a.length).outY b k y] | none => (d.step a a.length).outS b k)
    rw [getA, outS_right d a b k]
    cases b[k]? with
    | none => rfl
    | some y => simp only [outY_right, List.append_assoc]
theorem step_right (d : StrD) (a b : List Int) (k : Nat) : d.step (a ++ b) (a.length + k) = (d.step a a.length).step b k := by
  by_cases h : (a.length : Int) < d.left
  · have e1 : (d.step a a.length).left = d.left - a.length := by rw [step_on h]
    by_cases hk : (k : Int) < d.left - a.length
    · rw [step_on (show ((a.length + k : Nat) : Int) < d.left by push_cast; omega), step_on (by rw [e1]; exact hk), stS_right, stF_right d a b h, e1]
      rw [show (d.step a a.length).net = d.net from step_net _ _ _, show (d.step a a.length).old = d.old by rw [step_on h], show (d.step a a.length).fade = d.fade by rw [step_on h], show (d.step a a.length).ev = d.ev by rw [step_on h], show d.left - ((a.length + k : Nat) : Int) = d.left - a.length - k by push_cast; omega]
    · rw [step_off (show ¬ ((a.length + k : Nat) : Int) < d.left by push_cast; omega), step_off (by rw [e1]; exact hk), stS_right]
      rw [show (d.step a a.length).net = d.net from step_net _ _ _, show (d.step a a.length).ev = d.ev by rw [step_on h]]
  · have e1 : (d.step a a.length).left = 0 := by rw [step_off h]
    rw [step_off (show ¬ ((a.length + k : Nat) : Int) < d.left by push_cast; omega), step_off (by rw [e1]; omega), stS_right]
    rw [show (d.step a a.length).net = d.net from step_net _ _ _, show (d.step a a.length).ev = d.ev by rw [step_off h]]
/-- A block goes through. -/
theorem feed_sam {d : StrD} {A : Option Addr} {x : List Int} {c : Nat} (hg : d.Good) (hx : d.net.fit x = true) (hl : x.length ≤ 4096) : d.feedE (evS A x c) = 0 ∧ d.feedD (evS A x c) = (d.step x x.length).bump ∧ d.feedO (evS A x c) = d.outS x x.length := by
  have hs : d.sampE x = 0 := by unfold StrD.sampE; rw [if_pos hl, if_pos hx]
  have h0 : d.feedE (evS A x c) = 0 := by unfold StrD.feedE; rw [if_pos hg]; exact hs
  refine ⟨h0, ?_, ?_⟩
  · unfold StrD.feedD
    rw [if_pos h0]
    have e : d.feedS (evS A x c) = d.step x x.length := by
      unfold StrD.feedS
      show (if (1 : Int) = 1 then d.sampD x else _) = _
      rw [if_pos rfl]
      unfold StrD.sampD
      rw [if_pos hs]
    rw [e]; rfl
  · unfold StrD.feedO
    rw [if_pos h0]
    show (if (1 : Int) = 1 then d.sampO x else _) = _
    rw [if_pos rfl]
    unfold StrD.sampO
    rw [if_pos hs]
/-- A change goes through. -/
theorem feed_chg {d : StrD} {m : NetD} {NA XA : Option Addr} {nc xc : Nat} {f : Int} (hg : d.Good) (hl : d.left = 0) (hm : m.ok = true) (hs : m.same d.net = true) (h0 : 0 ≤ f) (h1 : f ≤ 4096) :
    d.feedE (evC m NA nc XA xc f) = 0 ∧ d.feedD (evC m NA nc XA xc f) = (d.chOk (evC m NA nc XA xc f)).bump ∧ d.feedO (evC m NA nc XA xc f) = [] := by
  have hc : d.chE (evC m NA nc XA xc f) = 0 := by
    unfold StrD.chE
    rw [if_pos (show (evC m NA nc XA xc f).net.ok = true from hm), if_pos (show (evC m NA nc XA xc f).net.same d.net = true ∧ 0 ≤ (evC m NA nc XA xc f).fade ∧ (evC m NA nc XA xc f).fade ≤ 4096 from ⟨hs, h0, h1⟩), if_neg (by omega)]
  have hE : d.feedE (evC m NA nc XA xc f) = 0 := by
    unfold StrD.feedE
    rw [if_pos hg, if_neg (show ¬ (evC m NA nc XA xc f).kind = 1 from (by decide : ¬ (2 : Int) = 1)), if_pos (show (evC m NA nc XA xc f).kind = 2 from rfl)]; exact hc
  refine ⟨hE, ?_, ?_⟩
  · unfold StrD.feedD
    rw [if_pos hE]
    have e : d.feedS (evC m NA nc XA xc f) = d.chOk (evC m NA nc XA xc f) := by
      unfold StrD.feedS
      rw [if_neg (show ¬ (evC m NA nc XA xc f).kind = 1 from (by decide : ¬ (2 : Int) = 1))]
      unfold StrD.chD
      rw [if_pos hc]
    rw [e]; rfl
  · unfold StrD.feedO
    rw [if_pos hE, if_neg (show ¬ (evC m NA nc XA xc f).kind = 1 from (by decide : ¬ (2 : Int) = 1))]
theorem bump_good {d : StrD} (hg : d.Good) (h : d.ev < 1099511627776) : d.bump.Good := by
  obtain ⟨g1, g2, g3, g4⟩ := hg
  exact ⟨g1, g2, (show 0 ≤ d.ev + 1 ∧ d.ev + 1 ≤ 1099511627776 by omega), g4⟩
theorem openD_run (n : NetD) : openD n = runD n (List.replicate n.st.toNat 0) := rfl
theorem step_run {n : NetD} {s x : List Int} : (runD n s).step x x.length = runD n ((runD n s).stS x x.length) := step_off (show ¬ (x.length : Int) < 0 by omega)
/-- Behind a block and a change: what is left. -/
def chgD (n m : NetD) (s : List Int) (f : Int) (ev : Int) : StrD := ⟨m, if 0 < f then n else NetD.zero, if m.st = n.st then s else List.replicate m.st.toNat 0, if 0 < f then s else [], f, f, ev⟩
/-- A block, a change, a block. -/
theorem play3 {n m : NetD} {w x : List Int} {A B NA XA : Option Addr} {c b nc xc : Nat} {f : Int} (hn : n.ok = true) (hm : m.ok = true) (hs : m.same n = true) (hw : n.fit w = true) (hx : n.fit x = true) (hwl : w.length ≤ 4096) (hxl : x.length ≤ 4096) (h0 : 0 ≤ f) (h1 : f ≤ 4096) :
    playE (openD n) [evS A w c, evC m NA nc XA xc f, evS B x b] = 0 ∧
    playO (openD n) [evS A w c, evC m NA nc XA xc f, evS B x b] = (openD n).outS w w.length ++ (chgD n m ((openD n).stS w w.length) f 2).outS x x.length ∧ (chgD n m ((openD n).stS w w.length) f 2).Good := by
  have hg := openD_good hn
  obtain ⟨a1, a2, a3⟩ := feed_sam (A := A) (c := c) hg hw hwl
  have hst : (openD n).step w w.length = runD n ((openD n).stS w w.length) := by rw [openD_run]; exact step_run
  have hg1 : ((openD n).feedD (evS A w c)).Good := by
    rw [a2]; exact bump_good (step_good hg hw (Nat.le_refl _)) (by rw [hst]; exact (show (0 : Int) < 1099511627776 by decide))
  rw [hst] at a2
  obtain ⟨b1, b2, b3⟩ := feed_chg (d := (openD n).feedD (evS A w c)) (m := m) (NA := NA) (XA := XA) (nc := nc) (xc := xc) (f := f) hg1 (by rw [a2]; rfl) hm (by rw [a2]; exact hs) h0 h1
  have e2 : ((openD n).feedD (evS A w c)).feedD (evC m NA nc XA xc f) = chgD n m ((openD n).stS w w.length) f 2 := by
    rw [b2, a2]; rfl
  have hg2 : (chgD n m ((openD n).stS w w.length) f 2).Good := by
    rw [← e2]
    exact feedD_good b1 (by rw [a2]; exact (show (0 : Int) + 1 < 1099511627776 by decide))
  have hfx : (chgD n m ((openD n).stS w w.length) f 2).net.fit x = true := by
    show m.fit x = true
    unfold NetD.fit at hx ⊢
    rw [List.all_eq_true] at hx ⊢
    exact fun v hv => by rw [same_fits hs]; exact hx v hv
  obtain ⟨d1, d2, d3⟩ := feed_sam (A := B) (c := b) hg2 hfx hxl
  refine ⟨?_, ?_, hg2⟩
  · show (if _ then (if _ then (if _ then (0 : Int) else _) else _) else _) = 0
    rw [if_pos a1, if_pos b1, e2, if_pos d1]
  · show (openD n).feedO (evS A w c) ++ (((openD n).feedD (evS A w c)).feedO (evC m NA nc XA xc f) ++ ((((openD n).feedD (evS A w c)).feedD (evC m NA nc XA xc f)).feedO (evS B x b) ++ [])) = _
    rw [a3, b3, e2, d3, List.nil_append, List.append_nil]
theorem mixV_same {a i t : Int} : mixV a a i t = if mixE a a i t = 0 then a else 0 := by
  unfold mixV
  rw [Int.sub_self, Int.zero_mul, Int.zero_ediv, Int.add_zero]
/-- The old state's way during a crossfade. -/
theorem stF_chg {n m : NetD} {s x : List Int} {f ev : Int} (hf : 0 < f) : ∀ k, (chgD n m s f ev).stF x k = (runD n s).stS x k
  | 0 => by show (if 0 < f then s else []) = s; rw [if_pos hf]
  | k + 1 => by
    show (match x[k]? with | some y => (chgD n m s f ev).old.follow ((chgD n m s f ev).stF x k) y | none => (chgD n m s f ev).stF x k) = (match x[k]? with | some y => n.follow ((runD n s).stS x k) y | none => (runD n s).stS x k)
    rw [stF_chg hf k, show (chgD n m s f ev).old = n from if_pos hf]
theorem stS_chg {n m : NetD} {s x : List Int} {f ev : Int} : ∀ k, (chgD n m s f ev).stS x k = (runD m (if m.st = n.st then s else List.replicate m.st.toNat 0)).stS x k
  | 0 => rfl
  | k + 1 => by
    show (match x[k]? with | some y => m.follow ((chgD n m s f ev).stS x k) y | none => (chgD n m s f ev).stS x k) = (match x[k]? with | some y => m.follow ((runD m _).stS x k) y | none => (runD m _).stS x k)
    rw [stS_chg k]
theorem outs_eq {d d' : StrD} {x : List Int} (h : ∀ k y, x[k]? = some y → d.outY x k y = d'.outY x k y) : ∀ k, d.outS x k = d'.outS x k
  | 0 => rfl
  | k + 1 => by
    show (match x[k]? with | some y => d.outS x k ++ [d.outY x k y] | none => d.outS x k) = (match x[k]? with | some y => d'.outS x k ++ [d'.outY x k y] | none => d'.outS x k)
    rw [outs_eq h k]
    cases hk : x[k]? with
    | none => rfl
    | some y => simp only [h k y hk]
/-- A change to the same network is not heard. -/
theorem quiet {n : NetD} {s x : List Int} {f : Int} (hg : (chgD n n s f 2).Good) (hx : n.fit x = true) (k : Nat) : (chgD n n s f 2).outS x k = (runD n s).outS x k := by
  refine outs_eq (fun k y hk => ?_) k
  have e : (if n.st = n.st then s else List.replicate n.st.toNat 0) = s := if_pos rfl
  rw [runD_out]
  by_cases hl : (k : Int) < f
  · have hf : 0 < f := by omega
    have hm := (mix_ok hg hx hk hl).1
    have ho : (chgD n n s f 2).old = n := if_pos hf
    rw [stF_chg hf, stS_chg, e, ho] at hm
    rw [outY_on (d := chgD n n s f 2) hl, stF_chg hf, stS_chg, e, ho]
    show mixV (n.outp _ y) (n.outp _ y) _ _ = _
    rw [mixV_same]
    exact if_pos hm
  · rw [outY_off (d := chgD n n s f 2) hl, stS_chg, e]; rfl
/-- A crossfade lies between. -/
theorem between {n m : NetD} {s x : List Int} {f : Int} (hg : (chgD n m s f 2).Good) (hx : m.fit x = true) {k : Nat} {y : Int} (hk : x[k]? = some y) :
    ∀ a b, n.outp ((runD n s).stS x k) y = a → m.outp ((runD m (if m.st = n.st then s else List.replicate m.st.toNat 0)).stS x k) y = b →
      ((a ≤ (chgD n m s f 2).outY x k y ∧ (chgD n m s f 2).outY x k y ≤ b) ∨ (b ≤ (chgD n m s f 2).outY x k y ∧ (chgD n m s f 2).outY x k y ≤ a)) ∧ (f ≤ (k : Int) + 1 → (chgD n m s f 2).outY x k y = b) := by
  intro a b ha hb
  by_cases hl : (k : Int) < f
  · have hf : 0 < f := by omega
    have hkx : k < x.length := (List.getElem?_eq_some_iff.1 hk).1
    have hl0 : (chgD n m s f 2).left ≠ 0 := by show f ≠ 0; omega
    have hy : fitsW m.d0 m.d1 m.d2 m.d3 y = true := List.all_eq_true.1 hx _ (List.mem_of_getElem? hk)
    have b1 := outp_23 hg.1 (stS_state hg hx k (by omega)) hy
    have b2 := outp_23 (good_old hg hl0).1 (stF_state hg hl0 hx k (by omega)) (by rw [same_fits (good_old hg hl0).2.1]; exact hy)
    have ho : (chgD n m s f 2).old = n := if_pos hf
    rw [stS_chg] at b1
    rw [stF_chg hf, ho] at b2
    have b1 : -8388608 ≤ m.outp ((runD m (if m.st = n.st then s else List.replicate m.st.toNat 0)).stS x k) y ∧ m.outp ((runD m (if m.st = n.st then s else List.replicate m.st.toNat 0)).stS x k) y ≤ 8388608 := b1
    rw [hb] at b1
    rw [ha] at b2
    obtain ⟨-, -, -, ⟨g1, g2⟩, -, -⟩ := hg
    have g2 : f ≤ 4096 := g2
    obtain ⟨_, _, _, F, -, -, -, -, -, -, hE, hV, c1, c2, -, c4⟩ := mix_facts (old := a) (fresh := b) (step := f - (f - k) + 1) (steps := f) (by omega) (by omega) (by omega) (by omega) (by omega) (by omega)
    rw [outY_on (d := chgD n m s f 2) hl, stF_chg hf, stS_chg, ho]
    show ((a ≤ mixV (n.outp _ y) (m.outp _ y) (f - (f - k) + 1) f ∧ mixV (n.outp _ y) (m.outp _ y) (f - (f - k) + 1) f ≤ b) ∨ (b ≤ mixV (n.outp _ y) (m.outp _ y) (f - (f - k) + 1) f ∧ mixV (n.outp _ y) (m.outp _ y) (f - (f - k) + 1) f ≤ a)) ∧ (f ≤ (k : Int) + 1 → mixV (n.outp _ y) (m.outp _ y) (f - (f - k) + 1) f = b)
    rw [ha, hb, hV]
    refine ⟨?_, fun h => ?_⟩
    · rcases Int.le_total a b with h | h
      · have := c1 h; omega
      · have := c2 h; omega
    · have := c4 (by omega); omega
  · rw [outY_off (d := chgD n m s f 2) hl, stS_chg]
    show ((a ≤ m.outp _ y ∧ m.outp _ y ≤ b) ∨ (b ≤ m.outp _ y ∧ m.outp _ y ≤ a)) ∧ (f ≤ (k : Int) + 1 → m.outp _ y = b)
    rw [hb]
    refine ⟨?_, fun _ => rfl⟩
    rcases Int.le_total a b with h | h
    · exact .inl ⟨h, Int.le_refl _⟩
    · exact .inr ⟨Int.le_refl _, h⟩
end Go.Proofs.Ytgabfdappeakiaa
