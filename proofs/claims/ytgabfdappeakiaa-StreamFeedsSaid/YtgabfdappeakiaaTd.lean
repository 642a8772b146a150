/- Plain: a stream run over a block of samples. -/
import Derived.Test.YtgabfdappeakiaaPc
import Derived.Test.YtgabfdappeakiaaPv
set_option linter.unusedVariables false
set_option linter.unusedSimpArgs false
namespace Go.Proofs.Ytgabfdappeakiaa
open Go.RowKit

theorem atF_mem {l : List Int} {i : Int} (h0 : 0 ≤ i) (h1 : i < (l.length : Int)) : atF l i ∈ l := by
  obtain ⟨k, rfl⟩ : ∃ k : Nat, i = (k : Int) := ⟨i.toNat, by omega⟩
  have hk : k < l.length := by omega
  rw [atF_nat (List.getElem?_eq_getElem hk)]
  exact List.getElem_mem hk
theorem state_iff {n : NetD} {s : List Int} : n.state s = true ↔ (s.length : Int) = n.st ∧ ∀ v ∈ s, fitsW n.d0 n.d1 n.d2 n.d3 v = true := by
  unfold NetD.state NetD.fit
  rw [Bool.and_eq_true, beq_iff_eq, List.all_eq_true]
theorem vals_facts {n : NetD} {s : List Int} {x : Int} (hok : n.ok = true) (hs : n.state s = true) (hx : fitsW n.d0 n.d1 n.d2 n.d3 x = true) :
    (n.vals s x).length = 1 + s.length + n.ns.length ∧ ∀ v ∈ n.vals s x, fitsW n.d0 n.d1 n.d2 n.d3 v = true := by
  obtain ⟨h1, h2⟩ := state_iff.1 hs
  obtain ⟨p1, -⟩ := netB_parts hok
  exact ⟨vals_at hok h1, fun v hv => valsF_fits p1 (fits_cons hx h2) _ v hv⟩
theorem follow_state {n : NetD} {s : List Int} {x : Int} (hok : n.ok = true) (hs : n.state s = true) (hx : fitsW n.d0 n.d1 n.d2 n.d3 x = true) : n.state (n.follow s x) = true := by
  obtain ⟨h1, h2⟩ := vals_facts hok hs hx
  obtain ⟨-, -, -, -, p5, -, p7, -, -⟩ := netB_parts hok
  have hl := (state_iff.1 hs).1
  refine state_iff.2 ⟨by unfold NetD.follow followF; rw [List.length_map]; exact p5.symm, fun v hv => ?_⟩
  obtain ⟨i, hi, rfl⟩ := List.mem_map.1 hv
  have := p7 i hi
  exact h2 _ (atF_mem (by omega) (by rw [h1]; push_cast; omega))
theorem outp_23 {n : NetD} {s : List Int} {x : Int} (hok : n.ok = true) (hs : n.state s = true) (hx : fitsW n.d0 n.d1 n.d2 n.d3 x = true) : -8388608 ≤ n.outp s x ∧ n.outp s x ≤ 8388608 :=
  atF_23 (fun v hv => fits_23 ((vals_facts hok hs hx).2 v hv)) _
theorem outp_fits {n : NetD} {s : List Int} {x : Int} (hok : n.ok = true) (hs : n.state s = true) (hx : fitsW n.d0 n.d1 n.d2 n.d3 x = true) : fitsW n.d0 n.d1 n.d2 n.d3 (n.outp s x) = true := by
  obtain ⟨h1, h2⟩ := vals_facts hok hs hx
  obtain ⟨-, -, -, -, p5, -, -, p8, p9⟩ := netB_parts hok
  have hl := (state_iff.1 hs).1
  exact h2 _ (atF_mem p8 (by rw [h1]; push_cast; omega))
namespace StrD
/-- The state behind k samples. -/
def stS (d : StrD) (x : List Int) : Nat → List Int
  | 0 => d.s
  | k + 1 => match x[k]? with | some y => d.net.follow (d.stS x k) y | none => d.stS x k
def stF (d : StrD) (x : List Int) : Nat → List Int
  | 0 => d.f
  | k + 1 => match x[k]? with | some y => d.old.follow (d.stF x k) y | none => d.stF x k
/-- What comes out for sample k, whose value is y. -/
def outY (d : StrD) (x : List Int) (k : Nat) (y : Int) : Int :=
  if (k : Int) < d.left then mixV (d.old.outp (d.stF x k) y) (d.net.outp (d.stS x k) y) (d.fade - (d.left - k) + 1) d.fade else d.net.outp (d.stS x k) y
def outS (d : StrD) (x : List Int) : Nat → List Int
  | 0 => []
  | k + 1 => match x[k]? with | some y => d.outS x k ++ [d.outY x k y] | none => d.outS x k
/-- The stream behind k samples. -/
def step (d : StrD) (x : List Int) (k : Nat) : StrD := if (k : Int) < d.left then ⟨d.net, d.old, d.stS x k, d.stF x k, d.fade, d.left - k, d.ev⟩ else ⟨d.net, NetD.zero, d.stS x k, [], 0, 0, d.ev⟩
end StrD
section
variable {d : StrD} {x : List Int} {k : Nat} {y : Int}
theorem stS_succ (h : x[k]? = some y) : d.stS x (k + 1) = d.net.follow (d.stS x k) y := by
  show (match x[k]? with | some y => _ | none => _) = _
  rw [h]
theorem stF_succ (h : x[k]? = some y) : d.stF x (k + 1) = d.old.follow (d.stF x k) y := by
  show (match x[k]? with | some y => _ | none => _) = _
  rw [h]
theorem outS_succ (h : x[k]? = some y) : d.outS x (k + 1) = d.outS x k ++ [d.outY x k y] := by
  show (match x[k]? with | some y => _ | none => _) = _
  rw [h]
theorem outS_length : ∀ k, k ≤ x.length → (d.outS x k).length = k
  | 0, _ => rfl
  | k + 1, h => by
    rw [outS_succ (List.getElem?_eq_getElem (by omega)), List.length_append, outS_length k (by omega)]; rfl
theorem stS_state (hg : d.Good) (hx : d.net.fit x = true) : ∀ k, k ≤ x.length → d.net.state (d.stS x k) = true
  | 0, _ => hg.2.1
  | k + 1, h => by
    have hk := List.getElem?_eq_getElem (l := x) (i := k) (by omega)
    rw [stS_succ hk]
    exact follow_state hg.1 (stS_state hg hx k (by omega)) (List.all_eq_true.1 hx _ (List.mem_of_getElem? hk))
theorem good_old (hg : d.Good) (hl : d.left ≠ 0) : d.old.ok = true ∧ d.old.same d.net = true ∧ d.old.state d.f = true := by
  obtain ⟨-, -, -, -, -, h | h⟩ := hg
  · exact absurd h.1 hl
  · exact h.2
theorem good_zero (hg : d.Good) (hl : d.left = 0) : d.fade = 0 ∧ d.old = NetD.zero ∧ d.f = [] := by
  obtain ⟨-, -, -, -, -, h | h⟩ := hg
  · exact ⟨h.2.1, NetD.isZero_iff.1 h.2.2.1, List.eq_nil_of_length_eq_zero h.2.2.2⟩
  · exact absurd hl h.1
theorem same_fits {n m : NetD} (h : n.same m = true) (v : Int) : fitsW n.d0 n.d1 n.d2 n.d3 v = fitsW m.d0 m.d1 m.d2 m.d3 v := by
  unfold NetD.same at h
  obtain ⟨h0, h1, h2, h3⟩ := of_decide_eq_true h
  rw [h0, h1, h2, h3]
theorem stF_state (hg : d.Good) (hl : d.left ≠ 0) (hx : d.net.fit x = true) : ∀ k, k ≤ x.length → d.old.state (d.stF x k) = true
  | 0, _ => (good_old hg hl).2.2
  | k + 1, h => by
    have hk := List.getElem?_eq_getElem (l := x) (i := k) (by omega)
    rw [stF_succ hk]
    exact follow_state (good_old hg hl).1 (stF_state hg hl hx k (by omega)) (by rw [same_fits (good_old hg hl).2.1]; exact List.all_eq_true.1 hx _ (List.mem_of_getElem? hk))
theorem step_zero (hg : d.Good) : d.step x 0 = d := by
  unfold StrD.step
  have hl := hg.2.2.2.2.1
  by_cases h : d.left = 0
  · obtain ⟨h1, h2, h3⟩ := good_zero hg h
    rw [if_neg (by omega)]
    obtain ⟨n, o, s, f, fa, l, e⟩ := d
    simp only at h h1 h2 h3
    subst h h1 h2 h3
    rfl
  · rw [if_pos (by omega)]
    obtain ⟨n, o, s, f, fa, l, e⟩ := d
    simp only [StrD.stS, StrD.stF]
    congr 1
    omega
theorem step_on (h : (k : Int) < d.left) : d.step x k = ⟨d.net, d.old, d.stS x k, d.stF x k, d.fade, d.left - k, d.ev⟩ := if_pos h
theorem step_off (h : ¬ (k : Int) < d.left) : d.step x k = ⟨d.net, NetD.zero, d.stS x k, [], 0, 0, d.ev⟩ := if_neg h
theorem outY_on (h : (k : Int) < d.left) : d.outY x k y = mixV (d.old.outp (d.stF x k) y) (d.net.outp (d.stS x k) y) (d.fade - (d.left - k) + 1) d.fade := if_pos h
theorem outY_off (h : ¬ (k : Int) < d.left) : d.outY x k y = d.net.outp (d.stS x k) y := if_neg h
/-- What a mixed output is. -/
theorem mix_ok (hg : d.Good) (hx : d.net.fit x = true) (hk : x[k]? = some y) (hl : (k : Int) < d.left) :
    mixE (d.old.outp (d.stF x k) y) (d.net.outp (d.stS x k) y) (d.fade - (d.left - k) + 1) d.fade = 0 ∧ I64 (d.outY x k y) := by
  have hkx : k < x.length := (List.getElem?_eq_some_iff.1 hk).1
  have hl0 : d.left ≠ 0 := by omega
  have hy : fitsW d.net.d0 d.net.d1 d.net.d2 d.net.d3 y = true := List.all_eq_true.1 hx _ (List.mem_of_getElem? hk)
  have b1 := outp_23 hg.1 (stS_state hg hx k (by omega)) hy
  have b2 := outp_23 (good_old hg hl0).1 (stF_state hg hl0 hx k (by omega)) (by rw [same_fits (good_old hg hl0).2.1]; exact hy)
  obtain ⟨-, -, -, g4, g5, -⟩ := hg
  obtain ⟨_, _, _, F, -, -, -, -, -, -, hE, hV, c1, c2, -⟩ := mix_facts (old := d.old.outp (d.stF x k) y) (fresh := d.net.outp (d.stS x k) y) (step := d.fade - (d.left - k) + 1) (steps := d.fade) (by omega) (by omega) (by omega) (by omega) (by omega) (by omega)
  refine ⟨hE, ?_⟩
  rw [outY_on hl, hV]
  constructor <;> omega
theorem outY_i64 (hg : d.Good) (hx : d.net.fit x = true) (hk : x[k]? = some y) : I64 (d.outY x k y) := by
  by_cases hl : (k : Int) < d.left
  · exact (mix_ok hg hx hk hl).2
  · have hkx : k < x.length := (List.getElem?_eq_some_iff.1 hk).1
    have hy : fitsW d.net.d0 d.net.d1 d.net.d2 d.net.d3 y = true := List.all_eq_true.1 hx _ (List.mem_of_getElem? hk)
    have b1 := outp_23 hg.1 (stS_state hg hx k (by omega)) hy
    rw [outY_off hl]
    constructor <;> omega
end
end Go.Proofs.Ytgabfdappeakiaa
