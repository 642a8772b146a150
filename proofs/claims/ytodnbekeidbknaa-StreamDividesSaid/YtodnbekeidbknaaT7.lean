/- Networks and streams as plain data; the walks of zeroNet, zero, isState. -/
import Derived.Test.YtodnbekeidbknaaT6
set_option linter.unusedVariables false
set_option linter.unusedSimpArgs false
namespace Go.Proofs.Ytodnbekeidbknaa
open Go.RowKit

/-- A network, plain. -/
structure NetD where
  (d0 d1 d2 d3 c0 c1 c2 c3 st out : Int)
  (ns : List (List (Int × Int)))
  (nx : List Int)
namespace NetD
def ok (n : NetD) : Bool := netB n.d0 n.d1 n.d2 n.d3 n.c0 n.c1 n.c2 n.c3 n.st n.ns n.nx n.out
def zero : NetD := ⟨0, 0, 0, 0, 0, 0, 0, 0, 0, 0, [], []⟩
def isZero (n : NetD) : Bool := decide (n.d0 = 0 ∧ n.d1 = 0 ∧ n.d2 = 0 ∧ n.d3 = 0 ∧ n.c0 = 0 ∧ n.c1 = 0 ∧ n.c2 = 0 ∧ n.c3 = 0 ∧ n.st = 0 ∧ n.out = 0 ∧ n.ns.length = 0 ∧ n.nx.length = 0)
/-- Its formats are equal. -/
def same (n m : NetD) : Bool := decide (n.d0 = m.d0 ∧ n.d1 = m.d1 ∧ n.d2 = m.d2 ∧ n.d3 = m.d3)
def fit (n : NetD) (s : List Int) : Bool := s.all fun v => fitsW n.d0 n.d1 n.d2 n.d3 v
/-- A list is a state of a network. -/
def state (n : NetD) (s : List Int) : Bool := ((s.length : Int) == n.st) && n.fit s
def vals (n : NetD) (s : List Int) (x : Int) : List Int := valsF n.d0 n.d1 n.d2 n.d3 n.c1 n.ns (x :: s) n.ns.length
def follow (n : NetD) (s : List Int) (x : Int) : List Int := followF n.nx (n.vals s x)
def outp (n : NetD) (s : List Int) (x : Int) : Int := atF (n.vals s x) n.out
end NetD
theorem NetD.isZero_iff {n : NetD} : n.isZero = true ↔ n = NetD.zero := by
  obtain ⟨d0, d1, d2, d3, c0, c1, c2, c3, st, out, ns, nx⟩ := n
  simp [NetD.isZero, NetD.zero]
theorem bool_dec {b : Bool} {p : Prop} [Decidable p] (h : (b = true) ↔ p) : b = decide p := by
  cases b <;> simp_all
/-- What comes of a network that reads so in the heap. -/
abbrev NetD.val (n : NetD) (NA : Option Addr) (nc : Nat) (XA : Option Addr) (xc : Nat) : Value := netV n.d0 n.d1 n.d2 n.d3 n.c0 n.c1 n.c2 n.c3 n.st NA n.ns.length nc XA n.nx.length xc n.out
set_option maxRecDepth 100000 in
set_option maxHeartbeats 1000000 in
theorem st_zeroNet (d0 d1 d2 d3 c0 c1 c2 c3 st out : Int) (NA XA : Option Addr) (nn nc xn xc : Nat) (w : World) :
    Calls Try.prog 33 #[netV d0 d1 d2 d3 c0 c1 c2 c3 st NA nn nc XA xn xc out] w (BoolBw w (decide (d0 = 0 ∧ d1 = 0 ∧ d2 = 0 ∧ d3 = 0 ∧ c0 = 0 ∧ c1 = 0 ∧ c2 = 0 ∧ c3 = 0 ∧ st = 0 ∧ out = 0 ∧ nn = 0 ∧ xn = 0))) := by
  unfold netV
  go_enter Try.func33, Try.ntmps33
  go_wp2_with fail
  all_goals
    go_ret
    refine ⟨ret_bool ?_, (Below.refl _ _).alloc (Nat.le_refl _) _⟩
    first | exact (decide_eq_true (by omega)).symm | exact (decide_eq_false (by omega)).symm | exact bool_dec (by rw [beq_iff_eq]; omega)
set_option maxHeartbeats 1000000 in
theorem st_isState (n : NetD) (NA XA SA : Option Addr) (nc xc sn sc : Nat) (s : List Int) (w : World) (hS : Ints w SA s) (hsn : s.length = sn) (hs9 : sn ≤ 9223372036854775807) :
    Calls Try.prog 32 #[n.val NA nc XA xc, .slice SA sn sc] w (BoolBw w (n.state s)) := by
  obtain ⟨d0, d1, d2, d3, c0, c1, c2, c3, st, out, ns, nx⟩ := n
  show Calls Try.prog 32 #[netV d0 d1 d2 d3 c0 c1 c2 c3 st NA ns.length nc XA nx.length xc out, .slice SA sn sc] w (BoolBw w ((((s.length : Int) == st) && s.all fun v => fitsW d0 d1 d2 d3 v)))
  obtain ⟨xn, hxn⟩ : ∃ n, nx.length = n := ⟨_, rfl⟩
  obtain ⟨nn, hnn⟩ : ∃ n, ns.length = n := ⟨_, rfl⟩
  obtain ⟨P, HP0, PN0⟩ : ∃ P : World → Prop, P (w.alloc (.cells #[.int .i64 d0, .int .i64 d1, .int .i64 d2, .int .i64 d3, .int .i64 c0, .int .i64 c1, .int .i64 c2, .int .i64 c3, .int .i64 st, .slice NA nn nc, .slice XA xn xc, .int .i64 out] 31)) ∧ NetQ w P d0 d1 d2 d3 c0 c1 c2 c3 st NA [] nn nc XA [] xn xc out := netQ_mk w d0 d1 d2 d3 c0 c1 c2 c3 st NA [] nn nc XA [] xn xc out NodesAt.nil Ints.nil
  unfold netV
  rw [hnn, hxn]
  have HP := Lib.hid HP0
  have PN := Lib.hid PN0
  have HS := Lib.hid hS
  have HSN := Lib.hid hsn
  have FT : Hid (∀ v b w, fitsW d0 d1 d2 d3 v = b → Calls Try.prog 29 #[wordV d0 d1 d2 d3, .int .i64 v] w fun e w' => e = .returned (.bool b) ∧ Below w.heap.size w w') := fun v b w h => by have := fx_Fits d0 d1 d2 d3 v w; rw [h] at this; exact this
  clear HP0 PN0 hnn hxn hS
  by_cases hst : (sn : Int) = st
  · subst hst
    have e1 : (((s.length : Int) == (sn : Int)) && s.all fun v => fitsW d0 d1 d2 d3 v) = s.all fun v => fitsW d0 d1 d2 d3 v := by rw [hsn]; simp
    rw [e1]
    clear e1 hsn
    go_enter Try.func32, Try.ntmps32
    go_wp2_with fail
    go_loopw [14] (fun i wr => ∃ k : Nat, k ≤ sn ∧ i = .int .i64 k ∧ Hid (((s.take k).all fun v => fitsW d0 d1 d2 d3 v) = true) ∧ P wr) (fun i _ => sn - (intOf i).toNat)
    case atStart => exact ⟨0, Nat.zero_le _, rfl, rfl, HP.out⟩
    case round =>
      obtain ⟨k, hk, rfl, HA, hp⟩ := hrel
      obtain ⟨z1, z2, z3, z4⟩ := PN.out.dat _ hp
      have hlw := PN.out.lt _ hp
      by_cases hlt : k < sn
      · obtain ⟨ad, y, rfl, hba, hy, hcy, y1, y2⟩ := (HS.out.grow (PN.out.old _ hp)).at_ (k := k) (by rw [HSN.out]; exact hlt)
        have HT := Lib.hid (take_succ_all hy (fun v => fitsW d0 d1 d2 d3 v))
        have HNO := Lib.hid (fun h => all_no (p := fun v => fitsW d0 d1 d2 d3 v) hy h)
        obtain ⟨fu, hfu⟩ : ∃ b, fitsW d0 d1 d2 d3 y = b := ⟨_, rfl⟩
        have HF := Lib.hid hfu
        have HPP := Lib.hid hp
        have x1 : (0 : Int) ≤ (k : Int) := by omega
        have x2 : (k : Int) < (sn : Int) := by omega
        clear hy hfu hp
        rcases fu with _ | _
        · go_wp2_with (first | (go_at_call 29; with_reducible refine (FT.out _ _ _ HF.out).mono ?_; rintro e w1 ⟨rfl, hb1⟩))
          go_ret
          exact ⟨ret_bool (HNO.out HF.out).symm, PN.out.old _ (PN.out.go1 HPP.out hb1)⟩
        · go_wp2_with (first | (go_at_call 29; with_reducible refine (FT.out _ _ _ HF.out).mono ?_; rintro e w1 ⟨rfl, hb1⟩))
          go_roundw
          case rel => exact ⟨k + 1, by omega, by go_num, by show _ = _; rw [HT.out, HA.out, HF.out]; rfl, PN.out.go1 HPP.out hb1⟩
          case measure => simp [intOf]; omega
      · have hkk : k = sn := by omega
        subst hkk
        have HPP := Lib.hid hp
        clear hp
        go_wp2_with fail
        go_ret
        exact ⟨ret_bool (by have := HA.out; rw [← HSN.out, List.take_length] at this; exact this.symm), PN.out.old _ HPP.out⟩
  · have e1 : (((s.length : Int) == st) && s.all fun v => fitsW d0 d1 d2 d3 v) = false := by rw [hsn, show ((sn : Int) == st) = false by simpa using hst]; rfl
    rw [e1]
    clear e1 hsn
    go_enter Try.func32, Try.ntmps32
    go_wp2_with fail
    go_ret
    exact ⟨rfl, PN.out.old _ HP.out⟩
end Go.Proofs.Ytodnbekeidbknaa
