/- Several texts in one: T7 T8 Ta Tb Tc. -/
import Derived.Test.YtgabfdappeakiaaPb
import Derived.Test.YtgabfdappeakiaaU2
import Derived.Lib.SliceRun
import Derived.Deep.MidRow
section
/- Networks and streams as plain data; the walks of zeroNet, zero, isState. -/
set_option linter.unusedVariables false
set_option linter.unusedSimpArgs false
namespace Go.Proofs.Ytgabfdappeakiaa
open Go.RowKit

/-- A network, plain. -/
structure NetD where
  (d0 d1 d2 d3 c0 c1 c2 c3 st out : Int)
  (ns : List (List (Int × Int)))
  (nx : List Int)
namespace NetD
def ok (n : NetD) : Bool := netB n.d0 n.d1 n.d2 n.d3 n.c0 n.c1 n.c2 n.c3 n.st n.ns n.nx n.out
def zero : NetD := ⟨0, 0, 0, 0, 0, 0, 0, 0, 0, 0, [], []⟩
def isZero (n : NetD) : Bool := decide (n.d0 = 0 ∧ n.d1 = 0 ∧ n.d2 = 0 ∧ n.d3 = 0 ∧ n.c0 = 0 ∧ n.c1 = 0 ∧ n.c2 = 0 ∧ n.c3 = 0 ∧ n.st = 0 ∧ n.out = 0 ∧ n.ns.length = 0 ∧ n.nx.length = 0)
/-- Its formats are equal. -/
def same (n m : NetD) : Bool := decide (n.d0 = m.d0 ∧ n.d1 = m.d1 ∧ n.d2 = m.d2 ∧ n.d3 = m.d3)
def fit (n : NetD) (s : List Int) : Bool := s.all fun v => fitsW n.d0 n.d1 n.d2 n.d3 v
/-- A list is a state of a network. -/
def state (n : NetD) (s : List Int) : Bool := ((s.length : Int) == n.st) && n.fit s
def vals (n : NetD) (s : List Int) (x : Int) : List Int := valsF n.d0 n.d1 n.d2 n.d3 n.c1 n.ns (x :: s) n.ns.length
def follow (n : NetD) (s : List Int) (x : Int) : List Int := followF n.nx (n.vals s x)
def outp (n : NetD) (s : List Int) (x : Int) : Int := atF (n.vals s x) n.out
end NetD
theorem NetD.isZero_iff {n : NetD} : n.isZero = true ↔ n = NetD.zero := by
  obtain ⟨d0, d1, d2, d3, c0, c1, c2, c3, st, out, ns, nx⟩ := n
  simp [NetD.isZero, NetD.zero]
theorem bool_dec {b : Bool} {p : Prop} [Decidable p] (h : (b = true) ↔ p) : b = decide p := by
  cases b <;> simp_all
/-- What comes of a network that reads so in the heap. -/
abbrev NetD.val (n : NetD) (NA : Option Addr) (nc : Nat) (XA : Option Addr) (xc : Nat) : Value := netV n.d0 n.d1 n.d2 n.d3 n.c0 n.c1 n.c2 n.c3 n.st NA n.ns.length nc XA n.nx.length xc n.out
set_option maxRecDepth 100000 in
set_option maxHeartbeats 1000000 in
theorem st_zeroNet (d0 d1 d2 d3 c0 c1 c2 c3 st out : Int) (NA XA : Option Addr) (nn nc xn xc : Nat) (w : World) :
    Calls Try.prog 25 #[netV d0 d1 d2 d3 c0 c1 c2 c3 st NA nn nc XA xn xc out] w (BoolBw w (decide (d0 = 0 ∧ d1 = 0 ∧ d2 = 0 ∧ d3 = 0 ∧ c0 = 0 ∧ c1 = 0 ∧ c2 = 0 ∧ c3 = 0 ∧ st = 0 ∧ out = 0 ∧ nn = 0 ∧ xn = 0))) := by
  unfold netV
  go_enter Try.func25, Try.ntmps25
  go_wp2_with fail
  all_goals
    go_ret
    refine ⟨ret_bool ?_, (Below.refl _ _).alloc (Nat.le_refl _) _⟩
    first | exact (decide_eq_true (by omega)).symm | exact (decide_eq_false (by omega)).symm | exact bool_dec (by rw [beq_iff_eq]; omega)
set_option maxRecDepth 100000 in
set_option maxHeartbeats 1000000 in
theorem r42_zero (d0 d1 d2 d3 c0 c1 c2 c3 st out : Int) (NA XA : Option Addr) (nn nc xn xc : Nat) (w : World) :
    Calls Try.prog 48 #[netV d0 d1 d2 d3 c0 c1 c2 c3 st NA nn nc XA xn xc out] w (BoolBw w (decide (d0 = 0 ∧ d1 = 0 ∧ d2 = 0 ∧ d3 = 0 ∧ c0 = 0 ∧ c1 = 0 ∧ c2 = 0 ∧ c3 = 0 ∧ st = 0 ∧ out = 0 ∧ nn = 0 ∧ xn = 0))) := by
  unfold netV
  go_enter Try.func48, Try.ntmps48
  go_wp2_with fail
  all_goals
    go_ret
    refine ⟨ret_bool ?_, (Below.refl _ _).alloc (Nat.le_refl _) _⟩
    first | exact (decide_eq_true (by omega)).symm | exact (decide_eq_false (by omega)).symm | exact bool_dec (by rw [beq_iff_eq]; omega)
set_option maxHeartbeats 1000000 in
theorem st_isState (n : NetD) (NA XA SA : Option Addr) (nc xc sn sc : Nat) (s : List Int) (w : World) (hS : Ints w SA s) (hsn : s.length = sn) (hs9 : sn ≤ 9223372036854775807) :
    Calls Try.prog 24 #[n.val NA nc XA xc, .slice SA sn sc] w (BoolBw w (n.state s)) := by
  obtain ⟨d0, d1, d2, d3, c0, c1, c2, c3, st, out, ns, nx⟩ := n
  show Calls Try.prog 24 #[netV d0 d1 d2 d3 c0 c1 c2 c3 st NA ns.length nc XA nx.length xc out, .slice SA sn sc] w (BoolBw w ((((s.length : Int) == st) && s.all fun v => fitsW d0 d1 d2 d3 v)))
  obtain ⟨xn, hxn⟩ : ∃ n, nx.length = n := ⟨_, rfl⟩
  obtain ⟨nn, hnn⟩ : ∃ n, ns.length = n := ⟨_, rfl⟩
  obtain ⟨P, HP0, PN0⟩ : ∃ P : World → Prop, P (w.alloc (.cells #[.int .i64 d0, .int .i64 d1, .int .i64 d2, .int .i64 d3, .int .i64 c0, .int .i64 c1, .int .i64 c2, .int .i64 c3, .int .i64 st, .slice NA nn nc, .slice XA xn xc, .int .i64 out] 31)) ∧ NetQ w P d0 d1 d2 d3 c0 c1 c2 c3 st NA [] nn nc XA [] xn xc out := netQ_mk w d0 d1 d2 d3 c0 c1 c2 c3 st NA [] nn nc XA [] xn xc out NodesAt.nil Ints.nil
  unfold netV
  rw [hnn, hxn]
  have HP := Lib.hid HP0
  have PN := Lib.hid PN0
  have HS := Lib.hid hS
  have HSN := Lib.hid hsn
  have FT : Hid (∀ v b w, fitsW d0 d1 d2 d3 v = b → Calls Try.prog 39 #[wordV d0 d1 d2 d3, .int .i64 v] w fun e w' => e = .returned (.bool b) ∧ Below w.heap.size w w') := fun v b w h => by have := fx_Fits d0 d1 d2 d3 v w; rw [h] at this; exact this
  clear HP0 PN0 hnn hxn hS
  by_cases hst : (sn : Int) = st
  · subst hst
    have e1 : (((s.length : Int) == (sn : Int)) && s.all fun v => fitsW d0 d1 d2 d3 v) = s.all fun v => fitsW d0 d1 d2 d3 v := by rw [hsn]; simp
    rw [e1]
    clear e1 hsn
    go_enter Try.func24, Try.ntmps24
    go_wp2_with fail
    go_loopw [14] (fun i wr => ∃ k : Nat, k ≤ sn ∧ i = .int .i64 k ∧ Hid (((s.take k).all fun v => fitsW d0 d1 d2 d3 v) = true) ∧ P wr) (fun i _ => sn - (intOf i).toNat)
    case atStart => exact ⟨0, Nat.zero_le _, rfl, rfl, HP.out⟩
    case round =>
      obtain ⟨k, hk, rfl, HA, hp⟩ := hrel
      obtain ⟨z1, z2, z3, z4⟩ := PN.out.dat _ hp
      have hlw := PN.out.lt _ hp
      by_cases hlt : k < sn
      · obtain ⟨ad, y, rfl, hba, hy, hcy, y1, y2⟩ := (HS.out.grow (PN.out.old _ hp)).at_ (k := k) (by rw [HSN.out]; exact hlt)
        have HT := Lib.hid (take_succ_all hy (fun v => fitsW d0 d1 d2 d3 v))
        have HNO := Lib.hid (fun h => all_no (p := fun v => fitsW d0 d1 d2 d3 v) hy h)
        obtain ⟨fu, hfu⟩ : ∃ b, fitsW d0 d1 d2 d3 y = b := ⟨_, rfl⟩
        have HF := Lib.hid hfu
        have HPP := Lib.hid hp
        have x1 : (0 : Int) ≤ (k : Int) := by omega
        have x2 : (k : Int) < (sn : Int) := by omega
        clear hy hfu hp
        rcases fu with _ | _
        · go_wp2_with (first | (go_at_call 39; with_reducible refine (FT.out _ _ _ HF.out).mono ?_; rintro e w1 ⟨rfl, hb1⟩))
          go_ret
          exact ⟨ret_bool (HNO.out HF.out).symm, PN.out.old _ (PN.out.go1 HPP.out hb1)⟩
        · go_wp2_with (first | (go_at_call 39; with_reducible refine (FT.out _ _ _ HF.out).mono ?_; rintro e w1 ⟨rfl, hb1⟩))
          go_roundw
          case rel => exact ⟨k + 1, by omega, by go_num, by show _ = _; rw [HT.out, HA.out, HF.out]; rfl, PN.out.go1 HPP.out hb1⟩
          case measure => simp [intOf]; omega
      · have hkk : k = sn := by omega
        subst hkk
        have HPP := Lib.hid hp
        clear hp
        go_wp2_with fail
        go_ret
        exact ⟨ret_bool (by have := HA.out; rw [← HSN.out, List.take_length] at this; exact this.symm), PN.out.old _ HPP.out⟩
  · have e1 : (((s.length : Int) == st) && s.all fun v => fitsW d0 d1 d2 d3 v) = false := by rw [hsn, show ((sn : Int) == st) = false by simpa using hst]; rfl
    rw [e1]
    clear e1 hsn
    go_enter Try.func24, Try.ntmps24
    go_wp2_with fail
    go_ret
    exact ⟨rfl, PN.out.old _ HP.out⟩
end Go.Proofs.Ytgabfdappeakiaa
end
section
/- Streams as plain data and in the heap; the walks of both Valid of streams. -/
set_option linter.unusedVariables false
set_option linter.unusedSimpArgs false
namespace Go.Proofs.Ytgabfdappeakiaa
open Go.RowKit

/-- A stream, plain. -/
structure StrD where
  (net old : NetD)
  (s f : List Int)
  (fade left ev : Int)
/-- When a stream is valid. -/
def StrD.Good (u : StrD) : Prop := u.net.ok = true ∧ u.net.state u.s = true ∧ (0 ≤ u.ev ∧ u.ev ≤ 1099511627776) ∧ (0 ≤ u.fade ∧ u.fade ≤ 4096) ∧ (0 ≤ u.left ∧ u.left ≤ u.fade) ∧
  ((u.left = 0 ∧ u.fade = 0 ∧ u.old.isZero = true ∧ u.f.length = 0) ∨ (u.left ≠ 0 ∧ u.old.ok = true ∧ u.old.same u.net = true ∧ u.old.state u.f = true))
instance (u : StrD) : Decidable u.Good := by unfold StrD.Good; infer_instance
/-- A stream with the places of its slices. -/
structure StrA where
  d : StrD
  (NA XA MA YA SA FA : Option Addr)
  (nc xc mc yc sc fc : Nat)
abbrev StrA.vals (u : StrA) : Array Value := #[.int .i64 u.d.net.d0, .int .i64 u.d.net.d1, .int .i64 u.d.net.d2, .int .i64 u.d.net.d3, .int .i64 u.d.net.c0, .int .i64 u.d.net.c1, .int .i64 u.d.net.c2, .int .i64 u.d.net.c3, .int .i64 u.d.net.st, .slice u.NA u.d.net.ns.length u.nc, .slice u.XA u.d.net.nx.length u.xc, .int .i64 u.d.net.out,
  .int .i64 u.d.old.d0, .int .i64 u.d.old.d1, .int .i64 u.d.old.d2, .int .i64 u.d.old.d3, .int .i64 u.d.old.c0, .int .i64 u.d.old.c1, .int .i64 u.d.old.c2, .int .i64 u.d.old.c3, .int .i64 u.d.old.st, .slice u.MA u.d.old.ns.length u.mc, .slice u.YA u.d.old.nx.length u.yc, .int .i64 u.d.old.out,
  .slice u.SA u.d.s.length u.sc, .slice u.FA u.d.f.length u.fc, .int .i64 u.d.fade, .int .i64 u.d.left, .int .i64 u.d.ev]
abbrev StrA.val (u : StrA) : Value := .agg u.vals
/-- What lies behind a network's slices. -/
structure NetAt (w : World) (n : NetD) (NA XA : Option Addr) : Prop where
  nodes : NodesAt w NA n.ns
  next : Ints w XA n.nx
  n1 : n.ns.length ≤ 9223372036854775807
  n2 : n.nx.length ≤ 9223372036854775807
  n3 : ∀ ts ∈ n.ns, ts.length ≤ 9223372036854775807
  st : I64 n.st
theorem NetAt.grow {w w' : World} {n : NetD} {NA XA : Option Addr} (h : NetAt w n NA XA) (hb : Below w.heap.size w w') : NetAt w' n NA XA := ⟨h.nodes.grow hb, h.next.grow hb, h.n1, h.n2, h.n3, h.st⟩
theorem NetAt.zero {w : World} {NA XA : Option Addr} : NetAt w NetD.zero NA XA := ⟨NodesAt.nil, Ints.nil, by decide, by decide, by simp [NetD.zero], by decide, by decide⟩
/-- What lies behind a stream's slices. -/
structure StrAt (w : World) (u : StrA) : Prop where
  net : NetAt w u.d.net u.NA u.XA
  old : NetAt w u.d.old u.MA u.YA
  s : Ints w u.SA u.d.s
  f : Ints w u.FA u.d.f
  n1 : u.d.s.length ≤ 9223372036854775807
  n2 : u.d.f.length ≤ 9223372036854775807
theorem StrAt.grow {w w' : World} {u : StrA} (h : StrAt w u) (hb : Below w.heap.size w w') : StrAt w' u := ⟨h.net.grow hb, h.old.grow hb, h.s.grow hb, h.f.grow hb, h.n1, h.n2⟩
/-- The block g holds the stream's cells. -/
def StrBox (w : World) (g : Nat) (u : StrA) : Prop := Box w g u.vals.toList
theorem StrBox.net {w : World} {g : Nat} {u : StrA} (h : StrBox w g u) : (w.cell? ⟨g, 0, none⟩ = some (.int .i64 u.d.net.d0) ∧ w.cell? ⟨g, 1, none⟩ = some (.int .i64 u.d.net.d1) ∧ w.cell? ⟨g, 2, none⟩ = some (.int .i64 u.d.net.d2) ∧ w.cell? ⟨g, 3, none⟩ = some (.int .i64 u.d.net.d3)) ∧
    (w.cell? ⟨g, 4, none⟩ = some (.int .i64 u.d.net.c0) ∧ w.cell? ⟨g, 5, none⟩ = some (.int .i64 u.d.net.c1) ∧ w.cell? ⟨g, 6, none⟩ = some (.int .i64 u.d.net.c2) ∧ w.cell? ⟨g, 7, none⟩ = some (.int .i64 u.d.net.c3)) ∧
    w.cell? ⟨g, 8, none⟩ = some (.int .i64 u.d.net.st) ∧ w.cell? ⟨g, 9, none⟩ = some (.slice u.NA u.d.net.ns.length u.nc) ∧ w.cell? ⟨g, 10, none⟩ = some (.slice u.XA u.d.net.nx.length u.xc) ∧ w.cell? ⟨g, 11, none⟩ = some (.int .i64 u.d.net.out) :=
  ⟨⟨h.2.1 0, h.2.1 1, h.2.1 2, h.2.1 3⟩, ⟨h.2.1 4, h.2.1 5, h.2.1 6, h.2.1 7⟩, h.2.1 8, h.2.1 9, h.2.1 10, h.2.1 11⟩
theorem StrBox.old {w : World} {g : Nat} {u : StrA} (h : StrBox w g u) : (w.cell? ⟨g, 12, none⟩ = some (.int .i64 u.d.old.d0) ∧ w.cell? ⟨g, 13, none⟩ = some (.int .i64 u.d.old.d1) ∧ w.cell? ⟨g, 14, none⟩ = some (.int .i64 u.d.old.d2) ∧ w.cell? ⟨g, 15, none⟩ = some (.int .i64 u.d.old.d3)) ∧
    (w.cell? ⟨g, 16, none⟩ = some (.int .i64 u.d.old.c0) ∧ w.cell? ⟨g, 17, none⟩ = some (.int .i64 u.d.old.c1) ∧ w.cell? ⟨g, 18, none⟩ = some (.int .i64 u.d.old.c2) ∧ w.cell? ⟨g, 19, none⟩ = some (.int .i64 u.d.old.c3)) ∧
    w.cell? ⟨g, 20, none⟩ = some (.int .i64 u.d.old.st) ∧ w.cell? ⟨g, 21, none⟩ = some (.slice u.MA u.d.old.ns.length u.mc) ∧ w.cell? ⟨g, 22, none⟩ = some (.slice u.YA u.d.old.nx.length u.yc) ∧ w.cell? ⟨g, 23, none⟩ = some (.int .i64 u.d.old.out) :=
  ⟨⟨h.2.1 12, h.2.1 13, h.2.1 14, h.2.1 15⟩, ⟨h.2.1 16, h.2.1 17, h.2.1 18, h.2.1 19⟩, h.2.1 20, h.2.1 21, h.2.1 22, h.2.1 23⟩
theorem StrBox.rest {w : World} {g : Nat} {u : StrA} (h : StrBox w g u) : w.cell? ⟨g, 24, none⟩ = some (.slice u.SA u.d.s.length u.sc) ∧ w.cell? ⟨g, 25, none⟩ = some (.slice u.FA u.d.f.length u.fc) ∧ w.cell? ⟨g, 26, none⟩ = some (.int .i64 u.d.fade) ∧ w.cell? ⟨g, 27, none⟩ = some (.int .i64 u.d.left) ∧ w.cell? ⟨g, 28, none⟩ = some (.int .i64 u.d.ev) :=
  ⟨h.2.1 24, h.2.1 25, h.2.1 26, h.2.1 27, h.2.1 28⟩
theorem StrBox.mk (w : World) (u : StrA) : StrBox (w.alloc (.cells u.vals 39)) w.heap.size u := Box.new rfl
theorem StrBox.keep {w w' : World} {g : Nat} {u : StrA} (h : StrBox w g u) (hb : Below w.heap.size w w') : StrBox w' g u := Box.keep h hb
set_option maxRecDepth 100000 in
set_option maxHeartbeats 4000000 in
theorem st_Valid (u : StrA) (w : World) (hu : StrAt w u) : Calls Try.prog 11 #[u.val] w (BoolBw w (decide u.d.Good)) := by
  have HU := Lib.hid hu
  have hbx := StrBox.mk w u
  have HBX := Lib.hid hbx
  have hal := (Below.refl w.heap.size w).alloc (Nat.le_refl _) (.cells u.vals 39)
  have HAL := Lib.hid hal
  obtain ⟨vb, hvb⟩ : ∃ b, u.d.net.ok = b := ⟨_, rfl⟩
  obtain ⟨sb, hsb⟩ : ∃ b, u.d.net.state u.d.s = b := ⟨_, rfl⟩
  obtain ⟨ob, hob⟩ : ∃ b, u.d.old.ok = b := ⟨_, rfl⟩
  obtain ⟨fb, hfb⟩ : ∃ b, u.d.old.state u.d.f = b := ⟨_, rfl⟩
  obtain ⟨zb, hzb⟩ : ∃ b, u.d.old.isZero = b := ⟨_, rfl⟩
  have CV : Hid (∀ w1, Below w.heap.size w w1 → Calls Try.prog 23 #[u.d.net.val u.NA u.nc u.XA u.xc] w1 fun e w' => e = .returned (.bool vb) ∧ Below w1.heap.size w1 w') := fun w1 hb => by
    have h := hu.net.grow hb
    have := nw_Valid u.d.net.d0 u.d.net.d1 u.d.net.d2 u.d.net.d3 u.d.net.c0 u.d.net.c1 u.d.net.c2 u.d.net.c3 u.d.net.st u.d.net.out u.NA u.XA u.nc u.xc u.d.net.ns u.d.net.nx w1 h.nodes h.next h.n1 h.n2 h.n3 h.st
    rw [show netB _ _ _ _ _ _ _ _ _ _ _ _ = vb from hvb] at this; exact this
  have CO : Hid (∀ w1, Below w.heap.size w w1 → Calls Try.prog 23 #[u.d.old.val u.MA u.mc u.YA u.yc] w1 fun e w' => e = .returned (.bool ob) ∧ Below w1.heap.size w1 w') := fun w1 hb => by
    have h := hu.old.grow hb
    have := nw_Valid u.d.old.d0 u.d.old.d1 u.d.old.d2 u.d.old.d3 u.d.old.c0 u.d.old.c1 u.d.old.c2 u.d.old.c3 u.d.old.st u.d.old.out u.MA u.YA u.mc u.yc u.d.old.ns u.d.old.nx w1 h.nodes h.next h.n1 h.n2 h.n3 h.st
    rw [show netB _ _ _ _ _ _ _ _ _ _ _ _ = ob from hob] at this; exact this
  have CS : Hid (∀ w1, Below w.heap.size w w1 → Calls Try.prog 24 #[u.d.net.val u.NA u.nc u.XA u.xc, .slice u.SA u.d.s.length u.sc] w1 fun e w' => e = .returned (.bool sb) ∧ Below w1.heap.size w1 w') := fun w1 hb => by
    have := st_isState u.d.net u.NA u.XA u.SA u.nc u.xc _ u.sc u.d.s w1 (hu.s.grow hb) rfl hu.n1
    rw [hsb] at this; exact this
  have CF : Hid (∀ w1 a0 a1 a2 a3, Below w.heap.size w w1 → u.d.old.d0 = a0 → u.d.old.d1 = a1 → u.d.old.d2 = a2 → u.d.old.d3 = a3 → Calls Try.prog 24 #[.agg #[.int .i64 a0, .int .i64 a1, .int .i64 a2, .int .i64 a3, .int .i64 u.d.old.c0, .int .i64 u.d.old.c1, .int .i64 u.d.old.c2, .int .i64 u.d.old.c3, .int .i64 u.d.old.st, .slice u.MA u.d.old.ns.length u.mc, .slice u.YA u.d.old.nx.length u.yc, .int .i64 u.d.old.out], .slice u.FA u.d.f.length u.fc] w1 fun e w' => e = .returned (.bool fb) ∧ Below w1.heap.size w1 w') := fun w1 a0 a1 a2 a3 hb e0 e1 e2 e3 => by
    subst e0 e1 e2 e3
    have := st_isState u.d.old u.MA u.YA u.FA u.mc u.yc _ u.fc u.d.f w1 (hu.f.grow hb) rfl hu.n2
    rw [hfb] at this; exact this
  have CZ : Hid (∀ w1, Calls Try.prog 25 #[u.d.old.val u.MA u.mc u.YA u.yc] w1 fun e w' => e = .returned (.bool zb) ∧ Below w1.heap.size w1 w') := fun w1 => by
    have := st_zeroNet u.d.old.d0 u.d.old.d1 u.d.old.d2 u.d.old.d3 u.d.old.c0 u.d.old.c1 u.d.old.c2 u.d.old.c3 u.d.old.st u.d.old.out u.MA u.YA u.d.old.ns.length u.mc u.d.old.nx.length u.yc w1
    rw [show decide _ = zb from hzb] at this; exact this
  have HVB := Lib.hid hvb
  have HSB := Lib.hid hsb
  have HOB := Lib.hid hob
  have HFB := Lib.hid hfb
  have HZB := Lib.hid hzb
  clear hu hvb hsb hob hfb hzb hbx hal
  unfold NetD.val netV at CV CO CS CZ
  unfold StrA.val StrA.vals at *
  rcases vb with _ | _
  · go_enter Try.func11, Try.ntmps11
    go_wp2_with (first
      | (go_at_call 23; with_reducible refine (CV.out _ HAL.out).mono ?_; rintro e w1 ⟨rfl, hb1⟩))
    go_ret
    exact ⟨ret_bool (decide_eq_false (fun h => by have := h.1; rw [HVB.out] at this; cases this)).symm, below_then HAL.out hb1⟩
  rcases sb with _ | _
  · go_enter Try.func11, Try.ntmps11
    go_wp2_with (first
      | (go_at_call 23; with_reducible refine (CV.out _ HAL.out).mono ?_; rintro e w1 ⟨rfl, hb1⟩; have hw1 := below_then HAL.out hb1; have bx1 := HBX.out.keep hb1; obtain ⟨⟨a1, a2, a3, a4⟩, ⟨a5, a6, a7, a8⟩, a9, a10, a11, a12⟩ := bx1.net; obtain ⟨r1, r2, r3, r4, r5⟩ := bx1.rest)
      | (go_at_call 24; with_reducible refine (CS.out _ hw1).mono ?_; rintro e w2 ⟨rfl, hb2⟩))
    go_ret
    exact ⟨ret_bool (decide_eq_false (fun h => by have := h.2.1; rw [HSB.out] at this; cases this)).symm, below_then hw1 hb2⟩
  have hcase : ((u.d.left == 0) = true ∧ u.d.left = 0) ∨ ((u.d.left == 0) = false ∧ u.d.left ≠ 0) := by
    by_cases h : u.d.left = 0
    · left; exact ⟨by rw [h]; rfl, h⟩
    · right; exact ⟨by simpa using h, h⟩
  have HC := Lib.hid hcase
  clear hcase
  have HA1 : Hid ((((u.d.f.length : Int) == 0) = true) ↔ u.d.f.length = 0) := by show _ ↔ _; rw [beq_iff_eq]; omega
  go_enter Try.func11, Try.ntmps11
  go_wp2_with (first
      | (go_at_call 23; with_reducible refine (CV.out _ HAL.out).mono ?_; rintro e w1 ⟨rfl, hb1⟩; have hw1 := below_then HAL.out hb1; have bx1 := HBX.out.keep hb1; obtain ⟨⟨a1, a2, a3, a4⟩, ⟨a5, a6, a7, a8⟩, a9, a10, a11, a12⟩ := bx1.net; obtain ⟨r1, r2, r3, r4, r5⟩ := bx1.rest)
      | (go_at_call 24; with_reducible refine (CS.out _ hw1).mono ?_; rintro e w2 ⟨rfl, hb2⟩; have hw2 := below_then hw1 hb2; have bx2 := bx1.keep hb2; obtain ⟨⟨a1, a2, a3, a4⟩, ⟨a5, a6, a7, a8⟩, a9, a10, a11, a12⟩ := bx2.net; obtain ⟨r1, r2, r3, r4, r5⟩ := bx2.rest; obtain ⟨⟨o1, o2, o3, o4⟩, ⟨o5, o6, o7, o8⟩, o9, o10, o11, o12⟩ := bx2.old)
      | (go_at_call 25; with_reducible refine (CZ.out _).mono ?_; rintro e w3 ⟨rfl, hb3⟩; have hw3 := below_then hw2 hb3; have bx3 := bx2.keep hb3; obtain ⟨r1, r2, r3, r4, r5⟩ := bx3.rest)
      | (go_at_call 23; with_reducible refine (CO.out _ hw2).mono ?_; rintro e w3 ⟨rfl, hb3⟩; have hw3 := below_then hw2 hb3; have bx3 := bx2.keep hb3; obtain ⟨r1, r2, r3, r4, r5⟩ := bx3.rest; obtain ⟨⟨a1, a2, a3, a4⟩, ⟨a5, a6, a7, a8⟩, a9, a10, a11, a12⟩ := bx3.net; obtain ⟨⟨o1, o2, o3, o4⟩, ⟨o5, o6, o7, o8⟩, o9, o10, o11, o12⟩ := bx3.old)
      | (go_at_call 24; with_reducible refine (CF.out _ _ _ _ _ hw3 (by first | rfl | assumption) (by first | rfl | assumption) (by first | rfl | assumption) (by first | rfl | assumption)).mono ?_; rintro e w4 ⟨rfl, hb4⟩; have hw4 := below_then hw3 hb4))
  all_goals
    go_ret
    refine ⟨ret_bool (bool_dec ?_), by first | exact hw4 | exact hw3 | exact hw2⟩
    have q1 := HVB.out
    have q2 := HSB.out
    have q3 := HOB.out
    have q4 := HFB.out
    have q5 := HZB.out
    unfold StrD.Good NetD.same
    simp only [q1, q2, q3, q4, q5, beq_iff_eq, decide_eq_true_eq, Bool.false_eq_true, true_and, false_and, and_false, and_true, or_false, false_or, iff_true, iff_false, true_iff, false_iff, not_false_eq_true]
    cases zb <;> cases ob <;> cases fb <;> first | contradiction | skip
    all_goals simp only [Bool.false_eq_true, true_and, false_and, and_false, and_true, or_false, false_or, not_false_eq_true, iff_true, iff_false, true_iff, false_iff]
    all_goals (have hc := HC.out; rcases hc with ⟨c1, c2⟩ | ⟨c1, c2⟩ <;> first | omega | (exfalso; simp_all; done) | trace_state)
end Go.Proofs.Ytgabfdappeakiaa
end
section
/- The walks of slices.Clone (numbers, terms) and cloneNet of package stream. -/
set_option linter.unusedVariables false
set_option linter.unusedSimpArgs false
namespace Go.Proofs.Ytgabfdappeakiaa
open Go.RowKit

theorem ints_none {w : World} {l : List Int} (h : Ints w none l) : l = [] := by
  cases l with
  | nil => rfl
  | cons x t => obtain ⟨ad, _, e, _⟩ := h.at_ (k := 0) (by simp); cases e
theorem terms_none {w : World} {l : List (Int × Int)} (h : TermsAt w none l) : l = [] := by
  cases l with
  | nil => rfl
  | cons x t => obtain ⟨ad, e, _⟩ := h 0 x (by simp); cases e
/-- Numbers that lie in blocks from b on. -/
def IntsF (b : Nat) (w : World) (A : Option Addr) (l : List Int) : Prop := Ints w A l ∧ (l ≠ [] → ∀ a, A = some a → b ≤ a.block)
theorem IntsF.nil {b : Nat} {w : World} {A : Option Addr} : IntsF b w A [] := ⟨Ints.nil, fun h => absurd rfl h⟩
theorem IntsF.base {b b' : Nat} {w : World} {A : Option Addr} {l : List Int} (h : IntsF b w A l) (hb : b' ≤ b) : IntsF b' w A l := ⟨h.1, fun hl a ha => Nat.le_trans hb (h.2 hl a ha)⟩
theorem IntsF.grow {b : Nat} {w w' : World} {A : Option Addr} {l : List Int} (h : IntsF b w A l) (hb : Below w.heap.size w w') : IntsF b w' A l := ⟨h.1.grow hb, h.2⟩
theorem IntsF.away {b q : Nat} {w w' : World} {A : Option Addr} {l : List Int} (h : IntsF b w A l) (hg : w.grownBy w' (some q)) (hq : q < b) : IntsF b w' A l := by
  refine ⟨⟨fun k v hk => ?_, h.1.2⟩, h.2⟩
  obtain ⟨ad, e, hb, hc⟩ := h.1.1 k v hk
  have hl : l ≠ [] := by rintro rfl; simp at hk
  have := h.2 hl ad e
  exact ⟨ad, e, Nat.lt_of_lt_of_le hb hg.size, hg.cell hc (by rw [block_add]; intro e'; injection e' with e'; omega)⟩
theorem IntsF.own {b n c : Nat} {w : World} {A : Option Addr} {l : List Int} (h : Own b w (.slice A n c) l) : IntsF b w A l := ⟨h.ints, fun _ a ha => by subst ha; exact (h.1.lt a.block rfl).1⟩
/-- Nodes that lie in blocks from b on. -/
def NodesF (b : Nat) (w : World) (A : Option Addr) (ns : List (List (Int × Int))) : Prop :=
  ∀ (k : Nat) ts, ns[k]? = some ts → ∃ ad B c, A = some ad ∧ b ≤ ad.block ∧ ad.block < w.heap.size ∧ w.cell? (ad.add k) = some (.slice B ts.length c) ∧ TermsAt w B ts ∧ (ts ≠ [] → ∀ a, B = some a → b ≤ a.block)
theorem NodesF.at {b : Nat} {w : World} {A : Option Addr} {ns : List (List (Int × Int))} (h : NodesF b w A ns) : NodesAt w A ns := fun k ts hk => by
  obtain ⟨ad, B, c, e, _, h1, h2, h3, _⟩ := h k ts hk
  exact ⟨ad, B, c, e, h1, h2, h3⟩
theorem NodesF.nil {b : Nat} {w : World} {A : Option Addr} : NodesF b w A [] := fun k t h => by simp at h
theorem NodesF.base {b b' : Nat} {w : World} {A : Option Addr} {ns : List (List (Int × Int))} (h : NodesF b w A ns) (hb : b' ≤ b) : NodesF b' w A ns := fun k ts hk => by
  obtain ⟨ad, B, c, e, h0, h1, h2, h3, h4⟩ := h k ts hk
  exact ⟨ad, B, c, e, by omega, h1, h2, h3, fun hl a ha => Nat.le_trans hb (h4 hl a ha)⟩
theorem NodesF.grow {b : Nat} {w w' : World} {A : Option Addr} {ns : List (List (Int × Int))} (h : NodesF b w A ns) (hb : Below w.heap.size w w') : NodesF b w' A ns := fun k ts hk => by
  obtain ⟨ad, B, c, e, h0, h1, h2, h3, h4⟩ := h k ts hk
  exact ⟨ad, B, c, e, h0, Nat.lt_of_lt_of_le h1 hb.size, (hb.cell (by rw [block_add]; exact h1)).trans h2, h3.grow hb, h4⟩
theorem NodesF.away {b q : Nat} {w w' : World} {A : Option Addr} {ns : List (List (Int × Int))} (h : NodesF b w A ns) (hg : w.grownBy w' (some q)) (hq : q < b) : NodesF b w' A ns := fun k ts hk => by
  obtain ⟨ad, B, c, e, h0, h1, h2, h3, h4⟩ := h k ts hk
  exact ⟨ad, B, c, e, h0, Nat.lt_of_lt_of_le h1 hg.size, hg.cell h2 (by rw [block_add]; intro e'; injection e' with e'; omega), h3.kept hg (fun hl a ha e' => by injection e' with e'; have := h4 hl a ha; omega), h4⟩
/-- What lies behind a network's slices, in blocks from b on. -/
structure NetF (b : Nat) (w : World) (n : NetD) (NA XA : Option Addr) : Prop where
  nodes : NodesF b w NA n.ns
  next : IntsF b w XA n.nx
  n1 : n.ns.length ≤ 9223372036854775807
  n2 : n.nx.length ≤ 9223372036854775807
  n3 : ∀ ts ∈ n.ns, ts.length ≤ 9223372036854775807
  st : I64 n.st
theorem NetF.at {b : Nat} {w : World} {n : NetD} {NA XA : Option Addr} (h : NetF b w n NA XA) : NetAt w n NA XA := ⟨h.nodes.at, h.next.1, h.n1, h.n2, h.n3, h.st⟩
theorem NetF.base {b b' : Nat} {w : World} {n : NetD} {NA XA : Option Addr} (h : NetF b w n NA XA) (hb : b' ≤ b) : NetF b' w n NA XA := ⟨h.nodes.base hb, h.next.base hb, h.n1, h.n2, h.n3, h.st⟩
theorem NetF.grow {b : Nat} {w w' : World} {n : NetD} {NA XA : Option Addr} (h : NetF b w n NA XA) (hb : Below w.heap.size w w') : NetF b w' n NA XA := ⟨h.nodes.grow hb, h.next.grow hb, h.n1, h.n2, h.n3, h.st⟩
theorem NetF.away {b q : Nat} {w w' : World} {n : NetD} {NA XA : Option Addr} (h : NetF b w n NA XA) (hg : w.grownBy w' (some q)) (hq : q < b) : NetF b w' n NA XA := ⟨h.nodes.away hg hq, h.next.away hg hq, h.n1, h.n2, h.n3, h.st⟩
theorem NetF.zero {b : Nat} {w : World} {NA XA : Option Addr} : NetF b w NetD.zero NA XA := ⟨NodesF.nil, IntsF.nil, by decide, by decide, by simp [NetD.zero], by decide, by decide⟩
theorem NetF.of {w : World} {n : NetD} {NA XA : Option Addr} (h : NetAt w n NA XA) : NetF 0 w n NA XA :=
  ⟨fun k ts hk => by obtain ⟨ad, B, c, e, h1, h2, h3⟩ := h.nodes k ts hk; exact ⟨ad, B, c, e, Nat.zero_le _, h1, h2, h3, fun _ _ _ => Nat.zero_le _⟩, ⟨h.next, fun _ _ _ => Nat.zero_le _⟩, h.n1, h.n2, h.n3, h.st⟩
theorem sl_CloneI (A : Option Addr) (n c : Nat) (l : List Int) (w : World) (h : Ints w A l) (hn : l.length = n) (h9 : n ≤ 1000000) : Calls Try.prog 40 #[.slice A n c] w (RetInts1 w l) := by
  have q22 : ∀ (w : World) (a : Option Addr) (n c n' c' : Nat), (binOp .eql 23 (.slice a n c) (.slice none n' c')).run Try.prog w = .ok (.bool a.isNone) w := fun w a n c n' c' => Lib.run_eql_slice_nil w _ _ a n c n' c' Try.underlying23
  cases A with
  | none =>
    have hl := ints_none h
    subst hl
    go_enter Try.func40, Try.ntmps40
    go_wp2_with fail
    go_ret
    exact ⟨_, rfl, Own.nil, Below.refl _ _⟩
  | some ad =>
    have he : Own w.heap.size (w.alloc (.cells #[] 3)) (.slice (some ⟨w.heap.size, 0, none⟩) 0 0) [] := emp1
    have hb := (Below.refl w.heap.size w).alloc (Nat.le_refl _) (.cells #[] 3)
    have hi := h.grow hb
    have hs : w.heap.size ≤ (w.alloc (.cells #[] 3)).heap.size := hb.size
    have HB := Lib.hid hb
    clear hb h
    go_enter Try.func40, Try.ntmps40
    go_wp2_with (at_builtin; refine app_intsN _ rfl _ _ rfl w.heap.size (m := l) rfl rfl hn he hi (by simp; omega) hs ?_; intro v1 w1 ho1 hb1)
    go_ret
    exact ⟨_, rfl, ho1, HB.out.trans hb1⟩
def RetTerms1 (w : World) (l : List (Int × Int)) (e : Ending) (w' : World) : Prop := ∃ v, e = .returned v ∧ OwnTm w.heap.size w' v l ∧ Below w.heap.size w w'
theorem sl_CloneT (A : Option Addr) (n c : Nat) (l : List (Int × Int)) (w : World) (h : TermsAt w A l) (hn : l.length = n) (h9 : n ≤ 1000000) : Calls Try.prog 41 #[.slice A n c] w (RetTerms1 w l) := by
  have q22 : ∀ (w : World) (a : Option Addr) (n c n' c' : Nat), (binOp .eql 56 (.slice a n c) (.slice none n' c')).run Try.prog w = .ok (.bool a.isNone) w := fun w a n c n' c' => Lib.run_eql_slice_nil w _ _ a n c n' c' Try.underlying56
  cases A with
  | none =>
    have hl := terms_none h
    subst hl
    go_enter Try.func41, Try.ntmps41
    go_wp2_with fail
    go_ret
    exact ⟨_, rfl, OwnTm.nil, Below.refl _ _⟩
  | some ad =>
    have he : OwnTm w.heap.size (w.alloc (.cells #[] 63)) (.slice (some ⟨w.heap.size, 0, none⟩) 0 0) [] := ⟨World.ownsRow_made w #[] 0 (Nat.le_refl _) (Nat.zero_le _) (by simp), by simp⟩
    have hb := (Below.refl w.heap.size w).alloc (Nat.le_refl _) (.cells #[] 63)
    have hi := h.grow hb
    have hs : w.heap.size ≤ (w.alloc (.cells #[] 63)).heap.size := hb.size
    have HB := Lib.hid hb
    have HE := Lib.hid (fun (k : Nat) (hk : (Value.slice (some ⟨w.heap.size, 0, none⟩) 0 0).ownBlock = some k) => (he.1.lt k hk).1)
    clear hb h
    go_enter Try.func41, Try.ntmps41
    go_wp2_with (at_builtin; refine app_terms _ rfl _ _ rfl w.heap.size rfl rfl he hi hn (by simp; omega) hs ?_; intro v1 w1 ho1 hb1 _)
    go_ret
    exact ⟨_, rfl, ho1, HB.out.trans (own_below (Below.refl _ _) hs HE.out hb1)⟩
/-- The block is of none of these types. -/
def OthX (ex : List TypeId) (w : World) (a : Nat) : Prop := ∃ cur t, w.heap[a]? = some (.cells cur t (0, 0)) ∧ t ∉ ex
/-- The block holds no stream and no row of integers. -/
abbrev Oth (w : World) (a : Nat) : Prop := OthX [39, 3] w a
theorem OthX.lt {ex : List TypeId} {w : World} {a : Nat} (h : OthX ex w a) : a < w.heap.size := by
  obtain ⟨cur, t, h, _⟩ := h
  exact (Array.getElem?_eq_some_iff.1 h).1
theorem OthX.keep {ex : List TypeId} {w w' : World} {a : Nat} (h : OthX ex w a) (hb : Below w.heap.size w w') : OthX ex w' a := by
  have hl := h.lt
  obtain ⟨cur, t, h, ht⟩ := h
  exact ⟨cur, t, (hb.block a hl).trans h, ht⟩
theorem OthX.away {ex : List TypeId} {w w' : World} {a q : Nat} (h : OthX ex w a) (hg : w.grownBy w' (some q)) (hq : a ≠ q) : OthX ex w' a := by
  have hl := h.lt
  obtain ⟨cur, t, h, ht⟩ := h
  exact ⟨cur, t, (hg.block a hl (by intro e; injection e with e; exact hq e)).trans h, ht⟩
theorem OthX.own {ex : List TypeId} {w : World} {base g n c m size : Nat} {e : TypeId} {xs : List Value} (h : w.ownsRow base e size (.slice (some ⟨g, 0, none⟩) n c) m xs) (he : e ∉ ex) : OthX ex w g := by
  obtain ⟨_, ⟨e', _⟩ | ⟨g', cap, cur, e', _, hg, _⟩⟩ := h
  · cases e'
  · injection e' with e1
    injection e1 with e1
    injection e1 with e1
    subst e1
    exact ⟨cur, e, hg, he⟩
/-- The first k nodes have been laid into the row of block g. -/
def MidNd (w : World) (g nn : Nat) (ns : List (List (Int × Int))) (k : Nat) : Prop :=
  ∃ cs : List Value, w.ownsRow g 58 1 (.slice (some ⟨g, 0, none⟩) nn nn) nn cs ∧ ∀ (j : Nat) l, j < k → ns[j]? = some l → ∃ C c, cs[j]? = some (.slice C l.length c) ∧ TermsAt w C l ∧ (l ≠ [] → ∀ a, C = some a → g < a.block ∧ Oth w a.block)
theorem MidNd.grow {w w' : World} {g nn k : Nat} {ns : List (List (Int × Int))} (h : MidNd w g nn ns k) (hb : Below w.heap.size w w') : MidNd w' g nn ns k := by
  obtain ⟨cs, h1, h2⟩ := h
  refine ⟨cs, own_grow h1 hb, fun j s hj hk => ?_⟩
  obtain ⟨C, c, c0, hi, hn⟩ := h2 j s hj hk
  exact ⟨C, c, c0, hi.grow hb, fun hl a ha => ⟨(hn hl a ha).1, (hn hl a ha).2.keep hb⟩⟩
theorem MidNd.other {w : World} {g nn k q : Nat} {o : Nat} {u : Value} {ns : List (List (Int × Int))} (h : MidNd w g nn ns k) (hq : q < g) : MidNd (w.setCell ⟨q, o, none⟩ u) g nn ns k := by
  obtain ⟨cs, h1, h2⟩ := h
  refine ⟨cs, own_store h1 hq, fun j s hj hk => ?_⟩
  obtain ⟨C, c, c0, hi, hn⟩ := h2 j s hj hk
  exact ⟨C, c, c0, hi.kept (grown_set (grown_refl w (some q))) (fun hl a ha e => by injection e with e; have := (hn hl a ha).1; omega), fun hl a ha => ⟨(hn hl a ha).1, (hn hl a ha).2.away (grown_set (grown_refl w (some q))) (by have := (hn hl a ha).1; omega)⟩⟩
theorem MidNd.away {w w' : World} {g nn k q : Nat} {ns : List (List (Int × Int))} (h : MidNd w g nn ns k) (hg : w.grownBy w' (some q)) (hq : q < g) : MidNd w' g nn ns k := by
  obtain ⟨cs, h1, h2⟩ := h
  refine ⟨cs, h1.kept hg (.inr (fun e => by have := (h1.lt _ e).1; omega)), fun j s hj hk => ?_⟩
  obtain ⟨C, c, c0, hi, hn⟩ := h2 j s hj hk
  exact ⟨C, c, c0, hi.kept hg (fun hl a ha e => by injection e with e; have := (hn hl a ha).1; omega), fun hl a ha => ⟨(hn hl a ha).1, (hn hl a ha).2.away hg (by have := (hn hl a ha).1; omega)⟩⟩
theorem own_oth {base n c : Nat} {w : World} {a : Addr} {l : List Int} (h : Own base w (.slice (some a) n c) l) : OthX [39] w a.block := by
  obtain ⟨_, ⟨e1, _⟩ | ⟨g', cap, cur, e1, _, hg, _⟩⟩ := h.1
  · cases e1
  · injection e1 with e1
    injection e1 with e1
    subst e1
    exact ⟨cur, _, hg, by decide⟩
theorem own_away {base q : Nat} {w w' : World} {v : Value} {l : List Int} (h : Own base w v l) (hg : w.grownBy w' (some q)) (hq : q < base) : Own base w' v l := ⟨h.1.kept hg (.inr (fun e => by have := (h.1.lt _ e).1; omega)), h.2⟩
theorem MidNd.set {w : World} {g nn k : Nat} {ns : List (List (Int × Int))} (h : MidNd w g nn ns k) (hk : k < nn) {l : List (Int × Int)} (hl : ns[k]? = some l) {C : Option Addr} {c : Nat} (hT : TermsAt w C l) (hC : l ≠ [] → ∀ a, C = some a → g < a.block ∧ Oth w a.block) :
    MidNd (w.setCell ⟨g, k, none⟩ (.slice C l.length c)) g nn ns (k + 1) := by
  obtain ⟨cs, h1, h2⟩ := h
  have hlen : cs.length = nn * 1 := h1.1
  refine ⟨cs.set k (.slice C l.length c), (h1.stored k _).1, fun j s hj hs => ?_⟩
  have hg := grown_set (k := k) (u := .slice C l.length c) (grown_refl w (some g))
  rcases Nat.lt_or_ge j k with hjk | hjk
  · obtain ⟨C', c', c0, hi, hn⟩ := h2 j s hjk hs
    exact ⟨C', c', by rw [List.getElem?_set_ne (by omega)]; exact c0, hi.kept hg (fun hl a ha e => by injection e with e; have := (hn hl a ha).1; omega), fun hl a ha => ⟨(hn hl a ha).1, (hn hl a ha).2.away hg (by have := (hn hl a ha).1; omega)⟩⟩
  · obtain rfl : j = k := by omega
    rw [hl] at hs
    injection hs with hs
    subst hs
    exact ⟨C, c, by rw [List.getElem?_set_self (by omega)], hT.kept hg (fun hl a ha e => by injection e with e; have := (hC hl a ha).1; omega), fun hl a ha => ⟨(hC hl a ha).1, (hC hl a ha).2.away hg (by have := (hC hl a ha).1; omega)⟩⟩
theorem MidNd.nodesF {w : World} {g nn : Nat} {ns : List (List (Int × Int))} (h : MidNd w g nn ns nn) (hl : ns.length = nn) : NodesF g w (some ⟨g, 0, none⟩) ns := fun k l hk => by
  obtain ⟨cs, h1, h2⟩ := h
  obtain ⟨C, c, c0, hi, hc⟩ := h2 k l (by have := (List.getElem?_eq_some_iff.1 hk).1; omega) hk
  obtain ⟨g', e0, hg, d0⟩ := own_cells h1 c0
  injection e0 with e0
  injection e0 with e0
  subst e0
  exact ⟨_, C, c, rfl, Nat.le_refl _, hg, by rw [add_cellsB]; exact d0, hi, fun hl a ha => Nat.le_of_lt (hc hl a ha).1⟩
/-- The nodes' blocks hold no stream. -/
def NodesT (w : World) (A : Option Addr) (ns : List (List (Int × Int))) : Prop :=
  ∀ (k : Nat) ts, ns[k]? = some ts → ∃ ad B c, A = some ad ∧ Oth w ad.block ∧ w.cell? (ad.add k) = some (.slice B ts.length c) ∧ (ts ≠ [] → ∀ a, B = some a → Oth w a.block)
theorem MidNd.nodesT {w : World} {g nn : Nat} {ns : List (List (Int × Int))} (h : MidNd w g nn ns nn) (hl : ns.length = nn) (he : 58 ∉ [39, 3]) : NodesT w (some ⟨g, 0, none⟩) ns := fun k l hk => by
  obtain ⟨cs, h1, h2⟩ := h
  obtain ⟨C, c, c0, hi, hc⟩ := h2 k l (by have := (List.getElem?_eq_some_iff.1 hk).1; omega) hk
  obtain ⟨g', e0, hg, d0⟩ := own_cells h1 c0
  injection e0 with e0
  injection e0 with e0
  subst e0
  exact ⟨_, C, c, rfl, OthX.own h1 he, by rw [add_cellsB]; exact d0, fun hl a ha => (hc hl a ha).2⟩
/-- A network's blocks hold no stream. -/
def NetT (w : World) (n : NetD) (NA XA : Option Addr) : Prop := NodesT w NA n.ns ∧ (n.nx ≠ [] → ∀ a, XA = some a → OthX [39] w a.block)
theorem NetT.keep {w w' : World} {n : NetD} {NA XA : Option Addr} (h : NetT w n NA XA) (hb : Below w.heap.size w w') : NetT w' n NA XA := by
  refine ⟨fun k ts hk => ?_, fun hl a ha => (h.2 hl a ha).keep hb⟩
  obtain ⟨ad, B, c, e, h1, h2, h3⟩ := h.1 k ts hk
  exact ⟨ad, B, c, e, h1.keep hb, (hb.cell (by rw [block_add]; exact h1.lt)).trans h2, fun hl a ha => (h3 hl a ha).keep hb⟩
theorem OthX.ne {ex : List TypeId} {w : World} {a q : Nat} {cur : Array Value} {T : TypeId} (h : OthX ex w a) (hq : w.heap[q]? = some (.cells cur T (0, 0))) (hT : T ∈ ex) : a ≠ q := fun e => by
  subst e
  obtain ⟨c, t, h1, h2⟩ := h
  rw [hq] at h1
  injection h1 with h1
  injection h1 with _ h1
  subst h1
  exact h2 hT
/-- A network stays when a stream's block, or another row of integers, is written. -/
theorem NetF.awayQ {b q : Nat} {w w' : World} {n : NetD} {NA XA : Option Addr} {cur : Array Value} {T : TypeId} (h : NetF b w n NA XA) (ht : NetT w n NA XA) (hq : w.heap[q]? = some (.cells cur T (0, 0))) (hT : T ∈ [39, 3]) (hx : n.nx ≠ [] → ∀ a, XA = some a → a.block ≠ q) (hg : w.grownBy w' (some q)) : NetF b w' n NA XA ∧ NetT w' n NA XA := by
  refine ⟨⟨fun k ts hk => ?_, ⟨?_, h.next.2⟩, h.n1, h.n2, h.n3, h.st⟩, fun k ts hk => ?_, fun hl a ha => (ht.2 hl a ha).away hg (hx hl a ha)⟩
  · obtain ⟨ad, B, c, e, h0, h1, h2, h3, h4⟩ := h.nodes k ts hk
    obtain ⟨ad', B', c', e', k1, k2, k3⟩ := ht.1 k ts hk
    rw [e] at e'
    injection e' with e'
    subst e'
    rw [h2] at k2
    injection k2 with k2
    injection k2 with k2 _ _
    subst k2
    exact ⟨ad, B, c, e, h0, Nat.lt_of_lt_of_le h1 hg.size, hg.cell h2 (by rw [block_add]; intro e'; injection e' with e'; exact k1.ne hq hT e'), h3.kept hg (fun hl a ha e' => by injection e' with e'; exact (k3 hl a ha).ne hq hT e'), h4⟩
  · refine ⟨fun k v hk => ?_, h.next.1.2⟩
    obtain ⟨ad, e, hb, hc⟩ := h.next.1.1 k v hk
    have hl : n.nx ≠ [] := by intro h; rw [h] at hk; simp at hk
    exact ⟨ad, e, Nat.lt_of_lt_of_le hb hg.size, hg.cell hc (by rw [block_add]; intro e'; injection e' with e'; exact hx hl ad e e')⟩
  · obtain ⟨ad, B, c, e, h1, h2, h3⟩ := ht.1 k ts hk
    exact ⟨ad, B, c, e, h1.away hg (h1.ne hq hT), hg.cell h2 (by rw [block_add]; intro e'; injection e' with e'; exact h1.ne hq hT e'), fun hl a ha => (h3 hl a ha).away hg ((h3 hl a ha).ne hq hT)⟩
theorem NetF.awayT {b q : Nat} {w w' : World} {n : NetD} {NA XA : Option Addr} {cur : Array Value} (h : NetF b w n NA XA) (ht : NetT w n NA XA) (hq : w.heap[q]? = some (.cells cur 39 (0, 0))) (hg : w.grownBy w' (some q)) : NetF b w' n NA XA ∧ NetT w' n NA XA :=
  h.awayQ ht hq (.head _) (fun hl a ha => (ht.2 hl a ha).ne hq (.head _)) hg
theorem MidNd.nodes {w : World} {g nn : Nat} {ns : List (List (Int × Int))} (h : MidNd w g nn ns nn) (hl : ns.length = nn) : NodesAt w (some ⟨g, 0, none⟩) ns := fun k l hk => by
  obtain ⟨cs, h1, h2⟩ := h
  obtain ⟨C, c, c0, hi, _⟩ := h2 k l (by have := (List.getElem?_eq_some_iff.1 hk).1; omega) hk
  obtain ⟨g', e0, hg, d0⟩ := own_cells h1 c0
  exact ⟨_, C, c, e0, hg, by rw [add_cellsB]; exact d0, hi⟩
theorem MidNd.free {w : World} {g nn k : Nat} {ns : List (List (Int × Int))} (h : MidNd w g nn ns k) (j : Nat) : w.frozen? ⟨g, j, none⟩ = false := by
  obtain ⟨cs, h1, _⟩ := h
  exact h1.frozenAt j
theorem MidNd.cell {w : World} {g nn k : Nat} {ns : List (List (Int × Int))} (h : MidNd w g nn ns k) {j : Nat} (hj : j < nn) : ∃ v, w.cell? ⟨g, j, none⟩ = some v := by
  obtain ⟨cs, h1, _⟩ := h
  have hlen : cs.length = nn * 1 := h1.1
  exact ⟨cs[j]'(by omega), by rw [h1.cellAt j (by omega), List.getElem?_eq_getElem (by omega)]⟩
theorem MidNd.block {w : World} {g nn k : Nat} {ns : List (List (Int × Int))} (h : MidNd w g nn ns k) : g < w.heap.size := by
  obtain ⟨cs, h1, _⟩ := h
  exact (h1.lt g rfl).2
/-- make([]Node, n). -/
theorem mk_nodes {ops : Array Oper} {rest : List Oper} {o : Oper} {a : Act} {Q : Exit → Act → World → Prop} {w : World} (hg : o.guard = none) (s c : Operand) (hop : o.op = Op.makeSlice 29 s c)
    (n : Nat) (ns : List (List (Int × Int))) {N : Int} (hs : a.eval s = .int .i64 N) (hc : a.eval c = .int .i64 N) (hN : N = (n : Int)) (hn : n ≤ 1000000)
    (h : ∀ w', MidNd w' w.heap.size n ns 0 → Below w.heap.size w w' → wpList Try.prog ops Q rest (a.put o.dst (.slice (some ⟨w.heap.size, 0, none⟩) n n)) w') :
    wpList Try.prog ops Q (o :: rest) a w := by
  subst hN
  obtain ⟨i0, hi, hz0, hz1, hz2⟩ := info_parts info_node
  refine wpList_make_full w hg s c 29 hop w.heap.size 58 i0 _ 1 Try.underlying29 hi hz0 hz1 .i64 .i64 n n n hs hc rfl rfl (by rw [hz2]; omega) (by unfold maxLen; omega) (Nat.le_refl _) fun w' h1 h2 => h w' ⟨_, h1, fun j l hj => by omega⟩ ?_
  exact (Below.refl _ _).grown h2 (Nat.le_refl _) (by intro k hk; cases hk)
/-- A call hands back a network that reads so, in memory of its own. -/
def RetNet (w : World) (n : NetD) (e : Ending) (w' : World) : Prop := ∃ NA nc XA xc, e = .returned (n.val NA nc XA xc) ∧ NetF w.heap.size w' n NA XA ∧ NetT w' n NA XA ∧ Below w.heap.size w w'
def zeros12T : List Value := [.int .i64 0, .int .i64 0, .int .i64 0, .int .i64 0, .int .i64 0, .int .i64 0, .int .i64 0, .int .i64 0, .int .i64 0, .slice none 0 0, .slice none 0 0, .int .i64 0]
theorem two_boxes (w : World) (a b : Array Value) (s t : TypeId) : Box ((w.alloc (.cells a s)).alloc (.cells b t)) w.heap.size a.toList ∧ Box ((w.alloc (.cells a s)).alloc (.cells b t)) (w.heap.size + 1) b.toList :=
  ⟨(Box.new rfl).alloc _, Box.new (by simp)⟩
set_option maxRecDepth 100000 in
set_option maxHeartbeats 4000000 in
theorem st_cloneNet (n : NetD) (NA XA : Option Addr) (nc xc : Nat) (w : World) (hn : NetAt w n NA XA) (hok : n.ok = true) : Calls Try.prog 26 #[n.val NA nc XA xc] w (RetNet w n) := by
  obtain ⟨p1, p2, p3, p4, p5, p6, -, -⟩ := netB_parts hok
  obtain ⟨xn, hxn⟩ : ∃ k, n.nx.length = k := ⟨_, rfl⟩
  obtain ⟨nn, hnn⟩ : ∃ k, n.ns.length = k := ⟨_, rfl⟩
  have hx64 : xn ≤ 64 := by omega
  have hn64 : nn ≤ 64 := by omega
  have HXN := Lib.hid hxn
  have HNN := Lib.hid hnn
  have HN := Lib.hid hn
  have HT := Lib.hid p6
  obtain ⟨tb1, tb2⟩ := two_boxes w #[.int .i64 n.d0, .int .i64 n.d1, .int .i64 n.d2, .int .i64 n.d3, .int .i64 n.c0, .int .i64 n.c1, .int .i64 n.c2, .int .i64 n.c3, .int .i64 n.st, .slice NA nn nc, .slice XA xn xc, .int .i64 n.out] zeros12T.toArray 31 31
  have hb0 : Below w.heap.size w ((w.alloc (.cells #[.int .i64 n.d0, .int .i64 n.d1, .int .i64 n.d2, .int .i64 n.d3, .int .i64 n.c0, .int .i64 n.c1, .int .i64 n.c2, .int .i64 n.c3, .int .i64 n.st, .slice NA nn nc, .slice XA xn xc, .int .i64 n.out] 31)).alloc (.cells zeros12T.toArray 31)) := ((Below.refl w.heap.size w).alloc (Nat.le_refl _) _).alloc (by simp) _
  have hs0 : w.heap.size + 2 ≤ ((w.alloc (.cells #[.int .i64 n.d0, .int .i64 n.d1, .int .i64 n.d2, .int .i64 n.d3, .int .i64 n.c0, .int .i64 n.c1, .int .i64 n.c2, .int .i64 n.c3, .int .i64 n.st, .slice NA nn nc, .slice XA xn xc, .int .i64 n.out] 31)).alloc (.cells zeros12T.toArray 31)).heap.size := by simp
  unfold NetD.val netV
  rw [hnn, hxn]
  have TB1 := Lib.hid tb1
  have TB2 := Lib.hid tb2
  have HB0 := Lib.hid hb0
  have HS0 := Lib.hid hs0
  clear p1 p2 p3 p4 p5 p6 hok hn hxn hnn tb1 tb2 hb0 hs0
  go_enter Try.func26, Try.ntmps26
  go_upto_region 1 with fail
  have tb1 := TB1.out
  have tb2 := TB2.out
  have hb0 := HB0.out
  have hs0 := HS0.out
  unfold zeros12T at tb2 tb1 hb0 hs0
  generalize ((w.alloc (.cells #[.int .i64 n.d0, .int .i64 n.d1, .int .i64 n.d2, .int .i64 n.d3, .int .i64 n.c0, .int .i64 n.c1, .int .i64 n.c2, .int .i64 n.c3, .int .i64 n.st, .slice NA nn nc, .slice XA xn xc, .int .i64 n.out] 31)).alloc _) = W0 at tb1 tb2 hb0 hs0 ⊢
  clear TB1 TB2 HB0 HS0
  have CI : Hid (∀ w1, Ints w1 XA n.nx → Calls Try.prog 40 #[.slice XA xn xc] w1 fun e w' => ∃ XB xbc, e = .returned (.slice XB xn xbc) ∧ Own w1.heap.size w' (.slice XB xn xbc) n.nx ∧ Below w1.heap.size w1 w') := fun w1 h => by
    refine (sl_CloneI XA xn xc n.nx w1 h HXN.out (by omega)).mono ?_
    rintro e w2 ⟨v, rfl, ho, hb⟩
    obtain ⟨XB, xbc, rfl, -, hi⟩ := ho.form
    rw [HXN.out] at ho ⊢
    exact ⟨XB, xbc, rfl, ho, hb⟩
  have CT : Hid (∀ w1 A c ts, TermsAt w1 A ts → ts.length ≤ 64 → Calls Try.prog 41 #[.slice A ts.length c] w1 fun e w' => ∃ C cc, e = .returned (.slice C ts.length cc) ∧ TermsAt w' C ts ∧ (ts ≠ [] → ∀ a, C = some a → w1.heap.size ≤ a.block ∧ Oth w' a.block) ∧ Below w1.heap.size w1 w') := fun w1 A c ts h hl => by
    refine (sl_CloneT A ts.length c ts w1 h rfl (by omega)).mono ?_
    rintro e w2 ⟨v, rfl, ho, hb⟩
    obtain ⟨C, cc, rfl, -, hi⟩ := ho.form
    refine ⟨C, cc, rfl, hi, fun hne a ha => ?_, hb⟩
    subst ha
    obtain ⟨A, c', e', _⟩ := own_form ho.1
    have e0 := e'
    refine ⟨(ho.1.lt _ rfl).1, ?_⟩
    obtain ⟨_, ⟨e1, _⟩ | ⟨g', cap, cur, e1, _, hg, _⟩⟩ := ho.1
    · cases e1
    · injection e1 with e1
      injection e1 with e1
      subst e1
      exact ⟨cur, _, hg, by decide⟩
  have C1 := Lib.hid tb1
  have C2 := Lib.hid tb2
  have HW0 := Lib.hid hb0
  obtain ⟨⟨z1, z2, z3, z4⟩, ⟨z5, z6, z7, z8⟩, z9, z10, z11, z12⟩ := tb1.c12
  clear tb1 tb2 hb0
  go_upto_region 2 with (first
    | (go_at_call 40; (with_reducible refine (CI.out _ (HN.out.next.grow HW0.out)).mono ?_); rintro e w1 ⟨XB, xbc, rfl, hi1, hb1⟩; have c1 := C1.out.keep hb1; have c2 := C2.out.keep hb1; have hw1 := below_then HW0.out hb1; have hs1 := hb1.size; obtain ⟨⟨z1, z2, z3, z4⟩, ⟨z5, z6, z7, z8⟩, z9, z10, z11, z12⟩ := c1.c12; have hf1 := c1.2.2))
  have c1b := c1.set (k := 10) (u := .slice XB xn xbc)
  have c2b := c2.past (b := w.heap.size) (k := 10) (u := .slice XB xn xbc) (by omega)
  have hs2 : w.heap.size + 2 ≤ (w1.setCell ⟨w.heap.size, 10, none⟩ (.slice XB xn xbc)).heap.size := by simp [World.setCell]; omega
  have hb2 : Below w.heap.size w (w1.setCell ⟨w.heap.size, 10, none⟩ (.slice XB xn xbc)) := hw1.setCell (p := ⟨w.heap.size, 10, none⟩) (Nat.le_refl _) _
  have hi2 : Own (w.heap.size + 2) (w1.setCell ⟨w.heap.size, 10, none⟩ (.slice XB xn xbc)) (.slice XB xn xbc) n.nx := Own.base (base := W0.heap.size) ⟨own_store hi1.1 (by omega), hi1.2⟩ hs0
  generalize (w1.setCell ⟨w.heap.size, 10, none⟩ (.slice XB xn xbc)) = W1 at c1b c2b hs2 hb2 hi2 ⊢
  have C1 := Lib.hid c1b
  have C2 := Lib.hid c2b
  have HB2 := Lib.hid hb2
  have HI2 := Lib.hid hi2
  obtain ⟨⟨z1, z2, z3, z4⟩, ⟨z5, z6, z7, z8⟩, z9, z10, z11, z12⟩ := Box.c12 (show Box W1 w.heap.size [.int .i64 n.d0, .int .i64 n.d1, .int .i64 n.d2, .int .i64 n.d3, .int .i64 n.c0, .int .i64 n.c1, .int .i64 n.c2, .int .i64 n.c3, .int .i64 n.st, .slice NA nn nc, .slice XB xn xbc, .int .i64 n.out] from c1b)
  clear c1 c2 c1b c2b hb2 hi2 hi1 hb1 hw1 hs1 hf1
  have hb3 := fun (w3 : World) (h : Below W1.heap.size W1 w3) => Box.keep (show Box W1 w.heap.size [.int .i64 n.d0, .int .i64 n.d1, .int .i64 n.d2, .int .i64 n.d3, .int .i64 n.c0, .int .i64 n.c1, .int .i64 n.c2, .int .i64 n.c3, .int .i64 n.st, .slice NA nn nc, .slice XB xn xbc, .int .i64 n.out] from C1.out) h
  have HB3 := Lib.hid hb3
  clear hb3
  go_wp2_with (at_make; refine mk_nodes rfl _ _ rfl nn n.ns rfl rfl rfl (by omega) ?_; intro w3 hm3 hb3; have c13 := HB3.out _ hb3; obtain ⟨⟨z1, z2, z3, z4⟩, ⟨z5, z6, z7, z8⟩, z9, z10, z11, z12⟩ := c13.c12)
  have HM3 := Lib.hid hm3
  have HBW3 := Lib.hid hb3
  clear c13 hm3 hb3 z1 z2 z3 z4 z5 z6 z7 z8 z9 z10 z11 z12
  go_loopw [17] (fun i wr => ∃ k : Nat, k ≤ nn ∧ i = .int .i64 k ∧ Hid (MidNd wr W1.heap.size nn n.ns k) ∧ Hid (Below W1.heap.size W1 wr)) (fun i _ => nn - (intOf i).toNat)
  case atStart => exact ⟨0, Nat.zero_le _, rfl, HM3, HBW3⟩
  case round =>
    obtain ⟨k, hk, rfl, HM, HB⟩ := hrel
    have hbw := HB.out.size
    by_cases hlt : k < nn
    · obtain ⟨ts, hts⟩ : ∃ ts, n.ns[k]? = some ts := ⟨_, List.getElem?_eq_getElem (by rw [HNN.out]; exact hlt)⟩
      obtain ⟨ad, B, bc, rfl, hba, cn, hT⟩ := (HN.out.nodes.grow (below_then HB2.out HB.out)) k ts hts
      obtain ⟨hl64, -⟩ := HT.out k ts hts
      have hbal := (Below.refl wr.heap.size wr).alloc (Nat.le_refl _) (.cells #[.slice B ts.length bc] 58)
      have HTA := Lib.hid (hT.grow hbal)
      have HBAL := Lib.hid hbal
      have HMA := Lib.hid (HM.out.grow hbal)
      have HTS := Lib.hid hts
      have y1 : (0 : Int) ≤ (k : Int) := by omega
      have y2 : (k : Int) < (nn : Int) := by omega
      have hgw := HM.out.block
      clear hT hbal hts
      go_wp2_with (first
        | (go_at_call 41; (with_reducible refine (CT.out _ _ _ ts HTA.out hl64).mono ?_); rintro e w5 ⟨C, cc, rfl, hT5, hC5, hb5⟩; have hm5 := HMA.out.grow hb5; obtain ⟨ov, hcell⟩ := hm5.cell hlt; have hfr := hm5.free k))
      have hset := hm5.set (c := cc) hlt HTS.out hT5 (fun hne a ha => ⟨by have := (hC5 hne a ha).1; simp at this; omega, (hC5 hne a ha).2⟩)
      have hb6 := (below_then HB.out (HBAL.out.trans (hb5.mono HBAL.out.size))).setCell (p := ⟨W1.heap.size, k, none⟩) (Nat.le_refl _) (.slice C ts.length cc)
      go_roundw
      case rel => exact ⟨k + 1, by omega, by go_num, hset, hb6⟩
      case measure => simp [intOf]; omega
    · have hkk : k = nn := by omega
      subst hkk
      have c1 := HB3.out _ HB.out
      have c2 := C2.out.keep HB.out
      obtain ⟨⟨z1, z2, z3, z4⟩, ⟨z5, z6, z7, z8⟩, z9, z10, z11, z12⟩ := c1.c12
      have hf1 := c1.2.2
      have c1b := c1.set (k := 9) (u := .slice (some ⟨W1.heap.size, 0, none⟩) k k)
      have c2b := c2.past (b := w.heap.size) (k := 9) (u := .slice (some ⟨W1.heap.size, 0, none⟩) k k) (by omega)
      have hb4 : Below w.heap.size w (wr.setCell ⟨w.heap.size, 9, none⟩ (.slice (some ⟨W1.heap.size, 0, none⟩) k k)) := (below_then HB2.out HB.out).setCell (p := ⟨w.heap.size, 9, none⟩) (Nat.le_refl _) _
      have hm4 : MidNd (wr.setCell ⟨w.heap.size, 9, none⟩ (.slice (some ⟨W1.heap.size, 0, none⟩) k k)) W1.heap.size k n.ns k := HM.out.other (by omega)
      have hx4 : Own (w.heap.size + 2) (wr.setCell ⟨w.heap.size, 9, none⟩ (.slice (some ⟨W1.heap.size, 0, none⟩) k k)) (.slice XB xn xbc) n.nx := ⟨own_store (HI2.out.grow HB.out).1 (by omega), HI2.out.2⟩
      go_upto_region 9 with fail
      generalize (wr.setCell ⟨w.heap.size, 9, none⟩ (.slice (some ⟨W1.heap.size, 0, none⟩) k k)) = W4 at c1b c2b hb4 hm4 hx4 ⊢
      clear z1 z2 z3 z4 z5 z6 z7 z8 z9 z10 z11 z12 c1 c2 hf1
      obtain ⟨⟨z1, z2, z3, z4⟩, ⟨z5, z6, z7, z8⟩, z9, z10, z11, z12⟩ := Box.c12 (show Box W4 w.heap.size [.int .i64 n.d0, .int .i64 n.d1, .int .i64 n.d2, .int .i64 n.d3, .int .i64 n.c0, .int .i64 n.c1, .int .i64 n.c2, .int .i64 n.c3, .int .i64 n.st, .slice (some ⟨W1.heap.size, 0, none⟩) k k, .slice XB xn xbc, .int .i64 n.out] from c1b)
      obtain ⟨⟨y1, y2, y3, y4⟩, ⟨y5, y6, y7, y8⟩, y9, y10, y11, y12⟩ := c2b.c12
      have hf2 := c2b.2.2
      have hR8 := c2b.fill12 (.int .i64 n.d0) (.int .i64 n.d1) (.int .i64 n.d2) (.int .i64 n.d3) (.int .i64 n.c0) (.int .i64 n.c1) (.int .i64 n.c2) (.int .i64 n.c3) (.int .i64 n.st) (.slice (some ⟨W1.heap.size, 0, none⟩) k k) (.slice XB xn xbc) (.int .i64 n.out)
      have hg8 := fill12_grown W4 (w.heap.size + 1) (.int .i64 n.d0) (.int .i64 n.d1) (.int .i64 n.d2) (.int .i64 n.d3) (.int .i64 n.c0) (.int .i64 n.c1) (.int .i64 n.c2) (.int .i64 n.c3) (.int .i64 n.st) (.slice (some ⟨W1.heap.size, 0, none⟩) k k) (.slice XB xn xbc) (.int .i64 n.out)
      have hbl2 := c2b.1
      clear c1b c2b
      go_wp2_with fail
      change bodyPost _ _ _ _ _ (fill12 W4 (w.heap.size + 1) (.int .i64 n.d0) (.int .i64 n.d1) (.int .i64 n.d2) (.int .i64 n.d3) (.int .i64 n.c0) (.int .i64 n.c1) (.int .i64 n.c2) (.int .i64 n.c3) (.int .i64 n.st) (.slice (some ⟨W1.heap.size, 0, none⟩) k k) (.slice XB xn xbc) (.int .i64 n.out))
      generalize fill12 W4 (w.heap.size + 1) (.int .i64 n.d0) (.int .i64 n.d1) (.int .i64 n.d2) (.int .i64 n.d3) (.int .i64 n.c0) (.int .i64 n.c1) (.int .i64 n.c2) (.int .i64 n.c3) (.int .i64 n.st) (.slice (some ⟨W1.heap.size, 0, none⟩) k k) (.slice XB xn xbc) (.int .i64 n.out) = W8 at hR8 hg8 ⊢
      obtain ⟨⟨g1, g2, g3, g4⟩, ⟨g5, g6, g7, g8⟩, g9, g10, g11, g12⟩ := hR8.c12
      refine bodyPost_ret (v := netV n.d0 n.d1 n.d2 n.d3 n.c0 n.c1 n.c2 n.c3 n.st (some ⟨W1.heap.size, 0, none⟩) k k XB xn xbc n.out) (by simp [results, Try.results26, go_sem, g1, g2, g3, g4, g5, g6, g7, g8, g9, g10, g11, g12]) rfl ?_
      have hm8 := hm4.away hg8 (by omega)
      have hx8 := own_away hx4 hg8 (by omega)
      refine ⟨some ⟨W1.heap.size, 0, none⟩, k, XB, xbc, ?_, ⟨(hm8.nodesF HNN.out).base (by omega), (IntsF.own hx8).base (by omega), HN.out.n1, HN.out.n2, HN.out.n3, HN.out.st⟩, ⟨hm8.nodesT HNN.out (by decide), fun _ a ha => by subst ha; exact own_oth hx8⟩, grown_to hb4 hg8 (by omega)⟩
      rw [← HNN.out, ← HXN.out]
end Go.Proofs.Ytgabfdappeakiaa
end
section
/- Loads and stores of whole structs, by the kit's laws on ranges; the walk of copyStream of package stream. -/
set_option linter.unusedVariables false
set_option linter.unusedSimpArgs false
namespace Go.Proofs.Ytgabfdappeakiaa
open Go.RowKit

/-- The cells of a network. -/
def NetD.lst (n : NetD) (NA : Option Addr) (nc : Nat) (XA : Option Addr) (xc : Nat) : List Value :=
  [.int .i64 n.d0, .int .i64 n.d1, .int .i64 n.d2, .int .i64 n.d3, .int .i64 n.c0, .int .i64 n.c1, .int .i64 n.c2, .int .i64 n.c3, .int .i64 n.st, .slice NA n.ns.length nc, .slice XA n.nx.length xc, .int .i64 n.out]
/-- The cells of a stream. -/
def StrA.cells (u : StrA) : List Value := u.d.net.lst u.NA u.nc u.XA u.xc ++ u.d.old.lst u.MA u.mc u.YA u.yc ++ [.slice u.SA u.d.s.length u.sc, .slice u.FA u.d.f.length u.fc, .int .i64 u.d.fade, .int .i64 u.d.left, .int .i64 u.d.ev]
def StrA.netL (u : StrA) : List Value := u.d.net.lst u.NA u.nc u.XA u.xc
def StrA.oldL (u : StrA) : List Value := u.d.old.lst u.MA u.mc u.YA u.yc
abbrev StrA.v (u : StrA) : Value := .agg u.cells.toArray
theorem StrA.cells_vals (u : StrA) : u.cells = u.vals.toList := rfl
theorem StrA.v_val (u : StrA) : u.v = u.val := rfl
theorem Box.range {w : World} {g o : Nat} {vs cs : List Value} (h : Box w g vs) (e : ∀ j v, cs[j]? = some v → vs[o + j]? = some v) : w.rangeAt g o cs := fun j v hv => (h.2.1 (o + j)).trans (e j v hv)
theorem Box.there {w : World} {g o n : Nat} {vs : List Value} (h : Box w g vs) (hn : o + n ≤ vs.length) : w.there g o n := fun j hj => ⟨by rw [h.2.1, List.getElem?_eq_getElem (by omega)]; rfl, h.2.2 _⟩
theorem Box.sets {g : Nat} : ∀ (l : List Value) (k : Nat) (w : World) (vs : List Value), Box w g vs → k + l.length ≤ vs.length → Box (w.setCells g k l) g (vs.take k ++ l ++ vs.drop (k + l.length))
  | [], k, w, vs, h, _ => by
    show Box w g _
    rw [List.append_nil, List.length_nil, Nat.add_zero, List.take_append_drop]; exact h
  | v :: l, k, w, vs, h, hk => by
    have hk' : k < vs.length := by simp at hk; omega
    have h1 := h.set (k := k) (u := v) hk'
    have h2 := Box.sets l (k + 1) _ _ h1 (by simp at hk ⊢; omega)
    have e : (vs.set k v).take (k + 1) ++ l ++ (vs.set k v).drop (k + 1 + l.length) = vs.take k ++ (v :: l) ++ vs.drop (k + (v :: l).length) := by
      rw [List.drop_set_of_lt (by omega), List.length_cons, show k + (l.length + 1) = k + 1 + l.length by omega, List.take_add_one, List.getElem?_set_self hk', List.take_set_of_le (Nat.le_refl _)]
      simp
    rw [← e]; exact h2
theorem sets_grown {a : World} {g : Nat} : ∀ (l : List Value) (k : Nat) (w : World), a.grownBy w (some g) → a.grownBy (w.setCells g k l) (some g)
  | [], _, _, h => h
  | v :: l, k, w, h => sets_grown l (k + 1) _ (grown_set h)
/-- The load of a part of a box. -/
theorem wp_ld {ops : Array Oper} {rest : List Oper} {o : Oper} {a : Act} {Q : Exit → Act → World → Prop} {w : World} (hgd : o.guard = none) (ty : TypeId) (x : Operand) (ho : o.op = .load ty x) (g k : Nat) (hx : a.eval x = .pointer (some ⟨g, k, none⟩)) {vs : List Value} (hb : Box w g vs) (cs : List Value)
    (e : ∀ j v, cs[j]? = some v → vs[k + j]? = some v) (d : TypeDesc) (hu : Try.prog.underlying ty = some d) (hd : d.isRow = true) (hi : (Try.prog.info? ty).map (·.size) = some cs.length)
    (h : wpList Try.prog ops Q rest (a.put o.dst (.agg cs.toArray)) w) : wpList Try.prog ops Q (o :: rest) a w :=
  wpList_load_mid hgd ty x ho g k hx cs d (hb.range e) hu hd hi h
/-- The store of a struct into a box. -/
theorem wp_st {ops : Array Oper} {rest : List Oper} {o : Oper} {a : Act} {Q : Exit → Act → World → Prop} {w : World} (hgd : o.guard = none) (ty : TypeId) (x y : Operand) (ho : o.op = .store ty x y) (g k : Nat) (cs : List Value) (hx : a.eval x = .pointer (some ⟨g, k, none⟩)) (hy : a.eval y = .agg cs.toArray)
    (hi : (Try.prog.info? ty).map (·.size) = some cs.length) (h1 : cs.all (·.oneCell') = true) {vs vs' : List Value} (hb : Box w g vs) (hk : k + cs.length ≤ vs.length) (e : vs.take k ++ cs ++ vs.drop (k + cs.length) = vs')
    (h : ∀ W1, Box W1 g vs' → w.grownBy W1 (some g) → wpList Try.prog ops Q rest (a.put o.dst undef) W1) : wpList Try.prog ops Q (o :: rest) a w := by
  refine wpList_store_mid hgd ty x y ho g k cs.toArray hx hy (by simpa using hb.there hk) (by simpa using hi) (all_oneCell_toArray (fun v hv => List.all_eq_true.1 h1 v hv)) ?_
  have e2 : cs.toArray.toList = cs := by simp
  rw [e2]
  refine h _ ?_ (sets_grown _ _ _ (grown_refl w (some g)))
  rw [← e]
  exact Box.sets _ _ _ _ hb hk
/-- The store of one cell into a box. -/
theorem box_one {w : World} {g k : Nat} {vs vs' : List Value} {v : Value} (hb : Box w g vs) (hk : k < vs.length) (e : vs.set k v = vs') : Box (w.setCell ⟨g, k, none⟩ v) g vs' ∧ w.grownBy (w.setCell ⟨g, k, none⟩ v) (some g) := by
  subst e
  exact ⟨hb.set hk, grown_set (grown_refl w (some g))⟩
/-- What a struct's stores leave. -/
theorem put_facts {w w1 W : World} {g : Nat} (h : Below w.heap.size w w1) (hg : w.heap.size ≤ g) (h1 : w1.grownBy W (some g)) : Below w.heap.size w W := h.grown h1 h.size (fun k e => by injection e with e; omega)
/-- What lies behind a stream's slices, in blocks from b on. -/
structure StrF (b : Nat) (w : World) (u : StrA) : Prop where
  net : NetF b w u.d.net u.NA u.XA
  old : NetF b w u.d.old u.MA u.YA
  s : IntsF b w u.SA u.d.s
  f : IntsF b w u.FA u.d.f
  n1 : u.d.s.length ≤ 9223372036854775807
  n2 : u.d.f.length ≤ 9223372036854775807
theorem StrF.at {b : Nat} {w : World} {u : StrA} (h : StrF b w u) : StrAt w u := ⟨h.net.at, h.old.at, h.s.1, h.f.1, h.n1, h.n2⟩
theorem StrF.base {b b' : Nat} {w : World} {u : StrA} (h : StrF b w u) (hb : b' ≤ b) : StrF b' w u := ⟨h.net.base hb, h.old.base hb, h.s.base hb, h.f.base hb, h.n1, h.n2⟩
theorem StrF.grow {b : Nat} {w w' : World} {u : StrA} (h : StrF b w u) (hb : Below w.heap.size w w') : StrF b w' u := ⟨h.net.grow hb, h.old.grow hb, h.s.grow hb, h.f.grow hb, h.n1, h.n2⟩
theorem StrF.away {b q : Nat} {w w' : World} {u : StrA} (h : StrF b w u) (hg : w.grownBy w' (some q)) (hq : q < b) : StrF b w' u := ⟨h.net.away hg hq, h.old.away hg hq, h.s.away hg hq, h.f.away hg hq, h.n1, h.n2⟩
theorem StrF.of {w : World} {u : StrA} (h : StrAt w u) : StrF 0 w u := ⟨NetF.of h.net, NetF.of h.old, ⟨h.s, fun _ _ _ => Nat.zero_le _⟩, ⟨h.f, fun _ _ _ => Nat.zero_le _⟩, h.n1, h.n2⟩
/-- The zero stream. -/
def StrD.zero : StrD := ⟨NetD.zero, NetD.zero, [], [], 0, 0, 0⟩
def StrA.zero : StrA := ⟨StrD.zero, none, none, none, none, none, none, 0, 0, 0, 0, 0, 0⟩
theorem StrF.zero {b : Nat} {w : World} : StrF b w StrA.zero := ⟨NetF.zero, NetF.zero, IntsF.nil, IntsF.nil, by decide, by decide⟩
theorem StrBox.away {w w' : World} {g q : Nat} {u : StrA} (h : StrBox w g u) (hg : w.grownBy w' (some q)) (hn : g ≠ q) : StrBox w' g u := Box.grown h hg (by intro e; injection e with e; exact hn e)
theorem StrBox.box {w : World} {g : Nat} {u : StrA} (h : StrBox w g u) : Box w g u.cells := h
theorem lst_all (n : NetD) (NA : Option Addr) (nc : Nat) (XA : Option Addr) (xc : Nat) : (n.lst NA nc XA xc).all (·.oneCell') = true := rfl
theorem cells_all (u : StrA) : u.cells.all (·.oneCell') = true := rfl
theorem get_app {α : Type} {a b c : List α} {k j : Nat} {v : α} (hk : k = a.length) (h : b[j]? = some v) : (a ++ b ++ c)[k + j]? = some v := by
  have hj := (List.getElem?_eq_some_iff.1 h).1
  rw [List.append_assoc, List.getElem?_append_right (by omega), List.getElem?_append_left (by omega), show k + j - a.length = j by omega]; exact h
theorem net_in (u : StrA) : ∀ j v, u.netL[j]? = some v → u.cells[0 + j]? = some v := fun j v h => by
  have := get_app (a := ([] : List Value)) (b := u.netL) (c := u.oldL ++ [.slice u.SA u.d.s.length u.sc, .slice u.FA u.d.f.length u.fc, .int .i64 u.d.fade, .int .i64 u.d.left, .int .i64 u.d.ev]) (k := 0) rfl h
  rw [List.nil_append, ← List.append_assoc] at this; exact this
theorem old_in (u : StrA) : ∀ j v, u.oldL[j]? = some v → u.cells[12 + j]? = some v := fun j v h => get_app (a := u.netL) (b := u.oldL) (k := 12) rfl h
theorem str_in (u : StrA) : ∀ j v, u.cells[j]? = some v → u.cells[0 + j]? = some v := fun j v h => by rw [Nat.zero_add]; exact h
theorem size_net : (Try.prog.info? 31).map (·.size) = some 12 := by kernel_rfl
theorem size_str : (Try.prog.info? 39).map (·.size) = some 29 := by kernel_rfl
theorem row_net : ∃ d, Try.prog.underlying 31 = some d ∧ d.isRow = true := ⟨_, Try.underlying31, rfl⟩
theorem row_str : ∃ d, Try.prog.underlying 39 = some d ∧ d.isRow = true := ⟨_, Try.underlying39, rfl⟩
theorem results_c {fn : Func} {t : Tmp} {T : TypeId} (h : fn.results = #[.cell t T]) (tmps : Array Value) (P : Program) (w : World) {g : Nat} {v : Value} (hp : tmps.getD t undef = .pointer (some ⟨g, 0, none⟩)) (hv : (loadVar T ⟨g, 0, none⟩).run P w = .ok v w) : (results fn tmps).run P w = .ok v w := by
  have hp' : tmps[t]?.getD undef = .pointer (some ⟨g, 0, none⟩) := by rw [← Array.getD_eq_getD_getElem?]; exact hp
  simp [results, h, hp', hv, asAddr]
theorem results_ct {fn : Func} {t x : Tmp} {T : TypeId} (h : fn.results = #[.cell t T, .tmp x]) (tmps : Array Value) (P : Program) (w : World) {g : Nat} {v : Value} (hp : tmps.getD t undef = .pointer (some ⟨g, 0, none⟩)) (hv : (loadVar T ⟨g, 0, none⟩).run P w = .ok v w) : (results fn tmps).run P w = .ok (.tuple #[v, tmps.getD x undef]) w := by
  have hp' : tmps[t]?.getD undef = .pointer (some ⟨g, 0, none⟩) := by rw [← Array.getD_eq_getD_getElem?]; exact hp
  simp [results, h, hp', hv, asAddr]
theorem results_ctt {fn : Func} {t x y : Tmp} {T : TypeId} (h : fn.results = #[.cell t T, .tmp x, .tmp y]) (tmps : Array Value) (P : Program) (w : World) {g : Nat} {v : Value} (hp : tmps.getD t undef = .pointer (some ⟨g, 0, none⟩)) (hv : (loadVar T ⟨g, 0, none⟩).run P w = .ok v w) : (results fn tmps).run P w = .ok (.tuple #[v, tmps.getD x undef, tmps.getD y undef]) w := by
  have hp' : tmps[t]?.getD undef = .pointer (some ⟨g, 0, none⟩) := by rw [← Array.getD_eq_getD_getElem?]; exact hp
  simp [results, h, hp', hv, asAddr]
theorem results_tct {fn : Func} {t x y : Tmp} {T : TypeId} (h : fn.results = #[.tmp x, .cell t T, .tmp y]) (tmps : Array Value) (P : Program) (w : World) {g : Nat} {v : Value} (hp : tmps.getD t undef = .pointer (some ⟨g, 0, none⟩)) (hv : (loadVar T ⟨g, 0, none⟩).run P w = .ok v w) : (results fn tmps).run P w = .ok (.tuple #[tmps.getD x undef, v, tmps.getD y undef]) w := by
  have hp' : tmps[t]?.getD undef = .pointer (some ⟨g, 0, none⟩) := by rw [← Array.getD_eq_getD_getElem?]; exact hp
  simp [results, h, hp', hv, asAddr]
/-- A call that lays its stream and makes room for its result. -/
theorem entry2 (w : World) (u : StrA) : StrBox ((w.alloc (.cells u.cells.toArray 39)).alloc (.cells StrA.zero.cells.toArray 39)) w.heap.size u ∧ StrBox ((w.alloc (.cells u.cells.toArray 39)).alloc (.cells StrA.zero.cells.toArray 39)) (w.heap.size + 1) StrA.zero ∧
    Below w.heap.size w ((w.alloc (.cells u.cells.toArray 39)).alloc (.cells StrA.zero.cells.toArray 39)) ∧ w.heap.size + 2 ≤ ((w.alloc (.cells u.cells.toArray 39)).alloc (.cells StrA.zero.cells.toArray 39)).heap.size :=
  ⟨Box.alloc (Box.new rfl) _, Box.new (by simp), ((Below.refl w.heap.size w).alloc (Nat.le_refl _) _).alloc (by simp) _, by simp⟩
section
variable {ops : Array Oper} {rest : List Oper} {o : Oper} {a : Act} {Q : Exit → Act → World → Prop} {w : World} {u : StrA} {g : Nat}
theorem ld_net (hb : StrBox w g u) (hgd : o.guard = none) (x : Operand) (ho : o.op = .load 31 x) (hx : a.eval x = .pointer (some ⟨g, 0, none⟩)) (h : wpList Try.prog ops Q rest (a.put o.dst (.agg u.netL.toArray)) w) : wpList Try.prog ops Q (o :: rest) a w := by
  obtain ⟨d, h1, h2⟩ := row_net
  exact wp_ld hgd _ x ho g 0 hx hb.box u.netL (net_in u) d h1 h2 size_net h
theorem ld_old (hb : StrBox w g u) (hgd : o.guard = none) (x : Operand) (ho : o.op = .load 31 x) (hx : a.eval x = .pointer (some ⟨g, 12, none⟩)) (h : wpList Try.prog ops Q rest (a.put o.dst (.agg u.oldL.toArray)) w) : wpList Try.prog ops Q (o :: rest) a w := by
  obtain ⟨d, h1, h2⟩ := row_net
  exact wp_ld hgd _ x ho g 12 hx hb.box u.oldL (old_in u) d h1 h2 size_net h
theorem ld_str (hb : StrBox w g u) (hgd : o.guard = none) (x : Operand) (ho : o.op = .load 39 x) (hx : a.eval x = .pointer (some ⟨g, 0, none⟩)) (h : wpList Try.prog ops Q rest (a.put o.dst u.v) w) : wpList Try.prog ops Q (o :: rest) a w := by
  obtain ⟨d, h1, h2⟩ := row_str
  exact wp_ld hgd _ x ho g 0 hx hb.box u.cells (str_in u) d h1 h2 size_str h
theorem st_net (hb : StrBox w g u) (hgd : o.guard = none) (x y : Operand) (ho : o.op = .store 31 x y) (hx : a.eval x = .pointer (some ⟨g, 0, none⟩)) {n : NetD} {NB XB : Option Addr} {nb xb : Nat} (hy : a.eval y = .agg (n.lst NB nb XB xb).toArray)
    (h : ∀ W1, StrBox W1 g { u with d := { u.d with net := n }, NA := NB, nc := nb, XA := XB, xc := xb } → w.grownBy W1 (some g) → wpList Try.prog ops Q rest (a.put o.dst undef) W1) : wpList Try.prog ops Q (o :: rest) a w :=
  wp_st hgd _ x y ho g 0 _ hx hy size_net (lst_all _ _ _ _ _) hb.box (by show 0 + 12 ≤ 29; omega) rfl h
theorem st_old (hb : StrBox w g u) (hgd : o.guard = none) (x y : Operand) (ho : o.op = .store 31 x y) (hx : a.eval x = .pointer (some ⟨g, 12, none⟩)) {n : NetD} {NB XB : Option Addr} {nb xb : Nat} (hy : a.eval y = .agg (n.lst NB nb XB xb).toArray)
    (h : ∀ W1, StrBox W1 g { u with d := { u.d with old := n }, MA := NB, mc := nb, YA := XB, yc := xb } → w.grownBy W1 (some g) → wpList Try.prog ops Q rest (a.put o.dst undef) W1) : wpList Try.prog ops Q (o :: rest) a w :=
  wp_st hgd _ x y ho g 12 _ hx hy size_net (lst_all _ _ _ _ _) hb.box (by show 12 + 12 ≤ 29; omega) rfl h
theorem st_str (hb : StrBox w g u) (hgd : o.guard = none) (x y : Operand) (ho : o.op = .store 39 x y) (hx : a.eval x = .pointer (some ⟨g, 0, none⟩)) {u' : StrA} (hy : a.eval y = u'.v)
    (h : ∀ W1, StrBox W1 g u' → w.grownBy W1 (some g) → wpList Try.prog ops Q rest (a.put o.dst undef) W1) : wpList Try.prog ops Q (o :: rest) a w :=
  wp_st hgd _ x y ho g 0 _ hx hy size_str (cells_all _) hb.box (by show 0 + 29 ≤ 29; omega) rfl h
theorem StrBox.setS (hb : StrBox w g u) (A : Option Addr) (l : List Int) (c n : Nat) (hn : l.length = n) : StrBox (w.setCell ⟨g, 24, none⟩ (.slice A n c)) g { u with d := { u.d with s := l }, SA := A, sc := c } ∧ w.grownBy (w.setCell ⟨g, 24, none⟩ (.slice A n c)) (some g) := by
  subst hn; exact box_one hb.box (by show 24 < 29; omega) rfl
theorem StrBox.setF (hb : StrBox w g u) (A : Option Addr) (l : List Int) (c n : Nat) (hn : l.length = n) : StrBox (w.setCell ⟨g, 25, none⟩ (.slice A n c)) g { u with d := { u.d with f := l }, FA := A, fc := c } ∧ w.grownBy (w.setCell ⟨g, 25, none⟩ (.slice A n c)) (some g) := by
  subst hn; exact box_one hb.box (by show 25 < 29; omega) rfl
theorem StrBox.setFade (hb : StrBox w g u) (x : Int) : StrBox (w.setCell ⟨g, 26, none⟩ (.int .i64 x)) g { u with d := { u.d with fade := x } } ∧ w.grownBy (w.setCell ⟨g, 26, none⟩ (.int .i64 x)) (some g) := box_one hb.box (by show 26 < 29; omega) rfl
theorem StrBox.setLeft (hb : StrBox w g u) (x : Int) : StrBox (w.setCell ⟨g, 27, none⟩ (.int .i64 x)) g { u with d := { u.d with left := x } } ∧ w.grownBy (w.setCell ⟨g, 27, none⟩ (.int .i64 x)) (some g) := box_one hb.box (by show 27 < 29; omega) rfl
theorem StrBox.setEv (hb : StrBox w g u) (x : Int) : StrBox (w.setCell ⟨g, 28, none⟩ (.int .i64 x)) g { u with d := { u.d with ev := x } } ∧ w.grownBy (w.setCell ⟨g, 28, none⟩ (.int .i64 x)) (some g) := box_one hb.box (by show 28 < 29; omega) rfl
/-- The value of a result that lies in a cell. -/
theorem res_str (hb : StrBox w g u) : (loadVar 39 ⟨g, 0, none⟩).run Try.prog w = .ok u.v w := by
  obtain ⟨d, h1, h2⟩ := row_str
  exact run_loadVar_mid w g 0 _ u.cells d (hb.box.range (str_in u)) h1 h2 size_str
end
/-- A call hands back a stream that reads so, in memory of its own. -/
def RetStr (w : World) (d : StrD) (e : Ending) (w' : World) : Prop := ∃ u : StrA, e = .returned u.v ∧ u.d = d ∧ StrF w.heap.size w' u ∧ Below w.heap.size w w'
end Go.Proofs.Ytgabfdappeakiaa
end
section
/- The walk of copyStream of package stream. -/
set_option linter.unusedVariables false
set_option linter.unusedSimpArgs false
namespace Go.Proofs.Ytgabfdappeakiaa
open Go.RowKit

theorem good_lens {d : StrD} (h : d.Good) : d.net.ok = true ∧ d.s.length ≤ 64 ∧ d.f.length ≤ 64 := by
  obtain ⟨h1, h2, -, -, -, h3⟩ := h
  obtain ⟨-, -, ⟨p1, p2⟩, -, -, -, -, -⟩ := netB_parts h1
  have hs : (d.s.length : Int) = d.net.st := by unfold NetD.state at h2; simp only [Bool.and_eq_true, beq_iff_eq] at h2; exact h2.1
  refine ⟨h1, by omega, ?_⟩
  rcases h3 with ⟨-, -, -, h⟩ | ⟨-, h4, -, h5⟩
  · omega
  · obtain ⟨-, -, ⟨q1, q2⟩, -, -, -, -, -⟩ := netB_parts h4
    have : (d.f.length : Int) = d.old.st := by unfold NetD.state at h5; simp only [Bool.and_eq_true, beq_iff_eq] at h5; exact h5.1
    omega
set_option maxRecDepth 100000 in
set_option maxHeartbeats 4000000 in
theorem st_copyStream (u : StrA) (w : World) (hu : StrAt w u) (hg : u.d.Good) : Calls Try.prog 44 #[u.v] w (RetStr w u.d) := by
  obtain ⟨hok, hs64, hf64⟩ := good_lens hg
  have CN : Hid (∀ w1, Below w.heap.size w w1 → Calls Try.prog 26 #[.agg u.netL.toArray] w1 fun e w' => ∃ NA nc XA xc, e = .returned (.agg (u.d.net.lst NA nc XA xc).toArray) ∧ NetF w1.heap.size w' u.d.net NA XA ∧ NetT w' u.d.net NA XA ∧ Below w1.heap.size w1 w') := fun w1 hb => st_cloneNet u.d.net u.NA u.XA u.nc u.xc w1 (hu.net.grow hb) hok
  have CS : Hid (∀ w1, Below w.heap.size w w1 → Calls Try.prog 40 #[.slice u.SA u.d.s.length u.sc] w1 fun e w' => ∃ A c, e = .returned (.slice A u.d.s.length c) ∧ IntsF w1.heap.size w' A u.d.s ∧ Below w1.heap.size w1 w') := fun w1 hb => by
    refine (sl_CloneI u.SA _ u.sc u.d.s w1 (hu.s.grow hb) rfl (by omega)).mono ?_
    rintro e w2 ⟨v, rfl, ho, hb⟩
    obtain ⟨A, c, rfl, -, hi⟩ := ho.form
    exact ⟨A, c, rfl, IntsF.own ho, hb⟩
  have CF : Hid (∀ w1, Below w.heap.size w w1 → Calls Try.prog 40 #[.slice u.FA u.d.f.length u.fc] w1 fun e w' => ∃ A c, e = .returned (.slice A u.d.f.length c) ∧ IntsF w1.heap.size w' A u.d.f ∧ Below w1.heap.size w1 w') := fun w1 hb => by
    refine (sl_CloneI u.FA _ u.fc u.d.f w1 (hu.f.grow hb) rfl (by omega)).mono ?_
    rintro e w2 ⟨v, rfl, ho, hb⟩
    obtain ⟨A, c, rfl, -, hi⟩ := ho.form
    exact ⟨A, c, rfl, IntsF.own ho, hb⟩
  have CO : Hid (u.d.left ≠ 0 → ∀ w1, Below w.heap.size w w1 → Calls Try.prog 26 #[.agg u.oldL.toArray] w1 fun e w' => ∃ NA nc XA xc, e = .returned (.agg (u.d.old.lst NA nc XA xc).toArray) ∧ NetF w1.heap.size w' u.d.old NA XA ∧ NetT w' u.d.old NA XA ∧ Below w1.heap.size w1 w') := fun h0 w1 hb => st_cloneNet u.d.old u.MA u.YA u.mc u.yc w1 (hu.old.grow hb) (by
    obtain ⟨-, -, -, -, -, h | h⟩ := hg
    · exact absurd h.1 h0
    · exact h.2.1)
  have HG := Lib.hid hg
  have hleft : 0 ≤ u.d.left := hg.2.2.2.2.1.1
  clear hu hg
  by_cases hl0 : u.d.left = 0
  · have hlt : decide ((0 : Int) < u.d.left) = false := decide_eq_false (by omega)
    obtain ⟨hz, hf⟩ : u.d.old = NetD.zero ∧ u.d.f = [] := by
      obtain ⟨-, -, -, -, -, h | h⟩ := HG.out
      · exact ⟨NetD.isZero_iff.1 h.2.2.1, List.eq_nil_of_length_eq_zero h.2.2.2⟩
      · exact absurd hl0 h.1
    have HD3 : Hid ({ u.d with old := NetD.zero, f := [] } = u.d) := by show _ = _; rw [← hz, ← hf]
    clear hz hf
    go_enter Try.func44, Try.ntmps44
    go_upto_region 1 with fail
    change Code.wp _ _ _ _ ((w.alloc (.cells u.cells.toArray 39)).alloc (.cells StrA.zero.cells.toArray 39))
    obtain ⟨bx0, bz0, hb0, hs0⟩ := entry2 w u
    generalize ((w.alloc (.cells u.cells.toArray 39)).alloc (.cells StrA.zero.cells.toArray 39)) = W0 at bx0 bz0 hb0 hs0 ⊢
    have BX0 := Lib.hid bx0
    have BZ0 := Lib.hid bz0
    have HB0 := Lib.hid hb0
    clear bx0 bz0 hb0
    go_wp2_with (first
      | (refine ld_net BX0.out rfl _ rfl rfl ?_)
      | (go_at_call 26; (with_reducible refine (CN.out _ HB0.out).mono ?_); rintro e w1 ⟨NB, nb, XB, xb, rfl, hn1, -, hb1⟩; have bx1 := BX0.out.keep hb1; have bz1 := BZ0.out.keep hb1; have hw1 := below_then HB0.out hb1; have hs1 := hb1.size)
      | (refine st_net bx1 rfl _ _ rfl rfl rfl ?_; intro W1 bx2 pg2; have bz2 := bz1.away pg2 (by omega); have hw2 := put_facts hw1 (Nat.le_refl _) pg2; have hn2 := (hn1.base (b' := w.heap.size + 2) hs0).away pg2 (by omega); have hs2 := pg2.size; obtain ⟨r1, r2, r3, r4, r5⟩ := bx2.rest)
      | (go_at_call 40; (with_reducible refine (CS.out _ hw2).mono ?_); rintro e w3 ⟨SB, sb, rfl, hi3, hb3⟩; have bx3 := bx2.keep hb3; have bz3 := bz2.keep hb3; have hw3 := below_then hw2 hb3; have hn3 := hn2.grow hb3; have hs3 := hb3.size; obtain ⟨r1, r2, r3, r4, r5⟩ := bx3.rest; have hf3 := bx3.2.2; have hl3 := bx3.1; obtain ⟨bx4, pg4⟩ := bx3.setS SB u.d.s sb _ rfl; have bz4 := bz3.away pg4 (by omega); have hw4 := put_facts hw3 (Nat.le_refl _) pg4; have hn4 := hn3.away pg4 (by omega); have hi4 := (hi3.base (b' := w.heap.size + 2) (by omega)).away pg4 (by omega); have hs4 := pg4.size)
      | (refine st_old bx4 (n := NetD.zero) (NB := none) (nb := 0) (XB := none) (xb := 0) rfl _ _ rfl rfl rfl ?_; intro W5 bx5 pg5; have bz5 := bz4.away pg5 (by omega); have hw5 := put_facts hw4 (Nat.le_refl _) pg5; have hn5 := hn4.away pg5 (by omega); have hi5 := hi4.away pg5 (by omega); have hs5 := pg5.size; obtain ⟨r1, r2, r3, r4, r5⟩ := bx5.rest; have hf5 := bx5.2.2; have hl5 := bx5.1; obtain ⟨bx6, pg6⟩ := bx5.setF none [] 0 0 rfl; have bz6 := bz5.away pg6 (by omega); have hw6 := put_facts hw5 (Nat.le_refl _) pg6; have hn6 := hn5.away pg6 (by omega); have hi6 := hi5.away pg6 (by omega); have hs6 := pg6.size)
      | (refine ld_str bx6 rfl _ rfl rfl ?_)
      | (refine st_str bz6 rfl _ _ rfl rfl rfl ?_; intro W7 bz7 pg7; have hw7 := put_facts hw6 (Nat.le_succ _) pg7; have hn7 := hn6.away pg7 (by omega); have hi7 := hi6.away pg7 (by omega)))
    have hres := res_str bz7
    refine bodyPost_ret (v := StrA.v { u with d := { u.d with old := NetD.zero, f := [] }, NA := NB, nc := nb, XA := XB, xc := xb, SA := SB, sc := sb, MA := none, mc := 0, YA := none, yc := 0, FA := none, fc := 0 }) (results_c rfl _ _ _ rfl hres) rfl ?_
    exact ⟨_, rfl, HD3.out, ⟨hn7.base (by omega), NetF.zero, hi7.base (by omega), IntsF.nil, by show u.d.s.length ≤ _; omega, by show 0 ≤ _; omega⟩, hw7⟩
  · have hlt : decide ((0 : Int) < u.d.left) = true := decide_eq_true (by omega)
    go_enter Try.func44, Try.ntmps44
    go_upto_region 1 with fail
    change Code.wp _ _ _ _ ((w.alloc (.cells u.cells.toArray 39)).alloc (.cells StrA.zero.cells.toArray 39))
    obtain ⟨bx0, bz0, hb0, hs0⟩ := entry2 w u
    generalize ((w.alloc (.cells u.cells.toArray 39)).alloc (.cells StrA.zero.cells.toArray 39)) = W0 at bx0 bz0 hb0 hs0 ⊢
    have BX0 := Lib.hid bx0
    have BZ0 := Lib.hid bz0
    have HB0 := Lib.hid hb0
    clear bx0 bz0 hb0
    go_wp2_with (first
      | (refine ld_net BX0.out rfl _ rfl rfl ?_)
      | (go_at_call 26; (with_reducible refine (CN.out _ HB0.out).mono ?_); rintro e w1 ⟨NB, nb, XB, xb, rfl, hn1, -, hb1⟩; have bx1 := BX0.out.keep hb1; have bz1 := BZ0.out.keep hb1; have hw1 := below_then HB0.out hb1; have hs1 := hb1.size)
      | (refine st_net bx1 rfl _ _ rfl rfl rfl ?_; intro W1 bx2 pg2; have bz2 := bz1.away pg2 (by omega); have hw2 := put_facts hw1 (Nat.le_refl _) pg2; have hn2 := (hn1.base (b' := w.heap.size + 2) hs0).away pg2 (by omega); have hs2 := pg2.size; obtain ⟨r1, r2, r3, r4, r5⟩ := bx2.rest)
      | (go_at_call 40; (with_reducible refine (CS.out _ hw2).mono ?_); rintro e w3 ⟨SB, sb, rfl, hi3, hb3⟩; have bx3 := bx2.keep hb3; have bz3 := bz2.keep hb3; have hw3 := below_then hw2 hb3; have hn3 := hn2.grow hb3; have hs3 := hb3.size; obtain ⟨r1, r2, r3, r4, r5⟩ := bx3.rest; have hf3 := bx3.2.2; have hl3 := bx3.1; obtain ⟨bx4, pg4⟩ := bx3.setS SB u.d.s sb _ rfl; have bz4 := bz3.away pg4 (by omega); have hw4 := put_facts hw3 (Nat.le_refl _) pg4; have hn4 := hn3.away pg4 (by omega); have hi4 := (hi3.base (b' := w.heap.size + 2) (by omega)).away pg4 (by omega); have hs4 := pg4.size)
      | (refine ld_old bx4 rfl _ rfl rfl ?_)
      | (go_at_call 26; refine (CO.out hl0 _ hw4).mono ?_; rintro e w5 ⟨MB, mb, YB, yb, rfl, ho5, -, hb5⟩; have bx5 := bx4.keep hb5; have bz5 := bz4.keep hb5; have hw5 := below_then hw4 hb5; have hs5 := hb5.size; have hn5 := hn4.grow hb5; have hi5 := hi4.grow hb5)
      | (refine st_old bx5 rfl _ _ rfl rfl rfl ?_; intro W6 bx6 pg6; have bz6 := bz5.away pg6 (by omega); have hw6 := put_facts hw5 (Nat.le_refl _) pg6; have hn6 := hn5.away pg6 (by omega); have hi6 := hi5.away pg6 (by omega); have ho6 := (ho5.base (b' := w.heap.size + 2) (by omega)).away pg6 (by omega); have hs6 := pg6.size; obtain ⟨r1, r2, r3, r4, r5⟩ := bx6.rest)
      | (go_at_call 40; (with_reducible refine (CF.out _ hw6).mono ?_); rintro e w7 ⟨FB, fb, rfl, hf7, hb7⟩; have bx7 := bx6.keep hb7; have bz7 := bz6.keep hb7; have hw7 := below_then hw6 hb7; have hn7 := hn6.grow hb7; have hi7 := hi6.grow hb7; have ho7 := ho6.grow hb7; have hs7 := hb7.size; obtain ⟨r1, r2, r3, r4, r5⟩ := bx7.rest; have hfr7 := bx7.2.2; have hl7 := bx7.1; obtain ⟨bx8, pg8⟩ := bx7.setF FB u.d.f fb _ rfl; have bz8 := bz7.away pg8 (by omega); have hw8 := put_facts hw7 (Nat.le_refl _) pg8; have hn8 := hn7.away pg8 (by omega); have hi8 := hi7.away pg8 (by omega); have ho8 := ho7.away pg8 (by omega); have hf8 := (hf7.base (b' := w.heap.size + 2) (by omega)).away pg8 (by omega); have hs8 := pg8.size)
      | (refine ld_str bx8 rfl _ rfl rfl ?_)
      | (refine st_str bz8 rfl _ _ rfl rfl rfl ?_; intro W9 bz9 pg9; have hw9 := put_facts hw8 (Nat.le_succ _) pg9; have hn9 := hn8.away pg9 (by omega); have hi9 := hi8.away pg9 (by omega); have ho9 := ho8.away pg9 (by omega); have hf9 := hf8.away pg9 (by omega)))
    have hres := res_str bz9
    refine bodyPost_ret (v := StrA.v { u with NA := NB, nc := nb, XA := XB, xc := xb, SA := SB, sc := sb, MA := MB, mc := mb, YA := YB, yc := yb, FA := FB, fc := fb }) (results_c rfl _ _ _ rfl hres) rfl ?_
    exact ⟨_, rfl, rfl, ⟨hn9.base (by omega), ho9.base (by omega), hi9.base (by omega), hf9.base (by omega), by show u.d.s.length ≤ _; omega, by show u.d.f.length ≤ _; omega⟩, hw9⟩
end Go.Proofs.Ytgabfdappeakiaa
end
