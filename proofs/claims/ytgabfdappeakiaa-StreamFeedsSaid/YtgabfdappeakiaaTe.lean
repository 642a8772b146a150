/- The walks of the closures of samples of package stream. -/
import Derived.Test.YtgabfdappeakiaaTd
import Derived.Test.YtgabfdappeakiaaPc
set_option linter.unusedVariables false
set_option linter.unusedSimpArgs false
namespace Go.Proofs.Ytgabfdappeakiaa
open Go.RowKit

/-- A step of a network, in short words. -/
def StepOk (f : FuncId) : Prop := ∀ (n : NetD) (NA XA SA : Option Addr) (nc xc sc : Nat) (s : List Int) (x : Int) (w : World), NetAt w n NA XA → Ints w SA s → n.ok = true → n.state s = true → fitsW n.d0 n.d1 n.d2 n.d3 x = true →
  Calls Try.prog f #[.agg (n.lst NA nc XA xc).toArray, .slice SA s.length sc, .int .i64 x] w fun e w' => ∃ A c o, e = .returned (.tuple #[.slice A (n.follow s x).length c, .int .i64 (n.outp s x), .bool o, .int .i64 0]) ∧ IntsF w.heap.size w' A (n.follow s x) ∧ Below w.heap.size w w'
theorem nw_StepOk : StepOk 46 := fun n NA XA SA nc xc sc s x w hn hs hok hst hx => by
  obtain ⟨h1, h2⟩ := state_iff.1 hst
  refine (nw_Step n.d0 n.d1 n.d2 n.d3 n.c0 n.c1 n.c2 n.c3 n.st n.out x NA XA SA nc xc s.length sc n.ns n.nx s w hok hn.nodes hn.next hs rfl h1 h2 hx hn.n3).mono ?_
  rintro e w' ⟨A, c, rfl, hi, hf, hb⟩
  exact ⟨A, c, _, rfl, ⟨hi, hf⟩, hb⟩
theorem r22_StepOk : StepOk 33 := fun n NA XA SA nc xc sc s x w hn hs hok hst hx => by
  obtain ⟨h1, h2⟩ := state_iff.1 hst
  refine (r22_Step n.d0 n.d1 n.d2 n.d3 n.c0 n.c1 n.c2 n.c3 n.st n.out x NA XA SA nc xc s.length sc n.ns n.nx s w hok hn.nodes hn.next hs rfl h1 h2 hx hn.n3).mono ?_
  rintro e w' ⟨A, c, rfl, hi, hf, hb⟩
  exact ⟨A, c, _, rfl, ⟨hi, hf⟩, hb⟩
theorem grown_via {w w1 w2 : World} {g : Nat} (hb1 : Below w.heap.size w w1) (pg2 : w1.grownBy w2 (some g)) : w.grownBy w2 (some g) :=
  ⟨pg2.os.trans hb1.os, pg2.tape.trans hb1.tape, pg2.output.trans hb1.output, Nat.le_trans hb1.size pg2.size, fun k hk hne => (pg2.block k (Nat.lt_of_lt_of_le hk hb1.size) hne).trans (hb1.block k hk)⟩
theorem grown_two {w w1 w2 : World} {g : Nat} (h1 : w.grownBy w1 (some g)) (h2 : w1.grownBy w2 (some g)) : w.grownBy w2 (some g) :=
  ⟨h2.os.trans h1.os, h2.tape.trans h1.tape, h2.output.trans h1.output, Nat.le_trans h1.size h2.size, fun k hk hne => (h2.block k (Nat.lt_of_lt_of_le hk h1.size) hne).trans (h1.block k hk hne)⟩
theorem grown_ext {w w1 w2 : World} {g : Nat} (h1 : w.grownBy w1 (some g)) (h2 : Below w1.heap.size w1 w2) : w.grownBy w2 (some g) :=
  ⟨h2.os.trans h1.os, h2.tape.trans h1.tape, h2.output.trans h1.output, Nat.le_trans h1.size h2.size, fun k hk hne => (h2.block k (Nat.lt_of_lt_of_le hk h1.size)).trans (h1.block k hk hne)⟩
set_option maxRecDepth 100000 in
set_option maxHeartbeats 1000000 in
theorem sa_single (u : StrA) (x : Int) (g : Nat) (w : World) (hb : StrBox w g u) (hn : NetAt w u.d.net u.NA u.XA) (hs : Ints w u.SA u.d.s) (hok : u.d.net.ok = true) (hst : u.d.net.state u.d.s = true) (hx : fitsW u.d.net.d0 u.d.net.d1 u.d.net.d2 u.d.net.d3 x = true) :
    Calls Try.prog 45 #[.int .i64 x, .pointer (some ⟨g, 0, none⟩)] w fun e w' => ∃ A c, e = .returned (.tuple #[.int .i64 (u.d.net.outp u.d.s x), .int .i64 0]) ∧ StrBox w' g { u with d := { u.d with s := u.d.net.follow u.d.s x }, SA := A, sc := c } ∧ IntsF w.heap.size w' A (u.d.net.follow u.d.s x) ∧ w.grownBy w' (some g) := by
  have CS : Hid (Calls Try.prog 46 #[.agg u.netL.toArray, .slice u.SA u.d.s.length u.sc, .int .i64 x] w fun e w' => ∃ A c o, e = .returned (.tuple #[.slice A (u.d.net.follow u.d.s x).length c, .int .i64 (u.d.net.outp u.d.s x), .bool o, .int .i64 0]) ∧ IntsF w.heap.size w' A (u.d.net.follow u.d.s x) ∧ Below w.heap.size w w') := nw_StepOk u.d.net u.NA u.XA u.SA u.nc u.xc u.sc u.d.s x w hn hs hok hst hx
  have HB := Lib.hid hb
  have hlt := hb.1
  obtain ⟨r1, r2, r3, r4, r5⟩ := hb.rest
  clear hb hn hs hok hst hx
  go_enter Try.func45, Try.ntmps45
  go_wp2_with (first
    | (refine ld_net HB.out rfl _ rfl rfl ?_)
    | (go_at_call 46; (with_reducible refine CS.out.mono ?_); rintro e w1 ⟨A, c, o, rfl, hi1, hb1⟩; have bx1 := HB.out.keep hb1; obtain ⟨r1, r2, r3, r4, r5⟩ := bx1.rest; have hf1 := bx1.2.2; have hl1 := bx1.1))
  obtain ⟨bx2, pg2⟩ := bx1.setS A (u.d.net.follow u.d.s x) c _ rfl
  go_ret2
  exact ⟨A, c, rfl, bx2, hi1.away pg2 hlt, ⟨pg2.os.trans hb1.os, pg2.tape.trans hb1.tape, pg2.output.trans hb1.output, Nat.le_trans hb1.size pg2.size, fun k hk hne => (pg2.block k (Nat.lt_of_lt_of_le hk hb1.size) hne).trans (hb1.block k hk)⟩⟩
/-- One sample of a crossfade. -/
def StrD.fadeStep (d : StrD) (x : Int) : StrD := if d.left = 1 then ⟨d.net, NetD.zero, d.net.follow d.s x, [], 0, 0, d.ev⟩ else ⟨d.net, d.old, d.net.follow d.s x, d.old.follow d.f x, d.fade, d.left - 1, d.ev⟩
/-- A call moves a stream that lies in block g to d and hands back a number. -/
def RetMove (w : World) (g : Nat) (u0 : StrA) (d : StrD) (y : Int) (e : Ending) (w' : World) : Prop := ∃ u : StrA, e = .returned (.tuple #[.int .i64 y, .int .i64 0]) ∧ u.d = d ∧ (u.NA = u0.NA ∧ u.XA = u0.XA) ∧ (d.left ≠ 0 → u.MA = u0.MA ∧ u.YA = u0.YA) ∧ StrBox w' g u ∧ IntsF w.heap.size w' u.SA d.s ∧ IntsF w.heap.size w' u.FA d.f ∧ w.grownBy w' (some g)
set_option maxRecDepth 100000 in
set_option maxHeartbeats 2000000 in
theorem sa_both (u : StrA) (x : Int) (g q : Nat) (w : World) (hb : StrBox w g u) (hq : w.cell? ⟨q, 0, none⟩ = some (.func (.func 45) #[] #[.pointer (some ⟨g, 0, none⟩)])) (hn : NetAt w u.d.net u.NA u.XA) (hs : Ints w u.SA u.d.s)
    (ho : ∀ w', w.grownBy w' (some g) → NetAt w' u.d.old u.MA u.YA) (hf : ∀ w', w.grownBy w' (some g) → Ints w' u.FA u.d.f) (hok : u.d.net.ok = true) (hst : u.d.net.state u.d.s = true) (hx : fitsW u.d.net.d0 u.d.net.d1 u.d.net.d2 u.d.net.d3 x = true)
    (hok2 : u.d.old.ok = true) (hst2 : u.d.old.state u.d.f = true) (hx2 : fitsW u.d.old.d0 u.d.old.d1 u.d.old.d2 u.d.old.d3 x = true) (hl : 1 ≤ u.d.left ∧ u.d.left ≤ u.d.fade ∧ u.d.fade ≤ 4096)
    (hm : mixE (u.d.old.outp u.d.f x) (u.d.net.outp u.d.s x) (u.d.fade - u.d.left + 1) u.d.fade = 0) :
    Calls Try.prog 47 #[.int .i64 x, .pointer (some ⟨q, 0, none⟩), .pointer (some ⟨g, 0, none⟩)] w
      (RetMove w g u (u.d.fadeStep x) (mixV (u.d.old.outp u.d.f x) (u.d.net.outp u.d.s x) (u.d.fade - u.d.left + 1) u.d.fade)) := by
  obtain ⟨Y, hY⟩ : ∃ Y, u.d.net.outp u.d.s x = Y := ⟨_, rfl⟩
  obtain ⟨Z, hZ⟩ : ∃ Z, u.d.old.outp u.d.f x = Z := ⟨_, rfl⟩
  have by1 := outp_23 hok hst hx
  have bz1 := outp_23 hok2 hst2 hx2
  rw [hY] at by1
  rw [hZ] at bz1
  have CS : Hid (Calls Try.prog 45 #[.int .i64 x, .pointer (some ⟨g, 0, none⟩)] w fun e w' => ∃ A c, e = .returned (.tuple #[.int .i64 Y, .int .i64 0]) ∧ StrBox w' g { u with d := { u.d with s := u.d.net.follow u.d.s x }, SA := A, sc := c } ∧ IntsF w.heap.size w' A (u.d.net.follow u.d.s x) ∧ w.grownBy w' (some g)) := by
    have := sa_single u x g w hb hn hs hok hst hx
    rw [hY] at this; exact this
  have CO : Hid (∀ w1, w.grownBy w1 (some g) → Calls Try.prog 46 #[.agg u.oldL.toArray, .slice u.FA u.d.f.length u.fc, .int .i64 x] w1 fun e w' => ∃ A c o, e = .returned (.tuple #[.slice A (u.d.old.follow u.d.f x).length c, .int .i64 Z, .bool o, .int .i64 0]) ∧ IntsF w1.heap.size w' A (u.d.old.follow u.d.f x) ∧ Below w1.heap.size w1 w') := fun w1 h => by
    have := nw_StepOk u.d.old u.MA u.YA u.FA u.mc u.yc u.fc u.d.f x w1 (ho w1 h) (hf w1 h) hok2 hst2 hx2
    rw [hZ] at this; exact this
  rw [hY, hZ] at hm ⊢
  obtain ⟨V, hV⟩ : ∃ V, mixV Z Y (u.d.fade - u.d.left + 1) u.d.fade = V := ⟨_, rfl⟩
  have CM : Hid (∀ w1 s, s = u.d.fade - u.d.left + 1 → Calls Try.prog 16 #[.int .i64 Z, .int .i64 Y, .int .i64 s, .int .i64 u.d.fade] w1 fun e w' => e = .returned (.tuple #[.int .i64 V, .int .i64 0]) ∧ Below w1.heap.size w1 w') := fun w1 s e => by
    subst e
    have := st_Mix Z Y (u.d.fade - u.d.left + 1) u.d.fade w1 ⟨by omega, by omega⟩ ⟨by omega, by omega⟩
    rw [hm, hV] at this; exact this
  rw [hV]
  obtain ⟨l1, l2, l3⟩ := hl
  have HB := Lib.hid hb
  have hlt := hb.1
  obtain ⟨r1, r2, r3, r4, r5⟩ := hb.rest
  clear hb hn hs ho hf hok hst hx hok2 hst2 hx2 hY hZ hV hm by1 bz1
  by_cases hl1 : u.d.left = 1
  · have HD : Hid (u.d.fadeStep x = ⟨u.d.net, NetD.zero, u.d.net.follow u.d.s x, [], 0, 0, u.d.ev⟩) := if_pos hl1
    rw [HD.out]
    go_enter Try.func47, Try.ntmps47
    go_wp2_with (first
      | (go_at_call 45; (with_reducible refine CS.out.mono ?_); rintro e w1 ⟨A, c, rfl, bx1, hi1, pg1⟩; obtain ⟨r1, r2, r3, r4, r5⟩ := bx1.rest; have hs1 := pg1.size)
      | (refine ld_old bx1 rfl _ rfl rfl ?_)
      | (go_at_call 46; refine (CO.out w1 pg1).mono ?_; rintro e w2 ⟨B, bc, o, rfl, hi2, hb2⟩; have bx2 := bx1.keep hb2; have hj2 := hi1.grow hb2; have pg2 := grown_ext pg1 hb2; obtain ⟨r1, r2, r3, r4, r5⟩ := bx2.rest; have hs2 := hb2.size)
      | (go_at_call 16; (with_reducible refine (CM.out _ _ (by omega)).mono ?_); rintro e w3 ⟨rfl, hb3⟩; have bx3 := bx2.keep hb3; have hi3 := hi2.grow hb3; have hj3 := hj2.grow hb3; have pg3 := grown_ext pg2 hb3; obtain ⟨r1, r2, r3, r4, r5⟩ := bx3.rest; have hf3 := bx3.2.2; have hl3 := bx3.1; obtain ⟨bx4, pg4⟩ := bx3.setF B (u.d.old.follow u.d.f x) bc _ rfl; obtain ⟨bx5, pg5⟩ := bx4.setLeft 0; obtain ⟨bx6, pg6⟩ := bx5.setFade 0)
      | (refine st_old bx6 (n := NetD.zero) (NB := none) (nb := 0) (XB := none) (xb := 0) rfl _ _ rfl rfl rfl ?_; intro W7 bx7 pg7; obtain ⟨r1, r2, r3, r4, r5⟩ := bx7.rest; have hf7 := bx7.2.2; have hl7 := bx7.1; obtain ⟨bx8, pg8⟩ := bx7.setF none [] 0 0 rfl))
    go_ret2
    refine ⟨_, rfl, ?_, ⟨?_, ?_⟩, fun h => absurd rfl h, bx8, ?_, IntsF.nil, ?_⟩
    · rfl
    · rfl
    · rfl
    · exact ((((((hj3.away pg4 hlt).away pg5 hlt).away pg6 hlt).away pg7 hlt).away pg8 hlt))
    · exact grown_two (grown_two (grown_two (grown_two (grown_two pg3 pg4) pg5) pg6) pg7) pg8
  · have HD : Hid (u.d.fadeStep x = ⟨u.d.net, u.d.old, u.d.net.follow u.d.s x, u.d.old.follow u.d.f x, u.d.fade, u.d.left - 1, u.d.ev⟩) := if_neg hl1
    rw [HD.out]
    go_enter Try.func47, Try.ntmps47
    go_wp2_with (first
      | (go_at_call 45; (with_reducible refine CS.out.mono ?_); rintro e w1 ⟨A, c, rfl, bx1, hi1, pg1⟩; obtain ⟨r1, r2, r3, r4, r5⟩ := bx1.rest; have hs1 := pg1.size)
      | (refine ld_old bx1 rfl _ rfl rfl ?_)
      | (go_at_call 46; refine (CO.out w1 pg1).mono ?_; rintro e w2 ⟨B, bc, o, rfl, hi2, hb2⟩; have bx2 := bx1.keep hb2; have hj2 := hi1.grow hb2; have pg2 := grown_ext pg1 hb2; obtain ⟨r1, r2, r3, r4, r5⟩ := bx2.rest; have hs2 := hb2.size)
      | (go_at_call 16; (with_reducible refine (CM.out _ _ (by omega)).mono ?_); rintro e w3 ⟨rfl, hb3⟩; have bx3 := bx2.keep hb3; have hi3 := hi2.grow hb3; have hj3 := hj2.grow hb3; have pg3 := grown_ext pg2 hb3; obtain ⟨r1, r2, r3, r4, r5⟩ := bx3.rest; have hf3 := bx3.2.2; have hl3 := bx3.1; obtain ⟨bx4, pg4⟩ := bx3.setF B (u.d.old.follow u.d.f x) bc _ rfl; obtain ⟨bx5, pg5⟩ := bx4.setLeft (u.d.left - 1)))
    go_ret2
    refine ⟨_, rfl, ?_, ⟨?_, ?_⟩, ?_, bx5, ?_, ?_, ?_⟩
    · rfl
    · rfl
    · rfl
    · exact fun _ => ⟨rfl, rfl⟩
    · exact (hj3.away pg4 hlt).away pg5 hlt
    · exact ((hi3.base (b' := w.heap.size) (by omega)).away pg4 hlt).away pg5 hlt
    · exact grown_two (grown_two pg3 pg4) pg5
end Go.Proofs.Ytgabfdappeakiaa
