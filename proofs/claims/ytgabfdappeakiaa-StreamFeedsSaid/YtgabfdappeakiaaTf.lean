/- The walk of samples of package stream. -/
import Derived.Test.YtgabfdappeakiaaTe
import Derived.Laws.EntriesVeiled
set_option linter.unusedVariables false
set_option linter.unusedSimpArgs false
namespace Go.Proofs.Ytgabfdappeakiaa
open Go.RowKit

/-- The error of a block of samples. -/
def StrD.sampE (d : StrD) (x : List Int) : Int := if x.length ≤ 4096 then (if d.net.fit x = true then 0 else 17) else 4
/-- What a block of samples leaves. -/
def StrD.sampD (d : StrD) (x : List Int) : StrD := if d.sampE x = 0 then d.step x x.length else StrD.zero
def StrD.sampO (d : StrD) (x : List Int) : List Int := if d.sampE x = 0 then d.outS x x.length else []
/-- A call hands back a stream, outputs and an error. -/
def RetFeed (w : World) (d : StrD) (l : List Int) (E : Int) (e : Ending) (w' : World) : Prop := ∃ (u : StrA) (A : Option Addr) (c : Nat), e = .returned (.tuple #[u.v, .slice A l.length c, .int .i64 E]) ∧ u.d = d ∧ StrF w.heap.size w' u ∧ IntsF w.heap.size w' A l ∧ Below w.heap.size w w'
/-- Numbers that lie neither in block g nor in the block of v. -/
def IntsV (b g : Nat) (v : Value) (w : World) (A : Option Addr) (l : List Int) : Prop := Ints w A l ∧ (l ≠ [] → ∀ a, A = some a → b ≤ a.block ∧ a.block ≠ g ∧ some a.block ≠ v.ownBlock)
theorem ints_kept {w w' : World} {A : Option Addr} {l : List Int} {r : Option Nat} (h : Ints w A l) (hg : w.grownBy w' r) (hn : l ≠ [] → ∀ a, A = some a → some a.block ≠ r) : Ints w' A l := by
  refine ⟨fun k v hk => ?_, h.2⟩
  obtain ⟨ad, e, hb, hc⟩ := h.1 k v hk
  have hl : l ≠ [] := by rintro rfl; simp at hk
  exact ⟨ad, e, Nat.lt_of_lt_of_le hb hg.size, hg.cell hc (by rw [block_add]; exact hn hl ad e)⟩
theorem ints_block {w : World} {A : Option Addr} {l : List Int} (h : Ints w A l) (hl : l ≠ []) {a : Addr} (e : A = some a) : a.block < w.heap.size := by
  obtain ⟨ad, _, e', hb, _⟩ := h.at_ (k := 0) (List.length_pos_iff.2 hl)
  rw [e] at e'; injection e' with e'; subst e'; exact hb
theorem IntsV.app {b g : Nat} {v v' : Value} {w w' : World} {A : Option Addr} {l : List Int} (h : IntsV b g v w A l) (hg : w.grownBy w' v.ownBlock) (hv : v'.ownBlock = v.ownBlock ∨ v'.ownBlock = some w.heap.size) : IntsV b g v' w' A l := by
  refine ⟨ints_kept h.1 hg (fun hl a ha => (h.2 hl a ha).2.2), fun hl a ha => ⟨(h.2 hl a ha).1, (h.2 hl a ha).2.1, ?_⟩⟩
  rcases hv with hv | hv
  · rw [hv]; exact (h.2 hl a ha).2.2
  · rw [hv]; intro e; injection e with e; have := ints_block h.1 hl ha; omega
theorem IntsV.away {b g : Nat} {v : Value} {w w' : World} {A : Option Addr} {l : List Int} (h : IntsV b g v w A l) (hg : w.grownBy w' (some g)) : Ints w' A l := ints_kept h.1 hg (fun hl a ha e => by injection e with e; exact (h.2 hl a ha).2.1 e)
theorem IntsV.keep {b g : Nat} {v : Value} {w w' : World} {A : Option Addr} {l : List Int} (h : IntsV b g v w A l) (hb : Below w.heap.size w w') : IntsV b g v w' A l := ⟨h.1.grow hb, h.2⟩
theorem IntsV.of {b b' g : Nat} {v : Value} {w : World} {A : Option Addr} {l : List Int} (h : IntsF b' w A l) (hb : b ≤ b') (hg : g < b') (hv : ∀ k, v.ownBlock = some k → k < b') : IntsV b g v w A l :=
  ⟨h.1, fun hl a ha => ⟨Nat.le_trans hb (h.2 hl a ha), by have := h.2 hl a ha; omega, fun e => by have := hv _ e.symm; have := h.2 hl a ha; omega⟩⟩
theorem IntsV.old {b g : Nat} {v : Value} {w w' : World} {A : Option Addr} {l : List Int} (h : IntsF b w A l) (hg : w.heap.size = g) (hw : Below g w w') (hv : ∀ k, v.ownBlock = some k → g ≤ k) : IntsV b g v w' A l := by
  subst hg
  exact ⟨h.1.grow hw, fun hl a ha => by have := ints_block h.1 hl ha; exact ⟨h.2 hl a ha, by omega, fun e => by have := hv _ e.symm; omega⟩⟩
theorem IntsV.fresh {b g : Nat} {v : Value} {w : World} {A : Option Addr} {l : List Int} (h : IntsV b g v w A l) : IntsF b w A l := ⟨h.1, fun hl a ha => (h.2 hl a ha).1⟩
theorem nblk_alloc' (w : World) (o : Obj) : (w.alloc o).heap.size = w.heap.size + 1 := by simp
/-- A stream that lies in block g behind k samples. -/
structure Midway (b : Nat) (w : World) (g : Nat) (v : Value) (d : StrD) (x : List Int) (k : Nat) (u0 u : StrA) : Prop where
  dd : u.d = d.step x k
  box : StrBox w g u
  n : u.NA = u0.NA ∧ u.XA = u0.XA
  m : (k : Int) < d.left → u.MA = u0.MA ∧ u.YA = u0.YA
  s : IntsV b g v w u.SA (d.stS x k)
  f : IntsV b g v w u.FA (d.step x k).f
theorem step_net (d : StrD) (x : List Int) (k : Nat) : (d.step x k).net = d.net := by unfold StrD.step; split <;> rfl
theorem step_s (d : StrD) (x : List Int) (k : Nat) : (d.step x k).s = d.stS x k := by unfold StrD.step; split <;> rfl
theorem step_next {d : StrD} {x : List Int} {k : Nat} {y : Int} (hk : x[k]? = some y) (h : (k : Int) < d.left) : (d.step x k).fadeStep y = d.step x (k + 1) := by
  rw [step_on h]
  unfold StrD.fadeStep
  by_cases h1 : d.left - k = 1
  · rw [if_pos h1, step_off (by omega), stS_succ hk]
  · rw [if_neg h1, step_on (by omega), stS_succ hk, stF_succ hk]
    simp only
    congr 1
    push_cast; omega
/-- One round: the closure that is taken moves the stream on. -/
theorem round_on {w0 w : World} {b g q k : Nat} {v : Value} {d : StrD} {x : List Int} {y : Int} {u0 u : StrA} (hg : d.Good) (hx : d.net.fit x = true) (hk : x[k]? = some y) (h : (k : Int) < d.left) (hM : Midway b w g v d x k u0 u) (h0 : StrAt w0 u0) (hd : u0.d = d) (hb : Below g w0 w) (hgs : w0.heap.size = g)
    (hq : w.cell? ⟨q, 0, none⟩ = some (.func (.func 45) #[] #[.pointer (some ⟨g, 0, none⟩)])) :
    Calls Try.prog 47 #[.int .i64 y, .pointer (some ⟨q, 0, none⟩), .pointer (some ⟨g, 0, none⟩)] w (RetMove w g u (d.step x (k + 1)) (d.outY x k y)) := by
  have hkx : k < x.length := (List.getElem?_eq_some_iff.1 hk).1
  have hy : fitsW d.net.d0 d.net.d1 d.net.d2 d.net.d3 y = true := List.all_eq_true.1 hx _ (List.mem_of_getElem? hk)
  have hl0 : d.left ≠ 0 := by omega
  have hso := step_on (x := x) h
  have hud := hM.dd
  rw [hso] at hud
  subst hgs
  have hnet : ∀ w', Below w0.heap.size w0 w' → NetAt w' u.d.net u.NA u.XA := fun w' hb' => by
    rw [hM.n.1, hM.n.2, hud]; have := h0.net.grow hb'; rw [hd] at this; exact this
  have hold : ∀ w', Below w0.heap.size w0 w' → NetAt w' u.d.old u.MA u.YA := fun w' hb' => by
    rw [(hM.m h).1, (hM.m h).2, hud]; have := h0.old.grow hb'; rw [hd] at this; exact this
  have hs : Ints w u.SA u.d.s := by rw [hud]; exact hM.s.1
  have hfs : (d.step x k).f = u.d.f := by rw [hM.dd]
  have hf2 := hM.f
  rw [hfs] at hf2
  have := sa_both u y w0.heap.size q w hM.box hq (hnet w hb) hs (fun w' hw => hold w' (hb.grown hw hb.size (fun k e => by injection e with e; omega)))
    (fun w' hw => hf2.away hw) (by rw [hud]; exact hg.1) (by rw [hud]; exact stS_state hg hx k (by omega)) (by rw [hud]; exact hy)
    (by rw [hud]; exact (good_old hg hl0).1) (by rw [hud]; exact stF_state hg hl0 hx k (by omega)) (by rw [hud]; show fitsW d.old.d0 d.old.d1 d.old.d2 d.old.d3 y = true; rw [same_fits (good_old hg hl0).2.1]; exact hy)
    (by rw [hud]; show 1 ≤ d.left - k ∧ d.left - k ≤ d.fade ∧ d.fade ≤ 4096; have := hg.2.2.2; omega) (by rw [hud]; exact (mix_ok hg hx hk h).1)
  rw [hM.dd, step_next hk h, hso] at this
  rw [outY_on h]
  exact this
theorem round_off {w0 w : World} {b g k : Nat} {v : Value} {d : StrD} {x : List Int} {y : Int} {u0 u : StrA} (hg : d.Good) (hx : d.net.fit x = true) (hk : x[k]? = some y) (h : ¬ (k : Int) < d.left) (hM : Midway b w g v d x k u0 u) (h0 : StrAt w0 u0) (hd : u0.d = d) (hb : Below g w0 w) (hgs : w0.heap.size = g) :
    Calls Try.prog 45 #[.int .i64 y, .pointer (some ⟨g, 0, none⟩)] w (RetMove w g u (d.step x (k + 1)) (d.outY x k y)) := by
  have hkx : k < x.length := (List.getElem?_eq_some_iff.1 hk).1
  have hy : fitsW d.net.d0 d.net.d1 d.net.d2 d.net.d3 y = true := List.all_eq_true.1 hx _ (List.mem_of_getElem? hk)
  have hso := step_off (x := x) h
  have hud := hM.dd
  rw [hso] at hud
  subst hgs
  have hnet : NetAt w u.d.net u.NA u.XA := by
    rw [hM.n.1, hM.n.2, hud]; have := h0.net.grow hb; rw [hd] at this; exact this
  have hs : Ints w u.SA u.d.s := by rw [hud]; exact hM.s.1
  refine (sa_single u y w0.heap.size w hM.box hnet hs (by rw [hud]; exact hg.1) (by rw [hud]; exact stS_state hg hx k (by omega)) (by rw [hud]; exact hy)).mono ?_
  rintro e w' ⟨A, c, rfl, hb', hi, hgr⟩
  refine ⟨_, by rw [outY_off h, hud], ?_, ⟨?_, ?_⟩, ?_, hb', ?_, ?_, hgr⟩
  · rw [step_off (by omega), stS_succ hk, hud]
  · rfl
  · rfl
  · rw [step_off (by omega)]; exact fun h => absurd rfl h
  · rw [step_s, stS_succ hk]; rw [hud] at hi; exact hi
  · rw [step_off (by omega)]; exact IntsF.nil
/-- What lies behind a stream midway. -/
theorem midway_str {w0 w : World} {b g k : Nat} {v : Value} {d : StrD} {x : List Int} {u0 u : StrA} (hg : d.Good) (hx : d.net.fit x = true) (hk : k ≤ x.length) (hM : Midway b w g v d x k u0 u) (h0 : StrF b w0 u0) (hd : u0.d = d) (hb : Below g w0 w) (hgs : w0.heap.size = g) : StrF b w u := by
  subst hgs
  have hs : u.d.s = d.stS x k := by rw [hM.dd, step_s]
  have hn : u.d.net = d.net := by rw [hM.dd, step_net]
  have hf : u.d.f = (d.step x k).f := by rw [hM.dd]
  have hlen : ∀ (n : NetD) (l : List Int), n.ok = true → n.state l = true → l.length ≤ 9223372036854775807 := fun n l h1 h2 => by
    obtain ⟨-, -, ⟨p1, p2⟩, -⟩ := netB_parts h1
    have := (state_iff.1 h2).1
    omega
  refine ⟨?_, ?_, ?_, ?_, ?_, ?_⟩
  · rw [hn, hM.n.1, hM.n.2]; have := h0.net.grow hb; rw [hd] at this; exact this
  · by_cases h : (k : Int) < d.left
    · rw [(hM.m h).1, (hM.m h).2, hM.dd, step_on h]; have := h0.old.grow hb; rw [hd] at this; exact this
    · rw [hM.dd, step_off h]; exact NetF.zero
  · rw [hs]; exact hM.s.fresh
  · rw [hf]; exact hM.f.fresh
  · rw [hs]; exact hlen _ _ hg.1 (stS_state hg hx k hk)
  · rw [hf]
    by_cases h : (k : Int) < d.left
    · rw [step_on h]; exact hlen _ _ (good_old hg (by omega)).1 (stF_state hg (by omega) hx k hk)
    · rw [step_off h]; show 0 ≤ _; omega
/-- Behind a round's append. -/
theorem midway_next {w0 w w7 w8 : World} {b g q k : Nat} {v v8 : Value} {d : StrD} {x : List Int} {y : Int} {F : Value} {u0 u u7 : StrA} {t : TypeId} (hk : x[k]? = some y) (hM : Midway b w g v d x k u0 u) (hO : Own (q + 1) w v (d.outS x k)) (hgq : g < q) (hbg : b ≤ g) (hgs : w0.heap.size = g) (hB : Below g w0 w) (hq : w.cell? ⟨q, 0, none⟩ = some F)
    (hd7 : u7.d = d.step x (k + 1)) (hn7 : u7.NA = u.NA ∧ u7.XA = u.XA) (hm7 : (d.step x (k + 1)).left ≠ 0 → u7.MA = u.MA ∧ u7.YA = u.YA) (bx7 : StrBox w7 g u7) (hs7 : IntsF w.heap.size w7 u7.SA (d.step x (k + 1)).s) (hf7 : IntsF w.heap.size w7 u7.FA (d.step x (k + 1)).f) (pg7 : w.grownBy w7 (some g))
    (hg8 : (w7.alloc (.cells #[.int .i64 (d.outY x k y)] t)).grownBy w8 v.ownBlock) (hv8 : v8.ownBlock = v.ownBlock ∨ v8.ownBlock = some (w7.alloc (.cells #[.int .i64 (d.outY x k y)] t)).heap.size) :
    Midway b w8 g v8 d x (k + 1) u0 u7 ∧ Below g w0 w8 ∧ w8.cell? ⟨q, 0, none⟩ = some F := by
  have hov : ∀ b, v.ownBlock = some b → q + 1 ≤ b ∧ b < w.heap.size := fun b hb => hO.1.lt b hb
  have hal : Below w7.heap.size w7 (w7.alloc (.cells #[.int .i64 (d.outY x k y)] t)) := (Below.refl _ _).alloc (Nat.le_refl _) _
  have hgw : g < w.heap.size := hM.box.1
  have hB7 : Below g w0 w7 := hB.grown pg7 (by omega) (fun b e => by injection e with e; omega)
  have hB8 : Below g w0 (w7.alloc (.cells #[.int .i64 (d.outY x k y)] t)) := hB7.alloc (by have := hB7.size; omega) _
  have hqw : q < w.heap.size := by
    by_cases h : q < w.heap.size
    · exact h
    · exfalso
      unfold World.cell? at hq
      simp only [Option.isSome_none] at hq
      rw [Array.getElem?_eq_none (by omega)] at hq
      simp at hq
  have hvo : ∀ b, v.ownBlock = some b → b < w.heap.size := fun b hb => (hov b hb).2
  refine ⟨⟨hd7, ?_, ⟨hn7.1.trans hM.n.1, hn7.2.trans hM.n.2⟩, ?_, ?_, ?_⟩, ?_, ?_⟩
  · exact Box.grown (bx7.keep hal).box hg8 (fun e => by have := hov g e.symm; omega)
  · intro h
    have h1 := hm7 (by rw [step_on h]; simp only; push_cast at h ⊢; omega)
    have h2 := hM.m (by push_cast at h; omega)
    exact ⟨h1.1.trans h2.1, h1.2.trans h2.2⟩
  · have := ((IntsV.of (b := b) (v := v) hs7 (by omega) hgw hvo).keep hal).app hg8 hv8
    rw [step_s] at this; exact this
  · exact ((IntsV.of (b := b) (v := v) hf7 (by omega) hgw hvo).keep hal).app hg8 hv8
  · exact hB8.grown hg8 (by have := hB8.size; omega) (fun b hb => by have := hov b hb; omega)
  · refine hg8.cell ((hal.cell (p := ⟨q, 0, none⟩) (by show q < _; have := pg7.size; omega)).trans (pg7.cell hq (by intro e; injection e with e; have : q = g := e; omega))) ?_
    intro e
    have := hov q e.symm
    omega
set_option maxRecDepth 100000 in
set_option maxHeartbeats 4000000 in
theorem st_samples (u : StrA) (BA : Option Addr) (bn bc : Nat) (x : List Int) (w : World) (hu : StrAt w u) (hg : u.d.Good) (hx : Ints w BA x) (hbn : x.length = bn) (hb9 : bn ≤ 9223372036854775807) :
    Calls Try.prog 28 #[u.v, .slice BA bn bc] w (RetFeed w (u.d.sampD x) (u.d.sampO x) (u.d.sampE x)) := by
  have HU := Lib.hid hu
  have HX := Lib.hid hx
  have HBN := Lib.hid hbn
  have HG := Lib.hid hg
  clear hu hx hbn hg
  by_cases hlong : bn ≤ 4096
  · have x1 : (bn : Int) ≤ 4096 := by omega
    go_enter Try.func28, Try.ntmps28
    go_upto_region 1 with fail
    change Code.wp _ _ _ _ ((w.alloc (.cells u.cells.toArray 39)).alloc (.cells StrA.zero.cells.toArray 39))
    obtain ⟨bx0, bz0, hb0, hs0⟩ := entry2 w u
    generalize ((w.alloc (.cells u.cells.toArray 39)).alloc (.cells StrA.zero.cells.toArray 39)) = W0 at bx0 bz0 hb0 hs0 ⊢
    have BX0 := Lib.hid bx0
    have BZ0 := Lib.hid bz0
    have HB0 := Lib.hid hb0
    clear bx0 bz0 hb0
    go_wp2_with fail
    clear x1
    go_loopw [24] (fun i wr => ∃ k : Nat, k ≤ bn ∧ i = .int .i64 k ∧ Hid (((x.take k).all fun v => fitsW u.d.net.d0 u.d.net.d1 u.d.net.d2 u.d.net.d3 v) = true) ∧ Hid (Below W0.heap.size W0 wr)) (fun i _ => bn - (intOf i).toNat)
    case atStart => exact ⟨0, Nat.zero_le _, rfl, rfl, Below.refl _ _⟩
    case round =>
      obtain ⟨k, hk, rfl, HA, HB⟩ := hrel
      have bx := BX0.out.keep HB.out
      obtain ⟨⟨a1, a2, a3, a4⟩, ⟨a5, a6, a7, a8⟩, a9, a10, a11, a12⟩ := bx.net
      have bz := BZ0.out.keep HB.out
      by_cases hlt : k < bn
      · obtain ⟨ad, y, rfl, hba, hy, hcy, y1, y2⟩ := (HX.out.grow (below_then HB0.out HB.out)).at_ (k := k) (by rw [HBN.out]; exact hlt)
        have HT := Lib.hid (take_succ_all hy (fun v => fitsW u.d.net.d0 u.d.net.d1 u.d.net.d2 u.d.net.d3 v))
        have HNO := Lib.hid (fun h => all_no (p := fun v => fitsW u.d.net.d0 u.d.net.d1 u.d.net.d2 u.d.net.d3 v) hy h)
        obtain ⟨fu, hfu⟩ : ∃ b, fitsW u.d.net.d0 u.d.net.d1 u.d.net.d2 u.d.net.d3 y = b := ⟨_, rfl⟩
        have FT : Hid (∀ w, Calls Try.prog 39 #[wordV u.d.net.d0 u.d.net.d1 u.d.net.d2 u.d.net.d3, .int .i64 y] w fun e w' => e = .returned (.bool fu) ∧ Below w.heap.size w w') := fun w => by have := fx_Fits u.d.net.d0 u.d.net.d1 u.d.net.d2 u.d.net.d3 y w; rw [hfu] at this; exact this
        have HF := Lib.hid hfu
        have q1 : (0 : Int) ≤ (k : Int) := by omega
        have q2 : (k : Int) < (bn : Int) := by omega
        have BZ := Lib.hid bz
        clear hy hfu bx bz a5 a6 a7 a8 a9 a10 a11 a12
        rcases fu with _ | _
        · go_wp2_with (first
            | (go_at_call 39; (with_reducible refine (FT.out _).mono ?_); rintro e w1 ⟨rfl, hb1⟩; have bz1 := BZ.out.keep hb1; have hw1 := below_then HB.out hb1)
            | (refine st_str bz1 (u' := StrA.zero) rfl _ _ rfl rfl rfl ?_; intro W2 bz2 pg2; have hw2 := put_facts (below_then HB0.out hw1) (Nat.le_succ _) pg2))
          have hres := res_str bz2
          refine bodyPost_ret (results_ctt rfl _ _ _ rfl hres) rfl ?_
          have hE : u.d.sampE x = 17 := by unfold StrD.sampE; rw [if_pos (by rw [HBN.out]; exact hlong), if_neg (by rw [show u.d.net.fit x = false from HNO.out HF.out]; decide)]
          unfold StrD.sampD StrD.sampO
          rw [hE]
          exact ⟨StrA.zero, none, 0, rfl, rfl, StrF.zero, IntsF.nil, hw2⟩
        · go_wp2_with (first | (go_at_call 39; (with_reducible refine (FT.out _).mono ?_); rintro e w1 ⟨rfl, hb1⟩))
          go_roundw
          case rel => exact ⟨k + 1, by omega, by go_num, by show _ = _; rw [HT.out, HA.out, HF.out]; rfl, below_then HB.out hb1⟩
          case measure => simp [intOf]; omega
      · have hkk : k = bn := by omega
        subst hkk
        have HFIT : Hid (u.d.net.fit x = true) := by have := HA.out; rw [← HBN.out, List.take_length] at this; exact this
        have BX := Lib.hid bx
        have hwr := below_then HB0.out HB.out
        have CC := Lib.hid (st_copyStream u wr (HU.out.grow hwr) HG.out)
        have HWR := Lib.hid hwr
        have BZ := Lib.hid bz
        have hmf : ∀ (fn : Fn) (first cap : Array Value) (w : World), (Instr.makeFunc fn first cap).run Try.prog w = .ok (.func fn first cap) w := fun _ _ _ _ => rfl
        clear bx bz hwr a1 a2 a3 a4 a5 a6 a7 a8 a9 a10 a11 a12
        go_upto_region 10 with (first
          | (refine ld_str BX.out rfl _ rfl rfl ?_)
          | (go_at_call 44; (with_reducible refine CC.out.mono ?_); rintro e w3 ⟨u3, rfl, hd3, hf3, hb3⟩; have hw3 := below_then HWR.out hb3; have bz3 := BZ.out.keep hb3; have hs3 := hb3.size; have bg : StrBox (w3.alloc (.cells StrA.zero.cells.toArray 39)) w3.heap.size StrA.zero := Box.new rfl; have bz4 : StrBox (w3.alloc (.cells StrA.zero.cells.toArray 39)) (w.heap.size + 1) StrA.zero := bz3.keep ((Below.refl _ _).alloc (Nat.le_refl _) _); have hb4 : Below w3.heap.size w3 (w3.alloc (.cells StrA.zero.cells.toArray 39)) := (Below.refl _ _).alloc (Nat.le_refl _) _; have hs4 : (w3.alloc (.cells StrA.zero.cells.toArray 39)).heap.size = w3.heap.size + 1 := nblk_alloc' _ _)
          | (refine st_str bg (u' := u3) rfl _ _ rfl rfl rfl ?_; intro W4 bg4 pg4))
        have hsw := HB.out.size
        have hb5 : Below w3.heap.size w3 W4 := hb4.grown pg4 hb4.size (fun k e => by injection e with e; omega)
        have bz5 := bz4.away pg4 (by omega)
        have hs5 : w3.heap.size + 1 ≤ W4.heap.size := by have := pg4.size; rw [nblk_alloc'] at this; omega
        clear bg bz4 hb4 hs4 pg4
        have hq0 : Box (W4.alloc (.cells #[.nilFunc] 84)) W4.heap.size [.nilFunc] := Box.new rfl
        have hq1 := hq0.2.1 0
        have hq2 := hq0.2.2 0
        simp only [List.getElem?_cons_zero] at hq1
        have HQ0 := Lib.hid hq0
        clear hq0
        go_upto_region 11 with fail
        have hb6 : Below W4.heap.size W4 (W4.alloc (.cells #[.func (.func 45) #[] #[.pointer (some ⟨w3.heap.size, 0, none⟩)]] 84)) := (Below.refl _ _).alloc (Nat.le_refl _) _
        have hq6 : Box (W4.alloc (.cells #[.func (.func 45) #[] #[.pointer (some ⟨w3.heap.size, 0, none⟩)]] 84)) W4.heap.size [.func (.func 45) #[] #[.pointer (some ⟨w3.heap.size, 0, none⟩)]] := Box.new rfl
        have bg6 := bg4.keep hb6
        have hw6 : Below w3.heap.size w3 (W4.alloc (.cells #[.func (.func 45) #[] #[.pointer (some ⟨w3.heap.size, 0, none⟩)]] 84)) := hb5.trans (hb6.mono hb5.size)
        obtain ⟨q, hqe⟩ : ∃ q, W4.heap.size = q := ⟨_, rfl⟩
        obtain ⟨g, hge⟩ : ∃ g, w3.heap.size = g := ⟨_, rfl⟩
        rw [hqe] at hq6 hb6 hs5
        rw [hqe]
        rw [hge] at hq6 hb6 bg6 hw6 hs5 hs3
        rw [hge]
        generalize (W4.alloc (.cells #[.func (.func 45) #[] #[.pointer (some ⟨g, 0, none⟩)]] 84)) = W6 at hq6 hb6 bg6 hw6 ⊢
        have HQ6 := Lib.hid hq6
        have BG6 := Lib.hid bg6
        have HW6 := Lib.hid hw6
        have HGE := Lib.hid hge
        have hsq := hq6.1
        clear hq1 hq2 HQ0 hb5 bz5 bg4 hq6 hb6 bg6 hw6 hqe hge
        have HDU : Hid (u3.d = u.d) := hd3
        have H3 := Lib.hid hf3
        have BZ3 := Lib.hid bz3
        have HW3 := Lib.hid hw3
        clear hd3 hf3 bz3 hw3 hb3
        go_wp2_with (at_make; refine mk_int0 rfl _ _ rfl (q + 1) k rfl rfl rfl (by omega) hsq ?_; intro w7 ho7 hb7)
        have HO7 := Lib.hid ho7
        have hB7 := HW6.out.trans (hb7.mono (by omega))
        have HB7 := Lib.hid hB7
        have hv7 : ∀ b, (Value.slice (some ⟨W6.heap.size, 0, none⟩) 0 k).ownBlock = some b → g ≤ b := fun b hb => by have := (HO7.out.1.lt b hb).1; omega
        have HM7 : Hid (Midway wr.heap.size w7 g (.slice (some ⟨W6.heap.size, 0, none⟩) 0 k) u.d x 0 u3 u3) := by
          have hso : (u.d.step x 0).f = u3.d.f := by rw [step_zero HG.out, HDU.out]
          refine ⟨by rw [step_zero HG.out]; exact HDU.out, BG6.out.keep hb7, ⟨rfl, rfl⟩, fun _ => ⟨rfl, rfl⟩, ?_, ?_⟩
          · have h0 : IntsF wr.heap.size w3 u3.SA (u.d.stS x 0) := by have := H3.out.s; rw [HDU.out] at this; exact this
            exact IntsV.old h0 HGE.out hB7 hv7
          · rw [hso]
            exact IntsV.old H3.out.f HGE.out hB7 hv7
        have HQ7 : Hid (w7.cell? ⟨q, 0, none⟩ = some (.func (.func 45) #[] #[.pointer (some ⟨g, 0, none⟩)])) := (HQ6.out.keep hb7).2.1 0
        clear ho7 hb7 hB7 hv7
        obtain ⟨wq, rfl⟩ : ∃ wq : World, wq = wr := ⟨_, rfl⟩
        go_loopw [12, 45] (fun v i wr => ∃ (j : Nat) (uj : StrA), j ≤ k ∧ i = .int .i64 j ∧ Hid (Own (q + 1) wr v (u.d.outS x j)) ∧ Hid (Midway wq.heap.size wr g v u.d x j u3 uj) ∧ Hid (Below g w3 wr) ∧ Hid (wr.cell? ⟨q, 0, none⟩ = some (.func (.func 45) #[] #[.pointer (some ⟨g, 0, none⟩)]))) (fun _ i _ => k - (intOf i).toNat)
        case atStart => exact ⟨0, u3, Nat.zero_le _, rfl, HO7, HM7, HB7, HQ7⟩
        case round =>
          obtain ⟨j, uj, hj, rfl, HO, HM, HB2, HQ⟩ := hrel
          by_cases hlt2 : j < k
          · obtain ⟨ad, y, rfl, hba, hy, hcy, y1, y2⟩ := (HX.out.grow (below_then HW3.out (by have := HB2.out; rw [← HGE.out] at this; exact this))).at_ (k := j) (by rw [HBN.out]; exact hlt2)
            have hq := HQ.out
            obtain ⟨r1, r2, r3, r4, r5⟩ := HM.out.box.rest
            have HYI : Hid (I64 (u.d.outY x j y)) := outY_i64 HG.out HFIT.out hy
            have HYS := Lib.hid (outS_succ (d := u.d) hy)
            have HYK := Lib.hid hy
            have q1 : (0 : Int) ≤ (j : Int) := by omega
            have q2 : (j : Int) < (k : Int) := by omega
            have HLN : Hid ((u.d.outS x j).length + 1 ≤ 100000000) := by show _ ≤ _; rw [outS_length j (by rw [HBN.out]; omega)]; omega
            have HQS : Hid (q + 1 ≤ wr.heap.size) := by
              show _ ≤ _
              by_cases h : q < wr.heap.size
              · omega
              · exfalso
                unfold World.cell? at hq
                simp only [Option.isSome_none] at hq
                rw [Array.getElem?_eq_none (by omega)] at hq
                simp at hq
            have HBG : Hid (wq.heap.size ≤ g) := by have := HGE.out; show _ ≤ _; omega
            by_cases hon : (j : Int) < u.d.left
            · have hl : (0 : Int) < uj.d.left := by rw [HM.out.dd, step_on hon]; simp only; omega
              have CR := Lib.hid (round_on HG.out HFIT.out hy hon HM.out H3.out.at HDU.out HB2.out HGE.out hq)
              clear hy
              go_wp2_with (first
                | (go_at_call 47; (with_reducible refine CR.out.mono ?_); rintro e w8 ⟨u8, rfl, hd8, hn8, hm8, bx8, hs8, hf8, pg8⟩; have hal8 := (Below.refl w8.heap.size w8).alloc (Nat.le_refl _) (.cells #[.int .i64 (u.d.outY x j y)] 3); have hO8 := (own_away HO.out pg8 (by omega)).grow hal8; have hI8 := lit_one (w := w8) (t := 3) HYI.out; have hbs8 : q + 1 ≤ (w8.alloc (.cells #[.int .i64 (u.d.outY x j y)] 3)).heap.size := Nat.le_trans (Nat.le_trans HQS.out pg8.size) hal8.size)
                | (at_builtin; refine app_ints _ rfl _ _ rfl (q + 1) (l := u.d.outS x j) (m := [u.d.outY x j y]) (A := some ⟨w8.heap.size, 0, none⟩) (c := 1) rfl rfl hO8 hI8 HLN.out hbs8 ?_; intro v9 w9 ho9 hg9 hv9))
              obtain ⟨k1, k2, k3⟩ := midway_next HYK.out HM.out HO.out (by omega) HBG.out HGE.out HB2.out HQ.out hd8 hn8 hm8 bx8 hs8 hf8 pg8 hg9 hv9
              go_roundw
              case rel => exact ⟨j + 1, u8, by omega, by go_num, by rw [HYS.out]; exact ho9, k1, k2, k3⟩
              case measure => simp [intOf]; omega
            · have hl : uj.d.left = 0 := by rw [HM.out.dd, step_off hon]
              have CR := Lib.hid (round_off HG.out HFIT.out hy hon HM.out H3.out.at HDU.out HB2.out HGE.out)
              clear hy
              go_wp2_with (first
                | (go_at_call 45; (with_reducible refine CR.out.mono ?_); rintro e w8 ⟨u8, rfl, hd8, hn8, hm8, bx8, hs8, hf8, pg8⟩; have hal8 := (Below.refl w8.heap.size w8).alloc (Nat.le_refl _) (.cells #[.int .i64 (u.d.outY x j y)] 3); have hO8 := (own_away HO.out pg8 (by omega)).grow hal8; have hI8 := lit_one (w := w8) (t := 3) HYI.out; have hbs8 : q + 1 ≤ (w8.alloc (.cells #[.int .i64 (u.d.outY x j y)] 3)).heap.size := Nat.le_trans (Nat.le_trans HQS.out pg8.size) hal8.size)
                | (at_builtin; refine app_ints _ rfl _ _ rfl (q + 1) (l := u.d.outS x j) (m := [u.d.outY x j y]) (A := some ⟨w8.heap.size, 0, none⟩) (c := 1) rfl rfl hO8 hI8 HLN.out hbs8 ?_; intro v9 w9 ho9 hg9 hv9))
              obtain ⟨k1, k2, k3⟩ := midway_next HYK.out HM.out HO.out (by omega) HBG.out HGE.out HB2.out HQ.out hd8 hn8 hm8 bx8 hs8 hf8 pg8 hg9 hv9
              go_roundw
              case rel => exact ⟨j + 1, u8, by omega, by go_num, by rw [HYS.out]; exact ho9, k1, k2, k3⟩
              case measure => simp [intOf]; omega
          · have hjk : j = k := by omega
            subst hjk
            have hsf := midway_str HG.out HFIT.out (by rw [HBN.out]; exact Nat.le_refl _) HM.out H3.out HDU.out HB2.out HGE.out
            have hbw : Below w.heap.size w wr := below_then HW3.out (by rw [HGE.out]; exact HB2.out)
            have hbz : StrBox wr (w.heap.size + 1) StrA.zero := BZ3.out.keep (by rw [HGE.out]; exact HB2.out)
            have HSF := Lib.hid hsf
            have HBW := Lib.hid hbw
            have HBZ := Lib.hid hbz
            clear hsf hbw hbz
            go_wp2_with (first
              | (refine ld_str HM.out.box rfl _ rfl rfl ?_)
              | (refine st_str HBZ.out (u' := uj) rfl _ _ rfl rfl rfl ?_; intro W10 bz10 pg10))
            have hres := res_str bz10
            refine bodyPost_ret (results_ctt rfl _ _ _ rfl hres) rfl ?_
            have hE : u.d.sampE x = 0 := by unfold StrD.sampE; rw [if_pos (by rw [HBN.out]; exact hlong), if_pos HFIT.out]
            have hoo := own_away HO.out pg10 (by omega)
            obtain ⟨A, c, e12, -, -⟩ := hoo.form
            rw [e12] at hoo
            have hi := (IntsF.own hoo).base (b' := w.heap.size) (by omega)
            unfold StrD.sampD StrD.sampO
            rw [hE, if_pos rfl, if_pos rfl, HBN.out]
            refine ⟨uj, A, c, ?_, HM.out.dd, (HSF.out.away pg10 (by have := HB.out.size; omega)).base (by have := HB.out.size; omega), hi, put_facts HBW.out (Nat.le_succ _) pg10⟩
            rw [← e12]; rfl
  · have hgt : (4096 : Int) < (bn : Int) := by omega
    go_enter Try.func28, Try.ntmps28
    go_upto_region 1 with fail
    change Code.wp _ _ _ _ ((w.alloc (.cells u.cells.toArray 39)).alloc (.cells StrA.zero.cells.toArray 39))
    obtain ⟨bx0, bz0, hb0, hs0⟩ := entry2 w u
    generalize ((w.alloc (.cells u.cells.toArray 39)).alloc (.cells StrA.zero.cells.toArray 39)) = W0 at bx0 bz0 hb0 hs0 ⊢
    have BZ0 := Lib.hid bz0
    have HB0 := Lib.hid hb0
    clear bx0 bz0 hb0
    go_wp2_with (refine st_str BZ0.out (u' := StrA.zero) rfl _ _ rfl rfl rfl ?_; intro W2 bz2 pg2; have hw2 := put_facts HB0.out (Nat.le_succ _) pg2)
    have hres := res_str bz2
    refine bodyPost_ret (results_ctt rfl _ _ _ rfl hres) rfl ?_
    have hE : u.d.sampE x = 4 := by unfold StrD.sampE; rw [if_neg (by rw [HBN.out]; exact hlong)]
    unfold StrD.sampD StrD.sampO
    rw [hE]
    exact ⟨StrA.zero, none, 0, rfl, rfl, StrF.zero, IntsF.nil, hw2⟩
end Go.Proofs.Ytgabfdappeakiaa
