/- The walks of analyse and synthesise of package bank. -/
import Derived.Test.YtimhplkkgbpapaaV2
namespace Go.Proofs.Ytimhplkkgbpapaa
open Go.RowKit

/-- The first k elements of a list, zeros behind them. -/
def prN (l : List Int) (k : Nat) : List Int := (List.range l.length).map fun i => if i < k then el l i else 0
theorem prN_length (l : List Int) (k : Nat) : (prN l k).length = l.length := by simp [prN]
theorem prN_get {l : List Int} {k i : Nat} (h : i < l.length) : (prN l k)[i]? = some (if i < k then el l i else 0) := by
  simp only [prN, List.getElem?_map, List.getElem?_range h]; rfl
theorem prN_zero (l : List Int) : prN l 0 = List.replicate l.length 0 := by
  refine list_ext (by rw [prN_length]; simp) fun i hi => ?_
  rw [prN_length] at hi
  rw [el_of (prN_get hi), if_neg (by omega)]
  unfold el; rw [List.getElem?_replicate, if_pos hi]; rfl
theorem prN_all (l : List Int) : prN l l.length = l := by
  refine list_ext (prN_length _ _) fun i hi => ?_
  rw [prN_length] at hi
  rw [el_of (prN_get hi), if_pos hi]
theorem prN_at {l : List Int} {k : Nat} (h : k < l.length) : (prN l k)[k]? = some 0 := by rw [prN_get h, if_neg (by omega)]
theorem prN_succ {l : List Int} {k : Nat} (h : k < l.length) : prN l (k + 1) = (prN l k).set k (el l k) := by
  apply List.ext_getElem?
  intro n
  rw [List.getElem?_set, prN_length]
  rcases Nat.lt_or_ge n l.length with hn | hn
  · rw [prN_get hn, prN_get hn]
    by_cases e : k = n
    · subst e; rw [if_pos rfl, if_pos h, if_pos (by omega)]
    · rw [if_neg e]
      congr 1
      by_cases h1 : n < k
      · rw [if_pos h1, if_pos (by omega)]
      · rw [if_neg h1, if_neg (by omega)]
  · rw [if_neg (by omega), List.getElem?_eq_none (by rw [prN_length]; exact hn), List.getElem?_eq_none (by rw [prN_length]; exact hn)]
theorem ana_succ {ls : List Lft} {k : Nat} {s : Lft} (h : ls[k]? = some s) (p : List Int × List Int) : anaF (ls.take (k + 1)) p = lift1 1 (anaF (ls.take k) p) s := by
  unfold anaF
  rw [take_snoc' h, List.foldl_append]; rfl
theorem I64.w32 {l : List Int} (h : W32 l) {x : Int} (hx : x ∈ l) : I64 x := by have := h x hx; exact ⟨by omega, by omega⟩
theorem Own.kept {base : Nat} {w w' : World} {v : Value} {l : List Int} {r : Option Nat} (h : Own base w v l) (hg : w.grownBy w' r) (hne : v.ownBlock = none ∨ v.ownBlock ≠ r) : Own base w' v l := ⟨h.1.kept hg hne, h.2⟩
theorem Own.ints {base : Nat} {w : World} {A : Option Addr} {n c : Nat} {l : List Int} (h : Own base w (.slice A n c) l) : Ints w A l := by
  obtain ⟨A', c', e, _, hi⟩ := h.form
  injection e with e
  rw [e]; exact hi
theorem Own.len {base : Nat} {w : World} {A : Option Addr} {n c : Nat} {l : List Int} (h : Own base w (.slice A n c) l) : n = l.length := by
  obtain ⟨A', c', e, _, _⟩ := h.form
  injection e
theorem Own.other {base : Nat} {w : World} {g g' k n c : Nat} {l : List Int} {u : Value} (h : Own base w (.slice (some ⟨g, 0, none⟩) n c) l) (hne : g ≠ g') : Own base (w.setCell ⟨g', k, none⟩ u) (.slice (some ⟨g, 0, none⟩) n c) l :=
  h.kept (grown_set (grown_refl w (some g'))) (.inr (by show some g ≠ some g'; intro e; injection e with e; exact hne e))
theorem Own.kept_at {base : Nat} {w w' : World} {g g' n c : Nat} {l : List Int} (h : Own base w (.slice (some ⟨g, 0, none⟩) n c) l) (hg : w.grownBy w' (some g')) (hne : g ≠ g') : Own base w' (.slice (some ⟨g, 0, none⟩) n c) l :=
  h.kept hg (.inr (by show some g ≠ some g'; intro e; injection e with e; exact hne e))
/-- A call hands back two slices of its own that read as a and b. -/
def Ret2 (w : World) (a b : List Int) (e : Ending) (w' : World) : Prop := ∃ v1 v2, e = .returned (.tuple #[v1, v2]) ∧ Own w.heap.size w' v1 a ∧ Own w.heap.size w' v2 b ∧ Below w.heap.size w w'
set_option maxRecDepth 100000 in
set_option maxHeartbeats 2000000 in
theorem bk_analyse (A B : Option Addr) (ls : List Lft) (x : List Int) (c d h : Nat) (w : World) (hL : Lifts w A ls) (hx : Ints w B x) (hok : ∀ s ∈ ls, LftOk s) (hll : ls.length ≤ 12) (hxl : x.length = 2 * h) (hh : h ≤ 2048) (hw : W32 x) :
    Calls Try.prog 26 #[.slice A ls.length c, .slice B x.length d] w (Ret2 w (analyseF ls x).1 (analyseF ls x).2) := by
  have HOK := Lib.hid hok
  have HXL := Lib.hid hxl
  have l1 : (x.length : Int) / 2 = (h : Int) := by omega
  have l3 : (x.length : Int) ≤ 2 * h := by omega
  have l4 : 2 * (h : Int) ≤ x.length := by omega
  have HE1 := Lib.hid (ev_length hxl)
  have HE2 := Lib.hid (od_length hxl)
  have HW := Lib.hid hw
  have hn1 : h ≤ 100000000 := by omega
  clear hok hw hxl
  go_enter Try.func26, Try.ntmps26
  go_wp2_with (first
    | (at_make; refine mk_int rfl _ _ rfl w.heap.size h rfl rfl rfl hn1 (Nat.le_refl _) ?_; intro w1 ho1 hb1)
    | (at_make; refine mk_int rfl _ _ rfl w.heap.size h rfl rfl rfl hn1 hb1.size ?_; intro w2 ho2 hb2))
  have hlt := ho1.block.2
  have ho1 := ho1.grow hb2
  have hg2 : w1.heap.size < w2.heap.size := ho2.block.2
  have hb := below_then hb1 hb2
  have ho1' : Own w.heap.size w2 (.slice (some ⟨w.heap.size, 0, none⟩) h h) (prN (evF x) 0) := by rw [prN_zero, HE1.out]; exact ho1
  have ho2' : Own w.heap.size w2 (.slice (some ⟨w1.heap.size, 0, none⟩) h h) (prN (odF x) 0) := by rw [prN_zero, HE2.out]; exact ho2
  have hne1 : w.heap.size ≠ w1.heap.size := by omega
  have hne2 : w1.heap.size ≠ w.heap.size := by omega
  clear ho1 ho2 hb1 hb2
  go_loopw [21] (fun i wr => ∃ k : Nat, k ≤ h ∧ i = .int .i64 k ∧ Own w.heap.size wr (.slice (some ⟨w.heap.size, 0, none⟩) h h) (prN (evF x) k) ∧ Own w.heap.size wr (.slice (some ⟨w1.heap.size, 0, none⟩) h h) (prN (odF x) k) ∧ Below w.heap.size w wr) (fun i _ => h - (intOf i).toNat)
  case atStart => exact ⟨0, Nat.zero_le _, rfl, ho1', ho2', hb⟩
  case round =>
    obtain ⟨k, hk, rfl, h1, h2, hbw⟩ := hrel
    by_cases hk2 : k < h
    · have hxr := hx.grow hbw
      obtain ⟨ad, y, rfl, hba, hy, cy, y1, y2⟩ := hxr.at_ (k := 2 * k) (by have := HXL.out; omega)
      obtain ⟨ad2, z, e2, hbz, hz, cz, z1, z2⟩ := hxr.at_ (k := 2 * k + 1) (by have := HXL.out; omega)
      injection e2 with e2
      subst e2
      have HS1 : Hid (prN (evF x) (k + 1) = (prN (evF x) k).set k y) := by show _ = _; rw [prN_succ (by rw [HE1.out]; exact hk2), el_ev, el_of hy]
      have HS2 : Hid (prN (odF x) (k + 1) = (prN (odF x) k).set k z) := by show _ = _; rw [prN_succ (by rw [HE2.out]; exact hk2), el_od, el_of hz]
      have c1 := h1.cell (prN_at (by rw [HE1.out]; exact hk2))
      have c2 := h2.cell (prN_at (by rw [HE2.out]; exact hk2))
      have f1 := h1.free k
      have f2 := h2.free k
      obtain ⟨m, hm⟩ : ∃ m, 2 * k = m := ⟨_, rfl⟩
      have e1 : IntKind.i64.wrap (2 * (k : Int)) = (m : Int) := by rw [← hm, IntWalk.i64_in _ (by omega)]; simp
      have e2 : IntKind.i64.wrap ((m : Int) + 1) = (m : Int) + 1 := IntWalk.i64_in _ (by omega)
      have e3 : (0 : Int) ≤ (m : Int) + 1 := by omega
      have e4 : (m : Int) + 1 < (x.length : Int) := by have := HXL.out; omega
      have e5 : (m : Int) < (x.length : Int) := by omega
      have e6 : ((m : Int) + 1).toNat = m + 1 := by omega
      have e7 : (k : Int) < (h : Int) := by omega
      have e8 : (0 : Int) ≤ (k : Int) := by omega
      rw [hm] at cy cz
      have cz2 : wr.cell? ⟨ad.block, ad.off + (m + 1), none⟩ = some (.int .i64 z) := by have := cz; unfold Addr.add at this; simpa using this
      clear hy hz hxr hm
      have H1 := Lib.hid h1
      have H2 := Lib.hid h2
      clear h1 h2
      go_wp2
      go_region
      clear e1 e2 e3 e4 e5 e6 e7 e8 cz2
      go_wp2
      go_roundw
      case rel =>
        refine ⟨k + 1, by omega, by go_num, ?_, ?_, ?_⟩
        · rw [HS1.out]; exact ⟨((H1.out.set k ⟨y1, y2⟩).other hne1).1.drew, ((H1.out.set k ⟨y1, y2⟩).other hne1 (k := k) (u := .int .i64 z)).2⟩
        · rw [HS2.out]; exact ⟨((H2.out.other hne2).set k ⟨z1, z2⟩).1.drew, ((H2.out.other hne2 (k := k) (u := .int .i64 y)).set k ⟨z1, z2⟩).2⟩
        · exact (below_set (below_set hbw (Nat.le_refl _)) (by omega)).drew
      case measure => simp [intOf]; omega
    · obtain rfl : k = h := by omega
      have h1' : Own w.heap.size wr (.slice (some ⟨w.heap.size, 0, none⟩) k k) (anaF (ls.take 0) (evF x, odF x)).1 := by
        have e := prN_all (evF x); rw [HE1.out] at e; rw [e] at h1; exact h1
      have h2' : Own w.heap.size wr (.slice (some ⟨w1.heap.size, 0, none⟩) k k) (anaF (ls.take 0) (evF x, odF x)).2 := by
        have e := prN_all (odF x); rw [HE2.out] at e; rw [e] at h2; exact h2
      clear h1 h2
      go_wp2
      go_loopw [44] (fun i wr => ∃ q : Nat, q ≤ ls.length ∧ i = .int .i64 q ∧ Own w.heap.size wr (.slice (some ⟨w.heap.size, 0, none⟩) k k) (anaF (ls.take q) (evF x, odF x)).1 ∧ Own w.heap.size wr (.slice (some ⟨w1.heap.size, 0, none⟩) k k) (anaF (ls.take q) (evF x, odF x)).2 ∧ Below w.heap.size w wr) (fun i _ => ls.length - (intOf i).toNat)
      case atStart => exact ⟨0, Nat.zero_le _, rfl, h1', h2', hbw⟩
      case round =>
        obtain ⟨q, hq, rfl, hf1, hf2, hbr⟩ := hrel
        by_cases hq2 : q < ls.length
        · obtain ⟨s, hs⟩ : ∃ s, ls[q]? = some s := ⟨_, List.getElem?_eq_getElem hq2⟩
          obtain ⟨ad, C, cc, rfl, hba, c0, c1, c2, c3, hi, i1, i2⟩ := hL q s hs
          have hcb := fun (hc : s.2.2.1 ≠ []) (a : Addr) (e : C = some a) => hi.block hc e
          have c0 := (hbr.cell (by rw [block_add]; exact hba)).trans c0
          have c1 := (hbr.cell (p := ⟨(ad.add (q * 4)).block, (ad.add (q * 4)).off + 1, none⟩) (by show (ad.add _).block < _; rw [block_add]; exact hba)).trans c1
          have c2 := (hbr.cell (p := ⟨(ad.add (q * 4)).block, (ad.add (q * 4)).off + 2, none⟩) (by show (ad.add _).block < _; rw [block_add]; exact hba)).trans c2
          have c3 := (hbr.cell (p := ⟨(ad.add (q * 4)).block, (ad.add (q * 4)).off + 3, none⟩) (by show (ad.add _).block < _; rw [block_add]; exact hba)).trans c3
          have hi := hi.grow hbr
          have HSU := Lib.hid (ana_succ hs (evF x, odF x))
          have HLO := Lib.hid (HOK.out s (List.mem_of_getElem? hs))
          have w32 : W32 (anaF (ls.take q) (evF x, odF x)).1 ∧ W32 (anaF (ls.take q) (evF x, odF x)).2 := w32_fold 1 (ls.take q) (evF x, odF x) ⟨w32_ev HW.out, w32_od HW.out⟩
          have W32F := Lib.hid w32
          have hln := fold_length 1 (ls.take q) (evF x, odF x)
          obtain ⟨a, ha⟩ : ∃ a, (anaF (ls.take q) (evF x, odF x)).1 = a := ⟨_, rfl⟩
          obtain ⟨b, hbb⟩ : ∃ b, (anaF (ls.take q) (evF x, odF x)).2 = b := ⟨_, rfl⟩
          have la : a.length = k := by rw [← ha]; exact hln.1.trans HE1.out
          have lb : b.length = k := by rw [← hbb]; exact hln.2.trans HE2.out
          have hab : anaF (ls.take q) (evF x, odF x) = (a, b) := by rw [← ha, ← hbb]
          rw [ha] at hf1
          rw [hbb] at hf2
          rw [ha, hbb] at W32F
          rw [hab] at HSU
          obtain ⟨o, st, cf, sh⟩ := s
          simp only at c0 c1 c2 c3 hi i1 i2 hcb
          have hch1 : ∀ (W : World), Own w.heap.size W (.slice (some ⟨w.heap.size, 0, none⟩) k k) a → Own w.heap.size W (.slice (some ⟨w1.heap.size, 0, none⟩) k k) b → Ints W C cf →
              Calls Try.prog 34 #[.agg #[.bool o, .int .i64 st, .slice C cf.length cc, .int .i64 sh], .slice (some ⟨w.heap.size, 0, none⟩) k k, .slice (some ⟨w1.heap.size, 0, none⟩) k k, .int .i64 1] W
                fun e w' => e = .returned (.tuple #[]) ∧ Own w.heap.size w' (.slice (some ⟨w.heap.size, 0, none⟩) k k) (stF (o, st, cf, sh) 1 a b) ∧ W.grownBy w' (some w.heap.size) := fun W q1 q2 q3 => by
            have := bk_change o st sh 1 C (some ⟨w1.heap.size, 0, none⟩) cf b a cc k k k w.heap.size w.heap.size W HLO.out (.inl rfl) la.symm (by omega) (by omega) W32F.out.1 W32F.out.2 q1 q3 q2.ints (fun hc ad e => by have := hcb hc ad e; omega) (fun _ ad e => by injection e with e; subst e; exact hne2)
            rw [lb] at this; exact this
          have hch2 : ∀ (W : World), Own w.heap.size W (.slice (some ⟨w.heap.size, 0, none⟩) k k) a → Own w.heap.size W (.slice (some ⟨w1.heap.size, 0, none⟩) k k) b → Ints W C cf →
              Calls Try.prog 34 #[.agg #[.bool o, .int .i64 st, .slice C cf.length cc, .int .i64 sh], .slice (some ⟨w1.heap.size, 0, none⟩) k k, .slice (some ⟨w.heap.size, 0, none⟩) k k, .int .i64 1] W
                fun e w' => e = .returned (.tuple #[]) ∧ Own w.heap.size w' (.slice (some ⟨w1.heap.size, 0, none⟩) k k) (stF (o, st, cf, sh) 1 b a) ∧ W.grownBy w' (some w1.heap.size) := fun W q1 q2 q3 => by
            have := bk_change o st sh 1 C (some ⟨w.heap.size, 0, none⟩) cf a b cc k k k w1.heap.size w.heap.size W HLO.out (.inl rfl) lb.symm (by omega) (by omega) W32F.out.2 W32F.out.1 q2 q3 q1.ints (fun hc ad e => by have := hcb hc ad e; omega) (fun _ ad e => by injection e with e; subst e; exact hne1)
            rw [la] at this; exact this
          have HCH1 := Lib.hid hch1
          have HCH2 := Lib.hid hch2
          have hal := fun o => Below.alloc (Below.refl wr.heap.size wr) (Nat.le_refl _) o
          have hf1a := fun o => hf1.grow (hal o)
          have hf2a := fun o => hf2.grow (hal o)
          have hia := fun o => hi.grow (hal o)
          have hbra := fun o => below_then hbr (hal o)
          have F1 := Lib.hid hf1a
          have F2 := Lib.hid hf2a
          have FI := Lib.hid hia
          have FB := Lib.hid hbra
          have hwb : w1.heap.size < wr.heap.size := hf2.block.2
          clear hs ha hbb hab hf1 hf2 hi hcb hch1 hch2 hal hf1a hf2a hia hbra hbr hln w32
          cases o
          · go_wp2_with (go_at_call 34; refine (HCH1.out _ (F1.out _) (F2.out _) (FI.out _)).mono ?_; rintro e w3 ⟨rfl, ho3, hg3⟩)
            go_roundw
            case rel => exact ⟨q + 1, by omega, by go_num, by rw [HSU.out]; exact ho3, by rw [HSU.out]; exact (F2.out _).kept_at hg3 hne2, grown_to (FB.out _) hg3 (Nat.le_refl _)⟩
            case measure => simp [intOf]; omega
          · go_wp2_with (go_at_call 34; refine (HCH2.out _ (F1.out _) (F2.out _) (FI.out _)).mono ?_; rintro e w3 ⟨rfl, ho3, hg3⟩)
            go_roundw
            case rel => exact ⟨q + 1, by omega, by go_num, by rw [HSU.out]; exact (F1.out _).kept_at hg3 hne1, by rw [HSU.out]; exact ho3, grown_to (FB.out _) hg3 (by omega)⟩
            case measure => simp [intOf]; omega
        · obtain rfl : q = ls.length := by omega
          rw [List.take_length] at hf1 hf2
          go_wp2
          go_ret2
          exact ⟨_, _, rfl, hf1, hf2, hbr⟩
end Go.Proofs.Ytimhplkkgbpapaa
