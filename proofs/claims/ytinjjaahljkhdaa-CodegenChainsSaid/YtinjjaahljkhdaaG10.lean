/- The walk of chains of the law of layer 41: both Chains answer alike, for any network. -/
import Derived.Test.YtinjjaahljkhdaaG9
import Derived.Test.YtinjjaahljkhdaaVc
namespace Go.Proofs.Ytinjjaahljkhdaa
open Go.RowKit

theorem preF_le (nx : List Int) (s : Nat) : ∀ k, (preF nx s k).length ≤ k
  | 0 => Nat.le_refl _
  | k + 1 => by
    have := preF_le nx s k
    show (preF nx s k ++ (match itF nx s k with | some x => [(x : Int)] | none => [])).length ≤ k + 1
    rw [List.length_append]
    split <;> simp <;> omega
theorem lnF_bound (nx : List Int) : ∀ k, ∀ l ∈ lnF nx k, l.length ≤ nx.length
  | 0, l, h => by cases h
  | k + 1, l, h => by
    change l ∈ lnF nx k ++ (if ledB nx nx.length k then [] else [lineF nx k]) at h
    rcases List.mem_append.1 h with h | h
    · exact lnF_bound nx k l h
    · split at h
      · cases h
      · simp only [List.mem_singleton] at h
        subst h
        exact preF_le nx k nx.length
/-- The value of a network that reads so in the heap. -/
structure NetOk (w : World) (NA : Option Addr) (ns : List (List (Int × Int))) (XA : Option Addr) (nx : List Int) (st : Int) : Prop where
  nodes : NodesAt w NA ns
  next : Ints w XA nx
  n1 : ns.length ≤ 9223372036854775807
  n2 : nx.length ≤ 9223372036854775807
  n3 : ∀ ts ∈ ns, ts.length ≤ 9223372036854775807
  st : I64 st
theorem NetOk.grow {w w' : World} {NA : Option Addr} {ns : List (List (Int × Int))} {XA : Option Addr} {nx : List Int} {st : Int} (h : NetOk w NA ns XA nx st) (hb : Below w.heap.size w w') : NetOk w' NA ns XA nx st :=
  ⟨h.nodes.grow hb, h.next.grow hb, h.n1, h.n2, h.n3, h.st⟩
theorem net_cells {w w1 : World} {d0 d1 d2 d3 c0 c1 c2 c3 st out : Int} {N X : Value}
    (h : Below (w.alloc (.cells #[.int .i64 d0, .int .i64 d1, .int .i64 d2, .int .i64 d3, .int .i64 c0, .int .i64 c1, .int .i64 c2, .int .i64 c3, .int .i64 st, N, X, .int .i64 out] 27)).heap.size (w.alloc (.cells #[.int .i64 d0, .int .i64 d1, .int .i64 d2, .int .i64 d3, .int .i64 c0, .int .i64 c1, .int .i64 c2, .int .i64 c3, .int .i64 st, N, X, .int .i64 out] 27)) w1) :
    (w1.cell? ⟨w.heap.size, 0, none⟩ = some (.int .i64 d0) ∧ w1.cell? ⟨w.heap.size, 1, none⟩ = some (.int .i64 d1) ∧ w1.cell? ⟨w.heap.size, 2, none⟩ = some (.int .i64 d2) ∧ w1.cell? ⟨w.heap.size, 3, none⟩ = some (.int .i64 d3)) ∧
    (w1.cell? ⟨w.heap.size, 4, none⟩ = some (.int .i64 c0) ∧ w1.cell? ⟨w.heap.size, 5, none⟩ = some (.int .i64 c1) ∧ w1.cell? ⟨w.heap.size, 6, none⟩ = some (.int .i64 c2) ∧ w1.cell? ⟨w.heap.size, 7, none⟩ = some (.int .i64 c3)) ∧
    w1.cell? ⟨w.heap.size, 8, none⟩ = some (.int .i64 st) ∧ w1.cell? ⟨w.heap.size, 9, none⟩ = some N ∧ w1.cell? ⟨w.heap.size, 10, none⟩ = some X ∧ w1.cell? ⟨w.heap.size, 11, none⟩ = some (.int .i64 out) :=
  have a := fun (k : Nat) => h.cell (p := ⟨w.heap.size, k, none⟩) (by simp)
  ⟨⟨(a 0).trans (by simp [go_sem]), (a 1).trans (by simp [go_sem]), (a 2).trans (by simp [go_sem]), (a 3).trans (by simp [go_sem])⟩, ⟨(a 4).trans (by simp [go_sem]), (a 5).trans (by simp [go_sem]), (a 6).trans (by simp [go_sem]), (a 7).trans (by simp [go_sem])⟩,
    (a 8).trans (by simp [go_sem]), (a 9).trans (by simp [go_sem]), (a 10).trans (by simp [go_sem]), (a 11).trans (by simp [go_sem])⟩
set_option maxRecDepth 100000 in
set_option maxHeartbeats 4000000 in
theorem l41_chains (d0 d1 d2 d3 c0 c1 c2 c3 st out : Int) (NA XA : Option Addr) (nn nc xn xc : Nat) (ns : List (List (Int × Int))) (nx : List Int) (w : World) (hN : NetOk w NA ns XA nx st) (hnn : ns.length = nn) (hxn : nx.length = xn) :
    Calls Try.prog 5 #[netV d0 d1 d2 d3 c0 c1 c2 c3 st NA nn nc XA xn xc out] w (BoolBw w true) := by
  obtain ⟨b, hb⟩ : ∃ b, netB d0 d1 d2 d3 c0 c1 c2 c3 st ns nx out = b := ⟨_, rfl⟩
  have hu : b = true → st = (xn : Int) ∧ (nx.length = xn ∧ ∀ v ∈ nx, 0 ≤ v ∧ v ≤ 1000000) ∧ xn ≤ 64 := fun h => by
    have := netB_use (hb.trans h)
    rw [hxn] at this
    exact ⟨this.1, ⟨hxn, this.2.1.2⟩, this.2.2⟩
  have QA : Hid (∀ w, NetOk w NA ns XA nx st → Calls Try.prog 10 #[netV d0 d1 d2 d3 c0 c1 c2 c3 st NA nn nc XA xn xc out] w (RetIntsL w (if b then lnF nx xn else []) (if b then 0 else 2))) := fun w h =>
    cg_Chains d0 d1 d2 d3 c0 c1 c2 c3 st out NA XA nn nc xn xc nx b w (fun w' hbw => by have g := h.grow hbw; have := nw_Valid d0 d1 d2 d3 c0 c1 c2 c3 st out NA XA nc xc ns nx w' g.nodes g.next g.n1 g.n2 g.n3 g.st; rw [hb, hnn, hxn] at this; exact this) h.next (fun h => by have := hu h; exact ⟨this.1, this.2.1.1, this.2.2⟩)
  have QB : Hid (∀ w, NetOk w NA ns XA nx st → Calls Try.prog 12 #[netV d0 d1 d2 d3 c0 c1 c2 c3 st NA nn nc XA xn xc out] w (RetIntsL w (if b then lnF nx xn else []) (if b then 0 else 2))) := fun w h =>
    r41_Chains d0 d1 d2 d3 c0 c1 c2 c3 st out NA XA nn nc xn xc nx b w (fun w' hbw => by have g := h.grow hbw; have := r22_Valid d0 d1 d2 d3 c0 c1 c2 c3 st out NA XA nc xc ns nx w' g.nodes g.next g.n1 g.n2 g.n3 g.st; rw [hb, hnn, hxn] at this; exact this) h.next hu
  have HTC : Hid ((if b then lnF nx xn else []).length ≤ 64) := by
    show _ ≤ _
    cases b with
    | false => simp
    | true => have := (hu rfl).2.2; have := lnF_length nx xn; show (lnF nx xn).length ≤ 64; omega
  have HTL : Hid (∀ l ∈ (if b then lnF nx xn else []), l.length ≤ 1000) := fun l hl => by
    cases b with
    | false => cases hl
    | true => have h1 := (hu rfl).2; have := lnF_bound nx xn l hl; omega
  obtain ⟨tb, htb⟩ : ∃ tb, (if b then lnF nx xn else []) = tb := ⟨_, rfl⟩
  obtain ⟨E, hE⟩ : ∃ E : Int, (if b then 0 else 2) = E := ⟨_, rfl⟩
  rw [htb, hE] at QA QB
  rw [htb] at HTL HTC
  have HN := Lib.hid hN
  have hal := fun o => Below.alloc (Below.refl w.heap.size w) (Nat.le_refl _) o
  have HAL := Lib.hid hal
  clear hb hu htb hE hN hnn hxn hal
  unfold netV at QA QB ⊢
  go_enter Try.func5, Try.ntmps5
  go_wp2_with fail
  refine (QA.out _ (HN.out.grow (HAL.out _))).mono ?_
  rintro e w1 ⟨A1, e1, rfl, i1, hb1⟩
  obtain ⟨⟨y1, y2, y3, y4⟩, ⟨y5, y6, y7, y8⟩, y9, y10, y11, y12⟩ := net_cells hb1
  have hb := (HAL.out _).trans (hb1.mono (HAL.out _).size)
  clear hb1
  go_wp2_with fail
  clear y1 y2 y3 y4 y5 y6 y7 y8 y9 y10 y11 y12
  refine (QB.out _ (HN.out.grow hb)).mono ?_
  rintro e w2 ⟨A2, e2, rfl, i2, hb1⟩
  have i1 := i1.grow hb1
  have hb := below_then hb hb1
  have HI1 := Lib.hid i1
  have HI2 := Lib.hid i2
  have HBB := Lib.hid hb
  clear hb1 i1 i2 hb
  obtain ⟨K, hK⟩ : ∃ K, tb.length = K := ⟨_, rfl⟩
  have HK := Lib.hid hK
  have hK7 : K ≤ 64 := by rw [← hK]; exact HTC.out
  rw [hK]
  clear hK
  go_wp2_with fail
  go_loopw [7] (fun i wr => ∃ q : Nat, q ≤ K ∧ i = .int .i64 q ∧ Below w2.heap.size w2 wr) (fun i _ => K - (intOf i).toNat)
  case atStart => exact ⟨0, Nat.zero_le _, rfl, Below.refl _ _⟩
  case round =>
    obtain ⟨q, hq, rfl, hbw⟩ := hrel
    by_cases hlt2 : q < K
    · obtain ⟨ad1, m1, D1, f1, h1, hbk1, hgk1, hck1, him1⟩ := (HI1.out.grow hbw).at_ (k := q) (by have := HK.out; omega)
      obtain ⟨ad2, m2, D2, f2, h2, hbk2, hgk2, hck2, him2⟩ := (HI2.out.grow hbw).at_ (k := q) (by have := HK.out; omega)
      subst h1
      subst h2
      rw [hgk1] at hgk2
      injection hgk2 with hgk2
      subst hgk2
      have t1 := HTL.out m1 (List.mem_of_getElem? hgk1)
      obtain ⟨r1, hr1⟩ : ∃ a, m1.length = a := ⟨_, rfl⟩
      rw [hr1] at hck1 hck2 t1
      have HR1 := Lib.hid hr1
      have HBW := Lib.hid hbw
      have S0 : Hid (wr.cell? (ad1.add q) = some (.slice D1 r1 f1) ∧ wr.cell? (ad2.add q) = some (.slice D2 r1 f2)) := ⟨hck1, hck2⟩
      have hbA : (ad1.add q).block < wr.heap.size := by rw [block_add]; exact hbk1
      have hbB : (ad2.add q).block < wr.heap.size := by rw [block_add]; exact hbk2
      have x1 : (0 : Int) ≤ (q : Int) := by omega
      have x2 : (q : Int) < (K : Int) := by omega
      have hsz := hbw.size
      have j1 := him1.grow ((Below.refl _ _).drew)
      have j2 := him2.grow ((Below.refl _ _).drew)
      clear hgk1 hr1 hck1 hck2 hbk1 hbk2 hbw him1 him2
      go_wp2_with fail
      go_region_held3 (fun w' => w'.cell? (ad1.add q) = some (.slice D1 r1 f1) ∧ w'.cell? (ad2.add q) = some (.slice D2 r1 f2))
        (exact twoS hbA hbB S0 (by go_grown))
        (first
          | (go_at_call 11; refine (rf_SameN D1 D2 m1 m1 f1 f2 r1 r1 _ HR1.out HR1.out (by omega) rfl j1 j2).mono ?_; rintro e w6 ⟨rfl, hb6⟩; have hb7 := belowD hb6))
      all_goals
        clear x1 x2
        go_wp2
        go_roundw
        case rel => exact ⟨q + 1, by omega, by go_num, HBW.out.trans (hb7.mono hsz)⟩
        case measure => simp [intOf]; omega
    · obtain rfl : q = K := by omega
      go_wp2_with fail
      go_ret
      exact ⟨rfl, HBB.out.trans (hbw.mono HBB.out.size)⟩
end Go.Proofs.Ytinjjaahljkhdaa
