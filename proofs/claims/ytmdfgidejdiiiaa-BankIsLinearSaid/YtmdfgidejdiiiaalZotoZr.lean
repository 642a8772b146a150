/- Several texts in one: Zo Zp Zq Zr. -/
import Derived.Test.YtmdfgidejdiiiaalZmtoZc
import Derived.Lib.SmallJoins
set_option linter.unusedVariables false
set_option linter.unusedSimpArgs false
section
namespace Go.Proofs.Ytmdfgidejdiiiaa
open Go.RowKit
theorem results_tmp4 {fn : Func} {t u v s : Tmp} (h : fn.results = #[.tmp t, .tmp u, .tmp v, .tmp s]) (tmps : Array Value) (P : Program) (w : World) :
    (results fn tmps).run P w = .ok (.tuple #[tmps.getD t undef, tmps.getD u undef, tmps.getD v undef, tmps.getD s undef]) w := by
  simp [results, h]
theorem div_in {a b : Int} (ha : 0 ≤ a) (hb : 0 < b) (h : a < 9223372036854775808) : -9223372036854775808 ≤ a / b ∧ a / b < 9223372036854775808 := by
  have h1 := Int.ediv_nonneg ha (Int.le_of_lt hb)
  have h2 : a / b ≤ a := Int.ediv_le_self b ha
  omega
theorem mul_in {f c : Int} (h0 : 0 ≤ f) (h1 : f ≤ 2147483647) (h : -2147483647 ≤ c ∧ c ≤ 2147483647) : -4611686018427387904 < f * c ∧ f * c < 4611686018427387904 := by
  have a1 := mul_mono' (c := f) h.2 h0
  have a2 := mul_mono' (c := f) h.1 h0
  omega
theorem div_facts {p q a b c d f pa pb qc qd : Int} (e1 : p + a = pa) (e2 : p + b = pb) (e3 : q + c = qc) (e4 : q + d = qd) (h3 : 0 < qc) (h4 : 0 < qd) (s1 : 0 ≤ pa) (s2 : 0 ≤ pb) (hf : pa / qc = f ∧ pb / qd = f) : f * qc ≤ pa ∧ f * qd ≤ pb := by
  have a1 := (quo_of (U := pa) h3).1
  have a2 := (quo_of (U := pb) h4).1
  rw [hf.1] at a1
  rw [hf.2] at a2
  exact ⟨a1, a2⟩
@[go_sem high]
theorem run_max4 {P : Program} (w : World) (ts : Array TypeId) (t : TypeId) (k : IntKind) (x y z u : Int) :
    (Builtin.max_ ts t #[.int k x, .int k y, .int k z, .int k u]).run P w = .ok (.int k (max (max (max x y) z) u)) w := by
  have e : ∀ x y : Int, (if x < y then y else x) = max x y := fun x y => by
    rw [Int.max_def]
    split <;> split <;> omega
  simp [Builtin.max_, Builtin.max2, e]
def RetCof (S p0 q0 x y : Int) (w : World) (e : Ending) (w' : World) : Prop := ∃ a b c d p q X Y, e = .returned (.tuple #[.int .i64 a, .int .i64 b, .int .i64 c, .int .i64 d]) ∧ (Leh S p0 q0 x y a b c d p q X Y ∧ X ≤ x) ∧ Below w.heap.size w w'
set_option maxRecDepth 100000 in
set_option maxHeartbeats 4000000 in
theorem nt_cofactors (S p0 q0 x y : Int) (w : World) (hs : 0 < S) (x0 : S * p0 ≤ x) (x1 : x < S * p0 + S) (y0 : S * q0 ≤ y) (y1 : y < S * q0 + S) (hp : 0 ≤ p0) (hq : 0 ≤ q0) (hp2 : p0 < 4611686018427387904) (hq2 : q0 < 4611686018427387904) (hle : y ≤ x) (hy : 0 ≤ y) :
    Calls Try.prog 141 #[.int .i64 p0, .int .i64 q0] w (RetCof S p0 q0 x y w) := by
  have HZ := Lib.hid (Leh.zero hs x0 x1 y0 y1 hp hq hle hy)
  have HYX := Lib.hid hle
  clear hs x0 x1 y0 y1 hle hy
  go_enter Try.func141, Try.ntmps141
  go_upto_region 2 with fail
  go_loopw [0, 1, 4, 5, 6, 7] (fun vp vq va vb vc vd wr => ∃ (p q a b c d : Int), vp = .int .i64 p ∧ vq = .int .i64 q ∧ va = .int .i64 a ∧ vb = .int .i64 b ∧ vc = .int .i64 c ∧ vd = .int .i64 d ∧ (0 ≤ p ∧ p < 4611686018427387904) ∧ (0 ≤ q ∧ q < 4611686018427387904) ∧ Hid (∃ X Y, Leh S p0 q0 x y a b c d p q X Y ∧ X ≤ x) ∧ Hid (Below w.heap.size w wr)) (fun _ _ _ _ vc vd _ => (intOf vc * x + intOf vd * y).toNat)
  case atStart => exact ⟨p0, q0, 1, 0, 0, 1, rfl, rfl, rfl, rfl, rfl, rfl, ⟨hp, hp2⟩, ⟨hq, hq2⟩, Lib.hid ⟨x, y, HZ.out, Int.le_refl _⟩, Lib.hid (Below.refl _ _)⟩
  case round =>
    obtain ⟨p, q, a, b, c, d, rfl, rfl, rfl, rfl, rfl, rfl, ⟨hpl, hph⟩, ⟨hql, hqh⟩, HE, HB⟩ := hrel
    obtain ⟨X, Y, hL, -⟩ := HE.out
    have HL := Lib.hid hL
    have ba := hL.ba
    have bb := hL.bb
    have bc := hL.bc
    have bd := hL.bd
    have s1 := hL.pa
    have s2 := hL.pb
    have s3 := hL.qc
    have s4 := hL.qd
    have HL0 := HE
    clear hL HE
    obtain ⟨pa, hpa⟩ : ∃ t, p + a = t := ⟨_, rfl⟩
    obtain ⟨pb, hpb⟩ : ∃ t, p + b = t := ⟨_, rfl⟩
    obtain ⟨qc, hqc⟩ : ∃ t, q + c = t := ⟨_, rfl⟩
    obtain ⟨qd, hqd⟩ : ∃ t, q + d = t := ⟨_, rfl⟩
    have w1 : IntKind.i64.wrap (p + a) = pa := (IntWalk.i64_in _ (by omega)).trans hpa
    have w2 : IntKind.i64.wrap (p + b) = pb := (IntWalk.i64_in _ (by omega)).trans hpb
    have w3 : IntKind.i64.wrap (q + c) = qc := (IntWalk.i64_in _ (by omega)).trans hqc
    have w4 : IntKind.i64.wrap (q + d) = qd := (IntWalk.i64_in _ (by omega)).trans hqd
    rw [hpa] at s1; rw [hpb] at s2; rw [hqc] at s3; rw [hqd] at s4
    have HS := Lib.hid (And.intro hpa (And.intro hpb (And.intro hqc hqd)))
    have p1 : pa < 9223372036854775808 := by omega
    have p2 : pb < 9223372036854775808 := by omega
    clear hpa hpb hqc hqd
    by_cases n1 : qc = 0
    · subst n1
      go_wp2_with fail
      (try simp only [Exit.inBlock, Exit.then])
      refine bodyPost_ret (results_tmp4 rfl _ _ _) rfl ?_
      obtain ⟨X, Y, hL⟩ := HL0.out
      exact ⟨a, b, c, d, p, q, X, Y, rfl, hL, HB.out⟩
    by_cases n2 : qd = 0
    · subst n2
      go_wp2_with fail
      (try simp only [Exit.inBlock, Exit.then])
      refine bodyPost_ret (results_tmp4 rfl _ _ _) rfl ?_
      obtain ⟨X, Y, hL⟩ := HL0.out
      exact ⟨a, b, c, d, p, q, X, Y, rfl, hL, HB.out⟩
    have n1' : (qc == 0) = false := by simp [n1]
    have n2' : (qd == 0) = false := by simp [n2]
    have g3 : 0 < qc := by omega
    have g4 : 0 < qd := by omega
    obtain ⟨f, hf⟩ : ∃ f, pa / qc = f := ⟨_, rfl⟩
    obtain ⟨f2, hf2⟩ : ∃ f, pb / qd = f := ⟨_, rfl⟩
    have b1 := div_in s1 g3 p1
    have b2 := div_in s2 g4 p2
    rw [hf] at b1
    rw [hf2] at b2
    have f0 : 0 ≤ f := by rw [← hf]; exact Int.ediv_nonneg s1 s3
    have HF := Lib.hid (And.intro hf hf2)
    go_upto_region 4 with fail
    by_cases hne : f = f2
    case neg =>
      have hne' : (f == f2) = false := by simp [hne]
      go_wp2_with fail
      (try simp only [Exit.inBlock, Exit.then])
      refine bodyPost_ret (results_tmp4 rfl _ _ _) rfl ?_
      obtain ⟨X, Y, hL⟩ := HL0.out
      exact ⟨a, b, c, d, p, q, X, Y, rfl, hL, HB.out⟩
    subst hne
    by_cases hfl : 2147483647 < f
    · go_wp2_with fail
      (try simp only [Exit.inBlock, Exit.then])
      refine bodyPost_ret (results_tmp4 rfl _ _ _) rfl ?_
      obtain ⟨X, Y, hL⟩ := HL0.out
      exact ⟨a, b, c, d, p, q, X, Y, rfl, hL, HB.out⟩
    have HDV := Lib.hid (div_facts (a := a) (b := b) (c := c) (d := d) HS.out.1 HS.out.2.1 HS.out.2.2.1 HS.out.2.2.2 g3 g4 s1 s2 HF.out)
    have mc := mul_in f0 (by omega) bc
    have md := mul_in f0 (by omega) bd
    obtain ⟨fc, hfc⟩ : ∃ t, f * c = t := ⟨_, rfl⟩
    obtain ⟨fd, hfd⟩ : ∃ t, f * d = t := ⟨_, rfl⟩
    rw [hfc] at mc
    rw [hfd] at md
    obtain ⟨e, he⟩ : ∃ t, a - fc = t := ⟨_, rfl⟩
    obtain ⟨g, hg⟩ : ∃ t, b - fd = t := ⟨_, rfl⟩
    have m1 : wrap64 (f * c) = fc := (IntWalk.wrap64_in _ (by omega)).trans hfc
    have m2 : wrap64 (f * d) = fd := (IntWalk.wrap64_in _ (by omega)).trans hfd
    have m3 : wrap64 (a - fc) = e := (IntWalk.wrap64_in _ (by omega)).trans he
    have m4 : wrap64 (b - fd) = g := (IntWalk.wrap64_in _ (by omega)).trans hg
    have m5 : wrap64 (-e) = -e := IntWalk.wrap64_in _ (by omega)
    have m6 : wrap64 (-g) = -g := IntWalk.wrap64_in _ (by omega)
    have HEQ := Lib.hid (And.intro hfc (And.intro hfd (And.intro he hg)))
    obtain ⟨M, hM⟩ : ∃ M, max (max (max e (-e)) g) (-g) = M := ⟨_, rfl⟩
    have HM : Hid ((e ≤ M ∧ -e ≤ M) ∧ (g ≤ M ∧ -g ≤ M)) := Lib.hid (by omega)
    clear hfc hfd he hg mc md
    by_cases hMl : 2147483647 < M
    · go_wp2_with fail
      (try simp only [Exit.inBlock, Exit.then])
      refine bodyPost_ret (results_tmp4 rfl _ _ _) rfl ?_
      obtain ⟨X, Y, hL⟩ := HL0.out
      exact ⟨a, b, c, d, p, q, X, Y, rfl, hL, HB.out⟩
    have hn := HL.out.step (f := f) (by have := HS.out; omega) (by have := HS.out; omega) (by rw [HS.out.1, HS.out.2.2.1, HF.out.1]) (by rw [HS.out.2.1, HS.out.2.2.2, HF.out.2]) (by have := HM.out; have := HEQ.out; omega) (by have := HM.out; have := HEQ.out; omega)
    rw [HEQ.out.1, HEQ.out.2.1, HEQ.out.2.2.1, HEQ.out.2.2.2] at hn
    obtain ⟨hn, hlt, -⟩ := hn
    have hfq : 0 ≤ f * q := Int.mul_nonneg f0 hql
    obtain ⟨fq, hfqe⟩ : ∃ t, f * q = t := ⟨_, rfl⟩
    rw [hfqe] at hn hfq
    have hr0 : 0 ≤ p - fq := by
      have h1 := hn.qc
      have h2 := hn.qd
      have h3 := hn.sg
      omega
    have m7 : wrap64 (f * q) = fq := (IntWalk.wrap64_in _ (by omega)).trans hfqe
    have m8 : wrap64 (p - fq) = p - fq := IntWalk.wrap64_in _ (by omega)
    have HN := Lib.hid hn
    have HLT := Lib.hid hlt
    have r1 : 0 ≤ p - fq ∧ p - fq < 4611686018427387904 := by omega
    have HR1 := Lib.hid r1
    clear hn hlt hfqe hr0 r1
    go_wp2_with fail
    go_roundw
    case rel => exact ⟨q, p - fq, c, d, e, g, by go_num, by go_num, by go_num, by go_num, by go_num, by go_num, ⟨hql, hqh⟩, HR1.out, Lib.hid ⟨_, _, HN.out, Int.le_trans HL.out.ly HYX.out⟩, HB⟩
    case measure =>
      simp only [intOf]
      have h1 := HL.out.hY
      have h2 := HN.out.hY
      have h3 := HLT.out
      have h4 := HN.out.nn
      try rw [m3]
      try rw [m4]
      rw [← h1, ← h2]
      generalize X - f * Y = Z at h3 h4 ⊢
      omega
end Go.Proofs.Ytmdfgidejdiiiaa
end
section
namespace Go.Proofs.Ytmdfgidejdiiiaa
open Go.RowKit
theorem fac_in {f x : Int} (hf : -2147483647 ≤ f ∧ f ≤ 2147483647) (hx : 0 ≤ x ∧ x < 4294967296) : -9223372030412324865 ≤ f * x ∧ f * x ≤ 9223372030412324865 := by
  have a1 := mul_mono (c := x) hf.1 hx.1
  have a2 := mul_mono (c := x) hf.2 hx.1
  omega
theorem comb_step {X Y T : List Int} {f g : Int} {k : Nat} {x y c s c' : Int} (hk : T.length = k) (hX : X[k]? = some x) (hY : nv (Y.take (k + 1)) = nv (Y.take k) + bp k * y) (hT : nv T + bp k * c = f * nv (X.take k) + g * nv (Y.take k)) (hs : s + 4294967296 * c' = f * x + c + g * y) :
    nv (T ++ [s]) + bp (k + 1) * c' = f * nv (X.take (k + 1)) + g * nv (Y.take (k + 1)) := by
  subst hk
  rw [nv_app, nv_one, nv_take hX, hY, bp_succ]
  have e : 4294967296 * bp T.length * c' = bp T.length * (4294967296 * c') := by rw [Int.mul_comm 4294967296, Int.mul_assoc]
  have h1 : bp T.length * (s + 4294967296 * c') = bp T.length * (f * x + c + g * y) := by rw [hs]
  rw [Int.mul_add, Int.mul_add, Int.mul_add] at h1
  rw [e, Int.mul_add, Int.mul_add, Int.mul_left_comm f, Int.mul_left_comm g]
  omega
set_option maxRecDepth 100000 in
set_option maxHeartbeats 4000000 in
theorem nt_combine (A B : Option Addr) (n m c d : Nat) (X Y : List Int) (f g V : Int) (w : World) (hX : DigA w A X) (hY : DigA w B Y) (hn : X.length = n) (hm : Y.length = m) (hc : n ≤ c) (hd : m ≤ d) (h9 : n ≤ 10000000) (hmn : m ≤ n)
    (hf : -2147483647 ≤ f ∧ f ≤ 2147483647) (hg : -2147483647 ≤ g ∧ g ≤ 2147483647) (hsg : (0 ≤ f ∧ g ≤ 0) ∨ (f ≤ 0 ∧ 0 ≤ g)) (hV : f * nv X + g * nv Y = V) (hV0 : 0 ≤ V) (hV1 : V < bp n) :
    Calls Try.prog 143 #[.slice A n c, .slice B m d, .int .i64 f, .int .i64 g] w (RetN w V n) := by
  have HX := Lib.hid hX
  have HY := Lib.hid hY
  have HL := Lib.hid (And.intro hn hm)
  have HV := Lib.hid (And.intro hV (And.intro hV0 hV1))
  have HDX := Lib.hid hX.dig
  clear hX hY hn hm hV hV0 hV1
  go_enter Try.func143, Try.ntmps143
  go_upto_region 2 with ((with_reducible show wpList _ _ _ (Oper.mk _ (.makeSlice _ _ _) _ _ _ _ :: _) _ _); refine mk_dig rfl _ _ rfl w.heap.size n rfl rfl rfl (by omega) (Nat.le_refl _) ?_; intro w3 ho3 hb3; have HO3 := Lib.hid ho3; have HB3 := Lib.hid hb3; clear ho3 hb3)
  go_upto_region 4 with fail
  obtain ⟨gr, hgr⟩ : ∃ g, g = w.heap.size := ⟨_, rfl⟩
  have HG : Hid (w.heap.size ≤ gr) := Lib.hid (by rw [hgr]; exact Nat.le_refl _)
  have ho3 := HO3.out
  rw [← hgr] at ho3 ⊢
  rw [hgr] at ho3
  clear HO3
  have HO3 : Hid (OwG w.heap.size w3 (.slice (some ⟨gr, 0, none⟩) n n) (List.replicate n 0)) := Lib.hid (by rw [hgr]; exact ho3)
  clear hgr ho3
  go_loopw [10, 19] (fun cy i wr => ∃ (k : Nat) (T : List Int) (cr : Int), k ≤ n ∧ i = .int .i64 k ∧ cy = .int .i64 cr ∧ Hid (-2147483648 ≤ cr ∧ cr ≤ 2147483647) ∧ Hid (T.length = k) ∧ Hid (nv T + bp k * cr = f * nv (X.take k) + g * nv (Y.take k)) ∧ Hid (OwG w.heap.size wr (.slice (some ⟨gr, 0, none⟩) n n) (T ++ List.replicate (n - k) 0)) ∧ Hid (Below w.heap.size w wr)) (fun _ i _ => n - (intOf i).toNat)
  case atStart => exact ⟨0, [], 0, Nat.zero_le _, rfl, rfl, Lib.hid (by omega), Lib.hid rfl, Lib.hid (by simp [nv]), HO3, HB3⟩
  case round =>
    obtain ⟨k, T, cr, hk, rfl, rfl, HCR, HT, HS, HO, HBW⟩ := hrel
    by_cases hlt : k < n
    · obtain ⟨ad, x, rfl, _, hx, hcx, i1, i2⟩ := (HX.out.grow HBW.out).at_ (k := k) (by rw [HL.out.1]; exact hlt)
      have HXX := Lib.hid hx
      have x0 : (0 : Int) ≤ (k : Int) := by omega
      have x1 : (k : Int) < (n : Int) := by omega
      have hcr := HCR.out
      obtain ⟨mz, hmz⟩ : ∃ m, n - k = m + 1 := ⟨n - k - 1, by omega⟩
      have ho := HO.out
      rw [hmz] at ho
      clear hx
      have fxb := fac_in hf ⟨i1, i2⟩
      obtain ⟨fx, hfx⟩ : ∃ t, f * x = t := ⟨_, rfl⟩
      rw [hfx] at fxb
      have m1 : wrap64 (f * x) = fx := (IntWalk.wrap64_in _ (by omega)).trans hfx
      have fs : (0 ≤ f → 0 ≤ fx) ∧ (f ≤ 0 → fx ≤ 0) := by
        rw [← hfx]
        refine ⟨fun h => Int.mul_nonneg h i1, fun h => ?_⟩
        have := mul_mono (c := x) h i1
        omega
      by_cases hky : k < m
      · obtain ⟨bd, y, rfl, _, hy, hcy, j1, j2⟩ := (HY.out.grow HBW.out).at_ (k := k) (by rw [HL.out.2]; exact hky)
        have HYY := Lib.hid hy
        have x3 : (k : Int) < (m : Int) := by omega
        clear hy
        have gyb := fac_in hg ⟨j1, j2⟩
        obtain ⟨gy, hgy⟩ : ∃ t, g * y = t := ⟨_, rfl⟩
        rw [hgy] at gyb
        have m2 : wrap64 (g * y) = gy := (IntWalk.wrap64_in _ (by omega)).trans hgy
        have gs : (0 ≤ g → 0 ≤ gy) ∧ (g ≤ 0 → gy ≤ 0) := by
          rw [← hgy]
          refine ⟨fun h => Int.mul_nonneg h j1, fun h => ?_⟩
          have := mul_mono (c := y) h j1
          omega
        obtain ⟨t, ht⟩ : ∃ t, fx + cr + gy = t := ⟨_, rfl⟩
        have tb : -9223372036854775808 ≤ t ∧ t < 9223372036854775808 := by omega
        have tb2 : -2147483648 ≤ t / 4294967296 ∧ t / 4294967296 ≤ 2147483647 := by omega
        have m3 : wrap64 (fx + cr) = fx + cr := IntWalk.wrap64_in _ (by omega)
        have m4 : wrap64 (fx + cr + gy) = t := (IntWalk.wrap64_in _ (by omega)).trans ht
        have HE : Hid (f * x = fx ∧ g * y = gy) := Lib.hid ⟨hfx, hgy⟩
        clear hfx hgy
        have zc := ho.cell (k := k) (y := 0) (by rw [List.getElem?_append_right (by rw [HT.out]; exact Nat.le_refl _), HT.out, Nat.sub_self]; rfl)
        have zf := ho.free k
        have hse := ho.set k (y := t % 4294967296) ⟨by omega, by omega⟩
        rw [set_zeros T mz _ HT.out] at hse
        have HSE := Lib.hid hse
        have HBS := Lib.hid (HBW.out.setCell (p := ⟨gr, k, none⟩) HG.out (.int .u32 (t % 4294967296)))
        have HST := Lib.hid (comb_step (s := t % 4294967296) (c' := t / 4294967296) HT.out HXX.out (nv_take HYY.out) HS.out (by rw [HE.out.1, HE.out.2]; omega))
        have HCN : Hid (-2147483648 ≤ t / 4294967296 ∧ t / 4294967296 ≤ 2147483647) := Lib.hid (by omega)
        clear ho hse
        go_wp2_with fail
        go_roundw
        case rel => exact ⟨k + 1, T ++ [t % 4294967296], t / 4294967296, by omega, by go_num, by go_num, HCN, Lib.hid (by rw [List.length_append, HT.out]; rfl), HST, Lib.hid (by rw [show n - (k + 1) = mz by omega]; exact HSE.out), HBS⟩
        case measure => simp [intOf]; omega
      · have x3 : ¬ (k : Int) < (m : Int) := by omega
        have HTP := Lib.hid (take_past (Y := Y) (k := k) (by rw [HL.out.2]; omega))
        obtain ⟨t, ht⟩ : ∃ t, fx + cr = t := ⟨_, rfl⟩
        have tb : -9223372036854775808 ≤ t ∧ t < 9223372036854775808 := by omega
        have tb2 : -2147483648 ≤ t / 4294967296 ∧ t / 4294967296 ≤ 2147483647 := by omega
        have m3 : wrap64 (fx + cr) = t := (IntWalk.wrap64_in _ (by omega)).trans ht
        have HE : Hid (f * x = fx ∧ g * 0 = 0) := Lib.hid ⟨hfx, by omega⟩
        clear hfx
        have zc := ho.cell (k := k) (y := 0) (by rw [List.getElem?_append_right (by rw [HT.out]; exact Nat.le_refl _), HT.out, Nat.sub_self]; rfl)
        have zf := ho.free k
        have hse := ho.set k (y := t % 4294967296) ⟨by omega, by omega⟩
        rw [set_zeros T mz _ HT.out] at hse
        have HSE := Lib.hid hse
        have HBS := Lib.hid (HBW.out.setCell (p := ⟨gr, k, none⟩) HG.out (.int .u32 (t % 4294967296)))
        have HST := Lib.hid (comb_step (s := t % 4294967296) (c' := t / 4294967296) HT.out HXX.out HTP.out HS.out (by rw [HE.out.1, HE.out.2]; omega))
        have HCN : Hid (-2147483648 ≤ t / 4294967296 ∧ t / 4294967296 ≤ 2147483647) := Lib.hid (by omega)
        clear ho hse
        go_wp2_with fail
        go_roundw
        case rel => exact ⟨k + 1, T ++ [t % 4294967296], t / 4294967296, by omega, by go_num, by go_num, HCN, Lib.hid (by rw [List.length_append, HT.out]; rfl), HST, Lib.hid (by rw [show n - (k + 1) = mz by omega]; exact HSE.out), HBS⟩
        case measure => simp [intOf]; omega
    · obtain rfl : k = n := by omega
      have hcr0 : cr = 0 ∧ nv T = V := by
        have h1 := HS.out
        rw [take_len (by rw [HL.out.1]; exact Nat.le_refl _), take_len (by rw [HL.out.2]; exact hmn), HV.out.1] at h1
        have hd := HO.out.dig
        rw [Nat.sub_self, List.replicate_zero, List.append_nil] at hd
        have h2 := nv_lt hd
        rw [HT.out] at h2
        have h3 := nv_low hd
        have h4 := HV.out.2
        have h5 := bp_pos k
        have h6 : cr = 0 := by
          rcases Int.lt_trichotomy cr 0 with h | h | h
          · have := mul_mono' (a := cr) (b := -1) (c := bp k) (by omega) (by omega)
            omega
          · exact h
          · have := mul_mono' (a := 1) (b := cr) (c := bp k) (by omega) (by omega)
            omega
        subst h6
        exact ⟨rfl, by omega⟩
      obtain ⟨rfl, hT⟩ := hcr0
      have ho := HO.out
      rw [Nat.sub_self, List.replicate_zero, List.append_nil] at ho
      have HOT := Lib.hid ho
      have HTV := Lib.hid hT
      have CC : Hid (Calls Try.prog 115 #[.slice (some ⟨gr, 0, none⟩) k k] wr (RetCut wr (some ⟨gr, 0, none⟩) k T)) := Lib.hid (nt_cut _ _ _ _ wr ho.digA HT.out (Nat.le_refl _) (by omega))
      clear ho hT
      go_wp2_with (go_at_call 115; (with_reducible refine CC.out.mono ?_); intro e5 w5 h5; have H5 := RetCut.toN HOT.out HBW.out h5; obtain ⟨k5, hk5, rfl, hb5⟩ := h5)
      go_ret
      rw [HTV.out] at H5
      exact H5
end Go.Proofs.Ytmdfgidejdiiiaa
end
section
namespace Go.Proofs.Ytmdfgidejdiiiaa
open Go.RowKit
theorem nt_at (A : Option Addr) (m c g i : Nat) (Y : List Int) (w : World) (hY : DigA w A Y) (hm : Y.length = m) (hg : w.cell? ⟨g, 0, none⟩ = some (.slice A m c)) (hi : i ≤ 10000000) (hm9 : m ≤ 10000000) : Calls Try.prog 145 #[.int .i64 i, .pointer (some ⟨g, 0, none⟩)] w fun e w' => e = .returned (.int .u64 (Y.getD i 0)) ∧ w = w' := by
  have x0 : (0 : Int) ≤ (i : Int) := by omega
  by_cases h : i < m
  · obtain ⟨ad, x, rfl, _, hx, hcx, i1, i2⟩ := hY.at_ (k := i) (by omega)
    have e : Y.getD i 0 = x := by rw [List.getD_eq_getElem?_getD, hx]; rfl
    rw [e]
    have x1 : (i : Int) < (m : Int) := by omega
    clear hx e hY hm
    go_enter Try.func145, Try.ntmps145
    go_wp2_with fail
    go_ret
    exact ⟨rfl, rfl⟩
  · have e : Y.getD i 0 = 0 := by rw [List.getD_eq_getElem?_getD, List.getElem?_eq_none (by omega)]; rfl
    rw [e]
    have x1 : ¬ (i : Int) < (m : Int) := by omega
    clear e hY hm
    go_enter Try.func145, Try.ntmps145
    go_wp2_with fail
    go_ret
    exact ⟨rfl, rfl⟩
theorem dig_getD {Y : List Int} (h : Dig Y) (i : Nat) : 0 ≤ Y.getD i 0 ∧ Y.getD i 0 < 4294967296 := by
  rw [List.getD_eq_getElem?_getD]
  cases e : Y[i]? with
  | none => exact ⟨by simp, by simp⟩
  | some x => exact h.at_ e
theorem take_getD {Y : List Int} (k : Nat) : nv (Y.take (k + 1)) = nv (Y.take k) + bp k * Y.getD k 0 := by
  rw [List.getD_eq_getElem?_getD]
  cases e : Y[k]? with
  | none =>
    have := List.getElem?_eq_none_iff.1 e
    rw [take_past this]; rfl
  | some x => exact nv_take e
theorem pow34 {s : Nat} (hs : s < 32) : (2 : Int) ^ s * 2 ^ (34 - s) = 17179869184 := by
  rw [← Int.pow_add, show s + (34 - s) = 34 by omega]; rfl
theorem lead_facts {P R D T H y0 low Y p : Int} (hP : 0 < P) (hR : P * R = 17179869184) (hD : 0 < D) (hT : T = 4294967296 * H + y0) (hY : Y = low + D * T) (hl : 0 ≤ low ∧ low < D) (hp : p = (H * P + y0 * P / 4294967296) / 4) :
    D * R * p ≤ Y ∧ Y < D * R * p + D * R := by
  obtain ⟨e, he⟩ : ∃ e, y0 * P / 4294967296 = e := ⟨_, rfl⟩
  have h1 : 4294967296 * e ≤ y0 * P ∧ y0 * P < 4294967296 * e + 4294967296 := by omega
  rw [he] at hp
  obtain ⟨top, ht⟩ : ∃ t, H * P + e = t := ⟨_, rfl⟩
  rw [ht] at hp
  have h2 : 4 * p ≤ top ∧ top < 4 * p + 4 := by omega
  have h3 : T * P = 4294967296 * (H * P) + y0 * P := by rw [hT, Int.add_mul, Int.mul_assoc]
  have h4 : 17179869184 * p ≤ T * P ∧ T * P < 17179869184 * p + 17179869184 := by omega
  rw [← hR] at h4
  have e1 : P * R * p = P * (R * p) := Int.mul_assoc _ _ _
  have e2 : T * P = P * T := Int.mul_comm _ _
  have e3 : P * (R * p) + P * R = P * (R * p + R) := by rw [Int.mul_add]
  rw [e1, e2] at h4
  rw [e3] at h4
  have h5 : R * p ≤ T := Int.le_of_mul_le_mul_left h4.1 hP
  have h6 : T < R * p + R := Int.lt_of_mul_lt_mul_left h4.2 (Int.le_of_lt hP)
  have h7 := mul_mono' h5 (Int.le_of_lt hD)
  have h8 := mul_mono' (show T + 1 ≤ R * p + R by omega) (Int.le_of_lt hD)
  rw [Int.mul_add, Int.mul_add] at h8
  rw [Int.mul_assoc]
  omega
theorem cell_new1 (w : World) (v : Value) (t : TypeId) : (w.alloc (.cells #[v] t)).cell? ⟨w.heap.size, 0, none⟩ = some v := by
  exact (World.cell?_alloc_mark w #[v] t (0, 0) 0).trans rfl
def RetLead (w : World) (S Y : Int) (e : Ending) (w' : World) : Prop := ∃ p : Int, e = .returned (.int .i64 p) ∧ (0 ≤ p ∧ p < 4611686018427387904) ∧ (S * p ≤ Y ∧ Y < S * p + S) ∧ Below w.heap.size w w'
set_option maxRecDepth 100000 in
set_option maxHeartbeats 2000000 in
theorem nt_leading (A : Option Addr) (m c n s : Nat) (Y : List Int) (w : World) (hY : DigA w A Y) (hm : Y.length = m) (hmn : m ≤ n) (h3 : 3 ≤ n) (h9 : n ≤ 10000000) (hs : s < 32) (htop : 2 ^ s * (Y.getD (n - 1) 0 + 1) ≤ 4294967296) :
    Calls Try.prog 142 #[.slice A m c, .int .i64 n, .int .u64 s] w (RetLead w (bp (n - 3) * 2 ^ (34 - s)) (nv Y)) := by
  obtain ⟨k, hk⟩ : ∃ k, n = k + 3 := ⟨n - 3, by omega⟩
  have d2 := dig_getD hY.dig (k + 2)
  have d1 := dig_getD hY.dig (k + 1)
  have d0 := dig_getD hY.dig k
  have f2 := take_getD (Y := Y) (k + 2)
  have f1 := take_getD (Y := Y) (k + 1)
  have f0 := take_getD (Y := Y) k
  rw [take_len (by omega)] at f2
  have hl : 0 ≤ nv (Y.take k) ∧ nv (Y.take k) < bp k := by
    refine ⟨nv_low (hY.dig.take k), Int.lt_of_lt_of_le (nv_lt (hY.dig.take k)) (bp_le ?_)⟩
    rw [List.length_take]; omega
  rw [show n - 1 = k + 2 by omega] at htop
  rw [show n - 3 = k by omega]
  have CA : Hid (∀ (i : Nat) w1, i ≤ 10000000 → Below (w.heap.size + 1) (w.alloc (.cells #[.slice A m c] 24)) w1 → Calls Try.prog 145 #[.int .i64 i, .pointer (some ⟨w.heap.size, 0, none⟩)] w1 fun e w' => e = .returned (.int .u64 (Y.getD i 0)) ∧ w1 = w') := Lib.hid fun i w1 hi hb => by
    have hb0 := (Below.refl w.heap.size w).alloc (Nat.le_refl _) (.cells #[.slice A m c] 24)
    exact nt_at A m c w.heap.size i Y w1 ((hY.grow hb0).grow (by simpa using hb)) hm (by
      have h := hb.cell (p := ⟨w.heap.size, 0, none⟩) (Nat.lt_succ_self _)
      rw [h]
      exact cell_new1 w _ _) hi (by omega)
  obtain ⟨y2, e2⟩ : ∃ y, Y.getD (k + 2) 0 = y := ⟨_, rfl⟩
  obtain ⟨y1, e1⟩ : ∃ y, Y.getD (k + 1) 0 = y := ⟨_, rfl⟩
  obtain ⟨y0, e0⟩ : ∃ y, Y.getD k 0 = y := ⟨_, rfl⟩
  have C2 : Hid (∀ w1, Below (w.heap.size + 1) (w.alloc (.cells #[.slice A m c] 24)) w1 → Calls Try.prog 145 #[.int .i64 ((k : Int) + 2), .pointer (some ⟨w.heap.size, 0, none⟩)] w1 fun e w' => e = .returned (.int .u64 y2) ∧ w1 = w') := Lib.hid fun w1 hb => by have := CA.out (k + 2) w1 (by omega) hb; rw [e2] at this; exact this
  have C1 : Hid (∀ w1, Below (w.heap.size + 1) (w.alloc (.cells #[.slice A m c] 24)) w1 → Calls Try.prog 145 #[.int .i64 ((k : Int) + 1), .pointer (some ⟨w.heap.size, 0, none⟩)] w1 fun e w' => e = .returned (.int .u64 y1) ∧ w1 = w') := Lib.hid fun w1 hb => by have := CA.out (k + 1) w1 (by omega) hb; rw [e1] at this; exact this
  have C0 : Hid (∀ w1, Below (w.heap.size + 1) (w.alloc (.cells #[.slice A m c] 24)) w1 → Calls Try.prog 145 #[.int .i64 (k : Int), .pointer (some ⟨w.heap.size, 0, none⟩)] w1 fun e w' => e = .returned (.int .u64 y0) ∧ w1 = w') := Lib.hid fun w1 hb => by have := CA.out k w1 (by omega) hb; rw [e0] at this; exact this
  rw [e2] at d2 f2 htop
  rw [e1] at d1 f1
  rw [e0] at d0 f0
  have hps := pow2_pos s
  have hpu := pow_up hs
  have h34 := pow34 hs
  obtain ⟨H, hH⟩ : ∃ t, 4294967296 * y2 + y1 = t := ⟨_, rfl⟩
  obtain ⟨P, hP⟩ : ∃ t : Int, (2 : Int) ^ s = t := ⟨_, rfl⟩
  have o1 := shl_or (a := y2) (b := y1) d2 d1
  rw [hH] at o1
  have hHP : 0 ≤ H * P ∧ H * P < 18446744073709551616 ∧ H * P + P ≤ 18446744073709551616 := by
    rw [hP] at htop hps
    have a1 := mul_mono (a := H + 1) (b := 4294967296 * (y2 + 1)) (c := P) (by omega) (by omega)
    rw [Int.mul_assoc, Int.mul_comm (y2 + 1), Int.add_mul] at a1
    exact ⟨Int.mul_nonneg (by omega) (by omega), by omega, by omega⟩
  have hyP : 0 ≤ y0 * P ∧ y0 * P < 9223372036854775808 := by
    rw [hP] at hps hpu
    have a1 := mul_mono (a := y0) (b := 4294967295) (c := P) (by omega) (by omega)
    exact ⟨Int.mul_nonneg (by omega) (by omega), by omega⟩
  have o2 : bits BinOp.or IntKind.u64 (H * P) (y0 * P / 4294967296) = H * P + y0 * P / 4294967296 := by
    refine or_add64 (i := s) ⟨hHP.1, hHP.2.1⟩ ?_ ?_ (by omega)
    · rw [hP]; exact Int.mul_emod_left _ _
    · rw [hP]
      have a1 := mul_mono (a := y0 + 1) (b := 4294967296) (c := P) (by omega) (by omega)
      rw [Int.add_mul] at a1
      rw [hP] at hps
      have := Int.ediv_lt_of_lt_mul (a := y0 * P) (b := P) (c := 4294967296) (by omega) (by have e := Int.mul_comm P 4294967296; omega)
      exact ⟨by omega, this⟩
  have hef : y0 * P / 4294967296 < P := by
    rw [hP] at hps
    have a1 := mul_mono (a := y0 + 1) (b := 4294967296) (c := P) (by omega) (by omega)
    rw [Int.add_mul] at a1
    exact Int.ediv_lt_of_lt_mul (a := y0 * P) (b := P) (c := 4294967296) (by omega) (by have e := Int.mul_comm P 4294967296; omega)
  have HPB : Hid (0 ≤ (H * P + y0 * P / 4294967296) / 4 ∧ (H * P + y0 * P / 4294967296) / 4 < 4611686018427387904) := Lib.hid (by omega)
  have HLF := Lib.hid (lead_facts (P := P) (R := 2 ^ (34 - s)) (D := bp k) (T := 4294967296 * H + y0) (H := H) (y0 := y0) (low := nv (Y.take k)) (Y := nv Y) (p := (H * P + y0 * P / 4294967296) / 4) (by rw [← hP]; exact hps) (by rw [← hP]; exact h34) (bp_pos k) rfl (by
    simp only [bp_succ] at f2 f1
    rw [f2, f1, f0, ← hH]
    simp only [Int.mul_add, Int.add_mul, Int.mul_assoc, Int.mul_left_comm, Int.mul_comm]
    omega) hl rfl)
  have n1 : IntKind.i64.wrap ((n : Int) - 1) = (k : Int) + 2 := (IntWalk.i64_in _ (by omega)).trans (by omega)
  have n2 : IntKind.i64.wrap ((n : Int) - 2) = (k : Int) + 1 := (IntWalk.i64_in _ (by omega)).trans (by omega)
  have n3 : IntKind.i64.wrap ((n : Int) - 3) = (k : Int) := (IntWalk.i64_in _ (by omega)).trans (by omega)
  have HHH := Lib.hid hH
  have hmf : ∀ (fn : Fn) (first cap : Array Value) (w : World), (Instr.makeFunc fn first cap).run Try.prog w = .ok (.func fn first cap) w := fun _ _ _ _ => rfl
  clear hk hY hm CA f2 f1 f0 hl e2 e1 e0 htop h34 hH
  go_enter Try.func142, Try.ntmps142
  go_upto_region 2 with fail
  have HB1 : Hid (Below (w.heap.size + 1) (w.alloc (.cells #[.slice A m c] 24)) (w.alloc (.cells #[.slice A m c] 24))) := Lib.hid (Below.refl _ _)
  go_upto_region 3 with (go_at_call 145; first
    | ((with_reducible refine (C2.out _ HB1.out).mono ?_); rintro e2 w2 ⟨rfl, rfl⟩)
    | ((with_reducible refine (C1.out _ HB1.out).mono ?_); rintro e2 w2 ⟨rfl, rfl⟩))
  go_wp2_with (go_at_call 145; (with_reducible refine (C0.out _ HB1.out).mono ?_); rintro e2 w2 ⟨rfl, rfl⟩)
  go_ret
  exact ⟨_, rfl, HPB.out, HLF.out, (Below.refl w.heap.size w).alloc (Nat.le_refl _) _⟩
end Go.Proofs.Ytmdfgidejdiiiaa
end
section
namespace Go.Proofs.Ytmdfgidejdiiiaa
open Go.RowKit
def RetShort (base : Nat) (X Y : Int) (K : Nat) (w : World) (e : Ending) (w' : World) : Prop := ∃ v1 l1 v2 l2, e = .returned (.tuple #[v1, v2]) ∧ (OwG base w' v1 l1 ∧ Nrm l1 ∧ l1.length ≤ K) ∧ (OwG base w' v2 l2 ∧ Nrm l2 ∧ l2.length ≤ K) ∧ (nv l2 ≤ nv l1 ∧ nv l2 < Y ∧ 0 < nv l1) ∧ (∀ k : Int, k ∣ nv l1 → k ∣ nv l2 → k ∣ X ∧ k ∣ Y) ∧ Below w.heap.size w w'
set_option maxRecDepth 100000 in
set_option maxHeartbeats 4000000 in
theorem nt_shorten (base : Nat) (A B : Option Addr) (p m c d : Nat) (X Y : List Int) (w : World) (hb : base ≤ w.heap.size) (hX : OwG base w (.slice A p c) X) (hY : OwG base w (.slice B m d) Y) (h9 : p ≤ 10000000) (nX : Nrm X) (nY : Nrm Y) (hle : nv Y ≤ nv X) (h3 : 2 < m) :
    Calls Try.prog 129 #[.slice A p c, .slice B m d] w (RetShort base (nv X) (nv Y) p w) := by
  obtain ⟨hp, hc⟩ := hX.len
  obtain ⟨hm, hd⟩ := hY.len
  have hmp : m ≤ p := by
    rcases Nat.lt_or_ge p m with h | h
    · have := nrm_lt hX.dig hY.dig nY (by omega); omega
    · exact h
  obtain ⟨p1, hp1⟩ : ∃ k, p = k + 1 := ⟨p - 1, by omega⟩
  have hne : Y ≠ [] := fun e => by rw [e] at hm; simp at hm; omega
  have hy0 : 0 < nv Y := by
    have h1 := nrm_le hY.dig nY hne
    have := bp_pos (Y.length - 1)
    omega
  obtain ⟨ad, x1, rfl, hbx, hx1, hcx, x1a, x1b⟩ := hX.digA.at_ (k := p1) (by omega)
  have hx0 : 0 < x1 := by have := nX p1 x1 (by omega) hx1; omega
  obtain ⟨s, hs, hs32, hsl, hsh⟩ := lz_facts hx0 x1b
  have CZ : Hid (∀ w1, Calls Try.prog 137 #[.int .u32 x1] w1 fun e w' => e = .returned (.int .i64 (s : Int)) ∧ w1 = w') := Lib.hid fun w1 => (hs ▸ Try.bits_LeadingZeros32 x1 w1 x1a (by omega)).mono fun e w' h => ⟨h.1, h.2.symm⟩
  have hpu := pow_up hs32
  have hps := pow2_pos s
  have gx : X.getD (p - 1) 0 = x1 := by rw [List.getD_eq_getElem?_getD, show p - 1 = p1 by omega, hx1]; rfl
  have gy : 2 ^ s * (Y.getD (p - 1) 0 + 1) ≤ 4294967296 := by
    rcases Nat.lt_or_ge (p - 1) m with h | h
    · obtain ⟨_, y1, _, _, hy1, _, y1a, y1b⟩ := hY.digA.at_ (k := p - 1) (by omega)
      have e : Y.getD (p - 1) 0 = y1 := by rw [List.getD_eq_getElem?_getD, hy1]; rfl
      rw [e]
      have h1 := dig_le hY.dig hy1
      have h2 := nv_take hx1
      rw [take_len (by omega)] at h2
      have h4 := nv_lt (hX.dig.take p1)
      rw [List.length_take, Nat.min_eq_left (by omega)] at h4
      rw [show p - 1 = p1 by omega] at h1
      have h5 := bp_pos p1
      have h6 : bp p1 * y1 < bp p1 * (x1 + 1) := by rw [Int.mul_add, Int.mul_one]; omega
      have h7 := Int.lt_of_mul_lt_mul_left h6 (by omega)
      have h8 := mul_mono' (a := y1 + 1) (b := x1 + 1) (c := 2 ^ s) (by omega) (by omega)
      omega
    · have e : Y.getD (p - 1) 0 = 0 := by rw [List.getD_eq_getElem?_getD, List.getElem?_eq_none (by omega)]; rfl
      rw [e]; omega
  obtain ⟨S, hS⟩ : ∃ t, bp (p - 3) * (2 : Int) ^ (34 - s) = t := ⟨_, rfl⟩
  have hS0 : 0 < S := by rw [← hS]; exact Int.mul_pos (bp_pos _) (pow2_pos _)
  have CLX : Hid (∀ w1, Below w.heap.size w w1 → Calls Try.prog 142 #[.slice (some ad) p c, .int .i64 p, .int .u64 s] w1 (RetLead w1 S (nv X))) := Lib.hid fun w1 h => by
    have := nt_leading (some ad) p c p s X w1 (hX.digA.grow h) hp (Nat.le_refl _) (by omega) h9 hs32 (by rw [gx]; exact hsh)
    rw [hS] at this; exact this
  have CLY : Hid (∀ w1, Below w.heap.size w w1 → Calls Try.prog 142 #[.slice B m d, .int .i64 p, .int .u64 s] w1 (RetLead w1 S (nv Y))) := Lib.hid fun w1 h => by
    have := nt_leading B m d p s Y w1 (hY.digA.grow h) hm hmp (by omega) h9 hs32 gy
    rw [hS] at this; exact this
  have CCF : Hid (∀ p0 q0 w1, (0 ≤ p0 ∧ p0 < 4611686018427387904) → (0 ≤ q0 ∧ q0 < 4611686018427387904) → (S * p0 ≤ nv X ∧ nv X < S * p0 + S) → (S * q0 ≤ nv Y ∧ nv Y < S * q0 + S) → Calls Try.prog 141 #[.int .i64 p0, .int .i64 q0] w1 (RetCof S p0 q0 (nv X) (nv Y) w1)) := Lib.hid fun p0 q0 w1 h1 h2 h4 h5 => nt_cofactors S p0 q0 (nv X) (nv Y) w1 hS0 h4.1 h4.2 h5.1 h5.2 h1.1 h2.1 h1.2 h2.2 hle (Int.le_of_lt hy0)
  have CDV : Hid (∀ w1, Below w.heap.size w w1 → Calls Try.prog 128 #[.slice (some ad) p c, .slice B m d] w1 (RetQR w1 (nv X / nv Y) (nv X % nv Y) p m)) := Lib.hid fun w1 h => nt_divide (some ad) B p m c d X Y w1 (hX.digA.grow h) (hY.digA.grow h) hp hm hc hd h9 (by omega) nX nY hne
  have CCB : Hid (∀ f g V w1, Below w.heap.size w w1 → (-2147483647 ≤ f ∧ f ≤ 2147483647) → (-2147483647 ≤ g ∧ g ≤ 2147483647) → ((0 ≤ f ∧ g ≤ 0) ∨ (f ≤ 0 ∧ 0 ≤ g)) → f * nv X + g * nv Y = V → 0 ≤ V → V ≤ nv X → Calls Try.prog 143 #[.slice (some ad) p c, .slice B m d, .int .i64 f, .int .i64 g] w1 (RetN w1 V p)) := Lib.hid fun f g V w1 h h1 h2 h4 h5 h6 h7 => nt_combine (some ad) B p m c d X Y f g V w1 (hX.digA.grow h) (hY.digA.grow h) hp hm hc hd h9 hmp h1 h2 h4 h5 h6 (by have := nv_lt hX.dig; rw [hp] at this; omega)
  have w1' : IntKind.i64.wrap ((p : Int) - 1) = (p1 : Int) := (IntWalk.i64_in _ (by omega)).trans (by omega)
  have x0 : (p1 : Int) < (p : Int) := by omega
  have HY := Lib.hid (And.intro hY (And.intro nY (And.intro hm hmp)))
  have HV := Lib.hid (And.intro hy0 hle)
  have HBS := Lib.hid hb
  clear hX hY hp hm hp1 hx1 hx0 hs hsl hsh hpu hps gx gy hS hS0 hne hy0 hle nX nY hb x1a x1b hbx
  go_enter Try.func129, Try.ntmps129
  go_upto_region 3 with (go_at_call 137; (with_reducible refine (CZ.out _).mono ?_); rintro e2 w2 ⟨rfl, rfl⟩)
  have HB0 : Hid (Below w.heap.size w w) := Lib.hid (Below.refl _ _)
  go_upto_region 4 with (first
    | (go_at_call 142; first
        | ((with_reducible refine (CLX.out _ HB0.out).mono ?_); rintro e4 w4 ⟨p0, rfl, p0b, p0s, hb4⟩; have HB4 := Lib.hid hb4; have HP0 := Lib.hid (And.intro p0b p0s); clear hb4 p0b p0s)
        | ((with_reducible refine (CLY.out _ HB4.out).mono ?_); rintro e5 w5 ⟨q0, rfl, q0b, q0s, hb5⟩; have HB5 := Lib.hid (below_then HB4.out hb5); have HQ0 := Lib.hid (And.intro q0b q0s); clear hb5 q0b q0s))
    | (go_at_call 141; (with_reducible refine (CCF.out _ _ _ HP0.out.1 HQ0.out.1 HP0.out.2 HQ0.out.2).mono ?_); rintro e6 w6 ⟨fa, fb, fc, fd, pp, qq, XX, YY, rfl, hL, hb6⟩; have HB6 := Lib.hid (below_then HB5.out hb6); have HL := Lib.hid hL; clear hb6 hL))
  have HD := Lib.hid (fun (k : Int) => HL.out.1.dvd (k := k))
  have hsz := HB6.out.size
  by_cases hb0 : fb = 0
  · subst hb0
    go_wp2_with (go_at_call 128; (with_reducible refine (CDV.out _ HB6.out).mono ?_); rintro e7 w7 ⟨v1, l1, v2, l2, rfl, ⟨-, -, -, -⟩, ⟨o2, n2, m2, k2⟩, hb7⟩; have HB7 := Lib.hid hb7; have H2 := Lib.hid (And.intro o2 (And.intro n2 (And.intro m2 k2))); clear hb7 o2 n2 m2 k2)
    go_ret2
    obtain ⟨o2, n2, m2, k2⟩ := H2.out
    obtain ⟨y1, y2, y3, y4⟩ := HY.out
    have v1 := HV.out.1
    have h1 := Int.emod_lt_of_pos (nv X) v1
    have hbs := HBS.out
    refine ⟨_, Y, _, l2, rfl, ⟨(y1.grow HB6.out).grow HB7.out, y2, by omega⟩, ⟨o2.base (by omega), m2, by omega⟩, ⟨by rw [n2]; omega, by rw [n2]; exact h1, v1⟩, fun k h1 h2 => ?_, below_then HB6.out HB7.out⟩
    rw [n2] at h2
    exact ⟨dvd_mod h1 h2, h1⟩
  · have hl := HL.out.1
    have hlt : YY < nv Y := by
      rcases hl.lt with h | h
      · exact absurd h hb0
      · exact h
    have hv := HV.out
    have hx0 : 0 < XX := by
      have h1 := hl.nn
      have h2 := hl.le
      rcases Int.lt_or_le 0 XX with h | h
      · exact h
      · have h4 := (HD.out 0 (by rw [show XX = 0 by omega]; exact Int.dvd_refl 0) (by rw [show YY = 0 by omega]; exact Int.dvd_refl 0)).2
        have := Int.zero_dvd.1 h4
        omega
    have CX : Hid (∀ w1, Below w.heap.size w w1 → Calls Try.prog 143 #[.slice (some ad) p c, .slice B m d, .int .i64 fa, .int .i64 fb] w1 (RetN w1 XX p)) := Lib.hid fun w1 h => CCB.out fa fb XX w1 h hl.ba hl.bb (by have := hl.sg; omega) hl.hX.symm (by omega) HL.out.2
    have CY : Hid (∀ w1, Below w.heap.size w w1 → Calls Try.prog 143 #[.slice (some ad) p c, .slice B m d, .int .i64 fc, .int .i64 fd] w1 (RetN w1 YY p)) := Lib.hid fun w1 h => CCB.out fc fd YY w1 h hl.bc hl.bd (by have := hl.sg; omega) hl.hY.symm hl.nn (by have := hl.le; have := HL.out.2; omega)
    have HR := Lib.hid (And.intro hlt (And.intro hx0 hl.le))
    have hb0' : (fb == 0) = false := by simp [hb0]
    clear hl hlt hv hx0
    go_wp2_with (go_at_call 143; first
      | ((with_reducible refine (CX.out _ HB6.out).mono ?_); rintro e7 w7 ⟨v1, l1, rfl, o1, n1, m1, k1, hb7⟩; have HB7 := Lib.hid (below_then HB6.out hb7); have HO1 := Lib.hid (And.intro (o1.base (base' := base) (Nat.le_trans HBS.out hsz)) (And.intro n1 (And.intro m1 k1))); clear hb7 o1 n1 m1 k1)
      | ((with_reducible refine (CY.out _ HB7.out).mono ?_); rintro e8 w8 ⟨v2, l2, rfl, o2, n2, m2, k2, hb8⟩; have HB8 := Lib.hid hb8; have HO2 := Lib.hid (And.intro (o2.base (base' := base) (Nat.le_trans HBS.out HB7.out.size)) (And.intro n2 (And.intro m2 k2))); clear hb8 o2 n2 m2 k2))
    go_ret2
    obtain ⟨o1, n1, m1, k1⟩ := HO1.out
    obtain ⟨o2, n2, m2, k2⟩ := HO2.out
    obtain ⟨r1, r2, r3⟩ := HR.out
    refine ⟨_, l1, _, l2, rfl, ⟨o1.grow HB8.out, m1, k1⟩, ⟨o2, m2, k2⟩, ⟨by rw [n1, n2]; exact r3, by rw [n2]; exact r1, by rw [n1]; exact r2⟩, fun k h1 h2 => ?_, below_then HB7.out HB8.out⟩
    rw [n1] at h1
    rw [n2] at h2
    exact HD.out k h1 h2
end Go.Proofs.Ytmdfgidejdiiiaa
end
