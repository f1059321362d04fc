/- blackboardlaw3.PolySums. -/
import Derived.Test.YtnpfncdfndabhaaPolyC
import Derived.Deep.RegionHeld3
namespace Go.Proofs.Ytnpfncdfndabhaa
open Go.ChangeShapes Go.WideShapes Go.ChangeAt Go.RowKit
attribute [local go_sem ↓] Go.wp_at_zero Go.wp_at_succ

/-- Two rows by value. -/
theorem rows2_of {H : Type} {enc : TypeId × Value → H} {w : World} {base b0 : Nat} {v : Value} {d : DataW H} {ps : List MemPlace} {sp : Nat → Bool}
    (hv : Value.okWide Try.prog w .any b0 32 v) (h : DataW.Trod enc Try.prog w base sp true 32 v d ps) :
    ∃ a0 l0 c0 a1 l1 c1 p0 p1, v = .agg #[.slice a0 l0 c0, .slice a1 l1 c1] ∧ (l0 ≤ 1000000 → ArgU w a0 l0 p0) ∧ l0 ≤ c0 ∧ (l1 ≤ 1000000 → ArgU w a1 l1 p1) ∧ l1 ≤ c1 := by
  simp only [Value.okWide, Try.underlying32] at hv
  obtain ⟨cs, rfl, h2, _⟩ := hv
  obtain ⟨fuel, hf⟩ := h
  obtain ⟨xs, m, _, _, _, hlen, hf2⟩ := DataW.trod_array Try.underlying32 hf
  have c1 : Try.prog.cellsOf 22 = 1 := by kernel_rfl
  have c2 : Try.prog.cellsOf 32 = 2 := by kernel_rfl
  rw [c2] at h2
  have h0 := hf2 0 (by omega)
  have h1 := hf2 1 (by omega)
  rw [c1, List.getElem?_eq_getElem (by omega)] at h0 h1
  obtain ⟨x, y, rfl⟩ : ∃ x y, cs = #[x, y] := by
    rcases cs with ⟨l⟩
    match l, h2 with
    | [x, y], _ => exact ⟨x, y, rfl⟩
  simp only [Value.cells, Nat.zero_mul, Nat.one_mul, List.drop_zero, List.take_succ_cons, List.take_zero, List.drop_succ_cons] at h0 h1
  have shape : ∀ (z : Value) (r : DataW H × List MemPlace), DataW.trod enc Try.prog w base sp true m 22 [z] = some r → ∃ a l c, z = .slice a l c := fun z r hz => by
    rcases open_ints (k := .u16) Try.underlying22 Try.underlying23 (by kernel_rfl) hz with ⟨hcs, _⟩ | ⟨x, l, c, zs, hcs, _⟩
    · exact ⟨none, 0, 0, by simpa using hcs⟩
    · exact ⟨some x, l, c, by simpa using hcs⟩
  obtain ⟨a0, l0, e0, rfl⟩ := shape x _ h0
  obtain ⟨a1, l1, e1, rfl⟩ := shape y _ h1
  obtain ⟨p0, hp0, q0⟩ := argU_of (enc := enc) (w := w) (base := base) (sp := sp) (d := (xs[0]'(by omega)).1) (ps := (xs[0]'(by omega)).2) ⟨m, h0⟩
  obtain ⟨p1, hp1, q1⟩ := argU_of (enc := enc) (w := w) (base := base) (sp := sp) (d := (xs[1]'(by omega)).1) (ps := (xs[1]'(by omega)).2) ⟨m, h1⟩
  exact ⟨a0, l0, e0, a1, l1, e1, p0, p1, rfl, hp0, q0, hp1, q1⟩

/-- What the last region holds. -/
structure SumsSt (w : World) (gt g1 g2 gc : Nat) (a b aS a0 a1 : Option Addr) (na nb ls l0 c0 l1 c1 : Nat) (F G H : Nat → Nat) (la lb lh : Nat) (W : World) : Prop where
  tv : TVar W gt g1 g2
  a : Says W a na F la
  b : Says W b nb G lb
  s : Says W aS ls (padd F G) ls
  c : Says W a0 l0 H lh
  cell : Blk W gc 32 #[.slice a0 l0 c0, .slice a1 l1 c1]
  kp : Keep (fun _ => False) w W
theorem SumsSt.keep {w : World} {gt g1 g2 gc : Nat} {a b aS a0 a1 : Option Addr} {na nb ls l0 c0 l1 c1 : Nat} {F G H : Nat → Nat} {la lb lh : Nat} {W W' : World}
    (h : SumsSt w gt g1 g2 gc a b aS a0 a1 na nb ls l0 c0 l1 c1 F G H la lb lh W) (k : Keep (fun _ => False) W W') : SumsSt w gt g1 g2 gc a b aS a0 a1 na nb ls l0 c0 l1 c1 F G H la lb lh W' :=
  ⟨h.tv.keep k, h.a.keep k, h.b.keep k, h.s.keep k, h.c.keep k, h.cell.keep k (by simp), h.kp.comp k⟩
theorem SumsSt.cells {w : World} {gt g1 g2 gc : Nat} {a b aS a0 a1 : Option Addr} {na nb ls l0 c0 l1 c1 : Nat} {F G H : Nat → Nat} {la lb lh : Nat} {W : World}
    (h : SumsSt w gt g1 g2 gc a b aS a0 a1 na nb ls l0 c0 l1 c1 F G H la lb lh W) :
    W.cell? ⟨gt, 0, none⟩ = some (.slice (some ⟨g1, 0, none⟩) 1023 1023) ∧ W.cell? ⟨gt, 1, none⟩ = some (.slice (some ⟨g2, 0, none⟩) 1024 1024) ∧ W.cell? ⟨gc, 0, none⟩ = some (.slice a0 l0 c0) :=
  ⟨(tab_cells h.tv.b).1, (tab_cells h.tv.b).2, by rw [h.cell.cell]; rfl⟩

theorem ev_padd {F G : Nat → Nat} {l k j : Nat} (hF : IsPol F l) (hG : IsPol G k) (hj : IsPol (padd F G) j) (x : Nat) : ev (padd F G) x j = ev F x l ^^^ ev G x k := by
  unfold ev
  rw [← hor_more 0 j (l + k + j) (by omega) (fun i hi => hj.zero i (by omega)), hor_padd hF.lt hG.lt, hor_more 0 l (l + k + j) (by omega) (fun i hi => hF.zero i (by omega)), hor_more 0 k (l + k + j) (by omega) (fun i hi => hG.zero i (by omega))]

set_option maxHeartbeats 16000000 in
theorem sums_true (a b a0 a1 : Option Addr) (na nb ca cb l0 c0 l1 c1 : Nat) (p q r : Nat → Nat) (w : World) (ha : na ≤ 1000000 → ArgU w a na p) (hb : nb ≤ 1000000 → ArgU w b nb q) (hr : l0 ≤ 1000000 → ArgU w a0 l0 r) (hca : na ≤ ca) (hcb : nb ≤ cb) (hc0 : l0 ≤ c0) :
    Calls Try.prog 4 #[.slice a na ca, .slice b nb cb, .agg #[.slice a0 l0 c0, .slice a1 l1 c1]] w fun e w' => e = .returned (.bool true) ∧ Keep (fun _ => False) w w' := by
  have HA' := Lib.hid ha
  have HB' := Lib.hid hb
  have HR' := Lib.hid hr
  clear ha hb hr
  have kB := (Keep.refl (fun _ => False) w).alloc (.cells #[.slice a0 l0 c0, .slice a1 l1 c1] 32)
  have bB := Blk.new w 32 #[.slice a0 l0 c0, .slice a1 l1 c1]
  by_cases h1 : 60 < na
  · have e1 : (60 : Int) < (na : Int) := by omega
    go_enter Try.func4, Try.ntmps4
    go_wp2_with fail
    refine (awake_true _).mono ?_
    rintro e w1 ⟨rfl, k1⟩
    have bB1 := bB.keep k1 (by simp)
    have c0' : w1.cell? ⟨w.heap.size, 0, none⟩ = some (.slice a0 l0 c0) := by rw [bB1.cell]; rfl
    have c1' : w1.cell? ⟨w.heap.size, 1, none⟩ = some (.slice a1 l1 c1) := by rw [bB1.cell]; rfl
    go_wp2_with fail
    go_ret
    exact ⟨rfl, kB.comp k1⟩
  by_cases h2 : 60 < nb
  · have e1 : ¬ (60 : Int) < (na : Int) := by omega
    have e2 : (60 : Int) < (nb : Int) := by omega
    go_enter Try.func4, Try.ntmps4
    go_wp2_with fail
    refine (awake_true _).mono ?_
    rintro e w1 ⟨rfl, k1⟩
    have bB1 := bB.keep k1 (by simp)
    have c0' : w1.cell? ⟨w.heap.size, 0, none⟩ = some (.slice a0 l0 c0) := by rw [bB1.cell]; rfl
    have c1' : w1.cell? ⟨w.heap.size, 1, none⟩ = some (.slice a1 l1 c1) := by rw [bB1.cell]; rfl
    go_wp2_with fail
    go_ret
    exact ⟨rfl, kB.comp k1⟩
  by_cases h3 : 60 < l0
  · have e1 : ¬ (60 : Int) < (na : Int) := by omega
    have e2 : ¬ (60 : Int) < (nb : Int) := by omega
    have e3 : (60 : Int) < (l0 : Int) := by omega
    go_enter Try.func4, Try.ntmps4
    go_wp2_with fail
    refine (awake_true _).mono ?_
    rintro e w1 ⟨rfl, k1⟩
    have bB1 := bB.keep k1 (by simp)
    have c0' : w1.cell? ⟨w.heap.size, 0, none⟩ = some (.slice a0 l0 c0) := by rw [bB1.cell]; rfl
    have c1' : w1.cell? ⟨w.heap.size, 1, none⟩ = some (.slice a1 l1 c1) := by rw [bB1.cell]; rfl
    go_wp2_with fail
    go_ret
    exact ⟨rfl, kB.comp k1⟩
  by_cases h4 : 60 < l1
  · have e1 : ¬ (60 : Int) < (na : Int) := by omega
    have e2 : ¬ (60 : Int) < (nb : Int) := by omega
    have e3 : ¬ (60 : Int) < (l0 : Int) := by omega
    have e4 : (60 : Int) < (l1 : Int) := by omega
    go_enter Try.func4, Try.ntmps4
    go_wp2_with fail
    refine (awake_true _).mono ?_
    rintro e w1 ⟨rfl, k1⟩
    have bB1 := bB.keep k1 (by simp)
    have c0' : w1.cell? ⟨w.heap.size, 0, none⟩ = some (.slice a0 l0 c0) := by rw [bB1.cell]; rfl
    have c1' : w1.cell? ⟨w.heap.size, 1, none⟩ = some (.slice a1 l1 c1) := by rw [bB1.cell]; rfl
    go_wp2_with fail
    go_ret
    exact ⟨rfl, kB.comp k1⟩
  have e1 : ¬ (60 : Int) < (na : Int) := by omega
  have e2 : ¬ (60 : Int) < (nb : Int) := by omega
  have e3 : ¬ (60 : Int) < (l0 : Int) := by omega
  have e4 : ¬ (60 : Int) < (l1 : Int) := by omega
  have HA0 := Lib.hid (Says.of (HA'.out (by omega)) (by omega))
  have HB0 := Lib.hid (Says.of (HB'.out (by omega)) (by omega))
  have HC0 := Lib.hid (Says.of (HR'.out (by omega)) (by omega))
  clear HA' HB' HR'
  generalize cut p na = F at *
  generalize cut q nb = G at *
  generalize cut r l0 = H at *
  generalize topB F na = la at *
  generalize topB G nb = lb at *
  generalize topB H l0 = lh at *
  have PF := Lib.hid HA0.out.pol
  have PG := Lib.hid HB0.out.pol
  have PH := Lib.hid HC0.out.pol
  have lla := HA0.out.le
  have llb := HB0.out.le
  have llh := HC0.out.le
  go_enter Try.func4, Try.ntmps4
  go_wp2_with fail
  refine (awake_true _).mono ?_
  rintro e w1 ⟨rfl, k1⟩
  have bB1 := bB.keep k1 (by simp)
  have c0' : w1.cell? ⟨w.heap.size, 0, none⟩ = some (.slice a0 l0 c0) := by rw [bB1.cell]; rfl
  have c1' : w1.cell? ⟨w.heap.size, 1, none⟩ = some (.slice a1 l1 c1) := by rw [bB1.cell]; rfl
  go_wp2_with fail
  clear e1 e2 e3 e4 c0' c1'
  refine (make_any _).mono ?_
  rintro e w2 ⟨g1, g2, rfl, T, _, _, k2⟩
  obtain ⟨TV, k3⟩ := TVar.new T
  have kk := k2.comp k3
  have k := (kB.comp k1).comp kk
  have bB := bB1.keep kk (by simp)
  have HA := Lib.hid (HA0.out.keep k)
  have HB := Lib.hid (HB0.out.keep k)
  have HC := Lib.hid (HC0.out.keep k)
  clear k1 k2 k3 HA0 HB0 HC0 T kk bB1 kB
  unfold tabV
  go_upto_region 6 with (fail)
  generalize w2.alloc (.cells #[.slice (some ⟨g1, 0, none⟩) 1023 1023, .slice (some ⟨g2, 0, none⟩) 1024 1024] 27) = W at *
  generalize w2.heap.size = gt at *
  obtain ⟨X, hX⟩ : ∃ X : Nat, (na : Int) + 7 = (X : Int) := ⟨na + 7, by omega⟩
  have hXl : X < 65536 := by omega
  go_wp2_with fail
  clear hX
  refine (add_p HA.out HB.out).mono ?_
  rintro e w3 ⟨aS, ls, rfl, rS, pS, lS, k3⟩
  have kd := (Keep.refl (fun _ => False) w3).drew
  have kk := k3.comp kd
  have hls : ls ≤ 60 := by omega
  have S0 : SumsSt w gt g1 g2 w.heap.size a b aS a0 a1 na nb ls l0 c0 l1 c1 F G H la lb lh w3.drew :=
    ⟨TV.keep kk, HA.out.keep kk, HB.out.keep kk, (Says.res rS pS (by omega)).keep kd, HC.out.keep kk, bB.keep kk (by simp), k.comp kk⟩
  have lVA := ev_lt PF.out.lt X la
  have lVB := ev_lt PG.out.lt X lb
  obtain ⟨VA, hVA⟩ : ∃ V, V = ev F X la := ⟨_, rfl⟩
  obtain ⟨VB, hVB⟩ : ∃ V, V = ev G X lb := ⟨_, rfl⟩
  obtain ⟨V, hV⟩ : ∃ V, V = VA ^^^ VB := ⟨_, rfl⟩
  have EA : Hid (ev F X la = VA) := Lib.hid hVA.symm
  have EB : Hid (ev G X lb = VB) := Lib.hid hVB.symm
  have EV : Hid (VA ^^^ VB = V) := Lib.hid hV.symm
  have ES : Hid (ev (padd F G) X ls = V) := Lib.hid (by rw [hV, hVA, hVB]; exact ev_padd PF.out PG.out pS X)
  rw [EA.out] at lVA
  rw [EB.out] at lVB
  have EC : Hid (pmul G F = pmul F G) := Lib.hid (pmul_comm PG.out.lt PF.out.lt)
  have ED : Hid (pmul (padd F G) H = padd (pmul F H) (pmul G H)) := Lib.hid (pmul_add_left PF.out.lt PG.out.lt)
  have EZ : Hid (padd (padd F G) (padd F G) = fun _ => 0) := Lib.hid (funext fun i => Nat.xor_self _)
  have EP : Hid (pslope (padd F G) = padd (pslope F) (pslope G)) := Lib.hid (slope_padd F G)
  have k0 := S0.cells
  clear hV hVA hVB TV HA HB HC bB k kk kd rS pS lS k3 PF PG PH
  go_wp2_with fail
  go_region_held3 (fun w' => w'.cell? ⟨gt, 0, none⟩ = some (.slice (some ⟨g1, 0, none⟩) 1023 1023) ∧ w'.cell? ⟨gt, 1, none⟩ = some (.slice (some ⟨g2, 0, none⟩) 1024 1024) ∧ w'.cell? ⟨w.heap.size, 0, none⟩ = some (.slice a0 l0 c0))
    (first | exact S18.cells | exact S17.cells | exact S16.cells | exact S15.cells | exact S14.cells | exact S13.cells | exact S12.cells | exact S11.cells | exact S10.cells | exact S9.cells | exact S8.cells | exact S7.cells | exact S6.cells | exact S5.cells | exact S4.cells | exact S3.cells | exact S2.cells | exact S1.cells | exact S0.cells)
    (first
      | (have _z := S17; go_at_call 15; refine (same_p (((r14.keep k15).keep k16).keep k17) r17 p14 (by omega)).mono ?_; rintro e v18 ⟨rfl, kx⟩; have k18 := kx; clear kx; have S18 := S17.keep k18)
      | (have _z := S16; go_at_call 13; refine (add_p (Says.res (r15.keep k16) p15 (by omega)) (Says.res r16 p16 (by omega))).mono ?_; rintro e v17 ⟨x17, m17, rfl, r17, p17, q17, kx⟩; have k17 := kx; clear kx; obtain rfl := p14.uniq p17; have S17 := S16.keep k17)
      | (have _z := S15; go_at_call 16; refine (slope_p S15.b).mono ?_; rintro e v16 ⟨x16, m16, rfl, r16, p16, q16, kx⟩; have k16 := kx; clear kx; have S16 := S15.keep k16)
      | (have _z := S14; go_at_call 16; refine (slope_p S14.a).mono ?_; rintro e v15 ⟨x15, m15, rfl, r15, p15, q15, kx⟩; have k15 := kx; clear kx; have S15 := S14.keep k15)
      | (have _z := S13; go_at_call 16; refine (slope_p S13.s).mono ?_; rintro e v14 ⟨x14, m14, rfl, r14, p14, q14, kx⟩; have k14 := kx; clear kx; rw [EP.out] at r14 p14; have S14 := S13.keep k14)
      | (have _z := S12; go_at_call 13; refine (add_p S12.s S12.s).mono ?_; rintro e v13 ⟨x13, m13, rfl, r13, p13, q13, kx⟩; have k13 := kx; clear kx; rw [EZ.out] at p13; obtain rfl : m13 = 0 := p13.uniq pol_none; have S13 := S12.keep k13)
      | (have _z := S11; go_at_call 15; refine (same_p (((r8.keep k9).keep k10).keep k11) r11 p8 (by omega)).mono ?_; rintro e v12 ⟨rfl, kx⟩; have k12 := kx; clear kx; have S12 := S11.keep k12)
      | (have _z := S10; go_at_call 13; refine (add_p (Says.res (r9.keep k10) p9 (by omega)) (Says.res r10 p10 (by omega))).mono ?_; rintro e v11 ⟨x11, m11, rfl, r11, p11, q11, kx⟩; have k11 := kx; clear kx; obtain rfl := p8.uniq p11; have S11 := S10.keep k11)
      | (have _z := S9; go_at_call 11; refine (mul_p S9.tv.t.has S9.b S9.c hcb hc0 (by omega)).mono ?_; rintro e v10 ⟨x10, m10, rfl, r10, p10, q10, kx⟩; have k10 := kx; clear kx; have S10 := S9.keep k10)
      | (have _z := S8; go_at_call 11; refine (mul_p S8.tv.t.has S8.a S8.c hca hc0 (by omega)).mono ?_; rintro e v9 ⟨x9, m9, rfl, r9, p9, q9, kx⟩; have k9 := kx; clear kx; have S9 := S8.keep k9)
      | (have _z := S7; go_at_call 11; refine (mul_p S7.tv.t.has S7.s S7.c (Nat.le_refl _) hc0 (by omega)).mono ?_; rintro e v8 ⟨x8, m8, rfl, r8, p8, q8, kx⟩; have k8 := kx; clear kx; rw [ED.out] at r8 p8; have S8 := S7.keep k8)
      | (have _z := S6; go_at_call 15; refine (same_p (r5.keep k6) r6 p5 (by omega)).mono ?_; rintro e v7 ⟨rfl, kx⟩; have k7 := kx; clear kx; have S7 := S6.keep k7)
      | (have _z := S5; go_at_call 11; refine (mul_p S5.tv.t.has S5.b S5.a hcb hca (by omega)).mono ?_; rintro e v6 ⟨x6, m6, rfl, r6, p6, q6, kx⟩; have k6 := kx; clear kx; rw [EC.out] at r6 p6; obtain rfl := p5.uniq p6; have S6 := S5.keep k6)
      | (have _z := S4; go_at_call 11; refine (mul_p S4.tv.t.has S4.a S4.b hca hcb (by omega)).mono ?_; rintro e v5 ⟨x5, m5, rfl, r5, p5, q5, kx⟩; have k5 := kx; clear kx; have S5 := S4.keep k5)
      | (have _z := S3; go_at_call 14; refine (fadd_kept VA VB _ lVA lVB).mono ?_; rw [EV.out]; rintro e v4 ⟨rfl, kx⟩; have k4 := kx; clear kx; have S4 := S3.keep k4)
      | (have _z := S2; go_at_call 12; refine (at_p S2.tv.t.has S2.b).mono ?_; rw [EB.out]; rintro e v3 ⟨rfl, kx⟩; have k3 := kx; clear kx; have S3 := S2.keep k3)
      | (have _z := S1; go_at_call 12; refine (at_p S1.tv.t.has S1.a).mono ?_; rw [EA.out]; rintro e v2 ⟨rfl, kx⟩; have k2 := kx; clear kx; have S2 := S1.keep k2)
      | (go_at_call 12; refine (at_p S0.tv.t.has S0.s).mono ?_; rw [ES.out]; rintro e v1 ⟨rfl, kx⟩; have k1 := kx; clear kx; have S1 := S0.keep k1))
  go_wp2_with fail
  go_ret
  exact ⟨rfl, S18.kp⟩

theorem sums_of {H : Type} {enc : TypeId × Value → H} (w : World) {base b0 b1 b2 : Nat} {a b : Option Addr} {na nb ca cb : Nat} {v : Value} {d d' d'' : DataW H} {ps ps' ps'' : List MemPlace} {sp sp' sp'' : Nat → Bool}
    (ha : DataW.Trod enc Try.prog w base sp true 22 (.slice a na ca) d ps) (hb : DataW.Trod enc Try.prog w b0 sp' true 22 (.slice b nb cb) d' ps')
    (hv : Value.okWide Try.prog w .any b1 32 v) (hc : DataW.Trod enc Try.prog w b2 sp'' true 32 v d'' ps'') :
    Calls Try.prog 4 #[.slice a na ca, .slice b nb cb, v] w fun e w' => e = .returned (.bool true) ∧ Keep (fun _ => False) w w' := by
  obtain ⟨p, hp, lp⟩ := argU_of ha
  obtain ⟨q, hq, lq⟩ := argU_of hb
  obtain ⟨a0, l0, c0, a1, l1, c1, r, _, rfl, hr, lr, _⟩ := rows2_of hv hc
  exact sums_true a b a0 a1 na nb ca cb l0 c0 l1 c1 p q r w hp hq hr lp lq lr
end Go.Proofs.Ytnpfncdfndabhaa
