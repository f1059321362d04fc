/- blackboardlaw3.PolyRoots. -/
import Derived.Test.YtnpfncdfndabhaaLawReckons
import Derived.Test.YtnpfncdfndabhaaPoly2
import Derived.Deep.RegionHeld3
namespace Go.Proofs.Ytnpfncdfndabhaa
open Go.ChangeShapes Go.WideShapes Go.ChangeAt Go.RowKit
attribute [local go_sem ↓] Go.wp_at_zero Go.wp_at_succ

theorem lst_small (l : List Nat) (h : ∀ x ∈ l, x < 65536) (i : Nat) : lst l i < 65536 := by
  show l.getD i 0 < 65536
  rw [List.getD_eq_getElem?_getD]
  cases e : l[i]? with
  | none => show 0 < 65536; omega
  | some x => exact h x (List.mem_of_getElem? e)
/-- x + r, the product of the first i of them, and whether x is among them. -/
def lin (r : Nat) : Nat → Nat := cut (lst [r, 1]) 2
theorem lin_pol (r : Nat) : IsPol (lin r) 2 :=
  ⟨fun i => cut_lt _ _ _, fun i hi => cut_zero _ hi, fun _ => by show cut (lst [r, 1]) 2 1 ≠ 0; rw [cut_in _ (by omega)]; show 1 % 1024 ≠ 0; omega⟩
def prodP (p : Nat → Nat) : Nat → Nat → Nat
  | 0 => lst [1]
  | i + 1 => pmul (prodP p i) (lin (p i))
theorem p1 : IsPol (lst [1]) 1 := pol_list [1] 1 (by decide) rfl (by decide)
theorem prodP_pol (p : Nat → Nat) (i : Nat) : IsPol (prodP p i) (i + 1) := by
  induction i with
  | zero => exact p1
  | succ i ih =>
    have := pmul_pol ih (lin_pol (p i)) (by omega) (by omega)
    rwa [show i + 1 + 2 - 1 = i + 1 + 1 by omega] at this
def inB (p : Nat → Nat) (x : Nat) : Nat → Bool
  | 0 => false
  | i + 1 => inB p x i || (((p i % 1024 : Nat) : Int) == ((x % 1024 : Nat) : Int))
theorem hor_lin (r x : Nat) (hx : x < 1024) : hor (lin r) x 0 2 = x ^^^ r % 1024 := by
  show gm (gm 0 x ^^^ lin r 1) x ^^^ lin r 0 = x ^^^ r % 1024
  rw [show lin r 1 = 1 from by unfold lin; rw [cut_in _ (by omega)]; rfl, show lin r 0 = r % 1024 from by unfold lin; rw [cut_in _ (by omega)]; rfl, gm_zero_left, Nat.zero_xor, gm_one_left hx]
theorem roots_law (p : Nat → Nat) (x i : Nat) : (((hor (prodP p i) (x % 1024) 0 (i + 1) : Nat) : Int) == 0) = inB p x i := by
  have hx : x % 1024 < 1024 := by omega
  have key : hor (prodP p i) (x % 1024) 0 (i + 1) = 0 ↔ inB p x i = true := by
    induction i with
    | zero =>
      have : hor (prodP p 0) (x % 1024) 0 1 = 1 := by
        show gm 0 _ ^^^ 1 = 1
        rw [gm_zero_left]
        rfl
      rw [this]
      simp [inB]
    | succ i ih =>
      have hp := prodP_pol p i
      have h := hor_pmul (lin_pol (p i)).lt (lin_pol (p i)).zero hx (i + 1) (prodP p i) hp.lt hp.zero (i + 1 + 1) (by omega)
      rw [show prodP p (i + 1) = pmul (prodP p i) (lin (p i)) from rfl, h, hor_lin _ _ hx]
      have l1 := hor_lt hp.lt (x := x % 1024) 0 (i + 1)
      have l2 : x % 1024 ^^^ p i % 1024 < 1024 := xor_lt hx (by omega)
      rw [show inB p x (i + 1) = (inB p x i || (((p i % 1024 : Nat) : Int) == ((x % 1024 : Nat) : Int))) from rfl, Bool.or_eq_true, ← ih, beq_iff_eq]
      constructor
      · intro h0
        by_cases e1 : hor (prodP p i) (x % 1024) 0 (i + 1) = 0
        · exact .inl e1
        · by_cases e2 : x % 1024 ^^^ p i % 1024 = 0
          · exact .inr (by rw [xor_eq_zero e2])
          · exact absurd h0 (gm_ne_zero l1 l2 e1 e2)
      · rintro (h0 | h0)
        · rw [h0, gm_zero_left]
        · rw [show p i % 1024 = x % 1024 by omega, Nat.xor_self, gm_zero_right]
  rw [Bool.eq_iff_iff, beq_iff_eq, ← key]
  omega

set_option maxHeartbeats 4000000 in
theorem roots_true (a : Option Addr) (na ca x : Nat) (p : Nat → Nat) (w : World) (ha : na ≤ 1000000 → ArgU w a na p) (hx : x < 65536) :
    Calls Try.prog 3 #[.slice a na ca, .int .u16 x] w fun e w' => e = .returned (.bool true) ∧ Keep (fun _ => False) w w' := by
  have HA' := Lib.hid ha
  have HX := Lib.hid hx
  clear ha hx
  by_cases h1 : 40 < na
  · have e1 : (40 : Int) < (na : Int) := by omega
    go_enter Try.func3, Try.ntmps3
    go_wp2_with fail
    refine (awake_true _).mono ?_
    rintro e w1 ⟨rfl, k1⟩
    go_wp2_with fail
    go_ret
    exact ⟨rfl, k1⟩
  have e1 : ¬ (40 : Int) < (na : Int) := by omega
  have HA := Lib.hid (HA'.out (by omega))
  clear HA'
  go_enter Try.func3, Try.ntmps3
  go_wp2_with fail
  refine (awake_true _).mono ?_
  rintro e w1 ⟨rfl, k1⟩
  go_wp2_with fail
  clear e1
  refine (make_any _).mono ?_
  rintro e w2 ⟨g1, g2, rfl, T, _, _, k2⟩
  obtain ⟨TV, k3⟩ := TVar.new T
  have k := (k1.comp k2).comp k3
  clear k1 k2 k3 T
  unfold tabV
  go_upto_region 6 with (fail)
  generalize w2.alloc (.cells #[.slice (some ⟨g1, 0, none⟩) 1023 1023, .slice (some ⟨g2, 0, none⟩) 1024 1024] 27) = W at *
  generalize w2.heap.size = gt at *
  have A := Laid.pol W #[.int .u16 1] _ _ p1 (by omega) (uArr_one 1)
  have TV1 := TV.keep A.k
  have K1 := k.comp A.k
  have P0 := A.a _ rfl
  clear A TV k
  go_wp2_with fail
  generalize W.alloc (.cells #[.int .u16 1] 23) = W1 at *
  generalize W.heap.size = gp at *
  go_loopw [6, 7, 8] (fun v6 v7 v8 wr => ∃ (i : Nat) (aP : Option Addr), i ≤ na ∧ v6 = .slice aP (i + 1) (i + 1) ∧ v7 = .bool (inB p x i) ∧ v8 = .int .i64 i ∧ ArgU wr aP (i + 1) (prodP p i) ∧ TVar wr gt g1 g2 ∧ Keep (fun _ => False) w wr) (fun _ _ v _ => na - (intOf v).toNat)
  case atStart => exact ⟨0, some ⟨gp, 0, none⟩, by omega, rfl, rfl, rfl, P0, TV1, K1⟩
  case round =>
    clear TV1 K1 P0
    obtain ⟨i, aP, hi, rfl, rfl, rfl, HP, TV, K⟩ := hrel
    have HA1 := Lib.hid (HA.out.keep K)
    have HRL := Lib.hid (roots_law p x i)
    by_cases hin : i < na
    · have hin' : (i : Int) < (na : Int) := by omega
      obtain ⟨bA, oA, rfl, hbA, hcA⟩ := HA1.out.at_ (by omega)
      have c0 := hcA i hin
      have hpi := HA1.out.lt i hin
      obtain ⟨d0, d1⟩ := tab_cells TV.b
      have HPI := Lib.hid hpi
      clear hcA hpi
      have eM : Hid (pmulM (cut (prodP p i) (i + 1)) (i + 1) (cut (lst [p i, 1]) 2) 2 = prodP p (i + 1)) := Lib.hid (by
        rw [(prodP_pol p i).cut (Nat.le_refl _)]
        exact pmulM_eq (prodP_pol p i) (lin_pol (p i)) (by omega))
      have HPP : Hid (IsPol (cut (prodP p i) (i + 1)) (i + 1)) := Lib.hid (by rw [(prodP_pol p i).cut (Nat.le_refl _)]; exact prodP_pol p i)
      have kd := (Keep.refl (fun _ => False) wr).drew
      have A := Laid.new wr.drew #[.int .u16 (p i), .int .u16 1] (lst [p i, 1]) 2 (uArr_two _ _) (by omega) (fun j _ => lst_small [p i, 1] (by simp; exact HPI.out) j)
      have kA := kd.comp A.k
      have TVA := TV.keep kA
      have HPA := Lib.hid (HP.keep kA)
      obtain ⟨e0, e1⟩ := tab_cells TVA.b
      have c1 := (kA.cell (p := ⟨bA, oA + i, none⟩) hbA (by simp)).trans c0
      have KA := K.comp kA
      have hbA1 : bA < (wr.drew.alloc (.cells #[.int .u16 (p i), .int .u16 1] 23)).heap.size := by have := kA.size; omega
      go_wp2_with fail
      go_region_held3 (fun w' => w'.cell? ⟨gt, 0, none⟩ = some (.slice (some ⟨g1, 0, none⟩) 1023 1023) ∧ w'.cell? ⟨gt, 1, none⟩ = some (.slice (some ⟨g2, 0, none⟩) 1024 1024) ∧ w'.cell? ⟨bA, oA + i, none⟩ = some (.int .u16 (p i : Nat)))
        (first | exact ⟨d0, d1, c0⟩ | exact ⟨e0, e1, c1⟩ | exact ⟨f0, f1, f2⟩)
        (first | (go_at_call 11; refine (mul_any _ _ _ (i + 1) 2 (i + 1) 2 _ _ (i + 1) 2 HPP.out (lin_pol (p i)) _ TVA.t.has HPA.out (A.a _ rfl) (by omega) (by omega) (Nat.le_refl _) (Nat.le_refl _)).mono ?_; rintro e w5 ⟨aQ, mQ, rfl, rQ, pQ, _, k5⟩; rw [eM.out] at rQ pQ; obtain rfl : mQ = i + 1 + 1 := pQ.uniq (prodP_pol p (i + 1)); have TV5 := TVA.keep k5; obtain ⟨f0, f1⟩ := tab_cells TV5.b; have f2 := (k5.cell (p := ⟨bA, oA + i, none⟩) hbA1 (by simp)).trans c1; have K5 := KA.comp k5; have P5 := rQ.arg (by omega) pQ.lt16))
      have lx := and_1023 HX.out
      have lp := and_1023 HPI.out
      clear e0 e1 c1 d0 d1 c0 f0 f1
      cases hB : inB p x i
      · have hI : inB p x (i + 1) = (((p i % 1024 : Nat) : Int) == ((x % 1024 : Nat) : Int)) := by show (inB p x i || _) = _; rw [hB, Bool.false_or]
        go_wp2_with fail
        go_roundw
        case rel => exact ⟨i + 1, aQ, by omega, rfl, by rw [hI]; simp, by go_num, P5, TV5, K5⟩
        case measure => simp [intOf]; omega
      · have hI : inB p x (i + 1) = true := by show (inB p x i || _) = _; rw [hB, Bool.true_or]
        go_wp2_with fail
        go_roundw
        case rel => exact ⟨i + 1, aQ, by omega, rfl, by rw [hI], by go_num, P5, TV5, K5⟩
        case measure => simp [intOf]; omega
    · obtain rfl : i = na := by omega
      have hin' : ¬ (i : Int) < (i : Int) := by omega
      obtain ⟨d0, d1⟩ := tab_cells TV.b
      have eL : (((i + 1 : Nat) : Int) == (i : Int) + 1) = true := by simp
      go_wp2_with fail
      clear d0 d1
      refine (at_any _ _ _ _ _ _ _ TV.t.has HP).mono ?_
      rw [(prodP_pol p i).cut (Nat.le_refl _)]
      rintro e w6 ⟨rfl, k⟩
      have hv := HRL.out
      generalize hor (prodP p i) (x % 1024) 0 (i + 1) = V at *
      generalize inB p x i = B at *
      go_wp2_with fail
      go_ret
      exact ⟨rfl, K.comp k⟩

theorem roots_of {H : Type} {enc : TypeId × Value → H} (w : World) {base : Nat} {a : Option Addr} {na ca : Nat} {d : DataW H} {ps : List MemPlace} {sp : Nat → Bool} (x : Int) (hx : (Lit.int .u16 x).wf = true)
    (ha : DataW.Trod enc Try.prog w base sp true 22 (.slice a na ca) d ps) :
    Calls Try.prog 3 #[.slice a na ca, .int .u16 x] w fun e w' => e = .returned (.bool true) ∧ Keep (fun _ => False) w w' := by
  obtain ⟨p, hp, lp⟩ := argU_of ha
  obtain ⟨x, rfl, lx⟩ := word_of hx
  exact roots_true a na ca x p w hp lx
end Go.Proofs.Ytnpfncdfndabhaa
