/- blackboardlaw12.CensusMargins: whole numbers as points, their worst part. -/
import Derived.Test.YtdlmjjlejkkniaaAwake12
import Derived.Test.YtdlmjjlejkkniaaPairs
namespace Go.Proofs.Ytdlmjjlejkkniaa
open Go.RowKit

/-- append of one value, just laid, in a region that draws its order. -/
theorem step_append_v1 {w : World} {ops : Array Oper} {o : Oper} {a : Act} {K : Act → World → Prop} {Q : Exit → Act → World → Prop} {E : Prop} {L T : TypeId} (ty : RowTy L T) (hgd : o.guard = none) (s x : Operand)
    (ho : o.op = .call { callee := .builtin .append, args := #[s, x], argTypes := #[L, L] })
    (N : Nat) (ao : Option Addr) (n co : Nat) (f : Nat → Value) (hs : a.eval s = .slice ao n co) (hown : OwnV w T N ao n co f) (g : Nat) (v : Value) (hx : a.eval x = .slice (some ⟨g, 0, none⟩) 1 1) (hp : Blk w g T #[v])
    (h1 : v.oneCell' = true) (hnm : n + 1 ≤ 1000000) (hN : N ≤ w.heap.size)
    (h : ∀ a' c' w', OwnV w' T N a' (n + 1) c' (fun i => if i < n then f i else v) → w.grownBy w' (Value.slice ao n co).ownBlock → K (a.put o.dst (.slice a' (n + 1) c')) w') :
    if Region.wanted o (yielded ops a.tmps) = true then Oper.wp Try.prog o a w K Q else E := by
  have hw : Region.wanted o (yielded ops a.tmps) = true := by simp [Region.wanted, hgd]
  rw [if_pos hw]
  exact wp_append_v ty s x ho N ao n co f hs hown ⟨g, 0, none⟩ 1 1 (fun _ => v) hx
    ⟨by omega, fun _ => ⟨g, 0, rfl, hp.lt, fun i hi => by
      obtain rfl : i = 0 := by omega
      rw [Nat.zero_add, hp.cell]
      rfl⟩⟩ (fun _ _ => h1) hnm hN fun a' c' w' h1 h2 => h a' c' w' h1 h2
/-- The nearest odd number from -31 to 31. -/
def oddI (x : Int) : Int := min (max (2 * (x / 2) + 1) (-31)) 31
def offI (x : Int) : Nat := (x - oddI x).natAbs
/-- The greatest of the first n pairs. -/
def mostI (X Y : Nat → Int) : Nat → Nat
  | 0 => 0
  | n + 1 => max (max (mostI X Y n) (offI (X n))) (offI (Y n))
theorem re_sl (a b : Int) : reS (sl a b) = co (levN a) ∧ imS (sl a b) = co (levN b) := by
  have h1 := levN_le a
  have h2 := levN_le b
  unfold reS imS sl
  constructor
  · congr 1
    omega
  · congr 1
    omega
theorem off_lev (x : Int) : (8 * x - co (levN (8 * x))).natAbs = 8 * offI x := by
  unfold offI oddI levN levI co
  omega
theorem far_most (X Y : Nat → Int) : ∀ n, farE (fun i => 8 * X i) (fun i => 8 * Y i) n = 8 * mostI X Y n
  | 0 => rfl
  | n + 1 => by
    unfold farE mostI
    have e1 : (8 * X n - reS (slS (fun i => 8 * X i) (fun i => 8 * Y i) n)).natAbs = 8 * offI (X n) := by
      rw [show slS (fun i => 8 * X i) (fun i => 8 * Y i) n = sl (8 * X n) (8 * Y n) from rfl, (re_sl _ _).1, off_lev]
    have e2 : (8 * Y n - imS (slS (fun i => 8 * X i) (fun i => 8 * Y i) n)).natAbs = 8 * offI (Y n) := by
      rw [show slS (fun i => 8 * X i) (fun i => 8 * Y i) n = sl (8 * X n) (8 * Y n) from rfl, (re_sl _ _).2, off_lev]
    rw [e1, e2, far_most X Y n]
    omega
theorem i8_of {n : Int} (h : (Lit.int .i8 n).wf = true) : -128 ≤ n ∧ n < 128 := by
  simp [Lit.wf, IntKind.min, IntKind.max, IntKind.signed, IntKind.bits] at h
  omega
theorem or_one_all : ∀ n : Fin 256, bits .or .i64 ((n.val : Int) - 128) 1 = 2 * (((n.val : Int) - 128) / 2) + 1 := by decide +kernel
theorem or_one {x : Int} (h : -128 ≤ x ∧ x < 128) : bits .or .i64 x 1 = 2 * (x / 2) + 1 := by
  have := or_one_all ⟨(x + 128).toNat, by omega⟩
  have e : (((⟨(x + 128).toNat, by omega⟩ : Fin 256).val : Nat) : Int) - 128 = x := by
    show (((x + 128).toNat : Nat) : Int) - 128 = x
    omega
  rwa [e] at this
theorem offI_le {x : Int} (h : -128 ≤ x ∧ x < 128) : offI x ≤ 200 := by unfold offI oddI; omega
theorem mostI_le {X Y : Nat → Int} : ∀ {n}, (∀ i, i < n → (-128 ≤ X i ∧ X i < 128) ∧ (-128 ≤ Y i ∧ Y i < 128)) → mostI X Y n ≤ 200
  | 0, _ => by show 0 ≤ 200; omega
  | n + 1, h => by
    have h1 := mostI_le (fun i hi => h i (by omega) : ∀ i, i < n → _)
    have h2 := offI_le (h n (by omega)).1
    have h3 := offI_le (h n (by omega)).2
    unfold mostI
    omega
theorem float_int {z : Int} (h : z.natAbs < 1000000) : floatOfInt .f64 z = fx (16 * z) := fx_whole (decide (z < 0)) (by omega) rfl

set_option maxRecDepth 100000 in
set_option maxHeartbeats 4000000 in
theorem margins_true (w : World) (a : Option Addr) (n c : Nat) (X Y : Nat → Int) (ha : ArgPairs .i8 w a n X Y) :
    Calls Try.prog 10 #[.slice a n c] w fun e w' => e = .returned (.bool true) ∧ Keep (fun _ => False) w w' := by
  have hsm : n ≤ maxLen := ha.small
  have HB := Lib.hid (show ∀ i, i < n → (-128 ≤ X i ∧ X i < 128) ∧ (-128 ≤ Y i ∧ Y i < 128) from fun i hi => ⟨i8_of (ha.wf i hi).1, i8_of (ha.wf i hi).2⟩)
  have HA := Lib.hid ha
  clear ha
  go_enter Try.func10, Try.ntmps10
  go_wp2_with fail
  refine (awake12_true _).mono ?_
  rintro e w1 ⟨rfl, k1⟩
  by_cases hn : 200 < n
  · have hn' : (200 : Int) < (n : Int) := by omega
    go_wp2_with fail
    go_ret
    exact ⟨rfl, k1⟩
  have hn' : ¬ (200 : Int) < (n : Int) := by omega
  go_wp2_with fail
  go_loopw [3, 4, 5] (fun v3 v4 v5 wr => ∃ (j : Nat) (ao : Option Addr) (co : Nat), j ≤ n ∧ v3 = .slice ao j co ∧ v4 = .int .i64 (mostI X Y j : Nat) ∧ v5 = .int .i64 j ∧ Hid (OwnV wr 47 w1.heap.size ao j co (ptsV (fun i => 8 * X i) (fun i => 8 * Y i))) ∧ Keep (fun _ => False) w1 wr) (fun _ _ v _ => n - (intOf v).toNat)
  case atStart => exact ⟨0, none, 0, by omega, rfl, rfl, rfl, Lib.hid (OwnV.nil _ _ _ _), Keep.refl _ _⟩
  case round =>
    obtain ⟨j, ao, co, hj, rfl, rfl, rfl, HO, kk⟩ := hrel
    by_cases hjn : j < n
    · have hjn' : (j : Int) < (n : Int) := by omega
      obtain ⟨bA, oA, rfl, hbA, hcA⟩ := HA.out.at_ (by omega)
      have kd := k1.comp kk.drew
      have c0 := (kd.cell (p := ⟨bA, oA + j * 2, none⟩) hbA (by simp)).trans (hcA j hjn).1
      have c1 := (kd.cell (p := ⟨bA, oA + j * 2 + 1, none⟩) hbA (by simp)).trans (hcA j hjn).2
      have hXY := HB.out j hjn
      have e0 := float_int (z := X j) (by omega)
      have e1 := float_int (z := Y j) (by omega)
      have hv : ptsV (fun i => 8 * X i) (fun i => 8 * Y i) j = .complex .f64 (fx (16 * X j)) (fx (16 * Y j)) := by
        show ptv (8 * X j) (8 * Y j) = _
        unfold ptv
        rw [show 2 * (8 * X j) = 16 * X j by omega, show 2 * (8 * Y j) = 16 * Y j by omega]
      have kL : Keep (fun _ => False) w1 (wr.alloc (.cells #[.complex .f64 (fx (16 * X j)) (fx (16 * Y j))] 47)).drew := (kk.alloc _).drew
      have kLw := k1.comp kL
      have OL := Lib.hid (show OwnV (wr.alloc (.cells #[.complex .f64 (fx (16 * X j)) (fx (16 * Y j))] 47)).drew 47 w1.heap.size ao j co (ptsV (fun i => 8 * X i) (fun i => 8 * Y i)) from HO.out.keep (((Keep.refl (fun _ => False) wr).alloc _).drew))
      have BL : Blk (wr.alloc (.cells #[.complex .f64 (fx (16 * X j)) (fx (16 * Y j))] 47)).drew wr.heap.size 47 #[.complex .f64 (fx (16 * X j)) (fx (16 * Y j))] := (Blk.new wr _ _).drew
      have hsL := kL.size
      have HC := Lib.hid (hcA j hjn)
      have d0 := (kLw.cell (p := ⟨bA, oA + j * 2, none⟩) hbA (by simp)).trans HC.out.1
      have d1 := (kLw.cell (p := ⟨bA, oA + j * 2 + 1, none⟩) hbA (by simp)).trans HC.out.2
      have hoff := Lib.hid (show max (max (mostI X Y j) (offI (X j))) (offI (Y j)) = mostI X Y (j + 1) from rfl)
      have hm := Lib.hid (mostI_le (fun i hi => HB.out i (by omega) : ∀ i, i < j → _))
      have HV := Lib.hid hv
      clear hcA HO hv
      generalize fx (16 * X j) = FX at *
      generalize fx (16 * Y j) = FY at *
      generalize X j = x at *
      generalize Y j = y at *
      go_wp2_with fail
      go_region_held3 (fun w' => w'.cell? ⟨bA, oA + j * 2, none⟩ = some (.int .i8 x) ∧ w'.cell? ⟨bA, oA + j * 2 + 1, none⟩ = some (.int .i8 y))
        (first | exact ⟨c0, c1⟩ | exact ⟨d0, d1⟩ | exact ⟨f0, f1⟩)
        (first
          | (refine step_append_v1 ty_c rfl _ _ rfl w1.heap.size ao j co (ptsV (fun i => 8 * X i) (fun i => 8 * Y i)) rfl OL.out wr.heap.size (.complex .f64 FX FY) rfl BL rfl (by omega) hsL ?_; intro a5 c5 w5 o5 gr5; have K5 : Keep (fun _ => False) w1 w5 := kL.grown gr5 (fun k e => .inr (OL.out.row_blk e).1); have f0 := ((k1.comp K5).cell (p := ⟨bA, oA + j * 2, none⟩) hbA (by simp)).trans HC.out.1; have f1 := ((k1.comp K5).cell (p := ⟨bA, oA + j * 2 + 1, none⟩) hbA (by simp)).trans HC.out.2))
      have O5 := Lib.hid (o5.congr (f' := ptsV (fun i => 8 * X i) (fun i => 8 * Y i)) (fun i hi => by
        by_cases h : i < j
        · rw [if_pos h]
        · rw [if_neg h, show i = j by omega, HV.out]))
      clear o5 gr5 c0 c1 d0 d1 e0 e1 OL BL kL hsL kLw
      go_wp2_with fail
      have hz : ∀ k, k < 2 → w5.cell? ⟨bA, oA + j * 2 + k, none⟩ = some (.int .i8 (if k = 0 then x else y)) := fun k hk => by
        obtain rfl | rfl : k = 0 ∨ k = 1 := by omega
        · exact f0
        · exact f1
      have HZ := Lib.hid hz
      have hbx : ∀ k : Nat, -128 ≤ (if k = 0 then x else y) ∧ (if k = 0 then x else y) < 128 := fun k => by split <;> omega
      have HBX := Lib.hid hbx
      clear f0 f1 hz hbx
      go_loopw [4, 6] (fun v4 v6 wt => ∃ k m : Nat, k ≤ 2 ∧ v4 = .int .i64 m ∧ v6 = .int .i64 k ∧ m ≤ 200 ∧ Hid (m = if k = 0 then mostI X Y j else if k = 1 then max (mostI X Y j) (offI x) else mostI X Y (j + 1)) ∧ w5 = wt) (fun _ v _ => 2 - (intOf v).toNat)
      case atStart => exact ⟨0, mostI X Y j, by omega, rfl, rfl, hm.out, Lib.hid rfl, rfl⟩
      case round =>
        obtain ⟨k, m, hk, rfl, rfl, hm200, HM, rfl⟩ := hrel
        by_cases hk2 : k < 2
        · have hk2' : (k : Int) < 2 := by omega
          have cz := HZ.out k hk2
          have hb := HBX.out k
          have hor := or_one hb
          have HNx := Lib.hid (show (if k = 0 then max m (offI x) else max m (offI y)) = max m (offI (if k = 0 then x else y)) by split <;> rfl)
          have ho : offI (if k = 0 then x else y) = ((if k = 0 then x else y) - oddI (if k = 0 then x else y)).natAbs := rfl
          have HO := Lib.hid ho
          generalize (if k = 0 then x else y) = z at *
          go_wp2_with fail
          all_goals
            (rename_i hs
             have hM' : max m (offI z) = if k + 1 = 0 then mostI X Y j else if k + 1 = 1 then max (mostI X Y j) (offI x) else mostI X Y (j + 1) := by
               rw [← HNx.out, if_neg (show ¬ k + 1 = 0 by omega)]
               have h1 := HM.out
               obtain rfl | rfl : k = 0 ∨ k = 1 := by omega
               · rw [if_pos rfl] at h1
                 rw [if_pos (show (0 : Nat) = 0 from rfl), if_pos (show 0 + 1 = 1 from rfl), h1]
               · rw [if_neg (show ¬ (1 : Nat) = 0 by omega), if_pos rfl] at h1
                 rw [if_neg (show ¬ (1 : Nat) = 0 by omega), if_neg (show ¬ 1 + 1 = 1 by omega), h1, hoff.out]
             have hle := offI_le hb
             have HM2 := Lib.hid hM'
             clear hM'
             refine ⟨⟨k + 1, max m (offI z), by omega, congrArg (Value.int .i64) ?_, by go_num, by omega, HM2, trivial⟩, by simp [intOf]; omega⟩
             clear HM2 HM HNx hoff
             revert hs hle
             rw [ho]
             unfold oddI
             clear ho HO hor cz
             (repeat' split) <;> omega)
        · obtain rfl : k = 2 := by omega
          have hk2' : ¬ ((2 : Nat) : Int) < 2 := by omega
          have hM2 := HM.out
          rw [if_neg (show ¬ (2 : Nat) = 0 by omega), if_neg (show ¬ (2 : Nat) = 1 by omega)] at hM2
          subst hM2
          clear HM
          generalize hmm : mostI X Y (j + 1) = mm at *
          have HMM := Lib.hid hmm
          clear hmm
          go_wp2_with fail
          exact ⟨⟨j + 1, a5, c5, by omega, rfl, by rw [HMM.out], by go_num, O5, K5⟩, by simp [intOf]; omega⟩
    · obtain rfl : j = n := by omega
      have hjn' : ¬ (j : Int) < (j : Int) := by omega
      have hfar := far_most X Y j
      have hm := mostI_le HB.out
      have hfi : floatOfInt .f64 (1 - (mostI X Y j : Nat)) = fx (16 - 2 * ((8 * mostI X Y j : Nat) : Int)) := by
        rw [float_int (by omega)]
        congr 1
        omega
      have hor := ord_self (n := 16 - 2 * ((8 * mostI X Y j : Nat) : Int)) (by unfold Sm; omega)
      have HM := Lib.hid (margin_any ao j co (fun i => 8 * X i) (fun i => 8 * Y i) wr (HO.out.arg (by omega)) (fun i hi => by have := HB.out i hi; unfold Pm; omega))
      rw [hfar] at HM
      clear hfar
      generalize fx (16 - 2 * ((8 * mostI X Y j : Nat) : Int)) = F at *
      go_wp2_with fail
      refine HM.out.mono ?_
      rintro e w9 ⟨rfl, rfl⟩
      go_wp2_with fail
      go_ret
      exact ⟨rfl, k1.comp kk⟩
theorem margins_of {H : Type} {enc : TypeId × Value → H} {base : Nat} {d : DataW H} {ps : List MemPlace} {sp : Nat → Bool} (w : World) {a : Option Addr} {n c : Nat}
    (h : DataW.Trod enc Try.prog w base sp true 61 (.slice a n c) d ps) :
    Calls Try.prog 10 #[.slice a n c] w fun e w' => e = .returned (.bool true) ∧ Keep (fun _ => False) w w' := by
  obtain ⟨X, Y, hA⟩ := pairs_of (k := .i8) Try.underlying61 Try.underlying63 Try.underlying62 (by kernel_rfl) (by kernel_rfl) h
  exact margins_true w a n c X Y hA
end Go.Proofs.Ytdlmjjlejkkniaa
