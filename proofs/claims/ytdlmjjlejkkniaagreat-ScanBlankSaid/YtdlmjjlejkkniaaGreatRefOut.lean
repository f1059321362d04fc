/- The reference's Out. -/
import Derived.Test.YtdlmjjlejkkniaaGreatFam
namespace Go.Proofs.YtdlmjjlejkkniaaGreat
open Go.RowKit

/-- W rows of K symbols each, that came in. -/
structure ArgRows' (w : World) (a : Option Addr) (W K : Nat) (A : Nat → Option Addr) (C : Nat → Nat) (p : Nat → Nat → Nat) : Prop where
  v : ArgV w a W (famV A (fun _ => K) C)
  u : ∀ i, i < W → ArgU w (A i) K (p i)
def ArgRows (w : World) (a : Option Addr) (W K : Nat) (p : Nat → Nat → Nat) : Prop := ∃ A C, ArgRows' w a W K A C p
theorem ArgRows'.keep {w w' : World} {a : Option Addr} {W K : Nat} {A : Nat → Option Addr} {C : Nat → Nat} {p : Nat → Nat → Nat} (h : ArgRows' w a W K A C p) (hk : Keep (fun _ => False) w w') : ArgRows' w' a W K A C p := ⟨h.v.keep hk, fun i hi => (h.u i hi).keep hk⟩
theorem RowsAt.arg {w : World} {N g W K : Nat} {p : Nat → Nat → Nat} (h : RowsAt w N g W K p) (hW : W ≤ 1000000) (hK : K ≤ 1000000) (hp : ∀ i, i < W → ∀ j, j < K → p i j < 65536) : ArgRows w (some ⟨g, 0, none⟩) W K p := by
  obtain ⟨A, C, hb, hf⟩ := h
  exact ⟨A, C, ⟨by omega, fun _ => ⟨g, 0, rfl, hb.lt, fun i hi => by rw [Nat.zero_add]; exact hb.val hi⟩⟩, fun i hi => (hf.own i hi).arg (by omega) (hp i hi)⟩
theorem woven_idx {W k i : Nat} (hi : i < W) : (k * W + i) % W = i ∧ (k * W + i) / W = k := by
  rw [Nat.mul_comm k W, Nat.mul_add_mod, Nat.mod_eq_of_lt hi, Nat.mul_add_div (by omega), Nat.div_eq_of_lt hi, Nat.add_zero]
  exact ⟨rfl, rfl⟩
/-- Rows, woven. -/
def wovS (W : Nat) (p : Nat → Nat → Nat) : Nat → Nat := fun i => p (i % W) (i / W)
set_option maxRecDepth 100000 in
set_option maxHeartbeats 4000000 in
theorem rout_any (W K : Nat) (a : Option Addr) (c : Nat) (p : Nat → Nat → Nat) (w : World) (ha : ArgRows w a W K p) (hW : 1 ≤ W) (hW4 : W ≤ 4) (hK : 1 ≤ K) (hK2 : K ≤ 10000) :
    Calls Tryz.prog 28 #[.int .i64 W, .slice a W c] w fun e w' => ∃ a' c', e = .returned (.tuple #[.slice a' (W * K) c', .int .i64 0]) ∧ OwnU w' w.heap.size a' (W * K) c' (wovS W p) ∧ Keep (fun _ => False) w w' := by
  obtain ⟨A, C, ha⟩ := ha
  have HA := Lib.hid ha
  have hWne : ¬ W = 0 := by omega
  have e0 : ((K : Int) == 0) = false := by simp; omega
  obtain ⟨bA, oA, rfl, hbA, hcA⟩ := ha.v.at_ (by omega)
  have HC := Lib.hid hcA
  have c00 := hcA 0 (by omega)
  unfold famV at c00
  rw [Nat.add_zero] at c00
  have hW0' : (0 : Int) < (W : Int) := by omega
  have hl4 : W * K ≤ 40000 := Nat.mul_le_mul hW4 hK2
  clear ha hcA
  go_enter Tryz.func28, Tryz.ntmps28
  go_wp2_with fail
  clear c00
  go_loopw [7] (fun v wr => ∃ i : Nat, i ≤ W ∧ v = .int .i64 i ∧ w = wr) (fun v _ => W - (intOf v).toNat)
  case atStart => exact ⟨0, by omega, rfl, rfl⟩
  case round =>
    obtain ⟨i, hi, rfl, rfl⟩ := hrel
    by_cases hiW : i < W
    · have hiW' : (i : Int) < (W : Int) := by omega
      have c0 := HC.out i hiW
      unfold famV at c0
      go_wp2_with fail
      exact ⟨⟨i + 1, by omega, by go_num, trivial⟩, by simp [intOf]; omega⟩
    · obtain rfl : i = W := by omega
      have hiW' : ¬ (i : Int) < (i : Int) := by omega
      clear e0
      go_wp2_with fail
      clear hiW'
      go_loopw [8, 9] (fun v3 v4 wr => ∃ (k : Nat) (ao : Option Addr) (co : Nat), k ≤ K ∧ v3 = .slice ao (k * i) co ∧ v4 = .int .i64 k ∧ Hid (OwnU wr w.heap.size ao (k * i) co (wovS i p)) ∧ Keep (fun _ => False) w wr) (fun _ v _ => K - (intOf v).toNat)
      case atStart => exact ⟨0, none, 0, by omega, by rw [Nat.zero_mul], rfl, Lib.hid (by rw [Nat.zero_mul]; exact OwnV.nil _ _ _ _), Keep.refl _ _⟩
      case round =>
        obtain ⟨k, ao, co, hk, rfl, rfl, HO, kk⟩ := hrel
        obtain ⟨m, hm⟩ : ∃ m, m = k * i := ⟨_, rfl⟩
        have HM := Lib.hid hm
        rw [← hm] at HO ⊢
        clear hm
        by_cases hkK : k < K
        · have hkK' : (k : Int) < (K : Int) := by omega
          have hm4 := Lib.hid (show m + i ≤ i * K from by
            have := Nat.mul_le_mul_left i (show k + 1 ≤ K from hkK)
            rw [Nat.mul_add, Nat.mul_one, Nat.mul_comm i k, ← HM.out] at this
            exact this)
          go_wp2_with fail
          go_loopw [8, 10] (fun v3 v4 wr => ∃ (j : Nat) (ao : Option Addr) (co : Nat), j ≤ i ∧ v3 = .slice ao (m + j) co ∧ v4 = .int .i64 j ∧ Hid (OwnU wr w.heap.size ao (m + j) co (wovS i p)) ∧ Keep (fun _ => False) w wr) (fun _ v _ => i - (intOf v).toNat)
          case atStart => exact ⟨0, ao, co, by omega, rfl, rfl, HO, kk⟩
          case round =>
            clear HO kk
            obtain ⟨j, ao, co, hj, rfl, rfl, HO, kk⟩ := hrel
            by_cases hji : j < i
            · have hji' : (j : Int) < (i : Int) := by omega
              have hml : m + j ≤ 40000 := by have := hm4.out; omega
              have c0 := (kk.cell (p := ⟨bA, oA + j, none⟩) hbA (by simp)).trans (HC.out j hji)
              unfold famV at c0
              obtain ⟨bR, oR, hR, hbR, hcR⟩ := (HA.out.u j hji).at_ (by omega)
              rw [hR] at c0
              have c1 := (kk.cell (p := ⟨bR, oR + k, none⟩) hbR (by simp)).trans (hcR k hkK)
              have hpl := (HA.out.u j hji).lt k hkK
              have HV := Lib.hid (show wovS i p (m + j) = p j k by unfold wovS; rw [HM.out, (woven_idx hji).1, (woven_idx hji).2])
              have kL := kk.alloc (.cells #[.int .u16 (p j k : Nat)] 25)
              have OL := Lib.hid (HO.out.ownV.keep ((Keep.refl _ wr).alloc (.cells #[.int .u16 (p j k : Nat)] 25)))
              have BL := Lib.hid (Blk.new wr 25 #[.int .u16 (p j k : Nat)])
              have hsL := kL.size
              clear hcR hR HO kk
              generalize p j k = x at *
              generalize C j = cj at *
              go_wp2_with (refine wpList_append_1 ty_u rfl (.tmp 53) (.tmp 61) rfl w.heap.size ao (m + j) co (fun t => .int .u16 (wovS i p t : Nat)) rfl OL.out wr.heap.size _ rfl BL.out rfl (by omega) hsL ?_)
              intro a3 c3 w6 o6 g6
              have O6 := Lib.hid (OwnV.ownU (o6.congr (f' := fun t => .int .u16 (wovS i p t : Nat)) (fun t ht => by
                by_cases h : t < m + j
                · rw [if_pos h]
                · rw [if_neg h, show t = m + j by omega, HV.out])))
              have K6 := kL.grown g6 (fun t ht => .inr (OL.out.lt t ht).1)
              clear o6 g6 kL OL BL hsL c0 c1
              go_wp2_with fail
              exact ⟨⟨j + 1, a3, c3, by omega, rfl, by go_num, O6, K6⟩, by simp [intOf]; omega⟩
            · obtain rfl : j = i := by omega
              have hji' : ¬ (j : Int) < (j : Int) := by omega
              have HE := Lib.hid (show (k + 1) * j = m + j by rw [Nat.succ_mul, HM.out])
              go_wp2_with fail
              exact ⟨⟨k + 1, ao, co, by omega, by rw [HE.out], by go_num, by rw [HE.out]; exact HO, kk⟩, by simp [intOf]; omega⟩
        · obtain rfl : k = K := by omega
          have hkK' : ¬ (k : Int) < (k : Int) := by omega
          have HE := Lib.hid (show m = i * k by rw [HM.out, Nat.mul_comm])
          go_wp2_with fail
          go_ret2
          rw [← HE.out]
          exact ⟨ao, co, rfl, HO.out, kk⟩
end Go.Proofs.YtdlmjjlejkkniaaGreat
