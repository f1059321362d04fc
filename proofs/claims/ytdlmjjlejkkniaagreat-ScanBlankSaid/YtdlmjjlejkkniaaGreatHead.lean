/- A page's head as symbols: the program's and the reference's. -/
import Derived.Test.YtdlmjjlejkkniaaGreatRefPack
import Derived.Test.YtdlmjjlejkkniaaGreatLaid
namespace Go.Proofs.YtdlmjjlejkkniaaGreat
open Go.RowKit

/-- A head. -/
def markV (k l s : Int) : Value := .agg #[.int .i64 k, .int .i64 l, .int .i64 s]
/-- A head that may be. -/
structure MarkOk (k l s : Nat) : Prop where
  k1 : 1 ≤ k
  k2 : k ≤ 1023
  l : l / 1024 ≤ 1023
  s : s / 1024 / 1024 / 1024 ≤ 1023
/-- Its symbols. -/
def hdS (k l s : Nat) : Nat → Nat := lst [k, l / 1024, l % 1024, s / 1024 / 1024 / 1024 % 1024, s / 1024 / 1024 % 1024, s / 1024 % 1024, s % 1024, 0]
theorem hdS_lt {k l s : Nat} (h : MarkOk k l s) (i : Nat) : hdS k l s i < 1024 := by
  have := h.k2
  have := h.l
  match i with
  | 0 => show k < 1024; omega
  | 1 => show l / 1024 < 1024; omega
  | 2 => show l % 1024 < 1024; omega
  | 3 => show s / 1024 / 1024 / 1024 % 1024 < 1024; omega
  | 4 => show s / 1024 / 1024 % 1024 < 1024; omega
  | 5 => show s / 1024 % 1024 < 1024; omega
  | 6 => show s % 1024 < 1024; omega
  | 7 => show 0 < 1024; omega
  | n + 8 => show (0 : Nat) < 1024; omega
theorem shr3 (s : Nat) : (s : Int) / 1073741824 = ((s / 1024 / 1024 / 1024 : Nat) : Int) := by omega
theorem shr2 (s : Nat) : (s : Int) / 1048576 = ((s / 1024 / 1024 : Nat) : Int) := by omega
theorem shr1 (s : Nat) : (s : Int) / 1024 = ((s / 1024 : Nat) : Int) := by omega
theorem andI_1023 {x : Nat} (h : x < 2 ^ 60) : bits .and .i64 (x : Int) 1023 = ((x % 1024 : Nat) : Int) := by
  have h1 := (bits_nat .i64 62 (by decide) wraps_i64 x 1023 (by omega) (by omega)).1
  rwa [show x &&& 1023 = x % 1024 from Nat.and_two_pow_sub_one_eq_mod x 10] at h1

set_option maxRecDepth 100000 in
set_option maxHeartbeats 2000000 in
theorem rhead_any (k l s : Nat) (h : MarkOk k l s) (w : World) :
    Calls Tryz.prog 24 #[markV k l s] w fun e w' => e = .returned (.slice (some ⟨w.heap.size + 1, 0, none⟩) 8 8) ∧ w.heap.size + 1 < w'.heap.size ∧ Blk w' (w.heap.size + 1) 25 (uArr (hdS k l s) 8) ∧ Keep (fun _ => False) w w' := by
  have hk := h.k2
  have hl := h.l
  have hs := h.s
  have e1 := shr1 l
  have e2 := andI_1023 (x := l) (by omega)
  have e3 := shr3 s
  have e4 := shr2 s
  have e5 := shr1 s
  have e6 := andI_1023 (x := s / 1024 / 1024 / 1024) (by omega)
  have e7 := andI_1023 (x := s / 1024 / 1024) (by omega)
  have e8 := andI_1023 (x := s / 1024) (by omega)
  have e9 := andI_1023 (x := s) (by omega)
  have hv : uArr (hdS k l s) 8 = #[.int .u16 k, .int .u16 (l / 1024 : Nat), .int .u16 (l % 1024 : Nat), .int .u16 (s / 1024 / 1024 / 1024 % 1024 : Nat), .int .u16 (s / 1024 / 1024 % 1024 : Nat), .int .u16 (s / 1024 % 1024 : Nat), .int .u16 (s % 1024 : Nat), .int .u16 (0 : Nat)] := rfl
  have b1 : l % 1024 ≤ 1023 := by omega
  have b2 : s / 1024 / 1024 / 1024 % 1024 ≤ 1023 := by omega
  have b3 : s / 1024 / 1024 % 1024 ≤ 1023 := by omega
  have b4 : s / 1024 % 1024 ≤ 1023 := by omega
  have b5 : s % 1024 ≤ 1023 := by omega
  have k1 := ((Keep.refl (fun _ => False) w).alloc (.cells #[.int .i64 k, .int .i64 l, .int .i64 s] 30)).alloc (.cells (uArr (hdS k l s) 8) 25)
  have k2 := Blk.here (w.alloc (.cells #[.int .i64 k, .int .i64 l, .int .i64 s] 30)) 25 (uArr (hdS k l s) 8) (w.heap.size + 1) (by simp)
  rw [hv] at k1 k2 ⊢
  clear hv h hs
  generalize s / 1024 / 1024 / 1024 % 1024 = s3 at *
  generalize s / 1024 / 1024 % 1024 = s2 at *
  generalize s / 1024 % 1024 = s1 at *
  generalize s / 1024 / 1024 / 1024 = t3 at *
  generalize s / 1024 / 1024 = t2 at *
  generalize s / 1024 = t1 at *
  generalize s % 1024 = s0 at *
  generalize l / 1024 = l1 at *
  generalize l % 1024 = l0 at *
  unfold markV
  go_enter Tryz.func24, Tryz.ntmps24
  go_wp2_with (simp only [e3, e4, e5])
  go_ret
  exact ⟨rfl, k2.lt, k2, k1⟩
end Go.Proofs.YtdlmjjlejkkniaaGreat
