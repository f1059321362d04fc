/- rate.Calm. -/
import Derived.Test.YtaepllaipdacjaaCalm
import Derived.Test.YtaepllaipdacjaaWorst
namespace Go.Proofs.Ytaepllaipdacjaa
open Go.RowKit

theorem ArgEvents.keep {w w' : World} {a : Option Addr} {len : Nat} {D G C : Nat → Int} (h : ArgEvents w a len D G C) (k : Keep (fun _ => False) w w') : ArgEvents w' a len D G C := by
  refine ⟨fun h0 => ?_, h.small⟩
  obtain ⟨b, off, rfl, hb, hc⟩ := h.at_ h0
  refine ⟨b, off, rfl, Nat.lt_of_lt_of_le hb k.size, fun i hi => ?_⟩
  obtain ⟨l, re, im, q, yl, yc, c0, c1, c2, c3, c4, c5⟩ := hc i hi
  exact ⟨l, re, im, q, yl, yc, (k.cell (p := ⟨b, off + i * 6, none⟩) hb (by simp)).trans c0, (k.cell (p := ⟨b, off + i * 6 + 1, none⟩) hb (by simp)).trans c1, (k.cell (p := ⟨b, off + i * 6 + 2, none⟩) hb (by simp)).trans c2,
    (k.cell (p := ⟨b, off + i * 6 + 3, none⟩) hb (by simp)).trans c3, (k.cell (p := ⟨b, off + i * 6 + 4, none⟩) hb (by simp)).trans c4, (k.cell (p := ⟨b, off + i * 6 + 5, none⟩) hb (by simp)).trans c5⟩

section
variable (w : World) (B P W K : Int) (h : GeoOk B P W K) (N m L : Nat) (hN : B * P = N) (hm : W = m) (hL : W * (K + 16) = L) (al : Option Addr) (len cap : Nat) (D G C : Nat → Int) (ha : ArgEvents w al len D G C) (r : Int)
include h hN hm hL ha
set_option maxHeartbeats 400000 in
theorem calm_yes (hr : ((rateAt N m L D G C len).worst : Int) ≤ r) (hD : ∀ i, i < len → D i ≠ 7) :
    Calls Try.prog 8 #[geoV B P W K, .slice al len cap, .int .i64 r] w fun e w' => e = .returned (.bool true) ∧ Keep (fun _ => False) w w' := by
  have HWo := Lib.hid (worst_any (w.alloc (.cells #[.int .i64 B, .int .i64 P, .int .i64 W, .int .i64 K] 24)) B P W K h N m L hN hm hL al len cap D G C (ha.keep ((Keep.refl _ w).alloc _)))
  clear hN hm hL
  go_enter Try.func8, Try.ntmps8
  go_wp2_with fail
  refine HWo.out.mono ?_
  rintro e w1 ⟨rfl, k1⟩
  have k2 := ((Keep.refl (fun _ => False) w).alloc (.cells #[.int .i64 B, .int .i64 P, .int .i64 W, .int .i64 K] 24)).trans k1 (fun _ hi => .inl hi)
  go_wp2_with fail
  refine (contains_none w1 al len cap D G C (ha.keep k2) hD).mono ?_
  rintro e w3 ⟨rfl, k3⟩
  go_wp2_with fail
  go_ret
  exact ⟨rfl, k2.trans k3 (fun _ hi => .inl hi)⟩
set_option maxHeartbeats 400000 in
theorem calm_seven (hr : ((rateAt N m L D G C len).worst : Int) ≤ r) (h0 : 0 < len) (hD : D 0 = 7) :
    Calls Try.prog 8 #[geoV B P W K, .slice al len cap, .int .i64 r] w fun e w' => e = .returned (.bool false) ∧ Keep (fun _ => False) w w' := by
  have HWo := Lib.hid (worst_any (w.alloc (.cells #[.int .i64 B, .int .i64 P, .int .i64 W, .int .i64 K] 24)) B P W K h N m L hN hm hL al len cap D G C (ha.keep ((Keep.refl _ w).alloc _)))
  have HD := Lib.hid hD
  clear hN hm hL hD
  go_enter Try.func8, Try.ntmps8
  go_wp2_with fail
  refine HWo.out.mono ?_
  rintro e w1 ⟨rfl, k1⟩
  have k2 := ((Keep.refl (fun _ => False) w).alloc (.cells #[.int .i64 B, .int .i64 P, .int .i64 W, .int .i64 K] 24)).trans k1 (fun _ hi => .inl hi)
  go_wp2_with fail
  refine (contains_first w1 al len cap D G C (ha.keep k2) h0 HD.out).mono ?_
  rintro e w3 ⟨rfl, k3⟩
  go_wp2_with fail
  go_ret
  exact ⟨rfl, k2.trans k3 (fun _ hi => .inl hi)⟩
set_option maxHeartbeats 400000 in
theorem calm_big (hr : r < ((rateAt N m L D G C len).worst : Int)) :
    Calls Try.prog 8 #[geoV B P W K, .slice al len cap, .int .i64 r] w fun e w' => e = .returned (.bool false) ∧ Keep (fun _ => False) w w' := by
  have HWo := Lib.hid (worst_any (w.alloc (.cells #[.int .i64 B, .int .i64 P, .int .i64 W, .int .i64 K] 24)) B P W K h N m L hN hm hL al len cap D G C (ha.keep ((Keep.refl _ w).alloc _)))
  clear hN hm hL
  have hd : decide (((rateAt N m L D G C len).worst : Int) ≤ r) = false := by simpa using hr
  go_enter Try.func8, Try.ntmps8
  go_wp2_with fail
  refine HWo.out.mono ?_
  rintro e w1 ⟨rfl, k1⟩
  have k2 := ((Keep.refl (fun _ => False) w).alloc (.cells #[.int .i64 B, .int .i64 P, .int .i64 W, .int .i64 K] 24)).trans k1 (fun _ hi => .inl hi)
  go_wp2_with fail
  go_ret
  exact ⟨rfl, k2⟩
end
end Go.Proofs.Ytaepllaipdacjaa
