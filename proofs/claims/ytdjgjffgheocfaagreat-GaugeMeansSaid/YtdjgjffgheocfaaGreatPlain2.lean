/- Package plain: may and Read of a page within the array; the clone of bytes. -/
import Derived.Test.YtdjgjffgheocfaaGreatPlain
namespace Go.Proofs.YtdjgjffgheocfaaGreat
open Go.RowKit

theorem ty_by : RowTy 97 5 := rowTy_of Tryz.underlying97 (z := .int .u8 0) (b := 1) (by kernel_rfl) rfl (by omega)
theorem cloneB_any (a : Addr) (n c : Nat) (p : Nat → Value) (w : World) (ha : ArgV w (some a) n p) (h1 : ∀ i, i < n → (p i).oneCell' = true) (hn : n ≤ 1000000) :
    Calls Tryz.prog 71 #[.slice (some a) n c] w fun e w' => ∃ a' c', e = .returned (.slice a' n c') ∧ OwnV w' 5 w.heap.size a' n c' p ∧ Keep (fun _ => False) w w' := by
  have k0 := (Keep.refl (fun _ => False) w).alloc (.cells #[] 5)
  have HA := Lib.hid (ha.keep k0)
  have HO := Lib.hid (show OwnV (w.alloc (.cells #[] 5)) 5 w.heap.size (some ⟨w.heap.size, 0, none⟩) 0 0 p from OwnV.of_row (RowV.of_blk (Blk.new w _ _)) (Nat.le_refl _) (by unfold maxLen; omega))
  have HK := Lib.hid k0
  have H1 := Lib.hid h1
  clear ha k0 h1
  have q := fun (w : World) (a : Option Addr) (n c n' c' : Nat) => Lib.run_eql_slice_nil (P := Tryz.prog) w 97 5 a n c n' c' Tryz.underlying97
  go_enter Tryz.func71, Tryz.ntmps71
  go_wp2_with (refine wpList_append_v ty_by rfl (.tmp 5) (.tmp 6) rfl w.heap.size _ 0 0 p rfl HO.out a n c p rfl HA.out H1.out (by omega) (by simp) ?_)
  intro a' c' w1 hown hgrow
  have hown := hown.congr (f' := p) (fun i hi => by simp)
  go_wp2_with fail
  go_ret
  exact ⟨a', c', rfl, by simpa using hown, HK.out.grown hgrow (fun k hk => .inr (by simp [Value.ownBlock] at hk; omega))⟩

theorem pmay_yes {pb : Nat} {ao : Option Addr} {n co z : Nat} {rb : Nat → Nat} {d : Nat → Nat → Nat} (w : World) (h : IsPlain pb ao n co z rb d w) (i : Nat) (hi : i < n) :
    Calls Tryz.prog 70 #[.pointer (some ⟨pb, 0, none⟩), .int .i64 i, .bool true] w fun e w' => e = .returned (.int .i64 0) ∧ w = w' := by
  have c0 : w.cell? ⟨pb, 0, none⟩ = some (.slice ao n co) := by rw [h.b.cell]; rfl
  have d1 : decide ((i : Int) < 0) = false := decide_eq_false (by omega)
  have d2 : decide ((n : Int) ≤ (i : Int)) = false := decide_eq_false (by omega)
  have d3 : ¬ n ≤ i := by omega
  clear h
  go_enter Tryz.func70, Tryz.ntmps70
  go_wp2_with fail
  go_ret
  exact ⟨rfl, rfl⟩

theorem pread_yes {pb : Nat} {ao : Option Addr} {n co z : Nat} {rb : Nat → Nat} {d : Nat → Nat → Nat} (w : World) (h : IsPlain pb ao n co z rb d w) (hz : z ≤ 320) (hn : n ≤ 1024) (i : Nat) (hi : i < n) :
    Calls Tryz.prog 41 #[.pointer (some ⟨pb, 0, none⟩), .int .i64 i] w fun e w' => ∃ a' c', e = .returned (.tuple #[.slice a' z c', .int .i64 0]) ∧ OwnV w' 5 w.heap.size a' z c' (fun k => .int .u8 (d i k : Nat)) ∧ Keep (fun _ => False) w w' := by
  have c0 : w.cell? ⟨pb, 0, none⟩ = some (.slice ao n co) := by rw [h.b.cell]; rfl
  obtain ⟨g, off, e0, hbs, hc⟩ := (h.o.arg (by omega)).at_ (by omega : 0 < n)
  have c1 := hc i hi
  have HA := Lib.hid ((RowV.of_blk (h.p i hi).1).arg (by omega))
  have HM := Lib.hid (pmay_yes w h i hi)
  have hi' : (i : Int) < (n : Int) := by omega
  subst e0
  clear h hc
  go_enter Tryz.func41, Tryz.ntmps41
  go_wp2_with fail
  refine HM.out.mono ?_
  rintro e w1 ⟨rfl, rfl⟩
  go_wp2_with fail
  refine (cloneB_any _ z z _ _ HA.out (fun i _ => rfl) (by omega)).mono ?_
  rintro e w1 ⟨a', c', rfl, ho, hk⟩
  go_wp2_with fail
  go_ret2
  exact ⟨a', c', rfl, ho, hk⟩
end Go.Proofs.YtdjgjffgheocfaaGreat
