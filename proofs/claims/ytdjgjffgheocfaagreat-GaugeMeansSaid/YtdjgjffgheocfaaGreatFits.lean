/- A stage: Lpns, read and Fits where nothing was written. -/
import Derived.Test.YtdjgjffgheocfaaGreatDrv5
namespace Go.Proofs.YtdjgjffgheocfaaGreat
open Go.ChangeShapes Go.WideShapes Go.ChangeAt Go.RowKit

/-- Bytes as a string. -/
def strF (d : Nat → Nat) (n : Nat) : ByteArray := ⟨((List.range n).map fun i => UInt8.ofNat (d i)).toArray⟩
theorem str_ofF (a : Option Addr) (n c : Nat) (d : Nat → Nat) (w : World) (ha : ArgV w a n (fun i => .int .u8 (d i : Nat))) (hd : ∀ i, i < n → d i < 256) (h0 : 0 < n) :
    (convert 97 9 (.slice a n c)).run Tryz.prog w = .ok (.string (strF d n)) w := by
  obtain ⟨b, off, rfl, _, hc⟩ := ha.at_ h0
  have h := run_convert_bytes_back (P := Tryz.prog) w 97 9 5 ⟨b, off, none⟩ c ((List.range n).map fun i => UInt8.ofNat (d i)) Tryz.underlying97 Tryz.underlying5 (by kernel_rfl) (fun j hj => by
    simp at hj
    rw [addr_add, hc j hj]
    simp
    have := hd j hj
    omega)
  simp only [List.length_map, List.length_range] at h
  exact h
theorem bequal_same (a a' : Option Addr) (n c c' : Nat) (d : Nat → Nat) (w : World) (h1 : ArgV w a n (fun i => .int .u8 (d i : Nat))) (h2 : ArgV w a' n (fun i => .int .u8 (d i : Nat))) (hd : ∀ i, i < n → d i < 256) (h0 : 0 < n) :
    Calls Tryz.prog 43 #[.slice a n c, .slice a' n c'] w fun e w' => e = .returned (.bool true) ∧ w = w' := by
  have s1 := str_ofF a n c d w h1 hd h0
  have s2 := str_ofF a' n c' d w h2 hd h0
  clear h1 h2
  generalize strF d n = s at *
  go_enter Tryz.func43, Tryz.ntmps43
  go_wp2_with fail
  go_ret
  exact ⟨rfl, rfl⟩
/-- A stage in its block. -/
def StgB (sb cb db pb B P W K : Nat) (s : Int) (w : World) : Prop := Blk w sb 55 #[.int .i64 (B : Nat), .int .i64 (P : Nat), .int .i64 (W : Nat), .int .i64 (K : Nat), .int .i64 s, .pointer (some ⟨cb, 0, none⟩), .pointer (some ⟨db, 0, none⟩), .pointer (some ⟨pb, 0, none⟩)]
set_option maxHeartbeats 1000000 in
theorem sread_none (sb pb : Nat) (s : Int) (r : DR) (cb B P W K : Nat) (D : DrvS) (w : World) (hs : StgB sb cb r.db pb B P W K s w) (h : DrvM r cb B P W K D w) (hg : GeoOk B P W K) (i : Nat) (hi : i < D.L) (hd : D.dark = false) (hk : D.hk i = 0) (ha : D.at_ i = none) :
    Calls Tryz.prog 42 #[.pointer (some ⟨sb, 0, none⟩), .int .i64 i] w fun e w' => ∃ a' c', e = .returned (.tuple #[.slice a' (szB W K) c', .int .i64 0]) ∧ OwnV w' 5 w.heap.size a' (szB W K) c' (fun _ => .int .u8 0) ∧ Keep (fun _ => False) w w' := by
  have c6 : w.cell? ⟨sb, 6, none⟩ = some (.pointer (some ⟨r.db, 0, none⟩)) := by rw [Blk.cell hs]; rfl
  have HR := Lib.hid (dread_none r cb B P W K D w h hg i hi hd hk ha)
  clear hs h ha hk hi
  generalize szB W K = z at *
  go_enter Tryz.func42, Tryz.ntmps42
  go_wp2_with fail
  refine wp_loop_rounds 1 ?_
  rw [rounds_succ]
  go_wp2_with fail
  refine HR.out.mono ?_
  rintro e w1 ⟨a', c', rfl, ho, hk⟩
  go_wp2_with fail
  go_ret2
  exact ⟨_, _, rfl, ho, hk⟩
set_option maxRecDepth 100000 in
set_option maxHeartbeats 1000000 in
theorem fits_none (sb pb : Nat) (s : Int) (r : DR) (cb B P W K : Nat) (D : DrvS) (w : World) (ao : Option Addr) (co : Nat) (rb : Nat → Nat) (hs : StgB sb cb r.db pb B P W K s w) (h : DrvM r cb B P W K D w) (hg : GeoOk B P W K) (hp : IsPlain pb ao D.L co (szB W K) rb (fun _ _ => 0) w) (hL : D.L ≤ 1024) (h0 : 0 < szB W K) (hd : D.dark = false) (hk : ∀ i, i < D.L → D.hk i = 0 ∧ D.at_ i = none) :
    Calls Tryz.prog 27 #[.pointer (some ⟨sb, 0, none⟩)] w fun e w' => e = .returned (.bool true) ∧ Keep (fun _ => False) w w' := by
  have hz := szB_leD hg
  have HLn := Lib.hid (dlpns_ok r cb B P W K D)
  have HP := Lib.hid (fun w (hp : IsPlain pb ao D.L co (szB W K) rb (fun _ _ => 0) w) i hi => pread_yes w hp hz hL i hi)
  have HR := Lib.hid (fun w (hs : StgB sb cb r.db pb B P W K s w) (h : DrvM r cb B P W K D w) (i : Nat) (hi : i < D.L) => sread_none sb pb s r cb B P W K D w hs h hg i hi hd (hk i hi).1 (hk i hi).2)
  clear hk hd
  generalize hLL : D.L = L at *
  generalize szB W K = z at *
  have c6 : w.cell? ⟨sb, 6, none⟩ = some (.pointer (some ⟨r.db, 0, none⟩)) := by rw [Blk.cell hs]; rfl
  have HH := Lib.hid (And.intro hs (And.intro h hp))
  clear hs h hp
  go_enter Tryz.func27, Tryz.ntmps27
  go_wp2_with fail
  refine (HLn.out _ HH.out.2.1).mono ?_
  rintro e w1 ⟨rfl, rfl⟩
  go_wp2_with fail
  go_loopw [15] (fun v wr => ∃ j : Nat, j ≤ L ∧ v = .int .i64 j ∧ Keep (fun _ => False) w wr) (fun v _ => L - (intOf v).toNat)
  case atStart => exact ⟨0, Nat.zero_le _, rfl, Keep.refl _ _⟩
  case round =>
    obtain ⟨j, hj, rfl, kk⟩ := hrel
    by_cases hjl : j < L
    · have hjl' : (j : Int) < (L : Int) := by omega
      have HS := Lib.hid (Blk.keep HH.out.1 kk (by simp) : StgB sb cb r.db pb B P W K s wr)
      have HD := Lib.hid (HH.out.2.1.keepF kk)
      have HQ := Lib.hid (HH.out.2.2.keepF kk)
      have c7 : wr.cell? ⟨sb, 7, none⟩ = some (.pointer (some ⟨pb, 0, none⟩)) := by rw [Blk.cell HS.out]; rfl
      have KK := Lib.hid kk
      clear kk c6
      go_wp2_with fail
      refine (HP.out _ HQ.out j hjl).mono ?_
      rintro e w1 ⟨a1, c1, rfl, o1, k1⟩
      have HS1 := Lib.hid (Blk.keep HS.out k1 (by simp) : StgB sb cb r.db pb B P W K s w1)
      have HD1 := Lib.hid (HD.out.keepF k1)
      have HO1 := Lib.hid o1
      have K1 := Lib.hid (KK.out.comp k1)
      clear o1 k1 c7
      go_wp2_with fail
      refine (HR.out _ HS1.out HD1.out j hjl).mono ?_
      rintro e w2 ⟨a2, c2, rfl, o2, k2⟩
      have HO2 := Lib.hid (o2.arg (by omega))
      have HA1 := Lib.hid ((HO1.out.keep k2).arg (by omega))
      have K2 := Lib.hid (K1.out.comp k2)
      clear o2 k2
      go_wp2_with fail
      refine (bequal_same a2 a1 z c2 c1 (fun _ => 0) _ HO2.out HA1.out (fun _ _ => by omega) h0).mono ?_
      rintro e w3 ⟨rfl, rfl⟩
      go_wp2_with fail
      go_roundw
      case rel => exact ⟨j + 1, by omega, by go_num, K2.out⟩
      case measure => simp [intOf]; omega
    · obtain rfl : j = L := by omega
      have hjl' : ¬ (j : Int) < (j : Int) := by omega
      have HE := Lib.hid kk
      clear kk
      go_wp2_with fail
      go_ret
      exact ⟨rfl, HE.out⟩
end Go.Proofs.YtdjgjffgheocfaaGreat
