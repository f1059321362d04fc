/- The walk of blackboardlaw15.LmapMoves: it answers true, and leaves alone what was there. -/
import Derived.Test.YtipfpcfepfkehaaLm4
import Derived.Test.YtipfpcfepfkehaaPairs
import Derived.Deep.QuietTactic
import Derived.BigQuiet
namespace Go.Proofs.Ytipfpcfepfkehaa
open Go.RowKit

/-- The law's own search for the owner, up to J. -/
def ownUp (A : Nat → Option Nat) (p : Nat) : Nat → Option Nat
  | 0 => none
  | J + 1 => if A J = some p then some J else ownUp A p J
theorem ownUp_some {A : Nat → Option Nat} {p l J : Nat} (h : ∀ k, A k = some p ↔ k = l) (hl : l < J) : ownUp A p J = some l := by
  induction J with
  | zero => omega
  | succ J ih =>
    unfold ownUp
    by_cases hJ : A J = some p
    · rw [if_pos hJ, (h J).1 hJ]
    · rw [if_neg hJ]
      refine ih ?_
      have : J ≠ l := fun e => hJ ((h J).2 e)
      omega
theorem ownUp_none {A : Nat → Option Nat} {p J : Nat} (h : ∀ k, A k ≠ some p) : ownUp A p J = none := by
  induction J with
  | zero => rfl
  | succ J ih =>
    unfold ownUp
    rw [if_neg (h J), ih]
theorem ownUp_all {m : LM} {A O : Nat → Option Nat} {w : World} (h : IsMap m A O w) (p n : Nat) (hn : m.L = n) : ownUp A p n = O p := by
  rcases ho : O p with _ | l
  · exact ownUp_none fun k hk => by
      have := (h.con k p).1 hk
      rw [ho] at this
      cases this
  · have hl := (h.con l p).2 ho
    refine ownUp_some (l := l) (fun k => ⟨fun hk => ?_, fun hk => by rw [hk]; exact hl⟩) (by have := (h.dom l p hl).1; omega)
    have := (h.con k p).1 hk
    rw [ho] at this
    exact (Option.some.inj this).symm

theorem byte_wrap (x : Nat) (h : (x : Int) < 256) : wrap64 (x : Int) = (x : Int) := by unfold wrap64; omega
theorem byte_mod (x m K : Nat) (h : K = x % m) : (x : Int).tmod (m : Int) = (K : Int) := by rw [Int.tmod_eq_emod_of_nonneg (by omega), h]; rfl

structure MovesAt (w wr : World) (m : LM) (lb : Nat) (A : Nat → Option Nat) : Prop where
  map : ∃ O, IsMap m A O wr
  row : Blk wr lb 3 (optArr A 10)
  keep : Keep (fun _ => False) w wr

theorem optArr_self (A : Nat → Option Nat) (k p n : Nat) (h : A k = some p) : optArr (updO A k (some p)) n = optArr A n := by
  have : updO A k (some p) = A := by
    funext i
    unfold updO
    split
    · rename_i e; rw [e, h]
    · rfl
  rw [this]

theorem MovesAt.drewN {w wr : World} {m : LM} {lb : Nat} {A : Nat → Option Nat} (h : MovesAt w wr m lb A) (k : Nat) : MovesAt w (wr.drewN k) m lb A := by
  obtain ⟨⟨O, hO⟩, h2, h3⟩ := h
  exact ⟨⟨O, hO.raw.drewN k, hO.con, hO.dom⟩, h2.drewN k, h3.drewN k⟩
theorem u8_bounds {z : Int} (h : (Lit.int .u8 z).wf = true) : 0 ≤ z ∧ z < 256 := by
  have := Go.bounds_u8 h
  omega
/-- The store of the last place. -/
theorem MovesAt.store {w wr w2 : World} {m : LM} {lb : Nat} {A : Nat → Option Nat} {K y : Nat} (h : MovesAt w wr m lb A) (hid : ¬ mapS m lb ∧ lb ≠ m.pb) (hw : w.heap.size ≤ lb ∧ w.heap.size ≤ m.mb ∧ w.heap.size ≤ m.ab ∧ w.heap.size ≤ m.ob ∧ w.heap.size ≤ m.sb)
    (hmap : ∃ O', IsMap m (updO A K (some y)) O' w2) (hk : Keep (mapS m) wr w2) : MovesAt w (w2.setCell ⟨lb, K, none⟩ (.int .i64 (y : Int))) m lb (updO A K (some y)) := by
  obtain ⟨O', h2⟩ := hmap
  obtain ⟨w1, w3, w4, w5, w6⟩ := hw
  have kb : Keep (· = lb) w2 (w2.setCell ⟨lb, K, none⟩ (.int .i64 (y : Int))) := (Keep.refl (· = lb) w2).setCell (p := ⟨lb, K, none⟩) (.inl rfl) _
  have hr := (h.row.keep hk hid.1).store K (.int .i64 (optI (some y)))
  rw [optArr_set] at hr
  have n1 : m.mb ≠ lb := fun e => hid.1 (.inl e.symm)
  have n2 : m.ab ≠ lb := fun e => hid.1 (.inr (.inl e.symm))
  have n3 : m.ob ≠ lb := fun e => hid.1 (.inr (.inr (.inl e.symm)))
  have n4 : m.sb ≠ lb := fun e => hid.1 (.inr (.inr (.inr e.symm)))
  refine ⟨⟨O', h2.keep kb n1 n2 n3 (fun e => hid.2 e.symm) n4⟩, hr, ?_⟩
  refine (h.keep.trans hk (fun i hi => .inr ?_)).setCell (p := ⟨lb, K, none⟩) (.inr w1) _
  rcases hi with rfl | rfl | rfl | rfl
  · exact w3
  · exact w4
  · exact w5
  · exact w6

set_option maxRecDepth 100000 in
set_option maxHeartbeats 4000000 in
theorem moves_true (w : World) (a : Option Addr) (len cap : Nat) (X Y : Nat → Int) (ha : ArgPairs .u8 w a len X Y) :
    Calls Try.prog 4 #[.slice a len cap] w fun e w' => e = .returned (.bool true) ∧ Keep (fun _ => False) w w' := by
  have hsm := ha.small
  unfold maxLen at hsm
  have hm := make_vals (P := Try.prog) Try.underlying34 Try.info_int rfl 10 10 rfl (by omega) (by omega)
  go_enter Try.func4, Try.ntmps4
  go_wp2_with fail
  refine (lawake_true w).mono ?_
  rintro e w0 ⟨rfl, k0⟩
  by_cases h200 : 200 < len
  · go_wp2
    go_ret
    exact ⟨rfl, k0⟩
  · go_wp2_with fail
    refine (new_map 10 256 (by decide) (by decide) w0).mono ?_
    rintro e w1 ⟨m, rfl, h1, k1, hL, hP, hnew⟩
    have kk := k0.trans k1 (fun i hi => .inl hi)
    have zk := k0.size
    have zk1 := k1.size
    obtain ⟨hn1, hn2, hn3, hn4, hn5⟩ := hnew
    have l1 := h1.raw.hm.lt
    have l2 := h1.raw.ha.lt
    have l3 := h1.raw.ho.lt
    have l4 := h1.raw.hb.hp.lt
    have l5 := h1.raw.hb.hs.lt
    have HL := Lib.hid hL
    have HP := Lib.hid hP
    clear hL hP
    go_wp2_with fail
    clear hm
    go_loopw [6] (fun i wr => ∃ j : Nat, j ≤ 10 ∧ i = .int .i64 j ∧ Blk wr w1.heap.size 3 (valsArr (fun k => .int .i64 (if k < j then -1 else 0)) 10) ∧ IsMap m (fun _ => none) (fun _ => none) wr ∧ Keep (fun _ => False) w wr) (fun i _ => 10 - (intOf i).toNat)
    case atStart =>
      refine ⟨0, by omega, rfl, ?_, h1.keep ((Keep.refl (fun _ => False) w1).alloc _) (by simp) (by simp) (by simp) (by simp) (by simp), kk.alloc _⟩
      have := Blk.new w1 3 (valsArr (fun _ => .int .i64 0) 10)
      simpa using this
    case round =>
      obtain ⟨j, hj, rfl, hb, hmap, hk⟩ := hrel
      by_cases hj10 : j < 10
      · have hc := hb.val hj10
        have hz := hb.frozen j
        have hj' : (j : Int) < 10 := by omega
        go_wp2_with fail
        go_roundw
        case rel =>
          have kb : Keep (· = w1.heap.size) wr (wr.setCell ⟨w1.heap.size, j, none⟩ (.int .i64 (-1))) := (Keep.refl (· = w1.heap.size) wr).setCell (p := ⟨w1.heap.size, j, none⟩) (.inl rfl) _
          refine ⟨j + 1, by omega, by go_num, ?_, hmap.keep kb (show ¬ m.mb = w1.heap.size by omega) (show ¬ m.ab = w1.heap.size by omega) (show ¬ m.ob = w1.heap.size by omega) (show ¬ m.pb = w1.heap.size by omega) (show ¬ m.sb = w1.heap.size by omega), hk.setCell (p := ⟨w1.heap.size, j, none⟩) (.inr (by show w.heap.size ≤ w1.heap.size; omega)) _⟩
          have := hb.store j (.int .i64 (-1))
          rwa [valsArr_congr (h := fun k => .int .i64 (if k < j + 1 then -1 else 0))] at this
          intro i hi
          by_cases e1 : i = j
          · subst e1; simp
          · by_cases e2 : i < j
            · simp [e1, e2, show i < j + 1 by omega]
            · simp [e1, e2, show ¬ i < j + 1 by omega]
        case measure => simp [intOf]; omega
      · have hrow : Blk wr w1.heap.size 3 (optArr (fun _ => none) 10) := by
          have e : optArr (fun _ => none) 10 = valsArr (fun k => .int .i64 (if k < j then -1 else 0)) 10 := valsArr_congr fun i hi => by simp [optI, show i < j by omega]
          rw [e]
          exact hb
        have M0 : MovesAt w wr m w1.heap.size (fun _ => none) := ⟨⟨_, hmap⟩, hrow, hk⟩
        have hid : ¬ mapS m w1.heap.size ∧ w1.heap.size ≠ m.pb := by
          refine ⟨?_, by omega⟩
          rintro (e | e | e | e) <;> omega
        have hwb : w.heap.size ≤ w1.heap.size ∧ w.heap.size ≤ m.mb ∧ w.heap.size ≤ m.ab ∧ w.heap.size ≤ m.ob ∧ w.heap.size ≤ m.sb := by omega
        have HID := Lib.hid hid
        have HWB := Lib.hid hwb
        go_wp2_with fail
        clear hid hwb hj10 hj hb hmap hk hn1 hn2 hn3 hn4 hn5 l1 l2 l3 l4 l5 zk zk1 h1 k0 k1 kk
        go_loopw [7] (fun i ws => ∃ (j : Nat) (A : Nat → Option Nat), j ≤ len ∧ i = .int .i64 j ∧ MovesAt w ws m w1.heap.size A) (fun i _ => len - (intOf i).toNat)
        case atStart => exact ⟨0, _, Nat.zero_le _, rfl, M0⟩
        case round =>
          obtain ⟨j, A, hj, rfl, pr⟩ := hrel
          by_cases hjl : j < len
          · obtain ⟨b, off, rfl, hb, hc⟩ := (ha.keep pr.keep).at_ (by omega)
            obtain ⟨c0, c1⟩ := hc j hjl
            obtain ⟨wx, wy⟩ := ha.wf j hjl
            obtain ⟨x0, x1⟩ := u8_bounds wx
            obtain ⟨y0, y1⟩ := u8_bounds wy
            obtain ⟨x, hx⟩ := Int.eq_ofNat_of_zero_le x0
            obtain ⟨y, hy⟩ := Int.eq_ofNat_of_zero_le y0
            rw [hx] at c0 x1
            rw [hy] at c1 y1
            obtain ⟨K, hK⟩ : ∃ K, K = x % 10 := ⟨_, rfl⟩
            have hK2 : K < 10 := by omega
            have hy256 : y < 256 := by omega
            have hjl' : (j : Int) < (len : Int) := by omega
            have hx5 : (x : Int) < 256 := by omega
            have HK := Lib.hid hK
            clear hK hx hy x0 x1 y0 y1 wx wy hc
            go_wp2_with fail
            have e1 : wrap64 (x : Int) = (x : Int) := byte_wrap x hx5
            have e2 : (x : Int).tmod 10 = (K : Int) := byte_mod x 10 K HK.out
            go_quiet (fail)
            clear e1 e2
            have pq := pr.drewN nq
            go_wp2_with fail
            go_loop [10, 11] (fun v i => ∃ J : Nat, J ≤ 10 ∧ v = .int .i64 (optI (ownUp A y J)) ∧ i = .int .i64 J) (fun _ i => 10 - (intOf i).toNat)
            case atStart => exact ⟨0, by omega, rfl, rfl⟩
            case round =>
              obtain ⟨J, hJ, rfl, rfl⟩ := hrel
              by_cases hJ10 : J < 10
              · have cm := pr.row.val hJ10
                have hJ' : (J : Int) < 10 := by omega
                rcases hA : A J with _ | q
                · have HR : Hid (ownUp A y (J + 1) = ownUp A y J) := Lib.hid (by
                      show (if A J = some y then some J else ownUp A y J) = _
                      rw [hA, if_neg (by simp)])
                  rw [hA] at cm
                  change _ = some (Value.int .i64 (-1)) at cm
                  clear hA
                  go_wp2_with fail
                  go_round
                  case rel => exact ⟨J + 1, by omega, by rw [HR.out], by go_num⟩
                  case measure => simp [intOf]; omega
                · rw [hA] at cm
                  change _ = some (Value.int .i64 (q : Int)) at cm
                  by_cases hq : q = y
                  · subst hq
                    have HR : Hid (ownUp A q (J + 1) = some J) := Lib.hid (by
                      show (if A J = some q then some J else ownUp A q J) = _
                      rw [hA, if_pos rfl])
                    clear hA
                    go_wp2_with fail
                    go_round
                    case rel => exact ⟨J + 1, by omega, by rw [HR.out]; rfl, by go_num⟩
                    case measure => simp [intOf]; omega
                  · have HR : Hid (ownUp A y (J + 1) = ownUp A y J) := Lib.hid (by
                      show (if A J = some y then some J else ownUp A y J) = _
                      rw [hA, if_neg (fun e => hq (Option.some.inj e))])
                    clear hA
                    go_wp2_with fail
                    go_round
                    case rel => exact ⟨J + 1, by omega, by rw [HR.out], by go_num⟩
                    case measure => simp [intOf]; omega
              · have hJe : J = 10 := by omega
                subst hJe
                obtain ⟨O, hO⟩ := pq.map
                have hown := ownUp_all hO y 10 HL.out
                have cK := pr.row.val hK2
                rcases hOy : O y with _ | l
                · rw [hown, hOy, show optI none = -1 from rfl]
                  have HO := Lib.hid hOy
                  have hAK : A K ≠ some y := fun e => by
                    have := (hO.con K y).1 e
                    rw [hOy] at this
                    cases this
                  have hKL : K < m.L := by rw [HL.out]; exact hK2
                  have hyP : y < m.P := by rw [HP.out]; exact hy256
                  clear hOy hown
                  have hne : (optI (A K) == (y : Int)) = false := by
                    rcases hA : A K with _ | q
                    · simp [optI]
                    · have : q ≠ y := fun e => hAK (by rw [hA, e])
                      simp only [optI]
                      simp
                      omega
                  go_wp2_with fail
                  refine (put_free m A O K y _ hO hKL hyP HO).mono ?_
                  rintro e w2 ⟨rfl, h2, k2⟩
                  have cz := (pq.row.keep k2 HID.out.1).val hK2
                  have fz := (pq.row.keep k2 HID.out.1).frozen K
                  have pn := pq.store HID.out HWB.out h2 k2
                  go_wp2_with fail
                  go_roundw
                  case rel => exact ⟨j + 1, _, by omega, by go_num, pn⟩
                  case measure => simp [intOf]; omega
                · rw [hown, hOy, show optI (some l) = (l : Int) from rfl]
                  have HO := Lib.hid hOy
                  have hAl := (hO.con l y).2 hOy
                  have hKL : K < m.L := by rw [HL.out]; exact hK2
                  have hyP : y < m.P := by rw [HP.out]; exact hy256
                  clear hOy hown
                  by_cases hlK : l = K
                  · subst hlK
                    have HA := Lib.hid hAl
                    rw [hAl] at cK
                    change _ = some (Value.int .i64 (y : Int)) at cK
                    clear hAl
                    have fz := pq.row.frozen l
                    have pn := pq.store HID.out HWB.out (w2 := wr.drewN nq) (K := l) (y := y) ⟨O, by
                      have e : updO A l (some y) = A := by
                        funext i
                        unfold updO
                        split
                        · rename_i e; rw [e, HA.out]
                        · rfl
                      rw [e]
                      exact hO⟩ (Keep.refl _ _)
                    go_wp2_with fail
                    refine (put_same m A O l y _ hO HA).mono ?_
                    rintro e w2 ⟨rfl, rfl⟩
                    go_wp2_with fail
                    go_roundw
                    case rel => exact ⟨j + 1, _, by omega, by go_num, pn⟩
                    case measure => simp [intOf]; omega
                  · clear hAl
                    go_wp2_with fail
                    refine (put_other m A O K y l _ hO hKL hyP HO hlK).mono ?_
                    rintro e w2 ⟨rfl, rfl⟩
                    go_wp2_with fail
                    go_roundw
                    case rel => exact ⟨j + 1, _, by omega, by go_num, pq⟩
                    case measure => simp [intOf]; omega
          · go_wp2_with fail
            go_loop [15] (fun i => ∃ J : Nat, J ≤ 10 ∧ i = .int .i64 J) (fun i => 10 - (intOf i).toNat)
            case atStart => exact ⟨0, by omega, rfl⟩
            case round =>
              obtain ⟨J, hJ, rfl⟩ := hrel
              by_cases hJ10 : J < 10
              · have cm := pr.row.val hJ10
                have hJ' : (J : Int) < 10 := by omega
                obtain ⟨O, hO⟩ := pr.map
                rcases hA : A J with _ | q
                · have HA : Hid (A ((J : Nat) : Int).toNat = none) := Lib.hid hA
                  rw [hA] at cm
                  change _ = some (Value.int .i64 (-1)) at cm
                  clear hA
                  go_wp2_with fail
                  refine (get_no m A O J _ hO (.inr (.inr HA))).mono ?_
                  rintro e w2 ⟨rfl, rfl⟩
                  go_wp2_with fail
                  go_round
                  case rel => exact ⟨J + 1, by omega, by go_num⟩
                  case measure => simp [intOf]; omega
                · have HA := Lib.hid hA
                  rw [hA] at cm
                  change _ = some (Value.int .i64 (q : Int)) at cm
                  clear hA
                  go_wp2_with fail
                  refine (get_yes m A O J q _ hO HA).mono ?_
                  rintro e w2 ⟨rfl, rfl⟩
                  go_wp2_with fail
                  go_round
                  case rel => exact ⟨J + 1, by omega, by go_num⟩
                  case measure => simp [intOf]; omega
              · go_wp2_with fail
                go_ret
                exact ⟨rfl, pr.keep⟩

theorem moves_of {H : Type} {enc : TypeId × Value → H} (w : World) {base : Nat} {a : Option Addr} {len cap : Nat} {d : DataW H} {ps : List MemPlace} {sp : Nat → Bool}
    (h : DataW.Trod enc Try.prog w base sp true 33 (.slice a len cap) d ps) :
    Calls Try.prog 4 #[.slice a len cap] w fun e w' => e = .returned (.bool true) ∧ Keep (fun _ => False) w w' := by
  obtain ⟨X, Y, ha⟩ := pairs_of Try.underlying33 Try.underlying35 Try.underlying5 (by kernel_rfl) (by kernel_rfl) h
  exact moves_true w a len cap X Y ha
end Go.Proofs.Ytipfpcfepfkehaa
