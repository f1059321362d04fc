/- The walk of blackboardlaw15.LmapWays: it answers true, and leaves alone what was there. -/
import Derived.Test.YtipfpcfepfkehaaDoorLcount
import Derived.Test.YtipfpcfepfkehaaDoorPairs
import Derived.StillTailTactics
namespace Go.Proofs.YtipfpcfepfkehaaDoor
open Go.RowKit

theorem IsMap.drewN {m : LM} {A O : Nat → Option Nat} {w : World} (h : IsMap m A O w) (k : Nat) : IsMap m A O (w.drewN k) := ⟨h.raw.drewN k, h.con, h.dom⟩
theorem IsMap.drew {m : LM} {A O : Nat → Option Nat} {w : World} (h : IsMap m A O w) : IsMap m A O w.drew := ⟨h.raw.drew, h.con, h.dom⟩

theorem drop_any (m : LM) (A O : Nat → Option Nat) (l : Int) (w : World) (h : IsMap m A O w) :
    Calls Tryd.prog 14 #[.pointer (some ⟨m.mb, 0, none⟩), .int .i64 l] w fun e w' => ∃ v, e = .returned v ∧ (∃ A' O', IsMap m A' O' w') ∧ Keep (mapS m) w w' := by
  by_cases h0 : l < 0
  · exact (drop_no m A O l w h (.inl h0)).mono fun e w' ⟨he, hw⟩ => ⟨_, he, ⟨A, O, hw ▸ h⟩, hw ▸ Keep.refl _ _⟩
  · obtain ⟨k, rfl⟩ := Int.eq_ofNat_of_zero_le (show 0 ≤ l by omega)
    rcases hA : A k with _ | p
    · exact (drop_no m A O k w h (.inr (.inr (Lib.hid (by simpa using hA))))).mono fun e w' ⟨he, hw⟩ => ⟨_, he, ⟨A, O, hw ▸ h⟩, hw ▸ Keep.refl _ _⟩
    · exact (drop_yes m A O k p w h (Lib.hid hA)).mono fun e w' ⟨he, hi, hk⟩ => ⟨_, he, ⟨_, _, hi⟩, hk⟩
theorem put_any (m : LM) (A O : Nat → Option Nat) (l p : Int) (w : World) (h : IsMap m A O w) :
    Calls Tryd.prog 9 #[.pointer (some ⟨m.mb, 0, none⟩), .int .i64 l, .int .i64 p] w fun e w' => ∃ v, e = .returned v ∧ (∃ A' O', IsMap m A' O' w') ∧ Keep (mapS m) w w' := by
  by_cases hr : l < 0 ∨ (m.L : Int) ≤ l ∨ p < 0 ∨ (m.P : Int) ≤ p
  · exact (put_range m A O l p w h hr).mono fun e w' ⟨he, hw⟩ => ⟨_, he, ⟨A, O, hw ▸ h⟩, hw ▸ Keep.refl _ _⟩
  · obtain ⟨k, rfl⟩ := Int.eq_ofNat_of_zero_le (show 0 ≤ l by omega)
    obtain ⟨q, rfl⟩ := Int.eq_ofNat_of_zero_le (show 0 ≤ p by omega)
    rcases hO : O q with _ | o
    · exact (put_free m A O k q w h (by omega) (by omega) (Lib.hid hO)).mono fun e w' ⟨he, ⟨O', hi⟩, hk⟩ => ⟨_, he, ⟨_, O', hi⟩, hk⟩
    · by_cases hok : o = k
      · subst hok
        exact (put_same m A O o q w h (Lib.hid ((h.con o q).2 hO))).mono fun e w' ⟨he, hw⟩ => ⟨_, he, ⟨A, O, hw ▸ h⟩, hw ▸ Keep.refl _ _⟩
      · exact (put_other m A O k q o w h (by omega) (by omega) (Lib.hid hO) hok).mono fun e w' ⟨he, hw⟩ => ⟨_, he, ⟨A, O, hw ▸ h⟩, hw ▸ Keep.refl _ _⟩

/-- Owners below n. -/
def upTo (n : Nat) (o : Option Nat) : Option Nat := match o with | some l => if l < n then some l else none | none => none
theorem mny_cong {A B : Nat → Option Nat} (n : Nat) (h : ∀ i, i < n → (A i).isSome = (B i).isSome) : mny A n = mny B n := by
  induction n with
  | zero => rfl
  | succ n ih =>
    unfold mny
    rw [ih (fun i hi => h i (by omega)), h n (by omega)]
/-- As many lie as are owned. -/
theorem mny_both {A O : Nat → Option Nat} {L P : Nat} (con : ∀ l p, A l = some p ↔ O p = some l) (dom : ∀ l p, A l = some p → l < L ∧ p < P) : mny A L = mny O P := by
  have key : ∀ n, mny A n = mny (fun p => upTo n (O p)) P := by
    intro n
    induction n with
    | zero =>
      have h0 : mny (fun p => upTo 0 (O p)) P = mny (fun _ => none) P := mny_cong P fun i _ => by
        unfold upTo
        split <;> simp
      have h1 : ∀ n, mny (fun _ => none) n = 0 := fun n => by
        induction n with
        | zero => rfl
        | succ n ih => simp [mny, ih]
      rw [h0, h1]
      rfl
    | succ n ih =>
      show mny A n + (if (A n).isSome = true then 1 else 0) = _
      rw [ih]
      rcases hA : A n with _ | p
      · simp only [Option.isSome_none, Bool.false_eq_true, if_false, Nat.add_zero]
        apply mny_cong
        intro i _
        rcases hO : O i with _ | l
        · rfl
        · have hl : l ≠ n := fun e => by
            have := (con l i).2 hO
            rw [e, hA] at this
            cases this
          unfold upTo
          simp only [show (l < n + 1) = (l < n) by apply propext; omega]
      · have hp := (dom n p hA).2
        have hOp := (con n p).1 hA
        have hu := mny_upd (fun q => upTo n (O q)) p (some n) P
        have e0 : upTo n (O p) = none := by rw [hOp]; simp [upTo]
        simp only [e0] at hu
        simp [hp] at hu
        simp only [Option.isSome_some, if_true]
        rw [← hu]
        apply mny_cong
        intro i _
        by_cases hi : i = p
        · subst hi
          rw [updO_same, hOp]
          simp [upTo]
        · rw [updO_ne _ _ hi]
          rcases hO : O i with _ | l
          · rfl
          · have hl : l ≠ n := fun e => by
              rw [e] at hO
              have := (con n i).2 hO
              rw [hA] at this
              exact hi (Option.some.inj this).symm
            unfold upTo
            simp only [show (l < n + 1) = (l < n) by apply propext; omega]
  rw [key L]
  apply mny_cong
  intro i _
  rcases hO : O i with _ | l
  · rfl
  · have := (dom l i ((con l i).2 hO)).1
    simp [upTo, this]
theorem cntF_mny (O : Nat → Option Nat) (n : Nat) : cntF (fun p => (O p).isSome) 0 n = mny O n := by
  induction n with
  | zero => simp [cntF_self, mny]
  | succ n ih => rw [cntF_succ _ 0 n (by omega), ih]; rfl

set_option maxRecDepth 100000 in
set_option maxHeartbeats 4000000 in
theorem ways_true (w : World) (a : Option Addr) (len cap : Nat) (X Y : Nat → Int) (ha : ArgPairs .u8 w a len X Y) (hT : TabAt 0 Lib.deBruijn64tab w) :
    Calls Tryd.prog 4 #[.slice a len cap] w fun e w' => e = .returned (.bool true) ∧ Keep (fun _ => False) w w' := by
  have hsm := ha.small
  unfold maxLen at hsm
  go_enter Tryd.func4, Tryd.ntmps4
  go_wp2_with fail
  refine (lawake_true w).mono ?_
  rintro e w0 ⟨rfl, k0⟩
  by_cases h200 : 200 < len
  · go_wp2
    go_ret
    exact ⟨rfl, k0⟩
  · go_wp2_with fail
    refine (new_map 20 40 (by decide) (by decide) w0).mono ?_
    rintro e w1 ⟨m, rfl, h1, k1, hL, hP, hn⟩
    have z0 := k0.size
    have hnew : NewLM w m := by
      obtain ⟨n1, n2, n3, n4, n5⟩ := hn
      exact ⟨by omega, by omega, by omega, by omega, by omega⟩
    have e1 := k0.trans k1 (fun i hi => .inl hi)
    have HL := Lib.hid hL
    have HP := Lib.hid hP
    clear hL hP hn
    go_wp2_with fail
    go_loopw [5] (fun i wr => ∃ j : Nat, j ≤ len ∧ i = .int .i64 j ∧ (∃ A O, IsMap m A O wr) ∧ Keep (fun _ => False) w wr) (fun i _ => len - (intOf i).toNat)
    case atStart => exact ⟨0, by omega, rfl, ⟨_, _, h1⟩, e1⟩
    case round =>
      obtain ⟨j, hj, rfl, ⟨A, O, hm⟩, hk⟩ := hrel
      by_cases hjl : j < len
      · obtain ⟨b, off, rfl, hb, hc⟩ := (ha.keep hk).at_ (by omega)
        obtain ⟨c0, c1⟩ := hc j hjl
        obtain ⟨wx, wy⟩ := ha.wf j hjl
        have bx := Go.bounds_u8 wx
        have bY := Go.bounds_u8 wy
        obtain ⟨x0, x1⟩ := bx
        obtain ⟨y0, y1⟩ := bY
        generalize X j = x at c0 x0 x1
        generalize Y j = y at c1 y0 y1
        have hjl' : (j : Int) < (len : Int) := by omega
        clear hc wx wy
        by_cases hy : 200 < y
        · go_wp2_with fail
          refine (drop_any m A O _ _ hm).mono ?_
          rintro e w2 ⟨v, rfl, ⟨A2, O2, h2⟩, k2⟩
          have kk := NewLM.trans hnew hk k2
          have hTr := tab_keep hT kk (by simp)
          have hboth := mny_both h2.con h2.dom
          have hcnt : countN m.P (fun p => (O2 p).isSome) 0 40 = mny O2 40 := by
            rw [HP.out]
            unfold countN
            simp only [Int.toNat_zero]
            exact cntF_mny O2 40
          rw [HP.out] at hboth
          have HB := Lib.hid hboth
          have HC := Lib.hid hcnt
          clear hboth hcnt
          go_wp2_with fail
          go_loop [6, 7] (fun c p => ∃ J : Nat, J ≤ 40 ∧ c = .int .i64 (mny O2 J) ∧ p = .int .i64 J) (fun _ p => 40 - (intOf p).toNat)
          case atStart => exact ⟨0, by omega, rfl, rfl⟩
          case round =>
            obtain ⟨J, hJ, rfl, rfl⟩ := hrel
            have hle := mny_le O2 J
            by_cases hJ40 : J < 40
            · have hJ' : (J : Int) < 40 := by omega
              rcases hO : O2 J with _ | o
              · have HO : Hid (O2 ((J : Nat) : Int).toNat = none) := Lib.hid hO
                have HR : Hid (mny O2 (J + 1) = mny O2 J) := Lib.hid (by show mny O2 J + (if (O2 J).isSome = true then 1 else 0) = _; rw [hO]; rfl)
                clear hO
                go_wp2_with fail
                refine (owner_no m A2 O2 J _ h2 (.inr (.inr HO))).mono ?_
                rintro e w3 ⟨rfl, rfl⟩
                go_wp2_with fail
                go_round
                case rel => exact ⟨J + 1, by omega, by rw [HR.out], by go_num⟩
                case measure => simp [intOf]; omega
              · have HO := Lib.hid hO
                have HA := Lib.hid ((h2.con o J).2 hO)
                have HR : Hid (mny O2 (J + 1) = mny O2 J + 1) := Lib.hid (by show mny O2 J + (if (O2 J).isSome = true then 1 else 0) = _; rw [hO]; rfl)
                clear hO
                go_wp2_with fail
                refine (owner_yes m A2 O2 o J _ h2 HO).mono ?_
                rintro e w3 ⟨rfl, rfl⟩
                go_wp2_with fail
                refine (get_yes m A2 O2 o J _ h2 HA).mono ?_
                rintro e w3 ⟨rfl, rfl⟩
                go_wp2_with fail
                go_round
                case rel => exact ⟨J + 1, by omega, by rw [HR.out]; go_num, by go_num⟩
                case measure => simp [intOf]; omega
            · have hJe : J = 40 := by omega
              subst hJe
              go_wp2_with fail
              refine (many_any m A2 O2 _ h2).mono ?_
              rintro e w3 ⟨rfl, rfl⟩
              rw [HB.out]
              go_wp2_with fail
              refine (lcount_any m A2 O2 0 40 _ h2 hTr).mono ?_
              rintro e w3 ⟨rfl, rfl⟩
              rw [HC.out]
              go_wp2_with fail
              go_roundw
              case rel => exact ⟨j + 1, by omega, by go_num, ⟨_, _, h2⟩, kk⟩
              case measure => simp [intOf]; omega
        · go_wp2_with fail
          go_still_tail 15, (by kernel_rfl)
          change wpList _ _ _ _ _ wr.drew
          go_wp2_with fail
          refine (put_any m A O _ _ _ hm.drew).mono ?_
          rintro e w2 ⟨v, rfl, ⟨A2, O2, h2⟩, k2⟩
          have kk := NewLM.trans hnew hk.drew k2
          have hTr := tab_keep hT kk (by simp)
          have hboth := mny_both h2.con h2.dom
          have hcnt : countN m.P (fun p => (O2 p).isSome) 0 40 = mny O2 40 := by
            rw [HP.out]
            unfold countN
            simp only [Int.toNat_zero]
            exact cntF_mny O2 40
          rw [HP.out] at hboth
          have HB := Lib.hid hboth
          have HC := Lib.hid hcnt
          clear hboth hcnt
          go_wp2_with fail
          go_loop [6, 7] (fun c p => ∃ J : Nat, J ≤ 40 ∧ c = .int .i64 (mny O2 J) ∧ p = .int .i64 J) (fun _ p => 40 - (intOf p).toNat)
          case atStart => exact ⟨0, by omega, rfl, rfl⟩
          case round =>
            obtain ⟨J, hJ, rfl, rfl⟩ := hrel
            have hle := mny_le O2 J
            by_cases hJ40 : J < 40
            · have hJ' : (J : Int) < 40 := by omega
              rcases hO : O2 J with _ | o
              · have HO : Hid (O2 ((J : Nat) : Int).toNat = none) := Lib.hid hO
                have HR : Hid (mny O2 (J + 1) = mny O2 J) := Lib.hid (by show mny O2 J + (if (O2 J).isSome = true then 1 else 0) = _; rw [hO]; rfl)
                clear hO
                go_wp2_with fail
                refine (owner_no m A2 O2 J _ h2 (.inr (.inr HO))).mono ?_
                rintro e w3 ⟨rfl, rfl⟩
                go_wp2_with fail
                go_round
                case rel => exact ⟨J + 1, by omega, by rw [HR.out], by go_num⟩
                case measure => simp [intOf]; omega
              · have HO := Lib.hid hO
                have HA := Lib.hid ((h2.con o J).2 hO)
                have HR : Hid (mny O2 (J + 1) = mny O2 J + 1) := Lib.hid (by show mny O2 J + (if (O2 J).isSome = true then 1 else 0) = _; rw [hO]; rfl)
                clear hO
                go_wp2_with fail
                refine (owner_yes m A2 O2 o J _ h2 HO).mono ?_
                rintro e w3 ⟨rfl, rfl⟩
                go_wp2_with fail
                refine (get_yes m A2 O2 o J _ h2 HA).mono ?_
                rintro e w3 ⟨rfl, rfl⟩
                go_wp2_with fail
                go_round
                case rel => exact ⟨J + 1, by omega, by rw [HR.out]; go_num, by go_num⟩
                case measure => simp [intOf]; omega
            · have hJe : J = 40 := by omega
              subst hJe
              go_wp2_with fail
              refine (many_any m A2 O2 _ h2).mono ?_
              rintro e w3 ⟨rfl, rfl⟩
              rw [HB.out]
              go_wp2_with fail
              refine (lcount_any m A2 O2 0 40 _ h2 hTr).mono ?_
              rintro e w3 ⟨rfl, rfl⟩
              rw [HC.out]
              go_wp2_with fail
              go_roundw
              case rel => exact ⟨j + 1, by omega, by go_num, ⟨_, _, h2⟩, kk⟩
              case measure => simp [intOf]; omega
      · go_wp2_with fail
        go_ret
        exact ⟨rfl, hk⟩

theorem ways_of {H : Type} {enc : TypeId × Value → H} (w : World) {base : Nat} {a : Option Addr} {len cap : Nat} {d : DataW H} {ps : List MemPlace} {sp : Nat → Bool}
    (h : DataW.Trod enc Tryd.prog w base sp true 45 (.slice a len cap) d ps) (hT : TabAt 0 Lib.deBruijn64tab w) :
    Calls Tryd.prog 4 #[.slice a len cap] w fun e w' => e = .returned (.bool true) ∧ Keep (fun _ => False) w w' := by
  obtain ⟨X, Y, ha⟩ := pairs_of Tryd.underlying45 Tryd.underlying22 Tryd.underlying5 (by kernel_rfl) (by kernel_rfl) h
  exact ways_true w a len cap X Y ha hT
end Go.Proofs.YtipfpcfepfkehaaDoor
