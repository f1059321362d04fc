/- The walk of blackboardlaw14.ValidWalks: it answers true, and leaves alone what was there. -/
import Derived.Test.YtkkjfooijegpoaaDoorVlawKnown
import Derived.Test.YtkkjfooijegpoaaDoorArgs
namespace Go.Proofs.YtkkjfooijegpoaaDoor
open Go.RowKit

theorem cnt_set_aux (f : Nat → Bool) (j : Nat) (h : f j = false) (b : Nat) : cntF (fun k => if k = j then true else f k) 0 b = cntF f 0 b + if j < b then 1 else 0 := by
  induction b with
  | zero => simp [cntF_self]
  | succ b ih =>
    rw [cntF_succ _ 0 b (by omega), cntF_succ f 0 b (by omega), ih]
    by_cases hb : b = j
    · subst hb; simp [h]
    · by_cases hlt : j < b
      · simp [hb, hlt, show j < b + 1 by omega]; omega
      · simp [hb, hlt, show ¬ j < b + 1 by omega]
theorem cnt_set (f : Nat → Bool) (n j : Nat) (hj : j < n) (h : f j = false) : cntF (setF n f j true) 0 n = cntF f 0 n + 1 := by
  have e : setF n f j true = fun k => if k = j then true else f k := by
    funext k
    simp [setF, hj]
  rw [e, cnt_set_aux f j h n]
  simp [hj]
theorem countN_all (n : Nat) (f : Nat → Bool) : countN n f 0 n = cntF f 0 n := by simp [countN]
theorem cntF_mono (f : Nat → Bool) (a b c : Nat) (h : a ≤ b) (h2 : b ≤ c) : cntF f a b ≤ cntF f a c := by
  obtain ⟨d, rfl⟩ : ∃ d, c = b + d := ⟨c - b, by omega⟩
  clear h2
  induction d with
  | zero => simp
  | succ d ih => rw [← Nat.add_assoc, cntF_succ f a _ (by omega)]; omega

theorem set_yes (pb sb n : Nat) (f : Nat → Bool) (i : Int) (on : Bool) (w : World) (h : IsBits w pb sb n f) (hf : Hid (setB n f i on = true)) :
    Calls Tryd.prog 9 #[.pointer (some ⟨pb, 0, none⟩), .int .i64 i, .bool on] w fun e w' => e = .returned (.bool true) ∧ IsBits w' pb sb n (setF n f i on) ∧ Keep (· = sb) w w' := by
  have := set_any pb sb n f i on w h
  rw [hf.out] at this
  exact this
theorem set_no (pb sb n : Nat) (f : Nat → Bool) (i : Int) (on : Bool) (w : World) (h : IsBits w pb sb n f) (hf : Hid (setB n f i on = false)) :
    Calls Tryd.prog 9 #[.pointer (some ⟨pb, 0, none⟩), .int .i64 i, .bool on] w fun e w' => e = .returned (.bool false) ∧ w = w' := set_not pb sb n f i on w h hf.out
theorem cnt_yes (f : Nat → Bool) (n : Nat) (i : Int) (h : setB n f i true = true) : cntF (setF n f i true) 0 n = cntF f 0 n + 1 := by
  simp only [setB, Bool.and_eq_true, decide_eq_true_eq] at h
  obtain ⟨j, rfl⟩ := Int.eq_ofNat_of_zero_le h.1.1
  exact cnt_set f n j (by omega) (by simpa using h.2)
theorem u16_bounds {z : Int} (h : (Lit.int .u16 z).wf = true) : 0 ≤ z ∧ z < 65536 := by
  have := Go.bounds_u16 h
  omega

theorem walks_true (w : World) (a : Option Addr) (len cap : Nat) (zs : Nat → Int) (n : Nat) (hn : n < 65536) (ha : ArgInts .u16 w a len zs) (hT : TabAt 0 Lib.deBruijn64tab w) :
    Calls Tryd.prog 4 #[.slice a len cap, .int .u16 n] w fun e w' => e = .returned (.bool true) ∧ Keep (fun _ => False) w w' := by
  have hlt := tab_lt hT
  have hsm := ha.small
  unfold maxLen at hsm
  go_enter Tryd.func4, Tryd.ntmps4
  go_wp2_with fail
  refine (awake_true w hT).mono ?_
  rintro e w0 ⟨rfl, k0⟩
  have hT0 := tab_keep hT k0 (by simp)
  have ha0 := ha.keep k0
  have z0 := k0.size
  by_cases h300 : 300 < len
  · go_wp2
    go_ret
    exact ⟨rfl, k0⟩
  · obtain ⟨K, hK⟩ : ∃ K, K = 1 + n % 1000 := ⟨_, rfl⟩
    have hK1 : (1 : Int) + (n : Int) % 1000 = (K : Int) := by omega
    have hK2 : K ≤ 1000 := by omega
    have hK3 : 1 ≤ K := by omega
    clear hK
    go_wp2_with fail
    refine (new_any K K w0 (.inr (.inl ⟨rfl, by omega⟩))).mono ?_
    rintro e w1 ⟨rfl, b1, k1⟩
    have hT1 := tab_keep hT0 k1 (by simp)
    have z1 := b1.hp.lt
    go_wp2_with fail
    have kk : Keep (fun _ => False) w w1 := k0.trans k1 (fun i hi => .inl hi)
    go_loopw [7, 8] (fun m i wr => ∃ (j : Nat) (f : Nat → Bool), j ≤ len ∧ i = .int .i64 j ∧ m = .int .i64 (cntF f 0 K) ∧ IsBits wr (w0.heap.size + 1) w0.heap.size K f ∧ Keep (fun _ => False) w wr) (fun _ i _ => len - (intOf i).toNat)
    case atStart => exact ⟨0, fun _ => false, Nat.zero_le _, rfl, by rw [cntF_gap _ 0 0 K (by omega) (by omega) (fun _ _ _ => rfl), cntF_self _ 0 0 (by omega)]; rfl, b1, kk⟩
    case round =>
      obtain ⟨j, f, hj, rfl, rfl, br, kr⟩ := hrel
      have hcl := cntF_le f 0 K
      have hTr := tab_keep hT kr (by simp)
      by_cases hjl : j < len
      · obtain ⟨b, off, rfl, hb, hc⟩ := (ha.keep kr).at_ (by omega)
        have hcell := hc j hjl
        have hz := u16_bounds (ha.wf j hjl)
        obtain ⟨hz0, hz1⟩ := hz
        clear hc
        rcases hs : setB K f (zs j % (K : Int)) true with _ | _
        · have HS := Lib.hid hs
          clear hs
          go_wp2_with (go_at_call 9; refine (set_no _ _ _ _ _ _ _ br HS).mono ?_; rintro e w' ⟨rfl, rfl⟩)
          go_roundw
          case rel => exact ⟨j + 1, f, by omega, by go_num, rfl, br, kr⟩
          case measure => simp [intOf]; omega
        · have HS := Lib.hid hs
          have HC := Lib.hid (cnt_yes f K _ hs)
          clear hs
          go_wp2_with (go_at_call 9; refine (set_yes _ _ _ _ _ _ _ br HS).mono ?_; rintro e w' ⟨rfl, br2, kr2⟩)
          go_roundw
          case rel => exact ⟨j + 1, _, by omega, by go_num, by rw [HC.out]; go_num, br2, kr.trans kr2 (fun i hi => .inr (by omega))⟩
          case measure => simp [intOf]; omega
      · have HC := Lib.hid (countN_all K f)
        have hje : j = len := by omega
        clear hjl
        go_wp2_with (go_at_call 11; refine (count_any _ _ _ _ _ _ _ br hTr).mono ?_; rintro e w' ⟨rfl, rfl⟩; rw [HC.out])
        go_loop [9, 10, 11, 12] (fun at_ told x ok => ∃ c : Nat, c ≤ K ∧ at_ = .int .i64 c ∧ told = .int .i64 (cntF f 0 c)) (fun at_ _ _ _ => K - (intOf at_).toNat)
        case atStart => exact ⟨0, by omega, rfl, by rw [cntF_self _ 0 0 (by omega)]; rfl⟩
        case round =>
          obtain ⟨c, hc, rfl, rfl⟩ := hrel
          rcases hx : nextO K f c with _ | k
          · have HX : Hid (nextO K f ((c : Nat) : Int).toNat = none) := Lib.hid hx
            have HE := Lib.hid (cntF_gap f 0 c K (by omega) hc (fun k h1 h2 => nextO_iff_none hx k h1 h2))
            have HS1 : Hid (setB K f K true = false) := Lib.hid (by simp [setB])
            have hh : hasB K f (-1) = false := by simp [hasB]
            have heq : (cntF f 0 K : Int) = (cntF f 0 c : Int) := by rw [HE.out]
            clear hx
            go_wp2_with (first | (go_at_call 12; refine (next_no _ _ _ _ _ _ br hTr HX).mono ?_; rintro e w' ⟨rfl, rfl⟩) | (go_at_call 9; refine (set_no _ _ _ _ _ _ _ br HS1).mono ?_; rintro e w' ⟨rfl, rfl⟩) | (go_at_call 10; refine (has_any _ _ _ _ _ _ br).mono ?_; rintro e w' ⟨rfl, rfl⟩))
            go_ret
            exact ⟨rfl, kr⟩
          · have HX : Hid (nextO K f ((c : Nat) : Int).toNat = some k) := Lib.hid hx
            obtain ⟨h1, h2, h3, h4⟩ := nextO_iff hx
            have hh : hasB K f k = true := by simp [hasB, h2, h3]
            have hco : countN K f c k = 0 := by
              unfold countN
              simp only [Int.toNat_natCast]
              rw [cntF_gap f c c _ (by omega) (by omega) (fun j h5 h6 => h4 j h5 (by omega)), cntF_self f c c (by omega)]
            have hle := cntF_mono f 0 c K (by omega) hc
            have HN : Hid (cntF f 0 (k + 1) = cntF f 0 c + 1) := Lib.hid (by rw [cntF_succ f 0 k (by omega), cntF_gap f 0 c k (by omega) h1 h4, h3]; simp)
            clear hx h3 h4
            go_wp2_with (first | (go_at_call 12; refine (next_yes _ _ _ _ _ _ _ br hTr HX).mono ?_; rintro e w' ⟨rfl, rfl⟩) | (go_at_call 11; refine (count_any _ _ _ _ _ _ _ br hTr).mono ?_; rintro e w' ⟨rfl, rfl⟩) | (go_at_call 10; refine (has_any _ _ _ _ _ _ br).mono ?_; rintro e w' ⟨rfl, rfl⟩))
            go_round
            case rel => exact ⟨k + 1, by omega, by go_num, by rw [HN.out]; go_num⟩
            case measure => simp [intOf]; omega

theorem walks_of (w : World) (a : Option Addr) (len cap : Nat) (zs : Nat → Int) (n : Int) (hn : (Lit.int .u16 n).wf = true) (ha : ArgInts .u16 w a len zs) (hT : TabAt 0 Lib.deBruijn64tab w) :
    Calls Tryd.prog 4 #[.slice a len cap, .int .u16 n] w fun e w' => e = .returned (.bool true) ∧ Keep (fun _ => False) w w' := by
  obtain ⟨h0, h1⟩ := u16_bounds hn
  obtain ⟨m, rfl⟩ := Int.eq_ofNat_of_zero_le h0
  exact walks_true w a len cap zs m (by omega) ha hT
end Go.Proofs.YtkkjfooijegpoaaDoor
