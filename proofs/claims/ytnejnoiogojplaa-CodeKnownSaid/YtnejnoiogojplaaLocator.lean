/- code.locator. -/
import Derived.Test.YtnejnoiogojplaaGap
import Derived.Test.YtnejnoiogojplaaLaid
import Derived.Test.YtnejnoiogojplaaDiv
import Derived.WalkMore
import Derived.ScopeJumps
namespace Go.Proofs.Ytnejnoiogojplaa
open Go.RowKit

/-- What the loop of Berlekamp and Massey holds in memory. -/
structure LocSt (w : World) (a1 a2 : Option Addr) (n1 n2 c1 c2 : Nat) (S : Nat → Nat) (n : Nat) (loc old : Nat → Nat) (long by_ last : Nat) (aL aO : Option Addr) (mL mO : Nat) (W : World) : Prop where
  bm : Hid (BM S n loc old long by_ last)
  pl : Hid (IsPol loc mL)
  po : Hid (IsPol old mO)
  hn : n ≤ 16
  hL : mL ≤ 17
  hO : mO ≤ 17
  hb : by_ ≤ 17
  rl : Hid (ArgU W aL mL loc)
  ro : Hid (ArgU W aO mO old)
  t : Blk W w.heap.size 27 #[.slice a1 n1 c1, .slice a2 n2 c2]
  kp : Keep (fun _ => False) w W
theorem BM.by_le {S loc old : Nat → Nat} {n long by_ last : Nat} (h : BM S n loc old long by_ last) : by_ ≤ n + 1 := by
  rcases h.was with ⟨_, _, h, _⟩ | ⟨_, _, _, h, _⟩ <;> omega
theorem Gen.len {f S : Nat → Nat} {L n m : Nat} (h : Gen f L S n) (hm : IsPol f m) : m ≤ L + 1 := by
  rcases Nat.lt_or_ge (L + 1) m with hlt | hge
  · exact absurd (h.zero (m - 1) (by omega)) (hm.lead (by omega))
  · exact hge
theorem BM.begin (S : Nat → Nat) : BM S 0 (lst [1]) (lst [1]) 0 1 1 := BM.start p1.lt rfl (fun i hi => p1.zero i hi)
theorem BM.disc_pacc {S loc old : Nat → Nat} {n long by_ last m : Nat} (h : BM S n loc old long by_ last) (hm : IsPol loc m) : pacc loc S m n = disc loc S long n := by
  rw [pacc_full hm.zero, disc_pmul h.gen.zero h.le]

set_option maxHeartbeats 8000000 in
set_option maxRecDepth 100000 in
theorem locator_any (V : Value) (s : Option Addr) (cs : Nat) (S : Nat → Nat) (w : World) (hT : HasT w V) (hs : ArgU w s 16 S) (hS : ∀ i, S i < 1024) :
    Calls Try.prog 37 #[V, .slice s 16 cs] w fun e w' => ∃ (a' : Option Addr) (m long : Nat) (loc : Nat → Nat), e = .returned (.tuple #[.slice a' m m, .int .i64 long]) ∧ ArgU w' a' m loc ∧ IsPol loc m ∧ m ≤ 17 ∧
      (∃ old by_ last, BM S 16 loc old long by_ last) ∧ Keep (fun _ => False) w w' := by
  obtain ⟨a1, n1, c1, a2, n2, c2, rfl⟩ := hT.form
  obtain ⟨W, hW⟩ : ∃ W, W = w.alloc (.cells #[.slice a1 n1 c1, .slice a2 n2 c2] 27) := ⟨_, rfl⟩
  have hws : W.heap.size = w.heap.size + 1 := by rw [hW]; simp
  have kw : Keep (fun _ => False) w W := by rw [hW]; exact (Keep.refl _ w).alloc _
  have b0 : Blk W w.heap.size 27 #[.slice a1 n1 c1, .slice a2 n2 c2] := by rw [hW]; exact Blk.new w _ _
  have HT := Lib.hid hT
  have HS := Lib.hid hs
  have HS1 := Lib.hid hS
  clear hT hs hS
  go_enter Try.func37, Try.ntmps37
  go_wp2_with fail
  rw [← hW]
  clear hW
  refine wp_scope_jumps2 0 (fun a' W' => ∃ (n : Nat) (loc old : Nat → Nat) (long by_ last : Nat) (aL aO : Option Addr) (mL mO : Nat), a' = { tmps := #[.agg #[.slice a1 n1 c1, .slice a2 n2 c2], .slice s 16 cs, .pointer (some ⟨w.heap.size, 0, none⟩), a'.tmps.getD 3 undef, .slice none 0 0, .int .i64 0, .slice aL mL mL, .slice aO mO mO, .int .i64 long, .int .i64 by_, .int .u16 last, .int .i64 n, a'.tmps.getD 12 undef, a'.tmps.getD 13 undef, a'.tmps.getD 14 undef, a'.tmps.getD 15 undef, a'.tmps.getD 16 undef, a'.tmps.getD 17 undef, a'.tmps.getD 18 undef, a'.tmps.getD 19 undef, a'.tmps.getD 20 undef, a'.tmps.getD 21 undef, a'.tmps.getD 22 undef, a'.tmps.getD 23 undef, a'.tmps.getD 24 undef, a'.tmps.getD 25 undef, a'.tmps.getD 26 undef, a'.tmps.getD 27 undef, a'.tmps.getD 28 undef, a'.tmps.getD 29 undef, a'.tmps.getD 30 undef, a'.tmps.getD 31 undef, a'.tmps.getD 32 undef, a'.tmps.getD 33 undef, a'.tmps.getD 34 undef, a'.tmps.getD 35 undef, a'.tmps.getD 36 undef, a'.tmps.getD 37 undef, a'.tmps.getD 38 undef, a'.tmps.getD 39 undef, a'.tmps.getD 40 undef, a'.tmps.getD 41 undef, a'.tmps.getD 42 undef, a'.tmps.getD 43 undef, a'.tmps.getD 44 undef, a'.tmps.getD 45 undef, a'.tmps.getD 46 undef, a'.tmps.getD 47 undef, a'.tmps.getD 48 undef, a'.tmps.getD 49 undef, a'.tmps.getD 50 undef, a'.tmps.getD 51 undef, a'.tmps.getD 52 undef, a'.tmps.getD 53 undef, a'.tmps.getD 54 undef, a'.tmps.getD 55 undef, a'.tmps.getD 56 undef, a'.tmps.getD 57 undef, a'.tmps.getD 58 undef, a'.tmps.getD 59 undef, a'.tmps.getD 60 undef, a'.tmps.getD 61 undef, a'.tmps.getD 62 undef], defers := [] } ∧ LocSt w a1 a2 n1 n2 c1 c2 S n loc old long by_ last aL aO mL mO W') (fun a' _ => 16 - (intOf (a'.tmps.getD 11 undef)).toNat) rfl ?pass ?first
  case first =>
    intro hrest
    have HRest := Lib.hid hrest
    clear hrest
    have A := Laid.pol W #[.int .u16 1] _ _ p1 (by omega) (uArr_one 1)
    have B := Laid.pol (W.alloc (.cells #[.int .u16 1] 23)) #[.int .u16 1] _ _ p1 (by omega) (uArr_one 1)
    have HD := Lib.hid (show LocSt w a1 a2 n1 n2 c1 c2 S 0 (lst [1]) (lst [1]) 0 1 1 (some ⟨w.heap.size + 1, 0, none⟩) (some ⟨w.heap.size + 1 + 1, 0, none⟩) 1 1 ((W.alloc (.cells #[.int .u16 1] 23)).alloc (.cells #[.int .u16 1] 23)) from {
      bm := Lib.hid (BM.begin S)
      pl := Lib.hid p1
      po := Lib.hid p1
      hn := by omega
      hL := by omega
      hO := by omega
      hb := by omega
      rl := Lib.hid ((A.a _ hws.symm).keep B.k)
      ro := Lib.hid (B.a _ (by simp [hws]))
      t := (b0.alloc _).alloc _
      kp := (kw.comp A.k).comp B.k })
    clear A B b0
    go_wp2_with fail
    go_step3
    rename_i hK
    exact hK _ _ (HRest.out _ _ ⟨0, _, _, 0, 1, 1, _, _, 1, 1, rfl, HD.out⟩)
  case pass =>
    rintro a' W' ⟨n, loc, old, long, by_, last, aL, aO, mL, mO, ha, hs⟩
    obtain ⟨T, hTT⟩ : ∃ T : Nat → Value, ∀ i, a'.tmps.getD i undef = T i := ⟨_, fun _ => rfl⟩
    simp only [hTT] at ha
    clear hTT
    subst ha
    obtain ⟨HBM, HPL, HPO, hn, hL, hO, hb, RL, RO, b1, kp⟩ := hs
    clear b0 kw
    by_cases hn16 : n = 16
    · subst hn16
      go_wp2_with fail
      simp only [Exit.jump]
      go_ret2
      exact ⟨aL, mL, long, loc, rfl, RL.out, HPL.out, hL, ⟨old, by_, last, HBM.out⟩, kp⟩
    · have e0 : ¬ (n : Int) = 16 := by omega
      have e1 : ((n : Int) == 16) = false := by simpa using e0
      have c0 : W'.cell? ⟨w.heap.size, 0, none⟩ = some (.slice a1 n1 c1) := by rw [b1.cell]; rfl
      have c1' : W'.cell? ⟨w.heap.size, 1, none⟩ = some (.slice a2 n2 c2) := by rw [b1.cell]; rfl
      have TW := Lib.hid (HT.out.keep kp)
      have HSW := Lib.hid (HS.out.keep kp)
      have hlast := HBM.out.llt
      have hl0 := HBM.out.l0
      have hdl := disc_lt HBM.out.gen.lt (S := S) long n
      have HE := Lib.hid (HBM.out.disc_pacc HPL.out)
      have hlong := HBM.out.le
      have hby := HBM.out.by_le
      obtain ⟨d, hd⟩ : ∃ d, d = disc loc S long n := ⟨_, rfl⟩
      rw [← hd] at hdl HE
      have HD := Lib.hid hd
      clear hd
      go_wp2_with fail
      refine (gap_any _ _ _ mL _ _ n loc S _ TW.out RL.out HSW.out (by omega) (by omega) HPL.out.lt HS1.out).mono ?_
      rintro e W1 ⟨rfl, k1⟩
      rw [HE.out]
      have b2 := b1.keep k1 (by simp)
      have c2' : W1.cell? ⟨w.heap.size, 0, none⟩ = some (.slice a1 n1 c1) := by rw [b2.cell]; rfl
      have c3' : W1.cell? ⟨w.heap.size, 1, none⟩ = some (.slice a2 n2 c2) := by rw [b2.cell]; rfl
      have TW1 := Lib.hid (TW.out.keep k1)
      clear c0 c1'
      go_wp2_with fail
      refine (tinv_lt _ _ _ TW1.out hlast hl0).mono ?_
      rintro e W2 ⟨rfl, k2⟩
      have k12 := k1.comp k2
      have b3 := b2.keep k2 (by simp)
      have TW2 := Lib.hid (TW1.out.keep k2)
      have RL2 := Lib.hid (RL.out.keep k12)
      have RO2 := Lib.hid (RO.out.keep k12)
      have kp2 := kp.comp k12
      clear c2' c3' b1 b2 k1 k2 k12 kp TW TW1 HSW RL RO
      generalize hi : gi last = iv
      have hiv : iv < 1024 := by rw [← hi]; exact gi_lt _
      have HI := Lib.hid hi
      clear hi
      have kd := (Keep.refl (fun _ => False) W2).drew
      have b4 := b3.keep kd (by simp)
      have d0 : W2.drew.cell? ⟨w.heap.size, 0, none⟩ = some (.slice a1 n1 c1) := by rw [b4.cell]; rfl
      have d1 : W2.drew.cell? ⟨w.heap.size, 1, none⟩ = some (.slice a2 n2 c2) := by rw [b4.cell]; rfl
      have TD := Lib.hid (TW2.out.keep kd)
      have RLD := Lib.hid (RL2.out.keep kd)
      have ROD := Lib.hid (RO2.out.keep kd)
      have kpd := kp2.comp kd
      have hx : gm d iv < 1024 := gm_lt hdl _
      have HPLl := HPL.out.lt
      clear b3 TW2 RL2 RO2 kp2 kd
      go_upto_region 8 with fail
      go_region_held3 (fun w' => w'.cell? ⟨w.heap.size, 0, none⟩ = some (.slice a1 n1 c1) ∧ w'.cell? ⟨w.heap.size, 1, none⟩ = some (.slice a2 n2 c2))
        (first | exact ⟨d0, d1⟩ | exact ⟨f0, f1⟩ | exact ⟨g0, g1⟩ | exact ⟨h0, h1⟩)
        (first
          | (go_at_call 23; refine (tmul_lt _ _ _ _ TD.out hdl hiv).mono ?_; rintro e W3 ⟨rfl, k3⟩; have b5 := b4.keep k3 (by simp); have f0 : W3.cell? ⟨w.heap.size, 0, none⟩ = some (.slice a1 n1 c1) := by { rw [b5.cell]; rfl }; have f1 : W3.cell? ⟨w.heap.size, 1, none⟩ = some (.slice a2 n2 c2) := by { rw [b5.cell]; rfl })
          | (go_at_call 57; refine (shifted_any _ _ mO _ by_ _ old _ (TD.out.keep k3) (ROD.out.keep k3) (by omega) (by omega) HPO.out.lt hx).mono ?_; rintro e W4 ⟨aS, cS, rfl, oS, k4⟩; have b6 := b5.keep k4 (by simp); have g0 : W4.cell? ⟨w.heap.size, 0, none⟩ = some (.slice a1 n1 c1) := by { rw [b6.cell]; rfl }; have g1 : W4.cell? ⟨w.heap.size, 1, none⟩ = some (.slice a2 n2 c2) := by { rw [b6.cell]; rfl }; have AS := Lib.hid (oS.arg (by omega) (fun i _ => by have := shx_lt (f := old) (b := by_) hx i; omega)))
          | (go_at_call 56; refine (add_any _ _ mL (by_ + mO) _ _ loc (shx by_ (gm d iv) old) _ ((RLD.out.keep k3).keep k4) AS.out (by omega) (by omega)).mono ?_; rintro e W5 ⟨aN, mN, rfl, rN, pN, lN, k5⟩; have b7 := b6.keep k5 (by simp); have h0 : W5.cell? ⟨w.heap.size, 0, none⟩ = some (.slice a1 n1 c1) := by { rw [b7.cell]; rfl }; have h1 : W5.cell? ⟨w.heap.size, 1, none⟩ = some (.slice a2 n2 c2) := by { rw [b7.cell]; rfl }))
      have eN : padd (cut loc mL) (cut (shx by_ (gm d iv) old) (by_ + mO)) = bmNext S n loc old long by_ last := by
        rw [HPL.out.cut (Nat.le_refl _), cut_of_lt (shx_lt hx) (fun i hi => by
          unfold shx
          rw [if_neg (by omega), HPO.out.zero _ (by omega), gm_zero_right])]
        unfold bmNext
        rw [← HD.out, HI.out]
      rw [eN] at rN pN
      have RN := Lib.hid (rN.arg (by omega) pN.lt16)
      have k35 := (k3.comp k4).comp k5
      have RL5 := Lib.hid (RLD.out.keep k35)
      have RO5 := Lib.hid (ROD.out.keep k35)
      have kp5 := kpd.comp k35
      have PN := Lib.hid pN
      have EN := Lib.hid eN
      clear d0 d1 f0 f1 g0 g1 h0 h1 rN pN eN k35 k3 k4 k5 kpd RLD ROD AS oS b4 b5 b6 lN TD
      by_cases hd0 : d = 0
      · have hsame := HBM.out.same (by rw [← HD.out]; exact hd0)
        have e3 : ((d : Nat) : Int) = 0 := by omega
        have HD2 := Lib.hid (show LocSt w a1 a2 n1 n2 c1 c2 S (n + 1) loc old long (by_ + 1) last aN aO mN mO W5 from {
          bm := Lib.hid hsame.2
          pl := Lib.hid (hsame.1 ▸ PN.out)
          po := HPO
          hn := by omega
          hL := by have h1 := hsame.2.gen.len (hsame.1 ▸ PN.out); omega
          hO := hO
          hb := by omega
          rl := Lib.hid (hsame.1 ▸ RN.out)
          ro := RO5
          t := b7
          kp := kp5 })
        subst hd0
        clear e3
        go_wp2_with fail
        go_step3
        refine ⟨rfl, ⟨n + 1, _, _, long, by_ + 1, last, _, _, mN, mO, rfl, HD2.out⟩, ?_⟩
        simp [intOf]
        omega
      · have e3 : ¬ ((d : Nat) : Int) = 0 := by omega
        have e4 : (((d : Nat) : Int) != 0) = true := by simpa using e3
        by_cases hl : 2 * long < n + 1
        · have e5 : 2 * (long : Int) < (n : Int) + 1 := by omega
          have e7 : (n : Int) + 1 - (long : Int) = ((n + 1 - long : Nat) : Int) := by omega
          have hturn := HBM.out.turn HS1.out hl (by rw [← HD.out]; exact hd0)
          rw [← HD.out] at hturn
          have HD2 := Lib.hid (show LocSt w a1 a2 n1 n2 c1 c2 S (n + 1) (bmNext S n loc old long by_ last) loc (n + 1 - long) 1 d aN aL mN mL W5 from {
            bm := Lib.hid hturn
            pl := PN
            po := HPL
            hn := by omega
            hL := by have h1 := hturn.gen.len PN.out; omega
            hO := hL
            hb := by omega
            rl := RN
            ro := RL5
            t := b7
            kp := kp5 })
          clear hturn
          go_wp2_with fail
          go_step3
          refine ⟨rfl, ⟨n + 1, _, _, n + 1 - long, 1, d, _, _, mN, mL, rfl, HD2.out⟩, ?_⟩
          simp [intOf]
          omega
        · have e5 : ¬ 2 * (long : Int) < (n : Int) + 1 := by omega
          have hstay := HBM.out.stay HS1.out (by omega)
          have HD2 := Lib.hid (show LocSt w a1 a2 n1 n2 c1 c2 S (n + 1) (bmNext S n loc old long by_ last) old long (by_ + 1) last aN aO mN mO W5 from {
            bm := Lib.hid hstay
            pl := PN
            po := HPO
            hn := by omega
            hL := by have h1 := hstay.gen.len PN.out; omega
            hO := hO
            hb := by omega
            rl := RN
            ro := RO5
            t := b7
            kp := kp5 })
          clear hstay
          go_wp2_with fail
          go_step3
          refine ⟨rfl, ⟨n + 1, _, _, long, by_ + 1, last, _, _, mN, mO, rfl, HD2.out⟩, ?_⟩
          simp [intOf]
          omega
end Go.Proofs.Ytnejnoiogojplaa
