/- The reference's Encode. -/
import Derived.Test.YtdlmjjlejkkniaaGreatRefC
import Derived.Deep.RegionHeld3
namespace Go.Proofs.YtdlmjjlejkkniaaGreat
open Go.RowKit

theorem prodP_monic (p : Nat → Nat) : ∀ n, prodP p n n = 1
  | 0 => rfl
  | n + 1 => by
    have h := pmul_lead (prodP_pol p n) (lin_pol (p n)) (by omega) (by omega)
    rw [show n + 1 + 2 - 2 = n + 1 by omega, show n + 1 - 1 = n by omega, prodP_monic p n, show lin (p n) (2 - 1) = 1 from by unfold lin; rw [cut_in _ (by omega)]; rfl] at h
    exact h.trans (gm_one_right 1)
/-- The rest, t of a row's seventeen being taken off. -/
def redK (R : Nat → Nat) (i f t : Nat) : Nat → Nat := fun s => if i ≤ s ∧ s < i + t then R s ^^^ gm f (genP 16 (16 - (s - i))) else R s
theorem redK_next (R : Nat → Nat) (i f t s : Nat) : redK R i f (t + 1) s = if s = i + t then redK R i f t (i + t) ^^^ gm f (genP 16 (16 - t)) else redK R i f t s := by
  unfold redK
  by_cases h : s = i + t
  · subst h
    rw [if_pos ⟨by omega, by omega⟩, if_pos rfl, if_neg (by omega), Nat.add_sub_cancel_left]
  · rw [if_neg h]
    by_cases h2 : i ≤ s ∧ s < i + t
    · rw [if_pos h2, if_pos ⟨h2.1, by omega⟩]
    · rw [if_neg h2, if_neg (by omega)]
theorem redK_lt {R : Nat → Nat} {i f : Nat} (hR : ∀ s, R s < 1024) (hf : f < 1024) (t s : Nat) : redK R i f t s < 1024 := by
  unfold redK
  split
  · exact xor_lt (hR s) (gm_lt hf _)
  · exact hR s
/-- The rest when the first i data have been taken off. -/
def rI (p : Nat → Nat) (k : Nat) : Nat → Nat → Nat
  | 0 => dat p k
  | i + 1 => redK (rI p k i) i (rI p k i i) 17
section
variable {p : Nat → Nat} {k : Nat}
theorem rI_lt (hp : ∀ i, i < k → p i < 1024) : ∀ i s, rI p k i s < 1024
  | 0, s => dat_lt hp s
  | i + 1, s => redK_lt (rI_lt hp i) (rI_lt hp i i) 17 s
theorem rI_zero (hp : ∀ i, i < k → p i < 1024) : ∀ i s, s < i → rI p k i s = 0
  | i + 1, s, h => by
    show redK (rI p k i) i (rI p k i i) 17 s = 0
    unfold redK
    by_cases e : s = i
    · subst e
      rw [if_pos ⟨by omega, by omega⟩, Nat.sub_self, Nat.sub_zero, show genP 16 16 = 1 from prodP_monic genR 16, gm_one_right, Nat.xor_self]
    · rw [if_neg (by omega)]
      exact rI_zero hp i s (by omega)
theorem redK_syn {R : Nat → Nat} {n i f j : Nat} (hR : ∀ s, R s < 1024) (hf : f < 1024) (hi : i + 17 ≤ n) (hj : j < 16) : synW (redK R i f 17) n j = synW R n j := by
  have hE : rv (redK R i f 17) n = padd (rv R n) (pmul (mono (n - 17 - i) f) (genP 16)) := funext fun m => by
    show rv (redK R i f 17) n m = rv R n m ^^^ pmul (mono (n - 17 - i) f) (genP 16) m
    rw [pmul_mono]
    unfold rv redK
    by_cases hm : m < n
    · rw [if_pos hm, if_pos hm]
      by_cases h2 : n - 17 - i ≤ m
      · rw [if_pos h2]
        by_cases h3 : i ≤ n - 1 - m
        · rw [if_pos ⟨h3, by omega⟩, show 16 - (n - 1 - m - i) = m - (n - 17 - i) by omega]
        · rw [if_neg (by omega), (genP_pol 16).zero _ (by omega), gm_zero_right, Nat.xor_zero]
      · rw [if_neg h2, if_neg (by omega), Nat.xor_zero]
    · rw [if_neg hm, if_neg hm, if_pos (by omega), (genP_pol 16).zero _ (by omega), gm_zero_right]
      rfl
  rw [← synW_hor (fun i _ => redK_lt hR hf 17 i), ← synW_hor (fun i _ => hR i), hE]
  have hmono : ∀ t, mono (n - 17 - i) f t < 1024 := fun t => by
    unfold mono
    split
    · exact hf
    · omega
  rw [hor_padd (rv_lt (fun i _ => hR i)) (pmul_lt hmono), hor_pmul (genP_pol 16).lt (genP_pol 16).zero (ex_lt _) (n - 17 - i + 1) (mono (n - 17 - i) f) hmono (fun t ht => by unfold mono; rw [if_neg (by omega)]) n (by omega), gen_zero hj, gm_zero_right, Nat.xor_zero]
theorem rI_syn (hp : ∀ i, i < k → p i < 1024) {j : Nat} (hj : j < 16) : ∀ i, i ≤ k → synW (rI p k i) (k + 16) j = synW (dat p k) (k + 16) j
  | 0, _ => rfl
  | i + 1, h => by
    rw [← rI_syn hp hj i (by omega)]
    exact redK_syn (rI_lt hp i) (rI_lt hp i i) (by omega) hj
def rencV (p : Nat → Nat) (k : Nat) : Nat → Nat := fun i => if i < k then p i else rI p k k i
theorem renc_is (hp : ∀ i, i < k → p i < 1024) : IsEnc p k (rencV p k) := by
  refine ⟨fun i _ => ?_, fun j hj => ?_, fun i hi => by unfold rencV; rw [if_pos hi]⟩
  · unfold rencV
    split
    · exact hp i ‹_›
    · exact rI_lt hp k i
  · have e : rv (rencV p k) (k + 16) = wr (dat p k) (rI p k k) (k + 16) := funext fun i => by
      unfold wr rv
      split
      · unfold rencV dat
        by_cases h : k + 16 - 1 - i < k
        · rw [if_pos h, if_pos h, rI_zero hp k _ h, Nat.xor_zero]
        · rw [if_neg h, if_neg h, Nat.zero_xor]
      · rfl
    show syn (rv (rencV p k) (k + 16)) (k + 16) j = 0
    rw [e, syn_wr (fun i _ => dat_lt hp i) (fun i _ => rI_lt hp k i), rI_syn hp hj k (Nat.le_refl _), Nat.xor_self]
end
theorem Blk.argOff {w : World} {g n i : Nat} {f : Nat → Nat} (hb : Blk w g 25 (uArr f n)) (hn : n ≤ 140737488355328) (hf : ∀ t, t < n → f t < 65536) : ArgU w (some ⟨g, i, none⟩) (n - i) (fun t => f (i + t)) :=
  ⟨by omega, fun _ => ⟨g, i, rfl, hb.lt, fun t ht => hb.val (by omega)⟩, fun t ht => hf _ (by omega)⟩
theorem step_append_r {w : World} {ops : Array Oper} {o : Oper} {a : Act} {K : Act → World → Prop} {Q : Exit → Act → World → Prop} {E : Prop} (hgd : o.guard = none) (s x : Operand)
    (ho : o.op = .call { callee := .builtin .append, args := #[s, x], argTypes := #[31, 31] })
    (N : Nat) (ao : Option Addr) (n co : Nat) (f : Nat → Nat) (hs : a.eval s = .slice ao n co) (hown : OwnU w N ao n co f) (ad : Addr) (m c : Nat) (p : Nat → Nat) (hx : a.eval x = .slice (some ad) m c) (hp : ArgU w (some ad) m p)
    (hnm : n + m ≤ 1000000) (hN : N ≤ w.heap.size)
    (h : ∀ a' c' w', OwnU w' N a' (n + m) c' (fun i => if i < n then f i else p (i - n)) → w.grownBy w' (Value.slice ao n co).ownBlock → K (a.put o.dst (.slice a' (n + m) c')) w') :
    if Region.wanted o (yielded ops a.tmps) = true then Oper.wp Tryz.prog o a w K Q else E := by
  have hw : Region.wanted o (yielded ops a.tmps) = true := by simp [Region.wanted, hgd]
  rw [if_pos hw]
  exact wp_append_u s x ho N ao n co f hs hown ad m c p hx hp hnm hN h

set_option maxHeartbeats 8000000 in
set_option maxRecDepth 100000 in
theorem renc_all (a : Option Addr) (k c : Nat) (p : Nat → Nat) (w : World) (ha : ArgU w a k p) (hkc : k ≤ c) :
    Calls Tryz.prog 27 #[.slice a k c] w fun e w' => EncA w' w.heap.size p k e ∧ Keep (fun _ => False) w w' := by
  have HA := Lib.hid ha
  clear ha
  by_cases h0 : k = 0
  · subst h0
    go_enter Tryz.func27, Tryz.ntmps27
    go_wp2_with fail
    go_ret2
    exact ⟨.inl ⟨.inl rfl, rfl⟩, Keep.refl _ _⟩
  have e1 : ((k : Int) == 0) = false := by simp; omega
  have e2 : ¬ (k : Int) = 0 := by omega
  by_cases h1 : 1007 < k
  · have e3 : (1007 : Int) < (k : Int) := by omega
    go_enter Tryz.func27, Tryz.ntmps27
    go_wp2_with fail
    go_ret2
    exact ⟨.inl ⟨.inr h1, rfl⟩, Keep.refl _ _⟩
  have e3 : ¬ (1007 : Int) < (k : Int) := by omega
  go_enter Tryz.func27, Tryz.ntmps27
  go_wp2_with fail
  clear e1 e2 e3
  go_loopw [4] (fun v wr => ∃ j : Nat, j ≤ k ∧ v = .int .i64 j ∧ Hid (∀ i, i < j → p i < 1024) ∧ Keep (fun _ => False) w wr) (fun v _ => k - (intOf v).toNat)
  case atStart => exact ⟨0, by omega, rfl, Lib.hid (fun i hi => by omega), Keep.refl _ _⟩
  case round =>
    obtain ⟨j, hj, rfl, HZ, kk⟩ := hrel
    by_cases hjk : j < k
    · have hjk' : (j : Int) < (k : Int) := by omega
      obtain ⟨bA, oA, rfl, hbA, hcA⟩ := HA.out.at_ (by omega)
      have c0 := (kk.cell (p := ⟨bA, oA + j, none⟩) hbA (by simp)).trans (hcA j hjk)
      clear hcA
      by_cases hx : 1024 ≤ p j
      · have f1 : (1024 : Int) ≤ ((p j : Nat) : Int) := by omega
        have HX := Lib.hid hx
        clear hx
        go_wp2_with fail
        go_ret2
        exact ⟨.inr (.inl ⟨by omega, by omega, ⟨j, hjk, HX.out⟩, rfl⟩), kk⟩
      · have f1 : ¬ (1024 : Int) ≤ ((p j : Nat) : Int) := by omega
        have HZ2 := Lib.hid (show ∀ i, i < j + 1 → p i < 1024 from fun i hi => by
          by_cases e : i = j
          · rw [e]; omega
          · exact HZ.out i (by omega))
        clear hx
        go_wp2_with fail
        exact ⟨⟨j + 1, by omega, by go_num, HZ2, kk⟩, by simp [intOf]; omega⟩
    · obtain rfl : j = k := by omega
      have hjk' : ¬ (j : Int) < (j : Int) := by omega
      have HP := HZ
      obtain ⟨n, hn⟩ : ∃ n, n = j + 16 := ⟨_, rfl⟩
      have hnI : (j : Int) + 16 = (n : Int) := by omega
      have hmk := make_u n n rfl (by omega)
      have hnl : n ≤ 1023 := by omega
      have hjn : j < n := by omega
      have HN := Lib.hid hn
      clear hn hjk hjk' hj
      go_wp2_with fail
      refine (rgenerator_any _).mono ?_
      rintro e w1 ⟨aG, rfl, rG, k1⟩
      have kk1 := kk.comp k1
      obtain ⟨gG, rfl, _, bG⟩ : ∃ g, aG = some ⟨g, 0, none⟩ ∧ wr.heap.size ≤ g ∧ Blk w1 g 25 (uArr (genP 16) 17) := by
        rcases rG with h | h
        · omega
        · exact h
      have A1 := HA.out.keep kk1
      have b0 := Blk.new w1 25 (uArr (fun _ => 0) n)
      have k0 := (Keep.refl (fun _ => False) w1).alloc (.cells (uArr (fun _ => 0) n) 25)
      have A0 := A1.keep k0
      clear kk k1 rG HZ
      go_wp2_with (with_reducible refine wpList_copy_u rfl (.tmp 34) (.tmp 35) rfl w1.heap.size _ _ _ _ rfl rfl _ p b0 A0 (by omega) w1 k0 (Nat.le_refl _) ?_)
      intro w2 b2 k2
      clear b0 k0 A0 hmk
      have r0 : Blk w2 w1.heap.size 25 (uArr (rI p j 0) n) := b2
      have A1' := Lib.hid A1
      have HRL := Lib.hid (rI_lt HP.out)
      have HBG := Lib.hid bG
      have hGl := (genP_pol 16).lt
      clear A1 b2 bG
      go_wp2_with fail
      go_loopw [7] (fun v wr => ∃ i : Nat, i ≤ j ∧ v = .int .i64 i ∧ Blk wr w1.heap.size 25 (uArr (rI p j i) n) ∧ Keep (fun _ => False) w1 wr) (fun v _ => j - (intOf v).toNat)
      case atStart => exact ⟨0, by omega, rfl, r0, k2⟩
      case round =>
        clear r0 k2
        obtain ⟨i, hi, rfl, hR, kk⟩ := hrel
        by_cases hij : i < j
        · have hij' : (i : Int) < (j : Int) := by omega
          have c0 := hR.val (show i < n by omega)
          have hin' : (i : Int) < (n : Int) := by omega
          obtain ⟨f, hf⟩ : ∃ f, f = rI p j i i := ⟨_, rfl⟩
          have hfl : f < 1024 := by rw [hf]; exact HRL.out i i
          rw [← hf] at c0
          have HF := Lib.hid (show redK (rI p j i) i f 17 = rI p j (i + 1) by rw [hf]; rfl)
          have hin17 : i + 17 ≤ n := by have := HN.out; omega
          clear hf
          go_wp2_with fail
          clear c0
          go_loopw [9] (fun v wr => ∃ t : Nat, t ≤ 17 ∧ v = .int .i64 t ∧ Blk wr w1.heap.size 25 (uArr (redK (rI p j i) i f t) n) ∧ Keep (fun _ => False) w1 wr) (fun v _ => 17 - (intOf v).toNat)
          case atStart =>
            refine ⟨0, by omega, rfl, ?_, kk⟩
            rw [show redK (rI p j i) i f 0 = rI p j i from funext fun s => by unfold redK; rw [if_neg (by omega)]]
            exact hR
          case round =>
            clear hR kk
            obtain ⟨t, ht, rfl, hR, kk⟩ := hrel
            by_cases hf0 : f = 0
            · subst hf0
              have HE := Lib.hid (show redK (rI p j i) i 0 t = rI p j (i + 1) by
                rw [← HF.out]
                funext s
                unfold redK
                rw [gm_zero_left, Nat.xor_zero]
                simp)
              rw [HE.out] at hR
              go_wp2_with fail
              exact ⟨⟨i + 1, by omega, by go_num, hR, kk⟩, by simp [intOf]; omega⟩
            · have f1 : ¬ ((f : Nat) : Int) = 0 := by omega
              have f2 : (((f : Nat) : Int) != 0) = true := by simpa using f1
              by_cases ht16 : t ≤ 16
              · have g1 : (t : Int) ≤ 16 := by omega
                have g2 : decide ((t : Int) ≤ 16) = true := by simpa using g1
                have hitn : i + t < n := by omega
                have cR := hR.val hitn
                have zR := hR.frozen (i + t)
                have hRt := redK_lt (i := i) (HRL.out i) hfl t (i + t)
                obtain ⟨v, hv⟩ : ∃ v, v = redK (rI p j i) i f t (i + t) := ⟨_, rfl⟩
                rw [← hv] at cR hRt
                have hbG := HBG.out.keep kk (by simp)
                obtain ⟨s, hs⟩ : ∃ s, s = 16 - t := ⟨_, rfl⟩
                have cG := hbG.val (show s < 17 by omega)
                obtain ⟨g, hg⟩ : ∃ g, g = genP 16 s := ⟨_, rfl⟩
                have hgl : g < 1024 := by rw [hg]; exact hGl s
                rw [← hg] at cG
                have HN1 := Lib.hid (fun x => show redK (rI p j i) i f (t + 1) x = if x = i + t then v ^^^ gm f g else redK (rI p j i) i f t x by rw [redK_next, hv, hg, hs])
                have hgm : gm f g < 1024 := gm_lt hfl _
                have hxor := xor_u16 (a := v) (b := gm f g) (by omega) (by omega)
                have e0 : IntKind.i64.wrap ((i : Int) + (t : Int)) = (i : Int) + (t : Int) := wraps_i64 _ (by omega) (by omega)
                have e1 : (i : Int) + (t : Int) < (n : Int) := by omega
                have e2 : (0 : Int) ≤ (i : Int) + (t : Int) := by omega
                have e3 : ((i : Int) + (t : Int)).toNat = i + t := by omega
                have e4 : IntKind.i64.wrap (16 - (t : Int)) = ((s : Nat) : Int) := by rw [wraps_i64 _ (by omega) (by omega)]; omega
                have e5 : ((s : Nat) : Int) < 17 := by omega
                have hlR := hR.lt
                have hlG := hbG.lt
                have q0 : ∀ z : KeptBy wr, z.v.cell? ⟨w1.heap.size, i + t, none⟩ = some (.int .u16 (v : Nat)) := fun z => z.cell hlR cR
                have q1 : ∀ z : KeptBy wr, z.v.cell? ⟨gG, s, none⟩ = some (.int .u16 (g : Nat)) := fun z => z.cell hlG cG
                clear hv hg hs cG
                go_upto_region 18 with fail
                refine wp_region_kept_tail 19 (by kernel_rfl) (by kernel_rfl) ?_
                simp only [List.take_succ_cons, List.take_zero, List.drop_succ_cons, List.drop_zero]
                repeat (quiet_step (first
                  | (go_at_call 57; exact kept_of (rmul_kept _ _ _ hfl hgl))))
                refine wpQuiet_nil ?_
                rintro w5 ⟨⟨_, k5⟩, rfl⟩
                clear q0 q1 e0 e4
                have R5 := hR.keep k5 (by simp)
                have c5 := R5.val hitn
                have z5 := R5.frozen (i + t)
                have K5 := Lib.hid ((kk.comp k5).setCell (p := ⟨w1.heap.size, i + t, none⟩) (.inr (Nat.le_refl _)) (.int .u16 (v ^^^ gm f g : Nat)))
                have R6 := Lib.hid (R5.storeU (i + t) (v ^^^ gm f g) (f' := redK (rI p j i) i f (t + 1)) (fun x _ => HN1.out x))
                clear R5 cR zR hR
                go_wp2_with fail
                exact ⟨⟨t + 1, by omega, by go_num, R6.out, K5.out⟩, by simp [intOf]; omega⟩
              · obtain rfl : t = 17 := by omega
                have g1 : ¬ ((17 : Nat) : Int) ≤ 16 := by omega
                have g2 : decide (((17 : Nat) : Int) ≤ 16) = false := by simp
                rw [HF.out] at hR
                go_wp2_with fail
                exact ⟨⟨i + 1, by omega, by go_num, hR, kk⟩, by simp [intOf]; omega⟩
        · obtain rfl : i = j := by omega
          have hij' : ¬ (i : Int) < (i : Int) := by omega
          have HRe := Lib.hid (renc_is HP.out)
          have hwk := (kk1.comp kk)
          have kd := hwk.drew
          obtain ⟨bA, oA, rfl, hbA, hcA⟩ := HA.out.at_ (by omega)
          have AD := Lib.hid (HA.out.keep kd)
          have hN1 : w.heap.size ≤ wr.drew.heap.size := kd.size
          have hRd := hR.drew
          have hin : i ≤ n := by omega
          have hin' : (i : Int) ≤ (n : Int) := by omega
          have hne : ¬ n = i := by omega
          have hne2 : ¬ i = n := by omega
          have hr16 : ∀ t, t < n → rI p i i t < 65536 := fun t _ => by have := HRL.out i t; omega
          have HR16 := Lib.hid hr16
          have hg1 : w.heap.size ≤ w1.heap.size := kk1.size
          clear hcA hr16 hij'
          go_wp2_with fail
          go_region_held3 (fun _ => True) (exact trivial)
            (first
              | (have _z := O5; refine step_append_r rfl _ _ rfl w.heap.size _ _ _ _ rfl O5 _ _ _ _ rfl AR5 (by omega) hN5 ?_; intro a6 c6 w6 o6 g6; have k6 : Keep (fun _ => False) w w6 := k5.grown g6 (fun t ht => .inr (O5.lt t ht).1))
              | (refine step_append_r rfl _ _ rfl w.heap.size none 0 0 p rfl (World.ownsRow_nil _ _ _ 1) _ i c p rfl AD.out (by omega) hN1 ?_; intro a5 c5 w5 o5 g5; have k5 : Keep (fun _ => False) w w5 := kd.grown g5 (fun t ht => by simp [Value.ownBlock] at ht); have O5 : OwnU w5 w.heap.size a5 (0 + i) c5 p := o5.congr (fun t ht => by simp); have hN5 := k5.size; have R5 : Blk w5 w1.heap.size 25 (uArr (rI p i i) n) := (g5.block w1.heap.size hRd.lt (by simp [Value.ownBlock])).trans hRd; have AR5 := R5.argOff (i := i) (by omega) HR16.out))
          have O6 : OwnU w6 w.heap.size a6 (0 + i + (n - i)) c6 (rencV p i) := o6.congr (fun t ht => by
            unfold rencV
            by_cases h : t < i
            · rw [if_pos (by omega), if_pos h]
            · rw [if_neg (by omega), if_neg h]
              congr 1
              omega)
          have en : 0 + i + (n - i) = i + 16 := by have := HN.out; omega
          rw [en] at O6
          have HO6 := Lib.hid O6
          have HEN := Lib.hid en
          clear O6 o6 g6 k5 O5 g5 o5 R5 AR5 hRd hR en
          go_wp2_with fail
          go_ret2
          refine ⟨.inr (.inr ⟨by omega, by omega, HP.out, rencV p i, a6, c6, HRe.out, ?_, HO6.out⟩), k6⟩
          rw [← HN.out]
          rfl
end Go.Proofs.YtdlmjjlejkkniaaGreat
