/- poly.At. -/
import Derived.Test.YtdlmjjlejkkniaaGreatBack
import Derived.Test.YtdlmjjlejkkniaaGreatPolW
namespace Go.Proofs.YtdlmjjlejkkniaaGreat
open Go.RowKit Go.Shelf
attribute [local go_sem] Oper.semAt_some

/-- What the sum is when these have come. -/
def backSum (x : Nat) (pre : List I16) : Nat := pre.foldl (fun s y => (gm (s % 1024) (x % 1024) ^^^ y.1.2) % 1024) 0
theorem backSum_snoc (x : Nat) (pre : List I16) (y : I16) : backSum x (pre ++ [y]) = (gm (backSum x pre % 1024) (x % 1024) ^^^ y.1.2) % 1024 := by simp [backSum]
theorem backSum_lt (x : Nat) (pre : List I16) : backSum x pre < 1024 := by
  rcases List.eq_nil_or_concat pre with h | ⟨l, y, h⟩
  · subst h; simp [backSum]
  · rw [h, List.concat_eq_append, backSum_snoc]; omega
theorem backSum_hor (x n : Nat) (p : Nat → Nat) (hp : ∀ i, i < n → p i < 65536) (k : Nat) (hk : k ≤ n) : backSum x (uptoA (backAt n p) k) = hor (cut p n) (x % 1024) (n - k) k := by
  induction k with
  | zero => rfl
  | succ k ih =>
    have h1 := backSum_lt x (uptoA (backAt n p) k)
    rw [uptoA_succ, backSum_snoc, Nat.mod_eq_of_lt h1, ih (by omega), xor_mod, Nat.mod_eq_of_lt (gm_lt (hor_lt (cut_lt p n) _ _) _), hor]
    have e1 : n - (k + 1) + 1 = n - k := by omega
    have e2 : (backAt n p k).1.2 = p (n - (k + 1)) % 65536 := by
      show p (n - 1 - k) % 65536 = _
      rw [show n - 1 - k = n - (k + 1) by omega]
    have h2 := hp (n - (k + 1)) (by omega)
    rw [e1, e2, Nat.mod_eq_of_lt h2, cut_in p (show n - (k + 1) < n by omega)]

set_option maxRecDepth 100000 in
set_option maxHeartbeats 4000000 in
theorem at_in (F : Fence) (hF : F = Fence.wide) (V : Value) (a : Option Addr) (n c x : Nat) (p : Nat → Nat) (w : World) (hT : HasT w V) (ha : ArgU w a n p) :
    CallsIn F 4 Tryz.prog 114 #[V, .slice a n c, .int .u16 x] w fun e w' => e = .returned (.int .u16 (hor (cut p n) (x % 1024) 0 n : Nat)) ∧ Below w.heap.size w w' := by
  subst hF
  have hro : Fence.wide.round = none := rfl
  obtain ⟨a1, n1, c1, a2, n2, c2, rfl⟩ := hT.form
  have HT := Lib.hid hT
  have HA := Lib.hid ha
  clear hT ha
  refine callsIn_of_wp_marks Tryz.func114 rfl trivial ?_ hro
  simp only [Tryz.ntmps114, List.size_toArray, List.length_cons, List.length_nil, Nat.reduceAdd, Nat.reduceSub, Array.replicate_succ, Array.replicate_zero, List.push_toArray, List.append_toArray, List.nil_append, List.cons_append]
  gi_wp2_with (refine ⟨trivial, ?_⟩; gi_at_call 129; refine (back_in Fence.wide 3 trivial hro _ _ _ _).mono ?_; rintro e w' ⟨rfl, rfl⟩)
  have bT := (((Blk.here w 49 #[.slice a1 n1 c1, .slice a2 n2 c2] w.heap.size rfl).alloc (.cells #[.int .u16 x] 25)).alloc (.cells #[.int .u16 0] 25)).alloc (.cells #[.slice a n c] 31)
  have bX := ((Blk.here (w.alloc (.cells #[.slice a1 n1 c1, .slice a2 n2 c2] 49)) 25 #[.int .u16 x] (w.heap.size + 1) (by simp)).alloc (.cells #[.int .u16 0] 25)).alloc (.cells #[.slice a n c] 31)
  have bS := (Blk.here ((w.alloc (.cells #[.slice a1 n1 c1, .slice a2 n2 c2] 49)).alloc (.cells #[.int .u16 x] 25)) 25 #[.int .u16 0] (w.heap.size + 1 + 1) (by simp)).alloc (.cells #[.slice a n c] 31)
  have bN := Blk.here (((w.alloc (.cells #[.slice a1 n1 c1, .slice a2 n2 c2] 49)).alloc (.cells #[.int .u16 x] 25)).alloc (.cells #[.int .u16 0] 25)) 31 #[.slice a n c] (w.heap.size + 1 + 1 + 1) (by simp)
  have k0 := ((((Keep.refl (fun _ => False) w).alloc (.cells #[.slice a1 n1 c1, .slice a2 n2 c2] 49)).alloc (.cells #[.int .u16 x] 25)).alloc (.cells #[.int .u16 0] 25)).alloc (.cells #[.slice a n c] 31)
  have hsz : ((((w.alloc (.cells #[.slice a1 n1 c1, .slice a2 n2 c2] 49)).alloc (.cells #[.int .u16 x] 25)).alloc (.cells #[.int .u16 0] 25)).alloc (.cells #[.slice a n c] 31)).heap.size = w.heap.size + 1 + 1 + 1 + 1 := by simp
  generalize (((w.alloc (.cells #[.slice a1 n1 c1, .slice a2 n2 c2] 49)).alloc (.cells #[.int .u16 x] 25)).alloc (.cells #[.int .u16 0] 25)).alloc (.cells #[.slice a n c] 31) = W0 at bT bX bS bN k0 hsz ⊢
  have hseq : SeqStopsK Fence.wide 3 Tryz.prog 136 #[.pointer (some ⟨w.heap.size + 1 + 1 + 1, 0, none⟩)] (fun y : I16 => #[Value.int .i64 (y.1.1 : Nat), Value.int .u16 (y.1.2 : Nat)]) (RowsBut (w.heap.size + 1 + 1))
      (fun ys => ys = uptoA (backAt n p) n) (fun pre => ∃ k, k ≤ n ∧ pre = uptoA (backAt n p) k) n W0 := fun l J Jx W hW _ _ hY h0 =>
    back1_in Fence.wide 3 trivial hro (by omega) l (w.heap.size + 1 + 1 + 1) (w.heap.size + 1 + 1) a n c p w HA.out (by omega) (by omega) J Jx hY W
      ((RowsBut.ofKeep k0.any).t (RowsBut.ofKeep (Keep.ofBelow hW).any)) (by rw [(bN.keep (S := fun _ => False) (Keep.ofBelow hW).any (fun h => h)).cell]; rfl) h0
  have HS := Lib.hid hsz
  refine wpIn_rangeFunc_ownG hro (by omega) (gf := 136) (lb := #[.pointer (some ⟨w.heap.size + 1 + 1 + 1, 0, none⟩)]) rfl trivial (enters_of Tryz.func136 (by kernel_rfl) rfl)
    hseq RowsBut.t (fun W l o o' h1 h2 h3 h4 => RowsBut.b (B := W0.heap.size) W l o o' h1 h2 h3 h4) (Below.refl _ _) (fun _ => rfl)
    (fun pre W => (Blk W (w.heap.size + 1 + 1) 25 #[.int .u16 (backSum x pre : Nat)] ∧ Blk W w.heap.size 49 #[.slice a1 n1 c1, .slice a2 n2 c2] ∧ Blk W (w.heap.size + 1) 25 #[.int .u16 x]) ∧ Below w.heap.size w W)
    (fun _ _ _ => False)
    (OwnFrom.and (Own.from (fun s A B row hs hg hr => ⟨hs.1.kept hg hr, hs.2.1.kept hg hr, hs.2.2.kept hg hr⟩) _) (ownFrom_below (Nat.le_refl _) (by have := HS.out; omega)))
    (fun _ _ _ _ _ hs _ _ => hs)
    ⟨⟨bS, bT, bX⟩, k0.toBelow⟩
    (fun y => { tmps := #[.agg #[.slice a1 n1 c1, .slice a2 n2 c2], .slice a n c, .int .u16 x, .pointer (some ⟨w.heap.size, 0, none⟩), undef, .pointer (some ⟨w.heap.size + 1, 0, none⟩), .int .u16 0, .pointer (some ⟨w.heap.size + 1 + 1, 0, none⟩), undef, .int .u16 (y.1.2 : Nat), .slice a n c,
      .func (.func 136) #[] #[.pointer (some ⟨w.heap.size + 1 + 1 + 1, 0, none⟩)], .int .i64 (y.1.1 : Nat), .int .u16 (y.1.2 : Nat), undef, undef, undef, undef, undef, undef, undef], defers := [] }) ?assign ?body ?done ?stop
  case assign =>
    intro l y W K hK
    gi_wp2
    exact hK
  case body =>
    rintro l pre y W ⟨⟨dS, dT, dX⟩, hB⟩ _
    have cS : W.cell? ⟨w.heap.size + 1 + 1, 0, none⟩ = some (.int .u16 (backSum x pre : Nat)) := by rw [dS.cell]; rfl
    have cX : W.cell? ⟨w.heap.size + 1, 0, none⟩ = some (.int .u16 x) := by rw [dX.cell]; rfl
    have cT0 : W.cell? ⟨w.heap.size, 0, none⟩ = some (.slice a1 n1 c1) := by rw [dT.cell]; rfl
    have cT1 : W.cell? ⟨w.heap.size, 1, none⟩ = some (.slice a2 n2 c2) := by rw [dT.cell]; rfl
    have TW := Lib.hid (HT.out.keep (Keep.ofBelow hB))
    have hd : 1 ≤ 4 - 1 - 1 := by omega
    gi_wp2_with (first
      | (refine ⟨trivial, ?_⟩; gi_at_call 121; refine (CallsIn.inRound l (callsIn_wide.2 (tmul_any _ _ _ _ TW.out))).mono ?_; rintro e W1 ⟨rfl, k1⟩))
    have eS := dS.keep k1 (by simp)
    have eT := dT.keep k1 (by simp)
    have eX := dX.keep k1 (by simp)
    have fS : W1.cell? ⟨w.heap.size + 1 + 1, 0, none⟩ = some (.int .u16 (backSum x pre : Nat)) := by rw [eS.cell]; rfl
    have zS := eS.frozen 0
    have hg : gm (backSum x pre % 1024) (x % 1024) < 1024 := gm_lt (Nat.mod_lt _ (by omega)) _
    have hy := y.2
    gi_wp2_with (refine ⟨trivial, ?_⟩; gi_at_call 124; refine (CallsIn.inRound l (callsIn_wide.2 (fadd_any _ _ _ (by omega) hy))).mono ?_; rintro e W2 ⟨rfl, rfl⟩)
    have kk : Keep (· = w.heap.size + 1 + 1) W (W1.setCell ⟨w.heap.size + 1 + 1, 0, none⟩ (.int .u16 ((gm (backSum x pre % 1024) (x % 1024) ^^^ y.1.2) % 1024 : Nat))) := (Keep.any (S := (· = w.heap.size + 1 + 1)) k1).setCell (p := ⟨w.heap.size + 1 + 1, 0, none⟩) (.inl rfl) _
    refine ⟨(Keep.others kk (fun k hk => by subst hk; exact ⟨_, _, dS⟩)).from _, RowsBut.ofKeep kk, ⟨?_, ?_, ?_⟩, ?_⟩
    · rw [backSum_snoc]
      exact eS.put 0 _
    · exact eT.far (p := ⟨w.heap.size + 1 + 1, 0, none⟩) (by show w.heap.size ≠ w.heap.size + 1 + 1; omega) _
    · exact eX.far (p := ⟨w.heap.size + 1 + 1, 0, none⟩) (by show w.heap.size + 1 ≠ w.heap.size + 1 + 1; omega) _
    · exact (hB.trans (k1.toBelow.mono hB.size)).setCell (p := ⟨w.heap.size + 1 + 1, 0, none⟩) (by show w.heap.size ≤ w.heap.size + 1 + 1; omega) _
  case done =>
    rintro D ys W hD rfl ⟨⟨dS, _, _⟩, hB⟩ hK
    have cS : W.cell? ⟨w.heap.size + 1 + 1, 0, none⟩ = some (.int .u16 (backSum x (uptoA (backAt n p) n) : Nat)) := by rw [dS.cell]; rfl
    gi_wp2
    refine ⟨by simp, .inl ⟨_, _, rfl, run_takeDeferred hK, ?_⟩⟩
    refine ⟨_, results_tmp rfl _ _ _, ?_, hB.trans (belowK_b (w := w) (Nat.le_refl _) W D _ _ (by have := HS.out; omega) hK rfl rfl)⟩
    rw [backSum_hor x n p HA.out.lt n (Nat.le_refl _), Nat.sub_self]
    rfl
  case stop =>
    rintro D c pre W _ _ h _
    exact h.elim

theorem at_any (V : Value) (a : Option Addr) (n c x : Nat) (p : Nat → Nat) (w : World) (hT : HasT w V) (ha : ArgU w a n p) :
    Calls Tryz.prog 114 #[V, .slice a n c, .int .u16 x] w fun e w' => e = .returned (.int .u16 (hor (cut p n) (x % 1024) 0 n : Nat)) ∧ Keep (fun _ => False) w w' :=
  (callsIn_wide.1 (at_in Fence.wide rfl V a n c x p w hT ha)).mono fun _ _ ⟨he, hb⟩ => ⟨he, (Keep.ofBelow hb).any⟩
end Go.Proofs.YtdlmjjlejkkniaaGreat
