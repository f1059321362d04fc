/- Package plain: an array of host pages; Clone and Equal of bytes. -/
import Derived.Test.YtdjgjffgheocfaaGreatChip
namespace Go.Proofs.YtdjgjffgheocfaaGreat
open Go.RowKit

theorem OwnV.keepSP {w w' : World} {T : TypeId} {N : Nat} {a : Option Addr} {n c : Nat} {f : Nat → Value} {S : Nat → Prop} (h : OwnV w T N a n c f) (hk : Keep S w w') (hS : ∀ t, (Value.slice a n c).ownBlock = some t → ¬ S t) : OwnV w' T N a n c f := by
  refine ⟨h.1, ?_⟩
  rcases h.2 with e | ⟨g, cap, cs, e, hN, hb, hr⟩
  · exact .inl e
  · exact .inr ⟨g, cap, cs, e, hN, (hk.block g (Blk.lt (t := T) (cs := cs) hb) (hS g (by rw [e]; rfl))).trans hb, hr⟩
theorem ty_bb : RowTy 94 97 := rowTy_of Tryz.underlying94 (z := .slice none 0 0) (b := 24) (by kernel_rfl) rfl (by omega)
theorem Tryz.info_u8p : (Tryz.prog.info? 5).map (fun i => (i.zero, i.size, i.bytes)) = some (some (.int .u8 0), 1, 1) := by kernel_rfl
def pgV (rb : Nat → Nat) (z : Nat) : Nat → Value := fun i => .slice (some ⟨rb i, 0, none⟩) z z
def byArr (d : Nat → Nat) (z : Nat) : Array Value := valsArr (fun i => .int .u8 (d i : Nat)) z
/-- An array of n host pages of z bytes: page i lies in block rb i and says d i. -/
structure IsPlain (pb : Nat) (ao : Option Addr) (n co z : Nat) (rb : Nat → Nat) (d : Nat → Nat → Nat) (w : World) : Prop where
  b : Blk w pb 96 #[.slice ao n co, .int .i64 (z : Nat)]
  o : OwnV w 97 (pb + 1) ao n co (pgV rb z)
  p : ∀ i, i < n → Blk w (rb i) 5 (byArr (d i) z) ∧ pb < rb i
  inj : ∀ i j, i < n → j < n → rb i = rb j → i = j
theorem IsPlain.keep {S : Nat → Prop} {pb : Nat} {ao : Option Addr} {n co z : Nat} {rb : Nat → Nat} {d : Nat → Nat → Nat} {w w' : World} (h : IsPlain pb ao n co z rb d w) (hk : Keep S w w') (hS : ∀ k, pb ≤ k → k < w.heap.size → ¬ S k) : IsPlain pb ao n co z rb d w' :=
  ⟨h.b.keep hk (hS _ (Nat.le_refl _) h.b.lt), h.o.keepSP hk (fun t e => hS t (by have := (h.o.block e).1; omega) (by obtain ⟨cs, hb⟩ := (h.o.block e).2; exact hb.lt)), fun i hi => ⟨(h.p i hi).1.keep hk (hS _ (Nat.le_of_lt (h.p i hi).2) (h.p i hi).1.lt), (h.p i hi).2⟩, h.inj⟩
theorem IsPlain.keepF {pb : Nat} {ao : Option Addr} {n co z : Nat} {rb : Nat → Nat} {d : Nat → Nat → Nat} {w w' : World} (h : IsPlain pb ao n co z rb d w) (hk : Keep (fun _ => False) w w') : IsPlain pb ao n co z rb d w' := h.keep hk (fun _ _ _ e => e)
theorem plain_next {pb : Nat} {ao : Option Addr} {j co z : Nat} {rb : Nat → Nat} {V wr w7 : World} {g7 c7 : Nat} (hp : IsPlain pb ao j co z rb (fun _ _ => 0) wr) (hk : Keep (· = pb) V wr)
    (o7 : OwnV w7 97 (pb + 1) (some ⟨g7, 0, none⟩) (j + 1) c7 (fun i => if i < j then pgV rb z i else .slice (some ⟨wr.heap.size, 0, none⟩) z z))
    (gr7 : ((wr.alloc (.cells (valsArr (fun _ => Value.int .u8 0) z) 5)).alloc (.cells #[.slice (some ⟨wr.heap.size, 0, none⟩) z z] 97)).drew.grownBy w7 (Value.slice ao j co).ownBlock) (hlo : ∀ t, (Value.slice ao j co).ownBlock = some t → V.heap.size ≤ t) :
    IsPlain pb (some ⟨g7, 0, none⟩) (j + 1) c7 z (fun i => if i < j then rb i else wr.heap.size) (fun _ _ => 0) (w7.setCell ⟨pb, 0, none⟩ (.slice (some ⟨g7, 0, none⟩) (j + 1) c7)) ∧ Keep (· = pb) V (w7.setCell ⟨pb, 0, none⟩ (.slice (some ⟨g7, 0, none⟩) (j + 1) c7)) := by
  have k2 : Keep (fun _ => False) wr ((wr.alloc (.cells (valsArr (fun _ => Value.int .u8 0) z) 5)).alloc (.cells #[.slice (some ⟨wr.heap.size, 0, none⟩) z z] 97)).drew := (((Keep.refl (fun _ => False) wr).alloc (.cells (valsArr (fun _ => Value.int .u8 0) z) 5)).alloc _).drew
  have k7 : Keep (fun k => (Value.slice ao j co).ownBlock = some k) ((wr.alloc (.cells (valsArr (fun _ => Value.int .u8 0) z) 5)).alloc (.cells #[.slice (some ⟨wr.heap.size, 0, none⟩) z z] 97)).drew w7 := (Keep.refl _ _).grown gr7 (fun k e => .inl e)
  have bp := (hp.b.keep k2 (by simp)).keep k7 (fun e => by have := (hp.o.block e).1; omega)
  have bn : Blk w7 wr.heap.size 5 (valsArr (fun _ => Value.int .u8 0) z) := (((Blk.new wr 5 (valsArr (fun _ => Value.int .u8 0) z)).alloc (.cells #[.slice (some ⟨wr.heap.size, 0, none⟩) z z] 97)).drew).keep k7 (fun e => by
    obtain ⟨cs, hb⟩ := (hp.o.block e).2
    have := hb.lt
    omega)
  have hlt := hp.b.lt
  refine ⟨⟨?_, ?_, fun i hi => ?_, fun i i' hi hi' e => ?_⟩, ?_⟩
  · exact bp.put 0 _
  · refine (o7.farB bp 0 _ (by decide)).congr (fun i hi => ?_)
    show (if i < j then Value.slice (some ⟨rb i, 0, none⟩) z z else .slice (some ⟨wr.heap.size, 0, none⟩) z z) = .slice (some ⟨if i < j then rb i else wr.heap.size, 0, none⟩) z z
    by_cases e : i < j
    · rw [if_pos e, if_pos e]
    · rw [if_neg e, if_neg e]
  · by_cases e : i < j
    · rw [if_pos e]
      obtain ⟨h1, h2⟩ := hp.p i e
      exact ⟨((h1.keep k2 (by simp)).keep k7 (fun x => by
        obtain ⟨cs, hb⟩ := (hp.o.block x).2
        exact h1.ne hb (by decide) rfl)).far (p := ⟨pb, 0, none⟩) (by show rb i ≠ pb; omega) _, h2⟩
    · rw [if_neg e]
      exact ⟨bn.far (p := ⟨pb, 0, none⟩) (by show wr.heap.size ≠ pb; omega) _, hlt⟩
  · by_cases e1 : i < j
    · have l1 := (hp.p i e1).1.lt
      by_cases e2 : i' < j
      · rw [if_pos e1, if_pos e2] at e
        exact hp.inj i i' e1 e2 e
      · rw [if_pos e1, if_neg e2] at e
        omega
    · by_cases e2 : i' < j
      · have l1 := (hp.p i' e2).1.lt
        rw [if_neg e1, if_pos e2] at e
        omega
      · omega
  · exact ((hk.trans k2 (fun _ e => e.elim)).trans k7 (fun t e => .inr (hlo t e))).setCell (p := ⟨pb, 0, none⟩) (.inl rfl) _
/-- The loop of New at one round. -/
def PlRel (n pb z : Nat) (V : World) (v : Value) (wr : World) : Prop := ∃ (j : Nat) (ao : Option Addr) (co : Nat) (rb : Nat → Nat), j ≤ n ∧ v = .int .i64 j ∧ IsPlain pb ao j co z rb (fun _ _ => 0) wr ∧ Keep (· = pb) V wr ∧ Hid (∀ t, (Value.slice ao j co).ownBlock = some t → V.heap.size ≤ t) ∧ Hid (∀ i, i < j → V.heap.size ≤ rb i)
theorem PlRel.mk {n pb z : Nat} {V : World} {v : Value} {wr : World} (j : Nat) (ao : Option Addr) (co : Nat) (rb : Nat → Nat) (hj : j ≤ n) (hv : v = .int .i64 j) (hp : IsPlain pb ao j co z rb (fun _ _ => 0) wr) (hk : Keep (· = pb) V wr) (h1 : Hid (∀ t, (Value.slice ao j co).ownBlock = some t → V.heap.size ≤ t)) (h2 : Hid (∀ i, i < j → V.heap.size ≤ rb i)) : PlRel n pb z V v wr := ⟨j, ao, co, rb, hj, hv, hp, hk, h1, h2⟩
set_option maxRecDepth 100000 in
set_option maxHeartbeats 2000000 in
theorem plain_new (n z : Nat) (hn : n ≤ 1024) (hz0 : 0 < z) (hz : z ≤ 320) (w : World) :
    Calls Tryz.prog 15 #[.int .i64 n, .int .i64 z] w fun e w' => ∃ pb ao co rb, e = .returned (.pointer (some ⟨pb, 0, none⟩)) ∧ IsPlain pb ao n co z rb (fun _ _ => 0) w' ∧ w.heap.size ≤ pb ∧ Keep (fun _ => False) w w' := by
  have hmk := make_vals (P := Tryz.prog) Tryz.underlying97 Tryz.info_u8p rfl z z rfl (by omega) (by omega)
  obtain ⟨Q, hQ⟩ : ∃ Q : Nat, Q = 16777216 / z := ⟨_, rfl⟩
  have hQ2 : n ≤ Q := by
    have : 16777216 / 320 ≤ 16777216 / z := Nat.div_le_div_left hz hz0
    omega
  have e1 : (16777216 : Int).tdiv (z : Int) = (Q : Int) := by rw [Int.tdiv_eq_ediv_of_nonneg (by omega), hQ]; rfl
  have e2 : (16777216 : Int) / (z : Int) = (Q : Int) := by rw [hQ]; rfl
  have hnz : ¬ (z : Int) = 0 := by omega
  have hnz2 : ¬ z = 0 := by omega
  have d1 : decide ((16777216 : Int) < (n : Int)) = false := decide_eq_false (by omega)
  have d2 : decide ((0 : Int) < (z : Int)) = true := decide_eq_true (by omega)
  have d3 : decide ((Q : Int) < (n : Int)) = false := decide_eq_false (by omega)
  have d4 : decide (Q < n) = false := decide_eq_false (by omega)
  have d5 : ¬ Q < n := by omega
  have e5 : IntKind.i64.wrap (Q : Int) = (Q : Int) := by
    have : 16777216 / z ≤ 16777216 := Nat.div_le_self _ _
    exact wraps_i64 _ (by omega) (by omega)
  clear hQ
  go_enter Tryz.func15, Tryz.ntmps15
  have b0 := Blk.new w 96 #[.slice none 0 0, .int .i64 (z : Nat)]
  have k0 := (Keep.refl (fun _ => False) w).alloc (.cells #[.slice none 0 0, .int .i64 (z : Nat)] 96)
  go_upto_region 3 with (fail)
  generalize w.alloc (.cells #[.slice none 0 0, .int .i64 (z : Nat)] 96) = V at *
  obtain ⟨pb, hpb⟩ : ∃ pb, pb = w.heap.size := ⟨_, rfl⟩
  rw [← hpb] at b0 ⊢
  have HPB := Lib.hid hpb
  have c1 : V.cell? ⟨pb, 1, none⟩ = some (.int .i64 (z : Nat)) := by rw [b0.cell]; rfl
  have B0 := Lib.hid b0
  have K0 := Lib.hid k0
  have HMK := Lib.hid hmk
  have HNZ := Lib.hid (And.intro hn (And.intro hz0 hz))
  clear b0 k0 hpb hmk
  go_upto_region 5 with (fail)
  clear c1 e1 e2 e5 d1 d2 hnz hnz2 hQ2
  go_wp2_with fail
  go_loopw [32] (fun v wr => PlRel n pb z V v wr) (fun v _ => n - (intOf v).toNat)
  case atStart => exact PlRel.mk 0 none 0 (fun _ => 0) (by omega) rfl ⟨B0.out, OwnV.nil _ _ _ _, fun i hi => by omega, fun i j hi => by omega⟩ (Keep.refl _ _) (Lib.hid (fun t e => by simp [Value.ownBlock] at e)) (Lib.hid (fun i hi => by omega))
  case round =>
    obtain ⟨j, ao, co, rb, hj, rfl, hp, hk, HLO, HRB⟩ := hrel
    by_cases hjn : j < n
    · have hjn' : (j : Int) < (n : Int) := by omega
      have kd := (Keep.refl (fun _ => False) wr).drew
      have k1 : Keep (fun _ => False) wr (wr.alloc (.cells (valsArr (fun _ => Value.int .u8 0) z) 5)).drew := ((Keep.refl (fun _ => False) wr).alloc (.cells (valsArr (fun _ => Value.int .u8 0) z) 5)).drew
      have k2 : Keep (fun _ => False) wr ((wr.alloc (.cells (valsArr (fun _ => Value.int .u8 0) z) 5)).alloc (.cells #[.slice (some ⟨wr.heap.size, 0, none⟩) z z] 97)).drew := (((Keep.refl (fun _ => False) wr).alloc (.cells (valsArr (fun _ => Value.int .u8 0) z) 5)).alloc _).drew
      have bd := hp.b.keep kd (by simp)
      have b1 := hp.b.keep k1 (by simp)
      have b2 := hp.b.keep k2 (by simp)
      have p0 : wr.drew.cell? ⟨pb, 0, none⟩ = some (.slice ao j co) := by rw [bd.cell]; rfl
      have p1 : wr.drew.cell? ⟨pb, 1, none⟩ = some (.int .i64 (z : Nat)) := by rw [bd.cell]; rfl
      have q0 : (wr.alloc (.cells (valsArr (fun _ => Value.int .u8 0) z) 5)).drew.cell? ⟨pb, 0, none⟩ = some (.slice ao j co) := by rw [b1.cell]; rfl
      have q1 : (wr.alloc (.cells (valsArr (fun _ => Value.int .u8 0) z) 5)).drew.cell? ⟨pb, 1, none⟩ = some (.int .i64 (z : Nat)) := by rw [b1.cell]; rfl
      have r0 : ((wr.alloc (.cells (valsArr (fun _ => Value.int .u8 0) z) 5)).alloc (.cells #[.slice (some ⟨wr.heap.size, 0, none⟩) z z] 97)).drew.cell? ⟨pb, 0, none⟩ = some (.slice ao j co) := by rw [b2.cell]; rfl
      have r1 : ((wr.alloc (.cells (valsArr (fun _ => Value.int .u8 0) z) 5)).alloc (.cells #[.slice (some ⟨wr.heap.size, 0, none⟩) z z] 97)).drew.cell? ⟨pb, 1, none⟩ = some (.int .i64 (z : Nat)) := by rw [b2.cell]; rfl
      have OA := Lib.hid (hp.o.keep k2)
      have BS : Blk ((wr.alloc (.cells (valsArr (fun _ => Value.int .u8 0) z) 5)).alloc (.cells #[.slice (some ⟨wr.heap.size, 0, none⟩) z z] 97)).drew (wr.heap.size + 1) 97 #[.slice (some ⟨wr.heap.size, 0, none⟩) z z] := (Blk.here _ _ _ _ (by simp)).drew
      have hN2 : pb + 1 ≤ ((wr.alloc (.cells (valsArr (fun _ => Value.int .u8 0) z) 5)).alloc (.cells #[.slice (some ⟨wr.heap.size, 0, none⟩) z z] 97)).drew.heap.size := by have := hp.b.lt; have := k2.size; omega
      have hj9 : j ≤ 100000 := by have := HNZ.out; omega
      have HPP := Lib.hid hp
      have HKK := Lib.hid hk
      have hmk := HMK.out
      clear hp hk bd b1 kd k1
      go_upto_region 7 with (fail)
      go_region_law
        (first
          | (refine step_append_v1 ty_bb rfl (.tmp 38) (.tmp 44) (by rfl) (pb + 1) ao j co _ (by rfl) OA.out (wr.heap.size + 1) (.slice (some ⟨wr.heap.size, 0, none⟩) z z) (by rfl) BS rfl hj9 hN2 _ rfl ?_; intro g7 c7 w7 o7 gr7 hgl hl7; have k7 : Keep (fun k => (Value.slice ao j co).ownBlock = some k) ((wr.alloc (.cells (valsArr (fun _ => Value.int .u8 0) z) 5)).alloc (.cells #[.slice (some ⟨wr.heap.size, 0, none⟩) z z] 97)).drew w7 := (Keep.refl _ _).grown gr7 (fun k e => .inl e); have b7 := b2.keep k7 (fun e => by have := (OA.out.block e).1; omega); have s0 : w7.cell? ⟨pb, 0, none⟩ = some (.slice ao j co) := (by rw [b7.cell]; rfl); have qf := b7.frozen 0))
      all_goals
        obtain ⟨n1, n2⟩ := plain_next HPP.out HKK.out o7 gr7 HLO.out
        have HN := Lib.hid (And.intro n1 n2)
        have HL2 := Lib.hid (show ∀ t, (Value.slice (some ⟨g7, 0, none⟩) (j + 1) c7).ownBlock = some t → V.heap.size ≤ t from fun t e => by
          rcases hgl with h | h
          · rw [show t = g7 by simpa [Value.ownBlock] using e.symm]
            exact HLO.out _ h
          · have := HKK.out.size
            rw [show t = g7 by simpa [Value.ownBlock] using e.symm, h]
            exact Nat.le_trans this k2.size)
        have HR2 : Hid (∀ i, i < j + 1 → V.heap.size ≤ if i < j then rb i else wr.heap.size) := Lib.hid (fun i hi => by
          split
          · exact HRB.out i ‹_›
          · exact HKK.out.size)
        clear n1 n2 o7 gr7 p0 p1 q0 q1 r0 r1 k2 b2 k7 b7 s0 qf OA BS hmk hN2 hgl
        go_wp2_with fail
        go_roundw
        case rel =>
          have HRL : PlRel n pb z V (.int .i64 ((j : Int) + 1)) (w7.setCell ⟨pb, 0, none⟩ (.slice (some ⟨g7, 0, none⟩) (j + 1) c7)) := PlRel.mk (j + 1) (some ⟨g7, 0, none⟩) c7 (fun i => if i < j then rb i else wr.heap.size) (by omega) rfl HN.out.1 HN.out.2 HL2 HR2
          have hjw : IntKind.i64.wrap ((j : Int) + 1) = (j : Int) + 1 := wraps_i64 _ (by omega) (by omega)
          try rw [hjw]
          exact HRL
        case measure => simp [intOf]; omega
    · obtain rfl : j = n := by omega
      have hjn' : ¬ (j : Int) < (j : Int) := by omega
      have HE := Lib.hid (And.intro hp (K0.out.trans hk (fun i e => .inr (by rw [show i = pb from e, HPB.out]; exact Nat.le_refl _))))
      clear hp hk
      go_wp2_with fail
      go_ret
      exact ⟨pb, rfl, ⟨ao, co, rb, HE.out.1⟩, by rw [HPB.out]; exact Nat.le_refl _, HE.out.2⟩
end Go.Proofs.YtdjgjffgheocfaaGreat
