/- The walk of blackboardlaw15.LmapPlays: it answers true, and leaves alone what was there. -/
import Derived.Test.YtipfpcfepfkehaaDoorLboth
import Derived.Deep.QuietTactic
import Derived.BigQuiet
import Derived.Deep.DeepCutAuto
import Derived.Deep.CutBlock
import Derived.Outline
namespace Go.Proofs.YtipfpcfepfkehaaDoor
open Go.RowKit

/-- The deeds that came in. -/
structure ArgDeeds (w : World) (a : Option Addr) (len : Nat) (D A B : Nat → Int) : Prop where
  at_ : 0 < len → ∃ b off, a = some ⟨b, off, none⟩ ∧ b < w.heap.size ∧ ∀ i, i < len → w.cell? ⟨b, off + i * 3, none⟩ = some (.int .i64 (D i)) ∧ w.cell? ⟨b, off + i * 3 + 1, none⟩ = some (.int .i64 (A i)) ∧ w.cell? ⟨b, off + i * 3 + 2, none⟩ = some (.int .i64 (B i))
  small : len ≤ maxLen

/-- Where the reference's map lies beside the other one. -/
structure Apart (w : World) (m : LM) (kb g L : Nat) : Prop where
  m_ : NewLM w m
  k_ : w.heap.size ≤ kb
  g_ : 0 < L → w.heap.size ≤ g
  km : ¬ mapS m kb ∧ kb ≠ m.pb
  gm : 0 < L → ¬ mapS m g ∧ g ≠ m.pb
theorem byte_wrap (x : Nat) (h : (x : Int) < 256) : wrap64 (x : Int) = (x : Int) := by unfold wrap64; omega
theorem byte_mod (x m K : Nat) (h : K = x % m) : (x : Int).tmod (m : Int) = (K : Int) := by rw [Int.tmod_eq_emod_of_nonneg (by omega), h]; rfl
structure PlayAt (w wr : World) (m : LM) (kb g : Nat) (a : Option Addr) (cap : Nat) (A : Nat → Option Nat) : Prop where
  map : ∃ O, IsMap m A O wr
  ref : IsRef wr kb g a cap m.L m.P A
  keep : Keep (fun _ => False) w wr
theorem PlayAt.drewN {w wr : World} {m : LM} {kb g : Nat} {a : Option Addr} {cap : Nat} {A : Nat → Option Nat} (h : PlayAt w wr m kb g a cap A) (k : Nat) : PlayAt w (wr.drewN k) m kb g a cap A := by
  obtain ⟨⟨O, hO⟩, h2, h3⟩ := h
  exact ⟨⟨O, hO.drewN k⟩, h2.drewN k, h3.drewN k⟩
theorem PlayAt.alloc {w wr : World} {m : LM} {kb g : Nat} {a : Option Addr} {cap : Nat} {A : Nat → Option Nat} (h : PlayAt w wr m kb g a cap A) (o : Obj) : PlayAt w (wr.alloc o) m kb g a cap A := by
  obtain ⟨⟨O, hO⟩, h2, h3⟩ := h
  have hk : Keep (fun _ => False) wr (wr.alloc o) := (Keep.refl _ wr).alloc o
  exact ⟨⟨O, hO.keep hk (by simp) (by simp) (by simp) (by simp) (by simp)⟩, h2.keep hk (by simp) (by simp), h3.alloc o⟩

/-- Behind the main map's call the reference's map is as it was. -/
theorem Apart.ref {w wr w2 : World} {m : LM} {kb g : Nat} {a : Option Addr} {cap : Nat} {A : Nat → Option Nat} (h : Apart w m kb g m.L) (hr : IsRef wr kb g a cap m.L m.P A) (hk : Keep (mapS m) wr w2) : IsRef w2 kb g a cap m.L m.P A :=
  hr.keep hk h.km.1 (fun h0 => (h.gm h0).1)
theorem Apart.step {w wr w2 w3 : World} {m : LM} {kb g : Nat} {a : Option Addr} {cap : Nat} {A A' : Nat → Option Nat} (h : Apart w m kb g m.L) (hp : PlayAt w wr m kb g a cap A)
    (h2 : ∃ O', IsMap m A' O' w2) (k2 : Keep (mapS m) wr w2) (h3 : IsRef w3 kb g a cap m.L m.P A') (hz : 0 < m.L ∨ w2 = w3) (k3 : Keep (· = g) w2 w3) : PlayAt w w3 m kb g a cap A' := by
  obtain ⟨O', h2⟩ := h2
  have e2 := NewLM.trans h.m_ hp.keep k2
  rcases hz with hz | rfl
  · obtain ⟨g1, g2⟩ := h.gm hz
    exact ⟨⟨O', h2.keep k3 (fun e => g1 (.inl e.symm)) (fun e => g1 (.inr (.inl e.symm))) (fun e => g1 (.inr (.inr (.inl e.symm)))) (fun e => g2 e.symm) (fun e => g1 (.inr (.inr (.inr e.symm))))⟩, h3, e2.trans k3 (fun i hi => .inr (by
      have := h.g_ hz
      omega))⟩
  · exact ⟨⟨O', h2⟩, h3, e2⟩
theorem PlayAt.ids {w wr : World} {m : LM} {kb g : Nat} {a : Option Addr} {cap : Nat} {A : Nat → Option Nat} (h : PlayAt w wr m kb g a cap A) : ¬ mapS m wr.heap.size := by
  obtain ⟨O, hO⟩ := h.map
  have l1 := hO.raw.hm.lt
  have l2 := hO.raw.ha.lt
  have l3 := hO.raw.ho.lt
  have l5 := hO.raw.hb.hs.lt
  rintro (e | e | e | e) <;> omega


set_option maxRecDepth 100000 in
set_option maxHeartbeats 8000000 in
theorem lplays_true (w : World) (al : Option Addr) (len lcap : Nat) (D X Y : Nat → Int) (n0 n1 : Nat) (hn0 : n0 < 256) (hn1 : n1 < 256) (ha : ArgDeeds w al len D X Y) (hT : TabAt 0 Lib.deBruijn64tab w) :
    Calls Tryd.prog 3 #[.agg #[.int .u8 n0, .int .u8 n1], .slice al len lcap] w fun e w' => e = .returned (.bool true) ∧ Keep (fun _ => False) w w' := by
  have hsm := ha.small
  unfold maxLen at hsm
  have k00 : Keep (fun _ => False) w (w.alloc (.cells #[.int .u8 n0, .int .u8 n1] 22)) := (Keep.refl _ w).alloc _
  go_enter Tryd.func3, Tryd.ntmps3
  go_wp2_with fail
  refine (lawake_true _).mono ?_
  rintro e w0 ⟨rfl, k0⟩
  have kk0 := k00.trans k0 (fun i hi => .inl hi)
  have bb := (Blk.new w 22 #[.int .u8 n0, .int .u8 n1]).keep k0 (by simp)
  have cb0 : w0.cell? ⟨w.heap.size, 0, none⟩ = some (.int .u8 n0) := by rw [bb.cell]; rfl
  have cb1 : w0.cell? ⟨w.heap.size, 1, none⟩ = some (.int .u8 n1) := by rw [bb.cell]; rfl
  by_cases h200 : 200 < len
  · go_wp2
    go_ret
    exact ⟨rfl, kk0⟩
  · obtain ⟨L, hL⟩ : ∃ L, L = n0 % 40 := ⟨_, rfl⟩
    obtain ⟨P, hP⟩ : ∃ P, P = n1 % 60 := ⟨_, rfl⟩
    have hL2 : L < 40 := by omega
    have hP2 : P < 60 := by omega
    have HL0 := Lib.hid hL
    have HP0 := Lib.hid hP
    clear hL hP
    go_wp2_with fail
    have e1 : wrap64 (n0 : Int) = (n0 : Int) := byte_wrap n0 (by omega)
    have e2 : wrap64 (n1 : Int) = (n1 : Int) := byte_wrap n1 (by omega)
    have e3 : (n0 : Int).tmod 40 = (L : Int) := byte_mod n0 40 L HL0.out
    have e4 : (n1 : Int).tmod 60 = (P : Int) := byte_mod n1 60 P HP0.out
    go_quiet (fail)
    clear e1 e2 e3 e4
    go_wp2_with fail
    refine (new_map L P (by omega) (by omega) _).mono ?_
    rintro e w1 ⟨m, rfl, h1, k1, hmL, hmP, hn⟩
    go_wp2_with fail
    refine (newref L P (by omega) _).mono ?_
    rintro e w2 ⟨g, a, cap, rfl, h2, hg, k2⟩
    have z0 := kk0.size
    have z1 : w0.heap.size ≤ w1.heap.size := k1.size
    have z2 := k2.size
    have hAp : Apart w m w1.heap.size g m.L := by
      obtain ⟨n1', n2', n3', n4', n5'⟩ := hn
      have q1 : w0.heap.size ≤ m.mb := n1'
      have q2 : w0.heap.size ≤ m.ab := n2'
      have q3 : w0.heap.size ≤ m.ob := n3'
      have q4 : w0.heap.size ≤ m.pb := n4'
      have q5 : w0.heap.size ≤ m.sb := n5'
      have l1 := h1.raw.hm.lt
      have l2 := h1.raw.ha.lt
      have l3 := h1.raw.ho.lt
      have l4 := h1.raw.hb.hp.lt
      have l5 := h1.raw.hb.hs.lt
      refine ⟨⟨by omega, by omega, by omega, by omega, by omega⟩, by omega, fun h => ?_, ⟨?_, by omega⟩, fun h => ⟨?_, ?_⟩⟩
      · have := hg (by omega)
        omega
      · rintro (e | e | e | e) <;> omega
      · have := hg (by omega)
        rintro (e | e | e | e) <;> omega
      · have := hg (by omega)
        omega
    have p0 : PlayAt w w2 m w1.heap.size g a cap (fun _ => none) := by
      refine ⟨⟨_, h1.keep k2 (by simp) (by simp) (by simp) (by simp) (by simp)⟩, ?_, (kk0.trans (w'' := w1) (S' := fun _ => False) ⟨k1.os, k1.tape, k1.output, k1.size, k1.block⟩ (fun i hi => .inl hi)).trans k2 (fun i hi => .inl hi)⟩
      rw [hmL, hmP]
      exact h2
    have HAp := Lib.hid hAp
    have eL : (L : Int) = (m.L : Int) := by rw [hmL]
    have hmL2 : m.L < 40 := by omega
    have hmP2 : m.P < 60 := by omega
    clear hAp h1 h2 k1 k2 z0 z1 z2 hn hg hL2 hP2 k0 kk0 bb cb0 cb1 HL0 HP0 hmP k00
    subst hmL
    go_wp2_with fail
    go_loopw [10] (fun i wr => ∃ (j : Nat) (A : Nat → Option Nat), j ≤ len ∧ i = .int .i64 j ∧ PlayAt w wr m w1.heap.size g a cap A) (fun i _ => len - (intOf i).toNat)
    case atStart => exact ⟨0, _, Nat.zero_le _, rfl, p0⟩
    case round =>
      clear p0
      obtain ⟨j, A, hj, rfl, pr⟩ := hrel
      by_cases hjl : j < len
      · obtain ⟨b, off, rfl, hb, hc⟩ := ha.at_ (by omega)
        obtain ⟨c0, c1, c2⟩ := hc j hjl
        rw [← pr.keep.cell (p := ⟨b, off + j * 3, none⟩) hb (by simp)] at c0
        rw [← pr.keep.cell (p := ⟨b, off + j * 3 + 1, none⟩) hb (by simp)] at c1
        rw [← pr.keep.cell (p := ⟨b, off + j * 3 + 2, none⟩) hb (by simp)] at c2
        have hjl' : (j : Int) < (len : Int) := by omega
        generalize D j = d at c0
        generalize X j = x at c1
        generalize Y j = y at c2
        clear hc hb
        obtain ⟨O, hO⟩ := pr.map
        have hid := pr.ids
        have hka : ∀ o, Keep (fun _ => False) wr (wr.alloc o) := fun o => (Keep.refl _ wr).alloc o
        have HOA : ∀ o, IsMap m A O (wr.alloc o) := fun o => hO.keep (hka o) (by simp) (by simp) (by simp) (by simp) (by simp)
        go_upto_block 2 with fail
        go_cut [12] (fun ok wx => ok = .bool true ∧ ∃ A', PlayAt w wx m w1.heap.size g a cap A')
        case first =>
          rcases (show (d = 0 ∨ d = 1 ∨ d = 2 ∨ d = 3) ∨ d = 4 ∨ d = 5 ∨ d = 6 ∨ d = 7 ∨ (d < 0 ∨ 7 < d) from by omega) with (rfl | rfl | rfl | rfl) | rfl | rfl | rfl | rfl | hd
          · as_aux_lemma =>
            obtain ⟨r, f, A', hmain, href⟩ := both_put m w1.heap.size g a cap A O hO.con hO.dom x y
            have pa := pr.alloc (.cells #[.int .i64 0, .int .i64 x, .int .i64 y] 32)
            have d1 := (Blk.new wr 32 #[.int .i64 0, .int .i64 x, .int .i64 y]).cell 1
            have d2 := (Blk.new wr 32 #[.int .i64 0, .int .i64 x, .int .i64 y]).cell 2
            simp only [List.getElem?_toArray, List.getElem?_cons_succ, List.getElem?_cons_zero] at d1 d2
            have HM := Lib.hid (hmain _ (HOA (.cells #[.int .i64 0, .int .i64 x, .int .i64 y] 32)))
            clear hmain
            go_wp2_with fail
            refine HM.out.mono ?_
            rintro e w3 ⟨rfl, h3, k3⟩
            have f1 := (k3.cell (p := ⟨wr.heap.size, 1, none⟩) (by simp) hid).trans d1
            have f2 := (k3.cell (p := ⟨wr.heap.size, 2, none⟩) (by simp) hid).trans d2
            have HR := Lib.hid (href _ (HAp.out.ref pa.ref k3))
            clear href d1 d2
            go_wp2_with fail
            refine HR.out.mono ?_
            rintro e w4 ⟨rfl, h4, hz4, k4⟩
            have pn := HAp.out.step pa h3 k3 h4 hz4 k4
            go_wp2_with fail
            go_meet
            case rel => exact ⟨rfl, _, pn⟩
          · as_aux_lemma =>
            obtain ⟨r, f, A', hmain, href⟩ := both_put m w1.heap.size g a cap A O hO.con hO.dom x y
            have pa := pr.alloc (.cells #[.int .i64 1, .int .i64 x, .int .i64 y] 32)
            have d1 := (Blk.new wr 32 #[.int .i64 1, .int .i64 x, .int .i64 y]).cell 1
            have d2 := (Blk.new wr 32 #[.int .i64 1, .int .i64 x, .int .i64 y]).cell 2
            simp only [List.getElem?_toArray, List.getElem?_cons_succ, List.getElem?_cons_zero] at d1 d2
            have HM := Lib.hid (hmain _ (HOA (.cells #[.int .i64 1, .int .i64 x, .int .i64 y] 32)))
            clear hmain
            go_wp2_with fail
            refine HM.out.mono ?_
            rintro e w3 ⟨rfl, h3, k3⟩
            have f1 := (k3.cell (p := ⟨wr.heap.size, 1, none⟩) (by simp) hid).trans d1
            have f2 := (k3.cell (p := ⟨wr.heap.size, 2, none⟩) (by simp) hid).trans d2
            have HR := Lib.hid (href _ (HAp.out.ref pa.ref k3))
            clear href d1 d2
            go_wp2_with fail
            refine HR.out.mono ?_
            rintro e w4 ⟨rfl, h4, hz4, k4⟩
            have pn := HAp.out.step pa h3 k3 h4 hz4 k4
            go_wp2_with fail
            go_meet
            case rel => exact ⟨rfl, _, pn⟩
          · as_aux_lemma =>
            obtain ⟨r, f, A', hmain, href⟩ := both_put m w1.heap.size g a cap A O hO.con hO.dom x y
            have pa := pr.alloc (.cells #[.int .i64 2, .int .i64 x, .int .i64 y] 32)
            have d1 := (Blk.new wr 32 #[.int .i64 2, .int .i64 x, .int .i64 y]).cell 1
            have d2 := (Blk.new wr 32 #[.int .i64 2, .int .i64 x, .int .i64 y]).cell 2
            simp only [List.getElem?_toArray, List.getElem?_cons_succ, List.getElem?_cons_zero] at d1 d2
            have HM := Lib.hid (hmain _ (HOA (.cells #[.int .i64 2, .int .i64 x, .int .i64 y] 32)))
            clear hmain
            go_wp2_with fail
            refine HM.out.mono ?_
            rintro e w3 ⟨rfl, h3, k3⟩
            have f1 := (k3.cell (p := ⟨wr.heap.size, 1, none⟩) (by simp) hid).trans d1
            have f2 := (k3.cell (p := ⟨wr.heap.size, 2, none⟩) (by simp) hid).trans d2
            have HR := Lib.hid (href _ (HAp.out.ref pa.ref k3))
            clear href d1 d2
            go_wp2_with fail
            refine HR.out.mono ?_
            rintro e w4 ⟨rfl, h4, hz4, k4⟩
            have pn := HAp.out.step pa h3 k3 h4 hz4 k4
            go_wp2_with fail
            go_meet
            case rel => exact ⟨rfl, _, pn⟩
          · as_aux_lemma =>
            obtain ⟨r, f, A', hmain, href⟩ := both_put m w1.heap.size g a cap A O hO.con hO.dom x y
            have pa := pr.alloc (.cells #[.int .i64 3, .int .i64 x, .int .i64 y] 32)
            have d1 := (Blk.new wr 32 #[.int .i64 3, .int .i64 x, .int .i64 y]).cell 1
            have d2 := (Blk.new wr 32 #[.int .i64 3, .int .i64 x, .int .i64 y]).cell 2
            simp only [List.getElem?_toArray, List.getElem?_cons_succ, List.getElem?_cons_zero] at d1 d2
            have HM := Lib.hid (hmain _ (HOA (.cells #[.int .i64 3, .int .i64 x, .int .i64 y] 32)))
            clear hmain
            go_wp2_with fail
            refine HM.out.mono ?_
            rintro e w3 ⟨rfl, h3, k3⟩
            have f1 := (k3.cell (p := ⟨wr.heap.size, 1, none⟩) (by simp) hid).trans d1
            have f2 := (k3.cell (p := ⟨wr.heap.size, 2, none⟩) (by simp) hid).trans d2
            have HR := Lib.hid (href _ (HAp.out.ref pa.ref k3))
            clear href d1 d2
            go_wp2_with fail
            refine HR.out.mono ?_
            rintro e w4 ⟨rfl, h4, hz4, k4⟩
            have pn := HAp.out.step pa h3 k3 h4 hz4 k4
            go_wp2_with fail
            go_meet
            case rel => exact ⟨rfl, _, pn⟩
          · as_aux_lemma =>
            have pa := pr.alloc (.cells #[.int .i64 4, .int .i64 x, .int .i64 y] 32)
            have hOa := HOA (.cells #[.int .i64 4, .int .i64 x, .int .i64 y] 32)
            have hmL3 := hO.raw.hL
            obtain ⟨w3, hw3⟩ : ∃ w3, w3 = wr.alloc (.cells #[.int .i64 4, .int .i64 x, .int .i64 y] 32) := ⟨_, rfl⟩
            have d1 : w3.cell? ⟨wr.heap.size, 1, none⟩ = some (.int .i64 x) := by rw [hw3, (Blk.new wr 32 _).cell]; rfl
            have hr0 := pa.ref.c0
            clear HOA c0 c1 c2
            go_wp2_with fail
            rw [← hw3] at pa hOa hr0 ⊢
            clear hw3
            rcases (show x < 0 ∨ (0 ≤ x ∧ (m.L : Int) ≤ x) ∨ (0 ≤ x ∧ x < (m.L : Int)) by omega) with hx | ⟨hx, hx2⟩ | ⟨hx, hx2⟩
            · have hd : decide (0 ≤ x) = false := by simpa using hx
              refine (get_no m A O x _ hOa (.inl hx)).mono ?_
              rintro e w4 ⟨rfl, rfl⟩
              go_wp2_with fail
              go_quiet (fail)
              go_wp2_with fail
              go_quiet (fail)
              go_wp2_with fail
              go_meet
              case rel => exact ⟨rfl, _, (pa.drewN _).drewN _⟩
            · have hd : decide (x < (m.L : Int)) = false := by simpa using hx2
              refine (get_no m A O x _ hOa (.inr (.inl hx2))).mono ?_
              rintro e w4 ⟨rfl, rfl⟩
              go_wp2_with fail
              go_quiet (fail)
              go_wp2_with fail
              go_quiet (fail)
              go_wp2_with fail
              go_meet
              case rel => exact ⟨rfl, _, (pa.drewN _).drewN _⟩
            · obtain ⟨l, rfl⟩ := Int.eq_ofNat_of_zero_le hx
              have hl : l < m.L := by omega
              obtain rfl := pr.ref.ha (by omega)
              have cl := (pa.ref.at_ hl).1
              rcases hA : A l with _ | q
              · rw [hA] at cl
                change _ = some (Value.int .i64 (-1)) at cl
                have HA : Hid (A ((l : Nat) : Int).toNat = none) := Lib.hid hA
                clear hA
                refine (get_no m A O l _ hOa (.inr (.inr HA))).mono ?_
                rintro e w4 ⟨rfl, rfl⟩
                go_wp2_with fail
                go_quiet (fail)
                go_wp2_with fail
                go_quiet (fail)
                go_wp2_with fail
                go_meet
                case rel => exact ⟨rfl, _, (pa.drewN _).drewN _⟩
              · rw [hA] at cl
                change _ = some (Value.int .i64 (q : Int)) at cl
                have HA := Lib.hid hA
                clear hA
                have hq0 : (0 : Int) ≤ (q : Int) := by omega
                refine (get_yes m A O l q _ hOa HA).mono ?_
                rintro e w4 ⟨rfl, rfl⟩
                go_wp2_with fail
                go_quiet (fail)
                go_wp2_with fail
                go_quiet (fail)
                go_wp2_with fail
                go_meet
                case rel => exact ⟨rfl, _, (pa.drewN _).drewN _⟩
          · as_aux_lemma =>
            obtain ⟨r, f, hmain, href⟩ := both_owner m w1.heap.size g a cap A O hO.con hO.dom x
            have pa := pr.alloc (.cells #[.int .i64 5, .int .i64 x, .int .i64 y] 32)
            have HM := Lib.hid (hmain _ (HOA (.cells #[.int .i64 5, .int .i64 x, .int .i64 y] 32)))
            have HR := Lib.hid (href _ pa.ref)
            clear hmain href
            go_wp2_with fail
            refine HM.out.mono ?_
            rintro e w3 ⟨rfl, rfl⟩
            go_wp2_with fail
            refine HR.out.mono ?_
            rintro e w4 ⟨rfl, rfl⟩
            go_wp2_with fail
            go_meet
            case rel => exact ⟨rfl, _, pa⟩
          · as_aux_lemma =>
            obtain ⟨r, f, A', hmain, href⟩ := both_drop m w1.heap.size g a cap A O hO.dom x
            have pa := pr.alloc (.cells #[.int .i64 6, .int .i64 x, .int .i64 y] 32)
            have d1 := (Blk.new wr 32 #[.int .i64 6, .int .i64 x, .int .i64 y]).cell 1
            simp only [List.getElem?_toArray, List.getElem?_cons_succ, List.getElem?_cons_zero] at d1
            have HM := Lib.hid (hmain _ (HOA (.cells #[.int .i64 6, .int .i64 x, .int .i64 y] 32)))
            clear hmain
            go_wp2_with fail
            refine HM.out.mono ?_
            rintro e w3 ⟨rfl, h3, k3⟩
            have f1 := (k3.cell (p := ⟨wr.heap.size, 1, none⟩) (by simp) hid).trans d1
            have HR := Lib.hid (href _ (HAp.out.ref pa.ref k3))
            clear href d1
            go_wp2_with fail
            refine HR.out.mono ?_
            rintro e w4 ⟨rfl, h4, hz4, k4⟩
            have pn := HAp.out.step pa h3 k3 h4 hz4 k4
            go_wp2_with fail
            go_meet
            case rel => exact ⟨rfl, _, pn⟩
          · as_aux_lemma =>
            have pa := pr.alloc (.cells #[.int .i64 7, .int .i64 x, .int .i64 y] 32)
            have hOa := HOA (.cells #[.int .i64 7, .int .i64 x, .int .i64 y] 32)
            have hTa := tab_keep hT pa.keep (by simp)
            have HC := Lib.hid (cntA_count hO.con hO.dom x y)
            obtain ⟨w3, hw3⟩ : ∃ w3, w3 = wr.alloc (.cells #[.int .i64 7, .int .i64 x, .int .i64 y] 32) := ⟨_, rfl⟩
            have d1 : w3.cell? ⟨wr.heap.size, 1, none⟩ = some (.int .i64 x) := by rw [hw3, (Blk.new wr 32 _).cell]; rfl
            have d2 : w3.cell? ⟨wr.heap.size, 2, none⟩ = some (.int .i64 y) := by rw [hw3, (Blk.new wr 32 _).cell]; rfl
            rw [← hw3] at pa hOa hTa ⊢
            clear hw3 HOA
            have hr0 := pa.ref.c0
            go_wp2_with fail
            go_loopw [28, 29] (fun c i ws => ∃ J n : Nat, J ≤ m.L ∧ c = .int .i64 (cntA A x y J) ∧ i = .int .i64 J ∧ ws = w3.drewN n) (fun _ i _ => m.L - (intOf i).toNat)
            case atStart => exact ⟨0, 0, Nat.zero_le _, rfl, rfl, rfl⟩
            case round =>
              obtain ⟨J, n, hJ, rfl, rfl, rfl⟩ := hrel
              have hle := cntA_le A x y J
              by_cases hJL : J < m.L
              · obtain rfl := pr.ref.ha (by omega)
                have cl := (pa.ref.at_ hJL).1
                have hJ' : (J : Int) < (m.L : Int) := by omega
                rcases hA : A J with _ | q
                · rw [hA] at cl
                  change _ = some (Value.int .i64 (-1)) at cl
                  have HR : Hid (cntA A x y (J + 1) = cntA A x y J) := Lib.hid (by simp [cntA, hA, optI])
                  clear hA
                  go_wp2_with fail
                  go_quiet (fail)
                  go_wp2_with fail
                  go_roundw
                  case rel => exact ⟨J + 1, _, by omega, by rw [HR.out], by go_num, rfl⟩
                  case measure => simp [intOf]; omega
                · rw [hA] at cl
                  change _ = some (Value.int .i64 (q : Int)) at cl
                  have hq0 : (0 : Int) ≤ (q : Int) := by omega
                  by_cases h1 : x ≤ (q : Int)
                  · by_cases h2 : (q : Int) < y
                    · have HR : Hid (cntA A x y (J + 1) = cntA A x y J + 1) := Lib.hid (by simp [cntA, hA, optI, h1, h2])
                      clear hA
                      go_wp2_with fail
                      go_quiet (fail)
                      go_wp2_with fail
                      go_roundw
                      case rel => exact ⟨J + 1, _, by omega, by rw [HR.out]; go_num, by go_num, rfl⟩
                      case measure => simp [intOf]; omega
                    · have HR : Hid (cntA A x y (J + 1) = cntA A x y J) := Lib.hid (by simp [cntA, hA, optI, h2])
                      have hd : decide ((q : Int) < y) = false := by simpa using h2
                      clear hA
                      go_wp2_with fail
                      go_quiet (fail)
                      go_wp2_with fail
                      go_roundw
                      case rel => exact ⟨J + 1, _, by omega, by rw [HR.out], by go_num, rfl⟩
                      case measure => simp [intOf]; omega
                  · have HR : Hid (cntA A x y (J + 1) = cntA A x y J) := Lib.hid (by simp [cntA, hA, optI, h1])
                    have hd : decide (x ≤ (q : Int)) = false := by simpa using h1
                    clear hA
                    go_wp2_with fail
                    go_quiet (fail)
                    go_wp2_with fail
                    go_roundw
                    case rel => exact ⟨J + 1, _, by omega, by rw [HR.out], by go_num, rfl⟩
                    case measure => simp [intOf]; omega
              · have hJe : J = m.L := by omega
                subst hJe
                go_wp2_with fail
                refine (lcount_any m A O x y _ (hOa.drewN n) hTa).mono ?_
                rintro e w4 ⟨rfl, rfl⟩
                rw [← HC.out]
                go_wp2_with fail
                go_meet
                case rel => exact ⟨rfl, _, (pa.drewN _)⟩
          · as_aux_lemma =>
            have pa := pr.alloc (.cells #[.int .i64 d, .int .i64 x, .int .i64 y] 32)
            go_wp2_with fail
            all_goals
              go_meet
              case rel => exact ⟨rfl, _, pa⟩
        case rest =>
          obtain ⟨rfl, A', pc⟩ := hcut
          as_aux_lemma =>
            obtain ⟨O', hO'⟩ := pc.map
            have hr0 := pc.ref.c0
            clear HOA hO pr c0 c1 c2
            go_wp2_with fail
            go_loop [30, 31] (fun c i => ∃ J : Nat, J ≤ m.L ∧ c = .int .i64 (mny A' J) ∧ i = .int .i64 J) (fun _ i => m.L - (intOf i).toNat)
            case atStart => exact ⟨0, Nat.zero_le _, rfl, rfl⟩
            case round =>
              obtain ⟨J, hJ, rfl, rfl⟩ := hrel
              have hle := mny_le A' J
              by_cases hJL : J < m.L
              · obtain rfl := pc.ref.ha (by omega)
                have cl := (pc.ref.at_ hJL).1
                have hJ' : (J : Int) < (m.L : Int) := by omega
                rcases hA : A' J with _ | q
                · rw [hA] at cl
                  change _ = some (Value.int .i64 (-1)) at cl
                  have HR : Hid (mny A' (J + 1) = mny A' J) := Lib.hid (by show mny A' J + (if (A' J).isSome = true then 1 else 0) = _; rw [hA]; rfl)
                  clear hA
                  go_wp2_with fail
                  go_round
                  case rel => exact ⟨J + 1, by omega, by rw [HR.out], by go_num⟩
                  case measure => simp [intOf]; omega
                · rw [hA] at cl
                  change _ = some (Value.int .i64 (q : Int)) at cl
                  have HR : Hid (mny A' (J + 1) = mny A' J + 1) := Lib.hid (by show mny A' J + (if (A' J).isSome = true then 1 else 0) = _; rw [hA]; rfl)
                  clear hA
                  go_wp2_with fail
                  go_round
                  case rel => exact ⟨J + 1, by omega, by rw [HR.out]; go_num, by go_num⟩
                  case measure => simp [intOf]; omega
              · have hJe : J = m.L := by omega
                subst hJe
                go_wp2_with fail
                refine (many_any m A' O' _ hO').mono ?_
                rintro e w4 ⟨rfl, rfl⟩
                go_wp2_with fail
                go_roundw
                case rel => exact ⟨j + 1, _, by omega, by go_num, pc⟩
                case measure => simp [intOf]; omega
      · go_wp2_with fail
        go_ret
        exact ⟨rfl, pr.keep⟩
end Go.Proofs.YtipfpcfepfkehaaDoor
