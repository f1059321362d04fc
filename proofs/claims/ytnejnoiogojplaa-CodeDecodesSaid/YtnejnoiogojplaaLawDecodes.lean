/- blackboardlaw4.CodeDecodes. -/
import Derived.Test.YtnejnoiogojplaaRefDec
import Derived.Test.YtnejnoiogojplaaTurns
namespace Go.Proofs.Ytnejnoiogojplaa
open Go.ChangeShapes Go.WideShapes Go.ChangeAt Go.RowKit

/-- What a decoder says, in one shape. -/
def DecV (p : Nat → Nat) (n m : Nat) (f : Nat → Nat) (d z : Int) : Prop :=
  ((n ≤ 16 ∨ 1023 < n) ∧ m = 0 ∧ d = 0 ∧ z = 3) ∨
  (16 < n ∧ n ≤ 1023 ∧ (∃ i, i < n ∧ 1024 ≤ p i) ∧ m = 0 ∧ d = 0 ∧ z = 1) ∨
  (16 < n ∧ n ≤ 1023 ∧ (∀ i, i < n → p i < 1024) ∧ (∃ q k, Near p n q k ∧ m = n ∧ f = q ∧ d = (k : Nat) ∧ z = 0)) ∨
  (16 < n ∧ n ≤ 1023 ∧ (∀ i, i < n → p i < 1024) ∧ (∀ q k, ¬ Near p n q k) ∧ m = 0 ∧ d = 0 ∧ z = 4)
theorem DecV.uniq {p : Nat → Nat} {n m m' : Nat} {f f' : Nat → Nat} {d d' z z' : Int} (h : DecV p n m f d z) (h' : DecV p n m' f' d' z') : m = m' ∧ d = d' ∧ z = z' ∧ ∀ i, i < m → f i = f' i := by
  rcases h with ⟨h0, rfl, rfl, rfl⟩ | ⟨h1, h2, ⟨i, hi, hx⟩, rfl, rfl, rfl⟩ | ⟨h1, h2, h3, q, k, hq, rfl, rfl, rfl, rfl⟩ | ⟨h1, h2, h3, hno, rfl, rfl, rfl⟩ <;>
  rcases h' with ⟨g0, rfl, rfl, rfl⟩ | ⟨g1, g2, ⟨j, hj, gx⟩, rfl, rfl, rfl⟩ | ⟨g1, g2, g3, q', k', hq', rfl, rfl, rfl, rfl⟩ | ⟨g1, g2, g3, gno, rfl, rfl, rfl⟩
  · exact ⟨rfl, rfl, rfl, fun i hi => by omega⟩
  · omega
  · omega
  · omega
  · omega
  · exact ⟨rfl, rfl, rfl, fun i hi => by omega⟩
  · have := g3 i hi
    omega
  · have := g3 i hi
    omega
  · omega
  · have := h3 j hj
    omega
  · obtain ⟨e, rfl⟩ := Near.uniq h2 hq hq'
    exact ⟨rfl, rfl, rfl, e⟩
  · exact absurd hq (gno _ _)
  · omega
  · have := h3 j hj
    omega
  · exact absurd hq' (hno _ _)
  · exact ⟨rfl, rfl, rfl, fun i hi => by omega⟩
theorem DecV.lt {p : Nat → Nat} {n m : Nat} {f : Nat → Nat} {d z : Int} (h : DecV p n m f d z) : m ≤ 1023 ∧ ∀ i, i < m → f i < 65536 := by
  rcases h with ⟨_, rfl, _⟩ | ⟨_, _, _, rfl, _⟩ | ⟨_, h2, _, q, k, hq, rfl, rfl, _⟩ | ⟨_, _, _, _, rfl, _⟩
  · exact ⟨by omega, fun i hi => by omega⟩
  · exact ⟨by omega, fun i hi => by omega⟩
  · exact ⟨h2, fun i hi => by have := hq.lt i hi; omega⟩
  · exact ⟨by omega, fun i hi => by omega⟩
theorem DecA.form {w' : World} {N n : Nat} {p : Nat → Nat} {e : Ending} (h : DecA w' N p n e) : ∃ (a : Option Addr) (m c : Nat) (f : Nat → Nat) (d z : Int), e = .returned (.tuple #[.slice a m c, .int .i64 d, .int .i64 z]) ∧ OwnU w' N a m c f ∧ DecV p n m f d z := by
  have nil : OwnU w' N none 0 0 (fun _ => 0) := World.ownsRow_nil w' N _ 1
  rcases h with ⟨h0, rfl⟩ | ⟨h1, h2, h3, rfl⟩ | ⟨h1, h2, h3, h4⟩
  · exact ⟨none, 0, 0, fun _ => 0, 0, 3, rfl, nil, .inl ⟨h0, rfl, rfl, rfl⟩⟩
  · exact ⟨none, 0, 0, fun _ => 0, 0, 1, rfl, nil, .inr (.inl ⟨h1, h2, h3, rfl, rfl, rfl⟩)⟩
  · rcases h4 with ⟨q, d, a', c', hq, rfl, ho⟩ | ⟨hno, rfl⟩
    · exact ⟨a', n, c', q, d, 0, rfl, ho, .inr (.inr (.inl ⟨h1, h2, h3, q, d, hq, rfl, rfl, rfl, rfl⟩))⟩
    · exact ⟨none, 0, 0, fun _ => 0, 0, 4, rfl, nil, .inr (.inr (.inr ⟨h1, h2, h3, hno, rfl, rfl, rfl⟩))⟩

set_option maxHeartbeats 8000000 in
set_option maxRecDepth 100000 in
theorem decodes_true (a : Option Addr) (k c : Nat) (p : Nat → Nat) (w : World) (ha : k ≤ 1000000 → ArgU w a k p) :
    Calls Try.prog 4 #[.slice a k c] w fun e w' => e = .returned (.bool true) ∧ Keep (fun _ => False) w w' := by
  have HA' := Lib.hid ha
  clear ha
  go_enter Try.func4, Try.ntmps4
  go_wp2_with fail
  refine (cawake_true _).mono ?_
  rintro e w1 ⟨rfl, kk1⟩
  by_cases h1 : 120 < k
  · have e3 : (120 : Int) < (k : Int) := by omega
    go_wp2_with fail
    go_ret
    exact ⟨rfl, kk1⟩
  have e3 : ¬ (120 : Int) < (k : Int) := by omega
  go_wp2_with fail
  clear e3
  refine (make_any _).mono ?_
  rintro e w2 ⟨g1, g2, rfl, T, _, _, k2⟩
  obtain ⟨TV, k3⟩ := TVar.new T
  have kk2 := (kk1.comp k2).comp k3
  unfold tabV
  clear T k2 k3
  go_upto_region 6 with (fail)
  generalize w2.alloc (.cells #[.slice (some ⟨g1, 0, none⟩) 1023 1023, .slice (some ⟨g2, 0, none⟩) 1024 1024] 27) = W2 at *
  generalize w2.heap.size = gt at *
  have HA := Lib.hid ((HA'.out (by omega)).keep kk2)
  clear HA' kk1
  obtain ⟨d0, d1⟩ := tab_cells TV.b
  go_wp2_with fail
  refine (dec_all _ _ k _ p _ TV.t.has HA.out).mono ?_
  rintro e w3 ⟨hdec, k3⟩
  obtain ⟨a1, m1, c1, f1, n1, z1, rfl, o1, v1⟩ := hdec.form
  have kk3 := kk2.comp k3
  have TV3 := TV.keep k3
  have HA3 := Lib.hid (HA.out.keep k3)
  have V1 := Lib.hid v1
  have A1 := Lib.hid (o1.arg (by have := v1.lt.1; omega) v1.lt.2)
  clear d0 d1 HA TV kk2 k3 hdec o1 v1
  go_wp2_with fail
  refine (rdec_all a k c p w3 HA3.out).mono ?_
  rintro e w4 ⟨hdec, k4⟩
  obtain ⟨a2, m2, c2, f2, n2, z2, rfl, o2, v2⟩ := hdec.form
  obtain ⟨rfl, rfl, rfl, hf⟩ := V1.out.uniq v2
  have hm := v2.lt.1
  have A2 := Lib.hid (o2.arg (by omega) v2.lt.2)
  have A14 := Lib.hid (A1.out.keep k4)
  have kk4 := kk3.comp k4
  have TV4 := TV3.keep k4
  have HA4 := Lib.hid (HA3.out.keep k4)
  have HF := Lib.hid hf
  obtain ⟨d0, d1⟩ := tab_cells TV4.b
  clear HA3 TV3 kk3 k4 hdec o2 v2 hf A1 V1
  go_wp2_with fail
  refine (syndromes_any _ _ _ _ _ _ TV4.t.has HA4.out (by omega)).mono ?_
  rintro e w5 ⟨gS, rfl, _, rS, k5⟩
  have AS := Lib.hid (rS.argU (by omega) (fun i _ => by have := synM_lt p k i; omega))
  have A15 := Lib.hid (A14.out.keep k5)
  have A25 := Lib.hid (A2.out.keep k5)
  have HA5 := Lib.hid (HA4.out.keep k5)
  have kk5 := kk4.comp k5
  clear d0 d1 HA4 TV4 kk4 k5 rS A14 A2
  go_wp2_with fail
  refine (rsyn_any _ _ _ _ _ HA5.out (by omega)).mono ?_
  rintro e w6 ⟨aT, cT, rfl, oT, k6⟩
  have AT := Lib.hid (oT.arg (by omega) (fun i _ => by have := synM_lt p k i; omega))
  have A16 := Lib.hid (A15.out.keep k6)
  have A26 := Lib.hid (A25.out.keep k6)
  have AS6 := Lib.hid (AS.out.keep k6)
  have kk6 := kk5.comp k6
  clear HA5 kk5 k6 A15 A25 AS oT
  go_wp2_with fail
  refine (same_yes _ _ m1 _ _ f1 f2 _ A16.out A26.out (by omega) HF.out).mono ?_
  rintro e w7 ⟨rfl, k7⟩
  have AT7 := Lib.hid (AT.out.keep k7)
  have AS7 := Lib.hid (AS6.out.keep k7)
  have kk7 := kk6.comp k7
  clear kk6 k7 A16 A26 AS6 AT
  go_wp2_with fail
  refine (same_yes _ _ 16 _ _ (synW (fun i => p i % 1024) k) (synW (fun i => p i % 1024) k) _ AS7.out AT7.out (by omega) (fun _ _ => rfl)).mono ?_
  rintro e w8 ⟨rfl, k8⟩
  have kk8 := kk7.comp k8
  clear kk7 k8
  go_wp2_with fail
  go_ret
  exact ⟨rfl, kk8⟩
theorem decodes_of {H : Type} {enc : TypeId × Value → H} (w : World) {base : Nat} {a : Option Addr} {k c : Nat} {d : DataW H} {ps : List MemPlace} {sp : Nat → Bool}
    (ha : DataW.Trod enc Try.prog w base sp true 22 (.slice a k c) d ps) :
    Calls Try.prog 4 #[.slice a k c] w fun e w' => e = .returned (.bool true) ∧ Keep (fun _ => False) w w' := by
  obtain ⟨p, hp, _⟩ := argU_of ha
  exact decodes_true a k c p w hp
end Go.Proofs.Ytnejnoiogojplaa
