/- Triples of numbers among the arguments; points that were moved. Plain. -/
import Derived.Test.YtdlmjjlejkkniaaTornP
import Derived.Test.YtdlmjjlejkkniaaElems
namespace Go.Proofs.Ytdlmjjlejkkniaa
open Go.ChangeShapes Go.WideShapes Go.ChangeAt Go.RowKit

/-- Element i is the triple (X i, Y i, Z i). -/
structure ArgTriples (k : IntKind) (w : World) (a : Option Addr) (len : Nat) (X Y Z : Nat → Int) : Prop where
  small : len ≤ maxLen
  at_ : 0 < len → ∃ b off, a = some ⟨b, off, none⟩ ∧ b < w.heap.size ∧ ∀ i, i < len → w.cell? ⟨b, off + i * 3, none⟩ = some (.int k (X i)) ∧ w.cell? ⟨b, off + i * 3 + 1, none⟩ = some (.int k (Y i)) ∧ w.cell? ⟨b, off + i * 3 + 2, none⟩ = some (.int k (Z i))
  wf : ∀ i, i < len → (Lit.int k (X i)).wf = true ∧ (Lit.int k (Y i)).wf = true ∧ (Lit.int k (Z i)).wf = true
theorem ArgTriples.keep {k : IntKind} {w w' : World} {a : Option Addr} {len : Nat} {X Y Z : Nat → Int} (h : ArgTriples k w a len X Y Z) (hk : Keep (fun _ => False) w w') : ArgTriples k w' a len X Y Z :=
  ⟨h.small, fun h0 => by
    obtain ⟨b, off, e, hb, hc⟩ := h.at_ h0
    exact ⟨b, off, e, Nat.lt_of_lt_of_le hb hk.size, fun i hi => ⟨(hk.cell (p := ⟨b, off + i * 3, none⟩) hb (by simp)).trans (hc i hi).1, (hk.cell (p := ⟨b, off + i * 3 + 1, none⟩) hb (by simp)).trans (hc i hi).2.1, (hk.cell (p := ⟨b, off + i * 3 + 2, none⟩) hb (by simp)).trans (hc i hi).2.2⟩⟩, h.wf⟩
theorem triples_of {H : Type} {enc : TypeId × Value → H} {P : Program} {t e u : TypeId} {k : IntKind} {w : World} {base : Nat} {a : Option Addr} {len cap : Nat} {d : DataW H} {ps : List MemPlace} {sp : Nat → Bool}
    (ht : P.underlying t = some (.slice e)) (he : P.underlying e = some (.array 3 u)) (hu : P.underlying u = some (.int k)) (hce : P.cellsOf e = 3) (hcu : P.cellsOf u = 1)
    (h : DataW.Trod enc P w base sp true t (.slice a len cap) d ps) : ∃ X Y Z, ArgTriples k w a len X Y Z := by
  obtain ⟨hsm, C, hc, hr⟩ := argElems_of ht hce (by omega) h
  have hall : ∀ i, ∃ (q : Int × Int × Int), i < len → C i 0 = .int k q.1 ∧ C i 1 = .int k q.2.1 ∧ C i 2 = .int k q.2.2 ∧ (Lit.int k q.1).wf = true ∧ (Lit.int k q.2.1).wf = true ∧ (Lit.int k q.2.2).wf = true := by
    intro i
    by_cases hi : i < len
    · obtain ⟨n, x, hx⟩ := hr i hi
      obtain ⟨xs, m, _, _, _, hlen, hf⟩ := DataW.trod_array he hx
      have h0 := hf 0 (by omega)
      have h1 := hf 1 (by omega)
      have h2 := hf 2 (by omega)
      rw [hcu] at h0 h1 h2
      rw [List.getElem?_eq_getElem (by omega)] at h0 h1 h2
      obtain ⟨p, e0, _, w0⟩ := DataW.trod_int hu h0
      obtain ⟨q, e1, _, w1⟩ := DataW.trod_int hu h1
      obtain ⟨r, e2, _, w2⟩ := DataW.trod_int hu h2
      simp [List.range_succ] at e0 e1 e2
      exact ⟨(p, q, r), fun _ => ⟨e0, e1, e2, w0, w1, w2⟩⟩
    · exact ⟨(0, 0, 0), fun h => absurd h hi⟩
  refine ⟨fun i => (Classical.choose (hall i)).1, fun i => (Classical.choose (hall i)).2.1, fun i => (Classical.choose (hall i)).2.2, hsm, fun h0 => ?_, fun i hi => (Classical.choose_spec (hall i) hi).2.2.2⟩
  obtain ⟨b, off, rfl, hb, hcell⟩ := hc h0
  refine ⟨b, off, rfl, hb, fun i hi => ?_⟩
  obtain ⟨g0, g1, g2, _⟩ := Classical.choose_spec (hall i) hi
  refine ⟨?_, ?_, ?_⟩
  · rw [← g0, ← hcell i hi 0 (by omega)]; rfl
  · rw [← g1, ← hcell i hi 1 (by omega)]; rfl
  · rw [← g2, ← hcell i hi 2 (by omega)]; rfl
/-- (x % m + m) % m, as Go reckons it. -/
theorem wrap_idx (x : Int) (m : Nat) (hm : 0 < m) : (x.tmod (m : Int) + (m : Int)).tmod (m : Int) = ((x % (m : Int)).toNat : Int) ∧ (x % (m : Int)).toNat < m := by
  have h0 := Int.emod_nonneg x (show (m : Int) ≠ 0 by omega)
  have h1 := Int.emod_lt_of_pos x (show (0 : Int) < m by omega)
  have h2 : (x.tmod (m : Int) + (m : Int)).tmod (m : Int) = x % (m : Int) := by
    rw [Int.tmod_eq_emod (a := x)]
    split
    · rw [show x % (m : Int) - ((0 : Nat) : Int) + (m : Int) = x % (m : Int) + (m : Int) by omega, Int.tmod_eq_emod_of_nonneg (by omega), Int.add_emod_right, Int.emod_emod_of_dvd _ (Int.dvd_refl _)]
    · rw [show x % (m : Int) - ((m : Int).natAbs : Int) + (m : Int) = x % (m : Int) by omega, Int.tmod_eq_emod_of_nonneg h0, Int.emod_emod_of_dvd _ (Int.dvd_refl _)]
  rw [h2]
  omega
/-- Points moved j times. -/
def mvX (S : Nat → Nat) (m : Nat) (X Y : Nat → Int) : Nat → Nat → Int
  | 0 => fun i => reS (S i)
  | j + 1 => fun i => mvX S m X Y j i + if i = (X j % (m : Int)).toNat then 8 * (Y j).tmod 70 else 0
def mvY (S : Nat → Nat) (m : Nat) (X Z : Nat → Int) : Nat → Nat → Int
  | 0 => fun i => imS (S i)
  | j + 1 => fun i => mvY S m X Z j i + if i = (X j % (m : Int)).toNat then 8 * (Z j).tmod 70 else 0
theorem tmod70 (y : Int) : -69 ≤ y.tmod 70 ∧ y.tmod 70 ≤ 69 := by
  rw [Int.tmod_eq_emod]
  split <;> omega
theorem mvX_le {S : Nat → Nat} {m : Nat} {X Y : Nat → Int} (i : Nat) : ∀ j, (mvX S m X Y j i).natAbs ≤ 1000 + 552 * j
  | 0 => by have := re_le (S i); show (reS (S i)).natAbs ≤ _; omega
  | j + 1 => by
    have h1 := mvX_le (S := S) (m := m) (X := X) (Y := Y) i j
    have h2 := tmod70 (Y j)
    unfold mvX
    split <;> omega
theorem mvY_le {S : Nat → Nat} {m : Nat} {X Z : Nat → Int} (i : Nat) : ∀ j, (mvY S m X Z j i).natAbs ≤ 1000 + 552 * j
  | 0 => by have := im_le (S i); show (imS (S i)).natAbs ≤ _; omega
  | j + 1 => by
    have h1 := mvY_le (S := S) (m := m) (X := X) (Z := Z) i j
    have h2 := tmod70 (Z j)
    unfold mvY
    split <;> omega
/-- Which points are at nought or lie in another square. -/
def mvB (S : Nat → Nat) (x y : Nat → Int) (i : Nat) : Bool := onB (x i) (y i) || decide (sl (x i) (y i) ≠ S i)
theorem mv_iff {W K : Nat} {D : Nat → Nat} {x y : Nat → Int} (i : Nat) : mvB (pageS W K D) x y i = true ↔ onB (x i) (y i) = true ∨ pageS W K D i ≠ slS x y i := by
  unfold mvB slS
  rw [Bool.or_eq_true, decide_eq_true_iff]
  exact ⟨fun h => h.imp_right Ne.symm, fun h => h.imp_right Ne.symm⟩
/-- Points that lie anywhere, with at most eight wrong in each codeword. -/
theorem moved_says {k l s W K : Nat} {d : Nat → Nat} {x y : Nat → Int} (hm : MarkOk k l s) (hd : ∀ i, i < szB W K → d i < 256) (hW : 0 < W) (hK : K ≤ 64) (hwk : 8 < W * K) (h8 : mostJ (mvB (pageS W K (pgD k l s d (szB W K))) x y) W (W * (K + 16)) ≤ 8) (w' : World) (N : Nat) (e : Ending)
    (h : ReadR w' N x y W K e) : SaysR w' N e k l s (szB W K) d (mostJ (mvB (pageS W K (pgD k l s d (szB W K))) x y) W (W * (K + 16)) : Nat) 0 := by
  have hD : ∀ i, pgD k l s d (szB W K) i < 1024 := pgD_lt hm d _
  obtain ⟨a', c', he, ho⟩ := h.says hm hd hW hK hwk (fun r hr => rows_good hD (fun i _ => mv_iff i) hW h8 hr)
  rw [rows_most (fun i _ => mv_iff i) hW] at he
  exact ⟨a', c', he, ho⟩
theorem fs_congr {S S' : Nat → Nat} {W K : Nat} (hwk : 8 < W * K) (h : ∀ i, i < W * K → S i = S' i) : S 0 = S' 0 ∧ S 1 * 1024 + S 2 = S' 1 * 1024 + S' 2 ∧ seqN S 4 = seqN S' 4 ∧ (∀ j, j < szB W K → upB (fun i => S (8 + i)) j = upB (fun i => S' (8 + i)) j) ∧ (FSays S W K → FSays S' W K) := by
  have e0 := h 0 (by omega)
  have e1 := h 1 (by omega)
  have e2 := h 2 (by omega)
  have e3 := h 3 (by omega)
  have e4 := h 4 (by omega)
  have e5 := h 5 (by omega)
  have e6 := h 6 (by omega)
  have es : seqN S 4 = seqN S' 4 := by
    show (((0 * 1024 + S 3) * 1024 + S 4) * 1024 + S 5) * 1024 + S 6 = (((0 * 1024 + S' 3) * 1024 + S' 4) * 1024 + S' 5) * 1024 + S' 6
    rw [e3, e4, e5, e6]
  have eu : ∀ j, j < szB W K → upB (fun i => S (8 + i)) j = upB (fun i => S' (8 + i)) j := fun j hj => upB_congr (m := W * K - 8) (fun i hi => h (8 + i) (by omega)) (by unfold szB at hj; omega)
  refine ⟨e0, by rw [e1, e2], es, eu, fun hF => ⟨by rw [← e0, ← e1, ← e2, ← es]; exact hF.1, fun i hi => ?_⟩⟩
  have h1 := hF.2 i hi
  unfold pgD at h1 ⊢
  rw [← e0, ← e1, ← e2, ← es, ← h i hi, ← pkS_congr eu]
  exact h1
/-- Points that lie anywhere: what is read hangs on them alone. -/
theorem read_det {x y : Nat → Int} {W K : Nat} (hW : 0 < W) (hK : K ≤ 64) (hwk : 8 < W * K) : ∃ (k l s : Int) (z : Nat) (d : Nat → Nat) (rn : Nat) (rf : Int), (rf = 0 ∨ rf = 4 ∨ rf = 12 ∨ rf = 13) ∧ rn ≤ 8 ∧ ∀ w' N e, ReadR w' N x y W K e → SaysR w' N e k l s z d rn rf := by
  by_cases hb : anyB (fun i => offB (x i) (y i)) (W * (K + 16)) = false
  · exact ⟨0, 0, 0, 0, fun _ => 0, 0, 13, by omega, by omega, fun w' N e h => SaysR.nothing _ (h.blank hb)⟩
  have hb2 : anyB (fun i => offB (x i) (y i)) (W * (K + 16)) = true := by simpa using hb
  by_cases hr : ∃ r, r < W ∧ ∀ q, ¬ GoodRow (fun i => x (r + i * W)) (fun i => y (r + i * W)) (K + 16) q
  · obtain ⟨r, hr, hno⟩ := hr
    exact ⟨0, 0, 0, 0, fun _ => 0, 0, 4, by omega, by omega, fun w' N e h => SaysR.nothing _ (h.torn hb2 hr hno)⟩
  have hq : ∀ r, ∃ q, r < W → GoodRow (fun i => x (r + i * W)) (fun i => y (r + i * W)) (K + 16) q := fun r => by
    by_cases h1 : r < W
    · rcases Classical.em (∃ q, GoodRow (fun i => x (r + i * W)) (fun i => y (r + i * W)) (K + 16) q) with ⟨q, h2⟩ | h2
      · exact ⟨q, fun _ => h2⟩
      · exact absurd ⟨r, h1, fun q h3 => h2 ⟨q, h3⟩⟩ hr
    · exact ⟨fun _ => 0, fun h => absurd h h1⟩
  obtain ⟨q0, hq0⟩ : ∃ q0 : Nat → Nat → Nat, ∀ r, r < W → GoodRow (fun i => x (r + i * W)) (fun i => y (r + i * W)) (K + 16) (q0 r) := ⟨fun r => Classical.choose (hq r), fun r h => Classical.choose_spec (hq r) h⟩
  have hag : ∀ q, (∀ r, r < W → GoodRow (fun i => x (r + i * W)) (fun i => y (r + i * W)) (K + 16) (q r)) → (∀ r, r < W → ∀ j, j < K + 16 → q r j = q0 r j) ∧ ∀ i, i < W * K → wovS W q i = wovS W q0 i := fun q h => by
    have h1 : ∀ r, r < W → ∀ j, j < K + 16 → q r j = q0 r j := fun r hr j hj => by
      obtain ⟨⟨d', h3⟩, _⟩ := h r hr
      exact GoodRow.uniq (by omega) h3 (hq0 r hr) j hj
    refine ⟨h1, fun i hi => ?_⟩
    have h2 : i / W < K := by
      rw [Nat.div_lt_iff_lt_mul hW, Nat.mul_comm]
      exact hi
    exact h1 _ (Nat.mod_lt i hW) _ (by omega)
  by_cases hF : FSays (wovS W q0) W K
  · refine ⟨(wovS W q0 0 : Nat), (wovS W q0 1 * 1024 + wovS W q0 2 : Nat), (seqN (wovS W q0) 4 : Nat), szB W K, upB fun i => wovS W q0 (8 + i), mostN (wrF x y W K q0) W, 0, by omega, mostN_le fun r hr => (hq0 r hr).2, fun w' N e h => ?_⟩
    rcases h with ⟨h1, _⟩ | ⟨_, ⟨h1, _⟩ | ⟨q, h1, h2⟩⟩
    · rw [hb2] at h1
      cases h1
    · exact absurd h1 hr
    · obtain ⟨h3, h4⟩ := hag q h1
      obtain ⟨e0, e1, e2, e3, _⟩ := fs_congr hwk h4
      rcases h2 with ⟨h5, _⟩ | ⟨_, a', c', rfl, ho⟩
      · exact absurd ((fs_congr hwk fun i hi => (h4 i hi).symm).2.2.2.2 hF) h5
      · refine ⟨a', c', ?_, ho.congr fun j hj => by rw [e3 j hj]⟩
        rw [← e0, ← e1, ← e2, mostN_congr (fun r hr => wrF_congr (x := x) (y := y) (q := q) (q' := q0) (h3 r hr))]
        rfl
  · refine ⟨0, 0, 0, 0, fun _ => 0, 0, 12, by omega, by omega, fun w' N e h => SaysR.nothing _ (h.form hK hb2 hq0 (fun S hS hF2 => hF ((fs_congr hwk hS).2.2.2.2 hF2)) hW)⟩
end Go.Proofs.Ytdlmjjlejkkniaa
