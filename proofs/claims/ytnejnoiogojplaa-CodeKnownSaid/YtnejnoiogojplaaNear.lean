/- The word of the code within eight places of a word: there is at most one, and both loops find it. Plain. -/
import Derived.Test.YtnejnoiogojplaaEuclid
namespace Go.Proofs.Ytnejnoiogojplaa

/-- The word p of n symbols by powers: place i is its symbol n - 1 - i. -/
def rv (p : Nat → Nat) (n : Nat) : Nat → Nat := fun i => if i < n then p (n - 1 - i) else 0
theorem rv_lt {p : Nat → Nat} {n : Nat} (hp : ∀ i, i < n → p i < 1024) (i : Nat) : rv p n i < 1024 := by
  unfold rv
  split
  · exact hp _ (by omega)
  · omega
/-- A word's values where each word of the code is nought. -/
def synW (p : Nat → Nat) (n : Nat) : Nat → Nat := syn (rv p n) n
theorem synW_lt {p : Nat → Nat} {n : Nat} (hp : ∀ i, i < n → p i < 1024) (j : Nat) : synW p n j < 1024 := syn_lt (rv_lt hp) n j
theorem synW_congr {p q : Nat → Nat} {n : Nat} (h : ∀ i, i < n → p i = q i) : synW p n = synW q n := by
  have e : rv p n = rv q n := funext fun i => by
    unfold rv
    split
    · exact h _ (by omega)
    · rfl
  unfold synW
  rw [e]
theorem synW_hor {p : Nat → Nat} {n : Nat} (hp : ∀ i, i < n → p i < 1024) (j : Nat) : hor (rv p n) (ex (j + 1)) 0 n = synW p n j := by
  rw [hor_xs (rv_lt hp)]
  exact xs_congr n fun i _ => by
    show gm (rv p n (0 + i)) _ = _
    rw [Nat.zero_add]
/-- Where two are unlike, by powers. -/
def wr (p q : Nat → Nat) (n : Nat) : Nat → Nat := fun i => rv p n i ^^^ rv q n i
theorem wr_lt {p q : Nat → Nat} {n : Nat} (hp : ∀ i, i < n → p i < 1024) (hq : ∀ i, i < n → q i < 1024) (i : Nat) : wr p q n i < 1024 := xor_lt (rv_lt hp i) (rv_lt hq i)
theorem syn_wr {p q : Nat → Nat} {n : Nat} (hp : ∀ i, i < n → p i < 1024) (hq : ∀ i, i < n → q i < 1024) (j : Nat) : syn (wr p q n) n j = synW p n j ^^^ synW q n j := by
  unfold synW syn
  rw [← xs_add]
  exact xs_congr n fun i _ => gm_add_left (rv_lt hp i) (rv_lt hq i) _
theorem wr_at {p q : Nat → Nat} {n i : Nat} (hi : i < n) : wr p q n (n - 1 - i) = p i ^^^ q i := by
  unfold wr rv
  rw [if_pos (by omega), if_pos (by omega), show n - 1 - (n - 1 - i) = i by omega]
theorem wr_ne {p q : Nat → Nat} {n i : Nat} (hi : i < n) : wr p q n i ≠ 0 ↔ p (n - 1 - i) ≠ q (n - 1 - i) := by
  unfold wr rv
  rw [if_pos hi, if_pos hi]
  constructor
  · intro h e
    rw [e, Nat.xor_self] at h
    exact h rfl
  · intro h e
    exact h (xor_eq_zero e)
/-- The places where two are unlike. -/
def plc (p q : Nat → Nat) (n : Nat) : List Nat := ((List.range n).filter (fun i => decide (p i ≠ q i))).map (fun i => n - 1 - i)
theorem plc_length (p q : Nat → Nat) (n : Nat) : (plc p q n).length = cntNe p q n := by
  unfold plc
  rw [List.length_map]
  induction n with
  | zero => rfl
  | succ n ih =>
    rw [List.range_succ, List.filter_append, List.length_append, ih, cntNe]
    congr 1
    by_cases h : p n = q n <;> simp [h]
theorem plc_mem {p q : Nat → Nat} {n : Nat} (i : Nat) : i ∈ plc p q n ↔ i < n ∧ wr p q n i ≠ 0 := by
  unfold plc
  rw [List.mem_map]
  constructor
  · rintro ⟨k, hk, rfl⟩
    have h := List.mem_filter.1 hk
    have h1 := List.mem_range.1 h.1
    refine ⟨by omega, (wr_ne (by omega)).2 ?_⟩
    rw [show n - 1 - (n - 1 - k) = k by omega]
    simpa using h.2
  · rintro ⟨hi, h0⟩
    exact ⟨n - 1 - i, List.mem_filter.2 ⟨List.mem_range.2 (by omega), by simpa using (wr_ne hi).1 h0⟩, by omega⟩
theorem plc_nodup (p q : Nat → Nat) (n : Nat) : (plc p q n).Nodup := by
  refine List.pairwise_map.2 (List.Pairwise.imp_of_mem (fun {a b} ha hb hab h => hab ?_) ((List.nodup_range (n := n)).filter _))
  have h1 := List.mem_range.1 (List.mem_filter.1 ha).1
  have h2 := List.mem_range.1 (List.mem_filter.1 hb).1
  omega

/-- q is a word of the code that is unlike p in d places, at most eight. -/
structure Near (p : Nat → Nat) (n : Nat) (q : Nat → Nat) (d : Nat) : Prop where
  lt : ∀ i, i < n → q i < 1024
  word : ∀ j, j < 16 → synW q n j = 0
  dist : cntNe q p n = d
  le : d ≤ 8
theorem words_apart {q r : Nat → Nat} {n : Nat} (hn : n ≤ 1023) (hq : ∀ i, i < n → q i < 1024) (hr : ∀ i, i < n → r i < 1024) (hqw : ∀ j, j < 16 → synW q n j = 0) (hrw : ∀ j, j < 16 → synW r n j = 0)
    (l : List Nat) (hl : l.length ≤ 16) (hs : ∀ i, i < n → q i ≠ r i → n - 1 - i ∈ l) : ∀ i, i < n → q i = r i := by
  have hw : IsWord (wr q r n) n 16 := fun j hj => by
    have := syn_wr hq hr j
    rw [hqw j hj, hrw j hj] at this
    exact this
  intro i hi
  have := word_light hn (wr_lt hq hr) hw l hl (fun k hk h0 => by
    have := hs (n - 1 - k) (by omega) ((wr_ne hk).1 h0)
    rwa [show n - 1 - (n - 1 - k) = k by omega] at this) (n - 1 - i) (by omega)
  rw [wr_at hi] at this
  exact xor_eq_zero this
/-- Two words of the code that are unlike in at most 16 places are one. -/
theorem far_words {q r : Nat → Nat} {n : Nat} (hn : n ≤ 1023) (hq : ∀ i, i < n → q i < 1024) (hr : ∀ i, i < n → r i < 1024) (hqw : ∀ j, j < 16 → synW q n j = 0) (hrw : ∀ j, j < 16 → synW r n j = 0)
    (hd : cntNe q r n ≤ 16) : ∀ i, i < n → q i = r i :=
  words_apart hn hq hr hqw hrw (plc q r n) (by rw [plc_length]; exact hd) (fun i hi h => (plc_mem _).2 ⟨by omega, (wr_ne (by omega)).2 (by rwa [show n - 1 - (n - 1 - i) = i by omega])⟩)
theorem Near.uniq {p q r : Nat → Nat} {n d e : Nat} (hn : n ≤ 1023) (hq : Near p n q d) (hr : Near p n r e) : (∀ i, i < n → q i = r i) ∧ d = e := by
  have h := words_apart hn hq.lt hr.lt hq.word hr.word (plc q p n ++ plc r p n) (by
    have h1 := hq.le
    have h2 := hr.le
    rw [List.length_append, plc_length, plc_length, hq.dist, hr.dist]
    omega) (fun i hi hne => by
    have key : ∀ s : Nat → Nat, s i ≠ p i → n - 1 - i ∈ plc s p n := fun s h => (plc_mem _).2 ⟨by omega, (wr_ne (by omega)).2 (by rwa [show n - 1 - (n - 1 - i) = i by omega])⟩
    by_cases h1 : q i = p i
    · by_cases h2 : r i = p i
      · exact absurd (h1.trans h2.symm) hne
      · exact List.mem_append_right _ (key r h2)
    · exact List.mem_append_left _ (key q h1))
  exact ⟨h, by rw [← hq.dist, ← hr.dist, cntNe_congr n h (fun _ _ => rfl)]⟩
section
variable {p q : Nat → Nat} {n d : Nat}
theorem Near.syn (h : Near p n q d) (hp : ∀ i, i < n → p i < 1024) (j : Nat) (hj : j < 16) : Proofs.Ytnejnoiogojplaa.syn (wr p q n) n j = synW p n j := by
  rw [syn_wr hp h.lt, h.word j hj, Nat.xor_zero]
theorem disc_congr {f S S' : Nat → Nat} {L j : Nat} (e : ∀ i, i ≤ j → S i = S' i) : disc f S L j = disc f S' L j := xs_congr _ fun i _ => by rw [e (j - i) (by omega)]
theorem Gen.congr {f S S' : Nat → Nat} {L m : Nat} (h : Gen f L S m) (e : ∀ i, i < m → S i = S' i) : Gen f L S' m := ⟨h.lt, h.one, h.zero, fun j h1 h2 => by rw [← disc_congr (fun i hi => e i (by omega))]; exact h.gen j h1 h2⟩
theorem BM.congr {S S' loc old : Nat → Nat} {m long by_ last : Nat} (h : BM S m loc old long by_ last) (e : ∀ i, i < m → S i = S' i) : BM S' m loc old long by_ last := by
  refine ⟨h.gen.congr e, h.le, h.olt, h.by0, h.l0, h.llt, ?_, fun g M hg => h.least g M (hg.congr (fun i hi => (e i hi).symm))⟩
  have hb := h.by0
  rcases h.was with h | ⟨k, M, h1, h2, h3, h4⟩
  · exact .inl h
  · exact .inr ⟨k, M, h1.congr (fun i hi => e i (by omega)), h2, by rw [← disc_congr (fun i hi => e i (by omega))]; exact h3, h4⟩
theorem Euc.congr {S S' a b u v : Nat → Nat} {la lb lu lv : Nat} (h : Euc S a b u v la lb lu lv) (e : ∀ i, i < 16 → S i = S' i) : Euc S' a b u v la lb lu lv :=
  ⟨h.pa, h.pb, h.pu, h.pv, h.down, h.v0, h.sum, fun j hj => by rw [← h.av j hj]; exact (pmul_low hj e).symm, fun j hj => by rw [← h.au j hj]; exact (pmul_low hj e).symm, h.big⟩
theorem yp_hor {f : Nat → Nat} {y m : Nat} (hf : ∀ i, f i < 1024) (hy : y < 1024) (hm : m ≤ 16) (hz : ∀ i, m ≤ i → i < 16 → f i = 0) : xs 16 (fun j => gm (f j) (yp y j)) = hor f y 0 m := by
  rw [hor_val hf hy, xs_more m 16 hm (fun i h1 h2 => by
    show gm (f i) _ = 0
    rw [hz i h1 h2, gm_zero_left])]
  exact xs_congr m fun k _ => by
    show gm (f k) _ = gm (f (0 + k)) _
    rw [Nat.zero_add]
/-- A locator whose roots are just the wrong places: what mends them. -/
theorem forney_mend {f : Nat → Nat} {L : Nat} (hn : n ≤ 1023) (hp : ∀ i, i < n → p i < 1024) (h : Near p n q d) (hf : ∀ i, f i < 1024) (hz : ∀ i, L < i → f i = 0) (h1 : ∃ i, f i ≠ 0) (hL : L = d) (hr : ∀ i, i < n → (val f L (inv i) = 0 ↔ i ∈ plc p q n))
    (i : Nat) (hi : i < n) (hne : val f L (inv (n - 1 - i)) = 0) :
    xs 16 (fun j => gm (pslope f j) (yp (inv (n - 1 - i)) j)) ≠ 0 ∧ q i = p i ^^^ gm (xs 16 (fun j => gm (pmul f (synW p n) j) (yp (inv (n - 1 - i)) j))) (gi (xs 16 (fun j => gm (pslope f j) (yp (inv (n - 1 - i)) j)))) := by
  have hle := h.le
  have hc := wr_lt hp h.lt
  have hF := forney hn hc hf hz (by omega) (k := n - 1 - i) (by omega) (fun k hk h0 => (hr k hk).2 ((plc_mem k).2 ⟨hk, h0⟩)) hne
  rw [xs_congr 16 (k := fun j => gm (pmul f (synW p n) j) (yp (inv (n - 1 - i)) j)) (fun j hj => by
    show gm (pmul f (Proofs.Ytnejnoiogojplaa.syn (wr p q n) n) j) _ = _
    rw [pmul_low hj (fun i hi => h.syn hp i hi)])] at hF
  have hs := slope_ne hf hz h1 ((plc p q n).map inv) (inv_nodup (plc_nodup p q n) (fun k hk => by have := ((plc_mem k).1 hk).1; omega)) (by rw [List.length_map, plc_length, cntNe_comm, h.dist, hL]) (fun r hr' => by
    obtain ⟨k, hk, rfl⟩ := List.mem_map.1 hr'
    exact ⟨inv_lt k, by rw [← val_hor hf (inv_lt k)]; exact (hr k ((plc_mem k).1 hk).1).2 hk⟩) (inv (n - 1 - i)) (List.mem_map.2 ⟨_, (hr _ (by omega)).1 hne, rfl⟩)
  rw [← yp_hor (slope_lt hf) (inv_lt _) (by omega) (fun j hj _ => by
    unfold pslope
    split
    · exact hz _ (by omega)
    · rfl)] at hs
  refine ⟨hs, ?_⟩
  have hsl : xs 16 (fun j => gm (pslope f j) (yp (inv (n - 1 - i)) j)) < 1024 := xs_lt _ fun j _ => gm_lt (slope_lt hf j) _
  rw [hF, gm_assoc (hc _) hsl (gi_lt _), gi_mul hsl hs, gm_one_right, wr_at hi, xor_cancel]
/-- The program's loop, at a word near p. -/
theorem bm_near {loc old : Nat → Nat} {long by_ last m : Nat} (hn : n ≤ 1023) (hp : ∀ i, i < n → p i < 1024) (h : Near p n q d) (hb : BM (synW p n) 16 loc old long by_ last) (hm : IsPol loc m) :
    long = d ∧ m = d + 1 ∧ (∀ i, i < n → (val loc long (inv (n - 1 - i)) = 0 ↔ p i ≠ q i)) ∧ ∀ i, i < n → val loc long (inv (n - 1 - i)) = 0 →
      xs 16 (fun j => gm (pslope loc j) (yp (inv (n - 1 - i)) j)) ≠ 0 ∧ q i = p i ^^^ gm (xs 16 (fun j => gm (pmul loc (synW p n) j) (yp (inv (n - 1 - i)) j))) (gi (xs 16 (fun j => gm (pslope loc j) (yp (inv (n - 1 - i)) j)))) := by
  have hlen : (plc p q n).length = d := by rw [plc_length, cntNe_comm, h.dist]
  have hle := h.le
  have hf := bm_found hn (wr_lt hp h.lt) (plc p q n) (plc_nodup p q n) (by omega) (fun i => plc_mem i) (hb.congr (fun i hi => (h.syn hp i hi).symm))
  have hld : long = d := by omega
  have hne : ∃ i, loc i ≠ 0 := ⟨0, by rw [hb.gen.one]; omega⟩
  have hroot : ∀ i, i ∈ plc p q n → val loc long (inv i) = 0 := fun i hi => (hf.2 i ((plc_mem i).1 hi).1).2 hi
  refine ⟨hld, ?_, fun i hi => ?_, fun i hi h0 => forney_mend hn hp h hb.gen.lt hb.gen.zero hne hld hf.2 i hi h0⟩
  · have h1 : m ≤ long + 1 := by
      rcases Nat.lt_or_ge (long + 1) m with hlt | hge
      · exact absurd (hb.gen.zero (m - 1) (by omega)) (hm.lead (by omega))
      · exact hge
    have h0 : 0 < m := by
      rcases Nat.eq_zero_or_pos m with h0 | h0
      · have := hm.zero 0 (by omega)
        rw [hb.gen.one] at this
        omega
      · exact h0
    have h2 : d ≤ m - 1 := by
      rcases Nat.lt_or_ge (m - 1) d with hlt | hge
      · exfalso
        refine hm.lead h0 (few_roots (m - 1) loc ((plc p q n).map inv) hm.lt (fun i hi => hm.zero i (by omega)) (inv_nodup (plc_nodup p q n) (fun k hk => by have := ((plc_mem k).1 hk).1; omega)) (fun r hr => ?_) (by rw [List.length_map]; omega) (m - 1))
        obtain ⟨k, hk, rfl⟩ := List.mem_map.1 hr
        refine ⟨inv_lt k, ?_⟩
        rw [← val_hor hm.lt (inv_lt k), ← val_more (L := m - 1) (M := long) (fun i hi => hm.zero i (by omega)) (by omega)]
        exact hroot k hk
      · exact hge
    omega
  · rw [hf.2 _ (by omega), plc_mem, wr_ne (by omega), show n - 1 - (n - 1 - i) = i by omega]
    exact ⟨fun h => h.2, fun h => ⟨by omega, h⟩⟩
/-- The reference's loop, at a word near p. -/
theorem euc_near {a b u v : Nat → Nat} {la lb lu lv : Nat} (hn : n ≤ 1023) (hp : ∀ i, i < n → p i < 1024) (h : Near p n q d) (he : Euc (synW p n) a b u v la lb lu lv) (hb : lb ≤ 8) :
    lv = d + 1 ∧ (∀ i, i < n → (val v (lv - 1) (inv (n - 1 - i)) = 0 ↔ p i ≠ q i)) ∧ ∀ i, i < n → val v (lv - 1) (inv (n - 1 - i)) = 0 →
      xs 16 (fun j => gm (pslope v j) (yp (inv (n - 1 - i)) j)) ≠ 0 ∧ q i = p i ^^^ gm (hor b (inv (n - 1 - i)) 0 lb) (gi (xs 16 (fun j => gm (pslope v j) (yp (inv (n - 1 - i)) j)))) := by
  have hlen : (plc p q n).length = d := by rw [plc_length, cntNe_comm, h.dist]
  have hle := h.le
  have hv0 := he.v0
  have hf := euc_found hn (wr_lt hp h.lt) (plc p q n) (plc_nodup p q n) (by omega) (fun i => plc_mem i) (he.congr (fun i hi => (h.syn hp i hi).symm)) hb
  refine ⟨by omega, fun i hi => ?_, fun i hi h0 => ?_⟩
  · rw [hf.2 _ (by omega), plc_mem, wr_ne (by omega), show n - 1 - (n - 1 - i) = i by omega]
    exact ⟨fun h => h.2, fun h => ⟨by omega, h⟩⟩
  · have := forney_mend hn hp h he.pv.lt (fun k hk => he.pv.zero k (by omega)) (he.pv.ne (by omega)) (by omega) hf.2 i hi h0
    rwa [xs_congr (h := fun j => gm (pmul v (synW p n) j) (yp (inv (n - 1 - i)) j)) 16 (k := fun j => gm (b j) (yp (inv (n - 1 - i)) j)) (fun j hj => by
      show gm (pmul v (synW p n) j) _ = _
      rw [he.av j hj]), yp_hor he.pb.lt (inv_lt _) (by omega) (fun j hj _ => he.pb.zero j hj)] at this
end
/-- z noughts ahead of a word. -/
def padZ (p : Nat → Nat) (z : Nat) : Nat → Nat := fun i => if i < z then 0 else p (i - z)
theorem padZ_lt {p : Nat → Nat} {n z : Nat} (hp : ∀ i, i < n → p i < 1024) (i : Nat) (hi : i < z + n) : padZ p z i < 1024 := by
  unfold padZ
  split
  · omega
  · exact hp _ (by omega)
theorem padZ_syn (p : Nat → Nat) (n z j : Nat) : synW (padZ p z) (z + n) j = synW p n j := by
  have e : ∀ i, i < n → rv (padZ p z) (z + n) i = rv p n i := fun i hi => by
    unfold rv padZ
    rw [if_pos (by omega), if_pos hi, if_neg (by omega)]
    congr 1
    omega
  have e0 : ∀ i, n ≤ i → rv (padZ p z) (z + n) i = 0 := fun i hi => by
    unfold rv padZ
    split
    · rw [if_pos (by omega)]
    · rfl
  unfold synW syn
  rw [xs_more n (z + n) (by omega) (fun i h1 _ => by
    show gm (rv (padZ p z) (z + n) i) _ = 0
    rw [e0 i h1, gm_zero_left])]
  exact xs_congr n fun i hi => by rw [e i hi]
theorem padZ_cnt (p q : Nat → Nat) (z : Nat) : ∀ n, cntNe (padZ p z) (padZ q z) (z + n) = cntNe p q n
  | 0 => cntNe_zero.2 fun i hi => by unfold padZ; rw [if_pos (by omega), if_pos (by omega)]
  | n + 1 => by
    have e : ∀ s : Nat → Nat, padZ s z (z + n) = s n := fun s => by
      unfold padZ
      rw [if_neg (by omega), Nat.add_sub_cancel_left]
    rw [← Nat.add_assoc, cntNe, padZ_cnt p q z n, cntNe, e, e]
theorem Near.pad {p q : Nat → Nat} {n d z : Nat} (h : Near p n q d) : Near (padZ p z) (z + n) (padZ q z) d :=
  ⟨padZ_lt h.lt, fun j hj => by rw [padZ_syn]; exact h.word j hj, by rw [padZ_cnt]; exact h.dist, h.le⟩
/-- A word found that is nought ahead is a shorter one's. -/
theorem Near.unpad {p r : Nat → Nat} {n d z : Nat} (h : Near (padZ p z) (z + n) r d) (h0 : ∀ i, i < z → r i = 0) : Near p n (fun i => r (z + i)) d := by
  have e : ∀ i, i < z + n → padZ (fun i => r (z + i)) z i = r i := fun i hi => by
    unfold padZ
    by_cases h1 : i < z
    · rw [if_pos h1, h0 i h1]
    · rw [if_neg h1]
      show r (z + (i - z)) = r i
      congr 1
      omega
  refine ⟨fun i hi => h.lt (z + i) (by omega), fun j hj => ?_, ?_, h.le⟩
  · rw [← padZ_syn _ n z, synW_congr e]
    exact h.word j hj
  · rw [← padZ_cnt _ _ z, cntNe_congr (z + n) e (fun _ _ => rfl)]
    exact h.dist
end Go.Proofs.Ytnejnoiogojplaa
