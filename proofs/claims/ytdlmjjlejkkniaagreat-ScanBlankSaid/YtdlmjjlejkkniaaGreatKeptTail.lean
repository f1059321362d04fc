/- A region that draws its order: a head whose operations read, and whose callees leave alone what was there (they may lay blocks of their own); behind it a tail in the text's order, that may write. Walked once. No statement of the program. -/
import Derived.Test.YtdlmjjlejkkniaaGreatKept
import Derived.StillTail
namespace Go.Proofs.YtdlmjjlejkkniaaGreat
open Go.RowKit

section
variable {P : Program} {ops : Array Oper} {md : Region.Mode} {C : World → Prop}

/-- Whatever order is picked among the first n; then T. -/
def headAny (P : Program) (md : Region.Mode) (ops : Array Oper) (C : World → Prop) (n : Nat) (T : Array Bool → Act → Prop) : Nat → Array Bool → Act → Prop
  | 0, listed, a => T listed a
  | m + 1, listed, a => Region.ready md ops listed ≠ [] ∧ ∀ i ∈ Region.ready md ops listed, i < n ∧ qOp P ops C i (headAny P md ops C n T m (listed.setIfInBounds i true)) a

theorem wpAny_of_headAny {n g : Nat} {T : Array Bool → Act → Prop} {Q : Exit → Act → World → Prop} (hT : ∀ listed a w, C w → T listed a → wpAny P md ops Q g listed a w) (m : Nat) :
    ∀ (listed : Array Bool) (a : Act) (w : World), C w → headAny P md ops C n T m listed a → wpAny P md ops Q (m + g) listed a w := by
  induction m with
  | zero =>
    intro listed a w hw h
    rw [Nat.zero_add]
    exact hT listed a w hw h
  | succ m ih =>
    intro listed a w hw h
    rw [show m + 1 + g = (m + g) + 1 by omega]
    exact ⟨fun h0 => absurd h0 h.1, fun i hi => wpOp_of_qOp hw (fun a' w' hw' h' => ih _ a' w' hw' h') (h.2 i hi).2⟩

theorem headAny_first {n i : Nat} {oi : Oper} {v : Value} {T : Array Bool → Act → Prop} (hi : ops[i]? = some oi) (hsel : ∀ (j : Nat) (o : Oper) cs b, ops[j]? = some o → o.op ≠ .select cs b)
    (hs : Region.sinkB md ops n = true) (hc : Region.chainB md ops n = true) (hn : n < ops.size) (hin : i < n) (hT : ∀ listed a, T listed a → ∀ j ∈ Region.ready md ops listed, n ≤ j) (m : Nat) :
    ∀ (listed : Array Bool) (a : Act), HeadInv md ops n listed →
      (∀ j oj, ops[j]? = some oj → j ≠ i → listed.getD j true = false → (∀ e ∈ oj.after, Region.binds md e = true → e.on ≠ i) → oi.apart ops oj = true) →
      i ∈ Region.ready md ops listed → YieldsIn P ops C oi v a →
      headAny P md ops C n T m (listed.setIfInBounds i true) (a.put oi.dst v) → headAny P md ops C n T (m + 1) listed a := by
  have inHead : ∀ (listed : Array Bool), HeadInv md ops n listed → listed.getD i true = false → ∀ j ∈ Region.ready md ops listed, j < n := fun listed inv hun j hj => by
    rcases Nat.lt_or_ge j n with h | h
    · exact h
    · exact absurd hj (tail_waits hs hc hn inv _ i rfl hin hun j h)
  induction m with
  | zero =>
    intro listed a inv _ hr hy H
    have hun := (mem_ready.1 hr).1
    refine ⟨fun h => (by rw [h] at hr; cases hr), fun j hj => ⟨inHead listed inv hun j hj, ?_⟩⟩
    by_cases hji : j = i
    · subst hji
      exact hy.qOp hi H
    · have h1 := hT _ _ H j (ready_mono hj hji)
      have h2 := inHead listed inv hun j hj
      omega
  | succ m ih =>
    intro listed a inv hfree hr hy H
    have hun := (mem_ready.1 hr).1
    refine ⟨fun h => (by rw [h] at hr; cases hr), fun j hj => ⟨inHead listed inv hun j hj, ?_⟩⟩
    by_cases hji : j = i
    · subst hji
      exact hy.qOp hi H
    · obtain ⟨hjun, oj, hoj, hall⟩ := mem_ready.1 hj
      have hnot : ∀ e ∈ oj.after, Region.binds md e = true → e.on ≠ i := fun e he hb heq => by
        have h1 := hall e he hb
        rw [heq, getD_both hun] at h1
        cases h1
      have h1 := (H.2 j (ready_mono hj hji)).2
      have h2 := qOp_put hoj (hfree j oj hoj hji hjun hnot) (fun cs b => hsel i oi cs b hi) (fun cs b => hsel j oj cs b hoj) hy h1
      refine qOp_mono (fun a' h3 => ih (listed.setIfInBounds j true) a' (inv.set hj (inHead listed inv hun j hj)) (fun k ok hk hki hku hno => hfree k ok hk hki ?_ hno) (ready_mono hr (Ne.symm hji)) h3.1 ?_) h2
      · by_cases hjk : j = k
        · subst hjk
          exact hjun
        · rwa [getD_set_ne true hjk] at hku
      · rw [Array.setIfInBounds_comm _ _ hji]
        exact h3.2

theorem headAny_lex {n g : Nat} {K : Act → Prop} (hsel : Region.noSelect ops = true) (hs : Region.sinkB md ops n = true) (hc : Region.chainB md ops n = true) (hn : n < ops.size) (l : List Oper) :
    ∀ (k : Nat) (listed : Array Bool) (a : Act), (∀ j, j < l.length → l[j]? = ops[k + j]?) → k + l.length = n → HeadInv md ops n listed →
    Region.lexHead md ops g l.length k listed = true → wpQuiet P ops C K l a →
    headAny P md ops C n (fun listed' a' => Region.seqB md ops g n listed' = true ∧ K a') l.length listed a := by
  induction l with
  | nil =>
    intro k listed a _ hk _ hB h
    obtain rfl : k = n := by simpa using hk
    exact ⟨by simpa [Region.lexHead] using hB, h⟩
  | cons o l ih =>
    intro k listed a hl hk inv hB h
    have h0 : ops[k]? = some o := by simpa using (hl 0 (by simp)).symm
    simp only [List.length_cons, Region.lexHead, Bool.and_eq_true] at hB
    obtain ⟨⟨hr, hf⟩, hB'⟩ := hB
    simp only [List.length_cons] at hk
    have hkn : k < n := by omega
    have hr' : k ∈ Region.ready md ops listed := by simpa using hr
    have hq : qOp P ops C k (wpQuiet P ops C K l) a := by
      unfold qOp
      simp only [h0]
      exact h
    obtain ⟨v, hy, hK⟩ := yieldsIn_of_qOp h0 hq
    refine headAny_first h0 (Region.noSelect_spec hsel) hs hc hn hkn (fun listed' a' hL => seqB_ready hL.1) l.length listed a inv (Region.free_spec h0 hf) hr' hy ?_
    refine ih (k + 1) _ _ (fun j hj => ?_) (by omega) (inv.set hr' hkn) hB' hK
    have := hl (j + 1) (by simp; omega)
    simpa [Nat.add_assoc, Nat.add_comm 1 j] using this
end

theorem wp_region_class_tail {P : Program} {C : World → Prop} {id : Nat} {Q : Exit → Act → World → Prop} {a : Act} {w : World} {l : List Oper} (n : Nat) (hm : P.follows .mixedOrders = true) (hB : Region.lexTailB .any l.toArray n = true)
    (hC : C { w with drawn := w.drawn + 1 })
    (h : wpQuiet P l.toArray C (fun a' => ∀ w', C w' → wpList P l.toArray Q (l.drop n) a' w') (l.take n) a) : (Code.region id l.toArray true).wp P Q a w := by
  simp only [Region.lexTailB, Bool.and_eq_true, decide_eq_true_eq] at hB
  obtain ⟨⟨⟨⟨hsel, hn⟩, hs⟩, hc⟩, hlex⟩ := hB
  have hn' : n < l.length := by simpa using hn
  have htl : (l.take n).length = n := by simp; omega
  have hdl : (l.drop n).length = l.toArray.size - n := by simp
  have inv0 : HeadInv .any l.toArray n (Array.replicate l.toArray.size false) :=
    ⟨by simp, fun j oj _ hl => (by rw [getD_replicate_false] at hl; cases hl), fun t _ ht => getD_in (by simpa using ht) (getD_replicate_false _ _)⟩
  have H := headAny_lex (P := P) (C := C) (md := .any) (g := l.toArray.size - n) hsel hs hc hn (l.take n) 0 _ a (fun j hj => by
    have hj' : j < n := by omega
    simp [hj']) (by omega) inv0 (by rw [htl]; exact hlex) h
  refine wp_region_any hm ?_
  have H2 := wpAny_of_headAny (Q := Q) (g := l.toArray.size - n) (fun listed a' w' hw' hL => by
    have h3 := wpAny_of_seq (md := .any) (Q' := Q) (l.drop n) n listed a' w' (fun j => by simp [List.getElem?_drop]) (by rw [hdl]; exact hL.1) (hL.2 w' hw')
    rwa [hdl] at h3) _ _ _ _ hC H
  rwa [htl, show n + (l.toArray.size - n) = l.toArray.size by omega] at H2

theorem wp_region_kept_tail {P : Program} {id : Nat} {Q : Exit → Act → World → Prop} {a : Act} {w : World} {l : List Oper} (n : Nat) (hm : P.follows .mixedOrders = true) (hB : Region.lexTailB .any l.toArray n = true)
    (h : wpQuiet P l.toArray (fun w' => ∃ p : KeptBy w, w' = p.v) (fun a' => ∀ w', (∃ p : KeptBy w, w' = p.v) → wpList P l.toArray Q (l.drop n) a' w') (l.take n) a) : (Code.region id l.toArray true).wp P Q a w :=
  wp_region_class_tail (C := fun w' => ∃ p : KeptBy w, w' = p.v) n hm hB ⟨⟨w.drew, (Keep.refl _ w).drew⟩, rfl⟩ h
end Go.Proofs.YtdlmjjlejkkniaaGreat
