/- Two words of the code are unlike in at least 17 places: plain. -/
import Derived.Test.YtnejnoiogojplaaPoly2
namespace Go.Proofs.Ytnejnoiogojplaa

theorem xs_gm {h : Nat → Nat} (hh : ∀ i, h i < 1024) (y n : Nat) : gm (xs n h) y = xs n (fun i => gm (h i) y) := by
  induction n with
  | zero => exact gm_zero_left y
  | succ n ih => rw [xs, xs, gm_add_left (xs_lt n (fun i _ => hh i)) (hh n), ih]
theorem gm_xs {h : Nat → Nat} (y n : Nat) : gm y (xs n h) = xs n (fun i => gm y (h i)) := by
  induction n with
  | zero => exact gm_zero_right y
  | succ n ih => rw [xs, xs, gm_add_right, ih]
theorem xs_swap (f : Nat → Nat → Nat) (n m : Nat) : xs n (fun i => xs m (fun j => f i j)) = xs m (fun j => xs n (fun i => f i j)) := by
  induction n with
  | zero => exact (xs_zero m (fun _ _ => rfl)).symm
  | succ n ih =>
    rw [xs, ih, ← xs_add]
    rfl
theorem hor_xs {f : Nat → Nat} (hf : ∀ i, f i < 1024) (j : Nat) : ∀ m s, hor f (ex j) s m = xs m (fun i => gm (f (s + i)) (ex (i * j)))
  | 0, s => rfl
  | m + 1, s => by
    rw [hor, hor_xs hf j m (s + 1), xs_head, xs_gm (fun i => gm_lt (hf _) _), Nat.xor_comm]
    congr 1
    · show f s = gm (f (s + 0)) (ex (0 * j))
      rw [Nat.zero_mul, show ex 0 = 1 from rfl, gm_one_right, Nat.add_zero]
    · exact xs_congr m fun i _ => by
        show gm (gm (f (s + 1 + i)) (ex (i * j))) (ex j) = gm (f (s + (i + 1))) (ex ((i + 1) * j))
        rw [gm_assoc (hf _) (ex_lt _) (ex_lt _), ex_add, show s + 1 + i = s + (i + 1) by omega, Nat.add_mul, Nat.one_mul]
/-- The word c of n places is nought at the first s powers (of the code: 16). -/
def IsWord (c : Nat → Nat) (n s : Nat) : Prop := ∀ j, j < s → xs n (fun i => gm (c i) (ex (i * (j + 1)))) = 0
/-- Against a word of the code each polynomial of a degree below s sums up to nought. -/
theorem word_sum {c P : Nat → Nat} {n s : Nat} (hc : ∀ i, c i < 1024) (hP : ∀ i, P i < 1024) (h : IsWord c n s) :
    xs n (fun i => gm (c i) (gm (ex i) (hor P (ex i) 0 s))) = 0 := by
  have e : ∀ i, i < n → gm (c i) (gm (ex i) (hor P (ex i) 0 s)) = xs s (fun j => gm (P j) (gm (c i) (ex (i * (j + 1))))) := fun i _ => by
    rw [hor_xs hP, gm_xs, gm_xs]
    exact xs_congr s fun j _ => by
      show gm (c i) (gm (ex i) (gm (P (0 + j)) (ex (j * i)))) = gm (P j) (gm (c i) (ex (i * (j + 1))))
      rw [Nat.zero_add, ← gm_assoc (ex_lt _) (hP _) (ex_lt _), gm_comm (ex_lt _) (hP j), gm_assoc (hP _) (ex_lt _) (ex_lt _), ex_add, ← gm_assoc (hc _) (hP _) (ex_lt _), gm_comm (hc _) (hP j), gm_assoc (hP _) (hc _) (ex_lt _)]
      congr 3
      rw [Nat.mul_add, Nat.mul_one, Nat.mul_comm j i, Nat.add_comm]
  rw [xs_congr n e, xs_swap]
  exact xs_zero s fun j hj => by
    show xs n (fun i => gm (P j) (gm (c i) (ex (i * (j + 1))))) = 0
    rw [← gm_xs, h j hj, gm_zero_right]
/-- x + r, and the product over a list of roots. -/
def linR (r : Nat) : Nat → Nat := fun i => if i = 0 then r else if i = 1 then 1 else 0
theorem linR_pol {r : Nat} (hr : r < 1024) : IsPol (linR r) 2 :=
  ⟨fun i => by unfold linR; split <;> (try split) <;> omega, fun i hi => by unfold linR; rw [if_neg (by omega), if_neg (by omega)], fun _ => by show linR r 1 ≠ 0; unfold linR; rw [if_neg (by omega), if_pos rfl]; omega⟩
def prodL : List Nat → Nat → Nat
  | [] => fun i => if i = 0 then 1 else 0
  | r :: l => pmul (prodL l) (linR r)
theorem prodL_pol : ∀ (l : List Nat), (∀ r ∈ l, r < 1024) → IsPol (prodL l) (l.length + 1)
  | [], _ => ⟨fun i => by unfold prodL; split <;> omega, fun i hi => by unfold prodL; rw [if_neg (by simp at hi; omega)], fun _ => by show prodL [] 0 ≠ 0; unfold prodL; rw [if_pos rfl]; omega⟩
  | r :: l, h => by
    have := pmul_pol (prodL_pol l (fun x hx => h x (List.mem_cons_of_mem _ hx))) (linR_pol (h r (List.mem_cons_self ..))) (by omega) (by omega)
    rw [List.length_cons]
    rwa [show l.length + 1 + 2 - 1 = l.length + 1 + 1 by omega] at this
theorem hor_linR {r x : Nat} (hx : x < 1024) : hor (linR r) x 0 2 = x ^^^ r := by
  show gm (gm 0 x ^^^ 1) x ^^^ r = x ^^^ r
  rw [gm_zero_left, Nat.zero_xor, gm_comm (by omega) hx, gm_one_right]
theorem prodL_root {x : Nat} (hx : x < 1024) : ∀ (l : List Nat), (∀ r ∈ l, r < 1024) → (hor (prodL l) x 0 (l.length + 1) = 0 ↔ x ∈ l)
  | [], _ => by
    rw [show hor (prodL []) x 0 ([].length + 1) = gm 0 x ^^^ 1 from rfl, gm_zero_left]
    simp
  | r :: l, h => by
    have hr := h r (List.mem_cons_self ..)
    have hl := fun x hx => h x (List.mem_cons_of_mem _ hx)
    have hp := prodL_pol l hl
    have ih := prodL_root hx l hl
    have e := hor_pmul (linR_pol hr).lt (linR_pol hr).zero hx (l.length + 1) (prodL l) hp.lt hp.zero (l.length + 1 + 1) (by omega)
    rw [List.length_cons, show prodL (r :: l) = pmul (prodL l) (linR r) from rfl, e, hor_linR hx, List.mem_cons, ← ih]
    have l1 := hor_lt hp.lt (x := x) 0 (l.length + 1)
    have l2 : x ^^^ r < 1024 := xor_lt hx hr
    constructor
    · intro h0
      by_cases e1 : hor (prodL l) x 0 (l.length + 1) = 0
      · exact .inr e1
      · by_cases e2 : x ^^^ r = 0
        · exact .inl (xor_eq_zero e2)
        · exact absurd h0 (gm_ne_zero l1 l2 e1 e2)
    · rintro (h0 | h0)
      · rw [h0, Nat.xor_self, gm_zero_right]
      · rw [h0, gm_zero_left]
/-- A word of the code that is nought outside at most s places is nought. -/
theorem word_light {c : Nat → Nat} {n s : Nat} (hn : n ≤ 1023) (hc : ∀ i, c i < 1024) (h : IsWord c n s) (l : List Nat) (hl : l.length ≤ s) (hs : ∀ i, i < n → c i ≠ 0 → i ∈ l) : ∀ i, i < n → c i = 0 := by
  intro k hk
  by_cases h0 : c k = 0
  · exact h0
  · exfalso
    have hkl := hs k hk h0
    let m := (l.erase k).filter (fun i => decide (i ≠ k ∧ i < n))
    have hlen : m.length + 1 ≤ s := by
      have h1 : m.length ≤ (l.erase k).length := List.length_filter_le ..
      have h2 := List.length_erase_of_mem hkl
      have h3 := List.length_pos_of_mem hkl
      omega
    have hm : ∀ r ∈ m.map ex, r < 1024 := fun r hr => by
      obtain ⟨i, _, rfl⟩ := List.mem_map.1 hr
      exact ex_lt i
    have hp := prodL_pol (m.map ex) hm
    have hsum := word_sum hc hp.lt h
    rw [xs_one n k hk (fun i hi hik => ?_)] at hsum
    · have hv : hor (prodL (m.map ex)) (ex k) 0 s ≠ 0 := by
        rw [hor_more 0 ((m.map ex).length + 1) s (by rw [List.length_map]; omega) (fun i hi => hp.zero i (by omega))]
        intro hz
        obtain ⟨i, hi, e⟩ := List.mem_map.1 ((prodL_root (ex_lt k) _ hm).1 hz)
        have hik : i ≠ k ∧ i < n := by simpa using (List.mem_filter.1 hi).2
        exact hik.1 (ex_inj (by omega) (by omega) e)
      exact gm_ne_zero (hc k) (gm_lt (ex_lt k) _) h0 (gm_ne_zero (ex_lt k) (hor_lt hp.lt _ _) (ex_pos k) hv) hsum
    · by_cases hci : c i = 0
      · rw [hci, gm_zero_left]
      · have him : i ∈ m := List.mem_filter.2 ⟨(List.mem_erase_of_ne hik).2 (hs i hi hci), by simpa using ⟨hik, hi⟩⟩
        have hz := (prodL_root (ex_lt i) _ hm).2 (List.mem_map.2 ⟨i, him, rfl⟩)
        rw [hor_more 0 ((m.map ex).length + 1) s (by rw [List.length_map]; omega) (fun i hi => hp.zero i (by omega)), hz, gm_zero_right, gm_zero_right]
end Go.Proofs.Ytnejnoiogojplaa
