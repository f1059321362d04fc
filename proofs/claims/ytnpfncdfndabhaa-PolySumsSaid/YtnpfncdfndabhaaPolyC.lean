/- The contracts once more, said of polynomials. -/
import Derived.Test.YtnpfncdfndabhaaLawReckons
import Derived.Test.YtnpfncdfndabhaaPoly2
namespace Go.Proofs.Ytnpfncdfndabhaa
open Go.RowKit

/-- A row that says the polynomial F, whose degree is below l. -/
structure Says (w : World) (a : Option Addr) (n : Nat) (F : Nat → Nat) (l : Nat) : Prop where
  ex : ∃ p, ArgU w a n p ∧ cut p n = F
  pol : IsPol F l
  le : l ≤ n
  small : n ≤ 100000
theorem Says.keep {w w' : World} {a : Option Addr} {n : Nat} {F : Nat → Nat} {l : Nat} (h : Says w a n F l) (k : Keep (fun _ => False) w w') : Says w' a n F l := by
  obtain ⟨⟨p, h1, h2⟩, h3, h4, h5⟩ := h
  exact ⟨⟨p, h1.keep k, h2⟩, h3, h4, h5⟩
theorem Says.of {w : World} {a : Option Addr} {n : Nat} {p : Nat → Nat} (h : ArgU w a n p) (hn : n ≤ 100000) : Says w a n (cut p n) (topB (cut p n) n) :=
  ⟨⟨p, h, rfl⟩, topB_pol (cut_lt p n) (fun _ hi => cut_zero p hi), topB_le _ _, hn⟩
theorem Says.res {w : World} {N : Nat} {a : Option Addr} {m : Nat} {F : Nat → Nat} (h : ResU w N a m F) (hF : IsPol F m) (hm : m ≤ 100000) : Says w a m F m :=
  ⟨⟨F, h.arg (by omega) hF.lt16, hF.cut (Nat.le_refl _)⟩, hF, Nat.le_refl _, hm⟩
theorem Says.arg {w : World} {a : Option Addr} {m : Nat} {F : Nat → Nat} (h : Says w a m F m) : ∃ p, ArgU w a m p ∧ ∀ i, i < m → p i % 1024 = F i := by
  obtain ⟨⟨p, h1, h2⟩, _, _, _⟩ := h
  exact ⟨p, h1, fun i hi => by rw [← h2, cut_in _ hi]⟩

theorem trim_p {w : World} {a : Option Addr} {n c : Nat} {F : Nat → Nat} {l : Nat} (h : Says w a n F l) (hc : n ≤ c) :
    Calls Try.prog 17 #[.slice a n c] w fun e w' => ∃ a', e = .returned (.slice a' l l) ∧ ResU w' w.heap.size a' l F ∧ Keep (fun _ => False) w w' := by
  obtain ⟨⟨p, h1, rfl⟩, hp, hl, hs⟩ := h
  refine (trim_any a n c p w h1 (by omega) hc).mono ?_
  rintro e w' ⟨a', m, rfl, r, pm, _, k⟩
  obtain rfl := hp.uniq pm
  exact ⟨a', rfl, r, k⟩
theorem slope_p {w : World} {a : Option Addr} {n c : Nat} {F : Nat → Nat} {l : Nat} (h : Says w a n F l) :
    Calls Try.prog 16 #[.slice a n c] w fun e w' => ∃ a' m, e = .returned (.slice a' m m) ∧ ResU w' w.heap.size a' m (pslope F) ∧ IsPol (pslope F) m ∧ m ≤ n ∧ Keep (fun _ => False) w w' := by
  obtain ⟨⟨p, h1, rfl⟩, hp, hl, hs⟩ := h
  refine (slope_any a n c p w h1 (by omega)).mono ?_
  rintro e w' ⟨a', m, rfl, r, pm, lm, k⟩
  exact ⟨a', m, rfl, r, pm, by omega, k⟩
theorem add_p {w : World} {a b : Option Addr} {n m c d : Nat} {F G : Nat → Nat} {l k : Nat} (h : Says w a n F l) (h' : Says w b m G k) :
    Calls Try.prog 13 #[.slice a n c, .slice b m d] w fun e w' => ∃ a' j, e = .returned (.slice a' j j) ∧ ResU w' w.heap.size a' j (padd F G) ∧ IsPol (padd F G) j ∧ j ≤ max n m ∧ Keep (fun _ => False) w w' := by
  obtain ⟨⟨p, h1, rfl⟩, hp, hl, hs⟩ := h
  obtain ⟨⟨q, h2, rfl⟩, hq, hl', hs'⟩ := h'
  exact add_any a b n m c d p q w h1 h2 (by omega) (by omega)
theorem mul_p {w : World} {V : Value} {a b : Option Addr} {n m c d : Nat} {F G : Nat → Nat} {l k : Nat} (hT : HasT w V) (h : Says w a n F l) (h' : Says w b m G k) (hc : n ≤ c) (hd : m ≤ d) (hs2 : l + k ≤ 4097) :
    Calls Try.prog 11 #[V, .slice a n c, .slice b m d] w fun e w' => ∃ a' j, e = .returned (.slice a' j j) ∧ ResU w' w.heap.size a' j (pmul F G) ∧ IsPol (pmul F G) j ∧ j ≤ 4096 ∧ Keep (fun _ => False) w w' := by
  obtain ⟨⟨p, h1, rfl⟩, hp, hl, hs⟩ := h
  obtain ⟨⟨q, h2, rfl⟩, hq, hl', hs'⟩ := h'
  have := mul_any V a b n m c d p q l k hp hq w hT h1 h2 (by omega) (by omega) hc hd
  rwa [pmulM_eq hp hq hs2] at this
/-- The value of a polynomial. -/
def ev (F : Nat → Nat) (x l : Nat) : Nat := hor F (x % 1024) 0 l
theorem at_p {w : World} {V : Value} {a : Option Addr} {n c x : Nat} {F : Nat → Nat} {l : Nat} (hT : HasT w V) (h : Says w a n F l) :
    Calls Try.prog 12 #[V, .slice a n c, .int .u16 x] w fun e w' => e = .returned (.int .u16 (ev F x l : Nat)) ∧ Keep (fun _ => False) w w' := by
  obtain ⟨⟨p, h1, rfl⟩, hp, hl, hs⟩ := h
  have := at_any V a n c x p w hT h1
  rwa [hor_more 0 l n hl (fun i hi => hp.zero i (by omega))] at this
theorem div_p {w : World} {V : Value} {a b : Option Addr} {n m c d : Nat} {F G : Nat → Nat} {l k : Nat} (hT : HasT w V) (h : Says w a n F l) (h' : Says w b m G k) (hc : n ≤ c) (hd : m ≤ d) :
    Calls Try.prog 18 #[V, .slice a n c, .slice b m d] w fun e w' => ∃ aq nq ar nr, e = .returned (.tuple #[.slice aq nq nq, .slice ar nr nr, .bool (k != 0)]) ∧
      ResU w' w.heap.size aq nq (quo F l G k) ∧ IsPol (quo F l G k) nq ∧ ResU w' w.heap.size ar nr (rst F l G k) ∧ IsPol (rst F l G k) nr ∧ nq ≤ n + 1 ∧ nr ≤ n ∧ Keep (fun _ => False) w w' := by
  obtain ⟨⟨p, h1, rfl⟩, hp, hl, hs⟩ := h
  obtain ⟨⟨q, h2, rfl⟩, hq, hl', hs'⟩ := h'
  refine (div_any V a b n m c d p q l k hp hq w hT h1 h2 (by omega) (by omega) hc hd).mono ?_
  rintro e w' ⟨aq, nq, ar, nr, rfl, r1, p1, r2, p2, l1, l2, k⟩
  exact ⟨aq, nq, ar, nr, rfl, r1, p1, r2, p2, by unfold quoN at l1; omega, by omega, k⟩
theorem same_p {w : World} {a b : Option Addr} {n N M c d : Nat} {F : Nat → Nat} (h : ResU w N a n F) (h' : ResU w M b n F) (hF : IsPol F n) (hn : n ≤ 100000) :
    Calls Try.prog 15 #[.slice a n c, .slice b n d] w fun e w' => e = .returned (.bool true) ∧ Keep (fun _ => False) w w' :=
  same_yes a b n c d F F w (h.arg (by omega) hF.lt16) (h'.arg (by omega) hF.lt16) (by omega) (fun _ _ => rfl)
theorem ev_lt {F : Nat → Nat} (hF : ∀ i, F i < 1024) (x l : Nat) : ev F x l < 1024 := hor_lt hF _ _
theorem ev_pmul {F G : Nat → Nat} {l k j : Nat} (hF : IsPol F l) (hG : IsPol G k) (hj : IsPol (pmul F G) j) (x : Nat) : ev (pmul F G) x j = gm (ev F x l) (ev G x k) := by
  unfold ev
  rw [← hor_pmul hG.lt hG.zero (by omega) l F hF.lt hF.zero (l + k + j) (by omega)]
  exact (hor_more 0 j (l + k + j) (by omega) (fun i hi => hj.zero i (by omega))).symm
end Go.Proofs.Ytnpfncdfndabhaa
