/- What Berlekamp and Massey find: plain. -/
import Derived.Test.YtnejnoiogojplaaFew
namespace Go.Proofs.Ytnejnoiogojplaa

theorem inv_inj {i j : Nat} (hi : i < 1023) (hj : j < 1023) (h : inv i = inv j) : i = j := by
  refine ex_inj hi hj (gm_cancel (inv_lt i) (ex_lt i) (ex_lt j) (inv_ne i) ?_)
  rw [gm_comm (inv_lt i) (ex_lt i), inv_mul, h, gm_comm (inv_lt j) (ex_lt j), inv_mul]
theorem inv_nodup {l : List Nat} (hn : l.Nodup) (hl : ∀ i ∈ l, i < 1023) : (l.map inv).Nodup :=
  List.pairwise_map.2 (List.Pairwise.imp_of_mem (fun {a b} ha hb hab h => hab (inv_inj (hl a ha) (hl b hb) h)) hn)
/-- At most eight wrong places, l: the loop's polynomial is as long as they are many, and just they are its roots. -/
theorem bm_found {c loc old : Nat → Nat} {n long by_ last : Nat} (hn : n ≤ 1023) (hc : ∀ i, c i < 1024) (l : List Nat) (hd : l.Nodup) (hl8 : l.length ≤ 8) (hl : ∀ i, i ∈ l ↔ i < n ∧ c i ≠ 0) (h : BM (syn c n) 16 loc old long by_ last) :
    long = l.length ∧ ∀ i, i < n → (val loc long (inv i) = 0 ↔ i ∈ l) := by
  have h1 : long ≤ l.length := h.least _ _ (gen_locOf hc l (fun i hi h0 => (hl i).2 ⟨hi, h0⟩))
  have hr : ∀ i, i ∈ l → val loc long (inv i) = 0 := fun i hi => roots_of_gen hn hc h.gen l (by omega) (fun i hi h0 => (hl i).2 ⟨hi, h0⟩) i ((hl i).1 hi).1 ((hl i).1 hi).2
  have few : ∀ m : List Nat, m.Nodup → (∀ i ∈ m, i < 1023 ∧ val loc long (inv i) = 0) → m.length ≤ long := fun m hm hv => by
    rcases Nat.lt_or_ge long m.length with hlt | hge
    · exfalso
      have := few_roots long loc (m.map inv) h.gen.lt h.gen.zero (inv_nodup hm (fun i hi => (hv i hi).1)) (fun r hr => by
        obtain ⟨i, hi, rfl⟩ := List.mem_map.1 hr
        exact ⟨inv_lt i, by rw [← val_hor h.gen.lt (inv_lt i)]; exact (hv i hi).2⟩) (by rw [List.length_map]; exact hlt) 0
      rw [h.gen.one] at this
      omega
    · exact hge
  have h2 := few l hd (fun i hi => ⟨by have := ((hl i).1 hi).1; omega, hr i hi⟩)
  refine ⟨by omega, fun i hi => ⟨fun hv => ?_, hr i⟩⟩
  by_cases hil : i ∈ l
  · exact hil
  · have := few (i :: l) (List.nodup_cons.2 ⟨hil, hd⟩) (fun j hj => by
      rcases List.mem_cons.1 hj with rfl | hj
      · exact ⟨by omega, hv⟩
      · exact ⟨by have := ((hl j).1 hj).1; omega, hr j hj⟩)
    rw [List.length_cons] at this
    omega
end Go.Proofs.Ytnejnoiogojplaa
