/- A few rows that grow side by side, each in a block of its own; the reference's In. -/
import Derived.Test.YtdlmjjlejkkniaaGreatHead
import Derived.Deep.AppendLies
namespace Go.Proofs.YtdlmjjlejkkniaaGreat
open Go.RowKit

/-- W rows of the call's own, no two of them one. -/
structure Fam (w : World) (N W : Nat) (A : Nat → Option Addr) (L C : Nat → Nat) (p : Nat → Nat → Nat) : Prop where
  own : ∀ i, i < W → OwnU w N (A i) (L i) (C i) (p i)
  ne : ∀ i j, i < W → j < W → i ≠ j → A i = A j → A i = none
def famV (A : Nat → Option Addr) (L C : Nat → Nat) : Nat → Value := fun i => .slice (A i) (L i) (C i)
def updF {α : Type} (f : Nat → α) (i : Nat) (v : α) : Nat → α := fun k => if k = i then v else f k
theorem updF_at {α : Type} (f : Nat → α) (i : Nat) (v : α) : updF f i v i = v := if_pos rfl
theorem updF_ne {α : Type} (f : Nat → α) {i k : Nat} (v : α) (h : k ≠ i) : updF f i v k = f k := if_neg h
section
variable {w w' : World} {N W : Nat} {A : Nat → Option Addr} {L C : Nat → Nat} {p : Nat → Nat → Nat}
theorem Fam.keep (h : Fam w N W A L C p) (hk : Keep (fun _ => False) w w') : Fam w' N W A L C p := ⟨fun i hi => (h.own i hi).keep hk, h.ne⟩
theorem Fam.more {M : Nat} (h : Fam w N W A L C p) (hM : M ≤ N) : Fam w M W A L C p := ⟨fun _ hi => (h.own _ hi).more hM, h.ne⟩
theorem Fam.congr {A' : Nat → Option Addr} {L' C' : Nat → Nat} {p' : Nat → Nat → Nat} (h : Fam w N W A L C p) (e1 : ∀ i, i < W → A' i = A i) (e2 : ∀ i, i < W → L' i = L i) (e3 : ∀ i, i < W → C' i = C i) (e4 : ∀ i, i < W → ∀ j, j < L i → p i j = p' i j) : Fam w N W A' L' C' p' :=
  ⟨fun i hi => by rw [e1 i hi, e2 i hi, e3 i hi]; exact (h.own i hi).congr (e4 i hi), fun i j hi hj hij h2 => by rw [e1 _ hi] at h2 ⊢; rw [e1 j hj] at h2; exact h.ne i j hi hj hij h2⟩
theorem Fam.nil (w : World) (N W : Nat) (p : Nat → Nat → Nat) : Fam w N W (fun _ => none) (fun _ => 0) (fun _ => 0) p := ⟨fun _ _ => OwnV.nil _ _ _ _, fun _ _ _ _ _ _ => rfl⟩
theorem OwnU.blk {a : Option Addr} {n c : Nat} {f : Nat → Nat} (h : OwnU w N a n c f) : (a = none ∧ n = 0) ∨ ∃ g, a = some ⟨g, 0, none⟩ ∧ N ≤ g ∧ g < w.heap.size := by
  rcases h.2 with ⟨e, e0⟩ | ⟨g, cap, cs, e, hN, hb, _⟩
  · injection e with e1 e2 e3
    exact .inl ⟨e1, e0⟩
  · injection e with e1 e2 e3
    exact .inr ⟨g, e1, hN, Blk.lt (t := 25) (cs := cs) hb⟩
theorem OwnU.grown {a : Option Addr} {n c : Nat} {f : Nat → Nat} (h : OwnU w N a n c f) {row : Option Nat} (hg : w.grownBy w' row) (hr : ∀ g, a = some ⟨g, 0, none⟩ → row ≠ some g) : OwnU w' N a n c f := by
  refine ⟨h.1, ?_⟩
  rcases h.2 with e | ⟨g, cap, cs, e, hN, hb, hr'⟩
  · exact .inl e
  · injection e with e1 e2 e3
    exact .inr ⟨g, cap, cs, by rw [e1, e2, e3], hN, (hg.block g (Blk.lt (t := 25) (cs := cs) hb) (fun e => hr g e1 e.symm)).trans hb, hr'⟩
theorem ownBlock_row {a : Option Addr} {n c : Nat} {f : Nat → Nat} (h : OwnU w N a n c f) {k : Nat} (hk : (Value.slice a n c).ownBlock = some k) : a = some ⟨k, 0, none⟩ := by
  rcases h.blk with ⟨rfl, rfl⟩ | ⟨g, rfl, _⟩
  · cases hk
  · have : some g = some k := hk
    cases this
    rfl
theorem OwnU.row_ge {a : Option Addr} {n c : Nat} {f : Nat → Nat} (h : OwnU w N a n c f) {k : Nat} (hk : (Value.slice a n c).ownBlock = some k) : N ≤ k := by
  have h1 := ownBlock_row h hk
  rcases h.blk with ⟨e, _⟩ | ⟨g, e, h2, _⟩
  · rw [h1] at e
    cases e
  · rw [h1] at e
    cases e
    exact h2
/-- One of them has grown. -/
theorem Fam.grow (h : Fam w N W A L C p) {r : Nat} (hr : r < W) {g n' c' : Nat} {q : Nat → Nat} (hq : OwnU w' N (some ⟨g, 0, none⟩) n' c' q) (hg : w.grownBy w' (Value.slice (A r) (L r) (C r)).ownBlock) (hl : (Value.slice (A r) (L r) (C r)).ownBlock = some g ∨ g = w.heap.size) :
    Fam w' N W (updF A r (some ⟨g, 0, none⟩)) (updF L r n') (updF C r c') (updF p r q) := by
  have key : ∀ j, j < W → j ≠ r → A j = some ⟨g, 0, none⟩ → False := fun j hj hjr e => by
    rcases hl with hl | hl
    · have h1 := ownBlock_row (h.own r hr) hl
      have h2 := h.ne j r hj hr hjr (e.trans h1.symm)
      rw [e] at h2
      cases h2
    · rcases (h.own j hj).blk with ⟨e1, _⟩ | ⟨g2, e1, _, h2⟩
      · rw [e] at e1
        cases e1
      · rw [e] at e1
        cases e1
        omega
  refine ⟨fun i hi => ?_, fun i j hi hj hij e => ?_⟩
  · by_cases hir : i = r
    · subst hir
      simp only [updF_at]
      exact hq
    · simp only [updF_ne _ _ hir]
      refine (h.own i hi).grown hg fun g2 e1 e2 => ?_
      have h1 := ownBlock_row (h.own r hr) e2
      have h2 := h.ne i r hi hr hir (e1.trans h1.symm)
      rw [e1] at h2
      cases h2
  · by_cases hir : i = r
    · subst hir
      rw [updF_at, updF_ne _ _ (fun e => hij e.symm)] at e
      exact (key j hj (fun e => hij e.symm) e.symm).elim
    · rw [updF_ne _ _ hir] at e ⊢
      by_cases hjr : j = r
      · subst hjr
        rw [updF_at] at e
        exact (key i hi hir e).elim
      · rw [updF_ne _ _ hjr] at e
        exact h.ne i j hi hj hij e
end
theorem famV_upd (A : Nat → Option Addr) (L C : Nat → Nat) (r : Nat) (a : Option Addr) (n c k : Nat) : famV (updF A r a) (updF L r n) (updF C r c) k = if k = r then .slice a n c else famV A L C k := by
  unfold famV updF
  by_cases h : k = r
  · simp [h]
  · simp [h]
theorem Tryz.info_row : (Tryz.prog.info? 31).map (fun i => (i.zero, i.size, i.bytes)) = some (some (.slice none 0 0), 1, 24) := by kernel_rfl
theorem make_rows (x : Int) (m : Nat) (hx : x = m) (hm : m ≤ 1000000) (w : World) :
    (Instr.makeSlice 69 (.int .i64 x) (.int .i64 x)).run Tryz.prog w = .ok (.slice (some ⟨w.heap.size, 0, none⟩) m m) (w.alloc (.cells (valsArr (fun _ => .slice none 0 0) m) 31)) :=
  make_vals (P := Tryz.prog) Tryz.underlying69 Tryz.info_row rfl x m hx (by omega) (by omega) w
/-- append of one symbol, just laid, in a region that draws its order: where the row lies behind it. -/
theorem step_append_u1 {w : World} {ops : Array Oper} {o : Oper} {a : Act} {K : Act → World → Prop} {Q : Exit → Act → World → Prop} {E : Prop} (hgd : o.guard = none) (s x : Operand)
    (ho : o.op = .call { callee := .builtin .append, args := #[s, x], argTypes := #[31, 31] })
    (N : Nat) (ao : Option Addr) (n co : Nat) (f : Nat → Nat) (hs : a.eval s = .slice ao n co) (hown : OwnU w N ao n co f) (g v : Nat) (hx : a.eval x = .slice (some ⟨g, 0, none⟩) 1 1) (hp : Blk w g 25 #[.int .u16 v])
    (hn : n ≤ 100000) (hN : N ≤ w.heap.size) (H : Nat) (hH : w.heap.size = H)
    (h : ∀ g' c' w', OwnU w' N (some ⟨g', 0, none⟩) (n + 1) c' (fun i => if i < n then f i else v) → w.grownBy w' (Value.slice ao n co).ownBlock → ((Value.slice ao n co).ownBlock = some g' ∨ g' = H) → g' < w'.heap.size → K (a.put o.dst (.slice (some ⟨g', 0, none⟩) (n + 1) c')) w') :
    if Region.wanted o (yielded ops a.tmps) = true then Oper.wp Tryz.prog o a w K Q else E := by
  obtain ⟨i, hi, hz, hsz, hby⟩ := Tryz.info_u16'
  refine step_append_lies w hgd s x 31 ho N 25 i _ 1 2 Tryz.underlying31 hi hz hsz hby rfl (by omega) (.slice ao n co) n (uList f n) hs hown ⟨g, 0, none⟩ 1 1 [.int .u16 v] hx rfl (World.news_of_block (cs := #[.int .u16 v]) hp) ?_ (by omega) (by unfold maxLen; omega) (by omega) hN H hH ?_
  · intro u hu
    simp only [List.mem_cons, List.not_mem_nil, or_false] at hu
    subst hu
    rfl
  · intro g' c' w' h1 h2 h3 h4
    refine h g' c' w' ?_ h2 h3 h4
    have e : uList (fun i => if i < n then f i else v) (n + 1) = uList f n ++ [.int .u16 v] := List.ext_getElem? fun i => by
      have hl : (uList f n).length = n := by simp [uList]
      have hg : ∀ (f : Nat → Nat) n j, (uList f n)[j]? = if j < n then some (.int .u16 (f j)) else none := fun f n j => by
        unfold uList
        by_cases h : j < n
        · rw [if_pos h, List.getElem?_map, List.getElem?_range h]
          rfl
        · rw [if_neg h, List.getElem?_eq_none]
          simp
          omega
      rw [hg]
      by_cases h1 : i < n
      · rw [List.getElem?_append_left (by omega), hg, if_pos h1, if_pos (by omega), if_pos h1]
      · rw [List.getElem?_append_right (by omega), hl]
        by_cases h2 : i = n
        · subst h2
          simp
        · rw [if_neg (by omega), List.getElem?_eq_none]
          simp
          omega
    unfold OwnU
    rw [e]
    exact h1
theorem div_row {W q r : Nat} (hr : r < W) : (q * W + r) % W = r := by rw [Nat.mul_comm, Nat.mul_add_mod, Nat.mod_eq_of_lt hr]
/-- W rows of K symbols each, in a row of rows. -/
def RowsAt (w : World) (N g W K : Nat) (p : Nat → Nat → Nat) : Prop := ∃ A C, Blk w g 31 (valsArr (famV A (fun _ => K) C) W) ∧ Fam w N W A (fun _ => K) C p
/-- How long the rows are, dealt out to row r of round q. -/
def lenF (q r : Nat) : Nat → Nat := fun i => if i < r then q + 1 else q
theorem Fam.far {w : World} {N W : Nat} {A : Nat → Option Addr} {L C : Nat → Nat} {p : Nat → Nat → Nat} (h : Fam w N W A L C p) {x : Addr} (hx : x.block < N) (u : Value) : Fam (w.setCell x u) N W A L C p := ⟨fun i hi => (h.own i hi).far hx u, h.ne⟩
/-- One symbol more has been dealt out. -/
theorem in_next {wA w5 : World} {g0 W q r g5 c5 pm cR : Nat} {aR : Option Addr} {A : Nat → Option Addr} {C p : Nat → Nat} (hF : Fam wA (g0 + 1) W A (lenF q r) C (fun i j => p (j * W + i))) (hb : Blk w5 g0 31 (valsArr (famV A (lenF q r) C) W)) (hr : r < W)
    (hV : some (famV A (lenF q r) C r) = some (.slice aR q cR)) (ho : OwnU w5 (g0 + 1) (some ⟨g5, 0, none⟩) (q + 1) c5 (fun i => if i < q then p (i * W + r) else pm)) (hg : wA.grownBy w5 (Value.slice aR q cR).ownBlock) (hl : (Value.slice aR q cR).ownBlock = some g5 ∨ g5 = wA.heap.size) (hpm : pm = p (q * W + r)) :
    ∃ q' r' A' C', r' < W ∧ q' * W + r' = q * W + r + 1 ∧ Blk (w5.setCell ⟨g0, r, none⟩ (.slice (some ⟨g5, 0, none⟩) (q + 1) c5)) g0 31 (valsArr (famV A' (lenF q' r') C') W) ∧
      Fam (w5.setCell ⟨g0, r, none⟩ (.slice (some ⟨g5, 0, none⟩) (q + 1) c5)) (g0 + 1) W A' (lenF q' r') C' (fun i j => p (j * W + i)) := by
  have hV' : Value.slice (A r) (lenF q r r) (C r) = .slice aR q cR := Option.some.inj hV
  have h1 := hF.grow hr ho (by rw [hV']; exact hg) (by rw [hV']; exact hl)
  have h2 := h1.far (x := ⟨g0, r, none⟩) (Nat.lt_succ_self g0) (.slice (some ⟨g5, 0, none⟩) (q + 1) c5)
  have b2 := hb.store r (.slice (some ⟨g5, 0, none⟩) (q + 1) c5)
  have fin : ∀ q' r', (∀ i, i < W → lenF q' r' i = updF (lenF q r) r (q + 1) i) → Blk (w5.setCell ⟨g0, r, none⟩ (.slice (some ⟨g5, 0, none⟩) (q + 1) c5)) g0 31 (valsArr (famV (updF A r (some ⟨g5, 0, none⟩)) (lenF q' r') (updF C r c5)) W) ∧
      Fam (w5.setCell ⟨g0, r, none⟩ (.slice (some ⟨g5, 0, none⟩) (q + 1) c5)) (g0 + 1) W (updF A r (some ⟨g5, 0, none⟩)) (lenF q' r') (updF C r c5) (fun i j => p (j * W + i)) := fun q' r' e => by
    refine ⟨?_, h2.congr (fun _ _ => rfl) e (fun _ _ => rfl) ?_⟩
    · rwa [valsArr_congr (h := famV (updF A r (some ⟨g5, 0, none⟩)) (lenF q' r') (updF C r c5)) (fun k hk => by
        rw [← famV_upd A (lenF q r) C r (some ⟨g5, 0, none⟩) (q + 1) c5 k]
        unfold famV
        rw [e k hk])] at b2
    · intro i hi j hj
      by_cases hir : i = r
      · subst hir
        rw [updF_at] at hj ⊢
        split
        · rfl
        · rw [hpm, show j = q by omega]
      · rw [updF_ne _ _ hir]
  by_cases hrW : r + 1 < W
  · obtain ⟨f1, f2⟩ := fin q (r + 1) (fun i _ => by
      unfold lenF updF
      by_cases h : i = r
      · rw [if_pos h, if_pos (by omega)]
      · rw [if_neg h]
        dsimp only
        by_cases h2 : i < r
        · rw [if_pos h2, if_pos (by omega)]
        · rw [if_neg h2, if_neg (by omega)])
    exact ⟨q, r + 1, _, _, hrW, by omega, f1, f2⟩
  · obtain ⟨f1, f2⟩ := fin (q + 1) 0 (fun i hi => by
      unfold lenF updF
      rw [if_neg (Nat.not_lt_zero i)]
      by_cases h : i = r
      · rw [if_pos h]
      · rw [if_neg h]
        dsimp only
        rw [if_pos (by omega)])
    exact ⟨q + 1, 0, _, _, by omega, by rw [Nat.succ_mul]; omega, f1, f2⟩
set_option maxRecDepth 100000 in
set_option maxHeartbeats 4000000 in
theorem rin_any (W K n : Nat) (a : Option Addr) (c : Nat) (p : Nat → Nat) (w : World) (ha : ArgU w a n p) (hW : 1 ≤ W) (hW4 : W ≤ 4) (hK : 1 ≤ K) (hK2 : K ≤ 10000) (hn : n = W * K) :
    Calls Tryz.prog 26 #[.int .i64 W, .slice a n c] w fun e w' => ∃ g, e = .returned (.tuple #[.slice (some ⟨g, 0, none⟩) W W, .int .i64 0]) ∧ w.heap.size ≤ g ∧ RowsAt w' w.heap.size g W K (fun i j => p (j * W + i)) ∧ Keep (fun _ => False) w w' := by
  have HA := Lib.hid ha
  have hn0 : ¬ n = 0 := by rw [hn]; exact Nat.mul_ne_zero (by omega) (by omega)
  have hn1 : n ≤ 40000 := by rw [hn]; exact Nat.mul_le_mul hW4 hK2
  have hW0 : ¬ W = 0 := by omega
  have hmod : ((n : Int)).tmod (W : Int) = 0 := by
    rw [Int.tmod_eq_emod_of_nonneg (by omega)]
    have : n % W = 0 := by rw [hn, Nat.mul_mod_right]
    omega
  have e0 : ((n : Int) == 0) = false := by simp; omega
  have hmk := make_rows W W rfl (by omega)
  have b0 := Blk.new w 31 (valsArr (fun _ => .slice none 0 0) W)
  have k0 := (Keep.refl (fun _ => False) w).alloc (.cells (valsArr (fun _ => .slice none 0 0) W) 31)
  have HN := Lib.hid hn
  clear ha hn
  go_enter Tryz.func26, Tryz.ntmps26
  go_wp2_with fail
  clear hmod e0
  go_loopw [7] (fun v wr => ∃ q r A C, r < W ∧ q * W + r ≤ n ∧ v = .int .i64 (q * W + r : Nat) ∧ Hid (Blk wr w.heap.size 31 (valsArr (famV A (lenF q r) C) W)) ∧ Hid (Fam wr (w.heap.size + 1) W A (lenF q r) C (fun i j => p (j * W + i))) ∧ Keep (fun _ => False) w wr) (fun v _ => n - (intOf v).toNat)
  case atStart => exact ⟨0, 0, fun _ => none, fun _ => 0, by omega, by omega, by rw [Nat.zero_mul]; rfl, Lib.hid b0, Lib.hid ((Fam.nil _ _ _ _).congr (fun _ _ => rfl) (fun i _ => by unfold lenF; simp) (fun _ _ => rfl) (fun _ _ _ _ => rfl)), k0⟩
  case round =>
    clear b0 k0
    obtain ⟨q, r, A, C, hr, hqr, rfl, HB, HF, kk⟩ := hrel
    obtain ⟨m, hm⟩ : ∃ m, m = q * W + r := ⟨_, rfl⟩
    have HM := Lib.hid hm
    rw [← hm] at hqr
    rw [← HM.out]
    clear hm
    by_cases hmn : m < n
    · have hmn' : (m : Int) < (n : Int) := by omega
      have hmd : ((m : Int)).tmod (W : Int) = (r : Int) := by
        rw [Int.tmod_eq_emod_of_nonneg (by omega)]
        have : m % W = r := by rw [HM.out, div_row hr]
        omega
      obtain ⟨bA, oA, rfl, hbA, hcA⟩ := HA.out.at_ (by omega)
      have hqn : q ≤ 100000 := by
        have h1 := HM.out
        have h2 : q * 1 ≤ q * W := Nat.mul_le_mul_left q hW
        omega
      have kd := kk.drew
      have c0 := (kd.cell (p := ⟨bA, oA + m, none⟩) hbA (by simp)).trans (hcA m hmn)
      have bd := HB.out.drew
      have c1 := bd.val hr
      have hfz := bd.frozen r
      rw [show famV A (lenF q r) C r = .slice (A r) q (C r) by unfold famV lenF; rw [if_neg (Nat.lt_irrefl r)]] at c1
      have OR := Lib.hid (show OwnU wr.drew (w.heap.size + 1) (A r) q (C r) (fun j => p (j * W + r)) from by
        have := (HF.out.keep ((Keep.refl _ wr).drew)).own r hr
        rwa [show lenF q r r = q by unfold lenF; rw [if_neg (Nat.lt_irrefl r)]] at this)
      have hszd := bd.lt
      have hpm := Lib.hid (show p m = p (q * W + r) by rw [HM.out])
      have hpl := HA.out.lt m hmn
      have bd2 : Blk (wr.alloc (.cells #[.int .u16 (p m : Nat)] 25)).drew w.heap.size 31 (valsArr (famV A (lenF q r) C) W) := (HB.out.alloc _).drew
      have kd2 : Keep (fun _ => False) w (wr.alloc (.cells #[.int .u16 (p m : Nat)] 25)).drew := (kk.alloc _).drew
      have d0 := (kd2.cell (p := ⟨bA, oA + m, none⟩) hbA (by simp)).trans (hcA m hmn)
      have d1 := bd2.val hr
      rw [show famV A (lenF q r) C r = .slice (A r) q (C r) by unfold famV lenF; rw [if_neg (Nat.lt_irrefl r)]] at d1
      have bL : Blk (wr.alloc (.cells #[.int .u16 (p m : Nat)] 25)).drew wr.heap.size 25 #[.int .u16 (p m : Nat)] := (Blk.new wr _ _).drew
      have OA := Lib.hid (show OwnU (wr.alloc (.cells #[.int .u16 (p m : Nat)] 25)).drew (w.heap.size + 1) (A r) q (C r) (fun j => p (j * W + r)) from OR.out.keep (show Keep (fun _ => False) wr.drew (wr.alloc (.cells #[.int .u16 (p m : Nat)] 25)).drew from (Keep.refl _ wr.drew).alloc _))
      have hszA := bd2.lt
      generalize hAr : A r = aR at *
      generalize hCr : C r = cR at *
      have HC := Lib.hid (hcA m hmn)
      generalize p m = pm at *
      have Har := Lib.hid hAr
      have Hcr := Lib.hid hCr
      have HV := Lib.hid (show some (famV A (lenF q r) C r) = some (.slice aR q cR) by unfold famV lenF; rw [if_neg (Nat.lt_irrefl r), hAr, hCr])
      clear hcA hAr hCr
      go_wp2_with fail
      clear hmn'
      go_region_law
        (first
          | (refine step_append_u1 rfl _ _ rfl (w.heap.size + 1) aR q cR (fun j => p (j * W + r)) rfl OA.out wr.heap.size pm rfl bL (by omega) hszA _ rfl ?_; intro g5 c5 w5 o5 gr5 hl5 hlt5; have b5 : Blk w5 w.heap.size 31 (valsArr (famV A (lenF q r) C) W) := (gr5.block w.heap.size bd2.lt (fun e => by have := OR.out.row_ge e.symm; omega)).trans bd2; have K5 : Keep (fun _ => False) w w5 := kd2.grown gr5 (fun k e => .inr (by have := OR.out.row_ge e; omega)); have f1 := (b5.val hr).trans HV.out; have f0 := (K5.cell (p := ⟨bA, oA + m, none⟩) hbA (by simp)).trans HC.out; have f2 := b5.frozen r; have K6 : Keep (fun _ => False) w (w5.setCell ⟨w.heap.size, r, none⟩ (.slice (some ⟨g5, 0, none⟩) (q + 1) c5)) := K5.setCell (.inr (Nat.le_refl _)) _; have f3 := (K6.cell (p := ⟨bA, oA + m, none⟩) hbA (by simp)).trans HC.out))
      all_goals
        (obtain ⟨q', r', A', C', hr', he, hbn, hfn⟩ := in_next (HF.out.keep (show Keep (fun _ => False) wr (wr.alloc (.cells #[.int .u16 (pm : Nat)] 25)).drew from ((Keep.refl _ wr).alloc _).drew)) b5 hr HV.out o5 gr5 hl5 hpm.out
         have HB' := Lib.hid hbn
         have HF' := Lib.hid hfn
         have HE := Lib.hid (show q' * W + r' = m + 1 by rw [he, HM.out])
         clear hbn hfn he c0 c1 d0 d1 f0 f1 f2 f3 hmd
         go_wp2_with fail
         exact ⟨⟨q', r', A', C', hr', by rw [HE.out]; omega, by rw [HE.out]; go_num, HB', HF', K6⟩, by simp [intOf]; omega⟩)
    · obtain rfl : m = n := by omega
      have hmn' : ¬ (m : Int) < (m : Int) := by omega
      obtain ⟨hq, rfl⟩ : q = K ∧ r = 0 := by
        have h1 := HM.out
        have h2 := HN.out
        rw [Nat.mul_comm W K] at h2
        have h3 : r = 0 := by
          have := div_row (q := q) hr
          rw [← h1, h2, Nat.mul_mod_left] at this
          exact this.symm
        subst h3
        rw [h2, Nat.add_zero] at h1
        exact ⟨(Nat.eq_of_mul_eq_mul_right (by omega) h1).symm, rfl⟩
      have HB' := Lib.hid (show Blk wr w.heap.size 31 (valsArr (famV A (fun _ => K) C) W) from by
        have := HB.out
        rwa [valsArr_congr (h := famV A (fun _ => K) C) (fun k _ => by unfold famV lenF; rw [if_neg (Nat.not_lt_zero k), hq])] at this)
      have HF' := Lib.hid (show Fam wr w.heap.size W A (fun _ => K) C (fun i j => p (j * W + i)) from (HF.out.more (by omega)).congr (fun _ _ => rfl) (fun i _ => by unfold lenF; rw [if_neg (Nat.not_lt_zero i), hq]) (fun _ _ => rfl) (fun _ _ _ _ => rfl))
      clear hq
      go_wp2_with fail
      go_ret2
      exact ⟨w.heap.size, rfl, Nat.le_refl _, ⟨A, C, HB'.out, HF'.out⟩, kk⟩
end Go.Proofs.YtdlmjjlejkkniaaGreat
