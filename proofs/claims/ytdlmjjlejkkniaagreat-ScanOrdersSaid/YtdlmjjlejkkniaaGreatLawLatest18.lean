/- ScanLatest, called with anything, returns true: the walk and the plain law. -/
import Derived.Test.YtdlmjjlejkkniaaGreatLatest
import Derived.Test.YtdlmjjlejkkniaaGreatElems
namespace Go.Proofs.YtdlmjjlejkkniaaGreat
open Go.ChangeShapes Go.WideShapes Go.ChangeAt Go.RowKit

/-- Element i is the four numbers X i, Y i, Z i, V i. -/
structure ArgQuads (k : IntKind) (w : World) (a : Option Addr) (len : Nat) (X Y Z V : Nat → Int) : Prop where
  small : len ≤ maxLen
  at_ : 0 < len → ∃ b off, a = some ⟨b, off, none⟩ ∧ b < w.heap.size ∧ ∀ i, i < len → w.cell? ⟨b, off + i * 4, none⟩ = some (.int k (X i)) ∧ w.cell? ⟨b, off + i * 4 + 1, none⟩ = some (.int k (Y i)) ∧ w.cell? ⟨b, off + i * 4 + 2, none⟩ = some (.int k (Z i)) ∧ w.cell? ⟨b, off + i * 4 + 3, none⟩ = some (.int k (V i))
theorem ArgQuads.keep {k : IntKind} {w w' : World} {a : Option Addr} {len : Nat} {X Y Z V : Nat → Int} (h : ArgQuads k w a len X Y Z V) (hk : Keep (fun _ => False) w w') : ArgQuads k w' a len X Y Z V :=
  ⟨h.small, fun h0 => by
    obtain ⟨b, off, e, hb, hc⟩ := h.at_ h0
    exact ⟨b, off, e, Nat.lt_of_lt_of_le hb hk.size, fun i hi => ⟨(hk.cell (p := ⟨b, off + i * 4, none⟩) hb (by simp)).trans (hc i hi).1, (hk.cell (p := ⟨b, off + i * 4 + 1, none⟩) hb (by simp)).trans (hc i hi).2.1, (hk.cell (p := ⟨b, off + i * 4 + 2, none⟩) hb (by simp)).trans (hc i hi).2.2.1, (hk.cell (p := ⟨b, off + i * 4 + 3, none⟩) hb (by simp)).trans (hc i hi).2.2.2⟩⟩⟩
theorem quads_of {H : Type} {enc : TypeId × Value → H} {P : Program} {t e u : TypeId} {k : IntKind} {w : World} {base : Nat} {a : Option Addr} {len cap : Nat} {d : DataW H} {ps : List MemPlace} {sp : Nat → Bool}
    (ht : P.underlying t = some (.slice e)) (he : P.underlying e = some (.array 4 u)) (hu : P.underlying u = some (.int k)) (hce : P.cellsOf e = 4) (hcu : P.cellsOf u = 1)
    (h : DataW.Trod enc P w base sp true t (.slice a len cap) d ps) : ∃ X Y Z V, ArgQuads k w a len X Y Z V := by
  obtain ⟨hsm, C, hc, hr⟩ := argElems_of ht hce (by omega) h
  have hall : ∀ i, ∃ (q : Int × Int × Int × Int), i < len → C i 0 = .int k q.1 ∧ C i 1 = .int k q.2.1 ∧ C i 2 = .int k q.2.2.1 ∧ C i 3 = .int k q.2.2.2 := by
    intro i
    by_cases hi : i < len
    · obtain ⟨n, x, hx⟩ := hr i hi
      obtain ⟨xs, m, _, _, _, hlen, hf⟩ := DataW.trod_array he hx
      have h0 := hf 0 (by omega)
      have h1 := hf 1 (by omega)
      have h2 := hf 2 (by omega)
      have h3 := hf 3 (by omega)
      rw [hcu] at h0 h1 h2 h3
      rw [List.getElem?_eq_getElem (by omega)] at h0 h1 h2 h3
      obtain ⟨p, e0, _, _⟩ := DataW.trod_int hu h0
      obtain ⟨q, e1, _, _⟩ := DataW.trod_int hu h1
      obtain ⟨r, e2, _, _⟩ := DataW.trod_int hu h2
      obtain ⟨s, e3, _, _⟩ := DataW.trod_int hu h3
      simp [List.range_succ] at e0 e1 e2 e3
      exact ⟨(p, q, r, s), fun _ => ⟨e0, e1, e2, e3⟩⟩
    · exact ⟨(0, 0, 0, 0), fun h => absurd h hi⟩
  refine ⟨fun i => (Classical.choose (hall i)).1, fun i => (Classical.choose (hall i)).2.1, fun i => (Classical.choose (hall i)).2.2.1, fun i => (Classical.choose (hall i)).2.2.2, hsm, fun h0 => ?_⟩
  obtain ⟨b, off, rfl, hb, hcell⟩ := hc h0
  refine ⟨b, off, rfl, hb, fun i hi => ?_⟩
  obtain ⟨g0, g1, g2, g3⟩ := Classical.choose_spec (hall i) hi
  refine ⟨?_, ?_, ?_, ?_⟩
  · rw [← g0, ← hcell i hi 0 (by omega)]; rfl
  · rw [← g1, ← hcell i hi 1 (by omega)]; rfl
  · rw [← g2, ← hcell i hi 2 (by omega)]; rfl
  · rw [← g3, ← hcell i hi 3 (by omega)]; rfl
/-- append of one such page, just laid, in a region that draws its order. -/
theorem step_append_fd {w : World} {ops : Array Oper} {o : Oper} {a : Act} {K : Act → World → Prop} {Q : Exit → Act → World → Prop} {E : Prop} (hgd : o.guard = none) (s x : Operand)
    (ho : o.op = .call { callee := .builtin .append, args := #[s, x], argTypes := #[42, 42] })
    (N : Nat) (ao : Option Addr) (n co : Nat) (f : Nat → FoundE) (hs : a.eval s = .slice ao n co) (hown : OwnF w N ao n co f) (g : Nat) (v : FoundE) (hx : a.eval x = .slice (some ⟨g, 0, none⟩) 1 1) (hp : Blk w g 52 v.arr)
    (hnm : n + 1 ≤ 1000000) (hN : N ≤ w.heap.size)
    (h : ∀ a' c' w', OwnF w' N a' (n + 1) c' (fun i => if i < n then f i else v) → w.grownBy w' (Value.slice ao n co).ownBlock → K (a.put o.dst (.slice a' (n + 1) c')) w') :
    if Region.wanted o (yielded ops a.tmps) = true then Oper.wp Tryz.prog o a w K Q else E := by
  have hw : Region.wanted o (yielded ops a.tmps) = true := by simp [Region.wanted, hgd]
  rw [if_pos hw]
  exact wp_append_w ty_fd s x ho N ao n co (fdG f) hs hown ⟨g, 0, none⟩ 1 1 (fdG fun _ => v) hx hp.argFd (fun _ _ => rfl) hnm hN fun a' c' w' h1 h2 => h a' c' w' (h1.congr fun q hq => fdG_next f v n q hq) h2

theorem eq_fd (x y : FoundE) (w : World) : (Op.equalIn 10000 52 (.agg #[.int .i64 x.p, .int .i64 x.k, .int .i64 x.l, .int .i64 x.s, .int .i64 x.m]) (.agg #[.int .i64 y.p, .int .i64 y.k, .int .i64 y.l, .int .i64 y.s, .int .i64 y.m])).run Tryz.prog w = .ok (decide (x = y)) w := by
  obtain ⟨x0, x1, x2, x3, x4⟩ := x
  obtain ⟨y0, y1, y2, y3, y4⟩ := y
  by_cases h0 : x0 = y0 <;> by_cases h1 : x1 = y1 <;> by_cases h2 : x2 = y2 <;> by_cases h3 : x3 = y3 <;> by_cases h4 : x4 = y4 <;> go_simp
/-- The rows, as pages that were found. -/
def rwF (X Y Z V : Nat → Int) (i : Nat) : FoundE := ⟨X i, 1, Y i, Z i, V i⟩
/-- How many of the first k are of a host page. -/
def cntL (r : Nat → FoundE) (l : Int) : Nat → Nat
  | 0 => 0
  | k + 1 => if (r k).l = l then cntL r l k + 1 else cntL r l k
/-- The greatest of the first numbers, from -1. -/
def mstN (f : Nat → FoundE) : Nat → Int
  | 0 => -1
  | i + 1 => if mstN f i < (f i).s then (f i).s else mstN f i
/-- Is x among the first? -/
def thN (f : Nat → FoundE) (x : FoundE) : Nat → Bool
  | 0 => false
  | q + 1 => thN f x q || decide (f q = x)
theorem thN_true {f : Nat → FoundE} {x : FoundE} : ∀ {n i : Nat}, i < n → f i = x → thN f x n = true
  | 0, i, h, _ => by omega
  | n + 1, i, h, e => by
    rw [thN]
    by_cases e2 : i = n
    · rw [← e2, decide_eq_true e, Bool.or_true]
    · rw [thN_true (show i < n by omega) e, Bool.true_or]
/-- What scan.Latest answers, to rows f. -/
structure Lat (f : Nat → FoundE) (n : Nat) (r : Nat → FoundE) (m : Nat) : Prop where
  le : m ≤ n
  from_ : ∀ k, k < m → ∃ i, i < n ∧ f i = r k
  has : ∀ i, i < n → ∃ k, k < m ∧ (r k).l = (f i).l
  inc : ∀ x y, x < y → y < m → (r x).l < (r y).l
  best : ∀ i k, i < n → k < m → (r k).l = (f i).l → leC (r k) (f i)
theorem lat_of {f h : Nat → FoundE} {n : Nat} (p : PermOn 0 n f h) (s : Srt leC h 0 n) : Lat f n (cmpG h n) (cmpN h n) := by
  obtain ⟨h1, h2, h3⟩ := cmp_of s n (Nat.le_refl _)
  refine ⟨cmpN_le h n, fun k hk => ?_, fun i hi => ?_, h3, fun i k hi hk e => ?_⟩
  · obtain ⟨j, hj, e, _⟩ := h1 k hk
    obtain ⟨i, _, hi, e2⟩ := p.from (Nat.zero_le j) hj
    exact ⟨i, hi, by rw [e, e2]⟩
  · obtain ⟨j, _, hj, e⟩ := p.to (Nat.zero_le i) hi
    obtain ⟨k, hk, e2⟩ := h2 j hj
    exact ⟨k, hk, by rw [e2, e]⟩
  · obtain ⟨j, hj, e1, hm⟩ := h1 k hk
    obtain ⟨j', _, hj', e2⟩ := p.to (Nat.zero_le i) hi
    have := hm j' hj' (by rw [e2, ← e, e1])
    rw [e1, ← e2]
    exact srt_at s (Nat.zero_le _) this hj'
theorem Lat.one {f r : Nat → FoundE} {n m : Nat} (h : Lat f n r m) {i : Nat} (hi : i < n) : cntL r (f i).l m = 1 := by
  obtain ⟨k, hk, e⟩ := h.has i hi
  have hz : ∀ j, j ≤ k → cntL r (f i).l j = 0 := by
    intro j
    induction j with
    | zero => exact fun _ => rfl
    | succ j ih =>
      intro hj
      rw [cntL, if_neg (by have := h.inc j k (by omega) hk; omega), ih (by omega)]
  have ho : ∀ j, k < j → j ≤ m → cntL r (f i).l j = 1 := by
    intro j
    induction j with
    | zero => exact fun h => by omega
    | succ j ih =>
      intro h1 h2
      by_cases e2 : j = k
      · rw [cntL, e2, if_pos e, hz k (Nat.le_refl _)]
      · rw [cntL, if_neg (by have := h.inc k j (by omega) (by omega); omega), ih (by omega) (by omega)]
  exact ho m hk (Nat.le_refl _)
theorem most_eq (f : Nat → FoundE) : ∀ n, (∀ i, i < n → 0 ≤ (f i).s) → grS f n = mstN f n
  | 0, _ => rfl
  | n + 1, h => by
    have ih := most_eq f n (fun i hi => h i (by omega))
    have h0 := h n (by omega)
    rw [grS, mstN, ih]
    by_cases e : mstN f n < (f n).s
    · rw [if_pos (.inr e), if_pos e]
    · rw [if_neg e]
      by_cases e2 : n = 0
      · subst e2
        exact absurd (show (-1 : Int) < (f 0).s by omega) e
      · rw [if_neg (by omega)]
set_option maxRecDepth 100000 in
set_option maxHeartbeats 4000000 in
theorem latest18_true (w : World) (a : Option Addr) (n c : Nat) (X Y Z V : Nat → Int) (hA : ArgQuads .i64 w a n X Y Z V) :
    Calls Tryz.prog 5 #[.slice a n c] w fun e w' => e = .returned (.bool true) ∧ Keep (fun _ => False) w w' := by
  have HA := Lib.hid hA
  clear hA
  by_cases hn : 100 < n
  · have hn' : (100 : Int) < (n : Int) := by omega
    go_enter Tryz.func5, Tryz.ntmps5
    go_wp2_with fail
    refine (awake18_true w).mono ?_
    rintro e w1 ⟨rfl, k1⟩
    have K1 := Lib.hid k1
    clear k1
    go_wp2_with fail
    go_ret
    exact ⟨rfl, K1.out⟩
  have hn' : ¬ (100 : Int) < (n : Int) := by omega
  go_enter Tryz.func5, Tryz.ntmps5
  go_wp2_with fail
  refine (awake18_true w).mono ?_
  rintro e w1 ⟨rfl, k1⟩
  have K1 := Lib.hid k1
  have HA1 := Lib.hid (HA.out.keep k1)
  clear k1 HA
  go_wp2_with fail
  go_loopw [3, 4] (fun v3 v4 wr => ∃ (i : Nat) (a' : Option Addr) (c' : Nat), i ≤ n ∧ v4 = .int .i64 i ∧ v3 = .slice a' i c' ∧ Hid (OwnF wr w1.heap.size a' i c' (rwF X Y Z V)) ∧ Keep (fun _ => False) w1 wr) (fun _ v _ => n - (intOf v).toNat)
  case atStart => exact ⟨0, none, 0, by omega, rfl, rfl, Lib.hid (OwnW.nil _ _ _ _ _), Keep.refl _ _⟩
  case round =>
    obtain ⟨i, ao, co, hi, rfl, rfl, HO, kk⟩ := hrel
    by_cases hin : i < n
    · have hin' : (i : Int) < (n : Int) := by omega
      obtain ⟨bA, oA, rfl, hbA, hcA⟩ := HA1.out.at_ (by omega)
      have HC := Lib.hid (hcA i hin)
      clear hcA
      have kd := kk.drew
      have c0 := (kd.cell (p := ⟨bA, oA + i * 4, none⟩) hbA (by simp)).trans HC.out.1
      have c1 := (kd.cell (p := ⟨bA, oA + i * 4 + 1, none⟩) hbA (by simp)).trans HC.out.2.1
      have c2 := (kd.cell (p := ⟨bA, oA + i * 4 + 2, none⟩) hbA (by simp)).trans HC.out.2.2.1
      have c3 := (kd.cell (p := ⟨bA, oA + i * 4 + 3, none⟩) hbA (by simp)).trans HC.out.2.2.2
      have kL : Keep (fun _ => False) w1 (wr.alloc (.cells #[.int .i64 (X i), .int .i64 1, .int .i64 (Y i), .int .i64 (Z i), .int .i64 (V i)] 52)).drew := (kk.alloc _).drew
      have d0 := (kL.cell (p := ⟨bA, oA + i * 4, none⟩) hbA (by simp)).trans HC.out.1
      have d1 := (kL.cell (p := ⟨bA, oA + i * 4 + 1, none⟩) hbA (by simp)).trans HC.out.2.1
      have d2 := (kL.cell (p := ⟨bA, oA + i * 4 + 2, none⟩) hbA (by simp)).trans HC.out.2.2.1
      have d3 := (kL.cell (p := ⟨bA, oA + i * 4 + 3, none⟩) hbA (by simp)).trans HC.out.2.2.2
      have OL := Lib.hid (show OwnF (wr.alloc (.cells #[.int .i64 (X i), .int .i64 1, .int .i64 (Y i), .int .i64 (Z i), .int .i64 (V i)] 52)).drew w1.heap.size ao i co (rwF X Y Z V) from HO.out.keep (((Keep.refl (fun _ => False) wr).alloc _).drew))
      have BL : Blk (wr.alloc (.cells #[.int .i64 (X i), .int .i64 1, .int .i64 (Y i), .int .i64 (Z i), .int .i64 (V i)] 52)).drew wr.heap.size 52 (FoundE.arr (rwF X Y Z V i)) := (Blk.new wr _ _).drew
      have hsL := kL.size
      have hi100 : i + 1 ≤ 1000000 := by omega
      have HE := Lib.hid (show ∀ q, q < i + 1 → (if q < i then rwF X Y Z V q else ⟨X i, 1, Y i, Z i, V i⟩) = rwF X Y Z V q from fun q hq => by
        by_cases h : q < i
        · rw [if_pos h]
        · rw [if_neg h, show q = i by omega]
          rfl)
      clear HO kd
      unfold rwF FoundE.arr at BL
      generalize rwF X Y Z V = F at *
      generalize X i = x at *
      generalize Y i = y at *
      generalize Z i = z at *
      generalize V i = v at *
      go_upto_region 9 with (fail)
      go_region_held3 (fun w' => w'.cell? ⟨bA, oA + i * 4, none⟩ = some (.int .i64 x) ∧ w'.cell? ⟨bA, oA + i * 4 + 1, none⟩ = some (.int .i64 y) ∧ w'.cell? ⟨bA, oA + i * 4 + 2, none⟩ = some (.int .i64 z) ∧ w'.cell? ⟨bA, oA + i * 4 + 3, none⟩ = some (.int .i64 v))
        (first | exact ⟨c0, c1, c2, c3⟩ | exact ⟨d0, d1, d2, d3⟩ | exact ⟨f0, f1, f2, f3⟩)
        (first
          | (refine step_append_fd rfl _ _ rfl w1.heap.size ao i co F rfl OL.out wr.heap.size ⟨x, 1, y, z, v⟩ rfl BL hi100 hsL ?_; intro a5 c5 w5 o5 gr5; have K5 : Keep (fun _ => False) w1 w5 := kL.grown gr5 (fun k e => .inr (OL.out.small k e)); have f0 := (K5.cell (p := ⟨bA, oA + i * 4, none⟩) hbA (by simp)).trans HC.out.1; have f1 := (K5.cell (p := ⟨bA, oA + i * 4 + 1, none⟩) hbA (by simp)).trans HC.out.2.1; have f2 := (K5.cell (p := ⟨bA, oA + i * 4 + 2, none⟩) hbA (by simp)).trans HC.out.2.2.1; have f3 := (K5.cell (p := ⟨bA, oA + i * 4 + 3, none⟩) hbA (by simp)).trans HC.out.2.2.2))
      have O5 := Lib.hid (o5.congr (f' := fdG F) (fun q hq => by unfold fdG; exact congrArg (fun u => FoundE.cell u (q % 5)) (HE.out (q / 5) (by omega))))
      have K6 := Lib.hid K5
      clear o5 gr5 c0 c1 c2 c3 d0 d1 d2 d3 f0 f1 f2 f3 OL BL kL hsL HE HC K5
      go_wp2_with fail
      go_roundw
      case rel => exact ⟨i + 1, a5, c5, by omega, by go_num, rfl, O5, K6.out⟩
      case measure => simp [intOf]; omega
    · obtain rfl : i = n := by omega
      have hin' : ¬ (i : Int) < (i : Int) := by omega
      have HL := Lib.hid (latest_all ao i co (rwF X Y Z V) wr HO.out.arg (by omega))
      have HKK := Lib.hid (K1.out.comp kk)
      clear kk K1 HA1
      go_wp2_with fail
      refine HL.out.mono ?_
      rintro e w2 ⟨ar, cr, h, rfl, hor, hp, hs, k2⟩
      have HLat := Lib.hid (lat_of hp hs)
      have HR := Lib.hid hor
      have HO2 := Lib.hid (HO.out.keep k2)
      have HK2 := Lib.hid (HKK.out.comp k2)
      clear hor hp hs k2 HO HKK HL
      generalize cmpN h i = m at *
      generalize cmpG h i = r at *
      have HM := Lib.hid HLat.out.le
      have hm100 : m ≤ 100 := by have := HM.out; omega
      generalize hF : rwF X Y Z V = F at *
      clear hF
      go_wp2_with fail
      go_loopw [6, 7] (fun v6 v7 wr => ∃ j : Nat, j ≤ i ∧ v7 = .int .i64 j ∧ v6 = .int .i64 (mstN F j) ∧ Hid (∀ q, q < j → 0 ≤ (F q).s) ∧ Keep (fun _ => False) w2 wr) (fun _ v _ => i - (intOf v).toNat)
      case atStart => exact ⟨0, by omega, rfl, rfl, Lib.hid (fun q hq => by omega), Keep.refl _ _⟩
      case round =>
        obtain ⟨j, hj, rfl, rfl, HS, kk⟩ := hrel
        by_cases hji : j < i
        · have hji' : (j : Int) < (i : Int) := by omega
          obtain ⟨gL, rfl, _, _, hrL⟩ := HO2.out.row (by omega)
          have hrow := hrL.keep kk (by simp)
          obtain ⟨a0, a1, a2, a3, a4⟩ := ArgW.five hrow hji
          have HL0 := Lib.hid (hrL.take (Nat.le_refl _))
          have KK := Lib.hid kk
          clear hrow hrL kk a0 a1 a2 a4
          by_cases hs : (F j).s < 0
          · go_wp2_with fail
            go_ret
            exact ⟨rfl, HK2.out.comp KK.out⟩
          · have hmx : (if mstN F j < (F j).s then (F j).s else mstN F j) = mstN F (j + 1) := rfl
            have HS1 := Lib.hid (show ∀ q, q < j + 1 → 0 ≤ (F q).s from fun q hq => by
              by_cases h : q < j
              · exact HS.out q h
              · rw [show q = j by omega]
                omega)
            have hone := Lib.hid (HLat.out.one hji)
            go_wp2_with fail
            clear hmx a3
            go_loopw [8, 9] (fun v8 v9 wi => ∃ k : Nat, k ≤ m ∧ v9 = .int .i64 k ∧ v8 = .int .i64 (cntL r (F j).l k : Nat) ∧ Keep (fun _ => False) w2 wi) (fun _ v _ => m - (intOf v).toNat)
            case atStart => exact ⟨0, by omega, rfl, rfl, KK.out⟩
            case round =>
              clear hs
              obtain ⟨k, hk, rfl, rfl, kk⟩ := hrel
              by_cases hkm : k < m
              · have hkm' : (k : Int) < (m : Int) := by omega
                obtain ⟨gA, rfl, _, _, hrA⟩ := HR.out.row (by omega)
                have hrowA := hrA.keep kk (by simp)
                have hrowL := HL0.out.keep kk (by simp)
                obtain ⟨a0, a1, a2, a3, a4⟩ := ArgW.five hrowA hkm
                obtain ⟨b0, b1, b2, b3, b4⟩ := ArgW.five hrowL hji
                have hc100 : cntL r (F j).l k ≤ 1000 := by
                  have : ∀ q, cntL r (F j).l q ≤ q := fun q => by
                    induction q with
                    | zero => exact Nat.le_refl _
                    | succ q ih => unfold cntL; split <;> omega
                  have := this k
                  have := HM.out
                  omega
                have hbest := HLat.out.best j k hji hkm
                rw [leC_iff] at hbest
                have HN := Lib.hid (show cntL r (F j).l (k + 1) = if (r k).l = (F j).l then cntL r (F j).l k + 1 else cntL r (F j).l k from rfl)
                have u0 : ∀ p : KeptBy wr, p.v.cell? ⟨gA, k * 5, none⟩ = some (.int .i64 (r k).p) := fun p => p.cell hrowA.lt a0
                have u2 : ∀ p : KeptBy wr, p.v.cell? ⟨gA, k * 5 + 2, none⟩ = some (.int .i64 (r k).l) := fun p => p.cell hrowA.lt a2
                have u3 : ∀ p : KeptBy wr, p.v.cell? ⟨gA, k * 5 + 3, none⟩ = some (.int .i64 (r k).s) := fun p => p.cell hrowA.lt a3
                have v0 : ∀ p : KeptBy wr, p.v.cell? ⟨gL, j * 5, none⟩ = some (.int .i64 (F j).p) := fun p => p.cell hrowL.lt b0
                have v2 : ∀ p : KeptBy wr, p.v.cell? ⟨gL, j * 5 + 2, none⟩ = some (.int .i64 (F j).l) := fun p => p.cell hrowL.lt b2
                have v3 : ∀ p : KeptBy wr, p.v.cell? ⟨gL, j * 5 + 3, none⟩ = some (.int .i64 (F j).s) := fun p => p.cell hrowL.lt b3
                have HK3 := Lib.hid kk
                clear a0 a1 a2 a3 a4 b0 b1 b2 b3 b4 hrowA hrowL hrA kk
                generalize cntL r (F j).l k = cn at *
                obtain ⟨rl, hrl⟩ : ∃ x, x = (r k).l := ⟨_, rfl⟩
                obtain ⟨fl, hfl⟩ : ∃ x, x = (F j).l := ⟨_, rfl⟩
                rw [← hrl] at u2 hbest HN
                rw [← hfl] at v2 hbest HN
                have HFL := Lib.hid hfl
                clear hrl hfl
                generalize (r k).p = rp at *
                generalize (r k).s = rs at *
                generalize (F j).p = fp at *
                generalize (F j).s = fs at *
                go_upto_region 22 with (fail)
                by_cases hl : rl = fl
                · subst hl
                  rw [if_pos rfl] at HN
                  have hl2 : (rl != rl) = false := by simp
                  refine wp_region_kept (by kernel_rfl) (by kernel_rfl) ?_
                  repeat (go_big_quiet_step (fail))
                  refine wpQuiet_nil ?_
                  rintro w3 ⟨⟨_, k3⟩, rfl⟩
                  have x0 : ∀ p : KeptBy w3, p.v.cell? ⟨gA, k * 5, none⟩ = some (.int .i64 rp) := fun p => u0 ⟨p.v, k3.comp p.h⟩
                  have x3 : ∀ p : KeptBy w3, p.v.cell? ⟨gA, k * 5 + 3, none⟩ = some (.int .i64 rs) := fun p => u3 ⟨p.v, k3.comp p.h⟩
                  have y0 : ∀ p : KeptBy w3, p.v.cell? ⟨gL, j * 5, none⟩ = some (.int .i64 fp) := fun p => v0 ⟨p.v, k3.comp p.h⟩
                  have y3 : ∀ p : KeptBy w3, p.v.cell? ⟨gL, j * 5 + 3, none⟩ = some (.int .i64 fs) := fun p => v3 ⟨p.v, k3.comp p.h⟩
                  have HK4 := Lib.hid (HK3.out.comp k3)
                  have hd1 : decide (rs < fs) = false := decide_eq_false (by omega)
                  clear u0 u2 u3 v0 v2 v3 k3 HK3 hl2
                  go_upto_region 24 with (fail)
                  by_cases he : rs = fs
                  · subst he
                    have hd2 : decide (fp < rp) = false := decide_eq_false (by omega)
                    have hd3 : (rs == rs) = true := by simp
                    refine wp_region_kept (by kernel_rfl) (by kernel_rfl) ?_
                    repeat (go_big_quiet_step (fail))
                    refine wpQuiet_nil ?_
                    rintro w4 ⟨⟨_, k4⟩, rfl⟩
                    have HK5 := Lib.hid (HK4.out.comp k4)
                    clear x0 x3 y0 y3 k4 hbest hd1 hd2 hd3 HK4
                    go_wp2_with fail
                    go_roundw
                    case rel => exact ⟨k + 1, by omega, by go_num, by rw [← HFL.out, HN.out]; go_num, HK5.out⟩
                    case measure => simp [intOf]; omega
                  · have hd3 : (rs == fs) = false := by simp [he]
                    refine wp_region_kept (by kernel_rfl) (by kernel_rfl) ?_
                    repeat (go_big_quiet_step (fail))
                    refine wpQuiet_nil ?_
                    rintro w4 ⟨⟨_, k4⟩, rfl⟩
                    have HK5 := Lib.hid (HK4.out.comp k4)
                    clear x0 x3 y0 y3 k4 hbest hd1 hd3 HK4
                    go_wp2_with fail
                    go_roundw
                    case rel => exact ⟨k + 1, by omega, by go_num, by rw [← HFL.out, HN.out]; go_num, HK5.out⟩
                    case measure => simp [intOf]; omega
                · have HNl := Lib.hid hl
                  have hl1 : (rl == fl) = false := by simp [hl]
                  have hl2 : (rl != fl) = true := by simp [hl]
                  rw [if_neg hl] at HN
                  refine wp_region_kept (by kernel_rfl) (by kernel_rfl) ?_
                  repeat (go_big_quiet_step (fail))
                  refine wpQuiet_nil ?_
                  rintro w3 ⟨⟨_, k3⟩, rfl⟩
                  have HK4 := Lib.hid (HK3.out.comp k3)
                  clear u0 u2 u3 v0 v2 v3 k3 hbest
                  go_wp2_with fail
                  go_roundw
                  case rel => exact ⟨k + 1, by omega, by go_num, by rw [← HFL.out, HN.out], HK4.out⟩
                  case measure => simp [intOf]; omega
              · obtain rfl : k = m := by omega
                have hkm' : ¬ (k : Int) < (k : Int) := by omega
                rw [hone.out]
                have HK3 := Lib.hid kk
                clear kk
                go_wp2_with fail
                go_roundw
                case rel => exact ⟨j + 1, by omega, by go_num, rfl, HS1, HK3.out⟩
                case measure => simp [intOf]; omega
        · obtain rfl : j = i := by omega
          have hji' : ¬ (j : Int) < (j : Int) := by omega
          have HMO := Lib.hid (most_eq F j HS.out)
          have KK := Lib.hid kk
          clear kk HS
          go_wp2_with fail
          go_loopw [10] (fun v wr => ∃ k : Nat, k ≤ m ∧ v = .int .i64 k ∧ Keep (fun _ => False) w2 wr) (fun v _ => m - (intOf v).toNat)
          case atStart => exact ⟨0, by omega, rfl, KK.out⟩
          case round =>
            obtain ⟨k, hk, rfl, kk⟩ := hrel
            by_cases hkm : k < m
            · have hkm' : (k : Int) < (m : Int) := by omega
              have KQ := Lib.hid kk
              clear kk
              go_wp2_with fail
              go_loopw [11, 12] (fun v11 v12 wi => ∃ q : Nat, q ≤ j ∧ v12 = .int .i64 q ∧ v11 = .bool (thN F (r k) q) ∧ Keep (fun _ => False) w2 wi) (fun _ v _ => j - (intOf v).toNat)
              case atStart => exact ⟨0, by omega, rfl, rfl, KQ.out⟩
              case round =>
                obtain ⟨q, hq, rfl, rfl, kk⟩ := hrel
                by_cases hqj : q < j
                · have hqj' : (q : Int) < (j : Int) := by omega
                  cases hth : thN F (r k) q
                  · obtain ⟨gA, rfl, _, _, hrA⟩ := HR.out.row (by omega)
                    obtain ⟨gL, rfl, _, _, hrL⟩ := HO2.out.row (by omega)
                    have hrowA := hrA.keep kk (by simp)
                    have hrowL := hrL.keep kk (by simp)
                    obtain ⟨a0, a1, a2, a3, a4⟩ := ArgW.five hrowA hkm
                    obtain ⟨b0, b1, b2, b3, b4⟩ := ArgW.five hrowL hqj
                    have u0 : ∀ p : KeptBy wr, p.v.cell? ⟨gA, k * 5, none⟩ = some (.int .i64 (r k).p) := fun p => p.cell hrowA.lt a0
                    have u1 : ∀ p : KeptBy wr, p.v.cell? ⟨gA, k * 5 + 1, none⟩ = some (.int .i64 (r k).k) := fun p => p.cell hrowA.lt a1
                    have u2 : ∀ p : KeptBy wr, p.v.cell? ⟨gA, k * 5 + 2, none⟩ = some (.int .i64 (r k).l) := fun p => p.cell hrowA.lt a2
                    have u3 : ∀ p : KeptBy wr, p.v.cell? ⟨gA, k * 5 + 3, none⟩ = some (.int .i64 (r k).s) := fun p => p.cell hrowA.lt a3
                    have u4 : ∀ p : KeptBy wr, p.v.cell? ⟨gA, k * 5 + 4, none⟩ = some (.int .i64 (r k).m) := fun p => p.cell hrowA.lt a4
                    have v0 : ∀ p : KeptBy wr, p.v.cell? ⟨gL, q * 5, none⟩ = some (.int .i64 (F q).p) := fun p => p.cell hrowL.lt b0
                    have v1 : ∀ p : KeptBy wr, p.v.cell? ⟨gL, q * 5 + 1, none⟩ = some (.int .i64 (F q).k) := fun p => p.cell hrowL.lt b1
                    have v2 : ∀ p : KeptBy wr, p.v.cell? ⟨gL, q * 5 + 2, none⟩ = some (.int .i64 (F q).l) := fun p => p.cell hrowL.lt b2
                    have v3 : ∀ p : KeptBy wr, p.v.cell? ⟨gL, q * 5 + 3, none⟩ = some (.int .i64 (F q).s) := fun p => p.cell hrowL.lt b3
                    have v4 : ∀ p : KeptBy wr, p.v.cell? ⟨gL, q * 5 + 4, none⟩ = some (.int .i64 (F q).m) := fun p => p.cell hrowL.lt b4
                    have HKK := Lib.hid kk
                    have HTH := Lib.hid (show thN F (r k) (q + 1) = decide (F q = r k) by rw [thN, hth, Bool.false_or])
                    clear a0 a1 a2 a3 a4 b0 b1 b2 b3 b4 hrowA hrowL hrA hrL kk hth
                    go_upto_region 35 with (fail)
                    have heq := fun w => eq_fd (F q) (r k) w
                    generalize decide (F q = r k) = b at *
                    refine wp_region_kept (by kernel_rfl) (by kernel_rfl) ?_
                    repeat (go_big_quiet_step (fail))
                    refine wpQuiet_nil ?_
                    rintro w4 ⟨⟨_, k4⟩, rfl⟩
                    have HK5 := Lib.hid (HKK.out.comp k4)
                    clear u0 u1 u2 u3 u4 v0 v1 v2 v3 v4 k4 HKK heq
                    go_wp2_with fail
                    go_roundw
                    case rel => exact ⟨q + 1, by omega, by go_num, by rw [HTH.out], HK5.out⟩
                    case measure => simp [intOf]; omega
                  · have HTH := Lib.hid (show thN F (r k) (q + 1) = true by rw [thN, hth, Bool.true_or])
                    clear hth
                    have HKK := Lib.hid kk
                    clear kk
                    go_upto_region 35 with (fail)
                    refine wp_region_kept (by kernel_rfl) (by kernel_rfl) ?_
                    repeat (go_big_quiet_step (fail))
                    refine wpQuiet_nil ?_
                    rintro w4 ⟨⟨_, k4⟩, rfl⟩
                    have HK5 := Lib.hid (HKK.out.comp k4)
                    clear k4 HKK
                    go_wp2_with fail
                    go_roundw
                    case rel => exact ⟨q + 1, by omega, by go_num, by rw [HTH.out], HK5.out⟩
                    case measure => simp [intOf]; omega
                · obtain rfl : q = j := by omega
                  have hqj' : ¬ (q : Int) < (q : Int) := by omega
                  obtain ⟨i0, hi0, ei0⟩ := HLat.out.from_ k hkm
                  rw [thN_true hi0 ei0]
                  obtain ⟨gA, rfl, _, _, hrA⟩ := HR.out.row (by omega)
                  have hrowA := hrA.keep kk (by simp)
                  obtain ⟨a0, a1, a2, a3, a4⟩ := ArgW.five hrowA hkm
                  have u2 : ∀ p : KeptBy wr, p.v.cell? ⟨gA, k * 5 + 2, none⟩ = some (.int .i64 (r k).l) := fun p => p.cell hrowA.lt a2
                  have HKK := Lib.hid kk
                  clear kk ei0 a0 a1 a2 a3 a4 hrA
                  rcases Nat.eq_zero_or_pos k with h0 | h0
                  · have h0' : decide ((0 : Int) < (k : Int)) = false := decide_eq_false (by omega)
                    clear hrowA
                    go_upto_region 36 with (fail)
                    refine wp_region_kept (by kernel_rfl) (by kernel_rfl) ?_
                    repeat (go_big_quiet_step (fail))
                    refine wpQuiet_nil ?_
                    rintro w4 ⟨⟨_, k4⟩, rfl⟩
                    have HK5 := Lib.hid (HKK.out.comp k4)
                    clear u2 k4 HKK h0'
                    go_wp2_with fail
                    go_roundw
                    case rel => exact ⟨k + 1, by omega, by go_num, HK5.out⟩
                    case measure => simp [intOf]; omega
                  · have h0' : decide ((0 : Int) < (k : Int)) = true := decide_eq_true (by omega)
                    obtain ⟨K, hK⟩ : ∃ K, K = k - 1 := ⟨_, rfl⟩
                    have hKm : K < m := by omega
                    have hKm' : (K : Int) < (m : Int) := by omega
                    have e1 : IntKind.i64.wrap ((k : Int) - 1) = (K : Int) := by rw [show (k : Int) - 1 = (K : Int) by omega]; exact wraps_i64 _ (by omega) (by omega)
                    have e2 : (k : Int) - 1 = (K : Int) := by omega
                    obtain ⟨b0, b1, b2, b3, b4⟩ := ArgW.five hrowA hKm
                    have v2 : ∀ p : KeptBy wr, p.v.cell? ⟨gA, K * 5 + 2, none⟩ = some (.int .i64 (r K).l) := fun p => p.cell hrowA.lt b2
                    have hlt := HLat.out.inc K k (by omega) hkm
                    have hle : decide ((r k).l ≤ (r K).l) = false := decide_eq_false (by omega)
                    clear b0 b1 b2 b3 b4 hrowA hK hlt
                    go_upto_region 36 with (fail)
                    refine wp_region_kept (by kernel_rfl) (by kernel_rfl) ?_
                    repeat (go_big_quiet_step (fail))
                    refine wpQuiet_nil ?_
                    rintro w4 ⟨⟨_, k4⟩, rfl⟩
                    have HK5 := Lib.hid (HKK.out.comp k4)
                    clear u2 v2 k4 HKK h0' hle e1 e2
                    go_wp2_with fail
                    go_roundw
                    case rel => exact ⟨k + 1, by omega, by go_num, HK5.out⟩
                    case measure => simp [intOf]; omega
            · obtain rfl : k = m := by omega
              have hkm' : ¬ (k : Int) < (k : Int) := by omega
              have HG := Lib.hid (greatest_any ao j co F wr (HO2.out.keep kk).arg (by omega))
              rw [HMO.out] at HG
              have HKK := Lib.hid (HK2.out.comp kk)
              clear kk
              generalize mstN F j = mo at *
              go_wp2_with fail
              refine HG.out.mono ?_
              rintro e w4 ⟨rfl, k4⟩
              have HK5 := Lib.hid (HKK.out.comp k4)
              clear k4 HKK HG
              have hmo : (mo == mo) = true := by simp
              go_wp2_with fail
              go_ret
              exact ⟨rfl, HK5.out⟩
theorem latest18_of {H : Type} {enc : TypeId × Value → H} {base : Nat} {d0 : DataW H} {ps0 : List MemPlace} {sp0 : Nat → Bool} (w : World) {a : Option Addr} {n c : Nat}
    (h : DataW.Trod enc Tryz.prog w base sp0 true 57 (.slice a n c) d0 ps0) :
    Calls Tryz.prog 5 #[.slice a n c] w fun e w' => e = .returned (.bool true) ∧ Keep (fun _ => False) w w' := by
  obtain ⟨X, Y, Z, V, hA⟩ := quads_of Tryz.underlying57 Tryz.underlying58 Tryz.underlying3 (by kernel_rfl) (by kernel_rfl) h
  exact latest18_true w a n c X Y Z V hA
end Go.Proofs.YtdlmjjlejkkniaaGreat
