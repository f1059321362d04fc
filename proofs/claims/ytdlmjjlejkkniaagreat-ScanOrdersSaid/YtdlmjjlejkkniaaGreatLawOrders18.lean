/- ScanOrders, called with anything, returns true: the walk and the plain law. -/
import Derived.Test.YtdlmjjlejkkniaaGreatLawLatest18
namespace Go.Proofs.YtdlmjjlejkkniaaGreat
open Go.ChangeShapes Go.WideShapes Go.ChangeAt Go.RowKit

/-- Element i is the triple of bytes (X i, Y i, Z i). -/
structure ArgTri8 (w : World) (a : Option Addr) (len : Nat) (X Y Z : Nat → Nat) : Prop where
  at_ : 0 < len → ∃ b off, a = some ⟨b, off, none⟩ ∧ b < w.heap.size ∧ ∀ i, i < len → w.cell? ⟨b, off + i * 3, none⟩ = some (.int .u8 (X i : Nat)) ∧ w.cell? ⟨b, off + i * 3 + 1, none⟩ = some (.int .u8 (Y i : Nat)) ∧ w.cell? ⟨b, off + i * 3 + 2, none⟩ = some (.int .u8 (Z i : Nat))
  lt : ∀ i, i < len → X i < 256 ∧ Y i < 256 ∧ Z i < 256
theorem ArgTri8.keep {w w' : World} {a : Option Addr} {len : Nat} {X Y Z : Nat → Nat} (h : ArgTri8 w a len X Y Z) (hk : Keep (fun _ => False) w w') : ArgTri8 w' a len X Y Z :=
  ⟨fun h0 => by
    obtain ⟨b, off, e, hb, hc⟩ := h.at_ h0
    exact ⟨b, off, e, Nat.lt_of_lt_of_le hb hk.size, fun i hi => ⟨(hk.cell (p := ⟨b, off + i * 3, none⟩) hb (by simp)).trans (hc i hi).1, (hk.cell (p := ⟨b, off + i * 3 + 1, none⟩) hb (by simp)).trans (hc i hi).2.1, (hk.cell (p := ⟨b, off + i * 3 + 2, none⟩) hb (by simp)).trans (hc i hi).2.2⟩⟩, h.lt⟩
theorem tri8_of {H : Type} {enc : TypeId × Value → H} {P : Program} {t e u : TypeId} {w : World} {base : Nat} {a : Option Addr} {len cap : Nat} {d : DataW H} {ps : List MemPlace} {sp : Nat → Bool}
    (ht : P.underlying t = some (.slice e)) (he : P.underlying e = some (.array 3 u)) (hu : P.underlying u = some (.int .u8)) (hce : P.cellsOf e = 3) (hcu : P.cellsOf u = 1)
    (h : DataW.Trod enc P w base sp true t (.slice a len cap) d ps) : ∃ X Y Z, ArgTri8 w a len X Y Z := by
  obtain ⟨hsm, C, hc, hr⟩ := argElems_of ht hce (by omega) h
  have hall : ∀ i, ∃ (q : Nat × Nat × Nat), i < len → C i 0 = .int .u8 (q.1 : Nat) ∧ C i 1 = .int .u8 (q.2.1 : Nat) ∧ C i 2 = .int .u8 (q.2.2 : Nat) ∧ q.1 < 256 ∧ q.2.1 < 256 ∧ q.2.2 < 256 := by
    intro i
    by_cases hi : i < len
    · obtain ⟨n, x, hx⟩ := hr i hi
      obtain ⟨xs, m, _, _, _, hlen, hf⟩ := DataW.trod_array he hx
      have h0 := hf 0 (by omega)
      have h1 := hf 1 (by omega)
      have h2 := hf 2 (by omega)
      rw [hcu] at h0 h1 h2
      rw [List.getElem?_eq_getElem (by omega)] at h0 h1 h2
      obtain ⟨p, e0, _, w0⟩ := DataW.trod_int hu h0
      obtain ⟨q, e1, _, w1⟩ := DataW.trod_int hu h1
      obtain ⟨r, e2, _, w2⟩ := DataW.trod_int hu h2
      simp [List.range_succ] at e0 e1 e2
      have b0 := Go.bounds_u8 w0
      have b1 := Go.bounds_u8 w1
      have b2 := Go.bounds_u8 w2
      refine ⟨(p.toNat, q.toNat, r.toNat), fun _ => ⟨?_, ?_, ?_, ?_, ?_, ?_⟩⟩
      · rw [e0, show ((p.toNat : Nat) : Int) = p by omega]
      · rw [e1, show ((q.toNat : Nat) : Int) = q by omega]
      · rw [e2, show ((r.toNat : Nat) : Int) = r by omega]
      · show p.toNat < 256
        omega
      · show q.toNat < 256
        omega
      · show r.toNat < 256
        omega
    · exact ⟨(0, 0, 0), fun h => absurd h hi⟩
  refine ⟨fun i => (Classical.choose (hall i)).1, fun i => (Classical.choose (hall i)).2.1, fun i => (Classical.choose (hall i)).2.2, fun h0 => ?_, fun i hi => (Classical.choose_spec (hall i) hi).2.2.2⟩
  obtain ⟨b, off, rfl, hb, hcell⟩ := hc h0
  refine ⟨b, off, rfl, hb, fun i hi => ?_⟩
  obtain ⟨g0, g1, g2, _⟩ := Classical.choose_spec (hall i) hi
  refine ⟨?_, ?_, ?_⟩
  · rw [← g0, ← hcell i hi 0 (by omega)]; rfl
  · rw [← g1, ← hcell i hi 1 (by omega)]; rfl
  · rw [← g2, ← hcell i hi 2 (by omega)]; rfl
/-- The rows, as pages that were found. -/
def rwO (X Y Z : Nat → Nat) (i : Nat) : FoundE := ⟨i, 1, X i, Y i, (Z i % 9 : Nat)⟩
/-- Where each stood: turned, and the other way round. -/
def ordS (n T i : Nat) : Nat := if i < n then (n - 1 - i + T) % n else i
theorem ordS_two {n : Nat} (T : Nat) (i : Nat) : ordS n T (ordS n T i) = i := by
  unfold ordS
  by_cases h : i < n
  · rw [if_pos h]
    have hT := Nat.mod_lt T (show n > 0 by omega)
    have hl := Nat.mod_lt (n - 1 - i + T) (show n > 0 by omega)
    have key : ∀ j, j < n → (n - 1 - j + T) % n = if T % n ≤ j then n - 1 - j + T % n else T % n - 1 - j := fun j hj => by
      rw [Nat.add_mod, Nat.mod_eq_of_lt (show n - 1 - j < n by omega)]
      by_cases e : T % n ≤ j
      · rw [if_pos e, Nat.mod_eq_of_lt (by omega)]
      · rw [if_neg e, Nat.mod_eq_sub_mod (by omega), Nat.mod_eq_of_lt (by omega)]
        omega
    rw [if_pos hl, key _ hl, key i h]
    by_cases e : T % n ≤ i
    · rw [if_pos e, if_pos (by omega)]
      omega
    · rw [if_neg e, if_neg (by omega)]
      omega
  · rw [if_neg h, if_neg h]
theorem ord_perm (f : Nat → FoundE) (n T : Nat) : PermOn 0 n f (fun i => f (ordS n T i)) :=
  ⟨ordS n T, ordS n T, ordS_two T, ordS_two T, fun i hi => if_neg (by omega), fun _ => rfl⟩
/-- The first k and the last k changed with one another. -/
def revG (f : Nat → FoundE) (n k : Nat) : Nat → FoundE := fun q => if q < k ∨ n - 1 - k < q then f (n - 1 - q) else f q
theorem revG_zero (f : Nat → FoundE) (n : Nat) {q : Nat} (h : q < n) : revG f n 0 q = f q := if_neg (by omega)
theorem revG_next (f : Nat → FoundE) {n k : Nat} (h : k < n - 1 - k) : swpG (revG f n k) k (n - 1 - k) = revG f n (k + 1) := by
  funext q
  unfold swpG revG
  by_cases e1 : q = k
  · subst e1
    rw [if_pos rfl, if_neg (by omega), if_pos (by omega)]
  · rw [if_neg e1]
    by_cases e2 : q = n - 1 - k
    · rw [if_pos e2, if_neg (by omega), if_pos (by omega)]
      exact congrArg f (by omega)
    · rw [if_neg e2]
      by_cases e3 : q < k ∨ n - 1 - k < q
      · rw [if_pos e3, if_pos (by omega)]
      · rw [if_neg e3, if_neg (by omega)]
theorem revG_end (f : Nat → FoundE) {n k : Nat} (h : n ≤ 2 * k + 1) (h2 : 2 * k ≤ n) {q : Nat} (hq : q < n) : revG f n k q = f (n - 1 - q) := by
  unfold revG
  by_cases e : q < k ∨ n - 1 - k < q
  · rw [if_pos e]
  · rw [if_neg e]
    exact congrArg f (by omega)
theorem grS_max (f : Nat → FoundE) : ∀ n, 0 < n → (∃ i, i < n ∧ grS f n = (f i).s) ∧ ∀ i, i < n → (f i).s ≤ grS f n
  | 0, h => by omega
  | n + 1, _ => by
    rw [grS]
    by_cases e0 : n = 0
    · subst e0
      rw [if_pos (.inl rfl)]
      exact ⟨⟨0, by omega, rfl⟩, fun i hi => by rw [show i = 0 by omega]; exact Int.le_refl _⟩
    · obtain ⟨⟨i, hi, e⟩, h⟩ := grS_max f n (by omega)
      by_cases e2 : grS f n < (f n).s
      · rw [if_pos (.inr e2)]
        refine ⟨⟨n, by omega, rfl⟩, fun j hj => ?_⟩
        by_cases e3 : j = n
        · rw [e3]
          exact Int.le_refl _
        · have := h j (by omega)
          omega
      · rw [if_neg (by omega)]
        refine ⟨⟨i, by omega, e⟩, fun j hj => ?_⟩
        by_cases e3 : j = n
        · rw [e3]
          omega
        · exact h j (by omega)
theorem grS_perm {f g : Nat → FoundE} {n : Nat} (p : PermOn 0 n f g) : grS f n = grS g n := by
  rcases Nat.eq_zero_or_pos n with h0 | h0
  · subst h0
    rfl
  · obtain ⟨⟨i, hi, e⟩, h⟩ := grS_max f n h0
    obtain ⟨⟨j, hj, e'⟩, h'⟩ := grS_max g n h0
    obtain ⟨k, _, hk, e2⟩ := p.to (Nat.zero_le i) hi
    obtain ⟨l, _, hl, e3⟩ := p.from (Nat.zero_le j) hj
    have a1 := h' k hk
    have a2 := h l hl
    rw [e2] at a1
    rw [← e3] at a2
    omega
theorem grS_congr {f g : Nat → FoundE} : ∀ n, (∀ i, i < n → f i = g i) → grS f n = grS g n
  | 0, _ => rfl
  | n + 1, h => by rw [grS, grS, grS_congr n (fun i hi => h i (by omega)), h n (by omega)]
/-- Whatever the order was, what is kept is one. -/
theorem ord_same {X Y Z : Nat → Nat} {n T : Nat} {h1 h2 : Nat → FoundE} (p1 : PermOn 0 n (rwO X Y Z) h1) (s1 : Srt leC h1 0 n) (p2 : PermOn 0 n (fun i => rwO X Y Z (ordS n T i)) h2) (s2 : Srt leC h2 0 n) :
    cmpN h1 n = cmpN h2 n ∧ ∀ q, q < n → cmpG h1 n q = cmpG h2 n q := by
  have p3 := p1.symm.trans ((ord_perm (rwO X Y Z) n T).trans p2)
  have p4 := (ord_perm (rwO X Y Z) n T).trans p2
  refine cmp_congr n (fun i hi => ?_)
  have e := (srt_one p3 s1 s2 hi).2.2
  obtain ⟨j, _, _, e1⟩ := p1.from (Nat.zero_le i) hi
  obtain ⟨k, _, _, e2⟩ := p4.from (Nat.zero_le i) hi
  rw [e1, e2] at e ⊢
  have : (j : Int) = (k : Int) := e
  rw [show j = k by omega]
/-- What is kept of what was kept is as much. -/
theorem again_full {f r h : Nat → FoundE} {n m : Nat} (l : Lat f n r m) (p : PermOn 0 m r h) : cmpN h m = m := by
  have hne : ∀ i, 0 < i → i < m → (h i).l ≠ (h (i - 1)).l := fun i h0 hi e => by
    obtain ⟨a, b, k1, k2, k3, k4⟩ := p
    have ha : ∀ q, q < m → a q < m := fun q hq => Classical.byContradiction fun e => by
      have e4 := k3 (a q) (by omega)
      have e5 := congrArg b e4
      rw [k2, k2] at e5
      omega
    rw [k4, k4] at e
    have h1 := ha i hi
    have h2 := ha (i - 1) (by omega)
    rcases Nat.lt_trichotomy (a i) (a (i - 1)) with e2 | e2 | e2
    · have := l.inc _ _ e2 h2
      omega
    · have := congrArg b e2
      rw [k2, k2] at this
      omega
    · have := l.inc _ _ e2 h1
      omega
  have : ∀ i, i ≤ m → cmpN h i = i := by
    intro i
    induction i with
    | zero => exact fun _ => rfl
    | succ i ih =>
      intro hi
      rw [cmpN, ih (by omega), if_pos]
      by_cases e : i = 0
      · exact .inl e
      · exact .inr (hne i (by omega) (by omega))
  exact this m (Nat.le_refl _)
set_option maxRecDepth 100000 in
set_option maxHeartbeats 40000000 in
theorem orders18_true (w : World) (a : Option Addr) (n c T : Nat) (X Y Z : Nat → Nat) (hA : ArgTri8 w a n X Y Z) (hT : T < 256) :
    Calls Tryz.prog 7 #[.slice a n c, .int .u8 T] w fun e w' => e = .returned (.bool true) ∧ Keep (fun _ => False) w w' := by
  have HA := Lib.hid hA
  clear hA
  by_cases hn : 60 < n
  · have hn' : (60 : Int) < (n : Int) := by omega
    go_enter Tryz.func7, Tryz.ntmps7
    go_wp2_with fail
    refine (awake18_true w).mono ?_
    rintro e w1 ⟨rfl, k1⟩
    have K1 := Lib.hid k1
    clear k1
    go_wp2_with fail
    go_ret
    exact ⟨rfl, K1.out⟩
  have hn' : ¬ (60 : Int) < (n : Int) := by omega
  go_enter Tryz.func7, Tryz.ntmps7
  go_wp2_with fail
  refine (awake18_true w).mono ?_
  rintro e w1 ⟨rfl, k1⟩
  have K1 := Lib.hid k1
  have HA1 := Lib.hid (HA.out.keep k1)
  clear k1 HA
  go_wp2_with fail
  go_loopw [5, 7] (fun v3 v4 wr => ∃ (i : Nat) (a' : Option Addr) (c' : Nat), i ≤ n ∧ v4 = .int .i64 i ∧ v3 = .slice a' i c' ∧ Hid (OwnF wr w1.heap.size a' i c' (rwO X Y Z)) ∧ Keep (fun _ => False) w1 wr) (fun _ v _ => n - (intOf v).toNat)
  case atStart => exact ⟨0, none, 0, by omega, rfl, rfl, Lib.hid (OwnW.nil _ _ _ _ _), Keep.refl _ _⟩
  case round =>
    obtain ⟨i, ao, co, hi, rfl, rfl, HO, kk⟩ := hrel
    by_cases hin : i < n
    · have hin' : (i : Int) < (n : Int) := by omega
      obtain ⟨bA, oA, rfl, hbA, hcA⟩ := HA1.out.at_ (by omega)
      have HC := Lib.hid (hcA i hin)
      obtain ⟨hx, hy, hz⟩ := HA1.out.lt i hin
      clear hcA
      have kd := kk.drew
      have HF := Lib.hid (show rwO X Y Z i = ⟨i, 1, X i, Y i, (Z i % 9 : Nat)⟩ from rfl)
      have c0 := (kd.cell (p := ⟨bA, oA + i * 3, none⟩) hbA (by simp)).trans HC.out.1
      have c1 := (kd.cell (p := ⟨bA, oA + i * 3 + 1, none⟩) hbA (by simp)).trans HC.out.2.1
      have c2 := (kd.cell (p := ⟨bA, oA + i * 3 + 2, none⟩) hbA (by simp)).trans HC.out.2.2
      generalize rwO X Y Z = F at *
      generalize X i = x at *
      generalize Y i = y at *
      obtain ⟨zz, hzz⟩ : ∃ zz, zz = Z i % 9 := ⟨_, rfl⟩
      rw [← hzz] at HF
      generalize Z i = z at *
      have z9 : zz < 9 := by omega
      have z1 : (z : Int).tmod 9 = (zz : Int) := by rw [Int.tmod_eq_emod_of_nonneg (by omega)]; omega
      have z2 : (z : Int) % 9 = (zz : Int) := by omega
      have z3 : z % 9 = zz := hzz.symm
      have hxw : IntKind.i64.wrap (x : Int) = (x : Int) := wraps_i64 _ (by omega) (by omega)
      have hyw : IntKind.i64.wrap (y : Int) = (y : Int) := wraps_i64 _ (by omega) (by omega)
      have hzw : IntKind.i64.wrap (zz : Int) = (zz : Int) := wraps_i64 _ (by omega) (by omega)
      have kL : Keep (fun _ => False) w1 (wr.alloc (.cells #[.int .i64 i, .int .i64 1, .int .i64 (x : Nat), .int .i64 (y : Nat), .int .i64 (zz : Nat)] 52)).drew := (kk.alloc _).drew
      have d0 := (kL.cell (p := ⟨bA, oA + i * 3, none⟩) hbA (by simp)).trans HC.out.1
      have d1 := (kL.cell (p := ⟨bA, oA + i * 3 + 1, none⟩) hbA (by simp)).trans HC.out.2.1
      have d2 := (kL.cell (p := ⟨bA, oA + i * 3 + 2, none⟩) hbA (by simp)).trans HC.out.2.2
      have OL := Lib.hid (show OwnF (wr.alloc (.cells #[.int .i64 i, .int .i64 1, .int .i64 (x : Nat), .int .i64 (y : Nat), .int .i64 (zz : Nat)] 52)).drew w1.heap.size ao i co F from HO.out.keep (((Keep.refl (fun _ => False) wr).alloc _).drew))
      have BL : Blk (wr.alloc (.cells #[.int .i64 i, .int .i64 1, .int .i64 (x : Nat), .int .i64 (y : Nat), .int .i64 (zz : Nat)] 52)).drew wr.heap.size 52 #[.int .i64 i, .int .i64 1, .int .i64 (x : Nat), .int .i64 (y : Nat), .int .i64 (zz : Nat)] := (Blk.new wr _ _).drew
      have hsL := kL.size
      have hi100 : i + 1 ≤ 1000000 := by omega
      have HE := Lib.hid (show ∀ q, q < i + 1 → (if q < i then F q else ⟨i, 1, x, y, zz⟩) = F q from fun q hq => by
        by_cases h : q < i
        · rw [if_pos h]
        · rw [if_neg h, show q = i by omega, HF.out])
      clear HO kd hzz HF
      go_upto_region 9 with (fail)
      go_region_held3 (fun w' => w'.cell? ⟨bA, oA + i * 3, none⟩ = some (.int .u8 (x : Nat)) ∧ w'.cell? ⟨bA, oA + i * 3 + 1, none⟩ = some (.int .u8 (y : Nat)) ∧ w'.cell? ⟨bA, oA + i * 3 + 2, none⟩ = some (.int .u8 (z : Nat)))
        (first | exact ⟨c0, c1, c2⟩ | exact ⟨d0, d1, d2⟩ | exact ⟨f0, f1, f2⟩)
        (first
          | (refine step_append_fd rfl _ _ rfl w1.heap.size ao i co F rfl OL.out wr.heap.size ⟨i, 1, x, y, zz⟩ rfl BL hi100 hsL ?_; intro a5 c5 w5 o5 gr5; have K5 : Keep (fun _ => False) w1 w5 := kL.grown gr5 (fun k e => .inr (OL.out.small k e)); have f0 := (K5.cell (p := ⟨bA, oA + i * 3, none⟩) hbA (by simp)).trans HC.out.1; have f1 := (K5.cell (p := ⟨bA, oA + i * 3 + 1, none⟩) hbA (by simp)).trans HC.out.2.1; have f2 := (K5.cell (p := ⟨bA, oA + i * 3 + 2, none⟩) hbA (by simp)).trans HC.out.2.2))
      have O5 := Lib.hid (o5.congr (f' := fdG F) (fun q hq => by unfold fdG; exact congrArg (fun u => FoundE.cell u (q % 5)) (HE.out (q / 5) (by omega))))
      have K6 := Lib.hid K5
      clear o5 gr5 c0 c1 c2 d0 d1 d2 f0 f1 f2 OL BL kL hsL HE HC K5 z1 z2 z3 hxw hyw hzw
      go_wp2_with fail
      go_roundw
      case rel => exact ⟨i + 1, a5, c5, by omega, by go_num, rfl, O5, K6.out⟩
      case measure => simp [intOf]; omega
    · obtain rfl : i = n := by omega
      have hin' : ¬ (i : Int) < (i : Int) := by omega
      have KA := Lib.hid (K1.out.comp kk)
      obtain ⟨B, hB⟩ : ∃ B : Nat → FoundE, B = fun k => rwO X Y Z ((k + T) % i) := ⟨_, rfl⟩
      have HB0 := Lib.hid (fun k => congrFun hB k)
      have HBO := Lib.hid (show ∀ k, k < i → revG B i (i / 2) k = rwO X Y Z (ordS i T k) from fun k hk => by
        rw [revG_end B (by omega) (by omega) hk, HB0.out, ordS, if_pos hk])
      have HFA := Lib.hid (And.intro (fun (h1 h2 : Nat → FoundE) p1 s1 p2 s2 => ord_same (X := X) (Y := Y) (Z := Z) (n := i) (T := T) (h1 := h1) (h2 := h2) p1 s1 p2 s2) (grS_perm (ord_perm (rwO X Y Z) i T)))
      clear kk HA1 K1 hB
      obtain ⟨wa, hwa⟩ : ∃ wa, wa = wr := ⟨_, rfl⟩
      subst hwa
      generalize rwO X Y Z = F at *
      go_wp2_with fail
      go_loopw [6, 8] (fun v6 v8 wt => ∃ (q : Nat) (ab : Option Addr) (cb : Nat), q ≤ i ∧ v8 = .int .i64 q ∧ v6 = .slice ab q cb ∧ Hid (OwnF wt wa.heap.size ab q cb B) ∧ Keep (fun _ => False) wa wt) (fun _ v _ => i - (intOf v).toNat)
      case atStart => exact ⟨0, none, 0, by omega, rfl, rfl, Lib.hid (OwnW.nil _ _ _ _ _), Keep.refl _ _⟩
      case round =>
        obtain ⟨q, ab, cb, hq, rfl, rfl, HB, kk⟩ := hrel
        by_cases hqi : q < i
        · have hqi' : (q : Int) < (i : Int) := by omega
          obtain ⟨gA, rfl, _, _, hrA⟩ := HO.out.row (by omega)
          obtain ⟨J, hJ⟩ : ∃ J, J = (q + T) % i := ⟨_, rfl⟩
          have hJi : J < i := by rw [hJ]; exact Nat.mod_lt _ (by omega)
          have hJi' : (J : Int) < (i : Int) := by omega
          have HBJ := Lib.hid (show B q = F J by rw [HB0.out, hJ])
          obtain ⟨S, hS⟩ : ∃ S, S = q + T := ⟨_, rfl⟩
          rw [← hS] at hJ
          have e1 : IntKind.i64.wrap ((q : Int) + (T : Int)) = (S : Int) := by rw [show (q : Int) + (T : Int) = (S : Int) by omega]; exact wraps_i64 _ (by omega) (by omega)
          have e2 : (q : Int) + (T : Int) = (S : Int) := by omega
          have e3 : (S : Int).tmod (i : Int) = (J : Int) := by rw [Int.tmod_eq_emod_of_nonneg (by omega), hJ]; rfl
          have e4 : (S : Int) % (i : Int) = (J : Int) := by rw [hJ]; rfl
          have e5 : S % i = J := hJ.symm
          have e6 : ¬ i = 0 := by omega
          have e7 : ¬ (i : Int) = 0 := by omega
          have e8 : IntKind.i64.wrap (T : Int) = (T : Int) := wraps_i64 _ (by omega) (by omega)
          have hrow := hrA.keep kk (by simp)
          obtain ⟨a0, a1, a2, a3, a4⟩ := ArgW.five hrow hJi
          have kL := kk.alloc (.cells #[.int .i64 (F J).p, .int .i64 (F J).k, .int .i64 (F J).l, .int .i64 (F J).s, .int .i64 (F J).m] 52)
          have BL : Blk (wr.alloc (.cells #[.int .i64 (F J).p, .int .i64 (F J).k, .int .i64 (F J).l, .int .i64 (F J).s, .int .i64 (F J).m] 52)) wr.heap.size 52 (FoundE.arr (F J)) := Blk.new wr _ _
          have OL := Lib.hid (HB.out.keep ((Keep.refl (fun _ => False) wr).alloc (.cells #[.int .i64 (F J).p, .int .i64 (F J).k, .int .i64 (F J).l, .int .i64 (F J).s, .int .i64 (F J).m] 52)))
          have hsz := Lib.hid kL.size
          have HBL := Lib.hid BL
          have HKL := Lib.hid kL
          have hq100 : q + 1 ≤ 1000000 := by omega
          clear hrow hrA kk hJ hS BL kL
          go_wp2_with (at_builtin; refine wpList_append_fd rfl (.tmp 55) (.tmp 66) rfl wa.heap.size ab q cb B rfl OL.out wr.heap.size (F J) rfl HBL.out hq100 hsz.out ?_)
          intro a5 c5 w5 o5 gr5
          have O5 := Lib.hid (o5.congr (f' := fdG B) (fun x hx => by
            unfold fdG
            refine congrArg (fun u => FoundE.cell u (x % 5)) ?_
            show (if x / 5 < q then B (x / 5) else F J) = B (x / 5)
            by_cases h : x / 5 < q
            · exact if_pos h
            · rw [if_neg h, show x / 5 = q by omega, HBJ.out]))
          have K5 := Lib.hid (HKL.out.grown gr5 (fun k e => .inr (OL.out.small k e)))
          clear o5 gr5 a0 a1 a2 a3 a4 e1 e2 e3 e4 e5 e6 e7 e8 hsz HBL HKL
          go_wp2_with fail
          go_roundw
          case rel => exact ⟨q + 1, a5, c5, by omega, by go_num, rfl, O5, K5.out⟩
          case measure => simp [intOf]; omega
        · obtain rfl : q = i := by omega
          have hqi' : ¬ (q : Int) < (q : Int) := by omega
          have HBS := Lib.hid HB.out.small
          have HB2 := Lib.hid (HB.out.congr (f' := fdG (revG B q 0)) (fun x hx => by unfold fdG; rw [revG_zero B q (by omega)]))
          obtain ⟨wb, hwb⟩ : ∃ wb, wb = wr := ⟨_, rfl⟩
          subst hwb
          have KAB := Lib.hid kk
          obtain ⟨h2, hh2⟩ : ∃ h2, h2 = q / 2 := ⟨_, rfl⟩
          have e1 : (q : Int).tdiv 2 = (h2 : Int) := by rw [Int.tdiv_eq_ediv_of_nonneg (by omega)]; omega
          have e2 : (q : Int) / 2 = (h2 : Int) := by omega
          have e3 : q / 2 = h2 := hh2.symm
          have HH2 := Lib.hid (show 2 * h2 ≤ q ∧ q ≤ 2 * h2 + 1 by omega)
          rw [e3] at HBO
          clear kk hh2
          go_wp2_with fail
          go_loopw [9] (fun v wt => ∃ k : Nat, k ≤ h2 ∧ v = .int .i64 k ∧ Hid (OwnF wt wa.heap.size ab q cb (revG B q k)) ∧ Keep (fun t => (Value.slice ab q cb).ownBlock = some t) wb wt) (fun v _ => h2 - (intOf v).toNat)
          case atStart => exact ⟨0, by omega, rfl, HB2, Keep.refl _ _⟩
          case round =>
            obtain ⟨k, hk, rfl, HR, kk⟩ := hrel
            by_cases hkh : k < h2
            · have hkh' : (k : Int) < (h2 : Int) := by omega
              obtain ⟨gB, rfl, hgB, hcB, hrow⟩ := HR.out.row (by have := HH2.out; omega)
              obtain ⟨I1, hI1⟩ : ∃ I1, I1 = q - 1 := ⟨_, rfl⟩
              obtain ⟨y, hy⟩ : ∃ y, y = I1 - k := ⟨_, rfl⟩
              have hH := HH2.out
              have f1 : IntKind.i64.wrap ((q : Int) - 1) = (I1 : Int) := by rw [show (q : Int) - 1 = (I1 : Int) by omega]; exact wraps_i64 _ (by omega) (by omega)
              have f2 : (q : Int) - 1 = (I1 : Int) := by omega
              have f3 : IntKind.i64.wrap ((I1 : Int) - (k : Int)) = (y : Int) := by rw [show (I1 : Int) - (k : Int) = (y : Int) by omega]; exact wraps_i64 _ (by omega) (by omega)
              have f4 : (I1 : Int) - (k : Int) = (y : Int) := by omega
              have hkq : k < q := by omega
              have hyq : y < q := by omega
              have hkq' : (k : Int) < (q : Int) := by omega
              have hyq' : (y : Int) < (q : Int) := by omega
              have HX := Lib.hid (show swpG (revG B q k) k y = revG B q (k + 1) by rw [show y = q - 1 - k by omega]; exact revG_next B (by omega))
              obtain ⟨h, hh⟩ : ∃ h, h = revG B q k := ⟨_, rfl⟩
              rw [← hh] at HX hrow
              have hne : k ≠ y := by omega
              have f5 : IntKind.i64.wrap (I1 : Int) = (I1 : Int) := wraps_i64 _ (by omega) (by omega)
              have f6 : IntKind.i64.wrap (y : Int) = (y : Int) := wraps_i64 _ (by omega) (by omega)
              have f7 : I1 ≤ 60 := by omega
              clear hh hI1 hy hH HR
              obtain ⟨a0, a1, a2, a3, a4⟩ := ArgW.five hrow hkq
              obtain ⟨b0, b1, b2, b3, b4⟩ := ArgW.five hrow hyq
              obtain ⟨⟨⟨_, c0⟩, z0⟩, ⟨⟨_, c1⟩, z1⟩, ⟨⟨_, c2⟩, z2⟩, ⟨⟨_, c3⟩, z3⟩, ⟨⟨_, c4⟩, z4⟩, ⟨⟨_, c5⟩, z5⟩, ⟨⟨_, c6⟩, z6⟩, ⟨⟨_, c7⟩, z7⟩, ⟨⟨_, c8⟩, z8⟩, ⟨⟨_, c9⟩, z9⟩, RF, KF⟩ := swap_two hrow hne hkq hyq
              rw [HX.out] at RF
              have HRF := Lib.hid RF
              have HGB := Lib.hid (And.intro hgB hcB)
              have HKF := Lib.hid (kk.trans KF (fun t e => .inl (by rw [show t = gB from e]; rfl)))
              clear hrow RF KF c0 hne kk HX
              go_upto_region 17 with (fail)
              go_region_law (fail)
              all_goals
                go_wp2_with fail
                go_roundw
                case rel => exact ⟨k + 1, by omega, by go_num, Lib.hid (OwnW.of_row (RowW.drewN HRF.out 1) HGB.out.1 HGB.out.2), HKF.out.drewN 1⟩
                case measure => simp [intOf]; omega
            · obtain rfl : k = h2 := by omega
              have hkh' : ¬ (k : Int) < (k : Int) := by omega
              obtain ⟨wc, hwc⟩ : ∃ wc, wc = wr := ⟨_, rfl⟩
              subst hwc
              have KAC := Lib.hid (KAB.out.drop kk HBS.out)
              have HB3 := Lib.hid (HR.out.congr (f' := fdG (fun x => F (ordS q T x))) (fun x hx => by unfold fdG; exact congrArg (fun u => FoundE.cell u (x % 5)) (HBO.out (x / 5) (by omega))))
              have HO3 := Lib.hid (HO.out.keep KAC.out)
              clear kk HR HB2 HBS HB HBO HB0 HH2
              generalize hG : (fun x => F (ordS q T x)) = G at *
              clear hG
              have HL1 := Lib.hid (latest_all ao q co F wc HO3.out.arg (by omega))
              go_wp2_with fail
              refine HL1.out.mono ?_
              rintro e w7 ⟨ax, cx, h1, rfl, ox, px, sx, k7⟩
              clear e1 e2 e3
              have HL2 := Lib.hid (latest_all ab q cb G w7 (HB3.out.keep k7).arg (by omega))
              have OX := Lib.hid ox
              have PX := Lib.hid (And.intro px sx)
              have K7 := Lib.hid k7
              clear ox px sx k7 HL1
              go_wp2_with fail
              refine HL2.out.mono ?_
              rintro e w8 ⟨ay, cy, g2, rfl, oy, py, sy, k8⟩
              obtain ⟨em, er⟩ := HFA.out.1 h1 g2 PX.out.1 PX.out.2 py sy
              rw [← em] at oy ⊢
              have hcm := cmpN_le h1 q
              have OY := Lib.hid (oy.congr (f' := fdG (cmpG h1 q)) (fun x hx => by unfold fdG; rw [er _ (by omega)]))
              have OX8 := Lib.hid (OX.out.keep k8)
              have HLat := Lib.hid (lat_of PX.out.1 PX.out.2)
              have K8 := Lib.hid (K7.out.comp k8)
              have KW8 := Lib.hid ((KA.out.comp KAC.out).comp K8.out)
              clear oy py sy k8 HL2 em er OX
              have HOA := Lib.hid (HO3.out.keep K8.out)
              have HOB := Lib.hid (HB3.out.keep K8.out)
              have HGE := Lib.hid HFA.out.2
              generalize cmpN h1 q = m at *
              generalize cmpG h1 q = r at *
              have HG1 := Lib.hid (greatest_any ao q co F w8 HOA.out.arg (by omega))
              have hmm : (m == m) = true := by simp
              have hmm2 : ((m : Int) != (m : Int)) = false := by simp
              go_wp2_with fail
              refine HG1.out.mono ?_
              rintro e w9 ⟨rfl, k9⟩
              have HG2 := Lib.hid (greatest_any ab q cb G w9 (HOB.out.keep k9).arg (by omega))
              have K9 := Lib.hid k9
              clear k9 HG1
              go_wp2_with fail
              refine HG2.out.mono ?_
              rintro e w10 ⟨rfl, k10⟩
              rw [HGE.out]
              generalize grS G q = gv at *
              have hgg : (gv != gv) = false := by simp
              have K10 := Lib.hid (K9.out.comp k10)
              have OX10 := Lib.hid (OX8.out.keep K10.out)
              have OY10 := Lib.hid (OY.out.keep K10.out)
              have KW := Lib.hid (KW8.out.comp K10.out)
              clear k10 HG2 K9 OX8 OY HO HO3 HB3 HOA HOB hmm hmm2
              go_wp2_with fail
              clear hgg
              go_loopw [12] (fun v wt => ∃ k : Nat, k ≤ m ∧ v = .int .i64 k ∧ Keep (fun _ => False) w10 wt) (fun v _ => m - (intOf v).toNat)
              case atStart => exact ⟨0, by omega, rfl, Keep.refl _ _⟩
              case round =>
                obtain ⟨k, hk, rfl, kk⟩ := hrel
                by_cases hkm : k < m
                · have hkm' : (k : Int) < (m : Int) := by omega
                  obtain ⟨gX, rfl, _, _, hrX⟩ := OX10.out.row (by omega)
                  obtain ⟨gY, rfl, _, _, hrY⟩ := OY10.out.row (by omega)
                  have hrowX := hrX.keep kk (by simp)
                  have hrowY := hrY.keep kk (by simp)
                  obtain ⟨a0, a1, a2, a3, a4⟩ := ArgW.five hrowX hkm
                  obtain ⟨b0, b1, b2, b3, b4⟩ := ArgW.five hrowY hkm
                  have u0 : ∀ p : KeptBy wr, p.v.cell? ⟨gX, k * 5, none⟩ = some (.int .i64 (r k).p) := fun p => p.cell hrowX.lt a0
                  have u1 : ∀ p : KeptBy wr, p.v.cell? ⟨gX, k * 5 + 1, none⟩ = some (.int .i64 (r k).k) := fun p => p.cell hrowX.lt a1
                  have u2 : ∀ p : KeptBy wr, p.v.cell? ⟨gX, k * 5 + 2, none⟩ = some (.int .i64 (r k).l) := fun p => p.cell hrowX.lt a2
                  have u3 : ∀ p : KeptBy wr, p.v.cell? ⟨gX, k * 5 + 3, none⟩ = some (.int .i64 (r k).s) := fun p => p.cell hrowX.lt a3
                  have u4 : ∀ p : KeptBy wr, p.v.cell? ⟨gX, k * 5 + 4, none⟩ = some (.int .i64 (r k).m) := fun p => p.cell hrowX.lt a4
                  have v0 : ∀ p : KeptBy wr, p.v.cell? ⟨gY, k * 5, none⟩ = some (.int .i64 (r k).p) := fun p => p.cell hrowY.lt b0
                  have v1 : ∀ p : KeptBy wr, p.v.cell? ⟨gY, k * 5 + 1, none⟩ = some (.int .i64 (r k).k) := fun p => p.cell hrowY.lt b1
                  have v2 : ∀ p : KeptBy wr, p.v.cell? ⟨gY, k * 5 + 2, none⟩ = some (.int .i64 (r k).l) := fun p => p.cell hrowY.lt b2
                  have v3 : ∀ p : KeptBy wr, p.v.cell? ⟨gY, k * 5 + 3, none⟩ = some (.int .i64 (r k).s) := fun p => p.cell hrowY.lt b3
                  have v4 : ∀ p : KeptBy wr, p.v.cell? ⟨gY, k * 5 + 4, none⟩ = some (.int .i64 (r k).m) := fun p => p.cell hrowY.lt b4
                  have heq : ∀ w, (Op.equalIn 10000 52 (.agg #[.int .i64 (r k).p, .int .i64 (r k).k, .int .i64 (r k).l, .int .i64 (r k).s, .int .i64 (r k).m]) (.agg #[.int .i64 (r k).p, .int .i64 (r k).k, .int .i64 (r k).l, .int .i64 (r k).s, .int .i64 (r k).m])).run Tryz.prog w = .ok true w := fun w => by rw [eq_fd, decide_eq_true rfl]
                  have HKK := Lib.hid kk
                  clear a0 a1 a2 a3 a4 b0 b1 b2 b3 b4 hrowX hrowY hrX hrY kk
                  go_upto_region 24 with (fail)
                  refine wp_region_kept (by kernel_rfl) (by kernel_rfl) ?_
                  repeat (go_big_quiet_step (fail))
                  refine wpQuiet_nil ?_
                  rintro w4 ⟨⟨_, k4⟩, rfl⟩
                  have HK5 := Lib.hid (HKK.out.comp k4)
                  clear u0 u1 u2 u3 u4 v0 v1 v2 v3 v4 k4 HKK heq
                  go_wp2_with fail
                  go_roundw
                  case rel => exact ⟨k + 1, by omega, by go_num, HK5.out⟩
                  case measure => simp [intOf]; omega
                · obtain rfl : k = m := by omega
                  have hkm' : ¬ (k : Int) < (k : Int) := by omega
                  have HL3 := Lib.hid (latest_all ax k cx r wr (OX10.out.keep kk).arg (by have := HLat.out.le; omega))
                  have KWR := Lib.hid (KW.out.comp kk)
                  clear kk
                  go_wp2_with fail
                  refine HL3.out.mono ?_
                  rintro e w11 ⟨az, cz, h3, rfl, oz, pz, sz, k11⟩
                  rw [again_full HLat.out pz]
                  have KZ := Lib.hid (KWR.out.comp k11)
                  clear oz pz sz k11 HL3
                  have hkk : ((k : Int) == (k : Int)) = true := by simp
                  go_wp2_with fail
                  go_ret
                  exact ⟨rfl, KZ.out⟩
theorem orders18_of {H : Type} {enc : TypeId × Value → H} {base : Nat} {d0 : DataW H} {ps0 : List MemPlace} {sp0 : Nat → Bool} (w : World) {a : Option Addr} {n c : Nat} {x : Int} (hx : (Lit.int .u8 x).wf = true)
    (h : DataW.Trod enc Tryz.prog w base sp0 true 63 (.slice a n c) d0 ps0) :
    Calls Tryz.prog 7 #[.slice a n c, .int .u8 x] w fun e w' => e = .returned (.bool true) ∧ Keep (fun _ => False) w w' := by
  obtain ⟨X, Y, Z, hA⟩ := tri8_of Tryz.underlying63 Tryz.underlying64 Tryz.underlying5 (by kernel_rfl) (by kernel_rfl) h
  have hb := Go.bounds_u8 hx
  obtain ⟨T, rfl⟩ : ∃ T : Nat, x = T := ⟨x.toNat, by omega⟩
  exact orders18_true w a n c T X Y Z hA (by omega)
end Go.Proofs.YtdlmjjlejkkniaaGreat
