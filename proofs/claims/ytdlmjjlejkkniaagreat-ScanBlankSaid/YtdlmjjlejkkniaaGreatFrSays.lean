/- What a page says; law11.awake; frame.Read by its answer. -/
import Derived.Test.YtdlmjjlejkkniaaGreatFrRead
import Derived.Test.YtdlmjjlejkkniaaGreatPage
import Derived.Laws.IdiomStrings
import Derived.Test.YtdlmjjlejkkniaaGreatFrMake
import Derived.Test.YtdlmjjlejkkniaaGreatLawHead
namespace Go.Proofs.YtdlmjjlejkkniaaGreat
open Go.RowKit

theorem seqN_of {k l s : Nat} (hm : MarkOk k l s) {S : Nat → Nat} (h : ∀ i, i < 8 → S i = hdS k l s i) : S 0 = k ∧ S 1 * 1024 + S 2 = l ∧ seqN S 4 = s := by
  have h0 : S 0 = k := h 0 (by omega)
  have h1 : S 1 = l / 1024 := h 1 (by omega)
  have h2 : S 2 = l % 1024 := h 2 (by omega)
  have h3 : S 3 = s / 1024 / 1024 / 1024 % 1024 := h 3 (by omega)
  have h4 : S 4 = s / 1024 / 1024 % 1024 := h 4 (by omega)
  have h5 : S 5 = s / 1024 % 1024 := h 5 (by omega)
  have h6 : S 6 = s % 1024 := h 6 (by omega)
  have hs := hm.s
  refine ⟨h0, by rw [h1, h2]; omega, ?_⟩
  have e : seqN S 4 = (((0 * 1024 + S 3) * 1024 + S 4) * 1024 + S 5) * 1024 + S 6 := rfl
  rw [e, h3, h4, h5, h6]
  omega
/-- Symbols that are a page's say what it was to say. -/
theorem says_of {k l s W K : Nat} {d S : Nat → Nat} (hm : MarkOk k l s) (hwk : 8 < W * K) (hd : ∀ i, i < szB W K → d i < 256) (hS : ∀ i, i < W * K → S i = pgD k l s d (szB W K) i) :
    FSays S W K ∧ S 0 = k ∧ S 1 * 1024 + S 2 = l ∧ seqN S 4 = s ∧ ∀ j, j < szB W K → upB (fun i => S (8 + i)) j = d j := by
  obtain ⟨e0, e1, e2⟩ := seqN_of hm (fun i hi => by
    rw [hS i (by omega)]
    unfold pgD
    rw [if_pos hi] : ∀ i, i < 8 → S i = hdS k l s i)
  have hz := szB_pk W K hwk
  have hu : ∀ j, j < szB W K → upB (fun i => S (8 + i)) j = d j := fun j hj => by
    rw [upB_congr (t := pkS d (szB W K)) (m := pkN (szB W K)) (fun i hi => ?_) (by unfold pkN; omega)]
    · exact up_pk hj (hd j hj)
    · show S (8 + i) = _
      rw [hS _ (by omega)]
      unfold pgD
      rw [if_neg (by omega), if_pos (by omega), show 8 + i - 8 = i by omega]
  refine ⟨⟨by rw [e0, e1, e2]; exact hm, fun i hi => ?_⟩, e0, e1, e2, hu⟩
  rw [e0, e1, e2, hS i hi]
  unfold pgD
  rw [pkS_congr hu]
theorem wov_of {W K : Nat} {D : Nat → Nat} (hD : ∀ i, D i < 1024) {q : Nat → Nat → Nat} (hW : 0 < W) (hq : ∀ r, r < W → ∀ j, j < K + 16 → q r j = wordS W K D r j) {i : Nat} (hi : i < W * K) : wovS W q i = D i := by
  have h1 := Nat.mod_lt i hW
  have h2 : i / W < K := by
    rw [Nat.div_lt_iff_lt_mul hW, Nat.mul_comm]
    exact hi
  unfold wovS
  rw [hq _ h1 _ (by omega), (word_is hD _).data _ h2]
  unfold rowD
  rw [Nat.mul_comm, Nat.div_add_mod]
theorem wrF_congr {x y : Nat → Int} {W K : Nat} {q q' : Nat → Nat → Nat} {r : Nat} (h : ∀ j, j < K + 16 → q r j = q' r j) : wrF x y W K q r = wrF x y W K q' r := wrongN_congr h
/-- A page all of whose codewords can be read says what it was to say. -/
theorem ReadR.says {w' : World} {N : Nat} {x y : Nat → Int} {W K k l s : Nat} {d : Nat → Nat} {e : Ending} (h : ReadR w' N x y W K e) (hm : MarkOk k l s) (hd : ∀ i, i < szB W K → d i < 256) (hW : 0 < W) (hK : K ≤ 64) (hwk : 8 < W * K)
    (hg : ∀ r, r < W → GoodRow (fun i => x (r + i * W)) (fun i => y (r + i * W)) (K + 16) (wordS W K (pgD k l s d (szB W K)) r)) :
    ∃ a' c', e = .returned (.tuple #[markV k l s, .slice a' (szB W K) c', .int .i64 (mostN (wrF x y W K (wordS W K (pgD k l s d (szB W K)))) W : Nat), .int .i64 0]) ∧ OwnV w' 5 N a' (szB W K) c' (fun j => .int .u8 (d j : Nat)) := by
  rcases h with ⟨hb, _⟩ | ⟨_, ⟨⟨r, hr, hno⟩, _⟩ | ⟨q, hq, hS⟩⟩
  · have hz : ∀ i, i < W * (K + 16) → x i = 0 ∧ y i = 0 := fun i hi => by
      by_cases ho : offB (x i) (y i) = true
      · rw [anyB_true (b := fun i => offB (x i) (y i)) ho hi] at hb
        cases hb
      · unfold offB at ho
        simp at ho
        exact ho
    have h10 : zerosN (fun i => onB (x (0 + i * W)) (y (0 + i * W))) (K + 16) = K + 16 := by
      have : ∀ n, n ≤ K + 16 → zerosN (fun i => onB (x (0 + i * W)) (y (0 + i * W))) n = n := by
        intro n
        induction n with
        | zero => intro _; rfl
        | succ n ih =>
          intro hn
          unfold zerosN
          rw [ih (by omega)]
          have := hz (0 + n * W) ((row_lt (r := 0) (j := n) (W := W) (N := K + 16) hW).2 (by omega))
          have e : onB (x (0 + n * W)) (y (0 + n * W)) = true := by
            rw [this.1, this.2]
            rfl
          rw [if_pos e]
      exact this _ (Nat.le_refl _)
    exact absurd (hg 0 hW) (zeros_bad (x := fun i => x (0 + i * W)) (y := fun i => y (0 + i * W)) (show 8 < zerosN (fun i => onB (x (0 + i * W)) (y (0 + i * W))) (K + 16) by rw [h10]; omega) _)
  · exact absurd (hg r hr) (hno _)
  · have hD : ∀ i, pgD k l s d (szB W K) i < 1024 := pgD_lt hm d _
    have hqe : ∀ r, r < W → ∀ j, j < K + 16 → q r j = wordS W K (pgD k l s d (szB W K)) r j := fun r hr j hj => by
      obtain ⟨⟨d', h1⟩, _⟩ := hq r hr
      exact GoodRow.uniq (by omega) h1 (hg r hr) j hj
    obtain ⟨hF, e0, e1, e2, hu⟩ := says_of hm hwk hd (S := wovS W q) (fun i hi => wov_of hD hW hqe hi)
    rcases hS with ⟨hn, _⟩ | ⟨_, a', c', rfl, ho⟩
    · exact absurd hF hn
    · refine ⟨a', c', ?_, ho.congr fun j hj => by rw [hu j hj]⟩
      rw [e0, e1, e2, mostN_congr (fun r hr => wrF_congr (hqe r hr))]
theorem ReadR.torn {w' : World} {N : Nat} {x y : Nat → Int} {W K : Nat} {e : Ending} (h : ReadR w' N x y W K e) (hb : anyB (fun i => offB (x i) (y i)) (W * (K + 16)) = true) {r : Nat} (hr : r < W) (hno : ∀ q, ¬ GoodRow (fun i => x (r + i * W)) (fun i => y (r + i * W)) (K + 16) q) : e = noE 4 := by
  rcases h with ⟨h1, _⟩ | ⟨_, ⟨_, he⟩ | ⟨q, hq, _⟩⟩
  · rw [hb] at h1
    cases h1
  · exact he
  · exact absurd (hq r hr) (hno _)
theorem ReadR.blank {w' : World} {N : Nat} {x y : Nat → Int} {W K : Nat} {e : Ending} (h : ReadR w' N x y W K e) (hb : anyB (fun i => offB (x i) (y i)) (W * (K + 16)) = false) : e = noE 13 := by
  rcases h with ⟨_, he⟩ | ⟨h1, _⟩
  · exact he
  · rw [hb] at h1
    cases h1
/-- Symbols that are no page's. -/
theorem ReadR.form {w' : World} {N : Nat} {x y : Nat → Int} {W K : Nat} {e : Ending} (h : ReadR w' N x y W K e) (hK : K ≤ 64) (hb : anyB (fun i => offB (x i) (y i)) (W * (K + 16)) = true) {q : Nat → Nat → Nat} (hg : ∀ r, r < W → GoodRow (fun i => x (r + i * W)) (fun i => y (r + i * W)) (K + 16) (q r))
    (hS : ∀ S, (∀ i, i < W * K → S i = wovS W q i) → ¬ FSays S W K) (hW : 0 < W) : e = noE 12 := by
  rcases h with ⟨h1, _⟩ | ⟨_, ⟨⟨r, hr, hno⟩, _⟩ | ⟨q', hq, hs⟩⟩
  · rw [hb] at h1
    cases h1
  · exact absurd (hg r hr) (hno _)
  · rcases hs with ⟨_, he⟩ | ⟨hF, _⟩
    · exact he
    · refine absurd hF (hS _ fun i hi => ?_)
      have h1 := Nat.mod_lt i hW
      have h2 : i / W < K := by
        rw [Nat.div_lt_iff_lt_mul hW, Nat.mul_comm]
        exact hi
      obtain ⟨⟨d', h3⟩, _⟩ := hq _ h1
      exact GoodRow.uniq (by omega) h3 (hg _ h1) _ (by omega)
/-- Whatever the points are. -/
theorem ReadR.any {w' : World} {N : Nat} {x y : Nat → Int} {W K : Nat} {e : Ending} (h : ReadR w' N x y W K e) : ∃ (k l s : Int) (a' : Option Addr) (n c' m : Nat) (z : Int), e = .returned (.tuple #[markV k l s, .slice a' n c', .int .i64 m, .int .i64 z]) ∧ m ≤ 8 := by
  rcases h with ⟨_, rfl⟩ | ⟨_, ⟨_, rfl⟩ | ⟨q, hq, ⟨_, rfl⟩ | ⟨_, a', c', rfl, _⟩⟩⟩
  · exact ⟨0, 0, 0, none, 0, 0, 0, 13, rfl, by omega⟩
  · exact ⟨0, 0, 0, none, 0, 0, 0, 4, rfl, by omega⟩
  · exact ⟨0, 0, 0, none, 0, 0, 0, 12, rfl, by omega⟩
  · exact ⟨_, _, _, a', _, c', _, 0, rfl, mostN_le fun r hr => (hq r hr).2⟩
/-- Bytes as a string. -/
def strS (d : Nat → Nat) (n : Nat) : ByteArray := ⟨((List.range n).map fun i => UInt8.ofNat (d i)).toArray⟩
theorem strS_congr {d e : Nat → Nat} {n : Nat} (h : ∀ i, i < n → d i = e i) : strS d n = strS e n := by
  unfold strS
  rw [List.map_congr_left fun i hi => by rw [h i (List.mem_range.1 hi)]]
theorem strS_inj {d e : Nat → Nat} {n : Nat} (hd : ∀ i, i < n → d i < 256) (he : ∀ i, i < n → e i < 256) (h : strS d n = strS e n) : ∀ i, i < n → d i = e i := by
  intro i hi
  unfold strS at h
  injection h with h
  have h1 : (List.range n).map (fun i => UInt8.ofNat (d i)) = (List.range n).map (fun i => UInt8.ofNat (e i)) := by simpa using h
  have h2 := congrArg (fun l => l[i]?) h1
  simp [hi] at h2
  have h3 := congrArg UInt8.toNat h2
  simp at h3
  have := hd i hi
  have := he i hi
  omega
theorem str_any (a : Option Addr) (n c : Nat) (d : Nat → Nat) (w : World) (ha : ArgV w a n (fun i => .int .u8 (d i : Nat))) (h0 : 0 < n) (hd : ∀ i, i < n → d i < 256) :
    (convert 24 9 (.slice a n c)).run Tryz.prog w = .ok (.string (strS d n)) w := by
  obtain ⟨b, off, rfl, _, hc⟩ := ha.at_ h0
  have h := run_convert_bytes_back (P := Tryz.prog) w 24 9 5 ⟨b, off, none⟩ c ((List.range n).map fun i => UInt8.ofNat (d i)) Tryz.underlying24 Tryz.underlying5 (by kernel_rfl) (fun j hj => by
    simp at hj
    rw [addr_add, hc j hj]
    simp
    have := hd j hj
    omega)
  simp only [List.length_map, List.length_range] at h
  exact h
end Go.Proofs.YtdlmjjlejkkniaaGreat

namespace Go.Proofs.YtdlmjjlejkkniaaGreat
open Go.RowKit
attribute [local go_sem] run_store_cx

theorem Tryz.info_cx : (Tryz.prog.info? 122).map (fun i => (i.zero, i.size, i.bytes)) = some (some (.complex .f64 0 0), 1, 16) := by kernel_rfl
theorem make_cx (x : Int) (m : Nat) (hx : x = m) (hm : m ≤ 1000000) (w : World) :
    (Instr.makeSlice 92 (.int .i64 x) (.int .i64 x)).run Tryz.prog w = .ok (.slice (some ⟨w.heap.size, 0, none⟩) m m) (w.alloc (.cells (valsArr (fun _ => .complex .f64 0 0) m) 122)) :=
  make_vals (P := Tryz.prog) Tryz.underlying92 Tryz.info_cx rfl x m hx (by omega) (by omega) w
theorem pt_00 : Value.complex .f64 0 0 = ptv 0 0 := by
  unfold ptv
  rw [show (2 * (0 : Int)) = 0 from rfl, fx_zero]
/-- Symbols that are a page's can be read from their own points. -/
theorem fresh_wrong {W K : Nat} {D : Nat → Nat} (hD : ∀ i, D i < 1024) (hW : 1 ≤ W) {r : Nat} (hr : r < W) :
    wrF (fun i => reS (pageS W K D i)) (fun i => imS (pageS W K D i)) W K (wordS W K D) r = 0 := by
  unfold wrF
  refine wrongN_zero fun i hi => ⟨onB_sym _, ?_⟩
  show wordS W K D r i = sl (reS (pageS W K D (r + i * W))) (imS (pageS W K D (r + i * W)))
  rw [sl_sym (pageS_lt hD hW ((row_lt (r := r) (j := i) (W := W) (N := K + 16) hr).2 hi)), page_at hr]
theorem fresh_good {W K : Nat} {D : Nat → Nat} (hD : ∀ i, D i < 1024) (hW : 1 ≤ W) {r : Nat} (hr : r < W) :
    GoodRow (fun i => reS (pageS W K D (r + i * W))) (fun i => imS (pageS W K D (r + i * W))) (K + 16) (wordS W K D r) :=
  good_of (word_is hD r) (by have := fresh_wrong (K := K) hD hW hr; unfold wrF at this; rw [this]; omega)
theorem mostN_zero {f : Nat → Nat} {n : Nat} (h : ∀ i, i < n → f i = 0) : mostN f n = 0 := Nat.le_zero.1 (mostN_le fun i hi => Nat.le_of_eq (h i hi))
/-- A fresh page, read. -/
theorem ReadR.fresh {w' : World} {N W K k l s : Nat} {d : Nat → Nat} {e : Ending} (h : ReadR w' N (fun i => reS (pageS W K (pgD k l s d (szB W K)) i)) (fun i => imS (pageS W K (pgD k l s d (szB W K)) i)) W K e) (hm : MarkOk k l s) (hd : ∀ i, i < szB W K → d i < 256) (hW : 0 < W) (hK : K ≤ 64) (hwk : 8 < W * K) :
    ∃ a' c', e = .returned (.tuple #[markV k l s, .slice a' (szB W K) c', .int .i64 0, .int .i64 0]) ∧ OwnV w' 5 N a' (szB W K) c' (fun j => .int .u8 (d j : Nat)) := by
  obtain ⟨a', c', he, ho⟩ := h.says hm hd hW hK hwk (fun r hr => fresh_good (pgD_lt hm d _) hW hr)
  rw [mostN_zero (fun r hr => fresh_wrong (pgD_lt hm d _) hW hr)] at he
  exact ⟨a', c', he, ho⟩
theorem geo_12 : GeoOk 4 2 (1 : Nat) (12 : Nat) := by decide
theorem mark_179 : MarkOk 1 7 9 := ⟨by omega, by omega, by omega, by omega⟩
def bt5 : Nat → Nat := lst [1, 2, 3, 4, 5]
theorem bt5_lt (i : Nat) : bt5 i < 256 := by
  match i with
  | 0 => decide
  | 1 => decide
  | 2 => decide
  | 3 => decide
  | 4 => decide
  | n + 5 => exact Nat.zero_lt_succ _
def bwD : Nat → Nat := pgD 1 7 9 bt5 5
def bwS : Nat → Nat := pageS 1 12 bwD
theorem bwD_lt (i : Nat) : bwD i < 1024 := pgD_lt mark_179 _ _ i
theorem bwS_lt {i : Nat} (hi : i < 28) : bwS i < 1024 := pageS_lt bwD_lt (by omega) hi
end Go.Proofs.YtdlmjjlejkkniaaGreat

namespace Go.Proofs.YtdlmjjlejkkniaaGreat
open Go.ChangeShapes Go.WideShapes Go.ChangeAt Go.RowKit

def SaysR (w' : World) (N : Nat) (e : Ending) (k l s : Int) (z : Nat) (d : Nat → Nat) (n f : Int) : Prop :=
  ∃ a' c', e = .returned (.tuple #[.agg #[.int .i64 k, .int .i64 l, .int .i64 s], .slice a' z c', .int .i64 n, .int .i64 f]) ∧ OwnV w' 5 N a' z c' (fun j => .int .u8 (d j : Nat))
theorem SaysR.nothing {w' : World} {N : Nat} {e : Ending} {z : Int} (d : Nat → Nat) (h : e = noE z) : SaysR w' N e 0 0 0 0 d 0 z := ⟨Option.none, 0, h, OwnV.nil _ _ _ _⟩
theorem read_says {B P : Int} {W K n : Nat} {x y : Nat → Int} {k l s : Int} {z : Nat} {d : Nat → Nat} {rn rf : Int} (h : GeoOk B P W K) (hn : n = W * (K + 16)) (hx : ∀ i, i < n → Pm (x i) ∧ Pm (y i))
    (hs : ∀ w' N e, ReadR w' N x y W K e → SaysR w' N e k l s z d rn rf) :
    Hid (∀ w V a c, HasT w V → ArgV w a n (ptsV x y) → Calls Tryz.prog 42 #[V, geoV B P W K, .slice a n c] w fun e w' => SaysR w' w.heap.size e k l s z d rn rf ∧ Keep (fun _ => False) w w') :=
  Lib.hid fun w V a c hT ha => (read_any V B P W K n a c x y w h hn hT ha hx).mono fun _ _ ⟨h1, h2⟩ => ⟨hs _ _ _ h1, h2⟩
set_option maxRecDepth 100000 in
/-- A head by value. -/
theorem mark3_of {H : Type} {enc : TypeId × Value → H} {w : World} {base b0 : Nat} {v : Value} {d : DataW H} {ps : List MemPlace} {sp : Nat → Bool}
    (hv : Value.okWide Tryz.prog w .any b0 30 v) (h : DataW.Trod enc Tryz.prog w base sp true 30 v d ps) : ∃ k l s : Int, v = markV k l s := by
  obtain ⟨cs, rfl, h2⟩ := okWide_struct Tryz.underlying30 hv
  obtain ⟨fuel, hf⟩ := h
  obtain ⟨xs, m, _, _, _, hlen, hf2⟩ := DataW.trod_struct Tryz.underlying30 hf
  have h0 : DataW.trod enc Tryz.prog w base sp true m 3 (List.take (Tryz.prog.cellsOf 3) (List.drop 0 (Value.agg cs).cells.toList)) = xs[0]? := hf2 0 _ rfl
  have h1 : DataW.trod enc Tryz.prog w base sp true m 3 (List.take (Tryz.prog.cellsOf 3) (List.drop 1 (Value.agg cs).cells.toList)) = xs[1]? := hf2 1 _ rfl
  have hw : DataW.trod enc Tryz.prog w base sp true m 3 (List.take (Tryz.prog.cellsOf 3) (List.drop 2 (Value.agg cs).cells.toList)) = xs[2]? := hf2 2 _ rfl
  have c1 : Tryz.prog.cellsOf 3 = 1 := by kernel_rfl
  have c3 : Tryz.prog.cellsOf 30 = 3 := by kernel_rfl
  rw [c3] at h2
  have hl : xs.length = 3 := by simpa using hlen
  rw [c1, List.getElem?_eq_getElem (by omega)] at h0 h1 hw
  obtain ⟨B, e0, _⟩ := DataW.trod_int Tryz.underlying3 h0
  obtain ⟨P, e1, _⟩ := DataW.trod_int Tryz.underlying3 h1
  obtain ⟨W, e2, _⟩ := DataW.trod_int Tryz.underlying3 hw
  refine ⟨B, P, W, ?_⟩
  obtain ⟨x, y, z, rfl⟩ : ∃ x y z, cs = #[x, y, z] := by
    rcases cs with ⟨l⟩
    match l, h2 with
    | [x, y, z], _ => exact ⟨x, y, z, rfl⟩
  simp [Value.cells] at e0 e1 e2
  rw [e0, e1, e2]
  rfl
/-- Pages that were made, read. -/
theorem fresh_says {k l s W K : Nat} {d : Nat → Nat} (hm : MarkOk k l s) (hd : ∀ i, i < szB W K → d i < 256) (hW : 0 < W) (hK : K ≤ 64) (hwk : 8 < W * K) (w' : World) (N : Nat) (e : Ending)
    (h : ReadR w' N (fun i => reS (pageS W K (pgD k l s d (szB W K)) i)) (fun i => imS (pageS W K (pgD k l s d (szB W K)) i)) W K e) : SaysR w' N e k l s (szB W K) d 0 0 := h.fresh hm hd hW hK hwk
end Go.Proofs.YtdlmjjlejkkniaaGreat
