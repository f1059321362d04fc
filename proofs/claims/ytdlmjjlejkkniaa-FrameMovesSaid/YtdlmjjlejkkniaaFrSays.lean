/- What a page says; law11.awake; frame.Read by its answer. -/
import Derived.Test.YtdlmjjlejkkniaaFrRead
import Derived.Test.YtdlmjjlejkkniaaPage
import Derived.Laws.IdiomStrings
import Derived.Test.YtdlmjjlejkkniaaFrMake
import Derived.Test.YtdlmjjlejkkniaaLawHead
namespace Go.Proofs.Ytdlmjjlejkkniaa
open Go.RowKit

theorem seqN_of {k l s : Nat} (hm : MarkOk k l s) {S : Nat → Nat} (h : ∀ i, i < 8 → S i = hdS k l s i) : S 0 = k ∧ S 1 * 1024 + S 2 = l ∧ seqN S 4 = s := by
  have h0 : S 0 = k := h 0 (by omega)
  have h1 : S 1 = l / 1024 := h 1 (by omega)
  have h2 : S 2 = l % 1024 := h 2 (by omega)
  have h3 : S 3 = s / 1024 / 1024 / 1024 % 1024 := h 3 (by omega)
  have h4 : S 4 = s / 1024 / 1024 % 1024 := h 4 (by omega)
  have h5 : S 5 = s / 1024 % 1024 := h 5 (by omega)
  have h6 : S 6 = s % 1024 := h 6 (by omega)
  have hs := hm.s
  refine ⟨h0, by rw [h1, h2]; omega, ?_⟩
  have e : seqN S 4 = (((0 * 1024 + S 3) * 1024 + S 4) * 1024 + S 5) * 1024 + S 6 := rfl
  rw [e, h3, h4, h5, h6]
  omega
/-- Symbols that are a page's say what it was to say. -/
theorem says_of {k l s W K : Nat} {d S : Nat → Nat} (hm : MarkOk k l s) (hwk : 8 < W * K) (hd : ∀ i, i < szB W K → d i < 256) (hS : ∀ i, i < W * K → S i = pgD k l s d (szB W K) i) :
    FSays S W K ∧ S 0 = k ∧ S 1 * 1024 + S 2 = l ∧ seqN S 4 = s ∧ ∀ j, j < szB W K → upB (fun i => S (8 + i)) j = d j := by
  obtain ⟨e0, e1, e2⟩ := seqN_of hm (fun i hi => by
    rw [hS i (by omega)]
    unfold pgD
    rw [if_pos hi] : ∀ i, i < 8 → S i = hdS k l s i)
  have hz := szB_pk W K hwk
  have hu : ∀ j, j < szB W K → upB (fun i => S (8 + i)) j = d j := fun j hj => by
    rw [upB_congr (t := pkS d (szB W K)) (m := pkN (szB W K)) (fun i hi => ?_) (by unfold pkN; omega)]
    · exact up_pk hj (hd j hj)
    · show S (8 + i) = _
      rw [hS _ (by omega)]
      unfold pgD
      rw [if_neg (by omega), if_pos (by omega), show 8 + i - 8 = i by omega]
  refine ⟨⟨by rw [e0, e1, e2]; exact hm, fun i hi => ?_⟩, e0, e1, e2, hu⟩
  rw [e0, e1, e2, hS i hi]
  unfold pgD
  rw [pkS_congr hu]
theorem wov_of {W K : Nat} {D : Nat → Nat} (hD : ∀ i, D i < 1024) {q : Nat → Nat → Nat} (hW : 0 < W) (hq : ∀ r, r < W → ∀ j, j < K + 16 → q r j = wordS W K D r j) {i : Nat} (hi : i < W * K) : wovS W q i = D i := by
  have h1 := Nat.mod_lt i hW
  have h2 : i / W < K := by
    rw [Nat.div_lt_iff_lt_mul hW, Nat.mul_comm]
    exact hi
  unfold wovS
  rw [hq _ h1 _ (by omega), (word_is hD _).data _ h2]
  unfold rowD
  rw [Nat.mul_comm, Nat.div_add_mod]
theorem wrF_congr {x y : Nat → Int} {W K : Nat} {q q' : Nat → Nat → Nat} {r : Nat} (h : ∀ j, j < K + 16 → q r j = q' r j) : wrF x y W K q r = wrF x y W K q' r := wrongN_congr h
/-- A page all of whose codewords can be read says what it was to say. -/
theorem ReadR.says {w' : World} {N : Nat} {x y : Nat → Int} {W K k l s : Nat} {d : Nat → Nat} {e : Ending} (h : ReadR w' N x y W K e) (hm : MarkOk k l s) (hd : ∀ i, i < szB W K → d i < 256) (hW : 0 < W) (hK : K ≤ 64) (hwk : 8 < W * K)
    (hg : ∀ r, r < W → GoodRow (fun i => x (r + i * W)) (fun i => y (r + i * W)) (K + 16) (wordS W K (pgD k l s d (szB W K)) r)) :
    ∃ a' c', e = .returned (.tuple #[markV k l s, .slice a' (szB W K) c', .int .i64 (mostN (wrF x y W K (wordS W K (pgD k l s d (szB W K)))) W : Nat), .int .i64 0]) ∧ OwnV w' 5 N a' (szB W K) c' (fun j => .int .u8 (d j : Nat)) := by
  rcases h with ⟨hb, _⟩ | ⟨_, ⟨⟨r, hr, hno⟩, _⟩ | ⟨q, hq, hS⟩⟩
  · have hz : ∀ i, i < W * (K + 16) → x i = 0 ∧ y i = 0 := fun i hi => by
      by_cases ho : offB (x i) (y i) = true
      · rw [anyB_true (b := fun i => offB (x i) (y i)) ho hi] at hb
        cases hb
      · unfold offB at ho
        simp at ho
        exact ho
    have h10 : zerosN (fun i => onB (x (0 + i * W)) (y (0 + i * W))) (K + 16) = K + 16 := by
      have : ∀ n, n ≤ K + 16 → zerosN (fun i => onB (x (0 + i * W)) (y (0 + i * W))) n = n := by
        intro n
        induction n with
        | zero => intro _; rfl
        | succ n ih =>
          intro hn
          unfold zerosN
          rw [ih (by omega)]
          have := hz (0 + n * W) ((row_lt (r := 0) (j := n) (W := W) (N := K + 16) hW).2 (by omega))
          have e : onB (x (0 + n * W)) (y (0 + n * W)) = true := by
            rw [this.1, this.2]
            rfl
          rw [if_pos e]
      exact this _ (Nat.le_refl _)
    exact absurd (hg 0 hW) (zeros_bad (x := fun i => x (0 + i * W)) (y := fun i => y (0 + i * W)) (show 8 < zerosN (fun i => onB (x (0 + i * W)) (y (0 + i * W))) (K + 16) by rw [h10]; omega) _)
  · exact absurd (hg r hr) (hno _)
  · have hD : ∀ i, pgD k l s d (szB W K) i < 1024 := pgD_lt hm d _
    have hqe : ∀ r, r < W → ∀ j, j < K + 16 → q r j = wordS W K (pgD k l s d (szB W K)) r j := fun r hr j hj => by
      obtain ⟨⟨d', h1⟩, _⟩ := hq r hr
      exact GoodRow.uniq (by omega) h1 (hg r hr) j hj
    obtain ⟨hF, e0, e1, e2, hu⟩ := says_of hm hwk hd (S := wovS W q) (fun i hi => wov_of hD hW hqe hi)
    rcases hS with ⟨hn, _⟩ | ⟨_, a', c', rfl, ho⟩
    · exact absurd hF hn
    · refine ⟨a', c', ?_, ho.congr fun j hj => by rw [hu j hj]⟩
      rw [e0, e1, e2, mostN_congr (fun r hr => wrF_congr (hqe r hr))]
theorem ReadR.torn {w' : World} {N : Nat} {x y : Nat → Int} {W K : Nat} {e : Ending} (h : ReadR w' N x y W K e) (hb : anyB (fun i => offB (x i) (y i)) (W * (K + 16)) = true) {r : Nat} (hr : r < W) (hno : ∀ q, ¬ GoodRow (fun i => x (r + i * W)) (fun i => y (r + i * W)) (K + 16) q) : e = noE 4 := by
  rcases h with ⟨h1, _⟩ | ⟨_, ⟨_, he⟩ | ⟨q, hq, _⟩⟩
  · rw [hb] at h1
    cases h1
  · exact he
  · exact absurd (hq r hr) (hno _)
theorem ReadR.blank {w' : World} {N : Nat} {x y : Nat → Int} {W K : Nat} {e : Ending} (h : ReadR w' N x y W K e) (hb : anyB (fun i => offB (x i) (y i)) (W * (K + 16)) = false) : e = noE 13 := by
  rcases h with ⟨_, he⟩ | ⟨h1, _⟩
  · exact he
  · rw [hb] at h1
    cases h1
/-- Symbols that are no page's. -/
theorem ReadR.form {w' : World} {N : Nat} {x y : Nat → Int} {W K : Nat} {e : Ending} (h : ReadR w' N x y W K e) (hK : K ≤ 64) (hb : anyB (fun i => offB (x i) (y i)) (W * (K + 16)) = true) {q : Nat → Nat → Nat} (hg : ∀ r, r < W → GoodRow (fun i => x (r + i * W)) (fun i => y (r + i * W)) (K + 16) (q r))
    (hS : ∀ S, (∀ i, i < W * K → S i = wovS W q i) → ¬ FSays S W K) (hW : 0 < W) : e = noE 12 := by
  rcases h with ⟨h1, _⟩ | ⟨_, ⟨⟨r, hr, hno⟩, _⟩ | ⟨q', hq, hs⟩⟩
  · rw [hb] at h1
    cases h1
  · exact absurd (hg r hr) (hno _)
  · rcases hs with ⟨_, he⟩ | ⟨hF, _⟩
    · exact he
    · refine absurd hF (hS _ fun i hi => ?_)
      have h1 := Nat.mod_lt i hW
      have h2 : i / W < K := by
        rw [Nat.div_lt_iff_lt_mul hW, Nat.mul_comm]
        exact hi
      obtain ⟨⟨d', h3⟩, _⟩ := hq _ h1
      exact GoodRow.uniq (by omega) h3 (hg _ h1) _ (by omega)
/-- Whatever the points are. -/
theorem ReadR.any {w' : World} {N : Nat} {x y : Nat → Int} {W K : Nat} {e : Ending} (h : ReadR w' N x y W K e) : ∃ (k l s : Int) (a' : Option Addr) (n c' m : Nat) (z : Int), e = .returned (.tuple #[markV k l s, .slice a' n c', .int .i64 m, .int .i64 z]) ∧ m ≤ 8 := by
  rcases h with ⟨_, rfl⟩ | ⟨_, ⟨_, rfl⟩ | ⟨q, hq, ⟨_, rfl⟩ | ⟨_, a', c', rfl, _⟩⟩⟩
  · exact ⟨0, 0, 0, none, 0, 0, 0, 13, rfl, by omega⟩
  · exact ⟨0, 0, 0, none, 0, 0, 0, 4, rfl, by omega⟩
  · exact ⟨0, 0, 0, none, 0, 0, 0, 12, rfl, by omega⟩
  · exact ⟨_, _, _, a', _, c', _, 0, rfl, mostN_le fun r hr => (hq r hr).2⟩
/-- Bytes as a string. -/
def strS (d : Nat → Nat) (n : Nat) : ByteArray := ⟨((List.range n).map fun i => UInt8.ofNat (d i)).toArray⟩
theorem strS_congr {d e : Nat → Nat} {n : Nat} (h : ∀ i, i < n → d i = e i) : strS d n = strS e n := by
  unfold strS
  rw [List.map_congr_left fun i hi => by rw [h i (List.mem_range.1 hi)]]
theorem strS_inj {d e : Nat → Nat} {n : Nat} (hd : ∀ i, i < n → d i < 256) (he : ∀ i, i < n → e i < 256) (h : strS d n = strS e n) : ∀ i, i < n → d i = e i := by
  intro i hi
  unfold strS at h
  injection h with h
  have h1 : (List.range n).map (fun i => UInt8.ofNat (d i)) = (List.range n).map (fun i => UInt8.ofNat (e i)) := by simpa using h
  have h2 := congrArg (fun l => l[i]?) h1
  simp [hi] at h2
  have h3 := congrArg UInt8.toNat h2
  simp at h3
  have := hd i hi
  have := he i hi
  omega
theorem str_any (a : Option Addr) (n c : Nat) (d : Nat → Nat) (w : World) (ha : ArgV w a n (fun i => .int .u8 (d i : Nat))) (h0 : 0 < n) (hd : ∀ i, i < n → d i < 256) :
    (convert 26 9 (.slice a n c)).run Try.prog w = .ok (.string (strS d n)) w := by
  obtain ⟨b, off, rfl, _, hc⟩ := ha.at_ h0
  have h := run_convert_bytes_back (P := Try.prog) w 26 9 5 ⟨b, off, none⟩ c ((List.range n).map fun i => UInt8.ofNat (d i)) Try.underlying26 Try.underlying5 (by kernel_rfl) (fun j hj => by
    simp at hj
    rw [addr_add, hc j hj]
    simp
    have := hd j hj
    omega)
  simp only [List.length_map, List.length_range] at h
  exact h
end Go.Proofs.Ytdlmjjlejkkniaa

namespace Go.Proofs.Ytdlmjjlejkkniaa
open Go.RowKit
attribute [local go_sem] run_store_cx

theorem Try.info_cx : (Try.prog.info? 47).map (fun i => (i.zero, i.size, i.bytes)) = some (some (.complex .f64 0 0), 1, 16) := by kernel_rfl
theorem make_cx (x : Int) (m : Nat) (hx : x = m) (hm : m ≤ 1000000) (w : World) :
    (Instr.makeSlice 42 (.int .i64 x) (.int .i64 x)).run Try.prog w = .ok (.slice (some ⟨w.heap.size, 0, none⟩) m m) (w.alloc (.cells (valsArr (fun _ => .complex .f64 0 0) m) 47)) :=
  make_vals (P := Try.prog) Try.underlying42 Try.info_cx rfl x m hx (by omega) (by omega) w
theorem pt_00 : Value.complex .f64 0 0 = ptv 0 0 := by
  unfold ptv
  rw [show (2 * (0 : Int)) = 0 from rfl, fx_zero]
/-- Symbols that are a page's can be read from their own points. -/
theorem fresh_wrong {W K : Nat} {D : Nat → Nat} (hD : ∀ i, D i < 1024) (hW : 1 ≤ W) {r : Nat} (hr : r < W) :
    wrF (fun i => reS (pageS W K D i)) (fun i => imS (pageS W K D i)) W K (wordS W K D) r = 0 := by
  unfold wrF
  refine wrongN_zero fun i hi => ⟨onB_sym _, ?_⟩
  show wordS W K D r i = sl (reS (pageS W K D (r + i * W))) (imS (pageS W K D (r + i * W)))
  rw [sl_sym (pageS_lt hD hW ((row_lt (r := r) (j := i) (W := W) (N := K + 16) hr).2 hi)), page_at hr]
theorem fresh_good {W K : Nat} {D : Nat → Nat} (hD : ∀ i, D i < 1024) (hW : 1 ≤ W) {r : Nat} (hr : r < W) :
    GoodRow (fun i => reS (pageS W K D (r + i * W))) (fun i => imS (pageS W K D (r + i * W))) (K + 16) (wordS W K D r) :=
  good_of (word_is hD r) (by have := fresh_wrong (K := K) hD hW hr; unfold wrF at this; rw [this]; omega)
theorem mostN_zero {f : Nat → Nat} {n : Nat} (h : ∀ i, i < n → f i = 0) : mostN f n = 0 := Nat.le_zero.1 (mostN_le fun i hi => Nat.le_of_eq (h i hi))
/-- A fresh page, read. -/
theorem ReadR.fresh {w' : World} {N W K k l s : Nat} {d : Nat → Nat} {e : Ending} (h : ReadR w' N (fun i => reS (pageS W K (pgD k l s d (szB W K)) i)) (fun i => imS (pageS W K (pgD k l s d (szB W K)) i)) W K e) (hm : MarkOk k l s) (hd : ∀ i, i < szB W K → d i < 256) (hW : 0 < W) (hK : K ≤ 64) (hwk : 8 < W * K) :
    ∃ a' c', e = .returned (.tuple #[markV k l s, .slice a' (szB W K) c', .int .i64 0, .int .i64 0]) ∧ OwnV w' 5 N a' (szB W K) c' (fun j => .int .u8 (d j : Nat)) := by
  obtain ⟨a', c', he, ho⟩ := h.says hm hd hW hK hwk (fun r hr => fresh_good (pgD_lt hm d _) hW hr)
  rw [mostN_zero (fun r hr => fresh_wrong (pgD_lt hm d _) hW hr)] at he
  exact ⟨a', c', he, ho⟩
theorem geo_12 : GeoOk 4 2 (1 : Nat) (12 : Nat) := by decide
theorem mark_179 : MarkOk 1 7 9 := ⟨by omega, by omega, by omega, by omega⟩
def bt5 : Nat → Nat := lst [1, 2, 3, 4, 5]
theorem bt5_lt (i : Nat) : bt5 i < 256 := by
  match i with
  | 0 => decide
  | 1 => decide
  | 2 => decide
  | 3 => decide
  | 4 => decide
  | n + 5 => exact Nat.zero_lt_succ _
def bwD : Nat → Nat := pgD 1 7 9 bt5 5
def bwS : Nat → Nat := pageS 1 12 bwD
theorem bwD_lt (i : Nat) : bwD i < 1024 := pgD_lt mark_179 _ _ i
theorem bwS_lt {i : Nat} (hi : i < 28) : bwS i < 1024 := pageS_lt bwD_lt (by omega) hi
set_option maxHeartbeats 4000000 in
set_option maxRecDepth 100000 in
theorem awake11_true (w : World) :
    Calls Try.prog 14 #[] w fun e w' => e = .returned (.bool true) ∧ Keep (fun _ => False) w w' := by
  have k0 := (Keep.refl (fun _ => False) w).alloc (.cells #[.int .i64 4, .int .i64 2, .int .i64 1, .int .i64 12] 23)
  have bG0 := Blk.new w 23 #[.int .i64 4, .int .i64 2, .int .i64 1, .int .i64 12]
  go_enter Try.func14, Try.ntmps14
  go_wp2_with fail
  refine (make_any _).mono ?_
  rintro e w1 ⟨g1, g2, rfl, T, _, _, k1⟩
  have bG1 := bG0.keep k1 (by simp)
  obtain ⟨TV, k2⟩ := TVar.new T
  have bG := bG1.keep k2 (by simp)
  have kk := (k0.comp k1).comp k2
  unfold tabV
  clear T k1 k2 bG1 bG0 k0
  go_upto_region 3 with (fail)
  generalize w1.alloc (.cells #[.slice (some ⟨g1, 0, none⟩) 1023 1023, .slice (some ⟨g2, 0, none⟩) 1024 1024] 32) = W at *
  generalize w1.heap.size = gt at *
  have hgW := bG.lt
  obtain ⟨q0, q1, q2, q3⟩ := geo_cells' bG
  obtain ⟨d0, d1⟩ := tab_cells TV.b
  have kB := (Keep.refl (fun _ => False) W).alloc (.cells #[.int .u8 1, .int .u8 2, .int .u8 3, .int .u8 4, .int .u8 5] 5)
  have bB := Blk.new W 5 #[.int .u8 1, .int .u8 2, .int .u8 3, .int .u8 4, .int .u8 5]
  have HB := Lib.hid (show ArgV (W.alloc (.cells #[.int .u8 1, .int .u8 2, .int .u8 3, .int .u8 4, .int .u8 5] 5)) (some ⟨W.heap.size, 0, none⟩) 5 (fun i => .int .u8 (bt5 i : Nat)) from (RowV.of_blk (show Blk _ _ _ (valsArr (fun i => Value.int .u8 (bt5 i : Nat)) 5) from bB)).arg (by omega))
  have TVB := TV.keep kB
  have bGB := bG.keep kB (by simp)
  have KB := kk.comp kB
  clear bB TV bG kk
  go_wp2_with fail
  clear q0 q1 q2 q3 d0 d1
  refine (fmake_yes _ 4 2 1 12 1 7 9 _ 5 bt5 _ geo_12 mark_179 TVB.t.has HB.out (fun i _ => bt5_lt i)).mono ?_
  rintro e w2 ⟨aS, cS, rfl, oS, k2⟩
  have OS := Lib.hid (show OwnU w2 _ aS 28 cS bwS from oS)
  have TV2 := TVB.keep k2
  have bG2 := bGB.keep k2 (by simp)
  have K2 := KB.comp k2
  clear oS k2 HB TVB bGB KB kB
  go_upto_region 4 with (fail)
  go_cut [5, 6, 7, 8] (fun v5 v6 v7 v8 wc => ∃ (g5 : Nat) (aD : Option Addr) (cD : Nat), v5 = .pointer (some ⟨g5, 0, none⟩) ∧ v6 = .slice aD 5 cD ∧ v7 = .int .i64 0 ∧ v8 = .int .i64 0 ∧ Hid (Blk wc g5 25 #[.int .i64 1, .int .i64 7, .int .i64 9]) ∧ Hid (OwnV wc 5 w2.heap.size aD 5 cD (fun j => .int .u8 (bt5 j : Nat))) ∧ Keep (fun _ => False) w2 wc)
  case first =>
    have kd := (Keep.refl (fun _ => False) w2).drew
    obtain ⟨q0, q1, q2, q3⟩ := geo_cells' bG2.drew
    obtain ⟨d0, d1⟩ := tab_cells (TV2.keep kd).b
    have AS := Lib.hid (show ArgU w2 aS 28 bwS from OS.out.arg (by omega) (fun i hi => by have := bwS_lt hi; omega))
    have HGD := Lib.hid geo_12
    have hm := mark_179
    have kz := kd.alloc (.cells #[.int .i64 0, .int .i64 0, .int .i64 0] 25)
    have bz : Blk (w2.drew.alloc (.cells #[.int .i64 0, .int .i64 0, .int .i64 0] 25)) w2.heap.size 25 #[.int .i64 0, .int .i64 0, .int .i64 0] := Blk.new w2.drew _ _
    go_region_held3 (fun w' => (w'.cell? ⟨gt, 0, none⟩ = some (.slice (some ⟨g1, 0, none⟩) 1023 1023) ∧ w'.cell? ⟨gt, 1, none⟩ = some (.slice (some ⟨g2, 0, none⟩) 1024 1024)) ∧ w'.cell? ⟨w.heap.size, 0, none⟩ = some (.int .i64 4) ∧ w'.cell? ⟨w.heap.size, 1, none⟩ = some (.int .i64 2) ∧ w'.cell? ⟨w.heap.size, 2, none⟩ = some (.int .i64 1) ∧ w'.cell? ⟨w.heap.size, 3, none⟩ = some (.int .i64 12))
      (first | with_reducible exact ⟨⟨d0, d1⟩, q0, q1, q2, q3⟩ | with_reducible exact ⟨tab_cells (TV2.keep K5).b, geo_cells' (bG2.keep K5 (by simp))⟩ | with_reducible exact ⟨tab_cells (TV2.keep K6).b, geo_cells' (bG2.keep K6 (by simp))⟩ | exact ⟨tab_cells (TV2.keep (K6.mark hg5 _ _ _)).b, geo_cells' (bG2.keep (K6.mark hg5 _ _ _) (by simp))⟩ | exact ⟨tab_cells (TV2.keep (K6.alloc _)).b, geo_cells' (bG2.keep (K6.alloc _) (by simp))⟩ | exact ⟨tab_cells (TV2.keep (K5.alloc _)).b, geo_cells' (bG2.keep (K5.alloc _) (by simp))⟩ | exact ⟨tab_cells (TV2.keep kz).b, geo_cells' (bG2.keep kz (by simp))⟩)
      (first
        | (go_at_call 21
           refine (points_any _ 28 _ bwS _ ?hA (by omega)).mono ?_
           case hA => first | exact AS.out.keep kd | exact AS.out.keep kz
           rintro e w5 ⟨aP, cP, rfl, oP, k5⟩
           have K5 : Keep (fun _ => False) w2 w5 := by first | exact kd.comp k5 | exact kz.comp k5
           try have b5 := bz.keep k5 (by simp))
        | (go_at_call 20
           refine (read_any _ 4 2 1 12 28 _ _ (fun i => reS (bwS i)) (fun i => imS (bwS i)) _ HGD.out (by omega) ?hT ?hA (fun i _ => ⟨(Pu_re _).pm, (Pu_im _).pm⟩)).mono ?_
           case hT => first | exact (TV2.keep K5).t.has | exact (TV2.keep (K5.alloc _)).t.has
           case hA => first | exact oP.arg (by omega) | exact (oP.keep ((Keep.refl _ w5).alloc _)).arg (by omega)
           rintro e w6 ⟨hR, k6⟩
           have K6 : Keep (fun _ => False) w2 w6 := by first | exact K5.comp k6 | exact (K5.alloc _).comp k6
           have hRR := hR.fresh (k := 1) (l := 7) (s := 9) (d := bt5) hm (fun i _ => bt5_lt i) (by omega) (by omega) (by omega)
           clear hR
           obtain ⟨aD, cD, rfl, oD⟩ := (show ∃ a' c', e = .returned (.tuple #[.agg #[.int .i64 1, .int .i64 7, .int .i64 9], .slice a' 5 c', .int .i64 0, .int .i64 0]) ∧ OwnV w6 5 _ a' 5 c' (fun j => .int .u8 (bt5 j : Nat)) from hRR)
           clear hRR
           try (have b6 := (Blk.new w5 25 #[.int .i64 0, .int .i64 0, .int .i64 0]).keep k6 (by simp); have hg5 := K5.size; have hl6 := (Blk.new w5 25 #[.int .i64 0, .int .i64 0, .int .i64 0]).lt)
           try (have b6 := b5.keep k6 (by simp); have hg5 := Nat.le_refl w2.heap.size; have hl6 := b5.lt)
           try (have bX := mark_put b6 1 7 9; obtain ⟨⟨⟨p0, f0⟩, ⟨p1, f1⟩, p2, f2⟩, bF⟩ := bX)))
    all_goals
      go_wp2_with fail
      go_meet
      first
        | (have bG5 := bF; clear kd kz bz AS HGD; exact ⟨_, aD, cD, rfl, rfl, rfl, rfl, Lib.hid bG5, Lib.hid ((((oD.far (p := ⟨_, 0, none⟩) hl6 _).far (p := ⟨_, 1, none⟩) hl6 _).far (p := ⟨_, 2, none⟩) hl6 _).more (by first | exact K5.size | exact (K5.alloc _).size)), K6.mark hg5 _ _ _⟩)
        | exact ⟨_, aD, cD, rfl, rfl, rfl, rfl, Lib.hid (Blk.new w6 _ _), Lib.hid ((oD.more K5.size).keep ((Keep.refl _ w6).alloc _)), K6.alloc _⟩
  case rest =>
  obtain ⟨g5, aD, cD, rfl, rfl, rfl, rfl, BM, OD, kc⟩ := hcut
  obtain ⟨p0, p1, p2⟩ := mark_cells BM.out
  have hstr := str_any aD 5 cD bt5 wc (OD.out.arg (by omega)) (by omega) (fun i _ => bt5_lt i)
  rw [show strS bt5 5 = { data := #[1, 2, 3, 4, 5] } from rfl] at hstr
  have hmk := make_cx 28 28 rfl (by omega) wc
  have kz := (Keep.refl (fun _ => False) wc).alloc (.cells (valsArr (fun _ => .complex .f64 0 0) 28) 47)
  have HZ := Lib.hid (show ArgV (wc.alloc (.cells (valsArr (fun _ => .complex .f64 0 0) 28) 47)) (some ⟨wc.heap.size, 0, none⟩) 28 (ptsV (fun _ => 0) (fun _ => 0)) from by
    have := (RowV.of_blk (Blk.new wc 47 (valsArr (fun _ => .complex .f64 0 0) 28))).arg (by omega)
    rw [pt_00] at this ⊢
    exact this)
  have OSc := Lib.hid ((OS.out.keep kc).keep kz)
  have KF := K2.comp (kc.comp kz)
  clear OD OS BM kc kz K2 TV2 bG2
  go_wp2_with fail
  clear hstr p0 p1 p2 hmk
  refine (blank_any _ 28 _ (fun _ => 0) (fun _ => 0) _ HZ.out (fun i _ => ⟨by unfold Pm; decide, by unfold Pm; decide⟩)).mono ?_
  rw [show anyB (fun i => offB 0 0) 28 = false from rfl]
  rintro e w7 ⟨rfl, rfl⟩
  go_wp2_with fail
  refine (points_any _ 28 _ bwS _ (OSc.out.arg (by omega) (fun i hi => by have := bwS_lt hi; omega)) (by omega)).mono ?_
  rintro e w8 ⟨aP, cP, rfl, oP, k8⟩
  have AP := Lib.hid (oP.arg (by omega))
  clear oP
  go_wp2_with fail
  refine (blank_any _ 28 _ (fun i => reS (bwS i)) (fun i => imS (bwS i)) _ AP.out (fun i _ => ⟨(Pu_re _).pm, (Pu_im _).pm⟩)).mono ?_
  rw [anyB_true (b := fun i => offB (reS (bwS i)) (imS (bwS i))) (j := 0) (show offB (reS (bwS 0)) (imS (bwS 0)) = true from by
    unfold offB reS
    rw [decide_eq_false (co_ne _)]
    rfl) (by omega)]
  rintro e w9 ⟨rfl, rfl⟩
  go_wp2_with fail
  go_ret
  exact ⟨rfl, KF.comp k8⟩
end Go.Proofs.Ytdlmjjlejkkniaa

namespace Go.Proofs.Ytdlmjjlejkkniaa
open Go.ChangeShapes Go.WideShapes Go.ChangeAt Go.RowKit

def SaysR (w' : World) (N : Nat) (e : Ending) (k l s : Int) (z : Nat) (d : Nat → Nat) (n f : Int) : Prop :=
  ∃ a' c', e = .returned (.tuple #[.agg #[.int .i64 k, .int .i64 l, .int .i64 s], .slice a' z c', .int .i64 n, .int .i64 f]) ∧ OwnV w' 5 N a' z c' (fun j => .int .u8 (d j : Nat))
theorem SaysR.nothing {w' : World} {N : Nat} {e : Ending} {z : Int} (d : Nat → Nat) (h : e = noE z) : SaysR w' N e 0 0 0 0 d 0 z := ⟨Option.none, 0, h, OwnV.nil _ _ _ _⟩
theorem read_says {B P : Int} {W K n : Nat} {x y : Nat → Int} {k l s : Int} {z : Nat} {d : Nat → Nat} {rn rf : Int} (h : GeoOk B P W K) (hn : n = W * (K + 16)) (hx : ∀ i, i < n → Pm (x i) ∧ Pm (y i))
    (hs : ∀ w' N e, ReadR w' N x y W K e → SaysR w' N e k l s z d rn rf) :
    Hid (∀ w V a c, HasT w V → ArgV w a n (ptsV x y) → Calls Try.prog 20 #[V, geoV B P W K, .slice a n c] w fun e w' => SaysR w' w.heap.size e k l s z d rn rf ∧ Keep (fun _ => False) w w') :=
  Lib.hid fun w V a c hT ha => (read_any V B P W K n a c x y w h hn hT ha hx).mono fun _ _ ⟨h1, h2⟩ => ⟨hs _ _ _ h1, h2⟩
theorem points_says (aS : Option Addr) (n cS : Nat) (S : Nat → Nat) (hn : n ≤ 100000) :
    Hid (∀ w, ArgU w aS n S → Calls Try.prog 21 #[.slice aS n cS] w fun e w' => ∃ a' c', e = .returned (.slice a' n c') ∧ OwnV w' 47 w.heap.size a' n c' (ptsV (fun i => reS (S i)) (fun i => imS (S i))) ∧ Keep (fun _ => False) w w') :=
  Lib.hid fun w h => points_any aS n cS S w h hn
set_option maxRecDepth 100000 in
/-- A head by value. -/
theorem mark3_of {H : Type} {enc : TypeId × Value → H} {w : World} {base b0 : Nat} {v : Value} {d : DataW H} {ps : List MemPlace} {sp : Nat → Bool}
    (hv : Value.okWide Try.prog w .any b0 25 v) (h : DataW.Trod enc Try.prog w base sp true 25 v d ps) : ∃ k l s : Int, v = markV k l s := by
  obtain ⟨cs, rfl, h2⟩ := okWide_struct Try.underlying25 hv
  obtain ⟨fuel, hf⟩ := h
  obtain ⟨xs, m, _, _, _, hlen, hf2⟩ := DataW.trod_struct Try.underlying25 hf
  have h0 : DataW.trod enc Try.prog w base sp true m 3 (List.take (Try.prog.cellsOf 3) (List.drop 0 (Value.agg cs).cells.toList)) = xs[0]? := hf2 0 _ rfl
  have h1 : DataW.trod enc Try.prog w base sp true m 3 (List.take (Try.prog.cellsOf 3) (List.drop 1 (Value.agg cs).cells.toList)) = xs[1]? := hf2 1 _ rfl
  have hw : DataW.trod enc Try.prog w base sp true m 3 (List.take (Try.prog.cellsOf 3) (List.drop 2 (Value.agg cs).cells.toList)) = xs[2]? := hf2 2 _ rfl
  have c1 : Try.prog.cellsOf 3 = 1 := by kernel_rfl
  have c3 : Try.prog.cellsOf 25 = 3 := by kernel_rfl
  rw [c3] at h2
  have hl : xs.length = 3 := by simpa using hlen
  rw [c1, List.getElem?_eq_getElem (by omega)] at h0 h1 hw
  obtain ⟨B, e0, _⟩ := DataW.trod_int Try.underlying3 h0
  obtain ⟨P, e1, _⟩ := DataW.trod_int Try.underlying3 h1
  obtain ⟨W, e2, _⟩ := DataW.trod_int Try.underlying3 hw
  refine ⟨B, P, W, ?_⟩
  obtain ⟨x, y, z, rfl⟩ : ∃ x y z, cs = #[x, y, z] := by
    rcases cs with ⟨l⟩
    match l, h2 with
    | [x, y, z], _ => exact ⟨x, y, z, rfl⟩
  simp [Value.cells] at e0 e1 e2
  rw [e0, e1, e2]
  rfl
/-- Pages that were made, read. -/
theorem fresh_says {k l s W K : Nat} {d : Nat → Nat} (hm : MarkOk k l s) (hd : ∀ i, i < szB W K → d i < 256) (hW : 0 < W) (hK : K ≤ 64) (hwk : 8 < W * K) (w' : World) (N : Nat) (e : Ending)
    (h : ReadR w' N (fun i => reS (pageS W K (pgD k l s d (szB W K)) i)) (fun i => imS (pageS W K (pgD k l s d (szB W K)) i)) W K e) : SaysR w' N e k l s (szB W K) d 0 0 := h.fresh hm hd hW hK hwk
end Go.Proofs.Ytdlmjjlejkkniaa
