/- census.fits, Of. -/
import Derived.Test.YtdlmjjlejkkniaaFmended
import Derived.Deep.RegionHeld3
namespace Go.Proofs.Ytdlmjjlejkkniaa
open Go.RowKit

set_option maxRecDepth 100000 in
set_option maxHeartbeats 1000000 in
theorem fits_yes (B P : Int) (W K n : Nat) (a : Option Addr) (c : Nat) (w : World) (h : GeoOk B P W K) (hn : n = W * (K + 16)) :
    Calls Try.prog 58 #[geoV B P W K, .slice a n c] w fun e w' => e = .returned (.int .i64 0) ∧ Keep (fun _ => False) w w' := by
  have hc : ∀ w, Calls Try.prog 44 #[geoV B P W K] w fun e w' => e = .returned (.int .i64 (n : Nat)) ∧ Keep (fun _ => False) w w' := fun w => by
    have h1 := cells_any B P W K w h
    rw [show (W : Int) * ((K : Int) + 16) = (n : Int) by rw [hn, Int.natCast_mul]; rfl] at h1
    exact h1
  clear hn
  go_enter Try.func58, Try.ntmps58
  go_wp2_with fail
  refine (may_yes _ _ _ _ _ h).mono ?_
  rintro e wx ⟨rfl, k⟩
  have hblk := (Blk.new w 23 #[.int .i64 B, .int .i64 P, .int .i64 W, .int .i64 K]).keep k (by simp)
  have c0 : wx.cell? ⟨w.heap.size, 0, none⟩ = some (.int .i64 B) := by rw [hblk.cell]; rfl
  have c1 : wx.cell? ⟨w.heap.size, 1, none⟩ = some (.int .i64 P) := by rw [hblk.cell]; rfl
  have c2 : wx.cell? ⟨w.heap.size, 2, none⟩ = some (.int .i64 W) := by rw [hblk.cell]; rfl
  have c3 : wx.cell? ⟨w.heap.size, 3, none⟩ = some (.int .i64 K) := by rw [hblk.cell]; rfl
  have kk := ((Keep.refl (fun _ => False) w).alloc (.cells #[.int .i64 B, .int .i64 P, .int .i64 W, .int .i64 K] 23)).trans k (fun i hi => .inl hi)
  clear hblk
  go_wp2_with fail
  refine (hc _).mono ?_
  rintro e w2 ⟨rfl, k2⟩
  have k3 := kk.comp k2
  go_wp2_with fail
  go_ret
  exact ⟨rfl, k3⟩
/-- The cells of rows: how many are wrong, whether it can be read. -/
def rowG (f : Nat → Nat) (b : Nat → Bool) : Nat → Value := fun j => if j % 2 = 0 then .int .i64 (f (j / 2) : Nat) else .bool (b (j / 2))
def OwnR (w : World) (N : Nat) (a : Option Addr) (n c : Nat) (f : Nat → Nat) (b : Nat → Bool) : Prop := w.ownsRow N 72 2 (.slice a n c) n (vList (rowG f b) (n * 2))
theorem rowG_next {f : Nat → Nat} {b : Nat → Bool} (n v : Nat) (u : Bool) :
    vList (rowG (fun i => if i = n then v else f i) (fun i => if i = n then u else b i)) ((n + 1) * 2) = vList (rowG f b) (n * 2) ++ [.int .i64 (v : Nat), .bool u] := List.ext_getElem? fun i => by
  have hl := vList_len (rowG f b) (n * 2)
  rw [vList_get]
  by_cases h1 : i < n * 2
  · rw [List.getElem?_append_left (by omega), vList_get, if_pos h1, if_pos (by omega)]
    unfold rowG
    dsimp only
    rw [if_neg (show ¬ i / 2 = n by omega), if_neg (show ¬ i / 2 = n by omega)]
  · rw [List.getElem?_append_right (by omega), hl]
    by_cases h2 : i = n * 2
    · subst h2
      rw [if_pos (by omega), Nat.sub_self]
      unfold rowG
      dsimp only
      rw [if_pos (show n * 2 % 2 = 0 by omega), if_pos (show n * 2 / 2 = n by omega)]
      rfl
    · by_cases h3 : i = n * 2 + 1
      · subst h3
        rw [if_pos (by omega), show n * 2 + 1 - n * 2 = 1 by omega]
        unfold rowG
        dsimp only
        rw [if_neg (show ¬ (n * 2 + 1) % 2 = 0 by omega), if_pos (show (n * 2 + 1) / 2 = n by omega)]
        rfl
      · rw [if_neg (by omega), List.getElem?_eq_none]
        simp
        omega
theorem OwnR.keep {w w' : World} {N : Nat} {a : Option Addr} {n c : Nat} {f : Nat → Nat} {b : Nat → Bool} (h : OwnR w N a n c f b) (hk : Keep (fun _ => False) w w') : OwnR w' N a n c f b := by
  refine ⟨h.1, ?_⟩
  rcases h.2 with e | ⟨g, cap, cs, e, hN, hb, hr⟩
  · exact .inl e
  · exact .inr ⟨g, cap, cs, e, hN, (hk.block g (Blk.lt (t := 72) (cs := cs) hb) (by simp)).trans hb, hr⟩
theorem OwnR.more {w : World} {N M : Nat} {a : Option Addr} {n c : Nat} {f : Nat → Nat} {b : Nat → Bool} (h : OwnR w N a n c f b) (hM : M ≤ N) : OwnR w M a n c f b := by
  refine ⟨h.1, ?_⟩
  rcases h.2 with e | ⟨g, cap, cs, e, hN, hr⟩
  · exact .inl e
  · exact .inr ⟨g, cap, cs, e, by omega, hr⟩
theorem OwnR.nil (w : World) (N : Nat) (f : Nat → Nat) (b : Nat → Bool) : OwnR w N none 0 0 f b := World.ownsRow_nil w N _ 2
theorem OwnR.cells {w : World} {N : Nat} {a : Option Addr} {n c : Nat} {f : Nat → Nat} {b : Nat → Bool} (h : OwnR w N a n c f b) (h0 : 0 < n) :
    ∃ g, a = some ⟨g, 0, none⟩ ∧ N ≤ g ∧ g < w.heap.size ∧ ∀ i, i < n → w.cell? ⟨g, i * 2, none⟩ = some (.int .i64 (f i : Nat)) ∧ w.cell? ⟨g, i * 2 + 1, none⟩ = some (.bool (b i)) := by
  rcases h.2 with ⟨_, e⟩ | ⟨g, cap, cs, e, hN, hb, hn, hm, hs, ht⟩
  · omega
  · injection e with e1 e2 e3
    have hbk : Blk w g 72 cs := hb
    refine ⟨g, e1, hN, hbk.lt, fun i hi => ?_⟩
    have e4 := congrArg (fun l => l[i * 2]?) ht
    have e5 := congrArg (fun l => l[i * 2 + 1]?) ht
    simp only [List.getElem?_take, vList_get] at e4 e5
    rw [if_pos (by omega), if_pos (by omega), Array.getElem?_toList] at e4 e5
    rw [hbk.cell, hbk.cell, e4, e5]
    unfold rowG
    rw [if_pos (by omega), if_neg (by omega), show i * 2 / 2 = i by omega, show (i * 2 + 1) / 2 = i by omega]
    exact ⟨rfl, rfl⟩
/-- What is said of a codeword. -/
def RowIs (x y : Nat → Int) (n v : Nat) (b : Bool) : Prop :=
  (∃ q d, Near (slS x y) n q d ∧ b = decide (wrongN (fun i => onB (x i) (y i)) (slS x y) q n ≤ 8) ∧ v = if b then wrongN (fun i => onB (x i) (y i)) (slS x y) q n else 0) ∨
  ((∀ q d, ¬ Near (slS x y) n q d) ∧ b = false ∧ v = 0)
end Go.Proofs.Ytdlmjjlejkkniaa
