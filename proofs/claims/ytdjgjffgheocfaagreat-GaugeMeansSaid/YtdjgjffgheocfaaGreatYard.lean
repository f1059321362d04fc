/- Package yard: what blocks are, how often they were erased. -/
import Derived.Test.YtdjgjffgheocfaaGreatBase
namespace Go.Proofs.YtdjgjffgheocfaaGreat
open Go.RowKit

theorem Tryz.info_intY : (Tryz.prog.info? 3).map (fun i => (i.zero, i.size, i.bytes)) = some (some (.int .i64 0), 1, 8) := by kernel_rfl
/-- Where a yard lies: its struct, its two rows; how many blocks there are. -/
structure YD where
  yb : Nat
  sb : Nat
  eb : Nat
  n : Nat
def natArr (f : Nat → Nat) (n : Nat) : Array Value := valsArr (fun i => .int .i64 (f i : Nat)) n
structure IsYard (y : YD) (st er : Nat → Nat) (w : World) : Prop where
  hn : y.n ≤ 64
  hy : Blk w y.yb 151 #[.slice (some ⟨y.sb, 0, none⟩) y.n y.n, .slice (some ⟨y.eb, 0, none⟩) y.n y.n]
  hs : Blk w y.sb 3 (natArr st y.n)
  he : Blk w y.eb 3 (natArr er y.n)
  ne : y.sb ≠ y.eb
def yardS (y : YD) : Nat → Prop := fun k => k = y.yb ∨ k = y.sb ∨ k = y.eb
section
variable {y : YD} {st er : Nat → Nat} {w w' : World} {S : Nat → Prop}
theorem IsYard.keep (h : IsYard y st er w) (hk : Keep S w w') (h1 : ¬ S y.yb) (h2 : ¬ S y.sb) (h3 : ¬ S y.eb) : IsYard y st er w' :=
  ⟨h.hn, h.hy.keep hk h1, h.hs.keep hk h2, h.he.keep hk h3, h.ne⟩
theorem IsYard.keepF (h : IsYard y st er w) (hk : Keep (fun _ => False) w w') : IsYard y st er w' := h.keep hk (fun e => e) (fun e => e) (fun e => e)
theorem IsYard.c0 (h : IsYard y st er w) : w.cell? ⟨y.yb, 0, none⟩ = some (.slice (some ⟨y.sb, 0, none⟩) y.n y.n) := by rw [h.hy.cell]; rfl
theorem IsYard.c1 (h : IsYard y st er w) : w.cell? ⟨y.yb, 1, none⟩ = some (.slice (some ⟨y.eb, 0, none⟩) y.n y.n) := by rw [h.hy.cell]; rfl
theorem IsYard.st_ (h : IsYard y st er w) {i : Nat} (hi : i < y.n) : w.cell? ⟨y.sb, i, none⟩ = some (.int .i64 (st i : Nat)) := h.hs.val hi
theorem IsYard.er_ (h : IsYard y st er w) {i : Nat} (hi : i < y.n) : w.cell? ⟨y.eb, i, none⟩ = some (.int .i64 (er i : Nat)) := h.he.val hi
theorem IsYard.lt (h : IsYard y st er w) {k : Nat} (hk : yardS y k) : k < w.heap.size := by
  rcases hk with rfl | rfl | rfl
  · exact h.hy.lt
  · exact h.hs.lt
  · exact h.he.lt
end
def updN (f : Nat → Nat) (i v : Nat) : Nat → Nat := fun k => if k = i then v else f k
theorem natArr_set (f : Nat → Nat) (n i v : Nat) : valsArr (fun k => if k = i then .int .i64 (v : Nat) else .int .i64 (f k : Nat)) n = natArr (updN f i v) n :=
  valsArr_congr fun k _ => by
    unfold updN
    split <;> rfl
theorem IsYard.setSt {y : YD} {st er : Nat → Nat} {w : World} (h : IsYard y st er w) (i v : Nat) : IsYard y (updN st i v) er (w.setCell ⟨y.sb, i, none⟩ (.int .i64 (v : Nat))) := by
  have hk : Keep (· = y.sb) w (w.setCell ⟨y.sb, i, none⟩ (.int .i64 (v : Nat))) := (Keep.refl (· = y.sb) w).setCell (p := ⟨y.sb, i, none⟩) (.inl rfl) _
  have hs := h.hs.store i (.int .i64 (v : Nat))
  rw [natArr_set] at hs
  exact ⟨h.hn, h.hy.keep hk (h.hy.ne h.hs (by decide)), hs, h.he.keep hk (fun e => h.ne e.symm), h.ne⟩
theorem IsYard.setEr {y : YD} {st er : Nat → Nat} {w : World} (h : IsYard y st er w) (i v : Nat) : IsYard y st (updN er i v) (w.setCell ⟨y.eb, i, none⟩ (.int .i64 (v : Nat))) := by
  have hk : Keep (· = y.eb) w (w.setCell ⟨y.eb, i, none⟩ (.int .i64 (v : Nat))) := (Keep.refl (· = y.eb) w).setCell (p := ⟨y.eb, i, none⟩) (.inl rfl) _
  have hs := h.he.store i (.int .i64 (v : Nat))
  rw [natArr_set] at hs
  exact ⟨h.hn, h.hy.keep hk (h.hy.ne h.he (by decide)), h.hs.keep hk h.ne, hs, h.ne⟩
theorem ythere_yes (y : YD) (st er : Nat → Nat) (w : World) (h : IsYard y st er w) (b : Nat) (hb : b < y.n) :
    Calls Tryz.prog 77 #[.pointer (some ⟨y.yb, 0, none⟩), .int .i64 b] w fun e w' => e = .returned (.bool true) ∧ w' = w := by
  have c0 := h.c0
  have hn := h.hn
  have hb' : (b : Int) < (y.n : Int) := by omega
  clear h
  go_enter Tryz.func77, Tryz.ntmps77
  go_wp2_with fail
  go_ret
  exact ⟨rfl, rfl⟩
/-- May one become the other? -/
def mayB (u v : Int) : Bool := if v = 2 then u == 1 else if v = 3 then u == 2 else if v = 1 then u == 3 else if v = 4 then u != 4 else false
theorem ymay_any (u v : Int) (w : World) (h : v = 1 ∨ v = 2 ∨ v = 3 ∨ v = 4) :
    Calls Tryz.prog 78 #[.int .i64 u, .int .i64 v] w fun e w' => e = .returned (.bool (mayB u v)) ∧ w' = w := by
  rcases h with rfl | rfl | rfl | rfl
  all_goals
    go_enter Tryz.func78, Tryz.ntmps78
    go_wp2_with fail
    go_ret
    exact ⟨rfl, rfl⟩
theorem yturn_yes (y : YD) (st er : Nat → Nat) (w : World) (h : IsYard y st er w) (b : Nat) (hb : b < y.n) (s : Nat) (hs : s = 1 ∨ s = 2 ∨ s = 3 ∨ s = 4) (hm : mayB (st b) s = true) :
    Calls Tryz.prog 56 #[.pointer (some ⟨y.yb, 0, none⟩), .int .i64 b, .int .i64 s] w fun e w' => e = .returned (.bool true) ∧ IsYard y (updN st b s) er w' ∧ Keep (· = y.sb) w w' := by
  have c0 := h.c0
  have cs := h.st_ hb
  have hn := h.hn
  have hb' : (b : Int) < (y.n : Int) := by omega
  have hz := h.hs.frozen b
  have HE := Lib.hid (And.intro (h.setSt b s) ((Keep.refl (· = y.sb) w).setCell (p := ⟨y.sb, b, none⟩) (.inl rfl) (.int .i64 (s : Nat))))
  have HT := Lib.hid (ythere_yes y st er w h b hb)
  have HM := Lib.hid (ymay_any (st b) s w (by omega))
  rw [hm] at HM
  clear h hs hm
  go_enter Tryz.func56, Tryz.ntmps56
  go_wp2_with (first
    | (go_at_call 77; refine HT.out.mono ?_; rintro e w1 ⟨rfl, rfl⟩)
    | (go_at_call 78; refine HM.out.mono ?_; rintro e w1 ⟨rfl, rfl⟩))
  go_ret
  exact ⟨rfl, HE.out⟩
theorem yturn_no (y : YD) (st er : Nat → Nat) (w : World) (h : IsYard y st er w) (b : Nat) (hb : b < y.n) (s : Nat) (hs : s = 1 ∨ s = 2 ∨ s = 3 ∨ s = 4) (hm : mayB (st b) s = false) :
    Calls Tryz.prog 56 #[.pointer (some ⟨y.yb, 0, none⟩), .int .i64 b, .int .i64 s] w fun e w' => e = .returned (.bool false) ∧ w' = w := by
  have c0 := h.c0
  have cs := h.st_ hb
  have hn := h.hn
  have hb' : (b : Int) < (y.n : Int) := by omega
  have HT := Lib.hid (ythere_yes y st er w h b hb)
  have HM := Lib.hid (ymay_any (st b) s w (by omega))
  rw [hm] at HM
  clear h hs hm
  go_enter Tryz.func56, Tryz.ntmps56
  go_wp2_with (first
    | (go_at_call 77; refine HT.out.mono ?_; rintro e w1 ⟨rfl, rfl⟩)
    | (go_at_call 78; refine HM.out.mono ?_; rintro e w1 ⟨rfl, rfl⟩))
  go_ret
  exact ⟨rfl, rfl⟩
theorem yerased_any (y : YD) (st er : Nat → Nat) (w : World) (h : IsYard y st er w) (b : Nat) (hb : b < y.n) (he : er b < 1099511627776) :
    Calls Tryz.prog 59 #[.pointer (some ⟨y.yb, 0, none⟩), .int .i64 b] w fun e w' => e = .returned (.tuple #[]) ∧ IsYard y st (updN er b (er b + 1)) w' ∧ Keep (· = y.eb) w w' := by
  have c1 := h.c1
  have cs := h.er_ hb
  have hn := h.hn
  have hb' : (b : Int) < (y.n : Int) := by omega
  have hz := h.he.frozen b
  have HE := Lib.hid (And.intro (h.setEr b (er b + 1)) ((Keep.refl (· = y.eb) w).setCell (p := ⟨y.eb, b, none⟩) (.inl rfl) (.int .i64 (er b + 1 : Nat))))
  have HT := Lib.hid (ythere_yes y st er w h b hb)
  obtain ⟨v, hv⟩ : ∃ v, v = er b + 1 := ⟨_, rfl⟩
  rw [← hv] at HE ⊢
  have hv2 : v ≤ 1099511627776 := by omega
  have e1 : IntKind.i64.wrap ((er b : Int) + 1) = (v : Int) := by rw [show (er b : Int) + 1 = (v : Int) by omega]; exact wraps_i64 _ (by omega) (by omega)
  have e2 : (er b : Int) + 1 = (v : Int) := by omega
  clear h he hv
  go_enter Tryz.func59, Tryz.ntmps59
  go_wp2_with (first
    | (go_at_call 77; refine HT.out.mono ?_; rintro e w1 ⟨rfl, rfl⟩))
  go_end0
  exact ⟨rfl, HE.out⟩
end Go.Proofs.YtdjgjffgheocfaaGreat
