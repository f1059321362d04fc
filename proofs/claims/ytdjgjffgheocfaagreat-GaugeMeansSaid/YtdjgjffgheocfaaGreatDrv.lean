/- A drive: where it lies, what it holds. -/
import Derived.Test.YtdjgjffgheocfaaGreatChipB
import Derived.Test.YtdjgjffgheocfaaGreatDrvA
import Derived.Test.YtdjgjffgheocfaaGreatLm2
namespace Go.Proofs.YtdjgjffgheocfaaGreat
open Go.RowKit

/-- What a drive holds: spares, blocks lost, the next number, its host pages (kind, number, gone), the map both ways, the yard, the frontier, the patrol. -/
structure DrvS where
  sp : Nat
  lost : Nat
  next : Nat
  L : Nat
  hk : Nat → Nat
  hs : Nat → Nat
  hg : Nat → Bool
  at_ : Nat → Option Nat
  own : Nat → Option Nat
  st : Nat → Nat
  er : Nat → Nat
  fb : Int
  fp : Nat
  told : Nat
  ro : Bool
  dark : Bool
/-- Where it lies. -/
structure DR where
  db : Nat
  hb : Nat
  m : LM
  y : YD
  fb : Nat
  pb : Nat
  t1 : Nat
  t2 : Nat
def heldC (D : DrvS) (q : Nat) : Value := if q % 3 = 0 then .int .i64 (D.hk (q / 3) : Nat) else if q % 3 = 1 then .int .i64 (D.hs (q / 3) : Nat) else .bool (D.hg (q / 3))
def headD (r : DR) (cb B P W K : Nat) (D : DrvS) : Array Value :=
  #[.slice (some ⟨r.t1, 0, none⟩) 1023 1023, .slice (some ⟨r.t2, 0, none⟩) 1024 1024, .pointer (some ⟨cb, 0, none⟩), .int .i64 (B : Nat), .int .i64 (P : Nat), .int .i64 (W : Nat), .int .i64 (K : Nat), .int .i64 (D.sp : Nat), .int .i64 (D.lost : Nat), .int .i64 (D.next : Nat), .slice (some ⟨r.hb, 0, none⟩) D.L D.L, .pointer (some ⟨r.m.mb, 0, none⟩), .pointer (some ⟨r.y.yb, 0, none⟩), .pointer (some ⟨r.fb, 0, none⟩), .pointer (some ⟨r.pb, 0, none⟩), .slice none 0 0, .bool D.ro, .bool D.dark]
structure DrvM (r : DR) (cb B P W K : Nat) (D : DrvS) (w : World) : Prop where
  head : Blk w r.db 89 (headD r cb B P W K D)
  host : Blk w r.hb 138 (valsArr (heldC D) (D.L * 3))
  map : IsMap r.m D.at_ D.own w
  mL : r.m.L = D.L
  mP : r.m.P = B * P
  yard : IsYard r.y D.st D.er w
  yn : r.y.n = B
  frn : IsFront r.fb B P W K D.fb D.fp w
  pat : IsPatrol r.pb B P W K D.told w
  tab : Tab w r.t1 r.t2
  ne : r.y.sb ≠ r.m.ab ∧ r.y.sb ≠ r.m.ob ∧ r.y.eb ≠ r.m.ab ∧ r.y.eb ≠ r.m.ob ∧ r.t2 ≠ r.m.ab ∧ r.t2 ≠ r.m.ob ∧ r.t2 ≠ r.y.sb ∧ r.t2 ≠ r.y.eb
def drvB (r : DR) (k : Nat) : Prop := k = r.db ∨ k = r.hb ∨ k = r.m.mb ∨ k = r.m.ab ∨ k = r.m.ob ∨ k = r.m.pb ∨ k = r.m.sb ∨ k = r.y.yb ∨ k = r.y.sb ∨ k = r.y.eb ∨ k = r.fb ∨ k = r.pb ∨ k = r.t1 ∨ k = r.t2
section
variable {r : DR} {cb B P W K : Nat} {D : DrvS} {w w' : World} {S : Nat → Prop}
theorem DrvM.keep (h : DrvM r cb B P W K D w) (hk : Keep S w w') (hS : ∀ k, drvB r k → ¬ S k) : DrvM r cb B P W K D w' := by
  unfold drvB at hS
  exact ⟨h.head.keep hk (hS _ (by simp)), h.host.keep hk (hS _ (by simp)), h.map.keep hk (hS _ (by simp)) (hS _ (by simp)) (hS _ (by simp)) (hS _ (by simp)) (hS _ (by simp)), h.mL, h.mP,
    h.yard.keep hk (hS _ (by simp)) (hS _ (by simp)) (hS _ (by simp)), h.yn, Blk.keep h.frn hk (hS _ (by simp)), Blk.keep h.pat hk (hS _ (by simp)), ⟨h.tab.e.keep hk (hS _ (by simp)), h.tab.l.keep hk (hS _ (by simp))⟩, h.ne⟩
theorem DrvM.keepF (h : DrvM r cb B P W K D w) (hk : Keep (fun _ => False) w w') : DrvM r cb B P W K D w' := h.keep hk (fun _ _ e => e)
theorem DrvM.lt (h : DrvM r cb B P W K D w) {k : Nat} (hk : drvB r k) : k < w.heap.size := by
  rcases hk with rfl | rfl | rfl | rfl | rfl | rfl | rfl | rfl | rfl | rfl | rfl | rfl | rfl | rfl
  · exact h.head.lt
  · exact h.host.lt
  · exact h.map.raw.hm.lt
  · exact h.map.raw.ha.lt
  · exact h.map.raw.ho.lt
  · exact h.map.raw.hb.hp.lt
  · exact h.map.raw.hb.hs.lt
  · exact h.yard.hy.lt
  · exact h.yard.hs.lt
  · exact h.yard.he.lt
  · exact Blk.lt h.frn
  · exact Blk.lt h.pat
  · exact h.tab.e.lt
  · exact h.tab.l.lt
/-- A block of a type that none of the drive's has. -/
theorem DrvM.far (h : DrvM r cb B P W K D w) {g : Nat} {T : TypeId} {cs : Array Value} (hb : Blk w g T cs)
    (n : T ≠ 89 ∧ T ≠ 138 ∧ T ≠ 147 ∧ T ≠ 3 ∧ T ≠ 181 ∧ T ≠ 189 ∧ T ≠ 151 ∧ T ≠ 153 ∧ T ≠ 155 ∧ T ≠ 148) : ¬ drvB r g := by
  obtain ⟨n1, n2, n3, n4, n5, n6, n7, n8, n9, n10⟩ := n
  rintro (rfl | rfl | rfl | rfl | rfl | rfl | rfl | rfl | rfl | rfl | rfl | rfl | rfl | rfl)
  · exact hb.ne h.head n1 rfl
  · exact hb.ne h.host n2 rfl
  · exact hb.ne h.map.raw.hm n3 rfl
  · exact hb.ne h.map.raw.ha n4 rfl
  · exact hb.ne h.map.raw.ho n4 rfl
  · exact hb.ne h.map.raw.hb.hp n5 rfl
  · exact hb.ne h.map.raw.hb.hs n6 rfl
  · exact hb.ne h.yard.hy n7 rfl
  · exact hb.ne h.yard.hs n4 rfl
  · exact hb.ne h.yard.he n4 rfl
  · exact hb.ne h.frn n8 rfl
  · exact hb.ne h.pat n9 rfl
  · exact hb.ne h.tab.e n10 rfl
  · exact hb.ne h.tab.l n4 rfl
/-- The drive's own cells turned. -/
theorem DrvM.setHead (h : DrvM r cb B P W K D w) (D' : DrvS) (hk : Keep (· = r.db) w w') (hb : Blk w' r.db 89 (headD r cb B P W K D'))
    (e : D'.L = D.L ∧ D'.hk = D.hk ∧ D'.hs = D.hs ∧ D'.hg = D.hg ∧ D'.at_ = D.at_ ∧ D'.own = D.own ∧ D'.st = D.st ∧ D'.er = D.er ∧ D'.fb = D.fb ∧ D'.fp = D.fp ∧ D'.told = D.told) : DrvM r cb B P W K D' w' := by
  obtain ⟨e1, e2, e3, e4, e5, e6, e7, e8, e9, e10, e11⟩ := e
  have q := fun (g : Nat) (T : TypeId) (cs : Array Value) (hb : Blk w g T cs) (hn : T ≠ 89) => hb.ne h.head hn
  refine ⟨hb, ?_, ?_, by rw [h.mL, e1], h.mP, ?_, h.yn, ?_, ?_, ⟨h.tab.e.keep hk (q _ _ _ h.tab.e (by decide)), h.tab.l.keep hk (q _ _ _ h.tab.l (by decide))⟩, h.ne⟩
  · have hc : heldC D' = heldC D := by
      unfold heldC
      rw [e2, e3, e4]
    rw [e1, hc]
    exact h.host.keep hk (q _ _ _ h.host (by decide))
  · rw [e5, e6]
    exact h.map.keep hk (q _ _ _ h.map.raw.hm (by decide)) (q _ _ _ h.map.raw.ha (by decide)) (q _ _ _ h.map.raw.ho (by decide)) (q _ _ _ h.map.raw.hb.hp (by decide)) (q _ _ _ h.map.raw.hb.hs (by decide))
  · rw [e7, e8]
    exact h.yard.keep hk (q _ _ _ h.yard.hy (by decide)) (q _ _ _ h.yard.hs (by decide)) (q _ _ _ h.yard.he (by decide))
  · rw [e9, e10]
    exact Blk.keep h.frn hk (q _ _ _ h.frn (by decide))
  · rw [e11]
    exact Blk.keep h.pat hk (q _ _ _ h.pat (by decide))
/-- The yard turned. -/
theorem DrvM.setYard (h : DrvM r cb B P W K D w) (st er : Nat → Nat) (hk : Keep (fun k => k = r.y.sb ∨ k = r.y.eb) w w') (hy : IsYard r.y st er w') : DrvM r cb B P W K { D with st := st, er := er } w' := by
  obtain ⟨n1, n2, n3, n4, n5, n6, n7, n8⟩ := h.ne
  have q := fun (g : Nat) (T : TypeId) (cs : Array Value) (hb : Blk w g T cs) (hn : T ≠ 3) (e : g = r.y.sb ∨ g = r.y.eb) => e.elim (hb.ne h.yard.hs hn) (hb.ne h.yard.he hn)
  exact ⟨h.head.keep hk (q _ _ _ h.head (by decide)), h.host.keep hk (q _ _ _ h.host (by decide)),
    h.map.keep hk (q _ _ _ h.map.raw.hm (by decide)) (fun e => e.elim (fun e => n1 e.symm) (fun e => n3 e.symm)) (fun e => e.elim (fun e => n2 e.symm) (fun e => n4 e.symm)) (q _ _ _ h.map.raw.hb.hp (by decide)) (q _ _ _ h.map.raw.hb.hs (by decide)), h.mL, h.mP,
    hy, h.yn, Blk.keep h.frn hk (q _ _ _ h.frn (by decide)), Blk.keep h.pat hk (q _ _ _ h.pat (by decide)), ⟨h.tab.e.keep hk (q _ _ _ h.tab.e (by decide)), h.tab.l.keep hk (fun e => e.elim n7 n8)⟩, h.ne⟩
end
/-- The head's cells. -/
structure HeadDC (r : DR) (cb B P W K : Nat) (D : DrvS) (w : World) : Prop where
  b : Blk w r.db 89 (headD r cb B P W K D)
  c2 : w.cell? ⟨r.db, 2, none⟩ = some (.pointer (some ⟨cb, 0, none⟩))
  c3 : w.cell? ⟨r.db, 3, none⟩ = some (.int .i64 (B : Nat))
  c4 : w.cell? ⟨r.db, 4, none⟩ = some (.int .i64 (P : Nat))
  c5 : w.cell? ⟨r.db, 5, none⟩ = some (.int .i64 (W : Nat))
  c6 : w.cell? ⟨r.db, 6, none⟩ = some (.int .i64 (K : Nat))
  c7 : w.cell? ⟨r.db, 7, none⟩ = some (.int .i64 (D.sp : Nat))
  c8 : w.cell? ⟨r.db, 8, none⟩ = some (.int .i64 (D.lost : Nat))
  c9 : w.cell? ⟨r.db, 9, none⟩ = some (.int .i64 (D.next : Nat))
  c10 : w.cell? ⟨r.db, 10, none⟩ = some (.slice (some ⟨r.hb, 0, none⟩) D.L D.L)
  c11 : w.cell? ⟨r.db, 11, none⟩ = some (.pointer (some ⟨r.m.mb, 0, none⟩))
  c12 : w.cell? ⟨r.db, 12, none⟩ = some (.pointer (some ⟨r.y.yb, 0, none⟩))
  c13 : w.cell? ⟨r.db, 13, none⟩ = some (.pointer (some ⟨r.fb, 0, none⟩))
  c14 : w.cell? ⟨r.db, 14, none⟩ = some (.pointer (some ⟨r.pb, 0, none⟩))
  c15 : w.cell? ⟨r.db, 15, none⟩ = some (.slice none 0 0)
  c16 : w.cell? ⟨r.db, 16, none⟩ = some (.bool D.ro)
  c17 : w.cell? ⟨r.db, 17, none⟩ = some (.bool D.dark)
theorem DrvM.hc {r : DR} {cb B P W K : Nat} {D : DrvS} {w : World} (h : DrvM r cb B P W K D w) : HeadDC r cb B P W K D w := by
  have b := h.head
  exact ⟨b, by rw [b.cell]; rfl, by rw [b.cell]; rfl, by rw [b.cell]; rfl, by rw [b.cell]; rfl, by rw [b.cell]; rfl, by rw [b.cell]; rfl, by rw [b.cell]; rfl, by rw [b.cell]; rfl, by rw [b.cell]; rfl, by rw [b.cell]; rfl, by rw [b.cell]; rfl, by rw [b.cell]; rfl, by rw [b.cell]; rfl, by rw [b.cell]; rfl, by rw [b.cell]; rfl, by rw [b.cell]; rfl⟩
set_option maxRecDepth 100000 in
/-- heard: no power is gone. -/
theorem heard_ok (r : DR) (cb B P W K : Nat) (D : DrvS) (w : World) (h : DrvM r cb B P W K D w) (e : Int) (he : e ≠ 8) :
    Calls Tryz.prog 57 #[.pointer (some ⟨r.db, 0, none⟩), .int .i64 e] w fun x w' => x = .returned (.int .i64 e) ∧ DrvM r cb B P W K D w' ∧ Keep (· = r.db) w w' := by
  have hc := h.hc
  have c17 := hc.c17
  have hz := hc.b.frozen 17
  have hb : Blk (w.setCell ⟨r.db, 17, none⟩ (.bool D.dark)) r.db 89 (headD r cb B P W K D) := hc.b.put 17 (.bool D.dark)
  have hk := (Keep.refl (· = r.db) w).setCell (p := ⟨r.db, 17, none⟩) (.inl rfl) (.bool D.dark)
  have HE := Lib.hid (And.intro (h.setHead D hk hb ⟨rfl, rfl, rfl, rfl, rfl, rfl, rfl, rfl, rfl, rfl, rfl⟩) hk)
  have he2 : (e == 8) = false := by simp [he]
  clear h hc hb hk
  cases hd : D.dark <;> rw [hd] at c17 HE
  all_goals
    go_enter Tryz.func57, Tryz.ntmps57
    go_wp2_with fail
    go_ret
    exact ⟨rfl, HE.out⟩
end Go.Proofs.YtdjgjffgheocfaaGreat
