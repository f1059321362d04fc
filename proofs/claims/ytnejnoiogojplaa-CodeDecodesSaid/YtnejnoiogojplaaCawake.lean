/- blackboardlaw4.awake. -/
import Derived.Test.YtnejnoiogojplaaCodeW
import Derived.Test.YtnejnoiogojplaaRefA
namespace Go.Proofs.Ytnejnoiogojplaa
open Go.RowKit

/-- One symbol put in another's place. -/
def updU (p : Nat → Nat) (i v : Nat) : Nat → Nat := fun k => if k = i then v else p k
theorem cntNe_one {q : Nat → Nat} {i v : Nat} (h : q i ≠ v) : ∀ n, cntNe q (updU q i v) n = if i < n then 1 else 0
  | 0 => rfl
  | n + 1 => by
    rw [cntNe, cntNe_one h n]
    unfold updU
    by_cases e : n = i
    · subst e
      rw [if_pos rfl, if_neg h, if_neg (by omega), if_pos (by omega)]
    · rw [if_neg e, if_pos rfl]
      by_cases h2 : i < n
      · rw [if_pos h2, if_pos (by omega)]
      · rw [if_neg h2, if_neg (by omega)]
theorem updU_lt {p : Nat → Nat} {i v n : Nat} (hp : ∀ k, k < n → p k < 1024) (hv : v < 1024) (k : Nat) (hk : k < n) : updU p i v k < 1024 := by
  unfold updU
  split
  · exact hv
  · exact hp k hk
theorem xor_ne {a b : Nat} (h : b ≠ 0) : a ≠ a ^^^ b := fun e => h (by
  have := xor_cancel a b
  rw [← e, Nat.xor_self] at this
  exact this.symm)
/-- A word with one symbol turned. -/
theorem near_one {q : Nat → Nat} {n i v : Nat} (hq : ∀ k, k < n → q k < 1024) (hw : ∀ j, j < 16 → synW q n j = 0) (hi : i < n) (h : q i ≠ v) : Near (updU q i v) n q 1 :=
  ⟨hq, hw, by rw [cntNe_one h, if_pos hi], by omega⟩
/-- Where a word of the code is near, a decoder finds it. -/
theorem DecR.near {w' : World} {N n d : Nat} {p q : Nat → Nat} {e : Ending} (h : DecR w' N p n e) (hq : Near p n q d) (hn : n ≤ 1023) : ∃ a' c', e = .returned (.tuple #[.slice a' n c', .int .i64 d, .int .i64 0]) ∧ OwnU w' N a' n c' q := by
  rcases h with ⟨r, d', a', c', hr, he, ho⟩ | ⟨h, _⟩
  · obtain ⟨h1, rfl⟩ := Near.uniq hn hq hr
    exact ⟨a', c', he, ho.congr (fun i hi => (h1 i hi).symm)⟩
  · exact absurd hq (h q d)
theorem enc_five : ∀ i, i < 1 → lst [5] i < 1024 := fun i hi => by
  obtain rfl : i = 0 := by omega
  decide

set_option maxHeartbeats 4000000 in
set_option maxRecDepth 100000 in
theorem cawake_true (w : World) :
    Calls Try.prog 11 #[] w fun e w' => e = .returned (.bool true) ∧ Keep (fun _ => False) w w' := by
  go_enter Try.func11, Try.ntmps11
  go_wp2_with fail
  refine (make_any _).mono ?_
  rintro e w1 ⟨g1, g2, rfl, T, _, _, k1⟩
  obtain ⟨TV, k2⟩ := TVar.new T
  have kk := k1.comp k2
  unfold tabV
  clear T k1 k2
  go_upto_region 2 with (fail)
  generalize w1.alloc (.cells #[.slice (some ⟨g1, 0, none⟩) 1023 1023, .slice (some ⟨g2, 0, none⟩) 1024 1024] 27) = W at *
  generalize w1.heap.size = gt at *
  obtain ⟨d0, d1⟩ := tab_cells TV.b
  have A := Laid.new W #[.int .u16 5] (lst [5]) 1 (uArr_one 5) (by omega) (fun i hi => by have := enc_five i hi; omega)
  have TV1 := TV.keep A.k
  have AA := Lib.hid (A.a _ rfl)
  have K1 := kk.comp A.k
  clear A kk
  go_wp2_with fail
  clear d0 d1 TV
  refine (enc_any _ _ 1 _ _ _ TV1.t.has AA.out (by omega) (by omega) enc_five).mono ?_
  rintro e w2 ⟨⟨q, a2, c2, hq, rfl, o2⟩, k2⟩
  obtain ⟨gq, rfl, _, hc2, r2⟩ := o2.row (by omega)
  have HQ := Lib.hid hq
  have TV2 := TV1.keep k2
  have K2 := K1.comp k2
  have hg2 := K1.size
  have hq3 := hq.lt 3 (by omega)
  have c3 := r2.val (show 3 < 1 + 16 by omega)
  have z3 := r2.frozen 3
  have hx1 : bits .xor .u16 ((q 3 : Nat) : Int) 7 = ((q 3 ^^^ 7 : Nat) : Int) := xor_u16 (a := q 3) (b := 7) (by omega) (by omega)
  have hv7 : q 3 ^^^ 7 < 1024 := xor_lt hq3 (by omega)
  have r3 := Lib.hid (r2.store 3 (q 3 ^^^ 7) (f' := updU q 3 (q 3 ^^^ 7)) (fun k _ => rfl))
  have kB := k2.setCell (p := ⟨gq, 3, none⟩) (.inr (by assumption)) (.int .u16 (q 3 ^^^ 7 : Nat))
  have TV3 := TV1.keep kB
  have K3 := Lib.hid (K1.comp kB)
  obtain ⟨d0, d1⟩ := tab_cells TV3.b
  have hgq : (W.alloc (.cells #[.int .u16 5] 23)).heap.size ≤ gq := by assumption
  have KB := Lib.hid kB
  have TB := Lib.hid TV1
  clear hq o2 k2 TV1 r2 AA kB
  go_wp2_with fail
  clear c3 z3
  have AP := Lib.hid (r3.out.argU (by omega) (fun k hk => by have := updU_lt (i := 3) HQ.out.lt hv7 k hk; omega))
  have HNear := Lib.hid (near_one (i := 3) (v := q 3 ^^^ 7) HQ.out.lt HQ.out.word (by omega) (xor_ne (by omega)))
  refine (dec_any _ _ _ _ _ _ TV3.t.has AP.out (by omega) (by omega) (fun k hk => updU_lt HQ.out.lt hv7 k hk)).mono ?_
  rintro e w4 ⟨hdec, k4⟩
  obtain ⟨af, cf, rfl, of⟩ := hdec.near HNear.out (by omega)
  have r4 := r3.out.keep k4 (by simp)
  have K4 := K3.out.comp k4
  have TV4 := TV3.keep k4
  have hg3 := r3.out.lt
  have c4 := r4.val (show 3 < 1 + 16 by omega)
  rw [show updU q 3 (q 3 ^^^ 7) 3 = q 3 ^^^ 7 from if_pos rfl] at c4
  have z4 := r4.frozen 3
  have hx2 : bits .xor .u16 ((q 3 ^^^ 7 : Nat) : Int) 7 = ((q 3 : Nat) : Int) := by
    have := xor_u16 (a := q 3 ^^^ 7) (b := 7) (by omega) (by omega)
    rwa [xor_cancel_right] at this
  have r5 := Lib.hid (r4.store 3 (q 3) (f' := q) (fun k _ => by
    unfold updU
    by_cases h : k = 3
    · rw [if_pos h, h]
    · rw [if_neg h, if_neg h]))
  have of5 := Lib.hid (of.far (p := ⟨gq, 3, none⟩) hg3 (.int .u16 (q 3 : Nat)))
  have kB5 := (KB.out.comp k4).setCell (p := ⟨gq, 3, none⟩) (.inr hgq) (.int .u16 (q 3 : Nat))
  have TV5 := TB.out.keep kB5
  have K5 := Lib.hid (K1.comp kB5)
  clear hdec of r4 K4 TV4 k4 d0 d1 kB5 KB TB TV3 AP r3 K3 K1
  go_wp2_with fail
  clear c4 z4
  have AF := Lib.hid (of5.out.arg (by omega) (fun k hk => by have := HQ.out.lt k hk; omega))
  have AW := Lib.hid (r5.out.argU (by omega) (fun k hk => by have := HQ.out.lt k hk; omega))
  refine (same_yes _ _ 17 _ _ q q _ AF.out AW.out (by omega) (fun _ _ => rfl)).mono ?_
  rintro e w6 ⟨rfl, k6⟩
  have AF6 := Lib.hid (AF.out.keep k6)
  have AW6 := Lib.hid (AW.out.keep k6)
  have TV6 := TV5.keep k6
  have K6 := Lib.hid (K5.out.comp k6)
  clear AF AW TV5 K5 k6 of5 r5
  go_wp2_with fail
  have hd := dist_any _ _ 17 17 cf c2 q q _ AF6.out AW6.out (by omega) (by omega)
  rw [Nat.max_self, Nat.min_self, Nat.sub_self, Nat.zero_add, cntNe_zero.2 (fun _ _ => rfl)] at hd
  refine hd.mono ?_
  rintro e w7 ⟨rfl, k7⟩
  have TV7 := TV6.keep k7
  have K7 := Lib.hid (K6.out.comp k7)
  obtain ⟨d0, d1⟩ := tab_cells TV7.b
  clear hd AF6 AW6 TV6 K6 k7
  go_wp2_with fail
  refine (generator_any _ _ TV7.t.has).mono ?_
  rintro e w8 ⟨aG, rfl, _, k8⟩
  have K8 := Lib.hid (K7.out.comp k8)
  clear d0 d1
  go_wp2_with fail
  go_ret
  exact ⟨rfl, K8.out⟩
end Go.Proofs.Ytnejnoiogojplaa
