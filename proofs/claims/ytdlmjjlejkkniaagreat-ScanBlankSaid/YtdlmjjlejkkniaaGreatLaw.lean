/- The last step of every law's row: a call that answers true and leaves alone what was there meets the row's post. -/
import Derived.Test.YtdlmjjlejkkniaaGreatBase
import Derived.ProofKit
import Derived.OpenShut
import Derived.Carry
namespace Go.Proofs.YtdlmjjlejkkniaaGreat
open Go.ChangeShapes Go.WideShapes Go.ChangeAt Go.RowKit

section
variable {H : Type} {enc : TypeId × Value → H} {P : Program}

theorem trodAll_stays (hl : laidOutB P = true) {W W' : World} (hb : Below W.heap.size W W') : ∀ (ts : List TypeId) (vs : List Value) (ds : List (DataW H)) (ps : List MemPlace),
    (∀ t ∈ ts, P.readableRec t = true ∧ t < P.types.size) → (∀ x ∈ ps, x.block < W.heap.size) →
    DataW.TrodAll enc P W 0 (fun _ => true) true ts vs ds ps → DataW.TrodAll enc P W' 0 (fun b => decide (b < W.heap.size)) true ts vs ds ps
  | [], [], [], _, _, _, h => h
  | t :: ts, v :: vs, d :: ds, ps, ht, hlt, h => by
    obtain ⟨p, q, h1, h2, rfl⟩ := h
    have hd := ht t (List.mem_cons_self ..)
    exact ⟨p, q, Below.trod hl hd.1 hd.2 h1 hb (fun x hx => hlt x (List.mem_append_left _ hx)), trodAll_stays hl hb ts vs ds q (fun t' h' => ht t' (List.mem_cons_of_mem _ h')) (fun x hx => hlt x (List.mem_append_right _ hx)) h2, rfl⟩
  | [], [], _ :: _, _, _, _, h => by cases h
  | [], _ :: _, _, _, _, _, h => by cases h
  | _ :: _, [], _, _, _, _, h => by cases h
  | _ :: _, _ :: _, [], _, _, _, h => by cases h

theorem law_post {f : Func} {s : ChangeSpec} {W W' : World} {args : Array Value} {ds gs : List (DataW H)} {before : List MemPlace} {T : TypeId}
    (hl : laidOutB P = true) (hp : f.params.toList.all (fun t => P.readableRec t && decide (t < P.types.size)) = true) (hr : f.resultTypes = #[T]) (hT : P.underlying T = some .bool) (hvars : s.vars = [])
    (hfn : s.fn H ds = { results := [.lit (.bool true)], args := ds })
    (hW : DataW.Whole enc P f.params.toList s.vars false W args.toList ds gs before) (hb : Below W.heap.size W W') :
    s.post enc P f false true false false W args (.bool true) W' := by
  have hW' := hW
  obtain ⟨p, q, hA, hV, hpq, hfz, hnd⟩ := hW
  rw [hvars] at hV
  obtain ⟨rfl, rfl⟩ := trodVars_none hV
  subst hpq
  have hlt : ∀ x ∈ p, x.block < W.heap.size := fun x hx => by
    have := hW'.lt x
    simpa using this (by simpa using hx)
  have hargs := trodAll_stays (enc := enc) hl hb _ _ _ _ (fun t ht => by
    have := List.all_eq_true.1 hp t ht
    simpa using this) hlt hA
  refine ⟨ds, [], p ++ [], [], p, [], hW', ?_, ?_, ?_, hb.frame _, fun h => by cases h⟩
  · rw [hr]
    simp only [List.append_nil]
    rw [hfn]
    exact trodAll_mk1 (shut_bool hT _)
  · simp only [List.append_nil]
    rw [hfn]
    exact hargs
  · rw [hvars]
    simp only [List.append_nil]
    rw [hfn]
    rfl
end
end Go.Proofs.YtdlmjjlejkkniaaGreat
