/-
  RX G: from a walk that leaves old memory alone to what a row asks behind the call.
-/
import Derived.Test.YthhcbfngjmiigaaGreatDoorRxF
import Derived.ProofKit
import Derived.Deep.DeepHandedRow
import Derived.Lib.SmallJoins
import Derived.Shelf.Vars
set_option linter.all false
set_option linter.unusedSimpArgs false
set_option linter.unusedVariables false
namespace Rx
open Go Go.ChangeShapes Go.WideShapes Go.ChangeAt Go.RowKit
theorem below_of_pure {w w' : World} (h : Pure0 w w') : Below w.heap.size w w' := ⟨h.os, h.tape, h.output, h.size, fun k hk => h.block k hk fun x => x⟩
section
variable {H : Type} {enc : TypeId × Value → H} {P : Program}
/-- Arguments read behind the call as they did before. -/
theorem trodAll_stays (hl : laidOutB P = true) {W W' : World} (hb : Below W.heap.size W W') : ∀ {ts : List TypeId} {vs : List Value} {ds : List (DataW H)} {ps : List MemPlace},
    (ts.all fun t => P.readableRec t && Decidable.decide (t < P.types.size)) = true → DataW.TrodAll enc P W 0 (fun _ => true) true ts vs ds ps → (∀ x ∈ ps, x.block < W.heap.size) → DataW.TrodAll enc P W' 0 (fun b => Decidable.decide (b < W.heap.size)) true ts vs ds ps := by
  intro ts
  induction ts with
  | nil =>
    intro vs ds ps _ h _
    cases vs <;> cases ds <;> first
      | exact h
      | exact h.elim
  | cons t ts ih =>
    intro vs ds ps hall h hlt
    simp only [List.all_cons, Bool.and_eq_true, decide_eq_true_eq] at hall
    cases vs with
    | nil => cases ds <;> exact h.elim
    | cons v vs => cases ds with
      | nil => exact h.elim
      | cons d ds =>
        obtain ⟨p, q, h1, h2, rfl⟩ := h
        exact ⟨p, q, Below.trod hl hall.1.1 hall.1.2 h1 hb (fun x hx => hlt x (List.mem_append_left _ hx)), ih hall.2 h2 (fun x hx => hlt x (List.mem_append_right _ hx)), rfl⟩
/-- WHAT A LAW's ROW ASKS, where the call returns true and leaves old memory alone. -/
theorem post_law {f : Func} {s : ChangeSpec} {W W' : World} {args : Array Value} {ds gs : List (DataW H)} {before : List MemPlace} {tb : TypeId} (hl : laidOutB P = true) (hr : f.resultTypes = #[tb]) (htb : P.underlying tb = some .bool)
    (hall : (f.params.toList.all fun t => P.readableRec t && Decidable.decide (t < P.types.size)) = true) (hv : s.vars = []) (hfn : s.fn H (ds ++ gs) = { results := [.lit (.bool true)], args := ds })
    (hW : DataW.Whole enc P f.params.toList s.vars false W args.toList ds gs before) (hp : Pure0 W W') : s.post enc P f false true false false W args (.bool true) W' := by
  have hb := below_of_pure hp
  have hW' := hW
  obtain ⟨p, q, hA, hV, rfl, hfz, hnd⟩ := hW
  rw [hv] at hV
  obtain ⟨rfl, rfl⟩ := trodVars_none hV
  have hlt : ∀ x ∈ p, x.block < W.heap.size := fun x hx => hW'.lt x (by simp [hx])
  refine ⟨ds, [], p ++ [], [], p, [], hW', ?_, ?_, ?_, hb.frame _, fun h => by cases h⟩
  · rw [hfn, hr]
    exact trodAll_mk1 (shut_bool htb true)
  · rw [hfn]
    exact trodAll_stays hl hb hall hA hlt
  · rw [hfn, hv]
    rfl
end
end Rx
