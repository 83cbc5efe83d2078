import Derived.Test.YthhcbfngjmiigaaGreatDoorU
set_option linter.all false
namespace Go.Proofs.YthhcbfngjmiigaaGreatDoor
open Go Rx
set_option maxRecDepth 100000
def litL : ByteArray := ⟨#[97, 110, 110, 32, 112, 111, 115, 116, 32, 99, 108, 111, 115, 101, 32, 55, 44, 49, 44, 50, 48, 50, 54, 45, 49, 49, 44, 45, 44, 108, 105, 118, 101, 44, 49, 48, 48, 58, 53, 58, 48, 44, 50, 48, 48, 58, 45, 53, 58, 48]⟩
def litW : List ByteArray := [⟨#[99, 108, 111, 115, 101]⟩, ⟨#[55, 44, 49, 44, 50, 48, 50, 54, 45, 49, 49, 44, 45, 44, 108, 105, 118, 101, 44, 49, 48, 48, 58, 53, 58, 48, 44, 50, 48, 48, 58, 45, 53, 58, 48]⟩]
theorem lit_cuts : cuts litL = ⟨#[97, 110, 110]⟩ :: ⟨#[112, 111, 115, 116]⟩ :: litW := by decide
theorem lit_right : rightOk ⟨#[97, 110, 110]⟩ ⟨#[112, 111, 115, 116]⟩ litW := by
  refine ⟨⟨by unfold allLow lowB; decide, by decide, by decide⟩, by decide, ?_, ?_, by decide⟩
  · exact .inr ⟨by decide, by decide⟩
  · intro x hx
    simp only [litW, List.mem_cons, List.not_mem_nil, or_false] at hx
    rcases hx with rfl | rfl <;> exact ⟨by decide, by decide, by decide⟩
theorem lit_ok : readOk litL := (read_ref _).2 ⟨by decide, _, _, _, lit_cuts, lit_right⟩
theorem lit_joined : joined ⟨#[97, 110, 110]⟩ ⟨#[112, 111, 115, 116]⟩ litW = litL := by decide
end Go.Proofs.YthhcbfngjmiigaaGreatDoor
