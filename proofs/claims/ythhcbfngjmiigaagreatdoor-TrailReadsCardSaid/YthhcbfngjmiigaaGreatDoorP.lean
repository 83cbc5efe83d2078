import Derived.Test.YthhcbfngjmiigaaGreatDoorO
set_option linter.all false
namespace Go.Proofs.YthhcbfngjmiigaaGreatDoor
open Go Rx
set_option maxRecDepth 100000
instance (sh : ByteArray) : Decidable (starB sh) := by unfold starB; exact inferInstance
theorem star_tab : ∀ x ∈ verbTab, (starB x.2.1 ∧ (trimSuf x.2.1 ⟨#[42]⟩).size + 1 = x.2.1.size) ∨ (¬ starB x.2.1 ∧ (trimSuf x.2.1 ⟨#[42]⟩).size = x.2.1.size) := by decide
theorem count_takes {v : ByteArray} {x : ByteArray × ByteArray × Bool} (h : findV v = some x) (n : Nat) : countOk (shapeB v) n ↔ takesB x.2.1 n = true := by
  have hs : shapeB v = x.2.1 := by unfold shapeB; rw [h]
  rw [hs]
  unfold countOk takesB
  rcases star_tab x (List.mem_of_find?_eq_some h) with ⟨h1, h2⟩ | ⟨h1, h2⟩
  · rw [if_pos (by omega)]
    simp only [h1, true_and, not_true_eq_false, false_and, or_false, Bool.and_eq_true, decide_eq_true_eq]
    omega
  · rw [if_neg (by omega)]
    simp only [h1, false_and, false_or, not_false_eq_true, true_and, decide_eq_true_eq]
    omega
theorem joined_size (b v : ByteArray) (xs : List ByteArray) : (joined b v xs).size = b.size + 1 + v.size + sumL xs := by
  rw [joined_eq]
  have key : ∀ (l : List ByteArray) (a : ByteArray), (l.foldl glue a).size = a.size + sumL l := by
    intro l
    induction l with
    | nil => intro a; simp [sumL]
    | cons x l ih =>
      intro a
      rw [List.foldl_cons, ih]
      have : (glue a x).size = a.size + 1 + x.size := by simp [glue, sp, ba_size]
      rw [this]
      simp only [sumL, List.map_cons, List.sum_cons]
      omega
  rw [key]
  simp [sp, ba_size]
theorem line_right (b v : ByteArray) (xs : List ByteArray) : lineOk b v xs ↔ rightOk b v xs := by
  unfold lineOk rightOk headOk
  rw [joined_size]
  constructor
  · rintro ⟨⟨h1, x, h2, h3⟩, h4, h5⟩
    exact ⟨h1, by rw [h2]; rfl, (count_takes h2 _).2 h3, h4, h5⟩
  · rintro ⟨h1, h2, h3, h4, h5⟩
    obtain ⟨x, hx⟩ := Option.isSome_iff_exists.1 h2
    exact ⟨⟨h1, x, hx, (count_takes hx _).1 h3⟩, h4, h5⟩
end Go.Proofs.YthhcbfngjmiigaaGreatDoor
