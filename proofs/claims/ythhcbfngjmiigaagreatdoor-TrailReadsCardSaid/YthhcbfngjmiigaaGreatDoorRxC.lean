/-
  RX C: rows of strings, small laws.
-/
import Derived.Test.YthhcbfngjmiigaaGreatDoorRxB
import Derived.Laws.Strings
set_option linter.all false
set_option linter.unusedSimpArgs false
set_option linter.unusedSectionVars false
set_option linter.unusedVariables false
namespace Rx
open Go
theorem toList_inj {x y : ByteArray} (h : x.toList = y.toList) : x = y := by
  rw [Go.ByteArray.toList_eq, Go.ByteArray.toList_eq] at h
  exact ByteArray.ext (Array.toList_inj.1 h)
@[simp] theorem toList_beq (x y : ByteArray) : (x.toList == y.toList) = decide (x = y) := by
  by_cases h : x = y
  · subst h; simp
  · rw [decide_eq_false h]
    cases hb : x.toList == y.toList with
    | false => rfl
    | true => exact absurd (toList_inj (by simpa using hb)) h
def strArr (A : Option Addr) (xs : List ByteArray) : Arr := ⟨A, 1, xs.map fun s => [.string s]⟩
def Lies (A : Arr) (w : World) : Prop := A.res.P w ∧ ∀ x, A.res.F x → x < w.heap.size
theorem strArr_shape (A : Option Addr) (xs : List ByteArray) : ∀ e ∈ (strArr A xs).el, shapeOk [.str] e := by
  intro e he
  simp only [strArr, List.mem_map] at he
  obtain ⟨s, _, rfl⟩ := he
  exact ⟨⟨s, rfl⟩, trivial⟩
@[simp] theorem strArr_el (A : Option Addr) (xs : List ByteArray) : (strArr A xs).el = xs.map fun s => [.string s] := rfl
@[simp] theorem strArr_a (A : Option Addr) (xs : List ByteArray) : (strArr A xs).a = A := rfl
@[simp] theorem strArr_esz (A : Option Addr) (xs : List ByteArray) : (strArr A xs).esz = 1 := rfl
theorem Lies.mono {A : Arr} {w w' : World} {M : Nat → Prop} (h : Lies A w) (hk : Kept M w w') (hM : ∀ x, A.res.F x → ¬ M x) : Lies A w' :=
  ⟨A.res.stay w w' (fun b hb => hk.block b (h.2 b hb) (hM b hb)) h.1, fun x hx => Nat.lt_of_lt_of_le (h.2 x hx) hk.size⟩
theorem Lies.pure {A : Arr} {w w' : World} (h : Lies A w) (hk : Pure0 w w') : Lies A w' := h.mono hk fun _ _ h => h
@[simp] theorem addr_add_zero (a : Addr) : a.add 0 = a := by unfold Addr.add; split <;> simp_all
attribute [simp] strV intV boolV shapeOk CK.ok St.put
end Rx
