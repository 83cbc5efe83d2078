import Derived.Test.YthhcbfngjmiigaaGreatDoorQ
set_option linter.all false
namespace Go.Proofs.YthhcbfngjmiigaaGreatDoor
open Go Rx
def plainW (x : ByteArray) : Prop := (32 : UInt8) ∉ x.data.toList
theorem ba_len (x : ByteArray) : x.data.toList.length = x.size := by cases x; rfl
theorem inj_data {x y : ByteArray} (h : x.data.toList = y.data.toList) : x = y := toList_inj (by rw [Go.ByteArray.toList_eq, Go.ByteArray.toList_eq]; exact h)
theorem parts_one {x : ByteArray} (h : plainW x) : parts x = [x] := parts_miss (idx_none _ h)
theorem parts_cons {x t : ByteArray} (h : plainW x) : parts (x ++ sp ++ t) = x :: parts t := by
  have hd : (x ++ sp ++ t).data.toList = x.data.toList ++ 32 :: t.data.toList := by simp [sp]
  have hhit : Lib.indexB (x ++ sp ++ t) sp = (x.size : Int) := by
    show Lib.index _ [32] = _
    rw [hd, idx_some _ _ h, ba_len]
  rw [parts_hit hhit]
  congr 1
  · apply inj_data
    rw [ext_toList, hd, List.drop_zero, Nat.sub_zero, ← ba_len]
    exact List.take_left
  · congr 1
    apply inj_data
    rw [ext_toList, hd, ← ba_len x, List.drop_append]
    rw [List.drop_of_length_le (by omega), List.nil_append, show x.data.toList.length + 1 - x.data.toList.length = 1 by omega, List.drop_one, List.tail_cons]
    refine List.take_of_length_le ?_
    rw [← ba_len, hd]
    simp
    omega
def joinR : ByteArray → List ByteArray → ByteArray
  | x, [] => x
  | x, y :: l => x ++ sp ++ joinR y l
theorem joinR_glue (x y : ByteArray) (l : List ByteArray) : joinR (glue x y) l = x ++ sp ++ joinR y l := by
  cases l with
  | nil => rfl
  | cons z l => simp [joinR, glue, ByteArray.append_assoc]
theorem fold_joinR : ∀ (l : List ByteArray) (x : ByteArray), l.foldl glue x = joinR x l := by
  intro l
  induction l with
  | nil => intro x; rfl
  | cons y l ih => intro x; rw [List.foldl_cons, ih, joinR_glue]; rfl
theorem parts_joinR : ∀ (l : List ByteArray) (x : ByteArray), plainW x → (∀ y ∈ l, plainW y) → parts (joinR x l) = x :: l := by
  intro l
  induction l with
  | nil => intro x h _; exact parts_one h
  | cons y l ih =>
    intro x h hl
    show parts (x ++ sp ++ joinR y l) = _
    rw [parts_cons h, ih y (hl y (by simp)) (fun z hz => hl z (by simp [hz]))]
theorem parts_joined {b v : ByteArray} {xs : List ByteArray} (hb : plainW b) (hv : plainW v) (hx : ∀ x ∈ xs, plainW x) : parts (joined b v xs) = b :: v :: xs := by
  have : joined b v xs = joinR b (v :: xs) := by rw [← fold_joinR]; rfl
  rw [this]
  exact parts_joinR _ _ hb (by intro y hy; rcases List.mem_cons.1 hy with rfl | h; exact hv; exact hx y h)
theorem plain_of {x : ByteArray} (h : ∀ i, i < x.size → byteAt x i ≠ 32) : plainW x := by
  intro hm
  obtain ⟨i, hi, he⟩ := List.getElem_of_mem hm
  refine h i (by rw [← ba_len]; exact hi) (byteAt_32.2 ?_)
  rw [List.getElem?_eq_getElem hi, he]
theorem word_plain {x : ByteArray} (h : wordOk x) : plainW x := plain_of fun i hi => by have := (h.1 i hi).1; omega
theorem role_plain {x : ByteArray} (h : roleOk x) : plainW x := plain_of fun i hi => by have := (h.1 i hi).1; omega
theorem verb_plain {v : ByteArray} (h : (findV v).isSome = true) : plainW v := by
  obtain ⟨x, hx⟩ := Option.isSome_iff_exists.1 h
  have hm : x ∈ verbTab := List.mem_of_find?_eq_some hx
  have hn : x.1 = v := by simpa using List.find?_some hx
  have : ∀ y ∈ verbTab, (32 : UInt8) ∉ y.1.data.toList := by decide
  rw [← hn]; exact this x hm
/-- What was written is read again. -/
theorem read_line {b v : ByteArray} {xs : List ByteArray} (h : rightOk b v xs) : readOk (joined b v xs) ∧ parts (joined b v xs) = b :: v :: xs := by
  have hp := parts_joined (role_plain h.1) (verb_plain h.2.1) fun x hx => word_plain (h.2.2.2.1 x hx)
  refine ⟨⟨?_, b, v, xs, hp, (line_right _ _ _).2 h⟩, hp⟩
  rw [joined_size]; exact h.2.2.2.2
end Go.Proofs.YthhcbfngjmiigaaGreatDoor
