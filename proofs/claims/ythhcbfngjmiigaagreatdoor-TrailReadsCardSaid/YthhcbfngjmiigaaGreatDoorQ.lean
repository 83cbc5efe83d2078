import Derived.Test.YthhcbfngjmiigaaGreatDoorP
set_option linter.all false
namespace Go.Proofs.YthhcbfngjmiigaaGreatDoor
open Go Rx
theorem idx_none : ∀ (l : List UInt8), (32 : UInt8) ∉ l → Lib.index l [32] = -1 := by
  intro l
  induction l with
  | nil => intro _; rfl
  | cons b l ih =>
    intro h
    simp only [List.mem_cons, not_or] at h
    have := ih h.2
    unfold Lib.index
    rw [if_neg (by simp [List.isPrefixOf]; exact h.1), this]
    rfl
theorem idx_some : ∀ (l1 l2 : List UInt8), (32 : UInt8) ∉ l1 → Lib.index (l1 ++ 32 :: l2) [32] = (l1.length : Int) := by
  intro l1
  induction l1 with
  | nil => intro l2 _; rfl
  | cons b l ih =>
    intro l2 h
    simp only [List.mem_cons, not_or] at h
    have := ih l2 h.2
    rw [List.cons_append]
    unfold Lib.index
    rw [if_neg (by simp [List.isPrefixOf]; exact h.1), this, if_neg (by simp <;> omega)]
    simp
theorem parts_miss {t : ByteArray} (h : Lib.indexB t sp = -1) : parts t = [t] := by
  unfold parts
  exact Lib.splitB_miss _ _ _ _ h
theorem parts_hit {t : ByteArray} {i : Nat} (h : Lib.indexB t sp = (i : Int)) : parts t = t.extract 0 i :: parts (t.extract (i + 1) t.size) := by
  unfold parts
  rw [Lib.countB_hit t sp i (by decide) h, Nat.add_comm 1, Lib.splitB_hit _ _ _ _ _ h]
  rfl
theorem byteAt_32 {s : ByteArray} {i : Nat} : byteAt s i = 32 ↔ s.data.toList[i]? = some 32 := by
  unfold byteAt
  simp only [Int.toNat_natCast]
  cases h : s.data.toList[i]? with
  | none => simp
  | some b =>
    simp only [Option.some.injEq]
    constructor
    · intro hb
      have : b.toNat = 32 := by omega
      exact UInt8.toNat_inj.1 this
    · rintro rfl; rfl
theorem ext_toList (s : ByteArray) (a b : Nat) : (s.extract a b).data.toList = (s.data.toList.drop a).take (b - a) := by
  rw [Lib.extract_data]
theorem cutGo_parts (s : ByteArray) : ∀ n f i, n = s.size + 1 - i → f ≤ i → i ≤ s.size → (32 : UInt8) ∉ (s.data.toList.drop f).take (i - f) → cutGo s n f i = parts (s.extract f s.size) := by
  have hL : s.data.toList.length = s.size := by cases s; rfl
  intro n
  induction n with
  | zero => intro f i h1 h2 h3; omega
  | succ n ih =>
    intro f i hn hf hi hno
    unfold cutGo
    by_cases hb : i = s.size ∨ byteAt s i = 32
    · rw [if_pos hb]
      by_cases he : i = s.size
      · subst he
        have hmiss : Lib.indexB (s.extract f s.size) sp = -1 := by
          show Lib.index _ [32] = -1
          refine idx_none _ ?_
          rw [ext_toList]; exact hno
        rw [parts_miss hmiss]
        have : n = 0 := by omega
        subst this
        rfl
      · have h32 := byteAt_32.1 (hb.resolve_left he)
        have hil : i < s.data.toList.length := by omega
        have hi32 : s.data.toList[i] = 32 := by rw [List.getElem?_eq_getElem hil] at h32; simpa using h32
        have hsplit : (s.extract f s.size).data.toList = (s.data.toList.drop f).take (i - f) ++ 32 :: s.data.toList.drop (i + 1) := by
          rw [ext_toList, List.take_of_length_le (by simp <;> omega)]
          have h1 := (List.take_append_drop (i - f) (s.data.toList.drop f)).symm
          rw [List.drop_drop, show f + (i - f) = i by omega, List.drop_eq_getElem_cons hil, hi32] at h1
          exact h1
        have hhit : Lib.indexB (s.extract f s.size) sp = ((i - f : Nat) : Int) := by
          show Lib.index _ [32] = _
          rw [hsplit, idx_some _ _ hno]
          simp <;> omega
        rw [parts_hit hhit, ih (i + 1) (i + 1) (by omega) (Nat.le_refl _) (by omega) (by simp)]
        congr 1
        · rw [ByteArray.extract_extract]; congr 1 <;> omega
        · rw [ByteArray.extract_extract]; congr 2 <;> (try simp) <;> omega
    · rw [if_neg hb]
      have hb1 : i ≠ s.size := fun h => hb (.inl h)
      have hb2 : byteAt s i ≠ 32 := fun h => hb (.inr h)
      refine ih f (i + 1) (by omega) (by omega) (by omega) ?_
      have hil : i < s.data.toList.length := by omega
      rw [show i + 1 - f = (i - f) + 1 by omega, List.take_add_one, List.getElem?_drop, show f + (i - f) = i by omega, List.getElem?_eq_getElem hil]
      simp only [Option.toList_some, List.mem_append, List.mem_singleton, not_or]
      refine ⟨hno, fun h => hb2 (byteAt_32.2 ?_)⟩
      rw [List.getElem?_eq_getElem hil, ← h]
theorem cuts_parts (s : ByteArray) : cuts s = parts s := by
  unfold cuts
  rw [cutGo_parts s _ 0 0 (by omega) (Nat.le_refl _) (Nat.zero_le _) (by simp)]
  congr 1
  exact toList_inj (by rw [Go.ByteArray.toList_eq, Go.ByteArray.toList_eq, ext_toList]; simp; exact List.take_of_length_le (by cases s; exact Nat.le_refl _))
theorem read_ref (s : ByteArray) : readOk s ↔ refOk s := by
  unfold readOk refOk
  rw [cuts_parts]
  constructor
  · rintro ⟨h, b, v, xs, h1, h2⟩; exact ⟨h, b, v, xs, h1, (line_right _ _ _).1 h2⟩
  · rintro ⟨h, b, v, xs, h1, h2⟩; exact ⟨h, b, v, xs, h1, (line_right _ _ _).2 h2⟩
end Go.Proofs.YthhcbfngjmiigaaGreatDoor
