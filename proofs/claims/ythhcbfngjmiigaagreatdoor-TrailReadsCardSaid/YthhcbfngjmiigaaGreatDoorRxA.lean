/-
  RX A: slices that are owned, and append; what is known behind a call.
-/
import Derived.Test.YthhcbfngjmiigaaGreatDoorRx9
import Derived.Laws.Append
set_option linter.all false
set_option linter.unusedSimpArgs false
set_option linter.unusedSectionVars false
set_option linter.unusedVariables false
namespace Rx
open Go

/-- A slice whose block is its own, from the block's begin on: n elements in c places. -/
def ownS (e esz : Nat) (A : Option Addr) (n c : Nat) (xs : List Value) : Res where
  F b := c ≠ 0 ∧ A = some ⟨b, 0, none⟩
  P w := xs.length = n * esz ∧ n ≤ c ∧ c ≤ 9223372036854775807 ∧ (c = 0 ∨ ∃ g cur, A = some ⟨g, 0, none⟩ ∧ w.heap[g]? = some (.cells cur e (0, 0)) ∧ cur.size = c * esz ∧ cur.toList.take (n * esz) = xs)
  stay := by
    rintro w w' h ⟨h1, h2, h3, h4⟩
    refine ⟨h1, h2, h3, ?_⟩
    by_cases hc : c = 0
    · exact .inl hc
    · rcases h4 with h4 | ⟨g, cur, h5, h6, h7⟩
      · exact absurd h4 hc
      · exact .inr ⟨g, cur, h5, by rw [h g ⟨hc, h5⟩]; exact h6, h7⟩
theorem ownS_lt {e esz n c : Nat} {A : Option Addr} {xs : List Value} {w : World} (h : (ownS e esz A n c xs).P w) : ∀ x, (ownS e esz A n c xs).F x → x < w.heap.size := by
  rintro x ⟨hc, hA⟩
  obtain ⟨_, _, _, h4⟩ := h
  rcases h4 with h4 | ⟨g, cur, h5, h6, h7⟩
  · exact absurd h4 hc
  · rw [hA] at h5
    simp only [Option.some.injEq, Addr.mk.injEq] at h5
    rw [h5.1]
    exact (Array.getElem?_eq_some_iff.1 h6).1
theorem ownS_nil (e esz : Nat) (A : Option Addr) (w : World) : (ownS e esz A 0 0 []).P w := ⟨by simp, by omega, by omega, .inl rfl⟩
/-- What is appended: m elements, these cells. -/
structure Src (P : Program) (esz : Nat) (w : World) (x : Value) (m : Nat) (news : List Value) : Prop where
  len : (Builtin.lenOf x).run P w = .ok m w
  lens : ∀ w', (Builtin.lenOf x).run P w' = .ok m w'
  cells : ∀ w', w'.heap = w.heap → (Builtin.firstCells esz m x).run P w' = .ok news.toArray w'
  size : news.length = m * esz
  one : ∀ u ∈ news, u.oneCell' = true
theorem Src.slice {P : Program} {esz : Nat} {w : World} {ad : Addr} {m c : Nat} {news : List Value} (hl : news.length = m * esz) (h : ∀ j u, news[j]? = some u → w.cell? (ad.add j) = some u) (h1 : ∀ u ∈ news, u.oneCell' = true) : Src P esz w (.slice (some ad) m c) m news := by
  refine ⟨rfl, fun _ => rfl, fun w' hw => ?_, hl, h1⟩
  simp only [Builtin.firstCells, loadCells]
  rw [← hl, run_loadCellsAt news 0 #[] (fun j u hu => by rw [Nat.zero_add]; have := h j u hu; unfold World.cell? at this ⊢; rw [hw]; exact this)]
  simp
theorem Src.nil {P : Program} {esz : Nat} {w : World} {A : Option Addr} {c : Nat} : Src P esz w (.slice A 0 c) 0 [] := by
  refine ⟨rfl, fun _ => rfl, fun w' hw => ?_, by simp, by simp⟩
  cases A <;> simp [Builtin.firstCells, loadCells, loadCellsFrom]
theorem zeroCells_size (z : Array Value) (n : Nat) : (Builtin.zeroCells z n).size = n * z.size := by simp [Builtin.zeroCells]

theorem append_own {P : Program} {w : World} {t ty e : TypeId} {ti tis : TI} (ht : TFacts P t tis) (hts : tis.d = .slice e) (F : TFacts P e ti) {A : Option Addr} {n c m : Nat} {xs news : List Value} {x : Value}
    (ho : (ownS e ti.size A n c xs).P w) (hx : Src P ti.size w x m news) (hb : (n + m) * ti.bytes ≤ 140737488355328) (hn : n + m ≤ 9223372036854775807) :
    ∃ A' c' w', (Builtin.append_ #[t, t] ty #[.slice A n c, x]).run P w = .ok (.slice A' (n + m) c') w' ∧ (ownS e ti.size A' (n + m) c' (xs ++ news)).P w' ∧ Kept (ownS e ti.size A n c xs).F w w' ∧
      (∀ b, (ownS e ti.size A' (n + m) c' (xs ++ news)).F b → ((ownS e ti.size A n c xs).F b ∨ w.heap.size ≤ b) ∧ b < w'.heap.size) ∧ (0 < n + m → A' ≠ none) ∧ (n + m ≤ c → A' = A ∧ c' = c) ∧ (c < n + m → Pure0 w w') := by
  obtain ⟨i, z, hi, hi1, hi2, hz, hz1, hz2, hz3⟩ := F.info
  obtain ⟨o1, o2, o3, o4⟩ := id ho
  have hinfo : (typeInfo e).run P w = .ok i w := by simp [typeInfo, hi]
  by_cases hroom : n + m ≤ c
  · -- there is room
    have hlen : (xs ++ news).length = (n + m) * ti.size := by rw [List.length_append, o1, hx.size, Nat.add_mul]
    have hd : (Builtin.append_ #[t, t] ty #[.slice A n c, x]).run P w = ((match A with | some a => storeCells (a.add (n * ti.size)) news 0 | none => pure ()).run P w).andThen fun _ w' => .ok (.slice A (n + m) c) w' := by
      simp only [Builtin.append_, Sem.run_bind, List.getElem?_toArray, List.getElem?_cons_zero, List.getElem?_cons_succ, Array.getElem?_eq_getElem, ht.run_und, hts, Result.andThen_ok, F.run_size, Sem.run_pure]
      simp [ht.run_und, hts, F.run_size, hx.len, hroom, hx.cells w rfl]
      cases A with
      | none => rfl
      | some a => simp only [Sem.run_map]
    by_cases hm : news = []
    · subst hm
      have hm0 : m * ti.size = 0 := by have := hx.size; simp at this; omega
      refine ⟨A, c, w, ?_, ⟨by simpa using hlen, hroom, o3, ?_⟩, Kept.refl _ _, ?_, ?_, fun _ => ⟨rfl, rfl⟩, fun h => by omega⟩
      · rw [hd]; cases A <;> rfl
      · rcases o4 with h | ⟨g, cur, h5, h6, h7, h8⟩
        · exact .inl h
        · exact .inr ⟨g, cur, h5, h6, h7, by rw [Nat.add_mul, hm0, Nat.add_zero, h8, List.append_nil]⟩
      · rintro b ⟨h1, h2⟩
        exact ⟨.inl ⟨h1, h2⟩, ownS_lt ho b ⟨h1, h2⟩⟩
      · intro hpos
        rcases o4 with h | ⟨g, cur, h5, _⟩
        · omega
        · rw [h5]; simp
    · rcases o4 with h | ⟨g, cur, h5, h6, h7, h8⟩
      · exfalso
        have : m = 0 := by omega
        have h0 := hx.size
        rw [this, Nat.zero_mul] at h0
        exact hm (List.eq_nil_of_length_eq_zero h0)
      · subst h5
        have hfit : n * ti.size + 0 + news.length ≤ cur.size := by rw [hx.size, h7, Nat.add_zero, ← Nat.add_mul]; exact Nat.mul_le_mul_right _ hroom
        obtain ⟨w', hr, hw⟩ := run_storeCells (P := P) g (n * ti.size) e news 0 cur w h6 hx.one hfit
        have hc0 : c ≠ 0 := by
          intro h0
          have hn0 : n + m = 0 := by omega
          have : news.length = 0 := by rw [hx.size]; have : m = 0 := by omega
                                       rw [this]; simp
          exact hm (List.eq_nil_of_length_eq_zero this)
        refine ⟨some ⟨g, 0, none⟩, c, w', ?_, ⟨hlen, hroom, o3, .inr ⟨g, _, rfl, hw.here, ?_, ?_⟩⟩, ⟨hw.os, hw.tape, hw.output, Nat.le_of_eq hw.size.symm, fun b _ hb => hw.block b fun e => hb ⟨hc0, by rw [e]⟩⟩, ?_, by simp, fun _ => ⟨rfl, rfl⟩, fun h => by omega⟩
        · rw [hd]
          simp only [addr_add, Nat.zero_add]
          rw [hr]; rfl
        · have hfit' : n * ti.size + news.length ≤ cur.toList.length := by simpa using hfit
          simp only [List.size_toArray, Nat.add_zero]
          rw [splice_length _ _ _ hfit']
          simpa using h7
        · have hfit' : n * ti.size + news.length ≤ cur.toList.length := by simpa using hfit
          simp only [Nat.add_zero, splice]
          rw [h8, ← hlen]
          exact List.take_left
        · rintro b ⟨h1, h2⟩
          refine ⟨.inl ⟨h1, h2⟩, ?_⟩
          simp only [Option.some.injEq, Addr.mk.injEq] at h2
          rw [← h2.1, hw.size]
          exact (Array.getElem?_eq_some_iff.1 h6).1
  · -- a new block
    have hgt : c < n + m := by omega
    have hfits : ¬ 281474976710656 < Builtin.nextslicecap (n + m) c * ti.bytes := by have := growslice_fits hgt hb; omega
    have hnew : ∀ w', w'.heap = w.heap → (Builtin.firstCells ti.size n (.slice A n c)).run P w' = .ok xs.toArray w' := by
      intro w' hw'
      rcases o4 with h | ⟨g, cur, h5, h6, h7, h8⟩
      · have hn0 : n = 0 := by omega
        subst hn0
        have : xs = [] := List.eq_nil_of_length_eq_zero (by simpa using o1)
        subst this
        cases A <;> simp [Builtin.firstCells, loadCells, loadCellsFrom]
      · subst h5
        have hle : 0 + n * ti.size ≤ cur.size := by rw [h7, Nat.zero_add]; exact Nat.mul_le_mul_right _ o2
        simp only [Builtin.firstCells]
        rw [run_loadCells (t := e) (fr := (0, 0)) (arr := cur) (by rw [hw']; exact h6) 0 _ hle]
        simp [h8]
    have hi64 : ¬ (((n + m : Nat) : Int) > IntKind.i64.max ∧ ti.bytes = 0) := by
      have : IntKind.i64.max = 9223372036854775807 := rfl
      omega
    generalize hcap : (Question.appendCap (n + m) c e).cut (w.tape w.drawn (.appendCap (n + m) c e)) = c'
    have hc1 : n + m ≤ c' ∧ c' ≤ 9223372036854775807 := by
      rw [← hcap]
      simp only [Question.cut]
      by_cases heq : n + m = 9223372036854775807
      · rw [heq]; simp [Nat.mod_one]
      · have := Nat.mod_lt (w.tape w.drawn (.appendCap (n + m) c e)) (show 0 < 2 ^ 63 - (n + m) by omega)
        omega
    have hzc : (Builtin.zeroCells z.cells (c' - (n + m))).size = (c' - (n + m)) * ti.size := by rw [zeroCells_size, hz2, hi1]
    refine ⟨some ⟨w.heap.size, 0, none⟩, c', w.drew.alloc (.cells (xs.toArray ++ news.toArray ++ Builtin.zeroCells z.cells (c' - (n + m))) e), ?_, ⟨?_, hc1.1, hc1.2, .inr ⟨w.heap.size, _, rfl, heap_alloc_here w.drew _, ?_, ?_⟩⟩, ?_, ?_, by simp, fun h => absurd h hroom, fun _ => ((Kept.refl _ w).trans (N := fun _ => False) (Pure0.drew w) (fun _ _ h => h.elim)).push _⟩
    · have e1 := hnew w.drew rfl
      have e2 := hx.cells w.drew rfl
      have hmarks : ∀ w1 : World, (askRoom (c' * i.bytes)).run P w1 = .ok () w1 := fun w1 => run_askRoom P w1 _
      have hzr : (zeroValue e).run P w.drew = .ok z w.drew := by simp [zeroValue, typeInfo, hi, hz]
      have hti : ∀ w1 : World, (typeInfo e).run P w1 = .ok i w1 := fun w1 => by simp [typeInfo, hi]
      have hch : (choose (.appendCap (n + m) c e)).run P w = .ok c' w.drew := by
        simp only [run_choose, Question.forced, Bool.false_eq_true, if_false, hcap]; rfl
      have hund : P.underlying t = some (.slice e) := by rw [ht.und, hts]
      have h63' : ((n + m : Nat) : Int) ≤ IntKind.i64.max := by
        have : IntKind.i64.max = 9223372036854775807 := rfl
        omega
      have h63 : ¬ IntKind.i64.max < (n : Int) + (m : Int) := by omega
      rw [hi2] at hmarks
      simp [Builtin.append_, underlying, hund, Go.sizeOf, typeInfo, hi, hi1, hi2, hx.len, hroom, h63, hfits, -run_choose, hch, hmarks, e1, e2, zeroValue, hz, newRow, World.alloc_eq]
      rw [if_neg (by omega), ← Array.append_assoc, show xs.toArray ++ news.toArray = (xs ++ news).toArray from by simp]
    · rw [List.length_append, o1, hx.size, Nat.add_mul]
    · simp only [Array.size_append, List.size_toArray, hzc, o1, hx.size, ← Nat.add_mul]
      congr 1
      omega
    · simp only [Array.toList_append, List.append_assoc]
      rw [← List.append_assoc, show (n + m) * ti.size = (xs ++ news).length from by rw [List.length_append, o1, hx.size, Nat.add_mul]]
      exact List.take_left
    · exact ((Kept.refl _ w).trans (N := fun _ => False) (Pure0.drew w) (fun _ _ h => h.elim)).push _
    · rintro b ⟨h1, h2⟩
      simp only [Option.some.injEq, Addr.mk.injEq] at h2
      rw [← h2.1, heap_alloc_size]
      exact ⟨.inr (Nat.le_refl _), Nat.lt_succ_self _⟩
end Rx
