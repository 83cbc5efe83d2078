/-
  RX 8: a region whose order is open: one order stands for all.
-/
import Derived.Test.YthhcbfngjmiigaaGreatDoorRx7
import Derived.Orders
set_option linter.all false
set_option linter.unusedSimpArgs false
set_option linter.unusedSectionVars false
set_option linter.unusedVariables false
namespace Rx
open Go

def depsL (o : Oper) : List Nat := (o.after.toList.filter (fun e => Region.binds .any e)).map (·.on)
def up (S : Nat → Bool) (i : Nat) : Nat → Bool := fun j => if j = i then true else S j
/-- A list of all operations that are left, in an order that the edges allow. -/
inductive Lin (ops : Array Oper) (D : Nat → List Nat) : (Nat → Bool) → List Nat → Prop
  | nil (S : Nat → Bool) : (∀ i, i < ops.size → S i = true) → Lin ops D S []
  | cons (S : Nat → Bool) (i : Nat) (o : Oper) (l : List Nat) : ops[i]? = some o → S i = false → (∀ d ∈ D i, S d = true) → Lin ops D (up S i) l → Lin ops D S (i :: l)
def depsOf (ops : Array Oper) (i : Nat) : List Nat := match ops[i]? with | some o => depsL o | none => []

def backward (ops : Array Oper) : Bool := (ops.toList.zipIdx).all fun p => (depsL p.1).all (fun d => decide (d < p.2))
theorem backward_spec {ops : Array Oper} (h : backward ops = true) {i : Nat} {o : Oper} (ho : ops[i]? = some o) : ∀ d ∈ depsL o, d < i := by
  intro d hd
  unfold backward at h
  rw [List.all_eq_true] at h
  have hm : (o, i) ∈ ops.toList.zipIdx := by
    rw [List.mem_zipIdx_iff_getElem?]; simpa using ho
  have := h _ hm
  rw [List.all_eq_true] at this
  simpa using this d hd

theorem exists_ready {ops : Array Oper} (h : backward ops = true) (S : Nat → Bool) : (∃ i, i < ops.size ∧ S i = false) → ∃ i o, ops[i]? = some o ∧ S i = false ∧ ∀ d ∈ depsL o, S d = true := by
  rintro ⟨i, hi, hs⟩
  induction i using Nat.strongRecOn with
  | _ i ih =>
    have ho : ops[i]? = some ops[i] := Array.getElem?_eq_getElem hi
    by_cases hd : ∀ d ∈ depsL ops[i], S d = true
    · exact ⟨i, _, ho, hs, hd⟩
    · have : ∃ d, d ∈ depsL ops[i] ∧ S d = false := by
        apply Classical.byContradiction
        intro hc
        refine hd fun d hdd => ?_
        cases hb : S d
        · exact absurd ⟨d, hdd, hb⟩ hc
        · rfl
      obtain ⟨d, hd1, hd2⟩ := this
      have hlt := backward_spec h ho d hd1
      exact ih d hlt (by omega) hd2

def cnt (n : Nat) (S : Nat → Bool) : Nat := ((List.range n).filter fun i => !S i).length
theorem cnt_up {n : Nat} {S : Nat → Bool} {i : Nat} (hi : i < n) (hs : S i = false) : cnt n (up S i) + 1 = cnt n S := by
  unfold cnt
  have key : ∀ n, (i < n → ((List.range n).filter fun j => !up S i j).length + 1 = ((List.range n).filter fun j => !S j).length) ∧ (¬ i < n → ((List.range n).filter fun j => !up S i j).length = ((List.range n).filter fun j => !S j).length) := by
    intro n
    induction n with
    | zero => exact ⟨fun h => absurd h (by omega), fun _ => rfl⟩
    | succ n ih =>
      simp only [List.range_succ, List.filter_append, List.length_append]
      constructor
      · intro h
        by_cases he : i = n
        · subst he
          have := ih.2 (by omega)
          rw [this]
          simp [up, hs]
        · have := ih.1 (by omega)
          have h2 : (List.filter (fun j => !up S i j) [n]) = List.filter (fun j => !S j) [n] := by
            simp only [List.filter_cons, List.filter_nil, up, if_neg (show ¬ n = i from fun e => he e.symm)]
          rw [h2]; omega
      · intro h
        have := ih.2 (by omega)
        have h2 : (List.filter (fun j => !up S i j) [n]) = List.filter (fun j => !S j) [n] := by
          simp only [List.filter_cons, List.filter_nil, up, if_neg (show ¬ n = i from by omega)]
        rw [h2, this]
  exact (key n).1 hi
theorem cnt_zero {n : Nat} {S : Nat → Bool} (h : cnt n S = 0) : ∀ i, i < n → S i = true := by
  intro i hi
  unfold cnt at h
  have := List.length_eq_zero_iff.1 h
  rw [List.filter_eq_nil_iff] at this
  have := this i (List.mem_range.2 hi)
  simpa using this

theorem linGo {ops : Array Oper} (hb : backward ops = true) : ∀ (fuel t : Nat) (listed : Array Bool), listed.size = ops.size → cnt ops.size (fun i => listed.getD i true) = fuel →
    Lin ops (depsOf ops) (fun i => listed.getD i true) (Region.linearise.go .any ops fuel t listed []) := by
  intro fuel
  induction fuel with
  | zero => intro t listed _ hc; exact .nil _ (cnt_zero hc)
  | succ fuel ih =>
    intro t listed hsz hc
    have hex : ∃ i, i < ops.size ∧ listed.getD i true = false := by
      unfold cnt at hc
      have hne : ((List.range ops.size).filter fun i => !listed.getD i true) ≠ [] := by intro h; rw [h] at hc; cases hc
      obtain ⟨i, hi⟩ := List.exists_mem_of_ne_nil _ hne
      rw [List.mem_filter] at hi
      exact ⟨i, List.mem_range.1 hi.1, by simpa using hi.2⟩
    obtain ⟨i0, o0, ho0, hs0, hd0⟩ := exists_ready hb _ hex
    have hready : i0 ∈ Region.ready .any ops listed := by
      unfold Region.ready
      rw [List.mem_filter]
      refine ⟨List.mem_range.2 (Array.getElem?_eq_some_iff.1 ho0).1, ?_⟩
      simp only [ho0, Option.map_some, Option.getD_some, hs0, Bool.not_false, Bool.true_and]
      rw [Array.all_eq_true']
      intro e he
      by_cases hbn : Region.binds .any e = true
      · have := hd0 e.on (by unfold depsL; rw [List.mem_map]; exact ⟨e, by rw [List.mem_filter]; exact ⟨by simpa using he, hbn⟩, rfl⟩)
        have hlt := backward_spec hb ho0 e.on (by unfold depsL; rw [List.mem_map]; exact ⟨e, by rw [List.mem_filter]; exact ⟨by simpa using he, hbn⟩, rfl⟩)
        have hi0 := (Array.getElem?_eq_some_iff.1 ho0).1
        simp only [Bool.or_eq_true]
        right
        rw [Array.getD_eq_getD_getElem?] at this ⊢
        rw [Array.getElem?_eq_getElem (by omega : e.on < listed.size)] at this ⊢
        exact this
      · simp [hbn]
    simp only [Region.linearise.go]
    change Lin ops (depsOf ops) _ (match (Region.ready .any ops listed)[t % (Region.ready .any ops listed).length]? with
      | some i => Region.linearise.go .any ops fuel (t / (Region.ready .any ops listed).length) (listed.setIfInBounds i true) [i]
      | none => [].reverse)
    have hlen : 0 < (Region.ready .any ops listed).length := List.length_pos_of_mem hready
    have hlt : t % (Region.ready .any ops listed).length < (Region.ready .any ops listed).length := Nat.mod_lt _ hlen
    rw [List.getElem?_eq_getElem hlt]
    simp only []
    generalize hi : (Region.ready .any ops listed)[t % (Region.ready .any ops listed).length] = i
    have hmem : i ∈ Region.ready .any ops listed := hi ▸ List.getElem_mem hlt
    rw [linearise_go_acc, List.reverse_singleton, List.singleton_append]
    unfold Region.ready at hmem
    rw [List.mem_filter] at hmem
    obtain ⟨hr, hp⟩ := hmem
    have hin := List.mem_range.1 hr
    have ho : ops[i]? = some ops[i] := Array.getElem?_eq_getElem hin
    simp only [ho, Option.map_some, Option.getD_some, Bool.and_eq_true, Bool.not_eq_true'] at hp
    obtain ⟨hp1, hp2⟩ := hp
    rw [Array.all_eq_true'] at hp2
    have hup : (fun j => (listed.setIfInBounds i true).getD j true) = up (fun j => listed.getD j true) i := by
      funext j
      unfold up
      by_cases hj : j = i
      · subst hj
        simp [Array.getD_eq_getD_getElem?]
      · rw [if_neg hj]
        simp only [Array.getD_eq_getD_getElem?]
        rw [Array.getElem?_setIfInBounds_ne (fun e => hj e.symm)]
    refine .cons _ i _ _ ho hp1 ?_ ?_
    · intro d hd
      simp only [depsOf, ho] at hd
      unfold depsL at hd
      rw [List.mem_map] at hd
      obtain ⟨e, he, rfl⟩ := hd
      rw [List.mem_filter] at he
      have := hp2 e (by simpa using he.1)
      simp only [he.2, Bool.not_true, Bool.false_or] at this
      rw [Array.getD_eq_getD_getElem?] at this ⊢
      cases hx : listed[e.on]? with
      | none => rfl
      | some b => rw [hx] at this; simpa using this
    · rw [← hup]
      refine ih _ _ (by simp [hsz]) ?_
      rw [hup]
      have := cnt_up (S := fun j => listed.getD j true) hin hp1
      omega
theorem lin_start {ops : Array Oper} (hb : backward ops = true) (t : Nat) : Lin ops (depsOf ops) (fun i => (Array.replicate ops.size false).getD i true) (Region.linearise .any ops t) := by
  refine linGo hb ops.size t _ (by simp) ?_
  unfold cnt
  have : ((List.range ops.size).filter fun i => !(Array.replicate ops.size false).getD i true) = List.range ops.size := by
    rw [List.filter_eq_self]
    intro i hi
    simp [Array.getD_eq_getD_getElem?, List.mem_range.1 hi]
  rw [this]; simp

/-- One more edge: i behind j. -/
def ext (D : Nat → List Nat) (i j : Nat) : Nat → List Nat := fun n => if n = i then j :: D n else D n
theorem Lin.ext_done {ops : Array Oper} {D : Nat → List Nat} {S : Nat → Bool} {l : List Nat} (h : Lin ops D S l) {i j : Nat} (hj : S j = true) : Lin ops (ext D i j) S l := by
  induction h with
  | nil S h => exact .nil S h
  | cons S n o l ho hs hd _ ih =>
    refine .cons S n o l ho hs ?_ (ih (by unfold up; split; rfl; exact hj))
    intro d hdd
    unfold ext at hdd
    split at hdd
    · rcases List.mem_cons.1 hdd with rfl | h
      · exact hj
      · exact hd d h
    · exact hd d hdd
theorem Lin.split {ops : Array Oper} {D : Nat → List Nat} {S : Nat → Bool} {l : List Nat} (h : Lin ops D S l) {i j : Nat} (hij : i ≠ j) (hi : i < ops.size) (hsi : S i = false) (hsj : S j = false) : Lin ops (ext D i j) S l ∨ Lin ops (ext D j i) S l := by
  induction h with
  | nil S h => have := h i hi; rw [hsi] at this; cases this
  | cons S n o l ho hs hd hl ih =>
    by_cases hni : n = i
    · subst hni
      right
      refine .cons S n o l ho hs ?_ (hl.ext_done (by unfold up; simp))
      intro d hdd
      unfold ext at hdd
      rw [if_neg hij] at hdd
      exact hd d hdd
    · by_cases hnj : n = j
      · subst hnj
        left
        refine .cons S n o l ho hs ?_ (hl.ext_done (by unfold up; simp))
        intro d hdd
        unfold ext at hdd
        rw [if_neg hni] at hdd
        exact hd d hdd
      · have h1 : up S n i = false := by unfold up; rw [if_neg (fun e => hni e.symm)]; exact hsi
        have h2 : up S n j = false := by unfold up; rw [if_neg (fun e => hnj e.symm)]; exact hsj
        rcases ih h1 h2 with h | h
        · left
          refine .cons S n o l ho hs ?_ h
          intro d hdd
          unfold ext at hdd
          rw [if_neg hni] at hdd
          exact hd d hdd
        · right
          refine .cons S n o l ho hs ?_ h
          intro d hdd
          unfold ext at hdd
          rw [if_neg hnj] at hdd
          exact hd d hdd

/-! ### quiet operations and the chain of the others -/
/-- All others come ahead of it. -/
def domB (ops : Array Oper) (i : Nat) : Bool := (List.range ops.size).all fun j => j == i || (depsOf ops i).contains j || (depsOf ops i).any fun d => (depsOf ops d).contains j
/-- One order: quiet operations (true) answer the same in every later world; the others go one behind the other. -/
def Rn (P : Program) (ops : Array Oper) (Q : Exit → Act → World → Prop) (M : Nat → Prop) : List (Nat × Bool) → Act → World → Prop
  | [], a, w => Q .normal a w
  | (i, q) :: l, a, w => match ops[i]? with
    | none => False
    | some o =>
      if Region.wanted o (yielded ops a.tmps) = true then
        (if q = true then ∃ v, (∀ w', Fr M w w' → (execOp a.eval o).run P w' = .ok (.value v) w') ∧ Rn P ops Q M l (a.put o.dst v) w
         else o.wp P a w (fun a' w' => a'.defers = a.defers ∧ (domB ops i = true ∨ Fr M w w') ∧ Rn P ops Q M l a' w') (fun _ _ _ => False))
      else Rn P ops Q M l (a.put o.dst undef) w

def tdeps (ops : Array Oper) : List (List Nat) :=
  ops.toList.foldl (fun acc o => acc ++ [(depsL o ++ (depsL o).flatMap fun d => acc.getD d []).eraseDups]) []
/-- What a table of all that an operation hangs on must be. -/
def tabOk (ops : Array Oper) (T : List (List Nat)) : Bool :=
  (ops.toList.zipIdx).all fun p => (depsL p.1).all (fun d => (T.getD p.2 []).contains d) &&
    (T.getD p.2 []).all fun j => (depsL p.1).any fun d => d == j || (T.getD d []).contains j
def looksOf (ops : Array Oper) (o : Oper) : List Tmp := o.looksAt ops
def apartB (ops : Array Oper) (T : List (List Nat)) : Bool :=
  (ops.toList.zipIdx).all fun p => (ops.toList.zipIdx).all fun q =>
    p.2 == q.2 || (match p.1.dst, q.1.dst with | some d, some e => d != e | _, _ => true) &&
      ((T.getD q.2 []).contains p.2 || (T.getD p.2 []).contains q.2 || (match p.1.dst with | some d => !(q.1.looksAt ops).contains d | none => true))
def noStop (o : Oper) : Bool := match o.op with | .select _ _ => false | .defer _ => false | .call ⟨.builtin .recover, _, _⟩ => false | _ => true
def eagerOk (T : List (List Nat)) : List (Nat × Bool) → Bool
  | [] => true
  | (i, true) :: l => eagerOk T l
  | (i, false) :: l => l.all (fun p => (T.getD p.1 []).contains i) && eagerOk T l
def permOk (n : Nat) (e : List (Nat × Bool)) : Bool := e.length == n && (List.range n).all fun i => (e.map (·.1)).contains i
def orderOk (T : List (List Nat)) : List Nat → List (Nat × Bool) → Bool
  | _, [] => true
  | seen, (i, _) :: l => (T.getD i []).all (fun j => seen.contains j) && !seen.contains i && orderOk T (i :: seen) l
def drawOk (ops : Array Oper) (e : List (Nat × Bool)) : Bool :=
  backward ops && tabOk ops (tdeps ops) && apartB ops (tdeps ops) && ops.toList.all noStop && permOk ops.size e && orderOk (tdeps ops) [] e && eagerOk (tdeps ops) e

section
variable {P : Program} {ops : Array Oper} {Q : Exit → Act → World → Prop} {M : Nat → Prop} {T : List (List Nat)} {a0 : Act}
structure TFit (ops : Array Oper) (D : Nat → List Nat) (T : List (List Nat)) : Prop where
  back : ∃ rk : Nat → Nat, ∀ (i : Nat) (o : Oper), ops[i]? = some o → ∀ d ∈ D i, rk d < rk i ∧ d < ops.size
  t1 : ∀ (i : Nat) (o : Oper), ops[i]? = some o → ∀ d ∈ D i, d ∈ T.getD i []
  t2 : ∀ (i : Nat) (o : Oper), ops[i]? = some o → ∀ j ∈ T.getD i [], ∃ d ∈ D i, d = j ∨ j ∈ T.getD d []
  dst : ∀ (i : Nat) (o : Oper) (j : Nat) (p : Oper), ops[i]? = some o → ops[j]? = some p → i ≠ j → ∀ d, o.dst = some d → p.dst ≠ some d
  ap : ∀ (i : Nat) (o : Oper) (j : Nat) (p : Oper), ops[i]? = some o → ops[j]? = some p → i ≠ j → i ∈ T.getD j [] ∨ j ∈ T.getD i [] ∨ ∀ d, o.dst = some d → d ∉ p.looksAt ops
  stop : ∀ (i : Nat) (o : Oper), ops[i]? = some o → noStop o = true
def Cl (ops : Array Oper) (D : Nat → List Nat) (S : Nat → Bool) : Prop := ∀ i o, ops[i]? = some o → S i = true → ∀ d ∈ D i, S d = true
variable {D : Nat → List Nat}
theorem Cl.tab (F : TFit ops D T) {S : Nat → Bool} (h : Cl ops D S) : ∀ i o, ops[i]? = some o → S i = true → ∀ j ∈ T.getD i [], S j = true := by
  obtain ⟨rk, hrk⟩ := F.back
  have key : ∀ n i, rk i = n → ∀ o, ops[i]? = some o → S i = true → ∀ j ∈ T.getD i [], S j = true := by
    intro n
    induction n using Nat.strongRecOn with
    | _ n ih =>
      intro i hn o ho hs j hj
      obtain ⟨d, hd, h1⟩ := F.t2 i o ho j hj
      have hsd := h i o ho hs d hd
      rcases h1 with rfl | h1
      · exact hsd
      · obtain ⟨hlt, hds⟩ := hrk i o ho d hd
        exact ih (rk d) (by omega) d rfl _ (Array.getElem?_eq_getElem hds) hsd j h1
  exact fun i => key (rk i) i rfl
theorem TFit.lt (F : TFit ops D T) : ∀ i o, ops[i]? = some o → ∀ j ∈ T.getD i [], j < ops.size := by
  obtain ⟨rk, hrk⟩ := F.back
  have key : ∀ n i, rk i = n → ∀ o, ops[i]? = some o → ∀ j ∈ T.getD i [], j < ops.size := by
    intro n
    induction n using Nat.strongRecOn with
    | _ n ih =>
      intro i hn o ho j hj
      obtain ⟨d, hd, h1⟩ := F.t2 i o ho j hj
      obtain ⟨hlt, hds⟩ := hrk i o ho d hd
      rcases h1 with rfl | h1
      · exact hds
      · exact ih (rk d) (by omega) d rfl _ (Array.getElem?_eq_getElem hds) j h1
  exact fun i => key (rk i) i rfl
theorem Cl.tab0 (F : TFit ops D T) {S : Nat → Bool} (h : Cl ops D S) {i : Nat} {o : Oper} (ho : ops[i]? = some o) (hd : ∀ d ∈ D i, S d = true) : ∀ j ∈ T.getD i [], S j = true := by
  intro j hj
  obtain ⟨d, hd1, h1⟩ := F.t2 i o ho j hj
  rcases h1 with rfl | h1
  · exact hd _ hd1
  · obtain ⟨rk, hrk⟩ := F.back
    have hod : ops[d]? = some (ops[d]'(hrk i o ho d hd1).2) := Array.getElem?_eq_getElem (hrk i o ho d hd1).2
    exact h.tab F d _ hod (hd d hd1) j h1
theorem Cl.up {S : Nat → Bool} (h : Cl ops D S) {i : Nat} {o : Oper} (ho : ops[i]? = some o) (hd : ∀ d ∈ D i, S d = true) : Cl ops D (up S i) := by
  intro j p hp hs d hdd
  unfold Rx.up at hs ⊢
  split
  · rfl
  · by_cases hj : j = i
    · subst hj
      rw [ho] at hp; cases hp
      exact hd d hdd
    · rw [if_neg hj] at hs
      exact h j p hp hs d hdd
/-- The frame in which just the operations of S have been done. -/
structure IsAct (ops : Array Oper) (a0 : Act) (pv : Nat → Value) (S : Nat → Bool) (a : Act) : Prop where
  defers : a.defers = a0.defers
  size : a.tmps.size = a0.tmps.size
  done : ∀ j o, ops[j]? = some o → ∀ t, o.dst = some t → S j = true → t < a0.tmps.size → a.tmps[t]? = some (pv j)
  old : ∀ t, (∀ j o, ops[j]? = some o → o.dst = some t → S j = false) → a.tmps[t]? = a0.tmps[t]?
theorem IsAct.put (F : TFit ops D T) {pv : Nat → Value} {S : Nat → Bool} {a : Act} (h : IsAct ops a0 pv S a) {q : Nat} {o : Oper} (ho : ops[q]? = some o) (hq : S q = false) (v : Value) :
    IsAct ops a0 (fun j => if j = q then v else pv j) (up S q) (a.put o.dst v) where
  defers := by cases hd : o.dst <;> simp [Act.put, h.defers]
  size := by cases hd : o.dst <;> simp [Act.put, h.size]
  done := by
    intro j p hp t ht hs hlt
    by_cases hj : j = q
    · subst hj
      rw [ho] at hp; cases hp
      simp [Act.put, ht, h.size, hlt]
    · have hne := F.dst j p q o hp ho hj t ht
      have hs' : S j = true := by unfold up at hs; rw [if_neg hj] at hs; exact hs
      have := h.done j p hp t ht hs' hlt
      simp only [if_neg hj]
      cases hd : o.dst with
      | none => simpa [Act.put] using this
      | some d =>
        have hdt : d ≠ t := fun e => hne (by rw [hd, e])
        simp only [Act.put]
        rw [Array.getElem?_setIfInBounds_ne hdt]; exact this
  old := by
    intro t ht
    have h1 := h.old t (fun j p hp hd => by
      have := ht j p hp hd
      unfold up at this
      split at this
      · cases this
      · exact this)
    cases hd : o.dst with
    | none => simpa [Act.put] using h1
    | some d =>
      have hdt : d ≠ t := fun e => by
        have := ht q o ho (by rw [hd, e])
        simp [up] at this
      simp only [Act.put]
      rw [Array.getElem?_setIfInBounds_ne hdt]; exact h1
theorem IsAct.same {pv pv' : Nat → Value} {S : Nat → Bool} {a : Act} (h : IsAct ops a0 pv S a) (he : ∀ j, S j = true → pv j = pv' j) : IsAct ops a0 pv' S a :=
  ⟨h.defers, h.size, fun j o ho t ht hs hlt => by rw [← he j hs]; exact h.done j o ho t ht hs hlt, h.old⟩
theorem IsAct.ext {pv : Nat → Value} {S : Nat → Bool} {a b : Act} (ha : IsAct ops a0 pv S a) (hb : IsAct ops a0 pv S b) : a = b := by
  have h1 : a.tmps = b.tmps := by
    apply Array.ext_getElem?
    intro t
    by_cases hlt : t < a0.tmps.size
    · by_cases hex : ∃ j o, ops[j]? = some o ∧ o.dst = some t ∧ S j = true
      · obtain ⟨j, o, h1, h2, h3⟩ := hex
        rw [ha.done j o h1 t h2 h3 hlt, hb.done j o h1 t h2 h3 hlt]
      · have hno : ∀ j o, ops[j]? = some o → o.dst = some t → S j = false := by
          intro j o h1 h2
          cases hs : S j
          · rfl
          · exact absurd ⟨j, o, h1, h2, hs⟩ hex
        rw [ha.old t hno, hb.old t hno]
    · rw [Array.getElem?_eq_none (by rw [ha.size]; omega), Array.getElem?_eq_none (by rw [hb.size]; omega)]
  have h2 : a.defers = b.defers := ha.defers.trans hb.defers.symm
  cases a; cases b; simp_all
/-- What an operation looks at is as it must be. -/
def OnLooks (ops : Array Oper) (T : List (List Nat)) (a0 : Act) (pv : Nat → Value) (j : Nat) (o : Oper) (b : Act) : Prop :=
  ∀ t, t ∈ o.looksAt ops → (∀ m p, ops[m]? = some p → p.dst = some t → m ∈ T.getD j [] → t < a0.tmps.size → b.tmps[t]? = some (pv m)) ∧
    ((∀ m p, ops[m]? = some p → p.dst = some t → m ∉ T.getD j []) → b.tmps[t]? = a0.tmps[t]?) ∧ (a0.tmps.size ≤ t → b.tmps[t]? = none)
theorem IsAct.looks (F : TFit ops D T) {pv : Nat → Value} {S : Nat → Bool} {b : Act} (h : IsAct ops a0 pv S b) (hc : Cl ops D S) {j : Nat} {o : Oper} (ho : ops[j]? = some o) (hj : S j = false) (ht : ∀ m ∈ T.getD j [], S m = true) :
    OnLooks ops T a0 pv j o b := by
  intro t htl
  refine ⟨fun m p hp hd hm hlt => h.done m p hp t hd (ht m hm) hlt, fun hno => h.old t fun m p hp hd => ?_, fun hge => Array.getElem?_eq_none (by rw [h.size]; omega)⟩
  by_cases hmj : m = j
  · subst hmj; exact hj
  · rcases F.ap m p j o hp ho hmj with h1 | h1 | h1
    · exact absurd h1 (hno m p hp hd)
    · cases hs : S m
      · rfl
      · have := hc.tab F m p hp hs j h1
        rw [hj] at this; cases this
    · exact absurd htl (h1 t hd)
theorem OnLooks.eq {pv : Nat → Value} {j : Nat} {o : Oper} {b b' : Act} (h : OnLooks ops T a0 pv j o b) (h' : OnLooks ops T a0 pv j o b') : ∀ t ∈ o.looksAt ops, b.tmps[t]? = b'.tmps[t]? := by
  intro t ht
  obtain ⟨x1, x2, x3⟩ := h t ht
  obtain ⟨y1, y2, y3⟩ := h' t ht
  by_cases hlt : t < a0.tmps.size
  · by_cases hex : ∃ m p, ops[m]? = some p ∧ p.dst = some t ∧ m ∈ T.getD j []
    · obtain ⟨m, p, h1, h2, h3⟩ := hex
      rw [x1 m p h1 h2 h3 hlt, y1 m p h1 h2 h3 hlt]
    · have hno : ∀ m p, ops[m]? = some p → p.dst = some t → m ∉ T.getD j [] := fun m p h1 h2 h3 => hex ⟨m, p, h1, h2, h3⟩
      rw [x2 hno, y2 hno]
  · rw [x3 (Nat.le_of_not_lt hlt), y3 (Nat.le_of_not_lt hlt)]
theorem looks_exec {o : Oper} (hns : noStop o = true) {b b' : Act} (h : ∀ t ∈ o.looksAt ops, b.tmps[t]? = b'.tmps[t]?) : execOp b.eval o = execOp b'.eval o ∧ Region.wanted o (yielded ops b.tmps) = Region.wanted o (yielded ops b'.tmps) := by
  constructor
  · refine execOp_congr o (fun cs x e => by rw [noStop, e] at hns; cases hns) fun x hx => ?_
    cases x with
    | tmp t =>
      have ht : t ∈ o.looksAt ops := by
        unfold Oper.looksAt
        rw [List.mem_append]
        left
        rw [List.mem_filterMap]
        exact ⟨.tmp t, by simpa using hx, rfl⟩
      have := h t ht
      simp only [Act.eval, Array.getD_eq_getD_getElem?, this]
    | _ => rfl
  · unfold Region.wanted
    cases hg : o.guard with
    | none => rfl
    | some g =>
      obtain ⟨j, want⟩ := g
      simp only [yielded]
      cases hj : ops[j]? with
      | none => rfl
      | some p =>
        cases hd : p.dst with
        | none => simp [hd]
        | some d =>
          have ht : d ∈ o.looksAt ops := by
            unfold Oper.looksAt
            rw [List.mem_append]
            right
            simp [hg, hj, hd]
          simp only [Option.bind_some, hd, h d ht]
def QF (P : Program) (ops : Array Oper) (M : Nat → Prop) (T : List (List Nat)) (a0 : Act) (pv : Nat → Value) (j : Nat) (o : Oper) (w : World) : Prop :=
  ∀ b, OnLooks ops T a0 pv j o b → (Region.wanted o (yielded ops b.tmps) = true ∧ ∀ w', Fr M w w' → (execOp b.eval o).run P w' = .ok (.value (pv j)) w') ∨ (Region.wanted o (yielded ops b.tmps) = false ∧ pv j = undef)
def Ord (T : List (List Nat)) : (Nat → Bool) → List (Nat × Bool) → Prop
  | _, [] => True
  | R, (i, _) :: l => (∀ j ∈ T.getD i [], R j = true) ∧ R i = false ∧ Ord T (up R i) l
structure Stt (P : Program) (ops : Array Oper) (D : Nat → List Nat) (Q : Exit → Act → World → Prop) (M : Nat → Prop) (T : List (List Nat)) (a0 : Act) (S R : Nat → Bool) (e : List (Nat × Bool)) (pv : Nat → Value) (a b : Act) (w : World) : Prop where
  cS : Cl ops D S
  cR : Cl ops D R
  sub : ∀ i, i < ops.size → S i = true → R i = true
  left : ∀ i, i < ops.size → R i = false → i ∈ e.map (·.1)
  ord : Ord T R e
  eag : eagerOk T e = true
  ia : IsAct ops a0 pv R a
  ib : IsAct ops a0 pv S b
  rn : Rn P ops Q M e a w
  qf : ∀ j o, ops[j]? = some o → R j = true → S j = false → QF P ops M T a0 pv j o w
theorem OnLooks.upd {pv : Nat → Value} {j q : Nat} {o : Oper} {b : Act} {v : Value} (hq : q ∉ T.getD j []) : OnLooks ops T a0 (fun i => if i = q then v else pv i) j o b ↔ OnLooks ops T a0 pv j o b := by
  have key : ∀ m, m ∈ T.getD j [] → (fun i => if i = q then v else pv i) m = pv m := fun m hm => if_neg (fun e : m = q => hq (e ▸ hm))
  constructor <;> intro h t ht <;> obtain ⟨x1, x2, x3⟩ := h t ht
  · exact ⟨fun m p hp hd hm hlt => by rw [← key m hm]; exact x1 m p hp hd hm hlt, x2, x3⟩
  · exact ⟨fun m p hp hd hm hlt => by rw [key m hm]; exact x1 m p hp hd hm hlt, x2, x3⟩
theorem QF.upd {pv : Nat → Value} {j q : Nat} {o : Oper} {w w' : World} {v : Value} (h : QF P ops M T a0 pv j o w) (hq : q ∉ T.getD j []) (hjq : j ≠ q) (hf : Fr M w w') : QF P ops M T a0 (fun i => if i = q then v else pv i) j o w' := by
  intro b hb
  have := h b ((OnLooks.upd hq).1 hb)
  simp only [if_neg hjq]
  rcases this with ⟨h1, h2⟩ | h1
  · exact .inl ⟨h1, fun w2 hw2 => h2 w2 (hf.trans hw2)⟩
  · exact .inr h1

theorem wp_transport {o : Oper} {a b : Act} {w : World} {K K' : Act → World → Prop} (he : execOp a.eval o = execOp b.eval o) (h : o.wp P a w (fun a' w' => a'.defers = a.defers ∧ K a' w') (fun _ _ _ => False))
    (hk : ∀ v w', K (a.put o.dst v) w' → K' (b.put o.dst v) w') : o.wp P b w K' Q := by
  unfold Oper.wp at h ⊢
  rw [← he]
  cases hr : (execOp a.eval o).run P w with
  | ok x w' =>
    rw [hr] at h
    cases x with
    | value v => exact hk _ _ h.2
    | skip => exact hk _ _ h.2
    | enter f args =>
      refine Calls.mono h ?_
      intro e w'' he'
      cases e with
      | returned v => exact hk _ _ he'.2
      | panicked c => exact he'.elim
      | outgrown => obtain ⟨_, _, hf⟩ := he'; exact hf.elim
    | row r args => exact Rows.mono h fun v w'' he' => hk _ _ he'.2
    | defer d =>
      have := h.1
      exfalso
      cases hd : o.dst <;> simp [Act.put, hd] at this
    | _ => exact h.elim
  | halt x w' =>
    rw [hr] at h
    cases x with
    | panic v => exact h.elim
    | _ => exact h.elim

theorem process (F : TFit ops D T) {S : Nat → Bool} {b : Act} : ∀ {pre rest : List (Nat × Bool)} {R : Nat → Bool} {pv : Nat → Value} {a : Act} {w : World}, (∀ p ∈ pre, p.2 = true) →
    Stt P ops D Q M T a0 S R (pre ++ rest) pv a b w → ∃ R' pv' a', Stt P ops D Q M T a0 S R' rest pv' a' b w ∧ (∀ i, R' i = true ↔ (R i = true ∨ i ∈ pre.map (·.1))) := by
  intro pre
  induction pre with
  | nil => intro rest R pv a w _ hs; exact ⟨R, pv, a, hs, by simp⟩
  | cons p pre ih =>
    obtain ⟨q, kind⟩ := p
    intro rest R pv a w hall hs
    have hkind : kind = true := hall (q, kind) (List.mem_cons_self ..)
    subst hkind
    obtain ⟨cS, cR, sub, left, ord, eag, ia, ib, rn, qf⟩ := hs
    simp only [List.cons_append] at left ord eag rn
    obtain ⟨od1, od2, od3⟩ := ord
    simp only [Rn] at rn
    cases ho : ops[q]? with
    | none => rw [ho] at rn; exact rn.elim
    | some o =>
      rw [ho] at rn
      simp only at rn
      have hin := (Array.getElem?_eq_some_iff.1 ho).1
      have hSq : S q = false := by
        cases h : S q
        · rfl
        · have := sub q hin h; rw [od2] at this; cases this
      have hdeps : ∀ d ∈ D q, R d = true := fun d hd => od1 d (F.t1 q o ho d hd)
      have hol := ia.looks F cR ho od2 od1
      have hqT : ∀ j, R j = true → ∀ p, ops[j]? = some p → q ∉ T.getD j [] := fun j hj p hp hm => by
        have := cR.tab F j p hp hj q hm
        rw [od2] at this; cases this
      have hqq : q ∉ T.getD q [] := fun hm => by have := od1 q hm; rw [od2] at this; cases this
      have fin : ∀ (v : Value), Rn P ops Q M (pre ++ rest) (a.put o.dst v) w → ((Region.wanted o (yielded ops a.tmps) = true ∧ ∀ w', Fr M w w' → (execOp a.eval o).run P w' = .ok (.value v) w') ∨ (Region.wanted o (yielded ops a.tmps) = false ∧ v = undef)) →
          ∃ R' pv' a', Stt P ops D Q M T a0 S R' rest pv' a' b w ∧ (∀ i, R' i = true ↔ (R i = true ∨ i ∈ ((q, true) :: pre).map (·.1))) := by
        intro v hrn hq
        have st' : Stt P ops D Q M T a0 S (up R q) (pre ++ rest) (fun j => if j = q then v else pv j) (a.put o.dst v) b w := by
          refine ⟨cS, cR.up ho hdeps, ?_, ?_, od3, eag, ia.put F ho od2 v, ib.same ?_, hrn, ?_⟩
          · intro i hi hs; unfold up; split; rfl; exact sub i hi hs
          · intro i hi hr
            unfold up at hr
            split at hr
            · cases hr
            · rename_i hne
              have := left i hi hr
              simp only [List.map_cons, List.mem_cons] at this
              rcases this with h | h
              · exact absurd h hne
              · exact h
          · intro j hj
            have : j ≠ q := fun e => by rw [e, hSq] at hj; cases hj
            rw [if_neg this]
          · intro j p hp hR hS
            by_cases hj : j = q
            · subst hj
              rw [ho] at hp; cases hp
              intro b' hb'
              have hb2 := (OnLooks.upd hqq).1 hb'
              obtain ⟨e1, e2⟩ := looks_exec (F.stop j o ho) (OnLooks.eq hol hb2)
              simp only [if_true]
              rw [← e1, ← e2]; exact hq
            · have hRj : R j = true := by unfold up at hR; rw [if_neg hj] at hR; exact hR
              exact (qf j p hp hRj hS).upd (hqT j hRj p hp) hj (Fr.refl M w)
        obtain ⟨R', pv', a', h1, h2⟩ := ih (fun p hp => hall p (List.mem_cons_of_mem _ hp)) st'
        refine ⟨R', pv', a', h1, fun i => ?_⟩
        rw [h2]
        simp only [List.map_cons, List.mem_cons, up]
        by_cases hi : i = q
        · simp [hi]
        · simp [hi]
      cases hw : Region.wanted o (yielded ops a.tmps)
      · rw [if_neg (by simp [hw])] at rn
        exact fin undef rn (.inr ⟨hw, rfl⟩)
      · rw [if_pos hw, if_pos trivial] at rn
        obtain ⟨v, h1, h2⟩ := rn
        exact fin v h2 (.inl ⟨hw, h1⟩)

theorem wpOps_step {l : List Nat} {i : Nat} {o : Oper} {b : Act} {w : World} (ho : ops[i]? = some o) (h1 : Region.wanted o (yielded ops b.tmps) = true → o.wp P b w (wpOps P ops Q l) Q)
    (h2 : Region.wanted o (yielded ops b.tmps) = false → wpOps P ops Q l (b.put o.dst undef) w) : wpOps P ops Q (i :: l) b w := by
  simp only [wpOps, ho]
  cases hw : Region.wanted o (yielded ops b.tmps)
  · simpa using h2 hw
  · simp only [if_true]; exact .inl (h1 hw)

theorem any_main (hDD : ∀ i, ∀ d ∈ depsOf ops i, d ∈ D i) (F : TFit ops D T) {S : Nat → Bool} {l : List Nat} (hl : Lin ops D S l) : ∀ {R : Nat → Bool} {e : List (Nat × Bool)} {pv : Nat → Value} {a b : Act} {w : World}, Stt P ops D Q M T a0 S R e pv a b w → wpOps P ops Q l b w := by
  induction hl with
  | nil S hS =>
    intro R e pv a b w hs
    have he : e = [] := by
      cases e with
      | nil => rfl
      | cons p e =>
        obtain ⟨q, kind⟩ := p
        have hrn := hs.rn
        simp only [Rn] at hrn
        cases ho : ops[q]? with
        | none => rw [ho] at hrn; exact hrn.elim
        | some o =>
          have hin := (Array.getElem?_eq_some_iff.1 ho).1
          have := hs.sub q hin (hS q hin)
          rw [hs.ord.2.1] at this; cases this
    subst he
    -- the two frames are one: every operation is done in both
    have hab : a = b := by
      refine IsAct.ext hs.ia (S := R) ?_
      refine ⟨hs.ib.defers, hs.ib.size, fun j o ho t ht _ hlt => hs.ib.done j o ho t ht (hS j (Array.getElem?_eq_some_iff.1 ho).1) hlt, fun t hno => hs.ib.old t fun j o ho hd => ?_⟩
      have h1 := hno j o ho hd
      have hin := (Array.getElem?_eq_some_iff.1 ho).1
      have := hs.sub j hin (hS j hin)
      rw [h1] at this; cases this
    subst hab
    exact hs.rn
  | cons S i o l ho hSi hd hlin ih =>
    intro R e pv a b w hs
    have hin := (Array.getElem?_eq_some_iff.1 ho).1
    -- once it is processed
    have quiet : ∀ {R : Nat → Bool} {e : List (Nat × Bool)} {pv : Nat → Value} {a : Act}, Stt P ops D Q M T a0 S R e pv a b w → R i = true → wpOps P ops Q (i :: l) b w := by
      intro R e pv a hs hRi
      have hT : ∀ m ∈ T.getD i [], S m = true := hs.cS.tab0 F ho hd
      have hol := hs.ib.looks F hs.cS ho hSi hT
      have next : wpOps P ops Q l (b.put o.dst (pv i)) w := by
        refine ih (R := R) (e := e) (pv := pv) (a := a) ⟨hs.cS.up ho hd, hs.cR, ?_, hs.left, hs.ord, hs.eag, hs.ia, ?_, hs.rn, ?_⟩
        · intro j hj hsj
          unfold up at hsj
          split at hsj
          · rename_i e; subst e; exact hRi
          · exact hs.sub j hj hsj
        · refine (hs.ib.put F ho hSi (pv i)).same fun j _ => ?_
          split
          · rename_i e; subst e; rfl
          · rfl
        · intro j p hp hR hSj
          unfold up at hSj
          split at hSj
          · cases hSj
          · exact hs.qf j p hp hR hSj
      refine wpOps_step ho (fun hw => ?_) (fun hw => ?_)
      · rcases hs.qf i o ho hRi hSi b hol with ⟨_, h2⟩ | ⟨h1, _⟩
        · exact wp_value (h2 w (Fr.refl M w)) next
        · rw [h1] at hw; cases hw
      · rcases hs.qf i o ho hRi hSi b hol with ⟨h1, _⟩ | ⟨_, h2⟩
        · rw [h1] at hw; cases hw
        · rw [← h2]; exact next
    cases hRi : R i
    case true => exact quiet hs hRi
    -- it stands in what is left
    have hmem := hs.left i hin hRi
    rw [List.mem_map] at hmem
    obtain ⟨⟨i', kind⟩, hm, hii⟩ := hmem
    simp only at hii
    subst hii
    obtain ⟨pre, suf, rfl⟩ := List.append_of_mem hm
    have hpre : ∀ p ∈ pre, p.2 = true := by
      -- a chain operation ahead of it would be one that it hangs on
      have key : ∀ (pre : List (Nat × Bool)) (R : Nat → Bool), eagerOk T (pre ++ (i', kind) :: suf) = true → Ord T R (pre ++ (i', kind) :: suf) → (∀ j, j < ops.size → S j = true → R j = true) → (∀ j ∈ T.getD i' [], S j = true ∧ j < ops.size) → ∀ p ∈ pre, p.2 = true := by
        intro pre
        induction pre with
        | nil => simp
        | cons p pre ihp =>
          obtain ⟨c, kc⟩ := p
          intro R he hord hsub hT q hq
          simp only [List.cons_append] at he hord
          obtain ⟨o1, o2, o3⟩ := hord
          cases kc with
          | true =>
            simp only [eagerOk] at he
            simp only [List.mem_cons] at hq
            rcases hq with rfl | hq
            · rfl
            · refine ihp (up R c) he o3 (fun j hj hs => ?_) hT q hq
              unfold up; split; rfl; exact hsub j hj hs
          | false =>
            exfalso
            simp only [eagerOk, Bool.and_eq_true, List.all_eq_true] at he
            have := he.1 (i', kind) (by simp)
            have hc : c ∈ T.getD i' [] := by simpa using this
            obtain ⟨h1, h2⟩ := hT c hc
            have := hsub c h2 h1
            rw [o2] at this; cases this
      refine key pre R hs.eag hs.ord hs.sub fun j hj => ?_
      exact ⟨hs.cS.tab0 F ho hd j hj, F.lt _ _ ho j hj⟩
    obtain ⟨R', pv', a', hs', hR'⟩ := process F hpre hs
    cases kind with
    | true =>
      obtain ⟨R2, pv2, a2, hs2, hR2⟩ := process F (pre := [(i', true)]) (rest := suf) (by simp) (by simpa using hs')
      exact quiet hs2 ((hR2 i').2 (.inr (by simp)))
    | false =>
      obtain ⟨cS, cR, sub, left, ord, eag, ia, ib, rn, qf⟩ := hs'
      obtain ⟨od1, od2, od3⟩ := ord
      simp only [Rn, ho] at rn
      have hT : ∀ m ∈ T.getD i' [], S m = true := cS.tab0 F ho hd
      have hola := ia.looks F cR ho od2 od1
      have holb := ib.looks F cS ho hSi hT
      obtain ⟨e1, e2⟩ := looks_exec (F.stop i' o ho) (OnLooks.eq hola holb)
      have hdepsR : ∀ d ∈ D i', R' d = true := fun d hdd => od1 d (F.t1 i' o ho d hdd)
      have hqT : ∀ j, R' j = true → ∀ p, ops[j]? = some p → i' ∉ T.getD j [] := fun j hj p hp hm => by
        have := cR.tab F j p hp hj i' hm
        rw [od2] at this; cases this
      have eag' : eagerOk T suf = true := by simp only [eagerOk, Bool.and_eq_true] at eag; exact eag.2
      have next : ∀ v w', (domB ops i' = true ∨ Fr M w w') → Rn P ops Q M suf (a'.put o.dst v) w' → wpOps P ops Q l (b.put o.dst v) w' := by
        intro v w' hf hrn
        refine ih (R := up R' i') (e := suf) (pv := fun j => if j = i' then v else pv' j) (a := a'.put o.dst v) ⟨cS.up ho hd, cR.up ho hdepsR, ?_, ?_, od3, eag', ia.put F ho od2 v, ib.put F ho hSi v, hrn, ?_⟩
        · intro j hj hsj
          unfold up at hsj ⊢
          split
          · rfl
          · rename_i hne; rw [if_neg hne] at hsj; exact sub j hj hsj
        · intro j hj hr
          unfold up at hr
          split at hr
          · cases hr
          · rename_i hne
            have := left j hj hr
            simp only [List.map_cons, List.mem_cons] at this
            rcases this with h | h
            · exact absurd h hne
            · exact h
        · intro j p hp hR hSj
          unfold up at hR hSj
          split at hSj
          · cases hSj
          · rename_i hne
            rw [if_neg hne] at hR
            rcases hf with hdom | hf
            · exfalso
              have hjn := (Array.getElem?_eq_some_iff.1 hp).1
              simp only [domB, List.all_eq_true, List.mem_range, Bool.or_eq_true, beq_iff_eq, List.contains_eq_mem, decide_eq_true_eq, List.any_eq_true] at hdom
              rcases hdom j hjn with (h | h) | ⟨d, h1, h2⟩
              · exact hne h
              · have := hd j (hDD i' j h); rw [hSj] at this; cases this
              · have hSd := hd d (hDD i' d h1)
                have hdn : d < ops.size := by
                  obtain ⟨rk, hrk⟩ := F.back
                  exact (hrk i' o ho d (hDD i' d h1)).2
                have := cS d _ (Array.getElem?_eq_getElem hdn) hSd j (hDD d j h2)
                rw [hSj] at this; cases this
            · exact (qf j p hp hR hSj).upd (hqT j hR p hp) hne hf
      refine wpOps_step ho (fun hw => ?_) (fun hw => ?_)
      · rw [← e2] at hw
        rw [if_pos hw, if_neg (by simp)] at rn
        exact wp_transport (K := fun a2 w2 => (domB ops i' = true ∨ Fr M w w2) ∧ Rn P ops Q M suf a2 w2) e1 rn fun v w2 hk => next v w2 hk.1 hk.2
      · rw [← e2] at hw
        rw [if_neg (by simp [hw])] at rn
        exact next undef w (.inr (Fr.refl M w)) rn
end

def tabOkD (ops : Array Oper) (D : Nat → List Nat) (T : List (List Nat)) : Bool :=
  (ops.toList.zipIdx).all fun p => (D p.2).all (fun d => (T.getD p.2 []).contains d) &&
    (T.getD p.2 []).all fun j => (D p.2).any fun d => d == j || (T.getD d []).contains j
def backD (ops : Array Oper) (D : Nat → List Nat) (rk : Nat → Nat) : Bool := (ops.toList.zipIdx).all fun p => (D p.2).all (fun d => decide (rk d < rk p.2) && decide (d < ops.size))
theorem fit_ofD (ops : Array Oper) (D : Nat → List Nat) (T : List (List Nat)) (rk : Nat → Nat) (h1 : backD ops D rk = true) (h2 : tabOkD ops D T = true) (h3 : apartB ops T = true) (h4 : ops.toList.all noStop = true) : TFit ops D T := by
  have mem : ∀ {i : Nat} {o : Oper}, ops[i]? = some o → (o, i) ∈ ops.toList.zipIdx := by
    intro i o ho
    rw [List.mem_zipIdx_iff_getElem?]; simpa using ho
  unfold tabOkD at h2
  rw [List.all_eq_true] at h2
  unfold apartB at h3
  rw [List.all_eq_true] at h3
  rw [List.all_eq_true] at h4
  unfold backD at h1
  rw [List.all_eq_true] at h1
  refine ⟨⟨rk, fun i o ho d hd => ?_⟩, ?_, ?_, ?_, ?_, ?_⟩
  · have := h1 _ (mem ho)
    rw [List.all_eq_true] at this
    simpa using this d hd
  · intro i o ho d hd
    have := h2 _ (mem ho)
    simp only [Bool.and_eq_true, List.all_eq_true] at this
    simpa using this.1 d hd
  · intro i o ho j hj
    have := h2 _ (mem ho)
    simp only [Bool.and_eq_true, List.all_eq_true] at this
    have := this.2 j hj
    rw [List.any_eq_true] at this
    obtain ⟨d, hd, h⟩ := this
    refine ⟨d, hd, ?_⟩
    simpa using h
  · intro i o j p ho hp hij d hd hpd
    have := List.all_eq_true.1 (h3 _ (mem ho)) _ (mem hp)
    simp [hij, hd, hpd] at this
  · intro i o j p ho hp hij
    have := List.all_eq_true.1 (h3 _ (mem ho)) _ (mem hp)
    simp only [Bool.or_eq_true, Bool.and_eq_true, beq_iff_eq, hij, false_or] at this
    rcases this.2 with (h | h) | h
    · exact .inl (by simpa using h)
    · exact .inr (.inl (by simpa using h))
    · refine .inr (.inr fun d hd => ?_)
      rw [hd] at h
      simpa using h
  · intro i o ho
    exact h4 o (by have := Array.mem_of_getElem? ho; simpa using this)
theorem fit_of (ops : Array Oper) (h1 : backward ops = true) (h2 : tabOk ops (tdeps ops) = true) (h3 : apartB ops (tdeps ops) = true) (h4 : ops.toList.all noStop = true) : TFit ops (depsOf ops) (tdeps ops) := by
  have key : ∀ p ∈ ops.toList.zipIdx, depsOf ops p.2 = depsL p.1 := by
    intro p hp
    rw [List.mem_zipIdx_iff_getElem?] at hp
    have : ops[p.2]? = some p.1 := by simpa using hp
    simp [depsOf, this]
  refine fit_ofD ops _ _ id ?_ ?_ h3 h4
  · unfold backD
    rw [List.all_eq_true]
    intro p hp
    rw [key p hp, List.all_eq_true]
    intro d hd
    rw [List.mem_zipIdx_iff_getElem?] at hp
    have ho : ops[p.2]? = some p.1 := by simpa using hp
    have := backward_spec h1 ho d hd
    have := (Array.getElem?_eq_some_iff.1 ho).1
    simp; omega
  · unfold tabOkD
    unfold tabOk at h2
    rw [List.all_eq_true] at h2 ⊢
    intro p hp
    rw [key p hp]
    exact h2 p hp
theorem ord_of {T : List (List Nat)} : ∀ {e : List (Nat × Bool)} {seen : List Nat} {R : Nat → Bool}, orderOk T seen e = true → (∀ i, R i = true ↔ i ∈ seen) → Ord T R e := by
  intro e
  induction e with
  | nil => intro seen R _ _; exact trivial
  | cons p e ih =>
    obtain ⟨i, kind⟩ := p
    intro seen R h hR
    simp only [orderOk, Bool.and_eq_true, List.all_eq_true, Bool.not_eq_true'] at h
    obtain ⟨⟨h1, h2⟩, h3⟩ := h
    refine ⟨fun j hj => (hR j).2 (by simpa using h1 j hj), ?_, ih h3 fun j => ?_⟩
    · cases hr : R i
      · rfl
      · have := (hR i).1 hr
        have h2' : i ∉ seen := by simpa using h2
        exact absurd this h2'
    · unfold up
      simp only [List.mem_cons]
      split
      · rename_i e; simp [e]
      · rename_i hne; rw [hR]; simp [hne]
theorem draw_main {P : Program} {ops : Array Oper} {D : Nat → List Nat} (hDD : ∀ i, ∀ d ∈ depsOf ops i, d ∈ D i) {T : List (List Nat)} {Q : Exit → Act → World → Prop} {a : Act} {w : World} {M : Nat → Prop} {e : List (Nat × Bool)} {l : List Nat} (F : TFit ops D T) (c5 : permOk ops.size e = true) (c6 : orderOk T [] e = true) (c7 : eagerOk T e = true)
    (hlin : Lin ops D (fun i => !decide (i < ops.size)) l) (h : Rn P ops Q M e a w) : wpOps P ops Q l a w := by
  refine any_main hDD F (a0 := a) hlin (R := fun _ => false) (e := e) (pv := fun _ => undef) (a := a) (b := a) (w := w) (M := M) ⟨?_, ?_, ?_, ?_, ord_of c6 (by simp), c7, ?_, ?_, h, ?_⟩
  · intro i o ho hs
    have := (Array.getElem?_eq_some_iff.1 ho).1
    simp [this] at hs
  · intro i o ho hs; cases hs
  · intro i hi hs; simp [hi] at hs
  · intro i hi _
    simp only [permOk, Bool.and_eq_true, List.all_eq_true] at c5
    have := c5.2 i (List.mem_range.2 hi)
    simpa using this
  · exact ⟨rfl, rfl, (fun j o ho t ht hs => by cases hs), fun t _ => rfl⟩
  · refine ⟨rfl, rfl, fun j o ho t ht hs => ?_, fun t _ => rfl⟩
    have := (Array.getElem?_eq_some_iff.1 ho).1
    simp [this] at hs
  · intro j o ho hR; cases hR
theorem lin_all {ops : Array Oper} (c1 : backward ops = true) (t : Nat) : Lin ops (depsOf ops) (fun i => !decide (i < ops.size)) (Region.linearise .any ops t) := by
  have hlin := lin_start c1 t
  have : (fun i => (Array.replicate ops.size false).getD i true) = fun i => !decide (i < ops.size) := by
    funext i
    by_cases hi : i < ops.size
    · simp [Array.getD_eq_getD_getElem?, hi]
    · simp [Array.getD_eq_getD_getElem?, hi]
  rw [this] at hlin; exact hlin
/-- ONE ORDER STANDS FOR ALL. -/
theorem rx_draw {P : Program} (hm : P.follows .mixedOrders = true) {id : Nat} {ops : Array Oper} {ks : List KI} {Q : Exit → Act → World → Prop} {a : Act} {w : World} (M : Nat → Prop) (e : List (Nat × Bool)) (hc : drawOk ops e = true)
    (h : Rn P ops (Kx P ks Q) M e a w.drew) : Wk P (.c (.region id ops true) :: ks) Q a w := by
  unfold drawOk at hc
  simp only [Bool.and_eq_true] at hc
  obtain ⟨⟨⟨⟨⟨⟨c1, c2⟩, c3⟩, c4⟩, c5⟩, c6⟩, c7⟩ := hc
  refine wp_region_draw fun t => ?_
  simp only [Region.schedule, hm, Bool.true_or, if_true]
  exact draw_main (fun _ _ h => h) (fit_of ops c1 c2 c3 c4) c5 c6 c7 (lin_all c1 t) h
def rankOf (e : List (Nat × Bool)) (i : Nat) : Nat := e.findIdx fun p => p.1 == i
def tdepsD (D : Nat → List Nat) (n : Nat) (e : List (Nat × Bool)) : List (List Nat) :=
  e.foldl (fun T p => T.set p.1 (D p.1 ++ (D p.1).flatMap fun d => T.getD d []).eraseDups) (List.replicate n [])
def drawOkT (ops : Array Oper) (D : Nat → List Nat) (e : List (Nat × Bool)) (T : List (List Nat)) : Bool :=
  backD ops D (rankOf e) && tabOkD ops D T && apartB ops T && ops.toList.all noStop && permOk ops.size e && orderOk T [] e && eagerOk T e
def drawOkX (ops : Array Oper) (DT : List (List Nat)) (e : List (Nat × Bool)) : Bool := drawOkT ops (fun n => DT.getD n []) e (tdepsD (fun n => DT.getD n []) ops.size e)
def depsTab (ops : Array Oper) : List (List Nat) := ops.toList.map depsL
def drawOk2 (ops : Array Oper) (i j : Nat) (e : List (Nat × Bool)) : Bool := drawOkX ops ((depsTab ops).set i (j :: (depsTab ops).getD i [])) e
theorem ext_tab {ops : Array Oper} {i j : Nat} (hi : i < ops.size) : ext (depsOf ops) i j = fun n => ((depsTab ops).set i (j :: (depsTab ops).getD i [])).getD n [] := by
  funext n
  have h0 : ∀ n, depsOf ops n = (depsTab ops).getD n [] := by
    intro n
    simp only [depsOf, depsTab, List.getD_eq_getElem?_getD, List.getElem?_map, Array.getElem?_toList]
    cases ops[n]? <;> rfl
  unfold ext
  by_cases hn : n = i
  · subst hn
    rw [if_pos rfl, h0]
    simp [List.getD_eq_getElem?_getD, depsTab, hi]
  · rw [if_neg hn, h0, List.getD_eq_getElem?_getD, List.getD_eq_getElem?_getD, List.getElem?_set_ne (fun e => hn e.symm)]
/-- TWO ORDERS STAND FOR ALL: of two operations either may be the first. -/
theorem rx_draw2 {P : Program} (hm : P.follows .mixedOrders = true) {id : Nat} {ops : Array Oper} {ks : List KI} {Q : Exit → Act → World → Prop} {a : Act} {w : World} (M1 M2 : Nat → Prop) (i j : Nat) (e1 e2 : List (Nat × Bool)) (hb : backward ops = true) (hij : (i != j && decide (i < ops.size) && decide (j < ops.size)) = true)
    (hc1 : drawOk2 ops i j e1 = true) (hc2 : drawOk2 ops j i e2 = true)
    (h1 : Rn P ops (Kx P ks Q) M1 e1 a w.drew) (h2 : Rn P ops (Kx P ks Q) M2 e2 a w.drew) : Wk P (.c (.region id ops true) :: ks) Q a w := by
  refine wp_region_draw fun t => ?_
  simp only [Region.schedule, hm, Bool.true_or, if_true]
  simp only [Bool.and_eq_true, bne_iff_ne, ne_eq, decide_eq_true_eq] at hij
  have go : ∀ {D : Nat → List Nat} {T : List (List Nat)} {e : List (Nat × Bool)} {M : Nat → Prop} {l : List Nat}, (∀ i, ∀ d ∈ depsOf ops i, d ∈ D i) → drawOkT ops D e T = true → Lin ops D (fun i => !decide (i < ops.size)) l → Rn P ops (Kx P ks Q) M e a w.drew → wpOps P ops (Kx P ks Q) l a w.drew := by
    intro D T e M l hDD hc hl h
    unfold drawOkT at hc
    simp only [Bool.and_eq_true] at hc
    obtain ⟨⟨⟨⟨⟨⟨c1, c2⟩, c3⟩, c4⟩, c5⟩, c6⟩, c7⟩ := hc
    exact draw_main hDD (fit_ofD ops D _ _ c1 c2 c3 c4) c5 c6 c7 hl h
  rcases (lin_all hb t).split (i := i) (j := j) hij.1.1 hij.1.2 (by simp [hij.1.2]) (by simp [hij.2]) with h | h
  · have hx : ∀ n, ∀ d ∈ depsOf ops n, d ∈ ext (depsOf ops) i j n := fun n d hd => by unfold ext; split <;> simp [hd]
    rw [ext_tab hij.1.2] at h hx
    exact go hx hc1 h h1
  · have hx : ∀ n, ∀ d ∈ depsOf ops n, d ∈ ext (depsOf ops) j i n := fun n d hd => by unfold ext; split <;> simp [hd]
    rw [ext_tab hij.2] at h hx
    exact go hx hc2 h h2
end Rx
