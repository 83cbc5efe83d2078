/-
  RX B: from state to state: behind a call, behind an append.
-/
import Derived.Test.YthhcbfngjmiigaaGreatDoorRxA
set_option linter.all false
set_option linter.unusedSimpArgs false
set_option linter.unusedSectionVars false
set_option linter.unusedVariables false
namespace Rx
open Go
section
variable {C : Ctx} {k : Nat → Nat} {ρ : Env} {ro own os : List Res} {o : Res} {st : St} {a : Act} {w w' : World} {P : Program} {Γ : Tab}

theorem SatK.pure (hs : SatK C k ρ ro own st a w) (hk : Pure0 w w') : SatK C k ρ ro own st a w' where
  defers := hs.defers
  size := hs.size
  slot := hs.slot
  box := fun b hb => by rw [hk.block _ (hs.boxlt hb) (fun h => h)]; exact hs.box b hb
  bnew := hs.bnew
  bid := hs.bid
  bdis := hs.bdis
  kept := hs.kept.trans hk (fun _ _ h => h.elim)
  res := fun r hr => ⟨r.stay w w' (fun x hx => hk.block x ((hs.res r hr).2 x hx) (fun h => h)) (hs.res r hr).1, fun x hx => Nat.lt_of_lt_of_le ((hs.res r hr).2 x hx) hk.size⟩
  rbox := hs.rbox
  odis := hs.odis
  oro := hs.oro
  onew := hs.onew
  arr := hs.arr
theorem SatK.addRo (hs : SatK C k ρ ro own st a w) (r : Res) (hP : r.P w) (hlt : ∀ x, r.F x → x < w.heap.size) (hb : ∀ b ∈ st.bx, ¬ r.F (k b.id)) (ho : ∀ o ∈ own, ∀ x, ¬ (o.F x ∧ r.F x)) : SatK C k ρ (r :: ro) own st a w :=
  { hs with
    res := by
      intro s hm
      simp only [List.cons_append, List.mem_cons] at hm
      rcases hm with rfl | hm
      · exact ⟨hP, hlt⟩
      · exact hs.res s hm
    rbox := by
      intro s hm
      simp only [List.cons_append, List.mem_cons] at hm
      rcases hm with rfl | hm
      · exact hb
      · exact hs.rbox s hm
    oro := by
      intro q hq s hm
      simp only [List.mem_cons] at hm
      rcases hm with rfl | hm
      · exact ho q hq
      · exact hs.oro q hq s hm
    arr := fun q hq => ⟨(hs.arr q hq).1, (hs.arr q hq).2.1, (hs.arr q hq).2.2.mono (by intro r h; simp only [List.mem_append, List.mem_cons] at h ⊢; rcases h with h | h <;> simp [h])⟩ }
/-- Behind a call that writes nothing: what it made is read. -/
theorem SatK.pureRo (hs : SatK C k ρ ro own st a w) (hk : Pure0 w w') (r : Res) (hP : r.P w') (hF : ∀ x, r.F x → w.heap.size ≤ x ∧ x < w'.heap.size) : SatK C k ρ (r :: ro) own st a w' := by
  refine (hs.pure hk).addRo r hP (fun x hx => (hF x hx).2) (fun b hb hx => ?_) (fun q hq x hx => ?_)
  · have := hs.boxlt hb; have := (hF _ hx).1; omega
  · have := (hs.res q (List.mem_append_right _ hq)).2 x hx.1; have := (hF _ hx.2).1; omega
theorem SatK.addOwn (hs : SatK C k ρ ro own st a w) (r : Res) (hP : r.P w) (hlt : ∀ x, r.F x → x < w.heap.size) (hb : ∀ b ∈ st.bx, ¬ r.F (k b.id)) (ho : ∀ o ∈ own, ∀ x, ¬ (r.F x ∧ o.F x)) (hr : ∀ s ∈ ro, ∀ x, ¬ (r.F x ∧ s.F x)) (hnew : ∀ x, r.F x → C.w0.heap.size ≤ x ∨ C.M x) : SatK C k ρ ro (r :: own) st a w :=
  { hs with
    res := by
      intro s hm
      simp only [List.mem_append, List.mem_cons] at hm
      rcases hm with hm | rfl | hm
      · exact hs.res s (List.mem_append_left _ hm)
      · exact ⟨hP, hlt⟩
      · exact hs.res s (List.mem_append_right _ hm)
    rbox := by
      intro s hm
      simp only [List.mem_append, List.mem_cons] at hm
      rcases hm with hm | rfl | hm
      · exact hs.rbox s (List.mem_append_left _ hm)
      · exact hb
      · exact hs.rbox s (List.mem_append_right _ hm)
    odis := List.pairwise_cons.2 ⟨ho, hs.odis⟩
    oro := by
      intro q hq s hm
      simp only [List.mem_cons] at hq
      rcases hq with rfl | hq
      · exact hr s hm
      · exact hs.oro q hq s hm
    onew := by
      intro q hq
      simp only [List.mem_cons] at hq
      rcases hq with rfl | hq
      · exact hnew
      · exact hs.onew q hq
    arr := fun q hq => ⟨(hs.arr q hq).1, (hs.arr q hq).2.1, (hs.arr q hq).2.2.mono (by intro r h; simp only [List.mem_append, List.mem_cons] at h ⊢; rcases h with h | h <;> simp [h])⟩ }
/-- .. what it made is ours. -/
theorem SatK.pureOwn (hs : SatK C k ρ ro own st a w) (hk : Pure0 w w') (r : Res) (hP : r.P w') (hF : ∀ x, r.F x → w.heap.size ≤ x ∧ x < w'.heap.size) : SatK C k ρ ro (r :: own) st a w' := by
  have h1 := hs.pure hk
  refine h1.addOwn r hP (fun x hx => (hF x hx).2) (fun b hb hx => ?_) (fun q hq x hx => ?_) (fun q hq x hx => ?_) (fun x hx => .inl ?_)
  · have := hs.boxlt hb; have := (hF _ hx).1; omega
  · have := (hs.res q (List.mem_append_right _ hq)).2 x hx.2; have := (hF _ hx.1).1; omega
  · have := (hs.res q (List.mem_append_left _ hq)).2 x hx.2; have := (hF _ hx.1).1; omega
  · have := (hF _ hx).1; have := hs.kept.size; omega
/-- Behind what wrote to the first thing that is ours. -/
theorem SatK.mutate (hs : SatK C k ρ ro (o :: os) st a w) (hk : Kept o.F w w') (o' : Res) (hP : o'.P w') (hF : ∀ b, o'.F b → (o.F b ∨ w.heap.size ≤ b) ∧ b < w'.heap.size) (har : ∀ q ∈ st.ar, View (ro ++ o' :: os) (ρ.arr q.1)) : SatK C k ρ ro (o' :: os) st a w' := by
  have ho : o ∈ ro ++ o :: os := by simp
  have hoth : ∀ s, s ∈ ro ∨ s ∈ os → ∀ x, s.F x → ¬ o.F x := by
    rintro s (h | h) x hx hox
    · exact hs.oro o (by simp) s h x ⟨hox, hx⟩
    · exact (List.pairwise_cons.1 hs.odis).1 s h x ⟨hox, hx⟩
  have hmem : ∀ s, s ∈ ro ∨ s ∈ os → s ∈ ro ++ o :: os := by
    rintro s (h | h)
    · exact List.mem_append_left _ h
    · exact List.mem_append_right _ (List.mem_cons_of_mem _ h)
  refine ⟨hs.defers, hs.size, hs.slot, ?_, hs.bnew, hs.bid, hs.bdis, ?_, ?_, ?_, ?_, ?_, ?_, fun q hq => ⟨(hs.arr q hq).1, (hs.arr q hq).2.1, har q hq⟩⟩
  · intro b hb
    rw [hk.block _ (hs.boxlt hb) (hs.rbox o ho b hb)]; exact hs.box b hb
  · refine hs.kept.trans hk ?_
    intro x hx hox
    rcases hs.onew o (by simp) x hox with h | h
    · omega
    · exact h
  · intro s hm
    simp only [List.mem_append, List.mem_cons] at hm
    have key : s ∈ ro ∨ s ∈ os → s.P w' ∧ ∀ x, s.F x → x < w'.heap.size := fun h => by
      have hr := hs.res s (hmem s h)
      exact ⟨s.stay w w' (fun x hx => hk.block x (hr.2 x hx) (hoth s h x hx)) hr.1, fun x hx => Nat.lt_of_lt_of_le (hr.2 x hx) hk.size⟩
    rcases hm with h | rfl | h
    · exact key (.inl h)
    · exact ⟨hP, fun x hx => (hF x hx).2⟩
    · exact key (.inr h)
  · intro s hm b hb
    simp only [List.mem_append, List.mem_cons] at hm
    rcases hm with h | rfl | h
    · exact hs.rbox s (hmem s (.inl h)) b hb
    · intro hx
      rcases (hF _ hx).1 with h | h
      · exact hs.rbox o ho b hb h
      · have := hs.boxlt hb; omega
    · exact hs.rbox s (hmem s (.inr h)) b hb
  · refine List.pairwise_cons.2 ⟨fun s h x hx => ?_, (List.pairwise_cons.1 hs.odis).2⟩
    rcases (hF _ hx.1).1 with h' | h'
    · exact hoth s (.inr h) x hx.2 h'
    · have := (hs.res s (hmem s (.inr h))).2 x hx.2; omega
  · intro q hq s hm x hx
    simp only [List.mem_cons] at hq
    rcases hq with rfl | hq
    · rcases (hF _ hx.1).1 with h' | h'
      · exact hoth s (.inl hm) x hx.2 h'
      · have := (hs.res s (hmem s (.inl hm))).2 x hx.2; omega
    · exact hs.oro q (List.mem_cons_of_mem _ hq) s hm x hx
  · intro q hq x hx
    simp only [List.mem_cons] at hq
    rcases hq with rfl | hq
    · rcases (hF _ hx).1 with h' | h'
      · exact hs.onew o (by simp) x h'
      · exact .inl (by have := hs.kept.size; omega)
    · exact hs.onew q (List.mem_cons_of_mem _ hq) x hx
/-- What is ours is no more written to. -/
theorem SatK.freeze (hs : SatK C k ρ ro (o :: os) st a w) : SatK C k ρ (o :: ro) os st a w := by
  refine { hs with res := ?_, rbox := ?_, odis := (List.pairwise_cons.1 hs.odis).2, oro := ?_, onew := fun q hq => hs.onew q (List.mem_cons_of_mem _ hq), arr := fun q hq => ⟨(hs.arr q hq).1, (hs.arr q hq).2.1, (hs.arr q hq).2.2.mono (by intro r h; simp only [List.cons_append, List.mem_append, List.mem_cons] at h ⊢; rcases h with h | h | h <;> simp [h])⟩ }
  · intro s hm
    refine hs.res s ?_
    simp only [List.cons_append, List.mem_cons, List.mem_append] at hm ⊢
    rcases hm with h | h | h <;> simp [h]
  · intro s hm
    refine hs.rbox s ?_
    simp only [List.cons_append, List.mem_cons, List.mem_append] at hm ⊢
    rcases hm with h | h | h <;> simp [h]
  · intro q hq s hm x hx
    simp only [List.mem_cons] at hm
    rcases hm with rfl | hm
    · exact (List.pairwise_cons.1 hs.odis).1 q hq x ⟨hx.2, hx.1⟩
    · exact hs.oro q (List.mem_cons_of_mem _ hq) s hm x hx
/-- Fewer things, in another order. -/
theorem SatK.sub (hs : SatK C k ρ ro own st a w) {ro' own' : List Res} (hr : ∀ r ∈ ro', r ∈ ro) (ho : own'.Sublist own) (ha : ∀ q ∈ st.ar, View (ro' ++ own') (ρ.arr q.1)) : SatK C k ρ ro' own' st a w :=
  { hs with
    res := fun s hm => hs.res s (by rw [List.mem_append] at hm ⊢; rcases hm with h | h; exact .inl (hr s h); exact .inr (ho.mem h))
    rbox := fun s hm => hs.rbox s (by rw [List.mem_append] at hm ⊢; rcases hm with h | h; exact .inl (hr s h); exact .inr (ho.mem h))
    odis := hs.odis.sublist ho
    oro := fun q hq s hm => hs.oro q (ho.mem hq) s (hr s hm)
    onew := fun q hq => hs.onew q (ho.mem hq)
    arr := fun q hq => ⟨(hs.arr q hq).1, (hs.arr q hq).2.1, ha q hq⟩ }
theorem SatK.perm (hs : SatK C k ρ ro own st a w) {own' : List Res} (h : own.Perm own') : SatK C k ρ ro own' st a w :=
  { hs with
    res := fun s hm => hs.res s (by rw [List.mem_append] at hm ⊢; exact hm.imp id h.mem_iff.2)
    rbox := fun s hm => hs.rbox s (by rw [List.mem_append] at hm ⊢; exact hm.imp id h.mem_iff.2)
    odis := (h.pairwise_iff (fun {x y} hxy z hz => hxy z ⟨hz.2, hz.1⟩)).1 hs.odis
    oro := fun q hq s hm => hs.oro q (h.mem_iff.2 hq) s hm
    onew := fun q hq => hs.onew q (h.mem_iff.2 hq)
    arr := fun q hq => ⟨(hs.arr q hq).1, (hs.arr q hq).2.1, (hs.arr q hq).2.2.mono (by intro r hr; simp only [List.mem_append] at hr ⊢; exact hr.imp id h.mem_iff.1)⟩ }
/-- A value is put into a slot. -/
theorem SatK.setV (hs : SatK C k ρ ro own st a w) {d : Nat} (hd : d < st.N) (v : Value) : SatK C k ρ ro own (st.put d (.lit v)) (a.put (some d) v) w := hs.put hd (.lit v)
theorem SatK.to (hs : SatK C k ρ ro own st a w) (ρ' : Env) (st' : St) (hN : st'.N = st.N) (hnx : (st'.bx.all fun b => Decidable.decide (b.id < st'.nx)) = true)
    (h1 : convSl k ρ ρ' st.sl st'.sl) (h2 : convBx k ρ ρ' st.bx st'.bx) (h3 : convAr ρ ρ' st.ar st'.ar) : SatK C k ρ' ro own st' a w := by
  obtain ⟨N, sl, bx, nx, ar⟩ := st'
  simp only at hN hnx h1 h2 h3
  subst hN
  have hnx' : ∀ b ∈ bx, b.id < nx := by simpa using hnx
  clear hnx
  refine hs.conv ?_ ?_ hnx' ?_ <;> clear hnx'
  · have := h1
    clear h1
    induction sl with
    | nil => simp
    | cons p l ih =>
      obtain ⟨t, x⟩ := p
      intro q hq
      simp only [convSl] at this
      simp only [List.mem_cons] at hq
      rcases hq with rfl | hq
      · have h := this.1
        split at h
        · rename_i v hv; exact ⟨v, hv, h⟩
        · exact h.elim
      · exact ih this.2 q hq
  · have := h2
    clear h2
    induction bx with
    | nil => simp
    | cons b l ih =>
      intro q hq
      simp only [convBx] at this
      simp only [List.mem_cons] at hq
      rcases hq with rfl | hq
      · have h := this.1
        split at h
        · rename_i b0 hb
          obtain ⟨hm, hid⟩ := findBox_mem hb
          exact ⟨b0, hm, hid, by simp [boxObj, h.1, h.2]⟩
        · exact h.elim
      · exact ih this.2 q hq
  · clear h1 h2
    induction ar with
    | nil => simp
    | cons p l ih =>
      obtain ⟨m, c⟩ := p
      intro q hq
      simp only [convAr] at h3
      simp only [List.mem_cons] at hq
      rcases hq with rfl | hq
      · exact ⟨findAr_mem h3.1, h3.2.1⟩
      · exact ih h3.2.2 q hq
/-- A row that is read gets a number. -/
theorem SatK.row (hs : SatK C k ρ ro own st a w) (m : Nat) (cks : List CK) (h1 : (ρ.arr m).esz = cks.length) (h2 : ∀ e ∈ (ρ.arr m).el, shapeOk cks e) (h3 : View (ro ++ own) (ρ.arr m)) : SatK C k ρ ro own { st with ar := (m, cks) :: st.ar } a w :=
  { hs with
    arr := by
      intro q hq
      simp only [List.mem_cons] at hq
      rcases hq with rfl | hq
      · exact ⟨h1, h2, h3⟩
      · exact hs.arr q hq }

/-! ### operations by law -/
theorem wp_shift {op : Oper} {K K' : Act → World → Prop} {Q : Exit → Act → World → Prop} (h : op.wp P a w K Q) (hk : ∀ a' w', K a' w' → K' a' w') : op.wp P a w K' Q := by
  unfold Oper.wp at h ⊢
  cases hr : (execOp a.eval op).run P w with
  | ok x w' =>
    rw [hr] at h
    cases x with
    | value v => exact hk _ _ h
    | skip => exact hk _ _ h
    | enter f args =>
      refine Calls.mono h ?_
      intro e w'' he'
      cases e with
      | returned v => exact hk _ _ he'
      | panicked c => exact he'
      | outgrown => exact he'
    | row r args => exact Rows.mono h fun v w'' he' => hk _ _ he'
    | defer d => exact hk _ _ h
    | _ => exact h
  | halt x w' =>
    rw [hr] at h
    cases x <;> exact h
theorem ops_step {all : Array Oper} {op : Oper} {rest : List Oper} {ks : List KI} {Q : Exit → Act → World → Prop} (hs : SatK C k ρ ro own st a w) (hg : guardS all st op = .run)
    (h : op.wp P a w (Wk P (.ops all rest :: ks) Q) (Kx P ks Q)) : Wk P (.ops all (op :: rest) :: ks) Q a w := wpList_run (Q := Kx P ks Q) (guardS_run hs hg) h
theorem rn_step {all : Array Oper} {i : Nat} {op : Oper} {l : List (Nat × Bool)} {M : Nat → Prop} {Q : Exit → Act → World → Prop} (hs : SatK C k ρ ro own st a w) (ho : all[i]? = some op) (hg : guardS all st op = .run)
    (h : op.wp P a w (fun a' w' => a'.defers = a.defers ∧ Fr M w w' ∧ Rn P all Q M l a' w') (fun _ _ _ => False)) : Rn P all Q M ((i, false) :: l) a w := by
  simp only [Rn, ho]
  rw [if_pos (guardS_run hs hg), if_neg (by simp)]
  exact wp_shift h fun a' w' h => ⟨h.1, .inr h.2.1, h.2.2⟩
/-- The last operation of a region, behind all others: it may write whatever it wants. -/
theorem rn_stepL {all : Array Oper} {i : Nat} {op : Oper} {l : List (Nat × Bool)} {M : Nat → Prop} {Q : Exit → Act → World → Prop} (hs : SatK C k ρ ro own st a w) (ho : all[i]? = some op) (hd : domB all i = true) (hg : guardS all st op = .run)
    (h : op.wp P a w (fun a' w' => a'.defers = a.defers ∧ Rn P all Q M l a' w') (fun _ _ _ => False)) : Rn P all Q M ((i, false) :: l) a w := by
  simp only [Rn, ho]
  rw [if_pos (guardS_run hs hg), if_neg (by simp)]
  exact wp_shift h fun a' w' h => ⟨h.1, .inl hd, h.2⟩
theorem rn_last (hΓ : TabOk P Γ) {all : Array Oper} {i : Nat} {op : Oper} {M : Nat → Prop} {Q : Exit → Act → World → Prop} (hs : SatK C k ρ ro own st a w) (ho : all[i]? = some op) (hd : domB all i = true) (hg : guardS all st op = .run)
    {st' : St} {ob : List Ob} (h : stepOp Γ st op = some (st', ob)) (hob : obs ρ ob) (hK : ∀ k' a' w', SatK C k' ρ ro own st' a' w' → Q .normal a' w') : Rn P all Q M [(i, false)] a w :=
  rn_stepL hs ho hd hg (step_sound hΓ hs h hob fun k' a' w' h' => ⟨by rw [h'.defers, hs.defers], hK k' a' w' h'⟩)
theorem wp_call {op : Oper} {K : Act → World → Prop} {Q : Exit → Act → World → Prop} (hs : SatK C k ρ ro own st a w) {f : Nat} {fn : Func} {vs : List SV} (hc : calleeS st op.op = some (f, vs))
    (hf : P.funcs[f]? = some fn) (hb : fn.body.isSome = true) (hn : (fn.name == "runtime.NumGoroutine") = false)
    (h : Calls P f (SV.dens k ρ vs).toArray w fun e w' => ∃ v, e = .returned v ∧ K (a.put op.dst v) w') : op.wp P a w K Q := by
  obtain ⟨dst, o, type, pos, after, guard⟩ := op
  simp only at hc
  unfold calleeS at hc
  split at hc
  · rename_i x args tys
    split at hc
    · rename_i f' first cap vs' hx hv
      cases hc
      unfold Oper.wp
      have ha : args.map a.eval = (SV.dens k ρ vs').toArray := by apply Array.ext'; simp [hs.evs hv]
      have hr : (execOp a.eval ⟨dst, .call ⟨.value x, args, tys⟩, type, pos, after, guard⟩).run P w = .ok (.enter f (SV.dens k ρ (first ++ vs' ++ cap)).toArray) w := by
        simp only [execOp, resolve, Sem.run_bind, hs.ev hx, SV.den, Deferred.ofValue, Sem.run_pure, Result.andThen_ok, invoke, ha]
        rw [callFunc_enter hf hb hn]
        simp [dens_append]
      rw [hr]
      refine h.mono ?_
      rintro e w' ⟨v, rfl, hw⟩
      exact hw
    · cases hc
  · cases hc
def appendS (Γ : Tab) (st : St) (op : Op) : Option (TypeId × TI × TypeId × TI × SV × SV) :=
  match op with
  | .call ⟨.builtin .append, args, tys⟩ => match args.toList, tys.toList with
    | [x, y], [t, t'] => if t = t' then (match Γ.get t with
      | some ⟨.slice e, a, b, c⟩ => match Γ.get e, ev st x, ev st y with
        | some ti, some vx, some vy => some (t, ⟨.slice e, a, b, c⟩, e, ti, vx, vy)
        | _, _, _ => none
      | _ => none) else none
    | _, _ => none
  | _ => none
theorem wp_append {op : Oper} {K : Act → World → Prop} {Q : Exit → Act → World → Prop} (hΓ : TabOk P Γ) (hs : SatK C k ρ ro own st a w) {t e : TypeId} {tis ti : TI} {vx vy : SV} (hc : appendS Γ st op.op = some (t, tis, e, ti, vx, vy))
    {A : Option Addr} {n c m : Nat} {xs news : List Value} (hx : vx.den k ρ = .slice A n c) (ho : (ownS e ti.size A n c xs).P w) (hy : Src P ti.size w (vy.den k ρ) m news) (hb : (n + m) * ti.bytes ≤ 140737488355328) (hn : n + m ≤ 9223372036854775807)
    (h : ∀ A' c' w', (ownS e ti.size A' (n + m) c' (xs ++ news)).P w' → Kept (ownS e ti.size A n c xs).F w w' →
      (∀ b, (ownS e ti.size A' (n + m) c' (xs ++ news)).F b → ((ownS e ti.size A n c xs).F b ∨ w.heap.size ≤ b) ∧ b < w'.heap.size) → (0 < n + m → A' ≠ none) → K (a.put op.dst (.slice A' (n + m) c')) w') : op.wp P a w K Q := by
  obtain ⟨dst, o, type, pos, after, guard⟩ := op
  simp only at hc
  unfold appendS at hc
  split at hc
  · rename_i args tys
    split at hc
    · rename_i x y t1 t2 hargs htys
      split at hc
      · rename_i htt
        subst htt
        split at hc
        · rename_i e1 a1 b1 c1 hg
          split at hc
          · rename_i ti1 v1 v2 he hx1 hy1
            cases hc
            have ht := tfacts (hΓ.get hg)
            have F := tfacts (hΓ.get he)
            obtain ⟨A', c', w', h1, h2, h3, h4, h5, _⟩ := append_own (ty := type) ht rfl F ho hy hb hn
            have ea : args = #[x, y] := by apply Array.ext'; simpa using hargs
            have et : tys = #[t, t] := by apply Array.ext'; simpa using htys
            subst ea et
            refine wp_value (w' := w') (v := .slice A' (n + m) c') ?_ (h A' c' w' h2 h3 h4 h5)
            have ex := hs.ev hx1
            have ey := hs.ev hy1
            rw [hx] at ex
            simp only [execOp, resolve, Sem.run_bind, Sem.run_pure, Result.andThen_ok, invoke, builtin, List.map_toArray, List.map_cons, List.map_nil, ex, ey]
            rw [h1]; rfl
          · cases hc
        · cases hc
      · cases hc
    · cases hc
  · cases hc
theorem Act.put_defers' (a : Act) (d : Option Tmp) (v : Value) : (a.put d v).defers = a.defers := by cases d <;> rfl
end
end Rx
