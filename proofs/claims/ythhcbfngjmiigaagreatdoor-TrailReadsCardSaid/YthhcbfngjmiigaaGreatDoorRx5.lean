/-
  RX 5: what makes or writes a local block; a row of operations; the code around it.
-/
import Derived.Test.YthhcbfngjmiigaaGreatDoorRx4
set_option linter.all false
set_option linter.unusedSimpArgs false
set_option linter.unusedSectionVars false
set_option linter.unusedVariables false
namespace Rx
open Go

def newBox (st : St) (ty : Nat) (cells : List SV) (d : Option Tmp) (mk : Nat → SV) : Option St :=
  if st.bnd && SV.bnds st.nx cells then putD { st with bx := ⟨st.nx, ty, cells⟩ :: st.bx, nx := st.nx + 1 } d (mk st.nx) else none
def zerosS (ti : TI) (len : Nat) : List SV := (List.range (len * ti.size)).map fun j => ti.zero.getD (j % ti.zero.length) .nilif
def effOp (Γ : Tab) (st : St) (d : Option Tmp) (op : Op) : Option St :=
  match op with
  | .alloc t => match Γ.get t with
    | some ti => newBox st t ti.zero d (fun i => .ptr (.box i 0))
    | none => none
  | .box t x => match ev st x with
    | some v => match cellsOf v with
      | some l => newBox st t l d (fun i => .ptr (.box i 0))
      | none => none
    | none => none
  | .buildSlice t len parts => match Γ.get t, evParts st parts.toList with
    | some ⟨.slice e, _, _, _⟩, some ps => match Γ.get e with
      | some ti =>
        if len * ti.size ≠ 0 ∧ len * ti.size ≤ 16777216 then
          match fillS (fun i => some (i * ti.size, ti.size)) (zerosS ti len) ps with
          | some cells => newBox st e cells d (fun i => .slice (.box i 0) (.c len) (.c len))
          | none => none
        else none
      | none => none
    | _, _ => none
  | .store t x y => match d, ev st x, Γ.get t, ev st y with
    | none, some (.ptr (.box i off)), some ti, some v => match findBox st.bx i, cellsOf v with
      | some b, some l => if l.length = ti.size ∧ off + ti.size ≤ b.cells.length then some { st with bx := setBox st.bx i (splice b.cells off l) } else none
      | _, _ => none
    | _, _, _, _ => none
  | _ => none
def noOb (x : Option St) : Option (St × List Ob) := x.map fun s => (s, [])
def withOb (x : Option St) (ob : List Ob) : Option (St × List Ob) := x.map fun s => (s, ob)
def stepOp (Γ : Tab) (st : St) (o : Oper) : Option (St × List Ob) :=
  match evalOp Γ st o.op with
  | some (v, ob) => withOb (putD st o.dst v) ob
  | none => noOb (effOp Γ st o.dst o.op)

theorem Kept.push {M : Nat → Prop} {w0 w : World} (h : Kept M w0 w) (o : Obj) : Kept M w0 (w.alloc o) :=
  h.trans (Pure0.alloc w o) (fun _ _ hf => hf.elim)
theorem heap_alloc_old (w : World) (o : Obj) {b : Nat} (h : b < w.heap.size) : (w.alloc o).heap[b]? = w.heap[b]? := (Pure0.alloc w o).block b h (fun hf => hf)
theorem heap_alloc_here (w : World) (o : Obj) : (w.alloc o).heap[w.heap.size]? = some o := by
  show (w.heap.push o)[w.heap.size]? = _
  simp
theorem heap_alloc_size (w : World) (o : Obj) : (w.alloc o).heap.size = w.heap.size + 1 := by
  show (w.heap.push o).size = _
  simp

/-- Blocks outside M are as they were. -/
structure Fr (M : Nat → Prop) (w w' : World) : Prop where
  size : w.heap.size ≤ w'.heap.size
  block : ∀ b, b < w.heap.size → ¬ M b → w'.heap[b]? = w.heap[b]?
theorem Fr.refl (M : Nat → Prop) (w : World) : Fr M w w := ⟨Nat.le_refl _, fun _ _ _ => rfl⟩
theorem Fr.trans {M : Nat → Prop} {a b c : World} (h : Fr M a b) (g : Fr M b c) : Fr M a c :=
  ⟨Nat.le_trans h.size g.size, fun x hx hm => (g.block x (Nat.lt_of_lt_of_le hx h.size) hm).trans (h.block x hx hm)⟩
theorem Fr.alloc (M : Nat → Prop) (w : World) (o : Obj) : Fr M w (w.alloc o) := ⟨(Pure0.alloc w o).size, fun b hb _ => heap_alloc_old w o hb⟩
theorem Fr.mono {M N : Nat → Prop} {w w' : World} (h : Fr M w w') (hm : ∀ b, M b → N b) : Fr N w w' := ⟨h.size, fun b hb hn => h.block b hb fun hx => hn (hm b hx)⟩
/-- Which box an operation writes to. -/
def stW (st : St) (op : Op) : Option Nat :=
  match op with
  | .store _ x _ => match ev st x with
    | some (.ptr (.box i _)) => some i
    | _ => none
  | _ => none
section
variable {C : Ctx} {k : Nat → Nat} {ρ : Env} {ro own : List Res} {st : St} {a : Act} {w : World} {P : Program} {Γ : Tab}
theorem SatK.boxlt (hs : SatK C k ρ ro own st a w) {b : Box} (hb : b ∈ st.bx) : k b.id < w.heap.size := by
  have := hs.box b hb
  exact (Array.getElem?_eq_some_iff.1 this).1
theorem SatK.newBox (hs : SatK C k ρ ro own st a w) (ty : Nat) (cells : List SV) (hb : st.bnd = true) (hc : SV.bnds st.nx cells = true) :
    SatK C (fun i => if i = st.nx then w.heap.size else k i) ρ ro own { st with bx := ⟨st.nx, ty, cells⟩ :: st.bx, nx := st.nx + 1 } a (w.alloc (.cells (SV.dens k ρ cells).toArray ty)) := by
  have hk : ∀ i, i < st.nx → (fun i => if i = st.nx then w.heap.size else k i) i = k i := fun i hi => if_neg (by omega)
  simp only [St.bnd, Bool.and_eq_true, List.all_eq_true, decide_eq_true_eq] at hb
  have hid : ∀ b ∈ st.bx, (if b.id = st.nx then w.heap.size else k b.id) = k b.id := fun b hm => if_neg (by have := (hb.2 b hm).2; omega)
  have hF : ∀ r ∈ ro ++ own, ∀ x, r.F x → (w.alloc (.cells (SV.dens k ρ cells).toArray ty)).heap[x]? = w.heap[x]? := fun r hr x hx => heap_alloc_old w _ ((hs.res r hr).2 x hx)
  refine ⟨hs.defers, hs.size, ?_, ?_, ?_, ?_, ?_, hs.kept.push _, ?_, ?_, hs.odis, hs.oro, hs.onew, hs.arr⟩
  · intro p hp
    obtain ⟨h1, h2⟩ := hs.slot p hp
    exact ⟨h1, by rw [h2, SV.den_bnd hk ρ (hb.1 p hp)]⟩
  · intro b hm
    simp only [List.mem_cons] at hm
    rcases hm with rfl | hm
    · simp only [if_true]
      rw [heap_alloc_here]
      simp [boxObj, SV.dens_bnd hk ρ hc]
    · rw [hid b hm, heap_alloc_old w _ (hs.boxlt hm), hs.box b hm]
      simp [boxObj, SV.dens_bnd hk ρ (hb.2 b hm).1]
  · intro b hm
    simp only [List.mem_cons] at hm
    rcases hm with rfl | hm
    · exact .inl (by simpa using hs.kept.size)
    · rw [hid b hm]; exact hs.bnew b hm
  · intro b hm
    simp only [List.mem_cons] at hm
    rcases hm with rfl | hm
    · simp
    · have := (hb.2 b hm).2; simp only; omega
  · intro b hm b' hm' hne
    simp only [List.mem_cons] at hm hm'
    rcases hm with rfl | hm <;> rcases hm' with rfl | hm'
    · exact absurd rfl hne
    · simp only [if_true]; rw [hid b' hm']; have := hs.boxlt hm'; omega
    · simp only [if_true]; rw [hid b hm]; have := hs.boxlt hm; omega
    · rw [hid b hm, hid b' hm']; exact hs.bdis b hm b' hm' hne
  · intro r hr
    obtain ⟨h1, h2⟩ := hs.res r hr
    exact ⟨r.stay w _ (hF r hr) h1, fun x hx => by rw [heap_alloc_size]; have := h2 x hx; omega⟩
  · intro r hr b hm
    simp only [List.mem_cons] at hm
    rcases hm with rfl | hm
    · simp only [if_true]; intro hx; have := (hs.res r hr).2 _ hx; omega
    · rw [hid b hm]; exact hs.rbox r hr b hm

theorem SatK.wrote (hs : SatK C k ρ ro own st a w) {i : Nat} {b : Box} (hb : findBox st.bx i = some b) {cells : List SV} {w' : World}
    (hw : Wrote (k i) (.cells (SV.dens k ρ cells).toArray b.ty (0, 0)) w w') : SatK C k ρ ro own { st with bx := setBox st.bx i cells } a w' := by
  obtain ⟨hm, rfl⟩ := findBox_mem hb
  have hmem : ∀ b' ∈ setBox st.bx b.id cells, ∃ b0 ∈ st.bx, b0.id = b'.id ∧ ((b0.id = b.id ∧ b'.cells = cells ∧ b'.ty = b0.ty) ∨ (b0.id ≠ b.id ∧ b' = b0)) := by
    intro b' hb'
    simp only [setBox, List.mem_map] at hb'
    obtain ⟨b0, hb0, rfl⟩ := hb'
    by_cases he : b0.id = b.id
    · exact ⟨b0, hb0, by simp [he], .inl ⟨he, by simp [he], by simp [he]⟩⟩
    · exact ⟨b0, hb0, by simp [he], .inr ⟨he, by simp [he]⟩⟩
  have hF : ∀ r ∈ ro ++ own, ∀ x, r.F x → w'.heap[x]? = w.heap[x]? := fun r hr x hx => hw.block x (fun e => hs.rbox r hr b hm (e ▸ hx))
  refine ⟨hs.defers, hs.size, hs.slot, ?_, ?_, ?_, ?_, ?_, ?_, ?_, hs.odis, hs.oro, hs.onew, hs.arr⟩
  · intro b' hb'
    obtain ⟨b0, hb0, hid, h | h⟩ := hmem b' hb'
    · rw [← hid, h.1, hw.here]
      simp only [boxObj, h.2.1, h.2.2]
      have : b0.ty = b.ty := by
        have e1 := hs.box b0 hb0
        have e2 := hs.box b hm
        rw [h.1, e2] at e1
        simp only [boxObj, Option.some.injEq, Obj.cells.injEq] at e1
        exact e1.2.1.symm
      rw [this]
    · obtain ⟨h1, rfl⟩ := h
      rw [hw.block _ (hs.bdis _ hb0 b hm h1)]
      exact hs.box _ hb0
  · intro b' hb'
    obtain ⟨b0, hb0, hid, _⟩ := hmem b' hb'
    rw [← hid]; exact hs.bnew b0 hb0
  · intro b' hb'
    obtain ⟨b0, hb0, hid, _⟩ := hmem b' hb'
    rw [← hid]; exact hs.bid b0 hb0
  · intro b1 h1 b2 h2 hne
    obtain ⟨b0, hb0, hid, _⟩ := hmem b1 h1
    obtain ⟨b0', hb0', hid', _⟩ := hmem b2 h2
    rw [← hid, ← hid']; exact hs.bdis b0 hb0 b0' hb0' (by rw [hid, hid']; exact hne)
  · refine hs.kept.trans (N := fun x => x = k b.id) ⟨hw.os, hw.tape, hw.output, Nat.le_of_eq hw.size.symm, fun x _ hx => hw.block x hx⟩ ?_
    intro x hx e
    subst e
    rcases hs.bnew b hm with h | h
    · omega
    · exact h
  · intro r hr
    obtain ⟨h1, h2⟩ := hs.res r hr
    exact ⟨r.stay w _ (hF r hr) h1, fun x hx => by rw [hw.size]; exact h2 x hx⟩
  · intro r hr b' hb'
    obtain ⟨b0, hb0, hid, _⟩ := hmem b' hb'
    rw [← hid]; exact hs.rbox r hr b0 hb0

theorem range_map_zeros (ti : TI) (F : ∃ z : Value, z.cells = (SV.dens k ρ ti.zero).toArray) (len : Nat) (hz : 0 < ti.zero.length ∨ len * ti.size = 0) {z : Value} (hzc : z.cells = (SV.dens k ρ ti.zero).toArray) :
    (Array.range (len * ti.size)).map (fun j => z.cells[j % z.cells.size]!) = (SV.dens k ρ (zerosS ti len)).toArray := by
  apply Array.ext'
  simp only [Array.toList_map, Array.toList_range, zerosS, dens_map, List.map_map]
  apply List.map_congr_left
  intro j hj
  have hlen : 0 < ti.zero.length := by
    rcases hz with h | h
    · exact h
    · rw [h] at hj; simp at hj
  simp only [Function.comp]
  rw [hzc]
  have hlt : j % ti.zero.length < ti.zero.length := Nat.mod_lt _ hlen
  simp [dens_map, List.getD_eq_getElem?_getD, List.getElem?_eq_getElem hlt]

theorem wp_value {o : Oper} {K : Act → World → Prop} {Q : Exit → Act → World → Prop} {v : Value} {w' : World} (h : (execOp a.eval o).run P w = .ok (.value v) w') (hK : K (a.put o.dst v) w') : o.wp P a w K Q := by
  unfold Oper.wp; rw [h]; exact hK
theorem wp_skipO {o : Oper} {K : Act → World → Prop} {Q : Exit → Act → World → Prop} {w' : World} (h : (execOp a.eval o).run P w = .ok .skip w') (hK : K (a.put o.dst undef) w') : o.wp P a w K Q := by
  unfold Oper.wp; rw [h]; exact hK

theorem putD_nx {st st' : St} {d : Option Tmp} {v : SV} (h : putD st d v = some st') : st'.nx = st.nx := by
  unfold putD at h
  split at h
  · cases h; rfl
  · split at h
    · cases h; rfl
    · cases h
theorem newBox_wp (hs : SatK C k ρ ro own st a w) {ty : Nat} {cells : List SV} {o : Oper} {mk : Nat → SV} {st' : St} (h : newBox st ty cells o.dst mk = some st')
    (hr : (execOp a.eval o).run P w = .ok (.value ((mk st.nx).den (fun i => if i = st.nx then w.heap.size else k i) ρ)) (w.alloc (.cells (SV.dens k ρ cells).toArray ty)))
    {K : Act → World → Prop} {Q : Exit → Act → World → Prop} {N : Nat → Prop} (hK : ∀ k' a' w', SatK C k' ρ ro own st' a' w' → (∀ i, i < st.nx → k' i = k i) → (st.nx < st'.nx → w.heap.size ≤ k' st.nx) → Fr N w w' → K a' w') : o.wp P a w K Q := by
  unfold Rx.newBox at h
  split at h
  · rename_i hc
    simp only [Bool.and_eq_true] at hc
    exact wp_value hr (hK _ _ _ ((hs.newBox ty cells hc.1 hc.2).putD h) (fun i hi => if_neg (by omega)) (fun _ => by simp) (Fr.alloc _ _ _))
  · cases h

theorem step_sound2 (hΓ : TabOk P Γ) (hs : SatK C k ρ ro own st a w) {o : Oper} {st' : St} {ob : List Ob} (h : stepOp Γ st o = some (st', ob)) (hob : obs ρ ob)
    {K : Act → World → Prop} {Q : Exit → Act → World → Prop} (hK : ∀ k' a' w', SatK C k' ρ ro own st' a' w' → (∀ i, i < st.nx → k' i = k i) → (st.nx < st'.nx → w.heap.size ≤ k' st.nx) → Fr (fun b => ∃ i, stW st o.op = some i ∧ b = k i) w w' → K a' w') : o.wp P a w K Q := by
  unfold stepOp at h
  split at h
  · rename_i v ob' hv
    cases hp : putD st o.dst v with
    | none => rw [hp] at h; cases h
    | some s =>
      rw [hp] at h
      cases h
      exact wp_value (evalOp_run hΓ hs.toE hv hob) (hK _ _ _ (hs.putD hp) (fun _ _ => rfl) (fun hlt => by have := putD_nx hp; omega) (Fr.refl _ _))
  · rename_i hev
    have h0 : effOp Γ st o.dst o.op = some st' := by
      cases he : effOp Γ st o.dst o.op with
      | none => rw [he] at h; cases h
      | some s => rw [he] at h; cases h; rfl
    clear h
    have h := h0
    clear h0
    obtain ⟨dst, op, type, pos, after, guard⟩ := o
    simp only at h
    unfold effOp at h
    split at h
    · rename_i t
      split at h
      · rename_i ti hg
        have F := tfacts (hΓ.get hg)
        obtain ⟨z, hz, hz1, _⟩ := F.run_zero w k ρ
        refine newBox_wp hs h ?_ hK
        simp [execOp, Instr.alloc, hz, newVar, newRow, hz1, SV.den, AE.den, World.alloc_eq]
      · cases h
    · rename_i t x
      split at h
      · rename_i v hv
        split at h
        · rename_i l hl
          obtain ⟨e1, _⟩ := cellsOf_den hl k ρ
          refine newBox_wp hs h ?_ hK
          simp [execOp, Instr.box, newVar, newRow, hs.ev hv, e1, SV.den, AE.den, World.alloc_eq]
        · cases h
      · cases h
    · rename_i t len parts
      split at h
      · rename_i e _ _ _ ps hg hp
        split at h
        · rename_i ti he
          split at h
          · rename_i hc
            obtain ⟨hc1, hc2⟩ := hc
            split at h
            · rename_i cells hfill
              have F := tfacts (hΓ.get hg)
              have F2 := tfacts (hΓ.get he)
              obtain ⟨z, hz, hz1, hz2, _⟩ := F2.run_zero w k ρ
              have hps : (parts.map fun x => (x.1, a.eval x.2)).toList = ps.map fun p => (p.1, p.2.den k ρ) := by
                rw [Array.toList_map]; exact hs.evParts hp
              have hlz : ti.zero.length = ti.size := by rw [← hz2, hz1]; simp [dens_map]
              have hzr := range_map_zeros (k := k) (ρ := ρ) ti ⟨z, hz1⟩ len (by rw [hlz]; rcases Nat.eq_zero_or_pos ti.size with h0 | h0; exact .inr (by simp [h0]); exact .inl h0) hz1
              have hfd := fillS_den k ρ _ _ _ _ hfill
              refine newBox_wp hs h ?_ hK
              simp only [execOp, Instr.buildSlice, Sem.run_bind, F.run_und, Result.andThen_ok, F2.run_size]
              rw [if_neg (by omega)]
              simp only [Sem.run_bind, Sem.run_pure, Result.andThen_ok]
              rw [if_neg hc1]
              simp only [Sem.run_bind, hz, Result.andThen_ok, Sem.run_pure]
              rw [hzr, hps, hfd]
              simp [newRow, SV.den, AE.den, NE.den, World.alloc_eq]
            · cases h
          · cases h
        · cases h
      · cases h
    · rename_i t x y
      split at h
      · rename_i i off ti v hx hg hy
        split at h
        · rename_i b l hb hl
          split at h
          · rename_i hc
            cases h
            have F := tfacts (hΓ.get hg)
            obtain ⟨hm, hid⟩ := findBox_mem hb
            have hbox := hs.box b hm
            rw [hid] at hbox
            obtain ⟨w', hr, hw⟩ := run_storeVar F (k := k) (ρ := ρ) (P := P) (off := off) hbox hl hc.1 hc.2
            refine wp_skipO (w' := w') ?_ (hK k _ _ ?_ (fun _ _ => rfl) (fun hlt => absurd hlt (Nat.lt_irrefl _)) ⟨Nat.le_of_eq hw.size.symm, fun b' _ hb' => hw.block b' fun e => hb' ⟨i, by simp [stW, hx], e⟩⟩)
            · simp only [execOp, Instr.storeAt, hs.ev hx, hs.ev hy, SV.den, AE.den, Instr.sureAddr, Sem.run_bind, Sem.run_pure, Result.andThen_ok]
              have hr' : (storeVar t ⟨k i, off, none⟩ (v.den k ρ)).run P w = .ok () w' := hr
              rw [hr']; rfl
            · exact hs.wrote hb hw
          · cases h
        · cases h
      · cases h
    · cases h
theorem step_sound (hΓ : TabOk P Γ) (hs : SatK C k ρ ro own st a w) {o : Oper} {st' : St} {ob : List Ob} (h : stepOp Γ st o = some (st', ob)) (hob : obs ρ ob)
    {K : Act → World → Prop} {Q : Exit → Act → World → Prop} (hK : ∀ k' a' w', SatK C k' ρ ro own st' a' w' → K a' w') : o.wp P a w K Q :=
  step_sound2 hΓ hs h hob fun k' a' w' h1 _ _ _ => hK k' a' w' h1
end
end Rx
