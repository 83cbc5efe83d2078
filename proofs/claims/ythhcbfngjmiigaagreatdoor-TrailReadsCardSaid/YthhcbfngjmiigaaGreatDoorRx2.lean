/-
  RX 2: one operation of the model's code, done upon a symbolic state.
-/
import Derived.Test.YthhcbfngjmiigaaGreatDoorRx1
set_option linter.all false
set_option linter.unusedSimpArgs false
set_option linter.unusedSectionVars false
set_option linter.unusedVariables false
namespace Rx
open Go

/-! ### which boxes a term names -/
def AE.bnd (n : Nat) : AE → Bool
  | .box i _ => decide (i < n)
  | _ => true
def BE.bnd (n : Nat) : BE → Bool
  | .not x => x.bnd n
  | .beq x y => x.bnd n && y.bnd n
  | .ite z x y => z.bnd n && x.bnd n && y.bnd n
  | .anil a => a.bnd n
  | _ => true
mutual
def SV.bnd (n : Nat) : SV → Bool
  | .bool e => e.bnd n
  | .ptr a => a.bnd n
  | .slice a _ _ => a.bnd n
  | .fn _ l r => SV.bnds n l && SV.bnds n r
  | .agg l => SV.bnds n l
  | .tup l => SV.bnds n l
  | .iface _ x => x.bnd n
  | _ => true
def SV.bnds (n : Nat) : List SV → Bool
  | [] => true
  | x :: l => x.bnd n && SV.bnds n l
end
section
variable {k k' : Nat → Nat} {n : Nat} (hk : ∀ i, i < n → k' i = k i) (ρ : Env)
include hk
theorem AE.den_bnd {a : AE} (h : a.bnd n = true) : a.den k' ρ = a.den k ρ := by
  cases a <;> simp_all [AE.bnd, AE.den]
theorem BE.den_bnd {e : BE} (h : e.bnd n = true) : e.den k' ρ = e.den k ρ := by
  induction e with
  | not x ih => simp only [BE.bnd] at h; simp [BE.den, ih h]
  | beq x y ihx ihy => simp only [BE.bnd, Bool.and_eq_true] at h; simp [BE.den, ihx h.1, ihy h.2]
  | ite z x y ihz ihx ihy => simp only [BE.bnd, Bool.and_eq_true] at h; simp [BE.den, ihz h.1.1, ihx h.1.2, ihy h.2]
  | anil a => simp only [BE.bnd] at h; simp [BE.den, AE.den_bnd hk ρ h]
  | _ => rfl
mutual
theorem SV.den_bnd : ∀ {x : SV}, x.bnd n = true → x.den k' ρ = x.den k ρ
  | .int _ _, _ => by simp [SV.den]
  | .bool e, h => by simp only [SV.bnd] at h; simp [SV.den, BE.den_bnd hk ρ h]
  | .str _, _ => by simp [SV.den]
  | .ptr a, h => by simp only [SV.bnd] at h; simp [SV.den, AE.den_bnd hk ρ h]
  | .slice a _ _, h => by simp only [SV.bnd] at h; simp [SV.den, AE.den_bnd hk ρ h]
  | .mp _, _ => by simp [SV.den]
  | .fn _ l r, h => by simp only [SV.bnd, Bool.and_eq_true] at h; simp [SV.den, SV.dens_bnd h.1, SV.dens_bnd h.2]
  | .nilfn, _ => by simp [SV.den]
  | .nilif, _ => by simp [SV.den]
  | .agg l, h => by simp only [SV.bnd] at h; simp [SV.den, SV.dens_bnd h]
  | .tup l, h => by simp only [SV.bnd] at h; simp [SV.den, SV.dens_bnd h]
  | .iface _ x, h => by simp only [SV.bnd] at h; simp [SV.den, SV.den_bnd h]
  | .val _, _ => by simp [SV.den]
  | .cell .., _ => by simp [SV.den]
  | .lit _, _ => by simp [SV.den]
theorem SV.dens_bnd : ∀ {l : List SV}, SV.bnds n l = true → SV.dens k' ρ l = SV.dens k ρ l
  | [], _ => rfl
  | x :: l, h => by simp only [SV.bnds, Bool.and_eq_true] at h; simp [SV.dens, SV.den_bnd h.1, SV.dens_bnd h.2]
end
end
def St.bnd (st : St) : Bool := st.sl.all (fun p => p.2.bnd st.nx) && st.bx.all (fun b => SV.bnds st.nx b.cells && decide (b.id < st.nx))

/-! ### looking up -/
theorem look_mem {sl : List (Nat × SV)} {t : Nat} {v : SV} (h : look sl t = some v) : (t, v) ∈ sl := by
  induction sl with
  | nil => simp [look] at h
  | cons p r ih =>
    obtain ⟨u, x⟩ := p
    unfold look at h
    split at h
    · rename_i he
      cases h
      have : u = t := by simpa using he
      subst this
      exact List.mem_cons_self ..
    · exact List.mem_cons_of_mem _ (ih h)
theorem findBox_mem {bx : List Box} {i : Nat} {b : Box} (h : findBox bx i = some b) : b ∈ bx ∧ b.id = i := by
  induction bx with
  | nil => simp [findBox] at h
  | cons p r ih =>
    unfold findBox at h
    split at h
    · rename_i he
      cases h
      exact ⟨List.mem_cons_self .., by simpa using he⟩
    · exact ⟨List.mem_cons_of_mem _ (ih h).1, (ih h).2⟩
def ev (st : St) : Operand → Option SV
  | .tmp t => look st.sl t
  | .const v => some (ofVal v)
  | .func f => some (.fn (.func f) [] [])
  | .global _ => none
def evs (st : St) : List Operand → Option (List SV)
  | [] => some []
  | x :: l => match ev st x, evs st l with
    | some v, some vs => some (v :: vs)
    | _, _ => none
section
variable {C : Ctx} {k : Nat → Nat} {ρ : Env} {ro own : List Res} {st : St} {a : Act} {w : World}
theorem SatE.look (hs : SatE k ρ st a w) {t : Nat} {v : SV} (h : look st.sl t = some v) : a.tmps.getD t undef = v.den k ρ := by
  have := hs.slot _ (look_mem h)
  simp only at this
  simp [this]
theorem SatE.ev (hs : SatE k ρ st a w) {x : Operand} {v : SV} (h : ev st x = some v) : a.eval x = v.den k ρ := by
  cases x with
  | tmp t => exact hs.look h
  | const c => simp only [Rx.ev, Option.some.injEq] at h; subst h; exact (den_ofVal k ρ c).symm
  | func f => simp only [Rx.ev, Option.some.injEq] at h; subst h; simp [Act.eval, SV.den, SV.dens]
  | global g => simp [Rx.ev] at h
theorem SatE.evs (hs : SatE k ρ st a w) : ∀ {l : List Operand} {vs : List SV}, evs st l = some vs → l.map a.eval = SV.dens k ρ vs := by
  intro l
  induction l with
  | nil => intro vs h; simp only [Rx.evs, Option.some.injEq] at h; subst h; rfl
  | cons x l ih =>
    intro vs h
    unfold Rx.evs at h
    split at h
    · rename_i v vs' hv hvs
      cases h
      simp [SV.dens, hs.ev hv, ih hvs]
    · cases h
theorem SatK.look (hs : SatK C k ρ ro own st a w) {t : Nat} {v : SV} (h : look st.sl t = some v) : a.tmps.getD t undef = v.den k ρ := hs.toE.look h
theorem SatK.ev (hs : SatK C k ρ ro own st a w) {x : Operand} {v : SV} (h : ev st x = some v) : a.eval x = v.den k ρ := hs.toE.ev h
theorem SatK.evs (hs : SatK C k ρ ro own st a w) {l : List Operand} {vs : List SV} (h : evs st l = some vs) : l.map a.eval = SV.dens k ρ vs := hs.toE.evs h
def putD (st : St) (d : Option Tmp) (v : SV) : Option St :=
  match d with
  | none => some st
  | some d => if d < st.N then some (st.put d v) else none
theorem SatK.put (hs : SatK C k ρ ro own st a w) {d : Nat} (hd : d < st.N) (v : SV) : SatK C k ρ ro own (st.put d v) (a.put (some d) (v.den k ρ)) w where
  defers := hs.defers
  size := by simp [Act.put, hs.size, St.put]
  slot := by
    intro p hp
    simp only [St.put, List.mem_cons, List.mem_filter] at hp
    rcases hp with rfl | ⟨hp, hne⟩
    · refine ⟨hd, ?_⟩
      simp [Act.put, hs.size, hd]
    · obtain ⟨h1, h2⟩ := hs.slot p hp
      refine ⟨h1, ?_⟩
      have : p.1 ≠ d := by simpa using hne
      simp only [Act.put]
      rw [Array.getElem?_setIfInBounds_ne (fun e => this e.symm)]
      exact h2
  box := hs.box
  bnew := hs.bnew
  bid := hs.bid
  bdis := hs.bdis
  kept := hs.kept
  res := hs.res
  rbox := hs.rbox
  odis := hs.odis
  oro := hs.oro
  onew := hs.onew
  arr := hs.arr
theorem SatK.putD (hs : SatK C k ρ ro own st a w) {d : Option Nat} {v : SV} {st' : St} (h : putD st d v = some st') : SatK C k ρ ro own st' (a.put d (v.den k ρ)) w := by
  cases d with
  | none => simp only [Rx.putD, Option.some.injEq] at h; subst h; exact hs
  | some d =>
    simp only [Rx.putD] at h
    split at h
    · rename_i hd; cases h; exact hs.put hd v
    · cases h
end

/-! ### cells -/
theorem SV.one_den {x : SV} (h : x.one = true) (k : Nat → Nat) (ρ : Env) : (x.den k ρ).oneCell' = true := by
  cases x <;> simp_all [SV.one, SV.den, Value.oneCell']
theorem cells_one {v : Value} (h : v.oneCell' = true) : v.cells = #[v] := by cases v <;> simp_all [Value.oneCell', Value.cells]
def cellsOf (x : SV) : Option (List SV) :=
  match x with
  | .agg l => if l.all SV.one then some l else none
  | x => if x.one then some [x] else none
theorem cellsOf_den {x : SV} {l : List SV} (h : cellsOf x = some l) (k : Nat → Nat) (ρ : Env) : (x.den k ρ).cells = (SV.dens k ρ l).toArray ∧ ∀ y ∈ SV.dens k ρ l, y.oneCell' = true := by
  have key : ∀ l : List SV, l.all SV.one = true → ∀ y ∈ SV.dens k ρ l, y.oneCell' = true := by
    intro l hl y hy
    rw [dens_map] at hy
    obtain ⟨z, hz, rfl⟩ := List.mem_map.1 hy
    exact SV.one_den (List.all_eq_true.1 hl z hz) k ρ
  unfold cellsOf at h
  split at h
  · split at h
    · rename_i l' hl
      cases h
      exact ⟨by simp [SV.den, Value.cells], key _ hl⟩
    · cases h
  · split at h
    · rename_i hx
      cases h
      have := SV.one_den hx k ρ
      refine ⟨by simp [SV.dens, cells_one this], key _ (by simpa using hx)⟩
    · cases h

def splice {α : Type} (l : List α) (off : Nat) (vs : List α) : List α := l.take off ++ vs ++ l.drop (off + vs.length)
theorem splice_map {α β : Type} (f : α → β) (l : List α) (off : Nat) (vs : List α) : (splice l off vs).map f = splice (l.map f) off (vs.map f) := by
  simp [splice]
theorem splice_length {α : Type} (l : List α) (off : Nat) (vs : List α) (h : off + vs.length ≤ l.length) : (splice l off vs).length = l.length := by
  simp [splice]; omega
theorem splice_cons {α : Type} (l : List α) (off : Nat) (x : α) (vs : List α) (h : off + (vs.length + 1) ≤ l.length) : splice (l.set off x) (off + 1) vs = splice l off (x :: vs) := by
  apply List.ext_getElem?
  intro j
  simp only [splice, List.length_cons]
  by_cases h1 : j < off
  · rw [List.getElem?_append_left (by simp; omega), List.getElem?_append_left (by simp; omega), List.getElem?_append_left (by simp; omega), List.getElem?_append_left (by simp; omega)]
    simp [List.getElem?_take, h1, show j < off + 1 by omega, List.getElem?_set, show ¬ off = j by omega]
  · by_cases h2 : j = off
    · subst h2
      rw [List.getElem?_append_left (by simp; omega), List.getElem?_append_left (by simp; omega), List.getElem?_append_left (by simp; omega), List.getElem?_append_right (by simp; omega)]
      simp [List.getElem?_take, List.getElem?_set, show j < l.length by omega, Nat.min_eq_left (show j ≤ l.length by omega)]
    · by_cases h3 : j < off + 1 + vs.length
      · rw [List.getElem?_append_left (by simp; omega), List.getElem?_append_right (by simp; omega), List.getElem?_append_left (by simp; omega), List.getElem?_append_right (by simp; omega)]
        simp only [List.length_take, List.length_set]
        rw [show j - min off l.length = (j - min (off + 1) l.length) + 1 by omega]
        simp
      · rw [List.getElem?_append_right (by simp; omega), List.getElem?_append_right (by simp; omega)]
        simp only [List.length_append, List.length_take, List.length_set, List.getElem?_drop, List.length_cons]
        rw [List.getElem?_set, if_neg (by omega)]
        congr 1
        omega
theorem fold_splice (off : Nat) : ∀ (vs : List Value) (n : Nat) (cs : Array Value), off + n + vs.length ≤ cs.size →
    ((vs.zipIdx n).foldl (fun cs p => cs.setIfInBounds (off + p.2) p.1) cs).toList = splice cs.toList (off + n) vs := by
  intro vs
  induction vs with
  | nil => intro n cs h; simp [splice]
  | cons v vs ih =>
    intro n cs h
    simp only [List.zipIdx_cons, List.foldl_cons]
    rw [ih (n + 1) _ (by simp at h ⊢; omega)]
    rw [Array.toList_setIfInBounds, show off + (n + 1) = off + n + 1 by omega]
    exact splice_cons _ _ _ _ (by simp at h ⊢; omega)

def fillS (place : Nat → Option (Nat × Nat)) (cells : List SV) : List (Nat × SV) → Option (List SV)
  | [] => some cells
  | (i, v) :: rest =>
    match place i, cellsOf v with
    | some (off, size), some l => if l.length = size ∧ off + size ≤ cells.length then fillS place (splice cells off l) rest else none
    | _, _ => none
theorem fillS_den (k : Nat → Nat) (ρ : Env) (place : Nat → Option (Nat × Nat)) : ∀ (parts : List (Nat × SV)) (cells out : List SV), fillS place cells parts = some out →
    Instr.fill place (SV.dens k ρ cells).toArray (parts.map fun p => (p.1, p.2.den k ρ)) = some (SV.dens k ρ out).toArray := by
  intro parts
  induction parts with
  | nil => intro cells out h; simp only [fillS, Option.some.injEq] at h; subst h; rfl
  | cons p parts ih =>
    obtain ⟨i, v⟩ := p
    intro cells out h
    unfold fillS at h
    split at h
    · rename_i off size l hp hl
      split at h
      · rename_i hc
        obtain ⟨hc1, hc2⟩ := hc
        obtain ⟨e1, _⟩ := cellsOf_den hl k ρ
        simp only [List.map_cons, Instr.fill, hp, e1]
        have hlen : (SV.dens k ρ l).toArray.size = size := by simp [dens_map, hc1]
        have hcs : (SV.dens k ρ cells).toArray.size = cells.length := by simp [dens_map]
        rw [hlen, hcs]
        rw [if_neg (by simp; omega)]
        rw [← ih _ _ h]
        congr 1
        apply Array.ext'
        have := fold_splice off (SV.dens k ρ l) 0 (SV.dens k ρ cells).toArray (by simp [dens_map]; omega)
        rw [← Array.foldl_toList, Array.toList_zipIdx]
        simp only [Nat.add_zero] at this
        rw [this]
        simp [dens_map, splice_map]
      · cases h
    · cases h

/-! ### memory -/
theorem cell?_of {w : World} {b off : Nat} {arr : Array Value} {t : TypeId} {fr : Nat × Nat} (h : w.heap[b]? = some (.cells arr t fr)) : w.cell? ⟨b, off, none⟩ = arr[off]? := by
  simp [World.cell?, h]
theorem addr_add (b off n : Nat) : (⟨b, off, none⟩ : Addr).add n = ⟨b, off + n, none⟩ := by
  unfold Addr.add
  split
  · rename_i h; simp [h]
  · rfl
theorem run_loadCellsFrom {P : Program} {w : World} {b : Nat} {arr : Array Value} {t : TypeId} {fr : Nat × Nat} (h : w.heap[b]? = some (.cells arr t fr)) (off : Nat) :
    ∀ (n i : Nat) (acc : Array Value), off + i + n ≤ arr.size → (loadCellsFrom ⟨b, off, none⟩ i n acc).run P w = .ok (acc ++ ((arr.toList.drop (off + i)).take n).toArray) w := by
  intro n
  induction n with
  | zero => intro i acc _; simp [loadCellsFrom]
  | succ n ih =>
    intro i acc hn
    have hlt : off + i < arr.size := by omega
    simp only [loadCellsFrom, Sem.run_bind, addr_add, run_load, cell?_of h, Array.getElem?_eq_getElem hlt, Result.andThen_ok]
    rw [ih (i + 1) _ (by omega)]
    congr 1
    have : List.drop (off + i) arr.toList = arr[off + i] :: List.drop (off + i + 1) arr.toList := by
      rw [List.drop_eq_getElem_cons (by simpa using hlt)]
      simp
    rw [this, List.take_succ_cons]
    simp [Nat.add_assoc]
theorem run_loadCells {P : Program} {w : World} {b : Nat} {arr : Array Value} {t : TypeId} {fr : Nat × Nat} (h : w.heap[b]? = some (.cells arr t fr)) (off n : Nat) (hn : off + n ≤ arr.size) :
    (loadCells ⟨b, off, none⟩ n).run P w = .ok ((arr.toList.drop off).take n).toArray w := by
  unfold loadCells
  rw [run_loadCellsFrom h off n 0 #[] (by omega)]
  simp

theorem und_run {P : Program} {t : TypeId} {d : TypeDesc} (h : P.underlying t = some d) (w : World) : (underlying t).run P w = .ok d w := by
  simp [underlying, h]
structure TFacts (P : Program) (t : TypeId) (x : TI) : Prop where
  und : P.underlying t = some x.d
  info : ∃ i z, P.info? t = some i ∧ i.size = x.size ∧ i.bytes = x.bytes ∧ i.zero = some z ∧ (isAggD x.d = !z.oneCell') ∧ z.cells.size = i.size ∧ x.zero = z.cells.toList.map ofLeaf
theorem tfacts {P : Program} {t : TypeId} {x : TI} (h : tiOf P t = some x) : TFacts P t x := by
  unfold tiOf at h
  split at h
  · rename_i d i hd hi
    split at h
    · rename_i z hz
      split at h
      · rename_i hc
        cases h
        simp only [Bool.and_eq_true, beq_iff_eq] at hc
        exact ⟨hd, i, z, hi, rfl, rfl, hz, hc.1, hc.2, rfl⟩
      · cases h
    · cases h
  · cases h
section
variable {P : Program} {t : TypeId} {x : TI} (F : TFacts P t x) (w : World)
include F
theorem TFacts.run_und : (underlying t).run P w = .ok x.d w := und_run F.und w
theorem TFacts.run_size : (Go.sizeOf t).run P w = .ok x.size w := by
  obtain ⟨i, z, hi, h1, _⟩ := F.info
  simp [Go.sizeOf, typeInfo, hi, h1]
theorem TFacts.run_agg : (isAgg t).run P w = .ok x.agg w := by
  simp only [isAgg, Sem.run_bind, F.run_und, Result.andThen_ok]
  unfold TI.agg isAggD
  cases x.d <;> rfl
theorem TFacts.run_zero (k : Nat → Nat) (ρ : Env) : ∃ z, (zeroValue t).run P w = .ok z w ∧ z.cells = (SV.dens k ρ x.zero).toArray ∧ z.cells.size = x.size ∧ (x.agg = !z.oneCell') := by
  obtain ⟨i, z, hi, h1, _, hz, h4, h5, h6⟩ := F.info
  refine ⟨z, by simp [zeroValue, typeInfo, hi, hz], ?_, by omega, h4⟩
  rw [h6, dens_map, List.map_map, show (SV.den k ρ ∘ ofLeaf) = id from funext (den_ofLeaf k ρ)]
  simp
end
def loadS (ti : TI) (cells : List SV) (off : Nat) : Option SV :=
  if ti.agg then (if off + ti.size ≤ cells.length then some (.agg ((cells.drop off).take ti.size)) else none) else cells[off]?
theorem run_loadVar {P : Program} {t : TypeId} {x : TI} (F : TFacts P t x) {k : Nat → Nat} {ρ : Env} {cells : List SV} {w : World} {b off ty : Nat} {fr : Nat × Nat}
    (h : w.heap[b]? = some (.cells (SV.dens k ρ cells).toArray ty fr)) {v : SV} (hl : loadS x cells off = some v) : (loadVar t ⟨b, off, none⟩).run P w = .ok (v.den k ρ) w := by
  unfold loadS at hl
  simp only [loadVar, Sem.run_bind, F.run_agg, Result.andThen_ok]
  split at hl
  · rename_i ha
    split at hl
    · rename_i hn
      cases hl
      simp only [ha, if_true, Sem.run_bind, F.run_size, Result.andThen_ok]
      rw [run_loadCells h off x.size (by simp [dens_map]; omega)]
      simp [SV.den, dens_map]
    · cases hl
  · rename_i ha
    simp only [ha, Bool.false_eq_true, if_false, run_load, cell?_of h]
    have : (SV.dens k ρ cells).toArray[off]? = some (v.den k ρ) := by
      simp [dens_map, hl]
    rw [this]

/-- A world in which one block of cells is another one. -/
structure Wrote (b : Nat) (o : Obj) (w w' : World) : Prop where
  os : w'.os = w.os
  tape : w'.tape = w.tape
  output : w'.output = w.output
  drawn : w'.drawn = w.drawn
  size : w'.heap.size = w.heap.size
  here : w'.heap[b]? = some o
  block : ∀ x, x ≠ b → w'.heap[x]? = w.heap[x]?
theorem Wrote.trans {b : Nat} {o o' : Obj} {w w1 w2 : World} (h : Wrote b o w w1) (g : Wrote b o' w1 w2) : Wrote b o' w w2 :=
  ⟨g.os.trans h.os, g.tape.trans h.tape, g.output.trans h.output, g.drawn.trans h.drawn, g.size.trans h.size, g.here, fun x hx => (g.block x hx).trans (h.block x hx)⟩
theorem wrote_setCell {w : World} {b off : Nat} {arr : Array Value} {t : TypeId} {fr : Nat × Nat} (h : w.heap[b]? = some (.cells arr t fr)) (v : Value) :
    Wrote b (.cells (arr.setIfInBounds off v) t fr) w (w.setCell ⟨b, off, none⟩ v) where
  os := rfl
  tape := rfl
  output := rfl
  drawn := rfl
  size := by simp [World.setCell]
  here := by simp only [World.setCell, Array.getElem?_modify, h]; simp
  block := fun x hx => by simp only [World.setCell, Array.getElem?_modify]; rw [if_neg (fun e => hx e.symm)]
theorem run_storeCells {P : Program} (b off : Nat) (t : TypeId) : ∀ (vs : List Value) (i : Nat) (arr : Array Value) (w : World), w.heap[b]? = some (.cells arr t (0, 0)) → (∀ v ∈ vs, v.oneCell' = true) → off + i + vs.length ≤ arr.size →
    ∃ w', (storeCells ⟨b, off, none⟩ vs i).run P w = .ok () w' ∧ Wrote b (.cells (splice arr.toList (off + i) vs).toArray t (0, 0)) w w' := by
  intro vs
  induction vs with
  | nil =>
    intro i arr w h _ _
    refine ⟨w, rfl, ?_⟩
    have : (splice arr.toList (off + i) []).toArray = arr := by simp [splice]
    rw [this]
    exact ⟨rfl, rfl, rfl, rfl, rfl, h, fun _ _ => rfl⟩
  | cons v vs ih =>
    intro i arr w h h1 hn
    have hlt : off + i < arr.size := by simp at hn; omega
    have hw := wrote_setCell (off := off + i) h v
    obtain ⟨w', hr, hw'⟩ := ih (i + 1) _ _ hw.here (fun x hx => h1 x (List.mem_cons_of_mem _ hx)) (by simp at hn ⊢; omega)
    refine ⟨w', ?_, ?_⟩
    · have hf : w.frozen? ⟨b, off + i, none⟩ = false := by simp [World.frozen?, h]
      simp only [storeCells, Sem.run_bind, addr_add]
      rw [run_store P w _ v _ (h1 v (List.mem_cons_self ..))]
      simp only [cell?_of h, Array.getElem?_eq_getElem hlt, hf, Bool.false_eq_true, if_false, Result.andThen_ok]
      exact hr
    · have := hw.trans hw'
      rw [Array.toList_setIfInBounds, show off + (i + 1) = off + i + 1 by omega, splice_cons _ _ _ _ (by simp at hn ⊢; omega)] at this
      exact this
theorem run_storeVar {P : Program} {t : TypeId} {x : TI} (F : TFacts P t x) {k : Nat → Nat} {ρ : Env} {cells l : List SV} {w : World} {b off ty : Nat}
    (h : w.heap[b]? = some (.cells (SV.dens k ρ cells).toArray ty (0, 0))) {v : SV} (hl : cellsOf v = some l) (hn : l.length = x.size) (ho : off + x.size ≤ cells.length) :
    ∃ w', (storeVar t ⟨b, off, none⟩ (v.den k ρ)).run P w = .ok () w' ∧ Wrote b (.cells (SV.dens k ρ (splice cells off l)).toArray ty (0, 0)) w w' := by
  obtain ⟨e1, e2⟩ := cellsOf_den hl k ρ
  obtain ⟨w', hr, hw⟩ := run_storeCells (P := P) b off ty (SV.dens k ρ l) 0 _ w h e2 (by simp [dens_map]; omega)
  refine ⟨w', ?_, ?_⟩
  · simp only [storeVar, Sem.run_bind, F.run_size, Result.andThen_ok, e1]
    rw [if_neg (by simp [dens_map, hn])]
    simpa using hr
  · simpa [dens_map, splice_map] using hw
end Rx
