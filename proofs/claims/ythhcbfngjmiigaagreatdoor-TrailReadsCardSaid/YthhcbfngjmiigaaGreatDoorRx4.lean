/-
  RX 4: the operations that the executor does by itself, all of them.
-/
import Derived.Test.YthhcbfngjmiigaaGreatDoorRx3
set_option linter.all false
set_option linter.unusedSimpArgs false
set_option linter.unusedSectionVars false
set_option linter.unusedVariables false
namespace Rx
open Go

def fieldsOf (Γ : Tab) (t : TypeId) : Option (List Field) :=
  match Γ.get t with
  | some ⟨.struct fs, _, _, _⟩ => some fs.toList
  | _ => none
def places (Γ : Tab) : List Field → Option (List (Nat × Nat))
  | [] => some []
  | f :: l => match Γ.get f.type, places Γ l with
    | some ti, some r => some ((f.offset, ti.size) :: r)
    | _, _ => none
def evParts (st : St) : List (Nat × Operand) → Option (List (Nat × SV))
  | [] => some []
  | (i, x) :: l => match ev st x, evParts st l with
    | some v, some r => some ((i, v) :: r)
    | _, _ => none
def partS (ti : TI) (cells : List SV) (off : Nat) : Option SV :=
  if ti.agg then some (.agg ((cells.drop off).take ti.size)) else cells[off]?
def shiftA (a : AE) (n : Nat) : Option AE :=
  match a with
  | .box i off => some (.box i (off + n))
  | .at j off => some (.at j (off + n))
  | .arr m e off => some (.arr m e (off + n))
  | _ => none
def sureOb (a : AE) : List Ob :=
  match a with
  | .arr m e _ => [.elt m e]
  | _ => []
def sureA : AE → Bool
  | .box _ _ | .at _ _ | .arr _ _ _ => true
  | _ => false
def findAr (ar : List (Nat × List CK)) (m : Nat) : Option (List CK) :=
  match ar with
  | [] => none
  | (u, x) :: r => if u == m then some x else findAr r m
def arOk (ar : List (Nat × List CK)) (a : AE) : Bool :=
  match a with
  | .arr m _ _ => (findAr ar m).isSome
  | _ => true
def cellS (m : Nat) (e : IE) (j : Nat) : CK → SV
  | .int k => .int k (.cell m e j)
  | .bool => .bool (.cell m e j)
  | .str => .str (.cell m e j)
  | .ptr => .ptr (.cell m e j)
  | .slice => .slice (.cell m e j) (.clen m e j) (.ccap m e j)
  | .map => .mp (.cell m e j)
  | .val => .cell m e j
def cellsS (m : Nat) (e : IE) : Nat → List CK → List SV
  | _, [] => []
  | j, c :: cs => cellS m e j c :: cellsS m e (j + 1) cs
def loadA (ti : TI) (m : Nat) (e : IE) (off : Nat) (cks : List CK) : Option SV :=
  if ti.agg then (if off + ti.size ≤ cks.length then some (.agg ((cellsS m e 0 cks).drop off |>.take ti.size)) else none) else (cellsS m e 0 cks)[off]?
def binO (Γ : Tab) (o : BinOp) (t : TypeId) (x y : SV) : Option (SV × List Ob) :=
  match binS Γ o t x y with
  | some v => some (v, [])
  | none => match o, x, y with
    | .add, .str a, .str b => some (.str (.cat a b), [.cat a b])
    | .quo, .int k a, .int k' b => if k = k' then some (.int k (.op .quo k a b), [.nz b]) else none
    | .rem, .int k a, .int k' b => if k = k' then some (.int k (.op .rem k a b), [.nz b]) else none
    | _, _, _ => none
def evO (st : St) (x : Option Operand) (z : IE) : Option IE :=
  match x with
  | none => some z
  | some y => match ev st y with
    | some (.int _ e) => some e
    | _ => none
def plain0 (v : Option SV) : Option (SV × List Ob) := v.map fun x => (x, [])

def pickS (c x y : Option SV) : Option SV :=
  match c with
  | some (.bool (.c true)) => x
  | some (.bool (.c false)) => y
  | some (.bool e) => match x, y with
    | some (.bool p), some (.bool q) => some (.bool (.ite e p q))
    | _, _ => none
  | _ => none
def evalOp (Γ : Tab) (st : St) (op : Op) : Option (SV × List Ob) :=
  match op with
  | .move x | .assign x => plain0 (ev st x)
  | .pick c x y => plain0 (pickS (ev st c) (ev st x) (ev st y))
  | .build t parts =>
    match Γ.get t, fieldsOf Γ t, evParts st parts.toList with
    | some ti, some fs, some ps => match places Γ fs with
      | some pl => match fillS (fun i => pl[i]?) ti.zero ps with
        | some cells => some (.agg cells, [])
        | none => none
      | none => none
    | _, _, _ => none
  | .load t x =>
    match ev st x, Γ.get t with
    | some (.ptr (.box i off)), some ti => match findBox st.bx i with
      | some b => plain0 (loadS ti b.cells off)
      | none => none
    | some (.ptr (.arr m e off)), some ti => match findAr st.ar m with
      | some cks => (loadA ti m e off cks).map fun v => (v, [.elt m e])
      | none => none
    | _, _ => none
  | .nilCheck x =>
    match ev st x with
    | some (.ptr a) => if sureA a = true ∧ arOk st.ar a = true then some (.ptr a, sureOb a) else none
    | some (.fn (.func f) l r) => some (.fn (.func f) l r, [])
    | _ => none
  | .binOp op t x y _ => match ev st x, ev st y with
    | some a, some b => binO Γ op t a b
    | _, _ => none
  | .unOp .not _ x => match ev st x with
    | some (.bool e) => some (.bool (mkNot e), [])
    | _ => none
  | .unOp .neg _ x => match ev st x with
    | some (.int k e) => some (.int k (.neg k e), [])
    | _ => none
  | .convert src dst x => match Γ.get src, Γ.get dst, ev st x with
    | some _, some ⟨.int k, _, _, _⟩, some (.int _ e) => some (.int k (.conv k e), [])
    | some _, some ⟨.string, _, _, _⟩, some (.str s) => some (.str s, [])
    | _, _, _ => none
  | .fieldAddr s x f => match fieldsOf Γ s, ev st x with
    | some fs, some (.ptr a) => match fs[f]? with
      | some fd => match Γ.get fd.type, shiftA a fd.offset with
        | some ti, some a' => if ti.size = 0 ∨ arOk st.ar a = false then none else some (.ptr a', sureOb a)
        | _, _ => none
      | none => none
    | _, _ => none
  | .field s x f => match fieldsOf Γ s, ev st x with
    | some fs, some (.agg l) => match fs[f]? with
      | some fd => match Γ.get fd.type with
        | some ti => plain0 (partS ti l fd.offset)
        | none => none
      | none => none
    | _, _ => none
  | .extract x ix => match ev st x with
    | some (.tup l) => plain0 l[ix]?
    | _ => none
  | .makeFunc fn first cap => match evs st first.toList, evs st cap.toList with
    | some l, some r => some (.fn fn l r, [])
    | _, _ => none
  | .indexAddr t x ix => match Γ.get t, ev st x, ev st ix with
    | some ⟨.slice e, _, _, _⟩, some (.slice a n _), some (.int _ i) => match Γ.get e with
      | some ti => match a, n, i with
        | .arr m (.c 0) 0, n, i => match findAr st.ar m with
          | some cks => if cks.length = ti.size then some (.ptr (.arr m i 0), [.idx i n, .elt m i]) else none
          | none => none
        | .cut m lo cap, n, i => match findAr st.ar m with
          | some cks => if cks.length = ti.size then some (.ptr (.arr m (.sum (.nat lo) i) 0), [.idx i n, .lt lo cap, .elt m (.sum (.nat lo) i)]) else none
          | none => none
        | .box b off, .c n, .c i => if 0 ≤ i ∧ i < n then some (.ptr (.box b (off + i.toNat * ti.size)), []) else none
        | _, _, _ => none
      | none => none
    | _, _, _ => none
  | .index t x ix => match Γ.get t, ev st x, ev st ix with
    | some ⟨.string, _, _, _⟩, some (.str s), some (.int _ i) => some (.int .u8 (.byte s i), [.idx i (.slen s)])
    | some ⟨.array len e, _, _, _⟩, some (.agg l), some (.int _ (.c i)) => match Γ.get e with
      | some ti => if 0 ≤ i ∧ i < len then plain0 (partS ti l (i.toNat * ti.size)) else none
      | none => none
    | _, _, _ => none
  | .slice t x lo hi none => match Γ.get t, ev st x with
    | some ⟨.string, _, _, _⟩, some (.str s) => match evO st lo (.c 0), evO st hi (.nat (.slen s)) with
      | some l, some h => some (.str (.sub s l h), [.le (.c 0) l, .le l h, .le h (.nat (.slen s))])
      | _, _ => none
    | some ⟨.slice e, _, _, _⟩, some (.slice a n c) => match Γ.get e, evO st lo (.c 0), evO st hi (.nat n) with
      | some ti, some (.c 0), some h => some (.slice a (match hi with | none => n | _ => .ofI h) c, [.le (.c 0) h, .le h (.nat c)])
      | some ti, some l, some h => match a with
        | .arr m (.c 0) 0 => match findAr st.ar m with
          | some cks => if cks.length = ti.size then some (.slice (.cut m (.ofI l) c) (.sub (.ofI h) (.ofI l)) (.sub c (.ofI l)), [.le (.c 0) l, .le l h, .le h (.nat c)]) else none
          | none => none
        | _ => none
      | _, _, _ => none
    | _, _ => none
  | .call ⟨.builtin .len, args, tys⟩ => match args.toList, tys.toList with
    | [x], [t] => match Γ.get t, ev st x with
      | some ⟨.string, _, _, _⟩, some (.str s) => some (.int .i64 (.nat (.slen s)), [])
      | some ⟨.slice _, _, _, _⟩, some (.slice _ n _) => some (.int .i64 (.nat n), [])
      | _, _ => none
    | _, _ => none
  | _ => none

section
variable {C : Ctx} {k : Nat → Nat} {ρ : Env} {ro own : List Res} {st : St} {a : Act} {w : World} {P : Program} {Γ : Tab}
theorem SatE.evParts (hs : SatE k ρ st a w) : ∀ {l : List (Nat × Operand)} {r : List (Nat × SV)}, evParts st l = some r → l.map (fun p => (p.1, a.eval p.2)) = r.map fun p => (p.1, p.2.den k ρ) := by
  intro l
  induction l with
  | nil => intro r h; simp only [Rx.evParts, Option.some.injEq] at h; subst h; rfl
  | cons p l ih =>
    obtain ⟨i, x⟩ := p
    intro r h
    unfold Rx.evParts at h
    split at h
    · rename_i v r' hv hr
      cases h
      simp [hs.ev hv, ih hr]
    · cases h
theorem places_run (hΓ : TabOk P Γ) (w : World) : ∀ {fs : List Field} {pl : List (Nat × Nat)}, places Γ fs = some pl → (fs.mapM (fun f => (do pure (f.offset, ← Go.sizeOf f.type) : Sem (Nat × Nat)))).run P w = .ok pl w := by
  intro fs
  induction fs with
  | nil => intro pl h; simp only [places, Option.some.injEq] at h; subst h; rfl
  | cons f l ih =>
    intro pl h
    unfold places at h
    split at h
    · rename_i ti r hg hr
      cases h
      have F := tfacts (hΓ.get hg)
      simp only [List.mapM_cons, Sem.run_bind, F.run_size, Result.andThen_ok, ih hr, Sem.run_pure]
    · cases h
theorem array_mapM_run {α β : Type} (f : α → Sem β) (xs : Array α) (w : World) {l : List β} (h : (xs.toList.mapM f).run P w = .ok l w) : (xs.mapM f).run P w = .ok l.toArray w := by
  rw [Array.mapM_eq_mapM_toList, Sem.run_map, h]
  rfl
theorem part_run {t : TypeId} {x : TI} (F : TFacts P t x) {cells : List SV} {off : Nat} {v : SV} (h : partS x cells off = some v) (w : World) :
    (part t (SV.dens k ρ cells).toArray off).run P w = .ok (v.den k ρ) w := by
  unfold partS at h
  simp only [part, Sem.run_bind, F.run_agg, Result.andThen_ok]
  split at h
  · rename_i ha
    cases h
    simp only [ha, if_true, Sem.run_bind, F.run_size, Result.andThen_ok, Sem.run_pure]
    simp [SV.den, dens_map, List.map_take, List.map_drop]
  · rename_i ha
    have : (SV.dens k ρ cells).toArray[off]? = some (v.den k ρ) := by simp [dens_map, h]
    simp [ha, this]
theorem add_add (a : Addr) (x y : Nat) : (a.add x).add y = a.add (x + y) := by
  unfold Addr.add
  by_cases hx : x = 0
  · subst hx; simp
  · by_cases hy : y = 0
    · subst hy; simp [hx]
    · simp [hx, hy, Nat.add_assoc]
theorem add_zero (a : Addr) : a.add 0 = a := by simp [Addr.add]
theorem findAr_mem {l : List (Nat × List CK)} {m : Nat} {cks : List CK} (hf : findAr l m = some cks) : (m, cks) ∈ l := by
  induction l with
  | nil => cases hf
  | cons p r ih =>
    obtain ⟨u, x⟩ := p
    unfold findAr at hf
    split at hf
    · rename_i he; cases hf
      have : u = m := by simpa using he
      subst this
      exact List.mem_cons_self ..
    · exact List.mem_cons_of_mem _ (ih hf)
theorem getArr (hs : SatE k ρ st a w) {m : Nat} {i : IE} (hob : (Ob.elt m i).den ρ) {cks : List CK} (hf : findAr st.ar m = some cks) :
    ∃ e ad, (ρ.arr m).el[(i.den ρ).toNat]? = some e ∧ (ρ.arr m).a = some ad ∧ (ρ.arr m).esz = cks.length ∧ shapeOk cks e ∧ ∀ j v, e[j]? = some v → w.cell? (ad.add ((i.den ρ).toNat * cks.length + j)) = some v := by
  have hm : (m, cks) ∈ st.ar := findAr_mem hf
  obtain ⟨h1, h2, h3⟩ := hs.arr _ hm
  simp only at h1 h2 h3
  obtain ⟨o1, o2⟩ := hob
  have hlt : (i.den ρ).toNat < (ρ.arr m).el.length := by omega
  have he : (ρ.arr m).el[(i.den ρ).toNat]? = some (ρ.arr m).el[(i.den ρ).toNat] := List.getElem?_eq_getElem hlt
  obtain ⟨ad, ha, hc⟩ := h3 _ _ he
  exact ⟨_, ad, he, ha, h1, h2 _ (List.getElem_mem hlt), fun j v hv => by rw [← h1]; exact hc j v hv⟩
theorem sureA_den (hs : SatE k ρ st a w) {x : AE} (h : sureA x = true) (har : arOk st.ar x = true) (hob : obs ρ (sureOb x)) : ∃ ad, x.den k ρ = some ad := by
  cases x <;> simp [sureA] at h
  · exact ⟨_, rfl⟩
  · exact ⟨_, rfl⟩
  · rename_i m e off
    simp only [arOk, Option.isSome_iff_exists] at har
    obtain ⟨cks, hf⟩ := har
    obtain ⟨_, ad, _, ha, _⟩ := getArr hs hob.1 hf
    exact ⟨_, by simp [AE.den, ha]; rfl⟩
theorem shiftA_den {x y : AE} {n : Nat} (h : shiftA x n = some y) {ad : Addr} (hx : x.den k ρ = some ad) : y.den k ρ = some (ad.add n) := by
  cases x <;> simp [shiftA] at h <;> subst h
  · simp [AE.den] at hx ⊢; subst hx; rw [addr_add]
  · simp [AE.den] at hx ⊢; subst hx; rw [addr_add]
  · simp only [AE.den, Option.map_eq_some_iff] at hx ⊢
    obtain ⟨a0, h1, rfl⟩ := hx
    exact ⟨a0, h1, by rw [add_add, Nat.add_assoc]⟩
theorem shiftA_sure {x y : AE} {n : Nat} (h : shiftA x n = some y) : sureA x = true := by
  cases x <;> simp [shiftA] at h <;> rfl
theorem cellS_den {m : Nat} {e : IE} {j : Nat} {c : CK} {v : Value} (hv : ρ.cell m (e.den ρ) j = v) (hc : c.ok v) : (cellS m e j c).den k ρ = v := by
  cases c <;> simp only [CK.ok] at hc
  all_goals first
    | (obtain ⟨x, rfl⟩ := hc; simp [cellS, SV.den, IE.den, BE.den, SE.den, AE.den, ME.den, hv, intV, boolV, strV, adrV, mapV]; done)
    | (obtain ⟨x, n, c, rfl⟩ := hc; simp [cellS, SV.den, AE.den, NE.den, hv, adrV, lenV, capV]; done)
    | (simp [cellS, SV.den, hv]; done)
theorem shapeOk_length : ∀ {cks : List CK} {vs : List Value}, shapeOk cks vs → vs.length = cks.length := by
  intro cks
  induction cks with
  | nil => intro vs h; cases vs <;> simp_all [shapeOk]
  | cons c cs ih => intro vs h; cases vs with
    | nil => simp [shapeOk] at h
    | cons v vs => simp only [shapeOk] at h; simp [ih h.2]
theorem cellsS_den {m : Nat} {e : IE} : ∀ {cks : List CK} {vs : List Value} {j : Nat}, shapeOk cks vs → (∀ i v, vs[i]? = some v → ρ.cell m (e.den ρ) (j + i) = v) → SV.dens k ρ (cellsS m e j cks) = vs := by
  intro cks
  induction cks with
  | nil => intro vs j h _; cases vs <;> simp_all [shapeOk, cellsS, SV.dens]
  | cons c cs ih =>
    intro vs j h hv
    cases vs with
    | nil => simp [shapeOk] at h
    | cons v vs =>
      simp only [shapeOk] at h
      simp only [cellsS, SV.dens]
      rw [cellS_den (j := j) (hv 0 v rfl) h.1, ih h.2 (fun i u hu => by have := hv (i + 1) u hu; rw [show j + (i + 1) = j + 1 + i by omega] at this; exact this)]
theorem run_loadCellsAt {P : Program} {w : World} {ad : Addr} : ∀ (vs : List Value) (i : Nat) (acc : Array Value), (∀ j v, vs[j]? = some v → w.cell? (ad.add (i + j)) = some v) →
    (loadCellsFrom ad i vs.length acc).run P w = .ok (acc ++ vs.toArray) w := by
  intro vs
  induction vs with
  | nil => intro i acc _; simp [loadCellsFrom]
  | cons v vs ih =>
    intro i acc h
    have h0 := h 0 v rfl
    simp only [Nat.add_zero] at h0
    simp only [List.length_cons, loadCellsFrom, Sem.run_bind, run_load, h0, Result.andThen_ok]
    rw [ih (i + 1) _ (fun j u hu => by have := h (j + 1) u hu; rw [show i + (j + 1) = i + 1 + j by omega] at this; exact this)]
    simp
theorem fieldsOf_und (hΓ : TabOk P Γ) {t : TypeId} {fs : List Field} (h : fieldsOf Γ t = some fs) (w : World) : ∃ x, TFacts P t x ∧ Γ.get t = some x ∧ x.d = .struct fs.toArray := by
  unfold fieldsOf at h
  split at h
  · rename_i fs' _ _ _ hg
    cases h
    exact ⟨_, tfacts (hΓ.get hg), hg, rfl⟩
  · cases h

theorem plain0_some {x : Option SV} {v : SV} {ob : List Ob} (h : plain0 x = some (v, ob)) : x = some v ∧ ob = [] := by
  unfold plain0 at h
  cases x with
  | none => cases h
  | some y => simp only [Option.map_some, Option.some.injEq, Prod.mk.injEq] at h; exact ⟨by rw [h.1], h.2.symm⟩
theorem binO_run {P : Program} {Γ : Tab} (hΓ : TabOk P Γ) {o : BinOp} {t : TypeId} {x y v : SV} {ob : List Ob} (h : binO Γ o t x y = some (v, ob)) (hob : obs ρ ob) (w : World) :
    (binOp o t (x.den k ρ) (y.den k ρ)).run P w = .ok (v.den k ρ) w ∧ x.den k ρ ≠ .nilIface ∧ ∀ cs, x.den k ρ ≠ .agg cs := by
  unfold binO at h
  split at h
  · rename_i v' hb
    cases h
    exact ⟨binS_run hΓ hb k ρ w, binS_shape hb k ρ⟩
  · split at h
    · cases h
      refine ⟨?_, by simp [SV.den], by simp [SV.den]⟩
      have := hob.1
      simp only [Ob.den] at this
      simp only [SV.den, binOp, Op.stringOp, SE.den]
      rw [if_neg (by have : IntKind.i64.max = 9223372036854775807 := rfl; omega)]
      rfl
    · split at h
      · rename_i hk
        subst hk
        cases h
        refine ⟨?_, by simp [SV.den], by simp [SV.den]⟩
        have := hob.1
        simp only [Ob.den] at this
        simp [SV.den, binOp, Op.intDiv, IE.den, iop, this]
      · cases h
    · split at h
      · rename_i hk
        subst hk
        cases h
        refine ⟨?_, by simp [SV.den], by simp [SV.den]⟩
        have := hob.1
        simp only [Ob.den] at this
        simp [SV.den, binOp, Op.intDiv, IE.den, iop, this]
      · cases h
    · cases h
theorem loadA_run (hs : SatE k ρ st a w) {t : TypeId} {x : TI} (F : TFacts P t x) {m : Nat} {e : IE} {off : Nat} {cks : List CK} {v : SV} (hf : findAr st.ar m = some cks) (hl : loadA x m e off cks = some v) (hob : (Ob.elt m e).den ρ) :
    ∃ ad, (AE.arr m e off).den k ρ = some ad ∧ (loadVar t ad).run P w = .ok (v.den k ρ) w := by
  obtain ⟨vs, ad, he, ha, hz, hsh, hc⟩ := getArr hs hob hf
  have hcell : ∀ i u, vs[i]? = some u → ρ.cell m (e.den ρ) (0 + i) = u := by
    intro i u hu
    simp only [Env.cell, List.getD_eq_getElem?_getD, he, Option.getD_some, Nat.zero_add, hu]
  have hd := cellsS_den (k := k) hsh hcell
  have hlen := shapeOk_length hsh
  refine ⟨ad.add ((e.den ρ).toNat * cks.length + off), by simp [AE.den, ha, hz], ?_⟩
  unfold loadA at hl
  simp only [loadVar, Sem.run_bind, F.run_agg, Result.andThen_ok]
  split at hl
  · rename_i hagg
    split at hl
    · rename_i hn
      cases hl
      simp only [hagg, if_true, Sem.run_bind, F.run_size, Result.andThen_ok]
      have h1 := run_loadCellsAt (P := P) (w := w) (ad := ad.add ((e.den ρ).toNat * cks.length + off)) ((vs.drop off).take x.size) 0 #[] (by
        intro j u hu
        rw [add_add, Nat.add_assoc]
        refine hc _ _ ?_
        rw [List.getElem?_take] at hu
        split at hu
        · rw [List.getElem?_drop] at hu; rw [Nat.zero_add]; exact hu
        · cases hu)
      have h2 : ((vs.drop off).take x.size).length = x.size := by simp; omega
      rw [h2] at h1
      unfold loadCells
      rw [h1]
      simp only [Array.empty_append, Result.andThen_ok, Sem.run_pure, SV.den]
      rw [show SV.dens k ρ (List.take x.size (List.drop off (cellsS m e 0 cks))) = List.take x.size (List.drop off (SV.dens k ρ (cellsS m e 0 cks))) from by simp [dens_map, List.map_take, List.map_drop], hd]
    · cases hl
  · rename_i hagg
    have hu : vs[off]? = some (v.den k ρ) := by
      rw [← hd, dens_map, List.getElem?_map, hl]; rfl
    simp only [hagg, Bool.false_eq_true, if_false, run_load, hc _ _ hu]
theorem evO_run (hs : SatE k ρ st a w) {x : Option Operand} {z e : IE} (h : evO st x z = some e) : (x = none ∧ e = z) ∨ (∃ y q, x = some y ∧ a.eval y = .int q (e.den ρ)) := by
  unfold evO at h
  split at h
  · cases h; exact .inl ⟨rfl, rfl⟩
  · split at h
    · rename_i y _ q e' hy
      cases h
      exact .inr ⟨y, q, rfl, by rw [hs.ev hy]; rfl⟩
    · cases h
theorem evalOp_run (hΓ : TabOk P Γ) (hs : SatE k ρ st a w) {o : Oper} {v : SV} {ob : List Ob} (h : evalOp Γ st o.op = some (v, ob)) (hob : obs ρ ob) :
    (execOp a.eval o).run P w = .ok (.value (v.den k ρ)) w := by
  obtain ⟨dst, op, type, pos, after, guard⟩ := o
  simp only at h
  unfold evalOp at h
  unfold execOp
  split at h
  · have hpl := plain0_some h; clear h; obtain ⟨h, rfl⟩ := hpl
    simp [hs.ev h]
  · have hpl := plain0_some h; clear h; obtain ⟨h, rfl⟩ := hpl
    simp [hs.ev h]
  · rename_i c x y
    have hpl := plain0_some h; clear h; obtain ⟨h, rfl⟩ := hpl
    unfold pickS at h
    split at h
    · rename_i hc
      simp [hs.ev hc, SV.den, BE.den, asBool, hs.ev h]
    · rename_i hc
      simp [hs.ev hc, SV.den, BE.den, asBool, hs.ev h]
    · rename_i e _ _ hc
      split at h
      · rename_i p q hx hy
        cases h
        simp only [hs.ev hc, hs.ev hx, hs.ev hy, SV.den, asBool, Sem.run_bind, Sem.run_pure, Result.andThen_ok, BE.den]
        cases e.den k ρ <;> simp
      · cases h
    · cases h
  · rename_i t parts
    split at h
    · rename_i ti fs ps hg hf hp
      split at h
      · rename_i pl hpl
        split at h
        · rename_i cells hfill
          cases h
          obtain ⟨x, F, hg', hd⟩ := fieldsOf_und hΓ hf w
          rw [hg] at hg'
          cases hg'
          obtain ⟨z, hz, hz1, hz2, hz3⟩ := F.run_zero w k ρ
          have hm := array_mapM_run (P := P) (fun f : Field => (do pure (f.offset, ← Go.sizeOf f.type) : Sem (Nat × Nat))) fs.toArray w (l := pl) (places_run hΓ w hpl)
          have hps : (parts.map fun x => (x.1, a.eval x.2)).toList = ps.map fun p => (p.1, p.2.den k ρ) := by
            rw [Array.toList_map]; exact hs.evParts hp
          have hfd := fillS_den k ρ _ _ _ _ hfill
          simp only [Instr.build, Sem.run_bind, hz, Result.andThen_ok, F.run_und, hd]
          rw [hm]
          simp only [Result.andThen_ok]
          have hgp : (fun i : Nat => pl.toArray[i]?) = fun i : Nat => pl[i]? := by funext i; simp
          rw [hgp, hz1, hps, hfd]
          simp [SV.den]
        · cases h
      · cases h
    · cases h
  · rename_i t x
    split at h
    · rename_i i off ti hx hg
      split at h
      · rename_i b hb
        have hpl := plain0_some h; clear h; obtain ⟨h, rfl⟩ := hpl
        have F := tfacts (hΓ.get hg)
        obtain ⟨hm, hid⟩ := findBox_mem hb
        have hbox := hs.box b hm
        rw [hid] at hbox
        have := run_loadVar F (k := k) (ρ := ρ) (off := off) hbox h
        simp only [hs.ev hx, SV.den, AE.den, Instr.loadAt, Instr.sureAddr, Sem.run_bind, Sem.run_pure, Result.andThen_ok, this]
      · cases h
    · rename_i m e off ti hx hg
      split at h
      · rename_i cks hf
        cases hl : loadA ti m e off cks with
        | none => rw [hl] at h; cases h
        | some v' =>
          rw [hl] at h
          cases h
          obtain ⟨ad, h1, h2⟩ := loadA_run hs (tfacts (hΓ.get hg)) hf hl hob.1
          simp only [hs.ev hx, SV.den, h1, Instr.loadAt, Instr.sureAddr, Sem.run_bind, Sem.run_pure, Result.andThen_ok, h2]
      · cases h
    · cases h
  · rename_i x
    split at h
    · rename_i ae hx
      split at h
      · rename_i hsure
        cases h
        obtain ⟨ad, hd⟩ := sureA_den (k := k) (ρ := ρ) hs hsure.1 hsure.2 hob
        simp [hs.ev hx, SV.den, hd]
      · cases h
    · rename_i f l r hx
      cases h
      simp [hs.ev hx, SV.den]
    · cases h
  · rename_i op t x y _
    split at h
    · rename_i va vb hx hy
      obtain ⟨h1, s1, s2⟩ := binO_run (k := k) hΓ h hob w
      simp only [hs.ev hx, hs.ev hy, Sem.run_bind, eqGuard_run op t x y s1 s2, Result.andThen_ok, h1, Sem.run_pure]
    · cases h
  · rename_i x
    split at h
    · rename_i e hx
      cases h
      simp [hs.ev hx, SV.den, Op.unary, mkNot_den]
    · cases h
  · rename_i x
    split at h
    · rename_i q e hx
      cases h
      simp [hs.ev hx, SV.den, Op.unary, Op.intArith, IE.den]
    · cases h
  · rename_i src dst x
    split at h
    · rename_i ti q _ _ _ q' e h1 h2 hx
      cases h
      have F1 := tfacts (hΓ.get h1)
      have F2 := tfacts (hΓ.get h2)
      simp [hs.ev hx, SV.den, convert, F1.run_und, F2.run_und, Conv.intToInt, IE.den]
    · rename_i ti _ _ _ s h1 h2 hx
      cases h
      have F1 := tfacts (hΓ.get h1)
      have F2 := tfacts (hΓ.get h2)
      simp [hs.ev hx, SV.den, convert, F1.run_und, F2.run_und]
    · cases h
  · rename_i s x f
    split at h
    · rename_i fs ae hf hx
      split at h
      · rename_i fd hfd
        split at h
        · rename_i ti a' hg ha'
          split at h
          · cases h
          · rename_i hsz
            cases h
            obtain ⟨xs, F, _, hd⟩ := fieldsOf_und hΓ hf w
            have F2 := tfacts (hΓ.get hg)
            have hsz1 : ¬ ti.size = 0 := fun e => hsz (.inl e)
            have hsz2 : arOk st.ar ae = true := by
              cases he : arOk st.ar ae
              · exact absurd (.inr he) hsz
              · rfl
            obtain ⟨ad, e1⟩ := sureA_den (k := k) (ρ := ρ) hs (shiftA_sure ha') hsz2 hob
            have e2 := shiftA_den (k := k) (ρ := ρ) ha' e1
            simp [hs.ev hx, SV.den, e1, e2, Instr.fieldAt, F.run_und, hd, hfd, Instr.sureAddr, fieldPlace, F2.run_size, hsz1]
        · cases h
      · cases h
    · cases h
  · rename_i s x f
    split at h
    · rename_i fs l hf hx
      split at h
      · rename_i fd hfd
        split at h
        · rename_i ti hg
          have hpl := plain0_some h; clear h; obtain ⟨h, rfl⟩ := hpl
          obtain ⟨xs, F, _, hd⟩ := fieldsOf_und hΓ hf w
          have F2 := tfacts (hΓ.get hg)
          simp [hs.ev hx, SV.den, Instr.field, F.run_und, hd, hfd, asAgg, part_run F2 h w]
        · cases h
      · cases h
    · cases h
  · rename_i x ix
    split at h
    · rename_i l hx
      have hpl := plain0_some h; clear h; obtain ⟨h, rfl⟩ := hpl
      have : (SV.dens k ρ l).toArray[ix]? = some (v.den k ρ) := by simp [dens_map, h]
      simp only [hs.ev hx, SV.den, Instr.extract, this, Sem.run_bind, Sem.run_pure, Result.andThen_ok]
    · cases h
  · rename_i fn first cap
    split at h
    · rename_i l r hl hr
      cases h
      have e1 : first.map a.eval = (SV.dens k ρ l).toArray := by apply Array.ext'; simp [hs.evs hl]
      have e2 : cap.map a.eval = (SV.dens k ρ r).toArray := by apply Array.ext'; simp [hs.evs hr]
      simp [Instr.makeFunc, SV.den, e1, e2]
    · cases h
  · rename_i t x ix
    split at h
    · rename_i e _ _ _ ae n cp q i hg hx hi
      split at h
      · rename_i ti he
        have F := tfacts (hΓ.get hg)
        have F2 := tfacts (hΓ.get he)
        split at h
        · rename_i m
          split at h
          · rename_i cks hf
            split at h
            · rename_i hsz
              cases h
              obtain ⟨⟨o1, o2⟩, o3, _⟩ := hob
              obtain ⟨_, ad, _, ha, hz, _⟩ := getArr hs o3 hf
              simp [hs.ev hx, hs.ev hi, SV.den, AE.den, IE.den, ha, Instr.indexAt, asIntOf, F.run_und, o1, o2, F2.run_size, add_zero, hz, hsz]
            · cases h
          · cases h
        · rename_i m lo cap
          split at h
          · rename_i cks hf
            split at h
            · rename_i hsz
              cases h
              obtain ⟨⟨o1, o2⟩, o3, o4, _⟩ := hob
              simp only [Ob.den] at o3
              obtain ⟨_, ad, _, ha, hz, _⟩ := getArr hs o4 hf
              have hne : cap.den ρ ≠ lo.den ρ := by omega
              have hsum : (((lo.den ρ : Int) + i.den ρ).toNat) = lo.den ρ + (i.den ρ).toNat := by omega
              simp [hs.ev hx, hs.ev hi, SV.den, AE.den, IE.den, ha, Instr.indexAt, asIntOf, F.run_und, o1, o2, F2.run_size, hne, hz, hsz, add_add, hsum, Nat.add_mul]
            · cases h
          · cases h
        · rename_i b off n' i'
          split at h
          · rename_i hc
            cases h
            obtain ⟨h1, h2⟩ := hc
            simp [hs.ev hx, hs.ev hi, SV.den, AE.den, IE.den, NE.den, Instr.indexAt, asIntOf, F.run_und, h1, h2, F2.run_size, addr_add]
          · cases h
        · cases h
      · cases h
    · cases h
  · rename_i t x ix
    split at h
    · rename_i s q i hg hx hi
      cases h
      have F := tfacts (hΓ.get hg)
      obtain ⟨⟨o1, o2⟩, _⟩ := hob
      simp only [NE.den] at o2
      have hlt : (i.den ρ).toNat < (s.den ρ).size := by omega
      have hb : (s.den ρ)[(i.den ρ).toNat]? = some (s.den ρ)[(i.den ρ).toNat] := by simp [hlt]
      have hb2 : (s.den ρ).data.toList[(i.den ρ).toNat]? = some (s.den ρ)[(i.den ρ).toNat] := by
        have : (i.den ρ).toNat < (s.den ρ).data.toList.length := hlt
        rw [List.getElem?_eq_getElem this]; rfl
      simp [hs.ev hx, hs.ev hi, SV.den, IE.den, Instr.index, asIntOf, F.run_und, o1, hb, byteAt, hb2]
    · rename_i len e _ _ _ l q i hg hx hi
      split at h
      · rename_i ti he
        split at h
        · rename_i hc
          have hpl := plain0_some h; clear h; obtain ⟨h, rfl⟩ := hpl
          have F := tfacts (hΓ.get hg)
          have F2 := tfacts (hΓ.get he)
          have hp := part_run (k := k) (ρ := ρ) F2 h w
          simp only [hs.ev hx, hs.ev hi, SV.den, IE.den, Instr.index, asIntOf, F.run_und, Sem.run_bind, Sem.run_pure, Result.andThen_ok]
          rw [if_pos hc]
          simp only [Sem.run_bind, F2.run_size, Result.andThen_ok, hp, Sem.run_pure]
        · cases h
      · cases h
    · cases h
  · rename_i t x lo hi
    split at h
    · rename_i s hg hx
      split at h
      · rename_i l h' hl hh
        cases h
        have F := tfacts (hΓ.get hg)
        obtain ⟨o1, o2, o3, _⟩ := hob
        simp only [Ob.den, IE.den, NE.den] at o1 o2 o3
        have hlo : (lo.map a.eval = none ∧ l = .c 0) ∨ ∃ q, lo.map a.eval = some (.int q (l.den ρ)) := by
          rcases evO_run hs hl with ⟨rfl, rfl⟩ | ⟨y, q, rfl, hy⟩
          · exact .inl ⟨rfl, rfl⟩
          · exact .inr ⟨q, by simp [hy]⟩
        have hhi : (hi.map a.eval = none ∧ h' = .nat (.slen s)) ∨ ∃ q, hi.map a.eval = some (.int q (h'.den ρ)) := by
          rcases evO_run hs hh with ⟨rfl, rfl⟩ | ⟨y, q, rfl, hy⟩
          · exact .inl ⟨rfl, rfl⟩
          · exact .inr ⟨q, by simp [hy]⟩
        have key : (Instr.sliceBounds false (s.den ρ).size (s.den ρ).size (lo.map a.eval) (hi.map a.eval) none).run P w = .ok ((l.den ρ).toNat, (h'.den ρ).toNat, (s.den ρ).size) w := by
          rcases hlo with ⟨e1, rfl⟩ | ⟨q1, e1⟩ <;> rcases hhi with ⟨e2, rfl⟩ | ⟨q2, e2⟩
          · simp [e1, e2, Instr.sliceBounds, IE.den, NE.den]
          · have : 0 ≤ h'.den ρ := by omega
            simp [e1, e2, Instr.sliceBounds, Instr.sliceBound, asIntOf, IE.den, this, o3]
          · simp only [IE.den, NE.den] at o2
            simp [e1, e2, Instr.sliceBounds, Instr.sliceBound, asIntOf, IE.den, NE.den, o1, o2]
          · have : 0 ≤ h'.den ρ := by omega
            have h3 : max (h'.den ρ) 0 = h'.den ρ := by omega
            simp [e1, e2, Instr.sliceBounds, Instr.sliceBound, asIntOf, this, o1, o2, o3, h3]
        simp [Instr.sliceAt, F.run_und, Instr.slice, hs.ev hx, SV.den, key, SE.den]
      · cases h
    · rename_i e _ _ _ ae n cp hg hx
      have F := tfacts (hΓ.get hg)
      split at h
      · rename_i ti h' he hl hh
        have F2 := tfacts (hΓ.get he)
        cases h
        obtain ⟨o1, o2, _⟩ := hob
        simp only [Ob.den, IE.den] at o1 o2
        have hlo : (lo.map a.eval = none) ∨ ∃ q, lo.map a.eval = some (.int q 0) := by
          rcases evO_run hs hl with ⟨rfl, _⟩ | ⟨y, q, rfl, hy⟩
          · exact .inl rfl
          · exact .inr ⟨q, by simp [hy, IE.den]⟩
        have hhi : (hi = none ∧ h' = .nat n) ∨ ∃ y q, hi = some y ∧ a.eval y = .int q (h'.den ρ) := evO_run hs hh
        have key : (Instr.sliceBounds true (n.den ρ) (cp.den ρ) (lo.map a.eval) (hi.map a.eval) none).run P w = .ok (0, (h'.den ρ).toNat, cp.den ρ) w := by
          rcases hlo with e1 | ⟨q1, e1⟩ <;> rcases hhi with ⟨rfl, rfl⟩ | ⟨y, q2, rfl, e2⟩
          · simp [e1, Instr.sliceBounds, IE.den]
          · simp [e1, e2, Instr.sliceBounds, Instr.sliceBound, asIntOf, o1, o2]
          · simp [e1, Instr.sliceBounds, Instr.sliceBound, asIntOf, IE.den]
          · simp [e1, e2, Instr.sliceBounds, Instr.sliceBound, asIntOf, o1, o2]
        have hn : (match hi with | none => n | _ => NE.ofI h').den ρ = (h'.den ρ).toNat := by
          rcases hhi with ⟨rfl, rfl⟩ | ⟨y, q2, rfl, e2⟩
          · simp [IE.den]
          · simp [NE.den]
        simp [Instr.sliceAt, F.run_und, Instr.slice, hs.ev hx, SV.den, key, F2.run_size, hn, add_zero]
      · rename_i ti l h' hne he hl hh
        have F2 := tfacts (hΓ.get he)
        split at h
        · rename_i m
          split at h
          · rename_i cks hf
            split at h
            · rename_i hsz
              cases h
              obtain ⟨o1, o2, o3, _⟩ := hob
              simp only [Ob.den, IE.den] at o1 o2 o3
              have hesz : (ρ.arr m).esz = cks.length := by
                have hm : (m, cks) ∈ st.ar := findAr_mem hf
                exact (hs.arr _ hm).1
              have hlo : ∃ q, lo.map a.eval = some (.int q (l.den ρ)) := by
                rcases evO_run hs hl with ⟨rfl, rfl⟩ | ⟨y, q, rfl, hy⟩
                · exact (hne rfl).elim
                · exact ⟨q, by simp [hy]⟩
              obtain ⟨q1, e1⟩ := hlo
              have hhi := evO_run hs hh
              have key : (Instr.sliceBounds true (n.den ρ) (cp.den ρ) (lo.map a.eval) (hi.map a.eval) none).run P w = .ok ((l.den ρ).toNat, (h'.den ρ).toNat, cp.den ρ) w := by
                rcases hhi with ⟨rfl, rfl⟩ | ⟨y, q2, rfl, e2⟩
                · simp only [IE.den] at o2
                  simp [e1, Instr.sliceBounds, Instr.sliceBound, asIntOf, IE.den, o1, o2]
                · have : 0 ≤ h'.den ρ := by omega
                  have h3 : max (h'.den ρ) 0 = h'.den ρ := by omega
                  simp [e1, e2, Instr.sliceBounds, Instr.sliceBound, asIntOf, this, o1, o2, o3, h3]
              simp only [Instr.sliceAt, F.run_und, Instr.slice, hs.ev hx, SV.den, Option.map_none, key, F2.run_size, Sem.run_bind, Result.andThen_ok, Sem.run_pure, AE.den, NE.den, IE.den, hesz, hsz]
              congr 3
              cases (ρ.arr m).a with
              | none => split <;> rfl
              | some ad => simp only [Option.map_some, Int.toNat_zero, Nat.zero_mul, Nat.add_zero, add_zero]; split <;> rfl
            · cases h
          · cases h
        · cases h
      · cases h
    · cases h
  · rename_i args tys
    split at h
    · rename_i x t hx ht
      have ea : args = #[x] := by apply Array.ext'; simpa using hx
      have et : tys = #[t] := by apply Array.ext'; simpa using ht
      subst ea et
      split at h
      · rename_i s hg hv
        cases h
        have F := tfacts (hΓ.get hg)
        simp [resolve, invoke, builtin, Builtin.len_, hs.ev hv, SV.den, F.run_und, goInt, IE.den, NE.den]
      · rename_i n _ hg hv
        cases h
        have F := tfacts (hΓ.get hg)
        simp [resolve, invoke, builtin, Builtin.len_, hs.ev hv, SV.den, F.run_und, goInt, IE.den, NE.den]
      · cases h
    · cases h
  · cases h
theorem SatK.evParts (hs : SatK C k ρ ro own st a w) {l : List (Nat × Operand)} {r : List (Nat × SV)} (h : evParts st l = some r) : l.map (fun p => (p.1, a.eval p.2)) = r.map fun p => (p.1, p.2.den k ρ) := hs.toE.evParts h
end
end Rx
