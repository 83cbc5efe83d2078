/-
  RX 7: entering and leaving a function; tests; rounds; calls.
-/
import Derived.Test.YthhcbfngjmiigaaGreatDoorRx6
import Derived.Deep.LoopGhost
set_option linter.all false
set_option linter.unusedSimpArgs false
set_option linter.unusedSectionVars false
set_option linter.unusedVariables false
namespace Rx
open Go

section
variable {C : Ctx} {k : Nat → Nat} {ρ : Env} {ro own : List Res} {st : St} {a : Act} {w : World} {P : Program} {Γ : Tab}

/-! ### what is known of memory at the beginning -/
structure Mem (C : Ctx) (k : Nat → Nat) (ρ : Env) (ro own : List Res) (bx : List Box) (nx : Nat) (ar : List (Nat × List CK)) (w : World) : Prop where
  box : ∀ b ∈ bx, w.heap[k b.id]? = some (boxObj k ρ b)
  bnew : ∀ b ∈ bx, C.w0.heap.size ≤ k b.id ∨ C.M (k b.id)
  bid : ∀ b ∈ bx, b.id < nx
  bdis : ∀ b ∈ bx, ∀ b' ∈ bx, b.id ≠ b'.id → k b.id ≠ k b'.id
  kept : Kept C.M C.w0 w
  res : ∀ r ∈ ro ++ own, r.P w ∧ ∀ x, r.F x → x < w.heap.size
  rbox : ∀ r ∈ ro ++ own, ∀ b ∈ bx, ¬ r.F (k b.id)
  odis : own.Pairwise (fun r s => ∀ x, ¬ (r.F x ∧ s.F x))
  oro : ∀ o ∈ own, ∀ r ∈ ro, ∀ x, ¬ (o.F x ∧ r.F x)
  onew : ∀ o ∈ own, ∀ x, o.F x → C.w0.heap.size ≤ x ∨ C.M x
  arr : ∀ q ∈ ar, (ρ.arr q.1).esz = q.2.length ∧ (∀ e ∈ (ρ.arr q.1).el, shapeOk q.2 e) ∧ View (ro ++ own) (ρ.arr q.1)
theorem Mem.none (w : World) (M : Nat → Prop) (k : Nat → Nat) (ρ : Env) (nx : Nat) : Mem ⟨w, M⟩ k ρ [] [] [] nx [] w :=
  ⟨by simp, by simp, by simp, by simp, Kept.refl _ _, by simp, by simp, by simp, by simp, by simp, by simp⟩
theorem Mem.reads {w : World} (M : Nat → Prop) (k : Nat → Nat) (ρ : Env) (nx : Nat) {ro : List Res} {ar : List (Nat × List CK)} (h : ∀ r ∈ ro, r.P w ∧ ∀ x, r.F x → x < w.heap.size)
    (ha : ∀ q ∈ ar, (ρ.arr q.1).esz = q.2.length ∧ (∀ e ∈ (ρ.arr q.1).el, shapeOk q.2 e) ∧ (ρ.arr q.1).res ∈ ro) : Mem ⟨w, M⟩ k ρ ro [] [] nx ar w :=
  ⟨by simp, by simp, by simp, by simp, Kept.refl _ _, by simpa using h, by simp, by simp, by simp, by simp, fun q hq => ⟨(ha q hq).1, (ha q hq).2.1, .here (List.mem_append_left _ (ha q hq).2.2)⟩⟩

def enumS (n : Nat) : List SV → List (Nat × SV)
  | [] => []
  | x :: l => (n, x) :: enumS (n + 1) l
theorem enumS_spec : ∀ {l : List SV} {n : Nat} {p : Nat × SV}, p ∈ enumS n l → n ≤ p.1 ∧ l[p.1 - n]? = some p.2 := by
  intro l
  induction l with
  | nil => intro n p h; cases h
  | cons x l ih =>
    intro n p h
    simp only [enumS, List.mem_cons] at h
    rcases h with rfl | h
    · simp
    · obtain ⟨h1, h2⟩ := ih h
      refine ⟨by omega, ?_⟩
      rw [show p.1 - n = (p.1 - (n + 1)) + 1 by omega]
      simpa using h2
theorem rx_enter {f : Nat} {fn : Func} {c : Code} {args : Array Value} {w : World} {R : Ending → World → Prop} {M : Nat → Prop} (hf : P.funcs[f]? = some fn) (hb : fn.body = some c)
    (k : Nat → Nat) (ρ : Env) (svs : List SV) (hargs : args = (SV.dens k ρ svs).toArray) {ro own : List Res} {bx : List Box} {nx : Nat} {ar : List (Nat × List CK)} (hm : Mem ⟨w, M⟩ k ρ ro own bx nx ar w)
    (N : Nat) (hN : svs.length + (fn.ntmps - svs.length) = N)
    (h : ∀ a, Sat ⟨w, M⟩ ρ ro own ⟨N, enumS 0 svs, bx, nx, ar⟩ a w → Wk P [.c c] (bodyPost P fn R) a w) : Calls P f args w R := by
  refine calls_of_wp hf hb ?_
  refine wp_mono (h _ ⟨k, rfl, ?_, ?_, hm.box, hm.bnew, hm.bid, hm.bdis, hm.kept, hm.res, hm.rbox, hm.odis, hm.oro, hm.onew, hm.arr⟩) (fun _ _ _ h => h)
  · simp [hargs, dens_map, ← hN]
  · intro p hp
    obtain ⟨_, h2⟩ := enumS_spec hp
    have hlt : p.1 < svs.length := by
      have := (List.getElem?_eq_some_iff.1 h2).1
      omega
    refine ⟨by simp only; omega, ?_⟩
    subst hargs
    rw [Array.getElem?_append_left (by simp [dens_map]; exact hlt)]
    simp only [Nat.sub_zero] at h2
    simp [dens_map, h2]

/-- A function of plain values. -/
theorem rx_enter0 {f : Nat} {fn : Func} {c : Code} {args : Array Value} {w : World} {R : Ending → World → Prop} (hf : P.funcs[f]? = some fn) (hb : fn.body = some c)
    (ρ : Env) (svs : List SV) (hargs : args = (SV.dens (fun _ => 0) ρ svs).toArray) (N : Nat) (hN : svs.length + (fn.ntmps - svs.length) = N)
    (h : ∀ a, Sat ⟨w, fun _ => False⟩ ρ [] [] ⟨N, enumS 0 svs, [], 0, []⟩ a w → Wk P [.c c] (bodyPost P fn R) a w) : Calls P f args w R :=
  rx_enter hf hb _ ρ svs hargs (Mem.none w _ _ ρ 0) N hN h

/-! ### results -/
def resS (Γ : Tab) (st : St) : List ResultVar → Option (List SV)
  | [] => some []
  | .tmp t :: l => match look st.sl t, resS Γ st l with
    | some v, some r => some (v :: r)
    | _, _ => none
  | .cell x t :: l => match look st.sl x, Γ.get t with
    | some (.ptr (.box i off)), some ti => match findBox st.bx i with
      | some b => match loadS ti b.cells off, resS Γ st l with
        | some v, some r => some (v :: r)
        | _, _ => none
      | none => none
    | _, _ => none
def retV : List SV → SV
  | [x] => x
  | l => .tup l
def getR (tmps : Array Value) : ResultVar → Sem Value
  | .tmp t => pure (tmps.getD t undef)
  | .cell x t => do loadVar t (← asAddr (tmps.getD x undef))
theorem results_eq (fn : Func) (tmps : Array Value) : results fn tmps = (do let vs ← fn.results.mapM (getR tmps); pure (if h : vs.size = 1 then vs[0] else .tuple vs)) := by
  have : getR tmps = (fun x : ResultVar => (match x with | .tmp t => (pure (tmps.getD t undef) : Sem Value) | .cell a t => (do loadVar t (← asAddr (tmps.getD a undef)) : Sem Value))) := by funext x; cases x <;> rfl
  rw [this]; rfl
theorem asAddr_run (ad : Addr) (w : World) : (asAddr (.pointer (some ad))).run P w = .ok ad w := rfl
theorem resS_run (hΓ : TabOk P Γ) (hs : SatK C k ρ ro own st a w) : ∀ {l : List ResultVar} {vs : List SV}, resS Γ st l = some vs →
    (l.mapM (getR a.tmps)).run P w = .ok (SV.dens k ρ vs) w := by
  intro l
  induction l with
  | nil => intro vs h; simp only [resS, Option.some.injEq] at h; subst h; rfl
  | cons x l ih =>
    intro vs h
    cases x with
    | tmp t =>
      simp only [resS] at h
      split at h
      · rename_i v r hv hr
        cases h
        simp only [List.mapM_cons, getR, Sem.run_bind, Sem.run_pure, Result.andThen_ok, ih hr, hs.look hv, SV.dens]
      · cases h
    | cell x t =>
      simp only [resS] at h
      split at h
      · rename_i i off ti hx hg
        split at h
        · rename_i b hb
          split at h
          · rename_i v r hv hr
            cases h
            obtain ⟨hm, hid⟩ := findBox_mem hb
            have hbox := hs.box b hm
            rw [hid] at hbox
            have := run_loadVar (tfacts (hΓ.get hg)) (k := k) (ρ := ρ) (off := off) hbox hv
            simp only [List.mapM_cons, getR, Sem.run_bind, Sem.run_pure, Result.andThen_ok, hs.look hx, SV.den, AE.den, asAddr_run, this, ih hr, SV.dens]
          · cases h
        · cases h
      · cases h
theorem results_run (hΓ : TabOk P Γ) (hs : SatK C k ρ ro own st a w) {fn : Func} {vs : List SV} (h : resS Γ st fn.results.toList = some vs) : (results fn a.tmps).run P w = .ok ((retV vs).den k ρ) w := by
  have h1 := resS_run hΓ hs h
  have h2 := array_mapM_run (P := P) _ fn.results w h1
  rw [results_eq, Sem.run_bind, h2]
  simp only [Result.andThen_ok, Sem.run_pure]
  congr 1
  cases vs with
  | nil => rfl
  | cons x l => cases l with
    | nil => simp [SV.dens, retV]
    | cons y l => simp [SV.dens, retV, SV.den]
theorem ret_ok (hΓ : TabOk P Γ) {fn : Func} {R : Ending → World → Prop} {ks : List KI} {vs : List SV} (hs : Sat C ρ ro own st a w) (h : resS Γ st fn.results.toList = some vs)
    (hR : ∀ k, SatK C k ρ ro own st a w → R (.returned ((retV vs).den k ρ)) w) : Wk P (.c .ret :: ks) (bodyPost P fn R) a w := by
  obtain ⟨k, hk⟩ := hs
  exact Wk_ret ⟨hk.defers, _, results_run hΓ hk h, hR k hk⟩
theorem end_ok (hΓ : TabOk P Γ) {fn : Func} {R : Ending → World → Prop} {vs : List SV} (hs : Sat C ρ ro own st a w) (h : resS Γ st fn.results.toList = some vs)
    (hR : ∀ k, SatK C k ρ ro own st a w → R (.returned ((retV vs).den k ρ)) w) : Wk P [] (bodyPost P fn R) a w := by
  obtain ⟨k, hk⟩ := hs
  exact ⟨hk.defers, _, results_run hΓ hk h, hR k hk⟩
/-- Returning out of a round. -/
theorem ret_in (hΓ : TabOk P Γ) {fn : Func} {R : Ending → World → Prop} {ks ks' : List KI} {vs : List SV} (hs : Sat C ρ ro own st a w) (h : resS Γ st fn.results.toList = some vs)
    (hR : ∀ k, SatK C k ρ ro own st a w → R (.returned ((retV vs).den k ρ)) w) {N : Act → World → Prop} : Wk P (.c .ret :: ks) (Exit.then N (Kx P ks' (bodyPost P fn R))) a w := by
  obtain ⟨k, hk⟩ := hs
  refine Wk_ret ?_
  show Kx P ks' (bodyPost P fn R) .ret a w
  rw [Kx_ret]
  exact ⟨hk.defers, _, results_run hΓ hk h, hR k hk⟩

/-- What a return leads to, however many rounds stand around it. -/
def RetQ (B Q : Exit → Act → World → Prop) : Prop := ∀ a w, B .ret a w → Q .ret a w
theorem RetQ.base (B : Exit → Act → World → Prop) : RetQ B B := fun _ _ h => h
theorem RetQ.loop {B Q : Exit → Act → World → Prop} (h : RetQ B Q) (N : Act → World → Prop) (ks : List KI) : RetQ B (Exit.then N (Kx P ks Q)) := fun a w hb => by
  show Kx P ks Q .ret a w
  rw [Kx_ret]; exact h a w hb
theorem ret_at (hΓ : TabOk P Γ) {fn : Func} {R : Ending → World → Prop} {Q : Exit → Act → World → Prop} (hq : RetQ (bodyPost P fn R) Q) {ks : List KI} {vs : List SV} (hs : Sat C ρ ro own st a w) (h : resS Γ st fn.results.toList = some vs)
    (hR : ∀ k, SatK C k ρ ro own st a w → R (.returned ((retV vs).den k ρ)) w) : Wk P (.c .ret :: ks) Q a w := by
  obtain ⟨k, hk⟩ := hs
  exact Wk_ret (hq _ _ ⟨hk.defers, _, results_run hΓ hk h, hR k hk⟩)
/-- Leaving rounds. -/
theorem exit_in {id : Nat} {ks ks' r : List KI} {N : Act → World → Prop} {Q : Exit → Act → World → Prop} (h1 : popTo id ks = none) (h2 : popTo id ks' = some r) (h : Wk P r Q a w) : Wk P (.c (.exit id) :: ks) (Exit.then N (Kx P ks' Q)) a w := by
  refine Wk_exit ?_
  rw [Kx_none h1]
  show Kx P ks' Q (.exit id) a w
  rw [Kx_exit h2]; exact h
/-- .. two rounds at once. -/
theorem exit_in2 {id : Nat} {ks ks' : List KI} {N N' : Act → World → Prop} {Q : Exit → Act → World → Prop} (h1 : popTo id ks = none) (h2 : popTo id ks' = none) (h : Kx P [] (Exit.then N' Q) (.exit id) a w) : Wk P (.c (.exit id) :: ks) (Exit.then N (Kx P ks' (Exit.then N' Q))) a w := by
  refine Wk_exit ?_
  rw [Kx_none h1]
  show Kx P ks' _ (.exit id) a w
  rw [Kx_none h2]; exact h

/-! ### tests -/
theorem rx_split {ks : List KI} {Q : Exit → Act → World → Prop} (hs : Sat C ρ ro own st a w) (d : Nat) {e : BE} (hl : look st.sl d = some (.bool e))
    (h : ∀ k b, e.den k ρ = b → Sat C ρ ro own (st.put d (.bool (.c b))) a w → Wk P ks Q a w) : Wk P ks Q a w := by
  obtain ⟨k, hk⟩ := hs
  refine h k (e.den k ρ) rfl ⟨k, ?_⟩
  have hm := hk.slot _ (look_mem hl)
  refine { hk with slot := ?_ }
  intro p hp
  simp only [St.put, List.mem_cons, List.mem_filter] at hp
  rcases hp with rfl | ⟨hp, _⟩
  · show d < st.N ∧ _
    simpa [SV.den, BE.den] using hm
  · exact hk.slot p hp

/-! ### rounds -/
theorem rx_loop {α : Type} {body : Code} {ks : List KI} {Q : Exit → Act → World → Prop} (I : α → Act → World → Prop) (μ : α → Nat) (x0 : α) (h0 : I x0 a w)
    (hb : ∀ x a w, I x a w → Wk P [.c body] (Exit.then (fun a' w' => ∃ y, μ y < μ x ∧ I y a' w') (Kx P ks Q)) a w) : Wk P (.c (.loop body) :: ks) Q a w := by
  refine wp_loop_ghost (fun n a w => ∃ x, μ x = n ∧ I x a w) (μ x0) ⟨x0, rfl, h0⟩ ?_
  rintro n a w ⟨x, rfl, hI⟩
  refine wp_mono (hb x a w hI : body.wp P (Kx P [] _) a w) ?_
  intro e a w h
  cases e with
  | normal =>
    obtain ⟨y, hy, hI'⟩ := h
    exact ⟨μ y, hy, y, rfl, hI'⟩
  | _ => exact h

/-! ### another spelling of the same state -/
theorem SatK.conv (hs : SatK C k ρ ro own st a w) {ρ' : Env} {sl' : List (Nat × SV)} {bx' : List Box} {nx' : Nat} {ar' : List (Nat × List CK)}
    (hsl : ∀ p ∈ sl', ∃ v, Rx.look st.sl p.1 = some v ∧ v.den k ρ = p.2.den k ρ')
    (hbx : ∀ b ∈ bx', ∃ b0 ∈ st.bx, b0.id = b.id ∧ boxObj k ρ b0 = boxObj k ρ' b) (hnx : ∀ b ∈ bx', b.id < nx')
    (har : ∀ q ∈ ar', (q ∈ st.ar ∧ ρ.arr q.1 = ρ'.arr q.1)) : SatK C k ρ' ro own ⟨st.N, sl', bx', nx', ar'⟩ a w where
  defers := hs.defers
  size := hs.size
  slot := by
    intro p hp
    obtain ⟨v, h1, h2⟩ := hsl p hp
    have := hs.slot _ (look_mem h1)
    exact ⟨this.1, by rw [← h2]; exact this.2⟩
  box := by
    intro b hb
    obtain ⟨b0, h1, h2, h3⟩ := hbx b hb
    rw [← h2, ← h3]; exact hs.box b0 h1
  bnew := by
    intro b hb
    obtain ⟨b0, h1, h2, _⟩ := hbx b hb
    rw [← h2]; exact hs.bnew b0 h1
  bid := by
    intro b hb
    exact hnx b hb
  bdis := by
    intro b hb b' hb' hne
    obtain ⟨b0, h1, h2, _⟩ := hbx b hb
    obtain ⟨b0', h1', h2', _⟩ := hbx b' hb'
    rw [← h2, ← h2']; exact hs.bdis b0 h1 b0' h1' (by rw [h2, h2']; exact hne)
  kept := hs.kept
  res := hs.res
  rbox := by
    intro r hr b hb
    obtain ⟨b0, h1, h2, _⟩ := hbx b hb
    rw [← h2]; exact hs.rbox r hr b0 h1
  odis := hs.odis
  oro := hs.oro
  onew := hs.onew
  arr := by
    intro q hq
    obtain ⟨h1, h2⟩ := har q hq
    rw [← h2]; exact hs.arr q h1
end

def convSl (k : Nat → Nat) (ρ ρ' : Env) (sl : List (Nat × SV)) : List (Nat × SV) → Prop
  | [] => True
  | (t, x) :: l => (match look sl t with | some v => v.den k ρ = x.den k ρ' | none => False) ∧ convSl k ρ ρ' sl l
def convBx (k : Nat → Nat) (ρ ρ' : Env) (bx : List Box) : List Box → Prop
  | [] => True
  | b :: l => (match findBox bx b.id with | some b0 => b0.ty = b.ty ∧ SV.dens k ρ b0.cells = SV.dens k ρ' b.cells | none => False) ∧ convBx k ρ ρ' bx l
def convAr (ρ ρ' : Env) (ar : List (Nat × List CK)) : List (Nat × List CK) → Prop
  | [] => True
  | (m, c) :: l => findAr ar m = some c ∧ ρ.arr m = ρ'.arr m ∧ convAr ρ ρ' ar l
theorem Sat.to {C : Ctx} {ρ : Env} {ro own : List Res} {st : St} {a : Act} {w : World} (hs : Sat C ρ ro own st a w) (ρ' : Env) (st' : St) (hN : st'.N = st.N) (hnx : (st'.bx.all fun b => Decidable.decide (b.id < st'.nx)) = true)
    (h1 : ∀ k, convSl k ρ ρ' st.sl st'.sl) (h2 : ∀ k, convBx k ρ ρ' st.bx st'.bx) (h3 : convAr ρ ρ' st.ar st'.ar) : Sat C ρ' ro own st' a w := by
  obtain ⟨k, hk⟩ := hs
  refine ⟨k, ?_⟩
  obtain ⟨N, sl, bx, nx, ar⟩ := st'
  simp only at hN hnx h1 h2 h3
  subst hN
  have hnx' : ∀ b ∈ bx, b.id < nx := by simpa using hnx
  clear hnx
  refine hk.conv ?_ ?_ hnx' ?_ <;> clear hnx'
  · have := h1 k
    clear h1
    induction sl with
    | nil => simp
    | cons p l ih =>
      obtain ⟨t, x⟩ := p
      intro q hq
      simp only [convSl] at this
      simp only [List.mem_cons] at hq
      rcases hq with rfl | hq
      · have h := this.1
        split at h
        · rename_i v hv; exact ⟨v, hv, h⟩
        · exact h.elim
      · exact ih this.2 q hq
  · have := h2 k
    clear h2
    induction bx with
    | nil => simp
    | cons b l ih =>
      intro q hq
      simp only [convBx] at this
      simp only [List.mem_cons] at hq
      rcases hq with rfl | hq
      · have h := this.1
        split at h
        · rename_i b0 hb
          obtain ⟨hm, hid⟩ := findBox_mem hb
          exact ⟨b0, hm, hid, by simp [boxObj, h.1, h.2]⟩
        · exact h.elim
      · exact ih this.2 q hq
  · clear h1 h2
    induction ar with
    | nil => simp
    | cons p l ih =>
      obtain ⟨m, c⟩ := p
      intro q hq
      simp only [convAr] at h3
      simp only [List.mem_cons] at hq
      rcases hq with rfl | hq
      · exact ⟨findAr_mem h3.1, h3.2.1⟩
      · exact ih h3.2.2 q hq
attribute [simp] SE.den NE.den IE.den AE.den ME.den BE.den SV.den SV.dens Rx.look Rx.findBox Rx.findAr convSl convBx convAr obs Ob.den Rx.icmp Rx.scmp Rx.iop Env.arr Env.cell retV

theorem wrap_u64 (n : Int) : IntKind.u64.wrap n = n % 18446744073709551616 := by simp [IntKind.wrap, IntKind.signed, IntKind.bits]
theorem wrap_id {n : Int} (h0 : -9223372036854775808 ≤ n) (h1 : n ≤ 9223372036854775807) : IntKind.i64.wrap n = n := by
  simp only [IntKind.wrap, IntKind.signed, IntKind.bits]
  simp
  omega
/-! ### calls -/
def calleeS (st : St) (op : Op) : Option (Nat × List SV) :=
  match op with
  | .call ⟨.value x, args, _⟩ => match ev st x, evs st args.toList with
    | some (.fn (.func f) first cap), some vs => some (f, first ++ vs ++ cap)
    | _, _ => none
  | _ => none
theorem callFunc_enter {P : Program} {f : Nat} {fn : Func} (hf : P.funcs[f]? = some fn) (hb : fn.body.isSome = true) (hn : (fn.name == "runtime.NumGoroutine") = false) (args : Array Value) (w : World) :
    (callFunc f args).run P w = .ok (.enter f args) w := by
  have : fn.body.isNone = false := by cases h : fn.body <;> simp_all
  simp only [callFunc, Sem.run_bind, run_program, Result.andThen_ok, hf, hn, this, Bool.false_eq_true, if_false, Sem.run_pure]
theorem dens_append (k : Nat → Nat) (ρ : Env) (x y : List SV) : SV.dens k ρ (x ++ y) = SV.dens k ρ x ++ SV.dens k ρ y := by simp [dens_map]
theorem rx_call {C : Ctx} {ρ : Env} {ro own : List Res} {st : St} {a : Act} {w : World} {P : Program} {all : Array Oper} {o : Oper} {rest : List Oper} {ks : List KI} {Q : Exit → Act → World → Prop}
    (hs : Sat C ρ ro own st a w) {f : Nat} {fn : Func} {vs : List SV} (hc : calleeS st o.op = some (f, vs)) (hg : guardS all st o = .run)
    (hf : P.funcs[f]? = some fn) (hb : fn.body.isSome = true) (hn : (fn.name == "runtime.NumGoroutine") = false)
    (h : ∀ k, SatK C k ρ ro own st a w → Calls P f (SV.dens k ρ vs).toArray w fun e w' => ∃ v, e = .returned v ∧ Wk P (.ops all rest :: ks) Q (a.put o.dst v) w') :
    Wk P (.ops all (o :: rest) :: ks) Q a w := by
  obtain ⟨k, hk⟩ := hs
  refine wpList_run (Q := Kx P ks Q) (guardS_run hk hg) ?_
  obtain ⟨dst, op, type, pos, after, guard⟩ := o
  simp only at hc
  unfold calleeS at hc
  split at hc
  · rename_i x args tys
    split at hc
    · rename_i f' first cap vs' hx hv
      cases hc
      unfold Oper.wp
      have ha : args.map a.eval = (SV.dens k ρ vs').toArray := by apply Array.ext'; simp [hk.evs hv]
      have hr : (execOp a.eval ⟨dst, .call ⟨.value x, args, tys⟩, type, pos, after, guard⟩).run P w = .ok (.enter f (SV.dens k ρ (first ++ vs' ++ cap)).toArray) w := by
        simp only [execOp, resolve, Sem.run_bind, hk.ev hx, SV.den, Deferred.ofValue, Sem.run_pure, Result.andThen_ok, invoke, ha]
        rw [callFunc_enter hf hb hn]
        simp [dens_append]
      rw [hr]
      refine (h k hk).mono ?_
      rintro e w' ⟨v, rfl, hw⟩
      exact hw
    · cases hc
  · cases hc
end Rx
