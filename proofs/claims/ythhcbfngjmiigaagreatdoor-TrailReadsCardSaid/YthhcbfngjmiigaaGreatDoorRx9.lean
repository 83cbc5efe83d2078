/-
  RX 9: the executor in a region whose order is open.
-/
import Derived.Test.YthhcbfngjmiigaaGreatDoorRx8
set_option linter.all false
set_option linter.unusedSimpArgs false
set_option linter.unusedSectionVars false
set_option linter.unusedVariables false
namespace Rx
open Go

structure RnC (M : Nat → Prop) (k : Nat → Nat) (ρ : Env) (ms mar : List Nat) (nx0 n0 : Nat) (l : List Res) (st : St) (w : World) : Prop where
  old : ∀ b ∈ st.bx, b.id < nx0 → b.id ∉ ms → ¬ M (k b.id)
  muts : ∀ b ∈ st.bx, (b.id ∈ ms ∨ nx0 ≤ b.id) → M (k b.id)
  new : ∀ x, n0 ≤ x → M x
  n0 : n0 ≤ w.heap.size
  nx : nx0 ≤ st.nx
  res : ∀ q ∈ st.ar, q.1 ∉ mar → ∃ r ∈ l, (∀ w, r.P w → (ρ.arr q.1).res.P w) ∧ ∀ x, r.F x → ¬ M x
def calm (ms mar : List Nat) (nx0 : Nat) (st : St) : St := { st with bx := st.bx.filter fun b => decide (b.id < nx0) && !ms.contains b.id, ar := st.ar.filter fun q => !mar.contains q.1 }
section
variable {C : Ctx} {k : Nat → Nat} {ρ : Env} {ro own : List Res} {st : St} {a : Act} {w : World} {P : Program} {Γ : Tab} {M : Nat → Prop} {ms mar : List Nat} {nx0 n0 : Nat} {ops : Array Oper} {Q : Exit → Act → World → Prop}
theorem calm_later (hs : SatK C k ρ ro own st a w) (hc : RnC M k ρ ms mar nx0 n0 (ro ++ own) st w) {w' : World} (hf : Fr M w w') : SatE k ρ (calm ms mar nx0 st) a w' := by
  refine ⟨fun p hp => (hs.slot p hp).2, fun b hb => ?_, fun q hq => ?_⟩
  · simp only [calm, List.mem_filter, Bool.and_eq_true, decide_eq_true_eq, Bool.not_eq_true', List.contains_eq_mem, decide_eq_false_iff_not] at hb
    rw [hf.block _ (hs.boxlt hb.1) (hc.old b hb.1 hb.2.1 hb.2.2)]
    exact hs.box b hb.1
  · simp only [calm, List.mem_filter, Bool.not_eq_true', List.contains_eq_mem, decide_eq_false_iff_not] at hq
    obtain ⟨h1, h2, _⟩ := hs.arr q hq.1
    obtain ⟨r, hr, h3, h4⟩ := hc.res q hq.1 hq.2
    have hrr := hs.res r hr
    exact ⟨h1, h2, h3 _ (r.stay w w' (fun x hx => hf.block x (hrr.2 x hx) (h4 x hx)) hrr.1)⟩

def consN (ob : List Ob) (r : St × List (Nat × Bool) × List Ob × List Bool) : St × List (Nat × Bool) × List Ob × List Bool := (r.1, r.2.1, ob ++ r.2.2.1, r.2.2.2)
def stOk (ms : List Nat) (nx0 : Nat) (st : St) (op : Op) : Bool :=
  match stW st op with
  | some i => ms.contains i || decide (nx0 ≤ i)
  | none => true
def oneRn (Γ : Tab) (ms mar : List Nat) (nx0 : Nat) (q : Bool) (st : St) (o : Oper) : Option (St × List Ob) :=
  if q then (match evalOp Γ (calm ms mar nx0 st) o.op with
    | some (v, ob) => withOb (putD st o.dst v) ob
    | none => none)
  else if stOk ms nx0 st o.op then stepOp Γ st o else none
def execRn (Γ : Tab) (ops : Array Oper) (ms mar : List Nat) (nx0 : Nat) : List Bool → St → List (Nat × Bool) → St × List (Nat × Bool) × List Ob × List Bool
  | ds, st, [] => (st, [], [], ds)
  | ds, st, (i, q) :: l => match ops.toList[i]? with
    | none => (st, (i, q) :: l, [], ds)
    | some o => match guardS ops st o with
      | .run => match oneRn Γ ms mar nx0 q st o with
        | some (st', ob) => consN ob (execRn Γ ops ms mar nx0 ds st' l)
        | none => (st, (i, q) :: l, [], ds)
      | .skip => match putD st o.dst (.tup []) with
        | some st' => execRn Γ ops ms mar nx0 ds st' l
        | none => (st, (i, q) :: l, [], ds)
      | .ask d e => match ds with
        | [] => (st, (i, q) :: l, [], [])
        | b :: ds => if e.bnd 0 = true ∧ o.guard.map (·.2) = some b then
            match oneRn Γ ms mar nx0 q (st.put d (.bool (.c b))) o with
            | some (st', ob) => consN (.is e b :: ob) (execRn Γ ops ms mar nx0 ds st' l)
            | none => (st, (i, q) :: l, [], b :: ds)
          else if e.bnd 0 = true ∧ o.guard.map (·.2) = some (!b) then
            match putD (st.put d (.bool (.c b))) o.dst (.tup []) with
            | some st' => consN [.is e b] (execRn Γ ops ms mar nx0 ds st' l)
            | none => (st, (i, q) :: l, [], b :: ds)
          else (st, (i, q) :: l, [], b :: ds)
      | .stuck => (st, (i, q) :: l, [], ds)

theorem oneRn_nx {q : Bool} {o : Oper} {st st' : St} {ob : List Ob} (h : oneRn Γ ms mar nx0 q st o = some (st', ob)) : (st'.bx = st.bx ∧ st'.nx = st.nx ∧ st'.ar = st.ar) ∨ stepOp Γ st o = some (st', ob) := by
  unfold oneRn at h
  split at h
  · left
    split at h
    · rename_i v ob' hv
      cases hp : putD st o.dst v with
      | none => rw [hp] at h; cases h
      | some s =>
        rw [hp] at h
        simp only [withOb, Option.map_some, Option.some.injEq, Prod.mk.injEq] at h
        obtain ⟨rfl, _⟩ := h
        unfold putD at hp
        split at hp
        · cases hp; exact ⟨rfl, rfl, rfl⟩
        · split at hp
          · cases hp; exact ⟨rfl, rfl, rfl⟩
          · cases hp
    · cases h
  · split at h
    · exact .inr h
    · cases h
theorem setBox_ids {bx : List Box} {i : Nat} {cells : List SV} {b : Box} (h : b ∈ setBox bx i cells) : ∃ b0 ∈ bx, b0.id = b.id := by
  simp only [setBox, List.mem_map] at h
  obtain ⟨b0, h0, rfl⟩ := h
  exact ⟨b0, h0, by split <;> rfl⟩
theorem putD_bx {st st' : St} {d : Option Tmp} {v : SV} (h : putD st d v = some st') : st'.bx = st.bx ∧ st'.nx = st.nx ∧ st'.ar = st.ar := by
  unfold putD at h
  split at h
  · cases h; exact ⟨rfl, rfl, rfl⟩
  · split at h
    · cases h; exact ⟨rfl, rfl, rfl⟩
    · cases h
theorem newBox_bx {st st' : St} {ty : Nat} {cells : List SV} {d : Option Tmp} {mk : Nat → SV} (h : newBox st ty cells d mk = some st') : st'.bx = ⟨st.nx, ty, cells⟩ :: st.bx ∧ st'.nx = st.nx + 1 ∧ st'.ar = st.ar := by
  unfold newBox at h
  split at h
  · have := putD_bx h; exact this
  · cases h
theorem stepOp_bx {st st' : St} {o : Oper} {ob : List Ob} (h : stepOp Γ st o = some (st', ob)) : st'.ar = st.ar ∧ st.nx ≤ st'.nx ∧ ∀ b ∈ st'.bx, (∃ b0 ∈ st.bx, b0.id = b.id) ∨ b.id = st.nx := by
  have triv : ∀ {s : St}, s.bx = st.bx ∧ s.nx = st.nx ∧ s.ar = st.ar → s.ar = st.ar ∧ st.nx ≤ s.nx ∧ ∀ b ∈ s.bx, (∃ b0 ∈ st.bx, b0.id = b.id) ∨ b.id = st.nx := by
    rintro s ⟨h1, h2, h3⟩
    rw [h1, h2]
    exact ⟨h3, Nat.le_refl _, fun b hb => .inl ⟨b, hb, rfl⟩⟩
  have nb : ∀ {s : St} {ty : Nat} {cells : List SV} {d : Option Tmp} {mk : Nat → SV}, newBox st ty cells d mk = some s → s.ar = st.ar ∧ st.nx ≤ s.nx ∧ ∀ b ∈ s.bx, (∃ b0 ∈ st.bx, b0.id = b.id) ∨ b.id = st.nx := by
    intro s ty cells d mk hn
    obtain ⟨h1, h2, h3⟩ := newBox_bx hn
    rw [h1, h2]
    refine ⟨h3, by omega, fun b hb => ?_⟩
    simp only [List.mem_cons] at hb
    rcases hb with rfl | hb
    · exact .inr rfl
    · exact .inl ⟨b, hb, rfl⟩
  unfold stepOp at h
  split at h
  · rename_i v ob' hv
    cases hp : putD st o.dst v with
    | none => rw [hp] at h; cases h
    | some s =>
      rw [hp] at h
      simp only [withOb, Option.map_some, Option.some.injEq, Prod.mk.injEq] at h
      obtain ⟨rfl, _⟩ := h
      exact triv (putD_bx hp)
  · cases he : effOp Γ st o.dst o.op with
    | none => rw [he] at h; cases h
    | some s =>
      rw [he] at h
      simp only [noOb, Option.map_some, Option.some.injEq, Prod.mk.injEq] at h
      obtain ⟨rfl, _⟩ := h
      unfold effOp at he
      split at he
      · split at he
        · exact nb he
        · cases he
      · split at he
        · split at he
          · exact nb he
          · cases he
        · cases he
      · split at he
        · split at he
          · split at he
            · split at he
              · exact nb he
              · cases he
            · cases he
          · cases he
        · cases he
      · split at he
        · split at he
          · split at he
            · cases he
              refine ⟨rfl, Nat.le_refl _, fun b hb => .inl (setBox_ids hb)⟩
            · cases he
          · cases he
        · cases he
      · cases he

theorem RnC.next {k' : Nat → Nat} {st' : St} {w' : World} (hs : SatK C k ρ ro own st a w) (hc : RnC M k ρ ms mar nx0 n0 (ro ++ own) st w) {a' : Act} (hs' : SatK C k' ρ ro own st' a' w') (hk : ∀ i, i < st.nx → k' i = k i) (hw : w.heap.size ≤ w'.heap.size)
    (hb : st'.ar = st.ar ∧ st.nx ≤ st'.nx ∧ ∀ b ∈ st'.bx, (∃ b0 ∈ st.bx, b0.id = b.id) ∨ b.id = st.nx) (hnew : ∀ b ∈ st'.bx, b.id = st.nx → n0 ≤ k' b.id) : RnC M k' ρ ms mar nx0 n0 (ro ++ own) st' w' where
  old := by
    intro b h1 h2 h3
    rcases hb.2.2 b h1 with ⟨b0, h4, h5⟩ | h4
    · rw [← h5, hk _ (hs.bid b0 h4)]
      exact hc.old b0 h4 (by rw [h5]; exact h2) (by rw [h5]; exact h3)
    · have := hc.nx; omega
  muts := by
    intro b h1 h2
    rcases hb.2.2 b h1 with ⟨b0, h4, h5⟩ | h4
    · rw [← h5, hk _ (hs.bid b0 h4)]
      exact hc.muts b0 h4 (by rw [h5]; exact h2)
    · exact hc.new _ (hnew b h1 h4)
  new := hc.new
  n0 := Nat.le_trans hc.n0 hw
  nx := Nat.le_trans hc.nx hb.2.1
  res := by rw [hb.1]; exact hc.res

/-- An operation in the chain, done by the executor, tells where a new box lies. -/
theorem execRn_sound (hΓ : TabOk P Γ) : ∀ {e : List (Nat × Bool)} {ds ds' : List Bool} {st st' : St} {rest : List (Nat × Bool)} {ob : List Ob} {k : Nat → Nat} {a : Act} {w : World}, execRn Γ ops ms mar nx0 ds st e = (st', rest, ob, ds') → obs ρ ob →
    SatK C k ρ ro own st a w → RnC M k ρ ms mar nx0 n0 (ro ++ own) st w →
    (∀ k' a' w', SatK C k' ρ ro own st' a' w' → RnC M k' ρ ms mar nx0 n0 (ro ++ own) st' w' → Rn P ops Q M rest a' w') → Rn P ops Q M e a w := by
  intro e
  induction e with
  | nil => intro ds ds' st st' rest ob k a w h hob hs hc hK; cases h; exact hK _ _ _ hs hc
  | cons p l ih =>
    obtain ⟨i, q⟩ := p
    intro ds ds' st st' rest ob k a w h hob hs hc hK
    unfold execRn at h
    cases ho : ops.toList[i]? with
    | none => rw [ho] at h; cases h; exact hK _ _ _ hs hc
    | some o =>
      rw [ho] at h
      simp only at h
      have ho' : ops[i]? = some o := by simpa using ho
      have one : ∀ {st : St} {a : Act} {st1 : St} {ob1 : List Ob} {ds1 : List Bool}, SatK C k ρ ro own st a w → RnC M k ρ ms mar nx0 n0 (ro ++ own) st w → Region.wanted o (yielded ops a.tmps) = true → oneRn Γ ms mar nx0 q st o = some (st1, ob1) → obs ρ ob1 →
          (∀ k1 a1 w1, SatK C k1 ρ ro own st1 a1 w1 → RnC M k1 ρ ms mar nx0 n0 (ro ++ own) st1 w1 → Rn P ops Q M l a1 w1) → Rn P ops Q M ((i, q) :: l) a w := by
        intro st a st1 ob1 ds1 hs hc hw h1 ho1 hk1
        simp only [Rn, ho', if_pos hw]
        have hbx := oneRn_nx h1
        unfold oneRn at h1
        cases q with
        | true =>
          simp only [if_true] at h1 ⊢
          split at h1
          · rename_i v ob' hv
            cases hp : putD st o.dst v with
            | none => rw [hp] at h1; cases h1
            | some s =>
              rw [hp] at h1
              simp only [withOb, Option.map_some, Option.some.injEq, Prod.mk.injEq] at h1
              obtain ⟨rfl, rfl⟩ := h1
              obtain ⟨b1, b2, b3⟩ := putD_bx hp
              refine ⟨v.den k ρ, fun w' hf => evalOp_run hΓ (calm_later hs hc hf) hv ho1, hk1 k _ _ (hs.putD hp) ?_⟩
              exact hc.next hs (hs.putD hp) (fun _ _ => rfl) (Nat.le_refl _) ⟨b3, by omega, fun b hb => .inl ⟨b, b1 ▸ hb, rfl⟩⟩ (fun b hb he => by have := hs.bid b (b1 ▸ hb); omega)
          · cases h1
        | false =>
          simp only [Bool.false_eq_true, if_false] at h1 ⊢
          split at h1
          · rename_i hst
            have hsb := stepOp_bx h1
            -- where a new box lies
            refine step_sound2 hΓ hs h1 ho1 fun k1 a1 w1 hs1 hk hnb hf => ?_
            have hfM : Fr M w w1 := hf.mono fun b hb => by
              obtain ⟨j, hj, rfl⟩ := hb
              unfold stOk at hst
              rw [hj] at hst
              simp only [Bool.or_eq_true, decide_eq_true_eq, List.contains_eq_mem] at hst
              have hex : ∃ bb ∈ st.bx, bb.id = j := by
                -- the store went to a box that is there
                unfold stW at hj
                split at hj
                · rename_i t x y hop
                  split at hj
                  · rename_i i' off hev
                    cases hj
                    unfold stepOp at h1
                    rw [hop] at h1
                    simp only [evalOp] at h1
                    cases he : effOp Γ st o.dst (.store t x y) with
                    | none => rw [he] at h1; cases h1
                    | some s2 =>
                      simp only [effOp] at he
                      split at he
                      · rename_i i2 off2 ti v hx hg hy
                        rw [hev] at hx
                        cases hx
                        split at he
                        · rename_i b l2 hb hl
                          obtain ⟨hm, hid⟩ := findBox_mem hb
                          exact ⟨b, hm, hid⟩
                        · cases he
                      · cases he
                  · cases hj
                · cases hj
              obtain ⟨bb, hbb, rfl⟩ := hex
              exact hc.muts bb hbb hst
            refine ⟨by rw [hs1.defers, hs.defers], .inr hfM, hk1 k1 a1 w1 hs1 ?_⟩
            refine hc.next hs hs1 hk hfM.size hsb fun b hb he => ?_
            have hlt := hs1.bid b hb
            rw [he] at hlt ⊢
            exact Nat.le_trans hc.n0 (hnb hlt)
          · cases h1
      split at h
      · rename_i hg
        split at h
        · rename_i st1 ob1 h1
          generalize he : execRn Γ ops ms mar nx0 ds st1 l = x at h
          obtain ⟨s2, r2, ob2, d2⟩ := x
          simp only [consN, Prod.mk.injEq] at h
          obtain ⟨rfl, rfl, rfl, rfl⟩ := h
          obtain ⟨o1, o2⟩ := obs_append hob
          exact one (ds1 := ds) hs hc (guardS_run hs hg) h1 o1 fun k1 a1 w1 hs1 hc1 => ih he o2 hs1 hc1 hK
        · cases h; exact hK _ _ _ hs hc
      · rename_i hg
        split at h
        · rename_i st1 h1
          simp only [Rn, ho']
          rw [if_neg (by simp [guardS_skip hs hg])]
          have hs1 := hs.putD h1
          obtain ⟨b1, b2, b3⟩ := putD_bx h1
          refine ih (k := k) h hob ?_ (hc.next hs hs1 (fun _ _ => rfl) (Nat.le_refl _) ⟨b3, by omega, fun b hb => .inl ⟨b, b1 ▸ hb, rfl⟩⟩ (fun b hb he => by have := hs.bid b (b1 ▸ hb); omega)) hK
          simpa [SV.den, SV.dens, undef] using hs1
        · cases h; exact hK _ _ _ hs hc
      · rename_i d e hg
        obtain ⟨hl, j, want, hgd, hwant⟩ := guardS_ask hs hg
        split at h
        · cases h; exact hK _ _ _ hs hc
        · rename_i b ds1
          have hcd : RnC M k ρ ms mar nx0 n0 (ro ++ own) (st.put d (.bool (.c b))) w := ⟨hc.old, hc.muts, hc.new, hc.n0, hc.nx, hc.res⟩
          split at h
          · rename_i hcc
            split at h
            · rename_i st1 ob1 h1
              generalize he : execRn Γ ops ms mar nx0 ds1 st1 l = x at h
              obtain ⟨s2, r2, ob2, d2⟩ := x
              simp only [consN, Prod.mk.injEq] at h
              obtain ⟨rfl, rfl, rfl, rfl⟩ := h
              obtain ⟨o1, o2⟩ := obs_append hob
              obtain ⟨o0, o1⟩ := o1
              have hb : e.den k ρ = b := (BE.den_any hcc.1 _ _ ρ).trans o0
              have hwb : want = b := by simpa [hgd] using hcc.2
              exact one (ds1 := ds1) (hs.decide hl hb) hcd (by rw [hwant, hb, hwb]; simp) h1 o1 fun k1 a1 w1 hs1 hc1 => ih he o2 hs1 hc1 hK
            · cases h; exact hK _ _ _ hs hc
          · split at h
            · rename_i hcc
              split at h
              · rename_i st1 h1
                generalize he : execRn Γ ops ms mar nx0 ds1 st1 l = x at h
                obtain ⟨s2, r2, ob2, d2⟩ := x
                simp only [consN, Prod.mk.injEq] at h
                obtain ⟨rfl, rfl, rfl, rfl⟩ := h
                obtain ⟨o1, o2⟩ := obs_append hob
                obtain ⟨o0, _⟩ := o1
                have hb : e.den k ρ = b := (BE.den_any hcc.1 _ _ ρ).trans o0
                have hwb : want = !b := by simpa [hgd] using hcc.2
                have hsd := hs.decide hl hb
                have hs1 := hsd.putD h1
                obtain ⟨b1, b2, b3⟩ := putD_bx h1
                simp only [Rn, ho']
                rw [if_neg (by rw [hwant, hb, hwb]; cases b <;> simp)]
                refine ih (k := k) he o2 ?_ (hcd.next hsd hs1 (fun _ _ => rfl) (Nat.le_refl _) ⟨b3, by omega, fun b hb => .inl ⟨b, b1 ▸ hb, rfl⟩⟩ (fun b' hb' he' => by have := hsd.bid b' (b1 ▸ hb'); omega)) hK
                simpa [SV.den, SV.dens, undef] using hs1
              · cases h; exact hK _ _ _ hs hc
            · cases h; exact hK _ _ _ hs hc
      · cases h; exact hK _ _ _ hs hc
theorem SatK.drew (hs : SatK C k ρ ro own st a w) : SatK C k ρ ro own st a w.drew :=
  ⟨hs.defers, hs.size, hs.slot, hs.box, hs.bnew, hs.bid, hs.bdis, hs.kept.trans (Pure0.drew w) (fun _ _ h => h.elim), fun r hr => ⟨r.stay w _ (fun _ _ => rfl) (hs.res r hr).1, (hs.res r hr).2⟩, hs.rbox, hs.odis, hs.oro, hs.onew, hs.arr⟩
def mset (k : Nat → Nat) (st : St) (ms : List Nat) (w : World) (MO : Nat → Prop) : Nat → Prop := fun x => w.heap.size ≤ x ∨ (∃ b ∈ st.bx, b.id ∈ ms ∧ x = k b.id) ∨ MO x
theorem RnC.start (hs : SatK C k ρ ro own st a w) (ms mar : List Nat) (MO : Nat → Prop) (hb : ∀ b ∈ st.bx, ¬ MO (k b.id)) (hr : ∀ q ∈ st.ar, q.1 ∉ mar → ∃ r ∈ ro ++ own, (∀ w, r.P w → (ρ.arr q.1).res.P w) ∧ ∀ x, r.F x → ¬ MO x) : RnC (mset k st ms w MO) k ρ ms mar st.nx w.heap.size (ro ++ own) st w where
  old := by
    rintro b h1 h2 h3 (h | ⟨b', h4, h5, h6⟩ | h)
    · have := hs.boxlt h1; omega
    · by_cases he : b.id = b'.id
      · rw [he] at h3; exact h3 h5
      · exact hs.bdis b h1 b' h4 he h6
    · exact hb b h1 h
  muts := by
    rintro b h1 (h | h)
    · exact .inr (.inl ⟨b, h1, h, rfl⟩)
    · have := hs.bid b h1; omega
  new := fun x h => .inl h
  n0 := Nat.le_refl _
  nx := Nat.le_refl _
  res := by
    intro q hq hm
    obtain ⟨r, h1, h2, h3⟩ := hr q hq hm
    refine ⟨r, h1, h2, ?_⟩
    rintro x hx (h | ⟨b', h4, h5, h6⟩ | h)
    · have := (hs.res r h1).2 x hx; omega
    · rw [h6] at hx; exact hs.rbox r h1 b' h4 hx
    · exact h3 x hx h

/-! ### which order, and which boxes are written -/
def isQuiet (o : Oper) : Bool :=
  match o.op with
  | .move _ | .assign _ | .pick .. | .nilCheck _ | .binOp .. | .unOp .. | .convert .. | .fieldAddr .. | .field .. | .indexAddr .. | .index .. | .extract .. | .slice .. | .build .. | .load .. | .lookup .. | .makeFunc .. | .makeInterface .. | .typeAssert .. => true
  | .call ⟨.builtin .len, _, _⟩ | .call ⟨.builtin .cap, _, _⟩ | .call ⟨.builtin .min, _, _⟩ | .call ⟨.builtin .max, _, _⟩ => true
  | _ => false
def firstReady (all : List (Oper × Nat)) (seen : List Nat) (q : Bool) (loud : List Nat) : Option Nat :=
  match all with
  | [] => none
  | (o, i) :: r => if !seen.contains i && (isQuiet o && !loud.contains i) == q && (depsL o).all (fun d => seen.contains d) then some i else firstReady r seen q loud
def eagerL (all : List (Oper × Nat)) (loud : List Nat) : Nat → List Nat → List (Nat × Bool)
  | 0, _ => []
  | n + 1, seen => match firstReady all seen true loud with
    | some i => (i, true) :: eagerL all loud n (i :: seen)
    | none => match firstReady all seen false loud with
      | some i => (i, false) :: eagerL all loud n (i :: seen)
      | none => []
def eager (ops : Array Oper) (loud : List Nat) : List (Nat × Bool) := eagerL ops.toList.zipIdx loud ops.size []
def firstReadyD (D : Nat → List Nat) (all : List (Oper × Nat)) (seen : List Nat) (q : Bool) (loud : List Nat) : Option Nat :=
  match all with
  | [] => none
  | (o, i) :: r => if !seen.contains i && (isQuiet o && !loud.contains i) == q && (D i).all (fun d => seen.contains d) then some i else firstReadyD D r seen q loud
def eagerDL (D : Nat → List Nat) (all : List (Oper × Nat)) (loud : List Nat) : Nat → List Nat → List (Nat × Bool)
  | 0, _ => []
  | n + 1, seen => match firstReadyD D all seen true loud with
    | some i => (i, true) :: eagerDL D all loud n (i :: seen)
    | none => match firstReadyD D all seen false loud with
      | some i => (i, false) :: eagerDL D all loud n (i :: seen)
      | none => []
def eagerD (ops : Array Oper) (D : Nat → List Nat) (loud : List Nat) : List (Nat × Bool) := eagerDL D ops.toList.zipIdx loud ops.size []
def collectW (Γ : Tab) (all : Array Oper) : List Bool → St → List Oper → List Nat
  | _, _, [] => []
  | ds, st, o :: r => match guardS all st o with
    | .run => match stepOp Γ st o with
      | some (st', _) => (stW st o.op).toList ++ collectW Γ all ds st' r
      | none => []
    | .skip => match putD st o.dst (.tup []) with
      | some st' => collectW Γ all ds st' r
      | none => []
    | .ask d e => match ds with
      | [] => []
      | b :: ds => if o.guard.map (·.2) = some b then
          match stepOp Γ (st.put d (.bool (.c b))) o with
          | some (st', _) => (stW st o.op).toList ++ collectW Γ all ds st' r
          | none => []
        else match putD (st.put d (.bool (.c b))) o.dst (.tup []) with
          | some st' => collectW Γ all ds st' r
          | none => []
    | .stuck => []

def consR (ob : List Ob) (r : St × List KI × List Ob) : St × List KI × List Ob := (r.1, r.2.1, ob ++ r.2.2)
def run (Γ : Tab) (keep : List Nat) : Nat → List Bool → St → List KI → St × List KI × List Ob
  | 0, _, st, ks => (st, ks, [])
  | n + 1, ds, st, ks => match ks with
    | [] => (st, [], [])
    | .blk _ :: r => run Γ keep n ds st r
    | .ops all rest :: r => match execOps Γ all ds st rest with
      | (st', [], ob, ds') => consR ob (run Γ keep n ds' (prune keep st') r)
      | (st', o :: rest', ob, _) => (st', .ops all (o :: rest') :: r, ob)
    | .c x :: r => match x with
      | .skip => run Γ keep n ds st r
      | .label _ => run Γ keep n ds st r
      | .seq x y => run Γ keep n ds st (.c x :: .c y :: r)
      | .block id x => run Γ keep n ds st (.c x :: .blk id :: r)
      | .exit id => match popTo id r with
        | some r' => run Γ keep n ds st r'
        | none => (st, .c (.exit id) :: r, [])
      | .cond z x y => match ev st z with
        | some (.bool (.c true)) => run Γ keep n ds st (.c x :: r)
        | some (.bool (.c false)) => run Γ keep n ds st (.c y :: r)
        | some (.bool e) => match ds with
          | [] => (st, .c (.cond z x y) :: r, [])
          | b :: ds => if e.bnd 0 = true then consR [.is e b] (run Γ keep n ds st (.c (if b then x else y) :: r)) else (st, .c (.cond z x y) :: r, [])
        | _ => (st, .c (.cond z x y) :: r, [])
      | .region id ops false => run Γ keep n ds st (.ops ops ops.toList :: r)
      | .region id ops true => match drawOk ops (eager ops []) with
        | true => match execRn Γ ops (collectW Γ ops ds st ops.toList) [] st.nx ds st (eager ops []) with
          | (st', [], ob, ds') => consR ob (run Γ keep n ds' (prune keep st') r)
          | (_, _ :: _, _, _) => (st, .c (.region id ops true) :: r, [])
        | false => (st, .c (.region id ops true) :: r, [])
      | x => (st, .c x :: r, [])

theorem runK_sound (hm : P.follows .mixedOrders = true) (hΓ : TabOk P Γ) (keep : List Nat) : ∀ {n : Nat} {ds : List Bool} {st st' : St} {ks ks' : List KI} {ob : List Ob} {k : Nat → Nat} {a : Act} {w : World},
    run Γ keep n ds st ks = (st', ks', ob) → obs ρ ob → SatK C k ρ ro own st a w → (∀ k' a' w', SatK C k' ρ ro own st' a' w' → Wk P ks' Q a' w') → Wk P ks Q a w := by
  intro n
  induction n with
  | zero => intro ds st st' ks ks' ob k a w h hob hs hK; cases h; exact hK _ _ _ hs
  | succ n ih =>
    intro ds st st' ks ks' ob k a w h hob hs hK
    unfold run at h
    split at h
    · cases h; exact hK _ _ _ hs
    · rename_i r
      show Wk P r Q a w
      exact ih h hob hs hK
    · rename_i all rest r
      split at h
      · rename_i st1 ob1 ds1 he
        generalize hr : run Γ keep n ds1 (prune keep st1) r = x at h
        obtain ⟨s2, r2, ob2⟩ := x
        simp only [consR, Prod.mk.injEq] at h
        obtain ⟨rfl, rfl, rfl⟩ := h
        obtain ⟨o1, o2⟩ := obs_append hob
        exact execOps_sound hΓ (Q := Kx P r Q) he o1 hs fun k1 a1 w1 hs1 => ih hr o2 (hs1.prune keep) hK
      · rename_i st1 o rest' ob1 _ he
        cases h
        exact execOps_sound hΓ (Q := Kx P r Q) he hob hs fun k1 a1 w1 hs1 => hK _ _ _ hs1
    · rename_i x r
      split at h
      · exact wp_skip (ih h hob hs hK)
      · exact wp_label (ih h hob hs hK)
      · exact Wk_seq (ih h hob hs hK)
      · exact Wk_block (ih h hob hs hK)
      · split at h
        · rename_i r' hp
          refine Wk_exit ?_
          rw [Kx_exit hp]
          exact ih h hob hs hK
        · cases h; exact hK _ _ _ hs
      · split at h
        · rename_i hz
          exact wp_cond_true (by rw [hs.ev hz]; rfl) (ih h hob hs hK)
        · rename_i hz
          exact wp_cond_false (by rw [hs.ev hz]; rfl) (ih h hob hs hK)
        · rename_i z x y _ e _ _ hz
          split at h
          · cases h; exact hK _ _ _ hs
          · rename_i b ds1
            split at h
            · rename_i hc
              generalize hr : run Γ keep n ds1 st (.c (if b then x else y) :: r) = q at h
              obtain ⟨s2, r2, ob2⟩ := q
              simp only [consR, Prod.mk.injEq] at h
              obtain ⟨rfl, rfl, rfl⟩ := h
              obtain ⟨o1, o2⟩ := obs_append hob
              have hb : e.den k ρ = b := (BE.den_any hc _ _ ρ).trans o1.1
              exact wp_cond (t := b) (by rw [hs.ev hz]; simp only [SV.den, hb]) (ih hr o2 hs hK)
            · cases h; exact hK _ _ _ hs
        · cases h; exact hK _ _ _ hs
      · exact wp_region_list (ih h hob hs hK)
      · rename_i id ops
        split at h
        · rename_i hd
          split at h
          · rename_i st1 ob1 ds1 he
            generalize hr : run Γ keep n ds1 (prune keep st1) r = x at h
            obtain ⟨s2, r2, ob2⟩ := x
            simp only [consR, Prod.mk.injEq] at h
            obtain ⟨rfl, rfl, rfl⟩ := h
            obtain ⟨o1, o2⟩ := obs_append hob
            have hs0 := hs.drew
            refine rx_draw hm (mset k st (collectW Γ ops ds st ops.toList) w.drew (fun _ => False)) _ hd ?_
            refine execRn_sound hΓ he o1 hs0 (RnC.start hs0 _ [] _ (fun _ _ h => h) (fun q hq _ => let ⟨r, h1, h2⟩ := (hs0.arr q hq).2.2; ⟨r, h1, h2, fun _ _ h => h⟩)) fun k1 a1 w1 hs1 _ => ?_
            exact ih hr o2 (hs1.prune keep) hK
          · cases h; exact hK _ _ _ hs
        · cases h; exact hK _ _ _ hs
      · cases h; exact hK _ _ _ hs
theorem run_sound (hm : P.follows .mixedOrders = true) (hΓ : TabOk P Γ) (keep : List Nat) (n : Nat) (ds : List Bool) {st st' : St} {ks ks' : List KI} {ob : List Ob}
    (hs : Sat C ρ ro own st a w) (h : run Γ keep n ds st ks = (st', ks', ob)) (hob : obs ρ ob) (hK : ∀ a' w', Sat C ρ ro own st' a' w' → Wk P ks' Q a' w') : Wk P ks Q a w := by
  obtain ⟨k, hk⟩ := hs
  exact runK_sound hm hΓ keep h hob hk fun k' a' w' hs' => hK a' w' ⟨k', hs'⟩
end
end Rx
