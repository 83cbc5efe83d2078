/-
  RX 6: rows of operations, and the code around them, run as far as the executor can.
-/
import Derived.Test.YthhcbfngjmiigaaGreatDoorRx5
set_option linter.all false
set_option linter.unusedSimpArgs false
set_option linter.unusedSectionVars false
set_option linter.unusedVariables false
namespace Rx
open Go

inductive GD where
  | run | skip | stuck
  | ask (d : Nat) (e : BE)
def guardS (all : Array Oper) (st : St) (o : Oper) : GD :=
  match o.guard with
  | none => .run
  | some (j, want) => match all.toList[j]? with
    | none => .stuck
    | some p => match p.dst with
      | none => .stuck
      | some d => match look st.sl d with
        | some (.bool (.c b)) => if b == want then .run else .skip
        | some (.tup []) => .skip
        | some (.bool e) => .ask d e
        | _ => .stuck
def consOb (ob : List Ob) (r : St × List Oper × List Ob × List Bool) : St × List Oper × List Ob × List Bool := (r.1, r.2.1, ob ++ r.2.2.1, r.2.2.2)
def execOps (Γ : Tab) (all : Array Oper) : List Bool → St → List Oper → St × List Oper × List Ob × List Bool
  | ds, st, [] => (st, [], [], ds)
  | ds, st, o :: r => match guardS all st o with
    | .run => match stepOp Γ st o with
      | some (st', ob) => consOb ob (execOps Γ all ds st' r)
      | none => (st, o :: r, [], ds)
    | .skip => match putD st o.dst (.tup []) with
      | some st' => execOps Γ all ds st' r
      | none => (st, o :: r, [], ds)
    | .ask d e => match ds with
      | [] => (st, o :: r, [], [])
      | b :: ds => if e.bnd 0 = true ∧ o.guard.map (·.2) = some b then
          match stepOp Γ (st.put d (.bool (.c b))) o with
          | some (st', ob) => consOb (.is e b :: ob) (execOps Γ all ds st' r)
          | none => (st, o :: r, [], b :: ds)
        else if e.bnd 0 = true ∧ o.guard.map (·.2) = some (!b) then
          match putD (st.put d (.bool (.c b))) o.dst (.tup []) with
          | some st' => consOb [.is e b] (execOps Γ all ds st' r)
          | none => (st, o :: r, [], b :: ds)
        else (st, o :: r, [], b :: ds)
    | .stuck => (st, o :: r, [], ds)

section
variable {C : Ctx} {k : Nat → Nat} {ρ : Env} {ro own : List Res} {st : St} {a : Act} {w : World} {P : Program} {Γ : Tab}
theorem guardS_run (hs : SatK C k ρ ro own st a w) {all : Array Oper} {o : Oper} (h : guardS all st o = .run) : Region.wanted o (yielded all a.tmps) = true := by
  unfold guardS at h
  unfold Region.wanted
  split at h
  · rename_i hg; simp [hg]
  · rename_i j want hg
    split at h
    · cases h
    · rename_i p hp
      split at h
      · cases h
      · rename_i d hd
        split at h
        · rename_i b hl
          split at h
          · rename_i hb
            have hp' : all[j]? = some p := by simpa using hp
            have hsl := (hs.slot _ (look_mem hl)).2
            simp only [SV.den, BE.den] at hsl
            simp only [hg, yielded, hp', Option.bind_some, hd, hsl]
            have : b = want := by simpa using hb
            simp [this]
          · cases h
        · cases h
        · cases h
        · cases h
theorem guardS_skip (hs : SatK C k ρ ro own st a w) {all : Array Oper} {o : Oper} (h : guardS all st o = .skip) : Region.wanted o (yielded all a.tmps) = false := by
  unfold guardS at h
  unfold Region.wanted
  split at h
  · cases h
  · rename_i j want hg
    split at h
    · cases h
    · rename_i p hp
      have hp' : all[j]? = some p := by simpa using hp
      split at h
      · cases h
      · rename_i d hd
        split at h
        · rename_i b hl
          split at h
          · cases h
          · rename_i hb
            have hsl := (hs.slot _ (look_mem hl)).2
            simp only [SV.den, BE.den] at hsl
            simp only [hg, yielded, hp', Option.bind_some, hd, hsl]
            simpa using hb
        · rename_i hl
          have hsl := (hs.slot _ (look_mem hl)).2
          simp only [SV.den, SV.dens] at hsl
          simp only [hg, yielded, hp', Option.bind_some, hd, hsl]
          rfl
        · cases h
        · cases h
theorem guardS_ask (hs : SatK C k ρ ro own st a w) {all : Array Oper} {o : Oper} {d : Nat} {e : BE} (h : guardS all st o = .ask d e) : look st.sl d = some (.bool e) ∧ ∃ j want, o.guard = some (j, want) ∧ Region.wanted o (yielded all a.tmps) = (e.den k ρ == want) := by
  unfold guardS at h
  split at h
  · cases h
  · rename_i j want hg
    split at h
    · cases h
    · rename_i p hp
      have hp' : all[j]? = some p := by simpa using hp
      split at h
      · cases h
      · rename_i d' hd
        split at h
        · split at h <;> cases h
        · cases h
        · rename_i e' _ hl
          cases h
          refine ⟨hl, j, want, hg, ?_⟩
          have hsl := (hs.slot _ (look_mem hl)).2
          simp only [SV.den] at hsl
          unfold Region.wanted
          simp only [hg, yielded, hp', Option.bind_some, hd, hsl]
          cases e.den k ρ <;> cases want <;> rfl
        · cases h
theorem SatK.decide (hs : SatK C k ρ ro own st a w) {d : Nat} {e : BE} (hl : Rx.look st.sl d = some (.bool e)) {b : Bool} (hb : e.den k ρ = b) : SatK C k ρ ro own (st.put d (.bool (.c b))) a w := by
  have hm := hs.slot _ (look_mem hl)
  refine { hs with slot := ?_ }
  intro p hp
  simp only [St.put, List.mem_cons, List.mem_filter] at hp
  rcases hp with rfl | ⟨hp, _⟩
  · show d < st.N ∧ _
    simpa [SV.den, BE.den, hb] using hm
  · exact hs.slot p hp
theorem BE.den_any {e : BE} (h : e.bnd 0 = true) (k k' : Nat → Nat) (ρ : Env) : e.den k' ρ = e.den k ρ := BE.den_bnd (n := 0) (fun _ h => absurd h (by omega)) ρ h
theorem wpList_run {all : Array Oper} {Q : Exit → Act → World → Prop} {o : Oper} {r : List Oper} (hw : Region.wanted o (yielded all a.tmps) = true) (h : o.wp P a w (wpList P all Q r) Q) : wpList P all Q (o :: r) a w := by
  unfold wpList; rw [if_pos hw]; exact .inl h
theorem wpList_skip {all : Array Oper} {Q : Exit → Act → World → Prop} {o : Oper} {r : List Oper} (hw : Region.wanted o (yielded all a.tmps) = false) (h : wpList P all Q r (a.put o.dst undef) w) : wpList P all Q (o :: r) a w := by
  unfold wpList; rw [if_neg (by simp [hw])]; exact h
theorem execOps_sound (hΓ : TabOk P Γ) {all : Array Oper} {Q : Exit → Act → World → Prop} : ∀ {ops : List Oper} {ds ds' : List Bool} {st st' : St} {rest : List Oper} {ob : List Ob} {k : Nat → Nat} {a : Act} {w : World}, execOps Γ all ds st ops = (st', rest, ob, ds') → obs ρ ob → SatK C k ρ ro own st a w →
    (∀ k' a' w', SatK C k' ρ ro own st' a' w' → wpList P all Q rest a' w') → wpList P all Q ops a w := by
  intro ops
  induction ops with
  | nil => intro ds ds' st st' rest ob k a w h hob hs hK; cases h; exact hK _ _ _ hs
  | cons o r ih =>
    intro ds ds' st st' rest ob k a w h hob hs hK
    unfold execOps at h
    split at h
    · rename_i hg
      split at h
      · rename_i st1 ob1 h1
        generalize he : execOps Γ all ds st1 r = x at h
        obtain ⟨s2, r2, ob2, d2⟩ := x
        simp only [consOb, Prod.mk.injEq] at h
        obtain ⟨rfl, rfl, rfl, rfl⟩ := h
        obtain ⟨o1, o2⟩ := obs_append hob
        exact wpList_run (guardS_run hs hg) (step_sound hΓ hs h1 o1 fun k1 a1 w1 hs1 => ih he o2 hs1 hK)
      · cases h; exact hK _ _ _ hs
    · rename_i hg
      split at h
      · rename_i st1 h1
        refine wpList_skip (guardS_skip hs hg) (ih (k := k) h hob ?_ hK)
        have := hs.putD h1
        simpa [SV.den, SV.dens, undef] using this
      · cases h; exact hK _ _ _ hs
    · rename_i d e hg
      obtain ⟨hl, j, want, hgd, hwant⟩ := guardS_ask hs hg
      split at h
      · cases h; exact hK _ _ _ hs
      · rename_i b ds1
        split at h
        · rename_i hc
          split at h
          · rename_i st1 ob1 h1
            generalize he : execOps Γ all ds1 st1 r = x at h
            obtain ⟨s2, r2, ob2, d2⟩ := x
            simp only [consOb, Prod.mk.injEq] at h
            obtain ⟨rfl, rfl, rfl, rfl⟩ := h
            obtain ⟨o1, o2⟩ := obs_append hob
            obtain ⟨o0, o1⟩ := o1
            have hb : e.den k ρ = b := (BE.den_any hc.1 _ _ ρ).trans o0
            have hwb : want = b := by simpa [hgd] using hc.2
            exact wpList_run (by rw [hwant, hb, hwb]; simp) (step_sound hΓ (hs.decide hl hb) h1 o1 fun k1 a1 w1 hs1 => ih he o2 hs1 hK)
          · cases h; exact hK _ _ _ hs
        · split at h
          · rename_i hc
            split at h
            · rename_i st1 h1
              generalize he : execOps Γ all ds1 st1 r = x at h
              obtain ⟨s2, r2, ob2, d2⟩ := x
              simp only [consOb, Prod.mk.injEq] at h
              obtain ⟨rfl, rfl, rfl, rfl⟩ := h
              obtain ⟨o1, o2⟩ := obs_append hob
              obtain ⟨o0, _⟩ := o1
              have hb : e.den k ρ = b := (BE.den_any hc.1 _ _ ρ).trans o0
              have hwb : want = !b := by simpa [hgd] using hc.2
              refine wpList_skip (by rw [hwant, hb, hwb]; cases b <;> rfl) (ih (k := k) he o2 ?_ hK)
              have := (hs.decide hl hb).putD h1
              simpa [SV.den, SV.dens, undef] using this
            · cases h; exact hK _ _ _ hs
          · cases h; exact hK _ _ _ hs
    · cases h; exact hK _ _ _ hs
end

/-! ### code -/
inductive KI where
  | c (x : Code)
  | ops (all : Array Oper) (rest : List Oper)
  | blk (id : Nat)
def Kx (P : Program) : List KI → (Exit → Act → World → Prop) → Exit → Act → World → Prop
  | [], Q, e => Q e
  | i :: ks, Q, e => match e with
    | .normal => match i with
      | .c x => x.wp P (Kx P ks Q)
      | .ops all rest => wpList P all (Kx P ks Q) rest
      | .blk _ => Kx P ks Q .normal
    | .exit id => match i with
      | .blk id' => if id' = id then Kx P ks Q .normal else Kx P ks Q (.exit id)
      | _ => Kx P ks Q (.exit id)
    | e => Q e
abbrev Wk (P : Program) (ks : List KI) (Q : Exit → Act → World → Prop) : Act → World → Prop := Kx P ks Q .normal
def popTo (id : Nat) : List KI → Option (List KI)
  | [] => none
  | .blk id' :: r => if id' == id then some r else popTo id r
  | .c _ :: r => popTo id r
  | .ops _ _ :: r => popTo id r
theorem Kx_exit {P : Program} {Q : Exit → Act → World → Prop} {id : Nat} : ∀ {ks r : List KI}, popTo id ks = some r → Kx P ks Q (.exit id) = Kx P r Q .normal := by
  intro ks
  induction ks with
  | nil => intro r h; cases h
  | cons i ks ih =>
    intro r h
    cases i with
    | c x => exact ih h
    | ops all rest => exact ih h
    | blk id' =>
      simp only [popTo] at h
      simp only [Kx]
      by_cases he : id' = id
      · rw [if_pos (by simp [he])] at h; cases h; rw [if_pos he]
      · rw [if_neg (by simp [he])] at h; rw [if_neg he]; exact ih h
theorem Kx_none {P : Program} {Q : Exit → Act → World → Prop} {id : Nat} : ∀ {ks : List KI}, popTo id ks = none → Kx P ks Q (.exit id) = Q (.exit id) := by
  intro ks
  induction ks with
  | nil => intro h; rfl
  | cons i ks ih =>
    intro h
    cases i with
    | c x => exact ih h
    | ops all rest => exact ih h
    | blk id' =>
      simp only [popTo] at h
      simp only [Kx]
      by_cases he : id' = id
      · rw [if_pos (by simp [he])] at h; cases h
      · rw [if_neg (by simp [he])] at h; rw [if_neg he]; exact ih h

theorem Kx_ret {P : Program} {Q : Exit → Act → World → Prop} (ks : List KI) : Kx P ks Q .ret = Q .ret := by cases ks <;> rfl
theorem Kx_goto {P : Program} {Q : Exit → Act → World → Prop} (ks : List KI) (l : Nat) : Kx P ks Q (.goto l) = Q (.goto l) := by cases ks <;> rfl
theorem Kx_panic {P : Program} {Q : Exit → Act → World → Prop} (ks : List KI) (l : List PanicEntry) : Kx P ks Q (.panic l) = Q (.panic l) := by cases ks <;> rfl
theorem Kx_outgrown {P : Program} {Q : Exit → Act → World → Prop} (ks : List KI) : Kx P ks Q .outgrown = Q .outgrown := by cases ks <;> rfl
section
variable {P : Program} {Q : Exit → Act → World → Prop} {ks : List KI} {a : Act} {w : World}
theorem Wk_seq {x y : Code} (h : Wk P (.c x :: .c y :: ks) Q a w) : Wk P (.c (.seq x y) :: ks) Q a w := by
  refine wp_seq (wp_mono (h : x.wp P (Kx P (.c y :: ks) Q) a w) ?_)
  intro e a w h
  cases e <;> simp only [Kx_ret, Kx_goto, Kx_panic, Kx_outgrown, Exit.then] at h ⊢ <;> exact h
theorem Wk_block {id : Nat} {x : Code} (h : Wk P (.c x :: .blk id :: ks) Q a w) : Wk P (.c (.block id x) :: ks) Q a w := by
  refine wp_block (wp_mono (h : x.wp P (Kx P (.blk id :: ks) Q) a w) ?_)
  intro e a w h
  cases e with
  | exit id' =>
    simp only [Kx] at h
    simp only [Exit.inBlock]
    by_cases he : id = id'
    · subst he; simpa using h
    · rw [if_neg he] at h; rw [if_neg (fun e : id' = id => he e.symm)]; exact h
  | _ => simp only [Kx_ret, Kx_goto, Kx_panic, Kx_outgrown, Exit.inBlock] at h ⊢; exact h
theorem Wk_exit {id : Nat} (h : Kx P ks Q (.exit id) a w) : Wk P (.c (.exit id) :: ks) Q a w := wp_exit h
theorem Wk_ret (h : Q .ret a w) : Wk P (.c .ret :: ks) Q a w := wp_ret (by rw [Kx_ret]; exact h)
end

def prune (keep : List Nat) (st : St) : St := { st with sl := st.sl.filter fun p => keep.contains p.1 }
theorem SatK.prune {C : Ctx} {k : Nat → Nat} {ρ : Env} {ro own : List Res} {st : St} {a : Act} {w : World} (hs : SatK C k ρ ro own st a w) (keep : List Nat) : SatK C k ρ ro own (prune keep st) a w :=
  ⟨hs.defers, hs.size, fun p hp => hs.slot p (List.mem_filter.1 hp).1, hs.box, hs.bnew, hs.bid, hs.bdis, hs.kept, hs.res, hs.rbox, hs.odis, hs.oro, hs.onew, hs.arr⟩

end Rx
