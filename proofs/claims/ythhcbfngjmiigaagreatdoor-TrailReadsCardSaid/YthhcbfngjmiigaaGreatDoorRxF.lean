/-
  RX F: lists that grow behind what is still seen of them; many things as one; a box that was handed in.
-/
import Derived.Test.YthhcbfngjmiigaaGreatDoorRxE
set_option linter.all false
set_option linter.unusedSimpArgs false
set_option linter.unusedSectionVars false
set_option linter.unusedVariables false
namespace Rx
open Go

/-- Two things at once. -/
def bothR (r s : Res) : Res where
  F b := r.F b ∨ s.F b
  P w := r.P w ∧ s.P w
  stay := fun w w' h hp => ⟨r.stay w w' (fun b hb => h b (.inl hb)) hp.1, s.stay w w' (fun b hb => h b (.inr hb)) hp.2⟩
/-- Many things as one. -/
def sepR (l : List Res) : Res where
  F b := ∃ r ∈ l, r.F b
  P w := ∀ r ∈ l, r.P w
  stay := fun w w' h hp r hr => r.stay w w' (fun b hb => h b ⟨r, hr, hb⟩) (hp r hr)

/-- What was seen of a row stays behind an append to it. -/
theorem ownS_keep {e esz n0 c0 n c m : Nat} {A0 A : Option Addr} {xs0 xs news : List Value} {w w' : World} (h0 : (ownS e esz A0 n0 c0 xs0).P w) (h1 : (ownS e esz A n c xs).P w) (h2 : (ownS e esz A (n + m) c (xs ++ news)).P w')
    (hk : Kept (ownS e esz A n c xs).F w w') (hn : n0 ≤ n) : (ownS e esz A0 n0 c0 xs0).P w' := by
  obtain ⟨a1, a2, a3, a4⟩ := id h0
  obtain ⟨b1, b2, b3, b4⟩ := id h1
  obtain ⟨d1, d2, d3, d4⟩ := id h2
  by_cases hF : ∃ b, (ownS e esz A n c xs).F b ∧ (ownS e esz A0 n0 c0 xs0).F b
  · obtain ⟨b, ⟨hc, hA⟩, ⟨hc0, hA0⟩⟩ := hF
    refine ⟨a1, a2, a3, .inr ?_⟩
    rcases a4 with a4 | ⟨g0, cur0, p1, p2, p3, p4⟩
    · exact absurd a4 hc0
    · rcases b4 with b4 | ⟨g, cur, q1, q2, q3, q4⟩
      · exact absurd b4 hc
      · rcases d4 with d4 | ⟨g', cur', r1, r2, r3, r4⟩
        · exact absurd d4 hc
        · rw [hA0] at p1; rw [hA] at q1 r1
          simp only [Option.some.injEq, Addr.mk.injEq] at p1 q1 r1
          obtain ⟨rfl, _⟩ := p1
          obtain ⟨rfl, _⟩ := q1
          obtain ⟨rfl, _⟩ := r1
          rw [p2] at q2
          simp only [Option.some.injEq, Obj.cells.injEq] at q2
          obtain ⟨rfl, _⟩ := q2
          have hle : n0 * esz ≤ n * esz := Nat.mul_le_mul_right _ hn
          have hle2 : n * esz ≤ (n + m) * esz := Nat.mul_le_mul_right _ (by omega)
          refine ⟨b, cur', hA0, r2, by omega, ?_⟩
          have e1 : cur'.toList.take (n0 * esz) = (cur'.toList.take ((n + m) * esz)).take (n0 * esz) := by rw [List.take_take, Nat.min_eq_left (by omega)]
          have e2 : cur0.toList.take (n0 * esz) = (cur0.toList.take (n * esz)).take (n0 * esz) := by rw [List.take_take, Nat.min_eq_left (by omega)]
          rw [e1, r4, ← p4, e2, q4, List.take_append_of_le_length (by rw [b1]; omega)]
  · refine (ownS e esz A0 n0 c0 xs0).stay w w' (fun b hb => ?_) h0
    exact hk.block b (ownS_lt h0 b hb) fun h => hF ⟨b, h, hb⟩
/-- A list, and what it has grown to. -/
def growR (e esz : Nat) (A0 : Option Addr) (n0 c0 : Nat) (xs0 : List Value) (A : Option Addr) (n c : Nat) (xs : List Value) : Res := bothR (ownS e esz A0 n0 c0 xs0) (ownS e esz A n c xs)

section
variable {C : Ctx} {k : Nat → Nat} {ρ : Env} {ro own os : List Res} {o : Res} {st : St} {a : Act} {w w' : World} {P : Program} {Γ : Tab}
theorem wp_append' {op : Oper} {K : Act → World → Prop} {Q : Exit → Act → World → Prop} (hΓ : TabOk P Γ) (hs : SatK C k ρ ro own st a w) {t e : TypeId} {tis ti : TI} {vx vy : SV} (hc : appendS Γ st op.op = some (t, tis, e, ti, vx, vy))
    {A : Option Addr} {n c m : Nat} {xs news : List Value} (hx : vx.den k ρ = .slice A n c) (ho : (ownS e ti.size A n c xs).P w) (hy : Src P ti.size w (vy.den k ρ) m news) (hb : (n + m) * ti.bytes ≤ 140737488355328) (hn : n + m ≤ 9223372036854775807)
    (h : ∀ A' c' w', (ownS e ti.size A' (n + m) c' (xs ++ news)).P w' → Kept (ownS e ti.size A n c xs).F w w' →
      (∀ b, (ownS e ti.size A' (n + m) c' (xs ++ news)).F b → ((ownS e ti.size A n c xs).F b ∨ w.heap.size ≤ b) ∧ b < w'.heap.size) → (0 < n + m → A' ≠ none) → (n + m ≤ c → A' = A ∧ c' = c) → (c < n + m → Pure0 w w') → K (a.put op.dst (.slice A' (n + m) c')) w') : op.wp P a w K Q := by
  obtain ⟨dst, o, type, pos, after, guard⟩ := op
  simp only at hc
  unfold appendS at hc
  split at hc
  · rename_i args tys
    split at hc
    · rename_i x y t1 t2 hargs htys
      split at hc
      · rename_i htt
        subst htt
        split at hc
        · rename_i e1 a1 b1 c1 hg
          split at hc
          · rename_i ti1 v1 v2 he hx1 hy1
            cases hc
            have ht := tfacts (hΓ.get hg)
            have F := tfacts (hΓ.get he)
            obtain ⟨A', c', w', h1, h2, h3, h4, h5, h6, h7⟩ := append_own (ty := type) ht rfl F ho hy hb hn
            have ea : args = #[x, y] := by apply Array.ext'; simpa using hargs
            have et : tys = #[t, t] := by apply Array.ext'; simpa using htys
            subst ea et
            refine wp_value (w' := w') (v := .slice A' (n + m) c') ?_ (h A' c' w' h2 h3 h4 h5 h6 h7)
            have ex := hs.ev hx1
            have ey := hs.ev hy1
            rw [hx] at ex
            simp only [execOp, resolve, Sem.run_bind, Sem.run_pure, Result.andThen_ok, invoke, builtin, List.map_toArray, List.map_cons, List.map_nil, ex, ey]
            rw [h1]; rfl
          · cases hc
        · cases hc
      · cases hc
    · cases hc
  · cases hc
/-- An append to a list that grows, what was seen of it before stays seen. -/
theorem wp_appendG {op : Oper} {K : Act → World → Prop} {Q : Exit → Act → World → Prop} (hΓ : TabOk P Γ) {e : TypeId} {sz n0 c0 n c m : Nat} {A0 A : Option Addr} {xs0 xs news : List Value} (hs : SatK C k ρ ro (growR e sz A0 n0 c0 xs0 A n c xs :: os) st a w)
    {t : TypeId} {tis ti : TI} {vx vy : SV} (hc : appendS Γ st op.op = some (t, tis, e, ti, vx, vy)) (hsz : ti.size = sz) (hx : vx.den k ρ = .slice A n c) (hy : Src P sz w (vy.den k ρ) m news) (hb : (n + m) * ti.bytes ≤ 140737488355328) (hn : n + m ≤ 9223372036854775807) (hn0 : n0 ≤ n)
    (har : ∀ q ∈ st.ar, View (ro ++ os) (ρ.arr q.1))
    (h : ∀ A' c' w', SatK C k ρ ro (growR e sz A0 n0 c0 xs0 A' (n + m) c' (xs ++ news) :: os) st a w' → n + m ≤ c' → (0 < n + m → A' ≠ none) → K (a.put op.dst (.slice A' (n + m) c')) w') : op.wp P a w K Q := by
  subst hsz
  have hP := hs.res _ (List.mem_append_right _ (List.mem_cons_self ..))
  refine wp_append' hΓ hs hc hx hP.1.2 hy hb hn fun A' c' w' h1 h2 h3 h4 h5 h6 => h A' c' w' ?_ h1.2.1 h4
  have hkept : Kept (growR e ti.size A0 n0 c0 xs0 A n c xs).F w w' := h2.mono fun x _ hx => .inr hx
  have hP0 : (ownS e ti.size A0 n0 c0 xs0).P w' := by
    by_cases hle : n + m ≤ c
    · obtain ⟨rfl, rfl⟩ := h5 hle
      exact ownS_keep hP.1.1 hP.1.2 h1 h2 hn0
    · exact (ownS e ti.size A0 n0 c0 xs0).stay w w' (fun b hb => (h6 (by omega)).block b (ownS_lt hP.1.1 b hb) (fun hf => hf)) hP.1.1
  refine hs.mutate hkept (growR e ti.size A0 n0 c0 xs0 A' (n + m) c' (xs ++ news)) ⟨hP0, h1⟩ ?_ fun q hq => (har q hq).mono (by intro r hr; simp only [List.mem_append, List.mem_cons] at hr ⊢; rcases hr with hr | hr <;> simp [hr])
  rintro b (hb | hb)
  · exact ⟨.inl (.inl hb), ownS_lt hP0 b hb⟩
  · rcases h3 b hb with ⟨h7 | h7, h8⟩
    · exact ⟨.inl (.inr h7), h8⟩
    · exact ⟨.inr h7, h8⟩
/-- The first thing that is ours is said otherwise. -/
theorem SatK.recast (hs : SatK C k ρ ro (o :: os) st a w) (o' : Res) (hP : o.P w → o'.P w) (hF : ∀ b, o'.F b → o.F b) (har : ∀ q ∈ st.ar, View (ro ++ o' :: os) (ρ.arr q.1)) : SatK C k ρ ro (o' :: os) st a w := by
  have ho := hs.res o (by simp)
  exact hs.mutate (Kept.refl _ _) o' (hP ho.1) (fun b hb => ⟨.inl (hF b hb), ho.2 b (hF b hb)⟩) har
end
/-- What is known where one box, things that are read, and things that are ours are handed in. -/
theorem memO {w : World} {p : Nat} {ρ : Env} {ro own : List Res} {ar : List (Nat × List CK)} {M : Nat → Prop} (b : Box) (hid : b.id = 0) (hb : w.heap[p]? = some (boxObj (fun _ => p) ρ b)) (hM : M p) (h : ∀ r ∈ ro ++ own, r.P w ∧ ∀ x, r.F x → x < w.heap.size) (hd : ∀ r ∈ ro ++ own, ¬ r.F p)
    (odis : own.Pairwise (fun r s => ∀ x, ¬ (r.F x ∧ s.F x))) (oro : ∀ o ∈ own, ∀ r ∈ ro, ∀ x, ¬ (o.F x ∧ r.F x)) (onew : ∀ o ∈ own, ∀ x, o.F x → M x)
    (ha : ∀ q ∈ ar, (ρ.arr q.1).esz = q.2.length ∧ (∀ e ∈ (ρ.arr q.1).el, shapeOk q.2 e) ∧ View (ro ++ own) (ρ.arr q.1)) : Mem ⟨w, M⟩ (fun _ => p) ρ ro own [b] 1 ar w where
  box := by intro b' h'; simp at h'; subst h'; exact hb
  bnew := by intro b' h'; exact .inr hM
  bid := by intro b' h'; simp at h'; subst h'; omega
  bdis := by intro b' h' b'' h'' hn; simp at h' h''; subst h' h''; exact absurd rfl hn
  kept := Kept.refl _ _
  res := h
  rbox := by intro r hr b' h'; exact hd r hr
  odis := odis
  oro := oro
  onew := fun o ho x hx => .inr (onew o ho x hx)
  arr := ha
/-- One block among those that may be written is as it was. -/
theorem kept_box {M N : Nat → Prop} {w w' : World} {p : Nat} (h : Kept M w w') (hb : w'.heap[p]? = w.heap[p]?) (hM : ∀ x, M x → x = p ∨ N x) : Kept N w w' :=
  ⟨h.os, h.tape, h.output, h.size, fun b hl hn => by
    by_cases hbp : b = p
    · subst hbp; exact hb
    · exact h.block b hl fun hm => (hM b hm).elim hbp hn⟩
end Rx
namespace Rx
open Go
theorem ownS_lies {e esz n c : Nat} {A : Option Addr} {els : List (List Value)} {w : World} (hn : els.length = n) (hl : ∀ x ∈ els, x.length = esz) (h : (ownS e esz A n c els.flatten).P w) : Lies ⟨A, esz, els⟩ w := by
  refine ⟨ownS_view hn hl w h, ?_⟩
  rintro x ⟨hne, ad, h1, rfl⟩
  simp only at h1
  subst h1
  obtain ⟨_, h3, _, h4⟩ := h
  rcases h4 with h4 | ⟨g, cur, h5, h6, _⟩
  · have : els.length = 0 := by omega
    exact absurd (List.length_eq_zero_iff.1 this) hne
  · simp only [Option.some.injEq] at h5
    rw [h5]
    exact (Array.getElem?_eq_some_iff.1 h6).1
theorem ownS_FF {e esz n c : Nat} {A : Option Addr} {els : List (List Value)} {xs : List Value} {w : World} (hn : els.length ≤ n) (h : (ownS e esz A n c xs).P w) {x : Nat} (hx : (Arr.mk A esz els).res.F x) : (ownS e esz A n c xs).F x := by
  obtain ⟨hne, ad, h1, rfl⟩ := hx
  simp only at h1
  subst h1
  obtain ⟨_, h3, _, h4⟩ := h
  have hpos : 0 < els.length := List.length_pos_iff.2 hne
  have hc : c ≠ 0 := by omega
  rcases h4 with h4 | ⟨g, cur, h5, _⟩
  · exact absurd h4 hc
  · simp only [Option.some.injEq] at h5
    subst h5
    exact ⟨hc, rfl⟩
end Rx
namespace Rx
open Go
section
variable {C : Ctx} {k : Nat → Nat} {ρ : Env} {ro own os : List Res} {o : Res} {st : St} {a : Act} {w w' : World} {P : Program} {Γ : Tab}
/-- .. it is told, too, what was written. -/
theorem wp_appendW {op : Oper} {K : Act → World → Prop} {Q : Exit → Act → World → Prop} (hΓ : TabOk P Γ) {e : TypeId} {sz n c m : Nat} {A : Option Addr} {xs news : List Value} (hs : SatK C k ρ ro (ownS e sz A n c xs :: os) st a w)
    {t : TypeId} {tis ti : TI} {vx vy : SV} (hc : appendS Γ st op.op = some (t, tis, e, ti, vx, vy)) (hsz : ti.size = sz) (hx : vx.den k ρ = .slice A n c) (hy : Src P sz w (vy.den k ρ) m news) (hb : (n + m) * ti.bytes ≤ 140737488355328) (hn : n + m ≤ 9223372036854775807)
    (har : ∀ q ∈ st.ar, View (ro ++ os) (ρ.arr q.1))
    (h : ∀ A' c' w', SatK C k ρ ro (ownS e sz A' (n + m) c' (xs ++ news) :: os) st a w' → n + m ≤ c' → (0 < n + m → A' ≠ none) → Kept (ownS e sz A n c xs).F w w' → K (a.put op.dst (.slice A' (n + m) c')) w') : op.wp P a w K Q := by
  subst hsz
  have hP := hs.res _ (List.mem_append_right _ (List.mem_cons_self ..))
  refine wp_append hΓ hs hc hx hP.1 hy hb hn fun A' c' w' h1 h2 h3 h4 => h A' c' w' ?_ h1.2.1 h4 h2
  exact hs.mutate h2 _ h1 h3 fun q hq => (har q hq).mono (by intro r hr; simp only [List.mem_append, List.mem_cons] at hr ⊢; rcases hr with hr | hr <;> simp [hr])
end
end Rx
namespace Rx
open Go
theorem RnC.grow0 {M : Nat → Prop} {k : Nat → Nat} {ρ ρ' : Env} {ms mar : List Nat} {nx0 n0 : Nat} {l l' : List Res} {st st' : St} {w w' : World} (hc : RnC M k ρ ms mar nx0 n0 l st w) (hw : w.heap.size ≤ w'.heap.size) (hnx : st.nx ≤ st'.nx) (hbx : ∀ b ∈ st'.bx, ∃ b0 ∈ st.bx, b0.id = b.id) (har : st'.ar = []) :
    RnC M k ρ' ms mar nx0 n0 l' st' w' where
  old := by
    intro b h1 h2 h3
    obtain ⟨b0, h4, h5⟩ := hbx b h1
    rw [← h5] at h2 h3 ⊢
    exact hc.old b0 h4 h2 h3
  muts := by
    intro b h1 h2
    obtain ⟨b0, h4, h5⟩ := hbx b h1
    rw [← h5] at h2 ⊢
    exact hc.muts b0 h4 h2
  new := hc.new
  n0 := Nat.le_trans hc.n0 hw
  nx := Nat.le_trans hc.nx hnx
  res := by
    intro q hq hm
    rw [har] at hq
    cases hq
end Rx
namespace Rx
open Go
section
variable {C : Ctx} {k : Nat → Nat} {ρ : Env} {ro own os : List Res} {o : Res} {st : St} {a : Act} {w w' : World} {P : Program} {Γ : Tab}
/-- Behind what wrote to things that are ours: all that is ours is said anew. -/
theorem SatK.mutAll (hs : SatK C k ρ ro own st a w) {M' : Nat → Prop} (hk : Kept M' w w') (hM : ∀ x, x < w.heap.size → M' x → ∃ o ∈ own, o.F x) (own' : List Res) (hP : ∀ o ∈ own', o.P w') (hlt : ∀ o ∈ own', ∀ x, o.F x → x < w'.heap.size)
    (hF : ∀ o ∈ own', ∀ x, o.F x → (∃ q ∈ own, q.F x) ∨ w.heap.size ≤ x) (hdis : own'.Pairwise (fun r s => ∀ x, ¬ (r.F x ∧ s.F x))) (har : ∀ q ∈ st.ar, View (ro ++ own') (ρ.arr q.1)) : SatK C k ρ ro own' st a w' := by
  refine ⟨hs.defers, hs.size, hs.slot, ?_, hs.bnew, hs.bid, hs.bdis, ?_, ?_, ?_, hdis, ?_, ?_, fun q hq => ⟨(hs.arr q hq).1, (hs.arr q hq).2.1, har q hq⟩⟩
  · intro b hb
    rw [hk.block _ (hs.boxlt hb) (fun hm => ?_)]
    · exact hs.box b hb
    · obtain ⟨o, ho, hx⟩ := hM _ (hs.boxlt hb) hm
      exact hs.rbox o (List.mem_append_right _ ho) b hb hx
  · refine ⟨hk.os.trans hs.kept.os, hk.tape.trans hs.kept.tape, hk.output.trans hs.kept.output, Nat.le_trans hs.kept.size hk.size, fun x hx hm => ?_⟩
    have hxw : x < w.heap.size := Nat.lt_of_lt_of_le hx hs.kept.size
    rw [hk.block x hxw (fun h => ?_), hs.kept.block x hx hm]
    obtain ⟨o, ho, hox⟩ := hM _ hxw h
    rcases hs.onew o ho x hox with h' | h'
    · omega
    · exact hm h'
  · intro s hm
    rcases List.mem_append.1 hm with h | h
    · have hr := hs.res s (List.mem_append_left _ h)
      refine ⟨s.stay w w' (fun x hx => hk.block x (hr.2 x hx) fun hm' => ?_) hr.1, fun x hx => Nat.lt_of_lt_of_le (hr.2 x hx) hk.size⟩
      obtain ⟨o, ho, hox⟩ := hM _ (hr.2 x hx) hm'
      exact hs.oro o ho s h x ⟨hox, hx⟩
    · exact ⟨hP s h, hlt s h⟩
  · intro s hm b hb hx
    rcases List.mem_append.1 hm with h | h
    · exact hs.rbox s (List.mem_append_left _ h) b hb hx
    · rcases hF s h _ hx with ⟨q, hq, hqx⟩ | h'
      · exact hs.rbox q (List.mem_append_right _ hq) b hb hqx
      · have := hs.boxlt hb; omega
  · intro q hq s hm x hx
    rcases hF q hq x hx.1 with ⟨q', hq', hqx⟩ | h'
    · exact hs.oro q' hq' s hm x ⟨hqx, hx.2⟩
    · have := (hs.res s (List.mem_append_left _ hm)).2 x hx.2; omega
  · intro q hq x hx
    rcases hF q hq x hx with ⟨q', hq', hqx⟩ | h'
    · exact hs.onew q' hq' x hqx
    · exact .inl (by have := hs.kept.size; omega)
end
end Rx
namespace Rx
open Go
section
variable {C : Ctx} {k : Nat → Nat} {ρ : Env} {ro own os : List Res} {o : Res} {st : St} {a : Act} {w w' : World} {P : Program} {Γ : Tab}
/-- .. the first of what is ours is said anew, the rest stays. -/
theorem SatK.mutPart {os1 os2 : List Res} (hs : SatK C k ρ ro (os1 ++ os2) st a w) {M' : Nat → Prop} (hk : Kept M' w w') (hM : ∀ x, x < w.heap.size → M' x → ∃ o ∈ os1, o.F x) (os1' : List Res) (hP : ∀ o ∈ os1', o.P w') (hlt : ∀ o ∈ os1', ∀ x, o.F x → x < w'.heap.size)
    (hF : ∀ o ∈ os1', ∀ x, o.F x → (∃ q ∈ os1, q.F x) ∨ w.heap.size ≤ x) (hdis : os1'.Pairwise (fun r s => ∀ x, ¬ (r.F x ∧ s.F x))) (har : ∀ q ∈ st.ar, View (ro ++ (os1' ++ os2)) (ρ.arr q.1)) : SatK C k ρ ro (os1' ++ os2) st a w' := by
  have hd := hs.odis
  rw [List.pairwise_append] at hd
  refine hs.mutAll hk (fun x hx hm => let ⟨o, ho, h⟩ := hM x hx hm; ⟨o, List.mem_append_left _ ho, h⟩) _ ?_ ?_ ?_ ?_ har
  · intro o ho
    rcases List.mem_append.1 ho with h | h
    · exact hP o h
    · have hr := hs.res o (List.mem_append_right _ (List.mem_append_right _ h))
      refine o.stay w w' (fun x hx => hk.block x (hr.2 x hx) fun hm => ?_) hr.1
      obtain ⟨q, hq, hqx⟩ := hM x (hr.2 x hx) hm
      exact hd.2.2 q hq o h x ⟨hqx, hx⟩
  · intro o ho
    rcases List.mem_append.1 ho with h | h
    · exact hlt o h
    · exact fun x hx => Nat.lt_of_lt_of_le ((hs.res o (List.mem_append_right _ (List.mem_append_right _ h))).2 x hx) hk.size
  · intro o ho x hx
    rcases List.mem_append.1 ho with h | h
    · rcases hF o h x hx with ⟨q, hq, h'⟩ | h'
      · exact .inl ⟨q, List.mem_append_left _ hq, h'⟩
      · exact .inr h'
    · exact .inl ⟨o, List.mem_append_right _ h, hx⟩
  · rw [List.pairwise_append]
    refine ⟨hdis, hd.2.1, ?_⟩
    intro r hr s hs' x hx
    rcases hF r hr x hx.1 with ⟨q, hq, h'⟩ | h'
    · exact hd.2.2 q hq s hs' x ⟨h', hx.2⟩
    · have := (hs.res s (List.mem_append_right _ (List.mem_append_right _ hs'))).2 x hx.2; omega
end
end Rx
namespace Rx
open Go
section
variable {C : Ctx} {k : Nat → Nat} {ρ : Env} {ro own os : List Res} {o : Res} {st : St} {a : Act} {w w' : World} {P : Program} {Γ : Tab}
/-- .. and where it lies. -/
theorem wp_appendZ {op : Oper} {K : Act → World → Prop} {Q : Exit → Act → World → Prop} (hΓ : TabOk P Γ) {e : TypeId} {sz n c m : Nat} {A : Option Addr} {xs news : List Value} (hs : SatK C k ρ ro (ownS e sz A n c xs :: os) st a w)
    {t : TypeId} {tis ti : TI} {vx vy : SV} (hc : appendS Γ st op.op = some (t, tis, e, ti, vx, vy)) (hsz : ti.size = sz) (hx : vx.den k ρ = .slice A n c) (hy : Src P sz w (vy.den k ρ) m news) (hb : (n + m) * ti.bytes ≤ 140737488355328) (hn : n + m ≤ 9223372036854775807)
    (har : ∀ q ∈ st.ar, View (ro ++ os) (ρ.arr q.1))
    (h : ∀ A' c' w', SatK C k ρ ro (ownS e sz A' (n + m) c' (xs ++ news) :: os) st a w' → n + m ≤ c' → (0 < n + m → A' ≠ none) → Kept (ownS e sz A n c xs).F w w' → (∀ b, (ownS e sz A' (n + m) c' (xs ++ news)).F b → (ownS e sz A n c xs).F b ∨ w.heap.size ≤ b) → K (a.put op.dst (.slice A' (n + m) c')) w') : op.wp P a w K Q := by
  subst hsz
  have hP := hs.res _ (List.mem_append_right _ (List.mem_cons_self ..))
  refine wp_append hΓ hs hc hx hP.1 hy hb hn fun A' c' w' h1 h2 h3 h4 => h A' c' w' ?_ h1.2.1 h4 h2 fun b hb => (h3 b hb).1
  exact hs.mutate h2 _ h1 h3 fun q hq => (har q hq).mono (by intro r hr; simp only [List.mem_append, List.mem_cons] at hr ⊢; rcases hr with hr | hr <;> simp [hr])
end
end Rx
