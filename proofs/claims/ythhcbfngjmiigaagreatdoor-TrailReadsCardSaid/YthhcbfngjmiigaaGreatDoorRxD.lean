/-
  RX D: boxes that become things, stores into rows that are ours, new names, drawn regions with calls.
-/
import Derived.Test.YthhcbfngjmiigaaGreatDoorRxC
set_option linter.all false
set_option linter.unusedSimpArgs false
set_option linter.unusedSectionVars false
set_option linter.unusedVariables false
namespace Rx
open Go

theorem flatten_get {esz : Nat} : ∀ {els : List (List Value)} (hl : ∀ x ∈ els, x.length = esz) {i : Nat} {e : List Value} {j : Nat} {v : Value}, els[i]? = some e → e[j]? = some v → els.flatten[i * esz + j]? = some v := by
  intro els
  induction els with
  | nil => intro _ i e j v h; simp at h
  | cons x l ih =>
    intro hl i e j v h1 h2
    have hx : x.length = esz := hl x (by simp)
    cases i with
    | zero =>
      simp only [List.getElem?_cons_zero, Option.some.injEq] at h1
      subst h1
      have := (List.getElem?_eq_some_iff.1 h2).1
      rw [List.flatten_cons, List.getElem?_append_left (by omega), Nat.zero_mul, Nat.zero_add]; exact h2
    | succ i =>
      simp only [List.getElem?_cons_succ] at h1
      rw [List.flatten_cons, List.getElem?_append_right (by rw [Nat.succ_mul]; omega)]
      rw [show (i + 1) * esz + j - x.length = i * esz + j by rw [Nat.succ_mul]; omega]
      exact ih (fun y hy => hl y (by simp [hy])) h1 h2
theorem flatten_len {esz : Nat} : ∀ {els : List (List Value)} (hl : ∀ x ∈ els, x.length = esz), els.flatten.length = els.length * esz := by
  intro els
  induction els with
  | nil => simp
  | cons x l ih =>
    intro hl
    have hx : x.length = esz := hl x (by simp)
    rw [List.flatten_cons, List.length_append, ih (fun y hy => hl y (by simp [hy])), List.length_cons, Nat.succ_mul]; omega
theorem ownS_view {e esz n c : Nat} {A : Option Addr} {els : List (List Value)} (hn : els.length = n) (hl : ∀ x ∈ els, x.length = esz) : ∀ w, (ownS e esz A n c els.flatten).P w → (Arr.mk A esz els).res.P w := by
  rintro w ⟨h1, h2, h3, h4⟩ i x hx
  have hi := (List.getElem?_eq_some_iff.1 hx).1
  simp only at hi hx
  rcases h4 with h4 | ⟨g, cur, h5, h6, h7, h8⟩
  · omega
  · refine ⟨_, h5, fun j v hv => ?_⟩
    rw [addr_add, cell?_of h6]
    have h9 := flatten_get hl hx hv
    rw [← h8, List.getElem?_take] at h9
    split at h9
    · simpa [Arr.res] using h9
    · cases h9
/-- What is appended: a row that is seen. -/
theorem Src.arr {P : Program} {A : Option Addr} {esz m c : Nat} {els : List (List Value)} {w : World} (hm : els.length = m) (hl : ∀ x ∈ els, x.length = esz) (h1 : ∀ x ∈ els, ∀ u ∈ x, u.oneCell' = true) (h : (Arr.mk A esz els).res.P w) : Src P esz w (.slice A m c) m els.flatten := by
  by_cases h0 : els = []
  · subst h0
    simp only [List.length_nil] at hm
    subst hm
    exact Src.nil
  · have hpos : 0 < els.length := List.length_pos_iff.2 h0
    obtain ⟨ad, ha, _⟩ := h 0 els[0] (List.getElem?_eq_getElem hpos)
    simp only at ha
    subst ha
    refine Src.slice (by rw [flatten_len hl, hm]) ?_ ?_
    · intro j u hj
      have hjl := (List.getElem?_eq_some_iff.1 hj).1
      rw [flatten_len hl] at hjl
      have hesz : 0 < esz := by
        rcases Nat.eq_zero_or_pos esz with h' | h'
        · rw [h', Nat.mul_zero] at hjl; omega
        · exact h'
      have hdiv : j / esz < els.length := (Nat.div_lt_iff_lt_mul hesz).2 hjl
      obtain ⟨ad', ha', hc⟩ := h (j / esz) els[j / esz] (List.getElem?_eq_getElem hdiv)
      simp only [Option.some.injEq] at ha'
      subst ha'
      have hmod : j % esz < (els[j / esz]).length := by rw [hl _ (List.getElem_mem hdiv)]; exact Nat.mod_lt _ hesz
      have e1 := flatten_get hl (List.getElem?_eq_getElem hdiv) (List.getElem?_eq_getElem hmod)
      have e2 : j / esz * esz + j % esz = j := by rw [Nat.mul_comm]; exact Nat.div_add_mod j esz
      rw [e2, hj] at e1
      have e3 := hc (j % esz) _ (List.getElem?_eq_getElem hmod)
      simp only [e2] at e3
      rw [e3, ← e1]
    · intro u hu
      obtain ⟨x, hx, hux⟩ := List.mem_flatten.1 hu
      exact h1 x hx u hux

theorem splice_take {α : Type} {L : List α} {m off : Nat} {vs : List α} (h : off + vs.length ≤ m) (h2 : m ≤ L.length) : (splice L off vs).take m = splice (L.take m) off vs := by
  have h3 : (L.take off ++ vs).length = off + vs.length := by simp; omega
  simp only [splice]
  rw [List.take_append, List.take_of_length_le (by rw [h3]; exact h), List.take_take, List.drop_take, h3, Nat.min_eq_left (by omega)]
section
variable {C : Ctx} {k : Nat → Nat} {ρ : Env} {ro own os : List Res} {o : Res} {st : St} {a : Act} {w w' : World} {P : Program} {Γ : Tab}

/-- A box becomes a thing that is ours. -/
theorem SatK.unbox (hs : SatK C k ρ ro own st a w) {b : Box} (hb : b ∈ st.bx) (o : Res) (hP : w.heap[k b.id]? = some (boxObj k ρ b) → o.P w) (hF : ∀ x, o.F x → x = k b.id) :
    SatK C k ρ ro (o :: own) { st with bx := st.bx.filter fun b' => !(b'.id == b.id) } a w := by
  have hsub : ∀ {b'}, b' ∈ st.bx.filter (fun b' => !(b'.id == b.id)) → b' ∈ st.bx ∧ b'.id ≠ b.id := by
    intro b' h
    simp only [List.mem_filter, Bool.not_eq_true', beq_eq_false_iff_ne] at h
    exact h
  have h1 : SatK C k ρ ro own { st with bx := st.bx.filter fun b' => !(b'.id == b.id) } a w :=
    ⟨hs.defers, hs.size, hs.slot, fun b' h => hs.box b' (hsub h).1, fun b' h => hs.bnew b' (hsub h).1, fun b' h => hs.bid b' (hsub h).1, fun b' h b'' h' => hs.bdis b' (hsub h).1 b'' (hsub h').1, hs.kept, hs.res, fun r hr b' h => hs.rbox r hr b' (hsub h).1, hs.odis, hs.oro, hs.onew, hs.arr⟩
  refine h1.addOwn o (hP (hs.box b hb)) (fun x hx => by rw [hF x hx]; exact hs.boxlt hb) (fun b' h hx => ?_) (fun q hq x hx => ?_) (fun q hq x hx => ?_) (fun x hx => ?_)
  · exact hs.bdis b' (hsub h).1 b hb (hsub h).2 (hF _ hx)
  · have h2 := hx.2; rw [hF x hx.1] at h2
    exact hs.rbox q (List.mem_append_right _ hq) b hb h2
  · have h2 := hx.2; rw [hF x hx.1] at h2
    exact hs.rbox q (List.mem_append_left _ hq) b hb h2
  · rw [hF x hx]; exact hs.bnew b hb
def boxR (x : Nat) (ob : Obj) : Res where
  F b := b = x
  P w := w.heap[x]? = some ob
  stay := fun w w' h hp => by rw [h x rfl]; exact hp
theorem SatK.rebox (hs : SatK C k ρ ro (o :: own) st a w) (b : Box) (hP : o.P w → w.heap[k b.id]? = some (boxObj k ρ b)) (hF : o.F (k b.id)) (hi : b.id < st.nx) (hne : ∀ b' ∈ st.bx, b'.id ≠ b.id)
    (har : ∀ q ∈ st.ar, View (ro ++ own) (ρ.arr q.1)) : SatK C k ρ ro own { st with bx := b :: st.bx } a w := by
  have ho : o ∈ ro ++ o :: own := by simp
  have hoth : ∀ r, r ∈ ro ++ own → ¬ r.F (k b.id) := by
    intro r hr
    rcases List.mem_append.1 hr with h | h
    · exact fun hx => hs.oro o (by simp) r h _ ⟨hF, hx⟩
    · exact fun hx => (List.pairwise_cons.1 hs.odis).1 r h _ ⟨hF, hx⟩
  have hmem : ∀ r, r ∈ ro ++ own → r ∈ ro ++ o :: own := by
    intro r hr
    rcases List.mem_append.1 hr with h | h
    · exact List.mem_append_left _ h
    · exact List.mem_append_right _ (List.mem_cons_of_mem _ h)
  refine ⟨hs.defers, hs.size, hs.slot, ?_, ?_, ?_, ?_, hs.kept, fun r hr => hs.res r (hmem r hr), ?_, (List.pairwise_cons.1 hs.odis).2, fun q hq => hs.oro q (List.mem_cons_of_mem _ hq), fun q hq => hs.onew q (List.mem_cons_of_mem _ hq), fun q hq => ⟨(hs.arr q hq).1, (hs.arr q hq).2.1, har q hq⟩⟩
  · intro b' h
    simp only [List.mem_cons] at h
    rcases h with rfl | h
    · exact hP (hs.res o ho).1
    · exact hs.box b' h
  · intro b' h
    simp only [List.mem_cons] at h
    rcases h with rfl | h
    · exact hs.onew o (by simp) _ hF
    · exact hs.bnew b' h
  · intro b' h
    simp only [List.mem_cons] at h
    rcases h with rfl | h
    · exact hi
    · exact hs.bid b' h
  · intro b' h b'' h' hn
    simp only [List.mem_cons] at h h'
    rcases h with rfl | h <;> rcases h' with rfl | h'
    · exact absurd rfl hn
    · intro e; exact hs.rbox o ho b'' h' (e ▸ hF)
    · intro e; exact hs.rbox o ho b' h (e ▸ hF)
    · exact hs.bdis b' h b'' h' hn
  · intro r hr b' h
    simp only [List.mem_cons] at h
    rcases h with rfl | h
    · exact hoth r hr
    · exact hs.rbox r (hmem r hr) b' h

/-- A value is put into a slot, with new names. -/
theorem SatK.setX (hs : SatK C k ρ ro own st a w) (ρ' : Env) {d : Nat} (sv : SV) {v : Value} (hd : d < st.N) (hv : sv.den k ρ' = v) (h1 : convSl k ρ ρ' st.sl st.sl) (h2 : convBx k ρ ρ' st.bx st.bx) (h3 : convAr ρ ρ' st.ar st.ar) :
    SatK C k ρ' ro own (st.put d sv) (a.put (some d) v) w := by
  subst hv
  exact (hs.to ρ' st rfl (by simp; exact hs.bid) h1 h2 h3).put hd sv

theorem SatK.setS (hs : SatK C k ρ ro own st a w) {d : Nat} (sv : SV) {v : Value} (hd : d < st.N) (hv : sv.den k ρ = v) : SatK C k ρ ro own (st.put d sv) (a.put (some d) v) w := by
  subst hv
  exact hs.put hd sv

/-- What is new at the end is new to the caller. -/
theorem SatK.fresh (hs : SatK C k ρ ro own st a w) (hM : ∀ x, ¬ C.M x) {o : Res} (ho : o ∈ own) : o.P w ∧ ∀ x, o.F x → C.w0.heap.size ≤ x ∧ x < w.heap.size := by
  have h := hs.res o (List.mem_append_right _ ho)
  refine ⟨h.1, fun x hx => ⟨?_, h.2 x hx⟩⟩
  rcases hs.onew o ho x hx with h' | h'
  · exact h'
  · exact absurd h' (hM x)

/-! ### a store into a row that is ours -/
theorem wp_storeE {op : Oper} {K : Act → World → Prop} {Q : Exit → Act → World → Prop} (hΓ : TabOk P Γ) (hs : SatK C k ρ ro own st a w) {t : Nat} {x y : Operand} (hop : op.op = .store t x y) (hd : op.dst = none)
    {sx sy : SV} (hx : ev st x = some sx) (hy : ev st y = some sy) {ti : TI} (ht : Γ.get t = some ti) {l : List SV} (hl : cellsOf sy = some l) (hn : l.length = ti.size)
    {e esz n c off g : Nat} {A : Option Addr} {xs : List Value} (hA : A = some ⟨g, 0, none⟩) (hsx : sx.den k ρ = .pointer (some ⟨g, off, none⟩)) (hc : c ≠ 0) (ho : (ownS e esz A n c xs).P w) (hoff : off + ti.size ≤ n * esz)
    (h : ∀ w', (ownS e esz A n c (splice xs off (SV.dens k ρ l))).P w' → Kept (ownS e esz A n c xs).F w w' → w'.heap.size = w.heap.size → K a w') : op.wp P a w K Q := by
  obtain ⟨dst, o, type, pos, after, guard⟩ := op
  simp only at hop hd
  subst hop hd
  obtain ⟨h1, h2, h3, h4⟩ := ho
  rcases h4 with h4 | ⟨g', cur, h5, h6, h7, h8⟩
  · exact absurd h4 hc
  · rw [hA] at h5
    obtain rfl : g = g' := by simpa using h5
    obtain ⟨e1, e2⟩ := cellsOf_den hl k ρ
    have F := tfacts (hΓ.get ht)
    have hcur : n * esz ≤ cur.size := by rw [h7]; exact Nat.mul_le_mul_right _ h2
    have hln : (SV.dens k ρ l).length = ti.size := by simp [dens_map, hn]
    obtain ⟨w', hr, hw⟩ := run_storeCells (P := P) g off e (SV.dens k ρ l) 0 cur w h6 e2 (by rw [hln]; omega)
    refine wp_skipO (w' := w') ?_ (h w' ⟨?_, h2, h3, .inr ⟨g, _, hA, hw.here, ?_, ?_⟩⟩ ⟨hw.os, hw.tape, hw.output, Nat.le_of_eq hw.size.symm, fun b _ hb => hw.block b fun e => hb ⟨hc, by rw [e]; exact hA⟩⟩ hw.size)
    · simp only [execOp, Instr.storeAt, hs.ev hx, hs.ev hy, hsx, Instr.sureAddr, Sem.run_bind, Sem.run_pure, Result.andThen_ok, storeVar, F.run_size, e1]
      rw [if_neg (by simp [hln])]
      have : (storeCells ⟨g, off, none⟩ (SV.dens k ρ l).toArray.toList 0).run P w = .ok () w' := by simpa using hr
      rw [this]; rfl
    · rw [splice_length _ _ _ (by rw [hln, h1]; exact hoff)]; exact h1
    · simp only [List.size_toArray, Nat.add_zero]
      rw [splice_length _ _ _ (by rw [hln]; simp; omega)]; simpa using h7
    · simp only [Nat.add_zero]
      rw [splice_take (by rw [hln]; exact hoff) (by simpa using hcur), h8]

/-! ### drawn regions -/
variable {M : Nat → Prop} {ms mar : List Nat} {nx0 n0 : Nat} {ops : Array Oper} {Q : Exit → Act → World → Prop}
theorem RnC.grow {l l' : List Res} {st' : St} {ρ' : Env} (hc : RnC M k ρ ms mar nx0 n0 l st w) (hw : w.heap.size ≤ w'.heap.size) (hnx : st.nx ≤ st'.nx) (hbx : ∀ b ∈ st'.bx, ∃ b0 ∈ st.bx, b0.id = b.id) (har : ∀ q ∈ st'.ar, q.1 ∉ mar → q ∈ st.ar ∧ ρ.arr q.1 = ρ'.arr q.1)
    (hl : ∀ r ∈ l, r ∈ l') : RnC M k ρ' ms mar nx0 n0 l' st' w' where
  old := by
    intro b h1 h2 h3
    obtain ⟨b0, h4, h5⟩ := hbx b h1
    rw [← h5] at h2 h3 ⊢
    exact hc.old b0 h4 h2 h3
  muts := by
    intro b h1 h2
    obtain ⟨b0, h4, h5⟩ := hbx b h1
    rw [← h5] at h2 ⊢
    exact hc.muts b0 h4 h2
  new := hc.new
  n0 := Nat.le_trans hc.n0 hw
  nx := Nat.le_trans hc.nx hnx
  res := by
    intro q hq hm
    obtain ⟨h1, h2⟩ := har q hq hm
    obtain ⟨r, h3, h4, h5⟩ := hc.res q h1 hm
    exact ⟨r, hl r h3, fun w h => by rw [← h2]; exact h4 w h, h5⟩
theorem Pure0.fr (h : Pure0 w w') : Fr M w w' := ⟨h.size, fun b hb _ => h.block b hb fun x => x⟩
theorem Kept.fr {N : Nat → Prop} (h : Kept N w w') (hN : ∀ x, x < w.heap.size → N x → M x) : Fr M w w' := ⟨h.size, fun b hb hm => h.block b hb fun x => hm (hN b hb x)⟩
end
end Rx
