/-
  RX E: more small laws for walks.
-/
import Derived.Test.YthhcbfngjmiigaaGreatDoorRxD
set_option linter.all false
set_option linter.unusedSimpArgs false
set_option linter.unusedSectionVars false
set_option linter.unusedVariables false
namespace Rx
open Go
theorem Arr.block {w : World} {g esz t : Nat} {els : List (List Value)} {cur : Array Value} (h : w.heap[g]? = some (.cells cur t (0, 0))) (hc : cur = els.flatten.toArray) (hl : ∀ x ∈ els, x.length = esz) : Lies ⟨some ⟨g, 0, none⟩, esz, els⟩ w := by
  refine ⟨?_, ?_⟩
  · intro i e he
    refine ⟨_, rfl, fun j v hv => ?_⟩
    rw [addr_add, cell?_of h, hc]
    have := flatten_get hl he hv
    simpa using this
  · rintro x ⟨_, ad, h1, rfl⟩
    simp only [Option.some.injEq] at h1
    rw [← h1]
    exact (Array.getElem?_eq_some_iff.1 h).1

section
variable {C : Ctx} {k : Nat → Nat} {ρ : Env} {ro own os : List Res} {o : Res} {st : St} {a : Act} {w w' : World} {P : Program} {Γ : Tab}
/-- Behind what wrote to some blocks, the first thing that is ours among them. -/
theorem SatK.mutM (hs : SatK C k ρ ro (o :: os) st a w) {M' : Nat → Prop} (hk : Kept M' w w') (hoth : ∀ r, r ∈ ro ∨ r ∈ os → ∀ x, r.F x → ¬ M' x) (hbx : ∀ b ∈ st.bx, ¬ M' (k b.id)) (hnew : ∀ x, x < w.heap.size → M' x → C.w0.heap.size ≤ x ∨ C.M x)
    (o' : Res) (hP : o'.P w') (hF : ∀ b, o'.F b → (M' b ∨ w.heap.size ≤ b) ∧ b < w'.heap.size) (har : ∀ q ∈ st.ar, View (ro ++ o' :: os) (ρ.arr q.1)) : SatK C k ρ ro (o' :: os) st a w' := by
  have hmem : ∀ s, s ∈ ro ∨ s ∈ os → s ∈ ro ++ o :: os := by
    rintro s (h | h)
    · exact List.mem_append_left _ h
    · exact List.mem_append_right _ (List.mem_cons_of_mem _ h)
  refine ⟨hs.defers, hs.size, hs.slot, ?_, hs.bnew, hs.bid, hs.bdis, ?_, ?_, ?_, ?_, ?_, ?_, fun q hq => ⟨(hs.arr q hq).1, (hs.arr q hq).2.1, har q hq⟩⟩
  · intro b hb
    rw [hk.block _ (hs.boxlt hb) (hbx b hb)]; exact hs.box b hb
  · refine ⟨hk.os.trans hs.kept.os, hk.tape.trans hs.kept.tape, hk.output.trans hs.kept.output, Nat.le_trans hs.kept.size hk.size, fun x hx hm => ?_⟩
    have hxw : x < w.heap.size := Nat.lt_of_lt_of_le hx hs.kept.size
    rw [hk.block x hxw (fun h => ?_), hs.kept.block x hx hm]
    rcases hnew x hxw h with h' | h'
    · omega
    · exact hm h'
  · intro s hm
    simp only [List.mem_append, List.mem_cons] at hm
    have key : s ∈ ro ∨ s ∈ os → s.P w' ∧ ∀ x, s.F x → x < w'.heap.size := fun h => by
      have hr := hs.res s (hmem s h)
      exact ⟨s.stay w w' (fun x hx => hk.block x (hr.2 x hx) (hoth s h x hx)) hr.1, fun x hx => Nat.lt_of_lt_of_le (hr.2 x hx) hk.size⟩
    rcases hm with h | rfl | h
    · exact key (.inl h)
    · exact ⟨hP, fun x hx => (hF x hx).2⟩
    · exact key (.inr h)
  · intro s hm b hb
    simp only [List.mem_append, List.mem_cons] at hm
    rcases hm with h | rfl | h
    · exact hs.rbox s (hmem s (.inl h)) b hb
    · intro hx
      rcases (hF _ hx).1 with h | h
      · exact hbx b hb h
      · have := hs.boxlt hb; omega
    · exact hs.rbox s (hmem s (.inr h)) b hb
  · refine List.pairwise_cons.2 ⟨fun s h x hx => ?_, (List.pairwise_cons.1 hs.odis).2⟩
    rcases (hF _ hx.1).1 with h' | h'
    · exact hoth s (.inr h) x hx.2 h'
    · have := (hs.res s (hmem s (.inr h))).2 x hx.2; omega
  · intro q hq s hm x hx
    simp only [List.mem_cons] at hq
    rcases hq with rfl | hq
    · rcases (hF _ hx.1).1 with h' | h'
      · exact hoth s (.inl hm) x hx.2 h'
      · have := (hs.res s (hmem s (.inl hm))).2 x hx.2; omega
    · exact hs.oro q (List.mem_cons_of_mem _ hq) s hm x hx
  · intro q hq
    simp only [List.mem_cons] at hq
    rcases hq with rfl | hq
    · intro x hx
      have hlt := (hF x hx).2
      rcases (hF x hx).1 with h' | h'
      · by_cases hxw : x < w.heap.size
        · exact hnew x hxw h'
        · exact .inl (by have := hs.kept.size; omega)
      · exact .inl (by have := hs.kept.size; omega)
    · exact hs.onew q (List.mem_cons_of_mem _ hq)
theorem wp_callA {op : Oper} {K : Act → World → Prop} {Q : Exit → Act → World → Prop} (hs : SatK C k ρ ro own st a w) {f : Nat} {fn : Func} {vs : List SV} {args : List Value} (hc : calleeS st op.op = some (f, vs))
    (hf : P.funcs[f]? = some fn) (hb : fn.body.isSome = true) (hn : (fn.name == "runtime.NumGoroutine") = false) (hv : SV.dens k ρ vs = args)
    (h : Calls P f args.toArray w fun e w' => ∃ v, e = .returned v ∧ K (a.put op.dst v) w') : op.wp P a w K Q := by
  subst hv
  exact wp_call hs hc hf hb hn h
theorem wp_appendK {op : Oper} {K : Act → World → Prop} {Q : Exit → Act → World → Prop} (hΓ : TabOk P Γ) {e : TypeId} {sz n c m : Nat} {A : Option Addr} {xs news : List Value} (hs : SatK C k ρ ro (ownS e sz A n c xs :: os) st a w)
    {t : TypeId} {tis ti : TI} {vx vy : SV} (hc : appendS Γ st op.op = some (t, tis, e, ti, vx, vy)) (hsz : ti.size = sz) (hx : vx.den k ρ = .slice A n c) (hy : Src P sz w (vy.den k ρ) m news) (hb : (n + m) * ti.bytes ≤ 140737488355328) (hn : n + m ≤ 9223372036854775807)
    (har : ∀ q ∈ st.ar, View (ro ++ os) (ρ.arr q.1))
    (h : ∀ A' c' w', SatK C k ρ ro (ownS e sz A' (n + m) c' (xs ++ news) :: os) st a w' → n + m ≤ c' → (0 < n + m → A' ≠ none) → K (a.put op.dst (.slice A' (n + m) c')) w') : op.wp P a w K Q := by
  subst hsz
  have hP := hs.res _ (List.mem_append_right _ (List.mem_cons_self ..))
  refine wp_append hΓ hs hc hx hP.1 hy hb hn fun A' c' w' h1 h2 h3 h4 => h A' c' w' ?_ h1.2.1 h4
  exact hs.mutate h2 _ h1 h3 fun q hq => (har q hq).mono (by intro r hr; simp only [List.mem_append, List.mem_cons] at hr ⊢; rcases hr with hr | hr <;> simp [hr])
theorem rn_callA {ops : Array Oper} {i : Nat} {op : Oper} {l : List (Nat × Bool)} {M : Nat → Prop} {Q : Exit → Act → World → Prop} (hs : SatK C k ρ ro own st a w) (ho : ops[i]? = some op) (hg : guardS ops st op = .run) {f : Nat} {fn : Func} {vs : List SV} {args : List Value} (hc : calleeS st op.op = some (f, vs))
    (hf : P.funcs[f]? = some fn) (hb : fn.body.isSome = true) (hn : (fn.name == "runtime.NumGoroutine") = false) (hv : SV.dens k ρ vs = args)
    (h : Calls P f args.toArray w fun e w' => ∃ v, e = .returned v ∧ Fr M w w' ∧ Rn P ops Q M l (a.put op.dst v) w') : Rn P ops Q M ((i, false) :: l) a w := by
  refine rn_step hs ho hg (wp_callA hs hc hf hb hn hv (h.mono ?_))
  rintro e w' ⟨v, rfl, h1, h2⟩
  exact ⟨v, rfl, Act.put_defers' _ _ _, h1, h2⟩
/-- A drawn region, begun. -/
theorem rx_drawK (hm : P.follows .mixedOrders = true) (hs : SatK C k ρ ro own st a w) (ms mar : List Nat) {id : Nat} {ops : Array Oper} {ks : List KI} {Q : Exit → Act → World → Prop} (e : List (Nat × Bool)) (hc : drawOk ops e = true)
    (h : ∀ M, (∀ x, w.drew.heap.size ≤ x → M x) → SatK C k ρ ro own st a w.drew → RnC M k ρ ms mar st.nx w.drew.heap.size (ro ++ own) st w.drew → Rn P ops (Kx P ks Q) M e a w.drew) : Wk P (.c (.region id ops true) :: ks) Q a w :=
  rx_draw hm _ e hc (h _ (fun x hx => .inl hx) hs.drew (RnC.start hs.drew ms mar (fun _ => False) (fun _ _ h => h) (fun q hq _ => let ⟨r, h1, h2⟩ := (hs.drew.arr q hq).2.2; ⟨r, h1, h2, fun _ _ h => h⟩)))
/-- .. in which things that are ours are written, too. -/
theorem rx_drawM (hm : P.follows .mixedOrders = true) (hs : SatK C k ρ ro own st a w) (ms mar : List Nat) (MO : Nat → Prop) (hb : ∀ b ∈ st.bx, ¬ MO (k b.id)) (hr : ∀ q ∈ st.ar, q.1 ∉ mar → ∃ r ∈ ro ++ own, (∀ w, r.P w → (ρ.arr q.1).res.P w) ∧ ∀ x, r.F x → ¬ MO x)
    {id : Nat} {ops : Array Oper} {ks : List KI} {Q : Exit → Act → World → Prop} (e : List (Nat × Bool)) (hc : drawOk ops e = true)
    (h : ∀ M, (∀ x, w.drew.heap.size ≤ x ∨ MO x → M x) → SatK C k ρ ro own st a w.drew → RnC M k ρ ms mar st.nx w.drew.heap.size (ro ++ own) st w.drew → Rn P ops (Kx P ks Q) M e a w.drew) : Wk P (.c (.region id ops true) :: ks) Q a w :=
  rx_draw hm _ e hc (h _ (fun x hx => by rcases hx with h | h; exact .inl h; exact .inr (.inr h)) hs.drew (RnC.start hs.drew ms mar MO hb hr))
theorem rx_draw2K (hm : P.follows .mixedOrders = true) (hs : SatK C k ρ ro own st a w) (ms mar : List Nat) {id : Nat} {ops : Array Oper} {ks : List KI} {Q : Exit → Act → World → Prop} (i j : Nat) (e1 e2 : List (Nat × Bool)) (hb : backward ops = true) (hij : (i != j && Decidable.decide (i < ops.size) && Decidable.decide (j < ops.size)) = true)
    (hc1 : drawOk2 ops i j e1 = true) (hc2 : drawOk2 ops j i e2 = true)
    (h1 : ∀ M, (∀ x, w.drew.heap.size ≤ x → M x) → SatK C k ρ ro own st a w.drew → RnC M k ρ ms mar st.nx w.drew.heap.size (ro ++ own) st w.drew → Rn P ops (Kx P ks Q) M e1 a w.drew)
    (h2 : ∀ M, (∀ x, w.drew.heap.size ≤ x → M x) → SatK C k ρ ro own st a w.drew → RnC M k ρ ms mar st.nx w.drew.heap.size (ro ++ own) st w.drew → Rn P ops (Kx P ks Q) M e2 a w.drew) : Wk P (.c (.region id ops true) :: ks) Q a w := by
  have hr := RnC.start hs.drew ms mar (fun _ => False) (fun _ _ h => h) (fun q hq _ => let ⟨r, h1, h2⟩ := (hs.drew.arr q hq).2.2; ⟨r, h1, h2, fun _ _ h => h⟩)
  exact rx_draw2 hm _ _ i j e1 e2 hb hij hc1 hc2 (h1 _ (fun x hx => .inl hx) hs.drew hr) (h2 _ (fun x hx => .inl hx) hs.drew hr)
/-- .. and what holds behind it, whichever order. -/
theorem rx_draw2I (I : Act → World → Prop) (hm : P.follows .mixedOrders = true) (hs : SatK C k ρ ro own st a w) (ms mar : List Nat) {id : Nat} {ops : Array Oper} {ks : List KI} {Q : Exit → Act → World → Prop} (i j : Nat) (e1 e2 : List (Nat × Bool)) (hb : backward ops = true) (hij : (i != j && Decidable.decide (i < ops.size) && Decidable.decide (j < ops.size)) = true)
    (hc1 : drawOk2 ops i j e1 = true) (hc2 : drawOk2 ops j i e2 = true) (hI : ∀ a' w', I a' w' → Wk P ks Q a' w')
    (h1 : (∀ a' w', I a' w' → Wk P ks Q a' w') → ∀ M, (∀ x, w.drew.heap.size ≤ x → M x) → SatK C k ρ ro own st a w.drew → RnC M k ρ ms mar st.nx w.drew.heap.size (ro ++ own) st w.drew → Rn P ops (Kx P ks Q) M e1 a w.drew)
    (h2 : (∀ a' w', I a' w' → Wk P ks Q a' w') → ∀ M, (∀ x, w.drew.heap.size ≤ x → M x) → SatK C k ρ ro own st a w.drew → RnC M k ρ ms mar st.nx w.drew.heap.size (ro ++ own) st w.drew → Rn P ops (Kx P ks Q) M e2 a w.drew) : Wk P (.c (.region id ops true) :: ks) Q a w :=
  rx_draw2K hm hs ms mar i j e1 e2 hb hij hc1 hc2 (h1 hI) (h2 hI)
/-- An empty slice with no room is ours. -/
theorem SatK.addEmp (hs : SatK C k ρ ro own st a w) (e sz : Nat) (A : Option Addr) : SatK C k ρ ro (ownS e sz A 0 0 [] :: own) st a w :=
  hs.addOwn _ (ownS_nil e sz A w) (fun x hx => absurd rfl hx.1) (fun b _ hx => absurd rfl hx.1) (fun o _ x hx => absurd rfl hx.1.1) (fun o _ x hx => absurd rfl hx.1.1) (fun x hx => absurd rfl hx.1)
end
theorem flatten_one {α : Type} (f : α → Value) (xs : List α) : (xs.map fun s => [f s]).flatten = xs.map f := by induction xs with
  | nil => rfl
  | cons x l ih => simp [ih]
theorem Src.strs {P : Program} {A : Option Addr} {c : Nat} {xs : List ByteArray} {w : World} (h : (strArr A xs).res.P w) : Src P 1 w (.slice A xs.length c) xs.length (xs.map .string) := by
  have := Src.arr (P := P) (A := A) (esz := 1) (m := xs.length) (c := c) (els := xs.map fun s => [Value.string s]) (w := w) (by simp) (by simp) (by intro x hx u hu; obtain ⟨s, _, rfl⟩ := List.mem_map.1 hx; simp at hu; subst hu; rfl) h
  rw [flatten_one] at this
  exact this
def ownStr (T : Nat) (A : Option Addr) (c : Nat) (xs : List ByteArray) : Res := ownS T 1 A xs.length c (xs.map .string)
theorem ownStr_view {T c : Nat} {A : Option Addr} {xs : List ByteArray} : ∀ w, (ownStr T A c xs).P w → (strArr A xs).res.P w := by
  intro w h
  have := ownS_view (e := T) (esz := 1) (n := xs.length) (c := c) (A := A) (els := xs.map fun s => [Value.string s]) (by simp) (by simp) w
  rw [flatten_one] at this
  exact this h
/-- Paths that meet again: what holds where they meet. -/
theorem rx_fork {P : Program} {ks : List KI} {Q : Exit → Act → World → Prop} (I : Act → World → Prop) {G : Prop} (h : (∀ a w, I a w → Wk P ks Q a w) → G) (hI : ∀ a w, I a w → Wk P ks Q a w) : G := h hI
theorem Src.boxK {C : Ctx} {k : Nat → Nat} {ρ : Env} {ro own : List Res} {st : St} {a : Act} {w : World} {P : Program} {esz m c : Nat} (hs : SatK C k ρ ro own st a w) {b : Box} (hb : b ∈ st.bx) {news : List Value} (hn : SV.dens k ρ b.cells = news) (hl : news.length = m * esz) (h1 : ∀ u ∈ news, u.oneCell' = true) : Src P esz w (.slice (some ⟨k b.id, 0, none⟩) m c) m news := by
  subst hn
  refine Src.slice hl ?_ h1
  intro j u hj
  have := hs.box b hb
  rw [addr_add, cell?_of this]
  simpa using hj
theorem ownStr_new {T c g n : Nat} {xs : List ByteArray} {w : World} (h : (ownStr T (some ⟨g, 0, none⟩) c xs).P w) (hg : n ≤ g) : ∀ x, (ownStr T (some ⟨g, 0, none⟩) c xs).F x → n ≤ x ∧ x < w.heap.size := by
  intro x hx
  refine ⟨?_, ownS_lt h x hx⟩
  have := hx.2
  simp only [Option.some.injEq, Addr.mk.injEq] at this
  omega
theorem ownStr_F {T c : Nat} {A : Option Addr} {xs : List ByteArray} {w : World} (h : (ownStr T A c xs).P w) {x : Nat} (hx : (strArr A xs).res.F x) : (ownStr T A c xs).F x := by
  obtain ⟨hne, ad, h1, rfl⟩ := hx
  simp only [strArr_a] at h1
  subst h1
  obtain ⟨_, h3, _, h4⟩ := h
  have hc : c ≠ 0 := by
    simp at hne
    have : xs.length ≠ 0 := fun h => hne (List.length_eq_zero_iff.1 h)
    omega
  rcases h4 with h4 | ⟨g, cur, h5, _⟩
  · exact absurd h4 hc
  · simp only [Option.some.injEq] at h5
    subst h5
    exact ⟨hc, rfl⟩
theorem ownStr_lies {T c : Nat} {A : Option Addr} {xs : List ByteArray} {w : World} (h : (ownStr T A c xs).P w) : Lies (strArr A xs) w := by
  refine ⟨ownStr_view w h, ?_⟩
  rintro x ⟨hne, ad, h1, rfl⟩
  simp only [strArr_a] at h1
  subst h1
  obtain ⟨_, h3, _, h4⟩ := h
  rcases h4 with h4 | ⟨g, cur, h5, h6, _⟩
  · simp at hne
    have : xs.length ≠ 0 := fun h => hne (List.length_eq_zero_iff.1 h)
    omega
  · simp only [Option.some.injEq] at h5
    rw [h5]
    exact (Array.getElem?_eq_some_iff.1 h6).1
end Rx
