import Derived.Test.YthhcbfngjmiigaaGreatDoorBgrow
set_option linter.all false
namespace Go.Proofs.YthhcbfngjmiigaaGreatDoor
open Go Rx
set_option maxRecDepth 100000
def bkSVt : List SV := [.slice (.v 0) (.v 0) (.v 1), .slice (.v 1) (.v 0) (.v 2)] ++ List.replicate 18 (.slice .nil (.c 0) (.c 0))
theorem tlOut_mk (O : Option Addr) (d n : Nat) (gs : List TL) (l : List Value) (hn : gs.length = n) (hl : gs.map tlV = l) : ownS 22 1 O n d l = tlOut O d gs := by subst hn hl; rfl
theorem Texts (p : Nat) (O1 O2 A : Option Addr) (c1 c2 c : Nat) (ts us : List TL) (xs : List ByteArray) (hlen : us.length = ts.length) (hn : ts.length < 250) (hx : xs.length ≤ 1000000) (w : World)
    (hb : w.heap[p]? = some (.cells (bkCells O1 ts.length c1 O2 ts.length c2).toArray 38 (0, 0))) (h1 : (tlOut O1 c1 ts).P w) (h2 : (tlOut O2 c2 us).P w) (ha : Lies (strArr A xs) w)
    (hp1 : ¬ (tlOut O1 c1 ts).F p) (hp2 : ¬ (tlOut O2 c2 us).F p) (hpa : ¬ (strArr A xs).res.F p) (h12 : ∀ x, ¬ ((tlOut O1 c1 ts).F x ∧ (tlOut O2 c2 us).F x))
    (h1a : ∀ x, ¬ ((tlOut O1 c1 ts).F x ∧ (strArr A xs).res.F x)) (h2a : ∀ x, ¬ ((tlOut O2 c2 us).F x ∧ (strArr A xs).res.F x)) :
    Calls Tryz.prog 7 #[.pointer (some ⟨p, 0, none⟩), .slice A xs.length c] w fun e w' => e = .returned (.tuple #[]) ∧ ∃ O1' c1' O2' c2' B d,
      w'.heap[p]? = some (.cells (bkCells O1' (ts.length + 1) c1' O2' (ts.length + 1) c2').toArray 38 (0, 0)) ∧ (tlOut O1' c1' (ts ++ [⟨A, c, xs⟩])).P w' ∧ (tlOut O2' c2' (us ++ [⟨B, d, xs⟩])).P w' ∧ (tlOwn ⟨B, d, xs⟩).P w' ∧
      (∀ r ∈ [tlOut O1' c1' (ts ++ [⟨A, c, xs⟩]), tlOut O2' c2' (us ++ [⟨B, d, xs⟩]), tlOwn ⟨B, d, xs⟩], (∀ x, r.F x → w.heap.size ≤ x ∨ (tlOut O1 c1 ts).F x ∨ (tlOut O2 c2 us).F x) ∧ ¬ r.F p) ∧
      [tlOut O1' c1' (ts ++ [⟨A, c, xs⟩]), tlOut O2' c2' (us ++ [⟨B, d, xs⟩]), tlOwn ⟨B, d, xs⟩].Pairwise (fun r s => ∀ x, ¬ (r.F x ∧ s.F x)) ∧
      Kept (fun x => x = p ∨ (tlOut O1 c1 ts).F x ∨ (tlOut O2 c2 us).F x) w w' := by
  refine rx_enterK (M := fun x => x = p ∨ (tlOut O1 c1 ts).F x ∨ (tlOut O2 c2 us).F x) Tryz.func7 rfl (fun _ => p) { n := [ts.length, c1, c2, xs.length, c], a := [O1, O2, A] } [.ptr (.box 0 0), .slice (.v 2) (.v 3) (.v 4)]
    (by simp [SV.den]) (ro := [(strArr A xs).res]) (own := [tlOut O1 c1 ts, tlOut O2 c2 us]) (bx := [⟨0, 38, bkSVt⟩]) (nx := 1) (ar := [])
    (memO _ rfl (by rw [hb]; simp [boxObj, bkCells, bkSVt]) (.inl rfl) (by
      intro r hr
      simp at hr
      rcases hr with rfl | rfl | rfl
      · exact ha
      · exact ⟨h1, ownS_lt h1⟩
      · exact ⟨h2, ownS_lt h2⟩) (by
      intro r hr
      simp at hr
      rcases hr with rfl | rfl | rfl <;> assumption) (by simpa using h12) (by
      intro o ho r hr
      simp at ho hr
      subst hr
      rcases ho with rfl | rfl
      · exact h1a
      · exact h2a) (by
      intro o ho x hx
      simp at ho
      rcases ho with rfl | rfl
      · exact .inr (.inl hx)
      · exact .inr (.inr hx)) (by simp)) 31 rfl ?_
  intro a hs0
  have hs0' := hs0.to { n := [ts.length, c1, c2, xs.length, c, p], a := [O1, O2, A] } ⟨31, [(1, .slice (.v 2) (.v 3) (.v 4)), (0, .ptr (.box 0 0)), (0, .ptr (.at 5 0))], [⟨0, 38, bkSVt⟩], 1, []⟩ rfl rfl (by simp [enumS]) (by simp [bkSVt]) (by simp)
  refine run_sound mixed Γok [0, 1, 9] 50 [true] ⟨_, hs0'⟩ (by cbv) (by simp; omega) ?_
  rintro a1 w1 ⟨k1, hk1⟩
  have hp1' := pin hk1 (d := 0) (i := 0) (j := 5) (by simp) (by simp)
  simp at hp1'
  refine ops_step hk1 rfl (wp_appendK (m := 1) (news := [tlV ⟨A, c, xs⟩]) Γok hk1 (by rfl) rfl (by simp) (Src.boxK (news := [tlV ⟨A, c, xs⟩]) hk1 (List.mem_cons_self ..) (by simp [tlV]) rfl (by simp [Value.oneCell', tlV])) (by simp; omega) (by omega) (by simp) ?_)
  intro O1' c1' w2 hk2 hc2 _
  rw [tlOut_mk O1' c1' _ (ts ++ [⟨A, c, xs⟩]) _ (by simp) (by simp)] at hk2
  have hk3 := hk2.setX { n := [ts.length, c1, c2, xs.length, c, p, ts.length + 1, c1'], a := [O1, O2, A, O1'] } (.slice (.v 3) (.v 6) (.v 7)) (d := 17) (v := .slice O1' (ts.length + 1) c1') (by decide) (by simp) (by simp [hp1']) (by simp) (by simp)
  refine run_sound mixed Γok [0, 1, 9] 50 [] ⟨k1, hk3⟩ (by cbv) (by simp) ?_
  rintro a4 w4 ⟨k4, hk4⟩
  have hp4 := pin hk4 (d := 0) (i := 0) (j := 5) (by simp) (by simp)
  simp at hp4
  have hk5 := (hk4.perm (List.Perm.swap ..)).to { n := [ts.length, c1, c2, xs.length, c, p, ts.length + 1, c1'], a := [O1, O2, A, O1'] } ⟨31, [(1, .slice (.v 2) (.v 3) (.v 4)), (0, .ptr (.box 0 0)), (0, .ptr (.at 5 0))], [⟨0, 38, [.slice (.v 3) (.v 6) (.v 7), .slice (.v 1) (.v 0) (.v 2)] ++ List.replicate 18 (.slice .nil (.c 0) (.c 0))⟩], 1, []⟩ rfl rfl (by simp [hp4]) (by simp) (by simp)
  refine rx_drawM mixed hk5 [] [] (tlOut O2 c2 us).F (fun b hb => hk5.rbox _ (by simp) b hb) (by simp) [(0, true), (1, true), (2, true), (3, true), (4, true), (5, true), (6, false), (7, false), (8, false), (9, true), (10, true), (11, false)] (by cbv) ?_
  intro M hM hk6 hr6
  refine execRn_sound Γok (ds := []) (by cbv) (by simp) hk6 hr6 ?_
  intro k7 a7 w7 hk7 hr7
  refine rn_callA (args := [.slice A xs.length c]) hk7 rfl rfl rfl Tryz.func22 rfl rfl (by simp) ?_
  refine (copyTexts A c xs (by omega) w7 (hk7.res (strArr A xs).res (by simp))).mono ?_
  rintro e w8 ⟨B, d, rfl, hP8, hF8, hp8⟩
  refine ⟨_, rfl, hp8.fr, ?_⟩
  have hp7 := pin hk7 (d := 0) (i := 0) (j := 5) (by simp) (by simp)
  simp at hp7
  have hk8 := (hk7.pureOwn hp8 (tlOwn ⟨B, d, xs⟩) hP8 (fun x hx => ⟨hF8 x hx, ownS_lt hP8 x hx⟩)).setX { n := [ts.length, c1, c2, xs.length, c, p, ts.length + 1, c1', d], a := [O1, O2, A, O1', B] } (.slice (.v 4) (.v 3) (.v 8)) (d := 26) (v := .slice B xs.length d) (by decide) (by simp) (by simp [hp7]) (by simp) (by simp)
  refine execRn_sound Γok (ds := []) (by cbv) (by simp) hk8 (hr7.grow hp8.size (Nat.le_refl _) (by simp) (by simp) (by intro r hr; simp at hr ⊢; rcases hr with h | h | h <;> simp [h])) ?_
  intro k9 a9 w9 hk9 hr9
  have hp9 := pin hk9 (d := 0) (i := 0) (j := 5) (by simp) (by simp)
  simp at hp9
  have hk10 := hk9.perm (List.Perm.swap ..)
  rw [← tlOut_mk O2 c2 ts.length us _ hlen rfl] at hk10
  refine rn_step hk10 rfl rfl (wp_appendW (m := 1) (news := [tlV ⟨B, d, xs⟩]) Γok hk10 (by rfl) rfl (by simp) (Src.boxK (news := [tlV ⟨B, d, xs⟩]) hk10 (List.mem_cons_self ..) (by simp [tlV]) rfl (by simp [Value.oneCell', tlV])) (by simp; omega) (by omega) (by simp) ?_)
  intro O2' c2' w11 hk11 _ _ hkept
  rw [tlOut_mk O2' c2' _ (us ++ [⟨B, d, xs⟩]) _ (by simp [hlen]) (by simp)] at hk11
  refine ⟨Act.put_defers' _ _ _, hkept.fr (fun x _ hx => hM x (.inr (by rw [tlOut_mk O2 c2 ts.length us _ hlen rfl] at hx; exact hx))), ?_⟩
  have hk12 := hk11.setX { n := [ts.length, c1, c2, xs.length, c, p, ts.length + 1, c1', d, ts.length + 1, c2'], a := [O1, O2, A, O1', B, O2'] } (.slice (.v 5) (.v 9) (.v 10)) (d := 28) (v := .slice O2' (ts.length + 1) c2') (by decide) (by simp) (by simp [hp9]) (by simp) (by simp)
  refine execRn_sound Γok (ds := []) (by cbv) (by simp) hk12 (hr9.grow0 hkept.size (Nat.le_refl _) (by simp) rfl) ?_
  intro k13 a13 w13 hk13 hr13
  refine rn_last Γok hk13 rfl (by rfl) rfl (by rfl) (by simp) ?_
  intro k14 a14 w14 hk14
  refine run_sound mixed Γok [0, 1, 9] 50 [] ⟨k14, hk14⟩ (by cbv) (by simp) ?_
  intro a15 w15 hs15
  refine end_ok Γok hs15 (by cbv) fun k hk => ?_
  have hp15 := pin hk (d := 0) (i := 0) (j := 5) (by simp) (by simp)
  simp at hp15
  refine ⟨by simp, O1', c1', O2', c2', B, d, ?_, (hk.res _ (by simp)).1, (hk.res _ (by simp)).1, (hk.res _ (by simp)).1, ?_, ?_, hk.kept⟩
  · have hbx := hk.box ⟨0, 38, _⟩ (by simp; rfl)
    simp only [hp15] at hbx
    rw [hbx]
    simp [boxObj, bkCells]
  · intro r hr
    have hr' : r ∈ [tlOut O2' c2' (us ++ [⟨B, d, xs⟩]), tlOwn ⟨B, d, xs⟩, tlOut O1' c1' (ts ++ [⟨A, c, xs⟩])] := by
      simp only [List.mem_cons, List.not_mem_nil, or_false] at hr ⊢
      rcases hr with h | h | h <;> simp [h]
    refine ⟨fun x hx => ?_, fun hx => ?_⟩
    · rcases hk.onew r hr' x hx with h | h | h | h
      · exact .inl h
      · subst h
        exfalso
        exact hk.rbox r (List.mem_append_right _ hr') ⟨0, 38, _⟩ (by simp; rfl) (by simp only [hp15]; exact hx)
      · exact .inr (.inl h)
      · exact .inr (.inr h)
    · exact hk.rbox r (List.mem_append_right _ hr') ⟨0, 38, _⟩ (by simp; rfl) (by simp only [hp15]; exact hx)
  · have hd := hk.odis
    simp only [List.pairwise_cons, List.mem_cons, List.not_mem_nil, or_false] at hd ⊢
    obtain ⟨h1, h2, _⟩ := hd
    refine ⟨?_, ?_, by simp⟩
    · rintro r (rfl | rfl)
      · exact fun x hx => h1 _ (.inr rfl) x ⟨hx.2, hx.1⟩
      · exact fun x hx => h2 _ rfl x ⟨hx.2, hx.1⟩
    · rintro r rfl
      exact h1 _ (.inl rfl)
end Go.Proofs.YthhcbfngjmiigaaGreatDoor
