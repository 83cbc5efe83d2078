import Derived.Test.YthhcbfngjmiigaaGreatDoorBtexts
set_option linter.all false
namespace Go.Proofs.YthhcbfngjmiigaaGreatDoor
open Go Rx
set_option maxRecDepth 100000
theorem tlEl_flat (ts : List TL) : (ts.map tlEl).flatten = ts.map tlV := by
  induction ts with
  | nil => rfl
  | cons t ts ih => simp only [List.map_cons, List.flatten_cons, ih]; rfl
theorem tlOut_lies {O : Option Addr} {d : Nat} {ts : List TL} {w : World} (h : (tlOut O d ts).P w) : Lies (tlArr O ts) w := by
  have h' : (ownS 22 1 O ts.length d (ts.map tlEl).flatten).P w := by rw [tlEl_flat]; exact h
  exact ownS_lies (by simp) (by simp [tlEl]) h'
theorem tlOut_FF {O : Option Addr} {d : Nat} {ts : List TL} {w : World} (h : (tlOut O d ts).P w) {x : Nat} (hx : (tlArr O ts).res.F x) : (tlOut O d ts).F x :=
  ownS_FF (els := ts.map tlEl) (by simp) h hx
theorem tlOwn_lies {t : TL} {w : World} (h : (tlOwn t).P w) : Lies (strArr t.A t.xs) w := ownStr_lies h
theorem tlOwn_FF {t : TL} {w : World} (h : (tlOwn t).P w) {x : Nat} (hx : (strArr t.A t.xs).res.F x) : (tlOwn t).F x := ownStr_F h hx
theorem pairF (l : List Res) : l.Pairwise (fun r s => ∀ x, ¬ (r.F x ∧ s.F x)) ↔ (l.map Res.F).Pairwise (fun f g => ∀ x, ¬ (f x ∧ g x)) := by rw [List.pairwise_map]
theorem putTo_F (j : Nat) (ts : List TL) : ((putTo j ts).map fun t => (tlOwn t).F) = ts.map fun t => (tlOwn t).F := by
  apply List.ext_getElem?
  intro i
  rw [List.getElem?_map, List.getElem?_map, putTo_get]
  cases ts[i]? with
  | none => rfl
  | some t => simp only [Option.map_some]; split <;> rfl
set_option maxHeartbeats 4000000 in
theorem Apart (p : Nat) (O1 O2 : Option Addr) (c1 c2 : Nat) (ts us : List TL) (hlen : us.length = ts.length) (hn : ts.length ≤ 1000) (w : World) (hb : w.heap[p]? = some (.cells (bkCells O1 ts.length c1 O2 ts.length c2).toArray 38 (0, 0)))
    (hx : ∀ t ∈ ts, t.xs.length ≤ 100000) (hs : ∀ (i : Nat) (t u : TL), ts[i]? = some t → us[i]? = some u → t.xs = u.xs)
    (hP : ∀ r ∈ tlOut O1 c1 ts :: tlOut O2 c2 us :: (ts.map tlOwn ++ us.map tlOwn), r.P w ∧ ¬ r.F p) (hd : (tlOut O1 c1 ts :: tlOut O2 c2 us :: (ts.map tlOwn ++ us.map tlOwn)).Pairwise (fun r s => ∀ x, ¬ (r.F x ∧ s.F x))) :
    Calls Tryz.prog 17 #[.pointer (some ⟨p, 0, none⟩)] w fun e w' => e = .returned (.bool true) ∧ Kept (fun x => ∃ t ∈ ts, (tlOwn t).F x) w w' := by
  have P1 := (hP (tlOut O1 c1 ts) (by simp)).1
  have P2 := (hP (tlOut O2 c2 us) (by simp)).1
  have PT : ∀ t ∈ ts, (tlOwn t).P w ∧ ¬ (tlOwn t).F p := fun t ht => hP (tlOwn t) (by simp; exact .inr (.inr (.inl ⟨t, ht, rfl⟩)))
  have PU : ∀ t ∈ us, (tlOwn t).P w ∧ ¬ (tlOwn t).F p := fun t ht => hP (tlOwn t) (by simp; exact .inr (.inr (.inr ⟨t, ht, rfl⟩)))
  have hO1 : ¬ (tlArr O1 ts).res.F p := fun h => (hP (tlOut O1 c1 ts) (by simp)).2 (tlOut_FF P1 h)
  have hO2 : ¬ (tlArr O2 us).res.F p := fun h => (hP (tlOut O2 c2 us) (by simp)).2 (tlOut_FF P2 h)
  have hpt : ∀ t ∈ ts, ¬ (strArr t.A t.xs).res.F p := fun t ht h => (PT t ht).2 (tlOwn_FF (PT t ht).1 h)
  have hpu : ∀ t ∈ us, ¬ (strArr t.A t.xs).res.F p := fun t ht h => (PU t ht).2 (tlOwn_FF (PU t ht).1 h)
  have hdt : (ts.map tlOwn).Pairwise (fun r s => ∀ x, ¬ (r.F x ∧ s.F x)) := by
    simp only [List.pairwise_cons, List.pairwise_append] at hd
    exact hd.2.2.1
  have hr1 : ∀ t ∈ ts, ∀ x, ¬ ((tlOwn t).F x ∧ (tlArr O1 ts).res.F x) := fun t ht x h => by
    simp only [List.pairwise_cons] at hd
    exact hd.1 (tlOwn t) (by simp; exact .inr (.inl ⟨t, ht, rfl⟩)) x ⟨tlOut_FF P1 h.2, h.1⟩
  have hr2 : ∀ t ∈ ts, ∀ x, ¬ ((tlOwn t).F x ∧ (tlArr O2 us).res.F x) := fun t ht x h => by
    simp only [List.pairwise_cons] at hd
    exact hd.2.1 (tlOwn t) (by simp; exact .inl ⟨t, ht, rfl⟩) x ⟨tlOut_FF P2 h.2, h.1⟩
  have hr3 : ∀ t ∈ ts, ∀ u ∈ us, ∀ x, ¬ ((tlOwn t).F x ∧ (strArr u.A u.xs).res.F x) := fun t ht u hu x h => by
    simp only [List.pairwise_cons, List.pairwise_append] at hd
    exact hd.2.2.2.2 (tlOwn t) (by simp; exact ⟨t, ht, rfl⟩) (tlOwn u) (by simp; exact ⟨u, hu, rfl⟩) x ⟨h.1, tlOwn_FF (PU u hu).1 h.2⟩
  refine rx_enterK (M := fun x => x = p ∨ ∃ t ∈ ts, (tlOwn t).F x) Tryz.func17 rfl (fun _ => p) { n := [ts.length, c1, c2], a := [O1, O2] } [.ptr (.box 0 0)]
    (by simp [SV.den]) (ro := (tlArr O1 ts).res :: (tlArr O2 us).res :: listsR us) (own := ts.map tlOwn) (bx := [⟨0, 38, bkSVt⟩]) (nx := 1) (ar := [])
    (memO _ rfl (by rw [hb]; simp [boxObj, bkCells, bkSVt]) (.inl rfl) (by
      intro r hr
      simp only [List.cons_append, List.mem_cons, List.mem_append, listsR, List.mem_map] at hr
      rcases hr with rfl | rfl | ⟨u, hu, rfl⟩ | ⟨t, ht, rfl⟩
      · exact tlOut_lies P1
      · exact tlOut_lies P2
      · exact tlOwn_lies (PU u hu).1
      · exact ⟨(PT t ht).1, ownS_lt (PT t ht).1⟩) (by
      intro r hr
      simp only [List.cons_append, List.mem_cons, List.mem_append, listsR, List.mem_map] at hr
      rcases hr with rfl | rfl | ⟨u, hu, rfl⟩ | ⟨t, ht, rfl⟩
      · exact hO1
      · exact hO2
      · exact hpu u hu
      · exact (PT t ht).2) hdt (by
      intro o ho r hr'
      obtain ⟨t, ht, rfl⟩ := List.mem_map.1 ho
      simp only [List.mem_cons, listsR, List.mem_map] at hr'
      rcases hr' with rfl | rfl | ⟨u, hu, rfl⟩
      · exact hr1 t ht
      · exact hr2 t ht
      · exact hr3 t ht u hu) (by
      intro o ho x hx
      obtain ⟨t, ht, rfl⟩ := List.mem_map.1 ho
      exact .inr ⟨t, ht, hx⟩) (by simp)) 191 rfl ?_
  intro a hs0
  have hs0' := hs0.to { n := [ts.length, c1, c2, p], a := [O1, O2] } ⟨191, [(0, .ptr (.box 0 0)), (0, .ptr (.at 3 0))], [⟨0, 38, bkSVt⟩], 1, []⟩ rfl rfl (by simp [enumS]) (by simp [bkSVt]) (by simp)
  refine run_sound mixed Γok [0, 2, 3, 4, 5, 6, 7, 8, 9, 10, 11, 12, 15, 18, 21, 24, 27, 30, 33, 36, 39, 42] 50 [] ⟨_, hs0'⟩ (by cbv) (by simp) ?_
  rintro a1 w1 ⟨k1, hk1⟩
  have hp1 := pin hk1 (d := 0) (i := 0) (j := 3) (by simp) (by simp)
  simp at hp1
  have hb1 : w1.heap[p]? = some (.cells (bkCells O1 ts.length c1 O2 ts.length c2).toArray 38 (0, 0)) := by
    have h := hk1.box _ (List.mem_cons_self ..)
    simp only [hp1] at h
    rw [h]; simp [boxObj, bkCells]
  have hl1 : ∀ t ∈ ts ++ us, Lies (strArr t.A t.xs) w1 := by
    intro t ht
    rcases List.mem_append.1 ht with h | h
    · exact tlOwn_lies (hk1.res (tlOwn t) (by simp; exact .inr (.inr (.inr ⟨t, h, rfl⟩)))).1
    · exact hk1.res (strArr t.A t.xs).res (by simp [listsR]; exact .inr (.inr (.inl ⟨t, h, rfl⟩)))
  refine ops_step hk1 rfl (wp_callA (args := [.pointer (some ⟨p, 0, none⟩)]) hk1 rfl Tryz.func30 rfl rfl (by simp [hp1]) ?_)
  refine (stillTexts p O1 O2 c1 c2 ts us hlen hn w1 hb1 (hk1.res (tlArr O1 ts).res (by simp)) (hk1.res (tlArr O2 us).res (by simp)) hl1 (fun t ht => by have := hx t ht; omega) hO1 hO2 (by intro t ht; rcases List.mem_append.1 ht with h | h; exact hpt t h; exact hpu t h) hs).mono ?_
  rintro e v1 ⟨rfl, hq⟩
  refine ⟨_, rfl, ?_⟩
  have hk := (hk1.pure hq).setS (.bool (.c true)) (d := 14) (v := .bool true) (by decide) rfl
  refine run_sound mixed Γok [0, 2, 3, 4, 5, 6, 7, 8, 9, 10, 11, 12, 15, 18, 21, 24, 27, 30, 33, 36, 39, 42] 50 [] ⟨_, hk⟩ (by cbv) (by simp) ?_
  rintro a2 w2 ⟨k2, hk2⟩
  have hp2 := pin hk2 (d := 0) (i := 0) (j := 3) (by simp) (by simp)
  simp at hp2
  have hb2 : w2.heap[p]? = some (.cells (bkCells O1 ts.length c1 O2 ts.length c2).toArray 38 (0, 0)) := by
    have h := hk2.box _ (List.mem_cons_self ..)
    simp only [hp2] at h
    rw [h]; simp [boxObj, bkCells]
  refine ops_step hk2 rfl (wp_callA (args := [.pointer (some ⟨p, 0, none⟩)]) hk2 rfl Tryz.func31 rfl rfl (by simp [hp2]) ?_)
  refine (stillInts0 hb2).mono ?_
  rintro e v2 ⟨rfl, hq⟩
  refine ⟨_, rfl, ?_⟩
  have hk := (hk2.pure hq).setS (.bool (.c true)) (d := 17) (v := .bool true) (by decide) rfl
  refine run_sound mixed Γok [0, 2, 3, 4, 5, 6, 7, 8, 9, 10, 11, 12, 15, 18, 21, 24, 27, 30, 33, 36, 39, 42] 50 [] ⟨_, hk⟩ (by cbv) (by simp) ?_
  rintro a3 w3 ⟨k3, hk3⟩
  have hp3 := pin hk3 (d := 0) (i := 0) (j := 3) (by simp) (by simp)
  simp at hp3
  have hb3 : w3.heap[p]? = some (.cells (bkCells O1 ts.length c1 O2 ts.length c2).toArray 38 (0, 0)) := by
    have h := hk3.box _ (List.mem_cons_self ..)
    simp only [hp3] at h
    rw [h]; simp [boxObj, bkCells]
  refine ops_step hk3 rfl (wp_callA (args := [.pointer (some ⟨p, 0, none⟩)]) hk3 rfl Tryz.func32 rfl rfl (by simp [hp3]) ?_)
  refine (stillAccounts0 hb3).mono ?_
  rintro e v3 ⟨rfl, hq⟩
  refine ⟨_, rfl, ?_⟩
  have hk := (hk3.pure hq).setS (.bool (.c true)) (d := 20) (v := .bool true) (by decide) rfl
  refine run_sound mixed Γok [0, 2, 3, 4, 5, 6, 7, 8, 9, 10, 11, 12, 15, 18, 21, 24, 27, 30, 33, 36, 39, 42] 50 [] ⟨_, hk⟩ (by cbv) (by simp) ?_
  rintro a4 w4 ⟨k4, hk4⟩
  have hp4 := pin hk4 (d := 0) (i := 0) (j := 3) (by simp) (by simp)
  simp at hp4
  have hb4 : w4.heap[p]? = some (.cells (bkCells O1 ts.length c1 O2 ts.length c2).toArray 38 (0, 0)) := by
    have h := hk4.box _ (List.mem_cons_self ..)
    simp only [hp4] at h
    rw [h]; simp [boxObj, bkCells]
  refine ops_step hk4 rfl (wp_callA (args := [.pointer (some ⟨p, 0, none⟩)]) hk4 rfl Tryz.func33 rfl rfl (by simp [hp4]) ?_)
  refine (stillBalances0 hb4).mono ?_
  rintro e v4 ⟨rfl, hq⟩
  refine ⟨_, rfl, ?_⟩
  have hk := (hk4.pure hq).setS (.bool (.c true)) (d := 23) (v := .bool true) (by decide) rfl
  refine run_sound mixed Γok [0, 2, 3, 4, 5, 6, 7, 8, 9, 10, 11, 12, 15, 18, 21, 24, 27, 30, 33, 36, 39, 42] 50 [] ⟨_, hk⟩ (by cbv) (by simp) ?_
  rintro a5 w5 ⟨k5, hk5⟩
  have hp5 := pin hk5 (d := 0) (i := 0) (j := 3) (by simp) (by simp)
  simp at hp5
  have hb5 : w5.heap[p]? = some (.cells (bkCells O1 ts.length c1 O2 ts.length c2).toArray 38 (0, 0)) := by
    have h := hk5.box _ (List.mem_cons_self ..)
    simp only [hp5] at h
    rw [h]; simp [boxObj, bkCells]
  refine ops_step hk5 rfl (wp_callA (args := [.pointer (some ⟨p, 0, none⟩)]) hk5 rfl Tryz.func34 rfl rfl (by simp [hp5]) ?_)
  refine (stillLines0 hb5).mono ?_
  rintro e v5 ⟨rfl, hq⟩
  refine ⟨_, rfl, ?_⟩
  have hk := (hk5.pure hq).setS (.bool (.c true)) (d := 26) (v := .bool true) (by decide) rfl
  refine run_sound mixed Γok [0, 2, 3, 4, 5, 6, 7, 8, 9, 10, 11, 12, 15, 18, 21, 24, 27, 30, 33, 36, 39, 42] 50 [] ⟨_, hk⟩ (by cbv) (by simp) ?_
  rintro a6 w6 ⟨k6, hk6⟩
  have hp6 := pin hk6 (d := 0) (i := 0) (j := 3) (by simp) (by simp)
  simp at hp6
  have hb6 : w6.heap[p]? = some (.cells (bkCells O1 ts.length c1 O2 ts.length c2).toArray 38 (0, 0)) := by
    have h := hk6.box _ (List.mem_cons_self ..)
    simp only [hp6] at h
    rw [h]; simp [boxObj, bkCells]
  refine ops_step hk6 rfl (wp_callA (args := [.pointer (some ⟨p, 0, none⟩)]) hk6 rfl Tryz.func35 rfl rfl (by simp [hp6]) ?_)
  refine (stillJournals0 hb6).mono ?_
  rintro e v6 ⟨rfl, hq⟩
  refine ⟨_, rfl, ?_⟩
  have hk := (hk6.pure hq).setS (.bool (.c true)) (d := 29) (v := .bool true) (by decide) rfl
  refine run_sound mixed Γok [0, 2, 3, 4, 5, 6, 7, 8, 9, 10, 11, 12, 15, 18, 21, 24, 27, 30, 33, 36, 39, 42] 50 [] ⟨_, hk⟩ (by cbv) (by simp) ?_
  rintro a7 w7 ⟨k7, hk7⟩
  have hp7 := pin hk7 (d := 0) (i := 0) (j := 3) (by simp) (by simp)
  simp at hp7
  have hb7 : w7.heap[p]? = some (.cells (bkCells O1 ts.length c1 O2 ts.length c2).toArray 38 (0, 0)) := by
    have h := hk7.box _ (List.mem_cons_self ..)
    simp only [hp7] at h
    rw [h]; simp [boxObj, bkCells]
  refine ops_step hk7 rfl (wp_callA (args := [.pointer (some ⟨p, 0, none⟩)]) hk7 rfl Tryz.func36 rfl rfl (by simp [hp7]) ?_)
  refine (stillChanges0 hb7).mono ?_
  rintro e v7 ⟨rfl, hq⟩
  refine ⟨_, rfl, ?_⟩
  have hk := (hk7.pure hq).setS (.bool (.c true)) (d := 32) (v := .bool true) (by decide) rfl
  refine run_sound mixed Γok [0, 2, 3, 4, 5, 6, 7, 8, 9, 10, 11, 12, 15, 18, 21, 24, 27, 30, 33, 36, 39, 42] 50 [] ⟨_, hk⟩ (by cbv) (by simp) ?_
  rintro a8 w8 ⟨k8, hk8⟩
  have hp8 := pin hk8 (d := 0) (i := 0) (j := 3) (by simp) (by simp)
  simp at hp8
  have hb8 : w8.heap[p]? = some (.cells (bkCells O1 ts.length c1 O2 ts.length c2).toArray 38 (0, 0)) := by
    have h := hk8.box _ (List.mem_cons_self ..)
    simp only [hp8] at h
    rw [h]; simp [boxObj, bkCells]
  refine ops_step hk8 rfl (wp_callA (args := [.pointer (some ⟨p, 0, none⟩)]) hk8 rfl Tryz.func37 rfl rfl (by simp [hp8]) ?_)
  refine (stillConflicts0 hb8).mono ?_
  rintro e v8 ⟨rfl, hq⟩
  refine ⟨_, rfl, ?_⟩
  have hk := (hk8.pure hq).setS (.bool (.c true)) (d := 35) (v := .bool true) (by decide) rfl
  refine run_sound mixed Γok [0, 2, 3, 4, 5, 6, 7, 8, 9, 10, 11, 12, 15, 18, 21, 24, 27, 30, 33, 36, 39, 42] 50 [] ⟨_, hk⟩ (by cbv) (by simp) ?_
  rintro a9 w9 ⟨k9, hk9⟩
  have hp9 := pin hk9 (d := 0) (i := 0) (j := 3) (by simp) (by simp)
  simp at hp9
  have hb9 : w9.heap[p]? = some (.cells (bkCells O1 ts.length c1 O2 ts.length c2).toArray 38 (0, 0)) := by
    have h := hk9.box _ (List.mem_cons_self ..)
    simp only [hp9] at h
    rw [h]; simp [boxObj, bkCells]
  refine ops_step hk9 rfl (wp_callA (args := [.pointer (some ⟨p, 0, none⟩)]) hk9 rfl Tryz.func38 rfl rfl (by simp [hp9]) ?_)
  refine (stillTrios0 hb9).mono ?_
  rintro e v9 ⟨rfl, hq⟩
  refine ⟨_, rfl, ?_⟩
  have hk := (hk9.pure hq).setS (.bool (.c true)) (d := 38) (v := .bool true) (by decide) rfl
  refine run_sound mixed Γok [0, 2, 3, 4, 5, 6, 7, 8, 9, 10, 11, 12, 15, 18, 21, 24, 27, 30, 33, 36, 39, 42] 50 [] ⟨_, hk⟩ (by cbv) (by simp) ?_
  rintro a10 w10 ⟨k10, hk10⟩
  have hp10 := pin hk10 (d := 0) (i := 0) (j := 3) (by simp) (by simp)
  simp at hp10
  have hb10 : w10.heap[p]? = some (.cells (bkCells O1 ts.length c1 O2 ts.length c2).toArray 38 (0, 0)) := by
    have h := hk10.box _ (List.mem_cons_self ..)
    simp only [hp10] at h
    rw [h]; simp [boxObj, bkCells]
  refine ops_step hk10 rfl (wp_callA (args := [.pointer (some ⟨p, 0, none⟩)]) hk10 rfl Tryz.func39 rfl rfl (by simp [hp10]) ?_)
  refine (stillPairs0 hb10).mono ?_
  rintro e v10 ⟨rfl, hq⟩
  refine ⟨_, rfl, ?_⟩
  have hk := (hk10.pure hq).setS (.bool (.c true)) (d := 41) (v := .bool true) (by decide) rfl
  refine run_sound mixed Γok [0, 2, 3, 4, 5, 6, 7, 8, 9, 10, 11, 12, 15, 18, 21, 24, 27, 30, 33, 36, 39, 42] 50 [] ⟨_, hk⟩ (by cbv) (by simp) ?_
  rintro a11 w11 ⟨k11, hk11⟩
  have hp11 := pin hk11 (d := 0) (i := 0) (j := 3) (by simp) (by simp)
  simp at hp11
  have hb11 : w11.heap[p]? = some (.cells (bkCells O1 ts.length c1 O2 ts.length c2).toArray 38 (0, 0)) := by
    have h := hk11.box _ (List.mem_cons_self ..)
    simp only [hp11] at h
    rw [h]; simp [boxObj, bkCells]
  refine ops_step hk11 rfl (wp_callA (args := [.pointer (some ⟨p, 0, none⟩)]) hk11 rfl Tryz.func40 rfl rfl (by simp [hp11]) ?_)
  refine (putJournals0 hb11).mono ?_
  rintro e v11 ⟨rfl, hq⟩
  refine ⟨_, rfl, ?_⟩
  have hk := (hk11.pure hq).setS (.tup []) (d := 44) (v := .tuple #[]) (by decide) (by simp)
  refine run_sound mixed Γok [0, 2, 3, 4, 5, 6, 7, 8, 9, 10, 11, 12, 15, 18, 21, 24, 27, 30, 33, 36, 39, 42] 50 [] ⟨_, hk⟩ (by cbv) (by simp) ?_
  rintro a12 w12 ⟨k12, hk12⟩
  have hp12 := pin hk12 (d := 0) (i := 0) (j := 3) (by simp) (by simp)
  simp at hp12
  have hb12 : w12.heap[p]? = some (.cells (bkCells O1 ts.length c1 O2 ts.length c2).toArray 38 (0, 0)) := by
    have h := hk12.box _ (List.mem_cons_self ..)
    simp only [hp12] at h
    rw [h]; simp [boxObj, bkCells]
  refine ops_step hk12 rfl (wp_callA (args := [.pointer (some ⟨p, 0, none⟩)]) hk12 rfl Tryz.func41 rfl rfl (by simp [hp12]) ?_)
  refine (putChanges0 hb12).mono ?_
  rintro e v12 ⟨rfl, hq⟩
  refine ⟨_, rfl, ?_⟩
  have hk := (hk12.pure hq).setS (.tup []) (d := 46) (v := .tuple #[]) (by decide) (by simp)
  refine run_sound mixed Γok [0, 2, 3, 4, 5, 6, 7, 8, 9, 10, 11, 12, 15, 18, 21, 24, 27, 30, 33, 36, 39, 42] 50 [] ⟨_, hk⟩ (by cbv) (by simp) ?_
  rintro a13 w13 ⟨k13, hk13⟩
  have hp13 := pin hk13 (d := 0) (i := 0) (j := 3) (by simp) (by simp)
  simp at hp13
  have hb13 : w13.heap[p]? = some (.cells (bkCells O1 ts.length c1 O2 ts.length c2).toArray 38 (0, 0)) := by
    have h := hk13.box _ (List.mem_cons_self ..)
    simp only [hp13] at h
    rw [h]; simp [boxObj, bkCells]
  refine ops_step hk13 rfl (wp_callA (args := [.pointer (some ⟨p, 0, none⟩)]) hk13 rfl Tryz.func42 rfl rfl (by simp [hp13]) ?_)
  refine (putTexts p O1 O2 c1 ts.length c2 ts hn w13 hb13 (hk13.res (tlArr O1 ts).res (by simp)) (fun t ht => (hk13.res (tlOwn t) (by simp; exact .inr (.inr (.inr ⟨t, ht, rfl⟩)))).1) (fun t ht => by have := hx t ht; omega) hO1 (fun t ht => (PT t ht).2) hdt hr1).mono ?_
  rintro e v13 ⟨rfl, hPp, hq⟩
  refine ⟨_, rfl, ?_⟩
  have hFt : ∀ t ∈ putTo ts.length ts, ∃ t' ∈ ts, ∀ x, (tlOwn t).F x ↔ (tlOwn t').F x := by
    intro t ht
    obtain ⟨i, hi⟩ := List.getElem?_of_mem ht
    rw [putTo_get] at hi
    cases h : ts[i]? with
    | none => rw [h] at hi; cases hi
    | some t' =>
      rw [h] at hi
      simp only [Option.map_some, Option.some.injEq] at hi
      refine ⟨t', List.mem_of_getElem? h, fun x => ?_⟩
      rw [← hi]
      split <;> exact Iff.rfl
  have hdt2 : ((putTo ts.length ts).map tlOwn).Pairwise (fun r s => ∀ x, ¬ (r.F x ∧ s.F x)) := by
    rw [pairF] at hdt ⊢
    rw [List.map_map] at hdt ⊢
    have hF := putTo_F ts.length ts
    have hdt' := hdt
    change (ts.map fun t => (tlOwn t).F).Pairwise _ at hdt'
    change ((putTo ts.length ts).map fun t => (tlOwn t).F).Pairwise _
    rw [hF]
    exact hdt'
  have hkm := hk13.mutAll hq (fun x _ ⟨t, ht, hx⟩ => ⟨tlOwn t, List.mem_map.2 ⟨t, ht, rfl⟩, hx⟩) ((putTo ts.length ts).map tlOwn) (by
      intro o ho
      obtain ⟨t, ht, rfl⟩ := List.mem_map.1 ho
      exact hPp t ht) (by
      intro o ho
      obtain ⟨t, ht, rfl⟩ := List.mem_map.1 ho
      exact ownS_lt (hPp t ht)) (by
      intro o ho x hx
      obtain ⟨t, ht, rfl⟩ := List.mem_map.1 ho
      obtain ⟨t', ht', hF⟩ := hFt t ht
      exact .inl ⟨tlOwn t', List.mem_map.2 ⟨t', ht', rfl⟩, (hF x).1 hx⟩) hdt2 (by simp)
  have hk := hkm.setS (.tup []) (d := 48) (v := .tuple #[]) (by decide) (by simp)
  refine run_sound mixed Γok [0, 2, 3, 4, 5, 6, 7, 8, 9, 10, 11, 12, 15, 18, 21, 24, 27, 30, 33, 36, 39, 42] 50 [] ⟨_, hk⟩ (by cbv) (by simp) ?_
  rintro a14 w14 ⟨k14, hk14⟩
  have hp14 := pin hk14 (d := 0) (i := 0) (j := 3) (by simp) (by simp)
  simp at hp14
  have hb14 : w14.heap[p]? = some (.cells (bkCells O1 ts.length c1 O2 ts.length c2).toArray 38 (0, 0)) := by
    have h := hk14.box _ (List.mem_cons_self ..)
    simp only [hp14] at h
    rw [h]; simp [boxObj, bkCells]
  refine ops_step hk14 rfl (wp_callA (args := [.pointer (some ⟨p, 0, none⟩)]) hk14 rfl Tryz.func43 rfl rfl (by simp [hp14]) ?_)
  refine (putInts0 hb14).mono ?_
  rintro e v14 ⟨rfl, hq⟩
  refine ⟨_, rfl, ?_⟩
  have hk := (hk14.pure hq).setS (.tup []) (d := 50) (v := .tuple #[]) (by decide) (by simp)
  refine run_sound mixed Γok [0, 2, 3, 4, 5, 6, 7, 8, 9, 10, 11, 12, 15, 18, 21, 24, 27, 30, 33, 36, 39, 42] 50 [] ⟨_, hk⟩ (by cbv) (by simp) ?_
  rintro a15 w15 ⟨k15, hk15⟩
  have hp15 := pin hk15 (d := 0) (i := 0) (j := 3) (by simp) (by simp)
  simp at hp15
  have hb15 : w15.heap[p]? = some (.cells (bkCells O1 ts.length c1 O2 ts.length c2).toArray 38 (0, 0)) := by
    have h := hk15.box _ (List.mem_cons_self ..)
    simp only [hp15] at h
    rw [h]; simp [boxObj, bkCells]
  refine ops_step hk15 rfl (wp_callA (args := [.pointer (some ⟨p, 0, none⟩)]) hk15 rfl Tryz.func44 rfl rfl (by simp [hp15]) ?_)
  refine (putAccounts0 hb15).mono ?_
  rintro e v15 ⟨rfl, hq⟩
  refine ⟨_, rfl, ?_⟩
  have hk := (hk15.pure hq).setS (.tup []) (d := 52) (v := .tuple #[]) (by decide) (by simp)
  refine run_sound mixed Γok [0, 2, 3, 4, 5, 6, 7, 8, 9, 10, 11, 12, 15, 18, 21, 24, 27, 30, 33, 36, 39, 42] 50 [] ⟨_, hk⟩ (by cbv) (by simp) ?_
  rintro a16 w16 ⟨k16, hk16⟩
  have hp16 := pin hk16 (d := 0) (i := 0) (j := 3) (by simp) (by simp)
  simp at hp16
  have hb16 : w16.heap[p]? = some (.cells (bkCells O1 ts.length c1 O2 ts.length c2).toArray 38 (0, 0)) := by
    have h := hk16.box _ (List.mem_cons_self ..)
    simp only [hp16] at h
    rw [h]; simp [boxObj, bkCells]
  refine ops_step hk16 rfl (wp_callA (args := [.pointer (some ⟨p, 0, none⟩)]) hk16 rfl Tryz.func45 rfl rfl (by simp [hp16]) ?_)
  refine (putBalances0 hb16).mono ?_
  rintro e v16 ⟨rfl, hq⟩
  refine ⟨_, rfl, ?_⟩
  have hk := (hk16.pure hq).setS (.tup []) (d := 54) (v := .tuple #[]) (by decide) (by simp)
  refine run_sound mixed Γok [0, 2, 3, 4, 5, 6, 7, 8, 9, 10, 11, 12, 15, 18, 21, 24, 27, 30, 33, 36, 39, 42] 50 [] ⟨_, hk⟩ (by cbv) (by simp) ?_
  rintro a17 w17 ⟨k17, hk17⟩
  have hp17 := pin hk17 (d := 0) (i := 0) (j := 3) (by simp) (by simp)
  simp at hp17
  have hb17 : w17.heap[p]? = some (.cells (bkCells O1 ts.length c1 O2 ts.length c2).toArray 38 (0, 0)) := by
    have h := hk17.box _ (List.mem_cons_self ..)
    simp only [hp17] at h
    rw [h]; simp [boxObj, bkCells]
  refine ops_step hk17 rfl (wp_callA (args := [.pointer (some ⟨p, 0, none⟩)]) hk17 rfl Tryz.func46 rfl rfl (by simp [hp17]) ?_)
  refine (putLines0 hb17).mono ?_
  rintro e v17 ⟨rfl, hq⟩
  refine ⟨_, rfl, ?_⟩
  have hk := (hk17.pure hq).setS (.tup []) (d := 56) (v := .tuple #[]) (by decide) (by simp)
  refine run_sound mixed Γok [0, 2, 3, 4, 5, 6, 7, 8, 9, 10, 11, 12, 15, 18, 21, 24, 27, 30, 33, 36, 39, 42] 50 [] ⟨_, hk⟩ (by cbv) (by simp) ?_
  rintro a18 w18 ⟨k18, hk18⟩
  have hp18 := pin hk18 (d := 0) (i := 0) (j := 3) (by simp) (by simp)
  simp at hp18
  have hb18 : w18.heap[p]? = some (.cells (bkCells O1 ts.length c1 O2 ts.length c2).toArray 38 (0, 0)) := by
    have h := hk18.box _ (List.mem_cons_self ..)
    simp only [hp18] at h
    rw [h]; simp [boxObj, bkCells]
  refine ops_step hk18 rfl (wp_callA (args := [.pointer (some ⟨p, 0, none⟩)]) hk18 rfl Tryz.func47 rfl rfl (by simp [hp18]) ?_)
  refine (putConflicts0 hb18).mono ?_
  rintro e v18 ⟨rfl, hq⟩
  refine ⟨_, rfl, ?_⟩
  have hk := (hk18.pure hq).setS (.tup []) (d := 58) (v := .tuple #[]) (by decide) (by simp)
  refine run_sound mixed Γok [0, 2, 3, 4, 5, 6, 7, 8, 9, 10, 11, 12, 15, 18, 21, 24, 27, 30, 33, 36, 39, 42] 50 [] ⟨_, hk⟩ (by cbv) (by simp) ?_
  rintro a19 w19 ⟨k19, hk19⟩
  have hp19 := pin hk19 (d := 0) (i := 0) (j := 3) (by simp) (by simp)
  simp at hp19
  have hb19 : w19.heap[p]? = some (.cells (bkCells O1 ts.length c1 O2 ts.length c2).toArray 38 (0, 0)) := by
    have h := hk19.box _ (List.mem_cons_self ..)
    simp only [hp19] at h
    rw [h]; simp [boxObj, bkCells]
  refine ops_step hk19 rfl (wp_callA (args := [.pointer (some ⟨p, 0, none⟩)]) hk19 rfl Tryz.func48 rfl rfl (by simp [hp19]) ?_)
  refine (putTrios0 hb19).mono ?_
  rintro e v19 ⟨rfl, hq⟩
  refine ⟨_, rfl, ?_⟩
  have hk := (hk19.pure hq).setS (.tup []) (d := 60) (v := .tuple #[]) (by decide) (by simp)
  refine run_sound mixed Γok [0, 2, 3, 4, 5, 6, 7, 8, 9, 10, 11, 12, 15, 18, 21, 24, 27, 30, 33, 36, 39, 42] 50 [] ⟨_, hk⟩ (by cbv) (by simp) ?_
  rintro a20 w20 ⟨k20, hk20⟩
  have hp20 := pin hk20 (d := 0) (i := 0) (j := 3) (by simp) (by simp)
  simp at hp20
  have hb20 : w20.heap[p]? = some (.cells (bkCells O1 ts.length c1 O2 ts.length c2).toArray 38 (0, 0)) := by
    have h := hk20.box _ (List.mem_cons_self ..)
    simp only [hp20] at h
    rw [h]; simp [boxObj, bkCells]
  refine ops_step hk20 rfl (wp_callA (args := [.pointer (some ⟨p, 0, none⟩)]) hk20 rfl Tryz.func49 rfl rfl (by simp [hp20]) ?_)
  refine (putPairs0 hb20).mono ?_
  rintro e v20 ⟨rfl, hq⟩
  refine ⟨_, rfl, ?_⟩
  have hk := (hk20.pure hq).setS (.tup []) (d := 62) (v := .tuple #[]) (by decide) (by simp)
  refine run_sound mixed Γok [0, 2, 3, 4, 5, 6, 7, 8, 9, 10, 11, 12, 15, 18, 21, 24, 27, 30, 33, 36, 39, 42] 50 [] ⟨_, hk⟩ (by cbv) (by simp) ?_
  rintro a21 w21 ⟨k21, hk21⟩
  have hp21 := pin hk21 (d := 0) (i := 0) (j := 3) (by simp) (by simp)
  simp at hp21
  have hb21 : w21.heap[p]? = some (.cells (bkCells O1 ts.length c1 O2 ts.length c2).toArray 38 (0, 0)) := by
    have h := hk21.box _ (List.mem_cons_self ..)
    simp only [hp21] at h
    rw [h]; simp [boxObj, bkCells]
  obtain ⟨ms, hms⟩ : ∃ ms, ms = putTo ts.length ts := ⟨_, rfl⟩
  rw [← hms] at hk21 hFt hdt2
  have hml : ms.length = ts.length := by rw [hms, putTo_len]
  have hmr : (tlArr O1 ms) = tlArr O1 ts := by
    simp only [tlArr, hms]
    congr 1
    apply List.ext_getElem?
    intro i
    rw [List.getElem?_map, List.getElem?_map, putTo_get]
    cases ts[i]? with
    | none => rfl
    | some t => simp only [Option.map_some]; split <;> simp [tlEl]
  have hmx : ∀ (i : Nat) (t : TL), ms[i]? = some t → t.xs = marks i 0 t.xs.length ∧ t.xs.length ≤ 100000 := by
    intro i t hi
    rw [hms, putTo_get] at hi
    cases h : ts[i]? with
    | none => rw [h] at hi; cases hi
    | some t' =>
      have hil := (List.getElem?_eq_some_iff.1 h).1
      have := hx t' (List.mem_of_getElem? h)
      rw [h] at hi
      simp only [Option.map_some, Option.some.injEq, if_pos hil] at hi
      rw [← hi]
      simp; omega
  have hmx' : ∀ t ∈ ms, t.xs.length ≤ 100000 := fun t ht => by
    obtain ⟨i, hi⟩ := List.getElem?_of_mem ht
    exact (hmx i t hi).2
  refine ops_step hk21 rfl (wp_callA (args := [.pointer (some ⟨p, 0, none⟩)]) hk21 rfl Tryz.func50 rfl rfl (by simp [hp21]) ?_)
  refine (growTexts p O1 O2 c1 ts.length c2 ms (by omega) w21 (by rw [hml]; exact hb21) (by rw [hmr]; exact hk21.res (tlArr O1 ts).res (by simp)) (fun t ht => (hk21.res (tlOwn t) (by simp; exact .inr (.inr (.inr ⟨t, ht, rfl⟩)))).1) (fun t ht => by have := hmx' t ht; omega) (by rw [hmr]; exact hO1) (fun t ht h => by obtain ⟨t', ht', hF⟩ := hFt t ht; exact (PT t' ht').2 ((hF p).1 h)) hdt2 (fun t ht x h => by obtain ⟨t', ht', hF⟩ := hFt t ht; rw [hmr] at h; exact hr1 t' ht' x ⟨(hF x).1 h.1, h.2⟩)).mono ?_
  rintro e v21 ⟨O, d, gs, rfl, hgl, hgx, hgP, hgd, hq⟩
  refine ⟨_, rfl, ?_⟩
  have hkm := hk21.mutAll hq (fun x _ ⟨t, ht, hx⟩ => ⟨tlOwn t, List.mem_map.2 ⟨t, ht, rfl⟩, hx⟩) (tlOut O d gs :: List.zipWith tlGrow ms gs) (fun o ho => (hgP o ho).1) (fun o ho x hx => ((hgP o ho).2 x hx).1) (by
      intro o ho x hx
      rcases ((hgP o ho).2 x hx).2 with h | ⟨t, ht, h⟩
      · exact .inr h
      · exact .inl ⟨tlOwn t, List.mem_map.2 ⟨t, ht, rfl⟩, h⟩) hgd (by simp)
  have hk := hkm.setX { n := [ts.length, c1, c2, p, d], a := [O1, O2, O] } (.slice (.v 2) (.v 0) (.v 4)) (d := 64) (v := .slice O ms.length d) (by decide) (by simp [hml]) (by simp [hp21]) (by simp) (by simp)
  refine run_sound mixed Γok [0, 2, 3, 4, 5, 6, 7, 8, 9, 10, 11, 12, 15, 18, 21, 24, 27, 30, 33, 36, 39, 42] 50 [] ⟨_, hk⟩ (by cbv) (by simp) ?_
  rintro a22 w22 ⟨k22, hk22⟩
  have hp22 := pin hk22 (d := 0) (i := 0) (j := 3) (by simp) (by simp)
  simp at hp22
  have hb22 : w22.heap[p]? = some (.cells (bkCells O1 ts.length c1 O2 ts.length c2).toArray 38 (0, 0)) := by
    have h := hk22.box _ (List.mem_cons_self ..)
    simp only [hp22] at h
    rw [h]; simp [boxObj, bkCells]
  refine ops_step hk22 rfl (wp_callA (args := [.pointer (some ⟨p, 0, none⟩)]) hk22 rfl Tryz.func51 rfl rfl (by simp [hp22]) ?_)
  refine (growInts0 hb22).mono ?_
  rintro e v22 ⟨rfl, hq⟩
  refine ⟨_, rfl, ?_⟩
  have hk := (hk22.pure hq).setS (.slice .nil (.c 0) (.c 0)) (d := 66) (v := .slice none 0 0) (by decide) (by simp)
  refine run_sound mixed Γok [0, 2, 3, 4, 5, 6, 7, 8, 9, 10, 11, 12, 15, 18, 21, 24, 27, 30, 33, 36, 39, 42] 50 [] ⟨_, hk⟩ (by cbv) (by simp) ?_
  rintro a23 w23 ⟨k23, hk23⟩
  have hp23 := pin hk23 (d := 0) (i := 0) (j := 3) (by simp) (by simp)
  simp at hp23
  have hb23 : w23.heap[p]? = some (.cells (bkCells O1 ts.length c1 O2 ts.length c2).toArray 38 (0, 0)) := by
    have h := hk23.box _ (List.mem_cons_self ..)
    simp only [hp23] at h
    rw [h]; simp [boxObj, bkCells]
  refine ops_step hk23 rfl (wp_callA (args := [.pointer (some ⟨p, 0, none⟩)]) hk23 rfl Tryz.func52 rfl rfl (by simp [hp23]) ?_)
  refine (growAccounts0 hb23).mono ?_
  rintro e v23 ⟨rfl, hq⟩
  refine ⟨_, rfl, ?_⟩
  have hk := (hk23.pure hq).setS (.slice .nil (.c 0) (.c 0)) (d := 68) (v := .slice none 0 0) (by decide) (by simp)
  refine run_sound mixed Γok [0, 2, 3, 4, 5, 6, 7, 8, 9, 10, 11, 12, 15, 18, 21, 24, 27, 30, 33, 36, 39, 42] 50 [] ⟨_, hk⟩ (by cbv) (by simp) ?_
  rintro a24 w24 ⟨k24, hk24⟩
  have hp24 := pin hk24 (d := 0) (i := 0) (j := 3) (by simp) (by simp)
  simp at hp24
  have hb24 : w24.heap[p]? = some (.cells (bkCells O1 ts.length c1 O2 ts.length c2).toArray 38 (0, 0)) := by
    have h := hk24.box _ (List.mem_cons_self ..)
    simp only [hp24] at h
    rw [h]; simp [boxObj, bkCells]
  refine ops_step hk24 rfl (wp_callA (args := [.pointer (some ⟨p, 0, none⟩)]) hk24 rfl Tryz.func53 rfl rfl (by simp [hp24]) ?_)
  refine (growBalances0 hb24).mono ?_
  rintro e v24 ⟨rfl, hq⟩
  refine ⟨_, rfl, ?_⟩
  have hk := (hk24.pure hq).setS (.slice .nil (.c 0) (.c 0)) (d := 70) (v := .slice none 0 0) (by decide) (by simp)
  refine run_sound mixed Γok [0, 2, 3, 4, 5, 6, 7, 8, 9, 10, 11, 12, 15, 18, 21, 24, 27, 30, 33, 36, 39, 42] 50 [] ⟨_, hk⟩ (by cbv) (by simp) ?_
  rintro a25 w25 ⟨k25, hk25⟩
  have hp25 := pin hk25 (d := 0) (i := 0) (j := 3) (by simp) (by simp)
  simp at hp25
  have hb25 : w25.heap[p]? = some (.cells (bkCells O1 ts.length c1 O2 ts.length c2).toArray 38 (0, 0)) := by
    have h := hk25.box _ (List.mem_cons_self ..)
    simp only [hp25] at h
    rw [h]; simp [boxObj, bkCells]
  refine ops_step hk25 rfl (wp_callA (args := [.pointer (some ⟨p, 0, none⟩)]) hk25 rfl Tryz.func54 rfl rfl (by simp [hp25]) ?_)
  refine (growLines0 hb25).mono ?_
  rintro e v25 ⟨rfl, hq⟩
  refine ⟨_, rfl, ?_⟩
  have hk := (hk25.pure hq).setS (.slice .nil (.c 0) (.c 0)) (d := 72) (v := .slice none 0 0) (by decide) (by simp)
  refine run_sound mixed Γok [0, 2, 3, 4, 5, 6, 7, 8, 9, 10, 11, 12, 15, 18, 21, 24, 27, 30, 33, 36, 39, 42] 50 [] ⟨_, hk⟩ (by cbv) (by simp) ?_
  rintro a26 w26 ⟨k26, hk26⟩
  have hp26 := pin hk26 (d := 0) (i := 0) (j := 3) (by simp) (by simp)
  simp at hp26
  have hb26 : w26.heap[p]? = some (.cells (bkCells O1 ts.length c1 O2 ts.length c2).toArray 38 (0, 0)) := by
    have h := hk26.box _ (List.mem_cons_self ..)
    simp only [hp26] at h
    rw [h]; simp [boxObj, bkCells]
  refine ops_step hk26 rfl (wp_callA (args := [.pointer (some ⟨p, 0, none⟩)]) hk26 rfl Tryz.func55 rfl rfl (by simp [hp26]) ?_)
  refine (growJournals0 hb26).mono ?_
  rintro e v26 ⟨rfl, hq⟩
  refine ⟨_, rfl, ?_⟩
  have hk := (hk26.pure hq).setS (.slice .nil (.c 0) (.c 0)) (d := 74) (v := .slice none 0 0) (by decide) (by simp)
  refine run_sound mixed Γok [0, 2, 3, 4, 5, 6, 7, 8, 9, 10, 11, 12, 15, 18, 21, 24, 27, 30, 33, 36, 39, 42] 50 [] ⟨_, hk⟩ (by cbv) (by simp) ?_
  rintro a27 w27 ⟨k27, hk27⟩
  have hp27 := pin hk27 (d := 0) (i := 0) (j := 3) (by simp) (by simp)
  simp at hp27
  have hb27 : w27.heap[p]? = some (.cells (bkCells O1 ts.length c1 O2 ts.length c2).toArray 38 (0, 0)) := by
    have h := hk27.box _ (List.mem_cons_self ..)
    simp only [hp27] at h
    rw [h]; simp [boxObj, bkCells]
  refine ops_step hk27 rfl (wp_callA (args := [.pointer (some ⟨p, 0, none⟩)]) hk27 rfl Tryz.func56 rfl rfl (by simp [hp27]) ?_)
  refine (growChanges0 hb27).mono ?_
  rintro e v27 ⟨rfl, hq⟩
  refine ⟨_, rfl, ?_⟩
  have hk := (hk27.pure hq).setS (.slice .nil (.c 0) (.c 0)) (d := 76) (v := .slice none 0 0) (by decide) (by simp)
  refine run_sound mixed Γok [0, 2, 3, 4, 5, 6, 7, 8, 9, 10, 11, 12, 15, 18, 21, 24, 27, 30, 33, 36, 39, 42] 50 [] ⟨_, hk⟩ (by cbv) (by simp) ?_
  rintro a28 w28 ⟨k28, hk28⟩
  have hp28 := pin hk28 (d := 0) (i := 0) (j := 3) (by simp) (by simp)
  simp at hp28
  have hb28 : w28.heap[p]? = some (.cells (bkCells O1 ts.length c1 O2 ts.length c2).toArray 38 (0, 0)) := by
    have h := hk28.box _ (List.mem_cons_self ..)
    simp only [hp28] at h
    rw [h]; simp [boxObj, bkCells]
  refine ops_step hk28 rfl (wp_callA (args := [.pointer (some ⟨p, 0, none⟩)]) hk28 rfl Tryz.func57 rfl rfl (by simp [hp28]) ?_)
  refine (growConflicts0 hb28).mono ?_
  rintro e v28 ⟨rfl, hq⟩
  refine ⟨_, rfl, ?_⟩
  have hk := (hk28.pure hq).setS (.slice .nil (.c 0) (.c 0)) (d := 78) (v := .slice none 0 0) (by decide) (by simp)
  refine run_sound mixed Γok [0, 2, 3, 4, 5, 6, 7, 8, 9, 10, 11, 12, 15, 18, 21, 24, 27, 30, 33, 36, 39, 42] 50 [] ⟨_, hk⟩ (by cbv) (by simp) ?_
  rintro a29 w29 ⟨k29, hk29⟩
  have hp29 := pin hk29 (d := 0) (i := 0) (j := 3) (by simp) (by simp)
  simp at hp29
  have hb29 : w29.heap[p]? = some (.cells (bkCells O1 ts.length c1 O2 ts.length c2).toArray 38 (0, 0)) := by
    have h := hk29.box _ (List.mem_cons_self ..)
    simp only [hp29] at h
    rw [h]; simp [boxObj, bkCells]
  refine ops_step hk29 rfl (wp_callA (args := [.pointer (some ⟨p, 0, none⟩)]) hk29 rfl Tryz.func58 rfl rfl (by simp [hp29]) ?_)
  refine (growTrios0 hb29).mono ?_
  rintro e v29 ⟨rfl, hq⟩
  refine ⟨_, rfl, ?_⟩
  have hk := (hk29.pure hq).setS (.slice .nil (.c 0) (.c 0)) (d := 80) (v := .slice none 0 0) (by decide) (by simp)
  refine run_sound mixed Γok [0, 2, 3, 4, 5, 6, 7, 8, 9, 10, 11, 12, 15, 18, 21, 24, 27, 30, 33, 36, 39, 42] 50 [] ⟨_, hk⟩ (by cbv) (by simp) ?_
  rintro a30 w30 ⟨k30, hk30⟩
  have hp30 := pin hk30 (d := 0) (i := 0) (j := 3) (by simp) (by simp)
  simp at hp30
  have hb30 : w30.heap[p]? = some (.cells (bkCells O1 ts.length c1 O2 ts.length c2).toArray 38 (0, 0)) := by
    have h := hk30.box _ (List.mem_cons_self ..)
    simp only [hp30] at h
    rw [h]; simp [boxObj, bkCells]
  refine ops_step hk30 rfl (wp_callA (args := [.pointer (some ⟨p, 0, none⟩)]) hk30 rfl Tryz.func59 rfl rfl (by simp [hp30]) ?_)
  refine (growPairs0 hb30).mono ?_
  rintro e v30 ⟨rfl, hq⟩
  refine ⟨_, rfl, ?_⟩
  have hk := (hk30.pure hq).setS (.slice .nil (.c 0) (.c 0)) (d := 82) (v := .slice none 0 0) (by decide) (by simp)
  refine run_sound mixed Γok [0, 2, 3, 4, 5, 6, 7, 8, 9, 10, 11, 12, 15, 18, 21, 24, 27, 30, 33, 36, 39, 42] 50 [] ⟨_, hk⟩ (by cbv) (by simp) ?_
  have hgm : ∀ (i : Nat) (g : TL), gs[i]? = some g → g.xs = marks i 0 g.xs.length ∧ g.xs.length ≤ 1000000 := by
    intro i g hg
    obtain ⟨t, ht⟩ : ∃ t, ms[i]? = some t := ⟨_, List.getElem?_eq_getElem (by have := (List.getElem?_eq_some_iff.1 hg).1; omega)⟩
    have h1 := hgx i t g ht hg
    obtain ⟨h2, h3⟩ := hmx i t ht
    obtain ⟨m, hm⟩ : ∃ m, m = t.xs.length := ⟨_, rfl⟩
    rw [← hm] at h1 h2 h3
    rw [h2, marks_app] at h1
    rw [h1]
    simp; omega
  have hgG : ∀ (i : Nat) (g : TL), gs[i]? = some g → ∃ t, ms[i]? = some t ∧ tlGrow t g ∈ List.zipWith tlGrow ms gs := by
    intro i g hg
    obtain ⟨t, ht⟩ : ∃ t, ms[i]? = some t := ⟨_, List.getElem?_eq_getElem (by have := (List.getElem?_eq_some_iff.1 hg).1; omega)⟩
    refine ⟨t, ht, List.mem_of_getElem? (i := i) ?_⟩
    rw [List.getElem?_zipWith, ht, hg]
  have hgT : ∀ (i : Nat) (t : TL), ms[i]? = some t → ∃ g, gs[i]? = some g ∧ tlGrow t g ∈ List.zipWith tlGrow ms gs := by
    intro i t ht
    obtain ⟨g, hg⟩ : ∃ g, gs[i]? = some g := ⟨_, List.getElem?_eq_getElem (by have := (List.getElem?_eq_some_iff.1 ht).1; omega)⟩
    refine ⟨g, hg, List.mem_of_getElem? (i := i) ?_⟩
    rw [List.getElem?_zipWith, ht, hg]
  rintro a31 w31 ⟨k31, hk31⟩
  have hp31 := pin hk31 (d := 0) (i := 0) (j := 3) (by simp) (by simp)
  simp at hp31
  have hb31 : w31.heap[p]? = some (.cells (bkCells O1 ts.length c1 O2 ts.length c2).toArray 38 (0, 0)) := by
    have h := hk31.box _ (List.mem_cons_self ..)
    simp only [hp31] at h
    rw [h]; simp [boxObj, bkCells]
  have hkr31 := hk31
  have hq0 : Lies (tlArr O gs) w31 := tlOut_lies (hk31.res (tlOut O d gs) (by simp)).1
  have hq1 : ∀ g ∈ gs, Lies (strArr g.A g.xs) w31 := by
    intro g hg
    obtain ⟨i, hi⟩ := List.getElem?_of_mem hg
    obtain ⟨t, _, hm⟩ := hgG i g hi
    exact ownStr_lies (hk31.res (tlGrow t g) (by simp; exact .inr (.inr (.inr (.inr hm))))).1.2
  refine ops_step hk31 rfl (wp_callA (args := [.slice O gs.length d]) hk31 rfl Tryz.func60 rfl rfl (by simp [hgl, hml]) ?_)
  refine (markedTexts O d gs (by omega) w31 hq0 hq1 (fun g hg => by obtain ⟨i, hi⟩ := List.getElem?_of_mem hg; exact (hgm i g hi).2) (fun i g hg => (hgm i g hg).1)).mono ?_
  rintro e v31 ⟨rfl, hq⟩
  refine ⟨_, rfl, ?_⟩
  have hk := (hk31.pure hq).setS (.bool (.c true)) (d := 84) (v := .bool true) (by decide) rfl
  refine run_sound mixed Γok [0, 2, 3, 4, 5, 6, 7, 8, 9, 10, 11, 12, 15, 18, 21, 24, 27, 30, 33, 36, 39, 42] 50 [] ⟨_, hk⟩ (by cbv) (by simp) ?_
  rintro a32 w32 ⟨k32, hk32⟩
  have hp32 := pin hk32 (d := 0) (i := 0) (j := 3) (by simp) (by simp)
  simp at hp32
  have hb32 : w32.heap[p]? = some (.cells (bkCells O1 ts.length c1 O2 ts.length c2).toArray 38 (0, 0)) := by
    have h := hk32.box _ (List.mem_cons_self ..)
    simp only [hp32] at h
    rw [h]; simp [boxObj, bkCells]
  have hq2 : Lies (tlArr O1 ms) w32 := by rw [hmr]; exact hk32.res (tlArr O1 ts).res (by simp)
  have hq3 : ∀ t ∈ ms, Lies (strArr t.A t.xs) w32 := by
    intro t ht
    obtain ⟨i, hi⟩ := List.getElem?_of_mem ht
    obtain ⟨g, _, hm⟩ := hgT i t hi
    exact ownStr_lies (hk32.res (tlGrow t g) (by simp; exact .inr (.inr (.inr (.inr hm))))).1.1
  refine ops_step hk32 rfl (wp_callA (args := [.slice O1 ms.length c1]) hk32 rfl Tryz.func60 rfl rfl (by simp [hml]) ?_)
  refine (markedTexts O1 c1 ms (by omega) w32 hq2 hq3 (fun t ht => by have := hmx' t ht; omega) (fun i t ht => (hmx i t ht).1)).mono ?_
  rintro e v32 ⟨rfl, hq⟩
  refine ⟨_, rfl, ?_⟩
  have hk := (hk32.pure hq).setS (.bool (.c true)) (d := 90) (v := .bool true) (by decide) rfl
  refine run_sound mixed Γok [0, 2, 3, 4, 5, 6, 7, 8, 9, 10, 11, 12, 15, 18, 21, 24, 27, 30, 33, 36, 39, 42] 50 [] ⟨_, hk⟩ (by cbv) (by simp) ?_
  rintro a33 w33 ⟨k33, hk33⟩
  have hp33 := pin hk33 (d := 0) (i := 0) (j := 3) (by simp) (by simp)
  simp at hp33
  have hb33 : w33.heap[p]? = some (.cells (bkCells O1 ts.length c1 O2 ts.length c2).toArray 38 (0, 0)) := by
    have h := hk33.box _ (List.mem_cons_self ..)
    simp only [hp33] at h
    rw [h]; simp [boxObj, bkCells]
  refine ops_step hk33 rfl (wp_callA (args := [.slice none 0 0]) hk33 rfl Tryz.func61 rfl rfl (by simp) ?_)
  refine (markedInts0).mono ?_
  rintro e v33 ⟨rfl, hq⟩
  refine ⟨_, rfl, ?_⟩
  have hk := (hk33.pure hq).setS (.bool (.c true)) (d := 94) (v := .bool true) (by decide) rfl
  refine run_sound mixed Γok [0, 2, 3, 4, 5, 6, 7, 8, 9, 10, 11, 12, 15, 18, 21, 24, 27, 30, 33, 36, 39, 42] 50 [] ⟨_, hk⟩ (by cbv) (by simp) ?_
  rintro a34 w34 ⟨k34, hk34⟩
  have hp34 := pin hk34 (d := 0) (i := 0) (j := 3) (by simp) (by simp)
  simp at hp34
  have hb34 : w34.heap[p]? = some (.cells (bkCells O1 ts.length c1 O2 ts.length c2).toArray 38 (0, 0)) := by
    have h := hk34.box _ (List.mem_cons_self ..)
    simp only [hp34] at h
    rw [h]; simp [boxObj, bkCells]
  refine ops_step hk34 rfl (wp_callA (args := [.slice none 0 0]) hk34 rfl Tryz.func61 rfl rfl (by simp) ?_)
  refine (markedInts0).mono ?_
  rintro e v34 ⟨rfl, hq⟩
  refine ⟨_, rfl, ?_⟩
  have hk := (hk34.pure hq).setS (.bool (.c true)) (d := 101) (v := .bool true) (by decide) rfl
  refine run_sound mixed Γok [0, 2, 3, 4, 5, 6, 7, 8, 9, 10, 11, 12, 15, 18, 21, 24, 27, 30, 33, 36, 39, 42] 50 [] ⟨_, hk⟩ (by cbv) (by simp) ?_
  rintro a35 w35 ⟨k35, hk35⟩
  have hp35 := pin hk35 (d := 0) (i := 0) (j := 3) (by simp) (by simp)
  simp at hp35
  have hb35 : w35.heap[p]? = some (.cells (bkCells O1 ts.length c1 O2 ts.length c2).toArray 38 (0, 0)) := by
    have h := hk35.box _ (List.mem_cons_self ..)
    simp only [hp35] at h
    rw [h]; simp [boxObj, bkCells]
  refine ops_step hk35 rfl (wp_callA (args := [.slice none 0 0]) hk35 rfl Tryz.func62 rfl rfl (by simp) ?_)
  refine (markedAccounts0).mono ?_
  rintro e v35 ⟨rfl, hq⟩
  refine ⟨_, rfl, ?_⟩
  have hk := (hk35.pure hq).setS (.bool (.c true)) (d := 105) (v := .bool true) (by decide) rfl
  refine run_sound mixed Γok [0, 2, 3, 4, 5, 6, 7, 8, 9, 10, 11, 12, 15, 18, 21, 24, 27, 30, 33, 36, 39, 42] 50 [] ⟨_, hk⟩ (by cbv) (by simp) ?_
  rintro a36 w36 ⟨k36, hk36⟩
  have hp36 := pin hk36 (d := 0) (i := 0) (j := 3) (by simp) (by simp)
  simp at hp36
  have hb36 : w36.heap[p]? = some (.cells (bkCells O1 ts.length c1 O2 ts.length c2).toArray 38 (0, 0)) := by
    have h := hk36.box _ (List.mem_cons_self ..)
    simp only [hp36] at h
    rw [h]; simp [boxObj, bkCells]
  refine ops_step hk36 rfl (wp_callA (args := [.slice none 0 0]) hk36 rfl Tryz.func62 rfl rfl (by simp) ?_)
  refine (markedAccounts0).mono ?_
  rintro e v36 ⟨rfl, hq⟩
  refine ⟨_, rfl, ?_⟩
  have hk := (hk36.pure hq).setS (.bool (.c true)) (d := 112) (v := .bool true) (by decide) rfl
  refine run_sound mixed Γok [0, 2, 3, 4, 5, 6, 7, 8, 9, 10, 11, 12, 15, 18, 21, 24, 27, 30, 33, 36, 39, 42] 50 [] ⟨_, hk⟩ (by cbv) (by simp) ?_
  rintro a37 w37 ⟨k37, hk37⟩
  have hp37 := pin hk37 (d := 0) (i := 0) (j := 3) (by simp) (by simp)
  simp at hp37
  have hb37 : w37.heap[p]? = some (.cells (bkCells O1 ts.length c1 O2 ts.length c2).toArray 38 (0, 0)) := by
    have h := hk37.box _ (List.mem_cons_self ..)
    simp only [hp37] at h
    rw [h]; simp [boxObj, bkCells]
  refine ops_step hk37 rfl (wp_callA (args := [.slice none 0 0]) hk37 rfl Tryz.func63 rfl rfl (by simp) ?_)
  refine (markedBalances0).mono ?_
  rintro e v37 ⟨rfl, hq⟩
  refine ⟨_, rfl, ?_⟩
  have hk := (hk37.pure hq).setS (.bool (.c true)) (d := 116) (v := .bool true) (by decide) rfl
  refine run_sound mixed Γok [0, 2, 3, 4, 5, 6, 7, 8, 9, 10, 11, 12, 15, 18, 21, 24, 27, 30, 33, 36, 39, 42] 50 [] ⟨_, hk⟩ (by cbv) (by simp) ?_
  rintro a38 w38 ⟨k38, hk38⟩
  have hp38 := pin hk38 (d := 0) (i := 0) (j := 3) (by simp) (by simp)
  simp at hp38
  have hb38 : w38.heap[p]? = some (.cells (bkCells O1 ts.length c1 O2 ts.length c2).toArray 38 (0, 0)) := by
    have h := hk38.box _ (List.mem_cons_self ..)
    simp only [hp38] at h
    rw [h]; simp [boxObj, bkCells]
  refine ops_step hk38 rfl (wp_callA (args := [.slice none 0 0]) hk38 rfl Tryz.func63 rfl rfl (by simp) ?_)
  refine (markedBalances0).mono ?_
  rintro e v38 ⟨rfl, hq⟩
  refine ⟨_, rfl, ?_⟩
  have hk := (hk38.pure hq).setS (.bool (.c true)) (d := 123) (v := .bool true) (by decide) rfl
  refine run_sound mixed Γok [0, 2, 3, 4, 5, 6, 7, 8, 9, 10, 11, 12, 15, 18, 21, 24, 27, 30, 33, 36, 39, 42] 50 [] ⟨_, hk⟩ (by cbv) (by simp) ?_
  rintro a39 w39 ⟨k39, hk39⟩
  have hp39 := pin hk39 (d := 0) (i := 0) (j := 3) (by simp) (by simp)
  simp at hp39
  have hb39 : w39.heap[p]? = some (.cells (bkCells O1 ts.length c1 O2 ts.length c2).toArray 38 (0, 0)) := by
    have h := hk39.box _ (List.mem_cons_self ..)
    simp only [hp39] at h
    rw [h]; simp [boxObj, bkCells]
  refine ops_step hk39 rfl (wp_callA (args := [.slice none 0 0]) hk39 rfl Tryz.func64 rfl rfl (by simp) ?_)
  refine (markedLines0).mono ?_
  rintro e v39 ⟨rfl, hq⟩
  refine ⟨_, rfl, ?_⟩
  have hk := (hk39.pure hq).setS (.bool (.c true)) (d := 127) (v := .bool true) (by decide) rfl
  refine run_sound mixed Γok [0, 2, 3, 4, 5, 6, 7, 8, 9, 10, 11, 12, 15, 18, 21, 24, 27, 30, 33, 36, 39, 42] 50 [] ⟨_, hk⟩ (by cbv) (by simp) ?_
  rintro a40 w40 ⟨k40, hk40⟩
  have hp40 := pin hk40 (d := 0) (i := 0) (j := 3) (by simp) (by simp)
  simp at hp40
  have hb40 : w40.heap[p]? = some (.cells (bkCells O1 ts.length c1 O2 ts.length c2).toArray 38 (0, 0)) := by
    have h := hk40.box _ (List.mem_cons_self ..)
    simp only [hp40] at h
    rw [h]; simp [boxObj, bkCells]
  refine ops_step hk40 rfl (wp_callA (args := [.slice none 0 0]) hk40 rfl Tryz.func64 rfl rfl (by simp) ?_)
  refine (markedLines0).mono ?_
  rintro e v40 ⟨rfl, hq⟩
  refine ⟨_, rfl, ?_⟩
  have hk := (hk40.pure hq).setS (.bool (.c true)) (d := 134) (v := .bool true) (by decide) rfl
  refine run_sound mixed Γok [0, 2, 3, 4, 5, 6, 7, 8, 9, 10, 11, 12, 15, 18, 21, 24, 27, 30, 33, 36, 39, 42] 50 [] ⟨_, hk⟩ (by cbv) (by simp) ?_
  rintro a41 w41 ⟨k41, hk41⟩
  have hp41 := pin hk41 (d := 0) (i := 0) (j := 3) (by simp) (by simp)
  simp at hp41
  have hb41 : w41.heap[p]? = some (.cells (bkCells O1 ts.length c1 O2 ts.length c2).toArray 38 (0, 0)) := by
    have h := hk41.box _ (List.mem_cons_self ..)
    simp only [hp41] at h
    rw [h]; simp [boxObj, bkCells]
  refine ops_step hk41 rfl (wp_callA (args := [.slice none 0 0]) hk41 rfl Tryz.func65 rfl rfl (by simp) ?_)
  refine (markedJournals0).mono ?_
  rintro e v41 ⟨rfl, hq⟩
  refine ⟨_, rfl, ?_⟩
  have hk := (hk41.pure hq).setS (.bool (.c true)) (d := 138) (v := .bool true) (by decide) rfl
  refine run_sound mixed Γok [0, 2, 3, 4, 5, 6, 7, 8, 9, 10, 11, 12, 15, 18, 21, 24, 27, 30, 33, 36, 39, 42] 50 [] ⟨_, hk⟩ (by cbv) (by simp) ?_
  rintro a42 w42 ⟨k42, hk42⟩
  have hp42 := pin hk42 (d := 0) (i := 0) (j := 3) (by simp) (by simp)
  simp at hp42
  have hb42 : w42.heap[p]? = some (.cells (bkCells O1 ts.length c1 O2 ts.length c2).toArray 38 (0, 0)) := by
    have h := hk42.box _ (List.mem_cons_self ..)
    simp only [hp42] at h
    rw [h]; simp [boxObj, bkCells]
  refine ops_step hk42 rfl (wp_callA (args := [.slice none 0 0]) hk42 rfl Tryz.func65 rfl rfl (by simp) ?_)
  refine (markedJournals0).mono ?_
  rintro e v42 ⟨rfl, hq⟩
  refine ⟨_, rfl, ?_⟩
  have hk := (hk42.pure hq).setS (.bool (.c true)) (d := 145) (v := .bool true) (by decide) rfl
  refine run_sound mixed Γok [0, 2, 3, 4, 5, 6, 7, 8, 9, 10, 11, 12, 15, 18, 21, 24, 27, 30, 33, 36, 39, 42] 50 [] ⟨_, hk⟩ (by cbv) (by simp) ?_
  rintro a43 w43 ⟨k43, hk43⟩
  have hp43 := pin hk43 (d := 0) (i := 0) (j := 3) (by simp) (by simp)
  simp at hp43
  have hb43 : w43.heap[p]? = some (.cells (bkCells O1 ts.length c1 O2 ts.length c2).toArray 38 (0, 0)) := by
    have h := hk43.box _ (List.mem_cons_self ..)
    simp only [hp43] at h
    rw [h]; simp [boxObj, bkCells]
  refine ops_step hk43 rfl (wp_callA (args := [.slice none 0 0]) hk43 rfl Tryz.func66 rfl rfl (by simp) ?_)
  refine (markedChanges0).mono ?_
  rintro e v43 ⟨rfl, hq⟩
  refine ⟨_, rfl, ?_⟩
  have hk := (hk43.pure hq).setS (.bool (.c true)) (d := 149) (v := .bool true) (by decide) rfl
  refine run_sound mixed Γok [0, 2, 3, 4, 5, 6, 7, 8, 9, 10, 11, 12, 15, 18, 21, 24, 27, 30, 33, 36, 39, 42] 50 [] ⟨_, hk⟩ (by cbv) (by simp) ?_
  rintro a44 w44 ⟨k44, hk44⟩
  have hp44 := pin hk44 (d := 0) (i := 0) (j := 3) (by simp) (by simp)
  simp at hp44
  have hb44 : w44.heap[p]? = some (.cells (bkCells O1 ts.length c1 O2 ts.length c2).toArray 38 (0, 0)) := by
    have h := hk44.box _ (List.mem_cons_self ..)
    simp only [hp44] at h
    rw [h]; simp [boxObj, bkCells]
  refine ops_step hk44 rfl (wp_callA (args := [.slice none 0 0]) hk44 rfl Tryz.func66 rfl rfl (by simp) ?_)
  refine (markedChanges0).mono ?_
  rintro e v44 ⟨rfl, hq⟩
  refine ⟨_, rfl, ?_⟩
  have hk := (hk44.pure hq).setS (.bool (.c true)) (d := 156) (v := .bool true) (by decide) rfl
  refine run_sound mixed Γok [0, 2, 3, 4, 5, 6, 7, 8, 9, 10, 11, 12, 15, 18, 21, 24, 27, 30, 33, 36, 39, 42] 50 [] ⟨_, hk⟩ (by cbv) (by simp) ?_
  rintro a45 w45 ⟨k45, hk45⟩
  have hp45 := pin hk45 (d := 0) (i := 0) (j := 3) (by simp) (by simp)
  simp at hp45
  have hb45 : w45.heap[p]? = some (.cells (bkCells O1 ts.length c1 O2 ts.length c2).toArray 38 (0, 0)) := by
    have h := hk45.box _ (List.mem_cons_self ..)
    simp only [hp45] at h
    rw [h]; simp [boxObj, bkCells]
  refine ops_step hk45 rfl (wp_callA (args := [.slice none 0 0]) hk45 rfl Tryz.func67 rfl rfl (by simp) ?_)
  refine (markedConflicts0).mono ?_
  rintro e v45 ⟨rfl, hq⟩
  refine ⟨_, rfl, ?_⟩
  have hk := (hk45.pure hq).setS (.bool (.c true)) (d := 160) (v := .bool true) (by decide) rfl
  refine run_sound mixed Γok [0, 2, 3, 4, 5, 6, 7, 8, 9, 10, 11, 12, 15, 18, 21, 24, 27, 30, 33, 36, 39, 42] 50 [] ⟨_, hk⟩ (by cbv) (by simp) ?_
  rintro a46 w46 ⟨k46, hk46⟩
  have hp46 := pin hk46 (d := 0) (i := 0) (j := 3) (by simp) (by simp)
  simp at hp46
  have hb46 : w46.heap[p]? = some (.cells (bkCells O1 ts.length c1 O2 ts.length c2).toArray 38 (0, 0)) := by
    have h := hk46.box _ (List.mem_cons_self ..)
    simp only [hp46] at h
    rw [h]; simp [boxObj, bkCells]
  refine ops_step hk46 rfl (wp_callA (args := [.slice none 0 0]) hk46 rfl Tryz.func67 rfl rfl (by simp) ?_)
  refine (markedConflicts0).mono ?_
  rintro e v46 ⟨rfl, hq⟩
  refine ⟨_, rfl, ?_⟩
  have hk := (hk46.pure hq).setS (.bool (.c true)) (d := 167) (v := .bool true) (by decide) rfl
  refine run_sound mixed Γok [0, 2, 3, 4, 5, 6, 7, 8, 9, 10, 11, 12, 15, 18, 21, 24, 27, 30, 33, 36, 39, 42] 50 [] ⟨_, hk⟩ (by cbv) (by simp) ?_
  rintro a47 w47 ⟨k47, hk47⟩
  have hp47 := pin hk47 (d := 0) (i := 0) (j := 3) (by simp) (by simp)
  simp at hp47
  have hb47 : w47.heap[p]? = some (.cells (bkCells O1 ts.length c1 O2 ts.length c2).toArray 38 (0, 0)) := by
    have h := hk47.box _ (List.mem_cons_self ..)
    simp only [hp47] at h
    rw [h]; simp [boxObj, bkCells]
  refine ops_step hk47 rfl (wp_callA (args := [.slice none 0 0]) hk47 rfl Tryz.func68 rfl rfl (by simp) ?_)
  refine (markedTrios0).mono ?_
  rintro e v47 ⟨rfl, hq⟩
  refine ⟨_, rfl, ?_⟩
  have hk := (hk47.pure hq).setS (.bool (.c true)) (d := 171) (v := .bool true) (by decide) rfl
  refine run_sound mixed Γok [0, 2, 3, 4, 5, 6, 7, 8, 9, 10, 11, 12, 15, 18, 21, 24, 27, 30, 33, 36, 39, 42] 50 [] ⟨_, hk⟩ (by cbv) (by simp) ?_
  rintro a48 w48 ⟨k48, hk48⟩
  have hp48 := pin hk48 (d := 0) (i := 0) (j := 3) (by simp) (by simp)
  simp at hp48
  have hb48 : w48.heap[p]? = some (.cells (bkCells O1 ts.length c1 O2 ts.length c2).toArray 38 (0, 0)) := by
    have h := hk48.box _ (List.mem_cons_self ..)
    simp only [hp48] at h
    rw [h]; simp [boxObj, bkCells]
  refine ops_step hk48 rfl (wp_callA (args := [.slice none 0 0]) hk48 rfl Tryz.func68 rfl rfl (by simp) ?_)
  refine (markedTrios0).mono ?_
  rintro e v48 ⟨rfl, hq⟩
  refine ⟨_, rfl, ?_⟩
  have hk := (hk48.pure hq).setS (.bool (.c true)) (d := 178) (v := .bool true) (by decide) rfl
  refine run_sound mixed Γok [0, 2, 3, 4, 5, 6, 7, 8, 9, 10, 11, 12, 15, 18, 21, 24, 27, 30, 33, 36, 39, 42] 50 [] ⟨_, hk⟩ (by cbv) (by simp) ?_
  rintro a49 w49 ⟨k49, hk49⟩
  have hp49 := pin hk49 (d := 0) (i := 0) (j := 3) (by simp) (by simp)
  simp at hp49
  have hb49 : w49.heap[p]? = some (.cells (bkCells O1 ts.length c1 O2 ts.length c2).toArray 38 (0, 0)) := by
    have h := hk49.box _ (List.mem_cons_self ..)
    simp only [hp49] at h
    rw [h]; simp [boxObj, bkCells]
  refine ops_step hk49 rfl (wp_callA (args := [.slice none 0 0]) hk49 rfl Tryz.func69 rfl rfl (by simp) ?_)
  refine (markedPairs0).mono ?_
  rintro e v49 ⟨rfl, hq⟩
  refine ⟨_, rfl, ?_⟩
  have hk := (hk49.pure hq).setS (.bool (.c true)) (d := 182) (v := .bool true) (by decide) rfl
  refine run_sound mixed Γok [0, 2, 3, 4, 5, 6, 7, 8, 9, 10, 11, 12, 15, 18, 21, 24, 27, 30, 33, 36, 39, 42] 50 [] ⟨_, hk⟩ (by cbv) (by simp) ?_
  rintro a50 w50 ⟨k50, hk50⟩
  have hp50 := pin hk50 (d := 0) (i := 0) (j := 3) (by simp) (by simp)
  simp at hp50
  have hb50 : w50.heap[p]? = some (.cells (bkCells O1 ts.length c1 O2 ts.length c2).toArray 38 (0, 0)) := by
    have h := hk50.box _ (List.mem_cons_self ..)
    simp only [hp50] at h
    rw [h]; simp [boxObj, bkCells]
  refine ops_step hk50 rfl (wp_callA (args := [.slice none 0 0]) hk50 rfl Tryz.func69 rfl rfl (by simp) ?_)
  refine (markedPairs0).mono ?_
  rintro e v50 ⟨rfl, hq⟩
  refine ⟨_, rfl, ?_⟩
  have hk := (hk50.pure hq).setS (.bool (.c true)) (d := 189) (v := .bool true) (by decide) rfl
  refine run_sound mixed Γok [0, 2, 3, 4, 5, 6, 7, 8, 9, 10, 11, 12, 15, 18, 21, 24, 27, 30, 33, 36, 39, 42] 50 [] ⟨_, hk⟩ (by cbv) (by simp) ?_
  intro az wz hsz
  refine ret_at Γok (.base _) hsz (by cbv) fun k hk => ⟨by simp, kept_box hk.kept ?_ (fun x h => h)⟩
  have hp4 := pin hk (d := 0) (i := 0) (j := 3) (by simp) (by simp)
  have hbx := hk.box _ (List.mem_cons_self ..)
  simp at hp4
  rw [hp4] at hbx
  rw [hbx, hb]
  simp [boxObj, bkCells]
end Go.Proofs.YthhcbfngjmiigaaGreatDoor
