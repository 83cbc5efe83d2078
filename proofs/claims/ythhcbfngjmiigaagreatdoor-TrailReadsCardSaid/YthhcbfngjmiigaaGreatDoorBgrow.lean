import Derived.Test.YthhcbfngjmiigaaGreatDoorBput
set_option linter.all false
namespace Go.Proofs.YthhcbfngjmiigaaGreatDoor
open Go Rx
set_option maxRecDepth 100000
def tlV (t : TL) : Value := .slice t.A t.xs.length t.c
def tlGrow (t g : TL) : Res := growR 9 1 t.A t.xs.length t.c (t.xs.map .string) g.A g.xs.length g.c (g.xs.map .string)
def tlOut (O : Option Addr) (d : Nat) (gs : List TL) : Res := ownS 22 1 O gs.length d (gs.map tlV)
def grownR (ts gs : List TL) : List Res := List.zipWith tlGrow ts gs ++ (ts.drop gs.length).map tlOwn
theorem marks_app (i : Int) (n m : Nat) : marks i 0 n ++ marks i n m = marks i 0 (n + m) := by
  simp only [marks]
  rw [List.range_add, List.map_append, List.map_map]
  congr 1
  apply List.map_congr_left
  intro q _
  simp only [Function.comp]
  congr 1
  omega
theorem marks_app' (i f : Int) (n m : Nat) (g : Int) (hg : g = f + n) : marks i f n ++ marks i g m = marks i f (n + m) := by
  subst hg
  simp only [marks]
  rw [List.range_add, List.map_append, List.map_map]
  congr 1
  apply List.map_congr_left
  intro q _
  simp only [Function.comp]
  congr 1
  omega
theorem grownR_cons {ts gs : List TL} {t : TL} (h : ts[gs.length]? = some t) : grownR ts gs = List.zipWith tlGrow ts gs ++ tlOwn t :: (ts.drop (gs.length + 1)).map tlOwn := by
  unfold grownR
  obtain ⟨hl, rfl⟩ := List.getElem?_eq_some_iff.1 h
  rw [List.drop_eq_getElem_cons hl]
  rfl
theorem zip_snoc {t g : TL} : ∀ {ts gs : List TL}, ts[gs.length]? = some t → List.zipWith tlGrow ts (gs ++ [g]) = List.zipWith tlGrow ts gs ++ [tlGrow t g]
  | [], gs, h => by simp at h
  | t' :: ts, [], h => by simp at h; subst h; simp
  | t' :: ts, g' :: gs, h => by
    simp only [List.cons_append, List.zipWith_cons_cons]
    rw [zip_snoc (by simpa using h)]
theorem grownR_snoc {ts gs : List TL} {t : TL} (g : TL) (h : ts[gs.length]? = some t) : grownR ts (gs ++ [g]) = List.zipWith tlGrow ts gs ++ tlGrow t g :: (ts.drop (gs.length + 1)).map tlOwn := by
  unfold grownR
  rw [zip_snoc h]
  simp
theorem tlGrow_mk (t : TL) (A : Option Addr) (c n : Nat) (ys : List ByteArray) (l : List Value) (hn : ys.length = n) (hl : ys.map Value.string = l) : growR 9 1 t.A t.xs.length t.c (t.xs.map .string) A n c l = tlGrow t ⟨A, c, ys⟩ := by subst hn hl; rfl
theorem growTexts (p : Nat) (O1 O2 : Option Addr) (c1 n2 c2 : Nat) (ts : List TL) (hn : ts.length ≤ 1000) (w : World) (hb : w.heap[p]? = some (.cells (bkCells O1 ts.length c1 O2 n2 c2).toArray 38 (0, 0)))
    (h1 : Lies (tlArr O1 ts) w) (hl : ∀ t ∈ ts, (tlOwn t).P w) (hx : ∀ t ∈ ts, t.xs.length ≤ 1000000) (hp1 : ¬ (tlArr O1 ts).res.F p) (hp2 : ∀ t ∈ ts, ¬ (tlOwn t).F p)
    (hd : (ts.map tlOwn).Pairwise (fun r s => ∀ x, ¬ (r.F x ∧ s.F x))) (hr : ∀ t ∈ ts, ∀ x, ¬ ((tlOwn t).F x ∧ (tlArr O1 ts).res.F x)) :
    Calls Tryz.prog 50 #[.pointer (some ⟨p, 0, none⟩)] w fun e w' => ∃ O d gs, e = .returned (.slice O ts.length d) ∧ gs.length = ts.length ∧
      (∀ (i : Nat) (t g : TL), ts[i]? = some t → gs[i]? = some g → g.xs = t.xs ++ marks i t.xs.length 72) ∧ (∀ r ∈ tlOut O d gs :: List.zipWith tlGrow ts gs, r.P w' ∧ ∀ x, r.F x → x < w'.heap.size ∧ (w.heap.size ≤ x ∨ ∃ t ∈ ts, (tlOwn t).F x)) ∧ (tlOut O d gs :: List.zipWith tlGrow ts gs).Pairwise (fun r s => ∀ x, ¬ (r.F x ∧ s.F x)) ∧ Kept (fun x => ∃ t ∈ ts, (tlOwn t).F x) w w' := by
  refine rx_enterK (M := fun x => x = p ∨ ∃ t ∈ ts, (tlOwn t).F x) Tryz.func50 rfl (fun _ => p) { n := [ts.length, c1, n2, c2], a := [O2], ar := [tlArr O1 ts] } [.ptr (.box 0 0)]
    (by simp [SV.den]) (ro := [(tlArr O1 ts).res]) (own := ts.map tlOwn) (bx := [⟨0, 38, bkSVp⟩]) (nx := 1) (ar := [(0, [.slice])])
    (memO _ rfl (by rw [hb]; simp [boxObj, bkCells, bkSVp]) (.inl rfl) (by
      intro r hr
      simp only [List.cons_append, List.nil_append, List.mem_cons, List.mem_map] at hr
      rcases hr with rfl | ⟨t, ht, rfl⟩
      · exact h1
      · exact ⟨hl t ht, ownS_lt (hl t ht)⟩) (by
      intro r hr
      simp only [List.cons_append, List.nil_append, List.mem_cons, List.mem_map] at hr
      rcases hr with rfl | ⟨t, ht, rfl⟩
      · exact hp1
      · exact hp2 t ht) hd (by
      intro o ho r hr'
      obtain ⟨t, ht, rfl⟩ := List.mem_map.1 ho
      simp at hr'; subst hr'
      exact hr t ht) (by
      intro o ho x hx
      obtain ⟨t, ht, rfl⟩ := List.mem_map.1 ho
      exact .inr ⟨t, ht, hx⟩) (by simp [tlEl]; exact .here (by simp))) 43 rfl ?_
  intro a hs0
  have hs0' := hs0.to { n := [ts.length, c1, n2, c2, p], a := [O2], ar := [tlArr O1 ts] } ⟨43, [(0, .ptr (.box 0 0)), (0, .ptr (.at 4 0))], [⟨0, 38, bkSVp⟩], 1, [(0, [.slice])]⟩ rfl rfl (by simp [enumS]) (by simp [bkSVp]) (by simp)
  refine run_sound mixed Γok [0, 2, 3, 4, 5, 6, 13, 24] 50 [] ⟨_, hs0'⟩ (by cbv) (by simp) ?_
  rintro a1 w1 ⟨k1, hk1⟩
  have hp1' := pin hk1 (d := 0) (i := 0) (j := 4) (by simp) (by simp)
  simp at hp1'
  refine rx_loop (fun (j : Nat) a' w' => j ≤ ts.length ∧ ∃ O d gs, gs.length = j ∧ (∀ (i : Nat) (t g : TL), ts[i]? = some t → gs[i]? = some g → g.xs = t.xs ++ marks i t.xs.length 72) ∧
        Sat ⟨w, fun x => x = p ∨ ∃ t ∈ ts, (tlOwn t).F x⟩ { i := [(j : Int)], n := [ts.length, c1, n2, c2, p, j, d], a := [O2, O], ar := [tlArr O1 ts] } [(tlArr O1 ts).res] (tlOut O d gs :: grownR ts gs)
      ⟨43, [(2, .slice .nil (.c 0) (.c 0)), (3, .slice (.v 1) (.v 5) (.v 6)), (4, .int .i64 (.v 0)), (0, .ptr (.box 0 0)), (0, .ptr (.at 4 0))], [⟨0, 38, bkSVp⟩], 1, [(0, [.slice])]⟩ a' w') (fun j => ts.length - j) 0
      ⟨Nat.zero_le _, none, 0, [], rfl, by simp, k1, by
        have h := (hk1.addEmp 22 1 none).to { i := [0], n := [ts.length, c1, n2, c2, p, 0, 0], a := [O2, none], ar := [tlArr O1 ts] } ⟨43, [(2, .slice .nil (.c 0) (.c 0)), (3, .slice (.v 1) (.v 5) (.v 6)), (4, .int .i64 (.v 0)), (0, .ptr (.box 0 0)), (0, .ptr (.at 4 0))], [⟨0, 38, bkSVp⟩], 1, [(0, [.slice])]⟩ rfl rfl (by simp [hp1']) (by simp [bkSVp]) (by simp)
        simpa [tlOut, grownR] using h⟩ ?_
  rintro j a2 w2 ⟨hj, O, d, gs, hgl, hgs, hs2⟩
  by_cases h : j < ts.length
  · obtain ⟨t, ht⟩ : ∃ t, ts[j]? = some t := ⟨_, List.getElem?_eq_getElem h⟩
    have htm : t ∈ ts := List.mem_of_getElem? ht
    have htx := hx t htm
    refine run_sound mixed Γok [0, 2, 3, 4, 5, 6, 13, 24] 50 [true] hs2 (by cbv) (by simp [h]) ?_
    rintro a3 w3 ⟨k3, hk3⟩
    have hp3 := pin hk3 (d := 0) (i := 0) (j := 4) (by simp) (by simp)
    simp at hp3
    have ht' : ts[gs.length]? = some t := by rw [hgl]; exact ht
    have hperm : (tlOut O d gs :: grownR ts gs).Perm (tlOwn t :: tlOut O d gs :: (List.zipWith tlGrow ts gs ++ (ts.drop (gs.length + 1)).map tlOwn)) := by
      rw [grownR_cons ht']
      exact (List.Perm.cons _ List.perm_middle).trans (List.Perm.swap ..)
    have hk4 := (hk3.perm hperm).recast (tlGrow t ⟨t.A, t.c, t.xs ++ marks j t.xs.length 0⟩) (by intro hP; simpa [tlGrow, growR, bothR, marks, tlOwn, ownStr] using hP) (by rintro b (hb | hb); exact hb; simpa [marks, tlOwn, ownStr, ownS] using hb) (by simp; exact .here (by simp))
    refine rx_loop (fun (q : Nat) a' w' => q ≤ 12 ∧ ∃ A c, Sat ⟨w, fun x => x = p ∨ ∃ t ∈ ts, (tlOwn t).F x⟩ { i := [(j : Int), (q : Int)], n := [ts.length, c1, n2, c2, p, j, d, t.xs.length + q, c], a := [O2, O, A], ar := [tlArr O1 ts] } [(tlArr O1 ts).res]
        (tlGrow t ⟨A, c, t.xs ++ marks j t.xs.length q⟩ :: tlOut O d gs :: (List.zipWith tlGrow ts gs ++ (ts.drop (gs.length + 1)).map tlOwn))
      ⟨43, [(6, .int .i64 (.v 1)), (5, .slice (.v 2) (.v 7) (.v 8)), (2, .slice .nil (.c 0) (.c 0)), (3, .slice (.v 1) (.v 5) (.v 6)), (4, .int .i64 (.v 0)), (0, .ptr (.box 0 0)), (0, .ptr (.at 4 0))], [⟨0, 38, bkSVp⟩], 1, [(0, [.slice])]⟩ a' w') (fun q => 12 - q) 0
      ⟨Nat.zero_le _, t.A, t.c, k3, hk4.to _ _ rfl rfl (by simp [hp3, ht, tlEl]) (by simp [bkSVp]) (by simp)⟩ ?_
    rintro q a5 w5 ⟨hq, A, c, hs5⟩
    by_cases hq12 : q < 12
    · refine run_sound mixed Γok [0, 2, 3, 4, 5, 6, 13, 24] 50 [true] hs5 (by cbv) (by simp; omega) ?_
      rintro a6 w6 ⟨k6, hk6⟩
      have hp6 := pin hk6 (d := 0) (i := 0) (j := 4) (by simp) (by simp)
      simp at hp6
      refine ops_step hk6 rfl (wp_callA (args := [.int .i64 (j : Int), .int .i64 ((t.xs.length + q : Nat) : Int), .int .i64 ((1 : Nat) : Int)]) hk6 rfl Tryz.func88 rfl rfl (by simp; rfl) ?_)
      refine (markTexts j ((t.xs.length + q : Nat) : Int) 1 (by omega) (by omega) (by omega) w6).mono ?_
      rintro e w7 ⟨B, c6, rfl, hP7, hF7, hp7⟩
      refine ⟨_, rfl, ?_⟩
      have hlies7 := ownStr_lies hP7
      have hk7 := (hk6.pureRo hp7 _ hlies7.1 (fun x hx => ⟨hF7 x (ownStr_F hP7 hx), hlies7.2 x hx⟩)).setX { i := [(j : Int), (q : Int)], n := [ts.length, c1, n2, c2, p, j, d, t.xs.length + q, c, c6], a := [O2, O, A, B], ar := [tlArr O1 ts] } (.slice (.v 3) (.c 1) (.v 9)) (d := 31) (v := .slice B 1 c6) (by decide) (by simp) (by simp [hp6]) (by simp) (by simp)
      refine run_sound mixed Γok [0, 2, 3, 4, 5, 6, 13, 24] 50 [] ⟨k6, hk7⟩ (by cbv) (by simp) ?_
      rintro a8 w8 ⟨k8, hk8⟩
      have hp8 := pin hk8 (d := 0) (i := 0) (j := 4) (by simp) (by simp)
      simp at hp8
      rw [← tlGrow_mk t A c (t.xs.length + q) (t.xs ++ marks j t.xs.length q) _ (by simp) rfl] at hk8
      have hv8 := hk8.res (strArr B (marks j ((t.xs.length + q : Nat) : Int) 1)).res (by simp)
      refine ops_step hk8 rfl (wp_appendG (m := 1) (news := (marks j ((t.xs.length + q : Nat) : Int) 1).map .string) Γok hk8 (by rfl) rfl rfl (by simpa using Src.strs (P := Tryz.prog) (A := B) (c := c6) (xs := marks j ((t.xs.length + q : Nat) : Int) 1) hv8.1) (by simp; omega) (by omega) (by omega) (by simp; exact .here (by simp)) ?_)
      intro A' c' w9 hk9 hc9 _
      rw [tlGrow_mk t A' c' (t.xs.length + q + 1) (t.xs ++ marks j t.xs.length (q + 1)) _ (by simp; omega) (by rw [← List.map_append, List.append_assoc, marks_app' _ _ _ _ _ (by omega)])] at hk9
      have hk10 := hk9.setX { i := [(j : Int), (q : Int)], n := [ts.length, c1, n2, c2, p, j, d, t.xs.length + q, c, c6, t.xs.length + q + 1, c'], a := [O2, O, A, B, A'], ar := [tlArr O1 ts] } (.slice (.v 4) (.v 10) (.v 11)) (d := 32) (v := .slice A' (t.xs.length + q + 1) c') (by decide) (by simp) (by simp [hp8]) (by simp) (by simp)
      refine run_sound mixed Γok [0, 2, 3, 4, 5, 6, 13, 24] 50 [] ⟨k8, hk10⟩ (by cbv) (by simp) ?_
      rintro a11 w11 ⟨k11, hk11⟩
      have hp11 := pin hk11 (d := 0) (i := 0) (j := 4) (by simp) (by simp)
      simp at hp11
      exact ⟨q + 1, by omega, by omega, A', c', k11, (hk11.sub (ro' := [(tlArr O1 ts).res]) (by simp) (List.Sublist.refl _) (by simp; exact .here (by simp))).to _ _ rfl rfl (by have := wrap_id (n := (q : Int) + 1) (by omega) (by omega); simp [this, hp11]; omega) (by simp [bkSVp]) (by simp)⟩
    · obtain rfl : q = 12 := by omega
      refine run_sound mixed Γok [0, 2, 3, 4, 5, 6, 13, 24] 50 [false] hs5 (by cbv) (by simp) ?_
      intro a6 w6 hs6
      refine exit_in rfl rfl ?_
      refine run_sound mixed Γok [0, 2, 3, 4, 5, 6, 13, 24] 50 [] hs6 (by cbv) (by simp) ?_
      rintro a7 w7 ⟨k7, hk7⟩
      have hp7 := pin hk7 (d := 0) (i := 0) (j := 4) (by simp) (by simp)
      simp at hp7
      refine ops_step hk7 rfl (wp_callA (args := [.int .i64 (j : Int), .int .i64 ((t.xs.length + 12 : Nat) : Int), .int .i64 ((60 : Nat) : Int)]) hk7 rfl Tryz.func88 rfl rfl (by simp; rfl) ?_)
      refine (markTexts j ((t.xs.length + 12 : Nat) : Int) 60 (by omega) (by omega) (by omega) w7).mono ?_
      rintro e w8 ⟨B, c6, rfl, hP8, hF8, hp8⟩
      refine ⟨_, rfl, ?_⟩
      have hlies8 := ownStr_lies hP8
      have hk8 := (hk7.pureRo hp8 _ hlies8.1 (fun x hx => ⟨hF8 x (ownStr_F hP8 hx), hlies8.2 x hx⟩)).setX { i := [(j : Int), 12], n := [ts.length, c1, n2, c2, p, j, d, t.xs.length + 12, c, c6], a := [O2, O, A, B], ar := [tlArr O1 ts] } (.slice (.v 3) (.c 60) (.v 9)) (d := 38) (v := .slice B 60 c6) (by decide) (by simp) (by simp [hp7]) (by simp) (by simp)
      refine run_sound mixed Γok [0, 2, 3, 4, 5, 6, 13, 24] 50 [] ⟨k7, hk8⟩ (by cbv) (by simp) ?_
      rintro a9 w9 ⟨k9, hk9⟩
      have hp9 := pin hk9 (d := 0) (i := 0) (j := 4) (by simp) (by simp)
      simp at hp9
      rw [← tlGrow_mk t A c (t.xs.length + 12) (t.xs ++ marks j t.xs.length 12) _ (by simp) rfl] at hk9
      have hv9 := hk9.res (strArr B (marks j ((t.xs.length + 12 : Nat) : Int) 60)).res (by simp)
      refine ops_step hk9 rfl (wp_appendG (m := 60) (news := (marks j ((t.xs.length + 12 : Nat) : Int) 60).map .string) Γok hk9 (by rfl) rfl rfl (by simpa using Src.strs (P := Tryz.prog) (A := B) (c := c6) (xs := marks j ((t.xs.length + 12 : Nat) : Int) 60) hv9.1) (by simp; omega) (by omega) (by omega) (by simp; exact .here (by simp)) ?_)
      intro A' c' w10 hk10 hc10 _
      rw [tlGrow_mk t A' c' (t.xs.length + 12 + 60) (t.xs ++ marks j t.xs.length 72) _ (by simp) (by rw [← List.map_append, List.append_assoc, marks_app' _ _ _ _ _ (by omega)])] at hk10
      have hk11 := hk10.setX { i := [(j : Int), 12], n := [ts.length, c1, n2, c2, p, j, d, t.xs.length + 12, c, c6, t.xs.length + 12 + 60, c'], a := [O2, O, A, B, A'], ar := [tlArr O1 ts] } (.slice (.v 4) (.v 10) (.v 11)) (d := 39) (v := .slice A' (t.xs.length + 12 + 60) c') (by decide) (by simp) (by simp [hp9]) (by simp) (by simp)
      refine run_sound mixed Γok [0, 2, 3, 4, 5, 6, 13, 24] 50 [] ⟨k9, hk11⟩ (by cbv) (by simp) ?_
      rintro a12 w12 ⟨k12, hk12⟩
      have hp12 := pin hk12 (d := 0) (i := 0) (j := 4) (by simp) (by simp)
      simp at hp12
      have hk13 := hk12.perm (List.Perm.swap ..)
      refine ops_step hk13 rfl (wp_appendK (m := 1) (news := [tlV ⟨A', c', t.xs ++ marks j t.xs.length 72⟩]) Γok hk13 (by rfl) rfl (by simp [hgl]) (Src.boxK (news := [tlV ⟨A', c', t.xs ++ marks j t.xs.length 72⟩]) hk13 (List.mem_cons_self ..) (by simp [tlV]) rfl (by simp [Value.oneCell', tlV])) (by simp; omega) (by omega) (by simp; exact .here (by simp)) ?_)
      intro O' d' w14 hk14 hd14 _
      have hk15 := hk14.setX { i := [(j : Int), 12], n := [ts.length, c1, n2, c2, p, j, d, t.xs.length + 12, c, c6, t.xs.length + 12 + 60, c', gs.length + 1, d'], a := [O2, O, A, B, A', O'], ar := [tlArr O1 ts] } (.slice (.v 5) (.v 12) (.v 13)) (d := 41) (v := .slice O' (gs.length + 1) d') (by decide) (by simp) (by simp [hp12]) (by simp) (by simp)
      refine run_sound mixed Γok [0, 2, 3, 4, 5, 6, 13, 24] 50 [] ⟨k12, hk15⟩ (by cbv) (by simp) ?_
      rintro a16 w16 ⟨k16, hk16⟩
      have hp16 := pin hk16 (d := 0) (i := 0) (j := 4) (by simp) (by simp)
      simp at hp16
      obtain ⟨g, hg⟩ : ∃ g : TL, g = ⟨A', c', t.xs ++ marks j t.xs.length 72⟩ := ⟨_, rfl⟩
      rw [← hg] at hk16
      have hown : (ownS 22 1 O' (gs.length + 1) d' (gs.map tlV ++ [tlV g]) :: tlGrow t g :: (List.zipWith tlGrow ts gs ++ (ts.drop (gs.length + 1)).map tlOwn)).Perm (tlOut O' d' (gs ++ [g]) :: grownR ts (gs ++ [g])) := by
        rw [grownR_snoc g ht', tlOut, List.length_append, List.map_append]
        exact List.Perm.cons _ List.perm_middle.symm
      refine ⟨j + 1, by omega, by omega, O', d', gs ++ [g], by simp [hgl], ?_, k16, ((hk16.perm hown).sub (ro' := [(tlArr O1 ts).res]) (by simp) (List.Sublist.refl _) (by simp; exact .here (by simp))).to _ _ rfl rfl (by have := wrap_id (n := (j : Int) + 1) (by omega) (by omega); simp [this, hp16, hgl]) (by simp [bkSVp]) (by simp)⟩
      intro i t' g' ht1 hg1
      by_cases hi : i < gs.length
      · rw [List.getElem?_append_left hi] at hg1
        exact hgs i t' g' ht1 hg1
      · rw [List.getElem?_append_right (by omega)] at hg1
        have hij : i = gs.length := by
          have := (List.getElem?_eq_some_iff.1 hg1).1
          simp at this; omega
        subst hij
        simp at hg1
        subst hg1
        rw [ht'] at ht1
        cases ht1
        rw [hg, hgl]
  · obtain rfl : j = ts.length := by omega
    refine run_sound mixed Γok [0, 2, 3, 4, 5, 6, 13, 24] 50 [false] hs2 (by cbv) (by simp) ?_
    intro a3 w3 hs3
    refine exit_in rfl rfl ?_
    refine run_sound mixed Γok [0, 2, 3, 4, 5, 6, 13, 24] 50 [] hs3 (by cbv) (by simp) ?_
    intro a4 w4 hs4
    refine ret_at Γok (.base _) hs4 (by cbv) fun k hk => ?_
    have hz : grownR ts gs = List.zipWith tlGrow ts gs := by simp [grownR, hgl]
    rw [hz] at hk
    have hp4 := pin hk (d := 0) (i := 0) (j := 4) (by simp) (by simp)
    simp at hp4
    refine ⟨O, d, gs, by simp, hgl, hgs, fun r hr => ⟨(hk.res r (List.mem_append_right _ hr)).1, fun x hx => ⟨(hk.res r (List.mem_append_right _ hr)).2 x hx, ?_⟩⟩, hk.odis, kept_box hk.kept ?_ (fun x h => h)⟩
    · rcases hk.onew r hr x hx with h | h | h
      · exact .inl h
      · subst h
        exact absurd hx (by have := hk.rbox r (List.mem_append_right _ hr) _ (List.mem_cons_self ..); simp only [hp4] at this; exact this)
      · exact .inr h
    · have hbx := hk.box _ (List.mem_cons_self ..)
      rw [hp4] at hbx
      rw [hbx, hb]
      simp [boxObj, bkCells]
end Go.Proofs.YthhcbfngjmiigaaGreatDoor
