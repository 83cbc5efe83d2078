import Derived.Test.YthhcbfngjmiigaaGreatDoorRxF
import Derived.Test.YthhcbfngjmiigaaGreatDoorE
set_option linter.all false
namespace Go.Proofs.YthhcbfngjmiigaaGreatDoor
open Go Rx
set_option maxRecDepth 100000
/-- What a list that is kept owns. -/
def tlOwn (t : TL) : Res := ownStr 9 t.A t.c t.xs
/-- The first j lists are marked. -/
def putTo (j : Nat) (ts : List TL) : List TL := ts.mapIdx fun i t => if i < j then { t with xs := marks i 0 t.xs.length } else t
theorem putTo_len (j : Nat) (ts : List TL) : (putTo j ts).length = ts.length := by simp [putTo]
theorem putTo_get (j : Nat) (ts : List TL) (i : Nat) : (putTo j ts)[i]? = ts[i]?.map fun t => if i < j then { t with xs := marks i 0 t.xs.length } else t := by simp [putTo, List.getElem?_mapIdx]
theorem putTo_zero (ts : List TL) : putTo 0 ts = ts := by
  apply List.ext_getElem?; intro i; rw [putTo_get]; simp
theorem tlOwn_F (t : TL) (xs : List ByteArray) (x : Nat) : (tlOwn { t with xs := xs }).F x ↔ (tlOwn t).F x := Iff.rfl
theorem putTo_succ {j : Nat} {ts : List TL} {t : TL} (h : ts[j]? = some t) : (putTo (j + 1) ts).map tlOwn = ((putTo j ts).map tlOwn).set j (tlOwn { t with xs := marks j 0 t.xs.length }) := by
  apply List.ext_getElem?
  intro i
  rw [List.getElem?_set, List.getElem?_map, List.getElem?_map, putTo_get, putTo_get, List.length_map, putTo_len]
  have hj := (List.getElem?_eq_some_iff.1 h).1
  by_cases he : j = i
  · subst he
    rw [if_pos rfl, if_pos hj, h]
    simp
  · rw [if_neg he]
    congr 1
    cases ts[i]? with
    | none => rfl
    | some u =>
      simp only [Option.map_some]
      by_cases hi : i < j
      · rw [if_pos hi, if_pos (by omega)]
      · rw [if_neg hi, if_neg (by omega)]
theorem putTo_at {j : Nat} {ts : List TL} {t : TL} (h : ts[j]? = some t) : ((putTo j ts).map tlOwn)[j]? = some (tlOwn t) := by
  rw [List.getElem?_map, putTo_get, h]; simp
theorem erase_perm {α : Type} {x : α} : ∀ {l : List α} {j : Nat}, l[j]? = some x → l.Perm (x :: l.eraseIdx j)
  | [], j, h => by simp at h
  | y :: l, 0, h => by simp at h; subst h; simp
  | y :: l, j + 1, h => by simp at h; simp only [List.eraseIdx_cons_succ]; exact ((erase_perm h).cons y).trans (List.Perm.swap ..)
theorem set_perm {α : Type} (x : α) : ∀ {l : List α} {j : Nat}, j < l.length → (x :: l.eraseIdx j).Perm (l.set j x)
  | [], j, h => by simp at h
  | y :: l, 0, h => by simp
  | y :: l, j + 1, h => by simp only [List.eraseIdx_cons_succ, List.set_cons_succ]; exact (List.Perm.swap ..).trans ((set_perm x (by simpa using h)).cons y)
theorem splice_mark (j : Int) {q : Nat} {xs : List ByteArray} (hq : q < xs.length) : splice ((marks j 0 q ++ xs.drop q).map Value.string) q [Value.string (nameB j (0 + q))] = (marks j 0 (q + 1) ++ xs.drop (q + 1)).map .string := by
  have h1 : ((marks j 0 q ++ xs.drop q).map Value.string).take q = (marks j 0 q).map .string := by rw [List.map_append, List.take_append_of_le_length (by simp), List.take_of_length_le (by simp)]
  have h2 : ((marks j 0 q ++ xs.drop q).map Value.string).drop (q + 1) = (xs.drop (q + 1)).map .string := by
    rw [List.map_append, List.drop_append, List.drop_of_length_le (by simp), List.nil_append, List.length_map, marks_len, ← List.map_drop, List.drop_drop]
    congr 2; omega
  unfold splice
  rw [List.length_singleton, h1, h2]
  simp [marks_succ]
def bkSVp : List SV := [.slice (.arr 0 (.c 0) 0) (.v 0) (.v 1), .slice (.v 0) (.v 2) (.v 3)] ++ List.replicate 18 (.slice .nil (.c 0) (.c 0))
theorem putTexts (p : Nat) (O1 O2 : Option Addr) (c1 n2 c2 : Nat) (ts : List TL) (hn : ts.length ≤ 1000) (w : World) (hb : w.heap[p]? = some (.cells (bkCells O1 ts.length c1 O2 n2 c2).toArray 38 (0, 0)))
    (h1 : Lies (tlArr O1 ts) w) (hl : ∀ t ∈ ts, (tlOwn t).P w) (hx : ∀ t ∈ ts, t.xs.length ≤ 1000000) (hp1 : ¬ (tlArr O1 ts).res.F p) (hp2 : ∀ t ∈ ts, ¬ (tlOwn t).F p)
    (hd : (ts.map tlOwn).Pairwise (fun r s => ∀ x, ¬ (r.F x ∧ s.F x))) (hr : ∀ t ∈ ts, ∀ x, ¬ ((tlOwn t).F x ∧ (tlArr O1 ts).res.F x)) :
    Calls Tryz.prog 42 #[.pointer (some ⟨p, 0, none⟩)] w fun e w' => e = .returned (.tuple #[]) ∧ (∀ t ∈ putTo ts.length ts, (tlOwn t).P w') ∧ Kept (fun x => ∃ t ∈ ts, (tlOwn t).F x) w w' := by
  refine rx_enterK (M := fun x => x = p ∨ ∃ t ∈ ts, (tlOwn t).F x) Tryz.func42 rfl (fun _ => p) { n := [ts.length, c1, n2, c2], a := [O2], ar := [tlArr O1 ts] } [.ptr (.box 0 0)]
    (by simp [SV.den]) (ro := [(tlArr O1 ts).res]) (own := (putTo 0 ts).map tlOwn) (bx := [⟨0, 38, bkSVp⟩]) (nx := 1) (ar := [(0, [.slice])])
    (memO _ rfl (by rw [hb]; simp [boxObj, bkCells, bkSVp]) (.inl rfl) (by
      rw [putTo_zero]
      intro r hr
      simp only [List.cons_append, List.nil_append, List.mem_cons, List.mem_map] at hr
      rcases hr with rfl | ⟨t, ht, rfl⟩
      · exact h1
      · exact ⟨hl t ht, ownS_lt (hl t ht)⟩) (by
      rw [putTo_zero]
      intro r hr
      simp only [List.cons_append, List.nil_append, List.mem_cons, List.mem_map] at hr
      rcases hr with rfl | ⟨t, ht, rfl⟩
      · exact hp1
      · exact hp2 t ht) (by rw [putTo_zero]; exact hd) (by
      rw [putTo_zero]
      intro o ho r hr'
      obtain ⟨t, ht, rfl⟩ := List.mem_map.1 ho
      simp at hr'; subst hr'
      exact hr t ht) (by
      rw [putTo_zero]
      intro o ho x hx
      obtain ⟨t, ht, rfl⟩ := List.mem_map.1 ho
      exact .inr ⟨t, ht, hx⟩) (by simp [tlEl]; exact .here (by simp))) 43 rfl ?_
  intro a hs0
  have hs0' := hs0.to { n := [ts.length, c1, n2, c2, p], a := [O2], ar := [tlArr O1 ts] } ⟨43, [(0, .ptr (.box 0 0)), (0, .ptr (.at 4 0))], [⟨0, 38, bkSVp⟩], 1, [(0, [.slice])]⟩ rfl rfl (by simp [enumS]) (by simp [bkSVp]) (by simp)
  refine run_sound mixed Γok [0, 2, 3, 4, 11, 27] 50 [] ⟨_, hs0'⟩ (by cbv) (by simp) ?_
  rintro a1 w1 ⟨k1, hk1⟩
  have hp1' := pin hk1 (d := 0) (i := 0) (j := 4) (by simp) (by simp)
  refine rx_loop (fun (j : Nat) a' w' => j ≤ ts.length ∧ Sat ⟨w, fun x => x = p ∨ ∃ t ∈ ts, (tlOwn t).F x⟩ { i := [(j : Int)], n := [ts.length, c1, n2, c2, p], a := [O2], ar := [tlArr O1 ts] } [(tlArr O1 ts).res] ((putTo j ts).map tlOwn)
      ⟨43, [(2, .int .i64 (.v 0)), (0, .ptr (.box 0 0)), (0, .ptr (.at 4 0))], [⟨0, 38, bkSVp⟩], 1, [(0, [.slice])]⟩ a' w') (fun j => ts.length - j) 0
      ⟨Nat.zero_le _, k1, hk1.to _ _ rfl rfl (by simp; simpa using hp1') (by simp [bkSVp]) (by simp)⟩ ?_
  rintro j a2 w2 ⟨hj, hs2⟩
  by_cases h : j < ts.length
  · obtain ⟨t, ht⟩ : ∃ t, ts[j]? = some t := ⟨_, List.getElem?_eq_getElem h⟩
    have htm : t ∈ ts := List.mem_of_getElem? ht
    have htx := hx t htm
    refine run_sound mixed Γok [0, 2, 3, 4, 11, 27] 50 [true] hs2 (by cbv) (by simp [h]) ?_
    rintro a3 w3 ⟨k3, hk3⟩
    have hp3 := pin hk3 (d := 0) (i := 0) (j := 4) (by simp) (by simp)
    simp at hp3
    refine ops_step hk3 rfl (wp_callA (args := [.int .i64 (j : Int), .int .i64 0, .int .i64 (t.xs.length : Int)]) hk3 rfl Tryz.func88 rfl rfl (by simp [ht, tlEl]; rfl) ?_)
    refine (markTexts j 0 t.xs.length (by omega) (by omega) (by omega) w3).mono ?_
    rintro e w4 ⟨B, c6, rfl, hP4, hF4, hp4⟩
    refine ⟨_, rfl, ?_⟩
    have hlies4 := ownStr_lies hP4
    have hk4 := (hk3.pureRo hp4 _ hlies4.1 (fun x hx => ⟨hF4 x (ownStr_F hP4 hx), hlies4.2 x hx⟩)).setX { i := [(j : Int)], n := [ts.length, c1, n2, c2, p, t.xs.length, c6], a := [O2, B], ar := [tlArr O1 ts] } (.slice (.v 1) (.v 5) (.v 6)) (d := 23) (v := .slice B t.xs.length c6) (by decide) (by simp) (by simp [hp3]) (by simp) (by simp)
    refine run_sound mixed Γok [0, 2, 3, 4, 11, 27] 50 [] ⟨k3, hk4⟩ (by cbv) (by simp) ?_
    rintro a5 w5 ⟨k5, hk5⟩
    have hp5 := pin hk5 (d := 0) (i := 0) (j := 4) (by simp) (by simp)
    simp at hp5
    have hperm : ((putTo j ts).map tlOwn).Perm (ownStr 9 t.A t.c (marks j 0 0 ++ t.xs.drop 0) :: ((putTo j ts).map tlOwn).eraseIdx j) := by have h := erase_perm (putTo_at ht); rw [show tlOwn t = ownStr 9 t.A t.c (marks j 0 0 ++ t.xs.drop 0) from by simp [tlOwn, marks]] at h; exact h
    refine rx_loop (fun (q : Nat) a' w' => q ≤ t.xs.length ∧ Sat ⟨w, fun x => x = p ∨ ∃ t ∈ ts, (tlOwn t).F x⟩ { i := [(j : Int), (q : Int)], n := [ts.length, c1, n2, c2, p, t.xs.length, c6], a := [O2, B], ar := [tlArr O1 ts, strArr B (marks j 0 t.xs.length)] } [(strArr B (marks j 0 t.xs.length)).res, (tlArr O1 ts).res]
        (ownStr 9 t.A t.c (marks j 0 q ++ t.xs.drop q) :: ((putTo j ts).map tlOwn).eraseIdx j)
      ⟨43, [(4, .int .i64 (.v 1)), (3, .slice (.arr 1 (.c 0) 0) (.v 5) (.v 6)), (2, .int .i64 (.v 0)), (0, .ptr (.box 0 0)), (0, .ptr (.at 4 0))], [⟨0, 38, bkSVp⟩], 1, [(1, [.str]), (0, [.slice])]⟩ a' w') (fun q => t.xs.length - q) 0
      ⟨Nat.zero_le _, k5, ((hk5.perm hperm).to { i := [(j : Int), 0], n := [ts.length, c1, n2, c2, p, t.xs.length, c6], a := [O2, B], ar := [tlArr O1 ts, strArr B (marks j 0 t.xs.length)] } ⟨43, [(4, .int .i64 (.v 1)), (3, .slice (.arr 1 (.c 0) 0) (.v 5) (.v 6)), (2, .int .i64 (.v 0)), (0, .ptr (.box 0 0)), (0, .ptr (.at 4 0))], [⟨0, 38, bkSVp⟩], 1, [(0, [.slice])]⟩ rfl rfl (by simp [hp5]) (by simp [bkSVp]) (by simp)).row 1 [.str] rfl (strArr_shape _ _) (.here (by simp))⟩ ?_
    rintro q a6 w6 ⟨hq, hs6⟩
    by_cases hql : q < t.xs.length
    · refine run_sound mixed Γok [0, 2, 3, 4, 11, 27] 50 [true] hs6 (by cbv) (by simp [hql]) ?_
      rintro a7 w7 ⟨k7, hk7⟩
      have hp7 := pin hk7 (d := 0) (i := 0) (j := 4) (by simp) (by simp)
      simp at hp7
      refine rx_drawM mixed hk7 [] [2] (tlOwn t).F (by simp [hp7]; exact hp2 t htm) (by
        simp
        exact ⟨.inl fun x hx ho => hk7.oro _ (List.mem_cons_self ..) _ (by simp) x ⟨ho, hx⟩, .inr (.inl fun x hx ho => hk7.oro _ (List.mem_cons_self ..) _ (by simp) x ⟨ho, hx⟩)⟩) [(0, true), (1, true), (2, true), (3, true), (4, true), (5, true), (6, true), (7, true), (8, true), (9, true), (10, true), (11, true), (12, false), (13, false)] (by cbv) ?_
      intro M hM hk8 hr8
      refine execRn_sound Γok (ds := []) (by cbv) (by simp [h, hql]) hk8 hr8 ?_
      intro k9 a9 w9 hk9 hr9
      have hp9 := pin hk9 (d := 0) (i := 0) (j := 4) (by simp) (by simp)
      simp at hp9
      obtain ⟨cur, hcur⟩ : ∃ cur, cur = marks j 0 q ++ t.xs.drop q := ⟨_, rfl⟩
      rw [← hcur] at hk9 hr9
      have hk10 := ((hk9.to { i := [(j : Int), (q : Int)], n := [ts.length, c1, n2, c2, p, t.xs.length, c6, t.c], a := [O2, B], s := [nameB j (0 + q)], ar := [tlArr O1 ts, strArr B (marks j 0 t.xs.length), strArr t.A cur] }
        ⟨43, [(41, .str (.v 0)), (37, .int .i64 (.v 1)), (36, .slice (.arr 2 (.c 0) 0) (.v 5) (.v 7)), (4, .int .i64 (.v 1)), (3, .slice (.arr 1 (.c 0) 0) (.v 5) (.v 6)), (2, .int .i64 (.v 0)), (0, .ptr (.box 0 0)), (0, .ptr (.at 4 0))], [⟨0, 38, bkSVp⟩], 1, [(1, [.str]), (0, [.slice])]⟩ rfl rfl (by simp [ht, tlEl, hp9, marks, hql]) (by simp [bkSVp]) (by simp)).row 2 [.str] rfl (strArr_shape _ _) ⟨_, List.mem_append_right _ (List.mem_cons_self ..), fun w h => ownStr_view w h⟩)
      have hcl : cur.length = t.xs.length := by rw [hcur]; simp; omega
      refine execRn_sound Γok (ds := []) (by cbv) (by simp [hcl, hql]) hk10 (hr9.grow (Nat.le_refl _) (Nat.le_refl _) (by simp [bkSVp]) (by simp) (fun r hr => hr)) ?_
      intro k11 a11 w11 hk11 hr11
      have hP11 := (hk11.res (ownStr 9 t.A t.c cur) (by simp)).1
      have htc : t.xs.length ≤ t.c := by have := hP11.2.1; omega
      obtain ⟨g, hg⟩ : ∃ g, t.A = some ⟨g, 0, none⟩ := by
        rcases hP11.2.2.2 with h0 | ⟨g, _, h0, _⟩
        · omega
        · exact ⟨g, h0⟩
      refine rn_step hk11 rfl rfl (wp_storeE (xs := cur.map .string) (g := g) (off := q) Γok hk11 rfl rfl rfl rfl rfl rfl rfl hg (by simp [hg, addr_add]) (by omega) hP11 (by simp [hcl]; omega) ?_)
      intro w12 hP12 hk12 hsz12
      refine ⟨rfl, hk12.fr (fun x _ hx => hM x (.inr hx)), ?_⟩
      have hp11 := pin hk11 (d := 0) (i := 0) (j := 4) (by simp) (by simp)
      simp at hp11
      have hP12' : (ownStr 9 t.A t.c (marks j 0 (q + 1) ++ t.xs.drop (q + 1))).P w12 := by
        have hs := splice_mark (j : Int) hql
        rw [← hcur] at hs
        have hlen : (marks (j : Int) 0 (q + 1) ++ t.xs.drop (q + 1)).length = cur.length := by simp [hcl]; omega
        unfold ownStr
        rw [hlen, ← hs]
        simpa using hP12
      have hk13 := (hk11.to { i := [(j : Int), (q : Int)], n := [ts.length, c1, n2, c2, p, t.xs.length, c6], a := [O2, B], ar := [tlArr O1 ts, strArr B (marks j 0 t.xs.length)] }
        ⟨43, [(4, .int .i64 (.v 1)), (3, .slice (.arr 1 (.c 0) 0) (.v 5) (.v 6)), (2, .int .i64 (.v 0)), (0, .ptr (.box 0 0)), (0, .ptr (.at 4 0))], [⟨0, 38, bkSVp⟩], 1, [(1, [.str]), (0, [.slice])]⟩ rfl rfl (by simp [hp11]) (by simp [bkSVp]) (by simp)).mutate hk12 (ownStr 9 t.A t.c (marks j 0 (q + 1) ++ t.xs.drop (q + 1))) hP12' (fun b hb => ⟨.inl hb, ownS_lt hP12' b hb⟩) (by simp; exact ⟨.here (by simp), .here (by simp)⟩)
      refine run_sound mixed Γok [0, 2, 3, 4, 11, 27] 50 [] ⟨k11, hk13⟩ (by cbv) (by simp) ?_
      rintro a14 w14 ⟨k14, hk14⟩
      have hp14 := pin hk14 (d := 0) (i := 0) (j := 4) (by simp) (by simp)
      simp at hp14
      exact ⟨q + 1, by omega, by omega, k14, hk14.to _ _ rfl rfl (by have := wrap_id (n := (q : Int) + 1) (by omega) (by omega); simp [this, hp14]) (by simp [bkSVp]) (by simp)⟩
    · obtain rfl : q = t.xs.length := by omega
      refine run_sound mixed Γok [0, 2, 3, 4, 11, 27] 50 [false] hs6 (by cbv) (by simp) ?_
      intro a7 w7 hs7
      refine exit_in rfl rfl ?_
      refine run_sound mixed Γok [0, 2, 3, 4, 11, 27] 50 [] hs7 (by cbv) (by simp) ?_
      rintro a8 w8 ⟨k8, hk8⟩
      have hp8 := pin hk8 (d := 0) (i := 0) (j := 4) (by simp) (by simp)
      simp at hp8
      have hperm2 : (ownStr 9 t.A t.c (marks j 0 t.xs.length ++ t.xs.drop t.xs.length) :: ((putTo j ts).map tlOwn).eraseIdx j).Perm ((putTo (j + 1) ts).map tlOwn) := by
        rw [putTo_succ ht]
        have h := set_perm (tlOwn { t with xs := marks j 0 t.xs.length }) (l := (putTo j ts).map tlOwn) (j := j) (by simp [putTo_len]; omega)
        simpa [tlOwn] using h
      exact ⟨j + 1, by omega, by omega, k8, ((hk8.perm hperm2).to { i := [((j + 1 : Nat) : Int)], n := [ts.length, c1, n2, c2, p], a := [O2], ar := [tlArr O1 ts] } ⟨43, [(2, .int .i64 (.v 0)), (0, .ptr (.box 0 0)), (0, .ptr (.at 4 0))], [⟨0, 38, bkSVp⟩], 1, [(0, [.slice])]⟩ rfl rfl
        (by have := wrap_id (n := (j : Int) + 1) (by omega) (by omega); simp [this, hp8]) (by simp [bkSVp]) (by simp)).sub (by simp) (List.Sublist.refl _) (by simp; exact .here (by simp))⟩
  · obtain rfl : j = ts.length := by omega
    refine run_sound mixed Γok [0, 2, 3, 4, 11, 27] 50 [false] hs2 (by cbv) (by simp) ?_
    intro a3 w3 hs3
    refine exit_in rfl rfl ?_
    refine run_sound mixed Γok [0, 2, 3, 4, 11, 27] 50 [] hs3 (by cbv) (by simp) ?_
    intro a4 w4 hs4
    refine end_ok Γok hs4 (by cbv) fun k hk => ⟨by simp, fun t ht => (hk.res (tlOwn t) (by simp; exact .inr ⟨t, ht, rfl⟩)).1, kept_box hk.kept ?_ (fun x h => h)⟩
    have hp4 := pin hk (d := 0) (i := 0) (j := 4) (by simp) (by simp)
    have hbx := hk.box _ (List.mem_cons_self ..)
    simp at hp4
    rw [hp4] at hbx
    rw [hbx, hb]
    simp [boxObj, bkCells]
end Go.Proofs.YthhcbfngjmiigaaGreatDoor
