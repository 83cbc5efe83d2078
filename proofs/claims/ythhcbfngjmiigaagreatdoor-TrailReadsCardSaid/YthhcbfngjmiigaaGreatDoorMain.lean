import Derived.Test.YthhcbfngjmiigaaGreatDoorBapart
import Derived.Test.YthhcbfngjmiigaaGreatDoorD
import Derived.Test.YthhcbfngjmiigaaGreatDoorY
set_option linter.all false
namespace Go.Proofs.YthhcbfngjmiigaaGreatDoor
open Go Rx
set_option maxRecDepth 100000
def bkObj (O1 : Option Addr) (n1 c1 : Nat) (O2 : Option Addr) (n2 c2 : Nat) : Obj := .cells (bkCells O1 n1 c1 O2 n2 c2).toArray 38 (0, 0)
def bkOwn1 (p : Nat) (O1 O2 : Option Addr) (c1 c2 : Nat) (ts us : List TL) : List Res := [boxR p (bkObj O1 ts.length c1 O2 ts.length c2), tlOut O1 c1 ts, tlOut O2 c2 us]
def bkOwn2 (ts us : List TL) : List Res := ts.map tlOwn ++ us.map tlOwn
theorem ownStr_pre {T c : Nat} {A : Option Addr} {xs ys : List ByteArray} {w : World} (h : (ownStr T A c (xs ++ ys)).P w) : (ownStr T A c xs).P w := by
  obtain ⟨h1, h2, h3, h4⟩ := h
  simp only [List.length_append] at h2
  refine ⟨by simp, by omega, h3, ?_⟩
  rcases h4 with h4 | ⟨g, cur, h5, h6, h7, h8⟩
  · exact .inl h4
  · refine .inr ⟨g, cur, h5, h6, h7, ?_⟩
    have e : cur.toList.take (xs.length * 1) = (cur.toList.take ((xs ++ ys).length * 1)).take (xs.length * 1) := by rw [List.take_take, Nat.min_eq_left (by simp)]
    rw [e, h8, List.map_append, List.take_left' (by simp)]
set_option maxHeartbeats 10000000 in
theorem law_guard (line b v verb : ByteArray) (A : Option Addr) (c : Nat) (xs : List ByteArray) (w : World) (hg : globR.P w) (ha : Lies (strArr A xs) w) (hc : xs.length ≤ c) (hs1 : line.size ≤ 1000000000000000) (hs2 : b.size ≤ 1000000000000000) (hs3 : v.size ≤ 1000000000000000) (hs4 : verb.size ≤ 1000000000000000) :
    Calls Tryz.prog 3 #[.string line, .agg #[.string b, .string v, .slice A xs.length c], .string verb] w fun e w' => e = .returned (.bool true) ∧ Pure0 w w' := by
  refine rx_enter (M := fun _ => False) Tryz.func3 rfl (fun _ => 0) { s := [line, b, v, verb], n := [xs.length, c], ar := [strArr A xs] } [.str (.v 0), .agg [.str (.v 1), .str (.v 2), .slice (.arr 0 (.c 0) 0) (.v 0) (.v 1)], .str (.v 3)]
    (by simp [SV.den]) (ro := [globR, (strArr A xs).res]) (own := []) (bx := []) (nx := 0) (ar := [(0, [.str])])
    (Mem.reads _ _ _ _ (by simpa using ⟨⟨hg, globR_lt hg⟩, ha⟩) (by simp)) 219 rfl ?_
  intro a hs0
  by_cases h1 : line.size ≤ 500
  case neg =>
    refine run_sound mixed Γok [0, 1, 2, 4, 6, 7, 8, 9, 10, 11, 12, 13, 14, 15, 16, 17, 18, 19, 20, 46, 52, 61, 70, 116, 188, 189, 202] 50 [true] hs0 (by cbv) (by simp; omega) ?_
    rintro a1 w1 ⟨k1, hk1⟩
    refine ops_step hk1 rfl (wp_callA (args := []) hk1 rfl Tryz.func4 rfl rfl (by simp) ?_)
    refine (law_alive w1 (hk1.res globR (by simp)).1).mono ?_
    rintro e w2 ⟨rfl, hp⟩
    refine ⟨_, rfl, ?_⟩
    have hk2 := (hk1.pure hp).setS (.bool (.c true)) (d := 47) (v := .bool true) (by decide) rfl
    refine run_sound mixed Γok [0, 1, 2, 4, 6, 7, 8, 9, 10, 11, 12, 13, 14, 15, 16, 17, 18, 19, 20, 46, 52, 61, 70, 116, 188, 189, 202] 50 [] ⟨k1, hk2⟩ (by cbv) (by simp) ?_
    intro a3 w3 hs3
    exact ret_at Γok (.base _) hs3 (by cbv) fun k hk => ⟨by simp, hk.kept⟩
  by_cases h2 : xs.length ≤ 20
  case neg =>
    refine run_sound mixed Γok [0, 1, 2, 4, 6, 7, 8, 9, 10, 11, 12, 13, 14, 15, 16, 17, 18, 19, 20, 46, 52, 61, 70, 116, 188, 189, 202] 50 [false, true] hs0 (by cbv) (by simp; omega) ?_
    rintro a1 w1 ⟨k1, hk1⟩
    refine ops_step hk1 rfl (wp_callA (args := []) hk1 rfl Tryz.func4 rfl rfl (by simp) ?_)
    refine (law_alive w1 (hk1.res globR (by simp)).1).mono ?_
    rintro e w2 ⟨rfl, hp⟩
    refine ⟨_, rfl, ?_⟩
    have hk2 := (hk1.pure hp).setS (.bool (.c true)) (d := 47) (v := .bool true) (by decide) rfl
    refine run_sound mixed Γok [0, 1, 2, 4, 6, 7, 8, 9, 10, 11, 12, 13, 14, 15, 16, 17, 18, 19, 20, 46, 52, 61, 70, 116, 188, 189, 202] 50 [] ⟨k1, hk2⟩ (by cbv) (by simp) ?_
    intro a3 w3 hs3
    exact ret_at Γok (.base _) hs3 (by cbv) fun k hk => ⟨by simp, hk.kept⟩
  have e1 := wrap_id (n := (b.size : Int) + v.size) (by omega) (by omega)
  have e2 := wrap_id (n := (b.size : Int) + v.size + verb.size) (by omega) (by omega)
  by_cases h3 : b.size + v.size + verb.size ≤ 100
  case neg =>
    refine run_sound mixed Γok [0, 1, 2, 4, 6, 7, 8, 9, 10, 11, 12, 13, 14, 15, 16, 17, 18, 19, 20, 46, 52, 61, 70, 116, 188, 189, 202] 50 [false, false, true] hs0 (by cbv) (by simp [e1, e2]; omega) ?_
    rintro a1 w1 ⟨k1, hk1⟩
    refine ops_step hk1 rfl (wp_callA (args := []) hk1 rfl Tryz.func4 rfl rfl (by simp) ?_)
    refine (law_alive w1 (hk1.res globR (by simp)).1).mono ?_
    rintro e w2 ⟨rfl, hp⟩
    refine ⟨_, rfl, ?_⟩
    have hk2 := (hk1.pure hp).setS (.bool (.c true)) (d := 47) (v := .bool true) (by decide) rfl
    refine run_sound mixed Γok [0, 1, 2, 4, 6, 7, 8, 9, 10, 11, 12, 13, 14, 15, 16, 17, 18, 19, 20, 46, 52, 61, 70, 116, 188, 189, 202] 50 [] ⟨k1, hk2⟩ (by cbv) (by simp) ?_
    intro a3 w3 hs3
    exact ret_at Γok (.base _) hs3 (by cbv) fun k hk => ⟨by simp, hk.kept⟩
  refine run_sound mixed Γok [0, 1, 2, 4, 6, 7, 8, 9, 10, 11, 12, 13, 14, 15, 16, 17, 18, 19, 20, 46, 52, 61, 70, 116, 188, 189, 202] 50 [false, false] hs0 (by cbv) (by simp [e1, e2]; omega) ?_
  rintro a1 w1 ⟨k1, hk1a⟩
  have hk1 := hk1a.decide (d := 43) (b := false) rfl (by simp [e1, e2]; omega)
  refine ops_step hk1 rfl (wp_callA (args := []) hk1 rfl Tryz.func4 rfl rfl (by simp) ?_)
  refine (law_alive w1 (hk1.res globR (by simp)).1).mono ?_
  rintro e w2 ⟨rfl, hp⟩
  refine ⟨_, rfl, ?_⟩
  have hk2 := (hk1.pure hp).setS (.bool (.c true)) (d := 44) (v := .bool true) (by decide) rfl
  refine run_sound mixed Γok [0, 1, 2, 4, 6, 7, 8, 9, 10, 11, 12, 13, 14, 15, 16, 17, 18, 19, 20, 46, 52, 61, 70, 116, 188, 189, 202] 50 [] ⟨k1, hk2⟩ (by cbv) (by simp) ?_
  rintro a3 w3 ⟨k3, hk3⟩
  refine rx_loop (fun (j : Nat) a' w' => j ≤ xs.length ∧ (∀ q, q < j → ∀ x, xs[q]? = some x → x.size ≤ 300) ∧ Sat ⟨w, fun _ => False⟩ { i := [(j : Int)], s := [line, b, v, verb], n := [xs.length, c], ar := [strArr A xs] } [globR, (strArr A xs).res] []
      ⟨219, [(7, .int .i64 (.v 0)), (6, .bool (.c false)), (4, .ptr (.box 0 0)), (0, .str (.v 0)), (2, .str (.v 3))], [⟨0, 24, [.str (.v 1), .str (.v 2), .slice (.arr 0 (.c 0) 0) (.v 0) (.v 1)]⟩], 1, [(0, [.str])]⟩ a' w') (fun j => xs.length - j) 0
      ⟨Nat.zero_le _, by omega, k3, hk3.to _ _ rfl rfl (by simp) (by simp) (by simp)⟩ ?_
  rintro j a4 w4 ⟨hj, hsz, hs4⟩
  by_cases hjl : j < xs.length
  · obtain ⟨x, hx⟩ : ∃ x, xs[j]? = some x := ⟨_, List.getElem?_eq_getElem hjl⟩
    have hxe : xs[j] = x := (List.getElem?_eq_some_iff.1 hx).2
    by_cases hx300 : x.size ≤ 300
    · refine run_sound mixed Γok [0, 1, 2, 4, 6, 7, 8, 9, 10, 11, 12, 13, 14, 15, 16, 17, 18, 19, 20, 46, 52, 61, 70, 116, 188, 189, 202] 50 [true, false] hs4 (by cbv) (by simp [hjl, hxe]; omega) ?_
      rintro a5 w5 ⟨k5, hk5⟩
      refine ⟨j + 1, by omega, by omega, ?_, k5, hk5.to _ _ rfl rfl (by have := wrap_id (n := (j : Int) + 1) (by omega) (by omega); simp [this]) (by simp) (by simp)⟩
      intro q hq y hy
      by_cases hqj : q < j
      · exact hsz q hqj y hy
      · obtain rfl : q = j := by omega
        rw [hx] at hy; cases hy; exact hx300
    · refine run_sound mixed Γok [0, 1, 2, 4, 6, 7, 8, 9, 10, 11, 12, 13, 14, 15, 16, 17, 18, 19, 20, 46, 52, 61, 70, 116, 188, 189, 202] 50 [true, true] hs4 (by cbv) (by simp [hjl, hxe]; omega) ?_
      intro a5 w5 hs5
      exact ret_at Γok (.loop (.base _) _ _) hs5 (by cbv) fun k hk => ⟨by simp, hk.kept⟩
  obtain rfl : j = xs.length := by omega
  have hxs : ∀ x ∈ xs, x.size ≤ 300 := by
    intro x hx
    obtain ⟨q, hq⟩ := List.getElem?_of_mem hx
    exact hsz q ((List.getElem?_eq_some_iff.1 hq).1) x hq
  refine run_sound mixed Γok [0, 1, 2, 4, 6, 7, 8, 9, 10, 11, 12, 13, 14, 15, 16, 17, 18, 19, 20, 46, 52, 61, 70, 116, 188, 189, 202] 50 [false] hs4 (by cbv) (by simp) ?_
  intro a5 w5 hs5
  refine exit_in rfl rfl ?_
  refine run_sound mixed Γok [0, 1, 2, 4, 6, 7, 8, 9, 10, 11, 12, 13, 14, 15, 16, 17, 18, 19, 20, 46, 52, 61, 70, 116, 188, 189, 202] 50 [] hs5 (by cbv) (by simp) ?_
  rintro a6 w6 ⟨k6, hk6⟩
  -- the Book is ours, the document's answer is made
  have hb6 := hk6.boxlt (b := ⟨1, 38, _⟩) (by simp; rfl)
  obtain ⟨p, hp6⟩ : ∃ p, k6 1 = p := ⟨_, rfl⟩
  have hk7 := hk6.unbox (b := ⟨1, 38, List.replicate 20 (.slice .nil (.c 0) (.c 0))⟩) (by simp) (boxR p (bkObj none 0 0 none 0 0)) (by intro h; simp only [hp6] at h; exact h) (by intro x hx; exact hx.trans hp6.symm)
  have hk8 : SatK ⟨w, fun _ => False⟩ k6 { s := [line, b, v, verb], n := [xs.length, c, p], ar := [strArr A xs] } [globR, (strArr A xs).res] (bkOwn1 p none none 0 0 [] [] ++ bkOwn2 [] [])
      ⟨219, [(65, .str (.v 0)), (8, .ptr (.at 2 0)), (6, .bool (.c false)), (4, .ptr (.box 0 0)), (0, .str (.v 0)), (2, .str (.v 3))], [⟨0, 24, [.str (.v 1), .str (.v 2), .slice (.arr 0 (.c 0) 0) (.v 0) (.v 1)]⟩], 2, [(0, [.str])]⟩ a6 w6 := by
    have h := ((hk7.addEmp 22 1 none).addEmp 22 1 none).perm (own' := bkOwn1 p none none 0 0 [] [] ++ bkOwn2 [] []) (by
      refine List.Perm.trans ?_ (List.perm_append_comm (l₁ := [tlOut none 0 [], tlOut none 0 []]) (l₂ := [boxR p (bkObj none 0 0 none 0 0)]))
      exact List.Perm.refl _)
    exact h.to _ _ rfl rfl (by simp [hp6]) (by simp) (by simp)
  refine ops_step hk8 rfl (wp_callA (args := [.string line]) hk8 rfl Tryz.func5 rfl rfl (by simp) ?_)
  refine (ref_Read line w6 (by omega)).mono ?_
  rintro e w9 ⟨rb, rv, rA, rc, ys, ok, rfl, hok, hcut, hly, hfy, hp9⟩
  refine ⟨_, rfl, ?_⟩
  have hk9 := (hk8.pureRo hp9 _ hly.1 (fun x hx => ⟨hfy x hx, hly.2 x hx⟩)).setX { s := [line, b, v, verb, rb, rv], n := [xs.length, c, p, ys.length, rc], a := [rA], b := [ok], ar := [strArr A xs] } (.tup [.agg [.str (.v 4), .str (.v 5), .slice (.v 0) (.v 3) (.v 4)], .bool (.v 0)]) (d := 66) (v := .tuple #[.agg #[.string rb, .string rv, .slice rA (List.length ys) rc], .bool ok]) (by decide) (by simp) (by simp) (by simp) (by simp)
  refine run_sound mixed Γok [0, 1, 2, 4, 6, 7, 8, 9, 10, 11, 12, 13, 14, 15, 16, 17, 18, 19, 20, 46, 52, 61, 70, 116, 188, 189, 202] 50 [] ⟨k6, hk9⟩ (by cbv) (by simp) ?_
  rintro a10 w10 ⟨k10, hk10⟩
  have hro : ok = true ↔ readOk line := by rw [read_ref]; exact hok
  refine rx_loop (fun (j : Nat) a' w' => j ≤ 2 ∧ ∃ O1 O2 c1 c2 ts us, ts.length = j ∧ us.length = j ∧ (∀ t ∈ ts, t.xs.length ≤ 1000) ∧ (∀ (i : Nat) (t u : TL), ts[i]? = some t → us[i]? = some u → t.xs = u.xs) ∧
      Sat ⟨w, fun _ => False⟩ { i := [(j : Int)], s := [line, b, v, verb, rb, rv], n := [xs.length, c, p, ys.length, rc], a := [rA], b := [ok], ar := [strArr A xs] } [(strArr rA ys).res, globR, (strArr A xs).res] (bkOwn1 p O1 O2 c1 c2 ts us ++ bkOwn2 ts us)
      ⟨219, [(11, .int .i64 (.v 0)), (10, .bool (.v 0)), (9, .ptr (.box 2 0)), (8, .ptr (.at 2 0)), (6, .bool (.c false)), (4, .ptr (.box 0 0)), (0, .str (.v 0)), (2, .str (.v 3))],
        [⟨2, 39, [.str (.v 4), .str (.v 5), .slice (.v 0) (.v 3) (.v 4)]⟩, ⟨0, 24, [.str (.v 1), .str (.v 2), .slice (.arr 0 (.c 0) 0) (.v 0) (.v 1)]⟩], 3, [(0, [.str])]⟩ a' w') (fun j => 2 - j) 0
      ⟨Nat.zero_le _, none, none, 0, 0, [], [], rfl, rfl, by simp, by simp, k10, hk10.to _ _ rfl rfl (by simp) (by simp) (by simp)⟩ ?_
  rintro j a11 w11 ⟨hj, O1, O2, c1, c2, ts, us, htl, hul, htx, hsame, hs11⟩
  by_cases hj2 : j < 2
  · refine run_sound mixed Γok [0, 1, 2, 4, 6, 7, 8, 9, 10, 11, 12, 13, 14, 15, 16, 17, 18, 19, 20, 46, 52, 61, 70, 116, 188, 189, 202] 50 [true] hs11 (by cbv) (by simp; omega) ?_
    rintro a12 w12 ⟨k12, hk12⟩
    refine ops_step hk12 rfl (wp_callA (args := [.string line]) hk12 rfl Tryz.func6 rfl rfl (by simp) ?_)
    refine (trail_Read line w12 (hk12.res globR (by simp)).1 (by omega)).mono ?_
    rintro e w13 ⟨b', v', A', c', zs, err, rfl, hrel, hP13, hF13, hp13⟩
    refine ⟨_, rfl, ?_⟩
    have hk13 := (hk12.pureOwn hp13 (tlOwn ⟨A', c', zs⟩) hP13 (fun x hx => ⟨hF13 x hx, ownS_lt hP13 x hx⟩)).setX { i := [(j : Int), err], s := [line, b, v, verb, rb, rv, b', v'], n := [xs.length, c, p, ys.length, rc, zs.length, c'], a := [rA, A'], b := [ok], ar := [strArr A xs] } (.tup [.agg [.str (.v 6), .str (.v 7), .slice (.v 1) (.v 5) (.v 6)], .int .i64 (.v 1)]) (d := 75) (v := .tuple #[.agg #[.string b', .string v', .slice A' (List.length zs) c'], .int .i64 err]) (by decide) (by simp) (by simp) (by simp) (by simp)
    refine run_sound mixed Γok [0, 1, 2, 4, 6, 7, 8, 9, 10, 11, 12, 13, 14, 15, 16, 17, 18, 19, 20, 46, 52, 61, 70, 116, 188, 189, 202] 50 [] ⟨k12, hk13⟩ (by cbv) (by simp) ?_
    rintro a14 w14 ⟨k14, hk14⟩
    obtain ⟨t, ht⟩ : ∃ t : TL, t = ⟨A', c', zs⟩ := ⟨_, rfl⟩
    rw [← ht] at hk14
    have hk15 := hk14.perm (own' := bkOwn1 p O1 O2 c1 c2 ts us ++ (tlOwn t :: bkOwn2 ts us)) List.perm_middle.symm
    have hd := hk15.odis
    simp only [bkOwn1, List.cons_append, List.nil_append, List.pairwise_cons, List.mem_cons] at hd
    obtain ⟨d1, d2, d3, d4, _⟩ := hd
    have PT := (hk15.res (tlOwn t) (by simp)).1
    have hlt : Lies (strArr A' zs) w14 := by have h := tlOwn_lies PT; rw [ht] at h; exact h
    have hFF : ∀ x, (strArr A' zs).res.F x → (tlOwn t).F x := fun x h => tlOwn_FF PT (by rw [ht]; exact h)
    have hzs : zs.length ≤ 1000 := by
      rcases hrel with ⟨_, _, h⟩ | ⟨_, _, _, _, h⟩
      · have := parts_len line; rw [h] at this; simp at this; omega
      · rw [h]; simp
    refine ops_step hk15 rfl (wp_callA (args := [.pointer (some ⟨p, 0, none⟩), .slice A' zs.length c']) hk15 rfl Tryz.func7 rfl rfl (by simp) ?_)
    refine (Texts p O1 O2 A' c1 c2 c' ts us zs (by omega) (by omega) (by omega) w14 (hk15.res (boxR p (bkObj O1 ts.length c1 O2 ts.length c2)) (by simp [bkOwn1])).1 (hk15.res (tlOut O1 c1 ts) (by simp [bkOwn1])).1 (hk15.res (tlOut O2 c2 us) (by simp [bkOwn1])).1 hlt
      (fun h => d1 _ (.inl rfl) p ⟨rfl, h⟩) (fun h => d1 _ (.inr (.inl rfl)) p ⟨rfl, h⟩) (fun h => d1 _ (.inr (.inr (.inl rfl))) p ⟨rfl, hFF p h⟩) (d2 _ (.inl rfl)) (fun x h => d2 _ (.inr (.inl rfl)) x ⟨h.1, hFF x h.2⟩) (fun x h => d3 _ (.inl rfl) x ⟨h.1, hFF x h.2⟩)).mono ?_
    rintro e w16 ⟨rfl, O1', c1', O2', c2', B, d, hb16, P1', P2', PB, hfoot, hdis, hk16⟩
    refine ⟨_, rfl, ?_⟩
    rw [← ht] at P1' hfoot hdis
    obtain ⟨u, hu⟩ : ∃ u : TL, u = ⟨B, d, zs⟩ := ⟨_, rfl⟩
    rw [← hu] at P2' PB hfoot hdis
    have hpw : p < w14.heap.size := (hk15.res (boxR p (bkObj O1 ts.length c1 O2 ts.length c2)) (by simp [bkOwn1])).2 p rfl
    have hkm := hk15.mutPart hk16 (by
      rintro x _ (h | h | h)
      · exact ⟨boxR p (bkObj O1 ts.length c1 O2 ts.length c2), by simp [bkOwn1], h⟩
      · exact ⟨tlOut O1 c1 ts, by simp [bkOwn1], h⟩
      · exact ⟨tlOut O2 c2 us, by simp [bkOwn1], h⟩) (boxR p (bkObj O1' (ts.length + 1) c1' O2' (ts.length + 1) c2') :: [tlOut O1' c1' (ts ++ [t]), tlOut O2' c2' (us ++ [u]), tlOwn u]) (by
      intro o ho
      simp only [List.mem_cons, List.not_mem_nil, or_false] at ho
      rcases ho with rfl | rfl | rfl | rfl
      · exact hb16
      · exact P1'
      · exact P2'
      · exact PB) (by
      intro o ho
      simp only [List.mem_cons, List.not_mem_nil, or_false] at ho
      rcases ho with rfl | rfl | rfl | rfl
      · rintro x rfl; exact Nat.lt_of_lt_of_le hpw hk16.size
      · exact ownS_lt P1'
      · exact ownS_lt P2'
      · exact ownS_lt PB) (by
      intro o ho x hx
      simp only [List.mem_cons, List.not_mem_nil, or_false] at ho
      have key : o ∈ [tlOut O1' c1' (ts ++ [t]), tlOut O2' c2' (us ++ [u]), tlOwn u] → (∃ q ∈ bkOwn1 p O1 O2 c1 c2 ts us, q.F x) ∨ w14.heap.size ≤ x := fun ho => by
        rcases (hfoot o ho).1 x hx with h | h | h
        · exact .inr h
        · exact .inl ⟨tlOut O1 c1 ts, by simp [bkOwn1], h⟩
        · exact .inl ⟨tlOut O2 c2 us, by simp [bkOwn1], h⟩
      rcases ho with rfl | ho
      · exact .inl ⟨boxR p (bkObj O1 ts.length c1 O2 ts.length c2), by simp [bkOwn1], hx⟩
      · exact key (by simpa using ho)) (by
      rw [List.pairwise_cons]
      refine ⟨?_, hdis⟩
      rintro r hr x ⟨rfl, h⟩
      exact (hfoot r hr).2 h) (by simp; exact .here (by simp))
    have hperm : (boxR p (bkObj O1' (ts.length + 1) c1' O2' (ts.length + 1) c2') :: [tlOut O1' c1' (ts ++ [t]), tlOut O2' c2' (us ++ [u]), tlOwn u] ++ (tlOwn t :: bkOwn2 ts us)).Perm (bkOwn1 p O1' O2' c1' c2' (ts ++ [t]) (us ++ [u]) ++ bkOwn2 (ts ++ [t]) (us ++ [u])) := by
      simp only [bkOwn1, bkOwn2, List.cons_append, List.nil_append, List.map_append, List.map_cons, List.map_nil, List.length_append, List.length_singleton, List.append_assoc]
      refine List.Perm.cons _ (List.Perm.cons _ (List.Perm.cons _ ?_))
      refine (List.Perm.swap ..).trans (List.Perm.trans (List.Perm.cons _ ?_) List.perm_middle.symm)
      rw [← List.append_assoc]
      exact (List.perm_append_singleton ..).symm
    have hk17 := (hkm.perm hperm).setS (.tup []) (d := 81) (v := .tuple #[]) (by decide) (by simp)
    have fin : ∀ {a w' k}, SatK ⟨w, fun _ => False⟩ k { i := [(j : Int), err], s := [line, b, v, verb, rb, rv, b', v'], n := [xs.length, c, p, ys.length, rc, zs.length, c'], a := [rA, A'], b := [ok], ar := [strArr A xs] } [(strArr rA ys).res, globR, (strArr A xs).res] (bkOwn1 p O1' O2' c1' c2' (ts ++ [t]) (us ++ [u]) ++ bkOwn2 (ts ++ [t]) (us ++ [u]))
        ⟨219, [(11, .int .i64 (.op .add .i64 (.v 0) (.c 1))), (10, .bool (.v 0)), (9, .ptr (.box 2 0)), (8, .ptr (.at 2 0)), (6, .bool (.c false)), (4, .ptr (.box 0 0)), (0, .str (.v 0)), (2, .str (.v 3))],
        [⟨2, 39, [.str (.v 4), .str (.v 5), .slice (.v 0) (.v 3) (.v 4)]⟩, ⟨0, 24, [.str (.v 1), .str (.v 2), .slice (.arr 0 (.c 0) 0) (.v 0) (.v 1)]⟩], 3, [(0, [.str])]⟩ a w' →
        ∃ y, 2 - y < 2 - j ∧ y ≤ 2 ∧ ∃ O1 O2 c1 c2 ts us, ts.length = y ∧ us.length = y ∧ (∀ t ∈ ts, t.xs.length ≤ 1000) ∧ (∀ (i : Nat) (t u : TL), ts[i]? = some t → us[i]? = some u → t.xs = u.xs) ∧
      Sat ⟨w, fun _ => False⟩ { i := [(y : Int)], s := [line, b, v, verb, rb, rv], n := [xs.length, c, p, ys.length, rc], a := [rA], b := [ok], ar := [strArr A xs] } [(strArr rA ys).res, globR, (strArr A xs).res] (bkOwn1 p O1 O2 c1 c2 ts us ++ bkOwn2 ts us)
      ⟨219, [(11, .int .i64 (.v 0)), (10, .bool (.v 0)), (9, .ptr (.box 2 0)), (8, .ptr (.at 2 0)), (6, .bool (.c false)), (4, .ptr (.box 0 0)), (0, .str (.v 0)), (2, .str (.v 3))],
        [⟨2, 39, [.str (.v 4), .str (.v 5), .slice (.v 0) (.v 3) (.v 4)]⟩, ⟨0, 24, [.str (.v 1), .str (.v 2), .slice (.arr 0 (.c 0) 0) (.v 0) (.v 1)]⟩], 3, [(0, [.str])]⟩ a w' := by
      intro a w' k hk
      refine ⟨j + 1, by omega, by omega, O1', O2', c1', c2', ts ++ [t], us ++ [u], by simp [htl], by simp [hul], ?_, ?_, k, hk.to _ _ rfl rfl (by have := wrap_id (n := (j : Int) + 1) (by omega) (by omega); simp [this]) (by simp) (by simp)⟩
      · intro t' ht'
        rcases List.mem_append.1 ht' with h | h
        · exact htx t' h
        · simp at h; rw [h, ht]; exact hzs
      · intro i t' u' h1 h2
        by_cases hi : i < ts.length
        · rw [List.getElem?_append_left hi] at h1
          rw [List.getElem?_append_left (by omega)] at h2
          exact hsame i t' u' h1 h2
        · rw [List.getElem?_append_right (by omega)] at h1
          rw [List.getElem?_append_right (by omega)] at h2
          have hi' : i = ts.length := by have := (List.getElem?_eq_some_iff.1 h1).1; simp at this; omega
          subst hi'
          simp at h1
          rw [show ts.length - us.length = 0 by omega] at h2
          simp at h2
          rw [← h1, ← h2, ht, hu]
    by_cases hok' : ok = true
    · obtain ⟨herr, hps⟩ : err = 0 ∧ parts line = b' :: v' :: zs := by
        rcases hrel with ⟨_, h1, h2⟩ | ⟨h, _⟩
        · exact ⟨h1, h2⟩
        · exact absurd (hro.1 hok') h
      have hcc := hcut hok'
      rw [cuts_parts, hps] at hcc
      simp only [List.cons.injEq] at hcc
      obtain ⟨hb', hv', hzy⟩ := hcc
      refine run_sound mixed Γok [0, 1, 2, 4, 6, 7, 8, 9, 10, 11, 12, 13, 14, 15, 16, 17, 18, 19, 20, 46, 52, 61, 70, 116, 188, 189, 202] 50 [false, true] ⟨k14, hk17⟩ (by cbv) (by simp [herr, hok']) ?_
      rintro a18 w18 ⟨k18, hk18⟩
      have hl18 : Lies (strArr A' zs) w18 := by
        have h := tlOwn_lies (hk18.res (tlOwn t) (by simp [bkOwn2])).1
        rw [ht] at h; exact h
      refine ops_step hk18 rfl (wp_callA (args := [.agg #[.string b', .string v', .slice A' zs.length c'], .agg #[.string rb, .string rv, .slice rA ys.length rc]]) hk18 rfl Tryz.func8 rfl rfl (by simp) ?_)
      refine (law_same b' v' rb rv A' rA c' rc zs ys (by omega) w18 hl18 (hk18.res (strArr rA ys).res (by simp))).mono ?_
      rintro e w19 ⟨q, rfl, hq, hp19⟩
      refine ⟨_, rfl, ?_⟩
      obtain rfl : q = true := hq.2 ⟨hb', hv', hzy⟩
      have hk19 := (hk18.pure hp19).setS (.bool (.c true)) (d := 91) (v := .bool true) (by decide) rfl
      refine run_sound mixed Γok [0, 1, 2, 4, 6, 7, 8, 9, 10, 11, 12, 13, 14, 15, 16, 17, 18, 19, 20, 46, 52, 61, 70, 116, 188, 189, 202] 50 [false] ⟨k18, hk19⟩ (by cbv) (by simp [hok']) ?_
      rintro a20 w20 ⟨k20, hk20⟩
      exact fin (hk20.to _ _ rfl rfl (by simp) (by simp) (by simp))
    · simp only [Bool.not_eq_true] at hok'
      obtain ⟨herr, hb', hv', hzy⟩ : err = 15 ∧ b' = ByteArray.empty ∧ v' = ByteArray.empty ∧ zs = [] := by
        rcases hrel with ⟨h, _⟩ | ⟨_, h⟩
        · exact absurd (hro.2 h) (by simp [hok'])
        · exact h
      refine run_sound mixed Γok [0, 1, 2, 4, 6, 7, 8, 9, 10, 11, 12, 13, 14, 15, 16, 17, 18, 19, 20, 46, 52, 61, 70, 116, 188, 189, 202] 50 [false, false, true, false, false, false] ⟨k14, hk17⟩ (by cbv) (by simp [herr, hok', hb', hv', hzy]) ?_
      rintro a18 w18 ⟨k18, hk18⟩
      exact fin (hk18.to _ _ rfl rfl (by simp) (by simp) (by simp))
  obtain rfl : j = 2 := by omega
  refine run_sound mixed Γok [0, 1, 2, 4, 6, 7, 8, 9, 10, 11, 12, 13, 14, 15, 16, 17, 18, 19, 20, 46, 52, 61, 70, 116, 188, 189, 202] 50 [false] hs11 (by cbv) (by simp) ?_
  intro a12 w12 hs12
  refine exit_in rfl rfl ?_
  refine run_sound mixed Γok [0, 1, 2, 4, 6, 7, 8, 9, 10, 11, 12, 13, 14, 15, 16, 17, 18, 19, 20, 46, 52, 61, 70, 116, 188, 189, 202] 50 [] hs12 (by cbv) (by simp) ?_
  rintro a13 w13 ⟨k13, hk13⟩
  have hBapart : 0 < ts.length := by omega
  obtain ⟨bk, hbk⟩ : ∃ bk, bk = bkOwn1 p O1 O2 c1 c2 ts us ++ bkOwn2 ts us := ⟨_, rfl⟩
  rw [← hbk] at hk13
  have hk14 := (hk13.addEmp 9 1 none).to { s := [line, b, v, verb, rb, rv], n := [xs.length, c, p, ys.length, rc], a := [rA], b := [ok], ar := [strArr A xs] } ⟨219, [(8, .ptr (.at 2 0)), (6, .bool (.c false)), (4, .ptr (.box 0 0)), (0, .str (.v 0)), (2, .str (.v 3))], [⟨2, 39, [.str (.v 4), .str (.v 5), .slice (.v 0) (.v 3) (.v 4)]⟩, ⟨0, 24, [.str (.v 1), .str (.v 2), .slice (.arr 0 (.c 0) 0) (.v 0) (.v 1)]⟩], 3, [(0, [.str])]⟩ rfl rfl (by simp) (by simp) (by simp)
  refine rx_draw2I (fun a' w' => ∃ k m cm, xs.length + 1 ≤ cm ∧ SatK ⟨w, fun _ => False⟩ k { s := [line, b, v, verb, rb, rv], n := [xs.length, c, p, ys.length, rc, cm], a := [rA, m], b := [ok], ar := [strArr A xs] } [(strArr rA ys).res, globR, (strArr A xs).res] (ownStr 9 m cm (xs ++ [⟨#[109, 97, 114, 107]⟩]) :: bk)
      ⟨219, [(14, .slice (.v 1) (.v 0) (.v 5)), (8, .ptr (.at 2 0)), (6, .bool (.c false)), (4, .ptr (.box 0 0)), (0, .str (.v 0)), (2, .str (.v 3))], [⟨2, 39, [.str (.v 4), .str (.v 5), .slice (.v 0) (.v 3) (.v 4)]⟩, ⟨0, 24, [.str (.v 1), .str (.v 2), .slice (.arr 0 (.c 0) 0) (.v 0) (.v 1)]⟩], 3, [(0, [.str])]⟩ a' w')
    mixed hk14 [] [] 2 3
    [(0, true), (1, true), (5, true), (6, true), (7, true), (3, false), (2, false), (4, false), (8, true), (9, true)]
    [(0, true), (1, true), (5, true), (6, true), (7, true), (2, false), (3, false), (4, false), (8, true), (9, true)] (by cbv) (by cbv) (by cbv) (by cbv) ?_ ?_ ?_
  · rintro a15 w15 ⟨k15, m, cm, hcm, hk15⟩
    refine run_sound mixed Γok [0, 1, 2, 4, 6, 7, 8, 9, 10, 11, 12, 13, 14, 15, 16, 17, 18, 19, 20, 46, 52, 61, 70, 116, 188, 189, 202] 50 [] ⟨k15, hk15⟩ (by cbv) (by simp) ?_
    rintro a16 w16 ⟨k16, hk16⟩
    have hm16 : Lies (strArr m xs) w16 := ownStr_lies (ownStr_pre (hk16.res (ownStr 9 m cm (xs ++ [⟨#[109, 97, 114, 107]⟩])) (by simp)).1)
    refine ops_step hk16 rfl (wp_callA (args := [.agg #[.string b, .string v, .slice m xs.length cm]]) hk16 rfl Tryz.func9 rfl rfl (by simp) ?_)
    refine (trail_Line b v m cm xs w16 hm16 (by omega) (by omega) (fun x hx => by have := hxs x hx; omega) (by omega) (by omega)).mono ?_
    rintro e w17 ⟨s, err, rfl, hor, hp17⟩
    refine ⟨_, rfl, ?_⟩
    have hk17 := (hk16.pure hp17).setX { i := [err], s := [line, b, v, verb, rb, rv, s], n := [xs.length, c, p, ys.length, rc, cm], a := [rA, m], b := [ok], ar := [strArr A xs] } (.tup [.str (.v 6), .int .i64 (.v 0)]) (d := 133) (v := .tuple #[.string s, .int .i64 err]) (by decide) (by simp) (by simp) (by simp) (by simp)
    refine run_sound mixed Γok [0, 1, 2, 4, 6, 7, 8, 9, 10, 11, 12, 13, 14, 15, 16, 17, 18, 19, 20, 46, 52, 61, 70, 116, 188, 189, 202] 50 [] ⟨k16, hk17⟩ (by cbv) (by simp) ?_
    rintro a18 w18 ⟨k18, hk18⟩
    refine ops_step hk18 rfl (wp_callA (args := [.agg #[.string b, .string v, .slice A xs.length c]]) hk18 rfl Tryz.func10 rfl rfl (by simp) ?_)
    refine (ref_Right b v A c xs w18 (hk18.res (strArr A xs).res (by simp)) (by omega) (fun x hx => by have := hxs x hx; omega) (by omega) (by omega)).mono ?_
    rintro e w19 ⟨rt, rfl, hrt, hp19⟩
    refine ⟨_, rfl, ?_⟩
    rw [← line_right] at hrt
    have hk19 := (hk18.pure hp19).setS (.bool (.c rt)) (d := 144) (v := .bool rt) (by decide) rfl
    have hk20 := (hk19.to { i := [err], s := [line, b, v, verb, s], n := [xs.length, c, p, cm], a := [], ar := [strArr A xs, strArr m (xs ++ [⟨#[109, 97, 114, 107]⟩])] } ⟨219, [(144, .bool (.c rt)), (17, .ptr (.box 3 0)), (16, .int .i64 (.v 0)), (15, .str (.v 4)), (14, .slice (.arr 1 (.c 0) 0) (.v 0) (.v 3)), (8, .ptr (.at 2 0)), (6, .bool (.c false)), (4, .ptr (.box 0 0)), (2, .str (.v 3))], [⟨3, 39, [.str (.v 1), .str (.v 2), .slice (.arr 0 (.c 0) 0) (.v 0) (.v 1)]⟩, ⟨0, 24, [.str (.v 1), .str (.v 2), .slice (.arr 0 (.c 0) 0) (.v 0) (.v 1)]⟩], 4, [(0, [.str])]⟩ rfl rfl (by simp) (by simp) (by simp)).row 1 [.str] rfl (strArr_shape _ _) ⟨_, List.mem_append_right _ (List.mem_cons_self ..), fun w h => ownStr_view w h⟩
    have hml : (xs ++ [(⟨#[109, 97, 114, 107]⟩ : ByteArray)]).length = xs.length + 1 := by simp
    have ew := wrap_id (n := (xs.length : Int) + 1) (by omega) (by omega)
    apply rx_fork (P := Tryz.prog) (fun a' w' => ∃ k, SatK ⟨w, fun _ => False⟩ k { s := [line, b, v, verb], n := [xs.length, c, p] } [globR, (strArr A xs).res] bk ⟨219, [(203, .str (.v 3)), (8, .ptr (.at 2 0)), (2, .str (.v 3)), (6, .bool (.c false))], [], 5, []⟩ a' w')
    · intro hI
      have fin : ∀ {a w' k}, SatK ⟨w, fun _ => False⟩ k { i := [err], s := [line, b, v, verb, s], n := [xs.length, c, p, cm], a := [], ar := [strArr A xs, strArr m (xs ++ [⟨#[109, 97, 114, 107]⟩])] } [(strArr rA ys).res, globR, (strArr A xs).res] (ownStr 9 m cm (xs ++ [⟨#[109, 97, 114, 107]⟩]) :: bk) ⟨219, [(203, .str (.v 3)), (8, .ptr (.at 2 0)), (2, .str (.v 3)), (6, .bool (.c false))], [], 5, []⟩ a w' → ∃ k, SatK ⟨w, fun _ => False⟩ k { s := [line, b, v, verb], n := [xs.length, c, p] } [globR, (strArr A xs).res] bk ⟨219, [(203, .str (.v 3)), (8, .ptr (.at 2 0)), (2, .str (.v 3)), (6, .bool (.c false))], [], 5, []⟩ a w' :=
        fun {a w' k} hk => ⟨k, (hk.to { s := [line, b, v, verb], n := [xs.length, c, p] } ⟨219, [(203, .str (.v 3)), (8, .ptr (.at 2 0)), (2, .str (.v 3)), (6, .bool (.c false))], [], 5, []⟩ rfl rfl (by simp) (by simp) (by simp)).sub (by simp) (List.sublist_cons_self ..) (by simp)⟩
      by_cases hr : rt = true
      · obtain ⟨hs, herr⟩ : s = joined b v xs ∧ err = 0 := by
          rcases hor with ⟨_, h1, h2⟩ | ⟨h, _⟩
          · exact ⟨h1, h2⟩
          · exact absurd (hrt.1 hr) h
        rw [hr] at hk20 ⊢
        refine run_sound mixed Γok [0, 1, 2, 4, 6, 7, 8, 9, 10, 11, 12, 13, 14, 15, 16, 17, 18, 19, 20, 46, 52, 61, 70, 116, 188, 189, 202] 50 [false] ⟨k18, hk20⟩ (by cbv) (by simp [herr]) ?_
        rintro a21 w21 ⟨k21, hk21⟩
        refine ops_step hk21 rfl (wp_callA (args := [.agg #[.string b, .string v, .slice A xs.length c]]) hk21 rfl Tryz.func11 rfl rfl (by simp) ?_)
        refine (ref_Line b v A c xs w21 (hk21.res (strArr A xs).res (by simp)) (by omega) (fun x hx => by have := hxs x hx; omega) (by omega) (by omega)).mono ?_
        rintro e w22 ⟨rfl, hp22⟩
        refine ⟨_, rfl, ?_⟩
        have hk22 := (hk21.pure hp22).setS (.str (.v 4)) (d := 154) (v := .string (joined b v xs)) (by decide) (by simp [hs])
        refine run_sound mixed Γok [0, 1, 2, 4, 6, 7, 8, 9, 10, 11, 12, 13, 14, 15, 16, 17, 18, 19, 20, 46, 52, 61, 70, 116, 188, 189, 202] 50 [false, false] ⟨k21, hk22⟩ (by cbv) (by simp [ew, hml]; omega) ?_
        rintro a23 w23 ⟨k23, hk23⟩
        have hl23 : Lies (strArr m (xs ++ [⟨#[109, 97, 114, 107]⟩])) w23 := ownStr_lies (hk23.res (ownStr 9 m cm (xs ++ [⟨#[109, 97, 114, 107]⟩])) (by simp)).1
        have hm23 : Lies (strArr m xs) w23 := ownStr_lies (ownStr_pre (hk23.res (ownStr 9 m cm (xs ++ [⟨#[109, 97, 114, 107]⟩])) (by simp)).1)
        refine ops_step hk23 rfl (wp_callA (args := [.slice m xs.length cm, .slice A xs.length c]) hk23 rfl Tryz.func12 rfl rfl (by simp) ?_)
        refine (SameTexts m A cm c xs xs (by omega) w23 hm23 (hk23.res (strArr A xs).res (by simp))).mono ?_
        rintro e w24 ⟨rfl, hp24⟩
        refine ⟨_, rfl, ?_⟩
        have hk24 := (hk23.pure hp24).setS (.bool (.c true)) (d := 186) (v := .bool (decide (xs = xs))) (by decide) (by simp)
        refine run_sound mixed Γok [0, 1, 2, 4, 6, 7, 8, 9, 10, 11, 12, 13, 14, 15, 16, 17, 18, 19, 20, 46, 52, 61, 70, 116, 188, 189, 202] 50 [] ⟨k23, hk24⟩ (by cbv) (by simp) ?_
        rintro a25 w25 ⟨k25, hk25⟩
        refine ops_step hk25 rfl (wp_callA (args := [.string s]) hk25 rfl Tryz.func6 rfl rfl (by simp) ?_)
        have hline := hrt.1 hr
        have hrd := read_line ((line_right b v xs).1 hline)
        rw [← hs] at hrd
        refine (trail_Read s w25 (hk25.res globR (by simp)).1 (by have := hrd.1.1; omega)).mono ?_
        rintro e w26 ⟨b2, v2, A2, cc2, zs, err2, rfl, hrel2, hP26, hF26, hp26⟩
        refine ⟨_, rfl, ?_⟩
        obtain ⟨herr2, hps2⟩ : err2 = 0 ∧ parts s = b2 :: v2 :: zs := by
          rcases hrel2 with ⟨_, h1, h2⟩ | ⟨h, _⟩
          · exact ⟨h1, h2⟩
          · exact absurd hrd.1 h
        rw [hrd.2] at hps2
        simp only [List.cons.injEq] at hps2
        obtain ⟨e1', e2', e3'⟩ := hps2
        have hlz := ownStr_lies hP26
        have hk26 := (hk25.pureRo hp26 _ hlz.1 (fun x hx => ⟨hF26 x (ownStr_F hP26 hx), hlz.2 x hx⟩)).setX { i := [err, err2], s := [line, b, v, verb, s, b2, v2], n := [xs.length, c, p, cm, zs.length, cc2], a := [A2], ar := [strArr A xs, strArr m (xs ++ [⟨#[109, 97, 114, 107]⟩])] } (.tup [.agg [.str (.v 5), .str (.v 6), .slice (.v 0) (.v 4) (.v 5)], .int .i64 (.v 1)]) (d := 192) (v := .tuple #[.agg #[.string b2, .string v2, .slice A2 (List.length zs) cc2], .int .i64 err2]) (by decide) (by simp) (by simp) (by simp) (by simp)
        refine run_sound mixed Γok [0, 1, 2, 4, 6, 7, 8, 9, 10, 11, 12, 13, 14, 15, 16, 17, 18, 19, 20, 46, 52, 61, 70, 116, 188, 189, 202] 50 [false] ⟨k25, hk26⟩ (by cbv) (by simp [herr2]) ?_
        rintro a27 w27 ⟨k27, hk27⟩
        refine ops_step hk27 rfl (wp_callA (args := [.agg #[.string b2, .string v2, .slice A2 zs.length cc2], .agg #[.string b, .string v, .slice A xs.length c]]) hk27 rfl Tryz.func8 rfl rfl (by simp) ?_)
        refine (law_same b2 v2 b v A2 A cc2 c zs xs (by rw [← e3']; omega) w27 (hk27.res (strArr A2 zs).res (by simp)) (hk27.res (strArr A xs).res (by simp))).mono ?_
        rintro e w28 ⟨q, rfl, hq, hp28⟩
        refine ⟨_, rfl, ?_⟩
        obtain rfl : q = true := hq.2 ⟨e1'.symm, e2'.symm, e3'.symm⟩
        have hk28 := (hk27.pure hp28).setS (.bool (.c true)) (d := 200) (v := .bool true) (by decide) rfl
        refine run_sound mixed Γok [0, 1, 2, 4, 6, 7, 8, 9, 10, 11, 12, 13, 14, 15, 16, 17, 18, 19, 20, 46, 52, 61, 70, 116, 188, 189, 202] 50 [] ⟨k27, hk28⟩ (by cbv) (by simp) ?_
        rintro a29 w29 ⟨k29, hk29⟩
        have hk30 := (hk29.sub (ro' := [(strArr rA ys).res, globR, (strArr A xs).res]) (by simp) (List.Sublist.refl _) (by simp; exact ⟨⟨ownStr 9 m cm (xs ++ [⟨#[109, 97, 114, 107]⟩]), by simp, fun w h => ownStr_view w h⟩, .here (by simp)⟩))
        exact hI _ _ (fin (hk30.to _ _ rfl rfl (by simp) (by simp) (by simp)))
      · simp only [Bool.not_eq_true] at hr
        obtain ⟨hs, herr⟩ : s = ByteArray.empty ∧ err = 15 := by
          rcases hor with ⟨h, _⟩ | ⟨_, h⟩
          · exact absurd (hrt.2 h) (by simp [hr])
          · exact h
        rw [hr] at hk20 ⊢
        refine run_sound mixed Γok [0, 1, 2, 4, 6, 7, 8, 9, 10, 11, 12, 13, 14, 15, 16, 17, 18, 19, 20, 46, 52, 61, 70, 116, 188, 189, 202] 50 [false, false, false, false] ⟨k18, hk20⟩ (by cbv) (by simp [herr, hs, ew, hml]; omega) ?_
        rintro a21 w21 ⟨k21, hk21⟩
        have hl21 : Lies (strArr m (xs ++ [⟨#[109, 97, 114, 107]⟩])) w21 := ownStr_lies (hk21.res (ownStr 9 m cm (xs ++ [⟨#[109, 97, 114, 107]⟩])) (by simp)).1
        have hm21 : Lies (strArr m xs) w21 := ownStr_lies (ownStr_pre (hk21.res (ownStr 9 m cm (xs ++ [⟨#[109, 97, 114, 107]⟩])) (by simp)).1)
        refine ops_step hk21 rfl (wp_callA (args := [.slice m xs.length cm, .slice A xs.length c]) hk21 rfl Tryz.func12 rfl rfl (by simp) ?_)
        refine (SameTexts m A cm c xs xs (by omega) w21 hm21 (hk21.res (strArr A xs).res (by simp))).mono ?_
        rintro e w22 ⟨rfl, hp22⟩
        refine ⟨_, rfl, ?_⟩
        have hk22 := (hk21.pure hp22).setS (.bool (.c true)) (d := 186) (v := .bool (decide (xs = xs))) (by decide) (by simp)
        refine run_sound mixed Γok [0, 1, 2, 4, 6, 7, 8, 9, 10, 11, 12, 13, 14, 15, 16, 17, 18, 19, 20, 46, 52, 61, 70, 116, 188, 189, 202] 50 [] ⟨k21, hk22⟩ (by cbv) (by simp) ?_
        rintro a23 w23 ⟨k23, hk23⟩
        exact hI _ _ (fin (hk23.to _ _ rfl rfl (by simp) (by simp) (by simp)))
    · rintro a22 w22 ⟨k22, hk22⟩
      obtain ⟨kb, hkb⟩ : ∃ kb, kb = (findV verb).isSome := ⟨_, rfl⟩
      obtain ⟨wb, hwb⟩ : ∃ wb, wb = (findV verb).any fun v => v.2.2 := ⟨_, rfl⟩
      refine ops_step hk22 rfl (wp_callA (args := [.string verb]) hk22 rfl Tryz.func13 rfl rfl (by simp) ?_)
      refine (trail_Known verb w22).mono ?_
      rintro e w23 ⟨rfl, hp23⟩
      refine ⟨_, rfl, ?_⟩
      have hk23 := (hk22.pure hp23).setS (.bool (.c kb)) (d := 204) (v := .bool (findV verb).isSome) (by decide) (by simp [hkb])
      refine run_sound mixed Γok [0, 1, 2, 4, 6, 7, 8, 9, 10, 11, 12, 13, 14, 15, 16, 17, 18, 19, 20, 46, 52, 61, 70, 116, 188, 189, 202] 50 [] ⟨k22, hk23⟩ (by cbv) (by simp) ?_
      rintro a24 w24 ⟨k24, hk24⟩
      refine ops_step hk24 rfl (wp_callA (args := [.string verb]) hk24 rfl Tryz.func14 rfl rfl (by simp) ?_)
      refine (ref_Known verb w24).mono ?_
      rintro e w25 ⟨rfl, hp25⟩
      refine ⟨_, rfl, ?_⟩
      have hk25 := (hk24.pure hp25).setS (.bool (.c kb)) (d := 206) (v := .bool (findV verb).isSome) (show 206 < 219 by decide) (by simp [hkb])
      refine run_sound mixed Γok [0, 1, 2, 4, 6, 7, 8, 9, 10, 11, 12, 13, 14, 15, 16, 17, 18, 19, 20, 46, 52, 61, 70, 116, 188, 189, 202] 50 [true] ⟨k24, hk25⟩ (by cbv) (by simp) ?_
      rintro a26 w26 ⟨k26, hk26⟩
      refine ops_step hk26 rfl (wp_callA (args := [.string verb]) hk26 rfl Tryz.func15 rfl rfl (by simp) ?_)
      refine (trail_Writes verb w26).mono ?_
      rintro e w27 ⟨rfl, hp27⟩
      refine ⟨_, rfl, ?_⟩
      have hk27 := (hk26.pure hp27).setS (.bool (.c wb)) (d := 210) (v := .bool ((findV verb).any fun v => v.2.2)) (show 210 < 219 by decide) (by simp [hwb])
      refine run_sound mixed Γok [0, 1, 2, 4, 6, 7, 8, 9, 10, 11, 12, 13, 14, 15, 16, 17, 18, 19, 20, 46, 52, 61, 70, 116, 188, 189, 202] 50 [] ⟨k26, hk27⟩ (by cbv) (by simp) ?_
      rintro a28 w28 ⟨k28, hk28⟩
      refine ops_step hk28 rfl (wp_callA (args := [.string verb]) hk28 rfl Tryz.func16 rfl rfl (by simp) ?_)
      refine (ref_Writes verb w28).mono ?_
      rintro e w29 ⟨rfl, hp29⟩
      refine ⟨_, rfl, ?_⟩
      have hk29 := (hk28.pure hp29).setS (.bool (.c wb)) (d := 212) (v := .bool ((findV verb).any fun v => v.2.2)) (show 212 < 219 by decide) (by simp [hwb])
      refine run_sound mixed Γok [0, 1, 2, 4, 6, 7, 8, 9, 10, 11, 12, 13, 14, 15, 16, 17, 18, 19, 20, 46, 52, 61, 70, 116, 188, 189, 202] 50 [true] ⟨k28, hk29⟩ (by cbv) (by simp) ?_
      rintro a30 w30 ⟨k30, hk30⟩
      rw [hbk] at hk30
      have hd := hk30.odis
      simp only [bkOwn1, bkOwn2, List.cons_append, List.nil_append, List.pairwise_cons] at hd
      refine ops_step hk30 rfl (wp_callA (args := [.pointer (some ⟨p, 0, none⟩)]) hk30 rfl Tryz.func17 rfl rfl (by simp) ?_)
      refine (Apart p O1 O2 c1 c2 ts us (by omega) (by omega) w30 (hk30.res (boxR p (bkObj O1 ts.length c1 O2 ts.length c2)) (by simp [bkOwn1])).1 (fun t ht => by have := htx t ht; omega) hsame (fun r hr => ⟨(hk30.res r (List.mem_append_right _ (List.mem_cons_of_mem _ hr))).1, fun h => hd.1 r hr p ⟨rfl, h⟩⟩) (by simp only [List.pairwise_cons]; exact hd.2)).mono ?_
      rintro e w31 ⟨rfl, hq31⟩
      refine ⟨_, rfl, ?_⟩
      have hk31 := (hk30.mutAll hq31 (fun x _ ⟨t, ht, hx⟩ => ⟨tlOwn t, by simp [bkOwn2]; exact .inr (.inl ⟨t, ht, rfl⟩), hx⟩) [] (by simp) (by simp) (by simp) (by simp) (by simp)).setS (.bool (.c true)) (d := 217) (v := .bool true) (show 217 < 219 by decide) rfl
      refine run_sound mixed Γok [0, 1, 2, 4, 6, 7, 8, 9, 10, 11, 12, 13, 14, 15, 16, 17, 18, 19, 20, 46, 52, 61, 70, 116, 188, 189, 202] 50 [] ⟨k30, hk31⟩ (by cbv) (by simp) ?_
      intro a32 w32 hs32
      exact ret_at Γok (.base _) hs32 (by cbv) fun k hk => ⟨by simp, hk.kept⟩
  · intro hI M hM hk15 hr15
    refine execRn_sound Γok (ds := []) (by cbv) (by simp) hk15 hr15 ?_
    intro k16 a16 w16 hk16 hr16
    refine rn_step hk16 rfl rfl (wp_appendZ (m := xs.length) (news := xs.map .string) Γok hk16 (by rfl) rfl (by rfl) (by simpa using Src.strs (P := Tryz.prog) (A := A) (xs := xs) (c := c) (hk16.res (strArr A xs).res (by simp)).1) (by simp; omega) (by omega) (by simp; exact .here (by simp)) ?_)
    intro B d w17 hk17 hd17 _ hkept17 hfoot17
    refine ⟨Act.put_defers' _ _ _, hkept17.fr (fun x _ hx => absurd rfl hx.1), ?_⟩
    have hk18 := hk17.setX { s := [line, b, v, verb, rb, rv], n := [xs.length, c, p, ys.length, rc, d], a := [rA, B], b := [ok], ar := [strArr A xs] } (.slice (.v 1) (.v 0) (.v 5)) (d := 119) (v := .slice B (0 + xs.length) d) (by decide) (by simp) (by simp) (by simp) (by simp)
    have hk19 : SatK ⟨w, fun _ => False⟩ k16 { s := [line, b, v, verb, rb, rv], n := [xs.length, c, p, ys.length, rc, d], a := [rA, B], b := [ok], ar := [strArr A xs] } [(strArr rA ys).res, globR, (strArr A xs).res] (ownS 9 1 B (0 + xs.length) d ([] ++ xs.map .string) :: bk)
      ⟨219, [(119, .slice (.v 1) (.v 0) (.v 5)), (120, .slice (.box 3 0) (.c 1) (.c 1)), (124, .int .i64 (.nat (.v 0))), (8, .ptr (.at 2 0)), (6, .bool (.c false)), (4, .ptr (.box 0 0)), (0, .str (.v 0)), (2, .str (.v 3))], [⟨3, 9, [.str (.c ⟨#[109, 97, 114, 107]⟩)]⟩, ⟨2, 39, [.str (.v 4), .str (.v 5), .slice (.v 0) (.v 3) (.v 4)]⟩, ⟨0, 24, [.str (.v 1), .str (.v 2), .slice (.arr 0 (.c 0) 0) (.v 0) (.v 1)]⟩], 4, []⟩ _ w17 := hk18.to _ _ rfl rfl (by simp) (by simp) (by simp)
    refine execRn_sound Γok (ds := []) (by cbv) (by simp) hk19 (hr16.grow0 hkept17.size (by decide) (fun b hb => ⟨b, by simp at hb ⊢; exact hb, rfl⟩) rfl) ?_
    intro k20 a20 w20 hk20 hr20
    have hn20 := hr20.n0
    refine rn_step hk20 rfl rfl (wp_appendZ (m := 1) (news := [.string ⟨#[109, 97, 114, 107]⟩]) Γok hk20 (by rfl) rfl (by simp) (Src.boxK (news := [.string ⟨#[109, 97, 114, 107]⟩]) hk20 (List.mem_cons_self ..) (by simp) rfl (by simp [Value.oneCell'])) (by simp; omega) (by omega) (by simp) ?_)
    intro D d2 w21 hk21 hd21 _ hkept21 hfoot21
    refine ⟨Act.put_defers' _ _ _, hkept21.fr (fun x hx1 hx => hM x ?_), ?_⟩
    · rcases hfoot17 x hx with h | h
      · exact absurd rfl h.1
      · exact Nat.le_trans hr16.n0 h
    have hk22 := hk21.setX { s := [line, b, v, verb, rb, rv], n := [xs.length, c, p, ys.length, rc, d, xs.length + 1, d2], a := [rA, B, D], b := [ok], ar := [strArr A xs] } (.slice (.v 2) (.v 6) (.v 7)) (d := 121) (v := .slice D (0 + xs.length + 1) d2) (by decide) (by simp) (by simp) (by simp) (by simp)
    refine execRn_sound Γok (ds := []) (by cbv) (by simp; omega) hk22 (hr20.grow0 hkept21.size (Nat.le_refl _) (fun b hb => ⟨b, hb, rfl⟩) rfl) ?_
    intro k23 a23 w23 hk23 _
    refine hI _ _ ⟨k23, D, d2, by omega, ?_⟩
    have hos : ownS 9 1 D (0 + xs.length + 1) d2 ([] ++ xs.map .string ++ [.string ⟨#[109, 97, 114, 107]⟩]) = ownStr 9 D d2 (xs ++ [⟨#[109, 97, 114, 107]⟩]) := by simp [ownStr]
    rw [hos] at hk23
    exact (hk23.to { s := [line, b, v, verb, rb, rv], n := [xs.length, c, p, ys.length, rc, d2], a := [rA, D], b := [ok], ar := [strArr A xs] } ⟨219, [(14, .slice (.v 1) (.v 0) (.v 5)), (8, .ptr (.at 2 0)), (6, .bool (.c false)), (4, .ptr (.box 0 0)), (0, .str (.v 0)), (2, .str (.v 3))], [⟨2, 39, [.str (.v 4), .str (.v 5), .slice (.v 0) (.v 3) (.v 4)]⟩, ⟨0, 24, [.str (.v 1), .str (.v 2), .slice (.arr 0 (.c 0) 0) (.v 0) (.v 1)]⟩], 3, []⟩ rfl rfl (by simp) (by simp) (by simp)).row 0 [.str] rfl (strArr_shape _ _) (.here (by simp))
  · intro hI M hM hk15 hr15
    refine execRn_sound Γok (ds := []) (by cbv) (by simp) hk15 hr15 ?_
    intro k16 a16 w16 hk16 hr16
    refine rn_step hk16 rfl rfl (wp_appendZ (m := xs.length) (news := xs.map .string) Γok hk16 (by rfl) rfl (by rfl) (by simpa using Src.strs (P := Tryz.prog) (A := A) (xs := xs) (c := c) (hk16.res (strArr A xs).res (by simp)).1) (by simp; omega) (by omega) (by simp; exact .here (by simp)) ?_)
    intro B d w17 hk17 hd17 _ hkept17 hfoot17
    refine ⟨Act.put_defers' _ _ _, hkept17.fr (fun x _ hx => absurd rfl hx.1), ?_⟩
    have hk18 := hk17.setX { s := [line, b, v, verb, rb, rv], n := [xs.length, c, p, ys.length, rc, d], a := [rA, B], b := [ok], ar := [strArr A xs] } (.slice (.v 1) (.v 0) (.v 5)) (d := 119) (v := .slice B (0 + xs.length) d) (by decide) (by simp) (by simp) (by simp) (by simp)
    have hk19 : SatK ⟨w, fun _ => False⟩ k16 { s := [line, b, v, verb, rb, rv], n := [xs.length, c, p, ys.length, rc, d], a := [rA, B], b := [ok], ar := [strArr A xs] } [(strArr rA ys).res, globR, (strArr A xs).res] (ownS 9 1 B (0 + xs.length) d ([] ++ xs.map .string) :: bk)
      ⟨219, [(119, .slice (.v 1) (.v 0) (.v 5)), (124, .int .i64 (.nat (.v 0))), (8, .ptr (.at 2 0)), (6, .bool (.c false)), (4, .ptr (.box 0 0)), (0, .str (.v 0)), (2, .str (.v 3))], [⟨2, 39, [.str (.v 4), .str (.v 5), .slice (.v 0) (.v 3) (.v 4)]⟩, ⟨0, 24, [.str (.v 1), .str (.v 2), .slice (.arr 0 (.c 0) 0) (.v 0) (.v 1)]⟩], 3, []⟩ _ w17 := hk18.to _ _ rfl rfl (by simp) (by simp) (by simp)
    refine execRn_sound Γok (ds := []) (by cbv) (by simp) hk19 (hr16.grow0 hkept17.size (by decide) (fun b hb => ⟨b, by simp at hb ⊢; exact hb, rfl⟩) rfl) ?_
    intro k20 a20 w20 hk20 hr20
    have hn20 := hr20.n0
    refine rn_step hk20 rfl rfl (wp_appendZ (m := 1) (news := [.string ⟨#[109, 97, 114, 107]⟩]) Γok hk20 (by rfl) rfl (by simp) (Src.boxK (news := [.string ⟨#[109, 97, 114, 107]⟩]) hk20 (List.mem_cons_self ..) (by simp) rfl (by simp [Value.oneCell'])) (by simp; omega) (by omega) (by simp) ?_)
    intro D d2 w21 hk21 hd21 _ hkept21 hfoot21
    refine ⟨Act.put_defers' _ _ _, hkept21.fr (fun x hx1 hx => hM x ?_), ?_⟩
    · rcases hfoot17 x hx with h | h
      · exact absurd rfl h.1
      · exact Nat.le_trans hr16.n0 h
    have hk22 := hk21.setX { s := [line, b, v, verb, rb, rv], n := [xs.length, c, p, ys.length, rc, d, xs.length + 1, d2], a := [rA, B, D], b := [ok], ar := [strArr A xs] } (.slice (.v 2) (.v 6) (.v 7)) (d := 121) (v := .slice D (0 + xs.length + 1) d2) (by decide) (by simp) (by simp) (by simp) (by simp)
    refine execRn_sound Γok (ds := []) (by cbv) (by simp; omega) hk22 (hr20.grow0 hkept21.size (Nat.le_refl _) (fun b hb => ⟨b, hb, rfl⟩) rfl) ?_
    intro k23 a23 w23 hk23 _
    refine hI _ _ ⟨k23, D, d2, by omega, ?_⟩
    have hos : ownS 9 1 D (0 + xs.length + 1) d2 ([] ++ xs.map .string ++ [.string ⟨#[109, 97, 114, 107]⟩]) = ownStr 9 D d2 (xs ++ [⟨#[109, 97, 114, 107]⟩]) := by simp [ownStr]
    rw [hos] at hk23
    exact (hk23.to { s := [line, b, v, verb, rb, rv], n := [xs.length, c, p, ys.length, rc, d2], a := [rA, D], b := [ok], ar := [strArr A xs] } ⟨219, [(14, .slice (.v 1) (.v 0) (.v 5)), (8, .ptr (.at 2 0)), (6, .bool (.c false)), (4, .ptr (.box 0 0)), (0, .str (.v 0)), (2, .str (.v 3))], [⟨2, 39, [.str (.v 4), .str (.v 5), .slice (.v 0) (.v 3) (.v 4)]⟩, ⟨0, 24, [.str (.v 1), .str (.v 2), .slice (.arr 0 (.c 0) 0) (.v 0) (.v 1)]⟩], 3, []⟩ rfl rfl (by simp) (by simp) (by simp)).row 0 [.str] rfl (strArr_shape _ _) (.here (by simp))
end Go.Proofs.YthhcbfngjmiigaaGreatDoor
