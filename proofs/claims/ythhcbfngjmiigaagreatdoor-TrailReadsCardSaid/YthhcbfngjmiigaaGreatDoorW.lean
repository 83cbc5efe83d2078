import Derived.Test.YthhcbfngjmiigaaGreatDoorT
set_option linter.all false
namespace Go.Proofs.YthhcbfngjmiigaaGreatDoor
open Go Rx
set_option maxRecDepth 100000
theorem memB {w : World} {p : Nat} {ρ : Env} {ro : List Res} {ar : List (Nat × List CK)} (b : Box) (hid : b.id = 0) (hb : w.heap[p]? = some (boxObj (fun _ => p) ρ b)) (h : ∀ r ∈ ro, r.P w ∧ ∀ x, r.F x → x < w.heap.size) (hd : ∀ r ∈ ro, ¬ r.F p)
    (ha : ∀ q ∈ ar, (ρ.arr q.1).esz = q.2.length ∧ (∀ e ∈ (ρ.arr q.1).el, shapeOk q.2 e) ∧ View ro (ρ.arr q.1)) : Mem ⟨w, fun x => x = p⟩ (fun _ => p) ρ ro [] [b] 1 ar w where
  box := by intro b' h'; simp at h'; subst h'; exact hb
  bnew := by intro b' h'; exact .inr rfl
  bid := by intro b' h'; simp at h'; subst h'; omega
  bdis := by intro b' h' b'' h'' hn; simp at h' h''; subst h' h''; exact absurd rfl hn
  kept := Kept.refl _ _
  res := by simpa using h
  rbox := by intro r hr b' h'; simp at hr; exact hd r hr
  odis := by simp
  oro := by simp
  onew := by simp
  arr := fun q hq => ⟨(ha q hq).1, (ha q hq).2.1, by simpa using (ha q hq).2.2⟩
theorem rx_enterK {P : Program} {f : Nat} {fn : Func} {c : Code} {args : Array Value} {w : World} {R : Ending → World → Prop} {M : Nat → Prop} (hf : P.funcs[f]? = some fn) (hb : fn.body = some c)
    (k : Nat → Nat) (ρ : Env) (svs : List SV) (hargs : args = (SV.dens k ρ svs).toArray) {ro own : List Res} {bx : List Box} {nx : Nat} {ar : List (Nat × List CK)} (hm : Mem ⟨w, M⟩ k ρ ro own bx nx ar w)
    (N : Nat) (hN : svs.length + (fn.ntmps - svs.length) = N)
    (h : ∀ a, SatK ⟨w, M⟩ k ρ ro own ⟨N, enumS 0 svs, bx, nx, ar⟩ a w → Wk P [.c c] (bodyPost P fn R) a w) : Calls P f args w R := by
  refine calls_of_wp hf hb ?_
  refine wp_mono (h _ ⟨rfl, ?_, ?_, hm.box, hm.bnew, hm.bid, hm.bdis, hm.kept, hm.res, hm.rbox, hm.odis, hm.oro, hm.onew, hm.arr⟩) (fun _ _ _ h => h)
  · simp [hargs, dens_map, ← hN]
  · intro p hp
    obtain ⟨_, h2⟩ := enumS_spec hp
    have hlt : p.1 < svs.length := by
      have := (List.getElem?_eq_some_iff.1 h2).1
      omega
    refine ⟨by simp only; omega, ?_⟩
    subst hargs
    rw [Array.getElem?_append_left (by simp [dens_map]; exact hlt)]
    simp only [Nat.sub_zero] at h2
    simp [dens_map, h2]
/-- Where a box that was handed in lies: a slot tells it twice. -/
theorem pin {C : Ctx} {k : Nat → Nat} {ρ : Env} {ro own : List Res} {st : St} {a : Act} {w : World} (hk : SatK C k ρ ro own st a w) {d i j : Nat} (h1 : (d, SV.ptr (.box i 0)) ∈ st.sl) (h2 : (d, SV.ptr (.at j 0)) ∈ st.sl) : k i = ρ.n.getD j 0 := by
  have e1 := (hk.slot _ h1).2
  have e2 := (hk.slot _ h2).2
  rw [e1] at e2
  simpa using e2
theorem pure_box {w w' : World} {p : Nat} (h : Kept (fun x => x = p) w w') (hb : w'.heap[p]? = w.heap[p]?) : Pure0 w w' :=
  ⟨h.os, h.tape, h.output, h.size, fun b hl _ => by
    by_cases hbp : b = p
    · subst hbp; exact hb
    · exact h.block b hl hbp⟩
/-- The Book's cells, where only texts are kept. -/
def bkCells (O1 : Option Addr) (n1 c1 : Nat) (O2 : Option Addr) (n2 c2 : Nat) : List Value := [.slice O1 n1 c1, .slice O2 n2 c2] ++ List.replicate 18 (.slice none 0 0)
def bkSV : List SV := [.slice (.arr 0 (.c 0) 0) (.v 0) (.v 1), .slice (.arr 1 (.c 0) 0) (.v 0) (.v 2)] ++ List.replicate 18 (.slice .nil (.c 0) (.c 0))
theorem stillTexts (p : Nat) (O1 O2 : Option Addr) (c1 c2 : Nat) (ts us : List TL) (hlen : us.length = ts.length) (hn : ts.length ≤ 1000) (w : World) (hb : w.heap[p]? = some (.cells (bkCells O1 ts.length c1 O2 ts.length c2).toArray 38 (0, 0)))
    (h1 : Lies (tlArr O1 ts) w) (h2 : Lies (tlArr O2 us) w) (hl : ∀ t ∈ ts ++ us, Lies (strArr t.A t.xs) w) (hx : ∀ t ∈ ts, t.xs.length ≤ 1000000) (hp1 : ¬ (tlArr O1 ts).res.F p) (hp2 : ¬ (tlArr O2 us).res.F p) (hp3 : ∀ t ∈ ts ++ us, ¬ (strArr t.A t.xs).res.F p)
    (hs : ∀ (i : Nat) (t u : TL), ts[i]? = some t → us[i]? = some u → t.xs = u.xs) :
    Calls Tryz.prog 30 #[.pointer (some ⟨p, 0, none⟩)] w fun e w' => e = .returned (.bool true) ∧ Pure0 w w' := by
  refine rx_enterK (M := fun x => x = p) Tryz.func30 rfl (fun _ => p) { n := [ts.length, c1, c2], ar := [tlArr O1 ts, tlArr O2 us] } [.ptr (.box 0 0)]
    (by simp [SV.den]) (ro := (tlArr O1 ts).res :: (tlArr O2 us).res :: listsR (ts ++ us)) (own := []) (bx := [⟨0, 38, bkSV⟩]) (nx := 1) (ar := [(0, [.slice]), (1, [.slice])])
    (memB _ rfl (by rw [hb]; simp [boxObj, bkCells, bkSV]) (by
      intro r hr
      rcases List.mem_cons.1 hr with rfl | hr
      · exact h1
      · rcases List.mem_cons.1 hr with rfl | hr
        · exact h2
        · obtain ⟨t, ht, rfl⟩ := List.mem_map.1 hr
          exact hl t ht) (by
      intro r hr
      rcases List.mem_cons.1 hr with rfl | hr
      · exact hp1
      · rcases List.mem_cons.1 hr with rfl | hr
        · exact hp2
        · obtain ⟨t, ht, rfl⟩ := List.mem_map.1 hr
          exact hp3 t ht) (by simp [tlEl]; exact ⟨.here (by simp), .here (by simp)⟩)) 29 rfl ?_
  intro a hs0
  have hs0' := hs0.to { n := [ts.length, c1, c2, p], ar := [tlArr O1 ts, tlArr O2 us] } ⟨29, [(0, .ptr (.box 0 0)), (0, .ptr (.at 3 0))], [⟨0, 38, bkSV⟩], 1, [(0, [.slice]), (1, [.slice])]⟩ rfl rfl (by simp [enumS]) (by simp [bkSV]) (by simp)
  refine run_sound mixed Γok [0, 2, 3, 10, 28] 50 [] ⟨_, hs0'⟩ (by cbv) (by simp) ?_
  rintro a1 w1 ⟨k1, hk1⟩
  have hp1' := pin hk1 (d := 0) (i := 0) (j := 3) (by simp) (by simp)
  refine rx_loop (fun (j : Nat) a' w' => j ≤ ts.length ∧ Sat ⟨w, fun x => x = p⟩ { i := [(j : Int)], n := [ts.length, c1, c2, p], ar := [tlArr O1 ts, tlArr O2 us] } ((tlArr O1 ts).res :: (tlArr O2 us).res :: listsR (ts ++ us)) []
      ⟨29, [(3, .int .i64 (.v 0)), (2, .bool (.c false)), (0, .ptr (.box 0 0)), (0, .ptr (.at 3 0))], [⟨0, 38, bkSV⟩], 1, [(0, [.slice]), (1, [.slice])]⟩ a' w') (fun j => ts.length - j) 0
      ⟨Nat.zero_le _, k1, hk1.to _ _ rfl rfl (by simp; simpa using hp1') (by simp [bkSV]) (by simp)⟩ ?_
  rintro j a2 w2 ⟨hj, hs2⟩
  by_cases h : j < ts.length
  · refine run_sound mixed Γok [0, 2, 3, 10, 28] 50 [true] hs2 (by cbv) (by simp [h]) ?_
    rintro a3 w3 ⟨k3, hk3⟩
    obtain ⟨t, ht⟩ : ∃ t, ts[j]? = some t := ⟨_, List.getElem?_eq_getElem h⟩
    obtain ⟨u, hu⟩ : ∃ u, us[j]? = some u := ⟨_, List.getElem?_eq_getElem (by omega)⟩
    have htm : t ∈ ts := List.mem_of_getElem? ht
    have hum : u ∈ us := List.mem_of_getElem? hu
    have hsame := hs j t u ht hu
    refine rx_drawK mixed hk3 [] [] [(0, true), (1, true), (2, true), (3, true), (4, true), (5, true), (6, true), (7, true), (8, true), (9, true), (10, true), (11, true), (12, true), (13, true), (14, false), (15, true)] (by cbv) ?_
    intro M hM hk4 hr4
    refine execRn_sound Γok (ds := []) (by cbv) (by simp [h, hlen]) hk4 hr4 ?_
    intro k5 a5 w5 hk5 hr5
    have hlt : Lies (strArr t.A t.xs) w5 := hk5.res (strArr t.A t.xs).res (by simp [listsR]; exact .inr (.inr (.inl ⟨t, htm, rfl⟩)))
    have hlu : Lies (strArr u.A u.xs) w5 := hk5.res (strArr u.A u.xs).res (by simp [listsR]; exact .inr (.inr (.inr ⟨u, hum, rfl⟩)))
    refine rn_callA (args := [.slice t.A t.xs.length t.c, .slice u.A u.xs.length u.c]) hk5 rfl rfl rfl Tryz.func12 rfl rfl (by simp [ht, hu, tlEl]) ?_
    refine (SameTexts t.A u.A t.c u.c t.xs u.xs (hx t htm) w5 hlt hlu).mono ?_
    rintro e w6 ⟨rfl, hp6⟩
    refine ⟨_, rfl, hp6.fr, ?_⟩
    have hdec : decide (t.xs = u.xs) = true := by simpa using hsame
    rw [hdec]
    have hk6 := (hk5.pure hp6).setS (.bool (.c true)) (d := 27) (v := .bool true) (by decide) rfl
    refine execRn_sound Γok (ds := []) (by cbv) (by simp) hk6 (hr5.grow hp6.size (Nat.le_refl _) (by simp) (by simp) (by simp)) ?_
    intro k7 a7 w7 hk7 _
    refine run_sound mixed Γok [0, 2, 3, 10, 28] 50 [] ⟨k7, hk7⟩ (by cbv) (by simp) ?_
    rintro a8 w8 ⟨k8, hk8⟩
    have hp8 := pin hk8 (d := 0) (i := 0) (j := 3) (by simp) (by simp)
    exact ⟨j + 1, by omega, by omega, k8, hk8.to _ _ rfl rfl (by have := wrap_id (n := (j : Int) + 1) (by omega) (by omega); simp [this]; simpa using hp8) (by simp [bkSV]) (by simp)⟩
  · obtain rfl : j = ts.length := by omega
    refine run_sound mixed Γok [0, 2, 3, 10, 28] 50 [false] hs2 (by cbv) (by simp) ?_
    intro a3 w3 hs3
    refine exit_in rfl rfl ?_
    refine run_sound mixed Γok [0, 2, 3, 10, 28] 50 [] hs3 (by cbv) (by simp) ?_
    intro a4 w4 hs4
    refine ret_at Γok (.base _) hs4 (by cbv) fun k hk => ⟨by simp, pure_box hk.kept ?_⟩
    have hp4 := pin hk (d := 0) (i := 0) (j := 3) (by simp) (by simp)
    have hbx := hk.box _ (List.mem_cons_self ..)
    simp at hp4
    rw [hp4] at hbx
    rw [hbx, hb]
    simp [boxObj, bkCells]
end Go.Proofs.YthhcbfngjmiigaaGreatDoor
