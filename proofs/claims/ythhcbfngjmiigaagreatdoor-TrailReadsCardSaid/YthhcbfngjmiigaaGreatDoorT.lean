import Derived.Test.YthhcbfngjmiigaaGreatDoorN
set_option linter.all false
namespace Go.Proofs.YthhcbfngjmiigaaGreatDoor
open Go Rx
set_option maxRecDepth 100000
/-- A list that is kept: where it lies, its room, what is in it. -/
structure TL where
  A : Option Addr
  c : Nat
  xs : List ByteArray
def tlEl (t : TL) : List Value := [.slice t.A t.xs.length t.c]
def tlArr (O : Option Addr) (ts : List TL) : Arr := ⟨O, 1, ts.map tlEl⟩
@[simp] theorem tlArr_el (O : Option Addr) (ts : List TL) : (tlArr O ts).el = ts.map tlEl := rfl
@[simp] theorem tlArr_a (O : Option Addr) (ts : List TL) : (tlArr O ts).a = O := rfl
@[simp] theorem tlArr_esz (O : Option Addr) (ts : List TL) : (tlArr O ts).esz = 1 := rfl
attribute [simp] lenV capV adrV
def listsR (ts : List TL) : List Res := ts.map fun t => (strArr t.A t.xs).res
theorem markedTexts (O : Option Addr) (d : Nat) (ts : List TL) (hn : ts.length ≤ 1000) (w : World) (ho : Lies (tlArr O ts) w) (hl : ∀ t ∈ ts, Lies (strArr t.A t.xs) w) (hx : ∀ t ∈ ts, t.xs.length ≤ 1000000)
    (hm : ∀ (i : Nat) (t : TL), ts[i]? = some t → t.xs = marks i 0 t.xs.length) :
    Calls Tryz.prog 60 #[.slice O ts.length d] w fun e w' => e = .returned (.bool true) ∧ Pure0 w w' := by
  refine rx_enter (M := fun _ => False) Tryz.func60 rfl (fun _ => 0) { n := [ts.length, d], ar := [tlArr O ts] } [.slice (.arr 0 (.c 0) 0) (.v 0) (.v 1)]
    (by simp [SV.den]) (ro := (tlArr O ts).res :: listsR ts) (own := []) (bx := []) (nx := 0) (ar := [(0, [.slice])])
    (Mem.reads _ _ _ _ (by
      intro r hr
      rcases List.mem_cons.1 hr with rfl | h
      · exact ho
      · obtain ⟨t, ht, rfl⟩ := List.mem_map.1 h
        exact hl t ht) (by simp [tlEl])) 23 rfl ?_
  intro a hs0
  refine run_sound mixed Γok [0, 2, 3, 7, 22] 50 [] hs0 (by cbv) (by simp) ?_
  intro a1 w1 hs1
  refine rx_loop (fun (j : Nat) a' w' => j ≤ ts.length ∧ Sat ⟨w, fun _ => False⟩ { i := [(j : Int)], n := [ts.length, d], ar := [tlArr O ts] } ((tlArr O ts).res :: listsR ts) []
      ⟨23, [(3, .int .i64 (.v 0)), (2, .bool (.c false)), (0, .slice (.arr 0 (.c 0) 0) (.v 0) (.v 1))], [], 0, [(0, [.slice])]⟩ a' w') (fun j => ts.length - j) 0
      ⟨Nat.zero_le _, hs1.to _ _ rfl rfl (by simp) (by simp) (by simp)⟩ ?_
  rintro j a2 w2 ⟨hj, hs2⟩
  by_cases h : j < ts.length
  · obtain ⟨t, ht⟩ : ∃ t, ts[j]? = some t := ⟨_, List.getElem?_eq_getElem h⟩
    have htm : t ∈ ts := List.mem_of_getElem? ht
    have ht' : ts[j] = t := (List.getElem?_eq_some_iff.1 ht).2
    have htx := hx t htm
    refine run_sound mixed Γok [0, 2, 3, 7, 22] 50 [true] hs2 (by cbv) (by simp [h]) ?_
    rintro a3 w3 ⟨k3, hk3⟩
    refine rx_drawK mixed hk3 [] [] [(0, true), (1, true), (2, true), (3, true), (4, true), (5, true), (6, true), (7, true), (8, true), (9, true), (10, false), (11, false), (12, true)] (by cbv) ?_
    intro M hM hk4 hr4
    refine execRn_sound Γok (ds := []) (by cbv) (by simp [h]) hk4 hr4 ?_
    intro k5 a5 w5 hk5 hr5
    refine rn_callA (args := [.int .i64 (j : Int), .int .i64 0, .int .i64 (t.xs.length : Int)]) hk5 rfl rfl rfl Tryz.func88 rfl rfl (by simp [ht, tlEl]; rfl) ?_
    refine (markTexts j 0 t.xs.length (by omega) (by omega) (by omega) w5).mono ?_
    rintro e w6 ⟨B, c6, rfl, hP6, hF6, hp6⟩
    refine ⟨_, rfl, hp6.fr, ?_⟩
    have hlies6 := ownStr_lies hP6
    have hk6 := (hk5.pureRo hp6 _ hlies6.1 (fun x hx => ⟨hF6 x (ownStr_F hP6 hx), hlies6.2 x hx⟩)).setX { i := [(j : Int)], n := [ts.length, d, t.xs.length, c6], ar := [tlArr O ts], a := [B] } (.slice (.v 0) (.v 2) (.v 3)) (d := 20) (v := .slice B t.xs.length c6) (by decide) (by simp) (by simp) (by simp) (by simp)
    have hlt : Lies (strArr t.A t.xs) w6 := hk6.res (strArr t.A t.xs).res (by simp [listsR]; exact .inr (.inr ⟨t, htm, rfl⟩))
    have hlm : Lies (strArr B (marks j 0 t.xs.length)) w6 := hlies6
    refine rn_callA (args := [.slice t.A t.xs.length t.c, .slice B (marks j 0 t.xs.length).length c6]) hk6 rfl rfl rfl Tryz.func12 rfl rfl (by simp [ht, tlEl]) ?_
    refine (SameTexts t.A B t.c c6 t.xs (marks j 0 t.xs.length) htx w6 hlt hlm).mono ?_
    rintro e w7 ⟨rfl, hp7⟩
    refine ⟨_, rfl, hp7.fr, ?_⟩
    have hdec : decide (t.xs = marks j 0 t.xs.length) = true := by simpa using hm j t ht
    rw [hdec]
    have hk7 := (hk6.pure hp7).setS (.bool (.c true)) (d := 21) (v := .bool true) (by decide) rfl
    refine execRn_sound Γok (ds := []) (by cbv) (by simp) hk7 (hr5.grow (Nat.le_trans hp6.size hp7.size) (Nat.le_refl _) (by simp) (by simp) (by intro r hr; simp at hr ⊢; rcases hr with h | h <;> simp [h])) ?_
    intro k8 a8 w8 hk8 _
    refine run_sound mixed Γok [0, 2, 3, 7, 22] 50 [] ⟨k8, hk8⟩ (by cbv) (by simp) ?_
    rintro a9 w9 ⟨k9, hk9⟩
    refine ⟨j + 1, by omega, by omega, k9, ?_⟩
    exact (hk9.to { i := [((j + 1 : Nat) : Int)], n := [ts.length, d], ar := [tlArr O ts] } ⟨23, [(3, .int .i64 (.v 0)), (2, .bool (.c false)), (0, .slice (.arr 0 (.c 0) 0) (.v 0) (.v 1))], [], 0, [(0, [.slice])]⟩ rfl rfl (by have := wrap_id (n := (j : Int) + 1) (by omega) (by omega); simp [this]) (by simp) (by simp)).sub (by intro r hr; simp at hr ⊢; rcases hr with h | h <;> simp [h]) (List.Sublist.refl _) (by simp; exact .here (by simp))
  · obtain rfl : j = ts.length := by omega
    refine run_sound mixed Γok [0, 2, 3, 7, 22] 50 [false] hs2 (by cbv) (by simp) ?_
    intro a3 w3 hs3
    refine exit_in rfl rfl ?_
    refine run_sound mixed Γok [0, 2, 3, 7, 22] 50 [] hs3 (by cbv) (by simp) ?_
    intro a4 w4 hs4
    exact ret_at Γok (.base _) hs4 (by cbv) fun k hk => ⟨by simp, hk.kept⟩
end Go.Proofs.YthhcbfngjmiigaaGreatDoor
