import Derived.Test.YthhcbfngjmiigaaGreatDoorV
set_option linter.all false
namespace Go.Proofs.YthhcbfngjmiigaaGreatDoor
open Go Rx
set_option maxRecDepth 100000
theorem law_same (b v b' v' : ByteArray) (A B : Option Addr) (c d : Nat) (xs ys : List ByteArray) (hx : xs.length ≤ 1000000) (w : World) (ha : Lies (strArr A xs) w) (hb : Lies (strArr B ys) w) :
    Calls Tryz.prog 8 #[.agg #[.string b, .string v, .slice A xs.length c], .agg #[.string b', .string v', .slice B ys.length d]] w fun e w' => ∃ q : Bool, e = .returned (.bool q) ∧ (q = true ↔ b = b' ∧ v = v' ∧ xs = ys) ∧ Pure0 w w' := by
  refine rx_enter (M := fun _ => False) Tryz.func8 rfl (fun _ => 0) { s := [b, v, b', v'], n := [xs.length, c, ys.length, d], ar := [strArr A xs, strArr B ys] } [.agg [.str (.v 0), .str (.v 1), .slice (.arr 0 (.c 0) 0) (.v 0) (.v 1)], .agg [.str (.v 2), .str (.v 3), .slice (.arr 1 (.c 0) 0) (.v 2) (.v 3)]]
    (by simp [SV.den]) (ro := [(strArr A xs).res, (strArr B ys).res]) (own := []) (bx := []) (nx := 0) (ar := [(0, [.str]), (1, [.str])])
    (Mem.reads _ _ _ _ (by simpa [Lies] using ⟨ha, hb⟩) (by simp)) 24 rfl ?_
  intro a hs0
  by_cases h1 : b = b'
  · by_cases h2 : v = v'
    · refine run_sound mixed Γok [0, 1, 2, 3, 4] 50 [true, true] hs0 (by cbv) (by simp [h1, h2]) ?_
      rintro a1 w1 ⟨k1, hk1⟩
      have hl1 : Lies (strArr A xs) w1 := hk1.res (strArr A xs).res (by simp)
      have hl2 : Lies (strArr B ys) w1 := hk1.res (strArr B ys).res (by simp)
      refine ops_step hk1 rfl (wp_callA (args := [.slice A xs.length c, .slice B ys.length d]) hk1 rfl Tryz.func12 rfl rfl (by simp) ?_)
      refine (SameTexts A B c d xs ys hx w1 hl1 hl2).mono ?_
      rintro e w2 ⟨rfl, hp⟩
      refine ⟨_, rfl, ?_⟩
      obtain ⟨q, hq⟩ : ∃ q, q = decide (xs = ys) := ⟨_, rfl⟩
      have hk2 := (hk1.pure hp).setS (.bool (.c q)) (d := 22) (v := .bool (decide (xs = ys))) (by decide) (by simp [hq])
      refine run_sound mixed Γok [0, 1, 2, 3, 4] 50 [] ⟨k1, hk2⟩ (by cbv) (by simp) ?_
      intro a3 w3 hs3
      exact ret_at Γok (.base _) hs3 (by cbv) fun k hk => ⟨q, by simp [h1, h2], by simp [hq, h1, h2], hk.kept⟩
    · refine run_sound mixed Γok [0, 1, 2, 3, 4] 50 [true, false] hs0 (by cbv) (by simp [h1, h2]) ?_
      intro a3 w3 hs3
      exact ret_at Γok (.base _) hs3 (by cbv) fun k hk => ⟨false, by simp [h1, h2], by simp [h1, h2], hk.kept⟩
  · refine run_sound mixed Γok [0, 1, 2, 3, 4] 50 [false] hs0 (by cbv) (by simp [h1]) ?_
    intro a3 w3 hs3
    exact ret_at Γok (.base _) hs3 (by cbv) fun k hk => ⟨false, by simp [h1], by simp [h1], hk.kept⟩
end Go.Proofs.YthhcbfngjmiigaaGreatDoor
