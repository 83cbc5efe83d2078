import Derived.Test.YthhcbfngjmiigaaGreatDoorZ
set_option linter.all false
namespace Go.Proofs.YthhcbfngjmiigaaGreatDoor
open Go Rx
set_option maxRecDepth 100000
theorem law_alive (w : World) (hg : globR.P w) : Calls Tryz.prog 4 #[] w fun e w' => e = .returned (.bool true) ∧ Pure0 w w' := by
  refine rx_enter (M := fun _ => False) Tryz.func4 rfl (fun _ => 0) { s := [⟨#[97, 110, 110]⟩, ⟨#[112, 111, 115, 116]⟩, litL] } [] (by simp) (ro := [globR]) (own := []) (bx := []) (nx := 0) (ar := [])
    (Mem.reads _ _ _ _ (by simpa using ⟨hg, globR_lt hg⟩) (by simp)) 50 rfl ?_
  intro a hs0
  refine run_sound mixed Γok [0, 1, 2, 3, 4] 50 [] hs0 (by cbv) (by simp) ?_
  rintro a1 w1 ⟨k1, hk1⟩
  refine ops_step hk1 rfl (wp_callA (args := [.string litL]) hk1 rfl Tryz.func6 rfl rfl (by rfl) ?_)
  refine (trail_Read litL w1 (hk1.res globR (by simp)).1 (by decide)).mono ?_
  rintro e w2 ⟨b, v, A, c, xs, err, rfl, hrel, hP, hF, hp⟩
  refine ⟨_, rfl, ?_⟩
  have hh : err = 0 ∧ parts litL = b :: v :: xs := by
    rcases hrel with ⟨_, h1, h2⟩ | ⟨h, _⟩
    · exact ⟨h1, h2⟩
    · exact absurd lit_ok h
  obtain ⟨rfl, hps⟩ := hh
  rw [← cuts_parts, lit_cuts] at hps
  simp only [List.cons.injEq] at hps
  obtain ⟨rfl, rfl, rfl⟩ := hps
  have hlies := ownStr_lies hP
  have hk2 := (hk1.pureRo hp _ hlies.1 (fun x hx => ⟨hF x (ownStr_F hP hx), hlies.2 x hx⟩)).setX { s := [⟨#[97, 110, 110]⟩, ⟨#[112, 111, 115, 116]⟩, litL], n := [2, c], a := [A] } (.tup [.agg [.str (.v 0), .str (.v 1), .slice (.v 0) (.v 0) (.v 1)], .int .i64 (.c 0)]) (d := 6) (v := .tuple #[.agg #[.string ⟨#[97, 110, 110]⟩, .string ⟨#[112, 111, 115, 116]⟩, .slice A (List.length litW) c], .int .i64 0]) (by decide) (by simp [litW]) (by simp) (by simp) (by simp)
  refine run_sound mixed Γok [0, 1, 2, 3, 4] 50 [] ⟨k1, hk2⟩ (by cbv) (by simp) ?_
  rintro a3 w3 ⟨k3, hk3⟩
  have hl3 : Lies (strArr A litW) w3 := hk3.res (strArr A litW).res (by simp)
  refine ops_step hk3 rfl (wp_callA (args := [.agg #[.string ⟨#[97, 110, 110]⟩, .string ⟨#[112, 111, 115, 116]⟩, .slice A litW.length c]]) hk3 rfl Tryz.func9 rfl rfl (by simp [litW]) ?_)
  refine (trail_Line ⟨#[97, 110, 110]⟩ ⟨#[112, 111, 115, 116]⟩ A c litW w3 hl3 hP.2.1 (by decide) (by decide) (by decide) (by decide)).mono ?_
  rintro e w4 ⟨js, err, rfl, hor, hp4⟩
  refine ⟨_, rfl, ?_⟩
  have hh : js = litL ∧ err = 0 := by
    rcases hor with ⟨_, h1, h2⟩ | ⟨h, _⟩
    · exact ⟨by rw [h1, lit_joined], h2⟩
    · exact absurd ((line_right _ _ _).2 lit_right) h
  obtain ⟨rfl, rfl⟩ := hh
  have hk4 := (hk3.pure hp4).setS (.tup [.str (.v 2), .int .i64 (.c 0)]) (d := 11) (v := .tuple #[.string litL, .int .i64 0]) (by decide) (by simp)
  refine run_sound mixed Γok [0, 1, 2, 3, 4] 50 [true, true, true] ⟨k3, hk4⟩ (by cbv) (by simp [toList_eq_lit]; try rfl) ?_
  rintro a5 w5 ⟨k5, hk5a⟩
  have hk5 := hk5a.decide (d := 40) (b := true) rfl (by simp [toList_eq_lit]; rfl)
  refine ops_step hk5 rfl (wp_callA (args := [.string ⟨#[112, 111, 115, 116]⟩]) hk5 rfl Tryz.func15 rfl rfl (by rfl) ?_)
  refine (trail_Writes ⟨#[112, 111, 115, 116]⟩ w5).mono ?_
  rintro e w6 ⟨rfl, hp6⟩
  refine ⟨_, rfl, ?_⟩
  have hk6 := (hk5.pure hp6).setS (.bool (.c true)) (d := 41) (v := .bool ((findV ⟨#[112, 111, 115, 116]⟩).any fun v => v.2.2)) (by decide) (by rfl)
  refine run_sound mixed Γok [0, 1, 2, 3, 4] 50 [] ⟨k5, hk6⟩ (by cbv) (by simp) ?_
  rintro a7 w7 ⟨k7, hk7⟩
  refine ops_step hk7 rfl (wp_callA (args := [.string ⟨#[116, 114, 105, 97, 108]⟩]) hk7 rfl Tryz.func15 rfl rfl (by rfl) ?_)
  refine (trail_Writes ⟨#[116, 114, 105, 97, 108]⟩ w7).mono ?_
  rintro e w8 ⟨rfl, hp8⟩
  refine ⟨_, rfl, ?_⟩
  have hk8 := (hk7.pure hp8).setS (.bool (.c false)) (d := 44) (v := .bool ((findV ⟨#[116, 114, 105, 97, 108]⟩).any fun v => v.2.2)) (by decide) (by rfl)
  refine run_sound mixed Γok [0, 1, 2, 3, 4] 50 [] ⟨k7, hk8⟩ (by cbv) (by simp) ?_
  rintro a9 w9 ⟨k9, hk9⟩
  refine ops_step hk9 rfl (wp_callA (args := [.string ⟨#[108, 111, 103]⟩]) hk9 rfl Tryz.func13 rfl rfl (by rfl) ?_)
  refine (trail_Known ⟨#[108, 111, 103]⟩ w9).mono ?_
  rintro e w10 ⟨rfl, hp10⟩
  refine ⟨_, rfl, ?_⟩
  have hk10 := (hk9.pure hp10).setS (.bool (.c true)) (d := 48) (v := .bool (findV ⟨#[108, 111, 103]⟩).isSome) (by decide) (by rfl)
  refine run_sound mixed Γok [0, 1, 2, 3, 4] 50 [] ⟨k9, hk10⟩ (by cbv) (by simp) ?_
  intro a11 w11 hs11
  exact ret_at Γok (.base _) hs11 (by cbv) fun k hk => ⟨rfl, hk.kept⟩
end Go.Proofs.YthhcbfngjmiigaaGreatDoor
