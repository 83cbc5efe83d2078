import Derived.Test.YthhcbfngjmiigaaGreatDoorR
set_option linter.all false
namespace Go.Proofs.YthhcbfngjmiigaaGreatDoor
open Go Rx
set_option maxRecDepth 100000
theorem toList_eq_lit {s : ByteArray} {l : List UInt8} : s.toList = l ↔ s = ⟨l.toArray⟩ := by
  constructor
  · intro h; subst h; exact toList_inj (by simp)
  · intro h; subst h; simp
def shapeB (s : ByteArray) : ByteArray := match findV s with | some v => v.2.1 | none => ⟨#[63]⟩
theorem findV_none {s : ByteArray} (h0 : s ≠ ⟨#[103, 105, 118, 101]⟩) (h1 : s ≠ ⟨#[116, 97, 107, 101]⟩) (h2 : s ≠ ⟨#[97, 99, 99, 111, 117, 110, 116]⟩) (h3 : s ≠ ⟨#[114, 101, 116, 105, 114, 101]⟩) (h4 : s ≠ ⟨#[103, 97, 116, 101]⟩) (h5 : s ≠ ⟨#[98, 114, 97, 110, 99, 104]⟩) (h6 : s ≠ ⟨#[100, 105, 102, 102]⟩) (h7 : s ≠ ⟨#[100, 114, 111, 112]⟩) (h8 : s ≠ ⟨#[115, 117, 98, 109, 105, 116]⟩) (h9 : s ≠ ⟨#[97, 112, 112, 114, 111, 118, 101]⟩) (h10 : s ≠ ⟨#[114, 101, 106, 101, 99, 116]⟩) (h11 : s ≠ ⟨#[108, 111, 103]⟩) (h12 : s ≠ ⟨#[112, 97, 112, 101, 114]⟩) (h13 : s ≠ ⟨#[112, 111, 115, 116]⟩) (h14 : s ≠ ⟨#[97, 109, 101, 110, 100]⟩) (h15 : s ≠ ⟨#[118, 111, 105, 100]⟩) (h16 : s ≠ ⟨#[114, 101, 118, 101, 114, 115, 101]⟩) (h17 : s ≠ ⟨#[109, 101, 114, 103, 101]⟩) (h18 : s ≠ ⟨#[114, 101, 98, 97, 115, 101]⟩) (h19 : s ≠ ⟨#[112, 114, 111, 109, 111, 116, 101]⟩) (h20 : s ≠ ⟨#[115, 119, 101, 101, 112]⟩) (h21 : s ≠ ⟨#[116, 114, 105, 97, 108]⟩) (h22 : s ≠ ⟨#[110, 101, 116]⟩) (h23 : s ≠ ⟨#[115, 104, 101, 101, 116]⟩) : findV s = none := by
  unfold findV
  rw [List.find?_eq_none]
  intro v hv
  simp only [verbTab, List.mem_cons, List.not_mem_nil, or_false] at hv
  rcases hv with rfl | rfl | rfl | rfl | rfl | rfl | rfl | rfl | rfl | rfl | rfl | rfl | rfl | rfl | rfl | rfl | rfl | rfl | rfl | rfl | rfl | rfl | rfl | rfl <;> simp only [decide_eq_true_eq] <;> intro h <;> subst h <;> contradiction
theorem ref_shape (s : ByteArray) (w : World) : Calls Tryz.prog 29 #[.string s] w fun e w' => e = .returned (.string (shapeB s)) ∧ Pure0 w w' := by
  refine rx_enter0 Tryz.func29 rfl { s := [s] } [.str (.v 0)] rfl 42 rfl ?_
  intro a hs0
  by_cases h0 : s = ⟨#[103, 105, 118, 101]⟩
  · subst h0
    refine run_sound mixed Γok [0, 2, 3, 4, 7, 9, 11, 13, 16, 23, 26, 28, 30, 33, 35, 37, 40] 200 [true, true] hs0 (by cbv) (by simp) ?_
    intro a1 w1 hs1
    exact ret_at Γok (.base _) hs1 (by cbv) fun k hk => ⟨rfl, hk.kept⟩
  by_cases h1 : s = ⟨#[116, 97, 107, 101]⟩
  · subst h1
    refine run_sound mixed Γok [0, 2, 3, 4, 7, 9, 11, 13, 16, 23, 26, 28, 30, 33, 35, 37, 40] 200 [false, true] hs0 (by cbv) (by simp) ?_
    intro a1 w1 hs1
    exact ret_at Γok (.base _) hs1 (by cbv) fun k hk => ⟨rfl, hk.kept⟩
  by_cases h2 : s = ⟨#[97, 99, 99, 111, 117, 110, 116]⟩
  · subst h2
    refine run_sound mixed Γok [0, 2, 3, 4, 7, 9, 11, 13, 16, 23, 26, 28, 30, 33, 35, 37, 40] 200 [false, false, true] hs0 (by cbv) (by simp) ?_
    intro a1 w1 hs1
    exact ret_at Γok (.base _) hs1 (by cbv) fun k hk => ⟨rfl, hk.kept⟩
  by_cases h3 : s = ⟨#[114, 101, 116, 105, 114, 101]⟩
  · subst h3
    refine run_sound mixed Γok [0, 2, 3, 4, 7, 9, 11, 13, 16, 23, 26, 28, 30, 33, 35, 37, 40] 200 [false, false, false, true] hs0 (by cbv) (by simp) ?_
    intro a1 w1 hs1
    exact ret_at Γok (.base _) hs1 (by cbv) fun k hk => ⟨rfl, hk.kept⟩
  by_cases h4 : s = ⟨#[103, 97, 116, 101]⟩
  · subst h4
    refine run_sound mixed Γok [0, 2, 3, 4, 7, 9, 11, 13, 16, 23, 26, 28, 30, 33, 35, 37, 40] 200 [false, false, false, false, true] hs0 (by cbv) (by simp) ?_
    intro a1 w1 hs1
    exact ret_at Γok (.base _) hs1 (by cbv) fun k hk => ⟨rfl, hk.kept⟩
  by_cases h5 : s = ⟨#[98, 114, 97, 110, 99, 104]⟩
  · subst h5
    refine run_sound mixed Γok [0, 2, 3, 4, 7, 9, 11, 13, 16, 23, 26, 28, 30, 33, 35, 37, 40] 200 [false, false, false, false, false, true, true] hs0 (by cbv) (by simp) ?_
    intro a1 w1 hs1
    exact ret_at Γok (.base _) hs1 (by cbv) fun k hk => ⟨rfl, hk.kept⟩
  by_cases h6 : s = ⟨#[100, 105, 102, 102]⟩
  · subst h6
    refine run_sound mixed Γok [0, 2, 3, 4, 7, 9, 11, 13, 16, 23, 26, 28, 30, 33, 35, 37, 40] 200 [false, false, false, false, false, false, true] hs0 (by cbv) (by simp) ?_
    intro a1 w1 hs1
    exact ret_at Γok (.base _) hs1 (by cbv) fun k hk => ⟨rfl, hk.kept⟩
  by_cases h7 : s = ⟨#[100, 114, 111, 112]⟩
  · subst h7
    refine run_sound mixed Γok [0, 2, 3, 4, 7, 9, 11, 13, 16, 23, 26, 28, 30, 33, 35, 37, 40] 200 [false, false, false, false, false, false, false, true, true] hs0 (by cbv) (by simp) ?_
    intro a1 w1 hs1
    exact ret_at Γok (.base _) hs1 (by cbv) fun k hk => ⟨rfl, hk.kept⟩
  by_cases h8 : s = ⟨#[115, 117, 98, 109, 105, 116]⟩
  · subst h8
    refine run_sound mixed Γok [0, 2, 3, 4, 7, 9, 11, 13, 16, 23, 26, 28, 30, 33, 35, 37, 40] 200 [false, false, false, false, false, false, false, false, true, true] hs0 (by cbv) (by simp) ?_
    intro a1 w1 hs1
    exact ret_at Γok (.base _) hs1 (by cbv) fun k hk => ⟨rfl, hk.kept⟩
  by_cases h9 : s = ⟨#[97, 112, 112, 114, 111, 118, 101]⟩
  · subst h9
    refine run_sound mixed Γok [0, 2, 3, 4, 7, 9, 11, 13, 16, 23, 26, 28, 30, 33, 35, 37, 40] 200 [false, false, false, false, false, false, false, false, false, true, true] hs0 (by cbv) (by simp) ?_
    intro a1 w1 hs1
    exact ret_at Γok (.base _) hs1 (by cbv) fun k hk => ⟨rfl, hk.kept⟩
  by_cases h10 : s = ⟨#[114, 101, 106, 101, 99, 116]⟩
  · subst h10
    refine run_sound mixed Γok [0, 2, 3, 4, 7, 9, 11, 13, 16, 23, 26, 28, 30, 33, 35, 37, 40] 200 [false, false, false, false, false, false, false, false, false, false, true, true] hs0 (by cbv) (by simp) ?_
    intro a1 w1 hs1
    exact ret_at Γok (.base _) hs1 (by cbv) fun k hk => ⟨rfl, hk.kept⟩
  by_cases h11 : s = ⟨#[108, 111, 103]⟩
  · subst h11
    refine run_sound mixed Γok [0, 2, 3, 4, 7, 9, 11, 13, 16, 23, 26, 28, 30, 33, 35, 37, 40] 200 [false, false, false, false, false, false, false, false, false, false, false, true, true] hs0 (by cbv) (by simp) ?_
    intro a1 w1 hs1
    exact ret_at Γok (.base _) hs1 (by cbv) fun k hk => ⟨rfl, hk.kept⟩
  by_cases h12 : s = ⟨#[112, 97, 112, 101, 114]⟩
  · subst h12
    refine run_sound mixed Γok [0, 2, 3, 4, 7, 9, 11, 13, 16, 23, 26, 28, 30, 33, 35, 37, 40] 200 [false, false, false, false, false, false, false, false, false, false, false, false, true] hs0 (by cbv) (by simp) ?_
    intro a1 w1 hs1
    exact ret_at Γok (.base _) hs1 (by cbv) fun k hk => ⟨rfl, hk.kept⟩
  by_cases h13 : s = ⟨#[112, 111, 115, 116]⟩
  · subst h13
    refine run_sound mixed Γok [0, 2, 3, 4, 7, 9, 11, 13, 16, 23, 26, 28, 30, 33, 35, 37, 40] 200 [false, false, false, false, false, false, false, false, false, false, false, false, false, true, true] hs0 (by cbv) (by simp) ?_
    intro a1 w1 hs1
    exact ret_at Γok (.base _) hs1 (by cbv) fun k hk => ⟨rfl, hk.kept⟩
  by_cases h14 : s = ⟨#[97, 109, 101, 110, 100]⟩
  · subst h14
    refine run_sound mixed Γok [0, 2, 3, 4, 7, 9, 11, 13, 16, 23, 26, 28, 30, 33, 35, 37, 40] 200 [false, false, false, false, false, false, false, false, false, false, false, false, false, false, true] hs0 (by cbv) (by simp) ?_
    intro a1 w1 hs1
    exact ret_at Γok (.base _) hs1 (by cbv) fun k hk => ⟨rfl, hk.kept⟩
  by_cases h15 : s = ⟨#[118, 111, 105, 100]⟩
  · subst h15
    refine run_sound mixed Γok [0, 2, 3, 4, 7, 9, 11, 13, 16, 23, 26, 28, 30, 33, 35, 37, 40] 200 [false, false, false, false, false, false, false, false, false, false, false, false, false, false, false, true] hs0 (by cbv) (by simp) ?_
    intro a1 w1 hs1
    exact ret_at Γok (.base _) hs1 (by cbv) fun k hk => ⟨rfl, hk.kept⟩
  by_cases h16 : s = ⟨#[114, 101, 118, 101, 114, 115, 101]⟩
  · subst h16
    refine run_sound mixed Γok [0, 2, 3, 4, 7, 9, 11, 13, 16, 23, 26, 28, 30, 33, 35, 37, 40] 200 [false, false, false, false, false, false, false, false, false, false, false, false, false, false, false, false, true] hs0 (by cbv) (by simp) ?_
    intro a1 w1 hs1
    exact ret_at Γok (.base _) hs1 (by cbv) fun k hk => ⟨rfl, hk.kept⟩
  by_cases h17 : s = ⟨#[109, 101, 114, 103, 101]⟩
  · subst h17
    refine run_sound mixed Γok [0, 2, 3, 4, 7, 9, 11, 13, 16, 23, 26, 28, 30, 33, 35, 37, 40] 200 [false, false, false, false, false, false, false, false, false, false, false, false, false, false, false, false, false, true, true] hs0 (by cbv) (by simp) ?_
    intro a1 w1 hs1
    exact ret_at Γok (.base _) hs1 (by cbv) fun k hk => ⟨rfl, hk.kept⟩
  by_cases h18 : s = ⟨#[114, 101, 98, 97, 115, 101]⟩
  · subst h18
    refine run_sound mixed Γok [0, 2, 3, 4, 7, 9, 11, 13, 16, 23, 26, 28, 30, 33, 35, 37, 40] 200 [false, false, false, false, false, false, false, false, false, false, false, false, false, false, false, false, false, false, true] hs0 (by cbv) (by simp) ?_
    intro a1 w1 hs1
    exact ret_at Γok (.base _) hs1 (by cbv) fun k hk => ⟨rfl, hk.kept⟩
  by_cases h19 : s = ⟨#[112, 114, 111, 109, 111, 116, 101]⟩
  · subst h19
    refine run_sound mixed Γok [0, 2, 3, 4, 7, 9, 11, 13, 16, 23, 26, 28, 30, 33, 35, 37, 40] 200 [false, false, false, false, false, false, false, false, false, false, false, false, false, false, false, false, false, false, false, true] hs0 (by cbv) (by simp) ?_
    intro a1 w1 hs1
    exact ret_at Γok (.base _) hs1 (by cbv) fun k hk => ⟨rfl, hk.kept⟩
  by_cases h20 : s = ⟨#[115, 119, 101, 101, 112]⟩
  · subst h20
    refine run_sound mixed Γok [0, 2, 3, 4, 7, 9, 11, 13, 16, 23, 26, 28, 30, 33, 35, 37, 40] 200 [false, false, false, false, false, false, false, false, false, false, false, false, false, false, false, false, false, false, false, false, true] hs0 (by cbv) (by simp) ?_
    intro a1 w1 hs1
    exact ret_at Γok (.base _) hs1 (by cbv) fun k hk => ⟨rfl, hk.kept⟩
  by_cases h21 : s = ⟨#[116, 114, 105, 97, 108]⟩
  · subst h21
    refine run_sound mixed Γok [0, 2, 3, 4, 7, 9, 11, 13, 16, 23, 26, 28, 30, 33, 35, 37, 40] 200 [false, false, false, false, false, false, false, false, false, false, false, false, false, false, false, false, false, false, false, false, false, true, true] hs0 (by cbv) (by simp) ?_
    intro a1 w1 hs1
    exact ret_at Γok (.base _) hs1 (by cbv) fun k hk => ⟨rfl, hk.kept⟩
  by_cases h22 : s = ⟨#[110, 101, 116]⟩
  · subst h22
    refine run_sound mixed Γok [0, 2, 3, 4, 7, 9, 11, 13, 16, 23, 26, 28, 30, 33, 35, 37, 40] 200 [false, false, false, false, false, false, false, false, false, false, false, false, false, false, false, false, false, false, false, false, false, false, true] hs0 (by cbv) (by simp) ?_
    intro a1 w1 hs1
    exact ret_at Γok (.base _) hs1 (by cbv) fun k hk => ⟨rfl, hk.kept⟩
  by_cases h23 : s = ⟨#[115, 104, 101, 101, 116]⟩
  · subst h23
    refine run_sound mixed Γok [0, 2, 3, 4, 7, 9, 11, 13, 16, 23, 26, 28, 30, 33, 35, 37, 40] 200 [false, false, false, false, false, false, false, false, false, false, false, false, false, false, false, false, false, false, false, false, false, false, false, true] hs0 (by cbv) (by simp) ?_
    intro a1 w1 hs1
    exact ret_at Γok (.base _) hs1 (by cbv) fun k hk => ⟨rfl, hk.kept⟩
  refine run_sound mixed Γok [0, 2, 3, 4, 7, 9, 11, 13, 16, 23, 26, 28, 30, 33, 35, 37, 40] 200 [false, false, false, false, false, false, false, false, false, false, false, false, false, false, false, false, false, false, false, false, false, false, false, false] hs0 (by cbv) (by simp [toList_eq_lit, h0, h1, h2, h3, h4, h5, h6, h7, h8, h9, h10, h11, h12, h13, h14, h15, h16, h17, h18, h19, h20, h21, h22, h23]) ?_
  intro a1 w1 hs1
  refine ret_at Γok (.base _) hs1 (by cbv) fun k hk => ⟨?_, hk.kept⟩
  rw [shapeB, findV_none h0 h1 h2 h3 h4 h5 h6 h7 h8 h9 h10 h11 h12 h13 h14 h15 h16 h17 h18 h19 h20 h21 h22 h23]
  rfl
theorem toList_eq_lit' : True := trivial
theorem ref_Known (s : ByteArray) (w : World) : Calls Tryz.prog 14 #[.string s] w fun e w' => e = .returned (.bool (findV s).isSome) ∧ Pure0 w w' := by
  refine rx_enter0 Tryz.func14 rfl { s := [s, shapeB s] } [.str (.v 0)] rfl 6 rfl ?_
  intro a hs0
  refine run_sound mixed Γok [0, 2] 50 [] hs0 (by cbv) (by simp) ?_
  rintro a1 w1 ⟨k, hk⟩
  refine ops_step hk rfl (wp_call hk rfl Tryz.func29 rfl rfl ?_)
  refine (ref_shape s w1).mono ?_
  rintro e w2 ⟨rfl, hp⟩
  refine ⟨_, rfl, ?_⟩
  have hk2 := (hk.pure hp).setS (.str (.v 1)) (d := 4) (v := .string (shapeB s)) (by decide) rfl
  refine run_sound mixed Γok [0, 2] 50 [] ⟨k, hk2⟩ (by cbv) (by simp) ?_
  intro a3 w3 hs3
  refine ret_at Γok (.base _) hs3 (by cbv) fun k hk => ⟨?_, hk.kept⟩
  unfold shapeB
  cases h : findV s with
  | none => simp [toList_eq_lit]
  | some v =>
    have : ∀ y ∈ verbTab, y.2.1 ≠ ⟨#[63]⟩ := by decide
    have := this v (List.mem_of_find?_eq_some h)
    simp [toList_eq_lit, this]
theorem ref_Writes (s : ByteArray) (w : World) : Calls Tryz.prog 16 #[.string s] w fun e w' => e = .returned (.bool ((findV s).any fun v => v.2.2)) ∧ Pure0 w w' := by
  refine rx_enter0 Tryz.func16 rfl { s := [s] } [.str (.v 0)] rfl 13 rfl ?_
  intro a hs0
  by_cases h0 : s = ⟨#[100, 105, 102, 102]⟩
  · subst h0
    refine run_sound mixed Γok [0, 2, 3, 4] 200 [true, true] hs0 (by cbv) (by simp) ?_
    intro a1 w1 hs1
    exact ret_at Γok (.base _) hs1 (by cbv) fun k hk => ⟨rfl, hk.kept⟩
  by_cases h1 : s = ⟨#[108, 111, 103]⟩
  · subst h1
    refine run_sound mixed Γok [0, 2, 3, 4] 200 [false, true, true] hs0 (by cbv) (by simp) ?_
    intro a1 w1 hs1
    exact ret_at Γok (.base _) hs1 (by cbv) fun k hk => ⟨rfl, hk.kept⟩
  by_cases h2 : s = ⟨#[112, 97, 112, 101, 114]⟩
  · subst h2
    refine run_sound mixed Γok [0, 2, 3, 4] 200 [false, false, true, true] hs0 (by cbv) (by simp) ?_
    intro a1 w1 hs1
    exact ret_at Γok (.base _) hs1 (by cbv) fun k hk => ⟨rfl, hk.kept⟩
  by_cases h3 : s = ⟨#[116, 114, 105, 97, 108]⟩
  · subst h3
    refine run_sound mixed Γok [0, 2, 3, 4] 200 [false, false, false, true, true] hs0 (by cbv) (by simp) ?_
    intro a1 w1 hs1
    exact ret_at Γok (.base _) hs1 (by cbv) fun k hk => ⟨rfl, hk.kept⟩
  by_cases h4 : s = ⟨#[110, 101, 116]⟩
  · subst h4
    refine run_sound mixed Γok [0, 2, 3, 4] 200 [false, false, false, false, true, true] hs0 (by cbv) (by simp) ?_
    intro a1 w1 hs1
    exact ret_at Γok (.base _) hs1 (by cbv) fun k hk => ⟨rfl, hk.kept⟩
  by_cases h5 : s = ⟨#[115, 104, 101, 101, 116]⟩
  · subst h5
    refine run_sound mixed Γok [0, 2, 3, 4] 200 [false, false, false, false, false, true] hs0 (by cbv) (by simp) ?_
    intro a1 w1 hs1
    exact ret_at Γok (.base _) hs1 (by cbv) fun k hk => ⟨rfl, hk.kept⟩
  refine run_sound mixed Γok [0, 2, 3, 4] 200 [false, false, false, false, false, false] hs0 (by cbv) (by simp [toList_eq_lit, h0, h1, h2, h3, h4, h5]) ?_
  rintro a1 w1 ⟨k, hk⟩
  refine ops_step hk rfl (wp_call hk rfl Tryz.func14 rfl rfl ?_)
  refine (ref_Known s w1).mono ?_
  rintro e w2 ⟨rfl, hp⟩
  refine ⟨_, rfl, ?_⟩
  obtain ⟨q, hq⟩ : ∃ q, q = (findV s).isSome := ⟨_, rfl⟩
  have hk2 := (hk.pure hp).setS (.bool (.c q)) (d := 12) (v := .bool (findV s).isSome) (by decide) (by simp [hq])
  refine run_sound mixed Γok [0, 2, 3, 4] 50 [] ⟨k, hk2⟩ (by cbv) (by simp) ?_
  intro a3 w3 hs3
  refine ret_at Γok (.base _) hs3 (by cbv) fun k hk => ⟨?_, hk.kept⟩
  simp only [SV.den, BE.den, retV, hq]
  congr 2
  cases h : findV s with
  | none => rfl
  | some v =>
    have hm : v ∈ verbTab := List.mem_of_find?_eq_some h
    have hn : v.1 = s := by simpa using List.find?_some h
    have hall : ∀ y ∈ verbTab, y.2.2 = true ∨ (y.1 = ⟨#[100, 105, 102, 102]⟩ ∨ y.1 = ⟨#[108, 111, 103]⟩ ∨ y.1 = ⟨#[112, 97, 112, 101, 114]⟩ ∨ y.1 = ⟨#[116, 114, 105, 97, 108]⟩ ∨ y.1 = ⟨#[110, 101, 116]⟩ ∨ y.1 = ⟨#[115, 104, 101, 101, 116]⟩) := by decide
    rcases hall v hm with h' | h' | h' | h' | h' | h' | h'
    · simp [h']
    all_goals (rw [hn] at h'; contradiction)
end Go.Proofs.YthhcbfngjmiigaaGreatDoor
