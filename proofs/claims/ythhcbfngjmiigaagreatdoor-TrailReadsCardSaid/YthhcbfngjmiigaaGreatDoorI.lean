import Derived.Test.YthhcbfngjmiigaaGreatDoorH
set_option linter.all false
namespace Go.Proofs.YthhcbfngjmiigaaGreatDoor
open Go Rx
set_option maxRecDepth 100000
def starB (sh : ByteArray) : Prop := 0 < sh.size ∧ byteAt sh ((sh.size : Int) - 1) = 42
def countOk (sh : ByteArray) (n : Nat) : Prop := (starB sh ∧ sh.size ≤ n + 1 ∧ n ≤ sh.size + 7) ∨ (¬ starB sh ∧ n = sh.size)
def sumL (xs : List ByteArray) : Nat := (xs.map fun x => x.size + 1).sum
def rightOk (b v : ByteArray) (xs : List ByteArray) : Prop := roleOk b ∧ (findV v).isSome = true ∧ countOk (shapeB v) xs.length ∧ (∀ x ∈ xs, wordOk x) ∧ b.size + 1 + v.size + sumL xs ≤ 300
theorem sumL_le (xs : List ByteArray) (b : Nat) (h : ∀ x ∈ xs, x.size ≤ b) : sumL xs ≤ xs.length * (b + 1) := by
  unfold sumL
  induction xs with
  | nil => simp
  | cons x l ih =>
    have h1 := h x (by simp)
    have h2 := ih fun y hy => h y (by simp [hy])
    simp only [List.map_cons, List.sum_cons, List.length_cons, Nat.succ_mul]
    omega
theorem shapeB_size (s : ByteArray) : (shapeB s).size ≤ 100 := by
  unfold shapeB
  cases h : findV s with
  | none => simp; decide
  | some v => exact findV_size h
set_option maxHeartbeats 1000000 in
theorem ref_Right (by_ vb : ByteArray) (A : Option Addr) (c : Nat) (xs : List ByteArray) (w : World) (ha : Lies (strArr A xs) w) (hn : xs.length ≤ 900) (hx : ∀ x ∈ xs, x.size ≤ 1000000) (hb : by_.size ≤ 1000000) (hv : vb.size ≤ 1000000) :
    Calls Tryz.prog 10 #[.agg #[.string by_, .string vb, .slice A xs.length c]] w fun e w' => ∃ b : Bool, e = .returned (.bool b) ∧ (b = true ↔ rightOk by_ vb xs) ∧ Pure0 w w' := by
  refine rx_enter (M := fun _ => False) Tryz.func10 rfl (fun _ => 0) { n := [xs.length, c], s := [by_, vb, shapeB vb], ar := [strArr A xs] } [.agg [.str (.v 0), .str (.v 1), .slice (.arr 0 (.c 0) 0) (.v 0) (.v 1)]]
    (by simp [SV.den, strArr]) (ro := [(strArr A xs).res]) (own := []) (bx := []) (nx := 0) (ar := [(0, [.str])])
    (Mem.reads _ _ _ _ (by simpa [Lies] using ha) (by simp)) 105 rfl ?_
  intro a hs0
  refine run_sound mixed Γok [0, 1, 2, 3, 4, 5, 6, 7, 25, 39, 55, 61, 66, 81, 85, 97] 50 [] hs0 (by cbv) (by simp) ?_
  rintro a1 w1 ⟨k1, hk1⟩
  refine ops_step hk1 rfl (wp_call hk1 rfl Tryz.func28 rfl rfl ?_)
  refine (ref_User by_ (by omega) w1).mono ?_
  rintro e w2 ⟨ub, rfl, hub, hp⟩
  refine ⟨_, rfl, ?_⟩
  have hk2 := (hk1.pure hp).setS (.bool (.c ub)) (d := 18) (v := .bool ub) (by decide) rfl
  cases ub with
  | false =>
    refine run_sound mixed Γok [0, 1, 2, 3, 4, 5, 6, 7, 25, 39, 55, 61, 66, 81, 85, 97] 50 [] ⟨k1, hk2⟩ (by cbv) (by simp) ?_
    intro a3 w3 hs3
    exact ret_at Γok (.base _) hs3 (by cbv) fun k hk => ⟨_, rfl, (by simp; intro h; exact absurd (hub.2 h.1) (by simp)), hk.kept⟩
  | true =>
    have hro : roleOk by_ := hub.1 rfl
    refine run_sound mixed Γok [0, 1, 2, 3, 4, 5, 6, 7, 25, 39, 55, 61, 66, 81, 85, 97] 50 [] ⟨k1, hk2⟩ (by cbv) (by simp) ?_
    rintro a3 w3 ⟨k3, hk3⟩
    refine ops_step hk3 rfl (wp_call hk3 rfl Tryz.func14 rfl rfl ?_)
    refine (ref_Known vb w3).mono ?_
    rintro e w4 ⟨rfl, hp4⟩
    refine ⟨_, rfl, ?_⟩
    obtain ⟨kb, hkb⟩ : ∃ kb, kb = (findV vb).isSome := ⟨_, rfl⟩
    have hk4 := (hk3.pure hp4).setS (.bool (.c kb)) (d := 23) (v := .bool (findV vb).isSome) (by decide) (by simp [hkb])
    cases kb with
    | false =>
      refine run_sound mixed Γok [0, 1, 2, 3, 4, 5, 6, 7, 25, 39, 55, 61, 66, 81, 85, 97] 50 [] ⟨k3, hk4⟩ (by cbv) (by simp) ?_
      intro a5 w5 hs5
      exact ret_at Γok (.base _) hs5 (by cbv) fun k hk => ⟨_, rfl, (by simp; intro h; rw [h.2.1] at hkb; cases hkb), hk.kept⟩
    | true =>
      refine run_sound mixed Γok [0, 1, 2, 3, 4, 5, 6, 7, 25, 39, 55, 61, 66, 81, 85, 97] 50 [] ⟨k3, hk4⟩ (by cbv) (by simp) ?_
      rintro a5 w5 ⟨k5, hk5⟩
      refine ops_step hk5 rfl (wp_call hk5 rfl Tryz.func29 rfl rfl ?_)
      refine (ref_shape vb w5).mono ?_
      rintro e w6 ⟨rfl, hp6⟩
      refine ⟨_, rfl, ?_⟩
      have hk6 := (hk5.pure hp6).setS (.str (.v 2)) (d := 28) (v := .string (shapeB vb)) (by decide) rfl
      have hsh := shapeB_size vb
      -- behind the count
      have wl : ∀ z : Int, -5000000 ≤ z → z ≤ 5000000000 → IntKind.i64.wrap z = z := fun z h1 h2 => wrap_id (by omega) (by omega)
      have e1 := wl ((shapeB vb).size - 1 : Int) (by omega) (by omega)
      have e2 := wl ((shapeB vb).size + 7 : Int) (by omega) (by omega)
      have e3 := wl (by_.size + 1 : Int) (by omega) (by omega)
      have e4 := wl (by_.size + 1 + vb.size : Int) (by omega) (by omega)
      apply rx_fork (P := Tryz.prog) (fun a' w' => countOk (shapeB vb) xs.length ∧ Sat ⟨w, fun _ => False⟩ { n := [xs.length, c], s := [by_, vb], i := [0, ((by_.size + 1 + vb.size : Nat) : Int)], ar := [strArr A xs] } [(strArr A xs).res] []
        ⟨105, [(5, .int .i64 (.v 0)), (3, .int .i64 (.v 1)), (2, .bool (.c false)), (1, .ptr (.box 0 0))], [⟨0, 39, [.str (.v 0), .str (.v 1), .slice (.arr 0 (.c 0) 0) (.v 0) (.v 1)]⟩], 1, [(0, [.str])]⟩ a' w')
      case h =>
        intro H
        by_cases h3 : 0 < (shapeB vb).size
        · by_cases h4 : byteAt (shapeB vb) ((shapeB vb).size - 1) = 42
          · have hst : starB (shapeB vb) := ⟨h3, h4⟩
            by_cases h5 : (shapeB vb).size ≤ xs.length + 1
            · by_cases h6 : xs.length ≤ (shapeB vb).size + 7
              · refine run_sound mixed Γok [0, 1, 2, 3, 4, 5, 6, 7, 25, 39, 55, 61, 66, 81, 85, 97] 60 [true, true, false, false] ⟨k5, hk6⟩ (by cbv) (by simp [h3, h4, e1, e2]; omega) ?_
                intro a7 w7 hs7
                exact H _ _ ⟨.inl ⟨hst, h5, h6⟩, hs7.to _ _ rfl rfl (by simp [e3, e4]) (by simp) (by simp)⟩
              · refine run_sound mixed Γok [0, 1, 2, 3, 4, 5, 6, 7, 25, 39, 55, 61, 66, 81, 85, 97] 60 [true, true, false, true] ⟨k5, hk6⟩ (by cbv) (by simp [h3, h4, e1, e2]; omega) ?_
                intro a7 w7 hs7
                refine ret_at Γok (.base _) hs7 (by cbv) fun k hk => ⟨_, rfl, ?_, hk.kept⟩
                simp
                rintro ⟨_, _, h | h, _⟩
                · omega
                · exact h.1 hst
            · refine run_sound mixed Γok [0, 1, 2, 3, 4, 5, 6, 7, 25, 39, 55, 61, 66, 81, 85, 97] 60 [true, true, true] ⟨k5, hk6⟩ (by cbv) (by simp [h3, h4, e1, e2]; omega) ?_
              intro a7 w7 hs7
              refine ret_at Γok (.base _) hs7 (by cbv) fun k hk => ⟨_, rfl, ?_, hk.kept⟩
              simp
              rintro ⟨_, _, h | h, _⟩
              · omega
              · exact h.1 hst
          · have hst : ¬ starB (shapeB vb) := fun h => h4 h.2
            by_cases h5 : xs.length = (shapeB vb).size
            · refine run_sound mixed Γok [0, 1, 2, 3, 4, 5, 6, 7, 25, 39, 55, 61, 66, 81, 85, 97] 60 [true, false, false] ⟨k5, hk6⟩ (by cbv) (by simp [h3, h4, e1, e2, h5]; omega) ?_
              intro a7 w7 hs7
              exact H _ _ ⟨.inr ⟨hst, h5⟩, hs7.to _ _ rfl rfl (by simp [e3, e4]) (by simp) (by simp)⟩
            · refine run_sound mixed Γok [0, 1, 2, 3, 4, 5, 6, 7, 25, 39, 55, 61, 66, 81, 85, 97] 60 [true, false, true] ⟨k5, hk6⟩ (by cbv) (by simp [h3, h4, e1, e2]; omega) ?_
              intro a7 w7 hs7
              refine ret_at Γok (.base _) hs7 (by cbv) fun k hk => ⟨_, rfl, ?_, hk.kept⟩
              simp
              rintro ⟨_, _, h | h, _⟩
              · exact hst h.1
              · exact h5 h.2
        · have hst : ¬ starB (shapeB vb) := fun h => h3 h.1
          have hz : shapeB vb = ByteArray.empty := ByteArray.size_eq_zero_iff.1 (by omega)
          by_cases h5 : xs.length = (shapeB vb).size
          · refine run_sound mixed Γok [0, 1, 2, 3, 4, 5, 6, 7, 25, 39, 55, 61, 66, 81, 85, 97] 60 [false, false] ⟨k5, hk6⟩ (by cbv) (by simp [hz]; simpa [hz] using h5) ?_
            intro a7 w7 hs7
            exact H _ _ ⟨.inr ⟨hst, h5⟩, hs7.to _ _ rfl rfl (by simp [e3, e4]) (by simp) (by simp)⟩
          · refine run_sound mixed Γok [0, 1, 2, 3, 4, 5, 6, 7, 25, 39, 55, 61, 66, 81, 85, 97] 60 [false, true] ⟨k5, hk6⟩ (by cbv) (by simp [hz]; simpa [hz] using h5) ?_
            intro a7 w7 hs7
            refine ret_at Γok (.base _) hs7 (by cbv) fun k hk => ⟨_, rfl, ?_, hk.kept⟩
            simp
            rintro ⟨_, _, h | h, _⟩
            · exact hst h.1
            · exact h5 h.2
      case hI =>
        rintro a7 w7 ⟨hco, hs7⟩
        refine rx_loop (fun (m : Nat) a' w' => m ≤ xs.length ∧ (∀ i x, i < m → xs[i]? = some x → wordOk x) ∧ Sat ⟨w, fun _ => False⟩ { n := [xs.length, c], s := [by_, vb], i := [(m : Int), ((by_.size + 1 + vb.size + sumL (xs.take m) : Nat) : Int)], ar := [strArr A xs] } [(strArr A xs).res] []
          ⟨105, [(5, .int .i64 (.v 0)), (3, .int .i64 (.v 1)), (2, .bool (.c false)), (1, .ptr (.box 0 0))], [⟨0, 39, [.str (.v 0), .str (.v 1), .slice (.arr 0 (.c 0) 0) (.v 0) (.v 1)]⟩], 1, [(0, [.str])]⟩ a' w') (fun m => xs.length - m) 0
          ⟨Nat.zero_le _, fun _ _ h => absurd h (by omega), hs7.to _ _ rfl rfl (by simp [sumL]) (by simp) (by simp)⟩ ?_
        rintro m a8 w8 ⟨hm, hwd, hs8⟩
        by_cases h : m < xs.length
        · have hsz := hx _ (List.getElem_mem h)
          have hnot : ¬ wordOk (xs[m]'h) → (false = true ↔ rightOk by_ vb xs) := fun hno => by
            simp
            intro hr
            exact hno (hr.2.2.2.1 _ (List.getElem_mem h))
          by_cases hw1 : 1 ≤ xs[m].size
          · by_cases hw2 : xs[m].size ≤ 240
            · refine run_sound mixed Γok [0, 1, 2, 3, 4, 5, 6, 7, 25, 39, 55, 61, 66, 81, 85, 97] 60 [true, false, false] hs8 (by cbv) (by simp [h]; omega) ?_
              intro a9 w9 hs9
              refine rx_loop (fun (j : Nat) a' w' => j ≤ xs[m].size ∧ (∀ i, i < j → 33 ≤ byteAt xs[m] i ∧ byteAt xs[m] i ≤ 126) ∧ Sat ⟨w, fun _ => False⟩ { n := [xs.length, c], s := [by_, vb, xs[m]], i := [(m : Int), ((by_.size + 1 + vb.size + sumL (xs.take m) : Nat) : Int), (j : Int)], ar := [strArr A xs] } [(strArr A xs).res] []
                ⟨105, [(7, .int .i64 (.v 2)), (6, .str (.v 2)), (5, .int .i64 (.v 0)), (3, .int .i64 (.v 1)), (2, .bool (.c false)), (1, .ptr (.box 0 0))], [⟨0, 39, [.str (.v 0), .str (.v 1), .slice (.arr 0 (.c 0) 0) (.v 0) (.v 1)]⟩], 1, [(0, [.str])]⟩ a' w') (fun j => xs[m].size - j) 0
                ⟨Nat.zero_le _, fun _ h => absurd h (by omega), hs9.to _ _ rfl rfl (by simp [h]) (by simp) (by simp)⟩ ?_
              rintro j a10 w10 ⟨hj, hby, hs10⟩
              by_cases hjj : j < xs[m].size
              · by_cases hb1 : byteAt xs[m] j < 33
                · refine run_sound mixed Γok [0, 1, 2, 3, 4, 5, 6, 7, 25, 39, 55, 61, 66, 81, 85, 97] 60 [true, true] hs10 (by cbv) (by simp [hjj, hb1]) ?_
                  intro a11 w11 hs11
                  refine ret_at Γok (((RetQ.base _).loop _ _).loop _ _) hs11 (by cbv) fun k hk => ⟨_, rfl, ?_, hk.kept⟩
                  exact hnot fun hw => by have := (hw.1 j hjj).1; omega
                · by_cases hb2 : byteAt xs[m] j > 126
                  · refine run_sound mixed Γok [0, 1, 2, 3, 4, 5, 6, 7, 25, 39, 55, 61, 66, 81, 85, 97] 60 [true, false, true] hs10 (by cbv) (by simp [hjj]; omega) ?_
                    intro a11 w11 hs11
                    refine ret_at Γok (((RetQ.base _).loop _ _).loop _ _) hs11 (by cbv) fun k hk => ⟨_, rfl, ?_, hk.kept⟩
                    exact hnot fun hw => by have := (hw.1 j hjj).2; omega
                  · refine run_sound mixed Γok [0, 1, 2, 3, 4, 5, 6, 7, 25, 39, 55, 61, 66, 81, 85, 97] 60 [true, false, false] hs10 (by cbv) (by simp [hjj]; omega) ?_
                    intro a11 w11 hs11
                    refine ⟨j + 1, by omega, by omega, ?_, hs11.to _ _ rfl rfl (by have := wrap_id (n := (j : Int) + 1) (by omega) (by omega); simp [this]) (by simp) (by simp)⟩
                    intro i hi
                    by_cases hij : i < j
                    · exact hby i hij
                    · obtain rfl : i = j := by omega
                      omega
              · obtain rfl : j = xs[m].size := by omega
                have hwm : wordOk xs[m] := ⟨hby, hw1, hw2⟩
                have hs1 : sumL (xs.take (m + 1)) = sumL (xs.take m) + (xs[m].size + 1) := by
                  unfold sumL
                  rw [List.take_add_one, List.getElem?_eq_getElem h]
                  simp only [Option.toList_some, List.map_append, List.map_cons, List.map_nil, List.sum_append, List.sum_cons, List.sum_nil]
                  omega
                have hs2 := sumL_le (xs.take m) 1000000 (fun x hx' => hx x (List.mem_of_mem_take hx'))
                have hs3 : (xs.take m).length ≤ 900 := by simp; omega
                have hs4 : sumL (xs.take m) ≤ 900 * 1000001 := Nat.le_trans hs2 (Nat.mul_le_mul_right _ hs3)
                have q1 := wl ((by_.size + 1 + vb.size + sumL (xs.take m) : Nat) + 1 : Int) (by omega) (by omega)
                have q2 := wl ((by_.size + 1 + vb.size + sumL (xs.take m) : Nat) + 1 + xs[m].size : Int) (by omega) (by omega)
                have q3 := wl ((m : Int) + 1) (by omega) (by omega)
                refine run_sound mixed Γok [0, 1, 2, 3, 4, 5, 6, 7, 25, 39, 55, 61, 66, 81, 85, 97] 60 [false] hs10 (by cbv) (by simp) ?_
                intro a11 w11 hs11
                refine exit_in rfl rfl ?_
                refine run_sound mixed Γok [0, 1, 2, 3, 4, 5, 6, 7, 25, 39, 55, 61, 66, 81, 85, 97] 60 [] hs11 (by cbv) (by simp) ?_
                intro a12 w12 hs12
                refine ⟨m + 1, by omega, by omega, ?_, hs12.to _ _ rfl rfl (by intro k; simp [q3, hs1]; push_cast at q1 q2; rw [q1, q2]; omega) (by simp) (by simp)⟩
                intro i x hi hix
                by_cases him : i < m
                · exact hwd i x him hix
                · obtain rfl : i = m := by omega
                  rw [List.getElem?_eq_getElem h] at hix
                  cases hix
                  exact hwm
            · refine run_sound mixed Γok [0, 1, 2, 3, 4, 5, 6, 7, 25, 39, 55, 61, 66, 81, 85, 97] 60 [true, false, true] hs8 (by cbv) (by simp [h]; omega) ?_
              intro a9 w9 hs9
              refine ret_at Γok ((RetQ.base _).loop _ _) hs9 (by cbv) fun k hk => ⟨_, rfl, ?_, hk.kept⟩
              exact hnot fun hw => hw2 hw.2.2
          · refine run_sound mixed Γok [0, 1, 2, 3, 4, 5, 6, 7, 25, 39, 55, 61, 66, 81, 85, 97] 60 [true, true] hs8 (by cbv) (by simp [h]; omega) ?_
            intro a9 w9 hs9
            refine ret_at Γok ((RetQ.base _).loop _ _) hs9 (by cbv) fun k hk => ⟨_, rfl, ?_, hk.kept⟩
            exact hnot fun hw => hw1 hw.2.1
        · obtain rfl : m = xs.length := by omega
          refine run_sound mixed Γok [0, 1, 2, 3, 4, 5, 6, 7, 25, 39, 55, 61, 66, 81, 85, 97] 60 [false] hs8 (by cbv) (by simp) ?_
          intro a9 w9 hs9
          refine exit_in rfl rfl ?_
          refine run_sound mixed Γok [0, 1, 2, 3, 4, 5, 6, 7, 25, 39, 55, 61, 66, 81, 85, 97] 60 [] hs9 (by cbv) (by simp) ?_
          intro a10 w10 hs10
          refine ret_at Γok (.base _) hs10 (by cbv) fun k hk => ⟨_, rfl, ?_, hk.kept⟩
          simp
          constructor
          · intro hle
            refine ⟨hro, hkb.symm, hco, ?_, by omega⟩
            intro x hx
            obtain ⟨i, hi, rfl⟩ := List.getElem_of_mem hx
            exact hwd i _ hi (List.getElem?_eq_getElem hi)
          · rintro ⟨_, _, _, _, h⟩
            omega
end Go.Proofs.YthhcbfngjmiigaaGreatDoor
