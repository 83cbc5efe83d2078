import Derived.Test.YthhcbfngjmiigaaGreatDoorRxE
import Derived.Test.YthhcbfngjmiigaaGreatDoorG
set_option linter.all false
namespace Go.Proofs.YthhcbfngjmiigaaGreatDoor
open Go Rx
set_option maxRecDepth 100000
def lowB (s : ByteArray) (i : Nat) : Prop := 97 ≤ byteAt s i ∧ byteAt s i ≤ 122
def allLow (s : ByteArray) (n : Nat) : Prop := ∀ i, i < n → lowB s i

theorem role_Valid (s : ByteArray) (hsz : s.size ≤ 1000000) (w : World) : Calls Tryz.prog 24 #[.string s] w fun e w' => ∃ b : Bool, e = .returned (.bool b) ∧ (b = true ↔ allLow s s.size ∧ 1 ≤ s.size ∧ s.size ≤ 12) ∧ Pure0 w w' := by
  refine rx_enter0 Tryz.func24 rfl { s := [s] } [.str (.v 0)] rfl 28 rfl ?_
  intro a hs
  refine run_sound mixed Γok [0, 2, 3, 5, 6, 7, 18] 50 [] hs (by cbv) (by simp) ?_
  intro a1 w1 hs1
  refine rx_loop (fun n a' w' => n ≤ s.size ∧ allLow s n ∧ Sat ⟨w, fun _ => False⟩ { s := [s], i := [(n : Int)] } [] [] ⟨28, [(6, .int .i64 (.v 0)), (5, .int .i64 (.nat (.slen (.v 0)))), (2, .bool (.c false)), (0, .str (.v 0))], [], 0, []⟩ a' w') (fun n => s.size - n) 0
    ⟨Nat.zero_le _, fun _ h => absurd h (by omega), hs1.to _ _ rfl rfl (by simp) (by simp) (by simp)⟩ ?_
  rintro n a2 w2 ⟨hn, hl, hs2⟩
  by_cases h : n < s.size
  · by_cases h1 : byteAt s n < 97
    · refine run_sound mixed Γok [0, 2, 3, 5, 6, 7, 18] 50 [true, true] hs2 (by cbv) (by simp [h, h1]) ?_
      intro a3 w3 hs3
      refine ret_at Γok ((RetQ.base _).loop _ _) hs3 (by cbv) fun k hk => ⟨_, rfl, ?_, hk.kept⟩
      simp
      intro hh
      have := hh n h
      unfold lowB at this
      omega
    · by_cases h2 : byteAt s n > 122
      · refine run_sound mixed Γok [0, 2, 3, 5, 6, 7, 18] 50 [true, false, true] hs2 (by cbv) (by simp [h]; omega) ?_
        intro a3 w3 hs3
        refine ret_at Γok ((RetQ.base _).loop _ _) hs3 (by cbv) fun k hk => ⟨_, rfl, ?_, hk.kept⟩
        simp
        intro hh
        have := hh n h
        unfold lowB at this
        omega
      · refine run_sound mixed Γok [0, 2, 3, 5, 6, 7, 18] 50 [true, false, false] hs2 (by cbv) (by simp [h]; omega) ?_
        intro a3 w3 hs3
        refine ⟨n + 1, by omega, by omega, ?_, hs3.to _ _ rfl rfl (by have := wrap_id (n := (n : Int) + 1) (by omega) (by omega); simp [this]) (by simp) (by simp)⟩
        intro i hi
        by_cases hin : i < n
        · exact hl i hin
        · obtain rfl : i = n := by omega
          unfold lowB; omega
  · obtain rfl : n = s.size := by omega
    refine run_sound mixed Γok [0, 2, 3, 5, 6, 7, 18] 50 [false] hs2 (by cbv) (by simp) ?_
    intro a3 w3 hs3
    refine exit_in rfl rfl ?_
    by_cases h1 : 1 ≤ s.size
    · refine run_sound mixed Γok [0, 2, 3, 5, 6, 7, 18] 50 [true] hs3 (by cbv) (by simp; omega) ?_
      intro a4 w4 hs4
      refine ret_at Γok (.base _) hs4 (by cbv) fun k hk => ⟨_, rfl, ?_, hk.kept⟩
      simp
      constructor
      · intro h; exact ⟨hl, h1, by omega⟩
      · rintro ⟨_, _, h⟩; omega
    · refine run_sound mixed Γok [0, 2, 3, 5, 6, 7, 18] 50 [false] hs3 (by cbv) (by simp; omega) ?_
      intro a4 w4 hs4
      refine ret_at Γok (.base _) hs4 (by cbv) fun k hk => ⟨_, rfl, ?_, hk.kept⟩
      simp
      omega
theorem SameTexts (A B : Option Addr) (c d : Nat) (xs ys : List ByteArray) (hx : xs.length ≤ 1000000) (w : World) (ha : Lies (strArr A xs) w) (hb : Lies (strArr B ys) w) :
    Calls Tryz.prog 12 #[.slice A xs.length c, .slice B ys.length d] w fun e w' => e = .returned (.bool (decide (xs = ys))) ∧ Pure0 w w' := by
  refine rx_enter (M := fun _ => False) Tryz.func12 rfl (fun _ => 0) { n := [xs.length, c, ys.length, d], ar := [strArr A xs, strArr B ys] } [.slice (.arr 0 (.c 0) 0) (.v 0) (.v 1), .slice (.arr 1 (.c 0) 0) (.v 2) (.v 3)]
    (by simp [SV.den, strArr, add_zero]) (ro := [(strArr A xs).res, (strArr B ys).res]) (own := []) (bx := []) (nx := 0) (ar := [(0, [.str]), (1, [.str])])
    (Mem.reads _ _ _ _ (by simpa [Lies] using ⟨ha, hb⟩) (by simp)) 27 rfl ?_
  intro a hs
  by_cases hl : xs.length = ys.length
  · refine run_sound mixed Γok [0, 1, 4, 5, 10, 14, 26] 50 [false] hs (by cbv) (by simp [hl]) ?_
    intro a1 w1 hs1
    refine rx_loop (fun n a' w' => n ≤ xs.length ∧ (∀ i, i < n → xs[i]? = ys[i]?) ∧ Sat ⟨w, fun _ => False⟩ { i := [(n : Int)], n := [xs.length, c, ys.length, d], ar := [strArr A xs, strArr B ys] } [(strArr A xs).res, (strArr B ys).res] [] ⟨27, [(5, .int .i64 (.v 0)), (0, .slice (.arr 0 (.c 0) 0) (.v 0) (.v 1)), (1, .slice (.arr 1 (.c 0) 0) (.v 2) (.v 3))], [], 0, [(0, [.str]), (1, [.str])]⟩ a' w') (fun n => xs.length - n) 0
      ⟨Nat.zero_le _, fun _ h => absurd h (by omega), hs1.to _ _ rfl rfl (by simp) (by simp) (by simp)⟩ ?_
    rintro n a2 w2 ⟨hn, hl2, hs2⟩
    by_cases h : n < xs.length
    · have h' : n < ys.length := by omega
      by_cases he : xs[n] = ys[n]
      · refine run_sound mixed Γok [0, 1, 4, 5, 10, 14, 26] 50 [true, false] hs2 (by cbv) (by simp [h, h', he]) ?_
        intro a3 w3 hs3
        refine ⟨n + 1, by omega, by omega, ?_, hs3.to _ _ rfl rfl (by have := wrap_id (n := (n : Int) + 1) (by omega) (by omega); simp [this]) (by simp) (by simp)⟩
        intro i hi
        by_cases hin : i < n
        · exact hl2 i hin
        · obtain rfl : i = n := by omega
          simp [h, h', he]
      · refine run_sound mixed Γok [0, 1, 4, 5, 10, 14, 26] 50 [true, true] hs2 (by cbv) (by simp [h, h', he]) ?_
        intro a3 w3 hs3
        refine ret_at Γok ((RetQ.base _).loop _ _) hs3 (by cbv) fun k hk => ⟨?_, hk.kept⟩
        simp
        rintro rfl
        exact he rfl
    · obtain rfl : n = xs.length := by omega
      refine run_sound mixed Γok [0, 1, 4, 5, 10, 14, 26] 50 [false] hs2 (by cbv) (by simp) ?_
      intro a3 w3 hs3
      refine exit_in rfl rfl ?_
      refine run_sound mixed Γok [0, 1, 4, 5, 10, 14, 26] 50 [] hs3 (by cbv) (by simp) ?_
      intro a4 w4 hs4
      refine ret_at Γok (.base _) hs4 (by cbv) fun k hk => ⟨?_, hk.kept⟩
      simp
      apply List.ext_getElem? 
      intro i
      by_cases hi : i < xs.length
      · exact hl2 i hi
      · rw [List.getElem?_eq_none (by omega), List.getElem?_eq_none (by omega)]
  · refine run_sound mixed Γok [0, 1, 4, 5, 10, 14, 26] 50 [true] hs (by cbv) (by simp; omega) ?_
    intro a1 w1 hs1
    refine ret_at Γok (.base _) hs1 (by cbv) fun k hk => ⟨?_, hk.kept⟩
    simp
    rintro rfl
    exact hl rfl
end Go.Proofs.YthhcbfngjmiigaaGreatDoor
