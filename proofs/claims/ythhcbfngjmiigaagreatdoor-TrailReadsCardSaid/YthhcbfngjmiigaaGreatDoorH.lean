import Derived.Test.YthhcbfngjmiigaaGreatDoorF
set_option linter.all false
namespace Go.Proofs.YthhcbfngjmiigaaGreatDoor
open Go Rx
set_option maxRecDepth 100000
theorem ref_User (s : ByteArray) (hsz : s.size ≤ 1000000) (w : World) : Calls Tryz.prog 28 #[.string s] w fun e w' => ∃ b : Bool, e = .returned (.bool b) ∧ (b = true ↔ roleOk s) ∧ Pure0 w w' := by
  refine rx_enter0 Tryz.func28 rfl { s := [s] } [.str (.v 0)] rfl 28 rfl ?_
  intro a hs
  refine run_sound mixed Γok [0, 2, 3, 7, 19] 50 [] hs (by cbv) (by simp) ?_
  intro a1 w1 hs1
  refine rx_loop (fun (n : Nat) a' w' => n ≤ s.size ∧ allLow s n ∧ Sat ⟨w, fun _ => False⟩ { s := [s], i := [(n : Int)] } [] [] ⟨28, [(3, .int .i64 (.v 0)), (2, .bool (.c false)), (0, .str (.v 0))], [], 0, []⟩ a' w') (fun n => s.size - n) 0
    ⟨Nat.zero_le _, fun _ h => absurd h (by omega), hs1.to _ _ rfl rfl (by simp) (by simp) (by simp)⟩ ?_
  rintro n a2 w2 ⟨hn, hl, hs2⟩
  by_cases h : n < s.size
  · by_cases h1 : byteAt s n < 97
    · refine run_sound mixed Γok [0, 2, 3, 7, 19] 50 [true, true] hs2 (by cbv) (by simp [h, h1]) ?_
      intro a3 w3 hs3
      refine ret_at Γok ((RetQ.base _).loop _ _) hs3 (by cbv) fun k hk => ⟨_, rfl, ?_, hk.kept⟩
      simp
      intro hh
      have := hh.1 n h
      unfold lowB at this
      omega
    · by_cases h2 : byteAt s n > 122
      · refine run_sound mixed Γok [0, 2, 3, 7, 19] 50 [true, false, true] hs2 (by cbv) (by simp [h]; omega) ?_
        intro a3 w3 hs3
        refine ret_at Γok ((RetQ.base _).loop _ _) hs3 (by cbv) fun k hk => ⟨_, rfl, ?_, hk.kept⟩
        simp
        intro hh
        have := hh.1 n h
        unfold lowB at this
        omega
      · refine run_sound mixed Γok [0, 2, 3, 7, 19] 50 [true, false, false] hs2 (by cbv) (by simp [h]; omega) ?_
        intro a3 w3 hs3
        refine ⟨n + 1, by omega, by omega, ?_, hs3.to _ _ rfl rfl (by have := wrap_id (n := (n : Int) + 1) (by omega) (by omega); simp [this]) (by simp) (by simp)⟩
        intro i hi
        by_cases hin : i < n
        · exact hl i hin
        · obtain rfl : i = n := by omega
          unfold lowB; omega
  · obtain rfl : n = s.size := by omega
    refine run_sound mixed Γok [0, 2, 3, 7, 19] 50 [false] hs2 (by cbv) (by simp) ?_
    intro a3 w3 hs3
    refine exit_in rfl rfl ?_
    by_cases h1 : 1 ≤ s.size
    · refine run_sound mixed Γok [0, 2, 3, 7, 19] 50 [true] hs3 (by cbv) (by simp; omega) ?_
      intro a4 w4 hs4
      refine ret_at Γok (.base _) hs4 (by cbv) fun k hk => ⟨_, rfl, ?_, hk.kept⟩
      simp
      constructor
      · intro h; exact ⟨hl, h1, by omega⟩
      · rintro ⟨_, _, h⟩; omega
    · refine run_sound mixed Γok [0, 2, 3, 7, 19] 50 [false] hs3 (by cbv) (by simp; omega) ?_
      intro a4 w4 hs4
      refine ret_at Γok (.base _) hs4 (by cbv) fun k hk => ⟨_, rfl, ?_, hk.kept⟩
      simp
      rintro ⟨_, h, _⟩
      omega

theorem ownStr_snoc {T c : Nat} {A : Option Addr} {ps : List ByteArray} {x : ByteArray} : ownS T 1 A (ps.length + 1) c (ps.map Value.string ++ [.string x]) = ownStr T A c (ps ++ [x]) := by simp [ownStr]
/-- The pieces between the blanks. -/
def cutGo (s : ByteArray) : Nat → Nat → Nat → List ByteArray
  | 0, _, _ => []
  | n + 1, f, i => if i = s.size ∨ byteAt s i = 32 then s.extract f i :: cutGo s n (i + 1) (i + 1) else cutGo s n f (i + 1)
theorem cutGo_len (s : ByteArray) : ∀ n f i, (cutGo s n f i).length ≤ n := by
  intro n
  induction n with
  | zero => intro f i; simp [cutGo]
  | succ n ih =>
    intro f i
    unfold cutGo
    split
    · simpa using ih _ _
    · have := ih f (i + 1); omega
theorem ref_Cut (s : ByteArray) (hsz : s.size ≤ 1000) (w : World) : Calls Tryz.prog 18 #[.string s, .int .u8 32] w fun e w' => ∃ A c, e = .returned (.slice A (cutGo s (s.size + 1) 0 0).length c) ∧ (ownStr 9 A c (cutGo s (s.size + 1) 0 0)).P w' ∧ (∀ x, (ownStr 9 A c (cutGo s (s.size + 1) 0 0)).F x → w.heap.size ≤ x) ∧ Pure0 w w' := by
  refine rx_enter0 Tryz.func18 rfl { s := [s] } [.str (.v 0), .int .u8 (.c 32)] rfl 35 rfl ?_
  intro a hs
  refine run_sound mixed Γok [0, 1, 4, 5, 6, 7, 11, 24] 50 [] hs (by cbv) (by simp) ?_
  rintro a1 w1 ⟨k1, hk1⟩
  refine rx_loop (fun (p : Nat × Nat × List ByteArray) a' w' => p.1 ≤ s.size + 1 ∧ p.2.1 ≤ p.1 ∧ p.2.2.length ≤ p.1 ∧ p.2.2 ++ cutGo s (s.size + 1 - p.1) p.2.1 p.1 = cutGo s (s.size + 1) 0 0 ∧ ∃ A c, Sat ⟨w, fun _ => False⟩ { s := [s], i := [(p.1 : Int), (p.2.1 : Int)], n := [p.2.2.length, c], a := [A] } [] [ownStr 9 A c p.2.2]
      ⟨35, [(7, .int .i64 (.v 0)), (6, .int .i64 (.v 1)), (5, .slice (.v 0) (.v 0) (.v 1)), (4, .slice .nil (.c 0) (.c 0)), (0, .str (.v 0)), (1, .int .u8 (.c 32))], [], 0, []⟩ a' w') (fun p => s.size + 1 - p.1) (0, 0, [])
      ⟨Nat.zero_le _, Nat.le_refl _, Nat.le_refl _, by simp, none, 0, k1, (hk1.addEmp 9 1 none).to _ _ rfl rfl (by simp) (by simp) (by simp)⟩ ?_
  rintro ⟨n, f, ps⟩ a2 w2 ⟨hn, hf, hps, hcut, A, c, hs2⟩
  simp only at hn hf hps hcut hs2
  by_cases h : n ≤ s.size
  · by_cases hb : n = s.size ∨ byteAt s n = 32
    · have hn63 := wrap_id (n := (n : Int) + 1) (by omega) (by omega)
      by_cases hb1 : n = s.size
      · refine run_sound mixed Γok [0, 1, 4, 5, 6, 7, 11, 24] 50 [true, true] hs2 (by cbv) (by simp [h, hb1]; omega) ?_
        rintro a3 w3 ⟨k3, hk3⟩
        refine ops_step hk3 rfl (wp_appendK (m := 1) (news := [.string (s.extract f n)]) Γok hk3 (by rfl) rfl (by simp) (Src.boxK (news := [.string (s.extract f n)]) hk3 (List.mem_cons_self ..) (by simp) rfl (by simp [Value.oneCell'])) (by simp; omega) (by omega) (by simp) ?_)
        intro A' c' w4 hk4 hc4 _
        rw [ownStr_snoc] at hk4
        have hk5 := hk4.setX { s := [s], i := [(n : Int), (f : Int)], n := [ps.length, c, ps.length + 1, c'], a := [A, A'] } (.slice (.v 1) (.v 2) (.v 3)) (d := 31) (v := .slice A' (ps.length + 1) c') (by decide) (by simp) (by simp) (by simp) (by simp)
        refine run_sound mixed Γok [0, 1, 4, 5, 6, 7, 11, 24] 50 [] ⟨k3, hk5⟩ (by cbv) (by simp) ?_
        intro a6 w6 hs6
        refine ⟨(n + 1, n + 1, ps ++ [s.extract f n]), by simp only; omega, by simp only; omega, by simp only [Nat.le_refl], by simp; omega, ?_, A', c', hs6.to _ _ rfl rfl (by simp [hn63]) (by simp) (by simp)⟩
        rw [← hcut, show s.size + 1 - n = (s.size + 1 - (n + 1)) + 1 by omega]
        simp only [cutGo, if_pos hb, List.append_assoc, List.singleton_append]
      · have hb2 : byteAt s n = 32 := hb.resolve_left hb1
        refine run_sound mixed Γok [0, 1, 4, 5, 6, 7, 11, 24] 50 [true, false, true] hs2 (by cbv) (by simp [h, hb2]; omega) ?_
        rintro a3 w3 ⟨k3, hk3⟩
        refine ops_step hk3 rfl (wp_appendK (m := 1) (news := [.string (s.extract f n)]) Γok hk3 (by rfl) rfl (by simp) (Src.boxK (news := [.string (s.extract f n)]) hk3 (List.mem_cons_self ..) (by simp) rfl (by simp [Value.oneCell'])) (by simp; omega) (by omega) (by simp) ?_)
        intro A' c' w4 hk4 hc4 _
        rw [ownStr_snoc] at hk4
        have hk5 := hk4.setX { s := [s], i := [(n : Int), (f : Int)], n := [ps.length, c, ps.length + 1, c'], a := [A, A'] } (.slice (.v 1) (.v 2) (.v 3)) (d := 31) (v := .slice A' (ps.length + 1) c') (by decide) (by simp) (by simp) (by simp) (by simp)
        refine run_sound mixed Γok [0, 1, 4, 5, 6, 7, 11, 24] 50 [] ⟨k3, hk5⟩ (by cbv) (by simp) ?_
        intro a6 w6 hs6
        refine ⟨(n + 1, n + 1, ps ++ [s.extract f n]), by simp only; omega, by simp only; omega, by simp only [Nat.le_refl], by simp; omega, ?_, A', c', hs6.to _ _ rfl rfl (by simp [hn63]) (by simp) (by simp)⟩
        rw [← hcut, show s.size + 1 - n = (s.size + 1 - (n + 1)) + 1 by omega]
        simp only [cutGo, if_pos hb, List.append_assoc, List.singleton_append]
    · have hb1 : n ≠ s.size := fun h => hb (.inl h)
      have hb2 : byteAt s n ≠ 32 := fun h => hb (.inr h)
      refine run_sound mixed Γok [0, 1, 4, 5, 6, 7, 11, 24] 50 [true, false, false] hs2 (by cbv) (by simp [h, hb2]; omega) ?_
      intro a3 w3 hs3
      refine ⟨(n + 1, f, ps), by simp only; omega, by simp only; omega, by simp only; omega, by simp only; omega, ?_, A, c, hs3.to _ _ rfl rfl (by have := wrap_id (n := (n : Int) + 1) (by omega) (by omega); simp [this]) (by simp) (by simp)⟩
      rw [← hcut, show s.size + 1 - n = (s.size + 1 - (n + 1)) + 1 by omega]
      simp only [cutGo, if_neg hb]
  · obtain rfl : n = s.size + 1 := by omega
    refine run_sound mixed Γok [0, 1, 4, 5, 6, 7, 11, 24] 50 [false] hs2 (by cbv) (by simp; omega) ?_
    intro a3 w3 hs3
    refine exit_in rfl rfl ?_
    refine run_sound mixed Γok [0, 1, 4, 5, 6, 7, 11, 24] 50 [] hs3 (by cbv) (by simp) ?_
    intro a4 w4 hs4
    have : ps = cutGo s (s.size + 1) 0 0 := by simpa [cutGo] using hcut
    subst this
    refine ret_at Γok (.base _) hs4 (by cbv) fun k hk => ⟨A, c, by simp, (hk.res _ (List.mem_append_right _ (List.mem_cons_self ..))).1, fun x hx => (hk.onew _ (List.mem_cons_self ..) x hx).resolve_right (fun h => h), hk.kept⟩
end Go.Proofs.YthhcbfngjmiigaaGreatDoor
