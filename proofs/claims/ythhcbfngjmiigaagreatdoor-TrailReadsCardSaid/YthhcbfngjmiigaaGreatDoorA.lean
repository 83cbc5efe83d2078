import Derived.Test.YthhcbfngjmiigaaGreatDoorRxE
import Derived.Test.YthhcbfngjmiigaaGreatDoorG
set_option linter.all false
namespace Go.Proofs.YthhcbfngjmiigaaGreatDoor
open Go Rx
set_option maxRecDepth 100000

theorem stringslite_HasSuffix (s t : ByteArray) (w : World) (hs : s.size ≤ 9223372036854775807) (ht : t.size ≤ 9223372036854775807) :
    Calls Tryz.prog 108 #[.string s, .string t] w fun e w' => e = .returned (.bool (decide (t.size ≤ s.size ∧ s.extract (s.size - t.size) s.size = t))) ∧ Pure0 w w' := by
  refine rx_enter0 Tryz.func108 rfl { s := [s, t] } [.str (.v 0), .str (.v 1)] rfl 21 rfl ?_
  intro a hs0
  by_cases h : t.size ≤ s.size
  · have hw : IntKind.i64.wrap ((s.size : Int) - t.size) = (s.size : Int) - t.size := wrap_id (by omega) (by omega)
    have hw2 : ((s.size : Int) - t.size).toNat = s.size - t.size := by omega
    refine run_sound mixed Γok [0, 1, 4] 50 [true] hs0 (by cbv) (by simp [h, hw]; omega) ?_
    intro a1 w1 hs1
    refine ret_at Γok (.base _) hs1 (by cbv) fun k hk => ⟨?_, hk.kept⟩
    simp [h, hw, hw2]
  · refine run_sound mixed Γok [0, 1, 4] 50 [false] hs0 (by cbv) (by simp; omega) ?_
    intro a1 w1 hs1
    refine ret_at Γok (.base _) hs1 (by cbv) fun k hk => ⟨?_, hk.kept⟩
    simp [h]
def trimSuf (s t : ByteArray) : ByteArray := if t.size ≤ s.size ∧ s.extract (s.size - t.size) s.size = t then s.extract 0 (s.size - t.size) else s
theorem stringslite_TrimSuffix (s t : ByteArray) (w : World) (hs : s.size ≤ 9223372036854775807) (ht : t.size ≤ 9223372036854775807) :
    Calls Tryz.prog 99 #[.string s, .string t] w fun e w' => e = .returned (.string (trimSuf s t)) ∧ Pure0 w w' := by
  refine rx_enter0 Tryz.func99 rfl { s := [s, t] } [.str (.v 0), .str (.v 1)] rfl 16 rfl ?_
  intro a hs0
  refine run_sound mixed Γok [0, 1, 4, 7] 50 [] hs0 (by cbv) (by simp) ?_
  rintro a1 w1 ⟨k, hk⟩
  refine ops_step hk rfl (wp_call hk rfl Tryz.func108 rfl rfl ?_)
  refine (stringslite_HasSuffix s t w1 hs ht).mono ?_
  rintro e w2 ⟨rfl, hp⟩
  refine ⟨_, rfl, ?_⟩
  have hk2 := (hk.pure hp).setS (.bool (.c (decide (t.size ≤ s.size ∧ s.extract (s.size - t.size) s.size = t)))) (d := 7) (by decide) rfl
  by_cases h : t.size ≤ s.size ∧ s.extract (s.size - t.size) s.size = t
  · simp only [trimSuf, h]
    simp only [h, and_self, decide_true] at hk2
    have hw : IntKind.i64.wrap ((s.size : Int) - t.size) = (s.size : Int) - t.size := wrap_id (by omega) (by omega)
    have hw2 : ((s.size : Int) - t.size).toNat = s.size - t.size := by omega
    refine run_sound mixed Γok [0, 1, 4, 7] 50 [] ⟨k, hk2⟩ (by cbv) (by simp [hw]; omega) ?_
    intro a3 w3 hs3
    refine ret_at Γok (.base _) hs3 (by cbv) fun k hk => ⟨?_, hk.kept⟩
    simp [hw, hw2]
  · simp only [trimSuf, h]
    simp only [h, decide_false] at hk2
    refine run_sound mixed Γok [0, 1, 4, 7] 50 [] ⟨k, hk2⟩ (by cbv) (by simp) ?_
    intro a3 w3 hs3
    refine ret_at Γok (.base _) hs3 (by cbv) fun k hk => ⟨?_, hk.kept⟩
    simp
theorem strings_TrimSuffix (s t : ByteArray) (w : World) (hs : s.size ≤ 9223372036854775807) (ht : t.size ≤ 9223372036854775807) :
    Calls Tryz.prog 73 #[.string s, .string t] w fun e w' => e = .returned (.string (trimSuf s t)) ∧ Pure0 w w' := by
  refine rx_enter0 Tryz.func73 rfl { s := [s, t] } [.str (.v 0), .str (.v 1)] rfl 8 rfl ?_
  intro a hs0
  refine run_sound mixed Γok [0, 1, 4] 50 [] hs0 (by cbv) (by simp) ?_
  rintro a1 w1 ⟨k, hk⟩
  refine ops_step hk rfl (wp_call hk rfl Tryz.func99 rfl rfl ?_)
  refine (stringslite_TrimSuffix s t w1 hs ht).mono ?_
  rintro e w2 ⟨rfl, hp⟩
  refine ⟨_, rfl, ?_⟩
  have hk2 := (hk.pure hp).setX { s := [s, t, trimSuf s t] } (.str (.v 2)) (d := 7) (by decide) rfl (by simp) (by simp) (by simp)
  refine run_sound mixed Γok [0, 1, 4] 50 [] ⟨k, hk2⟩ (by cbv) (by simp) ?_
  intro a3 w3 hs3
  refine ret_at Γok (.base _) hs3 (by cbv) fun k hk => ⟨?_, hk.kept⟩
  simp
end Go.Proofs.YthhcbfngjmiigaaGreatDoor
