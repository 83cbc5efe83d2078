import Derived.Test.YthhcbfngjmiigaaGreatDoorK
import Derived.Test.YthhcbfngjmiigaaGreatDoorV
set_option linter.all false
namespace Go.Proofs.YthhcbfngjmiigaaGreatDoor
open Go Rx
set_option maxRecDepth 100000
theorem copyTexts (A : Option Addr) (c : Nat) (xs : List ByteArray) (hn : xs.length ≤ 1000000000) (w : World) (ha : Lies (strArr A xs) w) :
    Calls Tryz.prog 22 #[.slice A xs.length c] w fun e w' => ∃ B d, e = .returned (.slice B xs.length d) ∧ (ownStr 9 B d xs).P w' ∧ (∀ x, (ownStr 9 B d xs).F x → w.heap.size ≤ x) ∧ Pure0 w w' := by
  refine rx_enter (M := fun _ => False) Tryz.func22 rfl (fun _ => 0) { n := [xs.length, c], ar := [strArr A xs] } [.slice (.arr 0 (.c 0) 0) (.v 0) (.v 1)]
    (by simp [SV.den, strArr]) (ro := [(strArr A xs).res]) (own := []) (bx := []) (nx := 0) (ar := [(0, [.str])])
    (Mem.reads _ _ _ _ (by simpa [Lies] using ha) (by simp)) 5 rfl ?_
  intro a hs0
  refine run_sound mixed Γok [0, 2] 50 [] hs0 (by cbv) (by simp) ?_
  rintro a1 w1 ⟨k1, hk1⟩
  have hk2 := hk1.addEmp 9 1 none
  refine ops_step hk2 rfl (wp_appendK (m := xs.length) (news := xs.map .string) Γok hk2 (by rfl) rfl (by rfl) (by simpa using Src.strs (P := Tryz.prog) (A := A) (xs := xs) (c := c) (hk1.res (strArr A xs).res (by simp)).1) (by simp; omega) (by omega) (by simp; exact .here (by simp)) ?_)
  intro B d w2 hk3 hd _
  have hk4 := hk3.setX { n := [xs.length, c, d], ar := [strArr A xs], a := [B] } (.slice (.v 0) (.v 0) (.v 2)) (d := 4) (v := .slice B (0 + xs.length) d) (by decide) (by simp) (by simp) (by simp) (by simp)
  refine run_sound mixed Γok [0, 2] 50 [] ⟨k1, hk4⟩ (by cbv) (by simp) ?_
  intro a5 w5 hs5
  refine ret_at Γok (.base _) hs5 (by cbv) fun k hk => ⟨B, d, by simp, ?_, ?_, hk.kept⟩
  · simpa [ownStr] using (hk.res _ (List.mem_append_right _ (List.mem_cons_self ..))).1
  · intro x hx
    refine (hk.onew _ (List.mem_cons_self ..) x ?_).resolve_right (fun h => h)
    simpa [ownStr] using hx
end Go.Proofs.YthhcbfngjmiigaaGreatDoor
