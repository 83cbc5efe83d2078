import Derived.Test.YthhcbfngjmiigaaGreatDoorRxE
import Derived.Laws.BytesArg
import Derived.Test.YthhcbfngjmiigaaGreatDoorG
set_option linter.all false
namespace Go.Proofs.YthhcbfngjmiigaaGreatDoor
open Go Rx
set_option maxRecDepth 100000
def nmL (i k : Int) : List Int :=
  [109, IntKind.u8.wrap (IntKind.i64.wrap (65 + i.tmod 26)), IntKind.u8.wrap (IntKind.i64.wrap (65 + (IntKind.i64.wrap (i.tdiv 26)).tmod 26)), IntKind.u8.wrap (IntKind.i64.wrap (48 + k.tmod 10)),
   IntKind.u8.wrap (IntKind.i64.wrap (48 + (IntKind.i64.wrap (k.tdiv 10)).tmod 10)), IntKind.u8.wrap (IntKind.i64.wrap (48 + (IntKind.i64.wrap (k.tdiv 100)).tmod 10))]
def nameB (i k : Int) : ByteArray := strOfNums (nmL i k)
theorem nameB_size (i k : Int) : (nameB i k).size = 6 := by simp [nameB, strOfNums_size, nmL]
theorem book_name (i k : Int) (w : World) : Calls Tryz.prog 103 #[.int .i64 i, .int .i64 k] w fun e w' => e = .returned (.string (nameB i k)) ∧ Pure0 w w' := by
  refine rx_enter0 Tryz.func103 rfl { i := [i, k] } [.int .i64 (.v 0), .int .i64 (.v 1)] rfl 30 rfl ?_
  intro a hs0
  refine run_sound mixed Γok [0, 1, 4] 50 [] hs0 (by cbv) (by simp) ?_
  rintro a1 w1 ⟨k1, hk1⟩
  have hb : w1.heap[k1 0]? = some (.cells ((nmL i k).map (Value.int .u8)).toArray 5 (0, 0)) := hk1.box _ (List.mem_cons_self ..)
  refine ops_step hk1 rfl (wp_value (w' := w1) (v := .string (nameB i k)) ?_ ?_)
  · have hx := hk1.ev (x := .tmp 28) rfl
    simp only [execOp, Sem.run_bind, hx, SV.den, AE.den, NE.den]
    rw [run_convert_bytes_arg w1 89 5 Tryz.underlying89 Tryz.underlying5 (k1 0) 0 6 6 (nmL i k) rfl (by
      intro j hj
      rw [cell?_of hb]
      have : j = 0 ∨ j = 1 ∨ j = 2 ∨ j = 3 ∨ j = 4 ∨ j = 5 := by omega
      rcases this with rfl | rfl | rfl | rfl | rfl | rfl <;> rfl) 9 Tryz.underlying9]
    rfl
  · have hk2 := hk1.setX { i := [i, k], s := [nameB i k] } (.str (.v 0)) (d := 29) (v := .string (nameB i k)) (by decide) (by simp) (by simp) (by simp) (by simp)
    refine run_sound mixed Γok [0, 1, 4] 50 [] ⟨k1, hk2⟩ (by cbv) (by simp) ?_
    intro a3 w3 hs3
    exact ret_at Γok (.base _) hs3 (by cbv) fun k hk => ⟨by simp, hk.kept⟩

/-- The marks. -/
def marks (i f : Int) (n : Nat) : List ByteArray := (List.range n).map fun (j : Nat) => nameB i (f + j)
theorem marks_succ (i f : Int) (n : Nat) : marks i f (n + 1) = marks i f n ++ [nameB i (f + n)] := by simp [marks, List.range_succ]
@[simp] theorem marks_len (i f : Int) (n : Nat) : (marks i f n).length = n := by simp [marks]
theorem ownStr_snoc' {T c : Nat} {A : Option Addr} {ps : List ByteArray} {x : ByteArray} : ownS T 1 A (ps.length + 1) c (ps.map Value.string ++ [.string x]) = ownStr T A c (ps ++ [x]) := by simp [ownStr]
theorem markTexts (i f : Int) (n : Nat) (hf : 0 ≤ f) (hf2 : f ≤ 1000000000) (hn : n ≤ 1000000000) (w : World) :
    Calls Tryz.prog 88 #[.int .i64 i, .int .i64 f, .int .i64 n] w fun e w' => ∃ A c, e = .returned (.slice A n c) ∧ (ownStr 9 A c (marks i f n)).P w' ∧ (∀ x, (ownStr 9 A c (marks i f n)).F x → w.heap.size ≤ x) ∧ Pure0 w w' := by
  refine rx_enter0 Tryz.func88 rfl { i := [i, f, n] } [.int .i64 (.v 0), .int .i64 (.v 1), .int .i64 (.v 2)] rfl 24 rfl ?_
  intro a hs
  refine run_sound mixed Γok [0, 1, 2, 6, 7, 8, 14] 50 [] hs (by cbv) (by simp) ?_
  rintro a1 w1 ⟨k1, hk1⟩
  have e1 := wrap_id (n := f + (n : Int)) (by omega) (by omega)
  refine rx_loop (fun (j : Nat) a' w' => j ≤ n ∧ ∃ A c, Sat ⟨w, fun _ => False⟩ { i := [i, f, n, f + j], n := [j, c], a := [A] } [] [ownStr 9 A c (marks i f j)]
      ⟨24, [(8, .int .i64 (.v 3)), (7, .slice (.v 0) (.v 0) (.v 1)), (6, .slice .nil (.c 0) (.c 0)), (0, .int .i64 (.v 0)), (1, .int .i64 (.v 1)), (2, .int .i64 (.v 2))], [], 0, []⟩ a' w') (fun j => n - j) 0
      ⟨Nat.zero_le _, none, 0, k1, (hk1.addEmp 9 1 none).to _ _ rfl rfl (by simp) (by simp) (by simp)⟩ ?_
  rintro j a2 w2 ⟨hj, A, c, hs2⟩
  by_cases h : j < n
  · refine run_sound mixed Γok [0, 1, 2, 6, 7, 8, 14] 50 [true] hs2 (by cbv) (by simp [e1]; omega) ?_
    rintro a3 w3 ⟨k3, hk3⟩
    refine ops_step hk3 rfl (wp_callA (args := [.int .i64 i, .int .i64 (f + j)]) hk3 rfl Tryz.func103 rfl rfl (by simp) ?_)
    refine (book_name i (f + j) w3).mono ?_
    rintro e w4 ⟨rfl, hp⟩
    refine ⟨_, rfl, ?_⟩
    have hk4 := (hk3.pure hp).setX { i := [i, f, n, f + j], n := [j, c], a := [A], s := [nameB i (f + j)] } (.str (.v 0)) (d := 20) (v := .string (nameB i (f + j))) (by decide) (by simp) (by simp) (by simp) (by simp)
    refine run_sound mixed Γok [0, 1, 2, 6, 7, 8, 14] 50 [] ⟨k3, hk4⟩ (by cbv) (by simp) ?_
    rintro a5 w5 ⟨k5, hk5⟩
    have hk5' : SatK _ _ _ [] [ownS 9 1 A (marks i f j).length c ((marks i f j).map Value.string)] _ _ _ := hk5
    refine ops_step hk5' rfl (wp_appendK (m := 1) (news := [.string (nameB i (f + j))]) Γok hk5' (by rfl) rfl (by simp) (Src.boxK (news := [.string (nameB i (f + j))]) hk5' (List.mem_cons_self ..) (by simp) rfl (by simp [Value.oneCell'])) (by simp; omega) (by simp; omega) (by simp) ?_)
    intro A' c' w6 hk6 hc6 _
    rw [ownStr_snoc', ← marks_succ] at hk6
    have hk7 := hk6.setX { i := [i, f, n, f + j], n := [j, c, j + 1, c'], a := [A, A'], s := [nameB i (f + j)] } (.slice (.v 1) (.v 2) (.v 3)) (d := 22) (v := .slice A' ((marks i f j).length + 1) c') (by decide) (by simp) (by simp) (by simp) (by simp)
    refine run_sound mixed Γok [0, 1, 2, 6, 7, 8, 14] 50 [] ⟨k5, hk7⟩ (by cbv) (by simp) ?_
    intro a8 w8 hs8
    exact ⟨j + 1, by omega, by omega, A', c', hs8.to _ _ rfl rfl (by have := wrap_id (n := f + (j : Int) + 1) (by omega) (by omega); simp [this]; omega) (by simp) (by simp)⟩
  · obtain rfl : j = n := by omega
    refine run_sound mixed Γok [0, 1, 2, 6, 7, 8, 14] 50 [false] hs2 (by cbv) (by simp [e1]) ?_
    intro a3 w3 hs3
    refine exit_in rfl rfl ?_
    refine run_sound mixed Γok [0, 1, 2, 6, 7, 8, 14] 50 [] hs3 (by cbv) (by simp) ?_
    intro a4 w4 hs4
    exact ret_at Γok (.base _) hs4 (by cbv) fun k hk => ⟨A, c, by simp, (hk.res _ (List.mem_append_right _ (List.mem_cons_self ..))).1, fun x hx => (hk.onew _ (List.mem_cons_self ..) x hx).resolve_right (fun h => h), hk.kept⟩
end Go.Proofs.YthhcbfngjmiigaaGreatDoor
