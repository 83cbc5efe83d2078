import Derived.Test.YthhcbfngjmiigaaGreatDoorI
set_option linter.all false
namespace Go.Proofs.YthhcbfngjmiigaaGreatDoor
open Go Rx
set_option maxRecDepth 100000
theorem ba_size (a : Array UInt8) : (ByteArray.mk a).size = a.size := rfl
def glue (acc y : ByteArray) : ByteArray := acc ++ sp ++ y
theorem joined_eq (b v : ByteArray) (xs : List ByteArray) : joined b v xs = xs.foldl glue (b ++ sp ++ v) := rfl
theorem ref_Line (by_ vb : ByteArray) (A : Option Addr) (c : Nat) (xs : List ByteArray) (w : World) (ha : Lies (strArr A xs) w) (hn : xs.length ≤ 900) (hx : ∀ x ∈ xs, x.size ≤ 1000000) (hb : by_.size ≤ 1000000) (hv : vb.size ≤ 1000000) :
    Calls Tryz.prog 11 #[.agg #[.string by_, .string vb, .slice A xs.length c]] w fun e w' => e = .returned (.string (joined by_ vb xs)) ∧ Pure0 w w' := by
  refine rx_enter (M := fun _ => False) Tryz.func11 rfl (fun _ => 0) { n := [xs.length, c], s := [by_, vb], ar := [strArr A xs] } [.agg [.str (.v 0), .str (.v 1), .slice (.arr 0 (.c 0) 0) (.v 0) (.v 1)]]
    (by simp [SV.den, strArr]) (ro := [(strArr A xs).res]) (own := []) (bx := []) (nx := 0) (ar := [(0, [.str])])
    (Mem.reads _ _ _ _ (by simpa [Lies] using ha) (by simp)) 27 rfl ?_
  intro a hs0
  refine run_sound mixed Γok [0, 1, 2, 3, 4, 15] 50 [] hs0 (by cbv) (by simp [ba_size]; omega) ?_
  intro a1 w1 hs1
  refine rx_loop (fun (m : Nat) a' w' => m ≤ xs.length ∧ ∃ t, t.size ≤ 2000001 + m * 1000001 ∧ t = (xs.take m).foldl glue (by_ ++ sp ++ vb) ∧ Sat ⟨w, fun _ => False⟩ { n := [xs.length, c], s := [by_, vb, t], i := [(m : Int)], ar := [strArr A xs] } [(strArr A xs).res] []
    ⟨27, [(4, .int .i64 (.v 0)), (3, .str (.v 2)), (1, .ptr (.box 0 0))], [⟨0, 39, [.str (.v 0), .str (.v 1), .slice (.arr 0 (.c 0) 0) (.v 0) (.v 1)]⟩], 1, [(0, [.str])]⟩ a' w') (fun m => xs.length - m) 0
    ⟨Nat.zero_le _, by_ ++ sp ++ vb, by simp [sp, ba_size]; omega, rfl, hs1.to _ _ rfl rfl (by simp; rfl) (by simp) (by simp)⟩ ?_
  rintro m a2 w2 ⟨hm, t, hts, ht, hs2⟩
  by_cases h : m < xs.length
  · have hsz := hx _ (List.getElem_mem h)
    refine run_sound mixed Γok [0, 1, 2, 3, 4, 15] 50 [true] hs2 (by cbv) (by simp [h, ba_size]; omega) ?_
    intro a3 w3 hs3
    refine ⟨m + 1, by omega, by omega, t ++ sp ++ xs[m], by simp [sp, ba_size]; omega, ?_, hs3.to _ _ rfl rfl (by have := wrap_id (n := (m : Int) + 1) (by omega) (by omega); simp [this, h]; rfl) (by simp) (by simp)⟩
    rw [List.take_add_one, List.getElem?_eq_getElem h, List.foldl_append, ← ht]
    rfl
  · obtain rfl : m = xs.length := by omega
    refine run_sound mixed Γok [0, 1, 2, 3, 4, 15] 50 [false] hs2 (by cbv) (by simp) ?_
    intro a3 w3 hs3
    refine exit_in rfl rfl ?_
    refine run_sound mixed Γok [0, 1, 2, 3, 4, 15] 50 [] hs3 (by cbv) (by simp) ?_
    intro a4 w4 hs4
    exact ret_at Γok (.base _) hs4 (by cbv) fun k hk => ⟨by rw [joined_eq, ht]; simp, hk.kept⟩
end Go.Proofs.YthhcbfngjmiigaaGreatDoor
