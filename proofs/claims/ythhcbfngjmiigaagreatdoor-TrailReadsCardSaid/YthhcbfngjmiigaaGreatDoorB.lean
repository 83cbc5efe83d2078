import Derived.Test.YthhcbfngjmiigaaGreatDoorA
set_option linter.all false
namespace Go.Proofs.YthhcbfngjmiigaaGreatDoor
open Go Rx
set_option maxRecDepth 100000
/-- The verbs: the name, the arguments' shape, whether it writes. -/
def verbTab : List (ByteArray × ByteArray × Bool) :=
  [(⟨#[103, 105, 118, 101]⟩, ⟨#[85, 78]⟩, true),
   (⟨#[116, 97, 107, 101]⟩, ⟨#[85, 78]⟩, true),
   (⟨#[97, 99, 99, 111, 117, 110, 116]⟩, ⟨#[78, 78]⟩, true),
   (⟨#[114, 101, 116, 105, 114, 101]⟩, ⟨#[78]⟩, true),
   (⟨#[103, 97, 116, 101]⟩, ⟨#[78, 80, 78]⟩, true),
   (⟨#[98, 114, 97, 110, 99, 104]⟩, ⟨#[66, 66]⟩, true),
   (⟨#[100, 114, 111, 112]⟩, ⟨#[66]⟩, true),
   (⟨#[112, 111, 115, 116]⟩, ⟨#[66, 74]⟩, true),
   (⟨#[97, 109, 101, 110, 100]⟩, ⟨#[66, 74]⟩, true),
   (⟨#[118, 111, 105, 100]⟩, ⟨#[66, 78]⟩, true),
   (⟨#[114, 101, 118, 101, 114, 115, 101]⟩, ⟨#[66, 78, 78, 80]⟩, true),
   (⟨#[109, 101, 114, 103, 101]⟩, ⟨#[66, 66, 42]⟩, true),
   (⟨#[114, 101, 98, 97, 115, 101]⟩, ⟨#[66, 66, 42]⟩, true),
   (⟨#[115, 117, 98, 109, 105, 116]⟩, ⟨#[66]⟩, true),
   (⟨#[97, 112, 112, 114, 111, 118, 101]⟩, ⟨#[66]⟩, true),
   (⟨#[114, 101, 106, 101, 99, 116]⟩, ⟨#[66]⟩, true),
   (⟨#[112, 114, 111, 109, 111, 116, 101]⟩, ⟨#[66, 42]⟩, true),
   (⟨#[115, 119, 101, 101, 112]⟩, ⟨#[]⟩, true),
   (⟨#[116, 114, 105, 97, 108]⟩, ⟨#[66, 78, 80, 80]⟩, false),
   (⟨#[110, 101, 116]⟩, ⟨#[66, 78, 80, 80]⟩, false),
   (⟨#[115, 104, 101, 101, 116]⟩, ⟨#[66, 78, 80]⟩, false),
   (⟨#[100, 105, 102, 102]⟩, ⟨#[66, 66]⟩, false),
   (⟨#[108, 111, 103]⟩, ⟨#[66]⟩, false),
   (⟨#[112, 97, 112, 101, 114]⟩, ⟨#[66]⟩, false)]
@[simp] theorem verbTab_len : verbTab.length = 24 := rfl
def verbEl (v : ByteArray × ByteArray × Bool) : List Value := [.string v.1, .string v.2.1, .bool v.2.2]
theorem verbEl_len : ∀ x ∈ verbTab.map verbEl, x.length = 3 := by
  intro x hx
  obtain ⟨v, _, rfl⟩ := List.mem_map.1 hx
  rfl

theorem trail_verbs (w : World) :
    Calls Tryz.prog 72 #[] w fun e w' => ∃ g, e = .returned (.slice (some ⟨g, 0, none⟩) 24 24) ∧ Lies ⟨some ⟨g, 0, none⟩, 3, verbTab.map verbEl⟩ w' ∧ w.heap.size ≤ g ∧ Pure0 w w' := by
  refine rx_enter0 Tryz.func72 rfl {} [] rfl 26 rfl ?_
  intro a hs0
  refine run_sound mixed Γok [0] 50 [] hs0 (by cbv) (by simp) ?_
  intro a1 w1 hs1
  refine ret_at Γok (.base _) hs1 (by cbv) fun k hk => ⟨k 0, rfl, ?_, ?_, hk.kept⟩
  · exact Arr.block (hk.box _ (List.mem_cons_self ..)) rfl verbEl_len
  · exact (hk.bnew _ (List.mem_cons_self ..)).resolve_right (fun h => h)

def findV (s : ByteArray) : Option (ByteArray × ByteArray × Bool) := verbTab.find? fun v => decide (v.1 = s)
def findR : Option (ByteArray × ByteArray × Bool) → Value
  | some v => .tuple #[.agg #[.string v.1, .string v.2.1, .bool v.2.2], .bool true]
  | none => .tuple #[.agg #[.string ByteArray.empty, .string ByteArray.empty, .bool false], .bool false]
theorem trail_find (s : ByteArray) (w : World) :
    Calls Tryz.prog 23 #[.string s] w fun e w' => e = .returned (findR (findV s)) ∧ Pure0 w w' := by
  refine rx_enter0 Tryz.func23 rfl { s := [s] } [.str (.v 0)] rfl 19 rfl ?_
  intro a hs0
  refine run_sound mixed Γok [0, 2, 3, 5, 6, 7, 8, 9, 15] 50 [] hs0 (by cbv) (by simp) ?_
  rintro a1 w1 ⟨k, hk⟩
  refine ops_step hk rfl (wp_call hk rfl Tryz.func72 rfl rfl ?_)
  refine (trail_verbs w1).mono ?_
  rintro e w2 ⟨g, rfl, hl, hg, hp⟩
  refine ⟨_, rfl, ?_⟩
  have hk2 := ((hk.pureRo hp _ hl.1 (fun x hx => ⟨by obtain ⟨_, ad, h1, rfl⟩ := hx; cases h1; exact hg, hl.2 x hx⟩)).setX { s := [s], ar := [⟨some ⟨g, 0, none⟩, 3, verbTab.map verbEl⟩] } (.slice (.arr 0 (.c 0) 0) (.c 24) (.c 24)) (d := 6) (v := .slice (some ⟨g, 0, none⟩) 24 24) (by decide) (by simp) (by simp) (by simp) (by simp)).row 0 [.str, .str, .bool] rfl (by simp [verbTab, verbEl]) (.here (by simp))
  refine run_sound mixed Γok [0, 2, 3, 5, 6, 7, 8, 9, 15] 50 [] ⟨k, hk2⟩ (by cbv) (by simp) ?_
  intro a3 w3 hs3
  refine rx_loop (fun (n : Nat) a' w' => n ≤ 24 ∧ (∀ i v, i < n → verbTab[i]? = some v → v.1 ≠ s) ∧ Sat ⟨w, fun _ => False⟩ { s := [s], i := [(n : Int)], ar := [⟨some ⟨g, 0, none⟩, 3, verbTab.map verbEl⟩] } [(Arr.mk (some ⟨g, 0, none⟩) 3 (verbTab.map verbEl)).res] []
      ⟨19, [(8, .int .i64 (.v 0)), (7, .int .i64 (.nat (.c 24))), (6, .slice (.arr 0 (.c 0) 0) (.c 24) (.c 24)), (3, .bool (.c false)), (2, .ptr (.box 0 0)), (0, .str (.v 0))], [⟨0, 59, [.str (.c ⟨#[]⟩), .str (.c ⟨#[]⟩), .bool (.c false)]⟩], 1, [(0, [.str, .str, .bool])]⟩ a' w') (fun n => 24 - n) 0
      ⟨Nat.zero_le _, fun _ _ h => absurd h (by omega), hs3.to _ _ rfl rfl (by simp) (by simp) (by simp)⟩ ?_
  rintro n a4 w4 ⟨hn, hl2, hs4⟩
  by_cases h : n < 24
  · obtain ⟨v, hv⟩ : ∃ v, verbTab[n]? = some v := ⟨_, List.getElem?_eq_getElem h⟩
    have hv' : verbTab[n]'(by simp; exact h) = v := (List.getElem?_eq_some_iff.1 hv).2
    by_cases he : v.1 = s
    · have hf : findV s = some v := by
        unfold findV
        rw [List.find?_eq_some_iff_getElem]
        refine ⟨by simp [he], n, h, (List.getElem?_eq_some_iff.1 hv).2, fun j hj => ?_⟩
        have := hl2 j _ hj (List.getElem?_eq_getElem (by simp; omega))
        simpa using this
      refine run_sound mixed Γok [0, 2, 3, 5, 6, 7, 8, 9, 15] 50 [true, true] hs4 (by cbv) (by simp [h, hv', verbEl, he]; omega) ?_
      intro a5 w5 hs5
      refine ret_at Γok ((RetQ.base _).loop _ _) hs5 (by cbv) fun k hk => ⟨?_, hk.kept⟩
      rw [hf]
      simp [hv, verbEl, findR]
    · refine run_sound mixed Γok [0, 2, 3, 5, 6, 7, 8, 9, 15] 50 [true, false] hs4 (by cbv) (by simp [h, hv', verbEl, he]; omega) ?_
      intro a5 w5 hs5
      refine ⟨n + 1, by omega, by omega, ?_, hs5.to _ _ rfl rfl (by have := wrap_id (n := (n : Int) + 1) (by omega) (by omega); simp [this]) (by simp) (by simp)⟩
      intro i u hi hu
      by_cases hin : i < n
      · exact hl2 i u hin hu
      · obtain rfl : i = n := by omega
        rw [hv] at hu; cases hu; exact he
  · obtain rfl : n = 24 := by omega
    have hf : findV s = none := by
      unfold findV
      rw [List.find?_eq_none]
      intro v hv
      obtain ⟨i, hi, rfl⟩ := List.getElem_of_mem hv
      have := hl2 i _ hi (List.getElem?_eq_getElem hi)
      simpa using this
    refine run_sound mixed Γok [0, 2, 3, 5, 6, 7, 8, 9, 15] 50 [false] hs4 (by cbv) (by simp) ?_
    intro a5 w5 hs5
    refine exit_in rfl rfl ?_
    refine run_sound mixed Γok [0, 2, 3, 5, 6, 7, 8, 9, 15] 50 [] hs5 (by cbv) (by simp) ?_
    intro a6 w6 hs6
    refine ret_at Γok (.base _) hs6 (by cbv) fun k hk => ⟨?_, hk.kept⟩
    rw [hf]
    rfl

theorem trail_Known (s : ByteArray) (w : World) :
    Calls Tryz.prog 13 #[.string s] w fun e w' => e = .returned (.bool (findV s).isSome) ∧ Pure0 w w' := by
  refine rx_enter0 Tryz.func13 rfl { s := [s] } [.str (.v 0)] rfl 11 rfl ?_
  intro a hs0
  refine run_sound mixed Γok [0, 2, 4] 50 [] hs0 (by cbv) (by simp) ?_
  rintro a1 w1 ⟨k, hk⟩
  refine ops_step hk rfl (wp_call hk rfl Tryz.func23 rfl rfl ?_)
  refine (trail_find s w1).mono ?_
  rintro e w2 ⟨rfl, hp⟩
  refine ⟨_, rfl, ?_⟩
  have hk1 := hk.pure hp
  cases hf : findV s with
  | none =>
    have hk2 := hk1.setS (.tup [.agg [.str (.c ByteArray.empty), .str (.c ByteArray.empty), .bool (.c false)], .bool (.c false)]) (d := 7) (v := findR none) (by decide) rfl
    refine run_sound mixed Γok [0, 2, 4] 50 [] ⟨k, hk2⟩ (by cbv) (by simp) ?_
    intro a3 w3 hs3
    exact ret_at Γok (.base _) hs3 (by cbv) fun k hk => ⟨rfl, hk.kept⟩
  | some v =>
    have hk2 := hk1.setX { s := [s, v.1, v.2.1], b := [v.2.2] } (.tup [.agg [.str (.v 1), .str (.v 2), .bool (.v 0)], .bool (.c true)]) (d := 7) (v := findR (some v)) (by decide) rfl (by simp) (by simp) (by simp)
    refine run_sound mixed Γok [0, 2, 4] 50 [] ⟨k, hk2⟩ (by cbv) (by simp) ?_
    intro a3 w3 hs3
    exact ret_at Γok (.base _) hs3 (by cbv) fun k hk => ⟨rfl, hk.kept⟩

theorem trail_Writes (s : ByteArray) (w : World) :
    Calls Tryz.prog 15 #[.string s] w fun e w' => e = .returned (.bool ((findV s).any fun v => v.2.2)) ∧ Pure0 w w' := by
  refine rx_enter0 Tryz.func15 rfl { s := [s] } [.str (.v 0)] rfl 15 rfl ?_
  intro a hs0
  refine run_sound mixed Γok [0, 2, 3, 4] 50 [] hs0 (by cbv) (by simp) ?_
  rintro a1 w1 ⟨k, hk⟩
  refine ops_step hk rfl (wp_call hk rfl Tryz.func23 rfl rfl ?_)
  refine (trail_find s w1).mono ?_
  rintro e w2 ⟨rfl, hp⟩
  refine ⟨_, rfl, ?_⟩
  have hk1 := hk.pure hp
  cases hf : findV s with
  | none =>
    have hk2 := hk1.setS (.tup [.agg [.str (.c ByteArray.empty), .str (.c ByteArray.empty), .bool (.c false)], .bool (.c false)]) (d := 7) (v := findR none) (by decide) rfl
    refine run_sound mixed Γok [0, 2, 3, 4] 50 [] ⟨k, hk2⟩ (by cbv) (by simp) ?_
    intro a3 w3 hs3
    exact ret_at Γok (.base _) hs3 (by cbv) fun k hk => ⟨rfl, hk.kept⟩
  | some v =>
    have hk2 := hk1.setX { s := [s, v.1, v.2.1], b := [v.2.2] } (.tup [.agg [.str (.v 1), .str (.v 2), .bool (.v 0)], .bool (.c true)]) (d := 7) (v := findR (some v)) (by decide) rfl (by simp) (by simp) (by simp)
    refine run_sound mixed Γok [0, 2, 3, 4] 50 [] ⟨k, hk2⟩ (by cbv) (by simp) ?_
    intro a3 w3 hs3
    exact ret_at Γok (.base _) hs3 (by cbv) fun k hk => ⟨rfl, hk.kept⟩

/-- What a shape takes. -/
def takesB (sh : ByteArray) (n : Int) : Bool :=
  if (trimSuf sh ⟨#[42]⟩).size < sh.size then decide ((trimSuf sh ⟨#[42]⟩).size ≤ n) && decide (n ≤ (trimSuf sh ⟨#[42]⟩).size + 8) else decide (n = (trimSuf sh ⟨#[42]⟩).size)
theorem trimSuf_le (s t : ByteArray) : (trimSuf s t).size ≤ s.size := by
  unfold trimSuf
  split
  · simp
  · exact Nat.le_refl _
theorem trail_takes (nm sh : ByteArray) (wr : Bool) (n : Int) (w : World) (hs : sh.size ≤ 1000000) :
    Calls Tryz.prog 25 #[.agg #[.string nm, .string sh, .bool wr], .int .i64 n] w fun e w' => e = .returned (.bool (takesB sh n)) ∧ Pure0 w w' := by
  have hle := trimSuf_le sh ⟨#[42]⟩
  refine rx_enter0 Tryz.func25 rfl { s := [nm, sh, trimSuf sh ⟨#[42]⟩], b := [wr], i := [n] } [.agg [.str (.v 0), .str (.v 1), .bool (.v 0)], .int .i64 (.v 0)] rfl 30 rfl ?_
  intro a hs0
  refine run_sound mixed Γok [0, 1, 2, 4, 5, 14] 50 [] hs0 (by cbv) (by simp) ?_
  rintro a1 w1 ⟨k, hk⟩
  refine ops_step hk rfl (wp_call hk rfl Tryz.func73 rfl rfl ?_)
  refine (strings_TrimSuffix sh ⟨#[42]⟩ w1 (by omega) (by decide)).mono ?_
  rintro e w2 ⟨rfl, hp⟩
  refine ⟨_, rfl, ?_⟩
  have hk2 := (hk.pure hp).setS (.str (.v 2)) (d := 8) (v := .string (trimSuf sh ⟨#[42]⟩)) (by decide) rfl
  unfold takesB
  by_cases h : (trimSuf sh ⟨#[42]⟩).size < sh.size
  · have hw := wrap_id (n := ((trimSuf sh ⟨#[42]⟩).size : Int) + 8) (by omega) (by omega)
    by_cases h2 : ((trimSuf sh ⟨#[42]⟩).size : Int) ≤ n
    · refine run_sound mixed Γok [0, 1, 2, 4, 5, 14] 50 [true, true] ⟨k, hk2⟩ (by cbv) (by simp [h, h2]) ?_
      intro a3 w3 hs3
      exact ret_at Γok (.base _) hs3 (by cbv) fun k hk => ⟨by simp [h, h2, hw], hk.kept⟩
    · refine run_sound mixed Γok [0, 1, 2, 4, 5, 14] 50 [true, false] ⟨k, hk2⟩ (by cbv) (by simp [h, h2]) ?_
      intro a3 w3 hs3
      exact ret_at Γok (.base _) hs3 (by cbv) fun k hk => ⟨by simp [h, h2], hk.kept⟩
  · refine run_sound mixed Γok [0, 1, 2, 4, 5, 14] 50 [false] ⟨k, hk2⟩ (by cbv) (by simp [h]) ?_
    intro a3 w3 hs3
    exact ret_at Γok (.base _) hs3 (by cbv) fun k hk => ⟨by simp [h]; rfl, hk.kept⟩

def wordOk (s : ByteArray) : Prop := (∀ i, i < s.size → 33 ≤ byteAt s i ∧ byteAt s i ≤ 126) ∧ 1 ≤ s.size ∧ s.size ≤ 240
theorem trail_word (s : ByteArray) (hsz : s.size ≤ 1000000) (w : World) : Calls Tryz.prog 26 #[.string s] w fun e w' => ∃ b : Bool, e = .returned (.bool b) ∧ (b = true ↔ wordOk s) ∧ Pure0 w w' := by
  refine rx_enter0 Tryz.func26 rfl { s := [s] } [.str (.v 0)] rfl 28 rfl ?_
  intro a hs
  refine run_sound mixed Γok [0, 2, 3, 5, 6, 7, 18] 50 [] hs (by cbv) (by simp) ?_
  intro a1 w1 hs1
  refine rx_loop (fun (n : Nat) a' w' => n ≤ s.size ∧ (∀ i, i < n → 33 ≤ byteAt s i ∧ byteAt s i ≤ 126) ∧ Sat ⟨w, fun _ => False⟩ { s := [s], i := [(n : Int)] } [] [] ⟨28, [(6, .int .i64 (.v 0)), (5, .int .i64 (.nat (.slen (.v 0)))), (2, .bool (.c false)), (0, .str (.v 0))], [], 0, []⟩ a' w') (fun n => s.size - n) 0
    ⟨Nat.zero_le _, fun _ h => absurd h (by omega), hs1.to _ _ rfl rfl (by simp) (by simp) (by simp)⟩ ?_
  rintro n a2 w2 ⟨hn, hl, hs2⟩
  by_cases h : n < s.size
  · by_cases h1 : byteAt s n < 33
    · refine run_sound mixed Γok [0, 2, 3, 5, 6, 7, 18] 50 [true, true] hs2 (by cbv) (by simp [h, h1]) ?_
      intro a3 w3 hs3
      refine ret_at Γok ((RetQ.base _).loop _ _) hs3 (by cbv) fun k hk => ⟨_, rfl, ?_, hk.kept⟩
      simp
      intro hh
      have := hh.1 n h
      omega
    · by_cases h2 : byteAt s n > 126
      · refine run_sound mixed Γok [0, 2, 3, 5, 6, 7, 18] 50 [true, false, true] hs2 (by cbv) (by simp [h]; omega) ?_
        intro a3 w3 hs3
        refine ret_at Γok ((RetQ.base _).loop _ _) hs3 (by cbv) fun k hk => ⟨_, rfl, ?_, hk.kept⟩
        simp
        intro hh
        have := hh.1 n h
        omega
      · refine run_sound mixed Γok [0, 2, 3, 5, 6, 7, 18] 50 [true, false, false] hs2 (by cbv) (by simp [h]; omega) ?_
        intro a3 w3 hs3
        refine ⟨n + 1, by omega, by omega, ?_, hs3.to _ _ rfl rfl (by have := wrap_id (n := (n : Int) + 1) (by omega) (by omega); simp [this]) (by simp) (by simp)⟩
        intro i hi
        by_cases hin : i < n
        · exact hl i hin
        · obtain rfl : i = n := by omega
          omega
  · obtain rfl : n = s.size := by omega
    refine run_sound mixed Γok [0, 2, 3, 5, 6, 7, 18] 50 [false] hs2 (by cbv) (by simp) ?_
    intro a3 w3 hs3
    refine exit_in rfl rfl ?_
    by_cases h1 : 1 ≤ s.size
    · refine run_sound mixed Γok [0, 2, 3, 5, 6, 7, 18] 50 [true] hs3 (by cbv) (by simp; omega) ?_
      intro a4 w4 hs4
      refine ret_at Γok (.base _) hs4 (by cbv) fun k hk => ⟨_, rfl, ?_, hk.kept⟩
      simp
      constructor
      · intro h; exact ⟨hl, h1, by omega⟩
      · rintro ⟨_, _, h⟩; omega
    · refine run_sound mixed Γok [0, 2, 3, 5, 6, 7, 18] 50 [false] hs3 (by cbv) (by simp; omega) ?_
      intro a4 w4 hs4
      refine ret_at Γok (.base _) hs4 (by cbv) fun k hk => ⟨_, rfl, ?_, hk.kept⟩
      simp
      rintro ⟨_, h, _⟩
      omega
end Go.Proofs.YthhcbfngjmiigaaGreatDoor
