import Derived.Test.YthhcbfngjmiigaaGreatDoorB
import Derived.Test.YthhcbfngjmiigaaGreatDoorJ
import Derived.Test.YthhcbfngjmiigaaGreatDoorV
set_option linter.all false
namespace Go.Proofs.YthhcbfngjmiigaaGreatDoor
open Go Rx
set_option maxRecDepth 100000
def roleOk (s : ByteArray) : Prop := allLow s s.size ∧ 1 ≤ s.size ∧ s.size ≤ 12
def joined (b v : ByteArray) (xs : List ByteArray) : ByteArray := joinB ⟨#[32]⟩ (b :: v :: xs)
def headOk (b v : ByteArray) (n : Nat) : Prop := roleOk b ∧ ∃ x, findV v = some x ∧ takesB x.2.1 n = true
def lineOk (b v : ByteArray) (xs : List ByteArray) : Prop := headOk b v xs.length ∧ (∀ x ∈ xs, wordOk x) ∧ (joined b v xs).size ≤ 300
theorem findV_size {s : ByteArray} {x : ByteArray × ByteArray × Bool} (h : findV s = some x) : x.2.1.size ≤ 100 := by
  have hm : x ∈ verbTab := List.mem_of_find?_eq_some h
  have : ∀ y ∈ verbTab, y.2.1.size ≤ 100 := by decide
  exact this x hm

theorem trail_Line (by_ vb : ByteArray) (A : Option Addr) (c : Nat) (xs : List ByteArray) (w : World) (ha : Lies (strArr A xs) w) (hc : xs.length ≤ c) (hn : xs.length ≤ 900) (hx : ∀ x ∈ xs, x.size ≤ 1000000) (hb : by_.size ≤ 1000000) (hv : vb.size ≤ 1000000) :
    Calls Tryz.prog 9 #[.agg #[.string by_, .string vb, .slice A xs.length c]] w fun e w' => ∃ s err, e = .returned (.tuple #[.string s, .int .i64 err]) ∧ ((lineOk by_ vb xs ∧ s = joined by_ vb xs ∧ err = 0) ∨ (¬ lineOk by_ vb xs ∧ s = ByteArray.empty ∧ err = 15)) ∧ Pure0 w w' := by
  refine rx_enter (M := fun _ => False) Tryz.func9 rfl (fun _ => 0) { n := [xs.length, c], s := [by_, vb], ar := [strArr A xs] } [.agg [.str (.v 0), .str (.v 1), .slice (.arr 0 (.c 0) 0) (.v 0) (.v 1)]]
    (by simp [SV.den, strArr]) (ro := [(strArr A xs).res]) (own := []) (bx := []) (nx := 0) (ar := [(0, [.str])])
    (Mem.reads _ _ _ _ (by simpa [Lies] using ha) (by simp)) 55 rfl ?_
  intro a hs0
  refine run_sound mixed Γok [0, 1, 2, 3, 4, 5, 7, 8, 30, 32, 33, 34, 35, 40, 53] 50 [] hs0 (by cbv) (by simp) ?_
  rintro a1 w1 ⟨k1, hk1⟩
  refine ops_step hk1 rfl (wp_call hk1 rfl Tryz.func23 rfl rfl ?_)
  refine (trail_find vb w1).mono ?_
  rintro e w2 ⟨rfl, hp⟩
  refine ⟨_, rfl, ?_⟩
  cases hf : findV vb with
  | none =>
    have hk2 := (hk1.pure hp).setS (.tup [.agg [.str (.c ByteArray.empty), .str (.c ByteArray.empty), .bool (.c false)], .bool (.c false)]) (d := 12) (v := findR none) (by decide) rfl
    refine run_sound mixed Γok [0, 1, 2, 3, 4, 5, 7, 8, 30, 32, 33, 34, 35, 40, 53] 50 [] ⟨k1, hk2⟩ (by cbv) (by simp) ?_
    intro a3 w3 hs3
    refine ret_at Γok (.base _) hs3 (by cbv) fun k hk => ⟨_, _, rfl, .inr ⟨?_, rfl, rfl⟩, hk.kept⟩
    rintro ⟨⟨_, x, hx, _⟩, _⟩
    rw [hf] at hx; cases hx
  | some v =>
    have hk2 := (hk1.pure hp).setX { n := [xs.length, c], s := [by_, vb, v.1, v.2.1], b := [v.2.2], ar := [strArr A xs] } (.tup [.agg [.str (.v 2), .str (.v 3), .bool (.v 0)], .bool (.c true)]) (d := 12) (v := findR (some v)) (by decide) rfl (by simp) (by simp) (by simp)
    refine run_sound mixed Γok [0, 1, 2, 3, 4, 5, 7, 8, 30, 32, 33, 34, 35, 40, 53] 50 [] ⟨k1, hk2⟩ (by cbv) (by simp) ?_
    rintro a3 w3 ⟨k3, hk3⟩
    refine ops_step hk3 rfl (wp_call hk3 rfl Tryz.func24 rfl rfl ?_)
    refine (role_Valid by_ (by omega) w3).mono ?_
    rintro e w4 ⟨rb, rfl, hrb, hp4⟩
    refine ⟨_, rfl, ?_⟩
    have hk4 := (hk3.pure hp4).setS (.bool (.c rb)) (d := 20) (v := .bool rb) (by decide) rfl
    cases rb with
    | false =>
      refine run_sound mixed Γok [0, 1, 2, 3, 4, 5, 7, 8, 30, 32, 33, 34, 35, 40, 53] 50 [] ⟨k3, hk4⟩ (by cbv) (by simp) ?_
      intro a5 w5 hs5
      refine ret_at Γok (.base _) hs5 (by cbv) fun k hk => ⟨_, _, rfl, .inr ⟨?_, rfl, rfl⟩, hk.kept⟩
      rintro ⟨⟨h, _⟩, _⟩
      exact absurd (hrb.2 h) (by simp)
    | true =>
      have hro : roleOk by_ := hrb.1 rfl
      refine run_sound mixed Γok [0, 1, 2, 3, 4, 5, 7, 8, 30, 32, 33, 34, 35, 40, 53] 50 [] ⟨k3, hk4⟩ (by cbv) (by simp) ?_
      rintro a5 w5 ⟨k5, hk5⟩
      refine ops_step hk5 rfl (wp_call hk5 rfl Tryz.func25 rfl rfl ?_)
      refine (trail_takes v.1 v.2.1 v.2.2 xs.length w5 (by have := findV_size hf; omega)).mono ?_
      rintro e w6 ⟨rfl, hp6⟩
      refine ⟨_, rfl, ?_⟩
      obtain ⟨tb, htb⟩ : ∃ tb, tb = takesB v.2.1 xs.length := ⟨_, rfl⟩
      have hk6 := (hk5.pure hp6).setS (.bool (.c tb)) (d := 28) (v := .bool (takesB v.2.1 xs.length)) (by decide) (by simp [htb])
      cases tb with
      | false =>
        refine run_sound mixed Γok [0, 1, 2, 3, 4, 5, 7, 8, 30, 32, 33, 34, 35, 40, 53] 50 [] ⟨k5, hk6⟩ (by cbv) (by simp) ?_
        intro a7 w7 hs7
        refine ret_at Γok (.base _) hs7 (by cbv) fun k hk => ⟨_, _, rfl, .inr ⟨?_, rfl, rfl⟩, hk.kept⟩
        rintro ⟨⟨_, x, h1, h2⟩, _⟩
        rw [hf] at h1; cases h1
        rw [h2] at htb; cases htb
      | true =>
        have hhead : headOk by_ vb xs.length := ⟨hro, v, hf, htb.symm⟩
        refine run_sound mixed Γok [0, 1, 2, 3, 4, 5, 7, 8, 30, 32, 33, 34, 35, 40, 53] 50 [] ⟨k5, hk6⟩ (by cbv) (by simp) ?_
        intro a7 w7 hs7
        refine rx_loop (fun (m : Nat) a' w' => m ≤ xs.length ∧ (∀ i x, i < m → xs[i]? = some x → wordOk x) ∧ Sat ⟨w, fun _ => False⟩ { n := [xs.length, c], s := [by_, vb], i := [(m : Int)], ar := [strArr A xs] } [(strArr A xs).res] []
          ⟨55, [(34, .int .i64 (.v 0)), (33, .int .i64 (.nat (.v 0))), (32, .slice (.arr 0 (.c 0) 0) (.v 0) (.v 1)), (3, .int .i64 (.c 0)), (2, .str (.c ⟨#[]⟩)), (1, .ptr (.box 0 0))], [⟨0, 24, [.str (.v 0), .str (.v 1), .slice (.arr 0 (.c 0) 0) (.v 0) (.v 1)]⟩], 1, [(0, [.str])]⟩ a' w') (fun m => xs.length - m) 0
          ⟨Nat.zero_le _, fun _ _ h => absurd h (by omega), hs7.to _ _ rfl rfl (by simp) (by simp) (by simp)⟩ ?_
        rintro m a8 w8 ⟨hm, hwd, hs8⟩
        by_cases h : m < xs.length
        · have hsz := hx _ (List.getElem_mem h)
          refine run_sound mixed Γok [0, 1, 2, 3, 4, 5, 7, 8, 30, 32, 33, 34, 35, 40, 53] 50 [true] hs8 (by cbv) (by simp [h]) ?_
          rintro a9 w9 ⟨k9, hk9⟩
          refine ops_step hk9 rfl (wp_callA (args := [.string xs[m]]) hk9 rfl Tryz.func26 rfl rfl (by simp [h]) ?_)
          refine (trail_word xs[m] hsz w9).mono ?_
          rintro e w10 ⟨wb, rfl, hwb, hp10⟩
          refine ⟨_, rfl, ?_⟩
          have hk10 := (hk9.pure hp10).setS (.bool (.c wb)) (d := 39) (v := .bool wb) (by decide) rfl
          cases wb with
          | false =>
            refine run_sound mixed Γok [0, 1, 2, 3, 4, 5, 7, 8, 30, 32, 33, 34, 35, 40, 53] 50 [] ⟨k9, hk10⟩ (by cbv) (by simp) ?_
            intro a11 w11 hs11
            refine ret_at Γok ((RetQ.base _).loop _ _) hs11 (by cbv) fun k hk => ⟨_, _, rfl, .inr ⟨?_, rfl, rfl⟩, hk.kept⟩
            rintro ⟨_, hall, _⟩
            exact absurd (hwb.2 (hall _ (List.getElem_mem h))) (by simp)
          | true =>
            refine run_sound mixed Γok [0, 1, 2, 3, 4, 5, 7, 8, 30, 32, 33, 34, 35, 40, 53] 50 [] ⟨k9, hk10⟩ (by cbv) (by simp) ?_
            intro a11 w11 hs11
            refine ⟨m + 1, by omega, by omega, ?_, hs11.to _ _ rfl rfl (by have := wrap_id (n := (m : Int) + 1) (by omega) (by omega); simp [this]) (by simp) (by simp)⟩
            intro i x hi hix
            by_cases him : i < m
            · exact hwd i x him hix
            · obtain rfl : i = m := by omega
              rw [List.getElem?_eq_getElem h] at hix
              cases hix
              exact hwb.1 rfl
        · obtain rfl : m = xs.length := by omega
          have hwords : ∀ x ∈ xs, wordOk x := by
            intro x hx
            obtain ⟨i, hi, rfl⟩ := List.getElem_of_mem hx
            exact hwd i _ hi (List.getElem?_eq_getElem hi)
          refine run_sound mixed Γok [0, 1, 2, 3, 4, 5, 7, 8, 30, 32, 33, 34, 35, 40, 53] 50 [false] hs8 (by cbv) (by simp) ?_
          intro a9 w9 hs9
          refine exit_in rfl rfl ?_
          refine run_sound mixed Γok [0, 1, 2, 3, 4, 5, 7, 8, 30, 32, 33, 34, 35, 40, 53] 50 [] hs9 (by cbv) (by simp) ?_
          rintro a10 w10 ⟨k10, hk10⟩
          have hk11 := hk10.unbox (List.mem_cons_self ..) (ownS 9 1 (some ⟨k10 1, 0, none⟩) 2 2 [.string by_, .string vb]) (fun h => ⟨rfl, by omega, by omega, .inr ⟨_, _, rfl, h, by simp, by simp⟩⟩) (fun x hx => by simpa using hx.2.symm)
          have har : ∀ q ∈ [((0 : Nat), [CK.str])], View ([(strArr A xs).res] ++ []) (({ i := [(xs.length : Int)], s := [by_, vb], n := [xs.length, c], ar := [strArr A xs] } : Env).arr q.1) := by
            simp only [List.mem_singleton]; rintro q rfl; exact .here (by simp)
          refine ops_step hk11 rfl (wp_appendK (m := xs.length) (news := xs.map .string) Γok hk11 (by rfl) rfl (by simp) (by simpa using Src.strs (P := Tryz.prog) (A := A) (xs := xs) (c := c) (hk10.res (strArr A xs).res (by simp)).1) (by simp; omega) (by omega) (by simpa using har) ?_)
          intro A' c' w11 hk12 hc12 _
          have hk13 := hk12.setX { i := [(xs.length : Int)], s := [by_, vb], n := [xs.length, c, 2 + xs.length, c'], ar := [strArr A xs], a := [A'] } (.slice (.v 0) (.v 2) (.v 3)) (d := 49) (v := .slice A' (2 + xs.length) c') (by decide) (by simp) (by simp) (by simp) (by simp)
          have hl : Lies (strArr A' (by_ :: vb :: xs)) w11 := by
            refine ownStr_lies (T := 9) (c := c') ?_
            have := (hk12.res _ (List.mem_append_right _ (List.mem_cons_self ..))).1
            simpa [ownStr, Nat.add_comm 2] using this
          refine ops_step hk13 rfl (wp_callA (args := [.slice A' (by_ :: vb :: xs).length c', .string ⟨#[32]⟩]) hk13 rfl Tryz.func27 rfl rfl (by simp; exact ⟨by omega, rfl⟩) ?_)
          refine (strings_Join A' c' ⟨#[32]⟩ (by_ :: vb :: xs) w11 hl (by simp; omega) (by simp; omega) (by simp; exact ⟨hb, hv, hx⟩) rfl).mono ?_
          rintro e w12 ⟨rfl, hp12⟩
          refine ⟨_, rfl, ?_⟩
          obtain ⟨jv, hjv⟩ : ∃ jv, jv = joined by_ vb xs := ⟨_, rfl⟩
          have hk14 := (hk13.pure hp12).setX { i := [(xs.length : Int)], s := [by_, vb, jv], n := [xs.length, c, 2 + xs.length, c'], ar := [strArr A xs], a := [A'] } (.str (.v 2)) (d := 50) (v := .string (joinB ⟨#[32]⟩ (by_ :: vb :: xs))) (by decide) (by simp [hjv, joined]) (by simp) (by simp) (by simp)
          by_cases hsz : jv.size ≤ 300
          · refine run_sound mixed Γok [0, 1, 2, 3, 4, 5, 7, 8, 30, 32, 33, 34, 35, 40, 53] 50 [false] ⟨k10, hk14⟩ (by cbv) (by simp; omega) ?_
            intro a15 w15 hs15
            exact ret_at Γok (.base _) hs15 (by cbv) fun k hk => ⟨_, _, rfl, .inl ⟨⟨hhead, hwords, by rw [← hjv]; exact hsz⟩, by simp [hjv], rfl⟩, hk.kept⟩
          · refine run_sound mixed Γok [0, 1, 2, 3, 4, 5, 7, 8, 30, 32, 33, 34, 35, 40, 53] 50 [true] ⟨k10, hk14⟩ (by cbv) (by simp; omega) ?_
            intro a15 w15 hs15
            exact ret_at Γok (.base _) hs15 (by cbv) fun k hk => ⟨_, _, rfl, .inr ⟨fun h => hsz (by rw [hjv]; exact h.2.2), rfl, rfl⟩, hk.kept⟩
end Go.Proofs.YthhcbfngjmiigaaGreatDoor
