import Derived.Test.YthhcbfngjmiigaaGreatDoorL
import Derived.Test.YthhcbfngjmiigaaGreatDoorC
set_option linter.all false
namespace Go.Proofs.YthhcbfngjmiigaaGreatDoor
open Go Rx
set_option maxRecDepth 100000
theorem below_pure {w w' : World} (h : Go.RowKit.Below w.heap.size w w') : Pure0 w w' := ⟨h.os, h.tape, h.output, h.size, fun b hb _ => h.block b hb⟩
def globR : Res := ⟨fun b => b = 0, fun w => ∃ m, w.cell? ⟨0, 0, none⟩ = some (.int .i64 m), fun w w' h ⟨m, hm⟩ => ⟨m, by unfold World.cell? at hm ⊢; rw [h 0 rfl]; exact hm⟩⟩
theorem globR_lt {w : World} (h : globR.P w) : ∀ x, globR.F x → x < w.heap.size := by
  rintro x rfl
  obtain ⟨m, hm⟩ := h
  unfold World.cell? at hm
  by_cases hx : 0 < w.heap.size
  · exact hx
  · rw [Array.getElem?_eq_none (by simpa using hx)] at hm; simp at hm
theorem strings_Clone (s : ByteArray) (w : World) (hlim : s.size ≤ 281474976710656) :
    Calls Tryz.prog 20 #[.string s] w fun e w' => e = .returned (.string s) ∧ Pure0 w w' := by
  refine rx_enter0 Tryz.func20 rfl { s := [s] } [.str (.v 0)] rfl 5 rfl ?_
  intro a hs0
  refine run_sound mixed Γok [0, 2] 50 [] hs0 (by cbv) (by simp) ?_
  rintro a1 w1 ⟨k, hk⟩
  refine ops_step hk rfl (wp_call hk rfl Tryz.func71 rfl rfl ?_)
  refine (stringslite_Clone s w1 hlim).mono ?_
  rintro e w2 ⟨rfl, hp⟩
  refine ⟨_, rfl, ?_⟩
  have hk2 := (hk.pure (below_pure hp)).setS (.str (.v 0)) (d := 4) (v := .string s) (by decide) rfl
  refine run_sound mixed Γok [0, 2] 50 [] ⟨k, hk2⟩ (by cbv) (by simp) ?_
  intro a3 w3 hs3
  exact ret_at Γok (.base _) hs3 (by cbv) fun k hk => ⟨by simp, hk.kept⟩
def sp : ByteArray := ⟨#[32]⟩
def parts (s : ByteArray) : List ByteArray := Lib.splitB sp 0 (Lib.countB s sp) s
theorem strings_Split (s : ByteArray) (w : World) (hs : s.size < 4294967281) (hg : globR.P w) :
    Calls Tryz.prog 19 #[.string s, .string sp] w fun e w' => ∃ g, e = .returned (.slice (some ⟨g, 0, none⟩) (parts s).length (parts s).length) ∧ (ownStr 9 (some ⟨g, 0, none⟩) (parts s).length (parts s)).P w' ∧ w.heap.size ≤ g ∧ Pure0 w w' := by
  obtain ⟨m, hm⟩ := hg
  refine (Tryz.strings_Split s sp m w hs hm (by decide)).mono ?_
  rintro e w' ⟨rfl, rfl⟩
  have hlen : (parts s).length = Lib.countB s sp + 1 := Lib.splitB_all sp (by decide) 0 _ s rfl
  refine ⟨w.heap.size, by rw [hlen], ?_, Nat.le_refl _, Pure0.alloc w _⟩
  have hle := Lib.countB_le sp (by decide) s.size s (Nat.le_refl _)
  exact ⟨by simp, Nat.le_refl _, by omega, .inr ⟨_, _, rfl, heap_alloc_here w _, by simp [parts], by simp [parts, List.take_of_length_le]⟩⟩
theorem slices_Clone (b off c : Nat) (xs : List ByteArray) (w : World) (hl : (strArr (some ⟨b, off, none⟩) xs).res.P w) (hn : xs.length ≤ 1000000) :
    Calls Tryz.prog 21 #[.slice (some ⟨b, off, none⟩) xs.length c] w fun e w' => ∃ g cap, e = .returned (.slice (some ⟨g, 0, none⟩) xs.length cap) ∧ (ownStr 9 (some ⟨g, 0, none⟩) cap xs).P w' ∧ w.heap.size ≤ g ∧ Pure0 w w' := by
  have fin : ∀ (e : Ending) (w' : World), (∃ v', e = .returned v' ∧ w'.ownsRow w.heap.size 9 1 v' xs.length (xs.map Value.string) ∧ v' ≠ .slice none 0 0 ∧ Go.RowKit.Below w.heap.size w w') →
      ∃ g cap, e = .returned (.slice (some ⟨g, 0, none⟩) xs.length cap) ∧ (ownStr 9 (some ⟨g, 0, none⟩) cap xs).P w' ∧ w.heap.size ≤ g ∧ Pure0 w w' := by
    rintro e w' ⟨v', rfl, ⟨h1, h2⟩, hne, hb⟩
    rcases h2 with ⟨h3, _⟩ | ⟨g, cap, cur, h3, h4, h5, h6, h7, h8, h9⟩
    · exact absurd h3 hne
    · exact ⟨g, cap, by rw [h3], ⟨h1, h6, by unfold maxLen at h7; omega, .inr ⟨g, cur, rfl, h5, h8, h9⟩⟩, h4, below_pure hb⟩
  by_cases h0 : xs = []
  · subst h0
    exact (Tryz.slices_Clone_string_zero ⟨b, off, none⟩ c w).mono fin
  · refine (Tryz.slices_Clone_string b off xs.length c xs w (Nat.le_refl _) (by omega) ?_).mono ?_
    · intro j hj
      obtain ⟨ad, had, h⟩ := hl j [.string xs[j]] (by simp [hj])
      simp only [strArr_a, Option.some.injEq] at had
      subst had
      have := h 0 (.string xs[j]) rfl
      simpa [addr_add, hj] using this
    · rintro e w' h
      refine fin e w' ?_
      simpa using h

theorem splitB_size (sep : ByteArray) : ∀ (k : Nat) (s x : ByteArray), x ∈ Lib.splitB sep 0 k s → x.size ≤ s.size := by
  intro k
  induction k with
  | zero => intro s x h; simp [Lib.splitB] at h; subst h; exact Nat.le_refl _
  | succ k ih =>
    intro s x h
    unfold Lib.splitB at h
    split at h
    · simp at h; subst h; exact Nat.le_refl _
    · simp only [List.mem_cons] at h
      rcases h with rfl | h
      · simp; omega
      · have := ih _ _ h
        simp at this; omega
theorem parts_size {s x : ByteArray} (h : x ∈ parts s) : x.size ≤ s.size := splitB_size sp _ s x h
theorem parts_len (s : ByteArray) : (parts s).length ≤ s.size + 1 := by
  have hlen : (parts s).length = Lib.countB s sp + 1 := Lib.splitB_all sp (by decide) 0 _ s rfl
  have hle := Lib.countB_le sp (by decide) s.size s (Nat.le_refl _)
  omega
def readOk (s : ByteArray) : Prop := s.size ≤ 300 ∧ ∃ b v xs, parts s = b :: v :: xs ∧ lineOk b v xs
def readRel (s b v : ByteArray) (xs : List ByteArray) (err : Int) : Prop :=
  (readOk s ∧ err = 0 ∧ parts s = b :: v :: xs) ∨ (¬ readOk s ∧ err = 15 ∧ b = ByteArray.empty ∧ v = ByteArray.empty ∧ xs = [])
set_option maxHeartbeats 1000000 in
theorem trail_Read (s : ByteArray) (w : World) (hg : globR.P w) (hs : s.size ≤ 1000000) :
    Calls Tryz.prog 6 #[.string s] w fun e w' => ∃ b v A c xs err, e = .returned (.tuple #[.agg #[.string b, .string v, .slice A (List.length xs) c], .int .i64 err]) ∧ readRel s b v xs err ∧ (ownStr 9 A c xs).P w' ∧ (∀ x, (ownStr 9 A c xs).F x → w.heap.size ≤ x) ∧ Pure0 w w' := by
  refine rx_enter (M := fun _ => False) Tryz.func6 rfl (fun _ => 0) { s := [s] } [.str (.v 0)] (by simp) (ro := [globR]) (own := []) (bx := []) (nx := 0) (ar := [])
    (Mem.reads _ _ _ _ (by simpa using ⟨hg, globR_lt hg⟩) (by simp)) 39 rfl ?_
  intro a hs0
  by_cases h300 : s.size ≤ 300
  case neg =>
    refine run_sound mixed Γok [0, 2, 3, 4, 5, 7, 10, 17, 35] 50 [true] hs0 (by cbv) (by simp; omega) ?_
    intro a1 w1 hs1
    exact ret_at Γok (.base _) hs1 (by cbv) fun k hk => ⟨_, _, none, 0, [], 15, rfl, .inr ⟨fun h => h300 h.1, rfl, rfl, rfl, rfl⟩, ownS_nil _ _ _ _, fun x hx => absurd rfl hx.1, hk.kept⟩
  refine run_sound mixed Γok [0, 2, 3, 4, 5, 7, 10, 17, 35] 50 [false] hs0 (by cbv) (by simp; omega) ?_
  rintro a1 w1 ⟨k, hk⟩
  refine ops_step hk rfl (wp_call hk rfl Tryz.func20 rfl rfl ?_)
  refine (strings_Clone s w1 (by omega)).mono ?_
  rintro e w2 ⟨rfl, hp⟩
  refine ⟨_, rfl, ?_⟩
  have hk2 := (hk.pure hp).setS (.str (.v 0)) (d := 13) (v := .string s) (by decide) rfl
  refine ops_step hk2 rfl (wp_callA (args := [.string s, .string sp]) hk2 rfl Tryz.func19 rfl rfl (by simp; rfl) ?_)
  refine (strings_Split s w2 (by omega) (hk2.res _ (by simp)).1).mono ?_
  rintro e w3 ⟨g, rfl, hP, hgn, hp3⟩
  refine ⟨_, rfl, ?_⟩
  have hlies := ownStr_lies hP
  have hk3 := ((hk2.pureRo hp3 _ hlies.1 (fun x hx => ⟨by obtain ⟨_, ad, h1, rfl⟩ := hx; cases h1; exact hgn, hlies.2 x hx⟩)).setX { s := [s], n := [(parts s).length], ar := [strArr (some ⟨g, 0, none⟩) (parts s)] } (.slice (.arr 0 (.c 0) 0) (.v 0) (.v 0)) (d := 14) (v := .slice (some ⟨g, 0, none⟩) (parts s).length (parts s).length) (by decide) (by simp) (by simp) (by simp) (by simp)).row 0 [.str] rfl (by simp) (.here (by simp))
  have hlen := parts_len s
  by_cases h2 : (parts s).length < 2
  · refine run_sound mixed Γok [0, 2, 3, 4, 5, 7, 10, 17, 35] 50 [true] ⟨k, hk3⟩ (by cbv) (by simp; omega) ?_
    intro a4 w4 hs4
    refine ret_at Γok (.base _) hs4 (by cbv) fun k hk => ⟨_, _, none, 0, [], 15, rfl, .inr ⟨?_, rfl, rfl, rfl, rfl⟩, ownS_nil _ _ _ _, fun x hx => absurd rfl hx.1, hk.kept⟩
    rintro ⟨_, b, v, xs, h, _⟩
    rw [h] at h2; simp at h2; omega
  refine run_sound mixed Γok [0, 2, 3, 4, 5, 7, 10, 17, 35] 50 [false] ⟨k, hk3⟩ (by cbv) (by simp; omega) ?_
  rintro a4 w4 ⟨k4, hk4⟩
  obtain ⟨b, v, xs, hps⟩ : ∃ b v xs, parts s = b :: v :: xs := by
    match hq : parts s with
    | [] => rw [hq] at h2; simp at h2
    | [x] => rw [hq] at h2; simp at h2
    | b :: v :: xs => exact ⟨b, v, xs, rfl⟩
  have hlen2 : (parts s).length = xs.length + 2 := by rw [hps]; rfl
  obtain ⟨off, hoff⟩ : ∃ off : Nat, off = if (parts s).length = 2 then 0 else 2 := ⟨_, rfl⟩
  have hview : ∀ w', (strArr (some ⟨g, 0, none⟩) (parts s)).res.P w' → (strArr (some ⟨g, off, none⟩) xs).res.P w' := by
    intro w' hr i x hx
    have hne : xs.length ≠ 0 := by
      intro h0
      have : xs = [] := List.eq_nil_of_length_eq_zero h0
      subst this; simp at hx
    have ho2 : off = 2 := by rw [hoff, if_neg (by omega)]
    subst ho2
    refine ⟨_, rfl, fun j u hu => ?_⟩
    obtain ⟨ad, had, hh⟩ := hr (i + 2) x (by simpa [hps] using hx)
    simp only [strArr_a, Option.some.injEq] at had
    subst had
    have := hh j u hu
    simp only [strArr_esz, addr_add] at this ⊢
    rw [show 2 + (i * 1 + j) = 0 + ((i + 2) * 1 + j) by omega]; exact this
  have hcut : (if (parts s).length = 2 then (⟨g, 0, none⟩ : Addr) else (⟨g, 0, none⟩ : Addr).add 2) = ⟨g, off, none⟩ := by
    rw [hoff]; split <;> simp [addr_add]
  have hq0 : (parts s)[0]? = some b := by rw [hps]; rfl
  have hq1 : (parts s)[1]? = some v := by rw [hps]; rfl
  refine rx_draw2I (fun a' w' => ∃ k g2 cap, SatK ⟨w, fun _ => False⟩ k { s := [s, b, v], n := [xs.length, cap], a := [some ⟨g2, 0, none⟩] } [] [ownStr 9 (some ⟨g2, 0, none⟩) cap xs] ⟨39, [(5, .ptr (.box 1 0)), (3, .int .i64 (.c 0)), (2, .ptr (.box 0 0))], [⟨1, 24, [.str (.v 1), .str (.v 2), .slice (.v 0) (.v 0) (.v 1)]⟩, ⟨0, 24, [.str (.c ⟨#[]⟩), .str (.c ⟨#[]⟩), .slice .nil (.c 0) (.c 0)]⟩], 2, []⟩ a' w')
    mixed hk4 [] [1] 8 10
    [(0, true), (1, true), (2, true), (3, true), (4, true), (5, true), (6, true), (7, true), (10, false), (8, false), (9, true), (11, false)]
    [(0, true), (1, true), (2, true), (3, true), (4, true), (5, true), (6, true), (7, true), (8, false), (9, true), (10, false), (11, false)] (by cbv) (by cbv) (by cbv) (by cbv) ?_ ?_ ?_
  · rintro a5 w5 ⟨k5, g2, cap, hk5⟩
    have hP5 := (hk5.res _ (List.mem_append_right _ (List.mem_cons_self ..))).1
    have hcap : xs.length ≤ cap := hP5.2.1
    have hbs : b.size ≤ 300 := Nat.le_trans (parts_size (s := s) (by rw [hps]; simp)) h300
    have hvs : v.size ≤ 300 := Nat.le_trans (parts_size (s := s) (by rw [hps]; simp)) h300
    have hxsz : ∀ x ∈ xs, x.size ≤ 1000000 := fun x hx => by
      have := parts_size (s := s) (x := x) (by rw [hps]; simp [hx])
      omega
    refine run_sound mixed Γok [0, 2, 3, 4, 5, 7, 10, 17, 35] 50 [] ⟨k5, hk5⟩ (by cbv) (by simp) ?_
    rintro a6 w6 ⟨k6, hk6⟩
    have hP6 := (hk6.res _ (List.mem_append_right _ (List.mem_cons_self ..))).1
    refine ops_step hk6 rfl (wp_callA (args := [.agg #[.string b, .string v, .slice (some ⟨g2, 0, none⟩) xs.length cap]]) hk6 rfl Tryz.func9 rfl rfl (by simp) ?_)
    refine (trail_Line b v (some ⟨g2, 0, none⟩) cap xs w6 (ownStr_lies hP6) hcap (by omega) hxsz (by omega) (by omega)).mono ?_
    rintro e w7 ⟨js, err, rfl, hor, hp7⟩
    refine ⟨_, rfl, ?_⟩
    have hk7 := (hk6.pure hp7).setX { s := [s, b, v, js], n := [xs.length, cap], a := [some ⟨g2, 0, none⟩], i := [err] } (.tup [.str (.v 3), .int .i64 (.v 0)]) (d := 31) (v := .tuple #[.string js, .int .i64 err]) (by decide) (by simp) (by simp) (by simp) (by simp)
    rcases hor with ⟨hok, rfl, rfl⟩ | ⟨hno, rfl, rfl⟩
    · refine run_sound mixed Γok [0, 2, 3, 4, 5, 7, 10, 17, 35] 50 [false] ⟨k6, hk7⟩ (by cbv) (by simp) ?_
      intro a8 w8 hs8
      refine ret_at Γok (.base _) hs8 (by cbv) fun k hk => ⟨b, v, some ⟨g2, 0, none⟩, cap, xs, 0, by simp, .inl ⟨⟨h300, b, v, xs, hps, hok⟩, rfl, hps⟩, (hk.res _ (List.mem_append_right _ (List.mem_cons_self ..))).1, fun x hx => (hk.onew _ (List.mem_cons_self ..) x hx).resolve_right (fun h => h), hk.kept⟩
    · refine run_sound mixed Γok [0, 2, 3, 4, 5, 7, 10, 17, 35] 50 [true] ⟨k6, hk7⟩ (by cbv) (by simp) ?_
      intro a8 w8 hs8
      refine ret_at Γok (.base _) hs8 (by cbv) fun k hk => ⟨_, _, none, 0, [], 15, by simp; rfl, .inr ⟨?_, rfl, rfl, rfl, rfl⟩, ownS_nil _ _ _ _, fun x hx => absurd rfl hx.1, hk.kept⟩
      rintro ⟨_, b', v', xs', h, hok⟩
      rw [hps] at h
      simp only [List.cons.injEq] at h
      obtain ⟨rfl, rfl, rfl⟩ := h
      exact hno hok
  · intro hI M hM hk5 hr5
    refine execRn_sound Γok (ds := []) (by cbv) (by simp; omega) hk5 hr5 ?_
    intro k6 a6 w6 hk6 hr6
    refine rn_callA (args := [.slice (some ⟨g, off, none⟩) xs.length ((parts s).length - 2)]) hk6 rfl rfl rfl Tryz.func21 rfl rfl (by simp [hlen2, ← hcut]; omega) ?_
    refine (slices_Clone g off _ xs w6 (hview _ (hk6.res _ (by simp)).1) (by omega)).mono ?_
    rintro e w7 ⟨g2, cap, rfl, hP7, hg7, hp7⟩
    refine ⟨_, rfl, hp7.fr, ?_⟩
    have hk7 := (hk6.pureOwn hp7 _ hP7 (ownStr_new hP7 hg7)).setX { s := [s], n := [(parts s).length, xs.length, cap], a := [some ⟨g2, 0, none⟩], ar := [strArr (some ⟨g, 0, none⟩) (parts s)] } (.slice (.v 0) (.v 1) (.v 2)) (d := 27) (v := .slice (some ⟨g2, 0, none⟩) xs.length cap) (by decide) (by simp) (by simp) (by simp) (by simp)
    refine execRn_sound Γok (ds := []) (by cbv) (by simp) hk7 (hr6.grow hp7.size (Nat.le_refl _) (by simp) (by simp) (by simp)) ?_
    intro k8 a8 w8 hk8 _
    exact hI _ _ ⟨k8, g2, cap, (hk8.to { s := [s, b, v], n := [xs.length, cap], a := [some ⟨g2, 0, none⟩] } ⟨39, [(5, .ptr (.box 1 0)), (3, .int .i64 (.c 0)), (2, .ptr (.box 0 0))], [⟨1, 24, [.str (.v 1), .str (.v 2), .slice (.v 0) (.v 0) (.v 1)]⟩, ⟨0, 24, [.str (.c ⟨#[]⟩), .str (.c ⟨#[]⟩), .slice .nil (.c 0) (.c 0)]⟩], 2, []⟩ rfl rfl (by simp) (by simp [hq0, hq1]) (by simp)).sub (by simp) (List.Sublist.refl _) (by simp)⟩
  · intro hI M hM hk5 hr5
    refine execRn_sound Γok (ds := []) (by cbv) (by simp; omega) hk5 hr5 ?_
    intro k6 a6 w6 hk6 hr6
    refine rn_callA (args := [.slice (some ⟨g, off, none⟩) xs.length ((parts s).length - 2)]) hk6 rfl rfl rfl Tryz.func21 rfl rfl (by simp [hlen2, ← hcut]; omega) ?_
    refine (slices_Clone g off _ xs w6 (hview _ (hk6.res _ (by simp)).1) (by omega)).mono ?_
    rintro e w7 ⟨g2, cap, rfl, hP7, hg7, hp7⟩
    refine ⟨_, rfl, hp7.fr, ?_⟩
    have hk7 := (hk6.pureOwn hp7 _ hP7 (ownStr_new hP7 hg7)).setX { s := [s], n := [(parts s).length, xs.length, cap], a := [some ⟨g2, 0, none⟩], ar := [strArr (some ⟨g, 0, none⟩) (parts s)] } (.slice (.v 0) (.v 1) (.v 2)) (d := 27) (v := .slice (some ⟨g2, 0, none⟩) xs.length cap) (by decide) (by simp) (by simp) (by simp) (by simp)
    refine execRn_sound Γok (ds := []) (by cbv) (by simp) hk7 (hr6.grow hp7.size (Nat.le_refl _) (by simp) (by simp) (by simp)) ?_
    intro k8 a8 w8 hk8 _
    exact hI _ _ ⟨k8, g2, cap, (hk8.to { s := [s, b, v], n := [xs.length, cap], a := [some ⟨g2, 0, none⟩] } ⟨39, [(5, .ptr (.box 1 0)), (3, .int .i64 (.c 0)), (2, .ptr (.box 0 0))], [⟨1, 24, [.str (.v 1), .str (.v 2), .slice (.v 0) (.v 0) (.v 1)]⟩, ⟨0, 24, [.str (.c ⟨#[]⟩), .str (.c ⟨#[]⟩), .slice .nil (.c 0) (.c 0)]⟩], 2, []⟩ rfl rfl (by simp) (by simp [hq0, hq1]) (by simp)).sub (by simp) (List.Sublist.refl _) (by simp)⟩
end Go.Proofs.YthhcbfngjmiigaaGreatDoor
