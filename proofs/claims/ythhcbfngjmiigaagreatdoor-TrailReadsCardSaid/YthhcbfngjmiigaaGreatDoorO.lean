import Derived.Test.YthhcbfngjmiigaaGreatDoorM
set_option linter.all false
namespace Go.Proofs.YthhcbfngjmiigaaGreatDoor
open Go Rx
set_option maxRecDepth 100000
def cuts (s : ByteArray) : List ByteArray := cutGo s (s.size + 1) 0 0
theorem cutGo_size (s : ByteArray) : ∀ n f i x, x ∈ cutGo s n f i → x.size ≤ s.size := by
  intro n
  induction n with
  | zero => intro f i x h; simp [cutGo] at h
  | succ n ih =>
    intro f i x h
    unfold cutGo at h
    split at h
    · simp only [List.mem_cons] at h
      rcases h with rfl | h
      · simp; omega
      · exact ih _ _ _ h
    · exact ih _ _ _ h
def refOk (s : ByteArray) : Prop := s.size ≤ 300 ∧ ∃ b v xs, cuts s = b :: v :: xs ∧ rightOk b v xs
set_option maxHeartbeats 1000000 in
theorem ref_Read (s : ByteArray) (w : World) (hs : s.size ≤ 1000) :
    Calls Tryz.prog 5 #[.string s] w fun e w' => ∃ b v A c xs, ∃ ok : Bool, e = .returned (.tuple #[.agg #[.string b, .string v, .slice A (List.length xs) c], .bool ok]) ∧ (ok = true ↔ refOk s) ∧ (ok = true → cuts s = b :: v :: xs) ∧ Lies (strArr A xs) w' ∧ (∀ x, (strArr A xs).res.F x → w.heap.size ≤ x) ∧ Pure0 w w' := by
  refine rx_enter0 Tryz.func5 rfl { s := [s] } [.str (.v 0)] rfl 28 rfl ?_
  intro a hs0
  have lnil : ∀ w', Lies (strArr none []) w' := fun w' => ⟨fun i e h => by simp at h, fun x hx => absurd rfl hx.1⟩
  by_cases h300 : s.size ≤ 300
  case neg =>
    refine run_sound mixed Γok [0, 2, 3, 4, 5, 8, 14] 50 [true] hs0 (by cbv) (by simp; omega) ?_
    intro a1 w1 hs1
    exact ret_at Γok (.base _) hs1 (by cbv) fun k hk => ⟨_, _, none, 0, [], false, rfl, (by simp; intro h; exact h300 h.1), (by simp), lnil _, fun x hx => absurd rfl hx.1, hk.kept⟩
  refine run_sound mixed Γok [0, 2, 3, 4, 5, 8, 14] 50 [false] hs0 (by cbv) (by simp; omega) ?_
  rintro a1 w1 ⟨k, hk⟩
  refine ops_step hk rfl (wp_callA (args := [.string s, .int .u8 32]) hk rfl Tryz.func18 rfl rfl (by simp; rfl) ?_)
  refine (ref_Cut s hs w1).mono ?_
  rintro e w2 ⟨A, c, rfl, hP, hF, hp⟩
  refine ⟨_, rfl, ?_⟩
  have hlies := ownStr_lies hP
  have hlen : (cuts s).length ≤ s.size + 1 := cutGo_len s _ _ _
  obtain ⟨cs, hcs⟩ : ∃ cs, cs = cuts s := ⟨_, rfl⟩
  have hcapc : cs.length ≤ c := by rw [hcs]; exact hP.2.1
  have hk2 := ((hk.pureRo hp _ hlies.1 (fun x hx => ⟨hF x (ownStr_F hP hx), hlies.2 x hx⟩)).setX { s := [s], n := [cs.length, c], ar := [strArr A cs] } (.slice (.arr 0 (.c 0) 0) (.v 0) (.v 1)) (d := 11) (v := .slice A (cutGo s (s.size + 1) 0 0).length c) (by decide) (by simp [hcs, cuts]) (by simp) (by simp) (by simp)).row 0 [.str] rfl (by simp) (.here (by simp [hcs, cuts]))
  by_cases h2 : cs.length < 2
  · refine run_sound mixed Γok [0, 2, 3, 4, 5, 8, 14] 50 [true] ⟨k, hk2⟩ (by cbv) (by simp; omega) ?_
    intro a4 w4 hs4
    refine ret_at Γok (.base _) hs4 (by cbv) fun k hk => ⟨_, _, none, 0, [], false, rfl, ?_, (by simp), lnil _, fun x hx => absurd rfl hx.1, hk.kept⟩
    simp
    rintro ⟨_, b, v, xs, h, _⟩
    rw [← hcs] at h
    rw [h] at h2; simp at h2; omega
  obtain ⟨b, v, xs, hps⟩ : ∃ b v xs, cs = b :: v :: xs := by
    match hq : cs with
    | [] => simp at h2
    | [x] => simp at h2
    | b :: v :: xs => exact ⟨b, v, xs, rfl⟩
  have hlen' : cs.length ≤ s.size + 1 := by rw [hcs]; exact hlen
  have hlen2 : cs.length = xs.length + 2 := by rw [hps]; rfl
  have hq0 : cs[0]? = some b := by rw [hps]; rfl
  have hq1 : cs[1]? = some v := by rw [hps]; rfl
  refine run_sound mixed Γok [0, 2, 3, 4, 5, 8, 14] 50 [false] ⟨k, hk2⟩ (by cbv) (by simp; omega) ?_
  rintro a4 w4 ⟨k4, hk4⟩
  obtain ⟨g, rfl⟩ : ∃ g, A = some ⟨g, 0, none⟩ := by
    rcases hP.2.2.2 with h | ⟨g, cur, h, _⟩
    · omega
    · exact ⟨g, h⟩
  have hg : w.heap.size ≤ g := Nat.le_trans hk.kept.size (hF g ⟨by omega, rfl⟩)
  obtain ⟨off, hoff⟩ : ∃ off : Nat, off = if c = 2 then 0 else 2 := ⟨_, rfl⟩
  have hview : ∀ w', (strArr (some ⟨g, 0, none⟩) cs).res.P w' → (strArr (some ⟨g, off, none⟩) xs).res.P w' := by
    intro w' hr i x hx
    have hne : xs.length ≠ 0 := by
      intro h0
      have : xs = [] := List.eq_nil_of_length_eq_zero h0
      subst this; simp at hx
    have ho2 : off = 2 := by rw [hoff, if_neg (by omega)]
    subst ho2
    refine ⟨_, rfl, fun j u hu => ?_⟩
    obtain ⟨ad, had, hh⟩ := hr (i + 2) x (by simpa [hps] using hx)
    simp only [strArr_a, Option.some.injEq] at had
    subst had
    have := hh j u hu
    simp only [strArr_esz, addr_add] at this ⊢
    rw [show 2 + (i * 1 + j) = 0 + ((i + 2) * 1 + j) by omega]; exact this
  have hcut : (if c = 2 then (⟨g, 0, none⟩ : Addr) else (⟨g, 0, none⟩ : Addr).add 2) = ⟨g, off, none⟩ := by
    rw [hoff]; split <;> simp [addr_add]
  have hk5 := hk4.to { s := [s, b, v], n := [xs.length, c - 2], a := [some ⟨g, off, none⟩] } ⟨28, [(5, .ptr (.box 1 0)), (3, .bool (.c false)), (2, .ptr (.box 0 0))], [⟨1, 39, [.str (.v 1), .str (.v 2), .slice (.v 0) (.v 0) (.v 1)]⟩, ⟨0, 39, [.str (.c ⟨#[]⟩), .str (.c ⟨#[]⟩), .slice .nil (.c 0) (.c 0)]⟩], 2, []⟩ rfl rfl (by simp) (by simp [hq0, hq1, hcut]; omega) (by simp)
  have hl5 : ∀ w', (strArr (some ⟨g, 0, none⟩) (cutGo s (s.size + 1) 0 0)).res.P w' → (∀ x, (strArr (some ⟨g, 0, none⟩) (cutGo s (s.size + 1) 0 0)).res.F x → x < w'.heap.size) → Lies (strArr (some ⟨g, off, none⟩) xs) w' := by
    intro w' h1 h2
    have e : cutGo s (s.size + 1) 0 0 = cs := hcs.symm
    rw [e] at h1 h2
    refine ⟨hview _ h1, ?_⟩
    rintro x ⟨_, ad, had, rfl⟩
    simp only [strArr_a, Option.some.injEq] at had
    subst had
    exact h2 g ⟨by simp [hps], _, rfl, rfl⟩
  have hsz : ∀ x ∈ cs, x.size ≤ 1000 := fun x hx => Nat.le_trans (cutGo_size s _ _ _ x (by rw [hcs] at hx; exact hx)) hs
  refine rx_drawK mixed hk5 [0] [] [(0, true), (1, true), (2, false), (3, false), (4, true)] (by cbv) ?_
  intro M hM hk6 hr6
  refine execRn_sound Γok (ds := []) (by cbv) (by simp) hk6 hr6 ?_
  intro k7 a7 w7 hk7 hr7
  have hro7 := hk7.res (strArr (some ⟨g, 0, none⟩) (cutGo s (s.size + 1) 0 0)).res (by simp)
  refine rn_callA (args := [.agg #[.string b, .string v, .slice (some ⟨g, off, none⟩) xs.length (c - 2)]]) hk7 rfl rfl rfl Tryz.func10 rfl rfl (by simp) ?_
  refine (ref_Right b v (some ⟨g, off, none⟩) (c - 2) xs w7 (hl5 _ hro7.1 hro7.2) (by omega) (fun x hx => Nat.le_trans (hsz x (by rw [hps]; simp [hx])) (by omega)) (Nat.le_trans (hsz b (by rw [hps]; simp)) (by omega)) (Nat.le_trans (hsz v (by rw [hps]; simp)) (by omega))).mono ?_
  rintro e w8 ⟨rb, rfl, hrb, hp8⟩
  refine ⟨_, rfl, hp8.fr, ?_⟩
  have hk8 := (hk7.pure hp8).setS (.bool (.c rb)) (d := 27) (v := .bool rb) (by decide) rfl
  refine execRn_sound Γok (ds := []) (by cbv) (by simp) hk8 (hr7.grow hp8.size (Nat.le_refl _) (by simp) (by simp) (by simp)) ?_
  intro k9 a9 w9 hk9 _
  refine run_sound mixed Γok [0, 2, 3, 4, 5, 8, 14] 50 [] ⟨k9, hk9⟩ (by cbv) (by simp) ?_
  intro a10 w10 hs10
  refine ret_at Γok (.base _) hs10 (by cbv) fun k hk => ?_
  have hro10 := hk.res (strArr (some ⟨g, 0, none⟩) (cutGo s (s.size + 1) 0 0)).res (by simp)
  refine ⟨b, v, some ⟨g, off, none⟩, c - 2, xs, rb, by simp, ?_, fun _ => by rw [← hcs, hps], hl5 _ hro10.1 hro10.2, ?_, hk.kept⟩
  · rw [hrb]
    constructor
    · intro h; exact ⟨h300, b, v, xs, by rw [← hcs, hps], h⟩
    · rintro ⟨_, b', v', xs', h1, h2⟩
      rw [← hcs, hps] at h1
      simp only [List.cons.injEq] at h1
      obtain ⟨rfl, rfl, rfl⟩ := h1
      exact h2
  · rintro x ⟨_, ad, had, rfl⟩
    simp only [strArr_a, Option.some.injEq] at had
    subst had
    exact hg
end Go.Proofs.YthhcbfngjmiigaaGreatDoor
