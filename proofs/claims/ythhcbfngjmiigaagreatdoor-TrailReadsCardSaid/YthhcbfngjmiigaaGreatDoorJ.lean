import Derived.Test.YthhcbfngjmiigaaGreatDoorRxE
import Derived.Test.YthhcbfngjmiigaaGreatDoorS
import Derived.Test.YthhcbfngjmiigaaGreatDoorG
set_option linter.all false
namespace Go.Proofs.YthhcbfngjmiigaaGreatDoor
open Go Rx
set_option maxRecDepth 100000

def bldR (T e B b : Nat) (p v : Value) (bs : List Value) : Res where
  F x := x = b ∨ v.ownBlock = some x
  P w := B ≤ b ∧ w.heap[b]? = some (.cells #[p, v] T (0, 0)) ∧ w.ownsRow B e 1 v bs.length bs ∧ v.ownBlock ≠ some b
  stay := by
    rintro w w' h ⟨h0, h1, h2, h3⟩
    refine ⟨h0, by rw [h b (.inl rfl)]; exact h1, ⟨h2.1, ?_⟩, h3⟩
    rcases h2.2 with h4 | ⟨g, cap, cur, h4, h5, h6, h7⟩
    · exact .inl h4
    · exact .inr ⟨g, cap, cur, h4, h5, by rw [h g (.inr (by rw [h4]; rfl))]; exact h6, h7⟩
theorem bldR_of {T e B b : Nat} {p : Value} {bs : List Value} {w : World} (h : Lib.BuilderAt T e B b p bs w) : ∃ v, (bldR T e B b p v bs).P w ∧ ∀ x, (bldR T e B b p v bs).F x → B ≤ x ∧ x < w.heap.size := by
  obtain ⟨h1, v, h2, h3, h4⟩ := h
  refine ⟨v, ⟨h1, h2, h3, h4⟩, ?_⟩
  rintro x (rfl | hx)
  · exact ⟨h1, (Array.getElem?_eq_some_iff.1 h2).1⟩
  · rcases h3.2 with ⟨h5, _⟩ | ⟨g, cap, cur, h5, h6, h7, _⟩
    · rw [h5] at hx; cases hx
    · rw [h5] at hx
      simp only [Value.ownBlock, Option.some.injEq] at hx
      subst hx
      exact ⟨h6, (Array.getElem?_eq_some_iff.1 h7).1⟩
theorem bldR_is {T e B b : Nat} {v : Value} {bs : List Value} {w : World} (h : (bldR T e B b (.pointer (some ⟨b, 0, none⟩)) v bs).P w) : Lib.IsBuilder T e B b bs w :=
  .inr ⟨h.1, v, h.2.1, h.2.2.1, h.2.2.2⟩
theorem below_kept {B : Nat} {w w' : World} (h : Go.RowKit.Below B w w') : Kept (fun x => B ≤ x) w w' := ⟨h.os, h.tape, h.output, h.size, fun b _ hm => h.block b (by omega)⟩

def joinB (sep : ByteArray) : List ByteArray → ByteArray
  | [] => ByteArray.empty
  | x :: xs => xs.foldl (fun acc y => acc ++ sep ++ y) x
def emp : Res := ⟨fun _ => False, fun _ => True, fun _ _ _ h => h⟩
theorem join_ws {C : Ctx} {k : Nat → Nat} {b : Nat} {ρ : Env} {ro : List Res} {st : St} {a : Act} {w : World} {v : Value} {bs : List Value} {s : ByteArray} {vs : List SV} {op : Oper} {K : Act → World → Prop} {Q : Exit → Act → World → Prop}
    (hk : SatK C k ρ ro [bldR 91 5 b b (.pointer (some ⟨b, 0, none⟩)) v bs] st a w) (hro : ∀ r ∈ ro, ∀ x, r.F x → x < b) (hbx : st.bx = []) (har : ∀ q ∈ st.ar, View ro (ρ.arr q.1)) (hC : C.w0.heap.size ≤ b)
    (hc : calleeS st op.op = some (75, vs)) (hvs : SV.dens k ρ vs = [.pointer (some ⟨b, 0, none⟩), .string s]) (hlen : bs.length + s.size ≤ 140737488355328)
    (h : ∀ v' w', SatK C k ρ ro [bldR 91 5 b b (.pointer (some ⟨b, 0, none⟩)) v' (bs ++ Lib.strCells s)] st a w' → K (a.put op.dst (.tuple #[.int .i64 s.size, .nilIface])) w') : op.wp Tryz.prog a w K Q := by
  have hP := (hk.res _ (List.mem_append_right _ (List.mem_cons_self ..)))
  have hlt : b < w.heap.size := hP.2 _ (.inl rfl)
  refine wp_call hk hc Tryz.func75 rfl rfl ?_
  rw [hvs]
  refine (Tryz.Builder_WriteString b b bs s w (bldR_is hP.1) hlen (by omega)).mono ?_
  rintro e w' ⟨rfl, hb, hbel⟩
  refine ⟨_, rfl, ?_⟩
  obtain ⟨v', h1, h2⟩ := bldR_of hb
  refine h v' w' (hk.mutM (below_kept hbel) ?_ (by rw [hbx]; simp) (fun x _ hx => .inl (by omega)) _ h1 (fun x hx => ⟨.inl (h2 x hx).1, (h2 x hx).2⟩) (fun q hq => (har q hq).mono fun r hr => List.mem_append_left _ hr))
  rintro r (hr | hr) x hx
  · have := hro r hr x hx; omega
  · cases hr
theorem cons_tail {α : Type} {xs : List α} (h : 0 < xs.length) : xs[0] :: xs.tail = xs := by
  cases xs with
  | nil => simp at h
  | cons x l => rfl
theorem strCells_append (x y : ByteArray) : Lib.strCells (x ++ y) = Lib.strCells x ++ Lib.strCells y := by simp [Lib.strCells]
theorem strings_Join (A : Option Addr) (c : Nat) (sep : ByteArray) (xs : List ByteArray) (w : World) (ha : Lies (strArr A xs) w) (hc : xs.length ≤ c) (hn : xs.length ≤ 1000) (hx : ∀ x ∈ xs, x.size ≤ 1000000) (hs : sep.size = 1) :
    Calls Tryz.prog 27 #[.slice A xs.length c, .string sep] w fun e w' => e = .returned (.string (joinB sep xs)) ∧ Pure0 w w' := by
  refine rx_enter (M := fun _ => False) Tryz.func27 rfl (fun _ => 0) { n := [xs.length, c], s := [sep], ar := [strArr A xs] } [.slice (.arr 0 (.c 0) 0) (.v 0) (.v 1), .str (.v 0)]
    (by simp [SV.den, strArr]) (ro := [(strArr A xs).res]) (own := []) (bx := []) (nx := 0) (ar := [(0, [.str])])
    (Mem.reads _ _ _ _ (by simpa [Lies] using ha) (by simp)) 75 rfl ?_
  intro a hs0
  by_cases he0 : xs = []
  · subst he0
    refine run_sound mixed Γok [0, 1, 4, 5, 7, 8, 10, 12, 13, 15, 22, 29, 39, 40, 41, 42, 49, 63, 64, 65, 66] 50 [true] hs0 (by cbv) (by simp) ?_
    intro a1 w1 hs1
    exact ret_at Γok (.base _) hs1 (by cbv) fun k hk => ⟨rfl, hk.kept⟩
  by_cases he1 : xs.length = 1
  · obtain ⟨x, rfl⟩ := List.length_eq_one_iff.1 he1
    refine run_sound mixed Γok [0, 1, 4, 5, 7, 8, 10, 12, 13, 15, 22, 29, 39, 40, 41, 42, 49, 63, 64, 65, 66] 50 [false, true] hs0 (by cbv) (by simp) ?_
    intro a1 w1 hs1
    exact ret_at Γok (.base _) hs1 (by cbv) fun k hk => ⟨by simp [joinB], hk.kept⟩
  have hlen : 2 ≤ xs.length := by
    have : xs.length ≠ 0 := fun h => he0 (List.length_eq_zero_iff.1 h)
    omega
  have w1' := wrap_id (n := (xs.length : Int) - 1) (by omega) (by omega)
  have hq : (2 : Int) ≤ Int.tdiv 9223372036854775807 ((xs.length : Int) - 1) := by
    rw [Int.tdiv_eq_ediv_of_nonneg (by omega)]
    exact (Int.le_ediv_iff_mul_le (by omega)).2 (by omega)
  have hq2 : Int.tdiv 9223372036854775807 ((xs.length : Int) - 1) ≤ 9223372036854775807 := by
    rw [Int.tdiv_eq_ediv_of_nonneg (by omega)]
    exact Int.le_trans (Int.ediv_le_self _ (by omega)) (by omega)
  have w2' := wrap_id (n := Int.tdiv 9223372036854775807 ((xs.length : Int) - 1)) (by omega) hq2
  refine run_sound mixed Γok [0, 1, 4, 5, 7, 8, 10, 12, 13, 15, 22, 29, 39, 40, 41, 42, 49, 63, 64, 65, 66] 50 [false, false, true, false] hs0 (by cbv) ?_ ?_
  · simp [hs, w1', w2', he0]
    omega
  intro a1 w1 hs1
  refine rx_loop (fun (p : Nat × Int) a' w' => p.1 ≤ xs.length ∧ 0 ≤ p.2 ∧ p.2 ≤ 1000 + p.1 * 1000000 ∧ Sat ⟨w, fun _ => False⟩ { s := [sep], i := [(p.1 : Int), p.2], n := [xs.length, c], ar := [strArr A xs] } [(strArr A xs).res] []
      ⟨75, [(41, .int .i64 (.v 0)), (40, .int .i64 (.nat (.v 0))), (39, .slice (.arr 0 (.c 0) 0) (.v 0) (.v 1)), (5, .int .i64 (.v 1)), (0, .slice (.arr 0 (.c 0) 0) (.v 0) (.v 1)), (1, .str (.v 0))], [], 0, [(0, [.str])]⟩ a' w') (fun p => xs.length - p.1) (0, (xs.length : Int) - 1)
      ⟨Nat.zero_le _, by simp only; omega, by simp only; omega, hs1.to _ _ rfl rfl (by intro k; simp [hs, w1']) (by simp) (by simp)⟩ ?_
  rintro ⟨m, tot⟩ a2 w2 ⟨hm, ht0, ht1, hs2⟩
  simp only at hm ht0 ht1 hs2
  by_cases h : m < xs.length
  · have hz := hx _ (List.getElem_mem h)
    have w3 := wrap_id (n := 9223372036854775807 - tot) (by omega) (by omega)
    have w4 := wrap_id (n := tot + (xs[m].size : Int)) (by omega) (by omega)
    have w5 := wrap_id (n := (m : Int) + 1) (by omega) (by omega)
    refine run_sound mixed Γok [0, 1, 4, 5, 7, 8, 10, 12, 13, 15, 22, 29, 39, 40, 41, 42, 49, 63, 64, 65, 66] 50 [true, false] hs2 (by cbv) (by simp [h, w3]; omega) ?_
    intro a3 w3' hs3
    refine ⟨(m + 1, tot + xs[m].size), by simp only; omega, by simp only; omega, by simp only; omega, by simp only; push_cast; omega, hs3.to _ _ rfl rfl (by intro k; simp [h, w4, w5]) (by simp) (by simp)⟩
  · obtain rfl : m = xs.length := by omega
    refine run_sound mixed Γok [0, 1, 4, 5, 7, 8, 10, 12, 13, 15, 22, 29, 39, 40, 41, 42, 49, 63, 64, 65, 66] 50 [false] hs2 (by cbv) (by simp) ?_
    intro a3 w3 hs3
    refine exit_in rfl rfl ?_
    refine run_sound mixed Γok [0, 1, 4, 5, 7, 8, 10, 12, 13, 15, 22, 29, 39, 40, 41, 42, 49, 63, 64, 65, 66] 50 [] hs3 (by cbv) (by simp) ?_
    rintro a4 w4 ⟨k, hk⟩
    have hb0 := hk.box _ (List.mem_cons_self ..)
    have hnew := (hk.bnew _ (List.mem_cons_self ..)).resolve_right (fun h => h)
    have hlt := hk.boxlt (List.mem_cons_self ..)
    simp only at hb0 hnew hlt
    have hk1 := hk.unbox (List.mem_cons_self ..) (boxR (k 0) (boxObj k _ _)) (fun h => h) (fun x h => h)
    obtain ⟨t, ht⟩ : ∃ t : Nat, tot = t := ⟨tot.toNat, by omega⟩
    have hro : ∀ r ∈ [(strArr A xs).res], ∀ x, r.F x → x < k 0 := by
      intro r hr x hx
      simp only [List.mem_singleton] at hr
      subst hr
      have := ha.2 x hx
      omega
    have har : View [(strArr A xs).res] (strArr A xs) := .here (by simp)
    refine ops_step hk1 rfl (wp_call hk1 rfl Tryz.func74 rfl rfl ?_)
    simp only [SV.dens, SV.den, AE.den, IE.den, ht]
    refine (Tryz.Builder_Grow_fresh (k 0) (k 0) t w4 (Nat.le_refl _) hb0 (by omega) (by omega)).mono ?_
    rintro e w5 ⟨rfl, hb, hbel⟩
    refine ⟨_, rfl, ?_⟩
    obtain ⟨v, h1, h2⟩ := bldR_of hb
    have hk2 := (hk1.mutM (below_kept hbel) (by
        rintro r (hr | hr) x hx
        · have := hro r hr x hx; omega
        · cases hr) (by simp) (fun x _ hx => .inl (by simp only; omega)) _ h1 (fun x hx => ⟨.inl (h2 x hx).1, (h2 x hx).2⟩) (by simp; exact har.mono (by simp))).setV (d := 57) (by decide) (.tuple #[])
    have hx0 : 0 < xs.length := by omega
    have hk3 := hk2.to { i := [], s := [sep], n := [xs.length, c, k 0], ar := [strArr A xs] } ⟨75, [(8, .ptr (.at 2 0)), (0, .slice (.arr 0 (.c 0) 0) (.v 0) (.v 1)), (1, .str (.v 0))], [], 0, [(0, [.str])]⟩ rfl rfl (by simp) (by simp) (by simp)
    generalize k 0 = b at *
    refine run_sound mixed Γok [0, 1, 4, 5, 7, 8, 10, 12, 13, 15, 22, 29, 39, 40, 41, 42, 49, 63, 64, 65, 66] 50 [] ⟨k, hk3⟩ (by cbv) (by simp [hx0]) ?_
    rintro a6 w6 ⟨k', hk4⟩
    have hsz0 := hx _ (List.getElem_mem hx0)
    refine ops_step hk4 rfl (join_ws hk4 hro rfl (by simp; exact har) hnew rfl (s := xs[0]) (by simp [hx0]) (by simp; omega) ?_)
    intro v' w7 hk5
    rw [List.nil_append] at hk5
    have hk6 := hk5.setV (d := 61) (by decide) (.tuple #[.int .i64 xs[0].size, .nilIface])
    refine run_sound mixed Γok [0, 1, 4, 5, 7, 8, 10, 12, 13, 15, 22, 29, 39, 40, 41, 42, 49, 63, 64, 65, 66] 50 [] ⟨k', hk6⟩ (by cbv) (by simp; omega) ?_
    intro a8 w8 hs8
    refine rx_loop (fun (m : Nat) a' w' => m ≤ xs.length - 1 ∧ ∃ v' bs, bs.length ≤ 1000000 + m * 1000001 ∧ bs = Lib.strCells ((xs.tail.take m).foldl (fun acc y => acc ++ sep ++ y) xs[0]) ∧ Sat ⟨w, fun _ => False⟩ { s := [sep], i := [(m : Int)], n := [xs.length, c, b], ar := [strArr A xs] } [(strArr A xs).res] [bldR 91 5 b b (.pointer (some ⟨b, 0, none⟩)) v' bs]
      ⟨75, [(65, .int .i64 (.v 0)), (64, .int .i64 (.nat (.sub (.v 0) (.c 1)))), (63, .slice (.cut 0 (.c 1) (.v 1)) (.sub (.v 0) (.c 1)) (.sub (.v 1) (.c 1))), (8, .ptr (.at 2 0)), (0, .slice (.arr 0 (.c 0) 0) (.v 0) (.v 1)), (1, .str (.v 0))], [], 0, [(0, [.str])]⟩ a' w') (fun m => xs.length - m) 0
      ⟨Nat.zero_le _, v', Lib.strCells xs[0], by simp [Lib.strCells_length]; omega, rfl, hs8.to _ _ rfl rfl (by simp) (by simp) (by simp)⟩ ?_
    rintro m a9 w9 ⟨hm2, v2, bs, hbl, hbs, hs9⟩
    by_cases hm3 : m < xs.length - 1
    · have hmx : m + 1 < xs.length := by omega
      have hsz := hx _ (List.getElem_mem hmx)
      have e1 : (1 + (m : Int)).toNat = m + 1 := by omega
      refine run_sound mixed Γok [0, 1, 4, 5, 7, 8, 10, 12, 13, 15, 22, 29, 39, 40, 41, 42, 49, 63, 64, 65, 66] 50 [true] hs9 (by cbv) (by simp; omega) ?_
      rintro a10 w10 ⟨k10, hk10⟩
      refine ops_step hk10 rfl (join_ws hk10 hro rfl (by simp; exact har) hnew rfl (s := sep) (by simp) (by omega) ?_)
      intro v3 w11 hk11
      have hk12 := hk11.setV (d := 70) (by decide) (.tuple #[.int .i64 sep.size, .nilIface])
      refine run_sound mixed Γok [0, 1, 4, 5, 7, 8, 10, 12, 13, 15, 22, 29, 39, 40, 41, 42, 49, 63, 64, 65, 66] 50 [] ⟨k10, hk12⟩ (by cbv) (by simp) ?_
      rintro a13 w13 ⟨k13, hk13⟩
      refine ops_step hk13 rfl (join_ws hk13 hro rfl (by simp; exact har) hnew rfl (s := xs[m + 1]) (by simp [e1, hmx]) (by simp [Lib.strCells_length]; omega) ?_)
      intro v4 w14 hk14
      have hk15 := hk14.setV (d := 72) (by decide) (.tuple #[.int .i64 xs[m + 1].size, .nilIface])
      refine run_sound mixed Γok [0, 1, 4, 5, 7, 8, 10, 12, 13, 15, 22, 29, 39, 40, 41, 42, 49, 63, 64, 65, 66] 50 [] ⟨k13, hk15⟩ (by cbv) (by simp) ?_
      intro a16 w16 hs16
      refine ⟨m + 1, by omega, by omega, v4, _, ?_, ?_, hs16.to _ _ rfl rfl (by have := wrap_id (n := (m : Int) + 1) (by omega) (by omega); simp [this]) (by simp) (by simp)⟩
      · simp [Lib.strCells_length]; omega
      · rw [hbs, List.take_add_one, List.getElem?_tail, List.getElem?_eq_getElem hmx]
        simp [strCells_append]
    · obtain rfl : m = xs.length - 1 := by omega
      refine run_sound mixed Γok [0, 1, 4, 5, 7, 8, 10, 12, 13, 15, 22, 29, 39, 40, 41, 42, 49, 63, 64, 65, 66] 50 [false] hs9 (by cbv) (by simp) ?_
      intro a10 w10 hs10
      refine exit_in rfl rfl ?_
      refine run_sound mixed Γok [0, 1, 4, 5, 7, 8, 10, 12, 13, 15, 22, 29, 39, 40, 41, 42, 49, 63, 64, 65, 66] 50 [] hs10 (by cbv) (by simp) ?_
      rintro a11 w11 ⟨k11, hk11⟩
      have hP := hk11.res _ (List.mem_append_right _ (List.mem_cons_self ..))
      have hlt2 : b < w11.heap.size := hP.2 _ (.inl rfl)
      have hfin : xs[0] :: xs.tail = xs := cons_tail hx0
      have hj : xs.tail.foldl (fun acc y => acc ++ sep ++ y) xs[0] = joinB sep xs := by
        conv => rhs; rw [← hfin]
        rfl
      rw [List.take_of_length_le (by simp), hj] at hbs
      subst hbs
      refine ops_step hk11 rfl (wp_call hk11 rfl Tryz.func76 rfl rfl ?_)
      refine (Tryz.Builder_String_any b b (joinB sep xs).data.toList w11 (bldR_is hP.1) (by omega)).mono ?_
      rintro e w12 ⟨rfl, hbel2⟩
      refine ⟨_, rfl, ?_⟩
      obtain ⟨jv, hjv⟩ : ∃ jv, jv = joinB sep xs := ⟨_, rfl⟩
      have hk12 := (hk11.mutM (below_kept hbel2) (by
        rintro r (hr | hr) x hx
        · have := hro r hr x hx; omega
        · cases hr) (by simp) (fun x _ hx => .inl (by simp only; omega)) emp trivial (fun x hx => hx.elim) (by simp; exact har.mono (by simp))).setS (.lit (.string jv)) (d := 74) (v := .string ⟨(joinB sep xs).data.toList.toArray⟩) (by decide) (by simp [hjv])
      refine run_sound mixed Γok [0, 1, 4, 5, 7, 8, 10, 12, 13, 15, 22, 29, 39, 40, 41, 42, 49, 63, 64, 65, 66] 50 [] ⟨k11, hk12⟩ (by cbv) (by simp) ?_
      intro a13 w13 hs13
      exact ret_at Γok (.base _) hs13 (by cbv) fun k hk => ⟨by simp [hjv], hk.kept⟩
end Go.Proofs.YthhcbfngjmiigaaGreatDoor
