/-
  TrailReads, for every line, every command and every verb: the call returns true, and what was handed in reads behind it as it did before. Its condition: the two listed tables of the library hold what the program's text lays (the card ties them).
-/
import Derived.Test.YthhcbfngjmiigaaGreatDoorMain
import Derived.Test.YthhcbfngjmiigaaGreatDoorRxG
import Derived.Test.YthhcbfngjmiigaaGreatDoorCards
import Derived.Test.YthhcbfngjmiigaaGreatDoorTie
import Derived.SevenTiedAt
set_option linter.all false
namespace Go.Proofs.YthhcbfngjmiigaaGreatDoor
open Go Rx Go.ChangeShapes Go.WideShapes Go.ChangeAt Go.RowKit
open Go.ChangeMaps (open_string shut_string)
set_option maxRecDepth 100000
theorem lawOwn : ownKnob Tryz.prog.godebug = none := by kernel_rfl
theorem lawLaid : laidOutB Tryz.prog = true := by kernel_rfl
theorem lawReads : (Tryz.f3.params.toList.all fun t => Tryz.prog.readableRec t && Decidable.decide (t < Tryz.prog.types.size)) = true := by
  rw [Tryz.params3]; kernel_rfl
theorem lawMax {W : World} (h : W.ShapedOpen Tryz.prog) : globR.P W :=
  cell_of_shapedOpen_int (g := 0) (t := 3) (zero := #[.int .i64 0]) h (of_decide_eq_true (by kernel_rfl)) (by kernel_rfl) rfl (by kernel_rfl) (by kernel_rfl) Tryz.underlying3
theorem lawOne : Go.Deep.oneCellFields Tryz.prog #[⟨ "By", 9, 0, false, "", "", 0⟩, ⟨ "Verb", 9, 1, false, "", "", 16⟩, ⟨ "Args", 22, 2, false, "", "", 32⟩] = true := by kernel_rfl
theorem lawC1 : Tryz.prog.cellsOf 24 = 3 := by kernel_rfl
theorem lawC2 : Tryz.prog.cellsOf 9 = 1 := by kernel_rfl
theorem lawWalk (H : Type) (enc : TypeId × Value → H) (W : World) (base : Nat) (args : Array Value) (ds gs : List (DataW H)) (before : List MemPlace)
    (hval : ∀ (j : Nat) t v, Tryz.f3.params[j]? = some t → args[j]? = some v → Value.okWide Tryz.prog W .any base t v)
    (hW : DataW.Whole enc Tryz.prog Tryz.f3.params.toList Rows.trailReadsSpec.vars false W args.toList ds gs before)
    (hsz : (DataW.weightsEach Tryz.prog (Tryz.f3.params.toList ++ Rows.trailReadsSpec.plain.varTypes Tryz.prog) (ds ++ gs)).all (· ≤ reachBytes) = true) (hsh : W.ShapedOpen Tryz.prog) :
    Calls Tryz.prog 3 args W fun e W' => ∃ v, e = .returned v ∧ Rows.trailReadsSpec.post enc Tryz.prog Tryz.f3 false true false false W args v W' := by
  have hW' := hW
  obtain ⟨p, q, hA0, hV, rfl, hfz, hnd⟩ := hW
  have hA : DataW.TrodAll enc Tryz.prog W 0 (fun _ => true) true Tryz.f3.params.toList args.toList ds p := hA0
  rw [Tryz.params3] at hA hval
  rw [Tryz.params3] at hsz
  obtain ⟨v0, v1, v2, d0, d1, d2, p0, p1, p2, rfl, rfl, rfl, h0, h1, h2⟩ := trodAll_three hA
  obtain ⟨rfl, rfl⟩ := trodVars_none hV
  obtain ⟨line, rfl, rfl, rfl, wl⟩ := open_string Tryz.underlying9 (hval 0 9 v0 rfl rfl) h0
  obtain ⟨verb, rfl, rfl, rfl, wv⟩ := open_string Tryz.underlying9 (hval 2 9 v2 rfl rfl) h2
  obtain ⟨c0, c1, c2, y0, y1, y2, n, rfl, rfl, rfl, k0, k1, k2⟩ := Go.Joins.open_agg3 Tryz.underlying24 lawOne lawC1 (hval 1 24 v1 rfl rfl) h1
  obtain ⟨b, hb, hy0, wb⟩ := DataW.trod_string Tryz.underlying9 k0
  obtain ⟨v, hv, hy1, wv'⟩ := DataW.trod_string Tryz.underlying9 k1
  obtain rfl : c0 = .string b := by simpa using hb
  obtain rfl : c1 = .string v := by simpa using hv
  have hz : line.size ≤ 1000000000000000 ∧ b.size ≤ 1000000000000000 ∧ v.size ≤ 1000000000000000 ∧ verb.size ≤ 1000000000000000 := by
    subst hy0 hy1
    have h : (DataW.weightsEach Tryz.prog [9, 24, 9] [.lit (.string line.data.toList), (.agg [.lit (.string b.data.toList), .lit (.string v.data.toList), y2.1] : DataW H), .lit (.string verb.data.toList)]).all (· ≤ reachBytes) = true := hsz
    simp only [DataW.weightsEach, DataW.weights, Tryz.underlying24, List.map_cons, List.map_nil, List.all_append, List.all_cons, List.all_nil, Bool.and_eq_true, reachBytes, Array.length_toList] at h
    obtain ⟨x1, x2, x3, x4⟩ : line.data.size ≤ 140737488351232 ∧ b.data.size ≤ 140737488351232 ∧ v.data.size ≤ 140737488351232 ∧ verb.data.size ≤ 140737488351232 := ⟨of_decide_eq_true h.1.1, of_decide_eq_true h.2.1.1.1, of_decide_eq_true h.2.1.2.1.1, of_decide_eq_true h.2.2.1.1⟩
    have e : ∀ z : ByteArray, z.size = z.data.size := fun _ => rfl
    simp only [e]
    omega
  have fin : ∀ (A : Option Addr) (c : Nat) (xs : List ByteArray), c2 = .slice A xs.length c → Lies (strArr A xs) W → xs.length ≤ c →
      Calls Tryz.prog 3 #[.string line, .agg #[.string b, .string v, c2], .string verb] W fun e W' => ∃ v_1, e = .returned v_1 ∧ Rows.trailReadsSpec.post enc Tryz.prog Tryz.f3 false true false false W #[.string line, .agg #[.string b, .string v, c2], .string verb] v_1 W' := by
    rintro A c xs rfl ha hc
    refine (law_guard line b v verb A c xs W (lawMax hsh) ha hc hz.1 hz.2.1 hz.2.2.1 hz.2.2.2).mono ?_
    rintro e W' ⟨rfl, hp⟩
    exact ⟨_, rfl, post_law lawLaid (by kernel_rfl) Tryz.underlying4 lawReads rfl rfl hW' hp⟩
  rcases open_strings Tryz.underlying22 Tryz.underlying9 lawC2 k2 with ⟨hc, _⟩ | ⟨a, len, cap, ss, hc, _, hlc, _, hss, _, hcell, _⟩
  · exact fin none 0 [] (by simpa using hc) ⟨fun i e h => by simp at h, fun x hx => absurd rfl hx.1⟩ (Nat.le_refl _)
  · have hlen : (ss.take len).length = len := by simp at hss; simp; omega
    refine fin (some a) cap (ss.take len) (by rw [hlen]; simpa using hc) ⟨?_, ?_⟩ (by omega)
    · intro i e he
      simp only [strArr_el, List.getElem?_map, Option.map_eq_some_iff] at he
      obtain ⟨s, hs, rfl⟩ := he
      refine ⟨a, rfl, fun j v hv => ?_⟩
      have hi := (List.getElem?_eq_some_iff.1 hs).1
      have hss' := hs
      rw [List.getElem?_take] at hs
      split at hs
      · have hil := (List.getElem?_eq_some_iff.1 hs).1
        have hg : ss.getD i ByteArray.empty = s := by rw [List.getD_eq_getElem?_getD, hs]; rfl
        have := hcell i hil
        rw [hg] at this
        cases j with
        | zero => simp at hv; subst hv; simpa using this
        | succ j => simp at hv
      · cases hs
    · rintro x ⟨hne, ad, had, rfl⟩
      obtain rfl : a = ad := by simpa using had
      have hpos : 0 < ss.length := by
        simp only [strArr_el, ne_eq, List.map_eq_nil_iff] at hne
        rcases Nat.eq_zero_or_pos ss.length with h | h
        · exact absurd (by rw [List.length_eq_zero_iff.1 h]; simp) hne
        · exact h
      have := hcell 0 hpos
      simp only [addr_add_zero] at this
      unfold World.cell? at this
      by_cases hx : a.block < W.heap.size
      · exact hx
      · rw [Array.getElem?_eq_none (by simpa using hx)] at this; simp at this
/-- A world for the witness: the settled one, the two tables laid. -/
def accCells : Array Value := #[128, 191, 160, 191, 128, 159, 144, 191, 128, 143, 0, 0, 0, 0, 0, 0, 0, 0, 0, 0, 0, 0, 0, 0, 0, 0, 0, 0, 0, 0, 0, 0].map fun (n : Int) => Value.int .u8 n
def layCells (cs : Array Value) : Obj → Obj
  | .cells _ t frozen => .cells cs t frozen
  | o => o
noncomputable def laidWorld (os : Os) : World :=
  { World.holding Tryz.prog os ⟨#[], #[], []⟩ with heap := ((World.holding Tryz.prog os ⟨#[], #[], []⟩).heap.modify 1 (layCells (Go.Pinned.utf8FirstZ.map fun (n : Nat) => Value.int .u8 n).toArray)).modify 2 (layCells accCells) }
noncomputable abbrev witArgs : Array Value := #[.string ⟨#[]⟩, .agg #[.string ⟨#[]⟩, .string ⟨#[]⟩, .slice none 0 0], .string ⟨#[]⟩]
theorem laid_met (os : Os) : laidMet Tryz.prog Rows.trailReadsRow.laid ((laidWorld os).forCall (fun _ _ => 0) ⟨#[], witArgs, []⟩).memory :=
  laidMet_of_run' 8 (by kernel_rfl) (by kernel_rfl)
theorem lawReadsAt (os : Os) {H : Type} (enc : TypeId × Value → H) : ∃ places, DataW.whole enc Tryz.prog ((laidWorld os).forCall (fun _ _ => 0) ⟨#[], witArgs, []⟩).memory Tryz.f3.params.toList Rows.trailReadsSpec.vars false witArgs.toList 8 = some ([.lit (.string []), .agg [.lit (.string []), .lit (.string []), .nil], .lit (.string [])], [], places) :=
  ⟨[], by kernel_rfl⟩
theorem lawLifted (os : Os) (started : os.Started) (H : Type) (enc : TypeId × Value → H) (F : Stop.Interp) :
    ReturnsInHanded {} Tryz.checked os 3 .any ((OpenSpec.ofChange Rows.trailReadsSpec).preRow enc Tryz.prog Tryz.f3 Rows.trailReadsRow.domain false Rows.trailReadsRow.laid) (((OpenSpec.ofChange Rows.trailReadsSpec).at F).post enc Tryz.prog Tryz.f3 false true false false) := by
  obtain ⟨places, hx⟩ := lawReadsAt os enc
  refine returnsInHanded_of_row (C := Tryz.checked) (s := OpenSpec.ofChange Rows.trailReadsSpec) lawOwn started (by kernel_rfl) Tryz.func3
    (witness_row_at (enc := enc) (C := Tryz.checked) false (laidWorld os) witArgs rfl (by kernel_rfl) (by kernel_rfl) (by kernel_rfl)
      (OpenSpec.preRow_of_cond 8 hx (by kernel_rfl) (fun k hk => by cases hk) (by kernel_rfl) (laid_met os))) ?_
  intro W base args ds gs before hval hW _ _ hsz _ hsh _
  exact lawWalk H enc W base args ds gs before hval hW hsz hsh
theorem lawSaid : Rows.TrailReadsSaid :=
  OpenClaim.holds_of_cond 3 Tryz.f3 rfl rfl rfl rfl rfl rfl rfl ⟨rfl, rfl, rfl, rfl, rfl⟩ rfl rfl rfl rfl rfl (by kernel_rfl) Tryz.func3 (by kernel_rfl)
    (of_decide_eq_true (by kernel_rfl)) (by unfold Func.isWrapper; first | (rw [if_pos (by decide +kernel)]; kernel_rfl) | (rw [if_neg (by decide +kernel)]; exact ⟨rfl, rfl⟩))
    (fun os started H enc _ F => by rw [OpenClaim.pre_eq_preRow]; exact lawLifted os started H enc F)
theorem lawPlain (f : FuncId) (fn : Func) (hf : Tryz.pinned.checked.prog.funcNamed "variorum/variorumlaw26.TrailReads" = some f) (hfn : Tryz.pinned.checked.prog.funcs[f]? = some fn) :
    false = Tryz.pinned.checked.prog.looks [] ∧ ∀ (j : Nat) t, fn.params[j]? = some t → Tryz.pinned.checked.prog.wantsStandIn t = false := by
  obtain rfl : f = 3 := Option.some.inj ((show Tryz.prog.funcNamed "variorum/variorumlaw26.TrailReads" = some 3 by kernel_rfl).symm.trans hf) |>.symm
  obtain rfl : fn = Tryz.f3 := (Option.some.inj (Tryz.func3.symm.trans hfn)).symm
  refine ⟨by kernel_rfl, fun j t ht => ?_⟩
  have hall : (Tryz.f3.params.toList.all fun u => !Tryz.prog.wantsStandIn u) = true := by rw [Tryz.params3]; kernel_rfl
  have hm : t ∈ Tryz.f3.params.toList := by simpa using Array.mem_of_getElem? ht
  exact (show Tryz.prog.wantsStandIn t = false by simpa using List.all_eq_true.1 hall t hm)
theorem trailReads_card : Rows.TrailReadsCardSaid :=
  Claim7.holds_tied_plain_at .later [] _ _ _ _ lawSaid (fun _ h => by cases h) (by kernel_rfl) (fun _ h => by cases h) trailReads_row_tie rfl ⟨rfl, rfl⟩ (by kernel_rfl) rfl lawPlain (by kernel_rfl)
#print axioms trailReads_card
end Go.Proofs.YthhcbfngjmiigaaGreatDoor
