/-
  RX 3: the operations that the executor does by itself.
-/
import Derived.Test.YthhcbfngjmiigaaGreatDoorRx2
set_option linter.all false
set_option linter.unusedSimpArgs false
set_option linter.unusedSectionVars false
set_option linter.unusedVariables false
namespace Rx
open Go

def mkIcmp (o : BinOp) (x y : IE) : BE :=
  match x, y with
  | .c a, .c b => .c (icmp o a b)
  | x, y => .icmp o x y
theorem mkIcmp_den (o : BinOp) (x y : IE) (k : Nat → Nat) (ρ : Env) : (mkIcmp o x y).den k ρ = icmp o (x.den ρ) (y.den ρ) := by
  unfold mkIcmp; split <;> rfl
def mkNot (x : BE) : BE :=
  match x with
  | .c b => .c (!b)
  | .not x => x
  | x => .not x
theorem mkNot_den (x : BE) (k : Nat → Nat) (ρ : Env) : (mkNot x).den k ρ = !(x.den k ρ) := by
  unfold mkNot; split <;> simp [BE.den]
def mkAnil (a : AE) : BE :=
  match a with
  | .nil => .c true
  | .box _ _ => .c false
  | .at _ _ => .c false
  | a => .anil a
theorem mkAnil_den (a : AE) (k : Nat → Nat) (ρ : Env) : (mkAnil a).den k ρ = (a.den k ρ).isNone := by
  cases a <;> simp [mkAnil, AE.den, BE.den]
def mkMnil (a : ME) : BE :=
  match a with
  | .nil => .c true
  | .at _ => .c false
  | a => .mnil a
theorem mkMnil_den (a : ME) (k : Nat → Nat) (ρ : Env) : (mkMnil a).den k ρ = (a.den ρ).isNone := by
  cases a <;> simp [mkMnil, ME.den, BE.den]

def isArith : BinOp → Bool
  | .add | .sub | .mul => true
  | _ => false
def isDiv : BinOp → Bool
  | .quo | .rem => true
  | _ => false
def isCmp : BinOp → Bool
  | .eql | .neq | .lss | .leq | .gtr | .geq => true
  | _ => false
def nz : IE → Bool
  | .c n => n != 0
  | _ => false
def isEq : BinOp → Bool
  | .eql | .neq => true
  | _ => false
def eqRes (o : BinOp) (e : BE) : BE := match o with | .neq => mkNot e | _ => e

def binS (Γ : Tab) (o : BinOp) (t : TypeId) (x y : SV) : Option SV :=
  match x, y with
  | .int k a, .int k' b =>
    if k = k' then
      if isArith o then some (.int k (.op o k a b))
      else if isDiv o && nz b then some (.int k (.op o k a b))
      else if isCmp o then some (.bool (mkIcmp o a b)) else none
    else none
  | .str a, .str b => if isCmp o then some (.bool (.scmp o a b)) else none
  | .bool a, .bool b => if isEq o then (match Γ.get t with | some ⟨.bool, _, _, _⟩ => some (.bool (eqRes o (.beq a b))) | _ => none) else none
  | .ptr .nil, .ptr b => if isEq o then (match Γ.get t with | some ⟨.pointer _, _, _, _⟩ => some (.bool (eqRes o (mkAnil b))) | _ => none) else none
  | .ptr a, .ptr .nil => if isEq o then (match Γ.get t with | some ⟨.pointer _, _, _, _⟩ => some (.bool (eqRes o (mkAnil a))) | _ => none) else none
  | .slice a _ _, .slice .nil _ _ => if isEq o then (match Γ.get t with | some ⟨.slice _, _, _, _⟩ => some (.bool (eqRes o (mkAnil a))) | _ => none) else none
  | .mp a, .mp .nil => if isEq o then (match Γ.get t with | some ⟨.map _ _, _, _, _⟩ => some (.bool (eqRes o (mkMnil a))) | _ => none) else none
  | .fn _ _ _, .nilfn => if isEq o then (match Γ.get t with | some ⟨.func _ _ _, _, _, _⟩ => some (.bool (eqRes o (.c false))) | _ => none) else none
  | .nilfn, .nilfn => if isEq o then (match Γ.get t with | some ⟨.func _ _ _, _, _, _⟩ => some (.bool (eqRes o (.c true))) | _ => none) else none
  | _, _ => none

section
variable {P : Program} {t : TypeId} {x : TI} (F : TFacts P t x) (w : World) (d : Nat)
include F
theorem eqIn_bool (h : x.d = .bool) (a b : Bool) : (Op.equalIn (d + 1) t (.bool a) (.bool b)).run P w = .ok (a == b) w := by
  simp [Op.equalIn, F.run_und, h]
theorem eqIn_nilptr {e : TypeId} (h : x.d = .pointer e) (b : Option Addr) : (Op.equalIn (d + 1) t (.pointer none) (.pointer b)).run P w = .ok b.isNone w := by
  simp [Op.equalIn, F.run_und, h]
theorem eqIn_ptrnil {e : TypeId} (h : x.d = .pointer e) (a : Option Addr) : (Op.equalIn (d + 1) t (.pointer a) (.pointer none)).run P w = .ok a.isNone w := by
  cases a <;> simp [Op.equalIn, F.run_und, h]
theorem eqIn_slicenil {e : TypeId} (h : x.d = .slice e) (a : Option Addr) (n c n' c' : Nat) : (Op.equalIn (d + 1) t (.slice a n c) (.slice none n' c')).run P w = .ok a.isNone w := by
  cases a <;> simp [Op.equalIn, F.run_und, h]
theorem eqIn_mapnil {u e : TypeId} (h : x.d = .map u e) (a : Option Nat) : (Op.equalIn (d + 1) t (.map a) (.map none)).run P w = .ok a.isNone w := by
  cases a <;> simp [Op.equalIn, F.run_und, h]
theorem eqIn_funcnil {p r : Array TypeId} {b : Bool} (h : x.d = .func p r b) (f : Fn) (l m : Array Value) : (Op.equalIn (d + 1) t (.func f l m) .nilFunc).run P w = .ok false w := by
  simp [Op.equalIn, F.run_und, h]
theorem eqIn_nilnil {p r : Array TypeId} {b : Bool} (h : x.d = .func p r b) : (Op.equalIn (d + 1) t .nilFunc .nilFunc).run P w = .ok true w := by
  simp [Op.equalIn, F.run_und, h]
end
theorem equal_at (t : TypeId) (x y : Value) : Op.equal t x y = Op.equalIn (9999 + 1) t x y := rfl
theorem eqRes_den (o : BinOp) (h : isEq o = true) (e : BE) (k : Nat → Nat) (ρ : Env) : (o = .eql ∧ (eqRes o e).den k ρ = e.den k ρ) ∨ (o = .neq ∧ (eqRes o e).den k ρ = !(e.den k ρ)) := by
  cases o <;> simp [isEq] at h
  · exact .inl ⟨rfl, rfl⟩
  · exact .inr ⟨rfl, mkNot_den e k ρ⟩
theorem eq_run {P : Program} {w : World} {t : TypeId} {x y : Value} {b : Bool} (o : BinOp) (h : isEq o = true) (e : BE) (k : Nat → Nat) (ρ : Env) (he : e.den k ρ = b)
    (hx : ∀ o', isEq o' = true → binOp o' t x y = match o' with | .neq => (do pure (.bool (!(← Op.equal t x y))) : Sem Value) | _ => (do pure (.bool (← Op.equal t x y)) : Sem Value))
    (hr : (Op.equal t x y).run P w = .ok b w) : (binOp o t x y).run P w = .ok (.bool ((eqRes o e).den k ρ)) w := by
  rw [hx o h]
  rcases eqRes_den o h e k ρ with ⟨rfl, h2⟩ | ⟨rfl, h2⟩
  · simp [hr, h2, he]
  · simp [hr, h2, he]
theorem eqGuard_run {P : Program} {w : World} (o : BinOp) (t : TypeId) (x y : Operand) {a b : Value} (ha : a ≠ .nilIface) (hb : ∀ cs, a ≠ .agg cs) : (eqGuard o t x y a b).run P w = .ok () w := by
  unfold eqGuard
  cases o <;> simp
  all_goals (split <;> simp_all)

theorem binS_run {P : Program} {Γ : Tab} (hΓ : TabOk P Γ) {o : BinOp} {t : TypeId} {x y v : SV} (h : binS Γ o t x y = some v) (k : Nat → Nat) (ρ : Env) (w : World) :
    (binOp o t (x.den k ρ) (y.den k ρ)).run P w = .ok (v.den k ρ) w := by
  unfold binS at h
  split at h
  · rename_i q a q' b
    split at h
    · rename_i hq
      subst hq
      split at h
      · rename_i ho
        cases h
        cases o <;> simp [isArith] at ho <;> simp [SV.den, IE.den, iop, binOp, Op.intArith]
      · split at h
        · rename_i ho
          cases h
          simp only [Bool.and_eq_true] at ho
          obtain ⟨ho, hb⟩ := ho
          have hb' : b.den ρ ≠ 0 := by
            cases b <;> simp [nz] at hb
            simpa [IE.den] using hb
          cases o <;> simp [isDiv] at ho <;> simp [SV.den, IE.den, iop, binOp, Op.intDiv, hb']
        · split at h
          · rename_i ho
            cases h
            cases o <;> simp [isCmp] at ho <;> simp [SV.den, mkIcmp_den, icmp, binOp, Op.intCmp]
          · cases h
    · cases h
  · rename_i a b
    split at h
    · rename_i ho
      cases h
      cases o <;> simp [isCmp] at ho <;> simp [SV.den, BE.den, scmp, binOp, Op.stringOp]
    · cases h
  · rename_i a b
    split at h
    · rename_i ho
      split at h
      · rename_i hg
        cases h
        have F := tfacts (hΓ.get hg)
        refine eq_run o ho (.beq a b) k ρ rfl (fun o' ho' => by cases o' <;> simp [isEq] at ho' <;> rfl) ?_
        exact eqIn_bool F w 9999 rfl _ _
      · cases h
    · cases h
  · rename_i b
    split at h
    · rename_i ho
      split at h
      · rename_i hg
        cases h
        have F := tfacts (hΓ.get hg)
        refine eq_run o ho (mkAnil b) k ρ (mkAnil_den ..) (fun o' ho' => by cases o' <;> simp [isEq] at ho' <;> rfl) ?_
        exact eqIn_nilptr F w 9999 rfl _
      · cases h
    · cases h
  · rename_i a _
    split at h
    · rename_i ho
      split at h
      · rename_i hg
        cases h
        have F := tfacts (hΓ.get hg)
        refine eq_run o ho (mkAnil a) k ρ (mkAnil_den ..) (fun o' ho' => by cases o' <;> simp [isEq] at ho' <;> simp [SV.den, AE.den] <;> cases a.den k ρ <;> rfl) ?_
        exact eqIn_ptrnil F w 9999 rfl _
      · cases h
    · cases h
  · rename_i a _ _ _ _
    split at h
    · rename_i ho
      split at h
      · rename_i hg
        cases h
        have F := tfacts (hΓ.get hg)
        refine eq_run o ho (mkAnil a) k ρ (mkAnil_den ..) (fun o' ho' => by cases o' <;> simp [isEq] at ho' <;> rfl) ?_
        exact eqIn_slicenil F w 9999 rfl _ _ _ _ _
      · cases h
    · cases h
  · rename_i a
    split at h
    · rename_i ho
      split at h
      · rename_i hg
        cases h
        have F := tfacts (hΓ.get hg)
        refine eq_run o ho (mkMnil a) k ρ (mkMnil_den ..) (fun o' ho' => by cases o' <;> simp [isEq] at ho' <;> rfl) ?_
        exact eqIn_mapnil F w 9999 rfl _
      · cases h
    · cases h
  · split at h
    · rename_i ho
      split at h
      · rename_i hg
        cases h
        have F := tfacts (hΓ.get hg)
        refine eq_run o ho (.c false) k ρ rfl (fun o' ho' => by cases o' <;> simp [isEq] at ho' <;> rfl) ?_
        exact eqIn_funcnil F w 9999 rfl _ _ _
      · cases h
    · cases h
  · split at h
    · rename_i ho
      split at h
      · rename_i hg
        cases h
        have F := tfacts (hΓ.get hg)
        refine eq_run o ho (.c true) k ρ rfl (fun o' ho' => by cases o' <;> simp [isEq] at ho' <;> rfl) ?_
        exact eqIn_nilnil F w 9999 rfl
      · cases h
    · cases h
  · cases h
theorem binS_shape {Γ : Tab} {o : BinOp} {t : TypeId} {x y v : SV} (h : binS Γ o t x y = some v) (k : Nat → Nat) (ρ : Env) : x.den k ρ ≠ .nilIface ∧ ∀ cs, x.den k ρ ≠ .agg cs := by
  unfold binS at h
  split at h <;> first
    | (simp [SV.den]; done)
    | (cases h; done)
end Rx
