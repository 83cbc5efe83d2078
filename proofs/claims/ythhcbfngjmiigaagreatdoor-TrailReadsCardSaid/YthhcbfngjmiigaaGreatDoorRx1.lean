/-
  RX 1: a symbolic executor for the model's code: the language of its states, and what they say of a frame and a world.
-/
import Derived.Tactics
import Derived.Laws.World
import Derived.Laws.Sem
import Derived.KernelRfl
set_option linter.all false
namespace Rx
open Go

/-! ### valuations and symbolic terms -/
/-- A row of elements that is read: where it begins, how many cells an element has, what each element's cells hold. -/
structure Arr where
  a : Option Addr
  esz : Nat
  el : List (List Value)
structure Env where
  i : List Int := []
  b : List Bool := []
  s : List ByteArray := []
  n : List Nat := []
  a : List (Option Addr) := []
  m : List (Option Nat) := []
  v : List Value := []
  ar : List Arr := []
def Env.arr (ρ : Env) (m : Nat) : Arr := ρ.ar.getD m ⟨none, 0, []⟩
def Env.cell (ρ : Env) (m : Nat) (i : Int) (j : Nat) : Value := ((ρ.arr m).el.getD i.toNat []).getD j (.tuple #[])
def intV : Value → Int | .int _ n => n | _ => 0
def boolV : Value → Bool | .bool b => b | _ => false
def strV : Value → ByteArray | .string s => s | _ => ByteArray.empty
def lenV : Value → Nat | .slice _ n _ => n | _ => 0
def capV : Value → Nat | .slice _ _ c => c | _ => 0
def adrV : Value → Option Addr | .slice a _ _ => a | .pointer a => a | _ => none
def mapV : Value → Option Nat | .map r => r | _ => none
def byteAt (s : ByteArray) (i : Int) : Int := match s.data.toList[i.toNat]? with | some b => (b.toNat : Int) | none => 0

mutual
inductive SE where
  | v (j : Nat) | c (s : ByteArray) | cat (x y : SE) | sub (s : SE) (lo hi : IE) | cell (m : Nat) (i : IE) (j : Nat)
inductive NE where
  | v (j : Nat) | c (n : Nat) | slen (s : SE) | sub (x y : NE) | ofI (e : IE) | clen (m : Nat) (i : IE) (j : Nat) | ccap (m : Nat) (i : IE) (j : Nat)
inductive IE where
  | v (j : Nat) | c (n : Int) | nat (n : NE) | op (o : BinOp) (k : IntKind) (x y : IE) | neg (k : IntKind) (x : IE) | conv (k : IntKind) (x : IE)
  | sum (x y : IE) | byte (s : SE) (i : IE) | cell (m : Nat) (i : IE) (j : Nat)
end
inductive AE where
  | nil | v (j : Nat) | box (i off : Nat) | at (j off : Nat) | arr (m : Nat) (e : IE) (off : Nat) | cut (m : Nat) (lo cap : NE) | cell (m : Nat) (i : IE) (j : Nat)
inductive ME where
  | nil | v (j : Nat) | at (j : Nat) | cell (m : Nat) (i : IE) (j : Nat)
inductive BE where
  | v (j : Nat) | c (b : Bool) | not (x : BE) | icmp (o : BinOp) (x y : IE) | scmp (o : BinOp) (x y : SE) | beq (x y : BE) | ite (c x y : BE)
  | anil (a : AE) | mnil (m : ME) | cell (m : Nat) (i : IE) (j : Nat)
inductive SV where
  | int (k : IntKind) (e : IE)
  | bool (e : BE)
  | str (e : SE)
  | ptr (a : AE)
  | slice (a : AE) (n c : NE)
  | mp (m : ME)
  | fn (f : Fn) (first cap : List SV)
  | nilfn | nilif
  | agg (l : List SV)
  | tup (l : List SV)
  | iface (t : Nat) (x : SV)
  | val (j : Nat)
  | cell (m : Nat) (i : IE) (j : Nat)
  | lit (v : Value)

def iop : BinOp → IntKind → Int → Int → Int
  | .add, k, x, y => k.wrap (x + y)
  | .sub, k, x, y => k.wrap (x - y)
  | .mul, k, x, y => k.wrap (x * y)
  | .quo, k, x, y => k.wrap (x.tdiv y)
  | .rem, _, x, y => x.tmod y
  | _, _, _, _ => 0
def icmp : BinOp → Int → Int → Bool
  | .eql, x, y => x == y
  | .neq, x, y => x != y
  | .lss, x, y => decide (x < y)
  | .leq, x, y => decide (x ≤ y)
  | .gtr, x, y => decide (x > y)
  | .geq, x, y => decide (x ≥ y)
  | _, _, _ => false
def scmp : BinOp → ByteArray → ByteArray → Bool
  | .eql, x, y => x.toList == y.toList
  | .neq, x, y => !(x.toList == y.toList)
  | .lss, x, y => Op.bytesLess x.toList y.toList
  | .leq, x, y => Op.bytesLess x.toList y.toList || x.toList == y.toList
  | .gtr, x, y => !(Op.bytesLess x.toList y.toList || x.toList == y.toList)
  | .geq, x, y => !(Op.bytesLess x.toList y.toList)
  | _, _, _ => false

mutual
def SE.den (ρ : Env) : SE → ByteArray
  | .v j => ρ.s.getD j ByteArray.empty
  | .c s => s
  | .cat x y => x.den ρ ++ y.den ρ
  | .sub s lo hi => (s.den ρ).extract (lo.den ρ).toNat (hi.den ρ).toNat
  | .cell m i j => strV (ρ.cell m (i.den ρ) j)
def NE.den (ρ : Env) : NE → Nat
  | .v j => ρ.n.getD j 0
  | .c n => n
  | .slen s => (s.den ρ).size
  | .sub x y => x.den ρ - y.den ρ
  | .ofI e => (e.den ρ).toNat
  | .clen m i j => lenV (ρ.cell m (i.den ρ) j)
  | .ccap m i j => capV (ρ.cell m (i.den ρ) j)
def IE.den (ρ : Env) : IE → Int
  | .v j => ρ.i.getD j 0
  | .c n => n
  | .nat n => (n.den ρ : Int)
  | .op o k x y => iop o k (x.den ρ) (y.den ρ)
  | .neg k x => k.wrap (0 - x.den ρ)
  | .conv k x => k.wrap (x.den ρ)
  | .sum x y => x.den ρ + y.den ρ
  | .byte s i => byteAt (s.den ρ) (i.den ρ)
  | .cell m i j => intV (ρ.cell m (i.den ρ) j)
end
def AE.den (k : Nat → Nat) (ρ : Env) : AE → Option Addr
  | .nil => none
  | .v j => ρ.a.getD j none
  | .box i off => some ⟨k i, off, none⟩
  | .at j off => some ⟨ρ.n.getD j 0, off, none⟩
  | .arr m e off => (ρ.arr m).a.map fun a => a.add ((e.den ρ).toNat * (ρ.arr m).esz + off)
  | .cut m lo cap => (ρ.arr m).a.map fun a => if cap.den ρ = lo.den ρ then a else a.add (lo.den ρ * (ρ.arr m).esz)
  | .cell m i j => adrV (ρ.cell m (i.den ρ) j)
def ME.den (ρ : Env) : ME → Option Nat
  | .nil => none
  | .v j => ρ.m.getD j none
  | .at j => some (ρ.n.getD j 0)
  | .cell m i j => mapV (ρ.cell m (i.den ρ) j)
def BE.den (k : Nat → Nat) (ρ : Env) : BE → Bool
  | .v j => ρ.b.getD j false
  | .c b => b
  | .not x => !(x.den k ρ)
  | .icmp o x y => Rx.icmp o (x.den ρ) (y.den ρ)
  | .scmp o x y => Rx.scmp o (x.den ρ) (y.den ρ)
  | .beq x y => x.den k ρ == y.den k ρ
  | .ite z x y => if z.den k ρ then x.den k ρ else y.den k ρ
  | .anil a => (a.den k ρ).isNone
  | .mnil m => (m.den ρ).isNone
  | .cell m i j => boolV (ρ.cell m (i.den ρ) j)
mutual
def SV.den (k : Nat → Nat) (ρ : Env) : SV → Value
  | .int q e => .int q (e.den ρ)
  | .bool e => .bool (e.den k ρ)
  | .str e => .string (e.den ρ)
  | .ptr a => .pointer (a.den k ρ)
  | .slice a n c => .slice (a.den k ρ) (n.den ρ) (c.den ρ)
  | .mp m => .map (m.den ρ)
  | .fn f first cap => .func f (SV.dens k ρ first).toArray (SV.dens k ρ cap).toArray
  | .nilfn => .nilFunc
  | .nilif => .nilIface
  | .agg l => .agg (SV.dens k ρ l).toArray
  | .tup l => .tuple (SV.dens k ρ l).toArray
  | .iface t x => .iface t (x.den k ρ)
  | .val j => ρ.v.getD j (.tuple #[])
  | .cell m i j => ρ.cell m (i.den ρ) j
  | .lit v => v
def SV.dens (k : Nat → Nat) (ρ : Env) : List SV → List Value
  | [] => []
  | x :: l => x.den k ρ :: SV.dens k ρ l
end
theorem dens_map (k : Nat → Nat) (ρ : Env) (l : List SV) : SV.dens k ρ l = l.map (SV.den k ρ) := by
  induction l with
  | nil => rfl
  | cons x l ih => simp [SV.dens, ih]

/-- Is it the value of one cell, whatever the valuation? -/
def SV.one : SV → Bool
  | .int .. | .bool _ | .str _ | .ptr _ | .slice .. | .mp _ | .fn .. | .nilfn | .nilif | .iface .. => true
  | .agg _ | .tup _ | .val _ | .cell .. => false
  | .lit v => v.oneCell'

def ofLeaf : Value → SV
  | .int q n => .int q (.c n)
  | .bool b => .bool (.c b)
  | .string s => .str (.c s)
  | .pointer none => .ptr .nil
  | .slice none n c => .slice .nil (.c n) (.c c)
  | .map none => .mp .nil
  | .nilFunc => .nilfn
  | .nilIface => .nilif
  | v => .lit v
def ofVal : Value → SV
  | .agg cs => .agg (cs.toList.map ofLeaf)
  | .tuple ⟨[]⟩ => .tup []
  | v => ofLeaf v
theorem den_ofLeaf (k : Nat → Nat) (ρ : Env) (v : Value) : (ofLeaf v).den k ρ = v := by
  unfold ofLeaf
  split <;> simp [SV.den, IE.den, BE.den, SE.den, AE.den, NE.den, ME.den]
theorem den_ofVal (k : Nat → Nat) (ρ : Env) (v : Value) : (ofVal v).den k ρ = v := by
  unfold ofVal
  split
  · rename_i cs
    simp only [SV.den, dens_map, List.map_map]
    have : (SV.den k ρ ∘ ofLeaf) = id := funext (den_ofLeaf k ρ)
    rw [this]; simp
  · simp [SV.den, SV.dens]
  · exact den_ofLeaf k ρ v

/-! ### types -/
structure TI where
  d : TypeDesc
  size : Nat
  bytes : Nat
  zero : List SV
def isAggD : TypeDesc → Bool
  | .struct _ | .array _ _ => true
  | _ => false
def TI.agg (t : TI) : Bool := isAggD t.d
def tiOf (P : Program) (t : TypeId) : Option TI :=
  match P.underlying t, P.info? t with
  | some d, some i => match i.zero with
    | some z => if (isAggD d == !z.oneCell') && z.cells.size == i.size then some ⟨d, i.size, i.bytes, z.cells.toList.map ofLeaf⟩ else none
    | none => none
  | _, _ => none
abbrev Tab := List (Nat × TI)
def Tab.get (Γ : Tab) (t : Nat) : Option TI :=
  match Γ with
  | [] => none
  | (u, x) :: r => if u == t then some x else Tab.get r t
def TabOk (P : Program) (Γ : Tab) : Prop := Γ.map (fun p => tiOf P p.1) = Γ.map (fun p => some p.2)
theorem TabOk.get {P : Program} {Γ : Tab} (h : TabOk P Γ) {t : Nat} {x : TI} (hg : Γ.get t = some x) : tiOf P t = some x := by
  unfold TabOk at h
  induction Γ with
  | nil => simp [Tab.get] at hg
  | cons p r ih =>
    obtain ⟨u, y⟩ := p
    simp only [List.map_cons, List.cons.injEq] at h
    unfold Tab.get at hg
    split at hg
    · rename_i he
      cases hg
      have : u = t := by simpa using he
      subst this
      exact h.1
    · exact ih h.2 hg

/-! ### states -/
structure Box where
  id : Nat
  ty : Nat
  cells : List SV
/-- What a cell of a row's elements is. -/
inductive CK where
  | int (k : IntKind) | bool | str | ptr | slice | map | val
def CK.ok : CK → Value → Prop
  | .int k, v => ∃ n, v = .int k n
  | .bool, v => ∃ b, v = .bool b
  | .str, v => ∃ s, v = .string s
  | .ptr, v => ∃ a, v = .pointer a
  | .slice, v => ∃ a n c, v = .slice a n c
  | .map, v => ∃ r, v = .map r
  | .val, _ => True
def shapeOk : List CK → List Value → Prop
  | [], [] => True
  | c :: cs, v :: vs => c.ok v ∧ shapeOk cs vs
  | _, _ => False
/-- What must hold for the run to go on. -/
inductive Ob where
  | idx (i : IE) (n : NE)
  | elt (m : Nat) (i : IE)
  | le (x y : IE)
  | lt (x y : NE)
  | nz (x : IE)
  | cat (x y : SE)
  | is (e : BE) (b : Bool)
def Ob.den (ρ : Env) : Ob → Prop
  | .idx i n => 0 ≤ i.den ρ ∧ i.den ρ < (n.den ρ : Int)
  | .elt m i => 0 ≤ i.den ρ ∧ i.den ρ < ((ρ.arr m).el.length : Int)
  | .le x y => x.den ρ ≤ y.den ρ
  | .lt x y => x.den ρ < y.den ρ
  | .nz x => x.den ρ ≠ 0
  | .cat x y => (x.den ρ).size + (y.den ρ).size ≤ 9223372036854775807
  | .is e b => e.den (fun _ => 0) ρ = b
def obs (ρ : Env) : List Ob → Prop
  | [] => True
  | o :: l => o.den ρ ∧ obs ρ l
theorem obs_append {ρ : Env} {x y : List Ob} (h : obs ρ (x ++ y)) : obs ρ x ∧ obs ρ y := by
  induction x with
  | nil => exact ⟨trivial, h⟩
  | cons o l ih => exact ⟨⟨h.1, (ih h.2).1⟩, (ih h.2).2⟩
structure St where
  N : Nat
  sl : List (Nat × SV)
  bx : List Box := []
  nx : Nat := 0
  ar : List (Nat × List CK) := []
def look (sl : List (Nat × SV)) (t : Nat) : Option SV :=
  match sl with
  | [] => none
  | (u, x) :: r => if u == t then some x else look r t
def St.put (st : St) (t : Nat) (v : SV) : St := { st with sl := (t, v) :: st.sl.filter (fun p => !(p.1 == t)) }
def findBox (bx : List Box) (i : Nat) : Option Box :=
  match bx with
  | [] => none
  | b :: r => if b.id == i then some b else findBox r i
def setBox (bx : List Box) (i : Nat) (cells : List SV) : List Box :=
  bx.map fun b => if b.id == i then { b with cells } else b

/-- Blocks outside M are as they were; the streams are. -/
structure Kept (M : Nat → Prop) (w w' : World) : Prop where
  os : w'.os = w.os
  tape : w'.tape = w.tape
  output : w'.output = w.output
  size : w.heap.size ≤ w'.heap.size
  block : ∀ b, b < w.heap.size → ¬ M b → w'.heap[b]? = w.heap[b]?
theorem Kept.refl (M : Nat → Prop) (w : World) : Kept M w w := ⟨rfl, rfl, rfl, Nat.le_refl _, fun _ _ _ => rfl⟩
theorem Kept.trans {M N : Nat → Prop} {a b c : World} (h : Kept M a b) (k : Kept N b c) (hs : ∀ x, x < a.heap.size → N x → M x) : Kept M a c :=
  ⟨k.os.trans h.os, k.tape.trans h.tape, k.output.trans h.output, Nat.le_trans h.size k.size, fun x hx hm =>
    (k.block x (Nat.lt_of_lt_of_le hx h.size) (fun hn => hm (hs x hx hn))).trans (h.block x hx hm)⟩
theorem Kept.mono {M N : Nat → Prop} {a b : World} (h : Kept M a b) (hs : ∀ x, x < a.heap.size → M x → N x) : Kept N a b :=
  ⟨h.os, h.tape, h.output, h.size, fun x hx hn => h.block x hx (fun hm => hn (hs x hx hm))⟩
abbrev Pure0 (w w' : World) : Prop := Kept (fun _ => False) w w'
theorem Pure0.alloc (w : World) (o : Obj) : Pure0 w (w.alloc o) :=
  ⟨rfl, rfl, rfl, by show _ ≤ (w.heap.push o).size; simp, fun b hb _ => by
    show (w.heap.push o)[b]? = _
    rw [Array.getElem?_push, if_neg (by omega)]⟩
theorem Pure0.drew (w : World) : Pure0 w w.drew := ⟨rfl, rfl, rfl, Nat.le_refl _, fun _ _ _ => rfl⟩

/-- What holds of some blocks of a world, and of these alone. -/
structure Res where
  F : Nat → Prop
  P : World → Prop
  stay : ∀ w w', (∀ b, F b → w'.heap[b]? = w.heap[b]?) → P w → P w'
/-- A row of elements lies where it is said to. -/
def Arr.res (A : Arr) : Res where
  F b := A.el ≠ [] ∧ ∃ ad, A.a = some ad ∧ ad.block = b
  P w := ∀ i e, A.el[i]? = some e → ∃ ad, A.a = some ad ∧ ∀ j v, e[j]? = some v → w.cell? (ad.add (i * A.esz + j)) = some v
  stay := by
    intro w w' h hp i e he
    obtain ⟨ad, h1, h2⟩ := hp i e he
    refine ⟨ad, h1, fun j v hv => ?_⟩
    have hne : A.el ≠ [] := by intro h0; rw [h0] at he; simp at he
    have hb := h ad.block ⟨hne, ad, h1, rfl⟩
    have hab : ∀ n, (ad.add n).block = ad.block := by intro n; unfold Addr.add; split <;> rfl
    have := h2 j v hv
    unfold World.cell? at this ⊢
    rw [hab] at this ⊢
    rw [hb]; exact this
structure Ctx where
  w0 : World
  M : Nat → Prop

def boxObj (k : Nat → Nat) (ρ : Env) (b : Box) : Obj := .cells (SV.dens k ρ b.cells).toArray b.ty (0, 0)

/-- A row that is seen in one of these things. -/
def View (l : List Res) (A : Arr) : Prop := ∃ r ∈ l, ∀ w, r.P w → A.res.P w
theorem View.mono {l l' : List Res} {A : Arr} (h : View l A) (hl : ∀ r ∈ l, r ∈ l') : View l' A := let ⟨r, hr, h1⟩ := h; ⟨r, hl r hr, h1⟩
theorem View.here {l : List Res} {A : Arr} (h : A.res ∈ l) : View l A := ⟨_, h, fun _ h => h⟩

structure SatK (C : Ctx) (k : Nat → Nat) (ρ : Env) (ro own : List Res) (st : St) (a : Act) (w : World) : Prop where
  defers : a.defers = []
  size : a.tmps.size = st.N
  slot : ∀ p ∈ st.sl, p.1 < st.N ∧ a.tmps[p.1]? = some (p.2.den k ρ)
  box : ∀ b ∈ st.bx, w.heap[k b.id]? = some (boxObj k ρ b)
  bnew : ∀ b ∈ st.bx, C.w0.heap.size ≤ k b.id ∨ C.M (k b.id)
  bid : ∀ b ∈ st.bx, b.id < st.nx
  bdis : ∀ b ∈ st.bx, ∀ b' ∈ st.bx, b.id ≠ b'.id → k b.id ≠ k b'.id
  kept : Kept C.M C.w0 w
  res : ∀ r ∈ ro ++ own, r.P w ∧ ∀ x, r.F x → x < w.heap.size
  rbox : ∀ r ∈ ro ++ own, ∀ b ∈ st.bx, ¬ r.F (k b.id)
  odis : own.Pairwise (fun r s => ∀ x, ¬ (r.F x ∧ s.F x))
  oro : ∀ o ∈ own, ∀ r ∈ ro, ∀ x, ¬ (o.F x ∧ r.F x)
  onew : ∀ o ∈ own, ∀ x, o.F x → C.w0.heap.size ≤ x ∨ C.M x
  arr : ∀ q ∈ st.ar, (ρ.arr q.1).esz = q.2.length ∧ (∀ e ∈ (ρ.arr q.1).el, shapeOk q.2 e) ∧ View (ro ++ own) (ρ.arr q.1)

/-- What the executor's reading needs. -/
structure SatE (k : Nat → Nat) (ρ : Env) (st : St) (a : Act) (w : World) : Prop where
  slot : ∀ p ∈ st.sl, a.tmps[p.1]? = some (p.2.den k ρ)
  box : ∀ b ∈ st.bx, w.heap[k b.id]? = some (boxObj k ρ b)
  arr : ∀ q ∈ st.ar, (ρ.arr q.1).esz = q.2.length ∧ (∀ e ∈ (ρ.arr q.1).el, shapeOk q.2 e) ∧ (ρ.arr q.1).res.P w
theorem SatK.toE {C : Ctx} {k : Nat → Nat} {ρ : Env} {ro own : List Res} {st : St} {a : Act} {w : World} (hs : SatK C k ρ ro own st a w) : SatE k ρ st a w :=
  ⟨fun p hp => (hs.slot p hp).2, hs.box, fun q hq => ⟨(hs.arr q hq).1, (hs.arr q hq).2.1, let ⟨r, hr, h⟩ := (hs.arr q hq).2.2; h w (hs.res r hr).1⟩⟩

def Sat (C : Ctx) (ρ : Env) (ro own : List Res) (st : St) (a : Act) (w : World) : Prop := ∃ k, SatK C k ρ ro own st a w
end Rx
