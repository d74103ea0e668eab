/- The abstract machine, part 1: abstract values, heaps, and what they say of a world. (And what follows from it, text by text.) -/
import Derived.Tactics
import Derived.Below
import Derived.KernelRfl
import Derived.Laws.CopyRow
import Derived.Laws.Append
import Derived.Laws.Cells
import Derived.Laws.AppendOwn
import Derived.Laws.BytesArg
import Derived.Lib.ConvBytes
namespace Go.Proofs.Ytmglahnoemgieaa.Ax
open Go Go.RowKit
set_option linter.unusedSimpArgs false
set_option linter.unusedVariables false

/-- An abstract value. -/
inductive AV where
  | val (v : Value)
  | bx (s g off : Nat)
  | ptr (b g off : Nat)
  | sl (b g off len es : Nat)
  | lit (cs : List AV) (len : Nat)
  | lp (cs : List AV)
  | agg (l : List AV)
  | tup (l : List AV)
  | ifc (t : TypeId) (x : AV)
  | fn (f : Fn) (first caps : List AV)
  deriving Inhabited

/-- A block of the abstract heap: a row of cells that may grow. -/
structure Blk where
  cells : List AV
  gen : Nat

structure Home where
  blk : Nat
  shift : Nat
  size : Nat

/-- Where things lie. -/
structure Mu where
  n : Nat
  home : Nat → Home
  gen : Nat → Nat
  imm : Nat → Option (Array Value)
  nu : Nat → Nat
  ng : Nat → Nat

mutual
def Rv (M : Mu) : AV → Value → Prop
  | .val v, x => x = v
  | .bx s g off, x => g ≤ M.ng s ∧ ∃ a, x = .pointer (some a) ∧ (M.ng s = g → a = ⟨M.nu s, off, none⟩)
  | .ptr b g off, x => b < M.n ∧ g ≤ M.gen b ∧ ∃ a, x = .pointer (some a) ∧
      (M.gen b = g → (M.home b).shift ≤ off ∧ a = ⟨(M.home b).blk, off - (M.home b).shift, none⟩)
  | .sl b g off len es, x => b < M.n ∧ g ≤ M.gen b ∧ ∃ a cap, x = .slice (some a) len cap ∧ len ≤ cap ∧
      (M.gen b = g → (M.home b).shift ≤ off ∧ off - (M.home b).shift + cap * es = (M.home b).size ∧
        (cap = 0 ∨ a = ⟨(M.home b).blk, off - (M.home b).shift, none⟩))
  | .lit cs len, x => ∃ c o cap cur, x = .slice (some ⟨c, o, none⟩) len cap ∧ len ≤ cap ∧ M.imm c = some cur ∧
      Rvs M cs ((cur.toList.drop o).take cs.length)
  | .lp cs, x => ∃ c o cur, x = .pointer (some ⟨c, o, none⟩) ∧ M.imm c = some cur ∧
      Rvs M cs ((cur.toList.drop o).take cs.length)
  | .agg l, x => ∃ cs : Array Value, x = .agg cs ∧ Rvs M l cs.toList
  | .tup l, x => ∃ cs : Array Value, x = .tuple cs ∧ Rvs M l cs.toList
  | .ifc t y, x => ∃ v, x = .iface t v ∧ Rv M y v
  | .fn f a c, x => ∃ a' c' : Array Value, x = .func f a' c' ∧ Rvs M a a'.toList ∧ Rvs M c c'.toList
def Rvs (M : Mu) : List AV → List Value → Prop
  | [], xs => xs = []
  | a :: l, xs => ∃ x r, xs = x :: r ∧ Rv M a x ∧ Rvs M l r
end

mutual
def noBx : AV → Bool
  | .val _ => true
  | .bx .. => false
  | .ptr .. => true
  | .sl .. => true
  | .lit cs _ => noBxs cs
  | .lp cs => noBxs cs
  | .agg l => noBxs l
  | .tup l => noBxs l
  | .ifc _ x => noBx x
  | .fn _ a c => noBxs a && noBxs c
def noBxs : List AV → Bool
  | [] => true
  | a :: l => noBx a && noBxs l
end

/-- One machine's places, later. 'loc': also the local boxes are kept in sight. -/
structure Ext (loc : Bool) (M M' : Mu) : Prop where
  n : M.n ≤ M'.n
  gen : ∀ b, b < M.n → M.gen b ≤ M'.gen b
  home : ∀ b, b < M.n → M'.gen b = M.gen b → M'.home b = M.home b
  imm : ∀ c cur, M.imm c = some cur → M'.imm c = some cur
  ng : loc = true → ∀ s, M.ng s ≤ M'.ng s
  nu : loc = true → ∀ s, M'.ng s = M.ng s → M'.nu s = M.nu s

theorem Ext.refl (l : Bool) (M : Mu) : Ext l M M := ⟨Nat.le_refl _, fun _ _ => Nat.le_refl _, fun _ _ _ => rfl, fun _ _ h => h, fun _ _ => Nat.le_refl _, fun _ _ _ => rfl⟩
theorem Ext.trans {l : Bool} {A B C : Mu} (h : Ext l A B) (k : Ext l B C) : Ext l A C where
  n := Nat.le_trans h.n k.n
  gen b hb := Nat.le_trans (h.gen b hb) (k.gen b (Nat.lt_of_lt_of_le hb h.n))
  home b hb e := by
    have h1 := h.gen b hb
    have h2 := k.gen b (Nat.lt_of_lt_of_le hb h.n)
    rw [k.home b (Nat.lt_of_lt_of_le hb h.n) (by omega), h.home b hb (by omega)]
  imm c cur e := k.imm c cur (h.imm c cur e)
  ng hl s := Nat.le_trans (h.ng hl s) (k.ng hl s)
  nu hl s e := by
    have h1 := h.ng hl s
    have h2 := k.ng hl s
    rw [k.nu hl s (by omega), h.nu hl s (by omega)]
theorem Ext.weak {M M' : Mu} (h : Ext true M M') : Ext false M M' := ⟨h.n, h.gen, h.home, h.imm, fun k => by simp at k, fun k => by simp at k⟩

mutual
theorem Rv.mono {M M' : Mu} {l : Bool} (E : Ext l M M') : ∀ (a : AV) (x : Value), (l = true ∨ noBx a = true) → Rv M a x → Rv M' a x
  | .val v, x, _, h => h
  | .bx s g off, x, hl, h => by
    rcases hl with hl | hl
    · obtain ⟨h1, a, h2, h3⟩ := h
      refine ⟨Nat.le_trans h1 (E.ng hl s), a, h2, fun e => ?_⟩
      have := E.ng hl s
      rw [E.nu hl s (by omega)]
      exact h3 (by omega)
    · simp [noBx] at hl
  | .ptr b g off, x, _, h => by
    obtain ⟨h0, h1, a, h2, h3⟩ := h
    have := E.gen b h0
    refine ⟨Nat.lt_of_lt_of_le h0 E.n, by omega, a, h2, fun e => ?_⟩
    rw [E.home b h0 (by omega)]
    exact h3 (by omega)
  | .sl b g off len es, x, _, h => by
    obtain ⟨h0, h1, a, cap, h2, h3, h4⟩ := h
    have := E.gen b h0
    refine ⟨Nat.lt_of_lt_of_le h0 E.n, by omega, a, cap, h2, h3, fun e => ?_⟩
    rw [E.home b h0 (by omega)]
    exact h4 (by omega)
  | .lit cs len, x, hl, h => by
    obtain ⟨c, o, cap, cur, h1, h2, h3, h4⟩ := h
    exact ⟨c, o, cap, cur, h1, h2, E.imm _ _ h3, Rvs.mono E cs _ (by simpa [noBx] using hl) h4⟩
  | .lp cs, x, hl, h => by
    obtain ⟨c, o, cur, h1, h3, h4⟩ := h
    exact ⟨c, o, cur, h1, E.imm _ _ h3, Rvs.mono E cs _ (by simpa [noBx] using hl) h4⟩
  | .agg l, x, hl, h => by
    obtain ⟨cs, h1, h2⟩ := h
    exact ⟨cs, h1, Rvs.mono E l _ (by simpa [noBx] using hl) h2⟩
  | .tup l, x, hl, h => by
    obtain ⟨cs, h1, h2⟩ := h
    exact ⟨cs, h1, Rvs.mono E l _ (by simpa [noBx] using hl) h2⟩
  | .ifc t y, x, hl, h => by
    obtain ⟨v, h1, h2⟩ := h
    exact ⟨v, h1, Rv.mono E y _ (by simpa [noBx] using hl) h2⟩
  | .fn f a c, x, hl, h => by
    obtain ⟨a', c', h1, h2, h3⟩ := h
    refine ⟨a', c', h1, Rvs.mono E a _ ?_ h2, Rvs.mono E c _ ?_ h3⟩
    · exact hl.imp id (fun h => by simp [noBx] at h; exact h.1)
    · exact hl.imp id (fun h => by simp [noBx] at h; exact h.2)
theorem Rvs.mono {M M' : Mu} {l : Bool} (E : Ext l M M') : ∀ (a : List AV) (x : List Value), (l = true ∨ noBxs a = true) → Rvs M a x → Rvs M' a x
  | [], x, _, h => h
  | a :: r, x, hl, h => by
    obtain ⟨y, ys, h1, h2, h3⟩ := h
    refine ⟨y, ys, h1, Rv.mono E a y ?_ h2, Rvs.mono E r ys ?_ h3⟩
    · exact hl.imp id (fun h => by simp [noBxs] at h; exact h.1)
    · exact hl.imp id (fun h => by simp [noBxs] at h; exact h.2)
end
end Go.Proofs.Ytmglahnoemgieaa.Ax
namespace Go.Proofs.Ytmglahnoemgieaa.Ax
open Go Go.RowKit
set_option linter.unusedSimpArgs false
set_option linter.unusedVariables false

/-- A local box. -/
inductive LB where
  | cells (l : List AV)
  | iter (s : ByteArray) (pos : Nat)
  deriving Inhabited

abbrev Loc := List (Nat × Nat × LB)
def locGet : Loc → Nat → Option (Nat × LB)
  | [], _ => none
  | (s, g, b) :: l, t => if s = t then some (g, b) else locGet l t
def locSet : Loc → Nat → Nat → LB → Loc
  | [], t, g, b => [(t, g, b)]
  | (s, g', b') :: l, t, g, b => if s = t then (t, g, b) :: l else if t < s then (t, g, b) :: (s, g', b') :: l else (s, g', b') :: locSet l t g b

abbrev H := List Blk

structure S where
  fr : List AV
  loc : Loc
  h : H
  lw : Option Nat

inductive Out where
  | ret (v : AV)
  | pan (v : AV)

inductive Ex where
  | normal
  | ret
  | exit (id : Nat)
  | pan (v : AV)

abbrev CallF := FuncId → List AV → H → Option (Out × H × Option Nat)

structure Cfg where
  P : Program
  w0 : World
  /-- slots whose blocks lie in the heap -/
  hb : FuncId → List Nat
  /-- of a region that draws its order: the pairs that no edge orders and that may meet; and the operations that may panic -/
  un : FuncId → Nat → Option (List (Nat × Nat) × List Nat)
  /-- functions that are taken by what is known of them -/
  T : FuncId → Option (List AV → H → Option (Out × H × Option Nat))

/-! ### plain values -/
mutual
def toVal : AV → Option Value
  | .val v => some v
  | .agg l => (toVals l).map fun vs => .agg vs.toArray
  | .tup l => (toVals l).map fun vs => .tuple vs.toArray
  | .ifc t x => (toVal x).map (.iface t)
  | .fn f a c => (toVals a).bind fun a => (toVals c).map fun c => .func f a.toArray c.toArray
  | .bx .. => none
  | .ptr .. => none
  | .sl .. => none
  | .lit .. => none
  | .lp .. => none
def toVals : List AV → Option (List Value)
  | [] => some []
  | a :: l => (toVal a).bind fun v => (toVals l).map fun vs => v :: vs
end
def norm1 : Value → AV
  | .agg cs => .agg (cs.toList.map .val)
  | v => .val v
def norm : Value → AV
  | .tuple vs => .tup (vs.toList.map norm1)
  | v => norm1 v

/-- A computation that asks nothing of memory. -/
def semNow {α : Type} (P : Program) : Sem α → Option α
  | .pure a => some a
  | .program k => semNow P (k P)
  | _ => none

def undefA : AV := .val (.tuple #[])
def getT : List AV → Nat → AV
  | [], _ => undefA
  | x :: _, 0 => x
  | _ :: l, n + 1 => getT l n
def setT : List AV → Nat → AV → List AV
  | [], _, _ => []
  | _ :: l, 0, v => v :: l
  | x :: l, n + 1, v => x :: setT l n v
def putT (fr : List AV) (d : Option Tmp) (v : AV) : List AV :=
  match d with
  | some d => setT fr d v
  | none => fr

def ev (fr : List AV) : Operand → AV
  | .tmp t => getT fr t
  | .const v => norm1 v
  | .global g => .val (.pointer (some ⟨g, 0, none⟩))
  | .func f => .val (.func (.func f) #[] #[])

def cellsOf : AV → List AV
  | .agg l => l
  | .val (.agg cs) => cs.toList.map .val
  | x => [x]
def oneV : Value → Bool
  | .agg _ | .tuple _ => false
  | _ => true
def oneA : AV → Bool
  | .agg _ => false
  | .tup _ => false
  | .val v => oneV v
  | _ => true

def isAggT (P : Program) (t : TypeId) : Option Bool :=
  match P.underlying t with
  | some (.struct _) | some (.array _ _) => some true
  | some _ => some false
  | none => none
def sizeT (P : Program) (t : TypeId) : Option Nat := (P.info? t).map (·.size)
def zeroT (P : Program) (t : TypeId) : Option Value := (P.info? t).bind (·.zero)
/-- how many cells a load takes, and are they an aggregate -/
def shapeT (P : Program) (t : TypeId) : Option (Nat × Bool) :=
  match isAggT P t with
  | some true => (sizeT P t).map fun n => (n, true)
  | some false => some (1, false)
  | none => none
def fieldOff (P : Program) (s : TypeId) (f : Nat) : Option Nat :=
  match P.underlying s with
  | some (.struct fields) =>
    match fields[f]? with
    | some fd => match sizeT P fd.type with
      | some (_ + 1) => some fd.offset
      | _ => none
    | none => none
  | _ => none
def elemSize (P : Program) (t : TypeId) : Option (TypeId × Nat) :=
  match P.underlying t with
  | some (.slice e) => (sizeT P e).map fun n => (e, n)
  | _ => none

/-- how long an array is, and its elements' size -/
def arrSize (P : Program) (t : TypeId) : Option (Nat × Nat) :=
  match P.underlying t with
  | some (.array n e) => (sizeT P e).map fun m => (n, m)
  | _ => none

def placesT (P : Program) (fields : List Field) : List (Nat × Nat) := fields.map fun fd => (fd.offset, (sizeT P fd.type).getD 0)
/-- some of the cells of an aggregate, or one -/
def takeA (cs : List AV) (off n : Nat) (agg : Bool) : Option AV :=
  if off + n ≤ cs.length then (if agg then some (.agg ((cs.drop off).take n)) else cs[off]?) else none
/-- cells over cells -/
def overA (cs : List AV) (off : Nat) (xs : List AV) : Option (List AV) :=
  if off + xs.length ≤ cs.length then some (cs.take off ++ xs ++ cs.drop (off + xs.length)) else none
def fillA (place : Nat → Option (Nat × Nat)) (cells : List AV) : List (Nat × AV) → Option (List AV)
  | [] => some cells
  | (i, v) :: rest =>
    match place i with
    | none => none
    | some (off, size) =>
      if (cellsOf v).length = size then
        match overA cells off (cellsOf v) with
        | some cells => fillA place cells rest
        | none => none
      else none

/-- the cells of foreign memory -/
def foreignA (w0 : World) (a : Addr) : Nat → Nat → Option (List AV)
  | _, 0 => some []
  | i, n + 1 =>
    match w0.cell? (a.add i) with
    | some v => (foreignA w0 a (i + 1) n).map fun l => .val v :: l
    | none => none

inductive BReq where
  | new (s : Nat) (cells : List AV)
  | load (s g off n : Nat) (agg : Bool)
  | store (s g off : Nat) (cells : List AV)
  | iter (s : Nat) (str : ByteArray)
  | next (s g : Nat)
inductive HReq where
  | new (cells : List AV) (es : Nat) (len : Option Nat)
  | load (b g off n : Nat) (agg : Bool)
  | store (b g off : Nat) (cells : List AV)
  | app (e : TypeId) (dst src : AV)
  | str (b g off len : Nat)
  | call (f : FuncId) (args : List AV)
inductive Req where
  | done (v : AV)
  | pan (v : AV)
  | box (r : BReq)
  | heap (r : HReq)

/-- so many cells, each what the zero value has there -/
def zerosA (z : List AV) (n : Nat) : List AV := (List.range n).map fun i => getT z (i % z.length)
def bytesA (s : ByteArray) : List AV := s.data.toList.map fun b => .val (.int .u8 b.toNat)
def unbytes : List AV → Option (List UInt8)
  | [] => some []
  | .val (.int .u8 n) :: l => (unbytes l).map fun r => UInt8.ofNat n.toNat :: r
  | _ => none

def intOfA : AV → Option Int
  | .val (.int _ n) => some n
  | _ => none
/-- the bounds of a slice expression: below, above; nothing past the length -/
def boundsA (fr : List AV) (len : Nat) (lo hi : Option Operand) : Option (Nat × Nat) :=
  let l := match lo with
    | none => some 0
    | some x => intOfA (ev fr x)
  let h := match hi with
    | none => some (len : Int)
    | some x => intOfA (ev fr x)
  match l, h with
  | some l, some h => if 0 ≤ l ∧ l ≤ h ∧ h ≤ len then some (l.toNat, h.toNat) else none
  | _, _ => none

/-- what goes by the model itself: no place of ours among the operands -/
def plainOp (P : Program) (fr : List AV) (o : Oper) : Option Req :=
  if o.op.operands.toList.all fun x => (toVal (ev fr x)).isSome then
    match semNow P (execOp (fun x => (toVal (ev fr x)).getD undef) o) with
    | some (.value v) => some (.done (norm v))
    | _ => none
  else none

def newReq (c : Cfg) (f : FuncId) (d : Option Tmp) (cells : List AV) : Option Req :=
  match d with
  | some d => if d ∈ c.hb f then (if noBxs cells then some (.heap (.new cells cells.length none)) else none) else some (.box (.new d cells))
  | none => none

def isU8 : Option TypeDesc → Bool
  | some (.int .u8) => true
  | _ => false
def isSl : Option TypeDesc → Bool
  | some (.slice _) => true
  | _ => false
def nonInt : Option TypeDesc → Bool
  | some (.int _) => false
  | some _ => true
  | none => false
def nilSlice : AV → Bool
  | .val (.slice none _ _) => true
  | _ => false

/-- what an operation asks for -/
def aop (c : Cfg) (f : FuncId) (fr : List AV) (o : Oper) : Option Req :=
  match o.op with
  | .move x | .assign x => some (.done (ev fr x))
  | .pick x a b =>
    match ev fr x with
    | .val (.bool t) => some (.done (if t then ev fr a else ev fr b))
    | _ => none
  | .alloc e => (zeroT c.P e).bind fun z => newReq c f o.dst (cellsOf (norm1 z))
  | .box _ x => newReq c f o.dst (cellsOf (ev fr x))
  | .load t a =>
    (shapeT c.P t).bind fun (n, agg) =>
    match ev fr a with
    | .bx s g off => some (.box (.load s g off n agg))
    | .ptr b g off => some (.heap (.load b g off n agg))
    | .lp cs => (takeA cs 0 n agg).map .done
    | .val (.pointer (some ad)) => (foreignA c.w0 ad 0 n).bind fun l => (takeA l 0 n agg).map .done
    | _ => none
  | .store t a x =>
    if sizeT c.P t = some (cellsOf (ev fr x)).length ∧ (cellsOf (ev fr x)).all oneA then
      match ev fr a with
      | .bx s g off => some (.box (.store s g off (cellsOf (ev fr x))))
      | .ptr b g off => if noBxs (cellsOf (ev fr x)) then some (.heap (.store b g off (cellsOf (ev fr x)))) else none
      | _ => none
    else none
  | .fieldAddr s x i =>
    match ev fr x with
    | .bx b g off => (fieldOff c.P s i).map fun k => .done (.bx b g (off + k))
    | .ptr b g off => (fieldOff c.P s i).map fun k => .done (.ptr b g (off + k))
    | .lp cs => (fieldOff c.P s i).map fun k => .done (.lp (cs.drop k))
    | _ => plainOp c.P fr o
  | .nilCheck x =>
    match ev fr x with
    | .bx s g off => some (.done (.bx s g off))
    | .ptr b g off => some (.done (.ptr b g off))
    | .lp cs => some (.done (.lp cs))
    | _ => plainOp c.P fr o
  | .indexAddr t x i =>
    match ev fr x with
    | .sl b g off len es => (elemSize c.P t).bind fun (_, es') => (intOfA (ev fr i)).bind fun n =>
        if es' = es ∧ 0 ≤ n ∧ n < len then some (.done (.ptr b g (off + n.toNat * es))) else none
    | .lit cs len => (elemSize c.P t).bind fun (_, es) => (intOfA (ev fr i)).bind fun n =>
        if 0 ≤ n ∧ n < len then some (.done (.lp (cs.drop (n.toNat * es)))) else none
    | .bx s g off => (arrSize c.P t).bind fun (len, es) => (intOfA (ev fr i)).bind fun n =>
        if 0 ≤ n ∧ n < len then some (.done (.bx s g (off + n.toNat * es))) else none
    | _ => plainOp c.P fr o
  | .slice t x lo hi mx =>
    match ev fr x with
    | .sl b g off len es => if mx.isNone then (elemSize c.P t).bind fun (_, es') => (boundsA fr len lo hi).bind fun (l, h) =>
        if es' = es then some (.done (.sl b g (off + l * es) (h - l) es)) else none else none
    | .lit cs len => if mx.isNone then (elemSize c.P t).bind fun (_, es) => (boundsA fr len lo hi).bind fun (l, h) =>
        if cs.length = len * es then some (.done (.lit ((cs.drop (l * es)).take ((h - l) * es)) (h - l))) else none else none
    | _ => plainOp c.P fr o
  | .buildSlice t len parts =>
    (elemSize c.P t).bind fun (e, es) => (zeroT c.P e).bind fun z =>
      if (cellsOf (norm1 z)).length = es ∧ len * es ≤ 65536 then
        (fillA (fun i => some (i * es, es)) (zerosA (cellsOf (norm1 z)) (len * es)) (parts.toList.map fun (i, x) => (i, ev fr x))).bind fun cells =>
          match o.dst with
          | some d => if noBxs cells then (if d ∈ c.hb f then some (.heap (.new cells es (some len))) else some (.done (.lit cells len))) else none
          | none => none
      else none
  | .build t parts =>
    match c.P.underlying t with
    | some (.struct fields) =>
      if fields.toList.all fun fd => (sizeT c.P fd.type).isSome then
        (zeroT c.P t).bind fun z =>
          (fillA (fun i => (placesT c.P fields.toList)[i]?) (cellsOf (norm1 z)) (parts.toList.map fun (i, x) => (i, ev fr x))).map fun cells => .done (.agg cells)
      else none
    | _ => plainOp c.P fr o
  | .extract x i =>
    match ev fr x with
    | .tup l => (l[i]?).map .done
    | _ => plainOp c.P fr o
  | .convert src dst x =>
    match c.P.underlying src, c.P.underlying dst, ev fr x with
    | some .string, some (.slice e), .val (.string s) =>
      if isU8 (c.P.underlying e) then
        match o.dst with
        | some d => if d ∈ c.hb f then some (.heap (.new (bytesA s) 1 (some s.size))) else some (.done (.lit (bytesA s) s.size))
        | none => none
      else none
    | some (.slice e), some .string, .sl b g off len 1 =>
      if isU8 (c.P.underlying e) then some (.heap (.str b g off len)) else none
    | some (.slice e), some .string, .lit cs len =>
      if isU8 (c.P.underlying e) = true ∧ cs.length = len then (unbytes cs).map fun l => .done (.val (.string ⟨l.toArray⟩)) else none
    | _, _, _ => plainOp c.P fr o
  | .makeInterface t x =>
    match c.P.underlying t with
    | some (.interface _) => none
    | some _ => some (.done (.ifc t (ev fr x)))
    | none => none
  | .makeFunc fn first caps => some (.done (.fn fn (first.toList.map (ev fr)) (caps.toList.map (ev fr))))
  | .range t x =>
    match c.P.underlying t, ev fr x, o.dst with
    | some .string, .val (.string s), some d => some (.box (.iter d s))
    | _, _, _ => none
  | .next it isString =>
    match ev fr it with
    | .bx s g 0 => if isString then some (.box (.next s g)) else none
    | _ => none
  | .panic x =>
    match ev fr x with
    | .ifc t y => some (.pan (.ifc t y))
    | .val (.iface t v) => some (.pan (.val (.iface t v)))
    | _ => none
  | .call k =>
    match k.callee with
    | .builtin .len =>
      match (k.args.toList.map (ev fr)) with
      | [.sl _ _ _ len _] => if isSl (k.argTypes[0]?.bind c.P.underlying) then some (.done (.val (.int .i64 len))) else none
      | [.lit _ len] => if isSl (k.argTypes[0]?.bind c.P.underlying) then some (.done (.val (.int .i64 len))) else none
      | _ => plainOp c.P fr o
    | .builtin .append =>
      match (k.args.toList.map (ev fr)), k.argTypes[0]? with
      | [d, x], some t => (elemSize c.P t).bind fun (e, _) => if noBx d = true ∧ noBx x = true ∧ nonInt (k.argTypes[1]?.bind c.P.underlying) = true then some (.heap (.app e d x)) else none
      | _, _ => none
    | .builtin _ => plainOp c.P fr o
    | .value x =>
      if noBxs (k.args.toList.map (ev fr)) then
        match ev fr x with
        | .val (.func (.func g) first caps) => some (.heap (.call g (first.toList.map .val ++ k.args.toList.map (ev fr) ++ caps.toList.map .val)))
        | .fn (.func g) first caps => if noBxs first ∧ noBxs caps then some (.heap (.call g (first ++ k.args.toList.map (ev fr) ++ caps))) else none
        | _ => none
      else none
    | .invoke .. => none
  | .go _ | .defer _ | .send .. | .recv .. | .select .. | .ready _ | .waits _ | .lookup .. | .mapUpdate .. | .insert .. | .mapEntry .. | .entryStore .. | .makeMap .. | .makeChan .. | .makeSlice .. | .entry _ => none
  | _ => plainOp c.P fr o

/-! ### the local boxes -/
def nextGen (loc : Loc) (s : Nat) : Nat := match locGet loc s with | some (g, _) => g + 1 | none => 1
def doBox (loc : Loc) : BReq → Option (AV × Loc)
  | .new s cells => some (.bx s (nextGen loc s) 0, locSet loc s (nextGen loc s) (.cells cells))
  | .load s g off n agg =>
    match locGet loc s with
    | some (g', .cells l) => if g' = g then (takeA l off n agg).map fun v => (v, loc) else none
    | _ => none
  | .store s g off cells =>
    match locGet loc s with
    | some (g', .cells l) => if g' = g then (overA l off cells).map fun l => (undefA, locSet loc s g (.cells l)) else none
    | _ => none
  | .iter s str => some (.bx s (nextGen loc s) 0, locSet loc s (nextGen loc s) (.iter str 0))
  | .next s g =>
    match locGet loc s with
    | some (g', .iter str pos) =>
      if g' = g then
        if pos < str.size then
          some (.tup [.val (.bool true), .val (.int .i64 pos), .val (.int .i32 (Utf8.decode str pos).1)], locSet loc s g (.iter str (pos + (Utf8.decode str pos).2)))
        else some (.tup [.val (.bool false)], loc)
      else none
    | _ => none

/-! ### the heap -/
inductive HRes where
  | val (v : AV) (h : H) (lw : Option Nat)
  | pan (v : AV) (h : H) (lw : Option Nat)

def srcCells (h : H) (es : Nat) : AV → Option (List AV × Nat)
  | .val (.slice none 0 _) => some ([], 0)
  | .val (.string s) => if es = 1 then some (bytesA s, s.size) else none
  | .lit cs len => if cs.length = len * es then some (cs, len) else none
  | .sl b g off len es' =>
    match h[b]? with
    | some k => if k.gen = g ∧ es' = es ∧ off + len * es ≤ k.cells.length then some ((k.cells.drop off).take (len * es), len) else none
    | none => none
  | _ => none
def srcForeign (w0 : World) (es : Nat) : AV → Option (List AV × Nat)
  | .val (.slice (some a) len _) => (foreignA w0 a 0 (len * es)).map fun l => (l, len)
  | _ => none

def roomOk (P : Program) (e : TypeId) (need : Nat) : Bool :=
  match P.info? e with
  | some i => (match i.zero with | some z => z.cells.size == i.size | none => false) && decide (0 < i.bytes) && decide (need * i.bytes ≤ 1099511627776) && decide (need ≤ 1099511627776)
  | none => false

def doHeap (c : Cfg) (call : CallF) (h : H) : HReq → Option HRes
  | .new cells es len => some (.val (match len with | none => .ptr h.length 0 0 | some n => .sl h.length 0 0 n es) (h ++ [⟨cells, 0⟩]) none)
  | .load b g off n agg =>
    match h[b]? with
    | some k => if k.gen = g then (takeA k.cells off n agg).map fun v => .val v h none else none
    | none => none
  | .store b g off cells =>
    match h[b]? with
    | some k => if k.gen = g then (overA k.cells off cells).map fun l => .val undefA (h.set b ⟨l, k.gen⟩) (some b) else none
    | none => none
  | .str b g off len =>
    match h[b]? with
    | some k => if k.gen = g ∧ off + len ≤ k.cells.length then (unbytes ((k.cells.drop off).take len)).map fun l => .val (.val (.string ⟨l.toArray⟩)) h none else none
    | none => none
  | .app e dst src =>
    match sizeT c.P e with
    | none => none
    | some es =>
    match (srcCells h es src).orElse fun _ => srcForeign c.w0 es src with
    | none => none
    | some (xs, m) =>
      if ¬ xs.all oneA then none else
      match dst with
      | .val (.slice none 0 0) =>
        if m = 0 then some (.val dst h none)
        else if roomOk c.P e m then some (.val (.sl h.length 0 0 m es) (h ++ [⟨xs, 0⟩]) none) else none
      | .sl b g off len es' =>
        match h[b]? with
        | none => none
        | some k =>
          if k.gen = g ∧ es' = es ∧ off + len * es ≤ k.cells.length ∧ 0 < es then
            if m = 0 then some (.val dst h none)
            else if off + (len + m) * es ≤ k.cells.length then
              some (.val (.sl b g off (len + m) es) (h.set b ⟨k.cells.take (off + len * es) ++ xs ++ k.cells.drop (off + (len + m) * es), k.gen⟩) (some b))
            else if roomOk c.P e (len + m) then
              some (.val (.sl b (g + 1) off (len + m) es) (h.set b ⟨k.cells.take (off + len * es) ++ xs, k.gen + 1⟩) (some b))
            else none
          else none
      | _ => none
  | .call f args =>
    match call f args h with
    | some (.ret v, h', lw) => some (.val v h' lw)
    | some (.pan v, h', lw) => some (.pan v h' lw)
    | none => none

def lwMin : Option Nat → Option Nat → Option Nat
  | none, b => b
  | a, none => a
  | some a, some b => some (min a b)

/-! ### regions -/
inductive Dom where
  | pure
  | rb (s : Nat)
  | wb (s : Nat)
  | rh
  | wh
  deriving DecidableEq
def BReq.dom : BReq → Dom
  | .new s _ | .store s _ _ _ | .iter s _ | .next s _ => .wb s
  | .load s _ _ _ _ => .rb s
def HReq.dom : HReq → Dom
  | .load .. | .str .. => .rh
  | _ => .wh
def Req.dom : Req → Dom
  | .done _ | .pan _ => .pure
  | .box r => r.dom
  | .heap r => r.dom
def Dom.meets : Dom → Dom → Bool
  | .wb s, .rb t | .rb s, .wb t | .wb s, .wb t => s == t
  | .wh, .rh | .rh, .wh | .wh, .wh => true
  | _, _ => false

def wantedA (ops : Array Oper) (fr : List AV) (o : Oper) : Bool :=
  match o.guard with
  | none => true
  | some (j, want) =>
    match (ops[j]?).bind (·.dst) with
    | some d => match getT fr d with
      | .val (.bool b) => b == want
      | _ => false
    | none => false

/-- one operation: a panic, or the next state -/
def aone (c : Cfg) (call : CallF) (f : FuncId) (o : Oper) (s : S) : Option (Option AV × S × Dom) :=
  match aop c f s.fr o with
  | none => none
  | some (.done v) => some (none, { s with fr := putT s.fr o.dst v }, .pure)
  | some (.pan v) => some (some v, s, .wh)
  | some (.box r) => match doBox s.loc r with
    | some (v, loc) => some (none, { s with fr := putT s.fr o.dst v, loc := loc }, r.dom)
    | none => none
  | some (.heap r) => match doHeap c call s.h r with
    | some (.val v h lw) => some (none, { s with fr := putT s.fr o.dst v, h := h, lw := lwMin s.lw lw }, r.dom)
    | some (.pan v h lw) => some (some v, { s with h := h, lw := lwMin s.lw lw }, r.dom)
    | none => none

/-- one operation, if it is wanted -/
def astep (c : Cfg) (call : CallF) (f : FuncId) (ops : Array Oper) (o : Oper) (s : S) : Option (Option AV × S × Dom) :=
  if wantedA ops s.fr o then aone c call f o s else some (none, { s with fr := putT s.fr o.dst undefA }, .pure)

/-- the operations of a region in the text's order: a panic and where, the state, what each met -/
def aops (c : Cfg) (call : CallF) (f : FuncId) (ops : Array Oper) : List Oper → S → Option (Option AV × S × List Dom)
  | [], s => some (none, s, [])
  | o :: l, s =>
    match astep c call f ops o s with
    | some (none, s', d) =>
      match aops c call f ops l s' with
      | some (p, s'', ds) => some (p, s'', d :: ds)
      | none => none
    | some (some v, s', d) => some (some v, s', [d])
    | none => none

def pairsOk (ds : List Dom) (l : List (Nat × Nat)) : Bool :=
  l.all fun (i, j) => !(Dom.meets (ds.getD i .pure) (ds.getD j .pure))

def aregion (c : Cfg) (call : CallF) (f : FuncId) (id : Nat) (ops : Array Oper) (draw : Bool) (s : S) : Option (Ex × S) :=
  match aops c call f ops ops.toList s with
  | none => none
  | some (none, s', ds) =>
    if draw then
      match c.un f id with
      | some (l, _) => if pairsOk ds l then some (.normal, s') else none
      | none => none
    else some (.normal, s')
  | some (some v, s', ds) =>
    if draw then
      match c.un f id with
      | some (l, ps) => if pairsOk ds l && ps.contains (ds.length - 1) then some (.pan v, s') else none
      | none => none
    else some (.pan v, s')

/-! ### code and calls -/
abbrev RunF := FuncId → Code → S → Option (Ex × S)

def isBoolA : AV → Option Bool
  | .val (.bool b) => some b
  | _ => none

def resultA (c : Cfg) (s : S) : ResultVar → Option AV
  | .tmp t => some (getT s.fr t)
  | .cell a t =>
    (shapeT c.P t).bind fun (n, agg) =>
    match getT s.fr a with
    | .bx b g off => (doBox s.loc (.load b g off n agg)).map (·.1)
    | .ptr b g off => match doHeap c (fun _ _ _ => none) s.h (.load b g off n agg) with
      | some (.val v _ _) => some v
      | _ => none
    | _ => none
def resultsA (c : Cfg) (s : S) : List ResultVar → Option (List AV)
  | [] => some []
  | r :: l => (resultA c s r).bind fun v => (resultsA c s l).map fun vs => v :: vs
def tupA : List AV → AV
  | [x] => x
  | l => .tup l

mutual
/-- all places of a value lie below -/
def belowA (n : Nat) : AV → Bool
  | .val _ => true
  | .bx .. => true
  | .ptr b _ _ => decide (b < n)
  | .sl b _ _ _ _ => decide (b < n)
  | .lit cs _ => belowAs n cs
  | .lp cs => belowAs n cs
  | .agg l => belowAs n l
  | .tup l => belowAs n l
  | .ifc _ x => belowA n x
  | .fn _ a c => belowAs n a && belowAs n c
def belowAs (n : Nat) : List AV → Bool
  | [] => true
  | a :: l => belowA n a && belowAs n l
end

def lwOver (lw : Option Nat) (n : Nat) : Bool := match lw with | none => true | some l => decide (n ≤ l)

def outV : Out → AV
  | .ret v => v
  | .pan v => v

/-- what a call leaves of the heap -/
def leave (h0 : H) (o : Out) (s : S) : Option (Out × H × Option Nat) :=
  if noBx (outV o) then
    if lwOver s.lw h0.length && belowA h0.length (outV o) then some (o, h0, none) else some (o, s.h, if lwOver s.lw h0.length then none else s.lw)
  else none

def acall (c : Cfg) (run : RunF) (f : FuncId) (args : List AV) (h : H) : Option (Out × H × Option Nat) :=
  match c.T f with
  | some g => g args h
  | none =>
    match c.P.funcs[f]? with
    | none => none
    | some fn =>
      match fn.body with
      | none => none
      | some b =>
        if fn.name == "runtime.NumGoroutine" then none else
        match run f b { fr := args ++ List.replicate (fn.ntmps - args.length) undefA, loc := [], h := h, lw := none } with
        | some (.normal, s) | some (.ret, s) => (resultsA c s fn.results.toList).bind fun vs => leave h (.ret (tupA vs)) s
        | some (.pan v, s) => leave h (.pan v) s
        | _ => none

def acodeS (c : Cfg) (rec : RunF) (f : FuncId) : Code → S → Option (Ex × S)
  | .skip, s => some (.normal, s)
  | .label _, s => some (.normal, s)
  | .region id ops draw, s => aregion c (acall c rec) f id ops draw s
  | .seq a b, s =>
    match acodeS c rec f a s with
    | some (.normal, s') => acodeS c rec f b s'
    | r => r
  | .cond x a b, s =>
    match isBoolA (ev s.fr x) with
    | some true => acodeS c rec f a s
    | some false => acodeS c rec f b s
    | none => none
  | .block id b, s =>
    match acodeS c rec f b s with
    | some (.exit i, s') => if i = id then some (.normal, s') else some (.exit i, s')
    | r => r
  | .loop b, s =>
    match acodeS c rec f b s with
    | some (.normal, s') => rec f (.loop b) s'
    | r => r
  | .exit id, s => some (.exit id, s)
  | .ret, s => some (.ret, s)
  | .scope _, _ => none
  | .goto _, _ => none
  | .rangeFunc .., _ => none
  | .refuse _, _ => none

def acodeN (c : Cfg) : Nat → RunF
  | 0 => fun _ _ _ => none
  | n + 1 => acodeS c (acodeN c n)

def acallN (c : Cfg) (n : Nat) : CallF := acall c (acodeN c n)
end Go.Proofs.Ytmglahnoemgieaa.Ax
namespace Go.Proofs.Ytmglahnoemgieaa.Ax
open Go Go.RowKit
set_option linter.unusedSimpArgs false
set_option linter.unusedVariables false

variable {M : Mu}

theorem Rvs.length : ∀ {l : List AV} {xs : List Value}, Rvs M l xs → l.length = xs.length
  | [], xs, h => by simp only [Rvs] at h; subst h; rfl
  | a :: l, xs, h => by
    obtain ⟨x, r, rfl, _, h⟩ := h
    simp [Rvs.length h]
theorem Rvs.nil : Rvs M [] [] := rfl
theorem Rvs.cons {a : AV} {l : List AV} {x : Value} {xs : List Value} (h : Rv M a x) (k : Rvs M l xs) : Rvs M (a :: l) (x :: xs) := ⟨x, xs, rfl, h, k⟩
theorem Rvs.cons_inv {a : AV} {l : List AV} {xs : List Value} (h : Rvs M (a :: l) xs) : ∃ x r, xs = x :: r ∧ Rv M a x ∧ Rvs M l r := h
theorem Rvs.cons_iff {a : AV} {l : List AV} {x : Value} {xs : List Value} : Rvs M (a :: l) (x :: xs) ↔ Rv M a x ∧ Rvs M l xs :=
  ⟨fun ⟨_, _, e, h, k⟩ => by cases e; exact ⟨h, k⟩, fun ⟨h, k⟩ => .cons h k⟩
theorem Rvs.append : ∀ {l m : List AV} {xs ys : List Value}, Rvs M l xs → Rvs M m ys → Rvs M (l ++ m) (xs ++ ys)
  | [], m, xs, ys, h, k => by simp only [Rvs] at h; subst h; exact k
  | a :: l, m, xs, ys, h, k => by
    obtain ⟨x, r, rfl, hx, h⟩ := h
    exact .cons hx (Rvs.append h k)
theorem Rvs.take : ∀ {l : List AV} {xs : List Value} (n : Nat), Rvs M l xs → Rvs M (l.take n) (xs.take n)
  | [], xs, n, h => by simp only [Rvs] at h; subst h; simp [Rvs]
  | a :: l, xs, 0, h => by simp [Rvs]
  | a :: l, xs, n + 1, h => by
    obtain ⟨x, r, rfl, hx, h⟩ := h
    exact .cons hx (Rvs.take n h)
theorem Rvs.drop : ∀ {l : List AV} {xs : List Value} (n : Nat), Rvs M l xs → Rvs M (l.drop n) (xs.drop n)
  | [], xs, n, h => by simp only [Rvs] at h; subst h; simp [Rvs]
  | a :: l, xs, 0, h => by simpa using h
  | a :: l, xs, n + 1, h => by
    obtain ⟨x, r, rfl, hx, h⟩ := h
    simpa using Rvs.drop n h
theorem Rvs.get : ∀ {l : List AV} {xs : List Value} {n : Nat} {a : AV}, Rvs M l xs → l[n]? = some a → ∃ x, xs[n]? = some x ∧ Rv M a x
  | [], xs, n, a, h, e => by simp at e
  | b :: l, xs, 0, a, h, e => by
    obtain ⟨x, r, rfl, hx, h⟩ := h
    simp at e; subst e
    exact ⟨x, rfl, hx⟩
  | b :: l, xs, n + 1, a, h, e => by
    obtain ⟨x, r, rfl, hx, h⟩ := h
    simp at e
    simpa using Rvs.get h e
theorem Rvs.vals : ∀ (l : List Value), Rvs M (l.map .val) l
  | [] => rfl
  | _ :: l => .cons rfl (Rvs.vals l)
theorem Rvs.replicate (n : Nat) {a : AV} {x : Value} (h : Rv M a x) : Rvs M (List.replicate n a) (List.replicate n x) := by
  induction n with
  | zero => rfl
  | succ n ih => exact .cons h ih
theorem Rvs.map {α : Type} (f : α → AV) (g : α → Value) (h : ∀ x, Rv M (f x) (g x)) : ∀ (l : List α), Rvs M (l.map f) (l.map g)
  | [] => rfl
  | x :: l => .cons (h x) (Rvs.map f g h l)
theorem Rvs.over {l : List AV} {xs : List Value} {off : Nat} {m m' : List AV} {ys : List Value} (h : Rvs M l xs) (k : Rvs M m ys)
    (e : overA l off m = some m') : off + m.length ≤ l.length ∧ Rvs M m' (xs.take off ++ ys ++ xs.drop (off + ys.length)) := by
  unfold overA at e
  split at e
  · rename_i hle
    cases e
    refine ⟨hle, ?_⟩
    rw [← k.length]
    exact ((h.take off).append k).append (h.drop _)
  · cases e

theorem getT_eq (l : List AV) : ∀ t, getT l t = l.getD t undefA := by
  induction l with
  | nil => intro t; rfl
  | cons a l ih => intro t; cases t with
    | zero => rfl
    | succ t => simpa [getT] using ih t
theorem setT_eq (l : List AV) (v : AV) : ∀ t, setT l t v = l.set t v := by
  induction l with
  | nil => intro t; rfl
  | cons a l ih => intro t; cases t with
    | zero => rfl
    | succ t => simp [setT, ih t]
theorem Rvs.getT {l : List AV} {xs : List Value} (h : Rvs M l xs) (t : Nat) : Rv M (getT l t) (xs.getD t undef) := by
  rw [getT_eq]
  by_cases ht : t < l.length
  · obtain ⟨x, hx, hr⟩ := h.get (n := t) (List.getElem?_eq_getElem ht)
    simp only [List.getD_eq_getElem?_getD, hx, List.getElem?_eq_getElem ht, Option.getD_some]
    exact hr
  · have h2 : ¬ t < xs.length := by rw [← h.length]; exact ht
    simp only [List.getD_eq_getElem?_getD, List.getElem?_eq_none (Nat.le_of_not_lt ht), List.getElem?_eq_none (Nat.le_of_not_lt h2), Option.getD_none]
    rfl
theorem Rvs.setT {l : List AV} {xs : List Value} (h : Rvs M l xs) {a : AV} {x : Value} (k : Rv M a x) : ∀ t, Rvs M (setT l t a) (xs.set t x) := by
  induction l generalizing xs with
  | nil => simp only [Rvs] at h; subst h; intro t; rfl
  | cons b l ih =>
    obtain ⟨y, r, rfl, hy, h⟩ := h
    intro t
    cases t with
    | zero => exact .cons k h
    | succ t => exact .cons hy (ih h t)

/-- The frame: slot by slot. -/
def FRel (M : Mu) (fr : List AV) (a : Act) : Prop := Rvs M fr a.tmps.toList
theorem FRel.put {fr : List AV} {a : Act} (h : FRel M fr a) {v : AV} {x : Value} (k : Rv M v x) (d : Option Tmp) : FRel M (putT fr d v) (a.put d x) := by
  cases d with
  | none => exact h
  | some d =>
    have := Rvs.setT h k d
    simpa [FRel, putT, Act.put] using this
theorem norm1_rel : ∀ v : Value, Rv M (norm1 v) v := by
  intro v
  cases v <;> first | exact rfl | exact ⟨_, rfl, Rvs.vals _⟩
theorem norm_rel : ∀ v : Value, Rv M (norm v) v := by
  intro v
  cases v with
  | tuple vs => exact ⟨vs, rfl, by simpa using Rvs.map (M := M) norm1 id norm1_rel vs.toList⟩
  | agg cs => exact norm1_rel (.agg cs)
  | _ => exact rfl
theorem FRel.ev {fr : List AV} {a : Act} (h : FRel M fr a) (x : Operand) : Rv M (ev fr x) (a.eval x) := by
  cases x with
  | tmp t =>
    have := Rvs.getT h t
    simpa [Ax.ev, Act.eval] using this
  | const v => exact norm1_rel v
  | global g => exact rfl
  | func f => exact rfl
theorem FRel.evs {fr : List AV} {a : Act} (h : FRel M fr a) (l : List Operand) : Rvs M (l.map (Ax.ev fr)) (l.map a.eval) :=
  Rvs.map _ _ h.ev l

mutual
theorem toVal_rel : ∀ (a : AV) (v x : Value), toVal a = some v → Rv M a x → x = v
  | .val w, v, x, h, k => by simp [toVal] at h; subst h; exact k
  | .agg l, v, x, h, k => by
    simp only [toVal, Option.map_eq_some_iff] at h
    obtain ⟨vs, h1, rfl⟩ := h
    obtain ⟨cs, rfl, h2⟩ := k
    rw [← toVals_rel l vs _ h1 h2]
  | .tup l, v, x, h, k => by
    simp only [toVal, Option.map_eq_some_iff] at h
    obtain ⟨vs, h1, rfl⟩ := h
    obtain ⟨cs, rfl, h2⟩ := k
    rw [← toVals_rel l vs _ h1 h2]
  | .ifc t y, v, x, h, k => by
    simp only [toVal, Option.map_eq_some_iff] at h
    obtain ⟨u, h1, rfl⟩ := h
    obtain ⟨u', rfl, h2⟩ := k
    rw [toVal_rel y u u' h1 h2]
  | .fn f a c, v, x, h, k => by
    simp only [toVal, Option.bind_eq_some_iff, Option.map_eq_some_iff] at h
    obtain ⟨a', h1, c', h2, rfl⟩ := h
    obtain ⟨a'', c'', rfl, h3, h4⟩ := k
    rw [← toVals_rel a a' _ h1 h3, ← toVals_rel c c' _ h2 h4]
  | .bx .., v, x, h, k => by simp [toVal] at h
  | .ptr .., v, x, h, k => by simp [toVal] at h
  | .sl .., v, x, h, k => by simp [toVal] at h
  | .lit .., v, x, h, k => by simp [toVal] at h
  | .lp .., v, x, h, k => by simp [toVal] at h
theorem toVals_rel : ∀ (a : List AV) (v x : List Value), toVals a = some v → Rvs M a x → x = v
  | [], v, x, h, k => by simp [toVals] at h; subst h; exact k
  | a :: l, v, x, h, k => by
    simp only [toVals, Option.bind_eq_some_iff, Option.map_eq_some_iff] at h
    obtain ⟨u, h1, us, h2, rfl⟩ := h
    obtain ⟨y, r, rfl, h3, h4⟩ := k
    rw [toVal_rel a u y h1 h3, toVals_rel l us r h2 h4]
end

theorem semNow_run {α : Type} (P : Program) (s : Sem α) (x : α) (w : World) : semNow P s = some x → s.run P w = .ok x w := by
  induction s with
  | pure a => intro h; simp [semNow] at h; subst h; rfl
  | program k ih => intro h; simp only [semNow] at h; simp only [Sem.run]; exact ih _ h
  | _ => intro h; simp [semNow] at h

theorem cells_rel {a : AV} {x : Value} (h : Rv M a x) : Rvs M (cellsOf a) x.cells.toList := by
  cases a with
  | val v =>
    simp only [Rv] at h; subst h
    cases x <;> first
      | exact Rvs.vals _
      | exact .cons rfl Rvs.nil
  | agg l => obtain ⟨cs, rfl, h⟩ := h; exact h
  | bx s g off => obtain ⟨h0, a, rfl, h1⟩ := h; exact .cons ⟨h0, a, rfl, h1⟩ Rvs.nil
  | ptr b g off => obtain ⟨h0, h2, a, rfl, h1⟩ := h; exact .cons ⟨h0, h2, a, rfl, h1⟩ Rvs.nil
  | sl b g off len es => obtain ⟨h0, h2, a, c, rfl, h1⟩ := h; exact .cons ⟨h0, h2, a, c, rfl, h1⟩ Rvs.nil
  | lit cs len => obtain ⟨a, b, c, d, rfl, h1⟩ := h; exact .cons ⟨a, b, c, d, rfl, h1⟩ Rvs.nil
  | lp cs => obtain ⟨a, b, c, rfl, h1⟩ := h; exact .cons ⟨a, b, c, rfl, h1⟩ Rvs.nil
  | tup l => obtain ⟨a, rfl, h1⟩ := h; exact .cons ⟨a, rfl, h1⟩ Rvs.nil
  | ifc t y => obtain ⟨a, rfl, h1⟩ := h; exact .cons ⟨a, rfl, h1⟩ Rvs.nil
  | fn f b c => obtain ⟨p, q, rfl, h1⟩ := h; exact .cons ⟨p, q, rfl, h1⟩ Rvs.nil
theorem one_rel {a : AV} {x : Value} (h : Rv M a x) (k : oneA a = true) : x.oneCell' = true := by
  cases a with
  | val v => simp only [Rv] at h; subst h; cases x <;> simp_all [oneA, oneV, Value.oneCell']
  | agg l => simp [oneA] at k
  | tup l => simp [oneA] at k
  | bx s g off => obtain ⟨h0, a, rfl, h1⟩ := h; rfl
  | ptr b g off => obtain ⟨h0, h2, a, rfl, h1⟩ := h; rfl
  | sl b g off len es => obtain ⟨h0, h2, a, c, rfl, h1⟩ := h; rfl
  | lit cs len => obtain ⟨a, b, c, d, rfl, h1⟩ := h; rfl
  | lp cs => obtain ⟨a, b, c, rfl, h1⟩ := h; rfl
  | ifc t y => obtain ⟨a, rfl, h1⟩ := h; rfl
  | fn f b c => obtain ⟨p, q, rfl, h1⟩ := h; rfl
theorem ones_rel : ∀ {l : List AV} {xs : List Value}, Rvs M l xs → l.all oneA = true → ∀ v ∈ xs, v.oneCell' = true
  | [], xs, h, k => by simp only [Rvs] at h; subst h; simp
  | a :: l, xs, h, k => by
    obtain ⟨x, r, rfl, hx, h⟩ := h
    simp at k
    intro v hv
    cases hv with
    | head => exact one_rel hx k.1
    | tail _ hv => exact ones_rel h (by simpa using k.2) v hv

theorem takeA_rel {cs : List AV} {xs : List Value} {off n : Nat} {agg : Bool} {v : AV} (h : Rvs M cs xs) (e : takeA cs off n agg = some v) :
    off + n ≤ xs.length ∧ (agg = true → Rv M v (.agg ((xs.drop off).take n).toArray)) ∧ (agg = false → ∃ x, xs[off]? = some x ∧ Rv M v x) := by
  unfold takeA at e
  split at e
  · rename_i hle
    refine ⟨by rw [← h.length]; exact hle, ?_, ?_⟩
    · rintro rfl
      simp at e; subst e
      exact ⟨_, rfl, by simpa using (h.drop off).take n⟩
    · rintro rfl
      simp at e
      exact h.get e
  · cases e

theorem noBxs_mem : ∀ {l : List AV}, noBxs l = true → ∀ a ∈ l, noBx a = true
  | [], _, a, h => by simp at h
  | b :: l, k, a, h => by
    simp [noBxs] at k
    cases h with
    | head => exact k.1
    | tail _ h => exact noBxs_mem k.2 a h
theorem noBxs_of : ∀ {l : List AV}, (∀ a ∈ l, noBx a = true) → noBxs l = true
  | [], _ => rfl
  | b :: l, k => by simp only [noBxs, Bool.and_eq_true]; exact ⟨k b (by simp), noBxs_of fun a h => k a (by simp [h])⟩
theorem noBxs_append {l m : List AV} : noBxs (l ++ m) = (noBxs l && noBxs m) := by
  induction l with
  | nil => simp [noBxs]
  | cons a l ih => simp [noBxs, ih, Bool.and_assoc]
theorem noBxs_take {l : List AV} (n : Nat) (h : noBxs l = true) : noBxs (l.take n) = true := noBxs_of fun a ha => noBxs_mem h a (List.mem_of_mem_take ha)
theorem noBxs_drop {l : List AV} (n : Nat) (h : noBxs l = true) : noBxs (l.drop n) = true := noBxs_of fun a ha => noBxs_mem h a (List.mem_of_mem_drop ha)
theorem noBxs_vals (l : List Value) : noBxs (l.map .val) = true := by induction l <;> simp_all [noBxs, noBx]

/-! ### blocks -/
/-- the world with another block in a block's place -/
def setBlk (w : World) (k : Nat) (o : Obj) : World := { w with heap := w.heap.setIfInBounds k o }
@[simp] theorem setBlk_size (w : World) (k : Nat) (o : Obj) : (setBlk w k o).heap.size = w.heap.size := by simp [setBlk]
theorem setBlk_same {w : World} {k : Nat} {o : Obj} (h : k < w.heap.size) : (setBlk w k o).heap[k]? = some o := by simp [setBlk, h]
theorem setBlk_other {w : World} {k j : Nat} {o : Obj} (h : j ≠ k) : (setBlk w k o).heap[j]? = w.heap[j]? := by
  simp only [setBlk, Array.getElem?_setIfInBounds]
  rw [if_neg (fun e => h e.symm)]
theorem lt_of_blk {w : World} {k : Nat} {o : Obj} (h : w.heap[k]? = some o) : k < w.heap.size := (Array.getElem?_eq_some_iff.1 h).1
theorem setBlk_setBlk (w : World) (k : Nat) (o o' : Obj) : setBlk (setBlk w k o) k o' = setBlk w k o' := by simp [setBlk]
theorem setBlk_self {w : World} {k : Nat} {o : Obj} (h : w.heap[k]? = some o) : setBlk w k o = w := by
  unfold setBlk
  have : w.heap.setIfInBounds k o = w.heap := by
    apply Array.ext_getElem?
    intro i
    rw [Array.getElem?_setIfInBounds]
    split
    · rename_i e; subst e; rw [if_pos (lt_of_blk h), h]
    · rfl
  rw [this]

/-- nothing of a row's is frozen -/
def Free (cur : Array Value) (fr : Nat × Nat) : Prop := fr.1 = fr.2 ∨ cur.size ≤ fr.1

theorem frozen_free {w : World} {k : Nat} {cur : Array Value} {e : TypeId} {fr : Nat × Nat} (h : w.heap[k]? = some (.cells cur e fr)) (hf : Free cur fr) {o : Nat} (ho : o < cur.size) :
    w.frozen? ⟨k, o, none⟩ = false := by
  obtain ⟨lo, hi⟩ := fr
  simp only [World.frozen?, h]
  rcases hf with hf | hf
  · simp only at hf; subst hf
    by_cases h1 : lo ≤ o <;> simp <;> omega
  · simp only at hf
    simp; omega
theorem setCell_blk {w : World} {k o : Nat} {cur : Array Value} {e : TypeId} {fr : Nat × Nat} (h : w.heap[k]? = some (.cells cur e fr)) (v : Value) :
    w.setCell ⟨k, o, none⟩ v = setBlk w k (.cells (cur.setIfInBounds o v) e fr) := by
  have hk := lt_of_blk h
  have hkk : w.heap[k] = .cells cur e fr := (Array.getElem?_eq_some_iff.1 h).2
  unfold World.setCell setBlk
  congr 1
  apply Array.ext_getElem?
  intro i
  rw [Array.getElem?_modify, Array.getElem?_setIfInBounds]
  by_cases hi : k = i
  · subst hi
    simp [hk, hkk]
  · simp [hi]

theorem add_off (k o i : Nat) : (⟨k, o, none⟩ : Addr).add i = ⟨k, o + i, none⟩ := by
  unfold Addr.add; split <;> simp_all

theorem over_step (l : List Value) (k : Nat) (v : Value) (rest : List Value) (hk : k + (rest.length + 1) ≤ l.length) :
    (l.set k v).take (k + 1) ++ rest ++ (l.set k v).drop (k + 1 + rest.length) = l.take k ++ (v :: rest) ++ l.drop (k + (rest.length + 1)) := by
  have h1 : (l.set k v).take (k + 1) = l.take k ++ [v] := by
    rw [List.take_succ_eq_append_getElem (by simp; omega)]
    have : List.take k (l.set k v) = List.take k l := by
      rw [List.take_set, List.set_eq_of_length_le (by simp; omega)]
    simp [this]
  have h2 : (l.set k v).drop (k + 1 + rest.length) = l.drop (k + (rest.length + 1)) := by
    rw [List.drop_set_of_lt (by omega)]
    congr 1; omega
  rw [h1, h2]; simp

theorem run_storeCells (P : Program) (k : Nat) (e : TypeId) (fr : Nat × Nat) (o : Nat) : ∀ (vs : List Value) (i : Nat) (cur : Array Value) (w : World),
    w.heap[k]? = some (.cells cur e fr) → Free cur fr → o + i + vs.length ≤ cur.size → (∀ v ∈ vs, v.oneCell' = true) →
    (storeCells ⟨k, o, none⟩ vs i).run P w = .ok () (setBlk w k (.cells (cur.toList.take (o + i) ++ vs ++ cur.toList.drop (o + i + vs.length)).toArray e fr))
  | [], i, cur, w, h, hf, hle, h1 => by
    simp only [storeCells, Sem.run_pure, List.append_nil, List.length_nil, Nat.add_zero, List.take_append_drop]
    rw [show cur.toList.toArray = cur from by simp, setBlk_self h]
  | v :: rest, i, cur, w, h, hf, hle, h1 => by
    simp only [List.length_cons] at hle
    have hc : w.cell? ⟨k, o + i, none⟩ = some cur[o + i] := by
      simp only [World.cell?, h]
      simp
    have hz := frozen_free h hf (show o + i < cur.size by omega)
    simp only [storeCells, add_off, Sem.run_bind]
    rw [run_store P w _ v .plain (h1 v (by simp)), hc]
    simp only [hz, Bool.false_eq_true, if_false, Result.andThen_ok]
    rw [setCell_blk h]
    have hk := lt_of_blk h
    rw [run_storeCells P k e fr o rest (i + 1) (cur.setIfInBounds (o + i) v) _ (setBlk_same hk) (by
        rcases hf with hf | hf
        · exact .inl hf
        · exact .inr (by simpa using hf)) (by simp; omega) (fun u hu => h1 u (by simp [hu]))]
    rw [setBlk_setBlk]
    have := over_step cur.toList (o + i) v rest (by simp; omega)
    congr 4
    simp only [Array.toList_setIfInBounds, List.length_cons]
    rw [← this]
    congr 1

theorem cell_blk {w : World} {k : Nat} {cur : Array Value} {e : TypeId} {fr : Nat × Nat} (h : w.heap[k]? = some (.cells cur e fr)) (o : Nat) : w.cell? ⟨k, o, none⟩ = cur[o]? := by
  simp [World.cell?, h]

/-- a load out of a row -/
theorem run_load_blk {P : Program} {w : World} {k : Nat} {cur : Array Value} {e : TypeId} {fr : Nat × Nat} (h : w.heap[k]? = some (.cells cur e fr)) {t : TypeId} {n off : Nat} {agg : Bool}
    (ht : shapeT P t = some (n, agg)) (hle : off + n ≤ cur.size) :
    (agg = true → (loadVar t ⟨k, off, none⟩).run P w = .ok (.agg ((cur.toList.drop off).take n).toArray) w) ∧
    (agg = false → n = 1 ∧ ∀ x, cur.toList[off]? = some x → (loadVar t ⟨k, off, none⟩).run P w = .ok x w) := by
  unfold shapeT at ht
  have hagg : ∀ b, isAggT P t = some b → (isAgg t).run P w = .ok b w := by
    intro b hb
    unfold isAggT at hb
    cases hu : P.underlying t with
    | none => rw [hu] at hb; cases hb
    | some d =>
      rw [hu] at hb
      unfold isAgg underlying
      simp only [Sem.run_bind, run_program, Result.andThen_ok, hu, Sem.run_pure]
      cases d <;> simp at hb <;> subst hb <;> rfl
  cases hA : isAggT P t with
  | none => rw [hA] at ht; cases ht
  | some b =>
    rw [hA] at ht
    have hr := hagg b hA
    cases b with
    | true =>
      simp only [Option.map_eq_some_iff] at ht
      obtain ⟨m, hm, he⟩ := ht
      cases he
      refine ⟨fun _ => ?_, (fun h => by cases h)⟩
      unfold sizeT at hm
      simp only [Option.map_eq_some_iff] at hm
      obtain ⟨i, hi, rfl⟩ := hm
      have hs : (sizeOf t).run P w = .ok i.size w := by
        unfold sizeOf typeInfo
        simp [hi]
      unfold loadVar
      simp only [Sem.run_bind, hr, Result.andThen_ok, if_true, hs]
      have hl := run_loadCells_list (P := P) (w := w) ⟨k, off, none⟩ ((cur.toList.drop off).take i.size) (by
        intro j v hv
        rw [add_off, cell_blk h]
        rw [List.getElem?_take] at hv
        split at hv
        · simpa using hv
        · cases hv)
      have hlen : ((cur.toList.drop off).take i.size).length = i.size := by simp; omega
      rw [hlen] at hl
      rw [hl]
      rfl
    | false =>
      simp at ht
      obtain ⟨rfl, rfl⟩ := ht
      refine ⟨(fun h => by cases h), fun _ => ⟨rfl, fun x hx => ?_⟩⟩
      unfold loadVar
      have hc : w.cell? ⟨k, off, none⟩ = some x := by rw [cell_blk h]; simpa using hx
      simp only [Sem.run_bind, hr, Result.andThen_ok, Bool.false_eq_true, if_false, run_load, hc]
end Go.Proofs.Ytmglahnoemgieaa.Ax
namespace Go.Proofs.Ytmglahnoemgieaa.Ax
open Go Go.RowKit
set_option linter.unusedSimpArgs false
set_option linter.unusedVariables false

structure BlkOk (M : Mu) (k : Blk) (hm : Home) (w : World) : Prop where
  nobx : noBxs k.cells = true
  shift : hm.shift ≤ k.cells.length
  row : ∃ cur e fr, w.heap[hm.blk]? = some (.cells cur e fr) ∧ Free cur fr ∧ cur.size = hm.size ∧ k.cells.length - hm.shift ≤ cur.size ∧
    Rvs M (k.cells.drop hm.shift) (cur.toList.take (k.cells.length - hm.shift))

structure HRel (w0 : World) (M : Mu) (h : H) (w : World) : Prop where
  n : M.n = h.length
  below : Below w0.heap.size w0 w
  blk : ∀ b k, h[b]? = some k → M.gen b = k.gen ∧ w0.heap.size ≤ (M.home b).blk ∧ BlkOk M k (M.home b) w
  inj : ∀ b b', b < M.n → b' < M.n → (M.home b).blk = (M.home b').blk → b = b'
  imm : ∀ c cur, M.imm c = some cur → w0.heap.size ≤ c ∧ (∃ e fr, w.heap[c]? = some (.cells cur e fr)) ∧ ∀ b, b < M.n → (M.home b).blk ≠ c

def LBOk (M : Mu) (b : LB) (k : Nat) (w : World) : Prop :=
  match b with
  | .cells l => ∃ cur e, w.heap[k]? = some (.cells cur e (0, 0)) ∧ Rvs M l cur.toList
  | .iter s pos => w.heap[k]? = some (.stringIter s pos)

structure LRel (lo : Nat) (M : Mu) (loc : Loc) (w : World) : Prop where
  box : ∀ s g b, locGet loc s = some (g, b) → M.ng s = g ∧ lo ≤ M.nu s ∧ (∀ c, c < M.n → (M.home c).blk ≠ M.nu s) ∧ M.imm (M.nu s) = none ∧ LBOk M b (M.nu s) w
  none : ∀ s, locGet loc s = none → M.ng s = 0
  inj : ∀ s s' x x', locGet loc s = some x → locGet loc s' = some x' → M.nu s = M.nu s' → s = s'

structure Keeps (M : Mu) (w : World) (M' : Mu) (w' : World) : Prop where
  size : w.heap.size ≤ w'.heap.size
  keep : ∀ k, k < w.heap.size → (∀ b, b < M.n → (M.home b).blk ≠ k) → w'.heap[k]? = w.heap[k]?
  homes : ∀ b, b < M'.n → (M'.home b).blk < w.heap.size → ∃ b0, b0 < M.n ∧ (M.home b0).blk = (M'.home b).blk
  imms : ∀ c, c < w.heap.size → M'.imm c = M.imm c

theorem Keeps.refl (M : Mu) (w : World) : Keeps M w M w := ⟨Nat.le_refl _, fun _ _ _ => rfl, fun b hb _ => ⟨b, hb, rfl⟩, fun _ _ => rfl⟩
theorem Keeps.trans {A B C : Mu} {a b c : World} (h : Keeps A a B b) (k : Keeps B b C c) : Keeps A a C c where
  size := Nat.le_trans h.size k.size
  keep i hi hn := by
    rw [k.keep i (Nat.lt_of_lt_of_le hi h.size) ?_, h.keep i hi hn]
    intro x hx e
    obtain ⟨x0, h0, h1⟩ := h.homes x hx (by omega)
    exact hn x0 h0 (by omega)
  homes i hi hl := by
    obtain ⟨x, hx, e⟩ := k.homes i hi (Nat.lt_of_lt_of_le hl h.size)
    obtain ⟨y, hy, e'⟩ := h.homes x hx (by omega)
    exact ⟨y, hy, e'.trans e⟩
  imms i hi := (k.imms i (Nat.lt_of_lt_of_le hi h.size)).trans (h.imms i hi)

theorem LBOk.mono {M M' : Mu} {b : LB} {k : Nat} {w w' : World} (E : Ext true M M') (hw : w'.heap[k]? = w.heap[k]?) (h : LBOk M b k w) : LBOk M' b k w' := by
  cases b with
  | cells l =>
    obtain ⟨cur, e, h1, h2⟩ := h
    exact ⟨cur, e, hw.trans h1, Rvs.mono E _ _ (.inl rfl) h2⟩
  | iter s pos => exact hw.trans h
theorem LBOk.lt {M : Mu} {b : LB} {k : Nat} {w : World} (h : LBOk M b k w) : k < w.heap.size := by
  cases b with
  | cells l => obtain ⟨cur, e, h1, h2⟩ := h; exact lt_of_blk h1
  | iter s pos => exact lt_of_blk h

/-- the local boxes behind a step that leaves their table alone -/
theorem LRel.step {lo : Nat} {M M' : Mu} {loc : Loc} {w w' : World} (h : LRel lo M loc w) (E : Ext true M M') (hng : M'.ng = M.ng) (hnu : M'.nu = M.nu) (K : Keeps M w M' w') : LRel lo M' loc w' where
  box s g b hs := by
    obtain ⟨h1, h2, h3, h4, h5⟩ := h.box s g b hs
    have hlt := h5.lt
    refine ⟨by rw [hng]; exact h1, by rw [hnu]; exact h2, ?_, ?_, ?_⟩
    · intro c hc e
      rw [hnu] at e
      obtain ⟨c0, hc0, e0⟩ := K.homes c hc (by omega)
      exact h3 c0 hc0 (by omega)
    · rw [hnu, K.imms _ hlt]; exact h4
    · rw [hnu]
      exact h5.mono E (K.keep _ hlt h3)
  none s hs := by rw [hng]; exact h.none s hs
  inj s s' x x' hs hs' e := by rw [hnu] at e; exact h.inj s s' x x' hs hs' e

theorem BlkOk.mono {M M' : Mu} {k : Blk} {hm : Home} {w w' : World} {l : Bool} (E : Ext l M M') (hw : w'.heap[hm.blk]? = w.heap[hm.blk]?) (h : BlkOk M k hm w) : BlkOk M' k hm w' := by
  obtain ⟨cur, e, fr, h1, h2, h3, h4, h5⟩ := h.row
  exact ⟨h.nobx, h.shift, cur, e, fr, hw.trans h1, h2, h3, h4, Rvs.mono E _ _ (.inr (noBxs_drop _ h.nobx)) h5⟩
theorem BlkOk.lt {M : Mu} {k : Blk} {hm : Home} {w : World} (h : BlkOk M k hm w) : hm.blk < w.heap.size := by
  obtain ⟨cur, e, fr, h1, _⟩ := h.row
  exact lt_of_blk h1
theorem HRel.size {w0 : World} {M : Mu} {h : H} {w : World} (r : HRel w0 M h w) : w0.heap.size ≤ w.heap.size := r.below.size
theorem HRel.get {w0 : World} {M : Mu} {h : H} {w : World} (r : HRel w0 M h w) {b : Nat} (hb : b < M.n) : ∃ k, h[b]? = some k := by
  rw [r.n] at hb
  exact ⟨_, List.getElem?_eq_getElem hb⟩
theorem HRel.home_lt {w0 : World} {M : Mu} {h : H} {w : World} (r : HRel w0 M h w) {b : Nat} (hb : b < M.n) : (M.home b).blk < w.heap.size := by
  obtain ⟨k, hk⟩ := r.get hb
  exact (r.blk b k hk).2.2.lt

theorem Below.setBlk {B : Nat} {a w : World} (h : Below B a w) {k : Nat} (hk : B ≤ k) (o : Obj) : Below B a (setBlk w k o) :=
  ⟨h.os, h.tape, h.output, by simpa using h.size, fun i hi => by rw [setBlk_other (by omega)]; exact h.block i hi⟩

/-- the heap's relation over a world that has turned elsewhere: at no home, at no row that stands still -/
theorem HRel.world {w0 : World} {M M' : Mu} {h : H} {w w' : World} (r : HRel w0 M h w) (E : Ext true M M') (hn : M'.n = M.n) (hhome : M'.home = M.home) (hgen : M'.gen = M.gen) (himm : M'.imm = M.imm)
    (hb : Below w0.heap.size w0 w') (hh : ∀ b, b < M.n → w'.heap[(M.home b).blk]? = w.heap[(M.home b).blk]?) (hi : ∀ c, M.imm c ≠ none → w'.heap[c]? = w.heap[c]?) : HRel w0 M' h w' where
  n := hn.trans r.n
  below := hb
  blk b k hk := by
    obtain ⟨h1, h3, h4⟩ := r.blk b k hk
    have hlt : b < M.n := by rw [r.n]; exact (List.getElem?_eq_some_iff.1 hk).1
    rw [hgen, hhome]
    exact ⟨h1, h3, h4.mono E (hh b hlt)⟩
  inj b b' h1 h2 e := by rw [hn] at h1 h2; rw [hhome] at e; exact r.inj b b' h1 h2 e
  imm c cur hc := by
    rw [himm] at hc
    obtain ⟨h1, ⟨e, fr, h2⟩, h3⟩ := r.imm c cur hc
    refine ⟨h1, ⟨e, fr, (hi c (by rw [hc]; simp)).trans h2⟩, ?_⟩
    rw [hn, hhome]; exact h3

theorem alloc_old (w : World) (o : Obj) {k : Nat} (h : k < w.heap.size) : (w.alloc o).heap[k]? = w.heap[k]? := heap_alloc_old w o k h

/-! ### local boxes -/
def Mu.withBox (M : Mu) (s k g : Nat) : Mu := { M with nu := fun t => if t = s then k else M.nu t, ng := fun t => if t = s then g else M.ng t }
theorem Mu.withBox_ext (M : Mu) {s k g : Nat} (h : M.ng s < g) : Ext true M (M.withBox s k g) where
  n := Nat.le_refl _
  gen _ _ := Nat.le_refl _
  home _ _ _ := rfl
  imm _ _ h := h
  ng _ t := by simp only [Mu.withBox]; split <;> simp_all; omega
  nu _ t e := by simp only [Mu.withBox] at *; split <;> simp_all

theorem locGet_set (loc : Loc) (s g : Nat) (b : LB) (t : Nat) : locGet (locSet loc s g b) t = if t = s then some (g, b) else locGet loc t := by
  induction loc with
  | nil => simp only [locSet, locGet]; split <;> split <;> simp_all
  | cons x l ih =>
    obtain ⟨s', g', b'⟩ := x
    simp only [locSet]
    by_cases h : s' = s
    · subst h
      simp only [if_true, locGet]
      by_cases h2 : s' = t
      · subst h2; simp
      · simp [h2]; intro e; exact absurd e.symm h2
    · by_cases h3 : s < s'
      · simp only [h, if_false, h3, if_true, locGet]
        by_cases h2 : s = t
        · subst h2; simp
        · have h2' : ¬ t = s := fun e => h2 e.symm
          simp [h2, h2']
      · simp only [h, if_false, h3, locGet, ih]
        by_cases h2 : s' = t
        · subst h2; simp [h]
        · simp [h2]

theorem nextGen_lt {lo : Nat} {M : Mu} {loc : Loc} {w : World} (h : LRel lo M loc w) (s : Nat) : M.ng s < nextGen loc s := by
  unfold nextGen
  cases hs : locGet loc s with
  | none => rw [h.none s hs]; simp
  | some x => obtain ⟨g, b⟩ := x; simp only; rw [(h.box s g b hs).1]; omega

/-- a new local box -/
theorem loc_new {w0 : World} {lo : Nat} {M : Mu} {h : H} {loc : Loc} {w : World} (r : HRel w0 M h w) (lr : LRel lo M loc w) (hlo : lo ≤ w.heap.size) (s : Nat) (b : LB) (o : Obj)
    (hb : ∀ M', Ext true M M' → LBOk M' b w.heap.size (w.alloc o)) :
    ∃ M', Ext true M M' ∧ HRel w0 M' h (w.alloc o) ∧ LRel lo M' (locSet loc s (nextGen loc s) b) (w.alloc o) ∧
      Rv M' (.bx s (nextGen loc s) 0) (.pointer (some ⟨w.heap.size, 0, none⟩)) ∧ Keeps M w M' (w.alloc o) := by
  have hg := nextGen_lt lr s
  have E := M.withBox_ext (k := w.heap.size) hg
  have hsz := r.size
  refine ⟨M.withBox s w.heap.size (nextGen loc s), E, ?_, ?_, ?_, ?_⟩
  · refine r.world E rfl rfl rfl rfl (r.below.alloc hsz o) (fun b hb => alloc_old w o (r.home_lt hb)) (fun c hc => ?_)
    cases hi : M.imm c with
    | none => exact absurd hi hc
    | some cur =>
      obtain ⟨_, ⟨e, fr, h2⟩, _⟩ := r.imm c cur hi
      exact alloc_old w o (lt_of_blk h2)
  · refine ⟨?_, ?_, ?_⟩
    · intro t g' b' ht
      rw [locGet_set] at ht
      by_cases e : t = s
      · subst e
        simp at ht
        obtain ⟨rfl, rfl⟩ := ht
        refine ⟨by simp [Mu.withBox], by simp [Mu.withBox]; exact hlo, ?_, ?_, by simpa [Mu.withBox] using hb _ E⟩
        · intro c hc
          have := r.home_lt (b := c) hc
          simp [Mu.withBox]; omega
        · simp only [Mu.withBox, if_true]
          cases hi : M.imm w.heap.size with
          | none => rfl
          | some cur =>
            obtain ⟨_, ⟨e, fr, h2⟩, _⟩ := r.imm _ cur hi
            have := lt_of_blk h2
            omega
      · rw [if_neg e] at ht
        obtain ⟨h1, h2, h3, h4, h5⟩ := lr.box t g' b' ht
        have e1 : (M.withBox s w.heap.size (nextGen loc s)).nu t = M.nu t := by simp [Mu.withBox, e]
        have e2 : (M.withBox s w.heap.size (nextGen loc s)).ng t = M.ng t := by simp [Mu.withBox, e]
        rw [e1, e2]
        exact ⟨h1, h2, h3, h4, h5.mono E (alloc_old w o h5.lt)⟩
    · intro t ht
      rw [locGet_set] at ht
      by_cases e : t = s
      · simp [e] at ht
      · rw [if_neg e] at ht
        have e2 : (M.withBox s w.heap.size (nextGen loc s)).ng t = M.ng t := by simp [Mu.withBox, e]
        rw [e2]; exact lr.none t ht
    · intro t t' x x' ht ht' e
      rw [locGet_set] at ht ht'
      by_cases e1 : t = s
      · by_cases e2 : t' = s
        · rw [e1, e2]
        · rw [if_neg e2] at ht'
          obtain ⟨g', b'⟩ := x'
          have := (lr.box t' g' b' ht').2.2.2.2.lt
          simp [Mu.withBox, e1, e2] at e
          omega
      · rw [if_neg e1] at ht
        obtain ⟨g1, b1⟩ := x
        have l1 := (lr.box t g1 b1 ht).2.2.2.2.lt
        by_cases e2 : t' = s
        · simp [Mu.withBox, e1, e2] at e
          omega
        · rw [if_neg e2] at ht'
          simp [Mu.withBox, e1, e2] at e
          exact lr.inj t t' _ x' ht ht' e
  · refine ⟨by simp [Mu.withBox], ⟨w.heap.size, 0, none⟩, rfl, ?_⟩
    intro _
    simp [Mu.withBox]
  · exact ⟨by simp, fun k hk _ => alloc_old w o hk, fun b hb _ => ⟨b, hb, rfl⟩, fun _ _ => rfl⟩

/-- a local box that is written -/
theorem loc_write {w0 : World} {lo : Nat} {M : Mu} {h : H} {loc : Loc} {w : World} (r : HRel w0 M h w) (lr : LRel lo M loc w) (hlo : w0.heap.size ≤ lo) {s g : Nat} {b b' : LB} (hs : locGet loc s = some (g, b)) (o : Obj)
    (hb : LBOk M b' (M.nu s) (setBlk w (M.nu s) o)) :
    HRel w0 M h (setBlk w (M.nu s) o) ∧ LRel lo M (locSet loc s g b') (setBlk w (M.nu s) o) := by
  obtain ⟨h1, h2, h3, h4, h5⟩ := lr.box s g b hs
  have himm : ∀ c, M.imm c ≠ none → c ≠ M.nu s := fun c hc e => hc (e ▸ h4)
  refine ⟨?_, ?_⟩
  · exact r.world (Ext.refl _ M) rfl rfl rfl rfl (Below.setBlk r.below (Nat.le_trans hlo h2) o) (fun c hc => setBlk_other (h3 c hc)) (fun c hc => setBlk_other (himm c hc))
  · refine ⟨?_, ?_, ?_⟩
    · intro t g' b'' ht
      rw [locGet_set] at ht
      by_cases e : t = s
      · subst e
        simp at ht
        obtain ⟨rfl, rfl⟩ := ht
        exact ⟨h1, h2, h3, h4, hb⟩
      · rw [if_neg e] at ht
        obtain ⟨k1, k2, k3, k4, k5⟩ := lr.box t g' b'' ht
        refine ⟨k1, k2, k3, k4, k5.mono (Ext.refl _ M) (setBlk_other ?_)⟩
        intro e'
        exact e (lr.inj t s _ _ ht hs e')
    · intro t ht
      rw [locGet_set] at ht
      by_cases e : t = s
      · simp [e] at ht
      · rw [if_neg e] at ht; exact lr.none t ht
    · intro t t' x x' ht ht' e
      rw [locGet_set] at ht ht'
      by_cases e1 : t = s
      · by_cases e2 : t' = s
        · rw [e1, e2]
        · rw [if_neg e2] at ht'
          subst e1
          exact lr.inj t t' _ _ hs ht' e
      · rw [if_neg e1] at ht
        by_cases e2 : t' = s
        · subst e2; exact lr.inj t t' _ _ ht hs e
        · rw [if_neg e2] at ht'; exact lr.inj t t' _ _ ht ht' e
theorem Keeps.write {A M : Mu} {a w : World} (h : Keeps A a M w) {k : Nat} (hk : a.heap.size ≤ k) (o : Obj) : Keeps A a M (setBlk w k o) where
  size := by simpa using h.size
  keep i hi hn := by rw [setBlk_other (by omega)]; exact h.keep i hi hn
  homes := h.homes
  imms := h.imms
theorem Keeps.drew {A M : Mu} {a w : World} (h : Keeps A a M w) : Keeps A a M w.drew := ⟨h.size, h.keep, h.homes, h.imms⟩

/-! ### the heap -/
/-- what a step over the heap keeps -/
structure HStep (w0 : World) (M : Mu) (w : World) (M' : Mu) (h' : H) (w' : World) : Prop where
  ext : Ext true M M'
  ng : M'.ng = M.ng
  nu : M'.nu = M.nu
  rel : HRel w0 M' h' w'
  keeps : Keeps M w M' w'

theorem HRel.drew {w0 : World} {M : Mu} {h : H} {w : World} (r : HRel w0 M h w) : HRel w0 M h w.drew :=
  ⟨r.n, r.below.drew, fun b k hk => let ⟨h1, h3, h4⟩ := r.blk b k hk; ⟨h1, h3, ⟨h4.nobx, h4.shift, h4.row⟩⟩, r.inj, r.imm⟩
theorem LRel.drew {lo : Nat} {M : Mu} {loc : Loc} {w : World} (r : LRel lo M loc w) : LRel lo M loc w.drew := ⟨r.box, r.none, r.inj⟩
theorem HStep.refl {w0 : World} {M : Mu} {h : H} {w : World} (r : HRel w0 M h w) : HStep w0 M w M h w := ⟨Ext.refl _ M, rfl, rfl, r, Keeps.refl M w⟩
theorem HStep.trans {w0 : World} {A B C : Mu} {h k : H} {a b c : World} (x : HStep w0 A a B h b) (y : HStep w0 B b C k c) : HStep w0 A a C k c :=
  ⟨x.ext.trans y.ext, y.ng.trans x.ng, y.nu.trans x.nu, y.rel, x.keeps.trans y.keeps⟩
theorem HStep.drew {w0 : World} {M : Mu} {h : H} {w : World} (r : HRel w0 M h w) : HStep w0 M w M h w.drew := ⟨Ext.refl _ M, rfl, rfl, r.drew, (Keeps.refl M w).drew⟩

def Mu.withBlk (M : Mu) (hm : Home) : Mu :=
  { M with n := M.n + 1, home := fun b => if b = M.n then hm else M.home b, gen := fun b => if b = M.n then 0 else M.gen b }
theorem Mu.withBlk_ext (M : Mu) (hm : Home) : Ext true M (M.withBlk hm) where
  n := by simp [Mu.withBlk]
  gen b hb := by simp [Mu.withBlk, Nat.ne_of_lt hb]
  home b hb _ := by simp [Mu.withBlk, Nat.ne_of_lt hb]
  imm _ _ h := h
  ng _ _ := Nat.le_refl _
  nu _ _ _ := rfl

/-- a new block -/
theorem heap_new {w0 : World} {M : Mu} {h : H} {w : World} (r : HRel w0 M h w) {cells : List AV} (hn : noBxs cells = true) {cur : Array Value} (e : TypeId) (fr : Nat × Nat) (hf : Free cur fr)
    (hl : cells.length ≤ cur.size) (hr : Rvs M cells (cur.toList.take cells.length)) :
    HStep w0 M w (M.withBlk ⟨w.heap.size, 0, cur.size⟩) (h ++ [⟨cells, 0⟩]) (w.alloc (.cells cur e fr)) := by
  have E := M.withBlk_ext ⟨w.heap.size, 0, cur.size⟩
  have hsz := r.size
  refine ⟨E, rfl, rfl, ⟨?_, r.below.alloc hsz _, ?_, ?_, ?_⟩, ?_⟩
  · simp [Mu.withBlk, r.n]
  · intro b k hk
    rw [List.getElem?_append] at hk
    split at hk
    · rename_i hb
      have hbn : b < M.n := by rw [r.n]; exact hb
      obtain ⟨h1, h3, h4⟩ := r.blk b k hk
      have e1 : (M.withBlk ⟨w.heap.size, 0, cur.size⟩).home b = M.home b := by simp [Mu.withBlk, Nat.ne_of_lt hbn]
      have e2 : (M.withBlk ⟨w.heap.size, 0, cur.size⟩).gen b = M.gen b := by simp [Mu.withBlk, Nat.ne_of_lt hbn]
      rw [e1, e2]
      exact ⟨h1, h3, h4.mono E (alloc_old w _ h4.lt)⟩
    · rename_i hb
      have hbe : b = M.n := by
        rw [r.n]
        have := (List.getElem?_eq_some_iff.1 hk).1
        simp at this
        omega
      subst hbe
      rw [r.n] at hk
      simp at hk
      subst hk
      have e1 : (M.withBlk ⟨w.heap.size, 0, cur.size⟩).home M.n = ⟨w.heap.size, 0, cur.size⟩ := by simp [Mu.withBlk]
      have e2 : (M.withBlk ⟨w.heap.size, 0, cur.size⟩).gen M.n = 0 := by simp [Mu.withBlk]
      rw [e1, e2]
      refine ⟨rfl, hsz, hn, Nat.zero_le _, cur, e, fr, heap_alloc_new w _, hf, rfl, by simpa using hl, ?_⟩
      simpa using Rvs.mono E _ _ (.inl rfl) hr
  · intro b b' hb hb' he
    simp only [Mu.withBlk] at hb hb' he
    by_cases e1 : b = M.n
    · by_cases e2 : b' = M.n
      · omega
      · have := r.home_lt (b := b') (by omega)
        simp [e1, e2] at he
        omega
    · have := r.home_lt (b := b) (by omega)
      by_cases e2 : b' = M.n
      · simp [e1, e2] at he
        omega
      · simp [e1, e2] at he
        exact r.inj b b' (by omega) (by omega) he
  · intro c cu hc
    obtain ⟨h1, ⟨e', fr', h2⟩, h3⟩ := r.imm c cu hc
    have hlt := lt_of_blk h2
    refine ⟨h1, ⟨e', fr', (alloc_old w _ hlt).trans h2⟩, ?_⟩
    intro b hb
    simp only [Mu.withBlk] at hb ⊢
    split
    · simp; omega
    · exact h3 b (by omega)
  · refine ⟨by simp, fun k hk _ => alloc_old w _ hk, ?_, fun _ _ => rfl⟩
    intro b hb hl
    simp only [Mu.withBlk] at hb hl
    split at hl
    · simp at hl
    · rename_i hne
      refine ⟨b, by omega, ?_⟩
      simp [Mu.withBlk, hne]

def Mu.withImm (M : Mu) (k : Nat) (cur : Array Value) : Mu := { M with imm := fun c => if c = k then some cur else M.imm c }
/-- a new row that stands still -/
theorem heap_imm {w0 : World} {M : Mu} {h : H} {w : World} (r : HRel w0 M h w) (cur : Array Value) (e : TypeId) (fr : Nat × Nat) :
    HStep w0 M w (M.withImm w.heap.size cur) h (w.alloc (.cells cur e fr)) := by
  have hfresh : M.imm w.heap.size = none := by
    cases hi : M.imm w.heap.size with
    | none => rfl
    | some cur =>
      obtain ⟨_, ⟨e, fr, h2⟩, _⟩ := r.imm _ cur hi
      have := lt_of_blk h2
      omega
  have E : Ext true M (M.withImm w.heap.size cur) := by
    refine ⟨Nat.le_refl _, fun _ _ => Nat.le_refl _, fun _ _ _ => rfl, ?_, fun _ _ => Nat.le_refl _, fun _ _ _ => rfl⟩
    intro c cu hc
    simp only [Mu.withImm]
    split
    · rename_i e; subst e; rw [hfresh] at hc; cases hc
    · exact hc
  have hsz := r.size
  refine ⟨E, rfl, rfl, ⟨r.n, r.below.alloc hsz _, ?_, r.inj, ?_⟩, ?_⟩
  · intro b k hk
    obtain ⟨h1, h3, h4⟩ := r.blk b k hk
    exact ⟨h1, h3, h4.mono E (alloc_old w _ h4.lt)⟩
  · intro c cu hc
    simp only [Mu.withImm] at hc
    split at hc
    · rename_i e1
      subst e1
      cases hc
      refine ⟨hsz, ⟨e, fr, heap_alloc_new w _⟩, ?_⟩
      intro b hb
      have := r.home_lt (b := b) hb
      simp only [Mu.withImm]; omega
    · obtain ⟨h1, ⟨e', fr', h2⟩, h3⟩ := r.imm c cu hc
      exact ⟨h1, ⟨e', fr', (alloc_old w _ (lt_of_blk h2)).trans h2⟩, h3⟩
  · refine ⟨by simp, fun k hk _ => alloc_old w _ hk, fun b hb _ => ⟨b, hb, rfl⟩, ?_⟩
    intro c hc
    simp only [Mu.withImm]
    rw [if_neg (by omega)]

/-- a block that is written in its place; its generation may rise where its home stays -/
def Mu.withGen (M : Mu) (b g : Nat) : Mu := { M with gen := fun c => if c = b then g else M.gen c }
theorem heap_write {w0 : World} {M : Mu} {h : H} {w : World} (r : HRel w0 M h w) {b : Nat} {k : Blk} (hk : h[b]? = some k) {cells : List AV} {g : Nat} (hg : k.gen ≤ g) (hn : noBxs cells = true) (hs : (M.home b).shift ≤ cells.length) {cur : Array Value} (e : TypeId) (fr : Nat × Nat) (hf : Free cur fr)
    (hsz : cur.size = (M.home b).size) (hl : cells.length - (M.home b).shift ≤ cur.size) (hr : Rvs M (cells.drop (M.home b).shift) (cur.toList.take (cells.length - (M.home b).shift))) :
    HStep w0 M w (M.withGen b g) (h.set b ⟨cells, g⟩) (setBlk w (M.home b).blk (.cells cur e fr)) := by
  obtain ⟨k1, k3, k4⟩ := r.blk b k hk
  have hbn : b < M.n := by rw [r.n]; exact (List.getElem?_eq_some_iff.1 hk).1
  have E : Ext true M (M.withGen b g) := by
    refine ⟨Nat.le_refl _, ?_, ?_, fun _ _ h => h, fun _ _ => Nat.le_refl _, fun _ _ _ => rfl⟩
    · intro c hc
      simp only [Mu.withGen]
      split
      · rename_i e; subst e; omega
      · exact Nat.le_refl _
    · intro c hc _; rfl
  refine ⟨E, rfl, rfl, ⟨by simpa [Mu.withGen] using r.n, Below.setBlk r.below k3 _, ?_, r.inj, ?_⟩, ?_⟩
  · intro c k' hc
    rw [List.getElem?_set] at hc
    by_cases e1 : b = c
    · subst e1
      rw [if_pos rfl] at hc
      split at hc
      · cases hc
        have e2 : (M.withGen b g).gen b = g := by simp [Mu.withGen]
        rw [e2]
        exact ⟨rfl, k3, hn, hs, cur, e, fr, setBlk_same k4.lt, hf, hsz, hl, Rvs.mono E _ _ (.inl rfl) hr⟩
      · cases hc
    · rw [if_neg e1] at hc
      obtain ⟨h1, h3, h4⟩ := r.blk c k' hc
      have hcn : c < M.n := by rw [r.n]; exact (List.getElem?_eq_some_iff.1 hc).1
      refine ⟨by simp only [Mu.withGen]; rw [if_neg (fun e => e1 e.symm)]; exact h1, h3, h4.mono E (setBlk_other ?_)⟩
      intro e'
      exact e1 (r.inj b c hbn hcn e'.symm)
  · intro c cu hc
    obtain ⟨h1, ⟨e', fr', h2⟩, h3⟩ := r.imm c cu hc
    exact ⟨h1, ⟨e', fr', (setBlk_other (fun e => h3 b hbn e.symm)).trans h2⟩, h3⟩
  · refine ⟨by simp, ?_, fun c hc _ => ⟨c, hc, rfl⟩, fun _ _ => rfl⟩
    intro i hi hno
    exact setBlk_other (fun e => hno b hbn e.symm)

/-- a block that moves to a new row -/
def Mu.withMove (M : Mu) (b g : Nat) (hm : Home) : Mu := { M with gen := fun c => if c = b then g else M.gen c, home := fun c => if c = b then hm else M.home c }
theorem heap_move {w0 : World} {M : Mu} {h : H} {w : World} (r : HRel w0 M h w) {b : Nat} {k : Blk} (hk : h[b]? = some k) {cells : List AV} {g : Nat} (hg : k.gen < g) (hn : noBxs cells = true) {sh : Nat} (hs : sh ≤ cells.length) {cur : Array Value} (e : TypeId) (fr : Nat × Nat) (hf : Free cur fr)
    (hl : cells.length - sh ≤ cur.size) (hr : Rvs M (cells.drop sh) (cur.toList.take (cells.length - sh))) :
    HStep w0 M w (M.withMove b g ⟨w.heap.size, sh, cur.size⟩) (h.set b ⟨cells, g⟩) (w.alloc (.cells cur e fr)) := by
  obtain ⟨k1, k3, k4⟩ := r.blk b k hk
  have hbn : b < M.n := by rw [r.n]; exact (List.getElem?_eq_some_iff.1 hk).1
  have hsz := r.size
  have E : Ext true M (M.withMove b g ⟨w.heap.size, sh, cur.size⟩) := by
    refine ⟨Nat.le_refl _, ?_, ?_, fun _ _ h => h, fun _ _ => Nat.le_refl _, fun _ _ _ => rfl⟩
    · intro c hc
      simp only [Mu.withMove]
      split
      · rename_i e; subst e; omega
      · exact Nat.le_refl _
    · intro c hc he
      simp only [Mu.withMove] at he ⊢
      split
      · rename_i e; subst e; simp at he; omega
      · rfl
  refine ⟨E, rfl, rfl, ⟨by simpa [Mu.withMove] using r.n, r.below.alloc hsz _, ?_, ?_, ?_⟩, ?_⟩
  · intro c k' hc
    rw [List.getElem?_set] at hc
    by_cases e1 : b = c
    · subst e1
      rw [if_pos rfl] at hc
      split at hc
      · cases hc
        have e1 : (M.withMove b g ⟨w.heap.size, sh, cur.size⟩).home b = ⟨w.heap.size, sh, cur.size⟩ := by simp [Mu.withMove]
        have e2 : (M.withMove b g ⟨w.heap.size, sh, cur.size⟩).gen b = g := by simp [Mu.withMove]
        rw [e1, e2]
        exact ⟨rfl, hsz, hn, hs, cur, e, fr, heap_alloc_new w _, hf, rfl, hl, Rvs.mono E _ _ (.inl rfl) hr⟩
      · cases hc
    · rw [if_neg e1] at hc
      obtain ⟨h1, h3, h4⟩ := r.blk c k' hc
      have hne : ¬ c = b := fun e => e1 e.symm
      simp only [Mu.withMove, if_neg hne]
      exact ⟨h1, h3, h4.mono E (alloc_old w _ h4.lt)⟩
  · intro c c' hc hc' he
    simp only [Mu.withMove] at hc hc' he
    by_cases e1 : c = b
    · by_cases e2 : c' = b
      · rw [e1, e2]
      · have := r.home_lt (b := c') hc'
        simp [e1, e2] at he; omega
    · by_cases e2 : c' = b
      · have := r.home_lt (b := c) hc
        simp [e1, e2] at he; omega
      · simp [e1, e2] at he
        exact r.inj c c' hc hc' he
  · intro c cu hc
    obtain ⟨h1, ⟨e', fr', h2⟩, h3⟩ := r.imm c cu hc
    have hlt := lt_of_blk h2
    refine ⟨h1, ⟨e', fr', (alloc_old w _ hlt).trans h2⟩, ?_⟩
    intro b' hb'
    simp only [Mu.withMove]
    split
    · simp; omega
    · exact h3 b' hb'
  · refine ⟨by simp, fun i hi _ => alloc_old w _ hi, ?_, fun _ _ => rfl⟩
    intro c hc hl
    simp only [Mu.withMove] at hc hl
    split at hl
    · simp at hl
    · rename_i hne
      exact ⟨c, hc, by simp [Mu.withMove, hne]⟩
end Go.Proofs.Ytmglahnoemgieaa.Ax
namespace Go.Proofs.Ytmglahnoemgieaa.Ax
open Go Go.RowKit
set_option linter.unusedSimpArgs false
set_option linter.unusedVariables false

/-- what an operation comes to -/
def Wps (P : Program) (o : Oper) (a : Act) (w : World) (R : Act → World → Prop) (E : List PanicEntry → World → Prop) : Prop :=
  ∀ (next : Act → World → Prop) (Q : Exit → Act → World → Prop), (∀ a' w', R a' w' → next a' w') → (∀ ch w', E ch w' → Q (.panic ch) a w') → o.wp P a w next Q

variable {P : Program} {o : Oper} {a : Act} {w w' : World} {R : Act → World → Prop} {E : List PanicEntry → World → Prop}
theorem wps_value {v : Value} (h : (execOp a.eval o).run P w = .ok (.value v) w') (hR : R (a.put o.dst v) w') : Wps P o a w R E := by
  intro next Q h1 _
  unfold Oper.wp; rw [h]
  exact h1 _ _ hR
theorem wps_skip (h : (execOp a.eval o).run P w = .ok .skip w') (hR : R (a.put o.dst undef) w') : Wps P o a w R E := by
  intro next Q h1 _
  unfold Oper.wp; rw [h]
  exact h1 _ _ hR
theorem wps_panic {v : Value} (h : (execOp a.eval o).run P w = .halt (.panic v) w') (hE : E [{ v, recovered := false }] w') : Wps P o a w R E := by
  intro next Q _ h2
  unfold Oper.wp; rw [h]
  exact h2 _ _ hE
theorem wps_enter {f : FuncId} {args : Array Value} (h : (execOp a.eval o).run P w = .ok (.enter f args) w')
    (hc : Calls P f args w' fun e w'' => match e with | .returned v => R (a.put o.dst v) w'' | .panicked ch => E ch w'' | .outgrown => False) : Wps P o a w R E := by
  intro next Q h1 h2
  unfold Oper.wp; rw [h]
  simp only [Oper.upon]
  refine hc.mono ?_
  intro e w'' he
  cases e with
  | returned v => exact h1 _ _ he
  | panicked ch => exact h2 _ _ he
  | outgrown => exact he.elim
theorem Wps.mono {R' : Act → World → Prop} {E' : List PanicEntry → World → Prop} (h : Wps P o a w R E) (hR : ∀ a' w', R a' w' → R' a' w') (hE : ∀ ch w', E ch w' → E' ch w') : Wps P o a w R' E' :=
  fun next Q h1 h2 => h next Q (fun a' w' r => h1 a' w' (hR a' w' r)) (fun ch w' e => h2 ch w' (hE ch w' e))

/-- the state of a frame that was entered at a world -/
structure SRel (c : Cfg) (A : Mu) (we : World) (M : Mu) (s : S) (a : Act) (w : World) : Prop where
  hr : HRel c.w0 M s.h w
  lr : LRel we.heap.size M s.loc w
  fr : FRel M s.fr a
  df : a.defers = []
  lo : c.w0.heap.size ≤ we.heap.size
  k0 : Keeps A we M w
  e0 : Ext false A M

section
variable {c : Cfg} {A M : Mu} {we : World} {s : S}

theorem SRel.put_defers (h : a.defers = []) (d : Option Tmp) (v : Value) : (a.put d v).defers = [] := by cases d <;> simpa [Act.put] using h
/-- only the frame goes on -/
theorem SRel.done (h : SRel c A we M s a w) {v : AV} {x : Value} (hv : Rv M v x) (d : Option Tmp) : SRel c A we M { s with fr := putT s.fr d v } (a.put d x) w :=
  { h with fr := h.fr.put hv d, df := SRel.put_defers h.df d x }
theorem SRel.wle (h : SRel c A we M s a w) : we.heap.size ≤ w.heap.size := h.k0.size
/-- the heap goes on -/
theorem SRel.heap (h : SRel c A we M s a w) {M' : Mu} {h' : H} {lw : Option Nat} (st : HStep c.w0 M w M' h' w') {v : AV} {x : Value} (hv : Rv M' v x) (d : Option Tmp) :
    SRel c A we M' { s with fr := putT s.fr d v, h := h', lw := lw } (a.put d x) w' where
  hr := st.rel
  lr := h.lr.step st.ext st.ng st.nu st.keeps
  fr := FRel.put (Rvs.mono st.ext _ _ (.inl rfl) h.fr) hv d
  df := SRel.put_defers h.df d x
  lo := h.lo
  k0 := h.k0.trans st.keeps
  e0 := h.e0.trans st.ext.weak
theorem SRel.box {loc : Loc} (h : SRel c A we M s a w) {M' : Mu} (E : Ext true M M') (hr : HRel c.w0 M' s.h w') (lr : LRel we.heap.size M' loc w') (k : Keeps A we M' w') {v : AV} {x : Value} (hv : Rv M' v x) (d : Option Tmp) :
    SRel c A we M' { s with fr := putT s.fr d v, loc := loc } (a.put d x) w' where
  hr := hr
  lr := lr
  fr := FRel.put (Rvs.mono E _ _ (.inl rfl) h.fr) hv d
  df := SRel.put_defers h.df d x
  lo := h.lo
  k0 := k
  e0 := h.e0.trans E.weak

/-- what an operation must come to -/
abbrev To (c : Cfg) (A : Mu) (we : World) (o : Oper) (a : Act) (w : World) (s' : S) : Prop :=
  Wps c.P o a w (fun a' w' => ∃ M', SRel c A we M' s' a' w') fun _ _ => False

theorem to_done (h : SRel c A we M s a w) {v : AV} {x : Value} (hrun : (execOp a.eval o).run c.P w = .ok (.value x) w) (hv : Rv M v x) :
    To c A we o a w { s with fr := putT s.fr o.dst v } := wps_value hrun ⟨M, h.done hv o.dst⟩
theorem to_heap (h : SRel c A we M s a w) {M' : Mu} {h' : H} {lw : Option Nat} {v : AV} {x : Value} (hrun : (execOp a.eval o).run c.P w = .ok (.value x) w') (st : HStep c.w0 M w M' h' w') (hv : Rv M' v x) :
    To c A we o a w { s with fr := putT s.fr o.dst v, h := h', lw := lw } := wps_value hrun ⟨M', h.heap st hv o.dst⟩
theorem to_heap_skip (h : SRel c A we M s a w) {M' : Mu} {h' : H} {lw : Option Nat} (hrun : (execOp a.eval o).run c.P w = .ok .skip w') (st : HStep c.w0 M w M' h' w') :
    To c A we o a w { s with fr := putT s.fr o.dst undefA, h := h', lw := lw } := wps_skip hrun ⟨M', h.heap st (v := undefA) (x := undef) rfl o.dst⟩

/-! ### by the model itself -/
theorem all_toVal {fr : List AV} (h : FRel M fr a) : ∀ {l : List Operand}, (l.all fun x => (toVal (ev fr x)).isSome) = true → ∀ x ∈ l, a.eval x = (toVal (ev fr x)).getD undef := by
  intro l hl x hx
  have := List.all_eq_true.1 hl x hx
  obtain ⟨v, hv⟩ := Option.isSome_iff_exists.1 this
  rw [hv]
  exact toVal_rel _ _ _ hv (h.ev x)

theorem execOp_congr {ρ ρ' : Operand → Value} (h : ∀ x ∈ o.op.operands.toList, ρ x = ρ' x) (hs : ∀ l, o.op ≠ .select l true) (hs' : ∀ l, o.op ≠ .select l false) : execOp ρ o = execOp ρ' o := by
  have hmap : ∀ l : Array Operand, (∀ x ∈ l.toList, ρ x = ρ' x) → l.map ρ = l.map ρ' := by
    intro l hl
    apply Array.toList_inj.1
    simpa using List.map_congr_left hl
  have hopt : ∀ l : Option Operand, (∀ x ∈ l.toArray.toList, ρ x = ρ' x) → l.map ρ = l.map ρ' := by
    intro l hl
    cases l with
    | none => rfl
    | some x => simp at hl; simp [hl]
  have hpart : ∀ l : Array (Nat × Operand), (∀ x ∈ (l.toList.map (·.2)), ρ x = ρ' x) → (l.map fun (i, x) => (i, ρ x)) = l.map fun (i, x) => (i, ρ' x) := by
    intro l hl
    apply Array.toList_inj.1
    simp only [Array.toList_map]
    apply List.map_congr_left
    rintro ⟨i, x⟩ hx
    simp only [Prod.mk.injEq, true_and]
    exact hl x (List.mem_map.2 ⟨(i, x), hx, rfl⟩)
  have hcall : ∀ k : Call, (∀ x ∈ k.operands.toList, ρ x = ρ' x) → ∀ t, resolve ρ k t = resolve ρ' k t := by
    intro k hk t
    obtain ⟨callee, args, _⟩ := k
    unfold resolve
    cases callee with
    | value f =>
      simp [Call.operands] at hk
      simp only [hk.1, hmap args (by simpa using hk.2)]
    | invoke r n =>
      simp [Call.operands] at hk
      simp only [hk.1, hmap args (by simpa using hk.2)]
    | builtin b =>
      simp [Call.operands] at hk
      simp only [hmap args (by simpa using hk)]
  obtain ⟨dst, op, type, pos, after, guard⟩ := o
  cases op
  case select l b => cases b <;> simp_all
  all_goals simp only [Op.operands] at h
  all_goals simp only [execOp]
  case build => rw [hpart _ (by simpa using h)]
  case buildSlice => rw [hpart _ (by simpa using h)]
  case makeFunc =>
    simp at h
    rw [hmap _ (by simpa using fun x hx => h x (.inl hx)), hmap _ (by simpa using fun x hx => h x (.inr hx))]
  case makeMap => rw [hopt _ (by simpa using h)]
  case slice =>
    simp at h
    rw [h.1, hopt _ (by simpa using fun x hx => h.2 x (.inl hx)), hopt _ (by simpa using fun x hx => h.2 x (.inr (.inl hx))), hopt _ (by simpa using fun x hx => h.2 x (.inr (.inr hx)))]
  case call => rw [hcall _ h]
  case go => rw [hcall _ h]
  case defer => rw [hcall _ h]
  all_goals simp_all

theorem sound_plain (h : SRel c A we M s a w) {r : Req} (hp : plainOp c.P s.fr o = some r) (hs : ∀ l b, o.op ≠ .select l b) : ∃ v, r = .done v ∧ To c A we o a w { s with fr := putT s.fr o.dst v } := by
  unfold plainOp at hp
  split at hp
  · rename_i hall
    split at hp
    · rename_i v hrun
      cases hp
      refine ⟨_, rfl, to_done h (x := v) ?_ (norm_rel v)⟩
      have := semNow_run c.P _ _ w hrun
      rw [← this]
      congr 1
      exact execOp_congr (fun x hx => all_toVal h.fr hall x hx) (fun l => hs l true) (fun l => hs l false)
    · cases hp
  · cases hp
end
end Go.Proofs.Ytmglahnoemgieaa.Ax
namespace Go.Proofs.Ytmglahnoemgieaa.Ax
open Go Go.RowKit
set_option linter.unusedSimpArgs false
set_option linter.unusedVariables false
variable {c : Cfg} {A M : Mu} {we : World} {s : S} {o : Oper} {a : Act} {w w' : World}

theorem run_sizeT {P : Program} {t : TypeId} {n : Nat} (h : sizeT P t = some n) (w : World) : (sizeOf t).run P w = .ok n w := by
  unfold sizeT at h
  simp only [Option.map_eq_some_iff] at h
  obtain ⟨i, hi, rfl⟩ := h
  unfold sizeOf typeInfo
  simp [hi]
theorem run_zeroT {P : Program} {t : TypeId} {z : Value} (h : zeroT P t = some z) (w : World) : (zeroValue t).run P w = .ok z w := by
  unfold zeroT at h
  simp only [Option.bind_eq_some_iff] at h
  obtain ⟨i, hi, hz⟩ := h
  unfold zeroValue typeInfo
  simp [hi, hz]
theorem run_und {P : Program} {t : TypeId} {d : TypeDesc} (h : P.underlying t = some d) (w : World) : (underlying t).run P w = .ok d w := by
  unfold underlying
  simp [h]

/-- a request for a new variable -/
theorem sound_new (h : SRel c A we M s a w) {f : FuncId} {cells : List AV} {cur : Array Value} {e : TypeId} {r : Req} (hr : newReq c f o.dst cells = some r) (hc : Rvs M cells cur.toList)
    (hrun : (execOp a.eval o).run c.P w = .ok (.value (.pointer (some ⟨w.heap.size, 0, none⟩))) (w.alloc (.cells cur e))) :
    (∃ b, r = .box b ∧ ∃ v loc, doBox s.loc b = some (v, loc) ∧ To c A we o a w { s with fr := putT s.fr o.dst v, loc := loc }) ∨
    (∃ k, r = .heap k ∧ ∀ call, ∃ v h' lw, doHeap c call s.h k = some (.val v h' lw) ∧ To c A we o a w { s with fr := putT s.fr o.dst v, h := h', lw := lwMin s.lw lw }) := by
  unfold newReq at hr
  split at hr
  · rename_i d hd
    split at hr
    · split at hr
      · rename_i hn
        cases hr
        refine .inr ⟨_, rfl, fun call => ⟨_, _, _, rfl, ?_⟩⟩
        have hl := hc.length
        have st := heap_new h.hr hn (cur := cur) e (0, 0) (.inl rfl) (by rw [hl]; simp) (by rw [hl, List.take_of_length_le (Nat.le_refl _)]; exact hc)
        refine to_heap h hrun st ?_
        rw [← h.hr.n]
        refine ⟨by simp [Mu.withBlk], by simp [Mu.withBlk], _, rfl, fun _ => ?_⟩
        simp [Mu.withBlk]
      · cases hr
    · cases hr
      refine .inl ⟨_, rfl, _, _, rfl, ?_⟩
      obtain ⟨M', E, h1, h2, h3, h4⟩ := loc_new h.hr h.lr h.wle d (.cells cells) (.cells cur e) (fun M' E => ⟨cur, e, heap_alloc_new w _, Rvs.mono E _ _ (.inl rfl) hc⟩)
      exact wps_value hrun ⟨M', h.box E h1 h2 (h.k0.trans h4) h3 o.dst⟩
  · cases hr

theorem run_alloc {P : Program} {e : TypeId} {z : Value} (h : zeroT P e = some z) (w : World) :
    (Instr.alloc e true (.tuple #[])).run P w = .ok (.pointer (some ⟨w.heap.size, 0, none⟩)) (w.alloc (.cells z.cells e)) := by
  unfold Instr.alloc
  simp [run_zeroT h, newVar, newRow]
theorem run_box {P : Program} {e : TypeId} {z : Value} (w : World) :
    (Instr.box e z).run P w = .ok (.pointer (some ⟨w.heap.size, 0, none⟩)) (w.alloc (.cells z.cells e)) := by
  unfold Instr.box
  simp [newVar, newRow]

/-- a local box that is read -/
theorem box_read (h : SRel c A we M s a w) {t : TypeId} {n : Nat} {agg : Bool} (ht : shapeT c.P t = some (n, agg)) {b g off : Nat} {v : AV} {loc : Loc} (hd : doBox s.loc (.load b g off n agg) = some (v, loc)) {x : Value} (hx : Rv M (.bx b g off) x) :
    loc = s.loc ∧ ∃ ad y, x = .pointer (some ad) ∧ (loadVar t ad).run c.P w = .ok y w ∧ Rv M v y := by
  simp only [doBox] at hd
  split at hd
  · rename_i g' l hg
    split at hd
    · rename_i hgg
      subst hgg
      simp only [Option.map_eq_some_iff] at hd
      obtain ⟨v', hv, he⟩ := hd
      cases he
      refine ⟨rfl, ?_⟩
      obtain ⟨k1, k2, k3, k4, cur, e, k5, k6⟩ := h.lr.box b _ _ hg
      obtain ⟨_, ad, rfl, had⟩ := hx
      have had := had k1
      subst had
      obtain ⟨t1, t2, t3⟩ := takeA_rel k6 hv
      obtain ⟨r1, r2⟩ := run_load_blk (P := c.P) k5 ht (off := off) (by simpa using t1)
      cases agg with
      | true => exact ⟨_, _, rfl, r1 rfl, t2 rfl⟩
      | false =>
        obtain ⟨y, hy, hvy⟩ := t3 rfl
        exact ⟨_, y, rfl, (r2 rfl).2 y hy, hvy⟩
    · cases hd
  · cases hd
/-- the heap that is read -/
theorem heap_read (h : SRel c A we M s a w) {t : TypeId} {n : Nat} {agg : Bool} (ht : shapeT c.P t = some (n, agg)) {call : CallF} {b g off : Nat} {v : AV} {h' : H} {lw : Option Nat} (hd : doHeap c call s.h (.load b g off n agg) = some (.val v h' lw)) {x : Value} (hx : Rv M (.ptr b g off) x) :
    h' = s.h ∧ lw = none ∧ ∃ ad y, x = .pointer (some ad) ∧ (loadVar t ad).run c.P w = .ok y w ∧ Rv M v y := by
  simp only [doHeap] at hd
  split at hd
  · rename_i k hk
    split at hd
    · rename_i hgg
      subst hgg
      simp only [Option.map_eq_some_iff] at hd
      obtain ⟨v', hv, he⟩ := hd
      cases he
      refine ⟨rfl, rfl, ?_⟩
      obtain ⟨k1, k3, k4⟩ := h.hr.blk b k hk
      obtain ⟨cur, e, fr, k5, k6, k7, k8, k9⟩ := k4.row
      obtain ⟨_, _, ad, rfl, had⟩ := hx
      obtain ⟨hs, had⟩ := had k1
      subst had
      have hv' : takeA (k.cells.drop (M.home b).shift) (off - (M.home b).shift) n agg = some v := by
        unfold takeA at hv ⊢
        split at hv
        · rename_i hle
          rw [if_pos (by simp; omega)]
          rw [List.drop_drop, show (M.home b).shift + (off - (M.home b).shift) = off from by omega, List.getElem?_drop, show (M.home b).shift + (off - (M.home b).shift) = off from by omega]
          exact hv
        · cases hv
      obtain ⟨t1, t2, t3⟩ := takeA_rel k9 hv'
      have hle : off - (M.home b).shift + n ≤ k.cells.length - (M.home b).shift := by
        have := t1; simp at this; omega
      obtain ⟨r1, r2⟩ := run_load_blk (P := c.P) k5 ht (off := off - (M.home b).shift) (by omega)
      cases agg with
      | true =>
        refine ⟨_, _, rfl, r1 rfl, ?_⟩
        have := t2 rfl
        rwa [List.drop_take, List.take_take, Nat.min_eq_left (by omega)] at this
      | false =>
        obtain ⟨y, hy, hvy⟩ := t3 rfl
        refine ⟨_, y, rfl, (r2 rfl).2 y ?_, hvy⟩
        rw [List.getElem?_take] at hy
        split at hy
        · exact hy
        · cases hy
    · cases hd
  · cases hd

theorem shapeT_false {P : Program} {t : TypeId} {n : Nat} (h : shapeT P t = some (n, false)) : n = 1 := by
  unfold shapeT at h
  split at h
  · simp at h
  · simp at h; exact h.symm
  · cases h
theorem isAgg_of_shape {P : Program} {t : TypeId} {n : Nat} {agg : Bool} (h : shapeT P t = some (n, agg)) (w : World) : (isAgg t).run P w = .ok agg w ∧ (agg = true → sizeT P t = some n) := by
  unfold shapeT at h
  cases hA : isAggT P t with
  | none => rw [hA] at h; cases h
  | some b =>
    have hr : (isAgg t).run P w = .ok b w := by
      unfold isAggT at hA
      cases hu : P.underlying t with
      | none => rw [hu] at hA; cases hA
      | some d =>
        rw [hu] at hA
        unfold isAgg
        simp only [Sem.run_bind, run_und hu, Result.andThen_ok]
        cases d <;> simp at hA <;> subst hA <;> rfl
    rw [hA] at h
    cases b with
    | true =>
      simp only [Option.map_eq_some_iff] at h
      obtain ⟨m, hm, he⟩ := h
      cases he
      exact ⟨hr, fun _ => hm⟩
    | false => simp at h; obtain ⟨_, rfl⟩ := h; exact ⟨hr, fun h => by cases h⟩

/-- the cells of foreign memory -/
theorem foreign_rel (h : Below c.w0.heap.size c.w0 w) {ad : Addr} : ∀ (n i : Nat) (l : List AV), foreignA c.w0 ad i n = some l → ∃ xs : List Value, l = xs.map .val ∧ xs.length = n ∧ ∀ j v, xs[j]? = some v → w.cell? (ad.add (i + j)) = some v
  | 0, i, l, e => by simp [foreignA] at e; subst e; exact ⟨[], rfl, rfl, by simp⟩
  | n + 1, i, l, e => by
    simp only [foreignA] at e
    split at e
    · rename_i v hv
      simp only [Option.map_eq_some_iff] at e
      obtain ⟨l', hl, rfl⟩ := e
      obtain ⟨xs, rfl, h1, h2⟩ := foreign_rel h n (i + 1) l' hl
      refine ⟨v :: xs, rfl, by simp [h1], ?_⟩
      intro j u hu
      cases j with
      | zero =>
        simp at hu; subst hu
        rw [Nat.add_zero, h.cell (World.block_lt_of_cell? _ _ hv)]; exact hv
      | succ j =>
        simp at hu
        have := h2 j u hu
        rwa [show i + 1 + j = i + (j + 1) from by omega] at this
    · cases e
theorem foreign_load (h : SRel c A we M s a w) {t : TypeId} {n : Nat} {agg : Bool} (ht : shapeT c.P t = some (n, agg)) {ad : Addr} {l : List AV} {v : AV} (hl : foreignA c.w0 ad 0 n = some l) (hv : takeA l 0 n agg = some v) :
    ∃ y, (loadVar t ad).run c.P w = .ok y w ∧ Rv M v y := by
  obtain ⟨xs, rfl, h1, h2⟩ := foreign_rel h.hr.below n 0 l hl
  obtain ⟨i1, i2⟩ := isAgg_of_shape ht w
  obtain ⟨t1, t2, t3⟩ := takeA_rel (Rvs.vals (M := M) xs) hv
  unfold loadVar
  simp only [Sem.run_bind, i1, Result.andThen_ok]
  cases agg with
  | true =>
    simp only [if_true, Sem.run_bind, run_sizeT (i2 rfl), Result.andThen_ok]
    have := run_loadCells_list (P := c.P) (w := w) ad xs (fun j v hv => by simpa using h2 j v hv)
    rw [h1] at this
    rw [this]
    refine ⟨_, rfl, ?_⟩
    have := t2 rfl
    rwa [List.drop_zero, List.take_of_length_le (by omega)] at this
  | false =>
    obtain ⟨y, hy, hvy⟩ := t3 rfl
    have hc : w.cell? ad = some y := by have := h2 0 y hy; simpa [Addr.add] using this
    simp only [Bool.false_eq_true, if_false, run_load, hc]
    exact ⟨y, rfl, hvy⟩
theorem lp_load (h : SRel c A we M s a w) {t : TypeId} {n : Nat} {agg : Bool} (ht : shapeT c.P t = some (n, agg)) {cs : List AV} {v : AV} (hv : takeA cs 0 n agg = some v) {x : Value} (hx : Rv M (.lp cs) x) :
    ∃ ad y, x = .pointer (some ad) ∧ (loadVar t ad).run c.P w = .ok y w ∧ Rv M v y := by
  obtain ⟨k, off, cur, rfl, hi, hr⟩ := hx
  obtain ⟨_, ⟨e, fr, hk⟩, _⟩ := h.hr.imm k cur hi
  obtain ⟨t1, t2, t3⟩ := takeA_rel hr hv
  have hle : off + n ≤ cur.size ∨ n = 0 := by simp at t1; omega
  rcases hle with hle | hle
  · obtain ⟨r1, r2⟩ := run_load_blk (P := c.P) hk ht (off := off) hle
    cases agg with
    | true =>
      refine ⟨_, _, rfl, r1 rfl, ?_⟩
      have := t2 rfl
      have hn : n ≤ cs.length := by simp at t1; omega
      rwa [List.drop_zero, List.take_take, Nat.min_eq_left hn] at this
    | false =>
      obtain ⟨y, hy, hvy⟩ := t3 rfl
      refine ⟨_, y, rfl, (r2 rfl).2 y ?_, hvy⟩
      rw [List.getElem?_take] at hy
      split at hy
      · simpa using hy
      · cases hy
  · subst hle
    cases agg with
    | false => exact absurd (shapeT_false ht) (by decide)
    | true =>
      obtain ⟨i1, i2⟩ := isAgg_of_shape ht w
      refine ⟨_, .agg #[], rfl, ?_, ?_⟩
      · unfold loadVar
        simp only [Sem.run_bind, i1, Result.andThen_ok, if_true, run_sizeT (i2 rfl)]
        rfl
      · simpa using t2 rfl

theorem run_loadAt {P : Program} {t : TypeId} {ad : Addr} {y : Value} (h : (loadVar t ad).run P w = .ok y w) : (Instr.loadAt t (.pointer (some ad))).run P w = .ok y w := by
  unfold Instr.loadAt Instr.sureAddr
  simpa using h
theorem exec_load {t : TypeId} {x : Operand} (ho : o.op = .load t x) {ad : Addr} {y : Value} (hx : a.eval x = .pointer (some ad)) (h : (loadVar t ad).run c.P w = .ok y w) : (execOp a.eval o).run c.P w = .ok (.value y) w := by
  simp only [execOp, ho, hx, Sem.run_bind, run_loadAt h, Result.andThen_ok, Sem.run_pure]

/-! ### stores -/
theorem size_ok {P : Program} {t : TypeId} {x : Value} {l : List AV} (hs : sizeT P t = some l.length) (hr : Rvs M l x.cells.toList) (ad : Addr) (w : World) :
    (storeVar t ad x).run P w = (storeCells ad x.cells.toList).run P w := by
  have := hr.length
  have h2 : x.cells.size = l.length := by simpa using this.symm
  unfold storeVar
  simp [run_sizeT hs, h2]
theorem box_store (h : SRel c A we M s a w) {t : TypeId} {l : List AV} {x : Value} (hs : sizeT c.P t = some l.length) (h1 : l.all oneA = true) (hr : Rvs M l x.cells.toList) {b g off : Nat} {v : AV} {loc : Loc}
    (hd : doBox s.loc (.store b g off l) = some (v, loc)) {p : Value} (hp : Rv M (.bx b g off) p) :
    v = undefA ∧ ∃ ad w', p = .pointer (some ad) ∧ (storeVar t ad x).run c.P w = .ok () w' ∧ HRel c.w0 M s.h w' ∧ LRel we.heap.size M loc w' ∧ Keeps A we M w' := by
  simp only [doBox] at hd
  split at hd
  · rename_i g' l0 hg
    split at hd
    · rename_i hgg
      subst hgg
      simp only [Option.map_eq_some_iff] at hd
      obtain ⟨l1, hv, he⟩ := hd
      cases he
      refine ⟨rfl, ?_⟩
      obtain ⟨k1, k2, k3, k4, cur, e, k5, k6⟩ := h.lr.box b _ _ hg
      obtain ⟨_, ad, rfl, had⟩ := hp
      have had := had k1
      subst had
      obtain ⟨o1, o2⟩ := Rvs.over k6 hr hv
      have hlx : x.cells.toList.length = l.length := hr.length.symm
      have hl0 := k6.length
      have hrun := run_storeCells c.P (M.nu b) e (0, 0) off x.cells.toList 0 cur w k5 (.inl rfl) (by simp only [Array.length_toList] at *; omega) (ones_rel hr h1)
      refine ⟨_, _, rfl, (size_ok hs hr _ _).trans hrun, ?_⟩
      obtain ⟨m1, m2⟩ := loc_write h.hr h.lr h.lo hg (b' := .cells l1) (.cells (cur.toList.take (off + 0) ++ x.cells.toList ++ cur.toList.drop (off + 0 + x.cells.toList.length)).toArray e (0, 0))
        ⟨_, e, setBlk_same (lt_of_blk k5), by simpa using o2⟩
      exact ⟨m1, m2, h.k0.write k2 _⟩
    · cases hd
  · cases hd
theorem heap_store (h : SRel c A we M s a w) {t : TypeId} {l : List AV} {x : Value} (hs : sizeT c.P t = some l.length) (h1 : l.all oneA = true) (hn : noBxs l = true) (hr : Rvs M l x.cells.toList) {call : CallF} {b g off : Nat} {v : AV} {h' : H} {lw : Option Nat}
    (hd : doHeap c call s.h (.store b g off l) = some (.val v h' lw)) {p : Value} (hp : Rv M (.ptr b g off) p) :
    v = undefA ∧ ∃ ad w' M', p = .pointer (some ad) ∧ (storeVar t ad x).run c.P w = .ok () w' ∧ HStep c.w0 M w M' h' w' := by
  simp only [doHeap] at hd
  split at hd
  · rename_i k hk
    split at hd
    · rename_i hgg
      subst hgg
      simp only [Option.map_eq_some_iff] at hd
      obtain ⟨l1, hv, he⟩ := hd
      cases he
      refine ⟨rfl, ?_⟩
      obtain ⟨k1, k3, k4⟩ := h.hr.blk b k hk
      obtain ⟨cur, e, fr, k5, k6, k7, k8, k9⟩ := k4.row
      obtain ⟨_, _, ad, rfl, had⟩ := hp
      obtain ⟨hsh, had⟩ := had k1
      subst had
      have hlx : x.cells.toList.length = l.length := hr.length.symm
      have hov : off + l.length ≤ k.cells.length ∧ l1 = k.cells.take off ++ l ++ k.cells.drop (off + l.length) := by
        unfold overA at hv
        split at hv
        · rename_i hle; cases hv; exact ⟨hle, rfl⟩
        · cases hv
      obtain ⟨hle, rfl⟩ := hov
      have hlen : (k.cells.take off ++ l ++ k.cells.drop (off + l.length)).length = k.cells.length := by simp; omega
      have hrun := run_storeCells c.P (M.home b).blk e fr (off - (M.home b).shift) x.cells.toList 0 cur w k5 k6 (by simp only [Array.length_toList] at *; omega) (ones_rel hr h1)
      have hshift := k4.shift
      have st := heap_write h.hr hk (cells := k.cells.take off ++ l ++ k.cells.drop (off + l.length)) (g := k.gen) (Nat.le_refl _)
        (by simp only [noBxs_append, Bool.and_eq_true]; exact ⟨⟨noBxs_take _ k4.nobx, hn⟩, noBxs_drop _ k4.nobx⟩) (by rw [hlen]; exact hshift)
        (cur := (cur.toList.take (off - (M.home b).shift + 0) ++ x.cells.toList ++ cur.toList.drop (off - (M.home b).shift + 0 + x.cells.toList.length)).toArray) e fr
        (by
          rcases k6 with hf | hf
          · exact .inl hf
          · refine .inr ?_
            simp only [List.size_toArray, List.length_append, List.length_take, List.length_drop, Array.length_toList] at *
            omega)
        (by simp only [List.size_toArray, List.length_append, List.length_take, List.length_drop, Array.length_toList] at *; omega)
        (by simp only [List.size_toArray, List.length_append, List.length_take, List.length_drop, Array.length_toList] at *; omega)
        (by
          rw [hlen]
          have e1 : (k.cells.take off ++ l ++ k.cells.drop (off + l.length)).drop (M.home b).shift
              = (k.cells.drop (M.home b).shift).take (off - (M.home b).shift) ++ l ++ (k.cells.drop (M.home b).shift).drop (off - (M.home b).shift + l.length) := by
            rw [List.append_assoc, List.drop_append_of_le_length (by simp; omega), List.drop_take, List.drop_drop, ← List.append_assoc]
            congr 2; omega
          rw [e1]
          have e2 : (cur.toList.take (off - (M.home b).shift + 0) ++ x.cells.toList ++ cur.toList.drop (off - (M.home b).shift + 0 + x.cells.toList.length)).take (k.cells.length - (M.home b).shift)
              = (cur.toList.take (k.cells.length - (M.home b).shift)).take (off - (M.home b).shift) ++ x.cells.toList ++ (cur.toList.take (k.cells.length - (M.home b).shift)).drop (off - (M.home b).shift + l.length) := by
            simp only [Nat.add_zero]
            rw [List.take_append, List.take_append, List.take_take, List.take_take, List.drop_take]
            congr 1
            · congr 1
              · congr 1; simp only [Array.length_toList] at *; omega
              · rw [List.take_of_length_le]; simp only [List.length_take, Array.length_toList] at *; omega
            · rw [hlx]; congr 1; simp only [List.length_append, List.length_take, Array.length_toList] at *; omega
          simp only
          rw [e2]
          exact ((k9.take _).append hr).append (k9.drop _))
      exact ⟨_, _, _, rfl, (size_ok hs hr _ _).trans hrun, st⟩
    · cases hd
  · cases hd
theorem exec_store {t : TypeId} {x y : Operand} (ho : o.op = .store t x y) {ad : Addr} (hx : a.eval x = .pointer (some ad)) (h : (storeVar t ad (a.eval y)).run c.P w = .ok () w') : (execOp a.eval o).run c.P w = .ok .skip w' := by
  simp only [execOp, ho, hx, Sem.run_bind, Instr.storeAt, Instr.sureAddr, Sem.run_pure, Result.andThen_ok, h]

/-! ### addresses -/
theorem run_fieldAt {P : Program} {t : TypeId} {i k : Nat} (h : fieldOff P t i = some k) (ad : Addr) (w : World) : (Instr.fieldAt t (.pointer (some ad)) i).run P w = .ok (.pointer (some (ad.add k))) w := by
  unfold fieldOff at h
  split at h
  · rename_i fields hu
    split at h
    · rename_i fd hf
      split at h
      · rename_i m hm
        cases h
        unfold Instr.fieldAt
        simp only [Sem.run_bind, run_und hu, Result.andThen_ok, hf, Instr.sureAddr, Sem.run_pure, fieldPlace, run_sizeT hm]
        simp
      · cases h
    · cases h
  · cases h
theorem exec_field {t : TypeId} {x : Operand} {i k : Nat} (ho : o.op = .fieldAddr t x i) {ad : Addr} (hx : a.eval x = .pointer (some ad)) (h : fieldOff c.P t i = some k) : (execOp a.eval o).run c.P w = .ok (.value (.pointer (some (ad.add k)))) w := by
  simp only [execOp, ho, hx, Sem.run_bind, run_fieldAt h, Result.andThen_ok, Sem.run_pure]
theorem bx_add {b g off : Nat} {x : Value} (h : Rv M (.bx b g off) x) (k : Nat) : ∃ ad, x = .pointer (some ad) ∧ Rv M (.bx b g (off + k)) (.pointer (some (ad.add k))) := by
  obtain ⟨h1, ad, rfl, h2⟩ := h
  refine ⟨ad, rfl, h1, _, rfl, fun e => ?_⟩
  rw [h2 e, add_off]
theorem ptr_add {b g off : Nat} {x : Value} (h : Rv M (.ptr b g off) x) (k : Nat) : ∃ ad, x = .pointer (some ad) ∧ Rv M (.ptr b g (off + k)) (.pointer (some (ad.add k))) := by
  obtain ⟨h0, h1, ad, rfl, h2⟩ := h
  refine ⟨ad, rfl, h0, h1, _, rfl, fun e => ?_⟩
  obtain ⟨h3, h4⟩ := h2 e
  refine ⟨by omega, ?_⟩
  rw [h4, add_off]
  congr 1; omega
theorem lp_add {cs : List AV} {x : Value} (h : Rv M (.lp cs) x) (k : Nat) : ∃ ad, x = .pointer (some ad) ∧ Rv M (.lp (cs.drop k)) (.pointer (some (ad.add k))) := by
  obtain ⟨b, off, cur, rfl, h1, h2⟩ := h
  refine ⟨_, rfl, b, off + k, cur, by rw [add_off], h1, ?_⟩
  have := h2.drop k
  rw [List.drop_take, List.drop_drop] at this
  simpa using this
end Go.Proofs.Ytmglahnoemgieaa.Ax
namespace Go.Proofs.Ytmglahnoemgieaa.Ax
open Go Go.RowKit
set_option linter.unusedSimpArgs false
set_option linter.unusedVariables false
variable {c : Cfg} {A M : Mu} {we : World} {s : S} {o : Oper} {a : Act} {w w' : World}

theorem intOf_rel {v : AV} {n : Int} (h : intOfA v = some n) {x : Value} (hx : Rv M v x) : ∃ k, x = .int k n := by
  unfold intOfA at h
  split at h
  · cases h; exact ⟨_, hx⟩
  · cases h
theorem elemSize_rel {P : Program} {t e : TypeId} {es : Nat} (h : elemSize P t = some (e, es)) : P.underlying t = some (.slice e) ∧ sizeT P e = some es := by
  unfold elemSize at h
  split at h
  · rename_i e' hu
    simp only [Option.map_eq_some_iff] at h
    obtain ⟨n, hn, he⟩ := h
    cases he
    exact ⟨hu, hn⟩
  · cases h

/-! ### elements -/
theorem run_indexAt {P : Program} {t e : TypeId} {es : Nat} (h : elemSize P t = some (e, es)) (ad : Addr) (len cap : Nat) (k : IntKind) (n : Int) (h0 : 0 ≤ n) (h1 : n < len) (w : World) :
    (Instr.indexAt t (.slice (some ad) len cap) (.int k n)).run P w = .ok (.pointer (some (ad.add (n.toNat * es)))) w := by
  obtain ⟨h2, h3⟩ := elemSize_rel h
  unfold Instr.indexAt
  simp only [asIntOf, Sem.run_bind, Sem.run_pure, Result.andThen_ok, run_und h2]
  simp [h0, h1, run_sizeT h3]
theorem exec_index {t : TypeId} {x i : Operand} (ho : o.op = .indexAddr t x i) {e : TypeId} {es : Nat} (h : elemSize c.P t = some (e, es)) {ad : Addr} {len cap : Nat} {k : IntKind} {n : Int} (h0 : 0 ≤ n) (h1 : n < len)
    (hx : a.eval x = .slice (some ad) len cap) (hi : a.eval i = .int k n) : (execOp a.eval o).run c.P w = .ok (.value (.pointer (some (ad.add (n.toNat * es))))) w := by
  simp only [execOp, ho, hx, hi, Sem.run_bind, run_indexAt h ad len cap k n h0 h1, Result.andThen_ok, Sem.run_pure]
theorem arrSize_rel {P : Program} {t : TypeId} {len es : Nat} (h : arrSize P t = some (len, es)) : ∃ e, P.underlying t = some (.array len e) ∧ sizeT P e = some es := by
  unfold arrSize at h
  split at h
  · rename_i n e' hu
    simp only [Option.map_eq_some_iff] at h
    obtain ⟨m, hm, he⟩ := h
    cases he
    exact ⟨_, hu, hm⟩
  · cases h
theorem run_indexArr {P : Program} {t : TypeId} {len es : Nat} (h : arrSize P t = some (len, es)) (ad : Addr) (k : IntKind) (n : Int) (h0 : 0 ≤ n) (h1 : n < len) (w : World) :
    (Instr.indexAt t (.pointer (some ad)) (.int k n)).run P w = .ok (.pointer (some (ad.add (n.toNat * es)))) w := by
  obtain ⟨e, h2, h3⟩ := arrSize_rel h
  unfold Instr.indexAt
  simp only [asIntOf, Sem.run_bind, Sem.run_pure, Result.andThen_ok, run_und h2, Instr.sureAddr]
  simp [h0, h1, run_sizeT h3]
theorem exec_indexArr {t : TypeId} {x i : Operand} (ho : o.op = .indexAddr t x i) {len es : Nat} (h : arrSize c.P t = some (len, es)) {ad : Addr} {k : IntKind} {n : Int} (h0 : 0 ≤ n) (h1 : n < len)
    (hx : a.eval x = .pointer (some ad)) (hi : a.eval i = .int k n) : (execOp a.eval o).run c.P w = .ok (.value (.pointer (some (ad.add (n.toNat * es))))) w := by
  simp only [execOp, ho, hx, hi, Sem.run_bind, run_indexArr h ad k n h0 h1, Result.andThen_ok, Sem.run_pure]
theorem sl_index {b g off len es : Nat} {x : Value} (hx : Rv M (.sl b g off len es) x) {n : Int} (h0 : 0 ≤ n) (h1 : n < len) :
    ∃ ad cap, x = .slice (some ad) len cap ∧ Rv M (.ptr b g (off + n.toNat * es)) (.pointer (some (ad.add (n.toNat * es)))) := by
  obtain ⟨k0, k1, ad, cap, rfl, k2, k3⟩ := hx
  refine ⟨ad, cap, rfl, k0, k1, _, rfl, fun e => ?_⟩
  obtain ⟨k4, k5, k6⟩ := k3 e
  have hcap : ¬ cap = 0 := by omega
  have had := k6.resolve_left hcap
  refine ⟨by omega, ?_⟩
  rw [had, add_off]
  congr 1; omega
theorem lit_index {cs : List AV} {len : Nat} {x : Value} (hx : Rv M (.lit cs len) x) (k : Nat) :
    ∃ ad cap, x = .slice (some ad) len cap ∧ Rv M (.lp (cs.drop k)) (.pointer (some (ad.add k))) := by
  obtain ⟨b, off, cap, cur, rfl, k2, k3, k4⟩ := hx
  refine ⟨_, cap, rfl, b, off + k, cur, by rw [add_off], k3, ?_⟩
  have := k4.drop k
  rw [List.drop_take, List.drop_drop] at this
  simpa using this

/-! ### slice expressions -/
theorem run_sliceBound {P : Program} {k : IntKind} {n : Int} {y : Nat} {code : BoundsCode} (h0 : 0 ≤ n) (h1 : n ≤ y) (w : World) : (Instr.sliceBound (.int k n) y code).run P w = .ok n.toNat w := by
  unfold Instr.sliceBound
  simp only [asIntOf, Sem.run_bind, Sem.run_pure, Result.andThen_ok]
  rw [if_pos ⟨h0, h1⟩]
  rfl
theorem bounds_rel {fr : List AV} (hf : FRel M fr a) {len : Nat} {lo hi : Option Operand} {l h : Nat} (hb : boundsA fr len lo hi = some (l, h)) :
    l ≤ h ∧ h ≤ len ∧ ∀ (cap : Nat), len ≤ cap → ∀ (P : Program) (w : World), (Instr.sliceBounds true len cap (lo.map a.eval) (hi.map a.eval) none).run P w = .ok (l, h, cap) w := by
  unfold boundsA at hb
  simp only at hb
  split at hb
  · rename_i l' h' hl hh
    split at hb
    · rename_i hc
      obtain ⟨c1, c2, c3⟩ := hc
      cases hb
      refine ⟨by omega, by omega, ?_⟩
      intro cap hcap P w
      have e1 : (h'.toNat : Int) = h' := by omega
      cases hi with
      | none =>
        simp at hh; subst hh
        cases lo with
        | none => simp at hl; subst hl; simp [Instr.sliceBounds]
        | some x =>
          simp at hl
          obtain ⟨k, hk⟩ := intOf_rel hl (hf.ev x)
          simp only [Instr.sliceBounds, Option.map_some, Option.map_none, hk, Sem.run_bind, Sem.run_pure, Result.andThen_ok, run_sliceBound c1 c2]
          simp
      | some y =>
        simp at hh
        obtain ⟨k', hk'⟩ := intOf_rel hh (hf.ev y)
        cases lo with
        | none =>
          simp at hl; subst hl
          simp only [Instr.sliceBounds, Option.map_some, Option.map_none, hk', Sem.run_bind, Sem.run_pure, Result.andThen_ok, run_sliceBound (show 0 ≤ h' by omega) (show h' ≤ cap by omega)]
          simp
        | some x =>
          simp at hl
          obtain ⟨k, hk⟩ := intOf_rel hl (hf.ev x)
          simp only [Instr.sliceBounds, Option.map_some, hk, hk', Sem.run_bind, Sem.run_pure, Result.andThen_ok, run_sliceBound (show 0 ≤ h' by omega) (show h' ≤ cap by omega), run_sliceBound c1 (show l' ≤ (h'.toNat : Int) by omega)]
    · cases hb
  · cases hb
theorem exec_slice {t : TypeId} {x : Operand} {lo hi : Option Operand} (ho : o.op = .slice t x lo hi none) (hf : FRel M s.fr a) {e : TypeId} {es : Nat} (he : elemSize c.P t = some (e, es)) {len l h : Nat} (hb : boundsA s.fr len lo hi = some (l, h)) {ad : Addr} {cap : Nat} (hcap : len ≤ cap)
    (hx : a.eval x = .slice (some ad) len cap) : (execOp a.eval o).run c.P w = .ok (.value (.slice (some (if cap = l then ad else ad.add (l * es))) (h - l) (cap - l))) w := by
  obtain ⟨h2, h3⟩ := elemSize_rel he
  obtain ⟨b1, b2, b3⟩ := bounds_rel hf hb
  simp only [execOp, ho, hx, Instr.sliceAt, Sem.run_bind, run_und h2, Result.andThen_ok, Instr.slice, Option.map_none, b3 cap hcap, run_sizeT h3, Sem.run_pure]
  split <;> simp_all
theorem sl_slice {b g off len es : Nat} {x : Value} (hx : Rv M (.sl b g off len es) x) {l h : Nat} (h1 : l ≤ h) (h2 : h ≤ len) :
    ∃ ad cap, len ≤ cap ∧ x = .slice (some ad) len cap ∧ Rv M (.sl b g (off + l * es) (h - l) es) (.slice (some (if cap = l then ad else ad.add (l * es))) (h - l) (cap - l)) := by
  obtain ⟨k0, k1, ad, cap, rfl, k2, k3⟩ := hx
  refine ⟨ad, cap, k2, rfl, k0, k1, _, _, rfl, by omega, fun e => ?_⟩
  obtain ⟨k4, k5, k6⟩ := k3 e
  have hmul : (cap - l) * es = cap * es - l * es := Nat.sub_mul _ _ _
  have hle : l * es ≤ cap * es := Nat.mul_le_mul_right _ (by omega)
  refine ⟨by omega, by omega, ?_⟩
  by_cases hcl : cap = l
  · left; omega
  · right
    have hc0 : ¬ cap = 0 := by omega
    rw [if_neg hcl, k6.resolve_left hc0, add_off]
    congr 1; omega
theorem lit_slice {cs : List AV} {len : Nat} {x : Value} (hx : Rv M (.lit cs len) x) {l h : Nat} (h1 : l ≤ h) (h2 : h ≤ len) {es : Nat} (_hes : cs.length = len * es) :
    ∃ ad cap, len ≤ cap ∧ x = .slice (some ad) len cap ∧ Rv M (.lit ((cs.drop (l * es)).take ((h - l) * es)) (h - l)) (.slice (some (if cap = l then ad else ad.add (l * es))) (h - l) (cap - l)) := by
  obtain ⟨b, off, cap, cur, rfl, k2, k3, k4⟩ := hx
  refine ⟨_, cap, k2, rfl, ?_⟩
  by_cases hcl : cap = l
  · have e1 : h - l = 0 := by omega
    rw [if_pos hcl]
    refine ⟨b, off, cap - l, cur, rfl, by omega, k3, ?_⟩
    simp [e1, Rvs]
  · rw [if_neg hcl]
    refine ⟨b, off + l * es, cap - l, cur, by rw [add_off], by omega, k3, ?_⟩
    have := (k4.drop (l * es)).take ((h - l) * es)
    rw [List.drop_take, List.take_take, List.drop_drop] at this
    have hl := this.length
    have e2 : ((cs.drop (l * es)).take ((h - l) * es)).length = min ((h - l) * es) (cs.length - l * es) := by simp
    rw [e2]
    exact this

/-! ### aggregates -/
theorem map_eval_fst (hf : FRel M s.fr a) : ∀ l : List (Nat × Operand), Rvs M ((l.map fun (i, x) => (i, ev s.fr x)).map (·.2)) ((l.map fun (i, x) => (i, a.eval x)).map (·.2))
  | [] => rfl
  | (_, x) :: l => .cons (hf.ev x) (map_eval_fst hf l)
theorem foldl_set : ∀ (vs : List Value) (j off : Nat) (cells : Array Value), off + j + vs.length ≤ cells.size →
    ((vs.zipIdx j).foldl (fun cs (c, j) => cs.setIfInBounds (off + j) c) cells).toList = cells.toList.take (off + j) ++ vs ++ cells.toList.drop (off + j + vs.length)
  | [], j, off, cells, h => by simp
  | v :: vs, j, off, cells, h => by
    simp only [List.length_cons] at h
    rw [List.zipIdx_cons, List.foldl_cons, foldl_set vs (j + 1) off _ (by simp; omega)]
    have := over_step cells.toList (off + j) v vs (by simp; omega)
    simp only [Array.toList_setIfInBounds, List.length_cons]
    rw [← this]
    congr 1
theorem fill_rel (P : Nat → Option (Nat × Nat)) (hf : FRel M s.fr a) : ∀ (parts : List (Nat × Operand)) (cells : List AV) (cur : Array Value) (out : List AV), Rvs M cells cur.toList →
    fillA P cells (parts.map fun (i, x) => (i, ev s.fr x)) = some out → ∃ cur', Instr.fill P cur (parts.map fun (i, x) => (i, a.eval x)) = some cur' ∧ Rvs M out cur'.toList
  | [], cells, cur, out, h, e => by simp [fillA] at e; subst e; exact ⟨cur, rfl, h⟩
  | (i, x) :: parts, cells, cur, out, h, e => by
    simp only [List.map_cons, fillA] at e
    simp only [List.map_cons, Instr.fill]
    split at e
    · cases e
    · rename_i off size hp
      split at e
      · rename_i hsz
        split at e
        · rename_i cells' hov
          have hc := cells_rel (hf.ev x)
          have hl := hc.length
          obtain ⟨o1, o2⟩ := Rvs.over h hc hov
          have hl2 := h.length
          rw [hp]
          simp only
          rw [if_neg (by simp only [Array.length_toList] at *; simp; omega)]
          refine fill_rel P hf parts cells' _ out ?_ e
          have := foldl_set (a.eval x).cells.toList 0 off cur (by simp only [Array.length_toList] at *; omega)
          rw [← Array.foldl_toList, Array.toList_zipIdx, this]
          simpa using o2
        · cases e
      · cases e

theorem fillA_length (P : Nat → Option (Nat × Nat)) : ∀ (parts : List (Nat × AV)) (cells out : List AV), fillA P cells parts = some out → out.length = cells.length
  | [], cells, out, e => by simp [fillA] at e; subst e; rfl
  | (i, v) :: parts, cells, out, e => by
    simp only [fillA] at e
    split at e
    · cases e
    · split at e
      · split at e
        · rename_i cells' hov
          have := fillA_length P parts cells' out e
          rw [this]
          unfold overA at hov
          split at hov
          · cases hov; simp; omega
          · cases hov
        · cases e
      · cases e
theorem mapM_places {P : Program} (w : World) : ∀ (fields : List Field), (fields.all fun fd => (sizeT P fd.type).isSome) = true →
    Sem.run P (fields.mapM fun f => do pure (f.offset, ← sizeOf f.type)) w = .ok (placesT P fields) w
  | [], _ => rfl
  | f :: fs, h => by
    simp at h
    obtain ⟨n, hn⟩ := Option.isSome_iff_exists.1 h.1
    rw [List.mapM_cons]
    simp only [Sem.run_bind, run_sizeT hn, Result.andThen_ok, Sem.run_pure, mapM_places w fs (by simpa using h.2)]
    simp [hn, placesT]
theorem exec_build {t : TypeId} {parts : Array (Nat × Operand)} (ho : o.op = .build t parts) (hf : FRel M s.fr a) {fields : Array Field} (hu : c.P.underlying t = some (.struct fields)) (hall : (fields.toList.all fun fd => (sizeT c.P fd.type).isSome) = true)
    {z : Value} (hz : zeroT c.P t = some z) {cells : List AV} (hc : fillA (fun i => (placesT c.P fields.toList)[i]?) (cellsOf (norm1 z)) (parts.toList.map fun (i, x) => (i, ev s.fr x)) = some cells) :
    ∃ cs : Array Value, (execOp a.eval o).run c.P w = .ok (.value (.agg cs)) w ∧ Rvs M cells cs.toList := by
  obtain ⟨cur, h1, h2⟩ := fill_rel _ hf parts.toList _ z.cells _ (cells_rel (norm1_rel z)) hc
  refine ⟨cur, ?_, h2⟩
  have hp := mapM_places (P := c.P) w fields.toList hall
  simp only [execOp, ho, Instr.build, Sem.run_bind, run_zeroT hz, run_und hu, Result.andThen_ok]
  rw [Array.mapM_eq_mapM_toList]
  simp only [Sem.run_map, hp, Result.andThen_ok, Array.toList_map]
  have e1 : (fun i : Nat => (placesT c.P fields.toList).toArray[i]?) = fun i : Nat => (placesT c.P fields.toList)[i]? := by funext i; simp
  rw [e1, h1]
  rfl

theorem Rvs.map_mem {α : Type} (f : α → AV) (g : α → Value) : ∀ (l : List α), (∀ x ∈ l, Rv M (f x) (g x)) → Rvs M (l.map f) (l.map g)
  | [], _ => rfl
  | x :: l, h => .cons (h x (by simp)) (Rvs.map_mem f g l fun y hy => h y (by simp [hy]))
theorem zeros_rel (z : Value) (n : Nat) (h : n = 0 ∨ 0 < z.cells.size) : Rvs M (zerosA (cellsOf (norm1 z)) n) ((Array.range n).map (fun i => z.cells[i % z.cells.size]!)).toList := by
  have hz : Rvs M (cellsOf (norm1 z)) z.cells.toList := cells_rel (norm1_rel z)
  have hl := hz.length
  simp only [Array.toList_map, Array.toList_range, zerosA]
  refine Rvs.map_mem _ _ _ ?_
  intro i hi
  have hn : i < n := List.mem_range.1 hi
  have hsz : 0 < z.cells.size := by omega
  have hlt : i % z.cells.size < z.cells.size := Nat.mod_lt _ hsz
  have := hz.getT (i % (cellsOf (norm1 z)).length)
  rw [hl] at this ⊢
  simp only [Array.length_toList] at this ⊢
  rw [List.getD_eq_getElem?_getD, List.getElem?_eq_getElem (by simpa using hlt)] at this
  rw [getElem!_pos z.cells _ hlt]
  simpa using this

/-- a slice literal -/
theorem exec_buildSlice {t e : TypeId} {es len : Nat} {parts : Array (Nat × Operand)} (ho : o.op = .buildSlice t len parts) (hf : FRel M s.fr a) (he : elemSize c.P t = some (e, es)) {z : Value} (hz : zeroT c.P e = some z) (hzl : (cellsOf (norm1 z)).length = es) (hle : len * es ≤ 65536)
    {cells : List AV} (hc : fillA (fun i => some (i * es, es)) (zerosA (cellsOf (norm1 z)) (len * es)) (parts.toList.map fun (i, x) => (i, ev s.fr x)) = some cells) :
    ∃ cs : Array Value, (execOp a.eval o).run c.P w = .ok (.value (.slice (some ⟨w.heap.size, 0, none⟩) len len)) (w.alloc (.cells cs e)) ∧ Rvs M cells cs.toList := by
  obtain ⟨h2, h3⟩ := elemSize_rel he
  have hz1 : Rvs M (cellsOf (norm1 z)) z.cells.toList := cells_rel (norm1_rel z)
  have hzs : z.cells.size = es := by have := hz1.length; simp at this; omega
  have hz0 : len * es = 0 ∨ 0 < z.cells.size := by
    rw [hzs]
    rcases Nat.eq_zero_or_pos es with h | h
    · left; simp [h]
    · right; exact h
  obtain ⟨cur, h4, h5⟩ := fill_rel _ hf parts.toList _ ((Array.range (len * es)).map (fun i => z.cells[i % z.cells.size]!)) _ (zeros_rel z (len * es) hz0) hc
  refine ⟨cur, ?_, h5⟩
  simp only [execOp, ho, Instr.buildSlice, Sem.run_bind, run_und h2, run_sizeT h3, Result.andThen_ok]
  have hlt : ¬ len * es > 2 ^ 24 := by omega
  simp only [if_neg hlt, Sem.run_pure]
  by_cases h0 : len * es = 0
  · simp only [h0, if_true]
    rw [h0] at h4
    have e1 : ∀ g : Nat → Value, (Array.range 0).map g = #[] := by intro g; simp
    simp only [e1, Array.toList_map] at h4 ⊢
    rw [h4]
    simp [newRow]
  · simp only [h0, if_false, Sem.run_bind, run_zeroT hz, Result.andThen_ok, Sem.run_pure, Array.toList_map]
    rw [h4]
    simp [newRow]
theorem exec_lit {x : Value} (h : SRel c A we M s a w) {cells : List AV} {cs : Array Value} {e : TypeId} {len cap : Nat} {fr : Nat × Nat} (hcap : len ≤ cap) (hr : Rvs M cells (cs.toList.take cells.length)) (hrun : (execOp a.eval o).run c.P w = .ok (.value x) w') (hx : x = .slice (some ⟨w.heap.size, 0, none⟩) len cap)
    (hw : w' = w.alloc (.cells cs e fr)) : To c A we o a w { s with fr := putT s.fr o.dst (.lit cells len) } := by
  subst hx hw
  have st := heap_imm h.hr cs e fr
  have := to_heap (v := .lit cells len) (lw := s.lw) h hrun st ⟨w.heap.size, 0, cap, cs, rfl, hcap, by simp [Mu.withImm], Rvs.mono st.ext _ _ (.inl rfl) (by simpa using hr)⟩
  exact this
theorem exec_newslice (h : SRel c A we M s a w) {call : CallF} {cells : List AV} {cs : Array Value} {e : TypeId} {es len cap : Nat} {fr : Nat × Nat} (hf : Free cs fr) (hn : noBxs cells = true) (hl : cells.length ≤ cs.size) (hcap : len ≤ cap) (hsz : cap * es = cs.size) (hr : Rvs M cells (cs.toList.take cells.length))
    (hrun : (execOp a.eval o).run c.P w = .ok (.value (.slice (some ⟨w.heap.size, 0, none⟩) len cap)) (w.alloc (.cells cs e fr))) :
    ∃ v h' lw, doHeap c call s.h (.new cells es (some len)) = some (.val v h' lw) ∧ To c A we o a w { s with fr := putT s.fr o.dst v, h := h', lw := lwMin s.lw lw } := by
  have st := heap_new h.hr hn e fr hf hl hr
  refine ⟨_, _, _, rfl, to_heap h hrun st ?_⟩
  rw [← h.hr.n]
  refine ⟨by simp [Mu.withBlk], by simp [Mu.withBlk], _, cap, rfl, hcap, fun _ => ?_⟩
  simp [Mu.withBlk, hsz]
end Go.Proofs.Ytmglahnoemgieaa.Ax
namespace Go.Proofs.Ytmglahnoemgieaa.Ax
open Go Go.RowKit
set_option linter.unusedSimpArgs false
set_option linter.unusedVariables false
variable {c : Cfg} {A M : Mu} {we : World} {s : S} {o : Oper} {a : Act} {w w' : World}

/-! ### a string's bytes -/
theorem bytesWorld_eq (w : World) (e : TypeId) (s : ByteArray) :
    Lib.bytesWorld w e s = w.drew.alloc (.cells (Lib.bytesCells w e s) e ((Lib.bytesCells w e s).size, (Lib.bytesCells w e s).size + 1)) := by
  have h : (Lib.bytesWorld w e s).heap = (w.drew.alloc (.cells (Lib.bytesCells w e s) e ((Lib.bytesCells w e s).size, (Lib.bytesCells w e s).size + 1))).heap := by
    apply Array.ext_getElem?
    intro i
    by_cases h1 : i < w.heap.size
    · rw [Lib.bytesWorld_at_old w e s i h1, alloc_old _ _ (by simpa using h1)]; rfl
    · by_cases h2 : i = w.heap.size
      · subst h2
        rw [Lib.bytesWorld_at_new]
        exact (heap_alloc_new w.drew _).symm
      · rw [Array.getElem?_eq_none (by rw [Lib.bytesWorld_size]; omega), Array.getElem?_eq_none (by simp; omega)]
  have h2 : ∀ w1 : World, ∀ a n, (w1.freeze a n).tape = w1.tape ∧ (w1.freeze a n).drawn = w1.drawn ∧ (w1.freeze a n).os = w1.os ∧ (w1.freeze a n).output = w1.output := by
    intro w1 a n; unfold World.freeze; split <;> exact ⟨rfl, rfl, rfl, rfl⟩
  obtain ⟨t1, t2, t3, t4⟩ := h2 (w.drew.alloc (.cells (Lib.bytesCells w e s) e)) ⟨w.heap.size, (Lib.bytesCells w e s).size, none⟩ 1
  have ext : ∀ x y : World, x.heap = y.heap → x.tape = y.tape → x.drawn = y.drawn → x.os = y.os → x.output = y.output → x = y := by
    intro x y; cases x; cases y; intro a b c d e; simp_all
  exact ext _ _ h t1 t2 t3 t4
theorem bytesCells_take (w : World) (e : TypeId) (s : ByteArray) : Rvs M (bytesA s) ((Lib.bytesCells w e s).toList.take (bytesA s).length) := by
  have h1 : (bytesA s).length = s.data.toList.length := by simp [bytesA]
  have h2 : (Lib.bytesCells w e s).toList.take (bytesA s).length = s.data.toList.map fun b => Value.int .u8 b.toNat := by
    rw [h1]
    simp only [Lib.bytesCells, Array.toList_append, Array.toList_map]
    rw [List.take_append_of_le_length (by simp), List.take_of_length_le (by simp)]
  rw [h2]
  exact Rvs.map (fun b : UInt8 => AV.val (.int .u8 b.toNat)) (fun b : UInt8 => Value.int .u8 b.toNat) (fun _ => rfl) _
theorem bytesCells_size (w : World) (e : TypeId) (s : ByteArray) : (Lib.bytesCells w e s).size = grownCap w s.size 0 e := by
  have := grownCap_ge w s.size 0 e
  simp only [Lib.bytesCells, Array.size_append, Array.size_map, Array.size_replicate]
  show s.data.size + _ = _
  have : s.data.size = s.size := rfl
  omega
theorem bytesA_length (s : ByteArray) : (bytesA s).length = s.size := by simp [bytesA]
theorem noBx_bytes (s : ByteArray) : noBxs (bytesA s) = true := noBxs_of (by
  intro a ha
  simp only [bytesA, List.mem_map] at ha
  obtain ⟨b, _, rfl⟩ := ha
  rfl)
theorem exec_conv_bytes {src dst e : TypeId} {x : Operand} (ho : o.op = .convert src dst x) {u : TypeDesc} (hs : c.P.underlying src = some u) (hd : c.P.underlying dst = some (.slice e)) (he : c.P.underlying e = some (.int .u8)) {str : ByteArray} (hx : a.eval x = .string str) :
    (execOp a.eval o).run c.P w = .ok (.value (.slice (some ⟨w.heap.size, 0, none⟩) str.size (grownCap w str.size 0 e))) (w.drew.alloc (.cells (Lib.bytesCells w e str) e ((Lib.bytesCells w e str).size, (Lib.bytesCells w e str).size + 1))) := by
  simp only [execOp, ho, hx, Sem.run_bind, Lib.run_convert_string_bytes w src dst e str hs hd he, Result.andThen_ok, Sem.run_pure, bytesWorld_eq]

theorem SRel.drew (h : SRel c A we M s a w) : SRel c A we M s a w.drew := { h with hr := h.hr.drew, lr := h.lr.drew, k0 := h.k0.drew }

theorem sound_conv_bytes (h : SRel c A we M s a w) {src dst e : TypeId} {x : Operand} (ho : o.op = .convert src dst x) {u : TypeDesc} (hs : c.P.underlying src = some u) (hd : c.P.underlying dst = some (.slice e)) (he : c.P.underlying e = some (.int .u8)) {str : ByteArray} (hx : a.eval x = .string str) :
    To c A we o a w { s with fr := putT s.fr o.dst (.lit (bytesA str) str.size) } ∧
    ∀ call, ∃ v h' lw, doHeap c call s.h (.new (bytesA str) 1 (some str.size)) = some (.val v h' lw) ∧ To c A we o a w { s with fr := putT s.fr o.dst v, h := h', lw := lwMin s.lw lw } := by
  have hrun := exec_conv_bytes (w := w) ho hs hd he hx
  have hd1 := h.drew
  constructor
  · have st := heap_imm hd1.hr (Lib.bytesCells w e str) e ((Lib.bytesCells w e str).size, (Lib.bytesCells w e str).size + 1)
    exact wps_value hrun ⟨_, hd1.heap (lw := s.lw) (v := .lit (bytesA str) str.size) st ⟨w.heap.size, 0, _, Lib.bytesCells w e str, rfl, grownCap_ge w str.size 0 e, by simp [Mu.withImm], by simpa using bytesCells_take w e str⟩ o.dst⟩
  · intro call
    have st := heap_new hd1.hr (noBx_bytes str) (cur := Lib.bytesCells w e str) e ((Lib.bytesCells w e str).size, (Lib.bytesCells w e str).size + 1) (.inr (Nat.le_refl _))
      (by rw [bytesA_length, bytesCells_size]; exact grownCap_ge w str.size 0 e) (bytesCells_take w e str)
    refine ⟨_, _, _, rfl, wps_value hrun ⟨_, hd1.heap st ?_ o.dst⟩⟩
    rw [← h.hr.n]
    refine ⟨by simp [Mu.withBlk], by simp [Mu.withBlk], _, _, rfl, grownCap_ge w str.size 0 e, fun _ => ?_⟩
    simp [Mu.withBlk, bytesCells_size]

theorem unbytes_rel : ∀ {l : List AV} {bs : List UInt8} {xs : List Value}, unbytes l = some bs → Rvs M l xs → ∃ ns : List Int, xs = ns.map (Value.int .u8) ∧ bs = ns.map fun n => UInt8.ofNat n.toNat
  | [], bs, xs, h, k => by simp [unbytes] at h; subst h; simp only [Rvs] at k; subst k; exact ⟨[], rfl, rfl⟩
  | v :: l, bs, xs, h, k => by
    obtain ⟨x, r, rfl, h1, h2⟩ := k
    unfold unbytes at h
    split at h
    · rename_i e; cases e
    · rename_i n l' e
      cases e
      simp only [Option.map_eq_some_iff] at h
      obtain ⟨bs', h3, rfl⟩ := h
      obtain ⟨ns, rfl, rfl⟩ := unbytes_rel h3 h2
      simp only [Rv] at h1
      subst h1
      exact ⟨n :: ns, rfl, rfl⟩
    · cases h
theorem exec_conv_str {src dst e : TypeId} {x : Operand} (ho : o.op = .convert src dst x) (hs : c.P.underlying src = some (.slice e)) (he : c.P.underlying e = some (.int .u8)) (hd : c.P.underlying dst = some .string) {b off len cap : Nat} {cells : List AV} {cur : List Value} {bs : List UInt8} (hb : unbytes cells = some bs) (hl : cells.length = len)
    (hr : Rvs M cells cur) (hc : 0 < len → ∀ j v, cur[j]? = some v → w.cell? ⟨b, off + j, none⟩ = some v) {ad : Addr} (had : 0 < len → ad = ⟨b, off, none⟩) (hx : a.eval x = .slice (some ad) len cap) :
    (execOp a.eval o).run c.P w = .ok (.value (.string ⟨bs.toArray⟩)) w := by
  obtain ⟨ns, rfl, rfl⟩ := unbytes_rel hb hr
  have hln : ns.length = len := by have := hr.length; simp at this; omega
  have key : (convert src dst (.slice (some ad) len cap)).run c.P w = .ok (.string ⟨(ns.map fun n => UInt8.ofNat n.toNat).toArray⟩) w := by
    rcases Nat.eq_zero_or_pos len with h0 | h0
    · subst h0
      have : ns = [] := List.length_eq_zero_iff.1 hln
      subst this
      rw [run_convert_bytes_string w src dst e _ 0 cap hs he hd]
      rw [run_bytesToString w ad 0 cap [] (by rfl)]
      rfl
    · rw [had h0]
      rw [run_convert_bytes_arg w src e hs he b off len cap ns hln (fun i hi => ?_) dst hd]
      · rfl
      · refine hc h0 i _ ?_
        rw [List.getElem?_map, List.getD_eq_getElem?_getD, List.getElem?_eq_getElem (by omega)]
        rfl
  simp only [execOp, ho, hx, Sem.run_bind, key, Result.andThen_ok, Sem.run_pure]

/-! ### iterators -/
theorem run_next_more {P : Program} {r pos : Nat} {str : ByteArray} {ty : TypeId} (h : w.heap[r]? = some (.stringIter str pos)) (hp : pos < str.size) :
    (Instr.next (.pointer (some ⟨r, 0, none⟩)) true ty).run P w = .ok (.tuple #[.bool true, .int .i64 pos, .int .i32 (Utf8.decode str pos).1]) (setBlk w r (.stringIter str (pos + (Utf8.decode str pos).2))) := by
  simp [Instr.next, getObj, setObj, Sem.run, h, hp, setBlk, goInt]
theorem run_next_over {P : Program} {r pos : Nat} {str : ByteArray} {ty : TypeId} (h : w.heap[r]? = some (.stringIter str pos)) (hp : ¬ pos < str.size) :
    (Instr.next (.pointer (some ⟨r, 0, none⟩)) true ty).run P w = .ok (.tuple #[.bool false]) w := by
  simp [Instr.next, getObj, Sem.run, h, hp]
theorem run_range_string {P : Program} {t : TypeId} (h : P.underlying t = some .string) (str : ByteArray) : (Instr.range t (.string str)).run P w = .ok (.pointer (some ⟨w.heap.size, 0, none⟩)) (w.alloc (.stringIter str 0)) := by
  simp [Instr.range, run_und h]

/-! ### append -/
/-- what an appended operand holds -/
def Src (P : Program) (w : World) (es : Nat) (x : Value) (ys : List Value) (m : Nat) : Prop :=
  (∀ w' : World, (Builtin.lenOf x).run P w' = .ok m w') ∧ ∀ w' : World, w'.heap = w.heap → (Builtin.firstCells es m x).run P w' = .ok ys.toArray w'

theorem src_cells {P : Program} {w : World} {es m cap : Nat} {ad : Addr} {ys : List Value} (hl : ys.length = m * es) (h : 0 < m * es → ∀ j v, ys[j]? = some v → w.cell? (ad.add j) = some v) : Src P w es (.slice (some ad) m cap) ys m := by
  refine ⟨fun w' => rfl, fun w' hw => ?_⟩
  rcases Nat.eq_zero_or_pos (m * es) with h0 | h0
  · have : ys = [] := List.length_eq_zero_iff.1 (by omega)
    subst this
    simp only [Builtin.firstCells, h0]
    rfl
  · refine run_firstCells_some w' es m ad m cap ys hl ?_
    intro j v hv
    have := h h0 j v hv
    rw [← this]
    unfold World.cell?
    rw [hw]
theorem srcCells_rel (h : SRel c A we M s a w) {es : Nat} {src : AV} {xs : List AV} {m : Nat} (hs : ((srcCells s.h es src).orElse fun _ => srcForeign c.w0 es src) = some (xs, m)) {x : Value} (hx : Rv M src x) (hn : noBx src = true) :
    ∃ ys, Src c.P w es x ys m ∧ Rvs M xs ys ∧ xs.length = m * es ∧ noBxs xs = true := by
  cases hc : srcCells s.h es src with
  | none =>
    rw [hc] at hs
    simp only [Option.orElse_none] at hs
    unfold srcForeign at hs
    split at hs
    · rename_i ad len cap
      simp only [Option.map_eq_some_iff] at hs
      obtain ⟨l, hl, he⟩ := hs
      cases he
      obtain ⟨ys, rfl, h1, h2⟩ := foreign_rel h.hr.below _ 0 _ hl
      simp only [Rv] at hx; subst hx
      exact ⟨ys, src_cells h1 (fun _ j v hv => by simpa using h2 j v hv), Rvs.vals ys, by simpa using h1, noBxs_vals ys⟩
    · cases hs
  | some p =>
    rw [hc] at hs
    simp only [Option.orElse_some, Option.some.injEq] at hs
    subst hs
    unfold srcCells at hc
    split at hc
    · cases hc
      simp only [Rv] at hx; subst hx
      exact ⟨[], ⟨fun w' => rfl, fun w' _ => rfl⟩, rfl, by simp, rfl⟩
    · split at hc
      · rename_i str hes
        cases hc
        simp only [Rv] at hx; subst hx
        refine ⟨str.data.toList.map fun b => Value.int .u8 b.toNat, ⟨fun w' => rfl, fun w' _ => ?_⟩, Rvs.map (fun b : UInt8 => AV.val (.int .u8 b.toNat)) (fun b : UInt8 => Value.int .u8 b.toNat) (fun _ => rfl) _, by rw [bytesA_length, hes, Nat.mul_one], noBx_bytes str⟩
        have e1 : str.extract 0 str.size = str := by simp
        simp only [Builtin.firstCells, e1, Sem.run_pure]
        congr 1
        apply Array.ext'
        simp
      · cases hc
    · split at hc
      · rename_i cs len hl
        cases hc
        obtain ⟨b, off, cap, cur, rfl, k2, k3, k4⟩ := hx
        obtain ⟨_, ⟨e, fr, k5⟩, _⟩ := h.hr.imm b cur k3
        refine ⟨_, src_cells (by rw [← k4.length]; exact hl) (fun _ j v hv => ?_), k4, hl, by simpa [noBx] using hn⟩
        rw [add_off, cell_blk k5]
        rw [List.getElem?_take] at hv
        split at hv
        · simpa using hv
        · cases hv
      · cases hc
    · split at hc
      · rename_i b g off len es' _ k hk
        split at hc
        · rename_i hcond
          obtain ⟨e1, e2, e3⟩ := hcond
          cases hc
          obtain ⟨k1, k3, k4⟩ := h.hr.blk b k hk
          obtain ⟨cur, e, fr, k5, k6, k7, k8, k9⟩ := k4.row
          obtain ⟨p0, p1, ad, cap, rfl, p2, p3⟩ := hx
          obtain ⟨p4, p5, p6⟩ := p3 (k1.trans e1)
          have hr := (k9.drop (off - (M.home b).shift)).take (m * es)
          rw [List.drop_drop, show (M.home b).shift + (off - (M.home b).shift) = off from by omega] at hr
          have hlen : ((k.cells.drop off).take (m * es)).length = m * es := by simp; omega
          refine ⟨_, src_cells (by rw [← hr.length]; exact hlen) (fun h0 j v hv => ?_), hr, hlen, noBxs_take _ (noBxs_drop _ k4.nobx)⟩
          have hcap : ¬ cap = 0 := by
            intro e; subst e
            have : m = 0 := by omega
            subst this; simp at h0
          rw [p6.resolve_left hcap, add_off, cell_blk k5]
          rw [List.getElem?_take] at hv
          split at hv
          · rw [List.getElem?_drop, List.getElem?_take] at hv
            split at hv
            · simpa using hv
            · cases hv
          · cases hv
        · cases hc
      · cases hc
    · cases hc

theorem room_rel {P : Program} {e : TypeId} {need : Nat} (h : roomOk P e need = true) : ∃ i z, P.info? e = some i ∧ i.zero = some z ∧ z.cells.size = i.size ∧ 0 < i.bytes ∧ need * i.bytes ≤ 1099511627776 ∧ need ≤ 1099511627776 := by
  unfold roomOk at h
  split at h
  · rename_i i hi
    cases hz : i.zero with
    | none => simp [hz] at h
    | some z =>
      simp [hz] at h
      exact ⟨i, z, hi, hz, h.1.1.1, h.1.1.2, h.1.2, h.2⟩
  · cases h

/-- the arguments' types of an append -/
def AppT (P : Program) (ts : Array TypeId) (e : TypeId) : Prop := ∃ t, ts[0]? = some t ∧ P.underlying t = some (.slice e) ∧ ∃ u d, ts[1]? = some u ∧ P.underlying u = some d ∧ ∀ k, d ≠ .int k

theorem run_append_in {P : Program} {ts : Array TypeId} {ty e : TypeId} (hT : AppT P ts e) {es : Nat} (hes : sizeT P e = some es) {x : Value} {ys : List Value} {m : Nat} (hx : Src P w es x ys m) (ad : Addr) (len cap : Nat) (hle : len + m ≤ cap) :
    (Builtin.append_ ts ty #[.slice (some ad) len cap, x]).run P w = ((storeCells (ad.add (len * es)) ys).run P w).andThen fun _ w' => .ok (.slice (some ad) (len + m) cap) w' := by
  obtain ⟨t, h1, h2, u, d, h3, h4, h5⟩ := hT
  have hf := hx.2 w rfl
  have hl := hx.1 w
  simp only [Builtin.append_, h1, h3, List.getElem?_toArray, List.getElem?_cons_zero, List.getElem?_cons_succ, Sem.run_bind, run_und h2, run_sizeT hes, run_und h4, Result.andThen_ok, Sem.run_pure,
      Bool.false_eq_true, if_false, hl, if_pos hle, Bool.not_false, if_true, hf]
theorem run_append_out {P : Program} {ts : Array TypeId} {ty e : TypeId} (hT : AppT P ts e) {i : TypeInfo} {z : Value} (hi : P.info? e = some i) (hz : i.zero = some z) {x : Value} {ys : List Value} {m : Nat} (hx : Src P w i.size x ys m) (d : Option Addr) (len cap : Nat) (hg : cap < len + m)
    {olds : List Value} (ho : ∀ w' : World, w'.heap = w.heap → (Builtin.firstCells i.size len (.slice d len cap)).run P w' = .ok olds.toArray w') (h1 : (len + m) * i.bytes ≤ 1099511627776) (h2 : len + m ≤ 1099511627776) :
    (Builtin.append_ ts ty #[.slice d len cap, x]).run P w = .ok (.slice (some ⟨w.heap.size, 0, none⟩) (len + m) (grownCap w (len + m) cap e))
      (w.drew.alloc (.cells (olds.toArray ++ ys.toArray ++ Builtin.zeroCells z.cells (grownCap w (len + m) cap e - (len + m))) e)) := by
  obtain ⟨t, k1, k2, u, du, k3, k4, k5⟩ := hT
  have hn : ¬ (len + m ≤ cap) := by omega
  have h63 : ¬ (9223372036854775807 < ((len : Int) + (m : Int))) := by omega
  have h48 : ¬ (281474976710656 < Builtin.nextslicecap (len + m) cap * i.bytes) := by
    have := growslice_fits (need := len + m) (old := cap) (bytes := i.bytes) hg (by omega)
    omega
  have hes : sizeT P e = some i.size := by simp [sizeT, hi]
  have hf := hx.2 w.drew rfl
  have hfo := ho w.drew rfl
  have hl := hx.1 w
  simp [Builtin.append_, k1, k3, run_und k2, run_sizeT hes, run_und k4, hl, hn, typeInfo, zeroValue, hi, hz, h63, h48, Question.forced, hf, hfo, newRow, grownCap]
  congr 2
  apply Array.ext'
  simp [List.append_assoc]
end Go.Proofs.Ytmglahnoemgieaa.Ax
namespace Go.Proofs.Ytmglahnoemgieaa.Ax
open Go Go.RowKit
set_option linter.unusedSimpArgs false
set_option linter.unusedVariables false
variable {c : Cfg} {A M : Mu} {we : World} {s : S} {o : Oper} {a : Act} {w w' : World}

theorem sound_app (h : SRel c A we M s a w) {call : CallF} {e : TypeId} {dst src v : AV} {h' : H} {lw : Option Nat} (hd : doHeap c call s.h (.app e dst src) = some (.val v h' lw)) {ts : Array TypeId} {ty : TypeId} (hT : AppT c.P ts e)
    {d x : Value} (hdst : Rv M dst d) (hx : Rv M src x) (hnd : noBx dst = true) (hnx : noBx src = true) :
    ∃ y w' M', (Builtin.append_ ts ty #[d, x]).run c.P w = .ok y w' ∧ HStep c.w0 M w M' h' w' ∧ Rv M' v y := by
  simp only [doHeap] at hd
  split at hd
  · cases hd
  · rename_i es hes
    split at hd
    · cases hd
    · rename_i xs m hsrc
      obtain ⟨ys, hS, hys, hxl, hxn⟩ := srcCells_rel h hsrc hx hnx
      have hyl := hys.length
      split at hd
      · cases hd
      · rename_i hone
        have hone : xs.all oneA = true := by simpa using hone
        split at hd
        · -- nothing there yet
          simp only [Rv] at hdst
          subst hdst
          split at hd
          · rename_i hm
            cases hd
            subst hm
            have hy0 : ys = [] := List.length_eq_zero_iff.1 (by omega)
            refine ⟨.slice none 0 0, w, M, ?_, HStep.refl h.hr, rfl⟩
            obtain ⟨t, h1, h2, u, du, h3, h4, h5⟩ := hT
            have hf := hS.2 w rfl
            have hl := hS.1 w
            have hq : (match du with | .int _ => true | _ => false) = false := by cases du <;> simp at h5 ⊢
            simp only [Builtin.append_, h1, h3, List.getElem?_toArray, List.getElem?_cons_zero, List.getElem?_cons_succ, Sem.run_bind, run_und h2, run_sizeT hes, run_und h4, Result.andThen_ok, Sem.run_pure,
              hq, Bool.false_eq_true, if_false, hl, Nat.add_zero, Nat.le_refl, if_true, Bool.not_false, hf]
          · rename_i hm
            split at hd
            · rename_i hroom
              cases hd
              obtain ⟨i, z, hi, hz, hzs, hb, hr1, hr2⟩ := room_rel hroom
              have hes' : es = i.size := by
                simp [sizeT, hi] at hes; exact hes.symm
              subst hes'
              have hrun := run_append_out (w := w) (ty := ty) hT hi hz hS none 0 0 (by omega) (olds := []) (fun w' _ => rfl) (by simpa using hr1) (by simpa using hr2)
              simp only [Nat.zero_add] at hrun
              have hge := grownCap_ge w m 0 e
              have hsz : (([] : List Value).toArray ++ ys.toArray ++ Builtin.zeroCells z.cells (grownCap w m 0 e - m)).size = grownCap w m 0 e * i.size := by
                simp only [Array.size_append, size_zeroCells, hzs, List.size_toArray, List.length_nil]
                rw [← hyl, hxl, Nat.sub_mul]
                have := Nat.mul_le_mul_right i.size hge
                omega
              have htk : (([] : List Value).toArray ++ ys.toArray ++ Builtin.zeroCells z.cells (grownCap w m 0 e - m)).toList.take xs.length = ys := by
                simp [hyl]
              have st := (HStep.drew h.hr).trans (heap_new h.hr.drew hxn e (0, 0) (.inl rfl) (by
                  rw [hsz, hxl]
                  exact Nat.mul_le_mul_right _ hge) (by rw [htk]; exact hys))
              refine ⟨_, _, _, hrun, st, ?_⟩
              rw [← h.hr.n]
              refine ⟨by simp [Mu.withBlk], by simp [Mu.withBlk], _, _, rfl, hge, fun _ => ?_⟩
              simp only [Mu.withBlk, if_true, Nat.zero_le, Nat.sub_zero, Nat.zero_add, true_and, World.size_drew]
              exact ⟨hsz.symm, .inr trivial⟩
            · cases hd
        · rename_i b g off len es'
          split at hd
          · cases hd
          · rename_i k hk
            obtain ⟨k1, k3, k4⟩ := h.hr.blk b k hk
            obtain ⟨cur, e', fr, k5, k6, k7, k8, k9⟩ := k4.row
            obtain ⟨p0, p1, ad, cap, rfl, p2, p3⟩ := hdst
            split at hd
            · rename_i hcond
              obtain ⟨c1, c2, c3, c4⟩ := hcond
              obtain ⟨p4, p5, p6⟩ := p3 (k1.trans c1)
              have c2 := c2.symm
              subst c2
              split at hd
              · rename_i hm
                cases hd
                subst hm
                have hy0 : ys = [] := List.length_eq_zero_iff.1 (by omega)
                subst hy0
                have hrun := run_append_in (w := w) (ty := ty) hT hes hS ad len cap (by omega)
                refine ⟨_, w, M, hrun, HStep.refl h.hr, ?_⟩
                exact ⟨p0, p1, ad, cap, rfl, p2, fun _ => ⟨p4, p5, p6⟩⟩
              · rename_i hm
                have hmul : (len + m) * es = len * es + m * es := Nat.add_mul _ _ _
                have hshift := k4.shift
                split at hd
                · rename_i hfit
                  cases hd
                  have hle : (len + m) * es ≤ cap * es := by omega
                  have hcap : len + m ≤ cap := Nat.le_of_mul_le_mul_right hle c4
                  have hc0 : ¬ cap = 0 := by omega
                  have had := p6.resolve_left hc0
                  subst had
                  have hrun := run_append_in (w := w) (ty := ty) hT hes hS ⟨(M.home b).blk, off - (M.home b).shift, none⟩ len cap hcap
                  rw [add_off] at hrun
                  have hst := run_storeCells c.P (M.home b).blk e' fr (off - (M.home b).shift + len * es) ys 0 cur w k5 k6 (by omega) (ones_rel hys hone)
                  rw [hst] at hrun
                  simp only [Result.andThen_ok] at hrun
                  have hlen : (k.cells.take (off + len * es) ++ xs ++ k.cells.drop (off + (len + m) * es)).length = k.cells.length := by simp; omega
                  have st := heap_write h.hr hk (cells := k.cells.take (off + len * es) ++ xs ++ k.cells.drop (off + (len + m) * es)) (g := k.gen) (Nat.le_refl _)
                    (by simp only [noBxs_append, Bool.and_eq_true]; exact ⟨⟨noBxs_take _ k4.nobx, hxn⟩, noBxs_drop _ k4.nobx⟩) (by rw [hlen]; exact hshift)
                    (cur := (cur.toList.take (off - (M.home b).shift + len * es + 0) ++ ys ++ cur.toList.drop (off - (M.home b).shift + len * es + 0 + ys.length)).toArray) e' fr
                    (by
                      rcases k6 with hf | hf
                      · exact .inl hf
                      · refine .inr ?_
                        simp only [List.size_toArray, List.length_append, List.length_take, List.length_drop, Array.length_toList] at *
                        omega)
                    (by simp only [List.size_toArray, List.length_append, List.length_take, List.length_drop, Array.length_toList] at *; omega)
                    (by simp only [List.size_toArray, List.length_append, List.length_take, List.length_drop, Array.length_toList] at *; omega)
                    (by
                      rw [hlen]
                      have e1 : (k.cells.take (off + len * es) ++ xs ++ k.cells.drop (off + (len + m) * es)).drop (M.home b).shift
                          = (k.cells.drop (M.home b).shift).take (off + len * es - (M.home b).shift) ++ xs ++ (k.cells.drop (M.home b).shift).drop (off + len * es - (M.home b).shift + xs.length) := by
                        rw [List.append_assoc, List.drop_append_of_le_length (by simp; omega), List.drop_take, List.drop_drop, ← List.append_assoc]
                        congr 2; omega
                      rw [e1]
                      have e2 : (cur.toList.take (off - (M.home b).shift + len * es + 0) ++ ys ++ cur.toList.drop (off - (M.home b).shift + len * es + 0 + ys.length)).take (k.cells.length - (M.home b).shift)
                          = (cur.toList.take (k.cells.length - (M.home b).shift)).take (off + len * es - (M.home b).shift) ++ ys ++ (cur.toList.take (k.cells.length - (M.home b).shift)).drop (off + len * es - (M.home b).shift + xs.length) := by
                        simp only [Nat.add_zero]
                        rw [List.take_append, List.take_append, List.take_take, List.take_take, List.drop_take]
                        congr 1
                        · congr 1
                          · congr 1; simp only [Array.length_toList] at *; omega
                          · rw [List.take_of_length_le]; simp only [List.length_take, Array.length_toList] at *; omega
                        · congr 1
                          · simp only [List.length_append, List.length_take, Array.length_toList] at *; omega
                          · congr 1; simp only [List.length_append, List.length_take, Array.length_toList] at *; omega
                      simp only
                      rw [e2]
                      exact ((k9.take _).append hys).append (k9.drop _))
                  refine ⟨_, _, _, hrun, st, ?_⟩
                  refine ⟨p0, by simp [Mu.withGen]; omega, _, cap, rfl, hcap, fun _ => ⟨p4, p5, .inr rfl⟩⟩
                · rename_i hfit
                  split at hd
                  · rename_i hroom
                    cases hd
                    obtain ⟨i, z, hi, hz, hzs, hb, hr1, hr2⟩ := room_rel hroom
                    have hes' : es = i.size := by
                      simp [sizeT, hi] at hes; exact hes.symm
                    have hlenx : (k.cells.take (off + len * es) ++ xs).length = off + (len + m) * es := by simp; omega
                    have hnx2 : noBxs (k.cells.take (off + len * es) ++ xs) = true := by simp only [noBxs_append, Bool.and_eq_true]; exact ⟨noBxs_take _ k4.nobx, hxn⟩
                    by_cases hcap : len + m ≤ cap
                    · have hc0 : ¬ cap = 0 := by omega
                      have had := p6.resolve_left hc0
                      subst had
                      have hle : (len + m) * es ≤ cap * es := Nat.mul_le_mul_right _ hcap
                      have hrun := run_append_in (w := w) (ty := ty) hT hes hS ⟨(M.home b).blk, off - (M.home b).shift, none⟩ len cap hcap
                      rw [add_off] at hrun
                      have hst := run_storeCells c.P (M.home b).blk e' fr (off - (M.home b).shift + len * es) ys 0 cur w k5 k6 (by omega) (ones_rel hys hone)
                      rw [hst] at hrun
                      simp only [Result.andThen_ok] at hrun
                      have st := heap_write h.hr hk (cells := k.cells.take (off + len * es) ++ xs) (g := k.gen + 1) (Nat.le_succ _) hnx2 (by rw [hlenx]; omega)
                        (cur := (cur.toList.take (off - (M.home b).shift + len * es + 0) ++ ys ++ cur.toList.drop (off - (M.home b).shift + len * es + 0 + ys.length)).toArray) e' fr
                        (by
                          rcases k6 with hf | hf
                          · exact .inl hf
                          · refine .inr ?_
                            simp only [List.size_toArray, List.length_append, List.length_take, List.length_drop, Array.length_toList] at *
                            omega)
                        (by simp only [List.size_toArray, List.length_append, List.length_take, List.length_drop, Array.length_toList] at *; omega)
                        (by rw [hlenx]; simp only [List.size_toArray, List.length_append, List.length_take, List.length_drop, Array.length_toList] at *; omega)
                        (by
                          rw [hlenx]
                          have e1 : (k.cells.take (off + len * es) ++ xs).drop (M.home b).shift = (k.cells.drop (M.home b).shift).take (off + len * es - (M.home b).shift) ++ xs := by
                            rw [List.drop_append_of_le_length (by simp; omega), List.drop_take]
                          rw [e1]
                          have e2 : (cur.toList.take (off - (M.home b).shift + len * es + 0) ++ ys ++ cur.toList.drop (off - (M.home b).shift + len * es + 0 + ys.length)).take (off + (len + m) * es - (M.home b).shift)
                              = (cur.toList.take (k.cells.length - (M.home b).shift)).take (off + len * es - (M.home b).shift) ++ ys := by
                            simp only [Nat.add_zero]
                            rw [List.take_append_of_le_length (by simp only [List.length_append, List.length_take, Array.length_toList] at *; omega)]
                            rw [List.take_of_length_le (by simp only [List.length_append, List.length_take, Array.length_toList] at *; omega)]
                            rw [List.take_take]
                            congr 2; omega
                          simp only
                          rw [e2]
                          exact (k9.take _).append hys)
                      refine ⟨_, _, _, hrun, st, ?_⟩
                      refine ⟨p0, by simp [Mu.withGen]; omega, _, cap, rfl, hcap, fun _ => ⟨p4, p5, .inr rfl⟩⟩
                    · subst hes'
                      have holds : ∃ olds : List Value, (∀ w' : World, w'.heap = w.heap → (Builtin.firstCells i.size len (.slice (some ad) len cap)).run c.P w' = .ok olds.toArray w') ∧ Rvs M ((k.cells.take (off + len * i.size)).drop off) olds := by
                        have hr := (k9.drop (off - (M.home b).shift)).take (len * i.size)
                        rw [List.drop_drop, show (M.home b).shift + (off - (M.home b).shift) = off from by omega] at hr
                        have hlen : ((k.cells.drop off).take (len * i.size)).length = len * i.size := by simp; omega
                        refine ⟨_, (src_cells (P := c.P) (w := w) (cap := cap) (ad := ad) (by rw [← hr.length]; exact hlen) (fun h0 j v hv => ?_)).2, ?_⟩
                        · have hc0 : ¬ cap = 0 := by
                            intro e; subst e
                            have : len = 0 := by omega
                            subst this; simp at h0
                          rw [p6.resolve_left hc0, add_off, cell_blk k5]
                          rw [List.getElem?_take] at hv
                          split at hv
                          · rw [List.getElem?_drop, List.getElem?_take] at hv
                            split at hv
                            · simpa using hv
                            · cases hv
                          · cases hv
                        · rw [List.drop_take, show off + len * i.size - off = len * i.size from by omega]
                          exact hr
                      obtain ⟨olds, ho, hor⟩ := holds
                      have hol := hor.length
                      have hrun := run_append_out (w := w) (ty := ty) hT hi hz hS (some ad) len cap (by omega) ho hr1 hr2
                      have hge := grownCap_ge w (len + m) cap e
                      have hgm := Nat.mul_le_mul_right i.size hge
                      have hsz : (olds.toArray ++ ys.toArray ++ Builtin.zeroCells z.cells (grownCap w (len + m) cap e - (len + m))).size = grownCap w (len + m) cap e * i.size := by
                        simp only [Array.size_append, size_zeroCells, hzs, List.size_toArray]
                        rw [← hyl, hxl, Nat.sub_mul, ← hol]
                        simp only [List.length_drop, List.length_take]
                        omega
                      have st := (HStep.drew h.hr).trans (heap_move h.hr.drew hk (cells := k.cells.take (off + len * i.size) ++ xs) (g := k.gen + 1) (Nat.lt_succ_self _) hnx2 (sh := off) (by rw [hlenx]; omega)
                        (cur := olds.toArray ++ ys.toArray ++ Builtin.zeroCells z.cells (grownCap w (len + m) cap e - (len + m))) e (0, 0) (.inl rfl) (by rw [hlenx, hsz]; omega)
                        (by
                          rw [hlenx, List.drop_append_of_le_length (by simp; omega)]
                          have e2 : (olds.toArray ++ ys.toArray ++ Builtin.zeroCells z.cells (grownCap w (len + m) cap e - (len + m))).toList.take (off + (len + m) * i.size - off) = olds ++ ys := by
                            have hl2 : (olds ++ ys).length = off + (len + m) * i.size - off := by
                              simp only [List.length_append, ← hyl, hxl, ← hol, List.length_drop, List.length_take]
                              omega
                            simp only [Array.toList_append]
                            exact List.take_left' hl2
                          rw [e2]
                          exact hor.append hys))
                      refine ⟨_, _, _, hrun, st, ?_⟩
                      refine ⟨p0, by simp [Mu.withMove]; omega, _, _, rfl, hge, fun _ => ?_⟩
                      simp only [Mu.withMove, if_true, Nat.le_refl, Nat.sub_self, Nat.zero_add, true_and, World.size_drew]
                      exact ⟨hsz.symm, .inr trivial⟩
                  · cases hd
            · cases hd
        · cases hd
end Go.Proofs.Ytmglahnoemgieaa.Ax
