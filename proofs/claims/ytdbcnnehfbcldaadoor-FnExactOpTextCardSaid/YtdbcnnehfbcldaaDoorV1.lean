/- A plain reading of Go code and its soundness, part 1. No condition. -/
import Derived.Calls
import Derived.Laws.AppendOwn
import Derived.Laws.Entries
import Derived.Laws.Concat
import Derived.Laws.Small
import Derived.Laws.Strings
import Derived.Laws.DeepStrings4
import Derived.Laws.Cells
set_option linter.all false
set_option linter.unusedSimpArgs false
set_option linter.unusedVariables false
set_option linter.unnecessarySimpa false
/- A plain reading of Go code over values: slices are lists, structs are lists of cells, memory is what the running call itself owns. Definitions alone; nothing is assumed. -/
namespace Go.Proofs.YtdbcnnehfbcldaaDoor.Pv
open Go
inductive PV where
  | int (k : IntKind) (n : Int)
  | bool (b : Bool)
  | str (s : ByteArray)
  | nilp
  | sl (fl : Nat) (e : TypeId) (xs : List PV)
  | agg (cs : List PV)
  | ref (cs : List PV)
  | clo (f : FuncId) (cs : List PV)
  | nili
  | iface (t : TypeId) (x : PV)
  deriving Inhabited
def PV.cells : PV → List PV
  | .agg cs => cs
  | p => [p]
mutual
def PV.dem : PV → PV
  | .sl _ e xs => .sl 0 e (demL xs)
  | .agg cs => .agg (demL cs)
  | .ref cs => .ref (demL cs)
  | .clo f cs => .clo f (demL cs)
  | .iface t x => .iface t x.dem
  | p => p
def demL : List PV → List PV
  | [] => []
  | x :: xs => x.dem :: demL xs
end
mutual
def PV.flat : PV → Bool
  | .sl _ _ _ => false
  | .agg cs => flatL cs
  | .ref _ => false
  | .clo _ _ => false
  | .iface _ x => x.flat
  | _ => true
def flatL : List PV → Bool
  | [] => true
  | x :: xs => x.flat && flatL xs
end
mutual
def PV.allOwn : PV → Bool
  | .sl fl _ xs => decide (1 ≤ fl) && allOwnL xs
  | .agg cs => allOwnL cs
  | .ref _ => false
  | .clo _ _ => false
  | .iface _ x => x.allOwn
  | _ => true
def allOwnL : List PV → Bool
  | [] => true
  | x :: xs => x.allOwn && allOwnL xs
end
inductive Root where
  | v (t : Nat)
  | c (o n : Nat)
  deriving DecidableEq
structure Ref where
  root : Root
  k : Nat
  kn : Nat
  path : List (Nat × Nat)
inductive AV where
  | pv (p : PV)
  | rw (r : Ref)
  | ptr (o k c : Nat)
  | ept (r : Ref) (i f : Nat)
  | mp (o k : Nat)
  | clo (f : FuncId) (caps : List AV)
  | agg (cs : List AV)
  | undef
  | void
  deriving Inhabited
structure Mem where
  b : Nat → Option (List AV)
  r : Nat → Option PV
  mp : Nat → Option (List (PV × PV))
  kb : Nat → Nat
  kr : Root → Nat
  kn : Root → Nat
def upd {α β : Type} [DecidableEq α] (f : α → β) (d : α) (v : β) : α → β := fun t => if t = d then v else f t
theorem upd_same {α β : Type} [DecidableEq α] (f : α → β) (d : α) (v : β) : upd f d v d = v := by simp [upd]
theorem upd_ne {α β : Type} [DecidableEq α] (f : α → β) (d : α) (v : β) (t : α) (h : t ≠ d) : upd f d v t = f t := by simp [upd, h]
def Mem.cell (m : Mem) (o n : Nat) : Option AV := (m.b o).bind (·[n]?)
def Mem.at (m : Mem) : Root → Option PV
  | .v t => m.r t
  | .c o n => match m.cell o n with
    | some (.pv p) => some p
    | _ => none
def PV.sub (p : PV) : List (Nat × Nat) → Option PV
  | [] => some p
  | (i, f) :: rest => match p with
    | .sl _ _ xs => match xs[i]? with
      | some x => match x.cells[f]? with
        | some c => c.sub rest
        | none => none
      | none => none
    | _ => none
def setCells (x : PV) (f : Nat) (cs : List PV) : PV :=
  match x with
  | .agg old => .agg (old.take f ++ cs ++ old.drop (f + cs.length))
  | _ => cs.headD .nilp
def PV.put (p : PV) (q : PV) : List (Nat × Nat) → PV
  | [] => q
  | (i, f) :: rest => match p with
    | .sl fl e xs => match xs[i]? with
      | some x => match x.cells[f]? with
        | some c => .sl fl e (xs.set i (setCells x f [c.put q rest]))
        | none => p
      | none => p
    | _ => p
def Ref.valid (m : Mem) (r : Ref) : Bool := m.kr r.root == r.k && (r.path.isEmpty || m.kn r.root == r.kn)
def Mem.deref (m : Mem) (r : Ref) : Option PV := if r.valid m then (m.at r.root).bind (·.sub r.path) else none
def Mem.setRoot (m : Mem) (r : Root) (p : PV) : Mem :=
  match r with
  | .v t => { m with r := upd m.r t (some p) }
  | .c o n => match m.b o with
    | some cs => { m with b := upd m.b o (some (cs.set n (.pv p))) }
    | none => m
def Mem.bumpN (m : Mem) (r : Root) : Mem := { m with kn := upd m.kn r (m.kn r + 1) }
def Mem.bumpR (m : Mem) (r : Root) : Mem := { m with kr := upd m.kr r (m.kr r + 1) }
def Mem.setRef (m : Mem) (r : Ref) (q : PV) : Mem :=
  match m.at r.root with
  | some p => (m.setRoot r.root (p.put q r.path)).bumpN r.root
  | none => m
def Mem.take (m : Mem) (r : Root) : Mem :=
  (match r with
  | .v t => { m with r := upd m.r t none }
  | .c o n => match m.b o with
    | some cs => { m with b := upd m.b o (some (cs.set n .undef)) }
    | none => m).bumpR r
def ownP : PV → Bool
  | .sl fl _ _ => decide (1 ≤ fl)
  | _ => false
def PV.own : PV → Bool
  | .agg cs => cs.any ownP
  | p => ownP p
def toPV (m : Mem) : Nat → AV → Option PV
  | 0, _ => none
  | n + 1, a => match a with
    | .pv p => some (if p.own then p.dem else p)
    | .rw r => (m.deref r).map PV.dem
    | .ptr o k c => if m.kb o = k then ((m.b o).bind fun cs => (cs.drop c).mapM (toPV m n)).map PV.ref else none
    | .ept r i f => match m.deref r with
      | some (.sl _ _ xs) => (xs[i]?).map fun x => .ref (demL (x.cells.drop f))
      | _ => none
    | .clo f caps => (caps.mapM (toPV m n)).map (.clo f)
    | .mp _ _ => none
    | .agg cs => (cs.mapM (toPV m n)).map .agg
    | .undef => none
    | .void => none
inductive Opd where
  | t (n : Nat)
  | k (p : PV)
def Opd.isNil : Opd → Bool
  | .k .nilp => true
  | _ => false
inductive PO where
  | mov (x : Opd)
  | pick (c a b : Opd)
  | alloc (zs : List PV)
  | box (x : Opd) (n : Nat)
  | build (zs : List PV) (parts : List (Nat × Nat)) (xs : List Opd)
  | lit (e : TypeId) (n : Nat) (xs : List Opd)
  | load (n : Nat) (agg : Bool) (a : Opd)
  | store (n : Nat) (a v : Opd)
  | nilck (x : Opd)
  | bin (op : BinOp) (k : Nat) (x y : Opd)
  | eqs (ng : Bool) (ks : List Nat) (x y : Opd)
  | un (op : UnOp) (x : Opd)
  | conv (k : IntKind) (x : Opd)
  | b2s (x : Opd)
  | fld (off n : Nat) (agg : Bool) (x : Opd)
  | flda (off : Nat) (x : Opd)
  | idxa (e : TypeId) (x i : Opd)
  | idxs (x i : Opd)
  | slc (e : Option TypeId) (x lo hi : Opd)
  | ext (x : Opd)
  | mkf (f : FuncId) (caps : List Opd)
  | call (f : FuncId) (args : List Opd)
  | callv (f : Opd) (args : List Opd)
  | newb (f : FuncId) (zs : List PV) (x : Opd)
  | slv (e : TypeId) (x lo hi : Opd)
  | idv (e : TypeId) (x i : Opd)
  | cut (e : TypeId) (x : Opd)
  | ldt (n : Nat) (a : Opd)
  | tmv (t n : Nat)
  | mkm
  | mup (k : Nat) (x key v : Opd)
  | mdl (k : Nat) (x key : Opd)
  | mlk (k : Nat) (z : PV) (x key : Opd)
  | lnm (x : Opd)
  | app (e : TypeId) (bytes : Nat) (x y : Opd)
  | mks (e : TypeId) (zero : PV) (bytes : Nat) (n : Opd)
  | len (sl : Bool) (x : Opd)
  | min2 (x y : Opd)
  | max2 (x y : Opd)
def PO.opds : PO → List Opd
  | .alloc _ => []
  | .mov x | .box x _ | .load _ _ x | .nilck x | .un _ x | .conv _ x | .b2s x | .fld _ _ _ x | .flda _ x | .ext x | .mks _ _ _ x | .len _ x | .newb _ _ x | .ldt _ x | .lnm x | .cut _ x => [x]
  | .pick c a b => [c, a, b]
  | .build _ _ xs | .lit _ _ xs | .mkf _ xs | .call _ xs => xs
  | .store _ a v => [a, v]
  | .bin _ _ x y | .eqs _ _ x y | .idxa _ x y | .idxs x y | .idv _ x y | .app _ _ x y | .min2 x y | .max2 x y => [x, y]
  | .slc _ x l h | .slv _ x l h => [x, l, h]
  | .callv f xs => f :: xs
  | .mkm => []
  | .mup _ x k v => [x, k, v]
  | .mdl _ x k => [x, k]
  | .mlk _ _ x k => [x, k]
  | .tmv t n => (List.range n).map fun j => .t (t + 1000000 * (j + 1))
def andI (k : IntKind) (a b : Int) : Int := k.wrap (BitVec.ofInt k.bits a &&& BitVec.ofInt k.bits b).toNat
def orI (k : IntKind) (a b : Int) : Int := k.wrap (BitVec.ofInt k.bits a ||| BitVec.ofInt k.bits b).toNat
def xorI (k : IntKind) (a b : Int) : Int := k.wrap (BitVec.ofInt k.bits a ^^^ BitVec.ofInt k.bits b).toNat
def andNotI (k : IntKind) (a b : Int) : Int := k.wrap (BitVec.ofInt k.bits a &&& ~~~BitVec.ofInt k.bits b).toNat
def shlI (k : IntKind) (a b : Int) : Int := k.wrap (a * 2 ^ min b.toNat k.bits)
def shrI (k : IntKind) (a b : Int) : Int := a.fdiv (2 ^ min b.toNat k.bits)
def binS (op : BinOp) (t : Nat) : PV → PV → Option PV
  | .int k a, .int k' b =>
    if op = .shl then (if b < 0 then none else some (.int k (shlI k a b))) else
    if op = .shr then (if b < 0 then none else some (.int k (shrI k a b))) else
    if k ≠ k' then none else
    match op with
    | .and => some (.int k (andI k a b))
    | .or => some (.int k (orI k a b))
    | .xor => some (.int k (xorI k a b))
    | .andNot => some (.int k (andNotI k a b))
    | .add => some (.int k (k.wrap (a + b)))
    | .sub => some (.int k (k.wrap (a - b)))
    | .mul => some (.int k (k.wrap (a * b)))
    | .quo => if b = 0 then none else some (.int k (k.wrap (a.tdiv b)))
    | .rem => if b = 0 then none else some (.int k (a.tmod b))
    | .eql => some (.bool (a == b))
    | .neq => some (.bool (a != b))
    | .lss => some (.bool (a < b))
    | .leq => some (.bool (a ≤ b))
    | .gtr => some (.bool (a > b))
    | .geq => some (.bool (a ≥ b))
    | _ => none
  | .bool a, .bool b =>
    if t ≠ 1 then none else
    match op with
    | .eql => some (.bool (a == b))
    | .neq => some (.bool (!(a == b)))
    | _ => none
  | .str a, .str b =>
    match op with
    | .add => if ((a.size + b.size : Nat) : Int) > 9223372036854775807 then none else some (.str (a ++ b))
    | .eql => some (.bool (a.toList == b.toList))
    | .neq => some (.bool (!(a.toList == b.toList)))
    | .lss => some (.bool (Op.bytesLess a.toList b.toList))
    | .leq => some (.bool (Op.bytesLess a.toList b.toList || a.toList == b.toList))
    | .gtr => some (.bool (!(Op.bytesLess a.toList b.toList || a.toList == b.toList)))
    | .geq => some (.bool (!Op.bytesLess a.toList b.toList))
    | _ => none
  | .nilp, .nilp => if t ≠ 2 then none else match op with
    | .eql => some (.bool true)
    | .neq => some (.bool false)
    | _ => none
  | .ref _, .nilp | .nilp, .ref _ => if t ≠ 2 then none else match op with
    | .eql => some (.bool false)
    | .neq => some (.bool true)
    | _ => none
  | _, _ => none
def eqK : List Nat → List AV → List AV → Option Bool
  | [], [], [] => some true
  | 0 :: ks, .pv (.int k a) :: x, .pv (.int k' b) :: y => if k = k' then (eqK ks x y).map fun r => (a == b) && r else none
  | 1 :: ks, .pv (.bool a) :: x, .pv (.bool b) :: y => (eqK ks x y).map fun r => (a == b) && r
  | 2 :: ks, .pv (.str a) :: x, .pv (.str b) :: y => (eqK ks x y).map fun r => (a.toList == b.toList) && r
  | _, _, _ => none
def unS (op : UnOp) : PV → Option PV
  | .int k n => match op with
    | .neg => some (.int k (k.wrap (0 - n)))
    | .xor => some (.int k (xorI k (if k.signed then -1 else k.max) n))
    | _ => none
  | .bool b => match op with
    | .not => some (.bool !b)
    | _ => none
  | _ => none
def readCell (m : Mem) (o j : Nat) : AV → AV
  | .pv (.sl fl e xs) => if fl = 0 then .pv (.sl fl e xs) else .rw ⟨.c o j, m.kr (.c o j), m.kn (.c o j), []⟩
  | a => a
def readCells (m : Mem) (o : Nat) : Nat → List AV → List AV
  | _, [] => []
  | j, a :: as => readCell m o j a :: readCells m o (j + 1) as
def elemCell (kn : Nat) (r : Ref) (i j : Nat) : PV → AV
  | .sl fl e xs => if fl = 0 then .pv (.sl fl e xs) else .rw ⟨r.root, r.k, kn, r.path ++ [(i, j)]⟩
  | p => .pv p
def elemCells (kn : Nat) (r : Ref) (i : Nat) : Nat → List PV → List AV
  | _, [] => []
  | j, p :: ps => elemCell kn r i j p :: elemCells kn r i (j + 1) ps
def one (agg : Bool) (cs : List AV) : Option AV := if agg then some (.agg cs) else match cs with
  | [a] => some a
  | _ => none
def AV.cells : AV → List AV
  | .agg cs => cs
  | a => [a]
def ofPV : PV → AV
  | .agg cs => .agg (cs.map .pv)
  | p => .pv p
def pvs : List AV → Option (List PV)
  | [] => some []
  | .pv p :: as => (pvs as).map (p :: ·)
  | _ => none
def given : AV → Option PV
  | .pv p => some p
  | .agg cs => (pvs cs).map .agg
  | _ => none
def givens : List AV → Option (List PV)
  | [] => some []
  | a :: as => match given a, givens as with
    | some p, some ps => some (p :: ps)
    | _, _ => none
abbrev Oracle := FuncId → List PV → Option (List PV × List PV)
inductive Pm where
  | val
  | io (n : Nat)
  | row
  | rows (mask : List Bool)
  | own
  deriving DecidableEq
def Pm.isVal : Pm → Bool
  | .val => true
  | _ => false
def Mem.hideRoot (m : Mem) : Root → Mem
  | .v t => { m with r := upd m.r t none }
  | .c o n => match m.b o with
    | some cs => { m with b := upd m.b o (some (cs.set n .undef)) }
    | none => m
def Mem.undefCells (m : Mem) (o c n : Nat) : Mem :=
  match m.b o with
  | some cs => { m with b := upd m.b o (some (cs.take c ++ List.replicate n .undef ++ cs.drop (c + n))) }
  | none => m
def takeIn (m : Mem) : Pm → AV → Option (Option PV × Mem)
  | .own, .rw r => if r.path = [] then match m.deref r with
    | some p => if ownP p then some (some p, m.take r.root) else none
    | none => none else none
  | .own, .pv p => if ownP p then some (some p, m) else none
  | .own, _ => none
  | .io n, .ptr o k c => if m.kb o = k then match m.b o with
    | some cs => match pvs ((cs.drop c).take n) with
      | some ps => if ps.length = n ∧ 1 ≤ n then some (some (.ref ps), m.undefCells o c n) else none
      | none => none
    | none => none else none
  | .io _, _ => none
  | _, _ => some (none, m)
def takesIn (m : Mem) : List Pm → List AV → Option (List (Option PV) × Mem)
  | [], [] => some ([], m)
  | q :: qs, a :: as => match takeIn m q a with
    | some (p, m1) => match takesIn m1 qs as with
      | some (ps, m2) => some (p :: ps, m2)
      | none => none
    | none => none
  | _, _ => none
def rowIn (m : Mem) : AV → Option (PV × Mem)
  | .rw r => match m.deref r with
    | some p => if ownP p then some (p, m.hideRoot r.root) else none
    | none => none
  | _ => none
def cellsIn (m : Mem) : List AV → Option (List PV × Mem)
  | [] => some ([], m)
  | .pv p :: cs => if ownP p then none else match cellsIn m cs with
    | some (ps, m2) => some (p :: ps, m2)
    | none => none
  | c :: cs => match rowIn m c with
    | some (p, m1) => match cellsIn m1 cs with
      | some (ps, m2) => some (p :: ps, m2)
      | none => none
    | none => none
def lendIn (m : Mem) : Pm → AV → Option (Option PV × Mem)
  | .row, a => match rowIn m a with
    | some (p, m1) => some (some p, m1)
    | none => none
  | .rows ks, .agg cs => match cellsIn m cs with
    | some (ps, m1) => if ps.map ownP = ks then some (some (.agg ps), m1) else none
    | none => none
  | .rows _, _ => none
  | _, _ => some (none, m)
def lendsIn (m : Mem) : List Pm → List AV → Option (List (Option PV) × Mem)
  | [], [] => some ([], m)
  | q :: qs, a :: as => match lendIn m q a with
    | some (p, m1) => match lendsIn m1 qs as with
      | some (ps, m2) => some (p :: ps, m2)
      | none => none
    | none => none
  | _, _ => none
def valsIn (m : Mem) : List Pm → List AV → List (Option PV) → List (Option PV) → Option (List PV)
  | [], [], [], [] => some []
  | .val :: qs, a :: as, _ :: xs, _ :: ys => match toPV m 4 a, valsIn m qs as xs ys with
    | some p, some ps => some (p :: ps)
    | _, _ => none
  | _ :: qs, _ :: as, some x :: xs, _ :: ys => match valsIn m qs as xs ys with
    | some ps => some (x :: ps)
    | none => none
  | _ :: qs, _ :: as, none :: xs, some y :: ys => match valsIn m qs as xs ys with
    | some ps => some (y :: ps)
    | none => none
  | _, _, _, _ => none
def ioBoxes : List Pm → List AV → List Nat
  | .io _ :: qs, .ptr o _ _ :: as => o :: ioBoxes qs as
  | _ :: qs, _ :: as => ioBoxes qs as
  | _, _ => []
def apartB : List Nat → Bool
  | [] => true
  | x :: xs => !xs.contains x && apartB xs
def Mem.hideBoxes (m : Mem) (L : List Nat) : Mem := { m with b := fun o => if L.contains o then none else m.b o }
def argsIn (m : Mem) (qs : List Pm) (as : List AV) : Option (List PV × Mem × Mem) :=
  if apartB (ioBoxes qs as) then match takesIn m qs as with
    | some (xs, m1) => match lendsIn m1 qs as with
      | some (ys, m2) => match valsIn (m2.hideBoxes (ioBoxes qs as)) qs as xs ys with
        | some ps => some (ps, m1, m2.hideBoxes (ioBoxes qs as))
        | none => none
      | none => none
    | none => none
  else none
def bumpFrom (kr : Root → Nat) (o c n : Nat) : Root → Nat := fun r => match r with
  | .c o' j => if o' = o ∧ c ≤ j ∧ j < c + n then kr r + 1 else kr r
  | r => kr r
def Mem.setCells (m : Mem) (o c : Nat) (as : List AV) : Mem :=
  match m.b o with
  | some cs => { m with b := upd m.b o (some (cs.take c ++ as ++ cs.drop (c + as.length))), kr := bumpFrom m.kr o c as.length }
  | none => m
def rowOut (m : Mem) (r : Ref) (p : PV) : Option Mem :=
  match m.deref r, p with
  | some (.sl fl e xs), .sl fl' e' xs' => if fl = fl' ∧ e = e' ∧ xs'.length = xs.length then some (m.setRef r (.sl fl' e' xs')) else none
  | _, _ => none
def cellsOut (m : Mem) : List AV → List PV → Option Mem
  | [], [] => some m
  | .rw r :: cs, p :: ps => match rowOut m r p with
    | some m1 => cellsOut m1 cs ps
    | none => none
  | _ :: cs, _ :: ps => cellsOut m cs ps
  | _, _ => none
def rowsOut (m : Mem) : List Pm → List AV → List PV → Option Mem
  | [], [], [] => some m
  | .row :: qs, .rw r :: as, p :: outs => match rowOut m r p with
    | some m1 => rowsOut m1 qs as outs
    | none => none
  | .rows _ :: qs, .agg cs :: as, .agg ps :: outs => match cellsOut m cs ps with
    | some m1 => rowsOut m1 qs as outs
    | none => none
  | .io _ :: qs, _ :: as, _ :: outs => rowsOut m qs as outs
  | .val :: qs, _ :: as, outs => rowsOut m qs as outs
  | .own :: qs, _ :: as, outs => rowsOut m qs as outs
  | _, _, _ => none
def iosOut (m : Mem) : List Pm → List AV → List PV → Option Mem
  | [], [], [] => some m
  | .io n :: qs, .ptr o _ c :: as, .ref ps :: outs => if ps.length = n then iosOut (m.setCells o c (ps.map .pv)) qs as outs else none
  | .row :: qs, _ :: as, _ :: outs => iosOut m qs as outs
  | .rows _ :: qs, _ :: as, _ :: outs => iosOut m qs as outs
  | .val :: qs, _ :: as, outs => iosOut m qs as outs
  | .own :: qs, _ :: as, outs => iosOut m qs as outs
  | _, _, _ => none
def argsOut (m : Mem) (qs : List Pm) (as : List AV) (outs : List PV) : Option Mem := (rowsOut m qs as outs).bind fun m1 => iosOut m1 qs as outs
mutual
def PV.noRef : PV → Bool
  | .sl _ _ xs => noRefL xs
  | .agg cs => noRefL cs
  | .ref _ => false
  | .clo _ _ => false
  | .iface _ x => x.noRef
  | _ => true
def noRefL : List PV → Bool
  | [] => true
  | x :: xs => x.noRef && noRefL xs
end
def tnt (m : Mem) : Nat → AV → Bool
  | 0, _ => true
  | n + 1, a => match a with
    | .pv p => p.own
    | .rw _ => true
    | .ept _ _ _ => true
    | .ptr o _ c => match m.b o with
      | some cs => (cs.drop c).any (tnt m n)
      | none => true
    | .mp _ _ => true
    | .clo _ caps => caps.any (tnt m n)
    | .agg cs => cs.any (tnt m n)
    | .undef => true
    | .void => true
def tntP : Nat → AV → Bool
  | 0, _ => true
  | n + 1, a => match a with
    | .pv p => p.own
    | .rw _ => true
    | .ept _ _ _ => true
    | .ptr _ _ _ => true
    | .mp _ _ => true
    | .clo _ caps => caps.any (tntP n)
    | .agg cs => cs.any (tntP n)
    | .undef => true
    | .void => true
def vals : List Pm → List AV → List AV
  | .val :: qs, a :: as => a :: vals qs as
  | _ :: qs, _ :: as => vals qs as
  | _, _ => []
def outOwn : List PV → Bool
  | [] => true
  | p :: ps => (match p with
    | .ref cs => allOwnL cs
    | .agg cs => cs.all fun c => !ownP c || c.allOwn
    | p => p.allOwn) && outOwn ps
def outNoRef : List PV → Bool
  | [] => true
  | p :: ps => (match p with
    | .ref cs => noRefL cs
    | p => p.noRef) && outNoRef ps
def doCall (R : Oracle) (modes : FuncId → List Pm) (f : FuncId) (as : List AV) (m : Mem) : Option (List AV × Mem) :=
  match argsIn m (modes f) as with
  | some (ps, m1, m3) => match R f ps with
    | some (rs, outs) =>
      if ((vals (modes f) as).any (tnt m3 4) && !(allOwnL rs && outOwn outs)) || ((vals (modes f) as).any (tntP 4) && !(noRefL rs && outNoRef outs)) then none
      else match argsOut m1 (modes f) as outs with
        | some m2 => some (rs.map ofPV, m2)
        | none => none
    | none => none
  | none => none
def single (x : Option AV) (m : Mem) : Option (List AV × Mem) := x.map fun a => ([a], m)
def rowOf (m : Mem) : AV → Option PV
  | .pv p => some p
  | .rw r => m.deref r
  | _ => none
def idx (i : Int) (n : Nat) : Option Nat := if 0 ≤ i ∧ i < (n : Int) then some i.toNat else none
def bytesOf : List PV → Option (List UInt8)
  | [] => some []
  | .int .u8 n :: xs => (bytesOf xs).map (UInt8.ofNat n.toNat :: ·)
  | _ => none
def AV.isDef : AV → Bool
  | .undef => false
  | .void => false
  | _ => true
def fillCells (cs : List AV) : List (Nat × Nat) → List AV → Option (List AV)
  | [], [] => some cs
  | (off, n) :: ps, a :: as => if a.cells.length = n ∧ off + n ≤ cs.length ∧ a.cells.all (·.isDef) then fillCells (cs.take off ++ a.cells ++ cs.drop (off + n)) ps as else none
  | _, _ => none
def ownAV : AV → Bool
  | .pv p => p.own
  | .agg cs => cs.any fun
    | .pv p => p.own
    | _ => false
  | _ => false
def AV.isAgg : AV → Bool
  | .agg _ => true
  | _ => false
def Mem.setNew (m : Mem) (d : Nat) (cs : List AV) : Mem := { m with b := upd m.b d (some cs), mp := upd m.mp d none, kb := upd m.kb d (m.kb d + 1), kr := fun r => match r with
  | .c o j => if o = d then m.kr (.c o j) + 1 else m.kr (.c o j)
  | .v t => m.kr (.v t) }
def sameK : Nat → PV → PV → Option Bool
  | 0, .int .i64 a, .int .i64 b => some (a == b)
  | 1, .str a, .str b => some (a == b)
  | 2, .bool a, .bool b => some (a == b)
  | _, _, _ => none
def mfind (t : Nat) (q : PV) : List (PV × PV) → Option (Option PV)
  | [] => some none
  | e :: es => match sameK t q e.1 with
    | some true => some (some e.2)
    | some false => mfind t q es
    | none => none
def mset (t : Nat) (q v : PV) : List (PV × PV) → Option (List (PV × PV))
  | [] => some [(q, v)]
  | e :: es => match sameK t q e.1 with
    | some true => some ((q, v) :: es)
    | some false => (mset t q v es).map (e :: ·)
    | none => none
def mdel (t : Nat) (q : PV) : List (PV × PV) → Option (List (PV × PV))
  | [] => some []
  | e :: es => match sameK t q e.1 with
    | some true => some es
    | some false => (mdel t q es).map (e :: ·)
    | none => none
def Mem.newMap (m : Mem) (d : Nat) : Mem := { m.setNew d [] with b := upd m.b d none, mp := upd (m.setNew d []).mp d (some []) }
def tkCells (o : Nat) : Nat → Nat → Mem → Option (List AV × Mem)
  | _, 0, m => some ([], m)
  | j, n + 1, m => match m.cell o j with
    | some (.pv p) => match tkCells o (j + 1) n (if ownP p then m.take (.c o j) else m) with
      | some (xs, m1) => some (.pv p :: xs, m1)
      | none => none
    | _ => none
def semL (d : Nat) (m : Mem) : PO → List AV → Option (List AV × Mem)
  | .mov _, [a] => some ([a], m)
  | .ext _, [a] => match a with
    | .undef => none
    | .void => none
    | a => some ([a], m)
  | .pick _ _ _, [.pv (.bool c), a, b] => some ([if c then a else b], m)
  | .alloc zs, [] => match m.b d with
    | none => some ([.ptr d (m.kb d + 1) 0], m.setNew d (zs.map .pv))
    | some _ => none
  | .box _ n, [a] => match m.b d with
    | none => if a.cells.length = n ∧ a.cells.all (·.isDef) then some ([.ptr d (m.kb d + 1) 0], m.setNew d a.cells) else none
    | some _ => none
  | .newb _ zs _, [a] => match m.b d with
    | none => if a.isAgg = false ∧ a.isDef = true then some ([.ptr d (m.kb d + 1) 0], m.setNew d (a :: zs.tail.map .pv)) else none
    | some _ => none
  | .build zs parts _, as => (fillCells (zs.map .pv) parts as).map fun cs => ([.agg cs], m)
  | .lit e n _, as => match givens as with
    | some ps => if ps.all (·.cells.length == n) then some ([.pv (.sl 2 e ps)], m) else none
    | none => none
  | .load n g _, [.ptr o k c] => if m.kb o = k then match m.b o with
    | some cs => if ((cs.drop c).take n).length = n then single (one g (readCells m o c ((cs.drop c).take n))) m else none
    | none => none else none
  | .mkm, [] => match m.b d with
    | none => some ([.mp d (m.kb d + 1)], m.newMap d)
    | some _ => none
  | .mup t _ _ _, [.mp o k, .pv q, .pv v] => if m.kb o = k ∧ k ≠ 0 ∧ v.own = false ∧ (sameK t q q).isSome then match m.mp o, m.b o with
    | some es, none => (mset t q v es).map fun es' => ([], { m with mp := upd m.mp o (some es') })
    | _, _ => none else none
  | .mdl t _ _, [.mp o k, .pv q] => if m.kb o = k ∧ k ≠ 0 ∧ (sameK t q q).isSome then match m.mp o, m.b o with
    | some es, none => (mdel t q es).map fun es' => ([], { m with mp := upd m.mp o (some es') })
    | _, _ => none else none
  | .lnm _, [.mp o k] => if m.kb o = k then match m.mp o with
    | some es => some ([.pv (.int .i64 es.length)], m)
    | none => none else none
  | .mlk t z _ _, [.mp o k, .pv q] => if m.kb o = k ∧ (sameK t q q).isSome then match m.mp o with
    | some es => (mfind t q es).map fun r => ([ofPV (r.getD z)], m)
    | none => none else none
  | .tmv _ _, as => if as.all (·.isDef) then some (as, m) else none
  | .cut e _, [.pv (.sl fl e' _)] => if fl = 0 ∧ e = e' then some ([.pv (.sl 2 e [])], m) else none
  | .ldt n _, [.ptr o k c] => if m.kb o = k then (tkCells o c n m).map fun x => ([.agg x.1], x.2) else none
  | .load n g _, [.pv (.ref cs)] => if (cs.take n).length = n then single (one g ((cs.take n).map .pv)) m else none
  | .load n g _, [.ept r i f] => match m.deref r with
    | some (.sl fl _ xs) => match xs[i]? with
      | some x => if 1 ≤ fl ∧ ((x.cells.drop f).take n).length = n then single (one g (elemCells (m.kn r.root) r i f ((x.cells.drop f).take n))) m else none
      | none => none
    | _ => none
  | .store n _ _, [.ptr o k c, a] => if m.kb o = k ∧ a.cells.length = n ∧ a.cells.all (·.isDef) then match m.b o with
    | some cs => if c + n ≤ cs.length then some ([], m.setCells o c a.cells) else none
    | none => none else none
  | .store n _ _, [.ept r i f, a] => match m.deref r, pvs a.cells with
    | some (.sl fl e xs), some ps => match xs[i]? with
      | some x => if ps.length = n ∧ f + n ≤ x.cells.length ∧ 1 ≤ fl then some ([], m.setRef r (.sl fl e (xs.set i (setCells x f ps)))) else none
      | none => none
    | _, _ => none
  | .nilck _, [.ptr o k c] => if m.kb o = k then some ([.ptr o k c], m) else none
  | .nilck _, [.ept r i f] => if (m.deref r).isSome then some ([.ept r i f], m) else none
  | .nilck _, [.pv (.ref cs)] => some ([.pv (.ref cs)], m)
  | .bin op t _ _, [.pv a, .pv b] => single ((binS op t a b).map .pv) m
  | .eqs ng ks _ _, [.agg x, .agg y] => single ((eqK ks x y).map fun b => .pv (.bool (b != ng))) m
  | .un op _, [.pv a] => single ((unS op a).map .pv) m
  | .conv k _, [.pv (.int _ n)] => some ([.pv (.int k (k.wrap n))], m)
  | .b2s _, [a] => match rowOf m a with
    | some (.sl _ _ xs) => (bytesOf xs).map fun l => ([.pv (.str ⟨l.toArray⟩)], m)
    | _ => none
  | .fld off n g _, [.agg cs] => if ((cs.drop off).take n).length = n then single (one g ((cs.drop off).take n)) m else none
  | .flda off _, [.ptr o k c] => if m.kb o = k then some ([.ptr o k (c + off)], m) else none
  | .flda off _, [.ept r i f] => if (m.deref r).isSome then some ([.ept r i (f + off)], m) else none
  | .flda off _, [.pv (.ref cs)] => some ([.pv (.ref (cs.drop off))], m)
  | .idxa e _ _, [.pv (.sl fl e' xs), .pv (.int _ i)] => if fl = 0 ∧ e = e' then match idx i xs.length with
    | some j => (xs[j]?).map fun x => ([.pv (.ref x.cells)], m)
    | none => none else none
  | .idxa e _ _, [.rw r, .pv (.int _ i)] => match m.deref r with
    | some (.sl _ e' xs) => if e = e' then (idx i xs.length).map fun j => ([.ept r j 0], m) else none
    | _ => none
  | .idxs _ _, [.pv (.str s), .pv (.int _ i)] => (idx i s.size).map fun j => ([.pv (.int .u8 (s.data.toList.getD j 0).toNat)], m)
  | .slc none _ _ hO, [.pv (.str s), .pv (.int _ l), .pv hi] => match hi with
    | .int _ h => if 0 ≤ l ∧ l ≤ h ∧ h ≤ (s.size : Int) then some ([.pv (.str (s.extract l.toNat h.toNat))], m) else none
    | .nilp => if hO.isNil ∧ 0 ≤ l ∧ l ≤ (s.size : Int) then some ([.pv (.str (s.extract l.toNat s.size))], m) else none
    | _ => none
  | .slc (some e0) _ _ hO, [.pv (.sl fl e xs), .pv (.int _ l), .pv hi] => if fl ≠ 0 ∨ e0 ≠ e then none else match hi with
    | .int _ h => if 0 ≤ l ∧ l ≤ h ∧ h ≤ (xs.length : Int) then some ([.pv (.sl 0 e ((xs.take h.toNat).drop l.toNat))], m) else none
    | .nilp => if hO.isNil ∧ 0 ≤ l ∧ l ≤ (xs.length : Int) then some ([.pv (.sl 0 e (xs.drop l.toNat))], m) else none
    | _ => none
  | .mkf f _, as => if as.all (fun a => !ownAV a && !a.isAgg) then some ([.clo f as], m) else none
  | .app e bytes _ _, [x, y] => match rowOf m x, rowOf m y with
    | some (.sl fl e1 xs), some (.sl _ e2 ys) =>
      if fl = 2 ∧ e1 = e ∧ e2 = e ∧ (xs.length + ys.length) * bytes ≤ 140737488355328 ∧ xs.length + ys.length ≤ 9223372036854775807 then
        match x, y with
        | .pv _, .pv _ => some ([.pv (.sl 2 e (xs ++ ys))], m)
        | .rw r, .pv _ => if r.path = [] then some ([.pv (.sl 2 e (xs ++ ys))], m.take r.root) else none
        | .pv _, .rw _ => if flatL ys then some ([.pv (.sl 2 e (xs ++ ys))], m) else none
        | .rw r, .rw r' => if r.path = [] ∧ r.root ≠ r'.root ∧ flatL ys then some ([.pv (.sl 2 e (xs ++ ys))], m.take r.root) else none
        | _, _ => none
      else none
    | some (.sl fl e1 xs), some (.str s) =>
      if fl = 2 ∧ e1 = e ∧ bytes = 1 ∧ xs.length + s.size ≤ 140737488355328 then
        match x with
        | .pv _ => some ([.pv (.sl 2 e (xs ++ s.data.toList.map fun b => .int .u8 b.toNat))], m)
        | .rw r => if r.path = [] then some ([.pv (.sl 2 e (xs ++ s.data.toList.map fun b => .int .u8 b.toNat))], m.take r.root) else none
        | _ => none
      else none
    | _, _ => none
  | .mks e z bytes _, [.pv (.int _ n)] => if 0 ≤ n ∧ n * bytes ≤ 140737488355328 ∧ n ≤ 9223372036854775807 then some ([.pv (.sl 2 e (List.replicate n.toNat z))], m) else none
  | .len true _, [a] => match rowOf m a with
    | some (.sl _ _ xs) => some ([.pv (.int .i64 xs.length)], m)
    | _ => none
  | .len false _, [.pv (.str s)] => some ([.pv (.int .i64 s.size)], m)
  | .min2 _ _, [.pv (.int k a), .pv (.int k' b)] => if k = k' then some ([.pv (.int k (if b < a then b else a))], m) else none
  | .max2 _ _, [.pv (.int k a), .pv (.int k' b)] => if k = k' then some ([.pv (.int k (if b > a then b else a))], m) else none
  | _, _ => none
def Mem.freeze (m : Mem) (t : Nat) (p : PV) : Mem := { m with r := upd m.r t (some p), kn := upd m.kn (.v t) (m.kn (.v t) + 1) }
def slvIn (m : Mem) : AV → Option (PV × Mem)
  | .rw r => match r.root, m.deref r with
    | .v t, some (.sl _ e xs) => if r.path = [] ∧ m.kr (.v t) ≠ 0 then some (.sl 0 e (demL xs), m.freeze t (.sl 0 e (demL xs))) else none
    | _, _ => none
  | .pv p => some (if p.own then p.dem else p, m)
  | _ => none
def shareP (p : PV) : PV := if p.own then p.dem else p
def shareC : AV → AV
  | .pv p => .pv (shareP p)
  | a => a
def shareA : AV → AV
  | .agg cs => .agg (cs.map shareC)
  | a => shareC a
def shareIn : List Pm → List AV → List AV
  | .val :: qs, a :: as => shareA a :: shareIn qs as
  | _ :: qs, a :: as => a :: shareIn qs as
  | _, as => as
def callee : List AV → Option (FuncId × List AV)
  | .clo f caps :: as => some (f, as ++ caps)
  | .pv (.clo f caps) :: as => some (f, as ++ caps.map .pv)
  | _ => none
def sem (R : Oracle) (modes : FuncId → List Pm) (d : Nat) (m : Mem) (o : PO) (as : List AV) : Option (List AV × Mem) :=
  match o with
  | .call f _ => doCall R modes f (shareIn (modes f) as) m
  | .callv _ _ => match callee as with
    | some x => doCall R modes x.1 (shareIn (modes x.1) x.2) m
    | none => none
  | .idv e x i => match as with
    | [a, b] => match slvIn m a with
      | some (p, m1) => semL d m1 (.idxa e x i) [.pv p, b]
      | none => none
    | _ => none
  | .slv e x l h => match as with
    | [a, b, c] => match slvIn m a with
      | some (p, m1) => semL d m1 (.slc (some e) x l h) [.pv p, b, c]
      | none => none
    | _ => none
  | o => semL d m o as
structure St where
  t : Nat → AV
  m : Mem
def opd (s : St) : Opd → AV
  | .t n => s.t n
  | .k p => ofPV p
def Opd.isT (n : Nat) : Opd → Bool
  | .t x => x == n
  | _ => false
def takeT (V : List Nat) (t : Nat → AV) : List Opd → Option (Nat → AV)
  | [] => some t
  | .t n :: os => if ownAV (t n) then (if V.contains n || os.any (·.isT n) then none else takeT V (upd t n .undef) os) else takeT V t os
  | _ :: os => takeT V t os
def putT (V : List Nat) (s : St) (d : Nat) (a : AV) : St :=
  match a with
  | .pv (.sl fl e xs) =>
    if 1 ≤ fl && V.contains d then
      { t := upd s.t d (.rw ⟨.v d, s.m.kr (.v d) + 1, s.m.kn (.v d), []⟩), m := { s.m with r := upd s.m.r d (some (.sl fl e xs)), kr := upd s.m.kr (.v d) (s.m.kr (.v d) + 1) } }
    else { s with t := upd s.t d a }
  | a => { s with t := upd s.t d a }
def putTs (V : List Nat) (s : St) : Nat → List AV → St
  | _, [] => s
  | d, a :: as => putTs V (putT V s d a) (d + 1000000) as
structure Oq where
  dst : Option Nat
  po : PO
  guard : Option (Nat × Bool)
  tup : Nat := 0
def endStep (V : List Nat) (tup : Nat) (t : Nat → AV) (m : Mem) (as : List AV) : Option Nat → Option St
  | none => some ⟨t, m⟩
  | some d => match tup, as with
    | 0, [] => some ⟨upd t d .undef, m⟩
    | 0, [a] => some (putT V ⟨t, m⟩ d a)
    | 0, _ => none
    | n + 1, as => if as.length = n + 1 then some (putTs V ⟨t, m⟩ (d + 1000000) as) else none
def step (R : Oracle) (modes : FuncId → List Pm) (V : List Nat) (o : Oq) (s : St) : Option St :=
  match sem R modes (o.dst.getD 0) s.m o.po (o.po.opds.map (opd s)), takeT V s.t o.po.opds with
  | some (as, m), some t => endStep V o.tup t m as o.dst
  | _, _ => none
def stepG (R : Oracle) (modes : FuncId → List Pm) (V : List Nat) (o : Oq) (s : St) : Option St :=
  match o.guard with
  | none => step R modes V o s
  | some (g, want) => match s.t g with
    | .pv (.bool b) => if b = want then step R modes V o s else match o.dst with
      | some d => some { s with t := upd s.t d .void }
      | none => some s
    | .void => match o.dst with
      | some d => some { s with t := upd s.t d .void }
      | none => some s
    | _ => none
mutual
def steps (R : Oracle) (modes : FuncId → List Pm) (V : List Nat) : List Oq → St → Option St
  | [], s => some s
  | o :: os, s => stepsK R modes V os (stepG R modes V o s)
def stepsK (R : Oracle) (modes : FuncId → List Pm) (V : List Nat) : List Oq → Option St → Option St
  | _, none => none
  | os, some s => steps R modes V os s
end
inductive Ev where
  | pure
  | read (as : List AV)
  | write (m m' : Mem)
def PO.kind : PO → Nat
  | .load _ _ _ | .nilck _ | .flda _ _ | .idxa _ _ _ | .len true _ | .b2s _ => 1
  | .alloc _ | .box _ _ | .store _ _ _ | .app _ _ _ _ | .call _ _ | .callv _ _ | .newb _ _ _ | .slv _ _ _ _ | .idv _ _ _ | .ldt _ _ | .tmv _ _ | .mkm | .mup _ _ _ _ | .mdl _ _ _ | .mlk _ _ _ _ | .lnm _ => 2
  | _ => 0
def agreeA (m m' : Mem) : AV → Prop
  | .ptr o _ _ => m.b o = m'.b o ∧ m.kb o = m'.kb o ∧ ∀ n, m.kr (.c o n) = m'.kr (.c o n) ∧ m.kn (.c o n) = m'.kn (.c o n)
  | .rw r => m.at r.root = m'.at r.root ∧ m.kr r.root = m'.kr r.root ∧ m.kn r.root = m'.kn r.root
  | .ept r _ _ => m.at r.root = m'.at r.root ∧ m.kr r.root = m'.kr r.root ∧ m.kn r.root = m'.kn r.root
  | _ => True
def agree (m m' : Mem) : List AV → Prop
  | [] => True
  | a :: as => agreeA m m' a ∧ agree m m' as
def wantedQ (o : Oq) (s : St) : Bool := match o.guard with
  | none => true
  | some (g, b) => match s.t g with
    | .pv (.bool c) => c == b
    | .void => false
    | _ => true
def quietQ (V : List Nat) (o : Oq) (s' : St) : Bool := match o.dst with
  | none => true
  | some d => !V.contains d || match s'.t d with
    | .rw r => !(r.root == .v d)
    | _ => true
def freeC : AV → Bool
  | .pv _ => true
  | .rw _ => true
  | _ => false
def freeA : AV → Bool
  | .agg cs => cs.all freeC
  | a => freeC a
def flatA : AV → List AV
  | .agg cs => cs
  | a => [a]
def flatAs : List AV → List AV
  | [] => []
  | a :: as => flatA a ++ flatAs as
def PO.args : PO → List Opd
  | .call _ xs => xs
  | _ => []
def pcallB (modes : FuncId → List Pm) (o : Oq) (s : St) : Bool := match o.po with
  | .call f xs => o.tup == 0 && ((modes f).all Pm.isVal && (xs.map (opd s)).all freeA)
  | _ => false
def evOf (V : List Nat) (modes : FuncId → List Pm) (o : Oq) (s s' : St) : Ev :=
  if wantedQ o s then
    if pcallB modes o s && quietQ V o s' then .read (flatAs (o.po.args.map (opd s))) else if o.po.kind == 2 || !quietQ V o s' then .write s.m s'.m
    else if o.po.kind == 1 then .read (o.po.opds.map (opd s)) else .pure
  else .pure
def evOK : Ev → Ev → Prop
  | .pure, _ => True
  | _, .pure => True
  | .read _, .read _ => True
  | .read as, .write m m' => agree m m' as
  | .write m m', .read as => agree m m' as
  | .write _ _, .write _ _ => False
def evsOK (d : List Nat) (e : Ev) : List (Nat × Ev) → Prop
  | [] => True
  | (j, x) :: l => (d.contains j = true → evOK x e) ∧ evsOK d e l
def addEv (i : Nat) : Ev → List (Nat × Ev) → List (Nat × Ev)
  | .pure, l => l
  | e, l => (i, e) :: l
open Classical in
mutual
noncomputable def stepsD (R : Oracle) (modes : FuncId → List Pm) (V : List Nat) : List (Nat × List Nat) → List (Nat × Ev) → List Oq → St → Option St
  | _, _, [], s => some s
  | x :: D, evs, o :: os, s => stepsDK R modes V x D evs o os s (stepG R modes V o s)
  | [], _, _ :: _, _ => none
noncomputable def stepsDK (R : Oracle) (modes : FuncId → List Pm) (V : List Nat) : Nat × List Nat → List (Nat × List Nat) → List (Nat × Ev) → Oq → List Oq → St → Option St → Option St
  | _, _, _, _, _, _, none => none
  | x, D, evs, o, os, s, some s' => if evsOK x.2 (evOf V modes o s s') evs then stepsD R modes V D (addEv x.1 (evOf V modes o s s') evs) os s' else none
end
inductive Loc where
  | box (o : Nat)
  | var (t : Nat)
  deriving DecidableEq
def locOf : Root → Loc
  | .v t => .var t
  | .c o _ => .box o
def footA : AV → List Loc
  | .ptr o _ _ => [.box o]
  | .rw r => [locOf r.root]
  | .ept r _ _ => [locOf r.root]
  | .mp o _ => [.box o]
  | _ => []
def footL : List AV → List Loc
  | [] => []
  | a :: as => footA a ++ footL as
def callF : List Pm → List AV → List Loc
  | .val :: qs, _ :: as => callF qs as
  | .rows _ :: qs, .agg cs :: as => footL cs ++ callF qs as
  | _ :: qs, a :: as => footA a ++ callF qs as
  | _, _ => []
def wrF (modes : FuncId → List Pm) (d : Nat) : PO → List AV → List Loc
  | .call f _, as => callF (modes f) (shareIn (modes f) as)
  | .callv _ _, as => match callee as with
    | some x => callF (modes x.1) (shareIn (modes x.1) x.2)
    | none => []
  | .store _ _ _, a :: _ => footA a
  | .alloc _, _ => [.box d]
  | .box _ _, _ => [.box d]
  | .newb _ _ _, _ => [.box d]
  | .app _ _ _ _, a :: _ => footA a
  | .ldt _ _, a :: _ => footA a
  | .mkm, _ => [.box d]
  | .mup _ _ _ _, a :: _ => footA a
  | .mdl _ _ _, a :: _ => footA a
  | .slv _ _ _ _, a :: _ => footA a
  | .idv _ _ _, a :: _ => footA a
  | _, _ => []
def putL (d : Option Nat) (tup : Nat) : List Loc := match d with
  | none => []
  | some d => if tup = 0 then [.var d] else (List.range tup).map fun j => .var (d + 1000000 * (j + 1))
inductive Ft where
  | pure
  | read (F : List Loc)
  | write (W : List Loc)
def ftOf (modes : FuncId → List Pm) (V : List Nat) (o : Oq) (s s' : St) : Ft :=
  if wantedQ o s then
    if pcallB modes o s && quietQ V o s' then .read (footL (flatAs (o.po.args.map (opd s)))) else if o.po.kind == 2 || !quietQ V o s' then .write (wrF modes (o.dst.getD 0) o.po (o.po.opds.map (opd s)) ++ putL o.dst o.tup)
    else if o.po.kind == 1 then .read (footL (o.po.opds.map (opd s))) else .pure
  else .pure
def meetB (R W : List Loc) : Bool := R.any fun l => W.contains l
def ftOK : Ft → Ft → Bool
  | .pure, _ => true
  | _, .pure => true
  | .read _, .read _ => true
  | .read R, .write W => !meetB R W
  | .write W, .read R => !meetB R W
  | .write _, .write _ => false
def ftsOK (d : List Nat) (e : Ft) : List (Nat × Ft) → Bool
  | [] => true
  | (j, x) :: l => (!d.contains j || ftOK x e) && ftsOK d e l
def addFt (i : Nat) : Ft → List (Nat × Ft) → List (Nat × Ft)
  | .pure, l => l
  | e, l => (i, e) :: l
mutual
def stepsF (R : Oracle) (modes : FuncId → List Pm) (V : List Nat) : List (Nat × List Nat) → List (Nat × Ft) → List Oq → St → Option St
  | _, _, [], s => some s
  | x :: D, evs, o :: os, s => stepsFK R modes V x D evs o os s (stepG R modes V o s)
  | [], _, _ :: _, _ => none
def stepsFK (R : Oracle) (modes : FuncId → List Pm) (V : List Nat) : Nat × List Nat → List (Nat × List Nat) → List (Nat × Ft) → Oq → List Oq → St → Option St → Option St
  | _, _, _, _, _, _, none => none
  | x, D, evs, o, os, s, some s' => if ftsOK x.2 (ftOf modes V o s s') evs then stepsF R modes V D (addFt x.1 (ftOf modes V o s s') evs) os s' else none
end
inductive PC where
  | skip
  | reg (ops : List Oq)
  | any (D : List (Nat × List Nat)) (ops : List Oq)
  | seq (a b : PC)
  | cond (c : Opd) (x y : PC)
  | block (id : Nat) (b : PC)
  | loop (L : List Nat) (b : PC)
  | exit (id : Nat)
  | ret
inductive Ex where
  | normal
  | exit (id : Nat)
  | ret
  deriving DecidableEq
def forget (L : List Nat) (s : St) : St := { s with m := { s.m with b := fun o => if L.contains o then none else s.m.b o, mp := fun o => if L.contains o then none else s.m.mp o } }
def blockK (id : Nat) : Option (Ex × St) → Option (Ex × St)
  | some (.exit id', s) => if id' = id then some (.normal, s) else some (.exit id', s)
  | r => r
mutual
noncomputable def exec (R : Oracle) (modes : FuncId → List Pm) (V : List Nat) : Nat → PC → St → Option (Ex × St)
  | 0, _, _ => none
  | _ + 1, .skip, s => some (.normal, s)
  | _ + 1, .reg ops, s => (steps R modes V ops s).map (.normal, ·)
  | _ + 1, .any D ops, s => (stepsF R modes V D [] ops s).map (.normal, ·)
  | n + 1, .seq a b, s => execK R modes V n b (exec R modes V n a s)
  | n + 1, .cond c x y, s => match opd s c with
    | .pv (.bool b) => if b then exec R modes V n x s else exec R modes V n y s
    | _ => none
  | n + 1, .block id b, s => blockK id (exec R modes V n b s)
  | n + 1, .loop L b, s => execK R modes V n (.loop L b) (exec R modes V n b (forget L s))
  | _ + 1, .exit id, s => some (.exit id, s)
  | _ + 1, .ret, s => some (.ret, s)
noncomputable def execK (R : Oracle) (modes : FuncId → List Pm) (V : List Nat) : Nat → PC → Option (Ex × St) → Option (Ex × St)
  | n, c, some (.normal, s) => exec R modes V n c s
  | _, _, r => r
end
structure PF where
  params : List Pm
  V : List Nat
  body : PC
  res : List (Nat × Option (Nat × Bool))
def m0 : Mem := ⟨fun _ => none, fun _ => none, fun _ => none, fun _ => 0, fun _ => 0, fun _ => 0⟩
def rowVar (i j : Nat) : Nat := 1000000 + 1000 * i + j
def rowCells (i : Nat) : Nat → List PV → List AV
  | _, [] => []
  | j, c :: cs => (if ownP c then .rw ⟨.v (rowVar i j), 0, 0, []⟩ else .pv c) :: rowCells i (j + 1) cs
def rowMem (i : Nat) : Nat → List PV → (Nat → Option PV) → (Nat → Option PV)
  | _, [], r => r
  | j, c :: cs, r => rowMem i (j + 1) cs (if ownP c then upd r (rowVar i j) (some c) else r)
def enter : Nat → List Pm → List PV → St → Option St
  | _, [], [], s => some s
  | i, .val :: qs, p :: ps, s => enter (i + 1) qs ps { s with t := upd s.t i (ofPV p) }
  | i, .io n :: qs, .ref cs :: ps, s => if cs.length = n then enter (i + 1) qs ps { t := upd s.t i (.ptr i 0 0), m := { s.m with b := upd s.m.b i (some (cs.map .pv)) } } else none
  | i, .row :: qs, p :: ps, s => if ownP p then enter (i + 1) qs ps { t := upd s.t i (.rw ⟨.v i, 0, 0, []⟩), m := { s.m with r := upd s.m.r i (some p) } } else none
  | i, .rows n :: qs, .agg cs :: ps, s => if cs.map ownP = n ∧ n.length ≤ 1000 then enter (i + 1) qs ps { t := upd s.t i (.agg (rowCells i 0 cs)), m := { s.m with r := rowMem i 0 cs s.m.r } } else none
  | i, .own :: qs, p :: ps, s => if ownP p then enter (i + 1) qs ps { t := upd s.t i (.rw ⟨.v i, 0, 0, []⟩), m := { s.m with r := upd s.m.r i (some p) } } else none
  | _, _, _, _ => none
def outCell (m : Mem) (gone : List Root) : AV → Option (PV × List Root)
  | .pv p => some (p, gone)
  | .rw r => match m.deref r with
    | some p => if r.path = [] ∧ ¬ r.root ∈ gone then some (p, r.root :: gone) else none
    | none => none
  | _ => none
def outCells (m : Mem) (gone : List Root) : List AV → Option (List PV × List Root)
  | [] => some ([], gone)
  | a :: as => match outCell m gone a with
    | some (p, g1) => match outCells m g1 as with
      | some (ps, g2) => some (p :: ps, g2)
      | none => none
    | none => none
def outOne (m : Mem) (gone : List Root) : AV → Option (PV × List Root)
  | .agg cs => (outCells m gone cs).map fun x => (.agg x.1, x.2)
  | a => outCell m gone a
def outs (m : Mem) (gone : List Root) : List AV → Option (List PV × List Root)
  | [] => some ([], gone)
  | a :: as => match outOne m gone a with
    | some (p, g1) => match outs m g1 as with
      | some (ps, g2) => some (p :: ps, g2)
      | none => none
    | none => none
def outBox (m : Mem) (o : Nat) : Nat → List Root → List AV → Option (List PV × List Root)
  | _, gone, [] => some ([], gone)
  | j, gone, c :: cs => match (match c with
      | .pv p => if ownP p then (if Root.c o j ∈ gone then none else some (p, Root.c o j :: gone)) else some (p, gone)
      | c => outCell m gone c) with
    | some (p, g1) => match outBox m o (j + 1) g1 cs with
      | some (ps, g2) => some (p :: ps, g2)
      | none => none
    | none => none
def rowBack (m : Mem) (gone : List Root) (t : Nat) : Option (PV × List Root) :=
  match m.r t with
  | some p => if ¬ Root.v t ∈ gone ∧ m.kr (.v t) = 0 ∧ ownP p then some (p, .v t :: gone) else none
  | none => none
def rowBacks (m : Mem) (i : Nat) : Nat → List Root → List Bool → Option (List PV × List Root)
  | _, gone, [] => some ([], gone)
  | j, gone, k :: ks => match (if k then rowBack m gone (rowVar i j) else some (.nilp, gone)) with
    | some (p, g1) => match rowBacks m i (j + 1) g1 ks with
      | some (ps, g2) => some (p :: ps, g2)
      | none => none
    | none => none
def backs (m : Mem) : Nat → List Root → List Pm → Option (List PV × List Root)
  | _, gone, [] => some ([], gone)
  | i, gone, q :: qs => match q with
    | .val => backs m (i + 1) gone qs
    | .own => backs m (i + 1) gone qs
    | .io n => if m.kb i = 0 then match m.b i with
      | some cs => match outBox m i 0 gone cs with
        | some (ps, g1) => if ps.length = n then match backs m (i + 1) g1 qs with
          | some (os, g2) => some (.ref ps :: os, g2)
          | none => none else none
        | none => none
      | none => none else none
    | .row => match rowBack m gone i with
      | some (p, g1) => match backs m (i + 1) g1 qs with
        | some (os, g2) => some (p :: os, g2)
        | none => none
      | none => none
    | .rows ks => match rowBacks m i 0 gone ks with
      | some (ps, g1) => match backs m (i + 1) g1 qs with
        | some (os, g2) => some (.agg ps :: os, g2)
        | none => none
      | none => none
def resOf (s : St) : Nat × Option (Nat × Bool) → Option AV
  | (t, none) => some (s.t t)
  | (t, some (n, g)) => match s.t t with
    | .ptr o k c => match semL 0 s.m (.load n g (.t t)) [.ptr o k c] with
      | some ([a], _) => some a
      | _ => none
    | _ => none
def resL (s : St) : List (Nat × Option (Nat × Bool)) → Option (List AV)
  | [] => some []
  | r :: rs => match resOf s r with
    | some a => match resL s rs with
      | some as => some (a :: as)
      | none => none
    | none => none
def finish (f : PF) (s : St) : Option (List PV × List PV) :=
  match resL s f.res with
  | some cs => match outs s.m [] cs with
    | some (rs, g) => match backs s.m 0 g f.params with
      | some (os, _) => some (rs, os)
      | none => none
    | none => none
  | none => none
def finishK (f : PF) : Option (Ex × St) → Option (List PV × List PV)
  | some (.normal, s) => finish f s
  | some (.ret, s) => finish f s
  | _ => none
def s0 : St := ⟨fun _ => .undef, m0⟩
structure Code where
  prog : FuncId → Option PF
  prim : Oracle
  modes : FuncId → List Pm
noncomputable def run (C : Code) : Nat → Oracle
  | 0, _, _ => none
  | n + 1, f, ps => match C.prog f with
    | none => C.prim f ps
    | some pf => match enter 0 pf.params ps s0 with
      | some s => finishK pf (exec (run C n) C.modes pf.V n pf.body s)
      | none => none
end Go.Proofs.YtdbcnnehfbcldaaDoor.Pv
/- The plain reading of Go code without a bound on its rounds: what it gives, told by equations. No condition. -/
namespace Go.Proofs.YtdbcnnehfbcldaaDoor.Pv
open Go
def Le (R S : Oracle) : Prop := ∀ f ps r, R f ps = some r → S f ps = some r
theorem Le.refl (R : Oracle) : Le R R := fun _ _ _ h => h
theorem Le.trans {R S T : Oracle} (h : Le R S) (k : Le S T) : Le R T := fun f ps r x => k f ps r (h f ps r x)
section
variable {R S : Oracle} {modes : FuncId → List Pm} {V : List Nat}
theorem doCall_le (h : Le R S) {f : FuncId} {as : List AV} {m : Mem} {x : List AV × Mem} (hx : doCall R modes f as m = some x) : doCall S modes f as m = some x := by
  unfold doCall at hx ⊢
  cases ha : argsIn m (modes f) as with
  | none => rw [ha] at hx; cases hx
  | some pm =>
    rw [ha] at hx
    simp only at hx ⊢
    cases hr : R f pm.1 with
    | none => rw [hr] at hx; cases hx
    | some r => rw [hr] at hx; rw [h _ _ _ hr]; exact hx
theorem sem_le (h : Le R S) {d : Nat} {m : Mem} {o : PO} {as : List AV} {x : List AV × Mem} (hx : sem R modes d m o as = some x) : sem S modes d m o as = some x := by
  unfold sem at hx ⊢
  split at hx
  · exact doCall_le h hx
  · split at hx
    · exact doCall_le h hx
    · cases hx
  · exact hx
  · exact hx
  · exact hx
theorem step_le (h : Le R S) {o : Oq} {s s1 : St} (hx : step R modes V o s = some s1) : step S modes V o s = some s1 := by
  unfold step at hx ⊢
  cases hs : sem R modes (o.dst.getD 0) s.m o.po (o.po.opds.map (opd s)) with
  | none => rw [hs] at hx; cases hx
  | some x => rw [hs] at hx; rw [sem_le h hs]; exact hx
theorem stepG_le (h : Le R S) {o : Oq} {s s1 : St} (hx : stepG R modes V o s = some s1) : stepG S modes V o s = some s1 := by
  unfold stepG at hx ⊢
  split at hx
  · exact step_le h hx
  · split at hx
    · split at hx
      · rename_i h1; simp only [h1, if_true]; exact step_le h hx
      · rename_i h1; simp only [h1, if_false]; exact hx
    · exact hx
    · cases hx
theorem steps_le (h : Le R S) : ∀ {os : List Oq} {s s1 : St}, steps R modes V os s = some s1 → steps S modes V os s = some s1
  | [], s, s1, hx => by simpa [steps] using hx
  | o :: os, s, s1, hx => by
    simp only [steps] at hx ⊢
    cases hg : stepG R modes V o s with
    | none => rw [hg] at hx; simp [stepsK] at hx
    | some s2 => rw [hg] at hx; rw [stepG_le h hg]; simp only [stepsK] at hx ⊢; exact steps_le h hx
theorem stepsF_le (h : Le R S) : ∀ {os : List Oq} {D : List (Nat × List Nat)} {evs : List (Nat × Ft)} {s s1 : St}, stepsF R modes V D evs os s = some s1 → stepsF S modes V D evs os s = some s1
  | [], D, evs, s, s1, hx => by cases D <;> simpa [stepsF] using hx
  | o :: os, [], evs, s, s1, hx => by simp [stepsF] at hx
  | o :: os, x :: D, evs, s, s1, hx => by
    simp only [stepsF] at hx ⊢
    cases hg : stepG R modes V o s with
    | none => rw [hg] at hx; simp [stepsFK] at hx
    | some s2 =>
      rw [hg] at hx; rw [stepG_le h hg]; simp only [stepsFK] at hx ⊢
      split at hx
      · rename_i hk; rw [if_pos hk]; exact stepsF_le h hx
      · cases hx
theorem execK_some {n : Nat} {c : PC} {x : Option (Ex × St)} {r : Ex × St} (h : execK R modes V n c x = some r) : (∃ s, x = some (.normal, s) ∧ exec R modes V n c s = some r) ∨ (x = some r ∧ r.1 ≠ .normal) := by
  cases x with
  | none => simp [execK] at h
  | some y =>
    obtain ⟨e, s⟩ := y
    cases e with
    | normal => exact .inl ⟨s, rfl, by simpa [execK] using h⟩
    | exit id => simp only [execK] at h; obtain rfl := Option.some.inj h; exact .inr ⟨rfl, by simp⟩
    | ret => simp only [execK] at h; obtain rfl := Option.some.inj h; exact .inr ⟨rfl, by simp⟩
theorem execK_other {n : Nat} {c : PC} {r : Ex × St} (h : r.1 ≠ .normal) : execK R modes V n c (some r) = some r := by
  obtain ⟨e, s⟩ := r
  cases e <;> simp_all [execK]
theorem exec_le (h : Le R S) : ∀ (n : Nat) (c : PC) (s : St) (r : Ex × St), exec R modes V n c s = some r → exec S modes V (n + 1) c s = some r ∧ exec S modes V n c s = some r := by
  intro n
  induction n with
  | zero => intro c s r hx; simp [exec] at hx
  | succ n ih =>
    intro c s r hx
    have ihK : ∀ c x r, execK R modes V n c x = some r → (∀ s, x = some (.normal, s) → True) → execK S modes V (n + 1) c x = some r ∧ execK S modes V n c x = some r := by
      intro c x r hk _
      rcases execK_some hk with ⟨s, rfl, he⟩ | ⟨rfl, hne⟩
      · simp only [execK]; exact ih _ _ _ he
      · exact ⟨execK_other hne, execK_other hne⟩
    have two : ∀ c x y z r, execK R modes V n c x = some r → (∀ q, x = some q → y = some q ∧ z = some q) → execK S modes V (n + 1) c y = some r ∧ execK S modes V n c z = some r := by
      intro c x y z r hk hxy
      cases x with
      | none => simp [execK] at hk
      | some q =>
        obtain ⟨rfl, rfl⟩ := hxy q rfl
        exact ihK _ _ _ hk (fun _ _ => trivial)
    cases c with
    | skip => simp only [exec] at hx ⊢; exact ⟨hx, hx⟩
    | exit id => simp only [exec] at hx ⊢; exact ⟨hx, hx⟩
    | ret => simp only [exec] at hx ⊢; exact ⟨hx, hx⟩
    | reg ops =>
      simp only [exec] at hx ⊢
      cases hs : steps R modes V ops s with
      | none => rw [hs] at hx; cases hx
      | some s1 => rw [hs] at hx; rw [steps_le h hs]; exact ⟨hx, hx⟩
    | any D ops =>
      simp only [exec] at hx ⊢
      cases hs : stepsF R modes V D [] ops s with
      | none => rw [hs] at hx; cases hx
      | some s1 => rw [hs] at hx; rw [stepsF_le h hs]; exact ⟨hx, hx⟩
    | seq a b =>
      simp only [exec] at hx ⊢
      exact two _ _ _ _ _ hx (fun q hq => ih _ _ _ hq)
    | cond c x y =>
      simp only [exec] at hx ⊢
      split at hx
      · rename_i b hb
        cases b with
        | true => simp only [if_true] at hx ⊢; exact ih _ _ _ hx
        | false => simp only [Bool.false_eq_true, if_false] at hx ⊢; exact ih _ _ _ hx
      · cases hx
    | block id b =>
      simp only [exec] at hx ⊢
      cases hb : exec R modes V n b s with
      | none => rw [hb] at hx; simp [blockK] at hx
      | some q =>
        obtain ⟨h1, h2⟩ := ih _ _ _ hb
        rw [hb] at hx; rw [h1, h2]
        exact ⟨hx, hx⟩
    | loop L b =>
      simp only [exec] at hx ⊢
      exact two _ _ _ _ _ hx (fun q hq => ih _ _ _ hq)
theorem exec_up (h : Le R S) {n m : Nat} (hnm : n ≤ m) {c : PC} {s : St} {r : Ex × St} (hx : exec R modes V n c s = some r) : exec S modes V m c s = some r := by
  induction hnm with
  | refl => exact (exec_le h _ _ _ _ hx).2
  | step _ ih => exact (exec_le (Le.refl S) _ _ _ _ ih).1
end
theorem run_succ (C : Code) (n : Nat) (f : FuncId) (ps : List PV) : run C (n + 1) f ps = match C.prog f with
    | none => C.prim f ps
    | some pf => match enter 0 pf.params ps s0 with
      | some s => finishK pf (exec (run C n) C.modes pf.V n pf.body s)
      | none => none := rfl
theorem run_step (C : Code) : ∀ n, Le (run C n) (run C (n + 1))
  | 0 => fun f ps r h => by simp [run] at h
  | n + 1 => fun f ps r h => by
    have ih := run_step C n
    rw [run_succ] at h ⊢
    cases hp : C.prog f with
    | none => rw [hp] at h; exact h
    | some pf =>
      rw [hp] at h
      simp only at h ⊢
      cases hs : enter 0 pf.params ps s0 with
      | none => rw [hs] at h; cases h
      | some s =>
        rw [hs] at h
        simp only at h ⊢
        cases he : exec (run C n) C.modes pf.V n pf.body s with
        | none => rw [he] at h; simp [finishK] at h
        | some q => rw [he] at h; rw [(exec_le ih _ _ _ _ he).1]; exact h
theorem run_le (C : Code) {n m : Nat} (h : n ≤ m) : Le (run C n) (run C m) := by
  induction h with
  | refl => exact Le.refl _
  | step _ ih => exact ih.trans (run_step C _)
open Classical in
noncomputable def lim {α : Type} (g : Nat → Option α) : Option α := if h : ∃ n r, g n = some r then g (Classical.choose h) else none
theorem lim_of {α : Type} {g : Nat → Option α} (up : ∀ n m r, n ≤ m → g n = some r → g m = some r) {n : Nat} {r : α} (h : g n = some r) : lim g = some r := by
  have hx : ∃ n r, g n = some r := ⟨n, r, h⟩
  unfold lim
  rw [dif_pos hx]
  obtain ⟨r', hr'⟩ := Classical.choose_spec hx
  rw [hr']
  rcases Nat.le_total n (Classical.choose hx) with hl | hl
  · rw [up _ _ _ hl h] at hr'; exact hr'.symm
  · rw [up _ _ _ hl hr'] at h; exact h
theorem of_lim {α : Type} {g : Nat → Option α} {r : α} (h : lim g = some r) : ∃ n, g n = some r := by
  unfold lim at h
  split at h
  · exact ⟨_, h⟩
  · cases h
noncomputable def RUN (C : Code) : Oracle := fun f ps => lim fun n => run C n f ps
noncomputable def EX (C : Code) (V : List Nat) (c : PC) (s : St) : Option (Ex × St) := lim fun n => exec (RUN C) C.modes V n c s
noncomputable def EXK (C : Code) (V : List Nat) (c : PC) : Option (Ex × St) → Option (Ex × St)
  | some (.normal, s) => EX C V c s
  | r => r
section
variable {C : Code} {V : List Nat}
theorem run_RUN (n : Nat) : Le (run C n) (RUN C) := fun f ps _ h => lim_of (fun _ _ r hl => run_le C hl f ps r) h
theorem EX_of {n : Nat} {c : PC} {s : St} {r : Ex × St} (h : exec (RUN C) C.modes V n c s = some r) : EX C V c s = some r :=
  lim_of (g := fun n => exec (RUN C) C.modes V n c s) (fun _ _ _ hl => exec_up (Le.refl _) hl) h
theorem of_EX {c : PC} {s : St} {r : Ex × St} (h : EX C V c s = some r) : ∃ n, exec (RUN C) C.modes V n c s = some r := of_lim h
theorem EX_eq {c : PC} {s : St} {x : Option (Ex × St)} (h1 : ∀ n r, exec (RUN C) C.modes V n c s = some r → x = some r) (h2 : ∀ r, x = some r → ∃ n, exec (RUN C) C.modes V n c s = some r) : EX C V c s = x := by
  cases hx : x with
  | some r => obtain ⟨n, hn⟩ := h2 r hx; exact EX_of hn
  | none =>
    cases he : EX C V c s with
    | none => rfl
    | some r => obtain ⟨n, hn⟩ := of_EX he; rw [h1 _ _ hn] at hx; cases hx
theorem EX_skip (s : St) : EX C V .skip s = some (.normal, s) := EX_of (n := 1) (by simp only [exec])
theorem EX_exit (id : Nat) (s : St) : EX C V (.exit id) s = some (.exit id, s) := EX_of (n := 1) (by simp only [exec])
theorem EX_ret (s : St) : EX C V .ret s = some (.ret, s) := EX_of (n := 1) (by simp only [exec])
theorem EX_reg (ops : List Oq) (s : St) : EX C V (.reg ops) s = (steps (RUN C) C.modes V ops s).map (Ex.normal, ·) :=
  EX_eq (fun n r h => by cases n <;> simp_all [exec]) (fun r h => ⟨1, by simpa [exec] using h⟩)
theorem EX_any (D : List (Nat × List Nat)) (ops : List Oq) (s : St) : EX C V (.any D ops) s = (stepsF (RUN C) C.modes V D [] ops s).map (Ex.normal, ·) :=
  EX_eq (fun n r h => by cases n <;> simp_all [exec]) (fun r h => ⟨1, by simpa [exec] using h⟩)
theorem EX_cond (c : Opd) (x y : PC) (s : St) : EX C V (.cond c x y) s = match opd s c with
    | .pv (.bool b) => if b then EX C V x s else EX C V y s
    | _ => none := by
  refine EX_eq (fun n r h => ?_) (fun r h => ?_)
  · cases n with
    | zero => simp [exec] at h
    | succ n =>
      simp only [exec] at h
      split at h
      · rename_i b hb
        cases b with
        | true => simp only [if_true] at h; first | (rw [hb]; exact EX_of h) | exact EX_of h
        | false => simp only [Bool.false_eq_true, if_false] at h; first | (rw [hb]; exact EX_of h) | exact EX_of h
      · cases h
  · split at h
    · rename_i b hb
      cases b with
      | true => simp only [if_true] at h; obtain ⟨n, hn⟩ := of_EX h; exact ⟨n + 1, by simp only [exec, hb, if_true]; exact hn⟩
      | false => simp only [Bool.false_eq_true, if_false] at h; obtain ⟨n, hn⟩ := of_EX h; exact ⟨n + 1, by simp only [exec, hb, Bool.false_eq_true, if_false]; exact hn⟩
    · cases h
theorem EX_block (id : Nat) (b : PC) (s : St) : EX C V (.block id b) s = blockK id (EX C V b s) := by
  refine EX_eq (fun n r h => ?_) (fun r h => ?_)
  · cases n with
    | zero => simp [exec] at h
    | succ n =>
      simp only [exec] at h
      cases hb : exec (RUN C) C.modes V n b s with
      | none => rw [hb] at h; simp [blockK] at h
      | some q => rw [hb] at h; rw [EX_of hb]; exact h
  · cases hb : EX C V b s with
    | none => rw [hb] at h; simp [blockK] at h
    | some q => rw [hb] at h; obtain ⟨n, hn⟩ := of_EX hb; exact ⟨n + 1, by simp only [exec, hn]; exact h⟩
theorem EXK_two {a b : PC} {s : St} {c : PC} (hc : ∀ n, exec (RUN C) C.modes V (n + 1) c s = execK (RUN C) C.modes V n b (exec (RUN C) C.modes V n a s)) : EX C V c s = EXK C V b (EX C V a s) := by
  refine EX_eq (fun n r h => ?_) (fun r h => ?_)
  · cases n with
    | zero => simp [exec] at h
    | succ n =>
      rw [hc] at h
      rcases execK_some h with ⟨s1, h1, h2⟩ | ⟨h1, h2⟩
      · rw [EX_of h1]; simp only [EXK]; exact EX_of h2
      · rw [EX_of h1]
        obtain ⟨e, s1⟩ := r
        cases e <;> simp_all [EXK]
  · cases hb : EX C V a s with
    | none => rw [hb] at h; simp [EXK] at h
    | some q =>
      rw [hb] at h
      obtain ⟨n, hn⟩ := of_EX hb
      obtain ⟨e, s1⟩ := q
      cases e with
      | normal =>
        simp only [EXK] at h
        obtain ⟨m, hm⟩ := of_EX h
        refine ⟨max n m + 1, ?_⟩
        rw [hc, exec_up (Le.refl _) (Nat.le_max_left n m) hn]
        simp only [execK]
        exact exec_up (Le.refl _) (Nat.le_max_right n m) hm
      | exit id => simp only [EXK] at h; obtain rfl := Option.some.inj h; exact ⟨n + 1, by rw [hc, hn]; exact execK_other (by simp)⟩
      | ret => simp only [EXK] at h; obtain rfl := Option.some.inj h; exact ⟨n + 1, by rw [hc, hn]; exact execK_other (by simp)⟩
theorem EX_seq (a b : PC) (s : St) : EX C V (.seq a b) s = EXK C V b (EX C V a s) := EXK_two fun _ => by simp only [exec]
theorem EX_loop (L : List Nat) (b : PC) (s : St) : EX C V (.loop L b) s = EXK C V (.loop L b) (EX C V b (forget L s)) := by
  refine EX_eq (fun n r h => ?_) (fun r h => ?_)
  · cases n with
    | zero => simp [exec] at h
    | succ n =>
      simp only [exec] at h
      rcases execK_some h with ⟨s1, h1, h2⟩ | ⟨h1, h2⟩
      · rw [EX_of h1]; simp only [EXK]; exact EX_of h2
      · rw [EX_of h1]
        obtain ⟨e, s1⟩ := r
        cases e <;> simp_all [EXK]
  · cases hb : EX C V b (forget L s) with
    | none => rw [hb] at h; simp [EXK] at h
    | some q =>
      rw [hb] at h
      obtain ⟨n, hn⟩ := of_EX hb
      obtain ⟨e, s1⟩ := q
      cases e with
      | normal =>
        simp only [EXK] at h
        obtain ⟨m, hm⟩ := of_EX h
        refine ⟨max n m + 1, ?_⟩
        simp only [exec]
        rw [exec_up (Le.refl _) (Nat.le_max_left n m) hn]
        simp only [execK]
        exact exec_up (Le.refl _) (Nat.le_max_right n m) hm
      | exit id => simp only [EXK] at h; obtain rfl := Option.some.inj h; exact ⟨n + 1, by simp only [exec]; rw [hn]; exact execK_other (by simp)⟩
      | ret => simp only [EXK] at h; obtain rfl := Option.some.inj h; exact ⟨n + 1, by simp only [exec]; rw [hn]; exact execK_other (by simp)⟩
end
section
variable (C : Code) {V : List Nat}
theorem doCall_near {f : FuncId} {as : List AV} {m : Mem} {x : List AV × Mem} (hx : doCall (RUN C) C.modes f as m = some x) : ∃ N, doCall (run C N) C.modes f as m = some x := by
  unfold doCall at hx ⊢
  cases ha : argsIn m (C.modes f) as with
  | none => rw [ha] at hx; cases hx
  | some pm =>
    rw [ha] at hx
    simp only at hx ⊢
    cases hr : RUN C f pm.1 with
    | none => rw [hr] at hx; cases hx
    | some r =>
      obtain ⟨N, hN⟩ := of_lim hr
      rw [hr] at hx
      exact ⟨N, by rw [hN]; exact hx⟩
theorem sem_near {d : Nat} {m : Mem} {o : PO} {as : List AV} {x : List AV × Mem} (hx : sem (RUN C) C.modes d m o as = some x) : ∃ N, sem (run C N) C.modes d m o as = some x := by
  unfold sem at hx ⊢
  split at hx
  · exact doCall_near C hx
  · split at hx
    · exact doCall_near C hx
    · cases hx
  · exact ⟨0, hx⟩
  · exact ⟨0, hx⟩
  · exact ⟨0, hx⟩
theorem step_near {o : Oq} {s s1 : St} (hx : step (RUN C) C.modes V o s = some s1) : ∃ N, step (run C N) C.modes V o s = some s1 := by
  unfold step at hx ⊢
  cases hs : sem (RUN C) C.modes (o.dst.getD 0) s.m o.po (o.po.opds.map (opd s)) with
  | none => rw [hs] at hx; cases hx
  | some x => rw [hs] at hx; obtain ⟨N, hN⟩ := sem_near C hs; exact ⟨N, by rw [hN]; exact hx⟩
theorem stepG_near {o : Oq} {s s1 : St} (hx : stepG (RUN C) C.modes V o s = some s1) : ∃ N, stepG (run C N) C.modes V o s = some s1 := by
  unfold stepG at hx ⊢
  split at hx
  · exact step_near C hx
  · split at hx
    · split at hx
      · rename_i h1; simp only [h1, if_true]; exact step_near C hx
      · rename_i h1; exact ⟨0, by simp only [h1, if_false]; exact hx⟩
    · exact ⟨0, hx⟩
    · cases hx
theorem steps_near : ∀ {os : List Oq} {s s1 : St}, steps (RUN C) C.modes V os s = some s1 → ∃ N, steps (run C N) C.modes V os s = some s1
  | [], s, s1, hx => ⟨0, by simpa [steps] using hx⟩
  | o :: os, s, s1, hx => by
    simp only [steps] at hx ⊢
    cases hg : stepG (RUN C) C.modes V o s with
    | none => rw [hg] at hx; simp [stepsK] at hx
    | some s2 =>
      rw [hg] at hx
      simp only [stepsK] at hx
      obtain ⟨N, hN⟩ := stepG_near C hg
      obtain ⟨M, hM⟩ := steps_near hx
      exact ⟨max N M, by rw [stepG_le (run_le C (Nat.le_max_left N M)) hN]; simp only [stepsK]; exact steps_le (run_le C (Nat.le_max_right N M)) hM⟩
theorem stepsF_near : ∀ {os : List Oq} {D : List (Nat × List Nat)} {evs : List (Nat × Ft)} {s s1 : St}, stepsF (RUN C) C.modes V D evs os s = some s1 → ∃ N, stepsF (run C N) C.modes V D evs os s = some s1
  | [], D, evs, s, s1, hx => ⟨0, by cases D <;> simpa [stepsF] using hx⟩
  | o :: os, [], evs, s, s1, hx => by simp [stepsF] at hx
  | o :: os, x :: D, evs, s, s1, hx => by
    simp only [stepsF] at hx ⊢
    cases hg : stepG (RUN C) C.modes V o s with
    | none => rw [hg] at hx; simp [stepsFK] at hx
    | some s2 =>
      rw [hg] at hx
      simp only [stepsFK] at hx
      split at hx
      · rename_i hk
        obtain ⟨N, hN⟩ := stepG_near C hg
        obtain ⟨M, hM⟩ := stepsF_near hx
        exact ⟨max N M, by rw [stepG_le (run_le C (Nat.le_max_left N M)) hN]; simp only [stepsFK]; rw [if_pos hk]; exact stepsF_le (run_le C (Nat.le_max_right N M)) hM⟩
      · cases hx
theorem exec_near : ∀ (n : Nat) (c : PC) (s : St) (r : Ex × St), exec (RUN C) C.modes V n c s = some r → ∃ N, exec (run C N) C.modes V n c s = some r := by
  intro n
  induction n with
  | zero => intro c s r hx; simp [exec] at hx
  | succ n ih =>
    intro c s r hx
    have two : ∀ c x r, execK (RUN C) C.modes V n c x = some r → ∀ (y : Nat → Option (Ex × St)), (∀ N M, N ≤ M → ∀ q, y N = some q → y M = some q) → (∀ q, x = some q → ∃ N, y N = some q) → ∃ N, execK (run C N) C.modes V n c (y N) = some r := by
      intro c x r hk y hup hxy
      rcases execK_some hk with ⟨s1, rfl, h2⟩ | ⟨rfl, hne⟩
      · obtain ⟨N, hN⟩ := hxy _ rfl
        obtain ⟨M, hM⟩ := ih _ _ _ h2
        refine ⟨max N M, ?_⟩
        rw [hup N _ (Nat.le_max_left N M) _ hN]
        simp only [execK]
        exact (exec_le (run_le C (Nat.le_max_right N M)) _ _ _ _ hM).2
      · obtain ⟨N, hN⟩ := hxy _ rfl
        exact ⟨N, by rw [hN]; exact execK_other hne⟩
    cases c with
    | skip => exact ⟨0, by simpa only [exec] using hx⟩
    | exit id => exact ⟨0, by simpa only [exec] using hx⟩
    | ret => exact ⟨0, by simpa only [exec] using hx⟩
    | reg ops =>
      simp only [exec] at hx ⊢
      cases hs : steps (RUN C) C.modes V ops s with
      | none => rw [hs] at hx; cases hx
      | some s1 => rw [hs] at hx; obtain ⟨N, hN⟩ := steps_near C hs; exact ⟨N, by rw [hN]; exact hx⟩
    | any D ops =>
      simp only [exec] at hx ⊢
      cases hs : stepsF (RUN C) C.modes V D [] ops s with
      | none => rw [hs] at hx; cases hx
      | some s1 => rw [hs] at hx; obtain ⟨N, hN⟩ := stepsF_near C hs; exact ⟨N, by rw [hN]; exact hx⟩
    | seq a b =>
      simp only [exec] at hx ⊢
      exact two _ _ _ hx (fun N => exec (run C N) C.modes V n a s) (fun N M hl q hq => (exec_le (run_le C hl) _ _ _ _ hq).2) (fun q hq => ih _ _ _ hq)
    | cond c x y =>
      simp only [exec] at hx ⊢
      split at hx
      · rename_i b hb
        cases b with
        | true => simp only [if_true] at hx ⊢; exact ih _ _ _ hx
        | false => simp only [Bool.false_eq_true, if_false] at hx ⊢; exact ih _ _ _ hx
      · cases hx
    | block id b =>
      simp only [exec] at hx ⊢
      cases hb : exec (RUN C) C.modes V n b s with
      | none => rw [hb] at hx; simp [blockK] at hx
      | some q =>
        obtain ⟨N, hN⟩ := ih _ _ _ hb
        rw [hb] at hx
        exact ⟨N, by rw [hN]; exact hx⟩
    | loop L b =>
      simp only [exec] at hx ⊢
      exact two _ _ _ hx (fun N => exec (run C N) C.modes V n b (forget L s)) (fun N M hl q hq => (exec_le (run_le C hl) _ _ _ _ hq).2) (fun q hq => ih _ _ _ hq)
theorem RUN_eq (f : FuncId) (ps : List PV) : RUN C f ps = match C.prog f with
    | none => C.prim f ps
    | some pf => match enter 0 pf.params ps s0 with
      | some s => finishK pf (EX C pf.V pf.body s)
      | none => none := by
  cases hp : C.prog f with
  | none =>
    simp only
    cases hq : C.prim f ps with
    | some r => exact lim_of (fun _ _ r hl => run_le C hl f ps r) (n := 1) (by rw [run_succ, hp]; exact hq)
    | none =>
      cases hr : RUN C f ps with
      | none => rfl
      | some r =>
        obtain ⟨n, hn⟩ := of_lim hr
        cases n with
        | zero => simp [run] at hn
        | succ n => rw [run_succ, hp] at hn; simp only at hn; rw [hq] at hn; cases hn
  | some pf =>
    simp only
    cases he : enter 0 pf.params ps s0 with
    | none =>
      cases hr : RUN C f ps with
      | none => rfl
      | some r =>
        obtain ⟨n, hn⟩ := of_lim hr
        cases n with
        | zero => simp [run] at hn
        | succ n => rw [run_succ, hp] at hn; simp only at hn; rw [he] at hn; cases hn
    | some s =>
      simp only
      cases hx : EX C pf.V pf.body s with
      | some q =>
        cases hf : finishK pf (some q) with
        | some r =>
          obtain ⟨n, hn⟩ := of_EX hx
          obtain ⟨N, hN⟩ := exec_near C _ _ _ _ hn
          have h1 := exec_up (run_le C (Nat.le_max_right n N)) (Nat.le_max_left n N) hN
          exact lim_of (fun _ _ r hl => run_le C hl f ps r) (n := max n N + 1) (by rw [run_succ, hp]; simp only; rw [he]; simp only; rw [h1]; exact hf)
        | none =>
          cases hr : RUN C f ps with
          | none => rfl
          | some r =>
            obtain ⟨n, hn⟩ := of_lim hr
            cases n with
            | zero => simp [run] at hn
            | succ n =>
              rw [run_succ, hp] at hn; simp only at hn; rw [he] at hn; simp only at hn
              cases hy : exec (run C n) C.modes pf.V n pf.body s with
              | none => rw [hy] at hn; simp [finishK] at hn
              | some q' =>
                have := EX_of (exec_up (run_RUN n) (Nat.le_refl n) hy)
                rw [hx] at this
                obtain rfl := Option.some.inj this
                rw [hy, hf] at hn
                cases hn
      | none =>
        simp only [finishK]
        cases hr : RUN C f ps with
        | none => rfl
        | some r =>
          obtain ⟨n, hn⟩ := of_lim hr
          cases n with
          | zero => simp [run] at hn
          | succ n =>
            rw [run_succ, hp] at hn; simp only at hn; rw [he] at hn; simp only at hn
            cases hy : exec (run C n) C.modes pf.V n pf.body s with
            | none => rw [hy] at hn; simp [finishK] at hn
            | some q' =>
              have := EX_of (exec_up (run_RUN n) (Nat.le_refl n) hy)
              rw [hx] at this
              cases this
end
section
variable {C : Code} {V : List Nat}
theorem EXK_normal (c : PC) (s : St) : EXK C V c (some (.normal, s)) = EX C V c s := rfl
theorem EXK_exit (c : PC) (id : Nat) (s : St) : EXK C V c (some (.exit id, s)) = some (.exit id, s) := rfl
theorem EXK_ret (c : PC) (s : St) : EXK C V c (some (.ret, s)) = some (.ret, s) := rfl
theorem blockK_normal (id : Nat) (s : St) : blockK id (some (.normal, s)) = some (.normal, s) := rfl
theorem blockK_exit (id i : Nat) (s : St) : blockK id (some (.exit i, s)) = if i = id then some (.normal, s) else some (.exit i, s) := rfl
theorem blockK_ret (id : Nat) (s : St) : blockK id (some (.ret, s)) = some (.ret, s) := rfl
theorem finishK_normal (f : PF) (s : St) : finishK f (some (.normal, s)) = finish f s := rfl
theorem finishK_ret (f : PF) (s : St) : finishK f (some (.ret, s)) = finish f s := rfl
def regK : Option St → Option (Ex × St)
  | some s => some (.normal, s)
  | none => none
theorem regK_some (s : St) : regK (some s) = some (.normal, s) := rfl
theorem EX_regK (ops : List Oq) (s : St) : EX C V (.reg ops) s = regK (steps (RUN C) C.modes V ops s) := by
  rw [EX_reg]; cases steps (RUN C) C.modes V ops s <;> rfl
noncomputable def condK (C : Code) (V : List Nat) (x y : PC) (s : St) : AV → Option (Ex × St)
  | .pv (.bool b) => if b then EX C V x s else EX C V y s
  | _ => none
theorem condK_bool (x y : PC) (s : St) (b : Bool) : condK C V x y s (.pv (.bool b)) = if b then EX C V x s else EX C V y s := rfl
theorem EX_condK (c : Opd) (x y : PC) (s : St) : EX C V (.cond c x y) s = condK C V x y s (opd s c) := by rw [EX_cond]; rfl
theorem RUN_of {f : FuncId} {pf : PF} (h : C.prog f = some pf) {ps : List PV} {s : St} (he : enter 0 pf.params ps s0 = some s) : RUN C f ps = finishK pf (EX C pf.V pf.body s) := by
  rw [RUN_eq, h]; simp only [he]
end
end Go.Proofs.YtdbcnnehfbcldaaDoor.Pv
/- How the plain values lie in memory: the relation between a plain value and a value of the machine. No condition. -/
namespace Go.Proofs.YtdbcnnehfbcldaaDoor.Pv
open Go
def flatC (xs : List PV) : List PV := xs.flatMap PV.cells
mutual
inductive Rep (P : Program) (w : World) (ok : Bool → Nat → Prop) : PV → Value → List Nat → Prop
  | int (k : IntKind) (n : Int) : Rep P w ok (.int k n) (.int k n) []
  | bool (b : Bool) : Rep P w ok (.bool b) (.bool b) []
  | str (s : ByteArray) : Rep P w ok (.str s) (.string s) []
  | nilp : Rep P w ok .nilp (.pointer none) []
  | nili : Rep P w ok .nili .nilIface []
  | iface (t : TypeId) (x : PV) (v : Value) : Rep P w ok x v [] → Rep P w ok (.iface t x) (.iface t v) []
  | agg (cs : List PV) (vs : List Value) (F : List Nat) : RepL P w ok cs vs F → Rep P w ok (.agg cs) (.agg vs.toArray) F
  | ref (cs : List PV) (vs : List Value) (b off : Nat) : RepL P w ok cs vs [] → ok true b → b < w.heap.size →
      (∀ j v, vs[j]? = some v → w.cell? ⟨b, off + j, none⟩ = some v) → Rep P w ok (.ref cs) (.pointer (some ⟨b, off, none⟩)) []
  | clo (f : FuncId) (cs : List PV) (vs : List Value) : RepL P w ok cs vs [] → Rep P w ok (.clo f cs) (.func (.func f) #[] vs.toArray) []
  | slN (fl : Nat) (e : TypeId) : Rep P w ok (.sl fl e []) (.slice none 0 0) []
  | slE (fl : Nat) (e : TypeId) (ad : Addr) : Rep P w ok (.sl fl e []) (.slice (some ad) 0 0) []
  | slI (e : TypeId) (xs : List PV) (vs : List Value) (b off cap : Nat) : RepL P w ok (flatC xs) vs [] → (∀ x ∈ xs, x.cells.length = P.cellsOf e) →
      (xs ≠ [] → ok false b ∧ b < w.heap.size) → (∀ j v, vs[j]? = some v → w.cell? ⟨b, off + j, none⟩ = some v) → xs.length ≤ cap → cap ≤ maxLen →
      Rep P w ok (.sl 0 e xs) (.slice (some ⟨b, off, none⟩) xs.length cap) []
  | slO (e : TypeId) (xs : List PV) (vs : List Value) (b off cap : Nat) (arr : Array Value) (ty : TypeId) (F : List Nat) : RepL P w ok (flatC xs) vs F → (∀ x ∈ xs, x.cells.length = P.cellsOf e) →
      w.heap[b]? = some (.cells arr ty (0, 0)) → (∀ j v, vs[j]? = some v → arr[off + j]? = some v) → xs.length ≤ cap → cap ≤ maxLen → cap ≠ 0 →
      Rep P w ok (.sl 1 e xs) (.slice (some ⟨b, off, none⟩) xs.length cap) (b :: F)
  | slA (e : TypeId) (xs : List PV) (vs : List Value) (b cap : Nat) (F : List Nat) : RepL P w ok (flatC xs) vs F → (∀ x ∈ xs, x.cells.length = P.cellsOf e) →
      w.ownsRow 0 e (P.cellsOf e) (.slice (some ⟨b, 0, none⟩) xs.length cap) xs.length vs → cap ≠ 0 →
      Rep P w ok (.sl 2 e xs) (.slice (some ⟨b, 0, none⟩) xs.length cap) (b :: F)
inductive RepL (P : Program) (w : World) (ok : Bool → Nat → Prop) : List PV → List Value → List Nat → Prop
  | nil : RepL P w ok [] [] []
  | cons (c : PV) (v : Value) (F : List Nat) (cs : List PV) (vs : List Value) (G : List Nat) : (∀ ds, c ≠ .agg ds) → Rep P w ok c v F → RepL P w ok cs vs G → RepL P w ok (c :: cs) (v :: vs) (F ++ G)
end
section
variable {P : Program} {w w' : World} {ok ok' : Bool → Nat → Prop}
theorem cell_same {b off : Nat} {v : Value} (h : w'.heap[b]? = w.heap[b]?) (hc : w.cell? ⟨b, off, none⟩ = some v) : w'.cell? ⟨b, off, none⟩ = some v :=
  (World.cell?_of_block (a := ⟨b, off, none⟩) h).trans hc
mutual
theorem Rep.frame (hk : ∀ i b, ok i b → b < w.heap.size → ok' i b) (hs : w.heap.size ≤ w'.heap.size) (ho : ∀ i b, ok i b → b < w.heap.size → w'.heap[b]? = w.heap[b]?) : ∀ {p : PV} {v : Value} {F : List Nat}, Rep P w ok p v F → (∀ b ∈ F, w'.heap[b]? = w.heap[b]?) → Rep P w' ok' p v F
  | _, _, _, .int k n, _ => .int k n
  | _, _, _, .bool b, _ => .bool b
  | _, _, _, .str s, _ => .str s
  | _, _, _, .nilp, _ => .nilp
  | _, _, _, .nili, _ => .nili
  | _, _, _, .iface t x v h, hF => .iface t x v (h.frame hk hs ho hF)
  | _, _, _, .agg cs vs F h, hF => .agg cs vs F (RepL.frame hk hs ho h hF)
  | _, _, _, .ref cs vs b off h hb hlt hc, hF => .ref cs vs b off (RepL.frame hk hs ho h hF) (hk true b hb hlt) (by omega) (fun j v hj => cell_same (ho true b hb hlt) (hc j v hj))
  | _, _, _, .clo f cs vs h, hF => .clo f cs vs (RepL.frame hk hs ho h hF)
  | _, _, _, .slN fl e, _ => .slN fl e
  | _, _, _, .slE fl e ad, _ => .slE fl e ad
  | _, _, _, .slI e xs vs b off cap h hu hb hc h1 h2, hF => by
    refine .slI e xs vs b off cap (RepL.frame hk hs ho h hF) hu (fun hx => ⟨hk false b (hb hx).1 (hb hx).2, by have := (hb hx).2; omega⟩) (fun j v hj => ?_) h1 h2
    have hx : xs ≠ [] := by
      rintro rfl
      cases h
      simp at hj
    exact cell_same (ho false b (hb hx).1 (hb hx).2) (hc j v hj)
  | _, _, _, .slO e xs vs b off cap arr ty F h hu hg hc h1 h2 hz, hF => by
    refine .slO e xs vs b off cap arr ty F (RepL.frame hk hs ho h (fun b hb => hF b (List.mem_cons_of_mem _ hb))) hu ?_ hc h1 h2 hz
    rw [hF b List.mem_cons_self]; exact hg
  | _, _, _, .slA e xs vs b cap F h hu hr hz, hF => by
    refine .slA e xs vs b cap F (RepL.frame hk hs ho h (fun b hb => hF b (List.mem_cons_of_mem _ hb))) hu ⟨hr.1, ?_⟩ hz
    rcases hr.2 with hn | ⟨g, c, cur, he, hb, hg, rest⟩
    · exact .inl hn
    · refine .inr ⟨g, c, cur, he, hb, ?_, rest⟩
      have : b = g := by simp at he; exact he.1
      rw [← this, hF b List.mem_cons_self, this]; exact hg
theorem RepL.frame (hk : ∀ i b, ok i b → b < w.heap.size → ok' i b) (hs : w.heap.size ≤ w'.heap.size) (ho : ∀ i b, ok i b → b < w.heap.size → w'.heap[b]? = w.heap[b]?) : ∀ {ps : List PV} {vs : List Value} {F : List Nat}, RepL P w ok ps vs F → (∀ b ∈ F, w'.heap[b]? = w.heap[b]?) → RepL P w' ok' ps vs F
  | _, _, _, .nil, _ => .nil
  | _, _, _, .cons c v F cs vs G h0 h1 h2, hF => .cons c v F cs vs G h0 (h1.frame hk hs ho (fun b hb => hF b (List.mem_append_left _ hb))) (RepL.frame hk hs ho h2 (fun b hb => hF b (List.mem_append_right _ hb)))
end
theorem RepL.length {ps : List PV} {vs : List Value} {F : List Nat} : RepL P w ok ps vs F → ps.length = vs.length
  | .nil => rfl
  | .cons _ _ _ _ _ _ _ _ h => by simp [RepL.length h]
theorem RepL.append : ∀ {ps qs : List PV} {vs us : List Value} {F G : List Nat}, RepL P w ok ps vs F → RepL P w ok qs us G → RepL P w ok (ps ++ qs) (vs ++ us) (F ++ G)
  | _, _, _, _, _, _, .nil, h => h
  | _, _, _, _, _, _, .cons c v F cs vs G h0 h1 h2, h => by
    rw [List.append_assoc]
    exact .cons _ _ _ _ _ _ h0 h1 (RepL.append h2 h)
theorem RepL.split {qs : List PV} : ∀ {ps : List PV} {us : List Value} {G : List Nat}, RepL P w ok (ps ++ qs) us G → ∃ v1 v2 F1 F2, us = v1 ++ v2 ∧ G = F1 ++ F2 ∧ RepL P w ok ps v1 F1 ∧ RepL P w ok qs v2 F2
  | [], us, G, h => ⟨[], us, [], G, rfl, rfl, .nil, h⟩
  | p :: ps, us, G, h => by
    rw [List.cons_append] at h
    cases h with
    | cons c v F cs vs G h0 h1 h2 =>
      obtain ⟨v1, v2, F1, F2, rfl, rfl, h3, h4⟩ := RepL.split h2
      exact ⟨v :: v1, v2, F ++ F1, F2, rfl, by rw [List.append_assoc], .cons _ _ _ _ _ _ h0 h1 h3, h4⟩
theorem RepL.get : ∀ {ps : List PV} {vs : List Value} {F : List Nat} {i : Nat} {p : PV}, RepL P w ok ps vs F → ps[i]? = some p → ∃ v G, vs[i]? = some v ∧ Rep P w ok p v G ∧ (∀ b ∈ G, b ∈ F) ∧ (F.Nodup → G.Nodup)
  | _, _, _, 0, p, .cons c v F cs vs G h0 h1 h2, h => by
    simp at h; subst h
    exact ⟨v, F, rfl, h1, fun b hb => List.mem_append_left _ hb, fun hn => (List.nodup_append.1 hn).1⟩
  | _, _, _, i + 1, p, .cons c v F cs vs G h0 h1 h2, h => by
    obtain ⟨v', G', h3, h4, h5, h6⟩ := RepL.get h2 (by simpa using h)
    exact ⟨v', G', by simpa using h3, h4, fun b hb => List.mem_append_right _ (h5 b hb), fun hn => h6 (List.nodup_append.1 hn).2.1⟩
theorem RepL.one {p : PV} {v : Value} {F : List Nat} (h0 : ∀ ds, p ≠ .agg ds) (h : Rep P w ok p v F) : RepL P w ok [p] [v] F := by
  have := RepL.cons p v F [] [] [] h0 h .nil
  simpa using this
theorem RepL.of_one {p : PV} {vs : List Value} {F : List Nat} (h : RepL P w ok [p] vs F) : ∃ v, vs = [v] ∧ Rep P w ok p v F := by
  cases h with
  | cons c v F cs vs G h0 h1 h2 => cases h2; exact ⟨v, rfl, by simpa using h1⟩
mutual
theorem Rep.lt : ∀ {p : PV} {v : Value} {F : List Nat}, Rep P w ok p v F → ∀ b ∈ F, b < w.heap.size
  | _, _, _, .int _ _, b, hb => by simp at hb
  | _, _, _, .bool _, b, hb => by simp at hb
  | _, _, _, .str _, b, hb => by simp at hb
  | _, _, _, .nilp, b, hb => by simp at hb
  | _, _, _, .nili, b, hb => by simp at hb
  | _, _, _, .iface _ _ _ _, b, hb => by simp at hb
  | _, _, _, .agg cs vs F h, b, hb => RepL.lt h b hb
  | _, _, _, .ref _ _ _ _ _ _ _ _, b, hb => by simp at hb
  | _, _, _, .clo _ _ _ _, b, hb => by simp at hb
  | _, _, _, .slN _ _, b, hb => by simp at hb
  | _, _, _, .slE _ _ _, b, hb => by simp at hb
  | _, _, _, .slI _ _ _ _ _ _ _ _ _ _ _ _, b, hb => by simp at hb
  | _, _, _, .slO e xs vs g off cap arr ty F h hu hg hc h1 h2 _, b, hb => by
    rcases List.mem_cons.1 hb with rfl | hb
    · exact (Array.getElem?_eq_some_iff.1 hg).1
    · exact RepL.lt h b hb
  | _, _, _, .slA e xs vs g cap F h hu hr _, b, hb => by
    rcases List.mem_cons.1 hb with rfl | hb
    · exact (hr.lt _ (by simp [Value.ownBlock])).2
    · exact RepL.lt h b hb
theorem RepL.lt : ∀ {ps : List PV} {vs : List Value} {F : List Nat}, RepL P w ok ps vs F → ∀ b ∈ F, b < w.heap.size
  | _, _, _, .nil, b, hb => by simp at hb
  | _, _, _, .cons c v F cs vs G _ h1 h2, b, hb => by
    rcases List.mem_append.1 hb with hb | hb
    · exact h1.lt b hb
    · exact RepL.lt h2 b hb
end
theorem demL_map : ∀ xs : List PV, demL xs = xs.map PV.dem
  | [] => by simp [demL]
  | x :: xs => by simp [demL, demL_map xs]
theorem dem_cells (x : PV) : x.dem.cells = demL x.cells := by
  cases x <;> simp [PV.dem, PV.cells, demL]
theorem flatC_dem (xs : List PV) : flatC (demL xs) = demL (flatC xs) := by
  rw [demL_map, demL_map]
  unfold flatC
  induction xs with
  | nil => rfl
  | cons x xs ih => simp only [List.map_cons, List.flatMap_cons, List.map_append, ih, dem_cells, demL_map]
theorem own_reads {e : TypeId} {sz b n cap : Nat} {vs : List Value} (h : w.ownsRow 0 e sz (.slice (some ⟨b, 0, none⟩) n cap) n vs) : ∀ j v, vs[j]? = some v → w.cell? ⟨b, 0 + j, none⟩ = some v := by
  intro j v hj
  have := h.cells (g := b) rfl j v hj
  simpa [Addr.add, Nat.zero_add] using (show w.cell? ((⟨b, 0, none⟩ : Addr).add j) = some v from this) ▸ (by
    by_cases h0 : j = 0
    · subst h0; simp [Addr.add]
    · simp [Addr.add, h0])
mutual
theorem Rep.dem (hk : ∀ i b, ok i b → b < w.heap.size → ok' i b) : ∀ {p : PV} {v : Value} {F : List Nat}, Rep P w ok p v F → (∀ b ∈ F, ok' false b) → Rep P w ok' p.dem v []
  | _, _, _, .int k n, _ => by simp only [PV.dem]; exact .int k n
  | _, _, _, .bool b, _ => by simp only [PV.dem]; exact .bool b
  | _, _, _, .str s, _ => by simp only [PV.dem]; exact .str s
  | _, _, _, .nilp, _ => by simp only [PV.dem]; exact .nilp
  | _, _, _, .nili, _ => by simp only [PV.dem]; exact .nili
  | _, _, _, .iface t x v h, hF => by simp only [PV.dem]; exact .iface t _ v (h.dem hk hF)
  | _, _, _, .agg cs vs F h, hF => by simp only [PV.dem]; exact .agg _ vs [] (RepL.dem hk h hF)
  | _, _, _, .ref cs vs b off h hb hlt hc, hF => by simp only [PV.dem]; exact .ref _ vs b off (RepL.dem hk h hF) (hk true b hb hlt) hlt hc
  | _, _, _, .clo f cs vs h, hF => by simp only [PV.dem]; exact .clo f _ vs (RepL.dem hk h hF)
  | _, _, _, .slN fl e, _ => by simp only [PV.dem, demL]; exact .slN 0 e
  | _, _, _, .slE fl e ad, _ => by simp only [PV.dem, demL]; exact .slE 0 e ad
  | _, _, _, .slI e xs vs b off cap h hu hb hc h1 h2, hF => by
    simp only [PV.dem]
    have := Rep.slI (P := P) (w := w) (ok := ok') e (demL xs) vs b off cap (by rw [flatC_dem]; exact RepL.dem hk h hF) (by
      intro x hx; rw [demL_map] at hx; obtain ⟨y, hy, rfl⟩ := List.mem_map.1 hx; rw [dem_cells, demL_map, List.length_map]; exact hu y hy) (by
      intro hx; rw [demL_map] at hx; have := hb (by rintro rfl; simp at hx); exact ⟨hk false b this.1 this.2, this.2⟩) hc (by rw [demL_map, List.length_map]; exact h1) h2
    rw [demL_map, List.length_map] at this
    rw [demL_map]; exact this
  | _, _, _, .slO e xs vs b off cap arr ty F h hu hg hc h1 h2 _, hF => by
    simp only [PV.dem]
    have := Rep.slI (P := P) (w := w) (ok := ok') e (demL xs) vs b off cap (by rw [flatC_dem]; exact RepL.dem hk h (fun b hb => hF b (List.mem_cons_of_mem _ hb))) (by
      intro x hx; rw [demL_map] at hx; obtain ⟨y, hy, rfl⟩ := List.mem_map.1 hx; rw [dem_cells, demL_map, List.length_map]; exact hu y hy)
      (fun _ => ⟨hF b List.mem_cons_self, (Array.getElem?_eq_some_iff.1 hg).1⟩) (fun j v hj => by
        have := hc j v hj
        simp [World.cell?, hg, this]) (by rw [demL_map, List.length_map]; exact h1) h2
    rw [demL_map, List.length_map] at this
    rw [demL_map]; exact this
  | _, _, _, .slA e xs vs b cap F h hu hr _, hF => by
    simp only [PV.dem]
    have hcap : xs.length ≤ cap ∧ cap ≤ maxLen ∧ b < w.heap.size := by
      rcases hr.2 with ⟨hn, _⟩ | ⟨g, c, cur, he, _, hg, h3, h4, _⟩
      · cases hn
      · simp at he; obtain ⟨rfl, rfl⟩ := he; exact ⟨h3, h4, (Array.getElem?_eq_some_iff.1 hg).1⟩
    have := Rep.slI (P := P) (w := w) (ok := ok') e (demL xs) vs b 0 cap (by rw [flatC_dem]; exact RepL.dem hk h (fun b hb => hF b (List.mem_cons_of_mem _ hb))) (by
      intro x hx; rw [demL_map] at hx; obtain ⟨y, hy, rfl⟩ := List.mem_map.1 hx; rw [dem_cells, demL_map, List.length_map]; exact hu y hy)
      (fun _ => ⟨hF b List.mem_cons_self, hcap.2.2⟩) (own_reads hr) (by rw [demL_map, List.length_map]; exact hcap.1) hcap.2.1
    rw [demL_map, List.length_map] at this
    rw [demL_map]; exact this
theorem RepL.dem (hk : ∀ i b, ok i b → b < w.heap.size → ok' i b) : ∀ {ps : List PV} {vs : List Value} {F : List Nat}, RepL P w ok ps vs F → (∀ b ∈ F, ok' false b) → RepL P w ok' (demL ps) vs []
  | _, _, _, .nil, _ => by simp only [demL]; exact .nil
  | _, _, _, .cons c v F cs vs G h0 h1 h2, hF => by
    simp only [demL]
    exact .cons _ v [] _ vs [] (fun ds e => by cases c <;> simp_all [PV.dem]) (h1.dem hk (fun b hb => hF b (List.mem_append_left _ hb))) (RepL.dem hk h2 (fun b hb => hF b (List.mem_append_right _ hb)))
end
theorem Rep.oneCell {p : PV} {v : Value} {F : List Nat} (h : Rep P w ok p v F) (ha : ∀ cs, p ≠ .agg cs) : v.oneCell' = true := by
  cases h <;> first | rfl | exact absurd rfl (ha _)
theorem Rep.own_nil {p : PV} {v : Value} {F : List Nat} (h : Rep P w ok p v F) (ho : ownP p = false) (ha : ∀ cs, p ≠ .agg cs) : F = [] := by
  cases h <;> simp_all [ownP]
theorem RepL.own_nil : ∀ {ps : List PV} {vs : List Value} {F : List Nat}, RepL P w ok ps vs F → (∀ p ∈ ps, ownP p = false) → F = []
  | _, _, _, .nil, _ => rfl
  | _, _, _, .cons c v F cs vs G h0 h1 h2, h => by
    have e1 := h1.own_nil (h c List.mem_cons_self) h0
    have e2 := RepL.own_nil h2 (fun p hp => h p (List.mem_cons_of_mem _ hp))
    simp [e1, e2]
theorem Rep.own_none {p : PV} {v : Value} {F : List Nat} (h : Rep P w ok p v F) (ho : p.own = false) : F = [] := by
  by_cases ha : ∃ cs, p = .agg cs
  · obtain ⟨cs, rfl⟩ := ha
    cases h with
    | agg _ vs _ h => exact RepL.own_nil h (fun p hp => by simpa using (List.any_eq_false.1 ho p hp))
  · have : p.own = ownP p := by cases p <;> simp_all [PV.own]
    exact h.own_nil (this ▸ ho) (fun cs e => ha ⟨cs, e⟩)
end
end Go.Proofs.YtdbcnnehfbcldaaDoor.Pv
/- What a state of the plain reading says of a frame and a world of the machine. No condition. -/
namespace Go.Proofs.YtdbcnnehfbcldaaDoor.Pv
open Go
inductive Own where
  | t (n : Nat)
  | r (r : Root)
  | b (o : Nat)
  | x
  deriving DecidableEq
structure Lent where
  b : Nat
  off : Nat
  n : Nat
  arr : Array Value
  ty : TypeId
structure Entry where
  w0 : World
  held : Nat → Prop
  ok0 : Bool → Nat → Prop
  lent : Nat → Option Lent
  hd0 : Nat → Option Value
  prov : Nat → Option Nat
structure Gh where
  γ : Nat → Option Own
  β : Nat → Nat × Nat
  hd : Nat → Value
  E : Entry
def Gh.ok (G : Gh) : Bool → Nat → Prop := fun i b => G.γ b = none ∧ (b < G.E.w0.heap.size → G.E.held b ∨ G.E.ok0 i b)
def Hd (G : Gh) (w : World) : Root → Value → Prop
  | .v t, v => v = G.hd t
  | .c o n, v => w.cell? ⟨(G.β o).1, (G.β o).2 + n, none⟩ = some v
inductive Nest (P : Program) (G : Gh) (root : Root) (w : World) : PV → Value → List (Nat × Nat) → PV → Value → Prop
  | nil (p : PV) (v : Value) : Nest P G root w p v [] p v
  | cons (fl : Nat) (e : TypeId) (xs : List PV) (b off n cap i f : Nat) (rest : List (Nat × Nat)) (x c p : PV) (u v : Value) : 1 ≤ fl → xs[i]? = some x → x.cells[f]? = some c → G.γ b = some (.r root) →
      w.cell? ⟨b, off + (i * P.cellsOf e + f), none⟩ = some u → Nest P G root w c u rest p v → Nest P G root w (.sl fl e xs) (.slice (some ⟨b, off, none⟩) n cap) ((i, f) :: rest) p v
def RefAt (P : Program) (G : Gh) (w : World) (m : Mem) (r : Ref) (p : PV) (v : Value) : Prop :=
  r.valid m = true ∧ ∃ p0 v0, m.at r.root = some p0 ∧ Hd G w r.root v0 ∧ Nest P G r.root w p0 v0 r.path p v
def Dead (m : Mem) (r : Ref) : Prop := r.k < m.kr r.root ∨ (r.k = m.kr r.root ∧ r.path ≠ [] ∧ r.kn < m.kn r.root) ∨ (m.at r.root = none ∧ r.k ≤ m.kr r.root)
mutual
inductive RepA (P : Program) (G : Gh) (w : World) (m : Mem) : AV → Value → List Nat → Prop
  | pv (p : PV) (v : Value) (F : List Nat) : (∀ ds, p ≠ .agg ds) → Rep P w G.ok p v F → RepA P G w m (.pv p) v F
  | rw (r : Ref) (p : PV) (v : Value) : v.oneCell' = true → RefAt P G w m r p v → RepA P G w m (.rw r) v []
  | rwX (r : Ref) (v : Value) : v.oneCell' = true → Dead m r → RepA P G w m (.rw r) v []
  | ptr (o k c : Nat) : m.kb o = k → RepA P G w m (.ptr o k c) (.pointer (some ⟨(G.β o).1, (G.β o).2 + c, none⟩)) []
  | ptrX (o k c : Nat) (v : Value) : v.oneCell' = true → k < m.kb o → RepA P G w m (.ptr o k c) v []
  | ept (r : Ref) (i f fl : Nat) (e : TypeId) (xs : List PV) (b off n cap : Nat) : RefAt P G w m r (.sl fl e xs) (.slice (some ⟨b, off, none⟩) n cap) → i < xs.length →
      RepA P G w m (.ept r i f) (.pointer (some ⟨b, off + (i * P.cellsOf e + f), none⟩)) []
  | eptX (r : Ref) (i f : Nat) (v : Value) : v.oneCell' = true → Dead m r → RepA P G w m (.ept r i f) v []
  | mp (o k : Nat) : m.kb o = k → RepA P G w m (.mp o k) (.map (some (G.β o).1)) []
  | mpX (o k : Nat) (v : Value) : v.oneCell' = true → k < m.kb o → RepA P G w m (.mp o k) v []
  | clo (f : FuncId) (cs : List AV) (vs : List Value) : RepAL P G w m cs vs [] → RepA P G w m (.clo f cs) (.func (.func f) #[] vs.toArray) []
  | agg (cs : List AV) (vs : List Value) (F : List Nat) : RepAL P G w m cs vs F → RepA P G w m (.agg cs) (.agg vs.toArray) F
  | undef (v : Value) : RepA P G w m .undef v []
  | void : RepA P G w m .void Go.undef []
inductive RepAL (P : Program) (G : Gh) (w : World) (m : Mem) : List AV → List Value → List Nat → Prop
  | nil : RepAL P G w m [] [] []
  | cons (c : AV) (v : Value) (F : List Nat) (cs : List AV) (vs : List Value) (F' : List Nat) : (∀ ds, c ≠ .agg ds) → RepA P G w m c v F → RepAL P G w m cs vs F' → RepAL P G w m (c :: cs) (v :: vs) (F ++ F')
end
def conc (a : Act) (t : Nat) : Option Value :=
  if t < 1000000 then some (a.tmps.getD t undef) else match a.tmps.getD (t % 1000000) undef with
    | .tuple vs => vs[t / 1000000 - 1]?
    | _ => none
structure Env (P : Program) (G : Gh) (m : Mem) (w : World) : Prop where
  mono : ∀ b, G.E.ok0 false b → G.E.ok0 true b
  os : w.os = G.E.w0.os
  tape : w.tape = G.E.w0.tape
  output : w.output = G.E.w0.output
  size : G.E.w0.heap.size ≤ w.heap.size
  keep : ∀ b, b < G.E.w0.heap.size → ¬ G.E.held b → G.γ b = none ∧ w.heap[b]? = G.E.w0.heap[b]?
  lent : ∀ o L, G.E.lent o = some L → G.γ L.b = some (.b o) ∧ (∃ arr, w.heap[L.b]? = some (.cells arr L.ty (0, 0)) ∧ arr.size = L.arr.size ∧ ∀ j, (j < L.off ∨ L.off + L.n ≤ j) → arr[j]? = L.arr[j]?) ∧
    (m.kb o = 0 → G.β o = (L.b, L.off) ∧ ∀ cs, m.b o = some cs → cs.length = L.n) ∧ (m.kb o ≠ 0 → (G.β o).1 ≠ L.b)
  hd0 : ∀ t v, G.E.hd0 t = some v → m.kr (.v t) = 0 → G.hd t = v
  provlt : ∀ b i, G.E.prov b = some i → b < G.E.w0.heap.size
  prov : ∀ b i, G.E.prov b = some i → m.kr (.v i) = 0 → G.γ b = some (.r (.v i))
def BoxAt (P : Program) (G : Gh) (w : World) (m : Mem) (o : Nat) (cs : List AV) : Prop :=
  ∃ arr ty, w.heap[(G.β o).1]? = some (.cells arr ty (0, 0)) ∧ G.γ (G.β o).1 = some (.b o) ∧ (G.β o).2 + cs.length ≤ arr.size ∧
    ∀ j c, cs[j]? = some c → ∃ v F, arr[(G.β o).2 + j]? = some v ∧ RepA P G w m c v F ∧ F.Nodup ∧ (∀ b ∈ F, G.γ b = some (.r (.c o j))) ∧ (∀ ds, c ≠ .agg ds)
inductive RepM (P : Program) (w : World) (ok : Bool → Nat → Prop) : List (PV × PV) → List MapEntry → Prop
  | nil : RepM P w ok [] []
  | cons (k x : PV) (e : MapEntry) (es : List (PV × PV)) (ents : List MapEntry) : Rep P w ok k e.key [] → Rep P w ok x e.val [] → RepM P w ok es ents → RepM P w ok ((k, x) :: es) (e :: ents)
def MapAt (P : Program) (G : Gh) (w : World) (o : Nat) (es : List (PV × PV)) : Prop :=
  ∃ ents clock, w.heap[(G.β o).1]? = some (.map ents clock) ∧ G.γ (G.β o).1 = some (.b o) ∧ RepM P w G.ok es ents.toList
def TmpAt (P : Program) (G : Gh) (w : World) (m : Mem) (t : Nat) (c : AV) (v : Value) : Prop := ∃ F, RepA P G w m c v F ∧ F.Nodup ∧ ∀ b ∈ F, G.γ b = some (.t t)
def RowAt (P : Program) (G : Gh) (w : World) (t : Nat) (p : PV) : Prop := ∃ F, Rep P w G.ok p (G.hd t) F ∧ F.Nodup ∧ ∀ b ∈ F, G.γ b = some (.r (.v t))
structure Sim (P : Program) (ar : Nat → Nat) (N : Nat) (E : Entry) (G : Gh) (s : St) (a : Act) (w : World) : Prop where
  ent : G.E = E
  size : a.tmps.size = N
  defers : a.defers = []
  lab : ∀ b, G.γ b ≠ none → b < w.heap.size
  tmp : ∀ t v, conc a t = some v → TmpAt P G w s.m t (s.t t) v
  nn : ∀ t, conc a t = none → s.t t = .undef
  comp : ∀ t, 1000000 ≤ t → ar (t % 1000000) ≤ t / 1000000 - 1 → s.t t = .undef
  whole : ∀ t, t < 1000000 → ar t ≠ 0 → s.t t = .undef
  box : ∀ o cs, s.m.b o = some cs → BoxAt P G w s.m o cs
  map : ∀ o es, s.m.mp o = some es → MapAt P G w o es
  row : ∀ t p, s.m.r t = some p → RowAt P G w t p
  env : Env P G s.m w
section
variable {P : Program} {G : Gh} {w : World} {m : Mem}
theorem Nest.sub {root : Root} {p q : PV} {v u : Value} {path : List (Nat × Nat)} (h : Nest P G root w p v path q u) : p.sub path = some q := by
  induction h with
  | nil p v => simp [PV.sub]
  | cons fl e xs b off n cap i f rest x c p u v h0 h1 h2 hl h3 h4 ih => simp [PV.sub, h1, h2, ih]
theorem RefAt.deref {r : Ref} {p : PV} {v : Value} (h : RefAt P G w m r p v) : m.deref r = some p := by
  obtain ⟨hv, p0, v0, h1, h2, h3⟩ := h
  simp [Mem.deref, hv, h1, h3.sub]
theorem Dead.deref {r : Ref} (h : Dead m r) : m.deref r = none := by
  unfold Mem.deref
  split
  · rename_i hv
    unfold Ref.valid at hv
    rw [Bool.and_eq_true, Bool.or_eq_true, beq_iff_eq, beq_iff_eq, List.isEmpty_iff] at hv
    rcases h with h | ⟨h1, h2, h3⟩ | ⟨h1, h2⟩
    · omega
    · rcases hv.2 with h4 | h4
      · exact absurd h4 h2
      · omega
    · rw [h1]; rfl
  · rfl
theorem RepA.of_deref {r : Ref} {p : PV} {v : Value} {F : List Nat} (h : RepA P G w m (.rw r) v F) (hd : m.deref r = some p) : RefAt P G w m r p v ∧ F = [] := by
  cases h with
  | rw _ q _ _ h => have := h.deref; rw [hd] at this; obtain rfl := Option.some.inj this; exact ⟨h, rfl⟩
  | rwX _ _ _ hx => rw [hx.deref] at hd; cases hd
theorem RepA.of_deref_ept {r : Ref} {i f fl : Nat} {e : TypeId} {xs : List PV} {v : Value} {F : List Nat} (h : RepA P G w m (.ept r i f) v F) (hd : m.deref r = some (.sl fl e xs)) :
    ∃ b off n cap, RefAt P G w m r (.sl fl e xs) (.slice (some ⟨b, off, none⟩) n cap) ∧ i < xs.length ∧ v = .pointer (some ⟨b, off + (i * P.cellsOf e + f), none⟩) ∧ F = [] := by
  cases h with
  | ept _ _ _ fl' e' xs' b off n cap h hi =>
    have := h.deref
    rw [hd] at this
    injection this with this
    injection this with h1 h2 h3
    subst h1; subst h2; subst h3
    exact ⟨b, off, n, cap, h, hi, rfl, rfl⟩
  | eptX _ _ _ _ _ hx => rw [hx.deref] at hd; cases hd
theorem RepA.of_ptr {o k c : Nat} {v : Value} {F : List Nat} (h : RepA P G w m (.ptr o k c) v F) (hk : m.kb o = k) : v = .pointer (some ⟨(G.β o).1, (G.β o).2 + c, none⟩) ∧ F = [] := by
  cases h with
  | ptr _ _ _ _ => exact ⟨rfl, rfl⟩
  | ptrX _ _ _ _ _ hx => omega
theorem RepA.of_pv {p : PV} {v : Value} {F : List Nat} (h : RepA P G w m (.pv p) v F) : Rep P w G.ok p v F := by cases h; assumption
theorem RepAL.length {cs : List AV} {vs : List Value} {F : List Nat} : RepAL P G w m cs vs F → cs.length = vs.length
  | .nil => rfl
  | .cons _ _ _ _ _ _ _ _ h => by simp [RepAL.length h]
theorem RepAL.get : ∀ {cs : List AV} {vs : List Value} {F : List Nat} {i : Nat} {c : AV}, RepAL P G w m cs vs F → cs[i]? = some c → ∃ v F', vs[i]? = some v ∧ RepA P G w m c v F' ∧ (∀ b ∈ F', b ∈ F) ∧ (F.Nodup → F'.Nodup)
  | _, _, _, 0, c, .cons c' v F cs vs G h0 h1 h2, h => by
    simp at h; subst h
    exact ⟨v, F, rfl, h1, fun b hb => List.mem_append_left _ hb, fun hn => (List.nodup_append.1 hn).1⟩
  | _, _, _, i + 1, c, .cons c' v F cs vs G h0 h1 h2, h => by
    obtain ⟨v', F', h3, h4, h5, h6⟩ := RepAL.get h2 (by simpa using h)
    exact ⟨v', F', by simpa using h3, h4, fun b hb => List.mem_append_right _ (h5 b hb), fun hn => h6 (List.nodup_append.1 hn).2.1⟩
theorem RepAL.append : ∀ {cs ds : List AV} {vs us : List Value} {F F' : List Nat}, RepAL P G w m cs vs F → RepAL P G w m ds us F' → RepAL P G w m (cs ++ ds) (vs ++ us) (F ++ F')
  | _, _, _, _, _, _, .nil, h => h
  | _, _, _, _, _, _, .cons c v F cs vs F' h0 h1 h2, h => by
    rw [List.append_assoc]
    exact .cons _ _ _ _ _ _ h0 h1 (RepAL.append h2 h)
theorem RepAL.split {ds : List AV} : ∀ {cs : List AV} {us : List Value} {F : List Nat}, RepAL P G w m (cs ++ ds) us F → ∃ v1 v2 F1 F2, us = v1 ++ v2 ∧ F = F1 ++ F2 ∧ RepAL P G w m cs v1 F1 ∧ RepAL P G w m ds v2 F2
  | [], us, F, h => ⟨[], us, [], F, rfl, rfl, .nil, h⟩
  | c :: cs, us, F, h => by
    rw [List.cons_append] at h
    cases h with
    | cons c v F cs vs F' h0 h1 h2 =>
      obtain ⟨v1, v2, F1, F2, rfl, rfl, h3, h4⟩ := RepAL.split h2
      exact ⟨v :: v1, v2, F ++ F1, F2, rfl, by rw [List.append_assoc], .cons _ _ _ _ _ _ h0 h1 h3, h4⟩
theorem RepL.toA : ∀ {ps : List PV} {vs : List Value} {F : List Nat}, RepL P w G.ok ps vs F → RepAL P G w m (ps.map .pv) vs F
  | _, _, _, .nil => .nil
  | _, _, _, .cons c v F cs vs F' h0 h1 h2 => .cons _ _ _ _ _ _ (by simp) (.pv _ _ _ h0 h1) (RepL.toA h2)
end
theorem RepA.of_PV {P : Program} {G : Gh} {w : World} {m : Mem} {p : PV} {v : Value} {F : List Nat} (h : Rep P w G.ok p v F) : RepA P G w m (ofPV p) v F := by
  cases p with
  | agg cs => cases h with
    | agg _ vs _ hl => exact .agg _ _ _ hl.toA
  | _ => exact .pv _ _ _ (by simp) h
def Shape (p p' : PV) : Prop := p = p' ∨ ∃ fl fl' e xs xs', p = .sl fl e xs ∧ p' = .sl fl' e xs' ∧ xs'.length = xs.length
theorem Shape.trans {p q r : PV} (h1 : Shape p q) (h2 : Shape q r) : Shape p r := by
  rcases h1 with rfl | ⟨fl, fl', e, xs, xs', rfl, rfl, h1⟩
  · exact h2
  · rcases h2 with rfl | ⟨fl2, fl3, e2, ys, ys', h3, rfl, h2⟩
    · exact .inr ⟨fl, fl', e, xs, xs', rfl, rfl, h1⟩
    · cases h3
      exact .inr ⟨fl, fl3, e, xs, ys', rfl, rfl, h2.trans h1⟩
theorem refsOf {P : Program} {G : Gh} {w : World} {m : Mem} {r : Ref} {p : PV} {v : Value} (h : RefAt P G w m r p v ∨ Dead m r) : (∃ p', RefAt P G w m r p' v ∧ Shape p p') ∨ Dead m r := by
  rcases h with h | h
  · exact .inl ⟨p, h, .inl rfl⟩
  · exact .inr h
structure Grow (P : Program) (G G' : Gh) (w w' : World) (m m' : Mem) : Prop where
  ent : G'.E = G.E
  ok : ∀ b, G.γ b = none → b < w.heap.size → G'.γ b = none
  size : w.heap.size ≤ w'.heap.size
  same : ∀ b, G.γ b = none → b < w.heap.size → w'.heap[b]? = w.heap[b]?
  dead : ∀ r, Dead m r → Dead m' r
  refs : ∀ r p v, RefAt P G w m r p v → (∃ p', RefAt P G' w' m' r p' v ∧ Shape p p') ∨ Dead m' r
  kb : ∀ o, m.kb o ≤ m'.kb o
  beta : ∀ o, m'.kb o = m.kb o → G'.β o = G.β o
section
variable {P : Program} {G G' : Gh} {w w' : World} {m m' : Mem}
theorem Grow.hk (hg : Grow P G G' w w' m m') : ∀ i b, G.ok i b → b < w.heap.size → G'.ok i b := fun i b h hb => ⟨hg.ok b h.1 hb, by rw [hg.ent]; exact h.2⟩
theorem Grow.ho (hg : Grow P G G' w w' m m') : ∀ i b, G.ok i b → b < w.heap.size → w'.heap[b]? = w.heap[b]? := fun _ b h hb => hg.same b h.1 hb
mutual
theorem RepA.grow (hg : Grow P G G' w w' m m') : ∀ {c : AV} {v : Value} {F : List Nat}, RepA P G w m c v F → (∀ b ∈ F, w'.heap[b]? = w.heap[b]?) → RepA P G' w' m' c v F
  | _, _, _, .pv p v F h0 h, hF => .pv p v F h0 (h.frame hg.hk hg.size hg.ho hF)
  | _, _, _, .rw r p v h1 h, hF => by
    rcases hg.refs r p v h with ⟨p', h, _⟩ | h
    · exact .rw r p' v h1 h
    · exact .rwX r v h1 h
  | _, _, _, .rwX r v h1 h, hF => .rwX r v h1 (hg.dead r h)
  | _, _, _, .ptr o k c h, hF => by
    by_cases hk : m'.kb o = k
    · rw [← hg.beta o (by omega)]; exact .ptr o k c hk
    · exact .ptrX o k c _ rfl (by have := hg.kb o; omega)
  | _, _, _, .ptrX o k c v h1 h, hF => .ptrX o k c v h1 (by have := hg.kb o; omega)
  | _, _, _, .ept r i f fl e xs b off n cap h hi, hF => by
    rcases hg.refs r _ _ h with ⟨p', h, hs⟩ | h
    · rcases hs with rfl | ⟨fl', fl2, e', xs0, xs', k1, rfl, k2⟩
      · exact .ept r i f fl e xs b off n cap h hi
      · cases k1
        exact .ept r i f fl2 e xs' b off n cap h (by omega)
    · exact .eptX r i f _ rfl h
  | _, _, _, .eptX r i f v h1 h, hF => .eptX r i f v h1 (hg.dead r h)
  | _, _, _, .mp o k h, hF => by
    by_cases hk : m'.kb o = k
    · rw [← hg.beta o (by omega)]; exact .mp o k hk
    · exact .mpX o k _ rfl (by have := hg.kb o; omega)
  | _, _, _, .mpX o k v h1 h, hF => .mpX o k v h1 (by have := hg.kb o; omega)
  | _, _, _, .clo f cs vs h, hF => .clo f cs vs (RepAL.grow hg h hF)
  | _, _, _, .agg cs vs F h, hF => .agg cs vs F (RepAL.grow hg h hF)
  | _, _, _, .undef v, hF => .undef v
  | _, _, _, .void, hF => .void
theorem RepAL.grow (hg : Grow P G G' w w' m m') : ∀ {cs : List AV} {vs : List Value} {F : List Nat}, RepAL P G w m cs vs F → (∀ b ∈ F, w'.heap[b]? = w.heap[b]?) → RepAL P G' w' m' cs vs F
  | _, _, _, .nil, _ => .nil
  | _, _, _, .cons c v F cs vs F' h0 h1 h2, hF => .cons c v F cs vs F' h0 (h1.grow hg (fun b hb => hF b (List.mem_append_left _ hb))) (RepAL.grow hg h2 (fun b hb => hF b (List.mem_append_right _ hb)))
end
mutual
theorem RepA.lt : ∀ {c : AV} {v : Value} {F : List Nat}, RepA P G w m c v F → ∀ b ∈ F, b < w.heap.size
  | _, _, _, .pv p v F _ h, b, hb => h.lt b hb
  | _, _, _, .rw _ _ _ _ _, b, hb => by simp at hb
  | _, _, _, .rwX _ _ _ _, b, hb => by simp at hb
  | _, _, _, .ptr _ _ _ _, b, hb => by simp at hb
  | _, _, _, .ptrX _ _ _ _ _ _, b, hb => by simp at hb
  | _, _, _, .ept _ _ _ _ _ _ _ _ _ _ _ _, b, hb => by simp at hb
  | _, _, _, .eptX _ _ _ _ _ _, b, hb => by simp at hb
  | _, _, _, .mp _ _ _, b, hb => by simp at hb
  | _, _, _, .mpX _ _ _ _ _, b, hb => by simp at hb
  | _, _, _, .clo _ _ _ _, b, hb => by simp at hb
  | _, _, _, .agg cs vs F h, b, hb => RepAL.lt h b hb
  | _, _, _, .undef _, b, hb => by simp at hb
  | _, _, _, .void, b, hb => by simp at hb
theorem RepAL.lt : ∀ {cs : List AV} {vs : List Value} {F : List Nat}, RepAL P G w m cs vs F → ∀ b ∈ F, b < w.heap.size
  | _, _, _, .nil, b, hb => by simp at hb
  | _, _, _, .cons c v F cs vs F' _ h1 h2, b, hb => by
    rcases List.mem_append.1 hb with hb | hb
    · exact h1.lt b hb
    · exact RepAL.lt h2 b hb
end
/-! ### What stays -/
def Stay (G G' : Gh) (w w' : World) (o : Own) : Prop := ∀ b, G.γ b = some o → G'.γ b = some o ∧ w'.heap[b]? = w.heap[b]?
theorem Stay.of_label {G G' : Gh} {w : World} {o : Own} (h : ∀ b, G.γ b = some o → G'.γ b = some o) : Stay G G' w w o := fun b hb => ⟨h b hb, rfl⟩
theorem TmpAt.frame {t : Nat} {c : AV} {v : Value} (h : TmpAt P G w m t c v) (hg : Grow P G G' w w' m m') (hs : Stay G G' w w' (.t t)) : TmpAt P G' w' m' t c v := by
  obtain ⟨F, h1, h2, h3⟩ := h
  exact ⟨F, h1.grow hg (fun b hb => (hs b (h3 b hb)).2), h2, fun b hb => (hs b (h3 b hb)).1⟩
theorem RowAt.frame {t : Nat} {p : PV} (h : RowAt P G w t p) (hg : Grow P G G' w w' m m') (hh : G'.hd t = G.hd t) (hs : Stay G G' w w' (.r (.v t))) : RowAt P G' w' t p := by
  obtain ⟨F, h1, h2, h3⟩ := h
  refine ⟨F, ?_, h2, fun b hb => (hs b (h3 b hb)).1⟩
  rw [hh]
  exact h1.frame hg.hk hg.size hg.ho (fun b hb => (hs b (h3 b hb)).2)
theorem BoxAt.frame {o : Nat} {cs : List AV} (h : BoxAt P G w m o cs) (hg : Grow P G G' w w' m m') (hb : G'.β o = G.β o) (hs : Stay G G' w w' (.b o)) (hr : ∀ j, Stay G G' w w' (.r (.c o j))) : BoxAt P G' w' m' o cs := by
  obtain ⟨arr, ty, h1, h2, h3, h4⟩ := h
  refine ⟨arr, ty, ?_, ?_, by rw [hb]; exact h3, fun j c hj => ?_⟩
  · rw [hb, (hs _ h2).2]; exact h1
  · rw [hb]; exact (hs _ h2).1
  · obtain ⟨v, F, h5, h6, h7, h8, h9⟩ := h4 j c hj
    exact ⟨v, F, by rw [hb]; exact h5, h6.grow hg (fun b hb => (hr j b (h8 b hb)).2), h7, fun b hb => (hr j b (h8 b hb)).1, h9⟩
theorem RepM.frame (hg : Grow P G G' w w' m m') {es : List (PV × PV)} {ents : List MapEntry} (h : RepM P w G.ok es ents) : RepM P w' G'.ok es ents := by
  induction h with
  | nil => exact .nil
  | cons k x e es ents h1 h2 _ ih => exact .cons k x e es ents (h1.frame hg.hk hg.size hg.ho (fun _ hb => by simp at hb)) (h2.frame hg.hk hg.size hg.ho (fun _ hb => by simp at hb)) ih
theorem MapAt.frame {o : Nat} {es : List (PV × PV)} (h : MapAt P G w o es) (hg : Grow P G G' w w' m m') (hb : G'.β o = G.β o) (hs : Stay G G' w w' (.b o)) : MapAt P G' w' o es := by
  obtain ⟨ents, clock, h1, h2, h3⟩ := h
  refine ⟨ents, clock, ?_, ?_, h3.frame hg⟩
  · rw [hb, (hs _ h2).2]; exact h1
  · rw [hb]; exact (hs _ h2).1
theorem Env.prov_next (h : Env P G m w) (hE : G'.E = G.E) (hkr : ∀ i, m'.kr (.v i) = 0 → m.kr (.v i) = 0) (hst : ∀ b i, G.γ b = some (.r (.v i)) → m'.kr (.v i) = 0 → G'.γ b = some (.r (.v i))) :
    ∀ b i, G'.E.prov b = some i → m'.kr (.v i) = 0 → G'.γ b = some (.r (.v i)) := by
  rw [hE]
  exact fun b i hb hk => hst b i (h.prov b i hb (hkr i hk)) hk
theorem Env.labels (h : Env P G m w) (hE : G'.E = G.E) (hb : G'.β = G.β) (hh : G'.hd = G.hd) (hn : ∀ b, G.γ b = none → G'.γ b = none) (hbx : ∀ b o, G.γ b = some (.b o) → G'.γ b = some (.b o)) (hr : ∀ b r, G.γ b = some (.r r) → G'.γ b = some (.r r)) : Env P G' m w where
  mono := by rw [hE]; exact h.mono
  os := by rw [hE]; exact h.os
  tape := by rw [hE]; exact h.tape
  output := by rw [hE]; exact h.output
  size := by rw [hE]; exact h.size
  keep := by rw [hE]; exact fun b h1 h2 => ⟨hn b (h.keep b h1 h2).1, (h.keep b h1 h2).2⟩
  lent := by
    rw [hE, hb]
    exact fun o L hL => ⟨hbx _ _ (h.lent o L hL).1, (h.lent o L hL).2⟩
  hd0 := by rw [hE, hh]; exact h.hd0
  provlt := by rw [hE]; exact h.provlt
  prov := h.prov_next hE (fun _ h => h) (fun b i hb _ => hr b _ hb)
theorem Nest.labels {root : Root} (hr : ∀ b, G.γ b = some (.r root) → G'.γ b = some (.r root)) {p0 : PV} {v0 : Value} {path : List (Nat × Nat)} {p : PV} {v : Value} (h : Nest P G root w p0 v0 path p v) : Nest P G' root w p0 v0 path p v := by
  induction h with
  | nil p v => exact .nil p v
  | cons fl e xs b off n cap i f rest x c p u v h0 h1 h2 hl h3 h4 ih => exact .cons fl e xs b off n cap i f rest x c p u v h0 h1 h2 (hr b hl) h3 ih
theorem RefAt.congr {r : Ref} {p : PV} {v : Value} (hb : G'.β = G.β) (hh : G'.hd = G.hd) (hr : ∀ b r, G.γ b = some (.r r) → G'.γ b = some (.r r)) (h : RefAt P G w m r p v) : RefAt P G' w m r p v := by
  obtain ⟨h1, p0, v0, h2, h3, h4⟩ := h
  refine ⟨h1, p0, v0, h2, ?_, h4.labels (fun b hb => hr b _ hb)⟩
  cases hq : r.root <;> rw [hq] at h3 <;> simp only [Hd, hb, hh] at h3 ⊢ <;> exact h3
theorem Grow.labels (hE : G'.E = G.E) (hb : G'.β = G.β) (hh : G'.hd = G.hd) (hr : ∀ b r, G.γ b = some (.r r) → G'.γ b = some (.r r)) (hok : ∀ b, G.γ b = none → G'.γ b = none) : Grow P G G' w w m m where
  ent := hE
  ok := fun b h _ => hok b h
  size := Nat.le_refl _
  same := fun _ _ _ => rfl
  dead := fun _ h => h
  refs := fun _ _ _ h => refsOf (.inl (h.congr hb hh hr))
  kb := fun _ => Nat.le_refl _
  beta := fun _ _ => by rw [hb]
end
end Go.Proofs.YtdbcnnehfbcldaaDoor.Pv
/- Steps of a state that touch no memory: what is read by an operation, and where its result goes. No condition. -/
namespace Go.Proofs.YtdbcnnehfbcldaaDoor.Pv
open Go
def relabel (G : Gh) (F : List Nat) (o : Own) : Gh := { G with γ := fun b => if b ∈ F then some o else G.γ b }
section
variable {P : Program} {ar : Nat → Nat} {N : Nat} {E : Entry} {G G' : Gh} {s : St} {a a' : Act} {w w' : World} {m m' : Mem} {V : List Nat}
theorem relabel_in {F : List Nat} {o : Own} {b : Nat} (h : b ∈ F) : (relabel G F o).γ b = some o := by simp [relabel, h]
theorem relabel_out {F : List Nat} {o : Own} {b : Nat} (h : ¬ b ∈ F) : (relabel G F o).γ b = G.γ b := by simp [relabel, h]
theorem relabel_stay {F : List Nat} {o o1 : Own} (h : ∀ b ∈ F, G.γ b ≠ some o1) (b : Nat) (hb : G.γ b = some o1) : (relabel G F o).γ b = some o1 := by
  rw [relabel_out (fun hF => h b hF hb)]; exact hb
theorem relabel_none {F : List Nat} {o : Own} (h : ∀ b ∈ F, G.γ b ≠ none) (b : Nat) (hb : G.γ b = none) : (relabel G F o).γ b = none := by
  rw [relabel_out (fun hF => h b hF hb)]; exact hb
theorem Sim.labels (h : Sim P ar N E G s a w) {t' : Nat → AV} (hE : G'.E = G.E) (hb : G'.β = G.β) (hh : G'.hd = G.hd) (hn : ∀ b, G.γ b = none → G'.γ b = none) (hbx : ∀ b o, G.γ b = some (.b o) → G'.γ b = some (.b o))
    (hr : ∀ b r, G.γ b = some (.r r) → G'.γ b = some (.r r)) (hlab : ∀ b, G'.γ b ≠ none → b < w.heap.size) (hsize : a'.tmps.size = N) (hdef : a'.defers = [])
    (htmp : ∀ t v, conc a' t = some v → TmpAt P G' w s.m t (t' t) v) (hnn : ∀ t, conc a' t = none → t' t = .undef)
    (hcomp : ∀ t, 1000000 ≤ t → ar (t % 1000000) ≤ t / 1000000 - 1 → t' t = .undef) (hwhole : ∀ t, t < 1000000 → ar t ≠ 0 → t' t = .undef) : Sim P ar N E G' ⟨t', s.m⟩ a' w where
  ent := hE.trans h.ent
  size := hsize
  defers := hdef
  lab := hlab
  tmp := htmp
  nn := hnn
  comp := hcomp
  whole := hwhole
  box := fun o cs hc => (h.box o cs hc).frame (Grow.labels hE hb hh hr hn) (by rw [hb]) (Stay.of_label fun b => hbx b o) (fun j => Stay.of_label fun b => hr b _)
  map := fun o es hc => (h.map o es hc).frame (m := s.m) (m' := s.m) (Grow.labels hE hb hh hr hn) (by rw [hb]) (Stay.of_label fun b => hbx b o)
  row := fun t p hp => (h.row t p hp).frame (m := s.m) (m' := s.m) (Grow.labels hE hb hh hr hn) (by rw [hh]) (Stay.of_label fun b => hr b _)
  env := h.env.labels hE hb hh hn hbx hr
theorem lab_relabel (h : Sim P ar N E G s a w) {F : List Nat} {o : Own} (hF : ∀ b ∈ F, G.γ b ≠ none) : ∀ b, (relabel G F o).γ b ≠ none → b < w.heap.size := by
  intro b hb
  by_cases hbF : b ∈ F
  · exact h.lab b (hF b hbF)
  · rw [relabel_out hbF] at hb; exact h.lab b hb
theorem Sim.relabelT (h : Sim P ar N E G s a w) {t : Nat} {F : List Nat} {o : Own} (hF : ∀ b ∈ F, G.γ b = some (.t t)) : Sim P ar N E (relabel G F o) ⟨upd s.t t .undef, s.m⟩ a w := by
  have hne : ∀ o1, o1 ≠ some (.t t) → ∀ b ∈ F, G.γ b ≠ o1 := fun o1 ho b hb e => ho (by rw [← e, hF b hb])
  refine h.labels rfl rfl rfl (relabel_none (hne _ (by simp))) (fun b o => relabel_stay (hne _ (by simp)) b) (fun b r => relabel_stay (hne _ (by simp)) b) (lab_relabel h (hne _ (by simp))) h.size h.defers ?_ ?_ ?_ ?_
  · intro t' v hv
    by_cases e : t' = t
    · subst e; exact ⟨[], by simp only [upd_same]; exact .undef v, List.nodup_nil, by simp⟩
    · rw [upd_ne _ _ _ _ e]
      exact (h.tmp t' v hv).frame (m' := s.m) (Grow.labels rfl rfl rfl (fun b r => relabel_stay (hne _ (by simp)) b) (relabel_none (hne _ (by simp)))) (Stay.of_label (relabel_stay (hne _ (by simpa using e))))
  · intro t' h1
    simp only [upd]
    split
    · rfl
    · exact h.nn t' h1
  · intro t' h1 h2
    simp only [upd]
    split
    · rfl
    · exact h.comp t' h1 h2
  · intro t' h1 h2
    simp only [upd]
    split
    · rfl
    · exact h.whole t' h1 h2
inductive RepO (P : Program) (G : Gh) (w : World) (m : Mem) : List AV → List Value → List Nat → Prop
  | nil : RepO P G w m [] [] []
  | cons (c : AV) (v : Value) (F : List Nat) (cs : List AV) (vs : List Value) (F' : List Nat) : RepA P G w m c v F → RepO P G w m cs vs F' → RepO P G w m (c :: cs) (v :: vs) (F ++ F')
theorem RepO.grow (hg : Grow P G G' w w' m m') : ∀ {cs : List AV} {vs : List Value} {F : List Nat}, RepO P G w m cs vs F → (∀ b ∈ F, w'.heap[b]? = w.heap[b]?) → RepO P G' w' m' cs vs F
  | _, _, _, .nil, _ => .nil
  | _, _, _, .cons c v F cs vs F' h1 h2, hF => .cons c v F cs vs F' (h1.grow hg (fun b hb => hF b (List.mem_append_left _ hb))) (RepO.grow hg h2 (fun b hb => hF b (List.mem_append_right _ hb)))
theorem ownP_agg (ds : List PV) : ownP (.agg ds) = false := rfl
theorem RepAL.own_none : ∀ {cs : List AV} {vs : List Value} {F : List Nat}, RepAL P G w m cs vs F → (∀ c ∈ cs, ∀ p, c = .pv p → p.own = false) → F = []
  | _, _, _, .nil, _ => rfl
  | _, _, _, .cons c v F cs vs F' h0 h1 h2, h => by
    have e2 := RepAL.own_none h2 (fun c hc => h c (List.mem_cons_of_mem _ hc))
    have e1 : F = [] := by
      cases h1 with
      | pv p v F _ hp => exact hp.own_none (h _ List.mem_cons_self p rfl)
      | agg cs vs F _ => exact absurd rfl (h0 cs)
      | _ => rfl
    simp [e1, e2]
theorem RepA.own_none {c : AV} {v : Value} {F : List Nat} (h : RepA P G w m c v F) (ho : ownAV c = false) : F = [] := by
  cases h with
  | pv p v F _ hp => exact hp.own_none ho
  | agg cs vs F hl =>
    refine hl.own_none (fun c hc p e => ?_)
    subst e
    simpa using List.any_eq_false.1 ho _ hc
  | _ => rfl
theorem Grow.trans {G1 G2 : Gh} {w1 w2 : World} {m1 m2 : Mem} (h1 : Grow P G G1 w w1 m m1) (h2 : Grow P G1 G2 w1 w2 m1 m2) : Grow P G G2 w w2 m m2 where
  ent := h2.ent.trans h1.ent
  ok := fun b hb hl => h2.ok b (h1.ok b hb hl) (Nat.lt_of_lt_of_le hl h1.size)
  size := Nat.le_trans h1.size h2.size
  same := fun b hb hl => (h2.same b (h1.ok b hb hl) (Nat.lt_of_lt_of_le hl h1.size)).trans (h1.same b hb hl)
  dead := fun r hr => h2.dead r (h1.dead r hr)
  refs := fun r p v hr => by
    rcases h1.refs r p v hr with ⟨p', h, hs⟩ | h
    · rcases h2.refs r p' v h with ⟨p2, h', hs'⟩ | h'
      · exact .inl ⟨p2, h', hs.trans hs'⟩
      · exact .inr h'
    · exact .inr (h2.dead r h)
  kb := fun o => Nat.le_trans (h1.kb o) (h2.kb o)
  beta := fun o ho => by
    have a1 := h1.kb o
    have a2 := h2.kb o
    rw [h2.beta o (by omega), h1.beta o (by omega)]
theorem Sim.takes {ks : PV → Value → Prop} (hks : ∀ p v G w, ks p v → Rep P w (Gh.ok G) p v []) :
    ∀ (os : List Opd) (G : Gh) (t0 : Nat → AV) (vs : List Value) (Fx : List Nat) (t' : Nat → AV), Sim P ar N E G ⟨t0, m⟩ a w → takeT V t0 os = some t' →
    os.length = vs.length → (∀ (i : Nat) (o : Opd) (v : Value), os[i]? = some o → vs[i]? = some v → match o with | .t n => conc a n = some v | .k p => ks p v) →
    (Fx.Nodup ∧ ∀ b ∈ Fx, G.γ b = some .x) →
    ∃ G1 F, Sim P ar N E G1 ⟨t', m⟩ a w ∧ RepO P G1 w m (os.map (opd ⟨t0, m⟩)) vs F ∧ (Fx ++ F).Nodup ∧ (∀ b ∈ Fx ++ F, G1.γ b = some .x) ∧ Grow P G G1 w w m m := by
  intro os
  induction os with
  | nil =>
    intro G t0 vs Fx t' h ht hl hv hF
    obtain rfl : vs = [] := List.eq_nil_of_length_eq_zero (by simpa using hl.symm)
    simp only [takeT] at ht
    obtain rfl := Option.some.inj ht
    exact ⟨G, [], h, .nil, by simpa using hF.1, by simpa using hF.2, Grow.labels rfl rfl rfl (fun _ _ h => h) (fun _ h => h)⟩
  | cons o os ih =>
    intro G t0 vs Fx t' h ht hl hv hF
    cases vs with
    | nil => simp at hl
    | cons v vs =>
      have hv0 := hv 0 o v rfl rfl
      have hv' : ∀ (i : Nat) (o : Opd) (v : Value), os[i]? = some o → vs[i]? = some v → match o with | .t n => conc a n = some v | .k p => ks p v := fun i o v h1 h2 => hv (i + 1) o v (by simpa using h1) (by simpa using h2)
      cases o with
      | k p =>
        simp only [takeT] at ht
        obtain ⟨G1, F, h1, h2, h3, h4, h5⟩ := ih G t0 vs Fx t' h ht (by simpa using hl) hv' hF
        refine ⟨G1, F, h1, ?_, h3, h4, h5⟩
        have := RepO.cons (P := P) (G := G1) (w := w) (m := m) (ofPV p) v [] _ vs F (RepA.of_PV (hks p v G1 w hv0)) h2
        simpa [opd] using this
      | t n =>
        obtain ⟨F0, r1, r2, r3⟩ := h.tmp n v hv0
        by_cases ho : ownAV (t0 n) = true
        · simp only [takeT, ho, if_true] at ht
          by_cases hV : (V.contains n || os.any (·.isT n)) = true
          · simp only [hV, if_true] at ht; cases ht
          · simp only [hV, Bool.false_eq_true, if_false] at ht
            have hs := h.relabelT (t := n) (F := F0) (o := .x) r3
            have hne : ∀ o1, o1 ≠ some (.t n) → ∀ b ∈ F0, G.γ b ≠ o1 := fun o1 ho b hb e => ho (by rw [← e, r3 b hb])
            have hg : Grow P G (relabel G F0 .x) w w m m := Grow.labels rfl rfl rfl (fun b r => relabel_stay (hne _ (by simp)) b) (relabel_none (hne _ (by simp)))
            have hne2 : ∀ (i n' : Nat), os[i]? = some (Opd.t n') → n' = n → False := fun i n' hi e => by
              subst e
              have hm := List.mem_of_getElem? hi
              simp only [Bool.or_eq_true, List.any_eq_true, not_or, not_exists, not_and] at hV
              exact hV.2 _ hm (by simp [Opd.isT])
            obtain ⟨G1, F, h1, h2, h3, h4, h5⟩ := ih (relabel G F0 .x) (upd t0 n .undef) vs (Fx ++ F0) t' hs ht (by simpa using hl) hv'
              ⟨List.nodup_append.2 ⟨hF.1, r2, fun x hx y hy e => by subst e; have h1 := hF.2 x hx; have h2 := r3 x hy; rw [h1] at h2; simp at h2⟩, fun b hb => by
                rcases List.mem_append.1 hb with hb | hb
                · by_cases hb0 : b ∈ F0
                  · exact relabel_in hb0
                  · rw [relabel_out hb0]; exact hF.2 b hb
                · exact relabel_in hb⟩
            refine ⟨G1, F0 ++ F, h1, ?_, by rw [← List.append_assoc]; exact h3, by rw [← List.append_assoc]; exact h4, hg.trans h5⟩
            have e : os.map (opd ⟨t0, m⟩) = os.map (opd ⟨upd t0 n .undef, m⟩) := by
              refine List.map_congr_left (fun o ho => ?_)
              cases o with
              | k p => rfl
              | t n' =>
                obtain ⟨i, hi⟩ := List.mem_iff_getElem?.1 ho
                have : n' ≠ n := fun e => hne2 i n' hi e
                simp [opd, upd, this]
            simp only [List.map_cons]
            rw [e]
            exact .cons _ _ _ _ _ _ ((r1.grow hg (fun _ _ => rfl)).grow h5 (fun _ _ => rfl)) h2
        · simp only [takeT, ho, Bool.false_eq_true, if_false] at ht
          have e0 : F0 = [] := r1.own_none (by simpa using ho)
          subst e0
          obtain ⟨G1, F, h1, h2, h3, h4, h5⟩ := ih G t0 vs Fx t' h ht (by simpa using hl) hv' hF
          refine ⟨G1, F, h1, ?_, h3, h4, h5⟩
          have := RepO.cons (P := P) (G := G1) (w := w) (m := m) (t0 n) v [] _ vs F (r1.grow h5 (fun _ _ => rfl)) h2
          simpa [opd] using this
/-! ### Where a result goes -/
theorem getD_set_eq {tmps : Array Value} {d : Nat} {v u : Value} (h : d < tmps.size) : (tmps.setIfInBounds d v).getD d u = v := by simp [Array.getD, h]
theorem getD_set_ne' {tmps : Array Value} {d t : Nat} {v u : Value} (h : t ≠ d) : (tmps.setIfInBounds d v).getD t u = tmps.getD t u := by
  simp only [Array.getD_eq_getD_getElem?]
  rw [Array.getElem?_setIfInBounds_ne (by omega)]
theorem conc_put_low {a : Act} {d t : Nat} {v : Value} (hd : d < a.tmps.size) (ht : t < 1000000) : conc (a.put (some d) v) t = if t = d then some v else conc a t := by
  unfold conc Act.put
  rw [if_pos ht]
  by_cases e : t = d
  · subst e; rw [if_pos rfl]; simp only [getD_set_eq hd]
  · rw [if_neg e, if_pos ht]; simp only [getD_set_ne' e]
theorem conc_put_high {a : Act} {d t : Nat} {v : Value} (ht : 1000000 ≤ t) (e : t % 1000000 ≠ d) : conc (a.put (some d) v) t = conc a t := by
  unfold conc Act.put
  rw [if_neg (by omega), if_neg (by omega)]
  simp only [getD_set_ne' e]
theorem nn_put (h : Sim P ar N E G s a w) {d : Nat} {c : AV} {v : Value} (hd : d < 1000000) (hdN : d < N) (har : ar d = 0) (t' : Nat) (h1 : conc (a.put (some d) v) t' = none) : upd s.t d c t' = .undef := by
  by_cases hlow : t' < 1000000
  · rw [conc_put_low (by rw [h.size]; exact hdN) hlow] at h1
    by_cases e : t' = d
    · rw [if_pos e] at h1; cases h1
    · rw [if_neg e] at h1
      rw [upd_ne _ _ _ _ e]; exact h.nn t' h1
  · rw [upd_ne _ _ _ _ (by omega)]
    by_cases e : t' % 1000000 = d
    · exact h.comp t' (by omega) (by rw [e, har]; omega)
    · rw [conc_put_high (by omega) e] at h1; exact h.nn t' h1
theorem Sim.putOne (h : Sim P ar N E G s a w) {d : Nat} {c : AV} {v : Value} {F : List Nat} (hd : d < 1000000) (hdN : d < N) (har : ar d = 0) (hr : RepA P G w s.m c v F) (hn : F.Nodup) (hF : ∀ b ∈ F, G.γ b = some .x) :
    Sim P ar N E (relabel G F (.t d)) ⟨upd s.t d c, s.m⟩ (a.put (some d) v) w := by
  have hne : ∀ o1, o1 ≠ some .x → ∀ b ∈ F, G.γ b ≠ o1 := fun o1 ho b hb e => ho (by rw [← e, hF b hb])
  have hg : Grow P G (relabel G F (.t d)) w w s.m s.m := Grow.labels rfl rfl rfl (fun b r => relabel_stay (hne _ (by simp)) b) (relabel_none (hne _ (by simp)))
  refine h.labels rfl rfl rfl (relabel_none (hne _ (by simp))) (fun b o => relabel_stay (hne _ (by simp)) b) (fun b r => relabel_stay (hne _ (by simp)) b) (lab_relabel h (hne _ (by simp))) (by simp [Act.put, h.size]) h.defers ?_ ?_ ?_ ?_
  · intro t' v' hv
    have rest : conc a t' = some v' → t' ≠ d → TmpAt P (relabel G F (.t d)) w s.m t' (upd s.t d c t') v' := fun hv e => by
      rw [upd_ne _ _ _ _ e]
      exact (h.tmp t' v' hv).frame hg (Stay.of_label (relabel_stay (hne _ (by simp))))
    by_cases hlow : t' < 1000000
    · rw [conc_put_low (by rw [h.size]; exact hdN) hlow] at hv
      by_cases e : t' = d
      · subst e
        rw [if_pos rfl] at hv
        obtain rfl := Option.some.inj hv
        exact ⟨F, by simp only [upd_same]; exact hr.grow hg (fun _ _ => rfl), hn, fun b hb => relabel_in hb⟩
      · rw [if_neg e] at hv; exact rest hv e
    · by_cases e : t' % 1000000 = d
      · have hu : s.t t' = .undef := h.comp t' (by omega) (by rw [e, har]; omega)
        exact ⟨[], by simp only [upd, show t' ≠ d by omega, if_false, hu]; exact .undef v', List.nodup_nil, by simp⟩
      · rw [conc_put_high (by omega) e] at hv
        exact rest hv (by omega)
  · intro t' h1
    exact nn_put h hd hdN har t' h1
  · intro t' h1 h2
    rw [upd_ne _ _ _ _ (by omega)]
    exact h.comp t' h1 h2
  · intro t' h1 h2
    rw [upd_ne _ _ _ _ (fun e => h2 (by rw [e]; exact har))]
    exact h.whole t' h1 h2
theorem Sim.putRow (h : Sim P ar N E G s a w) {d fl : Nat} {e : TypeId} {xs : List PV} {v : Value} {F : List Nat} (hd : d < 1000000) (hdN : d < N) (har : ar d = 0) (hr : Rep P w G.ok (.sl fl e xs) v F) (hn : F.Nodup) (hF : ∀ b ∈ F, G.γ b = some .x) :
    ∃ G', Sim P ar N E G' ⟨upd s.t d (.rw ⟨.v d, s.m.kr (.v d) + 1, s.m.kn (.v d), []⟩),
      { s.m with r := upd s.m.r d (some (.sl fl e xs)), kr := upd s.m.kr (.v d) (s.m.kr (.v d) + 1) }⟩ (a.put (some d) v) w := by
  let G' : Gh := { relabel G F (.r (.v d)) with hd := upd G.hd d v }
  let m' : Mem := { s.m with r := upd s.m.r d (some (.sl fl e xs)), kr := upd s.m.kr (.v d) (s.m.kr (.v d) + 1) }
  have hne : ∀ o1, o1 ≠ some .x → ∀ b ∈ F, G.γ b ≠ o1 := fun o1 ho b hb e => ho (by rw [← e, hF b hb])
  have hst : ∀ o1, o1 ≠ .x → ∀ b, G.γ b = some o1 → G'.γ b = some o1 := fun o1 ho => relabel_stay (hne _ (by simpa using ho))
  have hat : ∀ r : Root, r ≠ .v d → m'.at r = s.m.at r := by
    intro r hne
    cases r with
    | v t => simp only [Mem.at, m', upd]; rw [if_neg (fun e => hne (by rw [e]))]
    | c o n => rfl
  have hdead : ∀ r, Dead s.m r → Dead m' r := by
    intro r hr
    by_cases hrt : r.root = .v d
    · left
      simp only [m', hrt, upd_same]
      rcases hr with h1 | ⟨h1, _⟩ | ⟨_, h1⟩ <;> rw [hrt] at h1 <;> omega
    · rcases hr with h1 | ⟨h1, h2, h3⟩ | ⟨h1, h2⟩
      · left; simp only [m', upd, hrt, if_false]; exact h1
      · right; left; simp only [m', upd, hrt, if_false]; exact ⟨h1, h2, h3⟩
      · right; right; rw [hat _ hrt]; simp only [m', upd, hrt, if_false]; exact ⟨h1, h2⟩
  have hg : Grow P G G' w w s.m m' := {
    ent := rfl
    ok := fun b hb _ => relabel_none (hne _ (by simp)) b hb
    size := Nat.le_refl _
    same := fun _ _ _ => rfl
    dead := hdead
    refs := fun r p u hru => refsOf (by
      by_cases hrt : r.root = .v d
      · right
        left
        have hv := hru.1
        simp only [Ref.valid, Bool.and_eq_true, beq_iff_eq] at hv
        simp only [m', hrt, upd_same]
        rw [hrt] at hv
        omega
      · left
        obtain ⟨h1, p0, v0, h2, h3, h4⟩ := hru
        refine ⟨?_, p0, v0, by rw [hat _ hrt]; exact h2, ?_, h4.labels (hst _ (by simp))⟩
        · simp only [Ref.valid, m', upd, hrt, if_false] at h1 ⊢; exact h1
        · cases hq : r.root with
          | v t => rw [hq] at h3 hrt; simp only [Hd, G', upd] at h3 ⊢; rw [if_neg (fun e => hrt (by rw [e]))]; exact h3
          | c o n => rw [hq] at h3; exact h3)
    kb := fun _ => Nat.le_refl _
    beta := fun _ _ => rfl }
  refine ⟨G', ?_⟩
  have hself : RefAt P G' w m' ⟨.v d, s.m.kr (.v d) + 1, s.m.kn (.v d), []⟩ (.sl fl e xs) v := by
    refine ⟨by simp [Ref.valid, m', upd], .sl fl e xs, v, by simp [Mem.at, m', upd], by simp [Hd, G', upd], .nil _ _⟩
  have hx := h.putOne (a := a) (c := .undef) (v := v) (F := []) hd hdN har (.undef v) List.nodup_nil (by simp)
  exact {
    ent := h.ent
    size := by simp [Act.put, h.size]
    defers := h.defers
    lab := lab_relabel h (hne _ (by simp))
    tmp := fun t' v' hv => by
      by_cases e : t' = d
      · subst e
        rw [conc_put_low (by rw [h.size]; exact hdN) hd, if_pos rfl] at hv
        obtain rfl := Option.some.inj hv
        exact ⟨[], by simp only [upd_same]; exact .rw _ _ _ (hr.oneCell (by simp)) hself, List.nodup_nil, by simp⟩
      · have := hx.tmp t' v' hv
        simp only [upd_ne _ _ _ _ e] at this ⊢
        obtain ⟨F', h1, h2, h3⟩ := this
        have h4 : TmpAt P G w s.m t' (s.t t') v' := ⟨F', h1.grow (Grow.labels (G' := G) rfl rfl rfl (fun b r hb => by simpa [relabel] using hb) (fun b hb => by simpa [relabel] using hb)) (fun _ _ => rfl), h2, fun b hb => by simpa [relabel] using h3 b hb⟩
        exact h4.frame hg (Stay.of_label (hst _ (by simp)))
    nn := fun t' h1 => by
      have : t' ≠ d := fun e => by subst e; rw [conc_put_low (by rw [h.size]; exact hdN) hd, if_pos rfl] at h1; cases h1
      have h2 := nn_put h (c := .undef) hd hdN har t' h1
      exact (upd_ne _ _ _ _ this).trans ((upd_ne _ _ _ _ this).symm.trans h2)
    comp := fun t' h1 h2 => (upd_ne _ _ _ _ (by omega)).trans (h.comp t' h1 h2)
    whole := fun t' h1 h2 => (upd_ne _ _ _ _ (fun e => h2 (by rw [e]; exact har))).trans (h.whole t' h1 h2)
    box := fun o cs hc => (h.box o cs hc).frame hg rfl (Stay.of_label (hst _ (by simp))) (fun j => Stay.of_label (hst _ (by simp)))
    map := fun o es hc => (h.map o es hc).frame hg rfl (Stay.of_label (hst _ (by simp)))
    row := fun t' p hp => by
      by_cases e : t' = d
      · subst e
        simp only [upd_same] at hp
        obtain rfl := Option.some.inj hp
        refine ⟨F, ?_, hn, fun b hb => relabel_in hb⟩
        show Rep P w G'.ok _ (upd G.hd t' v t') F
        rw [upd_same]
        exact hr.frame hg.hk (Nat.le_refl _) (fun _ _ _ _ => rfl) (fun _ _ => rfl)
      · simp only [upd, e, if_false] at hp
        exact (h.row t' p hp).frame hg (upd_ne _ _ _ _ e) (Stay.of_label (hst _ (by simp)))
    env := {
      mono := h.env.mono
      os := h.env.os
      tape := h.env.tape
      output := h.env.output
      size := h.env.size
      keep := fun b h1 h2 => ⟨relabel_none (hne _ (by simp)) b (h.env.keep b h1 h2).1, (h.env.keep b h1 h2).2⟩
      lent := fun o L hL => ⟨hst _ (by simp) _ (h.env.lent o L hL).1, (h.env.lent o L hL).2⟩
      hd0 := fun t u hu hk => by
        by_cases e : t = d
        · subst e; simp [upd] at hk
        · simp only [upd, Root.v.injEq, e, if_false] at hk
          show upd G.hd d v t = u
          rw [upd_ne _ _ _ _ e]
          exact h.env.hd0 t u hu hk
      provlt := h.env.provlt
      prov := h.env.prov_next rfl (fun i hk => by
        by_cases e : i = d
        · subst e; simp [upd] at hk
        · simpa only [upd, Root.v.injEq, e, if_false] using hk) (fun b i hb _ => hst _ (by simp) b hb) } }
theorem Sim.putT (h : Sim P ar N E G s a w) {d : Nat} {c : AV} {v : Value} {F : List Nat} (hd : d < 1000000) (hdN : d < N) (har : ar d = 0) (hr : RepA P G w s.m c v F) (hn : F.Nodup) (hF : ∀ b ∈ F, G.γ b = some .x) :
    ∃ G', Sim P ar N E G' (putT V s d c) (a.put (some d) v) w := by
  have plain : ∃ G', Sim P ar N E G' ⟨upd s.t d c, s.m⟩ (a.put (some d) v) w := ⟨relabel G F (.t d), h.putOne hd hdN har hr hn hF⟩
  unfold Pv.putT
  split
  · rename_i fl e xs
    split
    · exact h.putRow hd hdN har hr.of_pv hn hF
    · exact plain
  · exact plain
def partsT (t : Nat → AV) (k : Nat) : List AV → Nat → AV
  | [] => t
  | c :: cs => partsT (upd t k c) (k + 1000000) cs
theorem putTs_parts (hV : ∀ x ∈ V, x < 1000000) : ∀ (cs : List AV) (s : St) (k : Nat), 1000000 ≤ k → putTs V s k cs = ⟨partsT s.t k cs, s.m⟩
  | [], s, k, _ => by simp [putTs, partsT]
  | c :: cs, s, k, hk => by
    have e : Pv.putT V s k c = ⟨upd s.t k c, s.m⟩ := by
      unfold Pv.putT
      split
      · rw [if_neg]
        simp only [Bool.and_eq_true, decide_eq_true_eq, List.contains_iff_mem, not_and]
        intro _ hm
        have := hV k hm
        omega
      · rfl
    simp only [putTs, partsT]
    rw [e, putTs_parts hV cs _ _ (by omega)]
theorem partsT_other : ∀ (cs : List AV) (t : Nat → AV) (k x : Nat), (∀ j, j < cs.length → x ≠ k + 1000000 * j) → partsT t k cs x = t x
  | [], t, k, x, _ => rfl
  | c :: cs, t, k, x, h => by
    simp only [partsT]
    rw [partsT_other cs _ _ _ (fun j hj => by have := h (j + 1) (by simp; omega); omega)]
    have := h 0 (by simp)
    exact upd_ne _ _ _ _ (by omega)
theorem partsT_at : ∀ (cs : List AV) (t : Nat → AV) (k j : Nat) (c : AV), cs[j]? = some c → partsT t k cs (k + 1000000 * j) = c
  | c :: cs, t, k, 0, c', h => by
    simp only [partsT]
    rw [partsT_other cs _ _ _ (fun j hj => by omega)]
    simp at h
    simp [upd, h]
  | c :: cs, t, k, j + 1, c', h => by
    simp only [partsT]
    have := partsT_at cs (upd t k c) (k + 1000000) j c' (by simpa using h)
    rw [← this]
    congr 1
    omega
theorem RepO.get : ∀ {cs : List AV} {vs : List Value} {F : List Nat} {i : Nat} {c : AV}, RepO P G w m cs vs F → cs[i]? = some c → ∃ v F', vs[i]? = some v ∧ RepA P G w m c v F' ∧ (∀ b ∈ F', b ∈ F) ∧ (F.Nodup → F'.Nodup)
  | _, _, _, 0, c, .cons c' v F cs vs G h1 h2, h => by
    simp at h; subst h
    exact ⟨v, F, rfl, h1, fun b hb => List.mem_append_left _ hb, fun hn => (List.nodup_append.1 hn).1⟩
  | _, _, _, i + 1, c, .cons c' v F cs vs G h1 h2, h => by
    obtain ⟨v', F', h3, h4, h5, h6⟩ := RepO.get h2 (by simpa using h)
    exact ⟨v', F', by simpa using h3, h4, fun b hb => List.mem_append_right _ (h5 b hb), fun hn => h6 (List.nodup_append.1 hn).2.1⟩
theorem RepO.length {cs : List AV} {vs : List Value} {F : List Nat} : RepO P G w m cs vs F → cs.length = vs.length
  | .nil => rfl
  | .cons _ _ _ _ _ _ _ h => by simp [RepO.length h]
def tagO (k : Nat) (γ : Nat → Option Own) : List (List Nat) → Nat → Option Own
  | [], b => γ b
  | F :: Fs, b => if b ∈ F then some (.t k) else tagO (k + 1000000) γ Fs b
inductive RepOs (P : Program) (G : Gh) (w : World) (m : Mem) : List AV → List Value → List (List Nat) → Prop
  | nil : RepOs P G w m [] [] []
  | cons (c : AV) (v : Value) (F : List Nat) (cs : List AV) (vs : List Value) (Fs : List (List Nat)) : RepA P G w m c v F → RepOs P G w m cs vs Fs → RepOs P G w m (c :: cs) (v :: vs) (F :: Fs)
theorem RepO.parts {cs : List AV} {vs : List Value} {F : List Nat} (h : RepO P G w m cs vs F) : ∃ Fs, F = Fs.flatten ∧ RepOs P G w m cs vs Fs := by
  induction h with
  | nil => exact ⟨[], rfl, .nil⟩
  | cons c v F cs vs F' h1 _ ih => obtain ⟨Fs, rfl, h⟩ := ih; exact ⟨F :: Fs, rfl, .cons _ _ _ _ _ _ h1 h⟩
theorem RepOs.get : ∀ {cs : List AV} {vs : List Value} {Fs : List (List Nat)} {i : Nat} {c : AV}, RepOs P G w m cs vs Fs → cs[i]? = some c → ∃ v F, vs[i]? = some v ∧ Fs[i]? = some F ∧ RepA P G w m c v F
  | _, _, _, 0, c, .cons c' v F cs vs Fs h1 h2, h => by simp at h; subst h; exact ⟨v, F, rfl, rfl, h1⟩
  | _, _, _, i + 1, c, .cons c' v F cs vs Fs h1 h2, h => by
    obtain ⟨v', F', h3, h4, h5⟩ := RepOs.get h2 (by simpa using h)
    exact ⟨v', F', by simpa using h3, by simpa using h4, h5⟩
theorem tagO_out {γ : Nat → Option Own} {b : Nat} : ∀ {Fs : List (List Nat)} {k : Nat}, ¬ b ∈ Fs.flatten → tagO k γ Fs b = γ b
  | [], _, _ => rfl
  | F :: Fs, k, h => by
    simp only [List.flatten_cons, List.mem_append, not_or] at h
    simp only [tagO, h.1, if_false]
    exact tagO_out h.2
theorem tagO_in {γ : Nat → Option Own} {b : Nat} : ∀ {Fs : List (List Nat)} {k i : Nat} {F : List Nat}, Fs.flatten.Nodup → Fs[i]? = some F → b ∈ F → tagO k γ Fs b = some (.t (k + 1000000 * i))
  | F0 :: Fs, k, 0, F, hn, h, hb => by simp at h; subst h; simp [tagO, hb]
  | F0 :: Fs, k, i + 1, F, hn, h, hb => by
    have hF : F ∈ Fs := List.mem_of_getElem? (by simpa using h)
    have hbf : b ∈ Fs.flatten := List.mem_flatten.2 ⟨F, hF, hb⟩
    rw [List.flatten_cons] at hn
    have : ¬ b ∈ F0 := fun h0 => (List.nodup_append.1 hn).2.2 b h0 b hbf rfl
    simp only [tagO, this, if_false]
    rw [tagO_in (List.nodup_append.1 hn).2.1 (by simpa using h) hb]
    congr 2
    omega
theorem Sim.putTuple (h : Sim P ar N E G s a w) (hV : ∀ x ∈ V, x < 1000000) {d : Nat} {cs : List AV} {vs : List Value} {F : List Nat} (hd : d < 1000000) (hdN : d < N) (har : ar d = cs.length) (hne0 : 0 < cs.length) (rest : List Value) (hr : RepO P G w s.m cs vs F) (hn : F.Nodup) (hF : ∀ b ∈ F, G.γ b = some .x) :
    ∃ G', Sim P ar N E G' (putTs V s (d + 1000000) cs) (a.put (some d) (.tuple (vs ++ rest).toArray)) w := by
  obtain ⟨Fs, rfl, hrs⟩ := hr.parts
  let G' : Gh := { G with γ := tagO (d + 1000000) G.γ Fs }
  have hne : ∀ o1, o1 ≠ some .x → ∀ b ∈ Fs.flatten, G.γ b ≠ o1 := fun o1 ho b hb e => ho (by rw [← e, hF b hb])
  have hst : ∀ o1, o1 ≠ some .x → ∀ b, G.γ b = o1 → G'.γ b = o1 := fun o1 ho b hb => by
    show tagO _ _ _ _ = _
    rw [tagO_out (fun hbF => hne o1 ho b hbF hb)]; exact hb
  have hg : Grow P G G' w w s.m s.m := Grow.labels rfl rfl rfl (fun b r => hst _ (by simp) b) (hst _ (by simp))
  have hlen := hr.length
  refine ⟨G', ?_⟩
  rw [putTs_parts hV cs s _ (by omega)]
  refine h.labels rfl rfl rfl (hst _ (by simp)) (fun b o => hst _ (by simp) b) (fun b r => hst _ (by simp) b) ?_ (by simp [Act.put, h.size]) h.defers ?_ ?_ ?_ ?_
  · intro b hb
    by_cases hbF : b ∈ Fs.flatten
    · exact h.lab b (by rw [hF b hbF]; simp)
    · have : tagO (d + 1000000) G.γ Fs b ≠ none := hb
      rw [tagO_out hbF] at this; exact h.lab b this
  · intro t' v' hv
    have other : conc a t' = some v' → (∀ j, j < cs.length → t' ≠ d + 1000000 + 1000000 * j) → TmpAt P G' w s.m t' (partsT s.t (d + 1000000) cs t') v' := by
      intro hv hx
      rw [partsT_other _ _ _ _ hx]
      exact (h.tmp t' v' hv).frame hg (Stay.of_label (hst _ (by simp)))
    by_cases hlow : t' < 1000000
    · rw [conc_put_low (by rw [h.size]; exact hdN) hlow] at hv
      by_cases e : t' = d
      · subst e
        refine ⟨[], ?_, List.nodup_nil, by simp⟩
        rw [partsT_other _ _ _ _ (fun j _ => by omega), h.whole t' hlow (by omega)]
        exact .undef v'
      · rw [if_neg e] at hv
        exact other hv (fun j _ => by omega)
    · by_cases e : t' % 1000000 = d
      · have hv2 : (vs ++ rest)[t' / 1000000 - 1]? = some v' := by
          unfold conc Act.put at hv
          rw [if_neg hlow] at hv
          simp only [e] at hv
          rw [getD_set_eq (by rw [h.size]; exact hdN)] at hv
          simpa using hv
        by_cases hj : t' / 1000000 - 1 < cs.length
        · have ht : t' = d + 1000000 + 1000000 * (t' / 1000000 - 1) := by omega
          obtain ⟨c, hc⟩ : ∃ c, cs[t' / 1000000 - 1]? = some c := ⟨_, List.getElem?_eq_getElem hj⟩
          obtain ⟨v, F, h1, h2, h3⟩ := hrs.get hc
          have hFm : F ∈ Fs := List.mem_of_getElem? h2
          refine ⟨F, ?_, ?_, fun b hb => ?_⟩
          · have : partsT s.t (d + 1000000) cs t' = c := by rw [ht]; exact partsT_at cs s.t _ _ c hc
            rw [List.getElem?_append_left (by omega), h1] at hv2
            obtain rfl := Option.some.inj hv2
            rw [this]
            exact h3.grow hg (fun _ _ => rfl)
          · obtain ⟨l1, l2, rfl⟩ := List.append_of_mem hFm
            simp only [List.flatten_append, List.flatten_cons] at hn
            exact (List.nodup_append.1 (List.nodup_append.1 hn).2.1).1
          · show tagO (d + 1000000) G.γ Fs b = _
            rw [tagO_in hn h2 hb, ← ht]
        · refine ⟨[], ?_, List.nodup_nil, by simp⟩
          rw [partsT_other _ _ _ _ (fun j hj2 => by omega), h.comp t' (by omega) (by rw [e, har]; omega)]
          exact .undef v'
      · rw [conc_put_high (by omega) e] at hv
        exact other hv (fun j _ => by omega)
  · intro t' h1
    by_cases hlow : t' < 1000000
    · rw [conc_put_low (by rw [h.size]; exact hdN) hlow] at h1
      by_cases e : t' = d
      · rw [if_pos e] at h1; cases h1
      · rw [if_neg e] at h1
        rw [partsT_other _ _ _ _ (fun j _ => by omega)]; exact h.nn t' h1
    · by_cases e : t' % 1000000 = d
      · have hv2 : (vs ++ rest)[t' / 1000000 - 1]? = none := by
          unfold conc Act.put at h1
          rw [if_neg hlow] at h1
          simp only [e] at h1
          rw [getD_set_eq (by rw [h.size]; exact hdN)] at h1
          simpa using h1
        have hj : cs.length ≤ t' / 1000000 - 1 := by
          have := List.getElem?_eq_none_iff.1 hv2
          rw [List.length_append] at this
          omega
        rw [partsT_other _ _ _ _ (fun j hj2 => by omega)]
        exact h.comp t' (by omega) (by rw [e, har]; exact hj)
      · rw [conc_put_high (by omega) e] at h1
        rw [partsT_other _ _ _ _ (fun j hj2 => by omega)]; exact h.nn t' h1
  · intro t' h1 h2
    by_cases e : t' % 1000000 = d
    · rw [e, har] at h2
      rw [partsT_other _ _ _ _ (fun j hj => by omega)]
      exact h.comp t' h1 (by rw [e, har]; exact h2)
    · rw [partsT_other _ _ _ _ (fun j hj => by omega)]
      exact h.comp t' h1 h2
  · intro t' h1 h2
    rw [partsT_other _ _ _ _ (fun j hj => by omega)]
    exact h.whole t' h1 h2
end
end Go.Proofs.YtdbcnnehfbcldaaDoor.Pv
/- The literals and operands of an operation, and what its end makes of a state. No condition. -/
namespace Go.Proofs.YtdbcnnehfbcldaaDoor.Pv
open Go
mutual
def repB : PV → Value → Bool
  | .int k n, .int k' n' => k == k' && n == n'
  | .bool b, .bool b' => b == b'
  | .str s, .string s' => decide (s.data = s'.data)
  | .nilp, .pointer none => true
  | .nili, .nilIface => true
  | .sl _ _ [], .slice none 0 0 => true
  | .agg cs, .agg vs => repLB cs vs.toList
  | .clo f [], .func (.func f') first caps => f == f' && first.isEmpty && caps.isEmpty
  | _, _ => false
def repLB : List PV → List Value → Bool
  | [], [] => true
  | c :: cs, v :: vs => (match c with | .agg _ => false | _ => true) && repB c v && repLB cs vs
  | _, _ => false
end
mutual
theorem repB_sound {P : Program} {w : World} {ok : Bool → Nat → Prop} : ∀ {p : PV} {v : Value}, repB p v = true → Rep P w ok p v [] := by
  intro p v h
  match p, v with
  | .int k n, .int k' n' => simp only [repB, Bool.and_eq_true, beq_iff_eq] at h; obtain ⟨rfl, rfl⟩ := h; exact .int _ _
  | .bool b, .bool b' => simp only [repB, beq_iff_eq] at h; subst h; exact .bool _
  | .str s, .string s' =>
    simp only [repB, decide_eq_true_eq] at h
    have : s = s' := by cases s; cases s'; simp_all
    subst this; exact .str _
  | .nilp, .pointer none => exact .nilp
  | .nili, .nilIface => exact .nili
  | .sl fl e [], .slice none 0 0 => exact .slN fl e
  | .agg cs, .agg vs =>
    simp only [repB] at h
    have := Rep.agg (P := P) (w := w) (ok := ok) cs vs.toList [] (repLB_sound h)
    simpa using this
  | .clo f [], .func (.func f') first caps =>
    simp only [repB, Bool.and_eq_true, beq_iff_eq, Array.isEmpty_iff] at h
    obtain ⟨⟨rfl, rfl⟩, rfl⟩ := h
    exact .clo _ [] [] .nil
theorem repLB_sound {P : Program} {w : World} {ok : Bool → Nat → Prop} : ∀ {cs : List PV} {vs : List Value}, repLB cs vs = true → RepL P w ok cs vs [] := by
  intro cs vs h
  match cs, vs with
  | [], [] => exact .nil
  | c :: cs, v :: vs =>
    simp only [repLB, Bool.and_eq_true] at h
    exact .cons c v [] cs vs [] (fun ds e => by subst e; simp at h) (repB_sound h.1.2) (repLB_sound h.2)
end
def chkOpd : Operand → Opd → Bool
  | .tmp t, .t n => t == n && decide (n < 1000000)
  | .const v, .k p => repB p v
  | .func f, .k (.clo f' []) => f == f'
  | _, _ => false
def chkOpds : List Operand → List Opd → Bool
  | [], [] => true
  | x :: xs, o :: os => chkOpd x o && chkOpds xs os
  | _, _ => false
section
variable {P : Program} {ar : Nat → Nat} {N : Nat} {E : Entry} {G G' : Gh} {s : St} {a a' : Act} {w w' : World} {m m' : Mem} {V : List Nat}
theorem chkOpds_length : ∀ {xs : List Operand} {os : List Opd}, chkOpds xs os = true → os.length = xs.length
  | [], [], _ => rfl
  | x :: xs, o :: os, h => by simp only [chkOpds, Bool.and_eq_true] at h; simp [chkOpds_length h.2]
theorem chkOpds_get : ∀ {xs : List Operand} {os : List Opd}, chkOpds xs os = true → ∀ (i : Nat) (o : Opd) (v : Value), os[i]? = some o → (xs.map a.eval)[i]? = some v → match o with | .t n => conc a n = some v | .k p => repB p v = true
  | x :: xs, o :: os, h, 0, o', v, h1, h2 => by
    simp only [chkOpds, Bool.and_eq_true] at h
    simp at h1 h2
    subst h1; subst h2
    cases x with
    | tmp t => cases o with
      | t n =>
        simp only [chkOpd, Bool.and_eq_true, beq_iff_eq, decide_eq_true_eq] at h
        obtain ⟨⟨rfl, hn⟩, _⟩ := h
        simp [conc, hn, Act.eval]
      | k p => simp [chkOpd] at h
    | const v => cases o with
      | t n => simp [chkOpd] at h
      | k p => simp only [chkOpd] at h; exact h.1
    | global g => simp [chkOpd] at h
    | func f => cases o with
      | t n => simp [chkOpd] at h
      | k p =>
        cases p <;> simp [chkOpd] at h
        rename_i f' cs
        cases cs <;> simp at h
        simp [repB, Act.eval, h.1]
  | x :: xs, o :: os, h, i + 1, o', v, h1, h2 => by
    simp only [chkOpds, Bool.and_eq_true] at h
    exact chkOpds_get h.2 i o' v (by simpa using h1) (by simpa using h2)
theorem Sim.read (h : Sim P ar N E G s a w) {xs : List Operand} {os : List Opd} {t' : Nat → AV} (hx : chkOpds xs os = true) (ht : takeT V s.t os = some t') :
    ∃ G1 F, Sim P ar N E G1 ⟨t', s.m⟩ a w ∧ RepO P G1 w s.m (os.map (opd s)) (xs.map a.eval) F ∧ F.Nodup ∧ ∀ b ∈ F, G1.γ b = some .x := by
  obtain ⟨G1, F, h1, h2, h3, h4, _⟩ := Sim.takes (ks := fun p v => repB p v = true) (fun p v G w h => repB_sound h) os G s.t (xs.map a.eval) [] t' h ht (by rw [chkOpds_length hx, List.length_map]) (chkOpds_get hx) ⟨List.nodup_nil, by simp⟩
  exact ⟨G1, F, h1, h2, by simpa using h3, by simpa using h4⟩
def GivesAt (P : Program) (G : Gh) (w : World) (m : Mem) (v : Value) (F : List Nat) : Nat → List AV → Prop
  | 0, as => ∀ c, as = [c] → RepA P G w m c v F
  | _ + 1, as => ∃ vs rest : List Value, v = .tuple (vs ++ rest).toArray ∧ RepO P G w m as vs F
def Gives (P : Program) (ar : Nat → Nat) (N : Nat) (E : Entry) (tup : Nat) (t' : Nat → AV) (a : Act) (as : List AV) (m2 : Mem) (v : Value) (w2 : World) : Prop :=
  ∃ G2 F, Sim P ar N E G2 ⟨t', m2⟩ a w2 ∧ F.Nodup ∧ (∀ b ∈ F, G2.γ b = some .x) ∧ GivesAt P G2 w2 m2 v F tup as
def dstB (ar : Nat → Nat) (N : Nat) (tup : Nat) : Option Nat → Bool
  | none => true
  | some d => decide (d < 1000000) && decide (d < N) && ar d == tup
theorem Gives.put {tup : Nat} {dst : Option Nat} {as : List AV} {m2 : Mem} {v : Value} {w2 : World} {t' : Nat → AV} {s' : St} (hV : ∀ x ∈ V, x < 1000000) (hd : dstB ar N tup dst = true) (h : Gives P ar N E tup t' a as m2 v w2)
    (hs : endStep V tup t' m2 as dst = some s') : ∃ G', Sim P ar N E G' s' (a.put dst v) w2 := by
  obtain ⟨G2, F, h1, h2, h3, h4⟩ := h
  match dst, tup, as, hd, hs, h4 with
  | none, _, _, hd, hs, h4 => simp only [endStep, Option.some.injEq] at hs; subst hs; exact ⟨G2, h1⟩
  | some d, 0, [], hd, hs, h4 =>
    simp only [dstB, Bool.and_eq_true, decide_eq_true_eq, beq_iff_eq] at hd
    simp only [endStep, Option.some.injEq] at hs; subst hs
    exact ⟨_, h1.putOne (c := .undef) (v := v) (F := []) hd.1.1 hd.1.2 hd.2 (.undef v) List.nodup_nil (by simp)⟩
  | some d, 0, [c], hd, hs, h4 =>
    simp only [dstB, Bool.and_eq_true, decide_eq_true_eq, beq_iff_eq] at hd
    simp only [endStep, Option.some.injEq] at hs; subst hs
    exact h1.putT hd.1.1 hd.1.2 hd.2 (h4 c rfl) h2 h3
  | some d, 0, _ :: _ :: _, hd, hs, h4 => simp [endStep] at hs
  | some d, n + 1, as, hd, hs, h4 =>
    simp only [dstB, Bool.and_eq_true, decide_eq_true_eq, beq_iff_eq] at hd
    obtain ⟨vs, rest, rfl, h5⟩ := h4
    simp only [endStep] at hs
    split at hs
    · rename_i hl
      simp only [Option.some.injEq] at hs; subst hs
      exact h1.putTuple hV hd.1.1 hd.1.2 (by rw [hd.2, hl]) (by omega) rest h5 h2 h3
    · cases hs
theorem Oper.wp_value {o : Oper} {next : Act → World → Prop} {Q : Exit → Act → World → Prop} {tup : Nat} {as : List AV} {m2 : Mem} {v : Value} {w2 : World} {t' : Nat → AV} {s' : St} (hV : ∀ x ∈ V, x < 1000000) (hd : dstB ar N tup o.dst = true)
    (hs : endStep V tup t' m2 as o.dst = some s') (hr : (execOp a.eval o).run P w = .ok (.value v) w2) (hg : Gives P ar N E tup t' a as m2 v w2)
    (hn : ∀ G' a' w', Sim P ar N E G' s' a' w' → next a' w') : o.wp P a w next Q := by
  unfold Oper.wp
  rw [hr, Oper.upon_value]
  obtain ⟨G', h⟩ := hg.put hV hd hs
  exact hn G' _ _ h
theorem Oper.wp_skip {o : Oper} {next : Act → World → Prop} {Q : Exit → Act → World → Prop} {tup : Nat} {as : List AV} {m2 : Mem} {w2 : World} {t' : Nat → AV} {s' : St} (hV : ∀ x ∈ V, x < 1000000) (hd : dstB ar N tup o.dst = true)
    (hs : endStep V tup t' m2 as o.dst = some s') (hr : (execOp a.eval o).run P w = .ok .skip w2) (hg : Gives P ar N E tup t' a as m2 undef w2)
    (hn : ∀ G' a' w', Sim P ar N E G' s' a' w' → next a' w') : o.wp P a w next Q := by
  unfold Oper.wp
  rw [hr, Oper.upon_skip]
  obtain ⟨G', h⟩ := hg.put hV hd hs
  exact hn G' _ _ h
end
end Go.Proofs.YtdbcnnehfbcldaaDoor.Pv
/- Operations that touch no memory: what the machine gives, read as the plain reading tells. No condition. -/
namespace Go.Proofs.YtdbcnnehfbcldaaDoor.Pv
open Go
def aggB (P : Program) (t : TypeId) : Bool := match P.underlying t with
  | some (.struct _) | some (.array _ _) => true
  | _ => false
def knownB (P : Program) (t : TypeId) : Bool := (P.underlying t).isSome && (P.info? t).isSome
def fldB (P : Program) (t : TypeId) (f : Nat) : Option (Nat × Nat × Bool) := match P.underlying t with
  | some (.struct fs) => match fs[f]? with
    | some x => if knownB P x.type then some (x.offset, P.cellsOf x.type, aggB P x.type) else none
    | none => none
  | _ => none
section
variable {P : Program} {w : World}
theorem run_isAgg' {t : TypeId} (h : knownB P t = true) : (isAgg t).run P w = .ok (aggB P t) w := by
  unfold knownB at h
  rw [Bool.and_eq_true] at h
  obtain ⟨d, hd⟩ := Option.isSome_iff_exists.1 h.1
  unfold isAgg aggB
  rw [Sem.run_bind, run_underlying hd, hd]
  cases d <;> rfl
theorem run_sizeOf' {t : TypeId} (h : knownB P t = true) : (sizeOf t).run P w = .ok (P.cellsOf t) w := by
  unfold knownB at h
  rw [Bool.and_eq_true] at h
  obtain ⟨d, hd⟩ := Option.isSome_iff_exists.1 h.2
  simp [sizeOf, typeInfo, Program.cellsOf, hd]
theorem run_field' {t : TypeId} {f off n : Nat} {g : Bool} {vs : Array Value} (h : fldB P t f = some (off, n, g)) {v : Value}
    (hv : if g then v = .agg (vs.extract off (off + n)) else vs[off]? = some v) : (Instr.field t (.agg vs) f).run P w = .ok v w := by
  unfold fldB at h
  split at h
  · rename_i fs hu
    split at h
    · rename_i x hx
      split at h
      · rename_i hk
        simp only [Option.some.injEq, Prod.mk.injEq] at h
        obtain ⟨rfl, rfl, rfl⟩ := h
        unfold Instr.field
        rw [Sem.run_bind, run_underlying hu]
        simp only [Result.andThen_ok, hx, Sem.run_bind, asAgg, Sem.run_pure]
        unfold part
        rw [Sem.run_bind, run_isAgg' hk]
        simp only [Result.andThen_ok]
        split at hv
        · rename_i hg
          rw [if_pos hg, Sem.run_bind, run_sizeOf' hk]
          simp [hv]
        · rename_i hg
          rw [if_neg hg, hv]
          simp
      · cases h
    · cases h
  · cases h
theorem run_fieldAt' {t : TypeId} {f off n b o : Nat} {g : Bool} (h : fldB P t f = some (off, n, g)) (hn : n ≠ 0) : (Instr.fieldAt t (.pointer (some ⟨b, o, none⟩)) f).run P w = .ok (.pointer (some ⟨b, o + off, none⟩)) w := by
  unfold fldB at h
  split at h
  · rename_i fs hu
    split at h
    · rename_i x hx
      split at h
      · rename_i hk
        simp only [Option.some.injEq, Prod.mk.injEq] at h
        obtain ⟨rfl, rfl, rfl⟩ := h
        unfold Instr.fieldAt
        rw [Sem.run_bind, run_underlying hu]
        simp only [Result.andThen_ok, hx, Sem.run_bind, Instr.sureAddr, Sem.run_pure]
        unfold fieldPlace
        rw [Sem.run_bind, run_sizeOf' hk]
        simp only [Result.andThen_ok, hn, if_false, Sem.run_pure, Addr.add]
        split <;> simp_all
      · cases h
    · cases h
  · cases h
def tagB (P : Program) (t : TypeId) (k : Nat) : Bool :=
  match k with
  | 1 => match P.underlying t with
    | some .bool => true
    | _ => false
  | 2 => match P.underlying t with
    | some (.pointer _) => true
    | _ => false
  | _ => true
theorem run_equal_bool {t : TypeId} (hu : P.underlying t = some .bool) (a b : Bool) : (Op.equal t (.bool a) (.bool b)).run P w = .ok (a == b) w := by
  show (Op.equalIn (9999 + 1) t _ _).run P w = _
  unfold Op.equalIn
  rw [Sem.run_bind, run_underlying hu]
  rfl
theorem run_equal_nilp {t e : TypeId} (hu : P.underlying t = some (.pointer e)) (b : Option Addr) : (Op.equal t (.pointer none) (.pointer b)).run P w = .ok b.isNone w := by
  show (Op.equalIn (9999 + 1) t _ _).run P w = _
  unfold Op.equalIn
  rw [Sem.run_bind, run_underlying hu]
  rfl
theorem run_equal_pnil {t e : TypeId} (hu : P.underlying t = some (.pointer e)) (b : Addr) : (Op.equal t (.pointer (some b)) (.pointer none)).run P w = .ok false w := by
  show (Op.equalIn (9999 + 1) t _ _).run P w = _
  unfold Op.equalIn
  rw [Sem.run_bind, run_underlying hu]
  rfl
theorem run_bin {op : BinOp} {k : Nat} {t : TypeId} {p q r : PV} {x y : Value} {F F' : List Nat} {ok : Bool → Nat → Prop} {ox oy : Operand} (ht : tagB P t k = true) (hx : Rep P w ok p x F) (hy : Rep P w ok q y F') (hs : binS op k p q = some r) :
    ∃ v, ((do eqGuard op t ox oy x y; binOp op t x y : Sem Value).run P w) = .ok v w ∧ Rep P w ok r v [] := by
  have hb1 : k = 1 → P.underlying t = some .bool := by
    rintro rfl
    unfold tagB at ht
    simp only at ht
    split at ht
    · assumption
    · cases ht
  have hp2 : k = 2 → ∃ e, P.underlying t = some (.pointer e) := by
    rintro rfl
    unfold tagB at ht
    simp only at ht
    split at ht
    · rename_i e he; exact ⟨e, he⟩
    · cases ht
  cases hx <;> cases hy <;> try (simp [binS] at hs; done)
  case int.int k1 a k2 b =>
    simp only [binS] at hs
    split at hs
    · rename_i hop
      subst hop
      split at hs
      · cases hs
      · rename_i hb
        simp only [Option.some.injEq] at hs
        subst hs
        refine ⟨_, ?_, .int _ _⟩
        simp [eqGuard, binOp, Op.shift, hb, shlI]
    split at hs
    · rename_i hop
      subst hop
      split at hs
      · cases hs
      · rename_i hb
        simp only [Option.some.injEq] at hs
        subst hs
        refine ⟨_, ?_, .int _ _⟩
        simp [eqGuard, binOp, Op.shift, hb, shrI]
    rename_i hshl hshr
    split at hs
    · cases hs
    · rename_i hk
      simp only [ne_eq, Decidable.not_not] at hk
      subst hk
      cases op <;> simp only [Option.some.injEq, reduceCtorEq] at hs
      case and => subst hs; refine ⟨_, ?_, .int _ _⟩; simp [eqGuard, binOp, Op.intBits, andI]
      case or => subst hs; refine ⟨_, ?_, .int _ _⟩; simp [eqGuard, binOp, Op.intBits, orI]
      case xor => subst hs; refine ⟨_, ?_, .int _ _⟩; simp [eqGuard, binOp, Op.intBits, xorI]
      case andNot => subst hs; refine ⟨_, ?_, .int _ _⟩; simp [eqGuard, binOp, Op.intBits, andNotI]
      case quo =>
        split at hs
        · cases hs
        · rename_i hb
          simp only [Option.some.injEq] at hs
          subst hs
          refine ⟨_, ?_, .int _ _⟩
          simp [eqGuard, binOp, Op.intDiv, hb]
      case rem =>
        split at hs
        · cases hs
        · rename_i hb
          simp only [Option.some.injEq] at hs
          subst hs
          refine ⟨_, ?_, .int _ _⟩
          simp [eqGuard, binOp, Op.intDiv, hb]
      case add => subst hs; refine ⟨_, ?_, .int _ _⟩; simp [eqGuard, binOp, Op.intArith]
      case sub => subst hs; refine ⟨_, ?_, .int _ _⟩; simp [eqGuard, binOp, Op.intArith]
      case mul => subst hs; refine ⟨_, ?_, .int _ _⟩; simp [eqGuard, binOp, Op.intArith]
      all_goals
        subst hs
        refine ⟨_, ?_, .bool _⟩
        simp [eqGuard, binOp, Op.intCmp, bne]
  case bool.bool a b =>
    simp only [binS] at hs
    split at hs
    · cases hs
    · rename_i hk
      simp only [ne_eq, Decidable.not_not] at hk
      have hu := hb1 hk
      cases op <;> simp at hs
      all_goals
        subst hs
        refine ⟨_, ?_, .bool _⟩
        simp [eqGuard, binOp, run_equal_bool hu]
  case str.str a b =>
    simp only [binS] at hs
    cases op <;> simp only [Option.some.injEq, reduceCtorEq] at hs
    case add =>
      split at hs
      · cases hs
      · rename_i hle
        simp only [Option.some.injEq] at hs
        subst hs
        refine ⟨_, ?_, .str _⟩
        have : ¬ ((a.size + b.size : Nat) : Int) > IntKind.i64.max := hle
        simp only [eqGuard, binOp, Op.stringOp, this, if_false]
        rfl
    all_goals
      subst hs
      exact ⟨_, by simp only [eqGuard, binOp, Op.stringOp]; rfl, .bool _⟩
  case nilp.nilp =>
    simp only [binS] at hs
    split at hs
    · cases hs
    · rename_i hk
      simp only [ne_eq, Decidable.not_not] at hk
      obtain ⟨e, hu⟩ := hp2 hk
      cases op <;> simp at hs
      all_goals
        subst hs
        refine ⟨_, ?_, .bool _⟩
        simp [eqGuard, binOp, run_equal_nilp hu, run_equal_pnil hu]
  case nilp.ref =>
    simp only [binS] at hs
    split at hs
    · cases hs
    · rename_i hk
      simp only [ne_eq, Decidable.not_not] at hk
      obtain ⟨e, hu⟩ := hp2 hk
      cases op <;> simp at hs
      all_goals
        subst hs
        refine ⟨_, ?_, .bool _⟩
        simp [eqGuard, binOp, run_equal_nilp hu, run_equal_pnil hu]
  case ref.nilp =>
    simp only [binS] at hs
    split at hs
    · cases hs
    · rename_i hk
      simp only [ne_eq, Decidable.not_not] at hk
      obtain ⟨e, hu⟩ := hp2 hk
      cases op <;> simp at hs
      all_goals
        subst hs
        refine ⟨_, ?_, .bool _⟩
        simp [eqGuard, binOp, run_equal_nilp hu, run_equal_pnil hu]
end
end Go.Proofs.YtdbcnnehfbcldaaDoor.Pv
/- Operations that touch no memory, one theorem an operation. No condition. -/
namespace Go.Proofs.YtdbcnnehfbcldaaDoor.Pv
open Go
def valOf (s : Sem Value) : Sem Next := do pure (.value (← s))
theorem run_valOf {P : Program} {w w2 : World} {s : Sem Value} {v : Value} (h : s.run P w = .ok v w2) : (valOf s).run P w = .ok (.value v) w2 := by
  unfold valOf
  simp [h]
section
variable {ρ : Operand → Value} {o : Oper}
theorem ex_move {x : Operand} (ho : o.op = .move x ∨ o.op = .assign x) : execOp ρ o = pure (.value (ρ x)) := by rcases ho with ho | ho <;> (unfold execOp; rw [ho])
theorem ex_pick {c a b : Operand} (ho : o.op = .pick c a b) : execOp ρ o = (do pure (.value (if ← asBool (ρ c) then ρ a else ρ b))) := by unfold execOp; rw [ho]
theorem ex_alloc {t : TypeId} (ho : o.op = .alloc t) : execOp ρ o = valOf (Instr.alloc t true (.tuple #[])) := by unfold execOp; rw [ho]; rfl
theorem ex_box {t : TypeId} {x : Operand} (ho : o.op = .box t x) : execOp ρ o = valOf (Instr.box t (ρ x)) := by unfold execOp; rw [ho]; rfl
theorem ex_build {t : TypeId} {ps : Array (Nat × Operand)} (ho : o.op = .build t ps) : execOp ρ o = valOf (Instr.build t (ps.map fun (i, x) => (i, ρ x))) := by unfold execOp; rw [ho]; rfl
theorem ex_buildSlice {t : TypeId} {n : Nat} {ps : Array (Nat × Operand)} (ho : o.op = .buildSlice t n ps) : execOp ρ o = valOf (Instr.buildSlice t n (ps.map fun (i, x) => (i, ρ x))) := by unfold execOp; rw [ho]; rfl
theorem ex_load {t : TypeId} {x : Operand} (ho : o.op = .load t x) : execOp ρ o = valOf (Instr.loadAt t (ρ x)) := by unfold execOp; rw [ho]; rfl
theorem ex_store {t : TypeId} {x y : Operand} (ho : o.op = .store t x y) : execOp ρ o = (do Instr.storeAt t (ρ x) (ρ y); pure .skip) := by unfold execOp; rw [ho]
theorem ex_bin {op : BinOp} {t t2 : TypeId} {x y : Operand} (ho : o.op = .binOp op t x y t2) : execOp ρ o = valOf (do eqGuard op t x y (ρ x) (ρ y); binOp op t (ρ x) (ρ y)) := by unfold execOp; rw [ho]; rfl
theorem ex_un {op : UnOp} {t : TypeId} {x : Operand} (ho : o.op = .unOp op t x) : execOp ρ o = valOf (Op.unary op (ρ x)) := by unfold execOp; rw [ho]; rfl
theorem ex_convert {src dst : TypeId} {x : Operand} (ho : o.op = .convert src dst x) : execOp ρ o = valOf (convert src dst (ρ x)) := by unfold execOp; rw [ho]; rfl
theorem ex_makeFunc {f : Fn} {x y : Array Operand} (ho : o.op = .makeFunc f x y) : execOp ρ o = valOf (Instr.makeFunc f (x.map ρ) (y.map ρ)) := by unfold execOp; rw [ho]; rfl
theorem ex_makeSlice {t : TypeId} {x y : Operand} (ho : o.op = .makeSlice t x y) : execOp ρ o = valOf (Instr.makeSlice t (ρ x) (ρ y)) := by unfold execOp; rw [ho]; rfl
theorem ex_slice {t : TypeId} {x : Operand} {lo hi mx : Option Operand} (ho : o.op = .slice t x lo hi mx) : execOp ρ o = valOf (Instr.sliceAt t (ρ x) (lo.map ρ) (hi.map ρ) (mx.map ρ)) := by unfold execOp; rw [ho]; rfl
theorem ex_fieldAddr {t : TypeId} {x : Operand} {f : Nat} (ho : o.op = .fieldAddr t x f) : execOp ρ o = valOf (Instr.fieldAt t (ρ x) f) := by unfold execOp; rw [ho]; rfl
theorem ex_field {t : TypeId} {x : Operand} {f : Nat} (ho : o.op = .field t x f) : execOp ρ o = valOf (Instr.field t (ρ x) f) := by unfold execOp; rw [ho]; rfl
theorem ex_indexAddr {t : TypeId} {x y : Operand} (ho : o.op = .indexAddr t x y) : execOp ρ o = valOf (Instr.indexAt t (ρ x) (ρ y)) := by unfold execOp; rw [ho]; rfl
theorem ex_index {t : TypeId} {x y : Operand} (ho : o.op = .index t x y) : execOp ρ o = valOf (Instr.index t (ρ x) (ρ y)) := by unfold execOp; rw [ho]; rfl
theorem ex_extract {x : Operand} {i : Nat} (ho : o.op = .extract x i) : execOp ρ o = valOf (Instr.extract (ρ x) i) := by unfold execOp; rw [ho]; rfl
theorem ex_call {c : Call} (ho : o.op = .call c) : execOp ρ o = (do let d ← resolve ρ c o.type; invoke d.target d.args) := by unfold execOp; rw [ho]
theorem ex_nilCheck {x : Operand} {a : Addr} (ho : o.op = .nilCheck x) (hx : ρ x = .pointer (some a)) : execOp ρ o = pure (.value (.pointer (some a))) := by unfold execOp; rw [ho]; simp only [hx]
end
def Plain (P : Program) (G : Gh) (w : World) (m m2 : Mem) (F : List Nat) (as : List AV) (r : Result Next) : Prop :=
  ∃ v c F', r = .ok (.value v) w ∧ m2 = m ∧ as = [c] ∧ RepA P G w m c v F' ∧ F'.Nodup ∧ ∀ b ∈ F', b ∈ F
section
variable {P : Program} {G : Gh} {w : World} {m m2 : Mem} {F : List Nat} {as cs : List AV} {ρ : Operand → Value} {o : Oper} {d : Nat}
theorem RepO.inv1 {c : AV} {vs : List Value} (h : RepO P G w m [c] vs F) : ∃ v, vs = [v] ∧ RepA P G w m c v F := by
  cases h with
  | cons c v F cs vs F' h1 h2 => cases h2; exact ⟨v, rfl, by simpa using h1⟩
theorem RepO.inv2 {c c2 : AV} {vs : List Value} (h : RepO P G w m [c, c2] vs F) : ∃ v v2 F1 F2, vs = [v, v2] ∧ F = F1 ++ F2 ∧ RepA P G w m c v F1 ∧ RepA P G w m c2 v2 F2 := by
  cases h with
  | cons c v F cs vs F' h1 h2 =>
    obtain ⟨v2, rfl, h3⟩ := h2.inv1
    exact ⟨v, v2, F, F', rfl, rfl, h1, h3⟩
theorem RepO.inv3 {c c2 c3 : AV} {vs : List Value} (h : RepO P G w m [c, c2, c3] vs F) : ∃ v v2 v3 F1 F2 F3, vs = [v, v2, v3] ∧ F = F1 ++ (F2 ++ F3) ∧ RepA P G w m c v F1 ∧ RepA P G w m c2 v2 F2 ∧ RepA P G w m c3 v3 F3 := by
  cases h with
  | cons c v F cs vs F' h1 h2 =>
    obtain ⟨v2, v3, F2, F3, rfl, rfl, h3, h4⟩ := h2.inv2
    exact ⟨v, v2, v3, F, F2, F3, rfl, rfl, h1, h3, h4⟩
theorem Plain.mk {r : Result Next} {v : Value} {c : AV} {F' : List Nat} (h1 : r = .ok (.value v) w) (h2 : RepA P G w m c v F') (h3 : F'.Nodup) (h4 : ∀ b ∈ F', b ∈ F) : Plain P G w m m F [c] r := ⟨v, c, F', h1, rfl, rfl, h2, h3, h4⟩
theorem Plain.imm {r : Result Next} {v : Value} {p : PV} (h1 : r = .ok (.value v) w) (h2 : Rep P w G.ok p v []) (h0 : ∀ ds, p ≠ .agg ds := by simp) : Plain P G w m m F [.pv p] r := ⟨v, .pv p, [], h1, rfl, rfl, .pv _ _ _ h0 h2, List.nodup_nil, by simp⟩
theorem plain_mov {x : Operand} {y : Opd} (ho : o.op = .move x ∨ o.op = .assign x) (hn : F.Nodup) (hr : RepO P G w m cs [ρ x] F) (hs : semL d m (.mov y) cs = some (as, m2)) : Plain P G w m m2 F as ((execOp ρ o).run P w) := by
  have hrun : (execOp ρ o).run P w = .ok (.value (ρ x)) w := by rw [ex_move ho]; rfl
  rw [hrun]
  match cs, hs, hr with
  | [c], hs, hr =>
    obtain ⟨v, hv, h⟩ := hr.inv1
    simp only [List.cons.injEq, and_true] at hv
    subst hv
    simp only [semL, Option.some.injEq, Prod.mk.injEq] at hs
    obtain ⟨rfl, rfl⟩ := hs
    exact .mk rfl h hn (fun _ h => h)
  | [], hs, hr => simp [semL] at hs
  | _ :: _ :: _, hs, hr => simp [semL] at hs
theorem plain_pick {x y z : Operand} {x' y' z' : Opd} {c : Bool} {a b : AV} (ho : o.op = .pick x y z) (hn : F.Nodup) (hr : RepO P G w m [.pv (.bool c), a, b] [ρ x, ρ y, ρ z] F) (hs : semL d m (.pick x' y' z') [.pv (.bool c), a, b] = some (as, m2)) : Plain P G w m m2 F as ((execOp ρ o).run P w) := by
  obtain ⟨v, v2, v3, F1, F2, F3, hv, rfl, h1, h2, h3⟩ := hr.inv3
  simp only [List.cons.injEq, and_true] at hv
  obtain ⟨e1, e2, e3⟩ := hv
  simp only [semL, Option.some.injEq, Prod.mk.injEq] at hs
  obtain ⟨rfl, rfl⟩ := hs
  have hb := h1.of_pv
  cases hb
  have hn2 := (List.nodup_append.1 (List.nodup_append.1 hn).2.1)
  have hrun : (execOp ρ o).run P w = .ok (.value (if c then ρ y else ρ z)) w := by rw [ex_pick ho, e1]; rfl
  rw [hrun, e2, e3]
  cases c
  · exact .mk rfl h3 hn2.2.1 (fun b hb => by simp [hb])
  · exact .mk rfl h2 hn2.1 (fun b hb => by simp [hb])
theorem binS_agg {op : BinOp} {k : Nat} {p q r : PV} (h : binS op k p q = some r) : ∀ ds, r ≠ .agg ds := by
  rintro ds rfl
  unfold binS at h
  split at h
  all_goals first
    | (cases h; done)
    | (split at h <;> first | (cases h; done) | (cases op <;> simp at h; done))
    | (cases op <;> simp at h; done)
theorem plain_bin {op : BinOp} {k : Nat} {t t2 : TypeId} {x y : Operand} {x' y' : Opd} {p q : PV} (hk : tagB P t k = true) (ho : o.op = .binOp op t x y t2) (hr : RepO P G w m [.pv p, .pv q] [ρ x, ρ y] F) (hs : semL d m (.bin op k x' y') [.pv p, .pv q] = some (as, m2)) : Plain P G w m m2 F as ((execOp ρ o).run P w) := by
  obtain ⟨v, v2, F1, F2, hv, rfl, h1, h2⟩ := hr.inv2
  simp only [List.cons.injEq, and_true] at hv
  obtain ⟨e1, e2⟩ := hv
  simp only [semL, single, Option.map_map, Option.map_eq_some_iff] at hs
  obtain ⟨r, hb, hs⟩ := hs
  simp only [Function.comp, Prod.mk.injEq] at hs
  obtain ⟨rfl, rfl⟩ := hs
  obtain ⟨u, hrun, hu⟩ := run_bin (ox := x) (oy := y) hk h1.of_pv h2.of_pv hb
  refine .imm (v := u) ?_ hu (binS_agg hb)
  rw [ex_bin ho, e1, e2]
  exact run_valOf hrun
theorem plain_un {op : UnOp} {t : TypeId} {x : Operand} {x' : Opd} {p : PV} (ho : o.op = .unOp op t x) (hr : RepO P G w m [.pv p] [ρ x] F) (hs : semL d m (.un op x') [.pv p] = some (as, m2)) : Plain P G w m m2 F as ((execOp ρ o).run P w) := by
  obtain ⟨v, hv, h1⟩ := hr.inv1
  simp only [List.cons.injEq, and_true] at hv
  simp only [semL, single, Option.map_map, Option.map_eq_some_iff] at hs
  obtain ⟨r, hb, hs⟩ := hs
  simp only [Function.comp, Prod.mk.injEq] at hs
  obtain ⟨rfl, rfl⟩ := hs
  have h := h1.of_pv
  cases h <;> simp only [unS, reduceCtorEq] at hb <;> cases op <;> simp only [Option.some.injEq, reduceCtorEq] at hb
  · subst hb
    refine .imm (v := _) ?_ (.int _ _)
    rw [ex_un ho, hv]
    rfl
  · subst hb
    refine .imm (v := _) ?_ (.int _ _)
    rw [ex_un ho, hv]
    rfl
  · subst hb
    refine .imm (v := _) ?_ (.bool _)
    rw [ex_un ho, hv]
    rfl
theorem plain_conv {k k2 : IntKind} {n : Int} {src dst : TypeId} {x : Operand} {x' : Opd} (hsrc : (P.underlying src).isSome = true) (hd : P.underlying dst = some (.int k)) (ho : o.op = .convert src dst x) (hr : RepO P G w m [.pv (.int k2 n)] [ρ x] F)
    (hs : semL d m (.conv k x') [.pv (.int k2 n)] = some (as, m2)) : Plain P G w m m2 F as ((execOp ρ o).run P w) := by
  obtain ⟨v, hv, h1⟩ := hr.inv1
  simp only [List.cons.injEq, and_true] at hv
  simp only [semL, Option.some.injEq, Prod.mk.injEq] at hs
  obtain ⟨rfl, rfl⟩ := hs
  have h := h1.of_pv
  cases h
  obtain ⟨d', hd'⟩ := Option.isSome_iff_exists.mp hsrc
  refine .imm (v := _) ?_ (.int _ _)
  rw [ex_convert ho, hv]
  exact run_valOf (by simp [convert, run_underlying hd', run_underlying hd, Conv.intToInt])
theorem plain_idxs {s : ByteArray} {i : Int} {k : IntKind} {t : TypeId} {x y : Operand} {x' y' : Opd} (ht : P.underlying t = some .string) (ho : o.op = .index t x y) (hr : RepO P G w m [.pv (.str s), .pv (.int k i)] [ρ x, ρ y] F)
    (hs : semL d m (.idxs x' y') [.pv (.str s), .pv (.int k i)] = some (as, m2)) : Plain P G w m m2 F as ((execOp ρ o).run P w) := by
  obtain ⟨v, v2, F1, F2, hv, rfl, h1, h2⟩ := hr.inv2
  simp only [List.cons.injEq, and_true] at hv
  obtain ⟨e1, e2⟩ := hv
  have h1 := h1.of_pv
  have h2 := h2.of_pv
  cases h1
  cases h2
  simp only [semL, idx, Option.map_eq_some_iff] at hs
  obtain ⟨j, hj, hs⟩ := hs
  simp only [Prod.mk.injEq] at hs
  obtain ⟨rfl, rfl⟩ := hs
  split at hj
  · rename_i hi
    simp only [Option.some.injEq] at hj
    subst hj
    have hlt : i.toNat < s.size := by omega
    refine .imm (v := _) ?_ (.int _ _)
    rw [ex_index ho, e1, e2]
    have hb : s[i.toNat]? = some s[i.toNat] := by simp [hlt]
    have hd : (s.data.toList.getD i.toNat 0).toNat = s[i.toNat].toNat := by
      have : i.toNat < s.data.toList.length := by simpa using hlt
      rw [List.getD_eq_getElem?_getD, List.getElem?_eq_getElem this]
      rfl
    rw [hd]
    exact run_valOf (by simp [Instr.index, asIntOf, run_underlying ht, hi.1, hb])
  · cases hj
theorem plain_ext {t i : Nat} {a : Act} {v : Value} (ho : o.op = .extract (.tmp t) i) (ht : t < 1000000) (hc : conc a (t + 1000000 * (i + 1)) = some v) : (execOp a.eval o).run P w = .ok (.value v) w := by
  unfold conc at hc
  rw [if_neg (by omega)] at hc
  have e1 : (t + 1000000 * (i + 1)) % 1000000 = t := by omega
  have e2 : (t + 1000000 * (i + 1)) / 1000000 - 1 = i := by omega
  rw [e1, e2] at hc
  split at hc
  · rename_i vs hv
    have : a.eval (.tmp t) = .tuple vs := hv
    rw [ex_extract ho, this]
    exact run_valOf (by simp [Instr.extract, hc])
  · cases hc
theorem RepAL.take_drop {vs : List Value} (h : RepAL P G w m cs vs F) (off n : Nat) (hn : F.Nodup) : ∃ F', RepAL P G w m ((cs.drop off).take n) ((vs.drop off).take n) F' ∧ F'.Nodup ∧ ∀ b ∈ F', b ∈ F := by
  have e : cs = cs.take off ++ ((cs.drop off).take n ++ (cs.drop off).drop n) := by rw [List.take_append_drop, List.take_append_drop]
  rw [e] at h
  obtain ⟨v1, v2, F1, F2, rfl, rfl, h1, h2⟩ := RepAL.split h
  obtain ⟨v3, v4, F3, F4, rfl, rfl, h3, h4⟩ := RepAL.split h2
  have l1 := h1.length
  have l3 := h3.length
  have hlen := h.length
  refine ⟨F3, ?_, (List.nodup_append.1 (List.nodup_append.1 hn).2.1).1, fun b hb => by simp [hb]⟩
  have e2 : ((v1 ++ (v3 ++ v4)).drop off).take n = v3 := by
    by_cases ho : off ≤ cs.length
    · have : v1.length = off := by rw [← l1, List.length_take]; omega
      rw [← this, List.drop_left]
      by_cases hn2 : n ≤ (cs.drop off).length
      · have : v3.length = n := by rw [← l3, List.length_take]; omega
        rw [← this, List.take_left]
      · have e4 : v4 = [] := List.eq_nil_of_length_eq_zero (by rw [← h4.length, List.length_drop]; omega)
        subst e4
        rw [List.append_nil]
        exact List.take_of_length_le (by rw [← l3, List.length_take]; omega)
    · have hz : (cs.drop off) = [] := List.drop_eq_nil_of_le (by omega)
      have e3 : v3 = [] := List.eq_nil_of_length_eq_zero (by rw [← l3, hz]; simp)
      have e4 : v4 = [] := List.eq_nil_of_length_eq_zero (by rw [← h4.length, hz]; simp)
      subst e3; subst e4
      rw [List.append_nil, List.append_nil, List.drop_eq_nil_of_le (by rw [← l1, List.length_take]; omega)]
      simp
  rw [e2]
  exact h3
theorem one_some {g : Bool} {cs : List AV} {c : AV} (h : one g cs = some c) : (g = true ∧ c = .agg cs) ∨ (g = false ∧ cs = [c]) := by
  unfold one at h
  cases g
  · right
    simp only [Bool.false_eq_true, if_false] at h
    split at h
    · simp only [Option.some.injEq] at h; subst h; exact ⟨rfl, rfl⟩
    · cases h
  · left
    simp only [if_true, Option.some.injEq] at h
    exact ⟨rfl, h.symm⟩
theorem plain_fld {ds : List AV} {t : TypeId} {f off n : Nat} {g : Bool} {x : Operand} {x' : Opd} (hf : fldB P t f = some (off, n, g)) (ho : o.op = .field t x f) (hn : F.Nodup) (hr : RepO P G w m [.agg ds] [ρ x] F)
    (hs : semL d m (.fld off n g x') [.agg ds] = some (as, m2)) : Plain P G w m m2 F as ((execOp ρ o).run P w) := by
  obtain ⟨v, hv, h1⟩ := hr.inv1
  simp only [List.cons.injEq, and_true] at hv
  cases h1 with
  | agg _ vs _ hl =>
    simp only [semL] at hs
    split at hs
    · rename_i hlen
      simp only [single, Option.map_eq_some_iff] at hs
      obtain ⟨c, hc, hs⟩ := hs
      simp only [Prod.mk.injEq] at hs
      obtain ⟨rfl, rfl⟩ := hs
      obtain ⟨F', h2, h3, h4⟩ := hl.take_drop off n hn
      rw [ex_field ho, hv]
      rcases one_some hc with ⟨rfl, rfl⟩ | ⟨rfl, hc1⟩
      · refine .mk (run_valOf (run_field' hf (v := .agg ((vs.drop off).take n).toArray) ?_)) (.agg _ _ _ h2) h3 h4
        simp only [if_true, Value.agg.injEq]
        apply Array.ext'
        simp [List.take_drop, Nat.add_comm]
      · rw [hc1] at h2 hlen
        simp only [List.length_cons, List.length_nil] at hlen
        generalize hvs : (vs.drop off).take n = us at h2
        cases h2 with
        | cons c v F1 cs2 vs2 F2 h0 h5 h6 =>
          cases h6
          refine .mk (run_valOf (run_field' hf (v := v) ?_)) h5 (by simpa using h3) (fun b hb => h4 b (by simpa using hb))
          simp only [Bool.false_eq_true, if_false, List.getElem?_toArray]
          have : ((vs.drop off).take n)[0]? = some v := by rw [hvs]; rfl
          rw [List.getElem?_take] at this
          split at this
          · simpa using this
          · cases this
    · cases hs
end
end Go.Proofs.YtdbcnnehfbcldaaDoor.Pv
/- Operations on slices and places that change no memory, one theorem an operation. No condition. -/
namespace Go.Proofs.YtdbcnnehfbcldaaDoor.Pv
open Go
section
variable {P : Program} {G : Gh} {w : World} {m m2 : Mem} {F : List Nat} {as cs : List AV} {ρ : Operand → Value} {o : Oper} {d : Nat} {ok : Bool → Nat → Prop}
theorem RepL.take_drop0 {ps : List PV} {vs : List Value} (h : RepL P w ok ps vs []) (off : Nat) : RepL P w ok (ps.drop off) (vs.drop off) [] := by
  have e : ps = ps.take off ++ ps.drop off := (List.take_append_drop _ _).symm
  rw [e] at h
  obtain ⟨v1, v2, F1, F2, rfl, hF, h1, h2⟩ := RepL.split h
  have hF2 : F1 = [] ∧ F2 = [] := by simpa using hF.symm
  obtain ⟨rfl, rfl⟩ := hF2
  have l1 := h1.length
  have l2 := h2.length
  by_cases ho : off ≤ ps.length
  · have : v1.length = off := by rw [← l1, List.length_take]; omega
    rw [← this, List.drop_left, this]; exact h2
  · have hz : ps.drop off = [] := List.drop_eq_nil_of_le (by omega)
    have e2 : v2 = [] := List.eq_nil_of_length_eq_zero (by rw [← l2, hz]; simp)
    subst e2
    rw [hz, List.append_nil, List.drop_eq_nil_of_le (by rw [← l1, List.length_take]; omega)]
    exact .nil
theorem RepL.take0 {ps : List PV} {vs : List Value} (h : RepL P w ok ps vs []) (n : Nat) : RepL P w ok (ps.take n) (vs.take n) [] := by
  have e : ps = ps.take n ++ ps.drop n := (List.take_append_drop _ _).symm
  rw [e] at h
  obtain ⟨v1, v2, F1, F2, rfl, hF, h1, h2⟩ := RepL.split h
  have hF2 : F1 = [] ∧ F2 = [] := by simpa using hF.symm
  obtain ⟨rfl, rfl⟩ := hF2
  have l1 := h1.length
  have l2 := h2.length
  by_cases ho : n ≤ ps.length
  · have : v1.length = n := by rw [← l1, List.length_take]; omega
    rw [← this, List.take_left, this]; exact h1
  · have hz : ps.drop n = [] := List.drop_eq_nil_of_le (by omega)
    have e2 : v2 = [] := List.eq_nil_of_length_eq_zero (by rw [← l2, hz]; simp)
    subst e2
    have e3 : (v1 ++ ([] : List Value)).take n = v1 := by rw [List.append_nil]; exact List.take_of_length_le (by rw [← l1, List.length_take]; omega)
    have e4 : ps.take n = ps := List.take_of_length_le (by omega)
    rw [e3]
    exact h1
theorem flatC_append (xs ys : List PV) : flatC (xs ++ ys) = flatC xs ++ flatC ys := by simp [flatC]
theorem flatC_length {n : Nat} : ∀ {xs : List PV}, (∀ x ∈ xs, x.cells.length = n) → (flatC xs).length = xs.length * n
  | [], _ => by simp [flatC]
  | x :: xs, h => by
    have := flatC_length (xs := xs) (fun y hy => h y (List.mem_cons_of_mem _ hy))
    have e : flatC (x :: xs) = x.cells ++ flatC xs := by simp [flatC]
    rw [e, List.length_append, this, h x List.mem_cons_self, List.length_cons, Nat.add_mul, Nat.one_mul, Nat.add_comm]
theorem flatC_drop {n : Nat} {xs : List PV} (h : ∀ x ∈ xs, x.cells.length = n) (i : Nat) : flatC (xs.drop i) = (flatC xs).drop (i * n) := by
  by_cases hi : i ≤ xs.length
  · have e : flatC xs = flatC (xs.take i) ++ flatC (xs.drop i) := by rw [← flatC_append, List.take_append_drop]
    have l : (flatC (xs.take i)).length = i * n := by
      rw [flatC_length (fun x hx => h x (List.mem_of_mem_take hx)), List.length_take, Nat.min_eq_left hi]
    rw [e, ← l, List.drop_left]
  · rw [List.drop_eq_nil_of_le (by omega), List.drop_eq_nil_of_le]
    · rfl
    · rw [flatC_length h]; exact Nat.mul_le_mul_right _ (by omega)
theorem flatC_take {n : Nat} {xs : List PV} (h : ∀ x ∈ xs, x.cells.length = n) (i : Nat) : flatC (xs.take i) = (flatC xs).take (i * n) := by
  by_cases hi : i ≤ xs.length
  · have e : flatC xs = flatC (xs.take i) ++ flatC (xs.drop i) := by rw [← flatC_append, List.take_append_drop]
    have l : (flatC (xs.take i)).length = i * n := by
      rw [flatC_length (fun x hx => h x (List.mem_of_mem_take hx)), List.length_take, Nat.min_eq_left hi]
    rw [e, ← l, List.take_left]
  · rw [List.take_of_length_le (by omega), List.take_of_length_le]
    rw [flatC_length h]; exact Nat.mul_le_mul_right _ (by omega)
theorem addr_add (b off k : Nat) : (⟨b, off, none⟩ : Addr).add k = ⟨b, off + k, none⟩ := by
  unfold Addr.add
  split
  · rename_i h; subst h; rfl
  · rfl
theorem Rep.sub {fl : Nat} {e : TypeId} {xs : List PV} {v : Value} {F : List Nat} (hfl : fl = 0) (h : Rep P w ok (.sl fl e xs) v F) (l n : Nat) (hl : l ≤ n) (hn : n ≤ xs.length) :
    ∃ a len cap, v = .slice a len cap ∧ len = xs.length ∧ xs.length ≤ cap ∧ Rep P w ok (.sl 0 e ((xs.take n).drop l)) (.slice (if cap = l then a else a.map (·.add (l * P.cellsOf e))) (n - l) (cap - l)) [] := by
  subst hfl
  cases h with
  | slN _ _ =>
    simp only [List.length_nil, Nat.le_zero_eq] at hn
    subst hn
    obtain rfl : l = 0 := by omega
    exact ⟨none, 0, 0, rfl, rfl, Nat.le_refl _, by simpa using Rep.slN 0 e⟩
  | slE _ _ ad =>
    simp only [List.length_nil, Nat.le_zero_eq] at hn
    subst hn
    obtain rfl : l = 0 := by omega
    exact ⟨some ad, 0, 0, rfl, rfl, Nat.le_refl _, by simpa using Rep.slE 0 e ad⟩
  | slI _ _ vs b off cap hx hu hb hc h1 h2 =>
    refine ⟨_, _, _, rfl, rfl, h1, ?_⟩
    have ha : (if cap = l then some (⟨b, off, none⟩ : Addr) else (some (⟨b, off, none⟩ : Addr)).map (·.add (l * P.cellsOf e))) = some ⟨b, if cap = l then off else off + l * P.cellsOf e, none⟩ := by
      split
      · rfl
      · simp [addr_add]
    rw [ha]
    have hlen : ((xs.take n).drop l).length = n - l := by rw [List.length_drop, List.length_take]; omega
    have hrep : RepL P w ok (flatC ((xs.take n).drop l)) ((vs.take (n * P.cellsOf e)).drop (l * P.cellsOf e)) [] := by
      rw [flatC_drop (n := P.cellsOf e) (fun x hx => hu x (List.mem_of_mem_take hx)), flatC_take hu]
      exact (hx.take0 _).take_drop0 _
    have := Rep.slI (P := P) (w := w) (ok := ok) e ((xs.take n).drop l) _ b (if cap = l then off else off + l * P.cellsOf e) (cap - l) hrep (fun x hx => hu x (List.mem_of_mem_take (List.mem_of_mem_drop hx)))
      (fun hne => hb (by rintro rfl; simp at hne)) (fun j v hj => by
        have hj2 : vs[l * P.cellsOf e + j]? = some v := by
          rw [List.getElem?_drop, List.getElem?_take] at hj
          split at hj
          · exact hj
          · cases hj
        have := hc _ v hj2
        by_cases hcl : cap = l
        · exfalso
          rw [List.getElem?_drop, List.getElem?_take] at hj
          split at hj
          · rename_i hlt
            have : n = l := by omega
            subst this
            omega
          · cases hj
        · rw [if_neg hcl, Nat.add_assoc]; exact this) (by rw [hlen]; omega) (by omega)
    rw [hlen] at this
    exact this
theorem Rep.elem {e : TypeId} {xs : List PV} {v : Value} {F : List Nat} (h : Rep P w ok (.sl 0 e xs) v F) (hm : ∀ b, ok false b → ok true b) {j : Nat} {x : PV} (hx : xs[j]? = some x) :
    ∃ b off n cap, v = .slice (some ⟨b, off, none⟩) n cap ∧ n = xs.length ∧ Rep P w ok (.ref x.cells) (.pointer (some ⟨b, off + j * P.cellsOf e, none⟩)) [] := by
  cases h with
  | slN _ _ => simp at hx
  | slE _ _ _ => simp at hx
  | slI _ _ vs b off cap hr hu hb hc h1 h2 =>
    refine ⟨b, off, _, cap, rfl, rfl, ?_⟩
    have hj : j < xs.length := (List.getElem?_eq_some_iff.1 hx).1
    have hne : xs ≠ [] := by rintro rfl; simp at hj
    have e1 : flatC ((xs.take (j + 1)).drop j) = x.cells := by
      have : (xs.take (j + 1)).drop j = [x] := by
        rw [List.drop_take]
        have e0 : xs.drop j = x :: xs.drop (j + 1) := by rw [List.drop_eq_getElem_cons hj]; congr 1; exact (List.getElem?_eq_some_iff.1 hx).2
        rw [e0]; simp
      rw [this]; simp [flatC]
    have hrep : RepL P w ok x.cells ((vs.take ((j + 1) * P.cellsOf e)).drop (j * P.cellsOf e)) [] := by
      rw [← e1, flatC_drop (n := P.cellsOf e) (fun x hx => hu x (List.mem_of_mem_take hx)), flatC_take hu]
      exact (hr.take0 _).take_drop0 _
    refine .ref _ _ _ _ hrep (hm b (hb hne).1) (hb hne).2 (fun i v hi => ?_)
    rw [List.getElem?_drop, List.getElem?_take] at hi
    split at hi
    · rw [Nat.add_assoc]; exact hc _ v hi
    · cases hi
theorem plain_flda_ptr {t : TypeId} {f off n ob k c : Nat} {g : Bool} {x : Operand} {x' : Opd} (hf : fldB P t f = some (off, n, g)) (hne : n ≠ 0) (ho : o.op = .fieldAddr t x f) (hr : RepO P G w m [.ptr ob k c] [ρ x] F)
    (hs : semL d m (.flda off x') [.ptr ob k c] = some (as, m2)) : Plain P G w m m2 F as ((execOp ρ o).run P w) := by
  obtain ⟨v, hv, h1⟩ := hr.inv1
  simp only [List.cons.injEq, and_true] at hv
  simp only [semL] at hs
  split at hs
  · rename_i hk
    simp only [Option.some.injEq, Prod.mk.injEq] at hs
    obtain ⟨rfl, rfl⟩ := hs
    obtain ⟨rfl, rfl⟩ := h1.of_ptr hk
    rw [ex_fieldAddr ho, hv]
    refine .mk (run_valOf (run_fieldAt' hf hne)) (F' := []) ?_ List.nodup_nil (by simp)
    rw [Nat.add_assoc]
    exact .ptr ob k (c + off) hk
  · cases hs
theorem plain_flda_ept {t : TypeId} {f off n i j : Nat} {r : Ref} {g : Bool} {x : Operand} {x' : Opd} (hf : fldB P t f = some (off, n, g)) (hne : n ≠ 0) (ho : o.op = .fieldAddr t x f) (hr : RepO P G w m [.ept r i j] [ρ x] F)
    (hs : semL d m (.flda off x') [.ept r i j] = some (as, m2)) : Plain P G w m m2 F as ((execOp ρ o).run P w) := by
  obtain ⟨v, hv, h1⟩ := hr.inv1
  simp only [List.cons.injEq, and_true] at hv
  simp only [semL] at hs
  split at hs
  · rename_i hk
    simp only [Option.some.injEq, Prod.mk.injEq] at hs
    obtain ⟨rfl, rfl⟩ := hs
    cases h1 with
    | ept _ _ _ fl e xs b off' n' cap h hi =>
      rw [ex_fieldAddr ho, hv]
      refine .mk (run_valOf (run_fieldAt' hf hne)) (F' := []) ?_ List.nodup_nil (by simp)
      have e1 : off' + (i * P.cellsOf e + j) + off = off' + (i * P.cellsOf e + (j + off)) := by omega
      rw [e1]
      exact .ept r i (j + off) fl e xs b off' n' cap h hi
    | eptX _ _ _ _ _ hx => rw [hx.deref] at hk; simp at hk
  · cases hs
theorem plain_flda_ref {t : TypeId} {f off n : Nat} {cs : List PV} {g : Bool} {x : Operand} {x' : Opd} (hf : fldB P t f = some (off, n, g)) (hne : n ≠ 0) (ho : o.op = .fieldAddr t x f) (hr : RepO P G w m [.pv (.ref cs)] [ρ x] F)
    (hs : semL d m (.flda off x') [.pv (.ref cs)] = some (as, m2)) : Plain P G w m m2 F as ((execOp ρ o).run P w) := by
  obtain ⟨v, hv, h1⟩ := hr.inv1
  simp only [List.cons.injEq, and_true] at hv
  simp only [semL, Option.some.injEq, Prod.mk.injEq] at hs
  obtain ⟨rfl, rfl⟩ := hs
  have h := h1.of_pv
  cases h with
  | ref _ vs b o' hl hb hlt hc =>
    rw [ex_fieldAddr ho, hv]
    refine .imm (run_valOf (run_fieldAt' hf hne)) (.ref _ _ _ _ (hl.take_drop0 off) hb hlt (fun j v hj => ?_))
    rw [List.getElem?_drop] at hj
    rw [Nat.add_assoc]
    exact hc _ v hj
theorem plain_nilck_ptr {ob k c : Nat} {x : Operand} {x' : Opd} (ho : o.op = .nilCheck x) (hr : RepO P G w m [.ptr ob k c] [ρ x] F)
    (hs : semL d m (.nilck x') [.ptr ob k c] = some (as, m2)) : Plain P G w m m2 F as ((execOp ρ o).run P w) := by
  obtain ⟨v, hv, h1⟩ := hr.inv1
  simp only [List.cons.injEq, and_true] at hv
  simp only [semL] at hs
  split at hs
  · rename_i hk
    simp only [Option.some.injEq, Prod.mk.injEq] at hs
    obtain ⟨rfl, rfl⟩ := hs
    obtain ⟨rfl, rfl⟩ := h1.of_ptr hk
    rw [ex_nilCheck ho hv]
    exact .mk rfl (.ptr ob k c hk) List.nodup_nil (by simp)
  · cases hs
theorem plain_nilck_ept {r : Ref} {i j : Nat} {x : Operand} {x' : Opd} (ho : o.op = .nilCheck x) (hr : RepO P G w m [.ept r i j] [ρ x] F)
    (hs : semL d m (.nilck x') [.ept r i j] = some (as, m2)) : Plain P G w m m2 F as ((execOp ρ o).run P w) := by
  obtain ⟨v, hv, h1⟩ := hr.inv1
  simp only [List.cons.injEq, and_true] at hv
  simp only [semL] at hs
  split at hs
  · rename_i hk
    simp only [Option.some.injEq, Prod.mk.injEq] at hs
    obtain ⟨rfl, rfl⟩ := hs
    cases h1 with
    | ept _ _ _ fl e xs b off' n' cap h hi =>
      rw [ex_nilCheck ho hv]
      exact .mk rfl (.ept r i j fl e xs b off' n' cap h hi) List.nodup_nil (by simp)
    | eptX _ _ _ _ _ hx => rw [hx.deref] at hk; simp at hk
  · cases hs
theorem plain_nilck_ref {cs : List PV} {x : Operand} {x' : Opd} (ho : o.op = .nilCheck x) (hr : RepO P G w m [.pv (.ref cs)] [ρ x] F)
    (hs : semL d m (.nilck x') [.pv (.ref cs)] = some (as, m2)) : Plain P G w m m2 F as ((execOp ρ o).run P w) := by
  obtain ⟨v, hv, h1⟩ := hr.inv1
  simp only [List.cons.injEq, and_true] at hv
  simp only [semL, Option.some.injEq, Prod.mk.injEq] at hs
  obtain ⟨rfl, rfl⟩ := hs
  have h := h1.of_pv
  cases h with
  | ref _ vs b o' hl hb hlt hc =>
    rw [ex_nilCheck ho hv]
    exact .imm rfl (.ref _ _ _ _ hl hb hlt hc)
theorem run_indexAt' {t e : TypeId} {b off n cap : Nat} {k : IntKind} {i : Int} (ht : P.underlying t = some (.slice e)) (he : knownB P e = true) (h : 0 ≤ i ∧ i < (n : Int)) :
    (Instr.indexAt t (.slice (some ⟨b, off, none⟩) n cap) (.int k i)).run P w = .ok (.pointer (some ⟨b, off + i.toNat * P.cellsOf e, none⟩)) w := by
  simp [Instr.indexAt, run_underlying ht, asIntOf, h, run_sizeOf' he, addr_add]
theorem idx_some {i : Int} {n j : Nat} (h : idx i n = some j) : (0 ≤ i ∧ i < (n : Int)) ∧ j = i.toNat := by
  unfold idx at h
  split at h
  · rename_i hi; simp only [Option.some.injEq] at h; exact ⟨hi, h.symm⟩
  · cases h
theorem plain_idxa_sh {t e e' : TypeId} {fl : Nat} {xs : List PV} {k : IntKind} {i : Int} {x y : Operand} {x' y' : Opd} (hm : ∀ b, G.ok false b → G.ok true b) (ht : P.underlying t = some (.slice e)) (he : knownB P e = true) (ho : o.op = .indexAddr t x y)
    (hr : RepO P G w m [.pv (.sl fl e' xs), .pv (.int k i)] [ρ x, ρ y] F) (hs : semL d m (.idxa e x' y') [.pv (.sl fl e' xs), .pv (.int k i)] = some (as, m2)) : Plain P G w m m2 F as ((execOp ρ o).run P w) := by
  obtain ⟨v, v2, F1, F2, hv, rfl, h1, h2⟩ := hr.inv2
  simp only [List.cons.injEq, and_true] at hv
  obtain ⟨e1, e2⟩ := hv
  have h1 := h1.of_pv
  have h2 := h2.of_pv
  cases h2
  simp only [semL] at hs
  split at hs
  · rename_i hfl
    obtain ⟨rfl, rfl⟩ := hfl
    split at hs
    · rename_i j hj
      obtain ⟨hi, rfl⟩ := idx_some hj
      simp only [Option.map_eq_some_iff, Prod.mk.injEq] at hs
      obtain ⟨z, hz, rfl, rfl⟩ := hs
      obtain ⟨b, off, n, cap, rfl, rfl, h3⟩ := h1.elem hm hz
      rw [ex_indexAddr ho, e1, e2]
      exact .imm (run_valOf (run_indexAt' ht he hi)) h3
    · cases hs
  · cases hs
theorem plain_idxa_rw {t e : TypeId} {r : Ref} {k : IntKind} {i : Int} {x y : Operand} {x' y' : Opd} (hroot : ∀ r p v, RefAt P G w m r p v → ∃ F, Rep P w G.ok p v F) (ht : P.underlying t = some (.slice e)) (he : knownB P e = true) (ho : o.op = .indexAddr t x y)
    (hr : RepO P G w m [.rw r, .pv (.int k i)] [ρ x, ρ y] F) (hs : semL d m (.idxa e x' y') [.rw r, .pv (.int k i)] = some (as, m2)) : Plain P G w m m2 F as ((execOp ρ o).run P w) := by
  obtain ⟨v, v2, F1, F2, hv, rfl, h1, h2⟩ := hr.inv2
  simp only [List.cons.injEq, and_true] at hv
  obtain ⟨e1, e2⟩ := hv
  have h2 := h2.of_pv
  cases h2
  simp only [semL] at hs
  split at hs
  · rename_i fl e' xs hd
    split at hs
    · rename_i hee
      subst hee
      simp only [Option.map_eq_some_iff, Prod.mk.injEq] at hs
      obtain ⟨j, hj, rfl, rfl⟩ := hs
      obtain ⟨hi, rfl⟩ := idx_some hj
      obtain ⟨href, rfl⟩ := h1.of_deref hd
      obtain ⟨F3, h3⟩ := hroot _ _ _ href
      have hlt : i.toNat < xs.length := by omega
      have hv : ∃ b off cap, v = .slice (some ⟨b, off, none⟩) xs.length cap := by
        cases h3 with
        | slN _ _ => simp at hlt
        | slE _ _ _ => simp at hlt
        | slI _ _ vs b off cap _ _ _ _ _ _ => exact ⟨b, off, cap, rfl⟩
        | slO _ _ vs b off cap _ _ _ _ _ _ _ _ _ _ => exact ⟨b, off, cap, rfl⟩
        | slA _ _ vs b cap _ _ _ _ _ => exact ⟨b, 0, cap, rfl⟩
      obtain ⟨b, off, cap, rfl⟩ := hv
      rw [ex_indexAddr ho, e1, e2]
      refine .mk (run_valOf (run_indexAt' ht he hi)) (F' := []) ?_ List.nodup_nil (by simp)
      exact .ept r i.toNat 0 fl e xs b off _ cap href hlt
    · cases hs
  · cases hs
end
end Go.Proofs.YtdbcnnehfbcldaaDoor.Pv
/- More operations that change no memory: lengths, parts, functions with what they hold, the lesser and the greater. No condition. -/
namespace Go.Proofs.YtdbcnnehfbcldaaDoor.Pv
open Go
section
variable {P : Program} {G : Gh} {w : World} {m m2 : Mem} {F : List Nat} {as cs : List AV} {ρ : Operand → Value} {o : Oper} {d : Nat} {ok : Bool → Nat → Prop}
theorem ex_len {x : Operand} {t : TypeId} (ho : o.op = .call { callee := .builtin .len, args := #[x], argTypes := #[t] }) : execOp ρ o = valOf (Builtin.len_ #[t] o.type #[ρ x]) := by
  rw [ex_call ho]; simp [resolve, invoke, builtin, valOf]
theorem ex_append {x y : Operand} {t u : TypeId} (ho : o.op = .call { callee := .builtin .append, args := #[x, y], argTypes := #[t, u] }) : execOp ρ o = valOf (Builtin.append_ #[t, u] o.type #[ρ x, ρ y]) := by
  rw [ex_call ho]; simp [resolve, invoke, builtin, valOf]
theorem ex_min {x y : Operand} {ts : Array TypeId} (ho : o.op = .call { callee := .builtin .min, args := #[x, y], argTypes := ts }) : execOp ρ o = valOf (Builtin.min_ ts o.type #[ρ x, ρ y]) := by
  rw [ex_call ho]; simp [resolve, invoke, builtin, valOf]
theorem ex_max {x y : Operand} {ts : Array TypeId} (ho : o.op = .call { callee := .builtin .max, args := #[x, y], argTypes := ts }) : execOp ρ o = valOf (Builtin.max_ ts o.type #[ρ x, ρ y]) := by
  rw [ex_call ho]; simp [resolve, invoke, builtin, valOf]
theorem Rep.sl_header {fl : Nat} {e : TypeId} {xs : List PV} {v : Value} {F : List Nat} (h : Rep P w ok (.sl fl e xs) v F) : ∃ b cap, v = .slice b xs.length cap := by
  cases h with
  | slN _ _ => exact ⟨none, 0, rfl⟩
  | slE _ _ _ => exact ⟨_, _, rfl⟩
  | slI _ _ vs b off cap _ _ _ _ _ _ => exact ⟨_, _, rfl⟩
  | slO _ _ vs b off cap _ _ _ _ _ _ _ _ _ _ => exact ⟨_, _, rfl⟩
  | slA _ _ vs b cap _ _ _ _ _ => exact ⟨_, _, rfl⟩
theorem rowOf_rep {c : AV} {v : Value} {p : PV} (hroot : ∀ r p v, RefAt P G w m r p v → ∃ F, Rep P w G.ok p v F) (h : RepA P G w m c v F) (hp : rowOf m c = some p) : ∃ F', Rep P w G.ok p v F' := by
  cases c <;> simp only [rowOf, Option.some.injEq, reduceCtorEq] at hp
  · subst hp; exact ⟨F, h.of_pv⟩
  · obtain ⟨href, _⟩ := h.of_deref hp
    exact hroot _ _ _ href
def slB (P : Program) (t e : TypeId) : Bool := match P.underlying t with
  | some (.slice e') => e == e'
  | _ => false
def strB (P : Program) (t : TypeId) : Bool := match P.underlying t with
  | some .string => true
  | _ => false
theorem slB_iff {t e : TypeId} (h : slB P t e = true) : P.underlying t = some (.slice e) := by
  unfold slB at h
  split at h
  · rename_i e' hu; rw [hu, beq_iff_eq.1 h]
  · cases h
theorem strB_iff {t : TypeId} (h : strB P t = true) : P.underlying t = some .string := by
  unfold strB at h
  split at h
  · assumption
  · cases h
theorem plain_len_sl {t e2 : TypeId} {fl : Nat} {e : TypeId} {xs : List PV} {c : AV} {x : Operand} {x' : Opd} (hroot : ∀ r p v, RefAt P G w m r p v → ∃ F, Rep P w G.ok p v F) (ht : P.underlying t = some (.slice e2)) (ho : o.op = .call { callee := .builtin .len, args := #[x], argTypes := #[t] })
    (hr : RepO P G w m [c] [ρ x] F) (hp : rowOf m c = some (.sl fl e xs)) (hs : semL d m (.len true x') [c] = some (as, m2)) : Plain P G w m m2 F as ((execOp ρ o).run P w) := by
  obtain ⟨v, hv, h1⟩ := hr.inv1
  simp only [List.cons.injEq, and_true] at hv
  simp only [semL, hp, Option.some.injEq, Prod.mk.injEq] at hs
  obtain ⟨rfl, rfl⟩ := hs
  obtain ⟨F', h2⟩ := rowOf_rep hroot h1 hp
  obtain ⟨b, cap, rfl⟩ := h2.sl_header
  rw [ex_len ho, hv]
  exact .imm (run_valOf (by simp [Builtin.len_, run_underlying ht, goInt])) (.int _ _)
theorem plain_len_str {t : TypeId} {s : ByteArray} {x : Operand} {x' : Opd} (ht : P.underlying t = some .string) (ho : o.op = .call { callee := .builtin .len, args := #[x], argTypes := #[t] })
    (hr : RepO P G w m [.pv (.str s)] [ρ x] F) (hs : semL d m (.len false x') [.pv (.str s)] = some (as, m2)) : Plain P G w m m2 F as ((execOp ρ o).run P w) := by
  obtain ⟨v, hv, h1⟩ := hr.inv1
  simp only [List.cons.injEq, and_true] at hv
  simp only [semL, rowOf, Option.some.injEq, Prod.mk.injEq] at hs
  obtain ⟨rfl, rfl⟩ := hs
  have h := h1.of_pv
  cases h
  rw [ex_len ho, hv]
  exact .imm (run_valOf (by simp [Builtin.len_, run_underlying ht, goInt])) (.int _ _)
theorem plain_min2 {k k' : IntKind} {i j : Int} {ts : Array TypeId} {x y : Operand} {x' y' : Opd} (ho : o.op = .call { callee := .builtin .min, args := #[x, y], argTypes := ts })
    (hr : RepO P G w m [.pv (.int k i), .pv (.int k' j)] [ρ x, ρ y] F) (hs : semL d m (.min2 x' y') [.pv (.int k i), .pv (.int k' j)] = some (as, m2)) : Plain P G w m m2 F as ((execOp ρ o).run P w) := by
  obtain ⟨v, v2, F1, F2, hv, rfl, h1, h2⟩ := hr.inv2
  simp only [List.cons.injEq, and_true] at hv
  obtain ⟨e1, e2⟩ := hv
  have h1 := h1.of_pv
  have h2 := h2.of_pv
  cases h1
  cases h2
  simp only [semL] at hs
  split at hs
  · simp only [Option.some.injEq, Prod.mk.injEq] at hs
    obtain ⟨rfl, rfl⟩ := hs
    rw [ex_min ho, e1, e2]
    exact .imm (run_valOf (by simp [Builtin.min_, Builtin.min2])) (.int _ _)
  · cases hs
theorem plain_max2 {k k' : IntKind} {i j : Int} {ts : Array TypeId} {x y : Operand} {x' y' : Opd} (ho : o.op = .call { callee := .builtin .max, args := #[x, y], argTypes := ts })
    (hr : RepO P G w m [.pv (.int k i), .pv (.int k' j)] [ρ x, ρ y] F) (hs : semL d m (.max2 x' y') [.pv (.int k i), .pv (.int k' j)] = some (as, m2)) : Plain P G w m m2 F as ((execOp ρ o).run P w) := by
  obtain ⟨v, v2, F1, F2, hv, rfl, h1, h2⟩ := hr.inv2
  simp only [List.cons.injEq, and_true] at hv
  obtain ⟨e1, e2⟩ := hv
  have h1 := h1.of_pv
  have h2 := h2.of_pv
  cases h1
  cases h2
  simp only [semL] at hs
  split at hs
  · simp only [Option.some.injEq, Prod.mk.injEq] at hs
    obtain ⟨rfl, rfl⟩ := hs
    rw [ex_max ho, e1, e2]
    exact .imm (run_valOf (by simp [Builtin.max_, Builtin.max2])) (.int _ _)
  · cases hs
def boundO (x : Option Operand) (none' : Value) : Operand := x.getD (.const none')
theorem run_sliceAt_slice {t e : TypeId} {x : Value} {lo hi : Option Value} (ht : P.underlying t = some (.slice e)) : (Instr.sliceAt t x lo hi none).run P w = (Instr.slice t x lo hi none).run P w := by
  unfold Instr.sliceAt
  rw [Sem.run_bind, run_underlying ht]
  rfl
theorem run_sliceAt_str {t : TypeId} {x : Value} {lo hi : Option Value} (ht : P.underlying t = some .string) : (Instr.sliceAt t x lo hi none).run P w = (Instr.slice t x lo hi none).run P w := by
  unfold Instr.sliceAt
  rw [Sem.run_bind, run_underlying ht]
  rfl
theorem run_bounds {isSlice : Bool} {len cap l h : Nat} {lo hi : Option Value} (hlo : (∃ k, lo = some (.int k l)) ∨ (lo = none ∧ l = 0)) (hhi : (∃ k, hi = some (.int k h)) ∨ (hi = none ∧ h = len)) (h1 : l ≤ h) (h2 : h ≤ cap) :
    (Instr.sliceBounds isSlice len cap lo hi none).run P w = .ok (l, h, cap) w := by
  have b1 : (0 : Int) ≤ (l : Int) ∧ (l : Int) ≤ (h : Int) := by omega
  have b2 : (0 : Int) ≤ (h : Int) ∧ (h : Int) ≤ (cap : Int) := by omega
  rcases hlo with ⟨k, rfl⟩ | ⟨rfl, rfl⟩ <;> rcases hhi with ⟨k', rfl⟩ | ⟨rfl, rfl⟩ <;>
    simp [Instr.sliceBounds, Instr.sliceBound, asIntOf, b1, b2, h1, h2]
theorem run_slice_sl {t e : TypeId} {a : Option Addr} {len cap l h : Nat} {lo hi : Option Value} (ht : P.underlying t = some (.slice e)) (he : knownB P e = true)
    (hlo : (∃ k, lo = some (.int k l)) ∨ (lo = none ∧ l = 0)) (hhi : (∃ k, hi = some (.int k h)) ∨ (hi = none ∧ h = len)) (h1 : l ≤ h) (h2 : h ≤ cap) :
    (Instr.sliceAt t (.slice a len cap) lo hi none).run P w = .ok (.slice (if cap = l then a else a.map (·.add (l * P.cellsOf e))) (h - l) (cap - l)) w := by
  rw [run_sliceAt_slice ht]
  unfold Instr.slice
  rw [Sem.run_bind, run_underlying ht]
  simp only [Result.andThen_ok, Sem.run_bind, run_bounds hlo hhi h1 h2, run_sizeOf' he, Sem.run_pure]
theorem run_slice_str {t : TypeId} {s : ByteArray} {l h : Nat} {lo hi : Option Value} (ht : P.underlying t = some .string)
    (hlo : (∃ k, lo = some (.int k l)) ∨ (lo = none ∧ l = 0)) (hhi : (∃ k, hi = some (.int k h)) ∨ (hi = none ∧ h = s.size)) (h1 : l ≤ h) (h2 : h ≤ s.size) :
    (Instr.sliceAt t (.string s) lo hi none).run P w = .ok (.string (s.extract l h)) w := by
  rw [run_sliceAt_str ht]
  unfold Instr.slice
  rw [Sem.run_bind, run_underlying ht]
  simp only [Result.andThen_ok, Sem.run_bind, Option.isSome_none, Bool.false_eq_true, if_false, run_bounds hlo hhi h1 h2, Sem.run_pure]
theorem bound_lo {lo : Option Operand} {k : IntKind} {l : Int} {F1 : List Nat} (hρ : ∀ v, ρ (.const v) = v) (hl : 0 ≤ l) (h : Rep P w ok (.int k l) (ρ (lo.getD (.const (.int .i64 0)))) F1) : (∃ k, lo.map ρ = some (.int k (l.toNat : Int))) ∨ (lo.map ρ = none ∧ l.toNat = 0) := by
  cases lo with
  | some x =>
    left
    simp only [Option.getD_some] at h
    generalize hx : ρ x = v at h
    cases h
    exact ⟨k, by rw [Option.map_some, hx, Int.toNat_of_nonneg hl]⟩
  | none =>
    right
    simp only [Option.getD_none, hρ] at h
    cases h
    simp
theorem bound_hi {hi : Option Operand} {k : IntKind} {h : Int} {F1 : List Nat} (hρ : ∀ v, ρ (.const v) = v) (hl : 0 ≤ h) (hr : Rep P w ok (.int k h) (ρ (hi.getD (.const (.pointer none)))) F1) : ∃ k, hi.map ρ = some (.int k (h.toNat : Int)) := by
  cases hi with
  | some x =>
    simp only [Option.getD_some] at hr
    generalize hx : ρ x = v at hr
    cases hr
    exact ⟨k, by rw [Option.map_some, hx, Int.toNat_of_nonneg hl]⟩
  | none =>
    simp only [Option.getD_none, hρ] at hr
    cases hr
def hiB (hi : Option Operand) (o : Opd) : Bool := hi.isNone == o.isNil
theorem plain_slc_str {t : TypeId} {s : ByteArray} {k : IntKind} {l : Int} {h : PV} {x : Operand} {lo hi : Option Operand} {x' lo' hi' : Opd} (hρ : ∀ v, ρ (.const v) = v) (hb : hiB hi hi' = true) (ht : P.underlying t = some .string) (ho : o.op = .slice t x lo hi none)
    (hr : RepO P G w m [.pv (.str s), .pv (.int k l), .pv h] [ρ x, ρ (lo.getD (.const (.int .i64 0))), ρ (hi.getD (.const (.pointer none)))] F) (hs : semL d m (.slc none x' lo' hi') [.pv (.str s), .pv (.int k l), .pv h] = some (as, m2)) : Plain P G w m m2 F as ((execOp ρ o).run P w) := by
  obtain ⟨v, v2, v3, F1, F2, F3, hv, rfl, h1, h2, h3⟩ := hr.inv3
  simp only [List.cons.injEq, and_true] at hv
  obtain ⟨e1, rfl, rfl⟩ := hv
  replace h1 := h1.of_pv
  replace h2 := h2.of_pv
  replace h3 := h3.of_pv
  generalize hx : ρ x = u at e1
  subst e1
  cases h1
  rw [ex_slice ho, hx]
  cases h <;> simp only [semL, reduceCtorEq] at hs
  · rename_i k' h'
    split at hs
    · rename_i hc
      simp only [Option.some.injEq, Prod.mk.injEq] at hs
      obtain ⟨rfl, rfl⟩ := hs
      exact .imm (run_valOf (run_slice_str ht (bound_lo hρ hc.1 h2) (.inl (bound_hi hρ (by omega) h3)) (by omega) (by omega))) (.str _)
    · cases hs
  · split at hs
    · rename_i hc
      simp only [Option.some.injEq, Prod.mk.injEq] at hs
      obtain ⟨rfl, rfl⟩ := hs
      have hn : hi = none := by
        unfold hiB at hb
        rw [hc.1] at hb
        simpa using hb
      subst hn
      exact .imm (run_valOf (run_slice_str ht (bound_lo hρ hc.2.1 h2) (.inr ⟨rfl, rfl⟩) (by omega) (by omega))) (.str _)
    · cases hs
theorem plain_slc_sl {t e2 e : TypeId} {fl : Nat} {xs : List PV} {k : IntKind} {l : Int} {h : PV} {x : Operand} {lo hi : Option Operand} {x' lo' hi' : Opd} (hρ : ∀ v, ρ (.const v) = v) (hb : hiB hi hi' = true) (ht : P.underlying t = some (.slice e)) (he : knownB P e = true) (ho : o.op = .slice t x lo hi none)
    (hr : RepO P G w m [.pv (.sl fl e xs), .pv (.int k l), .pv h] [ρ x, ρ (lo.getD (.const (.int .i64 0))), ρ (hi.getD (.const (.pointer none)))] F) (hs : semL d m (.slc (some e) x' lo' hi') [.pv (.sl fl e xs), .pv (.int k l), .pv h] = some (as, m2)) : Plain P G w m m2 F as ((execOp ρ o).run P w) := by
  obtain ⟨v, v2, v3, F1, F2, F3, hv, rfl, h1, h2, h3⟩ := hr.inv3
  simp only [List.cons.injEq, and_true] at hv
  obtain ⟨e1, rfl, rfl⟩ := hv
  replace h1 := h1.of_pv
  replace h2 := h2.of_pv
  replace h3 := h3.of_pv
  simp only [semL] at hs
  split at hs
  · cases hs
  · rename_i hfl0
    have hfl : fl = 0 := by simpa using hfl0
    subst hfl
    rw [ex_slice ho]
    cases h <;> simp only [reduceCtorEq] at hs
    · rename_i k' h'
      split at hs
      · rename_i hc
        simp only [Option.some.injEq, Prod.mk.injEq] at hs
        obtain ⟨rfl, rfl⟩ := hs
        obtain ⟨a, len, cap, rfl, rfl, hcap, hrep⟩ := h1.sub rfl l.toNat h'.toNat (by omega) (by omega)
        rw [e1]
        exact .imm (run_valOf (run_slice_sl ht he (bound_lo hρ hc.1 h2) (.inl (bound_hi hρ (by omega) h3)) (by omega) (by omega))) hrep
      · cases hs
    · split at hs
      · rename_i hc
        simp only [Option.some.injEq, Prod.mk.injEq] at hs
        obtain ⟨rfl, rfl⟩ := hs
        have hn : hi = none := by
          unfold hiB at hb
          rw [hc.1] at hb
          simpa using hb
        subst hn
        obtain ⟨a, len, cap, rfl, rfl, hcap, hrep⟩ := h1.sub rfl l.toNat xs.length (by omega) (Nat.le_refl _)
        rw [e1]
        rw [List.take_length] at hrep
        exact .imm (run_valOf (run_slice_sl ht he (bound_lo hρ hc.2.1 h2) (.inr ⟨rfl, rfl⟩) (by omega) hcap)) hrep
      · cases hs
theorem plain_cut {t e : TypeId} {c : AV} {k : IntKind} {lo : Option Operand} {x : Operand} {x' : Opd} (hρ : ∀ v, ρ (.const v) = v) (ht : P.underlying t = some (.slice e)) (he : knownB P e = true) (hl : lo = none ∨ ∃ k', lo = some (.const (.int k' 0))) (ho : o.op = .slice t x lo (some (.const (.int k 0))) (some (.const (.int k 0))))
    (hr : RepO P G w m [c] [ρ x] F) (hs : semL d m (.cut e x') [c] = some (as, m2)) : Plain P G w m m2 F as ((execOp ρ o).run P w) := by
  obtain ⟨v, hv, h1⟩ := hr.inv1
  simp only [List.cons.injEq, and_true] at hv
  unfold semL at hs
  split at hs <;> simp only [reduceCtorEq, PO.cut.injEq, List.cons.injEq, and_true, false_and] at *
  rename_i e0 _ fl e' xs he0 hc
  obtain ⟨rfl, rfl⟩ := he0
  subst hc
  split at hs
  · rename_i hc
    obtain ⟨rfl, rfl⟩ := hc
    simp only [Option.some.injEq, Prod.mk.injEq] at hs
    obtain ⟨rfl, rfl⟩ := hs
    replace h1 := h1.of_pv
    obtain ⟨b, cap, rfl⟩ := h1.sl_header
    rw [ex_slice ho, hv]
    refine .imm (v := .slice b 0 0) (run_valOf ?_) ?_
    · simp only [Option.map_some, hρ]
      unfold Instr.sliceAt
      rw [Sem.run_bind, run_underlying ht]
      simp only [Result.andThen_ok]
      unfold Instr.slice
      rw [Sem.run_bind, run_underlying ht]
      rcases hl with rfl | ⟨k', rfl⟩ <;> simp [Sem.run_bind, Instr.sliceBounds, Instr.sliceBound, asIntOf, run_sizeOf' he, Sem.run_pure, hρ]
    · cases b with
      | none => exact .slN 2 _
      | some ad => exact .slE 2 _ ad
  · cases hs
theorem RepO.clo {vs : List Value} (h : RepO P G w m cs vs F) (hc : cs.all (fun a => !ownAV a && !a.isAgg) = true) : F = [] ∧ RepAL P G w m cs vs [] := by
  induction h with
  | nil => exact ⟨rfl, .nil⟩
  | cons c v F cs vs F' h1 h2 ih =>
    simp only [List.all_cons, Bool.and_eq_true, Bool.not_eq_true'] at hc
    obtain ⟨rfl, h3⟩ := ih hc.2
    obtain rfl := h1.own_none hc.1.1
    exact ⟨rfl, .cons c v [] cs vs [] (fun ds e => by subst e; simp [AV.isAgg] at hc) h1 h3⟩
theorem plain_mkf {f : FuncId} {xs : Array Operand} {os : List Opd} (ho : o.op = .makeFunc (.func f) #[] xs) (hr : RepO P G w m cs (xs.toList.map ρ) F) (hs : semL d m (.mkf f os) cs = some (as, m2)) : Plain P G w m m2 F as ((execOp ρ o).run P w) := by
  simp only [semL] at hs
  split at hs
  · rename_i hc
    simp only [Option.some.injEq, Prod.mk.injEq] at hs
    obtain ⟨rfl, rfl⟩ := hs
    obtain ⟨rfl, h1⟩ := hr.clo hc
    rw [ex_makeFunc ho]
    refine .mk (run_valOf (v := .func (.func f) #[] (xs.toList.map ρ).toArray) ?_) (.clo f cs _ h1) List.nodup_nil (by simp)
    simp only [Instr.makeFunc, Array.map_empty, Sem.run_pure]
    congr 2
    apply Array.ext'
    simp
  · cases hs
end
end Go.Proofs.YtdbcnnehfbcldaaDoor.Pv
/- What is read through a place: a box, shared memory, an element of a slice of one's own. No condition. -/
namespace Go.Proofs.YtdbcnnehfbcldaaDoor.Pv
open Go
section
variable {P : Program} {ar : Nat → Nat} {N : Nat} {E : Entry} {G : Gh} {s : St} {a : Act} {w : World} {m m2 : Mem} {F : List Nat} {as cs : List AV} {ρ : Operand → Value} {o : Oper} {d : Nat} {ok : Bool → Nat → Prop}
theorem flatC_get {n : Nat} {xs : List PV} (hu : ∀ x ∈ xs, x.cells.length = n) {i f : Nat} {x c : PV} (hx : xs[i]? = some x) (hc : x.cells[f]? = some c) : (flatC xs)[i * n + f]? = some c := by
  have hf : f < n := by rw [← hu x (List.mem_of_getElem? hx)]; exact (List.getElem?_eq_some_iff.1 hc).1
  have h1 : flatC (xs.drop i) = (flatC xs).drop (i * n) := flatC_drop hu i
  have hi : i < xs.length := (List.getElem?_eq_some_iff.1 hx).1
  have h2 : xs.drop i = x :: xs.drop (i + 1) := by rw [List.drop_eq_getElem_cons hi]; congr 1; exact (List.getElem?_eq_some_iff.1 hx).2
  have h3 : ((flatC xs).drop (i * n))[f]? = some c := by
    rw [← h1, h2]
    have : flatC (x :: xs.drop (i + 1)) = x.cells ++ flatC (xs.drop (i + 1)) := by simp [flatC]
    rw [this, List.getElem?_append_left (by rw [hu x (List.mem_of_getElem? hx)]; exact hf)]
    exact hc
  rw [List.getElem?_drop] at h3
  exact h3
theorem Rep.own_cells {fl : Nat} {e : TypeId} {xs : List PV} {b off n cap : Nat} (hfl : 1 ≤ fl) (hne : xs ≠ []) (h : Rep P w ok (.sl fl e xs) (.slice (some ⟨b, off, none⟩) n cap) F) :
    n = xs.length ∧ (∀ x ∈ xs, x.cells.length = P.cellsOf e) ∧ ∃ arr ty vs F', w.heap[b]? = some (.cells arr ty (0, 0)) ∧ F = b :: F' ∧ RepL P w ok (flatC xs) vs F' ∧ ∀ j v, vs[j]? = some v → arr[off + j]? = some v := by
  cases h with
  | slE _ _ _ => exact absurd rfl hne
  | slI _ _ vs _ _ _ _ _ _ _ _ _ => omega
  | slO _ _ vs _ _ _ arr ty F hr hu hg hc h1 h2 _ => exact ⟨rfl, hu, arr, ty, vs, F, hg, rfl, hr, hc⟩
  | slA _ _ vs _ _ F hr hu ho _ =>
    refine ⟨rfl, hu, ?_⟩
    rcases ho.2 with ⟨hn, _⟩ | ⟨g, c, cur, he, _, hg, h3, h4, h5, h6⟩
    · cases hn
    · simp only [Value.slice.injEq, Option.some.injEq, Addr.mk.injEq, and_true, true_and] at he
      obtain ⟨rfl, rfl⟩ := he
      refine ⟨cur, e, vs, F, hg, rfl, hr, fun j v hj => ?_⟩
      rw [← h6, List.getElem?_take] at hj
      split at hj
      · simpa using hj
      · cases hj
theorem Nest.rep {root : Root} {p0 p : PV} {v0 v : Value} {path : List (Nat × Nat)} (hn : Nest P G root w p0 v0 path p v) : ∀ {F : List Nat}, Rep P w ok p0 v0 F → ∃ F', Rep P w ok p v F' ∧ (∀ b ∈ F', b ∈ F) ∧ (F.Nodup → F'.Nodup) := by
  induction hn with
  | nil p v => exact fun h => ⟨_, h, fun _ h => h, fun h => h⟩
  | cons fl e xs b off n cap i f rest x c p u v h0 h1 h2 hl h3 h4 ih =>
    intro F h
    obtain ⟨_, hu, arr, ty, vs, F', hg, rfl, hr, hc⟩ := h.own_cells h0 (by rintro rfl; simp at h1)
    obtain ⟨u', F2, h5, h6, h7, h8⟩ := hr.get (flatC_get hu h1 h2)
    have : u = u' := by
      have := hc _ _ h5
      simp [World.cell?, hg, this] at h3
      exact h3.symm
    subst this
    obtain ⟨F3, h9, h10, h11⟩ := ih h6
    exact ⟨F3, h9, fun b hb => List.mem_cons_of_mem _ (h7 b (h10 b hb)), fun hnd => h11 (h8 (List.nodup_cons.1 hnd).2)⟩
theorem Sim.root (h : Sim P ar N E G s a w) {r : Ref} {p : PV} {v : Value} (hr : RefAt P G w s.m r p v) : ∃ F, Rep P w G.ok p v F ∧ F.Nodup ∧ ∀ b ∈ F, G.γ b = some (.r r.root) := by
  obtain ⟨_, p0, v0, h1, h2, h3⟩ := hr
  have base : ∃ F, Rep P w G.ok p0 v0 F ∧ F.Nodup ∧ ∀ b ∈ F, G.γ b = some (.r r.root) := by
    cases hq : r.root with
    | v t =>
      rw [hq] at h1 h2
      simp only [Mem.at] at h1
      obtain ⟨F, h4, h5, h6⟩ := h.row t p0 h1
      simp only [Hd] at h2
      subst h2
      exact ⟨F, h4, h5, h6⟩
    | c o n =>
      rw [hq] at h1 h2
      simp only [Mem.at, Mem.cell] at h1
      split at h1
      · rename_i p' hp
        simp only [Option.some.injEq] at h1
        subst h1
        obtain ⟨cs, hcs, hn⟩ := Option.bind_eq_some_iff.1 hp
        obtain ⟨arr, ty, g1, g2, g3, g4⟩ := h.box o cs hcs
        obtain ⟨u, F, g5, g6, g7, g8, _⟩ := g4 n _ hn
        simp only [Hd, World.cell?, g1, Option.isSome_none, Bool.false_eq_true, if_false] at h2
        rw [g5] at h2
        obtain rfl := Option.some.inj h2
        exact ⟨F, g6.of_pv, g7, g8⟩
      · cases h1
  obtain ⟨F, h4, h5, h6⟩ := base
  obtain ⟨F', h7, h8, h9⟩ := h3.rep h4
  exact ⟨F', h7, h9 h5, fun b hb => h6 b (h8 b hb)⟩
theorem Sim.mono (h : Sim P ar N E G s a w) : ∀ b, G.ok false b → G.ok true b := fun b hb => ⟨hb.1, fun hl => by
  rcases hb.2 hl with h1 | h1
  · exact .inl h1
  · exact .inr (h.env.mono b h1)⟩
theorem RepAL.of_get : ∀ {cs : List AV} {vs : List Value}, cs.length = vs.length → (∀ (j : Nat) c v, cs[j]? = some c → vs[j]? = some v → RepA P G w m c v [] ∧ ∀ ds, c ≠ .agg ds) → RepAL P G w m cs vs []
  | [], [], _, _ => .nil
  | c :: cs, v :: vs, hl, h => by
    have h0 := h 0 c v rfl rfl
    have := RepAL.of_get (cs := cs) (vs := vs) (by simpa using hl) (fun j c v h1 h2 => h (j + 1) c v (by simpa using h1) (by simpa using h2))
    have := RepAL.cons c v [] cs vs [] h0.2 h0.1 this
    simpa using this
theorem readCells_get {m : Mem} {o : Nat} : ∀ {cs : List AV} {k j : Nat}, (readCells m o k cs)[j]? = (cs[j]?).map (readCell m o (k + j))
  | [], k, j => by simp [readCells]
  | c :: cs, k, 0 => by simp [readCells]
  | c :: cs, k, j + 1 => by
    simp only [readCells, List.getElem?_cons_succ]
    rw [readCells_get]
    congr 2
    omega
theorem readCells_length {m : Mem} {o : Nat} : ∀ {cs : List AV} {k : Nat}, (readCells m o k cs).length = cs.length
  | [], k => by simp [readCells]
  | c :: cs, k => by simp [readCells, readCells_length (cs := cs)]
theorem elemCells_get {kn i : Nat} {r : Ref} : ∀ {cs : List PV} {k j : Nat}, (elemCells kn r i k cs)[j]? = (cs[j]?).map (elemCell kn r i (k + j))
  | [], k, j => by simp [elemCells]
  | c :: cs, k, 0 => by simp [elemCells]
  | c :: cs, k, j + 1 => by
    simp only [elemCells, List.getElem?_cons_succ]
    rw [elemCells_get]
    congr 2
    omega
theorem elemCells_length {kn i : Nat} {r : Ref} : ∀ {cs : List PV} {k : Nat}, (elemCells kn r i k cs).length = cs.length
  | [], k => by simp [elemCells]
  | c :: cs, k => by simp [elemCells, elemCells_length (cs := cs)]
theorem run_loadVar' {t : TypeId} {b off n : Nat} {g : Bool} {vs : List Value} (ht : knownB P t = true) (hg : aggB P t = g) (hn : P.cellsOf t = n) (hl : vs.length = n) (h1 : g = false → n = 1) (hc : ∀ j v, vs[j]? = some v → w.cell? ⟨b, off + j, none⟩ = some v) :
    (loadVar t ⟨b, off, none⟩).run P w = .ok (if g then .agg vs.toArray else vs.headD undef) w := by
  unfold loadVar
  rw [Sem.run_bind, run_isAgg' ht, hg]
  simp only [Result.andThen_ok]
  cases g
  · simp only [Bool.false_eq_true, if_false]
    have := h1 rfl
    match vs, hl with
    | [v], _ =>
      have := hc 0 v rfl
      simp only [Nat.add_zero] at this
      simp [load, Sem.run, this]
    | [], hl => simp at hl; omega
    | _ :: _ :: _, hl => simp at hl; omega
  · simp only [if_true]
    rw [Sem.run_bind, run_sizeOf' ht, hn]
    simp only [Result.andThen_ok]
    rw [Sem.run_bind, ← hl, run_loadCells_list w ⟨b, off, none⟩ vs (fun j v hj => by rw [addr_add]; exact hc j v hj)]
    simp
theorem one_plain {g : Bool} {ds : List AV} {c : AV} {vs : List Value} {n : Nat} (hl : ds.length = n) (h : RepAL P G w m ds vs []) (hc : one g ds = some c) : RepA P G w m c (if g then .agg vs.toArray else vs.headD undef) [] ∧ (g = false → n = 1) := by
  rcases one_some hc with ⟨rfl, rfl⟩ | ⟨rfl, rfl⟩
  · exact ⟨.agg _ _ _ h, fun h => by cases h⟩
  · generalize hF : ([] : List Nat) = F0 at h
    cases h with
    | cons c v F cs vs F' h0 h1 h2 =>
      cases h2
      have : F = [] := by simpa using hF.symm
      subst this
      exact ⟨h1, fun _ => by simpa using hl.symm⟩
theorem Sim.box_cells (h : Sim P ar N E G s a w) {o c n : Nat} {cs : List AV} (hb : s.m.b o = some cs) (hl : ((cs.drop c).take n).length = n) :
    ∃ vs : List Value, vs.length = n ∧ (∀ j v, vs[j]? = some v → w.cell? ⟨(G.β o).1, (G.β o).2 + c + j, none⟩ = some v) ∧ RepAL P G w s.m (readCells s.m o c ((cs.drop c).take n)) vs [] := by
  obtain ⟨arr, ty, g1, g2, g3, g4⟩ := h.box o cs hb
  have hcn : c + n ≤ cs.length ∨ n = 0 := by rw [List.length_take, List.length_drop] at hl; omega
  have hlen : ((arr.toList.drop ((G.β o).2 + c)).take n).length = n := by rw [List.length_take, List.length_drop, Array.length_toList]; omega
  refine ⟨(arr.toList.drop ((G.β o).2 + c)).take n, hlen, fun j v hj => ?_, RepAL.of_get (by rw [readCells_length, hl, hlen]) (fun j c' v hc hv => ?_)⟩
  · rw [List.getElem?_take, List.getElem?_drop] at hj
    split at hj
    · simpa [World.cell?, g1] using hj
    · cases hj
  · rw [readCells_get] at hc
    obtain ⟨c0, hc0, rfl⟩ := Option.map_eq_some_iff.1 hc
    rw [List.getElem?_take, List.getElem?_drop] at hc0 hv
    split at hc0
    · rename_i hjn
      rw [if_pos hjn] at hv
      obtain ⟨u, F, g5, g6, g7, g8, g9⟩ := g4 (c + j) c0 hc0
      have huv : u = v := by
        have : arr[(G.β o).2 + c + j]? = some v := by simpa using hv
        rw [Nat.add_assoc] at this
        rw [g5] at this
        exact Option.some.inj this
      subst huv
      have hcell : s.m.cell o (c + j) = some c0 := by simp [Mem.cell, hb, hc0]
      by_cases hsl : ∃ fl e xs, c0 = .pv (.sl fl e xs) ∧ fl ≠ 0
      · obtain ⟨fl, e, xs, rfl, hfl⟩ := hsl
        refine ⟨?_, fun ds => by simp [readCell, hfl]⟩
        simp only [readCell, hfl, if_false]
        refine .rw _ (.sl fl e xs) u (g6.of_pv.oneCell (by simp)) ⟨by simp [Ref.valid], .sl fl e xs, u, by simp [Mem.at, hcell], ?_, .nil _ _⟩
        simp [Hd, World.cell?, g1, g5]
      · have hsame : readCell s.m o (c + j) c0 = c0 := by
          unfold readCell
          split
          · rename_i fl e xs
            split
            · rfl
            · rename_i hfl; exact absurd ⟨fl, e, xs, rfl, hfl⟩ hsl
          · rfl
        rw [hsame]
        have hF : F = [] := by
          cases g6 with
          | pv p v F hna hp =>
            refine hp.own_nil ?_ hna
            cases p <;> simp only [ownP, decide_eq_false_iff_not]
            rename_i fl e xs
            intro hfl
            exact hsl ⟨fl, e, xs, rfl, by omega⟩
          | agg cs vs F _ => exact absurd rfl (g9 cs)
          | _ => rfl
        subst hF
        exact ⟨g6, g9⟩
    · cases hc0
end
end Go.Proofs.YtdbcnnehfbcldaaDoor.Pv
/- Loads: through a box, shared memory, an element of a slice of one's own. No condition. -/
namespace Go.Proofs.YtdbcnnehfbcldaaDoor.Pv
open Go
def varB (P : Program) (t : TypeId) (n : Nat) (g : Bool) : Bool := knownB P t && aggB P t == g && P.cellsOf t == n
section
variable {P : Program} {ar : Nat → Nat} {N : Nat} {E : Entry} {G : Gh} {s : St} {a : Act} {w : World} {m2 : Mem} {F : List Nat} {as cs : List AV} {ρ : Operand → Value} {o : Oper} {d : Nat} {ok : Bool → Nat → Prop}
theorem varB_iff {t : TypeId} {n : Nat} {g : Bool} (h : varB P t n g = true) : knownB P t = true ∧ aggB P t = g ∧ P.cellsOf t = n := by
  unfold varB at h
  simp only [Bool.and_eq_true, beq_iff_eq] at h
  exact ⟨h.1.1, h.1.2, h.2⟩
theorem run_load {t : TypeId} {b off n : Nat} {g : Bool} {x : Operand} {vs : List Value} (ht : varB P t n g = true) (ho : o.op = .load t x) (hx : ρ x = .pointer (some ⟨b, off, none⟩)) (hl : vs.length = n) (h1 : g = false → n = 1) (hc : ∀ j v, vs[j]? = some v → w.cell? ⟨b, off + j, none⟩ = some v) :
    (execOp ρ o).run P w = .ok (.value (if g then .agg vs.toArray else vs.headD undef)) w := by
  obtain ⟨k1, k2, k3⟩ := varB_iff ht
  rw [ex_load ho, hx]
  refine run_valOf ?_
  unfold Instr.loadAt
  simp only [Sem.run_bind, Instr.sureAddr, Sem.run_pure, Result.andThen_ok]
  exact run_loadVar' k1 k2 k3 hl h1 hc
theorem plain_load_ptr (h : Sim P ar N E G s a w) {t : TypeId} {n ob k c : Nat} {g : Bool} {x : Operand} {x' : Opd} (ht : varB P t n g = true) (ho : o.op = .load t x) (hr : RepO P G w s.m [.ptr ob k c] [ρ x] F)
    (hs : semL d s.m (.load n g x') [.ptr ob k c] = some (as, m2)) : Plain P G w s.m m2 F as ((execOp ρ o).run P w) := by
  obtain ⟨v, hv, h1⟩ := hr.inv1
  simp only [List.cons.injEq, and_true] at hv
  simp only [semL] at hs
  split at hs
  · rename_i hk
    split at hs
    · rename_i cs hb
      split at hs
      · rename_i hl
        simp only [single, Option.map_eq_some_iff, Prod.mk.injEq] at hs
        obtain ⟨u, hu, rfl, rfl⟩ := hs
        obtain ⟨rfl, rfl⟩ := h1.of_ptr hk
        obtain ⟨vs, hl2, hc, hrep⟩ := h.box_cells hb hl
        obtain ⟨h2, h3⟩ := one_plain (by rw [readCells_length, hl]) hrep hu
        exact .mk (run_load ht ho hv hl2 h3 hc) h2 List.nodup_nil (by simp)
      · cases hs
    · cases hs
  · cases hs
theorem plain_load_ref {m : Mem} {t : TypeId} {n : Nat} {cs : List PV} {g : Bool} {x : Operand} {x' : Opd} (ht : varB P t n g = true) (ho : o.op = .load t x) (hr : RepO P G w m [.pv (.ref cs)] [ρ x] F)
    (hs : semL d m (.load n g x') [.pv (.ref cs)] = some (as, m2)) : Plain P G w m m2 F as ((execOp ρ o).run P w) := by
  obtain ⟨v, hv, h1⟩ := hr.inv1
  simp only [List.cons.injEq, and_true] at hv
  simp only [semL] at hs
  split at hs
  · rename_i hl
    simp only [single, Option.map_eq_some_iff, Prod.mk.injEq] at hs
    obtain ⟨u, hu, rfl, rfl⟩ := hs
    have h := h1.of_pv
    cases h with
    | ref _ vs b off hr2 hb hlt hc =>
      have hrep : RepAL P G w m ((cs.take n).map .pv) (vs.take n) [] := (hr2.take0 n).toA
      obtain ⟨h2, h3⟩ := one_plain (n := n) (by simpa using hl) hrep hu
      have hl2 : (vs.take n).length = n := by rw [← hrep.length, List.length_map]; exact hl
      refine .mk (run_load ht ho hv hl2 h3 (fun j v hj => ?_)) h2 List.nodup_nil (by simp)
      rw [List.getElem?_take] at hj
      split at hj
      · exact hc j v hj
      · cases hj
  · cases hs
theorem Nest.snoc {root : Root} {p0 : PV} {v0 : Value} {path : List (Nat × Nat)} {fl : Nat} {e : TypeId} {xs : List PV} {b off n cap i f : Nat} {x c : PV} {u : Value} (h : Nest P G root w p0 v0 path (.sl fl e xs) (.slice (some ⟨b, off, none⟩) n cap))
    (hfl : 1 ≤ fl) (hx : xs[i]? = some x) (hc : x.cells[f]? = some c) (hb : G.γ b = some (.r root)) (hu : w.cell? ⟨b, off + (i * P.cellsOf e + f), none⟩ = some u) : Nest P G root w p0 v0 (path ++ [(i, f)]) c u := by
  generalize hp : PV.sl fl e xs = p at h
  generalize hv : Value.slice (some ⟨b, off, none⟩) n cap = v at h
  induction h with
  | nil p v => subst hp; subst hv; exact .cons _ _ _ _ _ _ _ _ _ _ _ _ _ _ _ hfl hx hc hb hu (.nil _ _)
  | cons fl' e' xs' b' off' n' cap' i' f' rest x' c' p' u' v' k0 k1 k2 k3 k4 k5 ih => exact .cons _ _ _ _ _ _ _ _ _ _ _ _ _ _ _ k0 k1 k2 k3 k4 (ih hp hv)
theorem plain_load_ept (h : Sim P ar N E G s a w) {t : TypeId} {n i f : Nat} {r : Ref} {g : Bool} {x : Operand} {x' : Opd} (ht : varB P t n g = true) (ho : o.op = .load t x) (hr : RepO P G w s.m [.ept r i f] [ρ x] F)
    (hs : semL d s.m (.load n g x') [.ept r i f] = some (as, m2)) : Plain P G w s.m m2 F as ((execOp ρ o).run P w) := by
  obtain ⟨v, hv, h1⟩ := hr.inv1
  simp only [List.cons.injEq, and_true] at hv
  simp only [semL] at hs
  split at hs
  · rename_i fl e xs hd
    split at hs
    · rename_i z hz
      split at hs
      · rename_i hc
        obtain ⟨hfl, hl⟩ := hc
        simp only [single, Option.map_eq_some_iff, Prod.mk.injEq] at hs
        obtain ⟨u, hu, rfl, rfl⟩ := hs
        obtain ⟨b, off, len, cap, href, hi, rfl, rfl⟩ := h1.of_deref_ept hd
        obtain ⟨F1, hrep, hnd, hlab⟩ := h.root href
        obtain ⟨rfl, huni, arr, ty, vs, F2, hg, rfl, hrl, hcells⟩ := hrep.own_cells hfl (by rintro rfl; simp at hz)
        have hlen : ((vs.drop (i * P.cellsOf e + f)).take n).length = n := by
          have hz2 := huni z (List.mem_of_getElem? hz)
          rw [List.length_take, List.length_drop] at hl ⊢
          have e1 := hrl.length
          rw [flatC_length huni] at e1
          have : (i + 1) * P.cellsOf e ≤ xs.length * P.cellsOf e := Nat.mul_le_mul_right _ (by omega)
          rw [Nat.add_mul, Nat.one_mul] at this
          omega
        have hcell : ∀ j v, ((vs.drop (i * P.cellsOf e + f)).take n)[j]? = some v → w.cell? ⟨b, off + (i * P.cellsOf e + f) + j, none⟩ = some v := fun j v hj => by
          rw [List.getElem?_take, List.getElem?_drop] at hj
          split at hj
          · have := hcells _ v hj
            rw [Nat.add_assoc]
            simp [World.cell?, hg, this]
          · cases hj
        have hal : RepAL P G w s.m (elemCells (s.m.kn r.root) r i f ((z.cells.drop f).take n)) ((vs.drop (i * P.cellsOf e + f)).take n) [] := by
          refine RepAL.of_get (by rw [elemCells_length, hl, hlen]) (fun j c' v hc hvj => ?_)
          rw [elemCells_get] at hc
          obtain ⟨c0, hc0, rfl⟩ := Option.map_eq_some_iff.1 hc
          have hcl := hcell j v hvj
          rw [List.getElem?_take, List.getElem?_drop] at hc0 hvj
          split at hc0
          · rename_i hjn
            rw [if_pos hjn] at hvj
            obtain ⟨u', F3, h5, h6, h7, h8⟩ := hrl.get (flatC_get huni hz hc0)
            have huv : u' = v := by
              rw [show i * P.cellsOf e + f + j = i * P.cellsOf e + (f + j) by omega] at hvj
              rw [h5] at hvj
              exact Option.some.inj hvj
            subst huv
            have hna : ∀ ds, c0 ≠ .agg ds := by
              have hm : c0 ∈ flatC xs := List.mem_of_getElem? (flatC_get huni hz hc0)
              have : ∀ {ps : List PV} {vs : List Value} {F : List Nat}, RepL P w G.ok ps vs F → ∀ c ∈ ps, ∀ ds, c ≠ .agg ds := by
                intro ps vs F hh
                induction ps generalizing vs F with
                | nil => simp
                | cons p ps ih =>
                  cases hh with
                  | cons c v F cs vs F' k0 k1 k2 =>
                    intro c hc
                    rcases List.mem_cons.1 hc with rfl | hc
                    · exact k0
                    · exact ih k2 c hc
              exact this hrl c0 hm
            by_cases hsl : ∃ fl e xs, c0 = .sl fl e xs ∧ fl ≠ 0
            · obtain ⟨fl2, e2, xs2, rfl, hfl2⟩ := hsl
              refine ⟨?_, fun ds => by simp [elemCell, hfl2]⟩
              simp only [elemCell, hfl2, if_false]
              obtain ⟨hval, p0, v0, k1, k2, k3⟩ := href
              refine .rw _ (.sl fl2 e2 xs2) u' (h6.oneCell (by simp)) ⟨?_, p0, v0, k1, k2, ?_⟩
              · simp only [Ref.valid, Bool.and_eq_true, beq_iff_eq] at hval ⊢
                exact ⟨hval.1, by simp⟩
              · refine k3.snoc hfl hz hc0 (hlab b List.mem_cons_self) ?_
                rw [show off + (i * P.cellsOf e + (f + j)) = off + (i * P.cellsOf e + f) + j by omega]
                exact hcl
            · have hsame : elemCell (s.m.kn r.root) r i (f + j) c0 = .pv c0 := by
                unfold elemCell
                split
                · rename_i fl e xs
                  split
                  · rfl
                  · rename_i hfl; exact absurd ⟨fl, e, xs, rfl, hfl⟩ hsl
                · rfl
              rw [hsame]
              have hF : F3 = [] := by
                refine h6.own_nil ?_ hna
                cases c0 <;> simp only [ownP, decide_eq_false_iff_not]
                rename_i fl e xs
                intro hfl
                exact hsl ⟨fl, e, xs, rfl, by omega⟩
              subst hF
              exact ⟨.pv _ _ _ hna h6, by simp⟩
          · cases hc0
        obtain ⟨h2, h3⟩ := one_plain (by rw [elemCells_length, hl]) hal hu
        exact .mk (run_load ht ho hv hlen h3 hcell) h2 List.nodup_nil (by simp)
      · cases hs
    · cases hs
  · cases hs
end
end Go.Proofs.YtdbcnnehfbcldaaDoor.Pv
