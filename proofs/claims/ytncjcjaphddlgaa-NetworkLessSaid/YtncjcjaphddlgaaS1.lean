/-
  The evaluator Sx and its seat table, several parts in one text. No condition beyond those that each theorem names.
-/
import Derived.WalkKit
import Derived.KernelRfl
set_option linter.unusedVariables false
namespace Go.Sx
open Go

/-! ### leaves: functions on numbers and lists that stay as they are in a symbolic run -/
def ltI (x y : Int) : Bool := decide (x < y)
def leI (x y : Int) : Bool := decide (x ≤ y)
def eqI (x y : Int) : Bool := x == y
def neI (x y : Int) : Bool := x != y
def notB (b : Bool) : Bool := !b
def andB (a b : Bool) : Bool := match a with | true => b | false => false
def orB (a b : Bool) : Bool := match a with | true => true | false => b
def impB (a b : Bool) : Bool := match a with | true => b | false => true
def iteB (c p q : Bool) : Bool := match c with | true => p | false => q
def eqB (a d : Bool) : Bool := match d with | true => a | false => notB a
def getI (xs : List Int) (i : Int) : Int := xs.getD i.toNat 0
def getB (xs : List Bool) (i : Int) : Bool := xs.getD i.toNat false
def getL (xs : List (List Int)) (i : Int) : List Int := xs.getD i.toNat []
def getN (xs : List Int) (f : Nat) : Int := xs.getD f 0
def setI (xs : List Int) (i : Int) (v : Int) : List Int := xs.set i.toNat v
def setB (xs : List Bool) (i : Int) (v : Bool) : List Bool := xs.set i.toNat v
def setL (xs : List (List Int)) (i : Int) (v : List Int) : List (List Int) := xs.set i.toNat v
def lenZ {α : Type} (xs : List α) : Int := (xs.length : Int)
def subL {α : Type} (xs : List α) (lo hi : Int) : List α := (xs.drop lo.toNat).take (hi - lo).toNat
def catL {α : Type} (xs ys : List α) : List α := xs ++ ys
def repL {α : Type} (n : Int) (x : α) : List α := List.replicate n.toNat x
def nonE {α : Type} (xs : List α) : Bool := !xs.isEmpty
def andI (k : IntKind) (x y : Int) : Int := k.wrap (Int.ofNat (Nat.land (x % (2 ^ k.bits : Nat)).toNat (y % (2 ^ k.bits : Nat)).toNat))
def xorI (k : IntKind) (x y : Int) : Int := k.wrap (Int.ofNat (Nat.xor (x % (2 ^ k.bits : Nat)).toNat (y % (2 ^ k.bits : Nat)).toNat))
def addI (k : IntKind) (x y : Int) : Int := k.wrap (x + y)
def sbI (k : IntKind) (x y : Int) : Int := k.wrap (x - y)
def mulI (k : IntKind) (x y : Int) : Int := k.wrap (x * y)
def quoI (k : IntKind) (x y : Int) : Int := k.wrap (x.tdiv y)
def plZ (x y : Int) : Int := x + y
def mnZ (x y : Int) : Int := x - y
def remI (x y : Int) : Int := x.tmod y
def cvI (k : IntKind) (x : Int) : Int := k.wrap x
def shrI (k : IntKind) (x y : Int) : Int := x.fdiv (2 ^ (min y.toNat k.bits))
def maxI (x y : Int) : Int := if y > x then y else x
def minI (x y : Int) : Int := if y < x then y else x
def eqLI (xs ys : List Int) : Bool := xs == ys
def byteI (s : ByteArray) (i : Int) : Int := ((s.data.toList.getD i.toNat 0).toNat : Int)
def memZ (i : Int) (xs : List Int) : Bool := xs.contains i
def insZ (i : Int) (xs : List Int) : List Int := i :: xs
def delZ (i : Int) (xs : List Int) : List Int := xs.filter (fun x => x != i)

def asc {α : Type} : List (Nat × α) → Nat → Option α
  | [], _ => none
  | (j, a) :: l, k => bif Nat.beq j k then some a else asc l k
/-- The contents of a row of memory. -/
inductive SC where
  | i1 (xs : List Int)
  | b1 (xs : List Bool)
  | st (w : Nat) (xs : List (List Int))
  | rows (xs : List (List Int))

inductive EK where
  | int
  | bool
  | strc (w : Nat)
  | isl

def EK.wid : EK → Nat
  | .strc w => w
  | _ => 1
def EK.empty : EK → SC
  | .int => .i1 []
  | .bool => .b1 []
  | .strc w => .st w []
  | .isl => .rows []

def SC.wid : SC → Nat
  | .st w _ => w
  | _ => 1
def SC.lenN : SC → Nat
  | .i1 xs => xs.length
  | .b1 xs => xs.length
  | .st _ xs => xs.length
  | .rows xs => xs.length
def SC.len : SC → Int
  | .i1 xs => lenZ xs
  | .b1 xs => lenZ xs
  | .st _ xs => lenZ xs
  | .rows xs => lenZ xs
def SC.sub (lo hi : Int) : SC → SC
  | .i1 xs => .i1 (subL xs lo hi)
  | .b1 xs => .b1 (subL xs lo hi)
  | .st w xs => .st w (subL xs lo hi)
  | .rows xs => .rows (subL xs lo hi)
def SC.ek : SC → EK
  | .i1 _ => .int
  | .b1 _ => .bool
  | .st w _ => .strc w
  | .rows _ => .isl
def EK.same : EK → EK → Bool
  | .int, .int => true
  | .bool, .bool => true
  | .strc w, .strc w' => Nat.beq w w'
  | .isl, .isl => true
  | _, _ => false
def SC.cat : SC → SC → Option SC
  | .i1 xs, .i1 ys => some (.i1 (catL xs ys))
  | .b1 xs, .b1 ys => some (.b1 (catL xs ys))
  | .st w xs, .st w' ys => bif Nat.beq w w' then some (.st w (catL xs ys)) else none
  | .rows xs, .rows ys => some (.rows (catL xs ys))
  | _, _ => none
def SC.ne : SC → Bool
  | .i1 xs => nonE xs
  | .b1 xs => nonE xs
  | .st _ xs => nonE xs
  | .rows xs => nonE xs

inductive AV where
  | int (k : IntKind) (n : Int)
  | bool (b : Bool)
  | c (v : Value)
  | nils
  | agg (cs : List AV)
  | tup (cs : List AV)
  | sl (nk : Option Bool) (d : SC)
  | osl (nk : Option Bool) (d : SC)
  | obx (cs : List AV)
  | own (k : Nat)
  | sub (k w : Nat) (lo hi : Int)
  | ref (k f : Nat)
  | elt (k w : Nat) (i : Int) (f : Nat)
  | adr (d : SC) (i : Int) (f : Nat)
  | snap (cs : List AV) (f : Nat)
  | clo (f : Nat) (cs : List AV)
  | ifc (t : Nat) (v : AV)
  | when (g : Bool) (v : AV)
  | mp (k : Nat)
  | ms (ks : List Int)
  | omp (ks : List Int)
  | junk

inductive Ob where
  | arr (nk : Option Bool) (d : SC)
  | box (cs : List AV)
  | map (ks : List Int)
  | itr (ks : List Int) (cur : Option Int)

structure St where
  sl : List AV
  ob : List (Nat × Ob)
  ok : List Bool

/-! ### slots and objects -/
def sg : List AV → Nat → AV
  | [], _ => .junk
  | a :: _, 0 => a
  | _ :: l, n + 1 => sg l n
def ss : List AV → Nat → AV → List AV
  | [], _, _ => []
  | _ :: l, 0, v => v :: l
  | a :: l, n + 1, v => a :: ss l n v
def og : List (Nat × Ob) → Nat → Option Ob
  | [], _ => none
  | (j, o) :: l, k => bif Nat.beq j k then some o else og l k
def od : List (Nat × Ob) → Nat → List (Nat × Ob)
  | [], _ => []
  | (j, o) :: l, k => bif Nat.beq j k then od l k else (j, o) :: od l k
def op (l : List (Nat × Ob)) (k : Nat) (o : Ob) : List (Nat × Ob) := (k, o) :: od l k
def ops : List (Nat × Ob) → List (Nat × Ob) → List (Nat × Ob)
  | l, [] => l
  | l, (k, o) :: r => ops (op l k o) r
def memN (n : Nat) : List Nat → Bool
  | [] => false
  | m :: l => bif Nat.beq n m then true else memN n l

/-! ### names -/
mutual
/-- the names in a value -/
def AV.nm : AV → List Nat
  | .own k => [k]
  | .sub k _ _ _ => [k]
  | .ref k _ => [k]
  | .elt k _ _ _ => [k]
  | .mp k => [k]
  | .agg cs => AV.nmL cs
  | .tup cs => AV.nmL cs
  | .snap cs _ => AV.nmL cs
  | .clo _ cs => AV.nmL cs
  | .ifc _ v => v.nm
  | .when _ v => v.nm
  | _ => []
def AV.nmL : List AV → List Nat
  | [] => []
  | a :: l => a.nm ++ AV.nmL l
end

mutual
/-- a name's references become junk, or (frozen) what it held -/
def AV.kl (k : Nat) : AV → AV
  | .own j => bif Nat.beq j k then .junk else .own j
  | .sub j w lo hi => bif Nat.beq j k then .junk else .sub j w lo hi
  | .ref j f => bif Nat.beq j k then .junk else .ref j f
  | .elt j w i f => bif Nat.beq j k then .junk else .elt j w i f
  | .mp j => bif Nat.beq j k then .junk else .mp j
  | .agg cs => .agg (AV.klL k cs)
  | .tup cs => .tup (AV.klL k cs)
  | .snap cs f => .snap (AV.klL k cs) f
  | .clo f cs => .clo f (AV.klL k cs)
  | .ifc t v => .ifc t (v.kl k)
  | .when g v => .when g (v.kl k)
  | v => v
def AV.klL (k : Nat) : List AV → List AV
  | [] => []
  | a :: l => a.kl k :: AV.klL k l
end

mutual
def AV.fz (k : Nat) (d : SC) : AV → AV
  | .own j => bif Nat.beq j k then .sl none d else .own j
  | .sub j w lo hi => bif Nat.beq j k then .junk else .sub j w lo hi
  | .elt j w i f => bif Nat.beq j k then .junk else .elt j w i f
  | .ref j f => bif Nat.beq j k then .junk else .ref j f
  | .mp j => bif Nat.beq j k then .junk else .mp j
  | .agg cs => .agg (AV.fzL k d cs)
  | .tup cs => .tup (AV.fzL k d cs)
  | .snap cs f => .snap (AV.fzL k d cs) f
  | .clo f cs => .clo f (AV.fzL k d cs)
  | .ifc t v => .ifc t (v.fz k d)
  | .when g v => .when g (v.fz k d)
  | v => v
def AV.fzL (k : Nat) (d : SC) : List AV → List AV
  | [] => []
  | a :: l => a.fz k d :: AV.fzL k d l
end

def Ob.kl (k : Nat) : Ob → Ob
  | .box cs => .box (AV.klL k cs)
  | o => o
def Ob.fz (k : Nat) (d : SC) : Ob → Ob
  | .box cs => .box (AV.fzL k d cs)
  | o => o
def klO (k : Nat) : List (Nat × Ob) → List (Nat × Ob)
  | [] => []
  | (j, o) :: l => bif Nat.beq j k then klO k l else (j, o.kl k) :: klO k l
def fzO (k : Nat) (d : SC) : List (Nat × Ob) → List (Nat × Ob)
  | [] => []
  | (j, o) :: l => bif Nat.beq j k then fzO k d l else (j, o.fz k d) :: fzO k d l

def St.kill (st : St) (k : Nat) : St := ⟨AV.klL k st.sl, klO k st.ob, st.ok⟩
def St.kills : St → List Nat → St
  | st, [] => st
  | st, k :: ks => (st.kill k).kills ks
/-- freeze an array -/
def St.freeze (st : St) (k : Nat) : Option St :=
  match og st.ob k with
  | some (.arr _ d) => some ⟨AV.fzL k d st.sl, fzO k d st.ob, st.ok⟩
  | _ => none

/-! ### from local values to values at a boundary, and back -/
mutual
/-- read-only, by value -/
def AV.rd (g : Nat → Option Ob) : Nat → AV → Option AV
  | 0, _ => none
  | _ + 1, .own k => match g k with
    | some (.arr nk d) => some (.sl nk d)
    | _ => none
  | _ + 1, .sub k w lo hi => match g k with
    | some (.arr _ d) => bif Nat.beq w d.wid then some (.sl none (d.sub lo hi)) else none
    | _ => none
  | n + 1, .ref k f => match g k with
    | some (.box cs) => match AV.rdL g n cs with
      | some cs' => some (.snap cs' f)
      | none => none
    | _ => none
  | _ + 1, .elt k w i f => match g k with
    | some (.arr _ d) => bif Nat.beq w d.wid then some (.adr d i f) else none
    | _ => none
  | n + 1, .agg cs => match AV.rdL g n cs with
    | some cs' => some (.agg cs')
    | none => none
  | n + 1, .tup cs => match AV.rdL g n cs with
    | some cs' => some (.tup cs')
    | none => none
  | n + 1, .clo f cs => match AV.rdL g n cs with
    | some cs' => some (.clo f cs')
    | none => none
  | n + 1, .ifc t v => match AV.rd g n v with
    | some v' => some (.ifc t v')
    | none => none
  | n + 1, .snap cs f => match AV.rdL g n cs with
    | some cs' => some (.snap cs' f)
    | none => none
  | _ + 1, .int k n => some (.int k n)
  | _ + 1, .bool b => some (.bool b)
  | _ + 1, .c u => some (.c u)
  | _ + 1, .nils => some .nils
  | _ + 1, .sl nk d => some (.sl nk d)
  | _ + 1, .adr d i f => some (.adr d i f)
  | _ + 1, .mp k => match g k with
    | some (.map ks) => some (.ms ks)
    | _ => none
  | _ + 1, .ms ks => some (.ms ks)
  | _ + 1, _ => none
def AV.rdL (g : Nat → Option Ob) : Nat → List AV → Option (List AV)
  | 0, _ => none
  | _ + 1, [] => some []
  | n + 1, a :: l => match AV.rd g n a with
    | none => none
    | some a' => match AV.rdL g n l with
      | none => none
      | some l' => some (a' :: l')
end

/-- the cells of an owned box, by value -/
def exCells (g : Nat → Option Ob) : List AV → Option (List AV × List Nat)
  | [] => some ([], [])
  | a :: l => match exCells g l with
    | none => none
    | some (l', ks) => match a with
      | .own k => match g k with
        | some (.arr nk d) => some (.osl nk d :: l', k :: ks)
        | _ => none
      | .sub k w (.ofNat 0) hi => match g k with
        | some (.arr nk d) => bif Nat.beq w d.wid then some (.osl nk (d.sub 0 hi) :: l', k :: ks) else none
        | _ => none
      | .int k n => some (.int k n :: l', ks)
      | .bool b => some (.bool b :: l', ks)
      | .nils => some (.nils :: l', ks)
      | .sl nk d => some (.sl nk d :: l', ks)
      | _ => none

/-- an owned argument, by value, and the names that it takes along -/
def AV.ex (g : Nat → Option Ob) : AV → Option (AV × List Nat)
  | .own k => match g k with
    | some (.arr nk d) => some (.osl nk d, [k])
    | _ => none
  | .ref k 0 => match g k with
    | some (.box cs) => match exCells g cs with
      | some (cs', ks) => some (.obx cs', ks ++ [k])
      | none => none
    | _ => none
  | .ifc t (.ref k 0) => match g k with
    | some (.box cs) => match exCells g cs with
      | some (cs', ks) => some (.ifc t (.obx cs'), ks ++ [k])
      | none => none
    | _ => none
  | _ => none

def adCells (nm f : Nat) : List AV → List AV × List (Nat × Ob)
  | [] => ([], [])
  | a :: l => match adCells nm (f + 1) l with
    | (l', obs) => match a with
      | .osl nk d => (.own (1000 * (f + 1) + nm) :: l', (1000 * (f + 1) + nm, .arr nk d) :: obs)
      | v => (v :: l', obs)

/-- what came over a boundary gets names -/
def AV.ad (nm : Nat) : AV → AV × List (Nat × Ob)
  | .osl nk d => (.own nm, [(nm, .arr nk d)])
  | .obx cs => match adCells nm 0 cs with
    | (cs', obs) => (.ref nm 0, obs ++ [(nm, .box cs')])
  | .ifc t (.obx cs) => match adCells nm 0 cs with
    | (cs', obs) => (.ifc t (.ref nm 0), obs ++ [(nm, .box cs')])
  | .agg cs => match adCells nm 0 cs with
    | (cs', obs) => (.agg cs', obs)
  | v => (v, [])

/-- the parts of a tuple -/
def adL (nm j : Nat) : List AV → List AV × List (Nat × Ob)
  | [] => ([], [])
  | a :: l => match adL nm (j + 1) l with
    | (l', obs) => match a.ad (100000 * (j + 1) + nm) with
      | (a', o') => (a' :: l', o' ++ obs)
def AV.adT (nm : Nat) : AV → AV × List (Nat × Ob)
  | .tup cs => match adL nm 0 cs with
    | (cs', obs) => (.tup cs', obs)
  | v => v.ad nm

/-- no pointer to memory that is read alone -/
def SC.ind : SC → Bool
  | .rows _ => false
  | _ => true
mutual
def AV.ind : AV → Bool
  | .int _ _ => true
  | .bool _ => true
  | .nils => true
  | .junk => true
  | .osl _ d => d.ind
  | .obx cs => AV.indL cs
  | .agg cs => AV.indL cs
  | .tup cs => AV.indL cs
  | .ifc _ v => v.ind
  | _ => false
def AV.indL : List AV → Bool
  | [] => true
  | a :: l => andB a.ind (AV.indL l)
end

/-- What a function answers: what it asks, its result, what its owned arguments hold behind it (junk: nothing is said). -/
structure Res where
  obl : List Bool
  val : AV
  outs : List AV

abbrev Fns := Nat → List AV → Option Res

structure Ctx where
  sk : Nat → Option EK                 -- a slice type's elements
  vs : Nat → Option (Bool × Nat)       -- a type's variables: a struct or array?, its cells
  fo : Nat → Nat → Option Nat          -- a field's offset
  zr : Nat → Option (List AV)          -- a zero value's cells
  zk : Nat → List (Option EK)          -- the slices among them
  ik : Nat → Option IntKind
  al : Nat → Option Nat                -- an array type of one-cell elements: its length
  bd : Nat → Option Nat                -- a struct type of one-cell fields: their number
  mt : Nat → String → Option (Nat × Bool)   -- a method: its function, is the receiver the pointer?
  mu : Nat → List Nat                  -- the places of a function's owned arguments
  co : Nat → List Nat                  -- those among them that are used up
  str : Nat → Bool                     -- a type of strings
  blt : Nat → Bool                     -- a type of bools
  mpt : Nat → Bool                     -- a type of maps from int to bool
  es : Nat → Option Nat      -- a struct type of numbers alone, for ==: how many
  fs : List Nat                        -- the functions that may be called

end Go.Sx

set_option linter.unusedVariables false
namespace Go.Sx
open Go

structure Up where
  val : AV
  put : List (Nat × Ob)
  kil : List Nat
  frz : List Nat
  obl : List Bool

/-- An answer that makes and turns nothing. -/
def up0 (v : AV) (obl : List Bool) : Option Up := some ⟨v, [], [], [], obl⟩

def setN (w : Nat) (x : List Int) (f : Nat) (v : Int) : List Int := (List.range w).map fun g => if g = f then v else x.getD g 0
def intsOf (x : List Int) : Nat → Nat → List AV
  | _, 0 => []
  | j, n + 1 => .int .i64 (getN x j) :: intsOf x (j + 1) n

def intA : AV → Option Int
  | .int .i64 n => some n
  | _ => none
def intsA : List AV → Option (List Int)
  | [] => some []
  | a :: l => match intA a with
    | none => none
    | some n => match intsA l with
      | none => none
      | some ns => some (n :: ns)
def boolsA : List AV → Option (List Bool)
  | [] => some []
  | .bool b :: l => match boolsA l with
    | none => none
    | some bs => some (b :: bs)
  | _ :: _ => none
def aggA (w : Nat) : AV → Option (List Int)
  | .agg cs => bif Nat.beq cs.length w then intsA cs else none
  | _ => none
def aggsA (w : Nat) : List AV → Option (List (List Int))
  | [] => some []
  | a :: l => match aggA w a with
    | none => none
    | some x => match aggsA w l with
      | none => none
      | some xs => some (x :: xs)
/-- an []int as an element of a slice of slices: what it holds, what must be frozen -/
def rowA (g : Nat → Option Ob) : AV → Option (List Int × List Nat)
  | .sl _ (.i1 xs) => some (xs, [])
  | .nils => some ([], [])
  | .own k => match g k with
    | some (.arr _ (.i1 xs)) => some (xs, [k])
    | _ => none
  | _ => none
def rowsA (g : Nat → Option Ob) : List AV → Option (List (List Int) × List Nat)
  | [] => some ([], [])
  | a :: l => match rowA g a with
    | none => none
    | some (x, ks) => match rowsA g l with
      | none => none
      | some (xs, js) => some (x :: xs, ks ++ js)
/-- a literal's elements -/
def elemsA (g : Nat → Option Ob) (ek : EK) (vs : List AV) : Option (SC × List Nat) :=
  match ek with
  | .int => match intsA vs with | some xs => some (.i1 xs, []) | none => none
  | .bool => match boolsA vs with | some xs => some (.b1 xs, []) | none => none
  | .strc w => match aggsA w vs with | some xs => some (.st w xs, []) | none => none
  | .isl => match rowsA g vs with | some (xs, ks) => some (.rows xs, ks) | none => none

def loadSC (d : SC) (i : Int) (f : Nat) (ag : Bool) (n : Nat) : Option AV :=
  match d with
  | .i1 xs => match ag, f with | false, 0 => some (.int .i64 (getI xs i)) | _, _ => none
  | .b1 xs => match ag, f with | false, 0 => some (.bool (getB xs i)) | _, _ => none
  | .rows xs => match ag, f with | false, 0 => some (.sl none (.i1 (getL xs i))) | _, _ => none
  | .st w xs => match ag with
    | false => bif Nat.blt f w then some (.int .i64 (getN (getL xs i) f)) else none
    | true => match f with
      | 0 => bif Nat.beq n w then some (.agg (intsOf (getL xs i) 0 n)) else none
      | _ => none
def storeSC (g : Nat → Option Ob) (d : SC) (i : Int) (f : Nat) (v : AV) : Option (SC × List Nat) :=
  match d with
  | .i1 xs => match f, v with | 0, .int .i64 n => some (.i1 (setI xs i n), []) | _, _ => none
  | .b1 xs => match f, v with | 0, .bool b => some (.b1 (setB xs i b), []) | _, _ => none
  | .rows xs => match f with
    | 0 => match rowA g v with | some (x, ks) => some (.rows (setL xs i x), ks) | none => none
    | _ => none
  | .st w xs => match v with
    | .int .i64 n => bif Nat.blt f w then some (.st w (setL xs i (setN w (getL xs i) f n)), []) else none
    | .agg cs => match f, aggA w v with | 0, some x => some (.st w (setL xs i x), []) | _, _ => none
    | _ => none
/-- cells f, f + 1, .. of a box -/
def boxGet (cs : List AV) : Nat → Nat → List AV
  | _, 0 => []
  | f, n + 1 => sg cs f :: boxGet cs (f + 1) n
def boxSet (cs : List AV) : Nat → List AV → List AV
  | _, [] => cs
  | f, v :: vs => boxSet (ss cs f v) (f + 1) vs
def oneV : Value → Bool
  | .agg _ => false
  | .tuple _ => false
  | _ => true
def AV.one : AV → Bool
  | .c u => oneV u
  | .agg _ => false
  | .tup _ => false
  | .osl _ _ => false
  | .obx _ => false
  | .omp _ => false
  | .when _ _ => false
  | .junk => false
  | _ => true
def allOne : List AV → Bool
  | [] => true
  | v :: vs => andB v.one (allOne vs)
def loadBox (cs : List AV) (f : Nat) (ag : Bool) (n : Nat) : Option AV :=
  match ag with
  | true => bif Nat.ble (f + n) cs.length then some (.agg (boxGet cs f n)) else none
  | false => bif Nat.blt f cs.length then some (sg cs f) else none
def storeBox (cs : List AV) (f : Nat) (ag : Bool) (n : Nat) (v : AV) : Option (List AV) :=
  match ag, v with
  | true, .agg vs => bif andB (allOne vs) (andB (Nat.beq vs.length n) (Nat.ble (f + n) cs.length)) then some (boxSet cs f vs) else none
  | false, v => bif andB v.one (Nat.blt f cs.length) then some (ss cs f v) else none
  | _, _ => none

def sameK : IntKind → IntKind → Bool
  | .i64, .i64 => true
  | .u64, .u64 => true
  | .u32, .u32 => true
  | .u8, .u8 => true
  | _, _ => false

def nilN : Option Bool → SC → Option (Bool × List Bool)
  | some b, _ => some (notB b, [])
  | none, d => some (false, [d.ne])

def binI (op : BinOp) (k k' : IntKind) (m n : Int) : Option (AV × List Bool) :=
  match op with
  | .shr => some (.int k (shrI k m n), [leI 0 n])
  | .add => bif sameK k k' then some (.int k (addI k m n), []) else none
  | .and => bif sameK k k' then some (.int k (andI k m n), []) else none
  | .xor => bif sameK k k' then some (.int k (xorI k m n), []) else none
  | .sub => bif sameK k k' then some (.int k (sbI k m n), []) else none
  | .mul => bif sameK k k' then some (.int k (mulI k m n), []) else none
  | .quo => bif sameK k k' then some (.int k (quoI k m n), [neI n 0]) else none
  | .rem => bif sameK k k' then some (.int k (remI m n), [neI n 0]) else none
  | .eql => bif sameK k k' then some (.bool (eqI m n), []) else none
  | .neq => bif sameK k k' then some (.bool (neI m n), []) else none
  | .lss => bif sameK k k' then some (.bool (ltI m n), []) else none
  | .leq => bif sameK k k' then some (.bool (leI m n), []) else none
  | .gtr => bif sameK k k' then some (.bool (ltI n m), []) else none
  | .geq => bif sameK k k' then some (.bool (leI n m), []) else none
  | _ => none
def nilB (op : BinOp) (r : Bool) (o : List Bool) : Option (AV × List Bool) :=
  match op with
  | .eql => some (.bool r, o)
  | .neq => some (.bool (notB r), o)
  | _ => none
/-- is it nil? -/
def nilA (g : Nat → Option Ob) : AV → Option (Bool × List Bool)
  | .nils => some (true, [])
  | .own k => match g k with
    | some (.arr nk d) => nilN nk d
    | _ => none
  | .sl nk d => nilN nk d
  | _ => none
def binA (cx : Ctx) (g : Nat → Option Ob) (op : BinOp) (t : Nat) (a b : AV) : Option (AV × List Bool) :=
  match b with
  | .int k' n => match a with
    | .int k m => binI op k k' m n
    | _ => none
  | .bool y => match a with
    | .bool x => bif cx.blt t then nilB op (eqB x y) [] else none
    | _ => none
  | .nils => match cx.sk t, nilA g a with
    | some _, some (r, o) => nilB op r o
    | _, _ => none
  | .agg ds => match a with
    | .agg cs => match cx.es t, intsA cs, intsA ds with
      | some n, some xs, some ys => bif andB (Nat.beq xs.length n) (Nat.beq ys.length n) then nilB op (eqLI xs ys) [] else none
      | _, _, _ => none
    | _ => none
  | _ => none

/-- an array's view: the object or the rows, the first and the last place -/
def lenA (g : Nat → Option Ob) : AV → Option Int
  | .nils => some 0
  | .sl _ d => some d.len
  | .own k => match g k with
    | some (.arr _ d) => some d.len
    | _ => none
  | .sub _ _ lo hi => some (hi - lo)
  | _ => none
/-- what a slice holds -/
def contA (g : Nat → Option Ob) (ek : EK) : AV → Option SC
  | .nils => some ek.empty
  | .sl _ d => some d
  | .own k => match g k with
    | some (.arr _ d) => some d
    | _ => none
  | .sub k w lo hi => match g k with
    | some (.arr _ d) => bif Nat.beq w d.wid then some (d.sub lo hi) else none
    | _ => none
  | _ => none

def indexA (g : Nat → Option Ob) (ek : EK) (x : AV) (i : Int) : Option (AV × List Bool) :=
  match x with
  | .own k => match g k with
    | some (.arr _ d) => bif ek.same d.ek then some (.elt k d.wid i 0, [leI 0 i, ltI i d.len]) else none
    | _ => none
  | .sl _ d => bif ek.same d.ek then some (.adr d i 0, [leI 0 i, ltI i d.len]) else none
  | .sub k w lo hi => bif Nat.beq ek.wid w then some (.elt k w (lo + i) 0, [leI 0 i, ltI i (hi - lo)]) else none
  | _ => none
def fieldA (x : AV) (off : Nat) : Option AV :=
  match x with
  | .ref k f => some (.ref k (f + off))
  | .elt k w i f => some (.elt k w i (f + off))
  | .adr d i f => some (.adr d i (f + off))
  | .snap cs f => some (.snap cs (f + off))
  | _ => none

/-- x[lo:hi] -/
def sliceA (g : Nat → Option Ob) (ek : EK) (x : AV) (lo : Int) (hi : Option Int) : Option (AV × List Bool) :=
  match x with
  | .nils => match hi with
    | none => some (.nils, [eqI lo 0])
    | some h => some (.nils, [eqI lo 0, eqI h 0])
  | .sl _ d => bif ek.same d.ek then (match hi with
    | none => some (.sl none (d.sub lo d.len), [leI 0 lo, leI lo d.len])
    | some h => some (.sl none (d.sub lo h), [leI 0 lo, leI lo h, leI h d.len])) else none
  | .own k => match g k with
    | some (.arr _ d) => bif ek.same d.ek then (match hi with
      | none => some (.sub k d.wid lo d.len, [leI 0 lo, leI lo d.len])
      | some h => some (.sub k d.wid lo h, [leI 0 lo, leI lo h, leI h d.len])) else none
    | _ => none
  | .sub k w l h => match g k with
    | some (.arr _ d) => bif andB (ek.same d.ek) (Nat.beq w d.wid) then (match hi with
      | none => some (.sub k w (l + lo) h, [leI 0 lo, leI lo (h - l)])
      | some h' => some (.sub k w (l + lo) (l + h'), [leI 0 lo, leI lo h', leI (l + h') d.len])) else none
    | _ => none
  | _ => none

def nkCat : Option Bool → Bool → Option Bool
  | some b, ne => some (iteB ne true b)
  | none, _ => none
def roomy (d : SC) : Bool := leI d.len 1000000000
def appendA (g : Nat → Option Ob) (ek : EK) (dst : Nat) (s x : AV) : Option Up :=
  match contA g ek x with
  | none => none
  | some dx =>
    bif ek.same dx.ek then (match s with
      | .nils => some ⟨.own dst, [(dst, .arr (some dx.ne) dx)], [dst], [], [roomy dx]⟩
      | .own k => match g k with
        | some (.arr nk d) => bif ek.same d.ek then (match d.cat dx with
          | some d' => some ⟨.own k, [(k, .arr (nkCat nk dx.ne) d')], [k], [], [roomy d']⟩
          | none => none) else none
        | _ => none
      | .sub k w lo hi => match g k, x with
        | some (.arr nk d), .sub k' w' lo' hi' => bif andB (ek.same d.ek) (andB (Nat.beq k k') (andB (Nat.beq w d.wid) (Nat.beq w' d.wid))) then
            (match (d.sub 0 hi).cat dx with
            | some d1 => match d1.cat (d.sub (hi + (hi' - lo')) d.len) with
              | some d2 => some ⟨.sub k w 0 (hi + (hi' - lo')), [(k, .arr nk d2)], [], [], [eqI lo 0, leI (hi + (hi' - lo')) d.len]⟩
              | none => none
            | none => none) else none
        | _, _ => none
      | _ => none) else none
def zeroOf : EK → Int → Option SC
  | .int, n => some (.i1 (repL n 0))
  | .bool, n => some (.b1 (repL n false))
  | .isl, n => some (.rows (repL n []))
  | .strc _, _ => none
def cpyL {α : Type} (xs : List α) (lo : Int) (ys : List α) : List α := xs.take lo.toNat ++ ys ++ xs.drop (lo.toNat + ys.length)
/-- copy of numbers alone -/
def copyA (g : Nat → Option Ob) (x y : AV) : Option Up :=
  match x, contA g .int y with
  | .own k, some (.i1 ys) => match g k with
    | some (.arr nk (.i1 xs)) => some ⟨.int .i64 (minI (lenZ ys) (lenZ xs)), [(k, .arr nk (.i1 (cpyL xs 0 (subL ys 0 (minI (lenZ ys) (lenZ xs))))))], [], [], []⟩
    | _ => none
  | .sub k w lo hi, some (.i1 ys) => match g k with
    | some (.arr nk (.i1 xs)) => bif Nat.beq w 1 then some ⟨.int .i64 (minI (lenZ ys) (hi - lo)), [(k, .arr nk (.i1 (cpyL xs lo (subL ys 0 (minI (lenZ ys) (hi - lo))))))], [], [], []⟩ else none
    | _ => none
  | _, _ => none
def zerL {α : Type} (xs : List α) (lo hi : Int) (z : α) : List α := cpyL xs lo (List.replicate (hi - lo).toNat z)
def clearA (g : Nat → Option Ob) (ek : EK) (x : AV) : Option Up :=
  match x with
  | .sub k w lo hi => match g k with
    | some (.arr nk (.i1 xs)) => bif andB (ek.same .int) (Nat.beq w 1) then some ⟨.junk, [(k, .arr nk (.i1 (zerL xs lo hi 0)))], [], [], []⟩ else none
    | some (.arr nk (.st w' xs)) => bif andB (ek.same (.strc w')) (Nat.beq w w') then some ⟨.junk, [(k, .arr nk (.st w' (zerL xs lo hi [])))], [], [], []⟩ else none
    | _ => none
  | _ => none

/-! ### calls -/
/-- the names that the owned arguments take along -/
def ownK (mu : List Nat) (g : Nat → Option Ob) : Nat → List AV → Option (List Nat)
  | _, [] => some []
  | i, a :: l => match ownK mu g (i + 1) l with
    | none => none
    | some ks => bif memN i mu then (match a.ex g with
        | some (_, k) => some (k ++ ks)
        | none => none) else some ks
/-- the arguments by value; what is read alone must not be owned -/
def bargs (mu : List Nat) (g gr : Nat → Option Ob) : Nat → List AV → Option (List AV)
  | _, [] => some []
  | i, a :: l => match bargs mu g gr (i + 1) l with
    | none => none
    | some bs => bif memN i mu then (match a.ex g with
        | some (b, _) => some (b :: bs)
        | none => none) else (match a.rd gr 40 with
        | some b => some (b :: bs)
        | none => none)
def refN (mu : List Nat) : Nat → List AV → List Nat
  | _, [] => []
  | i, a :: l => (bif memN i mu then [] else a.nm) ++ refN mu (i + 1) l
def nodupN : List Nat → Bool
  | [] => true
  | n :: l => bif memN n l then false else nodupN l
def apartN : List Nat → List Nat → Bool
  | [], _ => true
  | n :: l, m => bif memN n m then false else apartN l m
def emptyN : List Nat → Bool
  | [] => true
  | _ => false
def namesO : List (Nat × Ob) → List Nat
  | [] => []
  | (k, _) :: l => k :: namesO l
def without (g : Nat → Option Ob) (ks : List Nat) : Nat → Option Ob := fun k => bif memN k ks then none else g k
/-- what an owned argument holds behind the call: laid back, under its own name -/
def backA (a o : AV) : Option (List (Nat × Ob) × List Nat) :=
  match a, o with
  | .own k, .osl nk d => some ([(k, .arr nk d)], [])
  | .own k, .junk => some ([], [k])
  | .ref k 0, .obx cs => match adCells k 0 cs with
    | (cs', obs) => some (obs ++ [(k, .box cs')], namesO obs)
  | .ifc _ (.ref k 0), .ifc _ (.obx cs) => match adCells k 0 cs with
    | (cs', obs) => some (obs ++ [(k, .box cs')], namesO obs)
  | _, _ => none
def backL (mu : List Nat) : Nat → List AV → List AV → Option (List (Nat × Ob) × List Nat)
  | _, [], [] => some ([], [])
  | i, a :: l, o :: m => match backL mu (i + 1) l m with
    | none => none
    | some (ps, ks) => bif memN i mu then (match backA a o with
        | some (p, k) => some (p ++ ps, k ++ ks)
        | none => none) else some (ps, ks)
  | _, _, _ => none
/-- the names nested in owned boxes: what stands in slots for them is out of date behind the call -/
def nestedA (g : Nat → Option Ob) : AV → List Nat
  | .ref k 0 => match g k with
    | some (.box cs) => AV.nmL cs
    | _ => []
  | .ifc _ (.ref k 0) => match g k with
    | some (.box cs) => AV.nmL cs
    | _ => []
  | _ => []
def nestedL (mu : List Nat) (g : Nat → Option Ob) : Nat → List AV → List Nat
  | _, [] => []
  | i, a :: l => (bif memN i mu then nestedA g a else []) ++ nestedL mu g (i + 1) l
/-- an owned result that is not to be written any more -/
def AV.rdO : AV → Option AV
  | .osl nk d => some (.sl nk d)
  | .obx _ => none
  | .omp _ => none
  | .tup _ => none
  | .agg _ => none
  | .ifc _ _ => none
  | v => some v

def callA (cx : Ctx) (F : Fns) (g : Nat → Option Ob) (gd : Bool) (dst : Option Nat) (f : Nat) (args : List AV) : Option Up :=
  bif memN f cx.fs then
    (match ownK (cx.mu f) g 0 args with
    | none => none
    | some ks => bif nodupN ks then (match bargs (cx.mu f) g (without g ks) 0 args with
      | none => none
      | some bs => match F f bs with
        | none => none
        | some r => bif orB (andB (emptyN ks) (emptyN (refN (cx.mu f) 0 args))) (andB r.val.ind (AV.indL r.outs)) then
            (match gd with
            | true => bif emptyN ks then (match r.val.rdO with
              | some v => some ⟨v, [], [], [], r.obl⟩
              | none => none) else none
            | false => match backL (cx.mu f) 0 args r.outs with
              | none => none
              | some (qs, js) => match dst with
                | some d => match r.val.adT d with
                  | (v, ps) => bif nodupN (namesO (ps ++ qs)) then
                      some ⟨v, ps ++ qs, namesO ps ++ (nestedL (cx.mu f) g 0 args ++ js), [], r.obl⟩ else none
                | none => bif nodupN (namesO qs) then some ⟨.junk, qs, nestedL (cx.mu f) g 0 args ++ js, [], r.obl⟩ else none)
          else none) else none)
  else none

end Go.Sx

set_option linter.unusedVariables false
namespace Go.Sx
open Go

/-! ### operands -/
def constA : Value → AV
  | .int k n => .int k n
  | .bool b => .bool b
  | .slice none 0 0 => .nils
  | .map none => .ms []
  | v => .c v
/-- an operand's value and the condition under which it holds -/
def fetch (sl : List AV) : Operand → Option (AV × Bool)
  | .tmp t => match sg sl t with
    | .when g v => some (v, g)
    | .junk => none
    | v => some (v, true)
  | .const v => some (constA v, true)
  | .func f => some (.clo f [], true)
  | .global _ => none
def fetchL (sl : List AV) : List Operand → Option (List (AV × Bool))
  | [] => some []
  | x :: l => match fetch sl x with
    | none => none
    | some p => match fetchL sl l with
      | none => none
      | some ps => some (p :: ps)
def oneO : Option Operand → List Operand
  | some x => [x]
  | none => []
def snds {α β : Type} : List (α × β) → List β
  | [] => []
  | (_, b) :: l => b :: snds l
def fsts {α β : Type} : List (α × β) → List α
  | [] => []
  | (a, _) :: l => a :: fsts l
def opnds : Op → Option (List Operand)
  | .move x => some [x]
  | .assign x => some [x]
  | .pick c a b => some [c, a, b]
  | .alloc _ => some []
  | .box _ x => some [x]
  | .build _ ps => some (snds ps.toList)
  | .buildSlice _ _ ps => some (snds ps.toList)
  | .load _ a => some [a]
  | .store _ a v => some [a, v]
  | .nilCheck x => some [x]
  | .binOp _ _ x y _ => some [x, y]
  | .unOp _ _ x => some [x]
  | .convert _ _ x => some [x]
  | .makeInterface _ x => some [x]
  | .makeFunc _ _ cs => some cs.toList
  | .makeSlice _ l c => some [l, c]
  | .slice _ x lo hi mx => some (x :: (oneO lo ++ (oneO hi ++ oneO mx)))
  | .fieldAddr _ x _ => some [x]
  | .indexAddr _ x i => some [x, i]
  | .index _ x i => some [x, i]
  | .typeAssert x _ _ _ => some [x]
  | .makeMap _ none => some []
  | .mapUpdate _ m k v => some [m, k, v]
  | .insert _ m k v => some [m, k, v]
  | .lookup _ x i _ => some [x, i]
  | .range _ x => some [x]
  | .entry x => some [x]
  | .extract x _ => some [x]
  | .call c => match c.callee with
    | .value f => some (f :: c.args.toList)
    | .invoke r _ => some (r :: c.args.toList)
    | .builtin _ => some c.args.toList
  | _ => none

/-- a literal's parts are its places in order -/
def placed (l : List (Nat × Operand)) (i : Nat) : Bool :=
  match l with
  | [] => true
  | (j, _) :: l => bif Nat.beq i j then placed l (i + 1) else false
def fillA (zs : List AV) : List (Nat × Operand) → List AV → Option (List AV)
  | [], [] => some zs
  | (j, _) :: l, v :: vs => bif andB v.one (Nat.blt j zs.length) then fillA (ss zs j v) l vs else none
  | _, _ => none
def zeroBox (d : Nat) (f : Nat) : List (Option EK) → List AV → List AV × List (Nat × Ob)
  | some ek :: es, .nils :: l => match zeroBox d (f + 1) es l with
    | (l', obs) => (.own (1000 * (f + 1) + d) :: l', (1000 * (f + 1) + d, .arr (some false) ek.empty) :: obs)
  | _ :: es, v :: l => match zeroBox d (f + 1) es l with
    | (l', obs) => (v :: l', obs)
  | _, l => (l, [])
def guards (e : Bool) : List (AV × Bool) → List Bool
  | [] => []
  | (_, g) :: l => impB e g :: guards e l
def byRow (r : Option (AV × List Bool)) : Option Up :=
  match r with
  | some (v, o) => up0 v o
  | none => none

def builtinA (g : Nat → Option Ob) (cx : Ctx) (dst : Option Nat) (b : Builtin) (ts : List Nat) (vs : List AV) : Option Up :=
  match b, vs with
  | .len, [x] => match ts with
    | t :: _ => match cx.sk t, lenA g x with
      | some _, some n => up0 (.int .i64 n) []
      | _, _ => none
    | _ => none
  | .cap, [.nils] => match ts with
    | t :: _ => match cx.sk t with
      | some _ => up0 (.int .i64 0) []
      | _ => none
    | _ => none
  | .max, [.int .i64 m, .int .i64 n] => up0 (.int .i64 (maxI m n)) []
  | .min, [.int .i64 m, .int .i64 n] => up0 (.int .i64 (minI m n)) []
  | .append, [s, x] => match ts with
    | t :: t' :: _ => match cx.sk t, dst with
      | some ek, some d => match cx.sk t' with
        | some ek' => bif ek.same ek' then appendA g ek d s x else none
        | none => match s, x, cx.ik t', zeroOf ek 0 with
          | .nils, .int .i64 n, some .i64, some _ => match zeroOf ek n with
            | some z => some ⟨.own d, [(d, .arr (some (ltI 0 n)) z)], [d], [], [leI 0 n, leI n 1000000000]⟩
            | none => none
          | _, _, _, _ => none
      | _, _ => none
    | _ => none
  | .copy, [x, y] => match ts with
    | t :: _ => match cx.sk t with
      | some .int => copyA g x y
      | _ => none
    | _ => none
  | .clear, [x] => match ts with
    | t :: _ => match cx.sk t with
      | some ek => clearA g ek x
      | none => none
    | _ => none
  | .delete, [.mp k, .int .i64 n] => match ts with
    | t :: _ => match cx.mpt t, g k with
      | true, some (.map ks) => some ⟨.junk, [(k, .map (delZ n ks))], [], [], []⟩
      | _, _ => none
    | _ => none
  | _, _ => none

def hAssign (cx : Ctx) (gd : Bool) (dst : Option Nat) (ty : Nat) : List AV → Option Up
  | [.nils] => match gd, dst, cx.sk ty with
    | false, some d, some ek => some ⟨.own d, [(d, .arr (some false) ek.empty)], [d], [], []⟩
    | _, _, _ => up0 .nils []
  | [a] => up0 a []
  | _ => none
def hMove : List AV → Option Up
  | [a] => up0 a []
  | _ => none
def hPick : List AV → Option Up
  | [.bool c, .bool p, .bool q] => up0 (.bool (iteB c p q)) []
  | _ => none
def hAlloc (cx : Ctx) (gd : Bool) (dst : Option Nat) (t : Nat) : List AV → Option Up
  | [] => match gd, dst, cx.zr t with
    | false, some d, some zs => match zeroBox d 0 (cx.zk t) zs with
      | (cs, obs) => bif nodupN (namesO (obs ++ [(d, .box cs)])) then some ⟨.ref d 0, obs ++ [(d, .box cs)], namesO (obs ++ [(d, .box cs)]), [], []⟩ else none
    | _, _, _ => none
  | _ => none
def hBox (cx : Ctx) (gd : Bool) (dst : Option Nat) (t : Nat) : List AV → Option Up
  | [.agg cs] => match gd, dst, cx.vs t with
    | false, some d, some (true, n) => bif andB (allOne cs) (notB (memN d (AV.nmL cs))) then some ⟨.ref d 0, [(d, .box cs)], [d], [], []⟩ else none
    | _, _, _ => none
  | [v] => match gd, dst, cx.vs t with
    | false, some d, some (false, _) => bif andB v.one (notB (memN d v.nm)) then some ⟨.ref d 0, [(d, .box [v])], [d], [], []⟩ else none
    | _, _, _ => none
  | _ => none
def hBuild (cx : Ctx) (t : Nat) (ps : List (Nat × Operand)) (vs : List AV) : Option Up :=
  match cx.zr t, cx.bd t with
  | some zs, some n => bif Nat.beq zs.length n then (match fillA zs ps vs with
    | some cs => up0 (.agg cs) []
    | none => none) else none
  | _, _ => none
def hLit (cx : Ctx) (g : Nat → Option Ob) (gd : Bool) (dst : Option Nat) (t n : Nat) (ps : List (Nat × Operand)) (vs : List AV) : Option Up :=
  match cx.sk t with
  | none => none
  | some ek => bif andB (placed ps 0) (andB (Nat.beq n vs.length) (Nat.blt n 100)) then (match elemsA g ek vs with
    | some (d, ks) => match gd with
      | true => match ks with
        | [] => up0 (.sl (some true) d) []
        | _ => none
      | false => match dst with
        | some i => bif notB (memN i ks) then some ⟨.own i, [(i, .arr (some true) d)], [i], ks, []⟩ else none
        | none => none
    | none => none) else none
def hLoad (cx : Ctx) (g : Nat → Option Ob) (t : Nat) : List AV → Option Up
  | [a] => match cx.vs t with
    | none => none
    | some (ag, n) => match a with
      | .ref k f => match g k with
        | some (.box cs) => match loadBox cs f ag n with
          | some v => up0 v []
          | none => none
        | _ => none
      | .snap cs f => match loadBox cs f ag n with
        | some v => up0 v []
        | none => none
      | .elt k w i f => match g k with
        | some (.arr _ d) => bif Nat.beq w d.wid then (match loadSC d i f ag n with
          | some v => up0 v [leI 0 i, ltI i d.len]
          | none => none) else none
        | _ => none
      | .adr d i f => match loadSC d i f ag n with
        | some v => up0 v []
        | none => none
      | _ => none
  | _ => none
def szOK (v : AV) (n : Nat) : Bool := match v with
  | .agg us => Nat.beq us.length n
  | _ => true
def isAgg' : AV → Bool
  | .agg _ => true
  | _ => false
def hStore (cx : Ctx) (g : Nat → Option Ob) (t : Nat) : List AV → Option Up
  | [a, v] => match cx.vs t with
    | none => none
    | some (ag, n) => match a with
      | .ref k f => match g k with
        | some (.box cs) => match storeBox cs f ag n v with
          | some cs' => some ⟨.junk, [(k, .box cs')], [], [], []⟩
          | none => none
        | _ => none
      | .elt k w i f => match g k with
        | some (.arr nk d) => bif andB (Nat.beq w d.wid) (andB (eqB ag (isAgg' v)) (szOK v n)) then (match storeSC g d i f v with
          | some (d', ks) => bif notB (memN k ks) then some ⟨.junk, [(k, .arr nk d')], [], ks, [leI 0 i, ltI i d.len]⟩ else none
          | none => none) else none
        | _ => none
      | _ => none
  | _ => none
def hNil : List AV → Option Up
  | [.ref k f] => up0 (.ref k f) []
  | [.elt k w i f] => up0 (.elt k w i f) []
  | [.snap cs f] => up0 (.snap cs f) []
  | [.adr d i f] => up0 (.adr d i f) []
  | [.ifc t v] => up0 (.ifc t v) []
  | _ => none
def hBin (cx : Ctx) (g : Nat → Option Ob) (b : BinOp) (t : Nat) : List AV → Option Up
  | [x, y] => byRow (binA cx g b t x y)
  | _ => none
def hUn (u : UnOp) : List AV → Option Up
  | [.bool b] => match u with
    | .not => up0 (.bool (notB b)) []
    | _ => none
  | [.int k n] => match u with
    | .neg => up0 (.int k (sbI k 0 n)) []
    | _ => none
  | _ => none
def hConv (cx : Ctx) (s t : Nat) : List AV → Option Up
  | [.int _ n] => match cx.ik s, cx.ik t with
    | some _, some k => up0 (.int k (cvI k n)) []
    | _, _ => none
  | _ => none
def hMkI (cx : Ctx) (t : Nat) : List AV → Option Up
  | [x] => match cx.vs t with
    | some _ => up0 (.ifc t x) []
    | none => none
  | _ => none
def hMkF (fn : Fn) (fst : List Operand) (cs : List AV) : Option Up :=
  match fn, fst with
  | .func f, [] => up0 (.clo f cs) []
  | _, _ => none
def hMkS (cx : Ctx) (gd : Bool) (dst : Option Nat) (t : Nat) : List AV → Option Up
  | [.int .i64 n, .int .i64 m] => match gd, dst, cx.sk t with
    | false, some d, some ek => match zeroOf ek n with
      | some z => some ⟨.own d, [(d, .arr (some true) z)], [d], [], [eqI n m, leI 0 n, leI n 1000000000]⟩
      | none => none
    | _, _, _ => none
  | _ => none
/-- x[l:h:m]: what it is is not said -/
def slice3A (g : Nat → Option Ob) (ek : EK) (k : Nat) (l h m : Int) : Option (AV × List Bool) :=
  match g k with
  | some (.arr _ d) => some (.junk, [leI 0 l, leI l h, leI h m, leI m d.len])
  | _ => none
def hSlice (cx : Ctx) (g : Nat → Option Ob) (t : Nat) (lo hi mx : Option Operand) (vs : List AV) : Option Up :=
  match cx.sk t, mx, lo, hi, vs with
  | some ek, none, none, none, [x] => byRow (sliceA g ek x 0 none)
  | some ek, none, some _, none, [x, .int .i64 l] => byRow (sliceA g ek x l none)
  | some ek, none, none, some _, [x, .int .i64 h] => byRow (sliceA g ek x 0 (some h))
  | some ek, none, some _, some _, [x, .int .i64 l, .int .i64 h] => byRow (sliceA g ek x l (some h))
  | some ek, some _, some _, some _, [.own k, .int .i64 l, .int .i64 h, .int .i64 m] => byRow (slice3A g ek k l h m)
  | _, _, _, _, _ => none
def hField (cx : Ctx) (s f : Nat) : List AV → Option Up
  | [x] => match cx.fo s f with
    | some off => match fieldA x off with
      | some v => up0 v []
      | none => none
    | none => none
  | _ => none
def hIndex (cx : Ctx) (g : Nat → Option Ob) (t : Nat) : List AV → Option Up
  | [x, .int .i64 i] => match cx.sk t with
    | some ek => byRow (indexA g ek x i)
    | none => match cx.al t, x with
      | some n, .ref k f => up0 (.ref k (f + i.toNat)) [leI 0 i, ltI i (n : Int)]
      | _, _ => none
  | _ => none
def hMkM (cx : Ctx) (gd : Bool) (dst : Option Nat) (t : Nat) : List AV → Option Up
  | [] => match gd, dst, cx.mpt t with
    | false, some d, true => some ⟨.mp d, [(d, .map [])], [d], [], []⟩
    | _, _, _ => none
  | _ => none
def hIns (cx : Ctx) (g : Nat → Option Ob) (t : Nat) : List AV → Option Up
  | [.mp k, .int .i64 n, .bool true] => match cx.mpt t, g k with
    | true, some (.map ks) => some ⟨.junk, [(k, .map (insZ n ks))], [], [], []⟩
    | _, _ => none
  | _ => none
def hLkp (cx : Ctx) (g : Nat → Option Ob) (t : Nat) (ok : Bool) : List AV → Option Up
  | [.mp k, .int .i64 n] => match cx.mpt t, ok, g k with
    | true, false, some (.map ks) => up0 (.bool (memZ n ks)) []
    | _, _, _ => none
  | [.ms ks, .int .i64 n] => match cx.mpt t, ok with
    | true, false => up0 (.bool (memZ n ks)) []
    | _, _ => none
  | _ => none
def hRng (cx : Ctx) (gd : Bool) (dst : Option Nat) (t : Nat) : List AV → Option Up
  | [.ms ks] => match gd, dst, cx.mpt t with
    | false, some d, true => some ⟨.ref d 0, [(d, .itr ks none)], [d], [], []⟩
    | _, _, _ => none
  | _ => none
def hEnt (g : Nat → Option Ob) : List AV → Option Up
  | [.ref k 0] => match g k with
    | some (.itr _ (some n)) => up0 (.tup [.int .i64 n, .bool true]) []
    | _ => none
  | _ => none
def hIdx (cx : Ctx) (t : Nat) : List AV → Option Up
  | [.c (.string s), .int _ i] => bif cx.str t then up0 (.int .u8 (byteI s i)) [leI 0 i, ltI i (s.size : Int)] else none
  | _ => none
def hTA (cx : Ctx) (s t : Nat) (ok : Bool) : List AV → Option Up
  | [.ifc u v] => bif Nat.beq u t then (match cx.vs t, ok with
    | some _, true => up0 (.tup [v, .bool true]) []
    | some _, false => up0 v []
    | none, _ => none) else none
  | _ => none
def hExt (i : Nat) : List AV → Option Up
  | [.tup cs] => bif Nat.blt i cs.length then up0 (sg cs i) [] else none
  | _ => none
def hCall (cx : Ctx) (F : Fns) (g : Nat → Option Ob) (gd : Bool) (dst : Option Nat) (c : Call) (vs : List AV) : Option Up :=
  match c.callee with
  | .value _ => match vs with
    | .clo f cs :: args => callA cx F g gd dst f (args ++ cs)
    | _ => none
  | .invoke _ m => match vs with
    | .ifc t r :: args => match cx.mt t m with
      | some (f, true) => callA cx F g gd dst f (r :: args)
      | some (f, false) => match r with
        | .ref k 0 => match g k with
          | some (.box [v]) => bif v.one then callA cx F g gd dst f (v :: args) else none
          | _ => none
        | .snap [v] 0 => bif v.one then callA cx F g gd dst f (v :: args) else none
        | _ => none
      | none => none
    | _ => none
  | .builtin b => match gd with
    | false => builtinA g cx dst b c.argTypes.toList vs
    | true => match b with
      | .len => builtinA g cx dst b c.argTypes.toList vs
      | .max => builtinA g cx dst b c.argTypes.toList vs
      | .min => builtinA g cx dst b c.argTypes.toList vs
      | _ => none

/-- One operation. -/
def evUp (cx : Ctx) (F : Fns) (g : Nat → Option Ob) (gd : Bool) (dst : Option Nat) (ty : Nat) (o : Op) (vs : List AV) : Option Up :=
  match o with
  | .move _ => hMove vs
  | .assign _ => hAssign cx gd dst ty vs
  | .pick _ _ _ => hPick vs
  | .alloc t => hAlloc cx gd dst t vs
  | .box t _ => hBox cx gd dst t vs
  | .build t ps => hBuild cx t ps.toList vs
  | .buildSlice t n ps => hLit cx g gd dst t n ps.toList vs
  | .load t _ => hLoad cx g t vs
  | .store t _ _ => hStore cx g t vs
  | .nilCheck _ => hNil vs
  | .binOp b t _ _ _ => hBin cx g b t vs
  | .unOp u _ _ => hUn u vs
  | .convert s t _ => hConv cx s t vs
  | .makeInterface t _ => hMkI cx t vs
  | .makeFunc fn fst _ => hMkF fn fst.toList vs
  | .makeSlice t _ _ => hMkS cx gd dst t vs
  | .slice t _ lo hi mx => hSlice cx g t lo hi mx vs
  | .fieldAddr s _ f => hField cx s f vs
  | .indexAddr t _ _ => hIndex cx g t vs
  | .index t _ _ => hIdx cx t vs
  | .typeAssert _ s t ok => hTA cx s t ok vs
  | .makeMap t none => hMkM cx gd dst t vs
  | .mapUpdate t _ _ _ => hIns cx g t vs
  | .insert t _ _ _ => hIns cx g t vs
  | .lookup t _ _ ok => hLkp cx g t ok vs
  | .range t _ => hRng cx gd dst t vs
  | .entry _ => hEnt g vs
  | .extract _ i => hExt i vs
  | .call c => hCall cx F g gd dst c vs
  | _ => none

def imps (e : Bool) : List Bool → List Bool
  | [] => []
  | b :: l => impB e b :: imps e l
def St.freezes : St → List Nat → Option St
  | st, [] => some st
  | st, k :: ks => match st.freeze k with
    | some st' => st'.freezes ks
    | none => none
def opG (o : Op) (e : Bool) (fs : List (AV × Bool)) : List Bool :=
  match o, fs with
  | .pick _ _ _, [(.bool c, gc), (_, ga), (_, gb)] => [impB e gc, impB (andB e c) ga, impB (andB e (notB c)) gb]
  | _, fs => guards e fs

/-- the condition of a guarded operation -/
def guardA (gs : Nat → Option Nat) (sl : List AV) : Option (Nat × Bool) → Option Bool
  | none => some true
  | some (j, want) => match gs j with
    | none => none
    | some t => match sg sl t with
      | .bool g => some (eqB g want)
      | .when g' (.bool g) => some (andB g' (eqB g want))
      | _ => none

def setDst (sl : List AV) (dst : Option Nat) (gd e : Bool) (v : AV) : List AV :=
  match dst with
  | none => sl
  | some d => match gd with
    | true => ss sl d (.when e v)
    | false => ss sl d v

/-- a parameter's own name is never given to another row -/
def okPut (g : Nat → Option Ob) (ks : List Nat) : List (Nat × Ob) → Bool
  | [] => true
  | (k, _) :: ps => bif Nat.blt k 500 then okPut g ks ps else bif Nat.ble 1000 k then okPut g ks ps else
      andB (andB (notB (memN k ks)) (match g k with | some _ => true | none => false)) (okPut g ks ps)

def evOp (cx : Ctx) (F : Fns) (gs : Nat → Option Nat) (o : Oper) (st : St) : Option St :=
  match guardA gs st.sl o.guard with
  | none => none
  | some e => match opnds o.op with
    | none => none
    | some xs => match fetchL st.sl xs with
      | none => none
      | some fs => match evUp cx F (og st.ob) o.guard.isSome o.dst o.type o.op (fsts fs) with
        | none => none
        | some u => match o.guard, u.put, u.kil, u.frz with
          | some _, [], [], [] => some ⟨setDst st.sl o.dst true e u.val, st.ob, imps e u.obl ++ (opG o.op e fs ++ st.ok)⟩
          | some _, _, _, _ => none
          | none, ps, ks, js => bif okPut (og st.ob) ks ps then (match st.freezes js with
            | none => none
            | some st1 => match st1.kills ks with
              | ⟨sl, ob, ok⟩ => some ⟨setDst sl o.dst false true u.val, ops ob ps, u.obl ++ (opG o.op true fs ++ ok)⟩) else none

def evOps (cx : Ctx) (F : Fns) (gs : Nat → Option Nat) : List Oper → St → Option St
  | [], st => some st
  | o :: l, st => match evOp cx F gs o st with
    | none => none
    | some st' => evOps cx F gs l st'
def dstOf : List Oper → Nat → Option Nat
  | [], _ => none
  | o :: _, 0 => o.dst
  | _ :: l, n + 1 => dstOf l n

/-! ### operations whose order is drawn -/
structure Item where
  dst : Option Nat
  val : AV
  put : List (Nat × Ob)
  kil : List Nat
  obl : List Bool

def evItem (cx : Ctx) (F : Fns) (gs : Nat → Option Nat) (sl : List AV) (g : Nat → Option Ob) (o : Oper) : Option Item :=
  match guardA gs sl o.guard with
  | none => none
  | some e => match opnds o.op with
    | none => none
    | some xs => match fetchL sl xs with
      | none => none
      | some fs => match evUp cx F g o.guard.isSome o.dst o.type o.op (fsts fs) with
        | none => none
        | some u => match o.guard, u.put, u.kil, u.frz with
          | some _, [], [], [] => some ⟨o.dst, .when e u.val, [], [], imps e u.obl ++ opG o.op e fs⟩
          | some _, _, _, _ => none
          | none, ps, ks, [] => bif okPut g ks ps then some ⟨o.dst, u.val, ps, ks, u.obl ++ opG o.op true fs⟩ else none
          | none, _, _, _ :: _ => none
def putItem (st : St) (it : Item) : St := ⟨match it.dst with | none => st.sl | some d => ss st.sl d it.val, ops st.ob it.put, it.obl ++ st.ok⟩
/-- the names that the operations make, in a first run -/
def kilsOf (cx : Ctx) (F : Fns) (gs : Nat → Option Nat) : List Oper → St → Option (List Nat)
  | [], _ => some []
  | o :: l, st => match evItem cx F gs st.sl (og st.ob) o with
    | none => none
    | some it => match kilsOf cx F gs l (putItem (st.kills it.kil) it) with
      | none => none
      | some ks => some (it.kil ++ ks)
def itemsOf (cx : Ctx) (F : Fns) (gs : Nat → Option Nat) : List Oper → St → Option (List Item)
  | [], _ => some []
  | o :: l, st => match evItem cx F gs st.sl (og st.ob) o with
    | none => none
    | some it => match itemsOf cx F gs l (putItem st it) with
      | none => none
      | some its => some (it :: its)
def nthN : List (List Nat) → Nat → List Nat
  | [], _ => []
  | a :: _, 0 => a
  | _ :: l, n + 1 => nthN l n
def addN (n : Nat) (l : List Nat) : List Nat := bif memN n l then l else n :: l
def unionN : List Nat → List Nat → List Nat
  | [], m => m
  | n :: l, m => addN n (unionN l m)
def edgesOf : List Edge → List Nat
  | [] => []
  | e :: l => match e.ground with
    | .textOnly _ => edgesOf l
    | .gcOnly _ => edgesOf l
    | _ => e.on :: edgesOf l
def allLt (n : Nat) : List Nat → Bool
  | [] => true
  | m :: l => bif Nat.blt m n then allLt n l else false
def ancL (an : List (List Nat)) : List Nat → List Nat
  | [] => []
  | e :: es => unionN (addN e (nthN an e)) (ancL an es)
/-- the operations that stand before each one -/
def anT (n : Nat) (an : List (List Nat)) : List Oper → Option (List (List Nat))
  | [] => some an
  | o :: l => bif allLt n (edgesOf o.after.toList) then anT (n + 1) (an ++ [ancL an (edgesOf o.after.toList)]) l else none
def hideS (U : List Nat) : Nat → List AV → List AV
  | _, [] => []
  | i, a :: l => (bif memN i U then .junk else a) :: hideS U (i + 1) l
def oneD : Option Nat → List Nat
  | some d => [d]
  | none => []
def AV.nmO : Ob → List Nat
  | .box cs => AV.nmL cs
  | _ => []
def nmP : List (Nat × Ob) → List Nat
  | [] => []
  | (_, o) :: l => AV.nmO o ++ nmP l
def Item.names (it : Item) : List Nat := namesO it.put ++ (it.kil ++ (it.val.nm ++ nmP it.put))
/-- what must hold of two operations: i is not before j, j is not before i -/
def pairOK (an : List (List Nat)) (i j : Nat) (a b : Item) : Bool :=
  bif memN j (nthN an i) then true else andB (apartN b.kil a.names) (bif memN i (nthN an j) then true else
    andB (apartN (oneD a.dst) (oneD b.dst)) (apartN (namesO a.put) (namesO b.put)))
def pairsJ (an : List (List Nat)) (j : Nat) (b : Item) : Nat → List Item → Bool
  | _, [] => true
  | i, a :: l => andB (bif Nat.beq i j then true else pairOK an i j a b) (pairsJ an j b (i + 1) l)
def pairsAll (an : List (List Nat)) (all : List Item) : Nat → List Item → Bool
  | _, [] => true
  | j, b :: l => andB (pairsJ an j b 0 all) (pairsAll an all (j + 1) l)
/-- what unordered operations write: slots, names -/
def hidJ (an : List (List Nat)) (j : Nat) : Nat → List Item → List Nat × List Nat
  | _, [] => ([], [])
  | i, a :: l => match hidJ an j (i + 1) l with
    | (x, y) => bif Nat.beq i j then (x, y) else bif memN i (nthN an j) then (x, y) else bif memN j (nthN an i) then (x, y) else
        (oneD a.dst ++ x, namesO a.put ++ y)
/-- each operation, with what unordered ones write hidden -/
def hidAll (cx : Ctx) (F : Fns) (gs : Nat → Option Nat) (an : List (List Nat)) (all : List Item) : Nat → List Oper → List Item → St → Bool
  | j, o :: l, it :: its, st => match hidJ an j 0 all with
    | (x, y) => match evItem cx F gs (hideS x 0 st.sl) (without (og st.ob) y) o with
      | none => false
      | some _ => hidAll cx F gs an all (j + 1) l its (putItem st it)
  | _, [], [], _ => true
  | _, _, _, _ => false
def subN : List Nat → List Nat → Bool
  | [], _ => true
  | n :: l, m => bif memN n m then subN l m else false
def kilsIn (K : List Nat) : List Item → Bool
  | [] => true
  | it :: l => andB (subN it.kil K) (andB (nodupN (namesO it.put)) (kilsIn K l))
def putAll : List Item → St → St
  | [], st => st
  | it :: l, st => putAll l (putItem st it)
def evDraw (cx : Ctx) (F : Fns) (gs : Nat → Option Nat) (os : List Oper) (st : St) : Option St :=
  match kilsOf cx F gs os st with
  | none => none
  | some K => match itemsOf cx F gs os (st.kills K) with
    | none => none
    | some its => match anT 0 [] os with
      | none => none
      | some an => bif andB (kilsIn K its) (andB (pairsAll an its 0 its) (hidAll cx F gs an its 0 os its (st.kills K))) then some (putAll its (st.kills K)) else none

/-! ### a map's literal of three entries: its order is drawn, its entries commute -/
structure ML where
  t : Nat
  d0 : Nat
  x1 : Nat
  d1 : Nat
  x2 : Nat
  d2 : Nat
  x3 : Nat
  d3 : Nat
  e : Nat
  f : Nat
def isMk (o : Oper) : Option (Nat × Nat) :=
  match o.op, o.dst, o.guard with
  | .makeMap t none, some d, none => some (t, d)
  | _, _, _ => none
def isMv (o : Oper) : Option (Nat × Nat) :=
  match o.op, o.dst, o.guard with
  | .move (.tmp x), some d, none => some (x, d)
  | _, _, _ => none
def isAs (o : Oper) : Option (Nat × Nat) :=
  match o.op, o.dst, o.guard with
  | .assign (.tmp x), some d, none => some (x, d)
  | _, _, _ => none
def isIn (o : Oper) : Option (Nat × Nat × Nat) :=
  match o.op, o.dst, o.guard with
  | .insert t (.tmp m) (.tmp k) (.const (.bool true)), none, none => some (t, m, k)
  | _, _, _ => none
def mlOps (os : List Oper) : Option ML :=
  match os with
  | [o0, o1, o2, o3, o4, o5, o6, o7, o8] => match isMk o0, isMv o1, isIn o2, isMv o3, isIn o4, isMv o5, isIn o6, isMv o7, isAs o8 with
    | some (t, d0), some (x1, d1), some (t1, m1, k1), some (x2, d2), some (t2, m2, k2), some (x3, d3), some (t3, m3, k3), some (y, e), some (z, f) =>
      bif andB (andB (Nat.beq t1 t) (andB (Nat.beq t2 t) (Nat.beq t3 t))) (andB (andB (Nat.beq m1 d0) (andB (Nat.beq m2 d0) (Nat.beq m3 d0)))
        (andB (andB (Nat.beq k1 d1) (andB (Nat.beq k2 d2) (Nat.beq k3 d3))) (andB (andB (Nat.beq y d0) (Nat.beq z e)) (andB (nodupN [d0, d1, d2, d3, e, f])
        (andB (apartN [x1, x2, x3] [d0, d1, d2, d3, e, f]) (Nat.blt d0 500)))))) then some ⟨t, d0, x1, d1, x2, d2, x3, d3, e, f⟩ else none
    | _, _, _, _, _, _, _, _, _ => none
  | _ => none
def inN : List Nat → List Nat → Bool
  | [], _ => true
  | n :: l, m => bif memN n m then inN l m else false
def mlEdges : List Oper → Bool
  | [o0, o1, o2, o3, o4, o5, o6, o7, o8] => andB (andB (allLt 0 (edgesOf o0.after.toList)) (andB (allLt 1 (edgesOf o1.after.toList)) (andB (allLt 2 (edgesOf o2.after.toList)) (andB (allLt 3 (edgesOf o3.after.toList))
      (andB (allLt 4 (edgesOf o4.after.toList)) (andB (allLt 5 (edgesOf o5.after.toList)) (andB (allLt 6 (edgesOf o6.after.toList)) (andB (allLt 7 (edgesOf o7.after.toList)) (allLt 8 (edgesOf o8.after.toList))))))))))
    (andB (inN [0, 1] (edgesOf o2.after.toList)) (andB (inN [0, 3] (edgesOf o4.after.toList)) (andB (inN [0, 5] (edgesOf o6.after.toList)) (andB (inN [0, 1, 2, 3, 4, 5, 6] (edgesOf o7.after.toList)) (inN [7] (edgesOf o8.after.toList))))))
  | _ => false
/-- what a slot holds, once the operations in L are done -/
def mlS (m : ML) (L : Nat → Bool) (a b c : Int) (sl : List AV) (s : Nat) : AV :=
  bif andB (Nat.beq s m.f) (L 8) then .mp m.d0 else
  bif andB (Nat.beq s m.e) (L 7) then .mp m.d0 else
  bif andB (Nat.beq s m.d3) (L 5) then .int .i64 c else
  bif andB (Nat.beq s m.d2) (L 3) then .int .i64 b else
  bif andB (Nat.beq s m.d1) (L 1) then .int .i64 a else
  bif andB (Nat.beq s m.d0) (L 0) then .mp m.d0 else (sg sl s).kl m.d0
def tabF (f : Nat → AV) : Nat → Nat → List AV
  | _, 0 => []
  | i, n + 1 => f i :: tabF f (i + 1) n
def mlK (L : Nat → Bool) (a b c : Int) : List Int := (bif L 2 then [a] else []) ++ ((bif L 4 then [b] else []) ++ (bif L 6 then [c] else []))
def mlO (m : ML) (L : Nat → Bool) (a b c : Int) (ob : List (Nat × Ob)) : List (Nat × Ob) := bif L 0 then op (klO m.d0 ob) m.d0 (.map (mlK L a b c)) else klO m.d0 ob
def evML (cx : Ctx) (m : ML) (st : St) : Option St :=
  match sg st.sl m.x1, sg st.sl m.x2, sg st.sl m.x3, cx.mpt m.t with
  | .int .i64 a, .int .i64 b, .int .i64 c, true => bif andB (Nat.blt m.d0 st.sl.length) (andB (Nat.blt m.d1 st.sl.length) (andB (Nat.blt m.d2 st.sl.length) (andB (Nat.blt m.d3 st.sl.length) (Nat.blt m.e st.sl.length)))) then
      some ⟨tabF (mlS m (fun _ => true) a b c st.sl) 0 st.sl.length, mlO m (fun _ => true) a b c st.ob, st.ok⟩ else none
  | _, _, _, _ => none
/-! ### every order of a region, over the sets of what has been done -/
def andO (a b : Option (List Bool)) : Option (List Bool) :=
  match a with
  | none => none
  | some x => match b with
    | none => none
    | some y => some (x ++ y)
def eqW (b : Bool) : Option (List Bool) := bif b then some [] else none
def eqBs (xs ys : List Bool) : Bool := xs == ys
def eqRs (xs ys : List (List Int)) : Bool := xs == ys
def eqNk : Option Bool → Option Bool → Option (List Bool)
  | none, none => some []
  | some a, some b => some [eqB a b]
  | _, _ => none
def eqD : SC → SC → Option (List Bool)
  | .i1 xs, .i1 ys => some [eqLI xs ys]
  | .b1 xs, .b1 ys => some [eqBs xs ys]
  | .st w xs, .st v ys => bif Nat.beq w v then some [eqRs xs ys] else none
  | .rows xs, .rows ys => some [eqRs xs ys]
  | _, _ => none
mutual
def eqAV : AV → AV → Option (List Bool)
  | .junk, .junk => some []
  | .int k n, .int k' n' => bif sameK k k' then some [eqI n n'] else none
  | .bool b, .bool b' => some [eqB b b']
  | .nils, .nils => some []
  | .own k, .own k' => eqW (Nat.beq k k')
  | .sub k w lo hi, .sub k' w' lo' hi' => bif andB (Nat.beq k k') (Nat.beq w w') then some [eqI lo lo', eqI hi hi'] else none
  | .ref k f, .ref k' f' => eqW (andB (Nat.beq k k') (Nat.beq f f'))
  | .elt k w i f, .elt k' w' i' f' => bif andB (Nat.beq k k') (andB (Nat.beq w w') (Nat.beq f f')) then some [eqI i i'] else none
  | .agg cs, .agg ds => eqAVs cs ds
  | .tup cs, .tup ds => eqAVs cs ds
  | .sl nk d, .sl nk' d' => andO (eqNk nk nk') (eqD d d')
  | .when g v, .when g' v' => andO (some [eqB g g']) (eqAV v v')
  | .ifc t v, .ifc t' v' => bif Nat.beq t t' then eqAV v v' else none
  | .clo f cs, .clo f' ds => bif Nat.beq f f' then eqAVs cs ds else none
  | .mp k, .mp k' => eqW (Nat.beq k k')
  | .adr d i f, .adr d' i' f' => bif Nat.beq f f' then andO (eqD d d') (some [eqI i i']) else none
  | .snap cs f, .snap ds f' => bif Nat.beq f f' then eqAVs cs ds else none
  | .ms ks, .ms js => some [eqLI ks js]
  | .c .nilFunc, .c .nilFunc => some []
  | .c .nilIface, .c .nilIface => some []
  | _, _ => none
def eqAVs : List AV → List AV → Option (List Bool)
  | [], [] => some []
  | a :: l, b :: m => andO (eqAV a b) (eqAVs l m)
  | _, _ => none
end
def eqOb : Ob → Ob → Option (List Bool)
  | .arr nk d, .arr nk' d' => andO (eqNk nk nk') (eqD d d')
  | .box cs, .box ds => eqAVs cs ds
  | .map ks, .map js => some [eqLI ks js]
  | _, _ => none
def eqObs (g : List (Nat × Ob)) : List (Nat × Ob) → Option (List Bool)
  | [] => some []
  | (k, o) :: l => match og g k with
    | none => none
    | some o' => andO (eqOb o o') (eqObs g l)
def eqSt (t s : St) : Option (List Bool) := andO (eqAVs t.sl s.sl) (eqObs s.ob t.ob)
def bitM (m j : Nat) : Bool := Nat.testBit m j
def setM (m j : Nat) : Nat := Nat.lor m (2 ^ j)
def allBt (m : Nat) : Nat → Bool
  | 0 => true
  | n + 1 => bif bitM m n then allBt m n else false
def subM (m : Nat) : List Nat → Bool
  | [] => true
  | e :: l => bif bitM m e then subM m l else false
def insLv (nx : List (Nat × St)) (m : Nat) (s : St) : Option (List (Nat × St) × List Bool) :=
  match asc nx m with
  | some t => match eqSt t s with
    | some os => some (nx, os)
    | none => none
  | none => some ((m, s) :: nx, [])
def stepOps (cx : Ctx) (F : Fns) (gs : Nat → Option Nat) (m : Nat) (s : St) : Nat → List Oper → List (Nat × St) → List Bool → Option (List (Nat × St) × List Bool)
  | _, [], nx, ok => some (nx, ok)
  | j, o :: l, nx, ok => match bitM m j with
    | true => stepOps cx F gs m s (j + 1) l nx ok
    | false => match subM m (edgesOf o.after.toList) with
      | false => stepOps cx F gs m s (j + 1) l nx ok
      | true => match evOp cx F gs o ⟨s.sl, s.ob, []⟩ with
        | none => none
        | some s' => match insLv nx (setM m j) ⟨s'.sl, s'.ob, []⟩ with
          | none => none
          | some (nx', os) => stepOps cx F gs m s (j + 1) l nx' (s'.ok ++ (os ++ ok))
def stepLv (cx : Ctx) (F : Fns) (gs : Nat → Option Nat) (ops : List Oper) : List (Nat × St) → List (Nat × St) → List Bool → Option (List (Nat × St) × List Bool)
  | [], nx, ok => some (nx, ok)
  | (m, s) :: l, nx, ok => match allBt m ops.length with
    | true => none
    | false => match stepOps cx F gs m s 0 ops nx ok with
      | none => none
      | some (nx', ok') => stepLv cx F gs ops l nx' ok'
def levels (cx : Ctx) (F : Fns) (gs : Nat → Option Nat) (ops : List Oper) : Nat → List (Nat × St) → List Bool → Option (List (Nat × St) × List Bool)
  | 0, lv, ok => some (lv, ok)
  | c + 1, lv, ok => match Nat.ble lv.length 200 with
    | false => none
    | true => match stepLv cx F gs ops lv [] ok with
      | none => none
      | some (nx, ok') => levels cx F gs ops c nx ok'
def edLt : Nat → List Oper → Bool
  | _, [] => true
  | j, o :: l => bif allLt j (edgesOf o.after.toList) then edLt (j + 1) l else false
def evDA (cx : Ctx) (F : Fns) (gs : Nat → Option Nat) (os : List Oper) (st : St) : Option St :=
  match edLt 0 os with
  | false => none
  | true => match levels cx F gs os os.length [(0, ⟨st.sl, st.ob, []⟩)] [] with
    | some ([(m, s)], ok) => bif allBt m os.length then some ⟨s.sl, s.ob, ok ++ st.ok⟩ else none
    | _ => none
/-! ### reads that stand in any order before a chain of other operations -/
def readK (o : Op) : Bool :=
  match o with
  | .move _ => true
  | .load _ _ => true
  | .nilCheck _ => true
  | .fieldAddr _ _ _ => true
  | .indexAddr _ _ _ => true
  | .binOp _ _ _ _ _ => true
  | .unOp _ _ _ => true
  | .convert _ _ _ => true
  | .extract _ _ => true
  | .slice _ _ _ _ _ => true
  | .call c => match c.callee with
    | .builtin .len => true
    | _ => false
  | _ => false
def isRd (o : Oper) : Bool :=
  match o.guard, o.dst with
  | none, some _ => readK o.op
  | _, _ => false
/-- the reads: early ones, and ones that stand behind others than reads -/
def rdIx : Nat → List Nat → List Nat → List Oper → List Nat
  | _, R, S, [] => R ++ S
  | j, R, S, o :: l => match isRd o with
    | false => rdIx (j + 1) R S l
    | true => match subN (edgesOf o.after.toList) R with
      | true => rdIx (j + 1) (j :: R) S l
      | false => match apartN (edgesOf o.after.toList) S with
        | true => rdIx (j + 1) R (j :: S) l
        | false => rdIx (j + 1) R S l
/-- a read's value -/
def evRd (cx : Ctx) (F : Fns) (g : Nat → Option Ob) (sl : List AV) (o : Oper) : Option (AV × List Bool) :=
  match opnds o.op with
  | none => none
  | some xs => match fetchL sl xs with
    | none => none
    | some fs => match evUp cx F g false o.dst o.type o.op (fsts fs) with
      | some ⟨v, [], [], [], obl⟩ => some (v, obl ++ opG o.op true fs)
      | _ => none
def runC (cx : Ctx) (F : Fns) (c : Nat → Oper → Bool) : Nat → List Oper → St → Option St
  | _, [], st => some st
  | j, o :: l, st => match c j o with
    | false => runC cx F c (j + 1) l st
    | true => match evRd cx F (og st.ob) st.sl o, o.dst with
      | some (v, _), some d => runC cx F c (j + 1) l ⟨ss st.sl d v, st.ob, st.ok⟩
      | _, _ => none
def rdyR (R wd : List Nat) (o : Oper) : Bool := subN (edgesOf o.after.toList) (R ++ wd)
/-- reads that may be left: they would give what they gave -/
def chkR (cx : Ctx) (F : Fns) (R dn wd : List Nat) (st : St) : Nat → List Oper → Option (List Bool)
  | _, [] => some []
  | j, o :: l => match memN j R with
    | false => chkR cx F R dn wd st (j + 1) l
    | true => match orB (memN j dn) (notB (rdyR R wd o)) with
      | true => chkR cx F R dn wd st (j + 1) l
      | false => match evRd cx F (og st.ob) st.sl o, o.dst with
        | some (v, obl), some d => match eqAV v (sg st.sl d), chkR cx F R dn wd st (j + 1) l with
          | some x, some y => some (obl ++ (x ++ y))
          | _, _ => none
        | _, _ => none
def edgesAt (os : List Oper) (j : Nat) : List Nat :=
  match os, j with
  | [], _ => []
  | o :: _, 0 => edgesOf o.after.toList
  | _ :: l, j + 1 => edgesAt l j
def cloE (os : List Oper) : List Nat → List Nat → List Nat
  | [], l => l
  | e :: es, l => unionN (edgesAt os e) (cloE os es l)
def clo (os : List Oper) : Nat → List Nat → List Nat
  | 0, l => l
  | n + 1, l => clo os n (cloE os l l)
def prOK (es : List Nat) : Option Nat → Bool
  | none => true
  | some p => memN p es
def nowR (R wd : List Nat) (w : Nat) (j : Nat) (o : Oper) : Bool := andB (memN j R) (andB (memN w (edgesOf o.after.toList)) (rdyR R wd o))
def runW (cx : Ctx) (F : Fns) (gs : Nat → Option Nat) (os : List Oper) (R : List Nat) : Nat → Option Nat → List Nat → List Nat → List Oper → St → Option St
  | _, _, _, _, [], st => some st
  | j, pr, dn, wd, o :: l, st => match memN j R with
    | true => runW cx F gs os R (j + 1) pr dn wd l st
    | false => match prOK (edgesOf o.after.toList) pr with
      | false => none
      | true => match evOp cx F gs o ⟨st.sl, st.ob, []⟩ with
        | none => none
        | some s => match runC cx F (nowR R (j :: wd) j) 0 os s with
          | none => none
          | some s2 => match chkR cx F R (unionN (clo os 3 (edgesOf o.after.toList)) dn) (j :: wd) s2 0 os with
            | none => none
            | some x => runW cx F gs os R (j + 1) (some j) (unionN (clo os 3 (edgesOf o.after.toList)) dn) (j :: wd) l ⟨s2.sl, s2.ob, s.ok ++ (x ++ st.ok)⟩
def tmpsO : List Operand → List Nat
  | [] => []
  | .tmp t :: l => t :: tmpsO l
  | _ :: l => tmpsO l
def tmpsOf (gs : Nat → Option Nat) (o : Oper) : List Nat :=
  (match o.guard with | some (j, _) => (match gs j with | some t => [t] | none => []) | none => []) ++ (match opnds o.op with | some xs => tmpsO xs | none => [])
/-- the slots of reads -/
def dstR (R : List Nat) : Nat → List Oper → List (Nat × Nat)
  | _, [] => []
  | j, o :: l => match memN j R, o.dst with
    | true, some d => (j, d) :: dstR R (j + 1) l
    | _, _ => dstR R (j + 1) l
/-- who uses a read's slot stands behind it -/
def useOK (dr : List (Nat × Nat)) (ts es : List Nat) : Bool :=
  match dr with
  | [] => true
  | (r, d) :: l => andB (bif memN d ts then memN r es else true) (useOK l ts es)
def usesOK (gs : Nat → Option Nat) (R : List Nat) (dr : List (Nat × Nat)) : Nat → List Oper → Bool
  | _, [] => true
  | j, o :: l => andB (useOK dr (tmpsOf gs o) (edgesOf o.after.toList)) (andB (bif memN j R then true else apartN (oneD o.dst) (snds dr)) (usesOK gs R dr (j + 1) l))
def evDBr (cx : Ctx) (F : Fns) (gs : Nat → Option Nat) (os : List Oper) (R : List Nat) (st : St) : Option St :=
  match andB (nodupN (snds (dstR R 0 os))) (usesOK gs R (dstR R 0 os) 0 os) with
  | false => none
  | true => match runC cx F (fun j o => andB (memN j R) (rdyR R [] o)) 0 os ⟨st.sl, st.ob, []⟩ with
    | none => none
    | some s => match chkR cx F R [] [] s 0 os with
      | none => none
      | some x => runW cx F gs os R 0 none [] [] os ⟨s.sl, s.ob, x ++ st.ok⟩
def evDB (cx : Ctx) (F : Fns) (gs : Nat → Option Nat) (os : List Oper) (st : St) : Option St :=
  match edLt 0 os with
  | false => none
  | true => evDBr cx F gs os (rdIx 0 [] [] os) st
/-- a region whose order is drawn -/
def evDr (cx : Ctx) (F : Fns) (gs : Nat → Option Nat) (os : List Oper) (st : St) : Option St :=
  match mlOps os with
  | some m => bif mlEdges os then evML cx m st else none
  | none => match evDraw cx F gs os st with
    | some st' => some st'
    | none => match evDB cx F gs os st with
      | some st' => some st'
      | none => evDA cx F gs os st

inductive Ex where
  | normal
  | exit (id : Nat)
  | ret

def keepS (l : List Nat) : Nat → List AV → List AV
  | _, [] => []
  | i, a :: r => (bif memN i l then a else .junk) :: keepS l (i + 1) r
def keepO (l : List Nat) : List (Nat × Ob) → List (Nat × Ob)
  | [] => []
  | (k, o) :: r => bif memN k l then (k, o) :: keepO l r else keepO l r
/-- a loop's entrance: its slots and objects alone, in its own order -/
def pickO (ob : List (Nat × Ob)) : List Nat → List (Nat × Ob)
  | [] => []
  | k :: l => match og ob k with
    | some o => (k, o) :: pickO ob l
    | none => pickO ob l
def St.clean (st : St) : Option (List Nat × List Nat) → St
  | some lv => ⟨keepS lv.1 0 st.sl, pickO st.ob lv.2, st.ok⟩
  | none => st

structure Orc where
  live : Nat → Option (List Nat × List Nat)
  run : Nat → St → Option (Ex × St)

def evC (cx : Ctx) (F : Fns) (L : Orc) : Code → List Bool → St → Option (Ex × List Bool × St)
  | .skip, ds, st => some (.normal, ds, st)
  | .label _, ds, st => some (.normal, ds, st)
  | .ret, ds, st => some (.ret, ds, st)
  | .exit id, ds, st => some (.exit id, ds, st)
  | .region _ os dr, ds, st => match dr with
    | false => match evOps cx F (dstOf os.toList) os.toList st with
      | some st' => some (.normal, ds, st')
      | none => none
    | true => match evDr cx F (dstOf os.toList) os.toList st with
      | some st' => some (.normal, ds, st')
      | none => none
  | .seq a b, ds, st => match evC cx F L a ds st with
    | some (.normal, ds', st') => evC cx F L b ds' st'
    | some (.exit id, ds', st') => some (.exit id, ds', st')
    | some (.ret, ds', st') => some (.ret, ds', st')
    | none => none
  | .cond c a b, ds, st => match fetch st.sl c with
    | some (.bool t, g) => match ds with
      | [] => (match t with
        | true => evC cx F L a [] ⟨st.sl, st.ob, g :: st.ok⟩
        | false => evC cx F L b [] ⟨st.sl, st.ob, g :: st.ok⟩)
      | true :: ds' => evC cx F L a ds' ⟨st.sl, st.ob, t :: g :: st.ok⟩
      | false :: ds' => evC cx F L b ds' ⟨st.sl, st.ob, notB t :: g :: st.ok⟩
    | _ => none
  | .block id (.loop b), ds, st => match L.run id (st.clean (L.live id)) with
    | some (.normal, st') => some (.normal, ds, st')
    | some (.exit j, st') => some (.exit j, ds, st')
    | some (.ret, st') => some (.ret, ds, st')
    | none => none
  | .block id c, ds, st => match evC cx F L c ds st with
    | some (.normal, ds', st') => some (.normal, ds', st')
    | some (.exit j, ds', st') => bif Nat.beq j id then some (.normal, ds', st') else some (.exit j, ds', st')
    | some (.ret, ds', st') => some (.ret, ds', st')
    | none => none
  | _, _, _ => none

end Go.Sx

set_option linter.unusedVariables false
namespace Go.Sx
open Go

/-- the parameters get their names -/
def adP (co : List Nat) (i : Nat) : List AV → List AV × List (Nat × Ob)
  | [] => ([], [])
  | a :: l => match adP co (i + 1) l with
    | (l', obs) => match a.ad ((bif memN i co then 400 else 500) + i) with
      | (a', o') => (a' :: l', o' ++ obs)

def exV (g : Nat → Option Ob) : AV → Option (AV × List Nat)
  | .own k => match g k with
    | some (.arr nk d) => some (.osl nk d, [k])
    | _ => none
  | .sub k w (.ofNat 0) hi => match g k with
    | some (.arr nk d) => bif Nat.beq w d.wid then some (.osl nk (d.sub 0 hi), [k]) else none
    | _ => none
  | .ref k 0 => match g k with
    | some (.box cs) => match exCells g cs with
      | some (cs', ks) => some (.obx cs', ks ++ [k])
      | none => none
    | _ => none
  | .agg cs => match exCells g cs with
    | some (cs', ks) => some (.agg cs', ks)
    | none => none
  | .ifc t (.agg cs) => match exCells g cs with
    | some (cs', []) => some (.ifc t (.agg cs'), [])
    | _ => none
  | .int k n => some (.int k n, [])
  | .bool b => some (.bool b, [])
  | .nils => some (.nils, [])
  | .sl nk d => some (.sl nk d, [])
  | _ => none
def exVL (g : Nat → Option Ob) : List AV → Option (List AV × List Nat)
  | [] => some ([], [])
  | a :: l => match exV g a with
    | none => none
    | some (a', ks) => match exVL g l with
      | none => none
      | some (l', js) => some (a' :: l', ks ++ js)
def exT (g : Nat → Option Ob) : AV → Option (AV × List Nat)
  | .tup cs => match exVL g cs with
    | some (cs', ks) => some (.tup cs', ks)
    | none => none
  | v => exV g v

/-- what an owned argument holds in the end; used: the names that went with the result -/
def outA (g : Nat → Option Ob) (used : List Nat) (nm : Nat) : AV → Option (AV × List Nat)
  | .osl _ _ => match g nm with
    | some (.arr nk d) => bif memN nm used then some (.junk, []) else some (.osl nk d, [nm])
    | _ => some (.junk, [])
  | .obx _ => match exV g (.ref nm 0) with
    | some (v, ks) => some (v, ks)
    | none => none
  | .ifc t (.obx _) => match exV g (.ref nm 0) with
    | some (v, ks) => some (.ifc t v, ks)
    | none => none
  | _ => none
def outL (g : Nat → Option Ob) (used mu co : List Nat) (i : Nat) : List AV → Option (List AV × List Nat)
  | [] => some ([], [])
  | a :: l => match outL g used mu co (i + 1) l with
    | none => none
    | some (l', js) => bif andB (memN i mu) (notB (memN i co)) then (match outA g used (500 + i) a with
        | some (a', ks) => some (a' :: l', ks ++ js)
        | none => none) else some (.junk :: l', js)

def resA (cx : Ctx) (st : St) : ResultVar → Option AV
  | .tmp t => match sg st.sl t with
    | .when _ _ => none
    | v => some v
  | .cell a t => match sg st.sl a, cx.vs t with
    | .ref k 0, some (ag, n) => match og st.ob k with
      | some (.box cs) => loadBox cs 0 ag n
      | _ => none
    | _, _ => none
def resL (cx : Ctx) (st : St) : List ResultVar → Option (List AV)
  | [] => some []
  | r :: l => match resA cx st r with
    | none => none
    | some v => match resL cx st l with
      | none => none
      | some vs => some (v :: vs)
def oneT : List AV → AV
  | [v] => v
  | vs => .tup vs

def retA (cx : Ctx) (f : Nat) (rs : List ResultVar) (bs : List AV) (st : St) : Option Res :=
  match resL cx st rs with
  | none => none
  | some vs => match exT (og st.ob) (oneT vs) with
    | none => none
    | some (v, used) => match outL (og st.ob) used (cx.mu f) (cx.co f) 0 bs with
      | none => none
      | some (os, js) => bif nodupN (used ++ js) then some ⟨st.ok, v, os⟩ else none

def juns : Nat → List AV
  | 0 => []
  | n + 1 => .junk :: juns n
def st0 (cx : Ctx) (f n : Nat) (bs : List AV) : St :=
  match adP (cx.co f) 0 bs with
  | (vs, obs) => ⟨vs ++ juns (n - bs.length), ops [] obs, []⟩
def okAd (cx : Ctx) (f : Nat) (bs : List AV) : Bool := nodupN (namesO (adP (cx.co f) 0 bs).2)

/-- A function, run. -/
def evF (cx : Ctx) (F : Fns) (L : Orc) (f : Nat) (fn : Func) (ds : List Bool) (bs : List AV) : Option Res :=
  bif okAd cx f bs then (match fn.body with
    | none => none
    | some c => match evC cx F L c ds (st0 cx f fn.ntmps bs) with
      | some (.normal, [], st) => retA cx f fn.results.toList bs st
      | some (.ret, [], st) => retA cx f fn.results.toList bs st
      | _ => none) else none

end Go.Sx

set_option linter.unusedVariables false
namespace Go.Sx
open Go

structure Tab where
  sk : List (Nat × EK)
  vs : List (Nat × Bool × Nat)
  fo : List (Nat × List Nat)
  zr : List (Nat × List AV)
  zk : List (Nat × List (Option EK))
  ik : List (Nat × IntKind)
  al : List (Nat × Nat)
  bd : List (Nat × Nat)
  mt : List (Nat × String × Nat × Bool)
  mu : List (Nat × List Nat)
  co : List (Nat × List Nat)
  es : List (Nat × Nat)
  fs : List Nat
  str : List Nat
  mpt : List Nat
  blt : List Nat

def ascD {α : Type} : List (Nat × List α) → Nat → List α
  | [], _ => []
  | (j, a) :: l, k => bif Nat.beq j k then a else ascD l k
def nthO : List Nat → Nat → Option Nat
  | [], _ => none
  | a :: _, 0 => some a
  | _ :: l, n + 1 => nthO l n
def ascM : List (Nat × String × Nat × Bool) → Nat → String → Option (Nat × Bool)
  | [], _, _ => none
  | (j, n, r) :: l, k, m => bif andB (Nat.beq j k) (n == m) then some r else ascM l k m
def Tab.cx (T : Tab) : Ctx where
  sk := asc T.sk
  vs := asc T.vs
  fo := fun s f => match asc T.fo s with | some l => nthO l f | none => none
  zr := asc T.zr
  zk := ascD T.zk
  ik := asc T.ik
  al := asc T.al
  bd := asc T.bd
  mt := ascM T.mt
  mu := ascD T.mu
  co := ascD T.co
  es := asc T.es
  fs := T.fs
  str := fun t => memN t T.str
  mpt := fun t => memN t T.mpt
  blt := fun t => memN t T.blt

/-- a table of functions -/
def tb : List (Nat × (List AV → Option Res)) → Fns
  | [], _, _ => none
  | (j, s) :: l, f, bs => bif Nat.beq j f then s bs else tb l f bs
def noL : Orc := ⟨fun _ => none, fun _ _ => none⟩

end Go.Sx

set_option linter.unusedVariables false
namespace Go.Sx
open Go

/-! ### values laid out whole, so that a run does not drag what it has not read -/
def frcN (n : Nat) {α : Type} (k : Nat → α) : α :=
  match n with
  | 0 => k 0
  | m + 1 => k (m + 1)
def frcI (n : Int) {α : Type} (k : Int → α) : α :=
  match n with
  | .ofNat m => frcN m fun m => k (.ofNat m)
  | .negSucc m => frcN m fun m => k (.negSucc m)
def frcB (b : Bool) {α : Type} (k : Bool → α) : α :=
  match b with
  | true => k true
  | false => k false
def frcIs {α : Type} : List Int → (List Int → α) → α
  | [], k => k []
  | a :: l, k => frcI a fun a => frcIs l fun l => k (a :: l)
def frcBs {α : Type} : List Bool → (List Bool → α) → α
  | [], k => k []
  | a :: l, k => frcB a fun a => frcBs l fun l => k (a :: l)
def frcRs {α : Type} : List (List Int) → (List (List Int) → α) → α
  | [], k => k []
  | a :: l, k => frcIs a fun a => frcRs l fun l => k (a :: l)
def frcD {α : Type} (d : SC) (k : SC → α) : α :=
  match d with
  | .i1 xs => frcIs xs fun xs => k (.i1 xs)
  | .b1 xs => frcBs xs fun xs => k (.b1 xs)
  | .st w xs => frcN w fun w => frcRs xs fun xs => k (.st w xs)
  | .rows xs => frcRs xs fun xs => k (.rows xs)
def frcO {α : Type} (b : Option Bool) (k : Option Bool → α) : α :=
  match b with
  | none => k none
  | some b => frcB b fun b => k (some b)
mutual
def frcA {α : Type} : AV → (AV → α) → α
  | .int i n, k => frcI n fun n => k (.int i n)
  | .bool b, k => frcB b fun b => k (.bool b)
  | .agg cs, k => frcL cs fun cs => k (.agg cs)
  | .tup cs, k => frcL cs fun cs => k (.tup cs)
  | .sl nk d, k => frcO nk fun nk => frcD d fun d => k (.sl nk d)
  | .osl nk d, k => frcO nk fun nk => frcD d fun d => k (.osl nk d)
  | .obx cs, k => frcL cs fun cs => k (.obx cs)
  | .own j, k => frcN j fun j => k (.own j)
  | .sub j w lo hi, k => frcN j fun j => frcN w fun w => frcI lo fun lo => frcI hi fun hi => k (.sub j w lo hi)
  | .ref j f, k => frcN j fun j => frcN f fun f => k (.ref j f)
  | .elt j w i f, k => frcN j fun j => frcN w fun w => frcI i fun i => frcN f fun f => k (.elt j w i f)
  | .adr d i f, k => frcD d fun d => frcI i fun i => frcN f fun f => k (.adr d i f)
  | .snap cs f, k => frcL cs fun cs => frcN f fun f => k (.snap cs f)
  | .clo f cs, k => frcN f fun f => frcL cs fun cs => k (.clo f cs)
  | .ifc t v, k => frcN t fun t => frcA v fun v => k (.ifc t v)
  | .when g v, k => frcB g fun g => frcA v fun v => k (.when g v)
  | .mp j, k => frcN j fun j => k (.mp j)
  | .ms xs, k => frcIs xs fun xs => k (.ms xs)
  | .omp xs, k => frcIs xs fun xs => k (.omp xs)
  | v, k => k v
def frcL {α : Type} : List AV → (List AV → α) → α
  | [], k => k []
  | a :: l, k => frcA a fun a => frcL l fun l => k (a :: l)
end
def frcOb {α : Type} (o : Ob) (k : Ob → α) : α :=
  match o with
  | .arr nk d => frcO nk fun nk => frcD d fun d => k (.arr nk d)
  | .box cs => frcL cs fun cs => k (.box cs)
  | .map xs => frcIs xs fun xs => k (.map xs)
  | .itr xs c => frcIs xs fun xs => k (.itr xs c)
def frcOs {α : Type} : List (Nat × Ob) → (List (Nat × Ob) → α) → α
  | [], k => k []
  | (j, o) :: l, k => frcN j fun j => frcOb o fun o => frcOs l fun l => k ((j, o) :: l)
def frcSt {α : Type} (st : St) (k : St → α) : α := frcL st.sl fun sl => frcOs st.ob fun ob => k ⟨sl, ob, []⟩

def allT : List Bool → Bool
  | [] => true
  | b :: l => match b with
    | true => allT l
    | false => false

/-- a loop's rounds -/
def iter (cx : Ctx) (F : Fns) (L : Orc) (id : Nat) (b : Code) : Nat → St → Option (Ex × St)
  | 0, _ => none
  | n + 1, st => match evC cx F L b [] ⟨st.sl, st.ob, []⟩ with
    | some (.normal, [], st1) => (match allT st1.ok with
      | true => frcSt st1 fun s => iter cx F L id b n s
      | false => none)
    | some (.exit j, [], st1) => (match allT st1.ok with
      | true => frcSt st1 fun s => some (bif Nat.beq j id then .normal else .exit j, s)
      | false => none)
    | some (.ret, [], st1) => (match allT st1.ok with
      | true => frcSt st1 fun s => some (.ret, s)
      | false => none)
    | _ => none
def allLoops : Code → List (Nat × Code)
  | .seq a b => allLoops a ++ allLoops b
  | .cond _ a b => allLoops a ++ allLoops b
  | .block id (.loop b) => (id, b) :: allLoops b
  | .block _ c => allLoops c
  | .loop b => allLoops b
  | _ => []
def orcN (cx : Ctx) (F : Fns) (n : Nat) (ls : List (Nat × Code)) : Nat → Orc
  | 0 => noL
  | d + 1 => ⟨fun _ => none, fun id st => match asc ls id with
    | none => none
    | some b => match iter cx F (orcN cx F n ls d) id b n st with
      | none => none
      | some (e, s) => some (e, ⟨s.sl, s.ob, st.ok⟩)⟩

/-- Whole runs: what the table S does not answer is run, to the depth d, each loop to n rounds. -/
def runF (cx : Ctx) (S : Fns) (P : Nat → Option Func) (n : Nat) : Nat → Fns
  | 0 => S
  | d + 1 => fun f bs => match S f bs with
    | some r => some r
    | none => match P f with
      | none => none
      | some fn => match fn.body with
        | none => none
        | some c => frcL bs fun bs => match Nat.ble bs.length 500 with
          | true => (match evF cx (runF cx S P n d) (orcN cx (runF cx S P n d) n (allLoops c) 6) f fn [] bs with
          | none => none
          | some r => match allT r.obl with
            | true => frcA r.val fun v => frcL r.outs fun os => some ⟨[], v, os⟩
            | false => none)
          | false => none
end Go.Sx

set_option linter.unusedVariables false
namespace Go.Sx
open Go

inductive Tr (α : Type) where
  | leaf (a : Option α)
  | node (c : Bool) (p q : Tr α)
def Tr.sel {α : Type} : Tr α → Option α
  | .leaf a => a
  | .node c p q => match c with
    | true => p.sel
    | false => q.sel
def Tr.bind {α β : Type} (f : α → Tr β) : Tr α → Tr β
  | .leaf none => .leaf none
  | .leaf (some a) => f a
  | .node c p q => .node c (p.bind f) (q.bind f)

def andN : Ex × St → (St → Tr (Ex × St)) → Tr (Ex × St)
  | (.normal, st), f => f st
  | r, _ => .leaf (some r)
def inBlk (id : Nat) : Ex × St → Tr (Ex × St)
  | (.exit j, st) => .leaf (some (bif Nat.beq j id then .normal else .exit j, st))
  | r => .leaf (some r)
def nrm : Option St → Tr (Ex × St)
  | some st => .leaf (some (.normal, st))
  | none => .leaf none
/-- loops' answers: trees -/
abbrev OrcT := Nat → St → Tr (Ex × St)
def evT (cx : Ctx) (F : Fns) (L : OrcT) : Code → St → Tr (Ex × St)
  | .skip, st => .leaf (some (.normal, st))
  | .label _, st => .leaf (some (.normal, st))
  | .ret, st => .leaf (some (.ret, st))
  | .exit id, st => .leaf (some (.exit id, st))
  | .region _ os dr, st => match dr with
    | false => nrm (evOps cx F (dstOf os.toList) os.toList st)
    | true => nrm (evDr cx F (dstOf os.toList) os.toList st)
  | .seq a b, st => (evT cx F L a st).bind fun r => andN r (evT cx F L b)
  | .cond c a b, st => match fetch st.sl c with
    | some (.bool t, g) => .node t (evT cx F L a ⟨st.sl, st.ob, g :: st.ok⟩) (evT cx F L b ⟨st.sl, st.ob, g :: st.ok⟩)
    | _ => .leaf none
  | .block id (.loop b), st => L id st
  | .block id c, st => (evT cx F L c st).bind (inBlk id)
  | _, _ => .leaf none

def endT (cx : Ctx) (f : Nat) (rs : List ResultVar) (bs : List AV) : Ex × St → Tr Res
  | (.normal, st) => .leaf (retA cx f rs bs st)
  | (.ret, st) => .leaf (retA cx f rs bs st)
  | _ => .leaf none
/-- All ways of a function. -/
def evFT (cx : Ctx) (F : Fns) (L : OrcT) (f : Nat) (fn : Func) (bs : List AV) : Tr Res :=
  bif okAd cx f bs then (match fn.body with
    | none => .leaf none
    | some c => (evT cx F L c (st0 cx f fn.ntmps bs)).bind (endT cx f fn.results.toList bs)) else .leaf none

/-! ### loops by their summaries -/
/-- n true obligations -/
def tt : Nat → List Bool → List Bool
  | 0, l => l
  | n + 1, l => true :: tt n l
/-- obligations that hold by themselves -/
def gE (c : Bool) (l : List Bool) : List Bool := impB c c :: l
def gT (c : Bool) (l : List Bool) : List Bool := impB c true :: l
def mkS (n : Nat) : List (Nat × AV) → List AV
  | [] => juns n
  | (k, v) :: l => ss (mkS n l) k v
structure LRes where
  e : Ex
  sl : List (Nat × AV)
  ob : List (Nat × Ob)
  obl : List Bool
/-- A loop: the slots of its function, the slots and objects that it reads or writes, what it does to them. -/
structure LSpec where
  n : Nat
  ks : List Nat
  os : List Nat
  g : List AV → List Ob → Tr LRes
def ogs (ob : List (Nat × Ob)) : List Nat → Option (List Ob)
  | [] => some []
  | k :: l => match og ob k with
    | none => none
    | some o => match ogs ob l with
      | none => none
      | some os => some (o :: os)
def sgs (sl : List AV) : List Nat → List AV
  | [] => []
  | k :: l => sg sl k :: sgs sl l
def zip2 {α : Type} : List Nat → List α → List (Nat × α)
  | k :: ks, a :: l => (k, a) :: zip2 ks l
  | _, _ => []
def LSpec.run (s : LSpec) (st : St) : Tr (Ex × St) :=
  bif Nat.beq st.sl.length s.n then (match ogs st.ob s.os with
    | none => .leaf none
    | some os => (s.g (sgs st.sl s.ks) os).bind fun r => .leaf (some (r.e, ⟨mkS s.n r.sl, r.ob, r.obl ++ st.ok⟩))) else .leaf none
def orcT (l : List (Nat × LSpec)) : OrcT := fun id st => match asc l id with
  | none => .leaf none
  | some s => s.run st
def bodyOf (fn : Func) : Code := match fn.body with
  | some c => c
  | none => .skip
def loopB (fn : Func) (id : Nat) : Code := match asc (allLoops (bodyOf fn)) id with
  | some b => b
  | none => .skip

/-- the end of a round: what is kept -/
def keepT (n : Nat) (ks os : List Nat) (t : Tr (Ex × St)) : Tr (Ex × St) := t.bind fun r => bif Nat.beq r.2.sl.length n then .leaf (some (r.1, ⟨mkS n (zip2 ks (sgs r.2.sl ks)), pickO r.2.ob os, r.2.ok⟩)) else .leaf none
/-! ### a loop that ranges over a map: its first region -/
def regOps : Code → Array Oper
  | .seq (.region _ os _) _ => os
  | _ => #[]
def tailOf : Code → Code
  | .seq _ b => b
  | _ => .skip
def opAt (c : Code) (i : Nat) : Oper := (regOps c).toList.getD i default
/-- behind the step: the other operations of the region, and what follows -/
def afterT (cx : Ctx) (F : Fns) (L : OrcT) (c : Code) (st : St) : Tr (Ex × St) :=
  match evOps cx F (dstOf (regOps c).toList) [opAt c 1] st with
  | some st' => evT cx F L (tailOf c) st'
  | none => .leaf none
end Go.Sx

set_option linter.unusedVariables false
namespace Go.Sx
open Go
def orcX (cx : Ctx) (F : Fns) (tbl : List (Nat × LSpec)) (n : Nat) (ls : List (Nat × Code)) : Nat → Orc
  | 0 => noL
  | d + 1 => ⟨fun _ => none, fun id st => match asc tbl id with
    | some s => (s.run st).sel
    | none => match asc ls id with
      | none => none
      | some b => match iter cx F (orcX cx F tbl n ls d) id b n st with
        | none => none
        | some (e, s) => some (e, ⟨s.sl, s.ob, st.ok⟩)⟩
/-- Whole runs: what the table S does not answer is run, to the depth d; what X does not answer of a function's loops is run to n rounds. -/
def runX (cx : Ctx) (S : Fns) (X : Nat → List (Nat × LSpec)) (P : Nat → Option Func) (n : Nat) : Nat → Fns
  | 0 => S
  | d + 1 => fun f bs => match S f bs with
    | some r => some r
    | none => match P f with
      | none => none
      | some fn => match fn.body with
        | none => none
        | some c => frcL bs fun bs => match Nat.ble bs.length 500 with
          | true => (match evF cx (runX cx S X P n d) (orcX cx (runX cx S X P n d) (X f) n (allLoops c) 6) f fn [] bs with
          | none => none
          | some r => match allT r.obl with
            | true => frcA r.val fun v => frcL r.outs fun os => some ⟨[], v, os⟩
            | false => none)
          | false => none
end Go.Sx
