/- An efficient interpreter of the model's code over a small heap of its own (definitions). -/
import Derived.Calls
import Derived.Orders
namespace Go.Proofs.YtonlahgagjejeaaGreatDoorX
open Go
set_option linter.unusedVariables false

/-! ## Trees -/
inductive T (α : Type) where
  | nil
  | node (v : Option α) (a b c d : T α)

noncomputable def T.pick {β : Type} (a b c d : β) (r : Nat) : β :=
  Nat.rec (motive := fun _ => β) a (fun r _ => Nat.rec (motive := fun _ => β) b (fun r _ => Nat.rec (motive := fun _ => β) c (fun _ _ => d) r) r) r

noncomputable def T.get {α : Type} (t : T α) : Nat → Option α :=
  T.rec (motive := fun _ => Nat → Option α) (fun _ => none)
    (fun v _ _ _ _ ga gb gc gd n => Nat.rec (motive := fun _ => Option α) v (fun m _ => T.pick ga gb gc gd (Nat.mod m 4) (Nat.div m 4)) n) t

noncomputable def T.single {α : Type} (x : α) (fuel : Nat) : Nat → T α :=
  Nat.rec (motive := fun _ => Nat → T α) (fun _ => .nil)
    (fun _ ih n => Nat.rec (motive := fun _ => T α) (.node (some x) .nil .nil .nil .nil)
      (fun m _ => T.pick (fun s => .node none s .nil .nil .nil) (fun s => .node none .nil s .nil .nil) (fun s => .node none .nil .nil s .nil) (fun s => .node none .nil .nil .nil s)
        (Nat.mod m 4) (ih (Nat.div m 4))) n) fuel

noncomputable def T.set {α : Type} (t : T α) (x : α) : Nat → T α :=
  T.rec (motive := fun _ => Nat → T α) (fun n => T.single x (Nat.succ n) n)
    (fun v a b c d sa sb sc sd n => Nat.rec (motive := fun _ => T α) (.node (some x) a b c d)
      (fun m _ => T.pick (fun q => .node v (sa q) b c d) (fun q => .node v a (sb q) c d) (fun q => .node v a b (sc q) d) (fun q => .node v a b c (sd q))
        (Nat.mod m 4) (Nat.div m 4)) n) t

/-! ## Values: addresses are numbers of the own heap; a string is a length and a number (its bytes, the first one lowest) -/
inductive CV where
  | unk
  | bool (b : Bool)
  | int (k : IntKind) (n : Int)
  | float (k : FloatKind) (bits : Nat)
  | str (len n : Nat)
  | sym (i : Nat)
  | ptr (b o : Nat)
  | nilp
  | slice (b o len cap : Nat) (op : Bool)
  | nils
  | map (b : Nat)
  | nilm
  | func (fn : Fn) (first captured : List CV)
  | nilf
  | iface (t : TypeId) (v : CV)
  | nili
  | agg (l : List CV)
  | tup (l : List CV)

structure Ent where
  key : CV
  val : CV
  born : Nat

inductive Obj where
  | row (cells : T CV) (n : Nat) (es : Nat) (fr : Nat)      -- n cells, an element has es; the cells below fr may be frozen
  | ro (cells : T CV) (n : Nat)                             -- what was there when the call began: it is only read
  | map (es : List Ent) (clock : Nat)
  | siter (len n pos : Nat)
  | miter (m : Option Nat) (since : Nat) (seen : List Nat) (stepped : Nat)
  | dead

structure Dfr where
  fn : CV
  args : List CV

structure St where
  heap : T Obj
  next : Nat
  dfs : List Dfr

inductive Ex where
  | normal
  | exit (id : Nat)
  | ret
  | panic (v : CV)

inductive R where
  | err (n : Nat)
  | ok (e : Ex) (env : List CV) (st : St)

inductive RV where
  | err (n : Nat)
  | pan (v : CV) (st : St)
  | ok (v : CV) (st : St)

structure Box (α : Type) where
  f : α

/-! ## Constants -/
def packL : List UInt8 → Nat
  | [] => 0
  | b :: l => b.toNat + 256 * packL l

def ofCell : Value → CV
  | .bool b => .bool b
  | .int k n => .int k n
  | .float k n => .float k n
  | .string s => .str s.data.toList.length (packL s.data.toList)
  | .pointer none => .nilp
  | .slice none 0 0 => .nils
  | .map none => .nilm
  | .nilFunc => .nilf
  | .nilIface => .nili
  | _ => .unk

def ofValue : Value → CV
  | .agg cs => .agg (cs.toList.map ofCell)
  | .tuple cs => .tup (cs.toList.map ofCell)
  | v => ofCell v

/-! ## Slots: a list of the values of a function's kept slots ('vars'), and an assoc list of those of the region at hand -/
inductive Loc where
  | nil
  | cons (t : Nat) (v : CV) (r : Loc)

noncomputable def Loc.look (l : Loc) (t : Nat) : CV := Loc.rec (motive := fun _ => CV) .unk (fun u v _ ih => Bool.rec (motive := fun _ => CV) ih v (Nat.beq u t)) l

noncomputable def nth (l : List CV) : Nat → CV := List.rec (motive := fun _ => Nat → CV) (fun _ => .unk) (fun v _ ih n => Nat.rec (motive := fun _ => CV) v (fun m _ => ih m) n) l
noncomputable def setNth (l : List CV) (x : CV) : Nat → List CV :=
  List.rec (motive := fun _ => Nat → List CV) (fun _ => []) (fun v r ih n => Nat.rec (motive := fun _ => List CV) (x :: r) (fun m _ => v :: ih m) n) l

def pos (vars : List Nat) (t : Nat) : Option Nat := match vars with
  | [] => none
  | u :: r => bif Nat.beq u t then some 0 else match pos r t with
    | none => none
    | some k => some (Nat.succ k)

/-- What a function's code is run with: its kept slots, how many slots it has. -/
structure Cx where
  vars : List Nat
  nt : Nat
  ng : Nat

noncomputable def look (cx : Cx) (env : List CV) (loc : Loc) (t : Nat) : CV := match pos cx.vars t with
  | some k => nth env k
  | none => loc.look t

abbrev Ev := Box (List CV → Loc → CV)
noncomputable def evTmpAt (t : Nat) (p : Option Nat) : Ev := match p with
  | some k => ⟨fun env _ => nth env k⟩
  | none => ⟨fun _ loc => loc.look t⟩
noncomputable def ev (cx : Cx) (x : Operand) : Ev := match x with
  | .tmp t => evTmpAt t (pos cx.vars t)
  | .const v => ⟨fun _ _ => ofValue v⟩
  | .global g => match Nat.blt g cx.ng with
    | true => ⟨fun _ _ => .ptr g 0⟩
    | false => ⟨fun _ _ => .unk⟩
  | .func f => ⟨fun _ _ => .func (.func f) [] []⟩

noncomputable def evs (cx : Cx) (l : List Operand) : Box (List CV → Loc → List CV) := match l with
  | [] => ⟨fun _ _ => []⟩
  | x :: r => ⟨fun env loc => (ev cx x).f env loc :: (evs cx r).f env loc⟩

/-- A value is put into a slot. -/
abbrev Put := Box (CV → List CV → Loc → (List CV → Loc → St → R) → St → R)
noncomputable def putAt (t : Nat) (p : Option Nat) : Put := match p with
  | some k => ⟨fun v env loc K st => K (setNth env v k) loc st⟩
  | none => ⟨fun v env loc K st => K env (.cons t v loc) st⟩
noncomputable def put (cx : Cx) (d : Option Nat) : Put := match d with
  | none => ⟨fun _ env loc K st => K env loc st⟩
  | some t => match Nat.blt t cx.nt with
    | true => putAt t (pos cx.vars t)
    | false => ⟨fun _ _ _ _ _ => .err 1⟩

/-! ## Integers, forced -/
noncomputable def forceN {β : Type} (k : Nat → β) (n : Nat) : β := Nat.rec (motive := fun _ => β) (k 0) (fun p _ => k (Nat.succ p)) n
noncomputable def forceI {β : Type} (k : Int → β) (n : Int) : β := Int.rec (motive := fun _ => β) (fun m => forceN (fun m => k (.ofNat m)) m) (fun m => forceN (fun m => k (.negSucc m)) m) n
noncomputable def wrapTo (k : IntKind) (n : Int) : RV → (CV → RV) → RV := fun _ K => forceI (fun m => K (.int k m)) (k.wrap n)

/-! ## Types, asked of the program (closed terms: reckoned once) -/
section
variable (P : Program)
def szOf (t : Nat) : Option Nat := (P.info? t).map (·.size)
def byOf (t : Nat) : Option Nat := (P.info? t).map (·.bytes)
def aggOf (t : Nat) : Option Bool := (P.underlying t).map fun d => match d with | .struct _ | .array _ _ => true | _ => false
def sound1 : CV → Option CV
  | .unk => none
  | .tup _ => none
  | v => some v
def zeroOf (t : Nat) : Option CV := match P.info? t with
  | some i => match i.zero with
    | some z => sound1 (ofValue z)
    | none => none
  | none => none
def offOf (t f : Nat) : Option Nat := match P.underlying t with
  | some (.struct fs) => match fs[f]? with
    | some x => match P.info? x.type with
      | some i => bif Nat.beq i.size 0 then none else some x.offset
      | none => none
    | none => none
  | _ => none
def elemOfSlice (t : Nat) : Option Nat := match P.underlying t with | some (.slice e) => some e | _ => none
end

def cellsOf : CV → List CV
  | .agg l => l
  | v => [v]

noncomputable def rowOf (l : List CV) : Nat → T CV → T CV :=
  List.rec (motive := fun _ => Nat → T CV → T CV) (fun _ t => t) (fun c _ ih i t => ih (Nat.succ i) (T.set t c i)) l

noncomputable def loadN (b : T CV) (n : Nat) : Nat → Option (List CV) :=
  Nat.rec (motive := fun _ => Nat → Option (List CV)) (fun _ => some []) (fun _ ih o =>
    Option.rec (motive := fun _ => Option (List CV)) none (fun v => Option.rec (motive := fun _ => Option (List CV)) none (fun l => some (v :: l)) (ih (Nat.succ o))) (b.get o)) n

noncomputable def len (l : List CV) : Nat := List.rec (motive := fun _ => Nat) 0 (fun _ _ ih => Nat.succ ih) l

/-! ## The heap -/
noncomputable def newRow (cs : List CV) (es : Nat) (st : St) (K : Nat → St → RV) : RV :=
  forceN (fun n => match st with | ⟨h, nx, d⟩ => forceN (fun nx' => K nx ⟨T.set h (.row (rowOf cs 0 .nil) n es 0) nx, nx', d⟩) (Nat.succ nx)) (len cs)
noncomputable def newObj (o : Obj) (st : St) (K : Nat → St → RV) : RV :=
  match st with | ⟨h, nx, d⟩ => forceN (fun nx' => K nx ⟨T.set h o nx, nx', d⟩) (Nat.succ nx)
noncomputable def setObj (o : Obj) (b : Nat) (st : St) (K : St → RV) : RV := match st with | ⟨h, nx, d⟩ => K ⟨T.set h o b, nx, d⟩

/-- the cells of a row that can be read -/
noncomputable def cellsAt (b : Nat) (st : St) : Option (T CV) := match st.heap.get b with
  | some o => match o with
    | .row cells _ _ _ => some cells
    | .ro cells _ => some cells
    | _ => none
  | none => none

noncomputable def loadAt (agg : Bool) (n : Nat) (b o : Nat) (st : St) (K : CV → RV) : RV := match cellsAt b st with
  | some cells => match agg with
    | true => match loadN cells n o with
      | some l => K (.agg l)
      | none => .err 2
    | false => match cells.get o with
      | some v => K v
      | none => .err 3
  | none => .err 4

noncomputable def storeL (l : List CV) : T CV → Nat → T CV :=
  List.rec (motive := fun _ => T CV → Nat → T CV) (fun c _ => c) (fun v _ ih c o => ih (T.set c v o) (Nat.succ o)) l

def oneCell : CV → Bool
  | .agg _ => false
  | .tup _ => false
  | .unk => false
  | _ => true

/-- cells are stored: they lie in the row, behind what may be frozen; each is one cell -/
noncomputable def storeAt (l : List CV) (b o : Nat) (st : St) (K : St → RV) : RV := match st.heap.get b with
  | some x => match x with
    | .row cells n es fr => bif Nat.ble fr o && (Nat.ble (Nat.add o (len l)) n && l.all oneCell) then setObj (.row (storeL l cells o) n es fr) b st K else .err 5
    | _ => .err 6
  | none => .err 7

/-! ## Operations -/
abbrev Caller := Nat → List CV → St → RV
abbrev OpF := Box (Caller → List CV → Loc → St → RV)

def none1 (n : Nat) : OpF := ⟨fun _ _ _ _ => .err n⟩

noncomputable def oMove (x : Ev) : OpF := ⟨fun _ env loc st => .ok (x.f env loc) st⟩
noncomputable def oPick (c a b : Ev) : OpF := ⟨fun _ env loc st => match c.f env loc with
  | .bool t => match t with
    | true => .ok (a.f env loc) st
    | false => .ok (b.f env loc) st
  | _ => .err 8⟩
noncomputable def oNilCheck (x : Ev) : OpF := ⟨fun _ env loc st => match x.f env loc with
  | .ptr b o => .ok (.ptr b o) st
  | .slice b o l c q => .ok (.slice b o l c q) st
  | .func f a b => match f with
    | .func g => .ok (.func (.func g) a b) st
    | _ => .err 9
  | _ => .err 10⟩

noncomputable def oAlloc (zero : Option CV) (es : Option Nat) : OpF := match zero, es with
  | some z, some n => ⟨fun _ _ _ st => newRow (cellsOf z) n st fun b st => .ok (.ptr b 0) st⟩
  | _, _ => none1 11
noncomputable def oBox (es : Option Nat) (x : Ev) : OpF := match es with
  | some n => ⟨fun _ env loc st => match x.f env loc with
    | .unk => .err 12
    | .tup _ => .err 12
    | v => newRow (cellsOf v) n st fun b st => .ok (.ptr b 0) st⟩
  | none => none1 12

noncomputable def oLoad (agg : Option Bool) (sz : Option Nat) (a : Ev) : OpF := match agg, sz with
  | some g, some n => ⟨fun _ env loc st => match a.f env loc with
    | .ptr b o => loadAt g n b o st fun v => .ok v st
    | _ => .err 13⟩
  | _, _ => none1 14

noncomputable def oStore (sz : Option Nat) (a x : Ev) : OpF := match sz with
  | some n => ⟨fun _ env loc st => match a.f env loc with
    | .ptr b o => (fun l => bif Nat.beq (len l) n then storeAt l b o st fun st => .ok (.tup []) st else .err 15) (cellsOf (x.f env loc))
    | _ => .err 16⟩
  | none => none1 17

/-- n values laid over a list from a place on -/
noncomputable def over (cs : List CV) (l : List CV) : Nat → List CV :=
  List.rec (motive := fun _ => List CV → Nat → List CV) (fun _ _ => []) (fun c _ ih l off =>
    Nat.rec (motive := fun _ => List CV) (List.rec (motive := fun _ => List CV) (c :: ih [] 0) (fun x r _ => x :: ih r 0) l) (fun m _ => c :: ih l m) off) cs l

/-- the places of a literal's parts: (offset, size) -/
def placesOf (P : Program) (fs : List Field) : Option (List (Nat × Nat)) := match fs with
  | [] => some []
  | f :: r => match P.info? f.type, placesOf P r with
    | some i, some l => some ((f.offset, i.size) :: l)
    | _, _ => none
def nthP (l : List (Nat × Nat)) (i : Nat) : Option (Nat × Nat) := l[i]?

noncomputable def fillF (place : Nat → Option (Nat × Nat)) (cx : Cx) (parts : List (Nat × Operand)) (size : Nat) : Box (List CV → List CV → Loc → (List CV → RV) → RV) := match parts with
  | [] => ⟨fun cs _ _ K => K cs⟩
  | (i, x) :: r => match place i with
    | none => ⟨fun _ _ _ _ => .err 18⟩
    | some (off, n) => bif Nat.ble (Nat.add off n) size then
        ⟨fun cs env loc K => (fun l => bif Nat.beq (len l) n && l.all oneCell then (fillF place cx r size).f (over cs l off) env loc K else .err 19) (cellsOf ((ev cx x).f env loc))⟩
      else ⟨fun _ _ _ _ => .err 20⟩

noncomputable def buildF (cx : Cx) (z : List CV) (place : Nat → Option (Nat × Nat)) (parts : List (Nat × Operand)) : OpF :=
  ⟨fun _ env loc st => (fillF place cx parts (len z)).f z env loc fun l => .ok (.agg l) st⟩
noncomputable def oBuild (P : Program) (cx : Cx) (t : Nat) (parts : List (Nat × Operand)) : OpF := match zeroOf P t, P.underlying t with
  | some z, some d => match d with
    | .struct fs => match placesOf P fs.toList with
      | some ps => buildF cx (cellsOf z) (fun i => ps[i]?) parts
      | none => none1 21
    | .array _ e => match szOf P e with
      | some n => buildF cx (cellsOf z) (fun i => some (Nat.mul i n, n)) parts
      | none => none1 22
    | _ => none1 23
  | _, _ => none1 24
noncomputable def repL (z : List CV) (n : Nat) : List CV := Nat.rec (motive := fun _ => List CV) [] (fun _ ih => z ++ ih) n
noncomputable def buildSliceF (cx : Cx) (n : Nat) (es : Nat) (z : List CV) (parts : List (Nat × Operand)) : OpF :=
  ⟨fun _ env loc st => (fillF (fun i => some (Nat.mul i es, es)) cx parts (len z)).f z env loc fun l => newRow l es st fun b st => .ok (.slice b 0 n n false) st⟩
noncomputable def oBuildSlice (P : Program) (cx : Cx) (t n : Nat) (parts : List (Nat × Operand)) : OpF := match elemOfSlice P t with
  | some e => match szOf P e, zeroOf P e with
    | some es, some z => bif Nat.ble (Nat.mul n es) 16777216 && Nat.beq (len (cellsOf z)) es then buildSliceF cx n es (repL (cellsOf z) n) parts else none1 25
    | _, _ => none1 26
  | none => none1 27

noncomputable def oFieldAddr (off : Option Nat) (x : Ev) : OpF := match off with
  | some d => ⟨fun _ env loc st => match x.f env loc with
    | .ptr b o => forceN (fun o => .ok (.ptr b o) st) (Nat.add o d)
    | _ => .err 28⟩
  | none => none1 29

noncomputable def ixAddr (es b o len : Nat) (i : CV) (st : St) : RV := match i with
  | .int _ n => match n with
    | .ofNat n => bif Nat.blt n len then forceN (fun o => .ok (.ptr b o) st) (Nat.add o (Nat.mul n es)) else .err 30
    | _ => .err 31
  | _ => .err 32
noncomputable def oIndexAddr (P : Program) (t : Nat) (x i : Ev) : OpF := match P.underlying t with
  | some d => match d with
    | .array n e => match szOf P e with
      | some es => ⟨fun _ env loc st => match x.f env loc with
        | .ptr b o => ixAddr es b o n (i.f env loc) st
        | _ => .err 33⟩
      | none => none1 34
    | .slice e => match szOf P e with
      | some es => ⟨fun _ env loc st => match x.f env loc with
        | .slice b o n _ _ => ixAddr es b o n (i.f env loc) st
        | _ => .err 35⟩
      | none => none1 36
    | _ => none1 37
  | none => none1 38

/-- byte i of a string -/
noncomputable def byteAt (n i : Nat) : Nat := Nat.mod (Nat.shiftRight n (Nat.mul 8 i)) 256
noncomputable def oIndex (P : Program) (t : Nat) (x i : Ev) : OpF := match P.underlying t with
  | some d => match d with
    | .string => ⟨fun _ env loc st => match x.f env loc with
      | .str l n => match i.f env loc with
        | .int _ k => match k with
          | .ofNat k => bif Nat.blt k l then forceN (fun c => .ok (.int .u8 (.ofNat c)) st) (byteAt n k) else .err 39
          | _ => .err 40
        | _ => .err 41
      | _ => .err 42⟩
    | _ => none1 43
  | none => none1 44

noncomputable def intV (k : IntKind) (n : Int) (st : St) : RV := forceI (fun m => .ok (.int k m) st) (k.wrap n)
noncomputable def binInt (op : BinOp) : Box (IntKind → Int → Int → St → RV) := match op with
  | .add => ⟨fun k a b st => intV k (Int.add a b) st⟩
  | .sub => ⟨fun k a b st => intV k (Int.sub a b) st⟩
  | .mul => ⟨fun k a b st => intV k (Int.mul a b) st⟩
  | .quo => ⟨fun k a b st => match decide (b = 0) with | true => .err 45 | false => intV k (Int.tdiv a b) st⟩
  | .rem => ⟨fun k a b st => match decide (b = 0) with | true => .err 46 | false => forceI (fun m => .ok (.int k m) st) (Int.tmod a b)⟩
  | .and => ⟨fun k a b st => intV k (.ofNat (BitVec.ofInt k.bits a &&& BitVec.ofInt k.bits b).toNat) st⟩
  | .or => ⟨fun k a b st => intV k (.ofNat (BitVec.ofInt k.bits a ||| BitVec.ofInt k.bits b).toNat) st⟩
  | .xor => ⟨fun k a b st => intV k (.ofNat (BitVec.ofInt k.bits a ^^^ BitVec.ofInt k.bits b).toNat) st⟩
  | .andNot => ⟨fun k a b st => intV k (.ofNat (BitVec.ofInt k.bits a &&& ~~~BitVec.ofInt k.bits b).toNat) st⟩
  | .eql => ⟨fun k a b st => .ok (.bool (a == b)) st⟩
  | .neq => ⟨fun k a b st => .ok (.bool (a != b)) st⟩
  | .lss => ⟨fun k a b st => .ok (.bool (decide (a < b))) st⟩
  | .leq => ⟨fun k a b st => .ok (.bool (decide (a ≤ b))) st⟩
  | .gtr => ⟨fun k a b st => .ok (.bool (decide (a > b))) st⟩
  | .geq => ⟨fun k a b st => .ok (.bool (decide (a ≥ b))) st⟩
  | _ => ⟨fun _ _ _ _ => .err 47⟩
def isShift : BinOp → Bool
  | .shl => true
  | .shr => true
  | _ => false
noncomputable def shiftInt (op : BinOp) : Box (IntKind → Int → Int → St → RV) := match op with
  | .shl => ⟨fun k a b st => match b with
    | .ofNat n => intV k (Int.mul a (Int.ofNat (Nat.pow 2 (min n k.bits)))) st
    | _ => .err 48⟩
  | .shr => ⟨fun k a b st => match b with
    | .ofNat n => forceI (fun m => .ok (.int k m) st) (Int.fdiv a (Int.ofNat (Nat.pow 2 (min n k.bits))))
    | _ => .err 49⟩
  | _ => ⟨fun _ _ _ _ => .err 50⟩
noncomputable def low (l n : Nat) : Nat := Nat.mod n (Nat.pow 256 l)
noncomputable def eqStr (l n m k : Nat) : Bool := Nat.beq l m && Nat.beq (low l n) (low l k)
noncomputable def strV (l n : Nat) (st : St) : RV := forceN (fun l => forceN (fun n => .ok (.str l n) st) n) l
noncomputable def binStr (op : BinOp) : Box (Nat → Nat → Nat → Nat → St → RV) := match op with
  | .add => ⟨fun l n m k st => bif Nat.ble (Nat.add l m) 4294967296 then strV (Nat.add l m) (Nat.add (low l n) (Nat.shiftLeft k (Nat.mul 8 l))) st else .err 51⟩
  | .eql => ⟨fun l n m k st => .ok (.bool (eqStr l n m k)) st⟩
  | .neq => ⟨fun l n m k st => .ok (.bool (!eqStr l n m k)) st⟩
  | _ => ⟨fun _ _ _ _ _ => .err 52⟩
/-- a type's kind: 1 a bool, 2 a pointer (to what has cells), 3 a slice, 4 a map, 5 a function, 6 an interface -/
def kindOf (P : Program) (t : Nat) : Nat := match P.underlying t with
  | some d => match d with
    | .bool => 1
    | .pointer e => match szOf P e with
      | some n => bif Nat.beq n 0 then 0 else 2
      | none => 0
    | .slice _ => 3
    | .map _ _ => 4
    | .func _ _ _ => 5
    | .interface _ => 6
    | _ => 0
  | none => 0
noncomputable def guardK (kd n : Nat) (r : RV) : RV := bif Nat.beq kd n then r else .err 53
def isLit : Operand → Bool
  | .const _ => true
  | _ => false
/-- '==' where an operand is a nil, both are bools, or both are pointers into one block -/
noncomputable def eqNil (kd : Nat) (lit : Bool) (x y : CV) (K : Bool → RV) : RV := match x with
  | .bool a => match y with
    | .bool b => guardK kd 1 (K (a == b))
    | _ => .err 53
  | .nilp => match y with
    | .nilp => guardK kd 2 (K true)
    | .ptr _ _ => guardK kd 2 (K false)
    | _ => .err 54
  | .ptr b o => match y with
    | .nilp => guardK kd 2 (K false)
    | .ptr b' o' => bif Nat.beq b b' then guardK kd 2 (K (Nat.beq o o')) else .err 55
    | _ => .err 55
  | .nils => match y with
    | .nils => guardK kd 3 (K true)
    | .slice _ _ _ _ _ => guardK kd 3 (K false)
    | _ => .err 56
  | .slice _ _ _ _ _ => match y with
    | .nils => guardK kd 3 (K false)
    | _ => .err 57
  | .nilm => match y with
    | .nilm => guardK kd 4 (K true)
    | .map _ => guardK kd 4 (K false)
    | _ => .err 58
  | .map _ => match y with
    | .nilm => guardK kd 4 (K false)
    | _ => .err 59
  | .nilf => match y with
    | .nilf => guardK kd 5 (K true)
    | .func _ _ _ => guardK kd 5 (K false)
    | _ => .err 60
  | .func _ _ _ => match y with
    | .nilf => guardK kd 5 (K false)
    | _ => .err 61
  | .nili => match y with
    | .iface _ _ => guardK kd 6 (K false)
    | .nili => bif lit then guardK kd 6 (K true) else .err 62
    | _ => .err 62
  | .iface _ _ => match y with
    | .nili => guardK kd 6 (K false)
    | _ => .err 63
  | _ => .err 64
noncomputable def binOther (kd : Nat) (lit : Bool) (op : BinOp) : Box (CV → CV → St → RV) := match op with
  | .eql => ⟨fun x y st => eqNil kd lit x y fun b => .ok (.bool b) st⟩
  | .neq => ⟨fun x y st => eqNil kd lit x y fun b => .ok (.bool (!b)) st⟩
  | _ => ⟨fun _ _ _ => .err 65⟩
noncomputable def binAny (kd : Nat) (lit : Bool) (op : BinOp) (v : CV) (y : Ev) (env : List CV) (loc : Loc) (st : St) : RV := match v with
  | .int k a => match y.f env loc with
    | .int k' b => match decide (k = k') with
      | true => (binInt op).f k a b st
      | false => .err 68
    | _ => .err 69
  | .str l n => match y.f env loc with
    | .str m k => (binStr op).f l n m k st
    | _ => .err 70
  | v => (binOther kd lit op).f v (y.f env loc) st
noncomputable def oBinOp (kd : Nat) (lit : Bool) (op : BinOp) (x y : Ev) : OpF := match isShift op with
  | true => ⟨fun _ env loc st => match x.f env loc with
    | .int k a => match y.f env loc with
      | .int _ b => (shiftInt op).f k a b st
      | _ => .err 66
    | _ => .err 67⟩
  | false => ⟨fun _ env loc st => binAny kd lit op (x.f env loc) y env loc st⟩

noncomputable def oUnOp (op : UnOp) (x : Ev) : OpF := match op with
  | .not => ⟨fun _ env loc st => match x.f env loc with
    | .bool b => .ok (.bool (!b)) st
    | _ => .err 71⟩
  | .neg => ⟨fun _ env loc st => match x.f env loc with
    | .int k n => intV k (Int.sub 0 n) st
    | _ => .err 72⟩
  | _ => none1 73

noncomputable def strOf (v : CV) (K : Nat → Nat → RV) : RV := match v with
  | .str l n => K l n
  | _ => .err 82
/-- a string's bytes, as cells -/
noncomputable def byteCells (l n : Nat) : List CV := (Nat.rec (motive := fun _ => Nat → List CV) (fun _ => []) (fun _ ih n => forceN (fun c => forceN (fun m => CV.int .u8 (.ofNat c) :: ih m) (Nat.div n 256)) (Nat.mod n 256)) l) n
noncomputable def rowF (cs : List CV) (es fr : Nat) (st : St) (K : Nat → St → RV) : RV :=
  forceN (fun n => match st with | ⟨h, nx, d⟩ => forceN (fun nx' => K nx ⟨T.set h (.row (rowOf cs 0 .nil) n es fr) nx, nx', d⟩) (Nat.succ nx)) (len cs)
def isU8 (P : Program) (e : Nat) : Bool := match P.underlying e with
  | some d => match d with
    | .int k => decide (k = .u8)
    | _ => false
  | none => false
/-- bytes, as a string's number -/
noncomputable def packC (cs : List CV) (K : Nat → RV) : RV := (List.rec (motive := fun _ => (Nat → RV) → RV) (fun K => K 0)
  (fun c _ ih K => match c with
    | .int k v => match v with
      | .ofNat m => bif decide (k = .u8) && Nat.blt m 256 then ih fun r => forceN K (Nat.add m (Nat.mul 256 r)) else .err 116
      | _ => .err 117
    | _ => .err 118) cs) K
noncomputable def strOfBytes (v : CV) (st : St) : RV := match v with
  | .nils => .ok (.str 0 0) st
  | .slice b o l _ _ => match cellsAt b st with
    | some cells => match loadN cells l o with
      | some cs => packC cs fun n => .ok (.str l n) st
      | none => .err 119
    | none => .err 120
  | _ => .err 121
noncomputable def bytesOfStr (v : CV) (st : St) : RV := strOf v fun l n => rowF (byteCells l n) 1 0 st fun b st => .ok (.slice b 0 l l true) st
noncomputable def oConvert (P : Program) (s t : Nat) (x : Ev) : OpF := match P.underlying s, P.underlying t with
  | some _, some d => match d with
    | .int k => ⟨fun _ env loc st => match x.f env loc with
      | .int _ n => intV k n st
      | _ => .err 74⟩
    | .string => match elemOfSlice P s with
      | some e => match isU8 P e with
        | true => ⟨fun _ env loc st => strOfBytes (x.f env loc) st⟩
        | false => none1 122
      | none => ⟨fun _ env loc st => match x.f env loc with
        | .str l n => .ok (.str l n) st
        | .sym i => .ok (.sym i) st
        | _ => .err 75⟩
    | .slice e => match isU8 P e with
      | true => ⟨fun _ env loc st => bytesOfStr (x.f env loc) st⟩
      | false => none1 76
    | _ => none1 76
  | _, _ => none1 77

noncomputable def oExtract (x : Ev) (i : Nat) : OpF := ⟨fun _ env loc st => match x.f env loc with
  | .tup l => match l[i]? with
    | some v => .ok v st
    | none => .err 78
  | _ => .err 79⟩

/-- a function that is entered -/
def enters (P : Program) (g : Nat) : Bool := match P.funcs[g]? with
  | some fn => match fn.body with
    | some _ => !(fn.name == "runtime.NumGoroutine")
    | none => false
  | none => false
/-- library functions without a body: which one -/
def externId (P : Program) (g : Nat) : Nat := match P.funcs[g]? with
  | some fn => match fn.body with
    | some _ => 0
    | none => bif fn.origin == "" then (bif fn.name == "internal/bytealg.IndexByteString" then 1 else 0) else 0
  | none => 0
/-- where a string's first byte c is, from place i on -/
noncomputable def idxByte (c : Nat) (l : Nat) : Nat → Nat → Int := Nat.rec (motive := fun _ => Nat → Nat → Int) (fun _ _ => .negSucc 0)
  (fun _ ih n i => bif Nat.beq (Nat.mod n 256) c then .ofNat i else ih (Nat.div n 256) (Nat.succ i)) l
noncomputable def indexByteF (args : List CV) (st : St) : RV := match args with
  | s :: r => match s with
    | .str l n => match r with
      | c :: r => match r with
        | [] => match c with
          | .int k v => match v with
            | .ofNat m => bif decide (k = .u8) && Nat.blt m 256 then forceI (fun i => .ok (.int .i64 i) st) (idxByte m l n 0) else .err 123
            | _ => .err 123
          | _ => .err 123
        | _ => .err 123
      | _ => .err 123
    | _ => .err 123
  | _ => .err 123
noncomputable def externF (id : Nat) (args : List CV) (st : St) : RV := match id with
  | 1 => indexByteF args st
  | _ => .err 80
noncomputable def callG (P : Program) (g : Nat) (args : List CV) (call : Caller) (st : St) : RV := match enters P g with
  | true => call g args st
  | false => externF (externId P g) args st
noncomputable def callV (P : Program) (f : CV) (args : List CV) (call : Caller) (st : St) : RV := match f with
  | .func f fi ca => match f with
    | .func g => callG P g (fi ++ args ++ ca) call st
    | _ => .err 80
  | _ => .err 81

noncomputable def intAt (v : CV) (K : Nat → RV) : RV := match v with
  | .int _ n => match n with
    | .ofNat n => K n
    | _ => .err 83
  | _ => .err 84

noncomputable def oRange (P : Program) (t : Nat) (x : Ev) : OpF := match P.underlying t with
  | some d => match d with
    | .string => ⟨fun _ env loc st => strOf (x.f env loc) fun l n => newObj (.siter l n 0) st fun b st => .ok (.ptr b 0) st⟩
    | _ => none1 85
  | none => none1 86
noncomputable def nextStr (l n p b : Nat) (st : St) : RV := bif Nat.blt p l then
    forceN (fun c => bif Nat.blt c 128 then forceN (fun q => setObj (.siter l n q) b st fun st => .ok (.tup [.bool true, .int .i64 (.ofNat p), .int .i32 (.ofNat c)]) st) (Nat.succ p) else .err 87) (byteAt n p)
  else .ok (.tup [.bool false]) st
noncomputable def oNext (x : Ev) (isString : Bool) : OpF := match isString with
  | true => ⟨fun _ env loc st => match x.f env loc with
    | .ptr b o => match Nat.beq o 0 with
      | true => match st.heap.get b with
        | some ob => match ob with
          | .siter l n p => nextStr l n p b st
          | _ => .err 88
        | none => .err 89
      | false => .err 90
    | _ => .err 91⟩
  | false => none1 92

/-- x[lo:hi] of a string -/
noncomputable def sliceStr (l n lo hi : Nat) (st : St) : RV := bif Nat.ble lo hi && Nat.ble hi l then strV (Nat.sub hi lo) (low (Nat.sub hi lo) (Nat.shiftRight n (Nat.mul 8 lo))) st else .err 93
noncomputable def optInt (cx : Cx) (x : Option Operand) : Box (List CV → Loc → Nat → (Nat → RV) → RV) := match x with
  | some o => ⟨fun env loc _ K => intAt ((ev cx o).f env loc) K⟩
  | none => ⟨fun _ _ d K => K d⟩
noncomputable def oSlice (P : Program) (cx : Cx) (t : Nat) (x : Ev) (lo hi mx : Option Operand) : OpF := match P.underlying t, mx with
  | some d, none => match d with
    | .string => ⟨fun _ env loc st => strOf (x.f env loc) fun l n => (optInt cx hi).f env loc l fun h => (optInt cx lo).f env loc 0 fun q => sliceStr l n q h st⟩
    | _ => none1 94
  | _, _ => none1 95

noncomputable def lenStr (v : CV) (st : St) : RV := match v with
  | .str l _ => .ok (.int .i64 (.ofNat l)) st
  | _ => .err 96
noncomputable def lenSl (v : CV) (st : St) : RV := match v with
  | .slice _ _ l _ _ => .ok (.int .i64 (.ofNat l)) st
  | .nils => .ok (.int .i64 (.ofNat 0)) st
  | _ => .err 96

/-- append(s, x): x's elements and cells -/
noncomputable def xCells (es : Nat) (x : CV) (st : St) (K : Nat → List CV → RV) : RV := match x with
  | .nils => K 0 []
  | .slice b o l _ _ => match cellsAt b st with
    | some cells => match loadN cells (Nat.mul l es) o with
      | some cs => K l cs
      | none => .err 97
    | none => .err 98
  | .str l n => bif Nat.beq es 1 then K l (byteCells l n) else .err 99
  | _ => .err 99
noncomputable def appendNew (es fr : Nat) (old new : List CV) (need : Nat) (st : St) : RV := rowF (old ++ new) es fr st fun b st => .ok (.slice b 0 need need true) st
def roomFor (need by_ : Nat) : Bool := Nat.ble need 4294967296 && Nat.ble (Nat.mul (Nat.add (Nat.mul 2 need) 768) by_) 281474976710656
/-- the old row is given up: the new one may lie in its place -/
noncomputable def appendOpen (es : Nat) (old new : List CV) (need b o l c : Nat) (st : St) : RV := match st.heap.get b with
  | some ob => match ob with
    | .row _ n' es' fr => bif Nat.beq es es' && (Nat.beq (Nat.add o (Nat.mul c es)) n' && (Nat.ble fr (Nat.add o (Nat.mul l es)) && new.all oneCell)) then
        setObj .dead b st fun st => appendNew es (Nat.sub fr o) old new need st else .err 101
    | _ => .err 102
  | none => .err 103
noncomputable def appendTo (es by_ : Nat) (n : Nat) (new : List CV) (b o l c : Nat) (q : Bool) (st : St) : RV :=
  xCells es (.slice b o l c q) st fun _ old => forceN (fun need =>
    bif Nat.ble need c then (bif Nat.beq n 0 then .ok (.slice b o l c q) st else storeAt new b (Nat.add o (Nat.mul l es)) st fun st => .ok (.slice b o need c q) st)
    else bif roomFor need by_ then match q with
      | true => appendOpen es old new need b o l c st
      | false => appendNew es 0 old new need st
    else .err 104) (Nat.add l n)
noncomputable def appendF (es by_ : Nat) (x y : Ev) : OpF := ⟨fun _ env loc st => xCells es (y.f env loc) st fun n new => match x.f env loc with
  | .nils => bif Nat.beq n 0 then .ok .nils st else bif roomFor n by_ then appendNew es 0 [] new n st else .err 100
  | .slice b o l c q => appendTo es by_ n new b o l c q st
  | _ => .err 105⟩
def noInt (P : Program) (t : Nat) : Bool := match P.underlying t with
  | some d => match d with
    | .slice _ => true
    | .string => true
    | _ => false
  | none => false
noncomputable def oAppend (P : Program) (t t2 : Nat) (x y : Ev) : OpF := match elemOfSlice P t with
  | some e => match szOf P e, byOf P e, zeroOf P e with
    | some es, some by_, some z => bif Nat.beq (len (cellsOf z)) es && noInt P t2 then appendF es by_ x y else none1 106
    | _, _, _ => none1 106
  | none => none1 107

def evAt (cx : Cx) (l : List Operand) (i : Nat) : Option Operand := l[i]?
noncomputable def oBuiltin (P : Program) (cx : Cx) (b : Builtin) (args : List Operand) (types : List TypeId) : OpF := match b with
  | .len => match args, types with
    | [x], [t] => match P.underlying t with
      | some d => match d with
        | .string => ⟨fun _ env loc st => lenStr ((ev cx x).f env loc) st⟩
        | .slice _ => ⟨fun _ env loc st => lenSl ((ev cx x).f env loc) st⟩
        | .array n _ => ⟨fun _ _ _ st => .ok (.int .i64 (.ofNat n)) st⟩
        | _ => none1 108
      | none => none1 109
    | _, _ => none1 110
  | .append => match args, types with
    | [x, y], [t, t2] => oAppend P t t2 (ev cx x) (ev cx y)
    | _, _ => none1 111
  | _ => none1 112

noncomputable def oCall (P : Program) (cx : Cx) (c : Call) : OpF := match c.callee with
  | .value f => ⟨fun call env loc st => callV P ((ev cx f).f env loc) ((evs cx c.args.toList).f env loc) call st⟩
  | .builtin b => oBuiltin P cx b c.args.toList c.argTypes.toList
  | .invoke _ _ => none1 113

noncomputable def opF (P : Program) (cx : Cx) (op : Op) : OpF := match op with
  | .move x => oMove (ev cx x)
  | .assign x => oMove (ev cx x)
  | .pick c a b => oPick (ev cx c) (ev cx a) (ev cx b)
  | .alloc t => oAlloc (zeroOf P t) (szOf P t)
  | .box t x => oBox (szOf P t) (ev cx x)
  | .build t parts => oBuild P cx t parts.toList
  | .buildSlice t n parts => oBuildSlice P cx t n parts.toList
  | .load t a => oLoad (aggOf P t) (szOf P t) (ev cx a)
  | .store t a x => oStore (szOf P t) (ev cx a) (ev cx x)
  | .nilCheck x => oNilCheck (ev cx x)
  | .binOp op t x y _ => oBinOp (kindOf P t) (isLit x || isLit y) op (ev cx x) (ev cx y)
  | .unOp op _ x => oUnOp op (ev cx x)
  | .convert s t x => oConvert P s t (ev cx x)
  | .fieldAddr t x f => oFieldAddr (offOf P t f) (ev cx x)
  | .indexAddr t x i => oIndexAddr P t (ev cx x) (ev cx i)
  | .index t x i => oIndex P t (ev cx x) (ev cx i)
  | .slice t x lo hi mx => oSlice P cx t (ev cx x) lo hi mx
  | .range t x => oRange P t (ev cx x)
  | .next x s => oNext (ev cx x) s
  | .extract x i => oExtract (ev cx x) i
  | .call c => oCall P cx c
  | _ => none1 114

/-! ## Regions -/
abbrev RegF := Box (Caller → List CV → Loc → St → R)
/-- may the operation run? (none: it cannot be told) -/
noncomputable def guardF (cx : Cx) (ops : List Oper) (g : Option (Nat × Bool)) : Box (List CV → Loc → (Bool → R) → R) := match g with
  | none => ⟨fun _ _ K => K true⟩
  | some (j, w) => match ops[j]? with
    | some o => match o.dst with
      | some d => ⟨fun env loc K => match (evTmpAt d (pos cx.vars d)).f env loc with
        | .bool b => K (b == w)
        | .unk => .err 115
        | _ => K false⟩
      | none => ⟨fun _ _ K => K false⟩
    | none => ⟨fun _ _ K => K false⟩

noncomputable def opsF (P : Program) (cx : Cx) (all : List Oper) (l : List Oper) : RegF := match l with
  | [] => ⟨fun _ env _ st => .ok .normal env st⟩
  | o :: r => match o.guard with
    | none => ⟨fun call env loc st => match (opF P cx o.op).f call env loc st with
      | .ok v st => (put cx o.dst).f v env loc (fun env loc st => (opsF P cx all r).f call env loc st) st
      | .pan v st => .ok (.panic v) env st
      | .err n => .err n⟩
    | some g => ⟨fun call env loc st => (guardF cx all (some g)).f env loc fun b => match b with
      | true => match (opF P cx o.op).f call env loc st with
        | .ok v st => (put cx o.dst).f v env loc (fun env loc st => (opsF P cx all r).f call env loc st) st
        | .pan v st => .ok (.panic v) env st
        | .err n => .err n
      | false => (put cx o.dst).f (.tup []) env loc (fun env loc st => (opsF P cx all r).f call env loc st) st⟩

/-! ## Regions that draw their order -/
mutual
def eqCV : CV → CV → Bool
  | .bool a, .bool b => a == b
  | .int k a, .int j b => decide (k = j) && (a == b)
  | .float k a, .float j b => decide (k = j) && Nat.beq a b
  | .str l n, .str m k => Nat.beq l m && Nat.beq n k
  | .sym i, .sym j => Nat.beq i j
  | .ptr b o, .ptr c p => Nat.beq b c && Nat.beq o p
  | .nilp, .nilp => true
  | .slice b o l c q, .slice b' o' l' c' q' => Nat.beq b b' && (Nat.beq o o' && (Nat.beq l l' && (Nat.beq c c' && (q == q'))))
  | .nils, .nils => true
  | .map b, .map c => Nat.beq b c
  | .nilm, .nilm => true
  | .func (.func f) fi ca, .func (.func g) fj cb => Nat.beq f g && (eqCVs fi fj && eqCVs ca cb)
  | .nilf, .nilf => true
  | .iface t v, .iface u w => Nat.beq t u && eqCV v w
  | .nili, .nili => true
  | .agg l, .agg m => eqCVs l m
  | .tup l, .tup m => eqCVs l m
  | _, _ => false
def eqCVs : List CV → List CV → Bool
  | [], [] => true
  | x :: r, y :: s => eqCV x y && eqCVs r s
  | _, _ => false
end

/-- an operation that leaves the state as it is, whatever it answers -/
def reads (P : Program) : Op → Bool
  | .move _ => true
  | .assign _ => true
  | .pick _ _ _ => true
  | .build _ _ => true
  | .load _ _ => true
  | .nilCheck _ => true
  | .binOp _ _ _ _ _ => true
  | .unOp _ _ _ => true
  | .convert _ t _ => match P.underlying t with
    | some d => match d with
      | .slice _ => false
      | _ => true
    | none => true
  | .slice _ _ _ _ _ => true
  | .fieldAddr _ _ _ => true
  | .indexAddr _ _ _ => true
  | .index _ _ _ => true
  | .extract _ _ => true
  | .call c => match c.callee with
    | .builtin b => match b with
      | .len => true
      | _ => false
    | _ => false
  | _ => false

def maskOf (acc : List Nat) (es : List Edge) : Nat := match es with
  | [] => 0
  | e :: r => bif Region.binds .any e then Nat.lor (Nat.pow 2 e.on) (Nat.lor (acc.getD e.on 0) (maskOf acc r)) else maskOf acc r
/-- what stands ahead of each operation, as numbers' bits -/
def ancs (l : List Oper) (acc : List Nat) : List Nat := match l with
  | [] => acc
  | o :: r => ancs r (acc ++ [maskOf acc o.after.toList])
def edgesOk (i : Nat) (l : List Oper) : Bool := match l with
  | [] => true
  | o :: r => o.after.toList.all (fun e => !Region.binds .any e || Nat.blt e.on i) && edgesOk (Nat.succ i) r
def changersAt (P : Program) (i : Nat) (l : List Oper) : List Nat := match l with
  | [] => []
  | o :: r => bif reads P o.op then changersAt P (Nat.succ i) r else i :: changersAt P (Nat.succ i) r
/-- each changer stands ahead of the later ones; operations without an order between them look at slots of their own -/
def pairOk (P : Program) (ops : Array Oper) (A : List Nat) (i j : Nat) : Bool := match ops[i]?, ops[j]? with
  | some x, some y => Nat.testBit (A.getD j 0) i || ((reads P x.op || reads P y.op) && Oper.apart ops x y)
  | _, _ => true
def pairsOk (P : Program) (ops : Array Oper) (A : List Nat) : Bool := (List.range ops.size).all fun j => (List.range j).all fun i => pairOk P ops A i j
def drawStatic (P : Program) (ops : Array Oper) : Bool := edgesOk 0 ops.toList && (pairsOk P ops (ancs ops.toList []) && Region.noSelect ops)
/-- how many changers surely stand ahead of operation i; at most; in the text -/
def loOf (A : List Nat) (C : List Nat) (i : Nat) : Nat := (C.filter fun c => Nat.testBit (A.getD i 0) c).length
def hiOf (A : List Nat) (C : List Nat) (i : Nat) : Nat := (C.filter fun c => !Nat.testBit (A.getD c 0) i).length
def atOf (C : List Nat) (i : Nat) : Nat := (C.filter fun c => Nat.blt c i).length

structure Rec where
  o : Oper
  env : List CV
  loc : Loc
  st : St
  v : CV
  wanted : Bool

abbrev DrawF := Box (Caller → List CV → Loc → St → (List Rec → List CV → St → R) → R)
noncomputable def drawRun (P : Program) (cx : Cx) (all : List Oper) (l : List Oper) : DrawF := match l with
  | [] => ⟨fun _ env _ st K => K [] env st⟩
  | o :: r => ⟨fun call env loc st K => (guardF cx all o.guard).f env loc fun b => match b with
      | true => match (opF P cx o.op).f call env loc st with
        | .ok v st' => (put cx o.dst).f v env loc (fun env' loc' st' => (drawRun P cx all r).f call env' loc' st' fun recs => K (⟨o, env, loc, st, v, true⟩ :: recs)) st'
        | .pan _ _ => .err 130
        | .err n => .err n
      | false => (put cx o.dst).f (.tup []) env loc (fun env' loc' st' => (drawRun P cx all r).f call env' loc' st' fun recs => K (⟨o, env, loc, st, .tup [], false⟩ :: recs)) st⟩

/-- a reading operation answers the same in another state -/
noncomputable def sameAt (P : Program) (cx : Cx) (call : Caller) (r : Rec) (st : St) : Bool := match (opF P cx r.o.op).f call r.env r.loc st with
  | .ok v _ => eqCV v r.v
  | _ => false
noncomputable def stay (P : Program) (cx : Cx) (call : Caller) (H : List St) (r : Rec) (lo hi at_ : Nat) : Bool :=
  (List.range (Nat.succ hi)).all fun k => Nat.blt k lo || (Nat.beq k at_ || match H[k]? with
    | some st => sameAt P cx call r st
    | none => false)
noncomputable def stayAll (P : Program) (cx : Cx) (call : Caller) (A C : List Nat) (H : List St) (i : Nat) (l : List Rec) : Bool := match l with
  | [] => true
  | r :: l => (!(reads P r.o.op && r.wanted) || stay P cx call H r (loOf A C i) (hiOf A C i) (atOf C i)) && stayAll P cx call A C H (Nat.succ i) l
def statesOf (P : Program) (l : List Rec) (last : St) : List St := match l with
  | [] => [last]
  | r :: l => bif reads P r.o.op then statesOf P l last else r.st :: statesOf P l last
noncomputable def drawF (P : Program) (cx : Cx) (ops : Array Oper) : Box (Caller → List CV → St → R) := match drawStatic P ops with
  | true => ⟨fun call env st => (drawRun P cx ops.toList ops.toList).f call env .nil st fun recs env st =>
      bif stayAll P cx call (ancs ops.toList []) (changersAt P 0 ops.toList) (statesOf P recs st) 0 recs then .ok .normal env st else .err 131⟩
  | false => ⟨fun _ _ _ => .err 132⟩

/-! ## Code -/
abbrev CodeF := Box (Caller → List CV → St → R)
noncomputable def loopF (f : List CV → St → R) (n : Nat) : List CV → St → R :=
  Nat.rec (motive := fun _ => List CV → St → R) (fun _ _ => .err 116) (fun _ ih env st => match f env st with
    | .ok e env st => match e with
      | .normal => ih env st
      | e => .ok e env st
    | .err n => .err n) n

noncomputable def den (P : Program) (cx : Cx) (c : Code) : CodeF := match c with
  | .skip => ⟨fun _ env st => .ok .normal env st⟩
  | .label _ => ⟨fun _ env st => .ok .normal env st⟩
  | .region _ ops draw => match draw with
    | false => ⟨fun call env st => (opsF P cx ops.toList ops.toList).f call env .nil st⟩
    | true => drawF P cx ops
  | .seq a b => ⟨fun call env st => match (den P cx a).f call env st with
    | .ok e env st => match e with
      | .normal => (den P cx b).f call env st
      | e => .ok e env st
    | .err n => .err n⟩
  | .cond x a b => ⟨fun call env st => match (ev cx x).f env .nil with
    | .bool t => match t with
      | true => (den P cx a).f call env st
      | false => (den P cx b).f call env st
    | _ => .err 117⟩
  | .block id a => ⟨fun call env st => match (den P cx a).f call env st with
    | .ok e env st => match e with
      | .exit j => bif Nat.beq j id then .ok .normal env st else .ok (.exit j) env st
      | e => .ok e env st
    | .err n => .err n⟩
  | .loop a => ⟨fun call env st => loopF ((den P cx a).f call) 10000000 env st⟩
  | .exit id => ⟨fun _ env st => .ok (.exit id) env st⟩
  | .scope a => ⟨fun call env st => (den P cx a).f call env st⟩
  | .ret => ⟨fun _ env st => .ok .ret env st⟩
  | _ => ⟨fun _ _ _ => .err 118⟩

/-! ## Calls -/
def initEnv (vars : List Nat) (args : List CV) : List CV := match vars with
  | [] => []
  | t :: r => args.getD t .unk :: initEnv r args

noncomputable def resOne (P : Program) (cx : Cx) (r : ResultVar) : Box (List CV → St → (CV → RV) → RV) := match r with
  | .tmp t => ⟨fun env st K => K ((evTmpAt t (pos cx.vars t)).f env .nil)⟩
  | .cell t ty => match aggOf P ty, szOf P ty with
    | some g, some n => ⟨fun env st K => match (evTmpAt t (pos cx.vars t)).f env .nil with
      | .ptr b o => loadAt g n b o st K
      | _ => .err 119⟩
    | _, _ => ⟨fun _ _ _ => .err 120⟩
noncomputable def resL (P : Program) (cx : Cx) (l : List ResultVar) : Box (List CV → St → (List CV → RV) → RV) := match l with
  | [] => ⟨fun _ _ K => K []⟩
  | r :: l => ⟨fun env st K => (resOne P cx r).f env st fun v => (resL P cx l).f env st fun vs => K (v :: vs)⟩
noncomputable def resF (P : Program) (cx : Cx) (l : List ResultVar) : Box (List CV → St → RV) := match l with
  | [r] => ⟨fun env st => (resOne P cx r).f env st fun v => .ok v st⟩
  | l => ⟨fun env st => (resL P cx l).f env st fun vs => .ok (.tup vs) st⟩

def setDfs (d : List Dfr) (st : St) : St := match st with | ⟨h, n, _⟩ => ⟨h, n, d⟩
/-- a function whose code has ended: its results; the caller's deferred calls again -/
noncomputable def endF (P : Program) (cx : Cx) (l : List ResultVar) (d : List Dfr) (r : R) : RV := match r with
  | .err n => .err n
  | .ok e env st => match st with
    | ⟨h, n, ds⟩ => match ds with
      | [] => match e with
        | .normal => (resF P cx l).f env ⟨h, n, d⟩
        | .ret => (resF P cx l).f env ⟨h, n, d⟩
        | .panic v => .pan v ⟨h, n, d⟩
        | .exit _ => .err 121
      | _ => .err 122

noncomputable def funF (P : Program) (G : Nat) (hint : Nat → List Nat) (f : Nat) : Box (Caller → List CV → St → RV) := match P.funcs[f]? with
  | some fn => match fn.body with
    | some c => ⟨fun call args st => match st with
      | ⟨h, n, d⟩ => bif Nat.ble (len args) fn.ntmps then
          endF P ⟨hint f, fn.ntmps, G⟩ fn.results.toList d ((den P ⟨hint f, fn.ntmps, G⟩ c).f call (initEnv (hint f) args) ⟨h, n, []⟩)
        else .err 123⟩
    | none => ⟨fun _ _ _ => .err 124⟩
  | none => ⟨fun _ _ _ => .err 125⟩

noncomputable def run (P : Program) (G : Nat) (hint : Nat → List Nat) (n : Nat) : Caller :=
  Nat.rec (motive := fun _ => Caller) (fun _ _ _ => .err 126) (fun _ ih f args st => (funF P G hint f).f ih args st) n
end Go.Proofs.YtonlahgagjejeaaGreatDoorX
