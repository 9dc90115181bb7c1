/- An efficient interpreter of the model's code over a small heap of its own (definitions). -/
import Derived.Calls
import Derived.Orders
namespace Go.Proofs.YtbmbjaogcmokoaaGreatDoorX
open Go
set_option linter.unusedVariables false

/-! ## Trees -/
inductive T (α : Type) where
  | nil
  | node (v : Option α) (a b c d : T α)

noncomputable def T.pick {β : Type} (a b c d : β) (r : Nat) : β :=
  Nat.rec (motive := fun _ => β) a (fun r _ => Nat.rec (motive := fun _ => β) b (fun r _ => Nat.rec (motive := fun _ => β) c (fun _ _ => d) r) r) r

noncomputable def T.get {α : Type} (t : T α) : Nat → Option α :=
  T.rec (motive := fun _ => Nat → Option α) (fun _ => none)
    (fun v _ _ _ _ ga gb gc gd n => Nat.rec (motive := fun _ => Option α) v (fun m _ => T.pick ga gb gc gd (Nat.mod m 4) (Nat.div m 4)) n) t

noncomputable def T.single {α : Type} (x : α) (fuel : Nat) : Nat → T α :=
  Nat.rec (motive := fun _ => Nat → T α) (fun _ => .nil)
    (fun _ ih n => Nat.rec (motive := fun _ => T α) (.node (some x) .nil .nil .nil .nil)
      (fun m _ => T.pick (fun s => .node none s .nil .nil .nil) (fun s => .node none .nil s .nil .nil) (fun s => .node none .nil .nil s .nil) (fun s => .node none .nil .nil .nil s)
        (Nat.mod m 4) (ih (Nat.div m 4))) n) fuel

noncomputable def T.set {α : Type} (t : T α) (x : α) : Nat → T α :=
  T.rec (motive := fun _ => Nat → T α) (fun n => T.single x (Nat.succ n) n)
    (fun v a b c d sa sb sc sd n => Nat.rec (motive := fun _ => T α) (.node (some x) a b c d)
      (fun m _ => T.pick (fun q => .node v (sa q) b c d) (fun q => .node v a (sb q) c d) (fun q => .node v a b (sc q) d) (fun q => .node v a b c (sd q))
        (Nat.mod m 4) (Nat.div m 4)) n) t

/-! ## Values: addresses are numbers of the own heap; a string is a length and a number (its bytes, the first one lowest) -/
inductive CV where
  | unk
  | bool (b : Bool)
  | int (k : IntKind) (n : Int)
  | float (k : FloatKind) (bits : Nat)
  | str (len n : Nat)
  | sym (i : Nat) (big : Bool)        -- a string that is not looked into: is it longer than 67108864?
  | slen (big : Bool)                 -- such a string's length
  | smod (r : Int)                    -- an integer of which the remainder by 40 is known
  | ptr (b o : Nat)
  | nilp
  | slice (b o len cap : Nat) (op : Bool)
  | nils
  | map (b : Nat)
  | nilm
  | func (fn : Fn) (first captured : List CV)
  | nilf
  | iface (t : TypeId) (v : CV)
  | nili
  | agg (l : List CV)
  | tup (l : List CV)

structure Ent where
  key : CV
  val : CV
  born : Nat

/-- what is known of a row's block: the type of its elements; whether it begins where the block does; whether it ends there; whether its frozen cells lie below 'fr' -/
structure Inf where
  ty : Option Nat
  z : Bool
  wh : Bool
  low : Bool

inductive Obj where
  | row (cells : T CV) (n : Nat) (es : Nat) (fr : Nat) (inf : Inf)      -- n cells, an element has es; the cells below fr may be frozen
  | ro (cells : T CV) (n : Nat)                             -- what was there when the call began: it is only read
  | map (es : List Ent) (clock : Nat)
  | siter (len n pos : Nat)
  | miter (m : Option Nat) (since : Nat) (seen : List Nat) (stepped : Nat)
  | coll                                                    -- the deferred calls of a loop's rounds: none
  | dead

structure Dfr where
  fn : CV
  args : List CV

structure St where
  heap : T Obj
  next : Nat
  dfs : List Dfr

inductive Ex where
  | normal
  | exit (id : Nat)
  | ret
  | panic (v : CV)

inductive R where
  | err (n : Nat)
  | ok (e : Ex) (env : List CV) (st : St)

inductive RV where
  | err (n : Nat)
  | pan (v : CV) (st : St)
  | ok (v : CV) (st : St)

structure Box (α : Type) where
  f : α

/-! ## Constants -/
def packL : List UInt8 → Nat
  | [] => 0
  | b :: l => b.toNat + 256 * packL l

def ofCell : Value → CV
  | .bool b => .bool b
  | .int k n => .int k n
  | .float k n => .float k n
  | .string s => .str s.data.toList.length (packL s.data.toList)
  | .pointer none => .nilp
  | .slice none 0 0 => .nils
  | .map none => .nilm
  | .nilFunc => .nilf
  | .nilIface => .nili
  | _ => .unk

def ofValue : Value → CV
  | .agg cs => .agg (cs.toList.map ofCell)
  | .tuple cs => .tup (cs.toList.map ofCell)
  | v => ofCell v

/-! ## Slots: a list of the values of a function's kept slots ('vars'), and an assoc list of those of the region at hand -/
inductive Loc where
  | nil
  | cons (t : Nat) (v : CV) (r : Loc)

noncomputable def Loc.look (l : Loc) (t : Nat) : CV := Loc.rec (motive := fun _ => CV) .unk (fun u v _ ih => Bool.rec (motive := fun _ => CV) ih v (Nat.beq u t)) l

noncomputable def nth (l : List CV) : Nat → CV := List.rec (motive := fun _ => Nat → CV) (fun _ => .unk) (fun v _ ih n => Nat.rec (motive := fun _ => CV) v (fun m _ => ih m) n) l
noncomputable def setNth (l : List CV) (x : CV) : Nat → List CV :=
  List.rec (motive := fun _ => Nat → List CV) (fun _ => []) (fun v r ih n => Nat.rec (motive := fun _ => List CV) (x :: r) (fun m _ => v :: ih m) n) l

def pos (vars : List Nat) (t : Nat) : Option Nat := match vars with
  | [] => none
  | u :: r => bif Nat.beq u t then some 0 else match pos r t with
    | none => none
    | some k => some (Nat.succ k)

/-- What a function's code is run with: its kept slots, how many slots it has. -/
structure Cx where
  vars : List Nat
  nt : Nat
  ng : Nat

noncomputable def look (cx : Cx) (env : List CV) (loc : Loc) (t : Nat) : CV := match pos cx.vars t with
  | some k => nth env k
  | none => loc.look t

abbrev Ev := Box (List CV → Loc → CV)
noncomputable def evTmpAt (t : Nat) (p : Option Nat) : Ev := match p with
  | some k => ⟨fun env _ => nth env k⟩
  | none => ⟨fun _ loc => loc.look t⟩
noncomputable def ev (cx : Cx) (x : Operand) : Ev := match x with
  | .tmp t => evTmpAt t (pos cx.vars t)
  | .const v => ⟨fun _ _ => ofValue v⟩
  | .global g => match Nat.blt g cx.ng with
    | true => ⟨fun _ _ => .ptr g 0⟩
    | false => ⟨fun _ _ => .unk⟩
  | .func f => ⟨fun _ _ => .func (.func f) [] []⟩

noncomputable def evs (cx : Cx) (l : List Operand) : Box (List CV → Loc → List CV) := match l with
  | [] => ⟨fun _ _ => []⟩
  | x :: r => ⟨fun env loc => (ev cx x).f env loc :: (evs cx r).f env loc⟩

/-- A value is put into a slot. -/
abbrev Put := Box (CV → List CV → Loc → (List CV → Loc → St → R) → St → R)
noncomputable def putAt (t : Nat) (p : Option Nat) : Put := match p with
  | some k => ⟨fun v env loc K st => K (setNth env v k) loc st⟩
  | none => ⟨fun v env loc K st => K env (.cons t v loc) st⟩
noncomputable def put (cx : Cx) (d : Option Nat) : Put := match d with
  | none => ⟨fun _ env loc K st => K env loc st⟩
  | some t => match Nat.blt t cx.nt with
    | true => putAt t (pos cx.vars t)
    | false => ⟨fun _ _ _ _ _ => .err 1⟩

/-! ## Integers, forced -/
noncomputable def forceN {β : Type} (k : Nat → β) (n : Nat) : β := Nat.rec (motive := fun _ => β) (k 0) (fun p _ => k (Nat.succ p)) n
noncomputable def forceI {β : Type} (k : Int → β) (n : Int) : β := Int.rec (motive := fun _ => β) (fun m => forceN (fun m => k (.ofNat m)) m) (fun m => forceN (fun m => k (.negSucc m)) m) n
noncomputable def wrapTo (k : IntKind) (n : Int) : RV → (CV → RV) → RV := fun _ K => forceI (fun m => K (.int k m)) (k.wrap n)

/-! ## Types, asked of the program (closed terms: reckoned once) -/
section
variable (P : Program)
def szOf (t : Nat) : Option Nat := (P.info? t).map (·.size)
def byOf (t : Nat) : Option Nat := (P.info? t).map (·.bytes)
def aggOf (t : Nat) : Option Bool := (P.underlying t).map fun d => match d with | .struct _ | .array _ _ => true | _ => false
def sound1 : CV → Option CV
  | .unk => none
  | .tup _ => none
  | v => some v
def zeroOf (t : Nat) : Option CV := match P.info? t with
  | some i => match i.zero with
    | some z => sound1 (ofValue z)
    | none => none
  | none => none
def offOf (t f : Nat) : Option Nat := match P.underlying t with
  | some (.struct fs) => match fs[f]? with
    | some x => match P.info? x.type with
      | some i => bif Nat.beq i.size 0 then none else some x.offset
      | none => none
    | none => none
  | _ => none
def elemOfSlice (t : Nat) : Option Nat := match P.underlying t with | some (.slice e) => some e | _ => none
end

def cellsOf : CV → List CV
  | .agg l => l
  | v => [v]

noncomputable def rowOf (l : List CV) : Nat → T CV → T CV :=
  List.rec (motive := fun _ => Nat → T CV → T CV) (fun _ t => t) (fun c _ ih i t => ih (Nat.succ i) (T.set t c i)) l

noncomputable def loadN (b : T CV) (n : Nat) : Nat → Option (List CV) :=
  Nat.rec (motive := fun _ => Nat → Option (List CV)) (fun _ => some []) (fun _ ih o =>
    Option.rec (motive := fun _ => Option (List CV)) none (fun v => Option.rec (motive := fun _ => Option (List CV)) none (fun l => some (v :: l)) (ih (Nat.succ o))) (b.get o)) n

noncomputable def len (l : List CV) : Nat := List.rec (motive := fun _ => Nat) 0 (fun _ _ ih => Nat.succ ih) l

/-! ## The heap -/
noncomputable def newRow (cs : List CV) (es : Nat) (inf : Inf) (st : St) (K : Nat → St → RV) : RV :=
  forceN (fun n => match st with | ⟨h, nx, d⟩ => forceN (fun nx' => K nx ⟨T.set h (.row (rowOf cs 0 .nil) n es 0 inf) nx, nx', d⟩) (Nat.succ nx)) (len cs)
noncomputable def newObj (o : Obj) (st : St) (K : Nat → St → RV) : RV :=
  match st with | ⟨h, nx, d⟩ => forceN (fun nx' => K nx ⟨T.set h o nx, nx', d⟩) (Nat.succ nx)
noncomputable def setObj (o : Obj) (b : Nat) (st : St) (K : St → RV) : RV := match st with | ⟨h, nx, d⟩ => K ⟨T.set h o b, nx, d⟩

/-- the cells of a row that can be read -/
noncomputable def cellsAt (b : Nat) (st : St) : Option (T CV) := match st.heap.get b with
  | some o => match o with
    | .row cells _ _ _ _ => some cells
    | .ro cells _ => some cells
    | _ => none
  | none => none

noncomputable def loadAt (agg : Bool) (n : Nat) (b o : Nat) (st : St) (K : CV → RV) : RV := match cellsAt b st with
  | some cells => match agg with
    | true => match loadN cells n o with
      | some l => K (.agg l)
      | none => .err 2
    | false => match cells.get o with
      | some v => K v
      | none => .err 3
  | none => .err 4

noncomputable def storeL (l : List CV) : T CV → Nat → T CV :=
  List.rec (motive := fun _ => T CV → Nat → T CV) (fun c _ => c) (fun v _ ih c o => ih (T.set c v o) (Nat.succ o)) l

def oneCell : CV → Bool
  | .agg _ => false
  | .tup _ => false
  | .unk => false
  | _ => true

/-- cells are stored: they lie in the row, behind what may be frozen; each is one cell -/
noncomputable def storeAt (l : List CV) (b o : Nat) (st : St) (K : St → RV) : RV := match st.heap.get b with
  | some x => match x with
    | .row cells n es fr inf => bif Nat.ble fr o && (Nat.ble (Nat.add o (len l)) n && l.all oneCell) then setObj (.row (storeL l cells o) n es fr inf) b st K else .err 5
    | _ => .err 6
  | none => .err 7

/-! ## Operations -/
abbrev Caller := Nat → List CV → St → RV
abbrev OpF := Box (Caller → List CV → Loc → St → RV)

def none1 (n : Nat) : OpF := ⟨fun _ _ _ _ => .err n⟩

noncomputable def oMove (x : Ev) : OpF := ⟨fun _ env loc st => .ok (x.f env loc) st⟩
noncomputable def oPick (c a b : Ev) : OpF := ⟨fun _ env loc st => match c.f env loc with
  | .bool t => match t with
    | true => .ok (a.f env loc) st
    | false => .ok (b.f env loc) st
  | _ => .err 8⟩
noncomputable def oNilCheck (x : Ev) : OpF := ⟨fun _ env loc st => match x.f env loc with
  | .ptr b o => .ok (.ptr b o) st
  | .slice b o l c q => .ok (.slice b o l c q) st
  | .func f a b => match f with
    | .func g => .ok (.func (.func g) a b) st
    | _ => .err 9
  | _ => .err 10⟩

noncomputable def oAlloc (t : Nat) (zero : Option CV) (es : Option Nat) : OpF := match zero, es with
  | some z, some n => ⟨fun _ _ _ st => newRow (cellsOf z) n ⟨some t, true, true, true⟩ st fun b st => .ok (.ptr b 0) st⟩
  | _, _ => none1 11
noncomputable def oBox (t : Nat) (es : Option Nat) (x : Ev) : OpF := match es with
  | some n => ⟨fun _ env loc st => match x.f env loc with
    | .unk => .err 12
    | .tup _ => .err 12
    | v => newRow (cellsOf v) n ⟨some t, true, true, true⟩ st fun b st => .ok (.ptr b 0) st⟩
  | none => none1 12

noncomputable def oLoad (agg : Option Bool) (sz : Option Nat) (a : Ev) : OpF := match agg, sz with
  | some g, some n => ⟨fun _ env loc st => match a.f env loc with
    | .ptr b o => loadAt g n b o st fun v => .ok v st
    | _ => .err 13⟩
  | _, _ => none1 14

noncomputable def oStore (sz : Option Nat) (a x : Ev) : OpF := match sz with
  | some n => ⟨fun _ env loc st => match a.f env loc with
    | .ptr b o => (fun l => bif Nat.beq (len l) n then storeAt l b o st fun st => .ok (.tup []) st else .err 15) (cellsOf (x.f env loc))
    | _ => .err 16⟩
  | none => none1 17

/-- n values laid over a list from a place on -/
noncomputable def over (cs : List CV) (l : List CV) : Nat → List CV :=
  List.rec (motive := fun _ => List CV → Nat → List CV) (fun _ _ => []) (fun c _ ih l off =>
    Nat.rec (motive := fun _ => List CV) (List.rec (motive := fun _ => List CV) (c :: ih [] 0) (fun x r _ => x :: ih r 0) l) (fun m _ => c :: ih l m) off) cs l

/-- the places of a literal's parts: (offset, size) -/
def placesOf (P : Program) (fs : List Field) : Option (List (Nat × Nat)) := match fs with
  | [] => some []
  | f :: r => match P.info? f.type, placesOf P r with
    | some i, some l => some ((f.offset, i.size) :: l)
    | _, _ => none
def nthP (l : List (Nat × Nat)) (i : Nat) : Option (Nat × Nat) := l[i]?

noncomputable def fillF (place : Nat → Option (Nat × Nat)) (cx : Cx) (parts : List (Nat × Operand)) (size : Nat) : Box (List CV → List CV → Loc → (List CV → RV) → RV) := match parts with
  | [] => ⟨fun cs _ _ K => K cs⟩
  | (i, x) :: r => match place i with
    | none => ⟨fun _ _ _ _ => .err 18⟩
    | some (off, n) => bif Nat.ble (Nat.add off n) size then
        ⟨fun cs env loc K => (fun l => bif Nat.beq (len l) n && l.all oneCell then (fillF place cx r size).f (over cs l off) env loc K else .err 19) (cellsOf ((ev cx x).f env loc))⟩
      else ⟨fun _ _ _ _ => .err 20⟩

noncomputable def buildF (cx : Cx) (z : List CV) (place : Nat → Option (Nat × Nat)) (parts : List (Nat × Operand)) : OpF :=
  ⟨fun _ env loc st => (fillF place cx parts (len z)).f z env loc fun l => .ok (.agg l) st⟩
noncomputable def oBuild (P : Program) (cx : Cx) (t : Nat) (parts : List (Nat × Operand)) : OpF := match zeroOf P t, P.underlying t with
  | some z, some d => match d with
    | .struct fs => match placesOf P fs.toList with
      | some ps => buildF cx (cellsOf z) (fun i => ps[i]?) parts
      | none => none1 21
    | .array _ e => match szOf P e with
      | some n => buildF cx (cellsOf z) (fun i => some (Nat.mul i n, n)) parts
      | none => none1 22
    | _ => none1 23
  | _, _ => none1 24
noncomputable def repL (z : List CV) (n : Nat) : List CV := Nat.rec (motive := fun _ => List CV) [] (fun _ ih => z ++ ih) n
noncomputable def buildSliceF (cx : Cx) (n : Nat) (es : Nat) (z : List CV) (parts : List (Nat × Operand)) : OpF :=
  ⟨fun _ env loc st => (fillF (fun i => some (Nat.mul i es, es)) cx parts (len z)).f z env loc fun l => newRow l es ⟨none, true, false, true⟩ st fun b st => .ok (.slice b 0 n n false) st⟩
noncomputable def oBuildSlice (P : Program) (cx : Cx) (t n : Nat) (parts : List (Nat × Operand)) : OpF := match elemOfSlice P t with
  | some e => match szOf P e, zeroOf P e with
    | some es, some z => bif Nat.ble (Nat.mul n es) 16777216 && Nat.beq (len (cellsOf z)) es then buildSliceF cx n es (repL (cellsOf z) n) parts else none1 25
    | _, _ => none1 26
  | none => none1 27

noncomputable def oFieldAddr (off : Option Nat) (x : Ev) : OpF := match off with
  | some d => ⟨fun _ env loc st => match x.f env loc with
    | .ptr b o => forceN (fun o => .ok (.ptr b o) st) (Nat.add o d)
    | _ => .err 28⟩
  | none => none1 29

noncomputable def ixAddr (es b o len : Nat) (i : CV) (st : St) : RV := match i with
  | .int _ n => match n with
    | .ofNat n => bif Nat.blt n len then forceN (fun o => .ok (.ptr b o) st) (Nat.add o (Nat.mul n es)) else .err 30
    | _ => .err 31
  | _ => .err 32
noncomputable def oIndexAddr (P : Program) (t : Nat) (x i : Ev) : OpF := match P.underlying t with
  | some d => match d with
    | .array n e => match szOf P e with
      | some es => ⟨fun _ env loc st => match x.f env loc with
        | .ptr b o => ixAddr es b o n (i.f env loc) st
        | _ => .err 33⟩
      | none => none1 34
    | .slice e => match szOf P e with
      | some es => ⟨fun _ env loc st => match x.f env loc with
        | .slice b o n _ _ => ixAddr es b o n (i.f env loc) st
        | _ => .err 35⟩
      | none => none1 36
    | _ => none1 37
  | none => none1 38

/-- byte i of a string -/
noncomputable def byteAt (n i : Nat) : Nat := Nat.mod (Nat.shiftRight n (Nat.mul 8 i)) 256
noncomputable def oIndex (P : Program) (t : Nat) (x i : Ev) : OpF := match P.underlying t with
  | some d => match d with
    | .string => ⟨fun _ env loc st => match x.f env loc with
      | .str l n => match i.f env loc with
        | .int _ k => match k with
          | .ofNat k => bif Nat.blt k l then forceN (fun c => .ok (.int .u8 (.ofNat c)) st) (byteAt n k) else .err 39
          | _ => .err 40
        | _ => .err 41
      | _ => .err 42⟩
    | _ => none1 43
  | none => none1 44

noncomputable def intV (k : IntKind) (n : Int) (st : St) : RV := forceI (fun m => .ok (.int k m) st) (k.wrap n)
noncomputable def binInt (op : BinOp) : Box (IntKind → Int → Int → St → RV) := match op with
  | .add => ⟨fun k a b st => intV k (Int.add a b) st⟩
  | .sub => ⟨fun k a b st => intV k (Int.sub a b) st⟩
  | .mul => ⟨fun k a b st => intV k (Int.mul a b) st⟩
  | .quo => ⟨fun k a b st => match decide (b = 0) with | true => .err 45 | false => intV k (Int.tdiv a b) st⟩
  | .rem => ⟨fun k a b st => match decide (b = 0) with | true => .err 46 | false => forceI (fun m => .ok (.int k m) st) (Int.tmod a b)⟩
  | .and => ⟨fun k a b st => intV k (.ofNat (BitVec.ofInt k.bits a &&& BitVec.ofInt k.bits b).toNat) st⟩
  | .or => ⟨fun k a b st => intV k (.ofNat (BitVec.ofInt k.bits a ||| BitVec.ofInt k.bits b).toNat) st⟩
  | .xor => ⟨fun k a b st => intV k (.ofNat (BitVec.ofInt k.bits a ^^^ BitVec.ofInt k.bits b).toNat) st⟩
  | .andNot => ⟨fun k a b st => intV k (.ofNat (BitVec.ofInt k.bits a &&& ~~~BitVec.ofInt k.bits b).toNat) st⟩
  | .eql => ⟨fun k a b st => .ok (.bool (a == b)) st⟩
  | .neq => ⟨fun k a b st => .ok (.bool (a != b)) st⟩
  | .lss => ⟨fun k a b st => .ok (.bool (decide (a < b))) st⟩
  | .leq => ⟨fun k a b st => .ok (.bool (decide (a ≤ b))) st⟩
  | .gtr => ⟨fun k a b st => .ok (.bool (decide (a > b))) st⟩
  | .geq => ⟨fun k a b st => .ok (.bool (decide (a ≥ b))) st⟩
  | _ => ⟨fun _ _ _ _ => .err 47⟩
def isShift : BinOp → Bool
  | .shl => true
  | .shr => true
  | _ => false
noncomputable def shiftInt (op : BinOp) : Box (IntKind → Int → Int → St → RV) := match op with
  | .shl => ⟨fun k a b st => match b with
    | .ofNat n => intV k (Int.mul a (Int.ofNat (Nat.pow 2 (min n k.bits)))) st
    | _ => .err 48⟩
  | .shr => ⟨fun k a b st => match b with
    | .ofNat n => forceI (fun m => .ok (.int k m) st) (Int.fdiv a (Int.ofNat (Nat.pow 2 (min n k.bits))))
    | _ => .err 49⟩
  | _ => ⟨fun _ _ _ _ => .err 50⟩
noncomputable def low (l n : Nat) : Nat := Nat.mod n (Nat.pow 256 l)
noncomputable def eqStr (l n m k : Nat) : Bool := Nat.beq l m && Nat.beq (low l n) (low l k)
noncomputable def strV (l n : Nat) (st : St) : RV := forceN (fun l => forceN (fun n => .ok (.str l n) st) n) l
noncomputable def binStr (op : BinOp) : Box (Nat → Nat → Nat → Nat → St → RV) := match op with
  | .add => ⟨fun l n m k st => bif Nat.ble (Nat.add l m) 4294967296 then strV (Nat.add l m) (Nat.add (low l n) (Nat.shiftLeft k (Nat.mul 8 l))) st else .err 51⟩
  | .eql => ⟨fun l n m k st => .ok (.bool (eqStr l n m k)) st⟩
  | .neq => ⟨fun l n m k st => .ok (.bool (!eqStr l n m k)) st⟩
  | _ => ⟨fun _ _ _ _ _ => .err 52⟩
/-- a type's kind: 1 a bool, 2 a pointer (to what has cells), 3 a slice, 4 a map, 5 a function, 6 an interface -/
def kindOf (P : Program) (t : Nat) : Nat := match P.underlying t with
  | some d => match d with
    | .bool => 1
    | .pointer e => match szOf P e with
      | some n => bif Nat.beq n 0 then 0 else 2
      | none => 0
    | .slice _ => 3
    | .map _ _ => 4
    | .func _ _ _ => 5
    | .interface _ => 6
    | _ => 0
  | none => 0
noncomputable def guardK (kd n : Nat) (r : RV) : RV := bif Nat.beq kd n then r else .err 53
/-- a struct's fields, where each is an integer (1), a string (2) or a bool (3): where they lie -/
def fieldKind (P : Program) (t : Nat) : Nat := match P.underlying t with
  | some d => match d with
    | .int _ => 1
    | .string => 2
    | .bool => 3
    | _ => 0
  | none => 0
def eqList (P : Program) (l : List Field) : Option (List (Nat × Nat)) := match l with
  | [] => some []
  | f :: r => bif f.name == "_" || Nat.beq (fieldKind P f.type) 0 then none else match eqList P r with
    | some l => some ((f.offset, fieldKind P f.type) :: l)
    | none => none
def eqSpec (P : Program) (t : Nat) : Option (List (Nat × Nat)) := match P.underlying t with
  | some d => match d with
    | .struct fs => bif P.stoodInHeld t || P.eqGuardType P.depth t then none else eqList P fs.toList
    | _ => none
  | none => none
noncomputable def eqCell (k : Nat) (x y : CV) (K : Bool → RV) : RV := match x with
  | .int i a => match y with
    | .int j b => bif Nat.beq k 1 && decide (i = j) then K (a == b) else .err 220
    | _ => .err 221
  | .str l n => match y with
    | .str m q => bif Nat.beq k 2 then K (eqStr l n m q) else .err 222
    | _ => .err 223
  | .bool a => match y with
    | .bool b => bif Nat.beq k 3 then K (a == b) else .err 224
    | _ => .err 225
  | _ => .err 226
noncomputable def eqCells (xs ys : List CV) (K : Bool → RV) (l : List (Nat × Nat)) : RV :=
  List.rec (motive := fun _ => RV) (K true) (fun p _ ih => match p with
    | (o, k) => match xs[o]? with
      | some a => match ys[o]? with
        | some b => eqCell k a b fun t => bif t then ih else K false
        | none => .err 227
      | none => .err 228) l
def isLit : Operand → Bool
  | .const _ => true
  | _ => false
/-- a row of which no byte is a string's -/
noncomputable def plainRow (st : St) (b : Nat) : Bool := match st.heap.get b with
  | some o => match o with
    | .row _ _ _ fr inf => Nat.beq fr 0 && (inf.low && inf.z)
    | _ => false
  | none => false
noncomputable def plainRows (st : St) (b c : Nat) : Bool := plainRow st b && plainRow st c
/-- '==' where an operand is a nil, both are bools, or both are pointers -/
noncomputable def eqNil (kd : Nat) (lit : Bool) (es : Option (List (Nat × Nat))) (pq : Nat → Nat → Bool) (x y : CV) (K : Bool → RV) : RV := match x with
  | .bool a => match y with
    | .bool b => guardK kd 1 (K (a == b))
    | _ => .err 53
  | .nilp => match y with
    | .nilp => guardK kd 2 (K true)
    | .ptr _ _ => guardK kd 2 (K false)
    | _ => .err 54
  | .ptr b o => match y with
    | .nilp => guardK kd 2 (K false)
    | .ptr b' o' => bif Nat.beq b b' then guardK kd 2 (K (Nat.beq o o')) else bif pq b b' then guardK kd 2 (K false) else .err 55
    | _ => .err 55
  | .nils => match y with
    | .nils => guardK kd 3 (K true)
    | .slice _ _ _ _ _ => guardK kd 3 (K false)
    | _ => .err 56
  | .slice _ _ _ _ _ => match y with
    | .nils => guardK kd 3 (K false)
    | _ => .err 57
  | .nilm => match y with
    | .nilm => guardK kd 4 (K true)
    | .map _ => guardK kd 4 (K false)
    | _ => .err 58
  | .map _ => match y with
    | .nilm => guardK kd 4 (K false)
    | _ => .err 59
  | .nilf => match y with
    | .nilf => guardK kd 5 (K true)
    | .func _ _ _ => guardK kd 5 (K false)
    | _ => .err 60
  | .func _ _ _ => match y with
    | .nilf => guardK kd 5 (K false)
    | _ => .err 61
  | .nili => match y with
    | .iface _ _ => guardK kd 6 (K false)
    | .nili => bif lit then guardK kd 6 (K true) else .err 62
    | _ => .err 62
  | .iface _ _ => match y with
    | .nili => guardK kd 6 (K false)
    | _ => .err 63
  | .agg xs => match y with
    | .agg ys => match es with
      | some l => eqCells xs ys K l
      | none => .err 229
    | _ => .err 230
  | _ => .err 64
noncomputable def binOther (kd : Nat) (lit : Bool) (es : Option (List (Nat × Nat))) (op : BinOp) : Box (CV → CV → St → RV) := match op with
  | .eql => ⟨fun x y st => eqNil kd lit es (plainRows st) x y fun b => .ok (.bool b) st⟩
  | .neq => ⟨fun x y st => eqNil kd lit es (plainRows st) x y fun b => .ok (.bool (!b)) st⟩
  | _ => ⟨fun _ _ _ => .err 65⟩
noncomputable def symGtr (op : BinOp) (b : Bool) (y : CV) (st : St) : RV := match op with
  | .gtr => match y with
    | .int k n => bif decide (k = .i64) && decide (n = 67108864) then .ok (.bool b) st else .err 320
    | _ => .err 321
  | _ => .err 322
noncomputable def symRem (op : BinOp) (r : Int) (y : CV) (st : St) : RV := match op with
  | .rem => match y with
    | .int k n => bif decide (k = .i64) && decide (n = 40) then .ok (.int .i64 r) st else .err 323
    | _ => .err 324
  | _ => .err 325
noncomputable def binAny (kd : Nat) (lit : Bool) (es : Option (List (Nat × Nat))) (op : BinOp) (v : CV) (y : Ev) (env : List CV) (loc : Loc) (st : St) : RV := match v with
  | .int k a => match y.f env loc with
    | .int k' b => match decide (k = k') with
      | true => (binInt op).f k a b st
      | false => .err 68
    | _ => .err 69
  | .str l n => match y.f env loc with
    | .str m k => (binStr op).f l n m k st
    | _ => .err 70
  | .slen b => symGtr op b (y.f env loc) st
  | .smod r => symRem op r (y.f env loc) st
  | v => (binOther kd lit es op).f v (y.f env loc) st
noncomputable def oBinOp (kd : Nat) (lit : Bool) (es : Option (List (Nat × Nat))) (op : BinOp) (x y : Ev) : OpF := match isShift op with
  | true => ⟨fun _ env loc st => match x.f env loc with
    | .int k a => match y.f env loc with
      | .int _ b => (shiftInt op).f k a b st
      | _ => .err 66
    | _ => .err 67⟩
  | false => ⟨fun _ env loc st => binAny kd lit es op (x.f env loc) y env loc st⟩

noncomputable def oUnOp (op : UnOp) (x : Ev) : OpF := match op with
  | .not => ⟨fun _ env loc st => match x.f env loc with
    | .bool b => .ok (.bool (!b)) st
    | _ => .err 71⟩
  | .neg => ⟨fun _ env loc st => match x.f env loc with
    | .int k n => intV k (Int.sub 0 n) st
    | _ => .err 72⟩
  | _ => none1 73

noncomputable def strOf (v : CV) (K : Nat → Nat → RV) : RV := match v with
  | .str l n => K l n
  | _ => .err 82
/-- a string's bytes, as cells -/
noncomputable def byteCells (l n : Nat) : List CV := (Nat.rec (motive := fun _ => Nat → List CV) (fun _ => []) (fun _ ih n => forceN (fun c => forceN (fun m => CV.int .u8 (.ofNat c) :: ih m) (Nat.div n 256)) (Nat.mod n 256)) l) n
noncomputable def rowF (cs : List CV) (es fr : Nat) (inf : Inf) (st : St) (K : Nat → St → RV) : RV :=
  forceN (fun n => match st with | ⟨h, nx, d⟩ => forceN (fun nx' => K nx ⟨T.set h (.row (rowOf cs 0 .nil) n es fr inf) nx, nx', d⟩) (Nat.succ nx)) (len cs)
def isU8 (P : Program) (e : Nat) : Bool := match P.underlying e with
  | some d => match d with
    | .int k => decide (k = .u8)
    | _ => false
  | none => false
/-- bytes, as a string's number -/
noncomputable def packC (cs : List CV) (K : Nat → RV) : RV := (List.rec (motive := fun _ => (Nat → RV) → RV) (fun K => K 0)
  (fun c _ ih K => match c with
    | .int k v => match v with
      | .ofNat m => bif decide (k = .u8) && Nat.blt m 256 then ih fun r => forceN K (Nat.add m (Nat.mul 256 r)) else .err 116
      | _ => .err 117
    | _ => .err 118) cs) K
noncomputable def strOfBytes (v : CV) (st : St) : RV := match v with
  | .nils => .ok (.str 0 0) st
  | .slice b o l _ _ => match cellsAt b st with
    | some cells => match loadN cells l o with
      | some cs => packC cs fun n => .ok (.str l n) st
      | none => .err 119
    | none => .err 120
  | _ => .err 121
noncomputable def bytesOfStr (v : CV) (st : St) : RV := strOf v fun l n => rowF (byteCells l n) 1 0 ⟨none, true, false, false⟩ st fun b st => .ok (.slice b 0 l l true) st
/-- pointers seen as unsafe ones, and back -/
def ptrSize (P : Program) (t : Nat) : Option Nat := match P.underlying t with
  | some d => match d with
    | .pointer e => szOf P e
    | _ => none
  | none => none
def isUnsafe (P : Program) (t : Nat) : Bool := match P.underlying t with
  | some d => match d with
    | .unsafePointer => true
    | _ => false
  | none => false
noncomputable def toUnsafe (v : CV) (st : St) : RV := match v with
  | .nilp => .ok .nilp st
  | .ptr b o => match st.heap.get b with
    | some ob => match ob with
      | .row _ n _ _ _ => bif Nat.blt o n then .ok (.ptr b o) st else .err 170
      | _ => .err 171
    | none => .err 172
  | _ => .err 173
def lies (P : Program) (t n o u : Nat) : Bool := liesAt P P.depth t (n / P.cellsOf t) o u 1
noncomputable def fromUnsafe (P : Program) (u : Nat) (v : CV) (st : St) : RV := match v with
  | .nilp => .ok .nilp st
  | .ptr b o => match st.heap.get b with
    | some ob => match ob with
      | .row _ n _ _ inf => match inf.ty with
        | some t => bif inf.z && (inf.wh && lies P t n o u) then .ok (.ptr b o) st else .err 174
        | none => .err 175
      | _ => .err 176
    | none => .err 177
  | _ => .err 178
noncomputable def sliceData (v : CV) (st : St) : RV := match v with
  | .nils => .ok .nilp st
  | .slice b o _ c _ => bif Nat.beq c 0 then .err 179 else .ok (.ptr b o) st
  | _ => .err 180
/-- the string of n bytes at a row's head, which are frozen -/
noncomputable def strAt (e : Nat) (p : CV) (n : Nat) (st : St) : RV := match p with
  | .ptr b o => match st.heap.get b with
    | some ob => match ob with
      | .row cells m es fr inf => match inf.ty with
        | some t => bif Nat.beq t e && (Nat.beq o 0 && (inf.z && (inf.low && (Nat.ble n m && Nat.ble n 4294967296)))) then match loadN cells n 0 with
            | some cs => packC cs fun s => forceN (fun fr => setObj (.row cells m es fr inf) b st fun st => .ok (.str n s) st) (bif Nat.ble fr n then n else fr)
            | none => .err 181
          else .err 182
        | none => .err 183
      | _ => .err 184
    | none => .err 185
  | _ => .err 186
noncomputable def unsafeStr (e : Nat) (p l : CV) (st : St) : RV := match l with
  | .int k z => match z with
    | .ofNat n => match k with
      | .i64 => bif Nat.beq n 0 then (match p with
          | .nilp => .ok (.str 0 0) st
          | .ptr _ _ => .ok (.str 0 0) st
          | _ => .err 187) else strAt e p n st
      | _ => .err 188
    | _ => .err 189
  | _ => .err 190
/-- a pointer to bytes of one cell each -/
def bytePtr (P : Program) (t : Nat) : Option Nat := match P.underlying t with
  | some d => match d with
    | .pointer e => bif isU8 P e && Nat.beq (P.cellsOf e) 1 then some e else none
    | _ => none
  | none => none
noncomputable def oConvert (P : Program) (s t : Nat) (x : Ev) : OpF := match P.underlying s, P.underlying t with
  | some _, some d => match d with
    | .int k => ⟨fun _ env loc st => match x.f env loc with
      | .int _ n => intV k n st
      | _ => .err 74⟩
    | .string => match elemOfSlice P s with
      | some e => match isU8 P e with
        | true => ⟨fun _ env loc st => strOfBytes (x.f env loc) st⟩
        | false => none1 122
      | none => ⟨fun _ env loc st => match x.f env loc with
        | .str l n => .ok (.str l n) st
        | .sym i b => .ok (.sym i b) st
        | _ => .err 75⟩
    | .slice e => match isU8 P e with
      | true => ⟨fun _ env loc st => bytesOfStr (x.f env loc) st⟩
      | false => none1 76
    | .unsafePointer => match ptrSize P s with
      | some n => match Nat.beq n 0 with
        | true => none1 191
        | false => ⟨fun _ env loc st => toUnsafe (x.f env loc) st⟩
      | none => none1 192
    | .pointer u => match isUnsafe P s, szOf P u with
      | true, some _ => ⟨fun _ env loc st => fromUnsafe P u (x.f env loc) st⟩
      | _, _ => none1 193
    | _ => none1 76
  | _, _ => none1 77

noncomputable def oExtract (x : Ev) (i : Nat) : OpF := ⟨fun _ env loc st => match x.f env loc with
  | .tup l => match l[i]? with
    | some v => .ok v st
    | none => .err 78
  | _ => .err 79⟩

/-- a struct's field: where it lies, whether it is an aggregate, its cells -/
def fieldOf (P : Program) (t f : Nat) : Option (Nat × Bool × Nat) := match P.underlying t with
  | some d => match d with
    | .struct fs => match fs[f]? with
      | some x => match aggOf P x.type, szOf P x.type with
        | some g, some n => some (x.offset, g, n)
        | _, _ => none
      | none => none
    | _ => none
  | none => none
noncomputable def oField (fo : Option (Nat × Bool × Nat)) (x : Ev) : OpF := match fo with
  | some q => match q with
    | (off, g, n) => match g with
      | true => ⟨fun _ env loc st => match x.f env loc with
        | .agg l => .ok (.agg ((l.drop off).take n)) st
        | _ => .err 140⟩
      | false => ⟨fun _ env loc st => match x.f env loc with
        | .agg l => match l[off]? with
          | some v => .ok v st
          | none => .err 141
        | _ => .err 142⟩
  | none => none1 143
def isIface (P : Program) (t : Nat) : Option Bool := (P.underlying t).map fun d => match d with
  | .interface _ => true
  | _ => false
noncomputable def oMakeIface (i : Option Bool) (t : Nat) (x : Ev) : OpF := match i with
  | some b => match b with
    | true => none1 144
    | false => ⟨fun _ env loc st => .ok (.iface t (x.f env loc)) st⟩
  | none => none1 145
noncomputable def oAssert (i : Option Bool) (zero : Option CV) (t : Nat) (ok : Bool) (x : Ev) : OpF := match ok, i, zero with
  | true, some false, some z => ⟨fun _ env loc st => match x.f env loc with
    | .nili => .ok (.tup [z, .bool false]) st
    | .iface t' v => bif Nat.beq t' t then .ok (.tup [v, .bool true]) st else .ok (.tup [z, .bool false]) st
    | _ => .err 146⟩
  | false, some false, _ => ⟨fun _ env loc st => match x.f env loc with
    | .iface t' v => bif Nat.beq t' t then .ok v st else .err 147
    | _ => .err 147⟩
  | _, _, _ => none1 147
noncomputable def oPanic (x : Ev) : OpF := ⟨fun _ env loc st => match x.f env loc with
  | .iface t v => .pan (.iface t v) st
  | _ => .err 148⟩
noncomputable def oMax (x y : Ev) : OpF := ⟨fun _ env loc st => match x.f env loc with
  | .int k a => match y.f env loc with
    | .int _ b => match decide (b > a) with
      | true => .ok (.int k b) st
      | false => .ok (.int k a) st
    | _ => .err 149
  | _ => .err 150⟩
noncomputable def oMin (x y : Ev) : OpF := ⟨fun _ env loc st => match x.f env loc with
  | .int k a => match y.f env loc with
    | .int _ b => match decide (b < a) with
      | true => .ok (.int k b) st
      | false => .ok (.int k a) st
    | _ => .err 149
  | _ => .err 150⟩

/-- a map's keys (1: strings, 2: integers), and the zero value of what it holds -/
def mapOf (P : Program) (t : Nat) : Option (Nat × Option CV) := match P.underlying t with
  | some d => match d with
    | .map k e => match P.underlying k with
      | some kd => match kd with
        | .string => some (1, zeroOf P e)
        | .int _ => some (2, zeroOf P e)
        | _ => none
      | none => none
    | _ => none
  | none => none
noncomputable def keyForce (kd : Nat) (x : CV) (K : CV → RV) : RV := match x with
  | .str l n => bif Nat.beq kd 1 then K (.str l n) else .err 152
  | .int k a => bif Nat.beq kd 2 then K (.int k a) else .err 152
  | _ => .err 152
noncomputable def keyEq (x y : CV) (K : Bool → RV) : RV := match x with
  | .str l n => match y with
    | .str m k => K (eqStr l n m k)
    | _ => .err 153
  | .int k a => match y with
    | .int k' b => match decide (k = k') with
      | true => K (a == b)
      | false => .err 153
    | _ => .err 153
  | _ => .err 154
noncomputable def findE (key : CV) (K : Option CV → RV) (es : List Ent) : RV :=
  List.rec (motive := fun _ => RV) (K none) (fun e _ ih => keyEq key e.key fun b => bif b then K (some e.val) else ih) es
noncomputable def pushE (e : Ent) (es : List Ent) : (List Ent → RV) → RV :=
  List.rec (motive := fun _ => (List Ent → RV) → RV) (fun K => K [e]) (fun x _ ih K => ih fun l => K (x :: l)) es
/-- an entry gets another value -/
noncomputable def setE (key v : CV) (es : List Ent) : (List Ent → RV) → RV :=
  List.rec (motive := fun _ => (List Ent → RV) → RV) (fun _ => .err 253) (fun e r ih K => keyEq key e.key fun b => bif b then K (⟨key, v, e.born⟩ :: r) else ih fun l => K (e :: l)) es
/-- an entry goes -/
noncomputable def dropE (key : CV) (es : List Ent) : (List Ent → RV) → RV :=
  List.rec (motive := fun _ => (List Ent → RV) → RV) (fun K => K []) (fun e r ih K => keyEq key e.key fun b => bif b then K r else ih fun l => K (e :: l)) es
noncomputable def lookAns (ok : Bool) (v : CV) (b : Bool) (st : St) : RV := match ok with
  | true => .ok (.tup [v, .bool b]) st
  | false => .ok v st
noncomputable def oLookup (mi : Option (Nat × Option CV)) (ok : Bool) (m k : Ev) : OpF := match mi with
  | some q => match q with
    | (kd, z) => match z with
      | some z => ⟨fun _ env loc st => match m.f env loc with
        | .map b => match st.heap.get b with
          | some ob => match ob with
            | .map es _ => keyForce kd (k.f env loc) fun key => findE key (fun r => match r with
              | some v => lookAns ok v true st
              | none => lookAns ok z false st) es
            | _ => .err 155
          | none => .err 156
        | .nilm => lookAns ok z false st
        | _ => .err 157⟩
      | none => none1 158
  | none => none1 159
noncomputable def oUpdate (mi : Option (Nat × Option CV)) (m k x : Ev) : OpF := match mi with
  | some q => match q with
    | (kd, _) => ⟨fun _ env loc st => match m.f env loc with
      | .map b => match st.heap.get b with
        | some ob => match ob with
          | .map es c => keyForce kd (k.f env loc) fun key => findE key (fun r => match r with
            | some _ => setE key (x.f env loc) es fun es => setObj (.map es c) b st fun st => .ok (.tup []) st
            | none => pushE ⟨key, x.f env loc, c⟩ es fun es => forceN (fun c => setObj (.map es c) b st fun st => .ok (.tup []) st) (Nat.succ c)) es
          | _ => .err 161
        | none => .err 162
      | _ => .err 163⟩
  | none => none1 164
noncomputable def oMakeMap (r : Option Operand) : OpF := match r with
  | none => ⟨fun _ _ _ st => newObj (.map [] 0) st fun b st => .ok (.map b) st⟩
  | some _ => none1 165

/-- a function that is entered -/
def enters (P : Program) (g : Nat) : Bool := match P.funcs[g]? with
  | some fn => match fn.body with
    | some _ => !(fn.name == "runtime.NumGoroutine")
    | none => false
  | none => false
/-- library functions without a body: which one -/
def externNames : List (String × Nat) := [("internal/bytealg.IndexByteString", 1), ("internal/abi.NoEscape", 2), ("sync/atomic.LoadPointer", 3), ("sync/atomic.StorePointer", 4),
  ("internal/race.Disable", 5), ("internal/race.Enable", 6), ("internal/race.Acquire", 7), ("internal/race.ReleaseMerge", 8), ("sync/atomic.AddInt32", 9), ("sync/atomic.CompareAndSwapInt32", 10)]
def findName (s : String) (l : List (String × Nat)) : Nat := match l with
  | [] => 0
  | p :: r => match p with
    | (t, n) => bif s == t then n else findName s r
def externId (P : Program) (g : Nat) : Nat := match P.funcs[g]? with
  | some fn => match fn.body with
    | some _ => 0
    | none => bif fn.origin == "" then findName fn.name externNames else 0
  | none => 0
/-- where a string's first byte c is, from place i on -/
noncomputable def idxByte (c : Nat) (l : Nat) : Nat → Nat → Int := Nat.rec (motive := fun _ => Nat → Nat → Int) (fun _ _ => .negSucc 0)
  (fun _ ih n i => bif Nat.beq (Nat.mod n 256) c then .ofNat i else ih (Nat.div n 256) (Nat.succ i)) l
noncomputable def indexByteF (args : List CV) (st : St) : RV := match args with
  | s :: r => match s with
    | .str l n => match r with
      | c :: r => match r with
        | [] => match c with
          | .int k v => match v with
            | .ofNat m => bif decide (k = .u8) && Nat.blt m 256 then forceI (fun i => .ok (.int .i64 i) st) (idxByte m l n 0) else .err 123
            | _ => .err 123
          | _ => .err 123
        | _ => .err 123
      | _ => .err 123
    | _ => .err 123
  | _ => .err 123
noncomputable def cellAt (b o : Nat) (st : St) (K : CV → RV) : RV := match cellsAt b st with
  | some cells => match cells.get o with
    | some v => K v
    | none => .err 270
  | none => .err 271
noncomputable def atomLoadP (args : List CV) (st : St) : RV := match args with
  | [x] => match x with
    | .ptr b o => cellAt b o st fun v => match v with
      | .nilp => .ok .nilp st
      | .ptr c q => .ok (.ptr c q) st
      | _ => .err 272
    | _ => .err 273
  | _ => .err 274
noncomputable def atomStoreP (args : List CV) (st : St) : RV := match args with
  | [x, v] => match x with
    | .ptr b o => storeAt [v] b o st fun st => .ok (.tup []) st
    | _ => .err 275
  | _ => .err 276
noncomputable def raceMark (args : List CV) (st : St) : RV := match args with
  | x :: _ => match x with
    | .ptr _ _ => .ok (.tup []) st
    | _ => .err 277
  | _ => .err 278
noncomputable def atomAdd (args : List CV) (st : St) : RV := match args with
  | [x, y] => match x with
    | .ptr b o => match y with
      | .int k' d => cellAt b o st fun v => match v with
        | .int k n => bif decide (k = .i32) && decide (k' = .i32) then forceI (fun m => storeAt [.int .i32 m] b o st fun st => .ok (.int .i32 m) st) (IntKind.i32.wrap (Int.add n d)) else .err 279
        | _ => .err 280
      | _ => .err 281
    | _ => .err 282
  | _ => .err 283
noncomputable def atomCas (args : List CV) (st : St) : RV := match args with
  | [x, y, z] => match x with
    | .ptr b o => match y with
      | .int k' old => match z with
        | .int _ _ => cellAt b o st fun v => match v with
          | .int k n => bif decide (k = .i32) && decide (k' = .i32) then bif n == old then storeAt [z] b o st fun st => .ok (.bool true) st else .err 284 else .err 285
          | _ => .err 286
        | _ => .err 287
      | _ => .err 288
    | _ => .err 289
  | _ => .err 290
noncomputable def externF (id : Nat) (args : List CV) (st : St) : RV := match id with
  | 1 => indexByteF args st
  | 2 => match args with
    | x :: r => match r with
      | [] => .ok x st
      | _ => .err 197
    | _ => .err 198
  | 3 => atomLoadP args st
  | 4 => atomStoreP args st
  | 5 => .ok (.tup []) st
  | 6 => .ok (.tup []) st
  | 7 => raceMark args st
  | 8 => raceMark args st
  | 9 => atomAdd args st
  | 10 => atomCas args st
  | _ => .err 80
noncomputable def callG (P : Program) (g : Nat) (args : List CV) (call : Caller) (st : St) : RV := match enters P g with
  | true => call g args st
  | false => externF (externId P g) args st
noncomputable def callV (P : Program) (f : CV) (args : List CV) (call : Caller) (st : St) : RV := match f with
  | .func f fi ca => match f with
    | .func g => callG P g (fi ++ args ++ ca) call st
    | _ => .err 80
  | _ => .err 81

noncomputable def intAt (v : CV) (K : Nat → RV) : RV := match v with
  | .int _ n => match n with
    | .ofNat n => K n
    | _ => .err 83
  | _ => .err 84

noncomputable def oRange (P : Program) (t : Nat) (x : Ev) : OpF := match P.underlying t with
  | some d => match d with
    | .string => ⟨fun _ env loc st => strOf (x.f env loc) fun l n => newObj (.siter l n 0) st fun b st => .ok (.ptr b 0) st⟩
    | .map _ _ => ⟨fun _ env loc st => match x.f env loc with
      | .nilm => newObj (.miter none 0 [] 0) st fun b st => .ok (.ptr b 0) st
      | .map m => match st.heap.get m with
        | some ob => match ob with
          | .map _ clock => newObj (.miter (some m) clock [] clock) st fun b st => .ok (.ptr b 0) st
          | _ => .err 241
        | none => .err 242
      | _ => .err 243⟩
    | _ => none1 85
  | none => none1 86
noncomputable def nextStr (l n p b : Nat) (st : St) : RV := bif Nat.blt p l then
    forceN (fun c => bif Nat.blt c 128 then forceN (fun q => setObj (.siter l n q) b st fun st => .ok (.tup [.bool true, .int .i64 (.ofNat p), .int .i32 (.ofNat c)]) st) (Nat.succ p) else .err 87) (byteAt n p)
  else .ok (.tup [.bool false]) st
def memN (n : Nat) (l : List Nat) : Bool := match l with
  | [] => false
  | m :: r => Nat.beq n m || memN n r
def leftE (seen : List Nat) (es : List Ent) : List Ent := match es with
  | [] => []
  | e :: r => bif memN e.born seen then leftE seen r else e :: leftE seen r
/-- an entry of before the last step is there, or there is none, or none was seen -/
def steady (seen : List Nat) (last : Nat) (es : List Ent) : Bool := match seen with
  | [] => true
  | _ :: _ => match es with
    | [] => true
    | _ :: _ => es.any fun e => Nat.blt e.born last
noncomputable def nextMap (b : Nat) (m : Option Nat) (since : Nat) (seen : List Nat) (last : Nat) (st : St) : RV := match m with
  | none => .ok (.tup [.bool false]) st
  | some mb => match st.heap.get mb with
    | some ob => match ob with
      | .map es clock => bif steady seen last es then match leftE seen es with
        | [] => .ok (.tup [.bool false]) st
        | e :: r => match r with
          | [] => bif Nat.blt e.born since then setObj (.miter (some mb) since (seen ++ [e.born]) clock) b st fun st => .ok (.tup [.bool true, e.key, e.val]) st else .err 244
          | _ :: _ => .err 245
        else .err 246
      | _ => .err 247
    | none => .err 248
noncomputable def oNext (x : Ev) (isString : Bool) : OpF := match isString with
  | true => ⟨fun _ env loc st => match x.f env loc with
    | .ptr b o => match Nat.beq o 0 with
      | true => match st.heap.get b with
        | some ob => match ob with
          | .siter l n p => nextStr l n p b st
          | _ => .err 88
        | none => .err 89
      | false => .err 90
    | _ => .err 91⟩
  | false => ⟨fun _ env loc st => match x.f env loc with
    | .ptr b o => match Nat.beq o 0 with
      | true => match st.heap.get b with
        | some ob => match ob with
          | .miter m since seen last => nextMap b m since seen last st
          | _ => .err 249
        | none => .err 250
      | false => .err 251
    | _ => .err 252⟩

/-- x[lo:hi] of a string -/
noncomputable def sliceStr (l n lo hi : Nat) (st : St) : RV := bif Nat.ble lo hi && Nat.ble hi l then strV (Nat.sub hi lo) (low (Nat.sub hi lo) (Nat.shiftRight n (Nat.mul 8 lo))) st else .err 93
noncomputable def optInt (cx : Cx) (x : Option Operand) : Box (List CV → Loc → Nat → (Nat → RV) → RV) := match x with
  | some o => ⟨fun env loc _ K => intAt ((ev cx o).f env loc) K⟩
  | none => ⟨fun _ _ d K => K d⟩
noncomputable def oSlice (P : Program) (cx : Cx) (t : Nat) (x : Ev) (lo hi mx : Option Operand) : OpF := match P.underlying t, mx with
  | some d, none => match d with
    | .string => ⟨fun _ env loc st => strOf (x.f env loc) fun l n => (optInt cx hi).f env loc l fun h => (optInt cx lo).f env loc 0 fun q => sliceStr l n q h st⟩
    | _ => none1 94
  | _, _ => none1 95

noncomputable def lenStr (v : CV) (st : St) : RV := match v with
  | .str l _ => .ok (.int .i64 (.ofNat l)) st
  | .sym _ b => .ok (.slen b) st
  | _ => .err 96
noncomputable def lenMap (v : CV) (st : St) : RV := match v with
  | .nilm => .ok (.int .i64 (.ofNat 0)) st
  | .map b => match st.heap.get b with
    | some ob => match ob with
      | .map es _ => (List.rec (motive := fun _ => Nat → RV) (fun n => .ok (.int .i64 (.ofNat n)) st) (fun _ _ ih n => forceN ih (Nat.succ n)) es) 0
      | _ => .err 254
    | none => .err 255
  | _ => .err 256
noncomputable def oDelete (mi : Option (Nat × Option CV)) (m k : Ev) : OpF := match mi with
  | some q => match q with
    | (kd, _) => ⟨fun _ env loc st => match m.f env loc with
      | .map b => match st.heap.get b with
        | some ob => match ob with
          | .map es c => keyForce kd (k.f env loc) fun key => dropE key es fun es => setObj (.map es c) b st fun st => .ok (.tup []) st
          | _ => .err 257
        | none => .err 258
      | .nilm => .ok (.tup []) st
      | _ => .err 259⟩
  | none => none1 260
noncomputable def lenSl (v : CV) (st : St) : RV := match v with
  | .slice _ _ l _ _ => .ok (.int .i64 (.ofNat l)) st
  | .nils => .ok (.int .i64 (.ofNat 0)) st
  | _ => .err 96

/-- append(s, x): x's elements and cells -/
noncomputable def xCells (es : Nat) (x : CV) (st : St) (K : Nat → List CV → RV) : RV := match x with
  | .nils => K 0 []
  | .slice b o l _ _ => match cellsAt b st with
    | some cells => match loadN cells (Nat.mul l es) o with
      | some cs => K l cs
      | none => .err 97
    | none => .err 98
  | .str l n => bif Nat.beq es 1 then K l (byteCells l n) else .err 99
  | _ => .err 99
noncomputable def appendNew (es fr : Nat) (inf : Inf) (old new : List CV) (need : Nat) (st : St) : RV := rowF (old ++ new) es fr inf st fun b st => .ok (.slice b 0 need need true) st
def roomFor (need by_ : Nat) : Bool := Nat.ble need 4294967296 && Nat.ble (Nat.mul (Nat.add (Nat.mul 2 need) 768) by_) 281474976710656
/-- the old row is given up: the new one may lie in its place -/
def tyIf (o : Option Nat) (e : Nat) : Option Nat := match o with
  | some t => bif Nat.beq t e then some e else none
  | none => none
noncomputable def appendOpen (e es : Nat) (old new : List CV) (need b o l c : Nat) (st : St) : RV := match st.heap.get b with
  | some ob => match ob with
    | .row _ n' es' fr inf => bif Nat.beq es es' && (Nat.beq (Nat.add o (Nat.mul c es)) n' && (Nat.ble fr (Nat.add o (Nat.mul l es)) && new.all oneCell)) then
        setObj .dead b st fun st => appendNew es (Nat.sub fr o) ⟨tyIf inf.ty e, inf.z && Nat.beq o 0, false, inf.low⟩ old new need st else .err 101
    | _ => .err 102
  | none => .err 103
noncomputable def appendTo (e es by_ : Nat) (n : Nat) (new : List CV) (b o l c : Nat) (q : Bool) (st : St) : RV :=
  xCells es (.slice b o l c q) st fun _ old => forceN (fun need =>
    bif Nat.ble need c then (bif Nat.beq n 0 then .ok (.slice b o l c q) st else storeAt new b (Nat.add o (Nat.mul l es)) st fun st => .ok (.slice b o need c q) st)
    else bif roomFor need by_ then match q with
      | true => appendOpen e es old new need b o l c st
      | false => appendNew es 0 ⟨some e, true, false, true⟩ old new need st
    else .err 104) (Nat.add l n)
noncomputable def appendF (e es by_ : Nat) (x y : Ev) : OpF := ⟨fun _ env loc st => xCells es (y.f env loc) st fun n new => match x.f env loc with
  | .nils => bif Nat.beq n 0 then .ok .nils st else bif roomFor n by_ then appendNew es 0 ⟨some e, true, false, true⟩ [] new n st else .err 100
  | .slice b o l c q => appendTo e es by_ n new b o l c q st
  | _ => .err 105⟩
def noInt (P : Program) (t : Nat) : Bool := match P.underlying t with
  | some d => match d with
    | .slice _ => true
    | .string => true
    | _ => false
  | none => false
noncomputable def oAppend (P : Program) (t t2 : Nat) (x y : Ev) : OpF := match elemOfSlice P t with
  | some e => match szOf P e, byOf P e, zeroOf P e with
    | some es, some by_, some z => bif Nat.beq (len (cellsOf z)) es && noInt P t2 then appendF e es by_ x y else none1 106
    | _, _, _ => none1 106
  | none => none1 107

noncomputable def makeRow (z : List CV) (es by_ : Nat) (l c : CV) (st : St) : RV := match l with
  | .int k l => match l with
    | .ofNat l => match c with
      | .int k' c => match c with
        | .ofNat c => bif decide (k = .i64) && (decide (k' = .i64) && (Nat.ble l c && (Nat.ble (Nat.mul c by_) 281474976710656 && Nat.ble c 9223372036854775807))) then
            newRow (repL z c) es ⟨none, true, false, true⟩ st fun b st => .ok (.slice b 0 l c false) st else .err 262
        | _ => .err 263
      | _ => .err 264
    | _ => .err 265
  | _ => .err 266
noncomputable def oMakeSlice (P : Program) (t : Nat) (l c : Ev) : OpF := match elemOfSlice P t with
  | some e => match szOf P e, byOf P e, zeroOf P e with
    | some es, some by_, some z => bif Nat.beq (len (cellsOf z)) es then ⟨fun _ env loc st => makeRow (cellsOf z) es by_ (l.f env loc) (c.f env loc) st⟩ else none1 267
    | _, _, _ => none1 268
  | none => none1 269
def evAt (cx : Cx) (l : List Operand) (i : Nat) : Option Operand := l[i]?
noncomputable def oBuiltin (P : Program) (cx : Cx) (b : Builtin) (args : List Operand) (types : List TypeId) : OpF := match b with
  | .len => match args, types with
    | [x], [t] => match P.underlying t with
      | some d => match d with
        | .string => ⟨fun _ env loc st => lenStr ((ev cx x).f env loc) st⟩
        | .slice _ => ⟨fun _ env loc st => lenSl ((ev cx x).f env loc) st⟩
        | .array n _ => ⟨fun _ _ _ st => .ok (.int .i64 (.ofNat n)) st⟩
        | .map _ _ => ⟨fun _ env loc st => lenMap ((ev cx x).f env loc) st⟩
        | _ => none1 108
      | none => none1 109
    | _, _ => none1 110
  | .append => match args, types with
    | [x, y], [t, t2] => oAppend P t t2 (ev cx x) (ev cx y)
    | _, _ => none1 111
  | .delete => match args, types with
    | [x, y], [t, _] => oDelete (mapOf P t) (ev cx x) (ev cx y)
    | _, _ => none1 261
  | .unsafeSliceData => match args with
    | [x] => ⟨fun _ env loc st => sliceData ((ev cx x).f env loc) st⟩
    | _ => none1 194
  | .unsafeString => match args, types with
    | [x, y], [t, _] => match bytePtr P t with
      | some e => ⟨fun _ env loc st => unsafeStr e ((ev cx x).f env loc) ((ev cx y).f env loc) st⟩
      | none => none1 195
    | _, _ => none1 196
  | .max => match args with
    | [x, y] => oMax (ev cx x) (ev cx y)
    | _ => none1 151
  | .min => match args with
    | [x, y] => oMin (ev cx x) (ev cx y)
    | _ => none1 151
  | _ => none1 112

noncomputable def oCall (P : Program) (cx : Cx) (c : Call) : OpF := match c.callee with
  | .value f => ⟨fun call env loc st => callV P ((ev cx f).f env loc) ((evs cx c.args.toList).f env loc) call st⟩
  | .builtin b => oBuiltin P cx b c.args.toList c.argTypes.toList
  | .invoke _ _ => none1 113

noncomputable def oDefer (cx : Cx) (c : Call) : OpF := match c.callee with
  | .value f => ⟨fun _ env loc st => match (ev cx f).f env loc with
    | .func fn fi ca => match fn with
      | .func g => match st with
        | ⟨h, n, d⟩ => .ok (.tup []) ⟨h, n, ⟨.func (.func g) fi ca, (evs cx c.args.toList).f env loc⟩ :: d⟩
      | _ => .err 200
    | _ => .err 201⟩
  | _ => none1 202

noncomputable def opF (P : Program) (cx : Cx) (op : Op) : OpF := match op with
  | .move x => oMove (ev cx x)
  | .assign x => oMove (ev cx x)
  | .pick c a b => oPick (ev cx c) (ev cx a) (ev cx b)
  | .alloc t => oAlloc t (zeroOf P t) (szOf P t)
  | .box t x => oBox t (szOf P t) (ev cx x)
  | .build t parts => oBuild P cx t parts.toList
  | .buildSlice t n parts => oBuildSlice P cx t n parts.toList
  | .load t a => oLoad (aggOf P t) (szOf P t) (ev cx a)
  | .store t a x => oStore (szOf P t) (ev cx a) (ev cx x)
  | .nilCheck x => oNilCheck (ev cx x)
  | .binOp op t x y _ => oBinOp (kindOf P t) (isLit x || isLit y) (eqSpec P t) op (ev cx x) (ev cx y)
  | .unOp op _ x => oUnOp op (ev cx x)
  | .convert s t x => oConvert P s t (ev cx x)
  | .fieldAddr t x f => oFieldAddr (offOf P t f) (ev cx x)
  | .indexAddr t x i => oIndexAddr P t (ev cx x) (ev cx i)
  | .index t x i => oIndex P t (ev cx x) (ev cx i)
  | .slice t x lo hi mx => oSlice P cx t (ev cx x) lo hi mx
  | .range t x => oRange P t (ev cx x)
  | .next x s => oNext (ev cx x) s
  | .extract x i => oExtract (ev cx x) i
  | .field t x f => oField (fieldOf P t f) (ev cx x)
  | .makeInterface t x => oMakeIface (isIface P t) t (ev cx x)
  | .makeFunc f fi ca => ⟨fun _ env loc st => .ok (.func f ((evs cx fi.toList).f env loc) ((evs cx ca.toList).f env loc)) st⟩
  | .typeAssert x _ t ok => oAssert (isIface P t) (zeroOf P t) t ok (ev cx x)
  | .panic x => oPanic (ev cx x)
  | .makeMap _ r => oMakeMap r
  | .makeSlice t l c => oMakeSlice P t (ev cx l) (ev cx c)
  | .insert t m k x => oUpdate (mapOf P t) (ev cx m) (ev cx k) (ev cx x)
  | .mapUpdate t m k x => oUpdate (mapOf P t) (ev cx m) (ev cx k) (ev cx x)
  | .lookup t m k ok => oLookup (mapOf P t) ok (ev cx m) (ev cx k)
  | .call c => oCall P cx c
  | .defer c => oDefer cx c
  | _ => none1 114

/-! ## Regions -/
abbrev RegF := Box (Caller → List CV → Loc → St → R)
/-- may the operation run? (none: it cannot be told) -/
noncomputable def guardF (cx : Cx) (ops : List Oper) (g : Option (Nat × Bool)) : Box (List CV → Loc → (Bool → R) → R) := match g with
  | none => ⟨fun _ _ K => K true⟩
  | some (j, w) => match ops[j]? with
    | some o => match o.dst with
      | some d => ⟨fun env loc K => match (evTmpAt d (pos cx.vars d)).f env loc with
        | .bool b => K (b == w)
        | .unk => .err 115
        | _ => K false⟩
      | none => ⟨fun _ _ K => K false⟩
    | none => ⟨fun _ _ K => K false⟩

noncomputable def opsF (P : Program) (cx : Cx) (all : List Oper) (l : List Oper) : RegF := match l with
  | [] => ⟨fun _ env _ st => .ok .normal env st⟩
  | o :: r => match o.guard with
    | none => ⟨fun call env loc st => match (opF P cx o.op).f call env loc st with
      | .ok v st => (put cx o.dst).f v env loc (fun env loc st => (opsF P cx all r).f call env loc st) st
      | .pan v st => .ok (.panic v) env st
      | .err n => .err n⟩
    | some g => ⟨fun call env loc st => (guardF cx all (some g)).f env loc fun b => match b with
      | true => match (opF P cx o.op).f call env loc st with
        | .ok v st => (put cx o.dst).f v env loc (fun env loc st => (opsF P cx all r).f call env loc st) st
        | .pan v st => .ok (.panic v) env st
        | .err n => .err n
      | false => (put cx o.dst).f (.tup []) env loc (fun env loc st => (opsF P cx all r).f call env loc st) st⟩

/-! ## Regions that draw their order -/
mutual
def eqCV : CV → CV → Bool
  | .bool a, .bool b => a == b
  | .int k a, .int j b => decide (k = j) && (a == b)
  | .float k a, .float j b => decide (k = j) && Nat.beq a b
  | .str l n, .str m k => Nat.beq l m && Nat.beq n k
  | .sym i b, .sym j c => Nat.beq i j && (b == c)
  | .slen b, .slen c => b == c
  | .smod r, .smod q => r == q
  | .ptr b o, .ptr c p => Nat.beq b c && Nat.beq o p
  | .nilp, .nilp => true
  | .slice b o l c q, .slice b' o' l' c' q' => Nat.beq b b' && (Nat.beq o o' && (Nat.beq l l' && (Nat.beq c c' && (q == q'))))
  | .nils, .nils => true
  | .map b, .map c => Nat.beq b c
  | .nilm, .nilm => true
  | .func (.func f) fi ca, .func (.func g) fj cb => Nat.beq f g && (eqCVs fi fj && eqCVs ca cb)
  | .nilf, .nilf => true
  | .iface t v, .iface u w => Nat.beq t u && eqCV v w
  | .nili, .nili => true
  | .agg l, .agg m => eqCVs l m
  | .tup l, .tup m => eqCVs l m
  | _, _ => false
def eqCVs : List CV → List CV → Bool
  | [], [] => true
  | x :: r, y :: s => eqCV x y && eqCVs r s
  | _, _ => false
end

/-- an operation that leaves the state as it is, whatever it answers -/
def reads (P : Program) : Op → Bool
  | .move _ => true
  | .assign _ => true
  | .pick _ _ _ => true
  | .build _ _ => true
  | .load _ _ => true
  | .nilCheck _ => true
  | .binOp _ _ _ _ _ => true
  | .unOp _ _ _ => true
  | .convert _ t _ => match P.underlying t with
    | some d => match d with
      | .slice _ => false
      | _ => true
    | none => true
  | .slice _ _ _ _ _ => true
  | .fieldAddr _ _ _ => true
  | .indexAddr _ _ _ => true
  | .index _ _ _ => true
  | .extract _ _ => true
  | .field _ _ _ => true
  | .makeInterface _ _ => true
  | .makeFunc _ _ _ => true
  | .typeAssert _ _ _ _ => true
  | .lookup _ _ _ _ => true
  | .call c => match c.callee with
    | .builtin b => match b with
      | .len => true
      | .max => true
      | .min => true
      | _ => false
    | _ => false
  | _ => false

def maskOf (acc : List Nat) (es : List Edge) : Nat := match es with
  | [] => 0
  | e :: r => bif Region.binds .any e then Nat.lor (Nat.pow 2 e.on) (Nat.lor (acc.getD e.on 0) (maskOf acc r)) else maskOf acc r
/-- what stands ahead of each operation, as numbers' bits -/
def ancs (l : List Oper) (acc : List Nat) : List Nat := match l with
  | [] => acc
  | o :: r => ancs r (acc ++ [maskOf acc o.after.toList])
def edgesOk (i : Nat) (l : List Oper) : Bool := match l with
  | [] => true
  | o :: r => o.after.toList.all (fun e => !Region.binds .any e || Nat.blt e.on i) && edgesOk (Nat.succ i) r
/-- an operation that makes one block and does nothing else -/
def makes (o : Oper) : Bool := match o.guard with
  | some _ => false
  | none => match o.op with
    | .alloc _ => true
    | .buildSlice _ _ _ => true
    | .makeMap _ r => match r with
      | none => true
      | some _ => false
    | _ => false
/-- it may make its block ahead of its turn ('fl': so this region is run) -/
def floats (fl : Bool) (o : Oper) : Bool := fl && makes o
def quiet (P : Program) (fl : Bool) (o : Oper) : Bool := reads P o.op || floats fl o
def changersAt (P : Program) (fl : Bool) (i : Nat) (l : List Oper) : List Nat := match l with
  | [] => []
  | o :: r => bif quiet P fl o then changersAt P fl (Nat.succ i) r else i :: changersAt P fl (Nat.succ i) r
/-- the last two changers, two stores without an order -/
def isStore (o : Oper) : Bool := match o.guard with
  | some _ => false
  | none => match o.op with
    | .store _ _ _ => true
    | _ => false
def lastTwo (l : List Nat) : Option (Nat × Nat) := match l with
  | [] => none
  | a :: r => match r with
    | [] => none
    | b :: s => match s with
      | [] => some (a, b)
      | _ :: _ => lastTwo r
def earlier (fl : Bool) (ops : Array Oper) (A C : List Nat) (p q : Nat) : Bool := (List.range ops.size).all fun j => match ops[j]? with
  | some o => !floats fl o || ((!Nat.testBit (A.getD p 0) j && !Nat.testBit (A.getD q 0) j) || C.any fun c => Nat.blt c p && Nat.testBit (A.getD c 0) j)
  | none => true
def swOk (fl : Bool) (ops : Array Oper) (A C : List Nat) (p q : Nat) : Bool := match ops[p]?, ops[q]? with
  | some x, some y => isStore x && (isStore y && (!Nat.testBit (A.getD q 0) p && (Nat.blt p q && ((C.all fun c => Nat.beq c p || (Nat.beq c q || Nat.blt c p)) && earlier fl ops A C p q))))
  | _, _ => false
def swOf (fl : Bool) (ops : Array Oper) (A C : List Nat) : Option (Nat × Nat) := match lastTwo C with
  | some (p, q) => bif swOk fl ops A C p q then some (p, q) else none
  | none => none
def isSw (sw : Option (Nat × Nat)) (i j : Nat) : Bool := match sw with
  | some (p, q) => Nat.beq p i && Nat.beq q j
  | none => false
/-- each changer stands ahead of the later ones; operations without an order between them look at slots of their own -/
def pairOk (P : Program) (fl : Bool) (sw : Option (Nat × Nat)) (ops : Array Oper) (A : List Nat) (i j : Nat) : Bool := match ops[i]?, ops[j]? with
  | some x, some y => Nat.testBit (A.getD j 0) i || ((quiet P fl x || (quiet P fl y || isSw sw i j)) && Oper.apart ops x y)
  | _, _ => true
def pairsOk (P : Program) (fl : Bool) (sw : Option (Nat × Nat)) (ops : Array Oper) (A : List Nat) : Bool := (List.range ops.size).all fun j => (List.range j).all fun i => pairOk P fl sw ops A i j
def drawStaticW (P : Program) (fl : Bool) (sw : Option (Nat × Nat)) (ops : Array Oper) : Bool := edgesOk 0 ops.toList && (pairsOk P fl sw ops (ancs ops.toList []) && Region.noSelect ops)
def swFor (P : Program) (fl : Bool) (ops : Array Oper) : Option (Nat × Nat) := swOf fl ops (ancs ops.toList []) (changersAt P fl 0 ops.toList)
def drawStatic (P : Program) (ops : Array Oper) : Option (Bool × Option (Nat × Nat)) := bif drawStaticW P false none ops then some (false, none) else
  bif drawStaticW P true none ops then some (true, none) else bif drawStaticW P true (swFor P true ops) ops then some (true, swFor P true ops) else none
/-- how many changers surely stand ahead of operation i; at most; in the text -/
def loOf (A : List Nat) (C : List Nat) (i : Nat) : Nat := (C.filter fun c => Nat.testBit (A.getD i 0) c).length
def hiOf (A : List Nat) (C : List Nat) (i : Nat) : Nat := (C.filter fun c => !Nat.testBit (A.getD c 0) i).length
def atOf (C : List Nat) (i : Nat) : Nat := (C.filter fun c => Nat.blt c i).length

structure Rec where
  o : Oper
  env : List CV
  loc : Loc
  st : St
  v : CV
  wanted : Bool

/-- blocks that were made ahead are laid into the heap -/
noncomputable def matF (base : Nat) (p : Nat → Bool) (pd : List (Nat × Obj)) (st : St) : Option (St × List (Nat × Obj)) := match pd with
  | [] => some (st, [])
  | x :: r => match x with
    | (i, ob) => match p i with
      | true => match st with
        | ⟨h, n, d⟩ => match h.get (Nat.add base i) with
          | none => matF base p r ⟨T.set h ob (Nat.add base i), n, d⟩
          | some _ => none
      | false => match matF base p r st with
        | some (st, pd) => some (st, (i, ob) :: pd)
        | none => none

/-- the operation that panics: its number, the panic's value, the state behind it -/
abbrev Pn := Option (Nat × CV × St)
/-- behind an operation that panics: it does not run -/
def deadAt (A : List Nat) (i : Nat) (pn : Pn) : Bool := match pn with
  | none => false
  | some x => match x with
    | (ip, _) => Nat.testBit (A.getD i 0) ip
abbrev DrawF := Box (Caller → List CV → Loc → St → List (Nat × Obj) → Pn → (List Rec → List CV → St → List (Nat × Obj) → Pn → R) → R)
noncomputable def drawRun (P : Program) (cx : Cx) (fl : Bool) (A : List Nat) (all : List Oper) (base : Nat) (l : List Oper) (i : Nat) : DrawF := match l with
  | [] => ⟨fun _ env _ st pd pn K => K [] env st pd pn⟩
  | o :: r => ⟨fun call env loc st pd pn K => match deadAt A i pn with
   | true => (put cx o.dst).f .unk env loc (fun env' loc' st' => (drawRun P cx fl A all base r (Nat.succ i)).f call env' loc' st' (bif quiet P fl o then pd else pd.filter fun x => !Nat.testBit (A.getD i 0) x.1) pn fun recs => K (⟨o, env, loc, st, .unk, false⟩ :: recs)) st
   | false => match floats fl o with
    | true => forceN (fun n => match (opF P cx o.op).f call env loc ⟨.nil, n, []⟩ with
      | .ok v st' => match st' with
        | ⟨h, _, _⟩ => match h.get n with
          | some ob => (put cx o.dst).f v env loc (fun env' loc' st => (drawRun P cx fl A all base r (Nat.succ i)).f call env' loc' st ((i, ob) :: pd) pn fun recs => K (⟨o, env, loc, st, v, true⟩ :: recs)) st
          | none => .err 133
      | .pan _ _ => .err 134
      | .err n => .err n) (Nat.add base i)
    | false => match reads P o.op with
      | true => (guardF cx all o.guard).f env loc fun b => match b with
        | true => match (opF P cx o.op).f call env loc st with
          | .ok v st' => (put cx o.dst).f v env loc (fun env' loc' st' => (drawRun P cx fl A all base r (Nat.succ i)).f call env' loc' st' pd pn fun recs => K (⟨o, env, loc, st, v, true⟩ :: recs)) st'
          | .pan _ _ => .err 130
          | .err n => .err n
        | false => (put cx o.dst).f (.tup []) env loc (fun env' loc' st' => (drawRun P cx fl A all base r (Nat.succ i)).f call env' loc' st' pd pn fun recs => K (⟨o, env, loc, st, .tup [], false⟩ :: recs)) st
      | false => match matF base (Nat.testBit (A.getD i 0)) pd st with
        | some (stm, pd) => (guardF cx all o.guard).f env loc fun b => match b with
          | true => match (opF P cx o.op).f call env loc stm with
            | .ok v st' => (put cx o.dst).f v env loc (fun env' loc' st' => (drawRun P cx fl A all base r (Nat.succ i)).f call env' loc' st' pd pn fun recs => K (⟨o, env, loc, st, v, true⟩ :: recs)) st'
            | .pan v st' => match pn with
              | none => (put cx o.dst).f .unk env loc (fun env' loc' stm => (drawRun P cx fl A all base r (Nat.succ i)).f call env' loc' stm pd (some (i, v, st')) fun recs => K (⟨o, env, loc, st, .unk, true⟩ :: recs)) stm
              | some _ => .err 130
            | .err n => .err n
          | false => (put cx o.dst).f (.tup []) env loc (fun env' loc' st' => (drawRun P cx fl A all base r (Nat.succ i)).f call env' loc' st' pd pn fun recs => K (⟨o, env, loc, st, .tup [], false⟩ :: recs)) stm
        | none => .err 135⟩

/-- a reading operation answers the same in another state -/
noncomputable def sameAt (P : Program) (cx : Cx) (call : Caller) (r : Rec) (st : St) : Bool := match (opF P cx r.o.op).f call r.env r.loc st with
  | .ok v _ => eqCV v r.v
  | _ => false
noncomputable def stay (P : Program) (cx : Cx) (call : Caller) (H : List St) (r : Rec) (lo hi at_ : Nat) : Bool :=
  (List.range (Nat.succ hi)).all fun k => Nat.blt k lo || (Nat.beq k at_ || match H[k]? with
    | some st => sameAt P cx call r st
    | none => false)
noncomputable def stayAll (P : Program) (cx : Cx) (call : Caller) (A C : List Nat) (H : List St) (i : Nat) (l : List Rec) : Bool := match l with
  | [] => true
  | r :: l => (!(reads P r.o.op && r.wanted) || stay P cx call H r (loOf A C i) (hiOf A C i) (atOf C i)) && stayAll P cx call A C H (Nat.succ i) l
/-- the same, in the state where the last store came ahead of the one before it -/
noncomputable def stayAlt (P : Program) (cx : Cx) (call : Caller) (A : List Nat) (p q : Nat) (alt : St) (i : Nat) (l : List Rec) : Bool := match l with
  | [] => true
  | r :: l => (!(reads P r.o.op && r.wanted) || (Nat.testBit (A.getD q 0) i || (Nat.testBit (A.getD i 0) p || sameAt P cx call r alt))) && stayAlt P cx call A p q alt (Nat.succ i) l
noncomputable def addrOf (cx : Cx) (r : Rec) : Option Nat := match r.o.op with
  | .store _ a _ => match (ev cx a).f r.env r.loc with
    | .ptr b _ => some b
    | _ => none
  | _ => none
noncomputable def swStay (P : Program) (cx : Cx) (call : Caller) (A : List Nat) (sw : Option (Nat × Nat)) (recs : List Rec) : Bool := match sw with
  | none => true
  | some (p, q) => match recs[p]?, recs[q]? with
    | some x, some y => match x.wanted with
      | true => match y.wanted with
        | true => match addrOf cx x, addrOf cx y with
          | some b, some c => !Nat.beq b c && match (opF P cx y.o.op).f call y.env y.loc x.st with
            | .ok _ alt => stayAlt P cx call A p q alt 0 recs
            | _ => false
          | _, _ => false
        | false => false
      | false => !y.wanted
    | _, _ => false
def statesOf (P : Program) (fl : Bool) (l : List Rec) (last : St) : List St := match l with
  | [] => [last]
  | r :: l => bif quiet P fl r.o then statesOf P fl l last else r.st :: statesOf P fl l last
def maskE (T : Nat → Bool) : List Nat → List CV → List CV
  | t :: vs, v :: es => (if T t = true then v else .unk) :: maskE T vs es
  | _, [] => []
  | [], es => es
/-- slots that no operation of the region writes -/
def unwritten (l : List Oper) (t : Nat) : Bool := match l with
  | [] => true
  | o :: r => match o.dst with
    | some d => !Nat.beq d t && unwritten r t
    | none => unwritten r t
noncomputable def drawG (P : Program) (cx : Cx) (ops : Array Oper) (fl : Bool) (sw : Option (Nat × Nat)) : Box (Caller → List CV → St → R) :=
  ⟨fun call env st => match st with
    | ⟨h, base, d⟩ => forceN (fun nx => (drawRun P cx fl (ancs ops.toList []) ops.toList base ops.toList 0).f call env .nil ⟨h, nx, d⟩ [] none fun recs env' st pd pan =>
      bif stayAll P cx call (ancs ops.toList []) (changersAt P fl 0 ops.toList) (statesOf P fl recs st) 0 recs && swStay P cx call (ancs ops.toList []) sw recs then
        match pan with
        | none => match matF base (fun _ => true) pd st with
          | some (st, _) => .ok .normal env' st
          | none => .err 136
        | some (_, v, st) => .ok (.panic v) (maskE (unwritten ops.toList) cx.vars env) st
      else .err 131) (bif fl then Nat.add base ops.size else base)⟩
noncomputable def drawF (P : Program) (cx : Cx) (ops : Array Oper) : Box (Caller → List CV → St → R) := match drawStatic P ops with
  | some q => match q with
    | (fl, sw) => drawG P cx ops fl sw
  | none => ⟨fun _ _ _ => .err 132⟩

/-! ## Loops that look through a map: whatever the order, the end is the same -/
def quietOp (P : Program) (o : Oper) : Bool := match o.guard with
  | some _ => false
  | none => match o.op with
    | .entry _ => true
    | op => reads P op
def quietCode (P : Program) (c : Code) : Bool := match c with
  | .skip => true
  | .label _ => true
  | .exit _ => true
  | .ret => true
  | .region _ ops draw => !draw && ops.toList.all (quietOp P)
  | .seq a b => quietCode P a && quietCode P b
  | .cond _ a b => quietCode P a && quietCode P b
  | .block _ a => quietCode P a
  | .scope a => quietCode P a
  | _ => false
def codeOps (c : Code) : List Oper := match c with
  | .region _ ops _ => ops.toList
  | .seq a b => codeOps a ++ codeOps b
  | .cond _ a b => codeOps a ++ codeOps b
  | .block _ a => codeOps a
  | .loop a => codeOps a
  | .scope a => codeOps a
  | _ => []
/-- the iterator, and the entry that it is at -/
abbrev Cur := Option (Nat × CV)
abbrev CodeQ := Box (Cur → Caller → List CV → St → R)
noncomputable def opsQ (P : Program) (cx : Cx) (l : List Oper) : Box (Cur → Caller → List CV → Loc → St → R) := match l with
  | [] => ⟨fun _ _ env _ st => .ok .normal env st⟩
  | o :: r => match o.op with
    | .entry x => ⟨fun cur call env loc st => match cur with
      | some (b, ent) => match (ev cx x).f env loc with
        | .ptr c q => bif Nat.beq c b && Nat.beq q 0 then (put cx o.dst).f ent env loc (fun env loc st => (opsQ P cx r).f cur call env loc st) st else .err 300
        | _ => .err 301
      | none => .err 302⟩
    | op => ⟨fun cur call env loc st => match (opF P cx op).f call env loc st with
      | .ok v st => (put cx o.dst).f v env loc (fun env loc st => (opsQ P cx r).f cur call env loc st) st
      | .pan _ _ => .err 303
      | .err n => .err n⟩
noncomputable def denQ (P : Program) (cx : Cx) (c : Code) : CodeQ := match c with
  | .skip => ⟨fun _ _ env st => .ok .normal env st⟩
  | .label _ => ⟨fun _ _ env st => .ok .normal env st⟩
  | .region _ ops draw => match draw with
    | false => ⟨fun cur call env st => (opsQ P cx ops.toList).f cur call env .nil st⟩
    | true => ⟨fun _ _ _ _ => .err 304⟩
  | .seq a b => ⟨fun cur call env st => match (denQ P cx a).f cur call env st with
    | .ok e env st => match e with
      | .normal => (denQ P cx b).f cur call env st
      | e => .ok e env st
    | .err n => .err n⟩
  | .cond x a b => ⟨fun cur call env st => match (ev cx x).f env .nil with
    | .bool t => match t with
      | true => (denQ P cx a).f cur call env st
      | false => (denQ P cx b).f cur call env st
    | _ => .err 305⟩
  | .block id a => ⟨fun cur call env st => match (denQ P cx a).f cur call env st with
    | .ok e env st => match e with
      | .exit j => bif Nat.beq j id then .ok .normal env st else .ok (.exit j) env st
      | e => .ok e env st
    | .err n => .err n⟩
  | .exit id => ⟨fun _ _ env st => .ok (.exit id) env st⟩
  | .scope a => ⟨fun cur call env st => (denQ P cx a).f cur call env st⟩
  | .ret => ⟨fun _ _ env st => .ok .ret env st⟩
  | _ => ⟨fun _ _ _ _ => .err 306⟩
/-- a loop's body: the step, its word, the rest -/
structure Scan where
  it : Operand
  d0 : Nat
  d1 : Nat
  rest : Code
def scanRest (P : Program) (it : Operand) (d0 d1 : Nat) (rest : Code) (x : Operand) : Option Scan := match x with
  | .tmp t => bif Nat.beq t d0 && (!Nat.beq d0 d1 && quietCode P rest) then some ⟨it, d0, d1, rest⟩ else none
  | _ => none
def scanOps (P : Program) (l : List Oper) (rest : Code) : Option Scan := match l with
  | [o, q] => match o.guard, q.guard with
    | none, none => match o.op, q.op with
      | .next it str, .extract x k => match o.dst, q.dst with
        | some d0, some d1 => bif str then none else bif Nat.beq k 0 then scanRest P it d0 d1 rest x else none
        | _, _ => none
      | _, _ => none
    | _, _ => none
  | _ => none
def scanOf (P : Program) (a : Code) : Option Scan := match a with
  | .seq x rest => match x with
    | .region _ ops draw => bif draw then none else scanOps P ops.toList rest
    | _ => none
  | _ => none
/-- what a round left as it was -/
def keptE (l m : List CV) : Bool := match l, m with
  | [], [] => true
  | x :: r, y :: s => (match x with | .unk => true | _ => eqCV x y) && keptE r s
  | _, _ => false
/-- what two ends have alike -/
def alikeE (l m : List CV) : List CV := match l, m with
  | x :: r, y :: s => (bif eqCV x y then x else .unk) :: alikeE r s
  | _, _ => []
def exAlike (e f : Ex) : Bool := match e, f with
  | .ret, .ret => true
  | .exit i, .exit j => Nat.beq i j
  | _, _ => false
def rising (es : List Ent) : Bool := match es with
  | [] => true
  | e :: r => match r with
    | [] => true
    | f :: _ => Nat.blt e.born f.born && rising r
noncomputable def stepQ (P : Program) (cx : Cx) (s : Scan) (v b : CV) (cur : Cur) (call : Caller) (env : List CV) (st : St) (K : Ex → List CV → R) : R :=
  (put cx (some s.d0)).f v env .nil (fun env loc st => (put cx (some s.d1)).f b env loc (fun env _ st => match (denQ P cx s.rest).f cur call env st with
    | .ok e env _ => K e env
    | .err n => .err n) st) st
noncomputable def scanL (P : Program) (cx : Cx) (s : Scan) (b : Nat) (call : Caller) (env : List CV) (st : St) (es : List Ent) (acc : Option (Ex × List CV)) (K : Option (Ex × List CV) → R) : R := match es with
  | [] => K acc
  | e :: r => stepQ P cx s (.tup [.bool true, e.key, e.val]) (.bool true) (some (b, .tup [e.key, e.val])) call env st fun ex env' => match ex with
    | .normal => bif keptE env env' then scanL P cx s b call env st r acc K else .err 307
    | .panic _ => .err 308
    | ex => match acc with
      | none => scanL P cx s b call env st r (some (ex, env')) K
      | some (ex0, env0) => bif exAlike ex0 ex then scanL P cx s b call env st r (some (ex0, alikeE env0 env')) K else .err 309
noncomputable def scanEnd (P : Program) (cx : Cx) (s : Scan) (call : Caller) (env : List CV) (st : St) (acc : Option (Ex × List CV)) : R := match acc with
  | some (ex, env) => .ok ex env st
  | none => stepQ P cx s (.tup [.bool false]) (.bool false) none call env st fun ex env => match ex with
    | .normal => .err 310
    | .panic _ => .err 311
    | ex => .ok ex env st
noncomputable def scanF (P : Program) (cx : Cx) (a : Code) (s : Scan) (call : Caller) (b : Nat) (es : List Ent) (since last : Nat) (env : List CV) (st : St) : R :=
  bif rising es && es.all (fun e => Nat.blt e.born since && Nat.blt e.born last) then
    match st with
    | ⟨h, n, d⟩ => (fun env st => scanL P cx s b call env st es none fun acc => scanEnd P cx s call env st acc) (maskE (unwritten (codeOps a)) cx.vars env) ⟨T.set h .dead b, n, d⟩
  else .err 312
/-- a map with two entries or more, of which none was met -/
noncomputable def scanAt (a : Code) (s : Scan) (cx : Cx) (env : List CV) (st : St) : Option (Nat × List Ent × Nat × Nat) := match (ev cx s.it).f (maskE (unwritten (codeOps a)) cx.vars env) .nil with
  | .ptr b o => bif Nat.beq o 0 then match st.heap.get b with
    | some ob => match ob with
      | .miter m since seen last => match m, seen with
        | some mb, [] => match st.heap.get mb with
          | some oc => match oc with
            | .map es clock => bif Nat.beq clock last then match es with
              | _ :: _ :: _ => some (b, es, since, last)
              | _ => none
              else none
            | _ => none
          | none => none
        | _, _ => none
      | _ => none
    | none => none
    else none
  | _ => none

/-! ## Code -/
abbrev CodeF := Box (Caller → List CV → St → R)
noncomputable def loopF (f : List CV → St → R) (n : Nat) : List CV → St → R :=
  Nat.rec (motive := fun _ => List CV → St → R) (fun _ _ => .err 116) (fun _ ih env st => match f env st with
    | .ok e env st => match e with
      | .normal => ih env st
      | e => .ok e env st
    | .err n => .err n) n

noncomputable def den (P : Program) (cx : Cx) (c : Code) : CodeF := match c with
  | .skip => ⟨fun _ env st => .ok .normal env st⟩
  | .label _ => ⟨fun _ env st => .ok .normal env st⟩
  | .region _ ops draw => match draw with
    | false => ⟨fun call env st => (opsF P cx ops.toList ops.toList).f call env .nil st⟩
    | true => drawF P cx ops
  | .seq a b => ⟨fun call env st => match (den P cx a).f call env st with
    | .ok e env st => match e with
      | .normal => (den P cx b).f call env st
      | e => .ok e env st
    | .err n => .err n⟩
  | .cond x a b => ⟨fun call env st => match (ev cx x).f env .nil with
    | .bool t => match t with
      | true => (den P cx a).f call env st
      | false => (den P cx b).f call env st
    | _ => .err 117⟩
  | .block id a => ⟨fun call env st => match (den P cx a).f call env st with
    | .ok e env st => match e with
      | .exit j => bif Nat.beq j id then .ok .normal env st else .ok (.exit j) env st
      | e => .ok e env st
    | .err n => .err n⟩
  | .loop a => match scanOf P a with
    | none => ⟨fun call env st => loopF ((den P cx a).f call) 10000000 env st⟩
    | some s => ⟨fun call env st => match scanAt a s cx env st with
      | none => loopF ((den P cx a).f call) 10000000 env st
      | some (b, es, since, last) => scanF P cx a s call b es since last env st⟩
  | .exit id => ⟨fun _ env st => .ok (.exit id) env st⟩
  | .scope a => ⟨fun call env st => (den P cx a).f call env st⟩
  | .ret => ⟨fun _ env st => .ok .ret env st⟩
  | .rangeFunc f _ _ _ => ⟨fun call env st => match (ev cx f).f env .nil with
    | .func fn fi ca => match fn with
      | .func g => match enters P g with
        | true => match st with
          | ⟨h, nx, d⟩ => forceN (fun nx' => match call g (fi ++ (.unk :: ca)) ⟨T.set h .coll nx, nx', ⟨.ptr nx 0, []⟩ :: d⟩ with
            | .ok _ st => .ok .normal env st
            | .pan _ _ => .err 291
            | .err n => .err n) (Nat.succ nx)
        | false => .err 292
      | _ => .err 293
    | _ => .err 294⟩
  | _ => ⟨fun _ _ _ => .err 118⟩

/-! ## Calls -/
def initEnv (vars : List Nat) (args : List CV) : List CV := match vars with
  | [] => []
  | t :: r => args.getD t .unk :: initEnv r args

noncomputable def resOne (P : Program) (cx : Cx) (r : ResultVar) : Box (List CV → St → (CV → RV) → RV) := match r with
  | .tmp t => ⟨fun env st K => K ((evTmpAt t (pos cx.vars t)).f env .nil)⟩
  | .cell t ty => match aggOf P ty, szOf P ty with
    | some g, some n => ⟨fun env st K => match (evTmpAt t (pos cx.vars t)).f env .nil with
      | .ptr b o => loadAt g n b o st K
      | _ => .err 119⟩
    | _, _ => ⟨fun _ _ _ => .err 120⟩
noncomputable def resL (P : Program) (cx : Cx) (l : List ResultVar) : Box (List CV → St → (List CV → RV) → RV) := match l with
  | [] => ⟨fun _ _ K => K []⟩
  | r :: l => ⟨fun env st K => (resOne P cx r).f env st fun v => (resL P cx l).f env st fun vs => K (v :: vs)⟩
noncomputable def resF (P : Program) (cx : Cx) (l : List ResultVar) : Box (List CV → St → RV) := match l with
  | [r] => ⟨fun env st => (resOne P cx r).f env st fun v => .ok v st⟩
  | l => ⟨fun env st => (resL P cx l).f env st fun vs => .ok (.tup vs) st⟩

/-! ## Functions that are called as deferred ones: they may recover -/
/-- how the frame above is: it returns (none), or panics with a value (which was recovered, or was not) -/
structure Md where
  v : CV
  rcv : Bool
inductive RS where
  | err (n : Nat)
  | ok (e : Ex) (env : List CV) (st : St) (m : Option Md)
def isRecover (o : Oper) : Bool := match o.op with
  | .call c => match c.callee with
    | .builtin b => match b with
      | .recover => match c.args.toList with
        | [] => true
        | _ => false
      | _ => false
    | _ => false
  | _ => false
noncomputable def recov (m : Option Md) (K : CV → Option Md → RS) : RS := match m with
  | none => K .nili none
  | some x => match x with
    | ⟨v, r⟩ => match r with
      | true => K .nili (some ⟨v, true⟩)
      | false => K v (some ⟨v, true⟩)
abbrev PutS := Box (CV → List CV → Loc → (List CV → Loc → RS) → RS)
noncomputable def putS (cx : Cx) (d : Option Nat) : PutS := match d with
  | none => ⟨fun _ env loc K => K env loc⟩
  | some t => match Nat.blt t cx.nt with
    | true => match pos cx.vars t with
      | some k => ⟨fun v env loc K => K (setNth env v k) loc⟩
      | none => ⟨fun v env loc K => K env (.cons t v loc)⟩
    | false => ⟨fun _ _ _ _ => .err 203⟩
noncomputable def opsS (P : Program) (cx : Cx) (l : List Oper) : Box (Caller → List CV → Loc → St → Option Md → RS) := match l with
  | [] => ⟨fun _ env _ st m => .ok .normal env st m⟩
  | o :: r => match o.guard, isRecover o with
    | none, true => ⟨fun call env loc st m => recov m fun v m => (putS cx o.dst).f v env loc fun env loc => (opsS P cx r).f call env loc st m⟩
    | none, false => ⟨fun call env loc st m => match (opF P cx o.op).f call env loc st with
      | .ok v st => (putS cx o.dst).f v env loc fun env loc => (opsS P cx r).f call env loc st m
      | .pan v st => .ok (.panic v) env st m
      | .err n => .err n⟩
    | _, _ => ⟨fun _ _ _ _ _ => .err 204⟩
noncomputable def denS (P : Program) (cx : Cx) (c : Code) : Box (Caller → List CV → St → Option Md → RS) := match c with
  | .seq a b => ⟨fun call env st m => match (denS P cx a).f call env st m with
    | .ok e env st m => match e with
      | .normal => (denS P cx b).f call env st m
      | e => .ok e env st m
    | .err n => .err n⟩
  | .cond x a b => ⟨fun call env st m => match (ev cx x).f env .nil with
    | .bool t => match t with
      | true => (denS P cx a).f call env st m
      | false => (denS P cx b).f call env st m
    | _ => .err 205⟩
  | .region id ops draw => match draw, ops.toList.any isRecover with
    | false, true => ⟨fun call env st m => (opsS P cx ops.toList).f call env .nil st m⟩
    | _, _ => ⟨fun call env st m => match (den P cx (.region id ops draw)).f call env st with
      | .ok e env st => .ok e env st m
      | .err n => .err n⟩
  | c => ⟨fun call env st m => match (den P cx c).f call env st with
    | .ok e env st => .ok e env st m
    | .err n => .err n⟩

def setDfs (d : List Dfr) (st : St) : St := match st with | ⟨h, n, _⟩ => ⟨h, n, d⟩
inductive RD where
  | err (n : Nat)
  | ok (m : Option CV) (h : T Obj) (n : Nat)
def settleM (m : Option Md) : Option CV := match m with
  | none => none
  | some x => match x with
    | ⟨v, r⟩ => match r with
      | true => none
      | false => some v
def openM (m : Option CV) : Option Md := match m with
  | none => none
  | some v => some ⟨v, false⟩
noncomputable def endD (P : Program) (cx : Cx) (l : List ResultVar) (r : RS) : RD := match r with
  | .err n => .err n
  | .ok e env st m => match st with
    | ⟨h, n, ds⟩ => match ds with
      | [] => match e with
        | .normal => (match (resF P cx l).f env ⟨h, n, []⟩ with
          | .ok _ _ => .ok (settleM m) h n
          | _ => .err 206)
        | .ret => (match (resF P cx l).f env ⟨h, n, []⟩ with
          | .ok _ _ => .ok (settleM m) h n
          | _ => .err 207)
        | _ => .err 208
      | _ => .err 209
/-- a deferred function, whole -/
noncomputable def funD (P : Program) (G : Nat) (hint : Nat → List Nat) (f : Nat) : Box (Caller → List CV → Option CV → T Obj → Nat → RD) := match enters P f, P.funcs[f]? with
  | true, some fn => match fn.body with
    | some c => ⟨fun call args m h n => bif Nat.ble (len args) fn.ntmps then
          endD P ⟨hint f, fn.ntmps, G⟩ fn.results.toList ((denS P ⟨hint f, fn.ntmps, G⟩ c).f call (initEnv (hint f) args) ⟨h, n, []⟩ (openM m))
        else .err 210⟩
    | none => ⟨fun _ _ _ _ _ => .err 211⟩
  | _, _ => ⟨fun _ _ _ _ _ => .err 212⟩
noncomputable def oneD (P : Program) (G : Nat) (hint : Nat → List Nat) (call : Caller) (d : Dfr) (m : Option CV) (h : T Obj) (n : Nat) : RD := match d with
  | ⟨f, args⟩ => match f with
    | .func f fi ca => match f with
      | .func g => (funD P G hint g).f call (fi ++ args ++ ca) m h n
      | _ => .err 213
    | .ptr b _ => match h.get b with
      | some ob => match ob with
        | .coll => .ok m (T.set h .dead b) n
        | _ => .err 215
      | none => .err 216
    | _ => .err 214
/-- a function is left: what it deferred, then its results or its panic -/
noncomputable def leaveF (P : Program) (G : Nat) (hint : Nat → List Nat) (cx : Cx) (l : List ResultVar) (call : Caller) (d : List Dfr) (env : List CV) (ds : List Dfr) : Option CV → T Obj → Nat → RV :=
  List.rec (motive := fun _ => Option CV → T Obj → Nat → RV) (fun m h n => match m with
      | none => (resF P cx l).f env ⟨h, n, d⟩
      | some v => .pan v ⟨h, n, d⟩)
    (fun x _ ih m h n => match oneD P G hint call x m h n with
      | .ok m h n => ih m h n
      | .err n => .err n) ds
/-- a function whose code has ended: what it deferred, its results; the caller's deferred calls again -/
noncomputable def endF (P : Program) (G : Nat) (hint : Nat → List Nat) (cx : Cx) (l : List ResultVar) (call : Caller) (d : List Dfr) (r : R) : RV := match r with
  | .err n => .err n
  | .ok e env st => match st with
    | ⟨h, n, ds⟩ => match e with
      | .normal => leaveF P G hint cx l call d env ds none h n
      | .ret => leaveF P G hint cx l call d env ds none h n
      | .panic v => leaveF P G hint cx l call d env ds (some v) h n
      | .exit _ => .err 121

noncomputable def funF (P : Program) (G : Nat) (hint : Nat → List Nat) (f : Nat) : Box (Caller → List CV → St → RV) := match P.funcs[f]? with
  | some fn => match fn.body with
    | some c => ⟨fun call args st => match st with
      | ⟨h, n, d⟩ => bif Nat.ble (len args) fn.ntmps then
          endF P G hint ⟨hint f, fn.ntmps, G⟩ fn.results.toList call d ((den P ⟨hint f, fn.ntmps, G⟩ c).f call (initEnv (hint f) args) ⟨h, n, []⟩)
        else .err 123⟩
    | none => ⟨fun _ _ _ => .err 124⟩
  | none => ⟨fun _ _ _ => .err 125⟩

noncomputable def run (P : Program) (G : Nat) (hint : Nat → List Nat) (n : Nat) : Caller :=
  Nat.rec (motive := fun _ => Caller) (fun _ _ _ => .err 126) (fun _ ih f args st => (funF P G hint f).f ih args st) n
/-- the same, where the answers of some functions are known -/
abbrev Orc := Nat → Option (Box (List CV → Option CV))
noncomputable def runO (P : Program) (G : Nat) (hint : Nat → List Nat) (orc : Orc) (n : Nat) : Caller :=
  Nat.rec (motive := fun _ => Caller) (fun _ _ _ => .err 126) (fun _ ih f args st => match orc f with
    | some g => match g.f args with
      | some v => .ok v st
      | none => (funF P G hint f).f ih args st
    | none => (funF P G hint f).f ih args st) n
/-- answers that are known, of a function at its arguments -/
structure Known where
  fn : Nat
  args : List CV
  val : CV
def findK (f : Nat) (args : List CV) (l : List Known) : Option CV := match l with
  | [] => none
  | p :: r => match p with
    | ⟨g, as, v⟩ => bif Nat.beq g f && eqCVs args as then some v else findK f args r
def someK (f : Nat) (l : List Known) : Bool := match l with
  | [] => false
  | p :: r => match p with
    | ⟨g, _, _⟩ => Nat.beq g f || someK f r
def orcL (l : List Known) : Orc := fun f => match someK f l with
  | true => some ⟨fun args => findK f args l⟩
  | false => none
mutual
/-- a value without addresses -/
def plainV : CV → Bool
  | .bool _ => true
  | .int _ _ => true
  | .float _ _ => true
  | .str _ _ => true
  | .nilp => true
  | .nils => true
  | .nilm => true
  | .nilf => true
  | .nili => true
  | .iface _ v => plainV v
  | .agg l => plainVs l
  | .tup l => plainVs l
  | _ => false
def plainVs : List CV → Bool
  | [] => true
  | v :: r => plainV v && plainVs r
end
def saysV (v : CV) (x : RV) : Bool := match x with
  | .ok u _ => eqCV u v
  | _ => false
end Go.Proofs.YtbmbjaogcmokoaaGreatDoorX
