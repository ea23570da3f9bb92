/- The abstract machine, part 2: compact operations and code, and how the model's code is turned into them. -/
import Derived.Test.YtmdppcokjdpnoaaVmCore
namespace Go.Vm
open Go

inductive AOpd where
  | t (n : Nat)
  | c (v : AVal)
  deriving Inhabited

/-- How two values of a type are held against each other. -/
inductive EqPlan where
  | bool | int | str | nilS | nilM | nilF | nilP
  | fin
  | fld (off : Nat) (agg : Bool) (n : Nat) (p rest : EqPlan)
  | arr (len esz : Nat) (agg : Bool) (p : EqPlan)
  deriving Inhabited

inductive AOp where
  | move (x : AOpd)
  | pick (c a b : AOpd)
  | alloc (zero : List AVal)
  | box (x : AOpd)
  | build (zero : List AVal) (parts : List (Nat × Nat × AOpd))
  | buildSlice (len esz : Nat) (zero : List AVal) (parts : List (Nat × Nat × AOpd))
  | load (agg : Bool) (n : Nat) (x : AOpd)
  | store (n : Nat) (addr val : AOpd)
  | nilCheck (x : AOpd)
  | bin (op : BinOp) (x y : AOpd)
  | eqP (neg : Bool) (p : EqPlan) (x y : AOpd)
  | un (op : UnOp) (x : AOpd)
  | conv (k : IntKind) (x : AOpd)
  | strOfBytes (x : AOpd)
  | strId (x : AOpd)
  | ptrAdd (off : Nat) (x : AOpd)
  | field (agg : Bool) (off n : Nat) (x : AOpd)
  | idxAddrA (len esz : Nat) (x i : AOpd)
  | idxAddrS (esz : Nat) (x i : AOpd)
  | idxA (len esz : Nat) (agg : Bool) (x i : AOpd)
  | idxStr (x i : AOpd)
  | sliceA (len esz : Nat) (x : AOpd) (lo hi mx : Option AOpd)
  | sliceS (esz : Nat) (x : AOpd) (lo hi mx : Option AOpd)
  | sliceStr (x : AOpd) (lo hi : Option AOpd)
  | makeSlice (esz bytes : Nat) (zero : List AVal) (l c : AOpd)
  | makeMap
  | lookup (zero : AVal) (ok : Bool) (x k : AOpd)
  | mapUpdate (m k v : AOpd)
  | mapEntry (zero : AVal) (m k : AOpd)
  | entryStore (m s v : AOpd)
  | mapDelete (m k : AOpd)
  | makeFunc (fn : Fn) (caps : List AOpd)
  | makeIface (t : TypeId) (x : AOpd)
  | call (f : AOpd) (args : List AOpd)
  | append (esz bytes : Nat) (s x : AOpd)
  | copy (esz : Nat) (d s : AOpd)
  | len (kind : Nat) (x : AOpd)
  | lenC (n : Nat)
  | minmax (isMax : Bool) (xs : List AOpd)
  | extract (i : Nat) (x : AOpd)
  deriving Inhabited

structure AOper where
  dst : Option Nat
  op : AOp
  guard : Option (Nat × Bool)
  after : List Nat
  deriving Inhabited

def AOpd.slot : AOpd → Option Nat
  | .t n => some n
  | .c _ => none

def slotsO : Option AOpd → List AOpd
  | none => []
  | some x => [x]

def AOp.opds : AOp → List AOpd
  | .move x | .box x | .load _ _ x | .nilCheck x | .un _ x | .conv _ x | .strOfBytes x | .strId x | .ptrAdd _ x | .field _ _ _ x | .makeIface _ x | .len _ x | .extract _ x => [x]
  | .pick a b c | .mapUpdate a b c | .entryStore a b c => [a, b, c]
  | .alloc _ | .makeMap | .lenC _ => []
  | .build _ ps => ps.map (·.2.2)
  | .buildSlice _ _ _ ps => ps.map (·.2.2)
  | .store _ a b | .bin _ a b | .eqP _ _ a b | .idxAddrA _ _ a b | .idxAddrS _ a b | .idxA _ _ _ a b | .idxStr a b | .makeSlice _ _ _ a b | .lookup _ _ a b | .mapEntry _ a b | .mapDelete a b | .append _ _ a b | .copy _ a b => [a, b]
  | .sliceA _ _ x lo hi mx | .sliceS _ x lo hi mx => x :: (slotsO lo ++ slotsO hi ++ slotsO mx)
  | .sliceStr x lo hi => x :: (slotsO lo ++ slotsO hi)
  | .makeFunc _ cs => cs
  | .call f as => f :: as
  | .minmax _ xs => xs

def AOper.looks (o : AOper) : List Nat := o.op.opds.filterMap AOpd.slot ++ (match o.guard with | some (d, _) => [d] | none => [])

/-- Operations whose value hangs on their operands alone. -/
def AOp.pure : AOp → Bool
  | .move _ | .pick _ _ _ | .build _ _ | .nilCheck _ | .bin _ _ _ | .eqP _ _ _ _ | .un _ _ | .conv _ _ | .strId _ | .ptrAdd _ _ | .field _ _ _ _ | .idxAddrA _ _ _ _ | .idxAddrS _ _ _ | .idxA _ _ _ _ _ | .idxStr _ _
  | .sliceS _ _ _ _ _ | .sliceStr _ _ _ | .makeFunc _ _ | .makeIface _ _ | .lenC _ | .minmax _ _ | .extract _ _ => true
  | _ => false

/-- Operations that only look at the heap. -/
def AOp.reads : AOp → Bool
  | .load _ _ _ | .sliceA _ _ _ _ _ _ | .lookup _ _ _ _ | .strOfBytes _ | .len _ _ => true
  | _ => false

def aReady (aos : List AOper) (listed : Array Bool) : List Nat :=
  (List.range aos.length).filter fun i => !listed.getD i true && ((aos[i]?).map (·.after.all fun e => listed.getD e false)).getD false

def mkAnc : List AOper → List (List Nat) → List (List Nat)
  | [], acc => acc
  | o :: os, acc => mkAnc os (acc ++ [(o.after.flatMap fun p => p :: acc.getD p []).eraseDups])

def AOp.mobile (o : AOp) : Bool := o.pure || o.reads

/-- Those that must keep their order. -/
def stays (aos : List AOper) : List Nat := (List.range aos.length).filter fun j => !(((aos[j]?).map (·.op.mobile)).getD true)

/-- Must number i still be able to run here? -/
def cond (aos : List AOper) (tab : List (List Nat)) (i : Nat) (listed : Array Bool) : Bool :=
  (stays aos).all fun j => !(listed.getD j false && (tab.getD j []).contains i) && (!(tab.getD i []).contains j || listed.getD j false)

inductive PStep where
  | mob (i : Nat)
  | imm (i : Nat) (obl : List Nat)
  deriving Inhabited

def apartB (o oj : AOper) : Bool :=
  match o.dst with
  | some x => !oj.looks.contains x && oj.dst != some x && (match oj.dst with | some y => !o.looks.contains y | none => true)
  | none => (match oj.dst with | some y => !o.looks.contains y | none => true)

def freeB (aos : List AOper) (listed : Array Bool) (i : Nat) (o : AOper) : Bool :=
  (List.range aos.length).all fun j => j == i || listed.getD j false || match aos[j]? with
    | some oj => oj.after.contains i || apartB o oj
    | none => true

def readers (aos : List AOper) : List Nat := (List.range aos.length).filter fun j => ((aos[j]?).map (·.op.reads)).getD false

def planOk (aos : List AOper) (tab : List (List Nat)) : List PStep → Array Bool → Bool
  | [], listed => (aReady aos listed).isEmpty
  | .mob i :: ps, listed => (match aos[i]? with
    | some o => o.op.mobile && (aReady aos listed).contains i && freeB aos listed i o
    | none => false) && planOk aos tab ps (listed.setIfInBounds i true)
  | .imm i obl :: ps, listed => (aReady aos listed == [i]) && ((readers aos).all fun k => !cond aos tab k (listed.setIfInBounds i true) || obl.contains k) && planOk aos tab ps (listed.setIfInBounds i true)

/-- A plan: what may move goes first. -/
def mkPlan (aos : List AOper) (tab : List (List Nat)) : Nat → Array Bool → Option (List PStep)
  | 0, listed => if (aReady aos listed).isEmpty then some [] else none
  | n + 1, listed =>
    let rs := aReady aos listed
    match rs.find? (fun i => match aos[i]? with | some o => o.op.mobile && freeB aos listed i o | none => false) with
    | some i => (mkPlan aos tab n (listed.setIfInBounds i true)).map (.mob i :: ·)
    | none => match rs with
      | [i] =>
        let l := listed.setIfInBounds i true
        (mkPlan aos tab n l).map (.imm i ((readers aos).filter fun k => cond aos tab k l) :: ·)
      | _ => none

/-- The plan, looked through, and who must be asked at the start. -/
def planFor (aos : List AOper) : Option (List PStep × List Nat) :=
  let tab := mkAnc aos []
  let start := Array.replicate aos.length false
  (mkPlan aos tab aos.length start).bind fun ps =>
    if ps.length == aos.length && planOk aos tab ps start then some (ps, (readers aos).filter fun k => cond aos tab k start) else none

inductive ACode where
  | skip
  | region (ops : List AOper)
  | draw (ops : List AOper) (plan : List PStep) (start : List Nat)
  | seq (a b : ACode)
  | cond (c : AOpd) (a b : ACode)
  | block (id : Nat) (a : ACode)
  | loop (a : ACode)
  | rangeFunc (f : AOpd) (params : List Nat) (assign body : ACode)
  | exit (id : Nat)
  | ret
  deriving Inhabited

/-- A constant as an abstract value. -/
def aconst : Value → AVal
  | .agg cs => .agg (cs.toList.map .raw)
  | .tuple cs => .tuple (cs.toList.map .raw)
  | .func fn first caps => if first.toList.isEmpty && caps.toList.isEmpty then .func fn [] else .raw (.func fn first caps)
  | v => .raw v

theorem aconst_rel (ρ : Ren) (v : Value) : VRel ρ (aconst v) v := by
  cases v <;> simp only [aconst] <;> try exact .raw _
  · rename_i fn first caps
    split
    · rename_i h
      have h : first = #[] ∧ caps = #[] := by simpa using h
      obtain ⟨rfl, rfl⟩ := h
      exact VRel.func (vs := []) .nil
    · exact .raw _
  · rename_i cs; exact VRel.agg (vs := cs.toList) (VRels.map_raw _)
  · rename_i cs; exact VRel.tuple (vs := cs.toList) (VRels.map_raw _)

def cOpd : Operand → Option AOpd
  | .tmp t => some (.t t)
  | .const v => some (.c (aconst v))
  | .func f => some (.c (.func (.func f) []))
  | .global _ => none

def cOpdO : Option Operand → Option (Option AOpd)
  | none => some none
  | some x => (cOpd x).map some

def cOpds : List Operand → Option (List AOpd)
  | [] => some []
  | x :: xs => (cOpd x).bind fun y => (cOpds xs).map (y :: ·)

def isAggD : TypeDesc → Bool
  | .struct _ | .array _ _ => true
  | _ => false

def szOf (P : Program) (t : TypeId) : Option Nat := (P.info? t).map (·.size)
def zeroOf (P : Program) (t : TypeId) : Option Value := (P.info? t).bind (·.zero)
/-- Size and whether it is an aggregate. -/
def shOf (P : Program) (t : TypeId) : Option (Bool × Nat) := (P.underlying t).bind fun d => (szOf P t).map fun n => (isAggD d, n)
/-- Of a type that is no aggregate one cell is loaded, whatever its size. -/
def partSz (P : Program) (t : TypeId) : Option (Bool × Nat) := (shOf P t).map fun (a, n) => (a, if a then n else 1)

def cParts (places : Nat → Option (Nat × Nat)) : List (Nat × Operand) → Option (List (Nat × Nat × AOpd))
  | [] => some []
  | (i, x) :: r => (places i).bind fun (o, n) => (cOpd x).bind fun y => (cParts places r).map ((o, n, y) :: ·)

def fieldPlaces (P : Program) (fs : Array Field) (i : Nat) : Option (Nat × Nat) := (fs[i]?).bind fun f => (szOf P f.type).map fun n => (f.offset, n)

def cFlds (P : Program) (f : TypeId → Option EqPlan) : List Field → Option EqPlan
  | [] => some .fin
  | fd :: r => if fd.name = "_" then cFlds P f r else (partSz P fd.type).bind fun (a, n) => (f fd.type).bind fun p => (cFlds P f r).map (.fld fd.offset a n p)

def cEq (P : Program) : Nat → TypeId → Option EqPlan
  | 0, _ => none
  | d + 1, t =>
    match P.underlying t with
    | some .bool => some .bool
    | some (.int _) => some .int
    | some .string => some .str
    | some (.slice _) => some .nilS
    | some (.map _ _) => some .nilM
    | some (.func _ _ _) => some .nilF
    | some (.pointer _) => some .nilP
    | some (.struct fs) => if P.stoodInHeld t then none else cFlds P (cEq P d) fs.toList
    | some (.array n e) => (partSz P e).bind fun (a, k) => (szOf P e).bind fun m => if k = m then (cEq P d e).map (.arr n m a) else none
    | _ => none

def cBin (P : Program) (op : BinOp) (t : TypeId) (x y : AOpd) : Option AOp :=
  match op with
  | .eql | .neq =>
    match P.underlying t with
    | some (.int _) | some .string => some (.bin op x y)
    | some d => if isAggD d && P.eqGuardType P.depth t then none else (cEq P 20 t).map fun p => .eqP (op == .neq) p x y
    | none => none
  | _ =>
    match P.underlying t with
    | some (.int _) | some .string => some (.bin op x y)
    | _ => none

def cConv (P : Program) (src dst : TypeId) (x : AOpd) : Option AOp :=
  match P.underlying src, P.underlying dst with
  | some (.int _), some (.int k) => some (.conv k x)
  | some .string, some .string => some (.strId x)
  | some (.slice e), some .string => match P.underlying e with | some (.int .u8) => some (.strOfBytes x) | _ => none
  | _, _ => none

def cAppend (P : Program) : List Operand → List TypeId → Option AOp
  | [s, x], [t, u] =>
    match P.underlying t, P.underlying u with
    | some (.slice e), some (.slice _) => (P.info? e).bind fun i => i.zero.bind fun z => if (aconst z).cells.length == i.size then (cOpd s).bind fun s => (cOpd x).map fun x => .append i.size i.bytes s x else none
    | _, _ => none
  | _, _ => none

def cCopy (P : Program) : List Operand → List TypeId → Option AOp
  | [d, s], [t, u] =>
    match P.underlying t, P.underlying u with
    | some (.slice e), some (.slice _) => (szOf P e).bind fun n => (cOpd d).bind fun d => (cOpd s).map fun s => .copy n d s
    | _, _ => none
  | _, _ => none

def cLen (P : Program) : List Operand → List TypeId → Option AOp
  | [x], [t] =>
    match P.underlying t with
    | some .string => (cOpd x).map (.len 0)
    | some (.slice _) => (cOpd x).map (.len 1)
    | some (.map _ _) => (cOpd x).map (.len 2)
    | some (.array n _) => some (.lenC n)
    | some (.pointer a) => match P.underlying a with | some (.array n _) => some (.lenC n) | _ => none
    | _ => none
  | _, _ => none

def cDelete (P : Program) : List Operand → List TypeId → Option AOp
  | [m, k], [t, _] =>
    match P.underlying t with
    | some (.map key _) => match P.underlying key with | some (.int _) => (cOpd m).bind fun m => (cOpd k).map fun k => .mapDelete m k | _ => none
    | _ => none
  | _, _ => none

def cBuiltin (P : Program) (b : Builtin) (args : List Operand) (tys : List TypeId) : Option AOp :=
  match b with
  | .append => cAppend P args tys
  | .copy => cCopy P args tys
  | .len => cLen P args tys
  | .delete => cDelete P args tys
  | .min => (cOpds args).map (.minmax false)
  | .max => (cOpds args).map (.minmax true)
  | _ => none

def cCall (P : Program) (c : Call) : Option AOp :=
  match c.callee with
  | .value f => (cOpd f).bind fun g => (cOpds c.args.toList).map fun as => .call g as
  | .invoke _ _ => none
  | .builtin b => cBuiltin P b c.args.toList c.argTypes.toList

def cOp (P : Program) : Op → Option AOp
  | .move x | .assign x => (cOpd x).map .move
  | .pick c a b => (cOpd c).bind fun c => (cOpd a).bind fun a => (cOpd b).map fun b => .pick c a b
  | .alloc t => (zeroOf P t).map fun z => .alloc (aconst z).cells
  | .box _ x => (cOpd x).map .box
  | .build t parts => (zeroOf P t).bind fun z =>
    match P.underlying t with
    | some (.struct fs) => (fs.toList.mapM fun f => szOf P f.type).bind fun _ => (cParts (fieldPlaces P fs) parts.toList).map (.build (aconst z).cells)
    | some (.array _ e) => (szOf P e).bind fun n => (cParts (fun i => some (i * n, n)) parts.toList).map (.build (aconst z).cells)
    | _ => none
  | .buildSlice t len parts =>
    match P.underlying t with
    | some (.slice e) => (szOf P e).bind fun n => (zeroOf P e).bind fun z =>
      if len * n ≤ 2 ^ 24 && (aconst z).cells.length == n then (cParts (fun i => some (i * n, n)) parts.toList).map (.buildSlice len n (aconst z).cells) else none
    | _ => none
  | .load t x => (partSz P t).bind fun (a, n) => (cOpd x).map (.load a n)
  | .store t a x => (szOf P t).bind fun n => (cOpd a).bind fun a => (cOpd x).map (.store n a)
  | .nilCheck x => (cOpd x).map .nilCheck
  | .binOp op t x y _ => (cOpd x).bind fun x => (cOpd y).bind fun y => cBin P op t x y
  | .unOp op _ x => (cOpd x).map (.un op)
  | .convert src dst x => (cOpd x).bind (cConv P src dst)
  | .makeFunc fn first caps => if first.isEmpty then (cOpds caps.toList).map (.makeFunc fn) else none
  | .makeInterface t x =>
    match P.underlying t with
    | some (.interface _) | none => none
    | some _ => (cOpd x).map (.makeIface t)
  | .fieldAddr s x f =>
    match P.underlying s with
    | some (.struct fs) => (fs[f]?).bind fun fd => (szOf P fd.type).bind fun n => if n = 0 then none else (cOpd x).map (.ptrAdd fd.offset)
    | _ => none
  | .field s x f =>
    match P.underlying s with
    | some (.struct fs) => (fs[f]?).bind fun fd => (partSz P fd.type).bind fun (a, n) => (cOpd x).map (.field a fd.offset n)
    | _ => none
  | .indexAddr t x i =>
    match P.underlying t with
    | some (.array len e) => (szOf P e).bind fun n => (cOpd x).bind fun x => (cOpd i).map (.idxAddrA len n x)
    | some (.slice e) => (szOf P e).bind fun n => (cOpd x).bind fun x => (cOpd i).map (.idxAddrS n x)
    | _ => none
  | .index t x i =>
    match P.underlying t with
    | some (.array len e) => (partSz P e).bind fun (a, n) => (szOf P e).bind fun m => if n = m then (cOpd x).bind fun x => (cOpd i).map (.idxA len n a x) else none
    | some .string => (cOpd x).bind fun x => (cOpd i).map (.idxStr x)
    | _ => none
  | .slice t x lo hi mx => (cOpdO lo).bind fun lo => (cOpdO hi).bind fun hi => (cOpdO mx).bind fun mx =>
    match P.underlying t with
    | some (.array n e) => (szOf P e).bind fun s => (cOpd x).map fun x => .sliceA n s x lo hi mx
    | some (.slice e) => (szOf P e).bind fun s => (cOpd x).map fun x => .sliceS s x lo hi mx
    | some .string => match mx with | none => (cOpd x).map fun x => .sliceStr x lo hi | some _ => none
    | _ => none
  | .makeSlice t l c =>
    match P.underlying t with
    | some (.slice e) => (P.info? e).bind fun i => i.zero.bind fun z => if (aconst z).cells.length == i.size then (cOpd l).bind fun l => (cOpd c).map (.makeSlice i.size i.bytes (aconst z).cells l) else none
    | _ => none
  | .makeMap t none => match P.underlying t with | some (.map _ _) => some .makeMap | _ => none
  | .lookup t x k ok =>
    match P.underlying t with
    | some (.map key e) => match P.underlying key with
      | some (.int _) => (zeroOf P e).bind fun z => (cOpd x).bind fun x => (cOpd k).map (.lookup (aconst z) ok x)
      | _ => none
    | _ => none
  | .mapUpdate t m k v | .insert t m k v =>
    match P.underlying t with
    | some (.map key _) => match P.underlying key with
      | some (.int _) => (cOpd m).bind fun m => (cOpd k).bind fun k => (cOpd v).map (.mapUpdate m k)
      | _ => none
    | _ => none
  | .mapEntry t m k =>
    match P.underlying t with
    | some (.map key e) => match P.underlying key with
      | some (.int _) => (zeroOf P e).bind fun z => (cOpd m).bind fun m => (cOpd k).map (.mapEntry (aconst z) m)
      | _ => none
    | _ => none
  | .entryStore _ m s v => (cOpd m).bind fun m => (cOpd s).bind fun s => (cOpd v).map (.entryStore m s)
  | .extract x i => (cOpd x).map (.extract i)
  | .call c => cCall P c
  | _ => none

/-- A compact call comes of a call of a value. -/
def okCall (op : Op) (a : AOp) : Bool :=
  match a with
  | .call _ _ => match op with
    | .call c => match c.callee with
      | .value _ => true
      | _ => false
    | _ => false
  | _ => true

def cOper (P : Program) (ops : Array Oper) (o : Oper) : Option AOper :=
  (cOp P o.op).bind fun a =>
    if okCall o.op a then
      let after := (o.after.toList.filter (Region.binds .any)).map (·.on)
      match o.guard with
      | none => some { dst := o.dst, op := a, guard := none, after }
      | some (j, b) => ((ops[j]?).bind (·.dst)).map fun d => { dst := o.dst, op := a, guard := some (d, b), after }
    else none

def cOpers (P : Program) (ops : Array Oper) : List Oper → Option (List AOper)
  | [] => some []
  | o :: r => (cOper P ops o).bind fun a => (cOpers P ops r).map (a :: ·)

def cCode (P : Program) : Code → Option ACode
  | .skip => some .skip
  | .region _ ops dr => (cOpers P ops ops.toList).bind fun aos => if dr then (planFor aos).map fun (ps, l) => .draw aos ps l else some (.region aos)
  | .seq a b => (cCode P a).bind fun a => (cCode P b).map (.seq a)
  | .cond c a b => (cOpd c).bind fun c => (cCode P a).bind fun a => (cCode P b).map (.cond c a)
  | .block id a => (cCode P a).map (.block id)
  | .loop a => (cCode P a).map .loop
  | .rangeFunc f ps a b => (cOpd f).bind fun f => (cCode P a).bind fun a => (cCode P b).map (.rangeFunc f ps.toList a)
  | .exit id => some (.exit id)
  | .ret => some .ret
  | _ => none

end Go.Vm
