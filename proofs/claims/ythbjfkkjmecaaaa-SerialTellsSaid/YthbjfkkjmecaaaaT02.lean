/- The abstract machine, part 4: what an operation does to abstract values and heaps. -/
import Derived.Test.YthbjfkkjmecaaaaT01
import Derived.Laws.Strings
set_option linter.unusedVariables false
set_option linter.unusedSimpArgs false
namespace Go.Vm
open Go
abbrev aundef : AVal := .raw undef
abbrev aint (n : Int) : AVal := .raw (.int .i64 n)
abbrev abool (b : Bool) : AVal := .raw (.bool b)
abbrev anil : AVal := .raw (.slice none 0 0)
def ev (tm : List AVal) : AOpd → AVal
  | .t n => tm.getD n aundef
  | .c v => v
def ile : Int → Int → Bool
  | .ofNat a, .ofNat b => Nat.ble a b
  | .ofNat _, .negSucc _ => false
  | .negSucc _, .ofNat _ => true
  | .negSucc a, .negSucc b => Nat.ble b a
theorem ile_eq (a b : Int) : ile a b = decide (a ≤ b) := by
  rw [Bool.eq_iff_iff]
  cases a <;> cases b <;> simp [ile] <;> omega
def ilt (a b : Int) : Bool := !ile b a
theorem ilt_eq (a b : Int) : ilt a b = decide (a < b) := by
  rw [ilt, ile_eq, Bool.eq_iff_iff]; simp
def ieq : Int → Int → Bool
  | .ofNat a, .ofNat b => Nat.beq a b
  | .negSucc a, .negSucc b => Nat.beq a b
  | _, _ => false
theorem ieq_eq (a b : Int) : ieq a b = decide (a = b) := by
  rw [Bool.eq_iff_iff]
  cases a <;> cases b <;> simp [ieq] <;> omega
def wrapF (k : IntKind) (n : Int) : Int :=
  match k with
  | .i64 => let m := n % 18446744073709551616; if ile 9223372036854775808 m then m - 18446744073709551616 else m
  | .u64 => n % 18446744073709551616
  | .i32 => let m := n % 4294967296; if ile 2147483648 m then m - 4294967296 else m
  | .u32 => n % 4294967296
  | .i16 => let m := n % 65536; if ile 32768 m then m - 65536 else m
  | .u16 => n % 65536
  | .i8 => let m := n % 256; if ile 128 m then m - 256 else m
  | .u8 => n % 256
theorem wrapF_eq (k : IntKind) (n : Int) : wrapF k n = k.wrap n := by
  cases k <;> simp [wrapF, IntKind.wrap, IntKind.bits, IntKind.signed, ile_eq]
def aBits (op : BinOp) (k : IntKind) (x y : Int) : Option Int :=
  let a := BitVec.ofInt k.bits x
  let b := BitVec.ofInt k.bits y
  match op with
  | .and => some (wrapF k (a &&& b).toNat)
  | .or => some (wrapF k (a ||| b).toNat)
  | .xor => some (wrapF k (a ^^^ b).toNat)
  | .andNot => some (wrapF k (a &&& ~~~b).toNat)
  | _ => none
def aArith (op : BinOp) (k : IntKind) (a b : Int) : Option AVal :=
  match op with
  | .add => some (.raw (.int k (wrapF k (a + b))))
  | .sub => some (.raw (.int k (wrapF k (a - b))))
  | .mul => some (.raw (.int k (wrapF k (a * b))))
  | .quo => if ieq b 0 then none else some (.raw (.int k (wrapF k (a.tdiv b))))
  | .rem => if ieq b 0 then none else some (.raw (.int k (a.tmod b)))
  | .and | .or | .xor | .andNot => (aBits op k a b).map fun n => .raw (.int k n)
  | .eql => some (abool (ieq a b))
  | .neq => some (abool (!ieq a b))
  | .lss => some (abool (ilt a b))
  | .leq => some (abool (ile a b))
  | .gtr => some (abool (ilt b a))
  | .geq => some (abool (ile b a))
  | .shl => if ilt b 0 then none else some (.raw (.int k (wrapF k (a * 2 ^ (min b.toNat k.bits)))))
  | .shr => if ilt b 0 then none else some (.raw (.int k (a.fdiv (2 ^ (min b.toNat k.bits)))))
def strLess : List UInt8 → List UInt8 → Bool
  | _, [] => false
  | [], _ :: _ => true
  | a :: x, b :: y => Nat.blt a.toNat b.toNat || (Nat.beq a.toNat b.toNat && strLess x y)
def strEq : List UInt8 → List UInt8 → Bool
  | [], [] => true
  | a :: x, b :: y => Nat.beq a.toNat b.toNat && strEq x y
  | _, _ => false
def aStr (op : BinOp) (x y : ByteArray) : Option AVal :=
  let l := x.data.toList
  let r := y.data.toList
  match op with
  | .add => if ((x.data.toList.length + y.data.toList.length : Nat) : Int) ≤ 9223372036854775807 then some (.raw (.string ⟨(l ++ r).toArray⟩)) else none
  | .eql => some (abool (strEq l r))
  | .neq => some (abool (!strEq l r))
  | .lss => some (abool (strLess l r))
  | .leq => some (abool (strLess l r || strEq l r))
  | .gtr => some (abool !(strLess l r || strEq l r))
  | .geq => some (abool !(strLess l r))
  | _ => none
def aBin (op : BinOp) (x y : AVal) : Option AVal :=
  match x, y with
  | .raw (.int k a), .raw (.int k' b) =>
    if op = .shl ∨ op = .shr then aArith op k a b else if k = k' then aArith op k a b else none
  | .raw (.string a), .raw (.string b) => aStr op a b
  | _, _ => none
def aUn (op : UnOp) (x : AVal) : Option AVal :=
  match op, x with
  | .neg, .raw (.int k n) => some (.raw (.int k (wrapF k (0 - n))))
  | .xor, .raw (.int k n) => (aBits .xor k (if k.signed then -1 else k.max) n).map fun m => .raw (.int k m)
  | .not, .raw (.bool b) => some (abool !b)
  | _, _ => none
def aFill : List AVal → List (Nat × Nat × AVal) → Option (List AVal)
  | cells, [] => some cells
  | cells, (off, n, v) :: r => if v.cells.length = n ∧ off + n ≤ cells.length then aFill (spl cells off v.cells) r else none
def repl (n : Nat) (l : List AVal) : List AVal :=
  match n with
  | 0 => []
  | n + 1 => l ++ repl n l
def aPart (agg : Bool) (cs : List AVal) (off n : Nat) : Option AVal :=
  if agg then some (.agg ((cs.drop off).take n)) else cs[off]?
def aBytes : List AVal → Option (List UInt8)
  | [] => some []
  | .raw (.int .u8 n) :: r => (aBytes r).map (UInt8.ofNat n.toNat :: ·)
  | _ => none
def aBound (x : AVal) (top : Nat) : Option Nat :=
  match x with
  | .raw (.int _ i) => if ile 0 i && ile i top then some i.toNat else none
  | _ => none
def aBoundO (x : Option AVal) (d top : Nat) : Option Nat :=
  match x with
  | none => some d
  | some v => aBound v top
def aSliceS (esz : Nat) (x : AVal) (lo hi mx : Option AVal) : Option AVal :=
  match x with
  | .slice A ver off len kcap ex esz' =>
    if esz' = esz then
      match mx with
      | none => (aBoundO hi len kcap).bind fun h => (aBoundO lo 0 h).map fun l => .slice A ver (off + l * esz) (h - l) (kcap - l) ex esz
      | some m => (aBound m kcap).bind fun m => match hi with
        | none => none
        | some hi => (aBound hi m).bind fun h => (aBoundO lo 0 h).map fun l => .slice A ver (off + l * esz) (h - l) (m - l) true esz
    else none
  | .raw (.slice none 0 0) =>
    match mx with
    | none => (aBoundO hi 0 0).bind fun h => (aBoundO lo 0 h).map fun _ => anil
    | some m => (aBound m 0).bind fun m => match hi with
      | none => none
      | some hi => (aBound hi m).bind fun h => (aBoundO lo 0 h).map fun _ => anil
  | _ => none
def aSliceA (H : AHeap) (n esz : Nat) (x : AVal) (lo hi mx : Option AVal) : Option AVal :=
  match x with
  | .ptr A ver off =>
    (H.rowAt A ver).bind fun cells =>
    if 0 < n * esz ∧ off + n * esz ≤ cells.length then
      match mx with
      | none => (aBoundO hi n n).bind fun h => (aBoundO lo 0 h).map fun l => .slice A ver (off + l * esz) (h - l) (n - l) true esz
      | some m => (aBound m n).bind fun m => match hi with
        | none => none
        | some hi => (aBound hi m).bind fun h => (aBoundO lo 0 h).map fun l => .slice A ver (off + l * esz) (h - l) (m - l) true esz
    else none
  | _ => none
def aSliceStr (x : AVal) (lo hi : Option AVal) : Option AVal :=
  match x with
  | .raw (.string s) => (aBoundO hi s.data.toList.length s.data.toList.length).bind fun h => (aBoundO lo 0 h).map fun l => .raw (.string ⟨((s.data.toList.drop l).take (h - l)).toArray⟩)
  | _ => none
abbrev AEntries := List (AVal × AVal × Nat)
def aFind (k : IntKind) (n : Int) : AEntries → Nat → Option (Option (Nat × AVal × Nat))
  | [], _ => some none
  | (.raw (.int k' m), v, b) :: r, i => if k = k' then (if ieq n m then some (some (i, v, b)) else aFind k n r (i + 1)) else none
  | _ :: _, _ => none
def aFindBorn (n : Int) : AEntries → Nat → Option Nat
  | [], _ => none
  | (_, _, b) :: r, i => if ieq b n then some i else aFindBorn n r (i + 1)
def setVal (v : AVal) : AEntries → Nat → AEntries
  | [], _ => []
  | (k, _, b) :: r, 0 => (k, v, b) :: r
  | e :: r, i + 1 => e :: setVal v r i
def lookupDone (zero : AVal) (ok : Bool) : Option (Nat × AVal × Nat) → AVal
  | some (_, v, _) => if ok then .tuple [v, abool true] else v
  | none => if ok then .tuple [zero, abool false] else zero
def aLookup (H : AHeap) (zero : AVal) (ok : Bool) (x k : AVal) : Option AVal :=
  match k with
  | .raw (.int kk n) =>
    match x with
    | .raw (.map none) => some (lookupDone zero ok none)
    | .map M => match H.get M with
      | some (.map es _) => (aFind kk n es 0).map (lookupDone zero ok)
      | _ => none
    | _ => none
  | _ => none
def aMapUpdate (H : AHeap) (m k v : AVal) : Option AHeap :=
  match m, k with
  | .map M, .raw (.int kk n) => match H.get M with
    | some (.map es clock) => (aFind kk n es 0).map fun
      | some (i, _, _) => H.set M (.map (setVal v es i) clock)
      | none => H.set M (.map (es ++ [(k, v, clock)]) (clock + 1))
    | _ => none
  | _, _ => none
def aMapEntry (H : AHeap) (zero m k : AVal) : Option (AVal × AHeap) :=
  match m, k with
  | .map M, .raw (.int kk n) => match H.get M with
    | some (.map es clock) => (aFind kk n es 0).map fun
      | some (_, v, b) => (.tuple [v, aint b], H)
      | none => (.tuple [zero, aint clock], H.set M (.map (es ++ [(k, zero, clock)]) (clock + 1)))
    | _ => none
  | _, _ => none
def aEntryStore (H : AHeap) (m s v : AVal) : Option AHeap :=
  match m, s with
  | .map M, .raw (.int _ n) => match H.get M with
    | some (.map es clock) => (aFindBorn n es 0).map fun i => H.set M (.map (setVal v es i) clock)
    | _ => none
  | _, _ => none
def aMapDelete (H : AHeap) (m k : AVal) : Option AHeap :=
  match m, k with
  | .raw (.map none), _ => some H
  | .map M, .raw (.int kk n) => match H.get M with
    | some (.map es clock) => (aFind kk n es 0).map fun
      | some (i, _, _) => H.set M (.map (es.eraseIdx i) clock)
      | none => H
    | _ => none
  | _, _ => none
def bornIn (seen : List Nat) (b : Nat) : Bool := seen.any (Nat.beq b)
def aNext (es : AEntries) (since : Nat) (seen : List Nat) (last : Nat) : Option (Option (AVal × AVal × Nat)) :=
  if !seen.isEmpty && !es.isEmpty && es.all (fun e => Nat.ble last e.2.2) then none else
  match (es.filter fun e => !bornIn seen e.2.2).filter (fun e => Nat.blt e.2.2 since), (es.filter fun e => !bornIn seen e.2.2).filter (fun e => Nat.ble since e.2.2) with
  | [], [] => some none
  | [e], [] => some (some e)
  | _, _ => none
def aIterNextAt (H : AHeap) (A : Nat) : Option (AVal × AHeap) :=
  match H.get A with
  | some (.iter none _ _ _) => some (.tuple [abool false], H)
  | some (.iter (some M) since seen last) => match H.get M with
    | some (.map es clock) => (aNext es since seen last).map fun
      | none => (.tuple [abool false], H)
      | some (k, v, b) => (.tuple [abool true, k, v], H.set A (.iter (some M) since (seen ++ [b]) clock))
    | _ => none
  | _ => none
def aIterNext (H : AHeap) (x : AVal) : Option (AVal × AHeap) :=
  match x with
  | .ptr A 0 0 => aIterNextAt H A
  | _ => none
def lastOf : List Nat → Option Nat
  | [] => none
  | [x] => some x
  | _ :: r => lastOf r
def aIterEntry (H : AHeap) (x : AVal) : Option AVal :=
  match x with
  | .ptr A 0 0 => match H.get A with
    | some (.iter (some M) _ seen last) => match H.get M with
      | some (.map es clock) => if Nat.beq clock last then (lastOf seen).bind fun b => (es.find? fun e => Nat.beq e.2.2 b).map fun e => .tuple [e.1, e.2.1] else none
      | _ => none
    | _ => none
  | _ => none
def aIterNew (H : AHeap) (x : AVal) : Option (AVal × AHeap) :=
  match x with
  | .raw (.map none) => some (.ptr H.next 0 0, H.push (.iter none 0 [] 0))
  | .map M => match H.get M with
    | some (.map _ clock) => some (.ptr H.next 0 0, H.push (.iter (some M) clock [] clock))
    | _ => none
  | _ => none
def aClearM (H : AHeap) (x : AVal) : Option AHeap :=
  match x with
  | .raw (.map none) => some H
  | .map M => match H.get M with
    | some (.map _ clock) => some (H.set M (.map [] clock))
    | _ => none
  | _ => none
def aClearS (H : AHeap) (zero : List AVal) (x : AVal) : Option AHeap :=
  match x with
  | .raw (.slice none 0 0) => some H
  | .slice A ver off len _ _ _ => if len = 0 then some H else H.write A ver off (repl len zero)
  | _ => none
def aCells (H : AHeap) (esz : Nat) : AVal → Option (List AVal)
  | .raw (.slice none 0 0) => some []
  | .slice A ver off len _ _ _ => (H.rowAt A ver).bind fun cells => if off + len * esz ≤ cells.length then some ((cells.drop off).take (len * esz)) else none
  | _ => none
def aLen : AVal → Option Nat
  | .raw (.slice none 0 0) => some 0
  | .slice _ _ _ len _ _ _ => some len
  | _ => none
def aAppend (H : AHeap) (esz bytes : Nat) (s x : AVal) : Option (AVal × AHeap) :=
  (aLen x).bind fun m => (aCells H esz x).bind fun news =>
  if m = 0 then (match s with | .raw (.slice none 0 0) => some (s, H) | .slice .. => some (s, H) | _ => none)
  else if 0 < esz && 0 < bytes && news.all AVal.one then
  match s with
  | .raw (.slice none 0 0) => if m * bytes ≤ 140737488355328 then some (.slice H.next 0 0 m m false esz, H.push (.row [some (0, news)])) else none
  | .slice A ver off len kcap ex esz' =>
    if esz' = esz then
      if len + m ≤ kcap then (H.write A ver (off + len * esz) news).map fun H' => (.slice A ver off (len + m) kcap ex esz, H')
      else if (len + m) * bytes ≤ 140737488355328 then
        (H.rowAt A ver).bind fun cells =>
        if off + len * esz ≤ cells.length then
          let all := (cells.drop off).take (len * esz) ++ news
          if ex then some (.slice H.next 0 0 (len + m) (len + m) false esz, H.push (.row [some (0, all)]))
          else match H.get A with
            | some (.row vs) => match vs[ver]? with
              | some (some (rel, _)) => some (.slice A vs.length 0 (len + m) (len + m) false esz, H.set A (.row (newVer vs (rel + off + len * esz) news.length (rel + off) all)))
              | _ => none
            | _ => none
        else none
      else none
    else none
  | _ => none
  else none
def aAppendZ (H : AHeap) (esz bytes : Nat) (zero : List AVal) (s n : AVal) : Option (AVal × AHeap) :=
  match s, n with
  | .slice A ver off len kcap true esz', .raw (.int .i64 l) =>
    if esz' = esz ∧ 0 < esz ∧ 0 < bytes ∧ 0 < l ∧ kcap < len + l.toNat ∧ (len + l.toNat) * bytes ≤ 140737488355328 then
      (H.rowAt A ver).bind fun cells =>
      if off + len * esz ≤ cells.length then some (.slice H.next 0 0 (len + l.toNat) (len + l.toNat) false esz, H.push (.row [some (0, (cells.drop off).take (len * esz) ++ repl l.toNat zero)])) else none
    else none
  | _, _ => none
def aCap : AVal → Option AVal
  | .slice _ _ _ _ kcap true _ => some (aint kcap)
  | .raw (.slice none 0 0) => some (aint 0)
  | _ => none
def aCopy (H : AHeap) (esz : Nat) (d s : AVal) : Option (AVal × AHeap) :=
  (aLen d).bind fun dl => (aLen s).bind fun sl => (aCells H esz s).bind fun cells =>
  let n := min sl dl
  if n * esz = 0 then some (aint n, H) else
  match d with
  | .slice A ver off _ _ _ _ => (H.write A ver off (cells.take (n * esz))).map fun H' => (aint n, H')
  | _ => none
def aMinMax (isMax : Bool) : AVal → List AVal → Option AVal
  | x, [] => some x
  | .raw (.int k a), .raw (.int _ b) :: r => aMinMax isMax (.raw (.int k (if isMax then (if ilt a b then b else a) else (if ilt b a then b else a)))) r
  | _, _ => none
def aLenStr : AVal → Option AVal
  | .raw (.string s) => some (aint s.data.toList.length)
  | _ => none
def aLenS : AVal → Option AVal
  | .raw (.slice none 0 0) => some (aint 0)
  | .slice _ _ _ n _ _ _ => some (aint n)
  | _ => none
def aLenM (H : AHeap) : AVal → Option AVal
  | .raw (.map none) => some (aint 0)
  | .map M => match H.get M with
    | some (.map es _) => some (aint es.length)
    | _ => none
  | _ => none
def aEqLoop (f : AVal → AVal → Option Bool) (agg : Bool) (esz : Nat) (xs ys : List AVal) : Nat → Nat → Option Bool
  | _, 0 => some true
  | i, n + 1 => (aPart agg xs (i * esz) esz).bind fun x => (aPart agg ys (i * esz) esz).bind fun y => (f x y).bind fun r => if r then aEqLoop f agg esz xs ys (i + 1) n else some false
def aEqP : EqPlan → AVal → AVal → Option Bool
  | .bool, x, y => match x, y with | .raw (.bool a), .raw (.bool b) => some (a == b) | _, _ => none
  | .int, x, y => match x, y with | .raw (.int k a), .raw (.int k' b) => if k = k' then some (ieq a b) else none | _, _ => none
  | .str, x, y => match x, y with | .raw (.string a), .raw (.string b) => some (strEq a.data.toList b.data.toList) | _, _ => none
  | .nilS, x, y => match x, y with
    | .raw (.slice none _ _), .raw (.slice none _ _) => some true
    | .slice .., .raw (.slice none _ _) => some false
    | .raw (.slice none _ _), .slice .. => some false
    | _, _ => none
  | .nilM, x, y => match x, y with
    | .raw (.map none), .raw (.map none) => some true
    | .map _, .raw (.map none) => some false
    | .raw (.map none), .map _ => some false
    | _, _ => none
  | .nilF, x, y => match x, y with
    | .raw .nilFunc, .raw .nilFunc => some true
    | .func _ _, .raw .nilFunc => some false
    | .yield _, .raw .nilFunc => some false
    | .raw .nilFunc, .func _ _ => some false
    | _, _ => none
  | .nilP, x, y => match x, y with
    | .raw (.pointer none), .raw (.pointer none) => some true
    | .ptr .., .raw (.pointer none) => some false
    | .raw (.pointer none), .ptr .. => some false
    | _, _ => none
  | .fin, x, y => match x, y with | .agg _, .agg _ => some true | _, _ => none
  | .fld off agg n p rest, x, y => match x, y with
    | .agg xs, .agg ys => (aPart agg xs off n).bind fun x => (aPart agg ys off n).bind fun y => (aEqP p x y).bind fun r => if r then aEqP rest (.agg xs) (.agg ys) else some false
    | _, _ => none
  | .arr len esz agg p, x, y => match x, y with
    | .agg xs, .agg ys => aEqLoop (aEqP p) agg esz xs ys 0 len
    | _, _ => none
def aOp (tm : List AVal) (op : AOp) (H : AHeap) : Option (AVal × AHeap) :=
  let pure (v : Option AVal) : Option (AVal × AHeap) := v.map fun v => (v, H)
  match op with
  | .move x => some (ev tm x, H)
  | .pick c a b => match ev tm c with
    | .raw (.bool t) => some (if t then ev tm a else ev tm b, H)
    | _ => none
  | .alloc zero => some (.ptr H.next 0 0, H.push (.row [some (0, zero)]))
  | .box x => some (.ptr H.next 0 0, H.push (.row [some (0, (ev tm x).cells)]))
  | .build zero parts => pure ((aFill zero (parts.map fun (o, n, x) => (o, n, ev tm x))).map .agg)
  | .buildSlice len esz zero parts => (aFill (repl len zero) (parts.map fun (o, n, x) => (o, n, ev tm x))).map fun cells => (.slice H.next 0 0 len len true esz, H.push (.row [some (0, cells)]))
  | .load agg n x => match ev tm x with
    | .ptr A ver off => pure ((H.rowAt A ver).bind fun cells => if off + n ≤ cells.length then aPart agg cells off n else none)
    | _ => none
  | .store n a x => match ev tm a with
    | .ptr A ver off => if (ev tm x).cells.length = n then (H.write A ver off (ev tm x).cells).map fun H' => (aundef, H') else none
    | _ => none
  | .nilCheck x => match ev tm x with
    | .ptr A v o => some (.ptr A v o, H)
    | .func fn cs => some (.func fn cs, H)
    | .yield L => some (.yield L, H)
    | .map M => some (.map M, H)
    | _ => none
  | .bin op x y => pure (aBin op (ev tm x) (ev tm y))
  | .eqP neg p x y => pure ((aEqP p (ev tm x) (ev tm y)).map fun b => abool (if neg then !b else b))
  | .un op x => pure (aUn op (ev tm x))
  | .conv k x => match ev tm x with
    | .raw (.int _ n) => some (.raw (.int k (wrapF k n)), H)
    | _ => none
  | .strId x => match ev tm x with
    | .raw (.string s) => some (.raw (.string s), H)
    | _ => none
  | .strOfBytes x => pure ((aCells H 1 (ev tm x)).bind fun l => (aBytes l).map fun bs => .raw (.string ⟨bs.toArray⟩))
  | .ptrAdd off x => match ev tm x with
    | .ptr A v o => some (.ptr A v (o + off), H)
    | _ => none
  | .field agg off n x => match ev tm x with
    | .agg cs => pure (aPart agg cs off n)
    | _ => none
  | .idxAddrA len esz x i => match ev tm x, ev tm i with
    | .ptr A v o, .raw (.int _ i) => if ile 0 i && ilt i len then some (.ptr A v (o + i.toNat * esz), H) else none
    | _, _ => none
  | .idxAddrS esz x i => match ev tm x, ev tm i with
    | .slice A v o len _ _ _, .raw (.int _ i) => if ile 0 i && ilt i len then some (.ptr A v (o + i.toNat * esz), H) else none
    | _, _ => none
  | .idxA len esz agg x i => match ev tm x, ev tm i with
    | .agg cs, .raw (.int _ i) => if ile 0 i && ilt i len then pure (aPart agg cs (i.toNat * esz) esz) else none
    | _, _ => none
  | .idxStr x i => match ev tm x, ev tm i with
    | .raw (.string s), .raw (.int _ i) => if ile 0 i then pure ((s.data.toList[i.toNat]?).map fun b => .raw (.int .u8 b.toNat)) else none
    | _, _ => none
  | .sliceA n esz x lo hi mx => pure (aSliceA H n esz (ev tm x) (lo.map (ev tm)) (hi.map (ev tm)) (mx.map (ev tm)))
  | .sliceS esz x lo hi mx => pure (aSliceS esz (ev tm x) (lo.map (ev tm)) (hi.map (ev tm)) (mx.map (ev tm)))
  | .sliceStr x lo hi => pure (aSliceStr (ev tm x) (lo.map (ev tm)) (hi.map (ev tm)))
  | .makeSlice esz bytes zero l c => match ev tm l, ev tm c with
    | .raw (.int .i64 l), .raw (.int .i64 c) =>
      if ile 0 l && ile l c && ile (bytes * c) 281474976710656 && ile c 281474976710656 then some (.slice H.next 0 0 l.toNat c.toNat true esz, H.push (.row [some (0, repl c.toNat zero)])) else none
    | _, _ => none
  | .makeMap => some (.map H.next, H.push (.map [] 0))
  | .lookup zero ok x k => pure (aLookup H zero ok (ev tm x) (ev tm k))
  | .mapUpdate m k v => (aMapUpdate H (ev tm m) (ev tm k) (ev tm v)).map fun H' => (aundef, H')
  | .mapEntry zero m k => aMapEntry H zero (ev tm m) (ev tm k)
  | .entryStore m s v => (aEntryStore H (ev tm m) (ev tm s) (ev tm v)).map fun H' => (aundef, H')
  | .mapDelete m k => (aMapDelete H (ev tm m) (ev tm k)).map fun H' => (aundef, H')
  | .makeFunc fn caps => some (.func fn (caps.map (ev tm)), H)
  | .makeIface t x => some (.iface t (ev tm x), H)
  | .append esz bytes s x => aAppend H esz bytes (ev tm s) (ev tm x)
  | .copy esz d s => aCopy H esz (ev tm d) (ev tm s)
  | .len kind x => match kind with
    | 0 => pure (aLenStr (ev tm x))
    | 1 => pure (aLenS (ev tm x))
    | _ => pure (aLenM H (ev tm x))
  | .lenC n _ => some (aint n, H)
  | .minmax isMax xs => match xs.map (ev tm) with
    | x :: r => pure (aMinMax isMax x r)
    | [] => none
  | .extract i x => match ev tm x with
    | .tuple vs => pure vs[i]?
    | _ => none
  | .call .. => none
  | .bad => none
  | .iterNew x => aIterNew H (ev tm x)
  | .iterNext x => aIterNext H (ev tm x)
  | .iterEntry x => pure (aIterEntry H (ev tm x))
  | .clearM x => (aClearM H (ev tm x)).map fun H' => (.tuple [], H')
  | .clearS zero x => (aClearS H zero (ev tm x)).map fun H' => (.tuple [], H')
  | .cap x => pure (aCap (ev tm x))
  | .appendZ esz bytes zero s n => aAppendZ H esz bytes zero (ev tm s) (ev tm n)
end Go.Vm
namespace Go.Vm
open Go
variable {P : Program} {B : Base} {ρ ρ' : Ren} {H H' : AHeap} {w w' : World} {tm : List AVal} {ce : Operand → Value}
def EvOk (ρ : Ren) (tm : List AVal) (ce : Operand → Value) : Prop := ∀ x ax, cOpd x = some ax → VRel ρ (ev tm ax) (ce x)
def objN : Obj → Nat
  | .cells arr _ _ => arr.size
  | _ => 0
def OpRes (m : Mode) (P : Program) (B : Base) (ρ : Ren) (H : AHeap) (w : World) (s : Sem Next) (av : AVal) (H' : AHeap) : Prop :=
  ∃ ρ' w' nx cv, s.run P w = .ok nx w' ∧ (nx = .value cv ∨ (nx = .skip ∧ cv = undef)) ∧ VRel ρ' av cv ∧ HRel P B ρ' H' w' ∧ ρ.le ρ' ∧ (m = .quiet → w' = w ∧ ρ' = ρ) ∧
    (m = .makes → nx = .value cv ∧ ∃ co, w' = w.alloc co ∧ Thaw co ∧ ρ' = ρ.put H.next 0 ⟨w.heap.size, 0, objN co⟩)
theorem OpRes.weak {m : Mode} {H0 : AHeap} {s : Sem Next} {av : AVal} (h : OpRes m P B ρ H0 w s av H') : OpRes .any P B ρ H0 w s av H' :=
  let ⟨ρ', w', nx, cv, h1, h2, h3, h4, h5, _⟩ := h; ⟨ρ', w', nx, cv, h1, h2, h3, h4, h5, fun h => by simp at h, fun h => by simp at h⟩
theorem OpRes.pure {m : Mode} {H0 : AHeap} (h : HRel P B ρ H w) {s : Sem Next} {av : AVal} {cv : Value} (hs : s.run P w = .ok (.value cv) w) (hv : VRel ρ av cv) (hm : m ≠ .makes := by decide) : OpRes m P B ρ H0 w s av H :=
  ⟨ρ, w, _, cv, hs, .inl rfl, hv, h, Ren.le_refl _, fun _ => ⟨rfl, rfl⟩, fun h => absurd h hm⟩
theorem OpRes.v {m : Mode} {H0 : AHeap} (h : HRel P B ρ H w) {s : Sem Value} {av : AVal} {cv : Value} (hs : s.run P w = .ok cv w) (hv : VRel ρ av cv) (hm : m ≠ .makes := by decide) :
    OpRes m P B ρ H0 w (do Pure.pure (.value (← s))) av H :=
  .pure h (by simp [hs]) hv hm
theorem OpRes.vw {H0 : AHeap} {s : Sem Value} {av : AVal} {cv : Value} (hs : s.run P w = .ok cv w') (hv : VRel ρ' av cv) (h : HRel P B ρ' H' w') (hle : ρ.le ρ') :
    OpRes .any P B ρ H0 w (do Pure.pure (.value (← s))) av H' :=
  ⟨ρ', w', _, cv, by simp [hs], .inl rfl, hv, h, hle, fun h => by simp at h, fun h => by simp at h⟩
theorem OpRes.uw {H0 : AHeap} {s : Sem Unit} (hs : s.run P w = .ok () w') (h : HRel P B ρ' H' w') (hle : ρ.le ρ') :
    OpRes .any P B ρ H0 w (do s; Pure.pure .skip) aundef H' :=
  ⟨ρ', w', _, undef, by simp [hs], .inr ⟨rfl, rfl⟩, .raw _, h, hle, fun h => by simp at h, fun h => by simp at h⟩
theorem OpRes.mk {s : Sem Value} {av : AVal} {cv : Value} {co : Obj} (hs : s.run P w = .ok cv (w.alloc co)) (ht : Thaw co) (hv : VRel (ρ.put H.next 0 ⟨w.heap.size, 0, objN co⟩) av cv) (h : HRel P B (ρ.put H.next 0 ⟨w.heap.size, 0, objN co⟩) H' (w.alloc co))
    (hle : ρ.le (ρ.put H.next 0 ⟨w.heap.size, 0, objN co⟩)) :
    OpRes .makes P B ρ H w (do Pure.pure (.value (← s))) av H' :=
  ⟨_, w.alloc co, _, cv, by simp [hs], .inl rfl, hv, h, hle, fun h => by simp at h, fun _ => ⟨rfl, co, rfl, ht, rfl⟩⟩
theorem run_underlying' {t : TypeId} {d : TypeDesc} (h : P.underlying t = some d) : (underlying t).run P w = .ok d w := run_underlying h w
theorem run_typeInfo' {t : TypeId} {i : TypeInfo} (h : P.info? t = some i) : (typeInfo t).run P w = .ok i w := by simp [typeInfo, h]
theorem run_sizeOf' {t : TypeId} {n : Nat} (h : szOf P t = some n) : (sizeOf t).run P w = .ok n w := by
  unfold szOf at h
  obtain ⟨i, hi, rfl⟩ := Option.map_eq_some_iff.1 h
  simp [sizeOf, run_typeInfo' hi]
theorem run_zeroValue' {t : TypeId} {z : Value} (h : zeroOf P t = some z) : (zeroValue t).run P w = .ok z w := by
  unfold zeroOf at h
  obtain ⟨i, hi, hz⟩ := Option.bind_eq_some_iff.1 h
  simp [zeroValue, run_typeInfo' hi, hz]
theorem run_isAgg' {t : TypeId} {d : TypeDesc} (h : P.underlying t = some d) : (isAgg t).run P w = .ok (isAggD d) w := by
  cases d <;> simp [isAgg, run_underlying' h, isAggD]
theorem cOpdO_some {x : Option Operand} {ax : Option AOpd} (h : cOpdO x = some ax) : (x = none ∧ ax = none) ∨ ∃ y ay, x = some y ∧ ax = some ay ∧ cOpd y = some ay := by
  cases x with
  | none => simp [cOpdO] at h; exact .inl ⟨rfl, h.symm⟩
  | some y =>
    simp only [cOpdO] at h
    obtain ⟨ay, h1, rfl⟩ := Option.map_eq_some_iff.1 h
    exact .inr ⟨y, ay, rfl, rfl, h1⟩
theorem cOpds_rel (hev : EvOk ρ tm ce) : ∀ {xs : List Operand} {axs : List AOpd}, cOpds xs = some axs → VRels ρ (axs.map (ev tm)) (xs.map ce)
  | [], axs, h => by simp [cOpds] at h; subst h; exact .nil
  | x :: xs, axs, h => by
    simp only [cOpds, Option.bind_eq_some_iff, Option.map_eq_some_iff] at h
    obtain ⟨y, hy, ys, hys, rfl⟩ := h
    exact .cons (hev _ _ hy) (cOpds_rel hev hys)
theorem binOp_shift {op : BinOp} (hop : op = .shl ∨ op = .shr) (t : TypeId) (k k' : IntKind) (a b : Int) : binOp op t (.int k a) (.int k' b) = Op.shift op k a k' b := by
  rcases hop with rfl | rfl <;> rfl
theorem aArith_shift {op : BinOp} (hop : op = .shl ∨ op = .shr) (k k' : IntKind) (a b : Int) {av : AVal} (h : aArith op k a b = some av) : ∃ cv, av = .raw cv ∧ (Op.shift op k a k' b).run P w = .ok cv w := by
  rcases hop with rfl | rfl
  all_goals
    simp only [aArith, ilt_eq] at h
    split at h
    · cases h
    · rename_i hb
      cases h
      refine ⟨_, rfl, ?_⟩
      have : ¬ b < 0 := by simpa using hb
      simp [Op.shift, this, wrapF_eq]
theorem aBits_some {op : BinOp} {k : IntKind} {a b n : Int} (h : aBits op k a b = some n) : (Op.intBits op k a b).run P w = .ok (.int k n) w := by
  cases op <;> simp [aBits, wrapF_eq] at h <;> subst h <;> simp [Op.intBits]
theorem aArith_sound {op : BinOp} (hop : ¬ (op = .shl ∨ op = .shr)) (t : TypeId) (k : IntKind) (a b : Int) {av : AVal} (h : aArith op k a b = some av) :
    ∃ cv, av = .raw cv ∧ (binOp op t (.int k a) (.int k b)).run P w = .ok cv w := by
  cases op
  case shl => exact absurd (.inl rfl) hop
  case shr => exact absurd (.inr rfl) hop
  case quo =>
    simp only [aArith, ieq_eq] at h
    split at h
    · cases h
    · rename_i h0; cases h
      have : ¬ b = 0 := by simpa using h0
      exact ⟨_, rfl, by simp [binOp, Op.intDiv, this, wrapF_eq]⟩
  case rem =>
    simp only [aArith, ieq_eq] at h
    split at h
    · cases h
    · rename_i h0; cases h
      have : ¬ b = 0 := by simpa using h0
      exact ⟨_, rfl, by simp [binOp, Op.intDiv, this]⟩
  case and | or | xor | andNot =>
    simp only [aArith] at h
    obtain ⟨n, hn, rfl⟩ := Option.map_eq_some_iff.1 h
    exact ⟨_, rfl, by simp only [binOp]; simpa using aBits_some hn⟩
  all_goals
    simp only [aArith, ieq_eq, ilt_eq, ile_eq, wrapF_eq] at h
    cases h
    refine ⟨_, rfl, ?_⟩
    first
      | (simp [binOp, Op.intArith]; done)
      | (simp [binOp, Op.intCmp]; done)
      | (simp [binOp, Op.intCmp, bne, beq_eq_decide]; done)
      | (simp only [binOp, Op.intCmp]; simp; rw [Bool.eq_iff_iff]; simp)
theorem strEq_eq : ∀ (a b : List UInt8), strEq a b = (a == b)
  | [], [] => rfl
  | [], _ :: _ => rfl
  | _ :: _, [] => rfl
  | a :: x, b :: y => by
    have : Nat.beq a.toNat b.toNat = (a == b) := by
      rw [Bool.eq_iff_iff]; simp [← UInt8.toNat_inj]
    simp [strEq, strEq_eq x y, this]
theorem strLess_eq : ∀ (a b : List UInt8), strLess a b = Op.bytesLess a b
  | [], [] => rfl
  | [], _ :: _ => rfl
  | _ :: _, [] => rfl
  | a :: x, b :: y => by
    have h1 : Nat.beq a.toNat b.toNat = (a == b) := by
      rw [Bool.eq_iff_iff]; simp [← UInt8.toNat_inj]
    have h2 : Nat.blt a.toNat b.toNat = decide (a < b) := by
      rw [Bool.eq_iff_iff]; simp [UInt8.lt_iff_toNat_lt, Nat.blt_eq]
    simp [strLess, Op.bytesLess, strLess_eq x y, h1, h2]
theorem aStr_sound {op : BinOp} (t : TypeId) (x y : ByteArray) {av : AVal} (h : aStr op x y = some av) : ∃ cv, av = .raw cv ∧ (binOp op t (.string x) (.string y)).run P w = .ok cv w := by
  have hb : binOp op t (.string x) (.string y) = Op.stringOp op x y := by cases op <;> rfl
  rw [hb]
  have hl : ∀ z : ByteArray, z.toList = z.data.toList := ByteArray.toList_eq
  cases op <;> simp only [aStr] at h <;> try (cases h; done)
  case add =>
    split at h
    · rename_i hle
      cases h
      refine ⟨_, rfl, ?_⟩
      have hs : ∀ z : ByteArray, z.data.toList.length = z.size := fun z => rfl
      have hle' : ¬ ((x.size + y.size : Nat) : Int) > IntKind.i64.max := by
        rw [hs, hs] at hle
        have hm : IntKind.i64.max = 9223372036854775807 := by decide +kernel
        rw [hm]; exact Int.not_lt.2 hle
      simp only [Op.stringOp, hle', if_false, Sem.run_pure]
      congr 2
    · cases h
  all_goals
    cases h
    refine ⟨_, rfl, ?_⟩
    simp only [Op.stringOp, hl, strEq_eq, strLess_eq, Sem.run_pure]
theorem aBin_sound {op : BinOp} (t : TypeId) {x y : AVal} {cx cy : Value} {av : AVal} (h : aBin op x y = some av) (hx : VRel ρ x cx) (hy : VRel ρ y cy) :
    ∃ cv, av = .raw cv ∧ (binOp op t cx cy).run P w = .ok cv w ∧ (∀ X Y, eqGuard op t X Y cx cy = pure ()) := by
  unfold aBin at h
  split at h
  · rename_i k a k' b
    cases hx.raw_inv; cases hy.raw_inv
    split at h
    · rename_i hop
      obtain ⟨cv, h1, h2⟩ := aArith_shift (P := P) (w := w) hop k k' a b h
      exact ⟨cv, h1, by rw [binOp_shift hop]; exact h2, fun X Y => eqGuard_at_int ..⟩
    · rename_i hop
      split at h
      · rename_i hk; subst hk
        obtain ⟨cv, h1, h2⟩ := aArith_sound (P := P) (w := w) hop t k a b h
        exact ⟨cv, h1, h2, fun X Y => eqGuard_at_int ..⟩
      · cases h
  · rename_i a b
    cases hx.raw_inv; cases hy.raw_inv
    obtain ⟨cv, h1, h2⟩ := aStr_sound (P := P) (w := w) t a b h
    exact ⟨cv, h1, h2, fun X Y => eqGuard_at_string ..⟩
  · cases h
end Go.Vm
