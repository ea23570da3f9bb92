/- The abstract machine, part 4: what an operation does to abstract values and heaps. -/
import Derived.Test.YthbjfkkjmecaaaaY01
import Derived.Laws.Strings
import Derived.Laws.Cells
set_option linter.unusedVariables false
set_option linter.unusedSimpArgs false
namespace Go.Vm
open Go
section
abbrev zzc : AVal := .raw undef
abbrev zsk (n : Int) : AVal := .raw (.int .i64 n)
abbrev zzt (b : Bool) : AVal := .raw (.bool b)
abbrev zxa : AVal := .raw (.slice none 0 0)
def ev (tm : List AVal) : AOpd → AVal
 | .t n => tm.getD n zzc
 | .c v => v
def ile : Int → Int → Bool
 | .ofNat a, .ofNat b => Nat.ble a b
 | .ofNat _, .negSucc _ => false
 | .negSucc _, .ofNat _ => true
 | .negSucc a, .negSucc b => Nat.ble b a
theorem ile_eq (a b : Int) : ile a b = decide (a ≤ b) := by
 rw [Bool.eq_iff_iff]
 cases a <;> cases b <;> simp [ile] <;> omega
def ilt (a b : Int) : Bool := !ile b a
theorem ilt_eq (a b : Int) : ilt a b = decide (a < b) := by
 rw [ilt, ile_eq, Bool.eq_iff_iff]; simp
def ieq : Int → Int → Bool
 | .ofNat a, .ofNat b => Nat.beq a b
 | .negSucc a, .negSucc b => Nat.beq a b
 | _, _ => false
theorem ieq_eq (a b : Int) : ieq a b = decide (a = b) := by
 rw [Bool.eq_iff_iff]
 cases a <;> cases b <;> simp [ieq] <;> omega
def zq3 (k : IntKind) (n : Int) : Int :=
 match k with
 | .i64 => let m := n % 18446744073709551616; if ile 9223372036854775808 m then m - 18446744073709551616 else m
 | .u64 => n % 18446744073709551616
 | .i32 => let m := n % 4294967296; if ile 2147483648 m then m - 4294967296 else m
 | .u32 => n % 4294967296
 | .i16 => let m := n % 65536; if ile 32768 m then m - 65536 else m
 | .u16 => n % 65536
 | .i8 => let m := n % 256; if ile 128 m then m - 256 else m
 | .u8 => n % 256
theorem zk6 (k : IntKind) (n : Int) : zq3 k n = k.wrap n := by
 cases k <;> simp [zq3, IntKind.wrap, IntKind.bits, IntKind.signed, ile_eq]
def yw7 (op : BinOp) (k : IntKind) (x y : Int) : Option Int :=
 let a := BitVec.ofInt k.bits x
 let b := BitVec.ofInt k.bits y
 match op with
 | .and => some (zq3 k (a &&& b).toNat)
 | .or => some (zq3 k (a ||| b).toNat)
 | .xor => some (zq3 k (a ^^^ b).toNat)
 | .andNot => some (zq3 k (a &&& ~~~b).toNat)
 | _ => none
def aArith (op : BinOp) (k : IntKind) (a b : Int) : Option AVal :=
 match op with
 | .add => some (.raw (.int k (zq3 k (a + b))))
 | .sub => some (.raw (.int k (zq3 k (a - b))))
 | .mul => some (.raw (.int k (zq3 k (a * b))))
 | .quo => if ieq b 0 then none else some (.raw (.int k (zq3 k (a.tdiv b))))
 | .rem => if ieq b 0 then none else some (.raw (.int k (a.tmod b)))
 | .and | .or | .xor | .andNot => (yw7 op k a b).map fun n => .raw (.int k n)
 | .eql => some (zzt (ieq a b))
 | .neq => some (zzt (!ieq a b))
 | .lss => some (zzt (ilt a b))
 | .leq => some (zzt (ile a b))
 | .gtr => some (zzt (ilt b a))
 | .geq => some (zzt (ile b a))
 | .shl => if ilt b 0 then none else some (.raw (.int k (zq3 k (a * 2 ^ (min b.toNat k.bits)))))
 | .shr => if ilt b 0 then none else some (.raw (.int k (a.fdiv (2 ^ (min b.toNat k.bits)))))
def zuz : List UInt8 → List UInt8 → Bool
 | _, [] => false
 | [], _ :: _ => true
 | a :: x, b :: y => Nat.blt a.toNat b.toNat || (Nat.beq a.toNat b.toNat && zuz x y)
def zmt : List UInt8 → List UInt8 → Bool
 | [], [] => true
 | a :: x, b :: y => Nat.beq a.toNat b.toNat && zmt x y
 | _, _ => false
def yu0 (op : BinOp) (x y : ByteArray) : Option AVal :=
 let l := x.data.toList
 let r := y.data.toList
 match op with
 | .add => if ((x.data.toList.length + y.data.toList.length : Nat) : Int) ≤ 9223372036854775807 then some (.raw (.string ⟨(l ++ r).toArray⟩)) else none
 | .eql => some (zzt (zmt l r))
 | .neq => some (zzt (!zmt l r))
 | .lss => some (zzt (zuz l r))
 | .leq => some (zzt (zuz l r || zmt l r))
 | .gtr => some (zzt !(zuz l r || zmt l r))
 | .geq => some (zzt !(zuz l r))
 | _ => none
def aBin (op : BinOp) (x y : AVal) : Option AVal :=
 match x, y with
 | .raw (.int k a), .raw (.int k' b) =>
  if op = .shl ∨ op = .shr then aArith op k a b else if k = k' then aArith op k a b else none
 | .raw (.string a), .raw (.string b) => yu0 op a b
 | _, _ => none
def aUn (op : UnOp) (x : AVal) : Option AVal :=
 match op, x with
 | .neg, .raw (.int k n) => some (.raw (.int k (zq3 k (0 - n))))
 | .xor, .raw (.int k n) => (yw7 .xor k (if k.signed then -1 else k.max) n).map fun m => .raw (.int k m)
 | .not, .raw (.bool b) => some (zzt !b)
 | _, _ => none
def zzm : List AVal → List (Nat × Nat × AVal) → Option (List AVal)
 | cells, [] => some cells
 | cells, (off, n, v) :: r => if v.cells.length = n ∧ off + n ≤ cells.length then zzm (spl cells off v.cells) r else none
def zx1 (n : Nat) (l : List AVal) : List AVal :=
 match n with
 | 0 => []
 | n + 1 => l ++ zx1 n l
def aPart (agg : Bool) (cs : List AVal) (off n : Nat) : Option AVal :=
 if agg then some (.agg ((cs.drop off).take n)) else cs[off]?
def zls : List AVal → Option (List UInt8)
 | [] => some []
 | .raw (.int .u8 n) :: r => (zls r).map (UInt8.ofNat n.toNat :: ·)
 | _ => none
def zxz (x : AVal) (top : Nat) : Option Nat :=
 match x with
 | .raw (.int _ i) => if ile 0 i && ile i top then some i.toNat else none
 | _ => none
def zy7 (x : Option AVal) (d top : Nat) : Option Nat :=
 match x with
 | none => some d
 | some v => zxz v top
def zye (esz : Nat) (x : AVal) (lo hi mx : Option AVal) : Option AVal :=
 match x with
 | .slice A ver off len kcap ex esz' =>
  if esz' = esz then
   match mx with
   | none => (zy7 hi len kcap).bind fun h => (zy7 lo 0 h).map fun l => .slice A ver (off + l * esz) (h - l) (kcap - l) ex esz
   | some m => (zxz m kcap).bind fun m => match hi with
    | none => none
    | some hi => (zxz hi m).bind fun h => (zy7 lo 0 h).map fun l => .slice A ver (off + l * esz) (h - l) (m - l) true esz
  else none
 | .raw (.slice none 0 0) =>
  match mx with
  | none => (zy7 hi 0 0).bind fun h => (zy7 lo 0 h).map fun _ => zxa
  | some m => (zxz m 0).bind fun m => match hi with
   | none => none
   | some hi => (zxz hi m).bind fun h => (zy7 lo 0 h).map fun _ => zxa
 | _ => none
def zt8 (H : zz6) (n esz : Nat) (x : AVal) (lo hi mx : Option AVal) : Option AVal :=
 match x with
 | .ptr A ver off =>
  (H.rowAt A ver).bind fun cells =>
  if 0 < n * esz ∧ off + n * esz ≤ cells.length then
   match mx with
   | none => (zy7 hi n n).bind fun h => (zy7 lo 0 h).map fun l => .slice A ver (off + l * esz) (h - l) (n - l) true esz
   | some m => (zxz m n).bind fun m => match hi with
    | none => none
    | some hi => (zxz hi m).bind fun h => (zy7 lo 0 h).map fun l => .slice A ver (off + l * esz) (h - l) (m - l) true esz
  else none
 | _ => none
def zlx (x : AVal) (lo hi : Option AVal) : Option AVal :=
 match x with
 | .raw (.string s) => (zy7 hi s.data.toList.length s.data.toList.length).bind fun h => (zy7 lo 0 h).map fun l => .raw (.string ⟨((s.data.toList.drop l).take (h - l)).toArray⟩)
 | _ => none
abbrev zzb := List (AVal × AVal × Nat)
def zwe (k : IntKind) (n : Int) : zzb → Nat → Option (Option (Nat × AVal × Nat))
 | [], _ => some none
 | (.raw (.int k' m), v, b) :: r, i => if k = k' then (if ieq n m then some (some (i, v, b)) else zwe k n r (i + 1)) else none
 | _ :: _, _ => none
def zv2 (n : Int) : zzb → Nat → Option Nat
 | [], _ => none
 | (_, _, b) :: r, i => if ieq b n then some i else zv2 n r (i + 1)
def setVal (v : AVal) : zzb → Nat → zzb
 | [], _ => []
 | (k, _, b) :: r, 0 => (k, v, b) :: r
 | e :: r, i + 1 => e :: setVal v r i
def zzs (zero : AVal) (ok : Bool) : Option (Nat × AVal × Nat) → AVal
 | some (_, v, _) => if ok then .tuple [v, zzt true] else v
 | none => if ok then .tuple [zero, zzt false] else zero
def zzr (H : zz6) (zero : AVal) (ok : Bool) (x k : AVal) : Option AVal :=
 match k with
 | .raw (.int kk n) =>
  match x with
  | .raw (.map none) => some (zzs zero ok none)
  | .map M => match H.get M with
   | some (.map es _) => (zwe kk n es 0).map (zzs zero ok)
   | _ => none
  | _ => none
 | _ => none
def zwr (H : zz6) (m k v : AVal) : Option zz6 :=
 match m, k with
 | .map M, .raw (.int kk n) => match H.get M with
  | some (.map es clock) => (zwe kk n es 0).map fun
   | some (i, _, _) => H.set M (.map (setVal v es i) clock)
   | none => H.set M (.map (es ++ [(k, v, clock)]) (clock + 1))
  | _ => none
 | _, _ => none
def zbr (H : zz6) (zero m k : AVal) : Option (AVal × zz6) :=
 match m, k with
 | .map M, .raw (.int kk n) => match H.get M with
  | some (.map es clock) => (zwe kk n es 0).map fun
   | some (_, v, b) => (.tuple [v, zsk b], H)
   | none => (.tuple [zero, zsk clock], H.set M (.map (es ++ [(k, zero, clock)]) (clock + 1)))
  | _ => none
 | _, _ => none
def zkw (H : zz6) (m s v : AVal) : Option zz6 :=
 match m, s with
 | .map M, .raw (.int _ n) => match H.get M with
  | some (.map es clock) => (zv2 n es 0).map fun i => H.set M (.map (setVal v es i) clock)
  | _ => none
 | _, _ => none
def zq2 (H : zz6) (m k : AVal) : Option zz6 :=
 match m, k with
 | .raw (.map none), _ => some H
 | .map M, .raw (.int kk n) => match H.get M with
  | some (.map es clock) => (zwe kk n es 0).map fun
   | some (i, _, _) => H.set M (.map (es.eraseIdx i) clock)
   | none => H
  | _ => none
 | _, _ => none
def zqk (seen : List Nat) (b : Nat) : Bool := seen.any (Nat.beq b)
def yxy (es : zzb) (since : Nat) (seen : List Nat) (last : Nat) : Option (Option (AVal × AVal × Nat)) :=
 if !seen.isEmpty && !es.isEmpty && es.all (fun e => Nat.ble last e.2.2) then none else
 match (es.filter fun e => !zqk seen e.2.2).filter (fun e => Nat.blt e.2.2 since), (es.filter fun e => !zqk seen e.2.2).filter (fun e => Nat.ble since e.2.2) with
 | [], [] => some none
 | [e], [] => some (some e)
 | _, _ => none
def zk8 (H : zz6) (A : Nat) : Option (AVal × zz6) :=
 match H.get A with
 | some (.iter none _ _ _) => some (.tuple [zzt false], H)
 | some (.iter (some M) since seen last) => match H.get M with
  | some (.map es clock) => (yxy es since seen last).map fun
   | none => (.tuple [zzt false], H)
   | some (k, v, b) => (.tuple [zzt true, k, v], H.set A (.iter (some M) since (seen ++ [b]) clock))
  | _ => none
 | _ => none
def zr6 (H : zz6) (x : AVal) : Option (AVal × zz6) :=
 match x with
 | .ptr A 0 0 => zk8 H A
 | _ => none
def zn4 : List Nat → Option Nat
 | [] => none
 | [x] => some x
 | _ :: r => zn4 r
def zt3 (H : zz6) (x : AVal) : Option AVal :=
 match x with
 | .ptr A 0 0 => match H.get A with
  | some (.iter (some M) _ seen last) => match H.get M with
   | some (.map es clock) => if Nat.beq clock last then (zn4 seen).bind fun b => (es.find? fun e => Nat.beq e.2.2 b).map fun e => .tuple [e.1, e.2.1] else none
   | _ => none
  | _ => none
 | _ => none
def zb5 (H : zz6) (x : AVal) : Option (AVal × zz6) :=
 match x with
 | .raw (.map none) => some (.ptr H.next 0 0, H.push (.iter none 0 [] 0))
 | .map M => match H.get M with
  | some (.map _ clock) => some (.ptr H.next 0 0, H.push (.iter (some M) clock [] clock))
  | _ => none
 | _ => none
def yyx (H : zz6) (x : AVal) : Option zz6 :=
 match x with
 | .raw (.map none) => some H
 | .map M => match H.get M with
  | some (.map _ clock) => some (H.set M (.map [] clock))
  | _ => none
 | _ => none
def zaf (H : zz6) (zero : List AVal) (x : AVal) : Option zz6 :=
 match x with
 | .raw (.slice none 0 0) => some H
 | .slice A ver off len _ _ _ => if len = 0 then some H else H.write A ver off (zx1 len zero)
 | _ => none
def aCells (H : zz6) (esz : Nat) : AVal → Option (List AVal)
 | .raw (.slice none 0 0) => some []
 | .slice A ver off len _ _ _ => (H.rowAt A ver).bind fun cells => if off + len * esz ≤ cells.length then some ((cells.drop off).take (len * esz)) else none
 | _ => none
def zjl : AVal → Option Nat
 | .raw (.slice none 0 0) => some 0
 | .slice _ _ _ len _ _ _ => some len
 | _ => none
def zzf (H : zz6) (esz bytes : Nat) (s x : AVal) : Option (AVal × zz6) :=
 (zjl x).bind fun m => (aCells H esz x).bind fun news =>
 if m = 0 then (match s with | .raw (.slice none 0 0) => some (s, H) | .slice .. => some (s, H) | _ => none)
 else if 0 < esz && 0 < bytes && news.all AVal.one then
 match s with
 | .raw (.slice none 0 0) => if m * bytes ≤ 140737488355328 then some (.slice H.next 0 0 m m false esz, H.push (.row [some (0, news)])) else none
 | .slice A ver off len kcap ex esz' =>
  if esz' = esz then
   if len + m ≤ kcap then (H.write A ver (off + len * esz) news).map fun H' => (.slice A ver off (len + m) kcap ex esz, H')
   else if (len + m) * bytes ≤ 140737488355328 then
    (H.rowAt A ver).bind fun cells =>
    if off + len * esz ≤ cells.length then
     let all := (cells.drop off).take (len * esz) ++ news
     if ex then some (.slice H.next 0 0 (len + m) (len + m) false esz, H.push (.row [some (0, all)]))
     else match H.get A with
      | some (.row vs) => match vs[ver]? with
       | some (some (rel, _)) => some (.slice A vs.length 0 (len + m) (len + m) false esz, H.set A (.row (zwy vs (rel + off + len * esz) news.length (rel + off) all)))
       | _ => none
      | _ => none
    else none
   else none
  else none
 | _ => none
 else none
def zs3 (H : zz6) (esz bytes : Nat) (zero : List AVal) (s n : AVal) : Option (AVal × zz6) :=
 match s, n with
 | .slice A ver off len kcap true esz', .raw (.int .i64 l) =>
  if esz' = esz ∧ 0 < esz ∧ 0 < bytes ∧ 0 < l ∧ kcap < len + l.toNat ∧ (len + l.toNat) * bytes ≤ 140737488355328 then
   (H.rowAt A ver).bind fun cells =>
   if off + len * esz ≤ cells.length then some (.slice H.next 0 0 (len + l.toNat) (len + l.toNat) false esz, H.push (.row [some (0, (cells.drop off).take (len * esz) ++ zx1 l.toNat zero)])) else none
  else none
 | _, _ => none
def ywa : AVal → Option AVal
 | .slice _ _ _ _ kcap true _ => some (zsk kcap)
 | .raw (.slice none 0 0) => some (zsk 0)
 | _ => none
def zdy (H : zz6) (esz : Nat) (d s : AVal) : Option (AVal × zz6) :=
 (zjl d).bind fun dl => (zjl s).bind fun sl => (aCells H esz s).bind fun cells =>
 let n := min sl dl
 if n * esz = 0 then some (zsk n, H) else
 match d with
 | .slice A ver off _ _ _ _ => (H.write A ver off (cells.take (n * esz))).map fun H' => (zsk n, H')
 | _ => none
def zvr (isMax : Bool) : AVal → List AVal → Option AVal
 | x, [] => some x
 | .raw (.int k a), .raw (.int _ b) :: r => zvr isMax (.raw (.int k (if isMax then (if ilt a b then b else a) else (if ilt b a then b else a)))) r
 | _, _ => none
def znb : AVal → Option AVal
 | .raw (.string s) => some (zsk s.data.toList.length)
 | _ => none
def zyy : AVal → Option AVal
 | .raw (.slice none 0 0) => some (zsk 0)
 | .slice _ _ _ n _ _ _ => some (zsk n)
 | _ => none
def zds (H : zz6) : AVal → Option AVal
 | .raw (.map none) => some (zsk 0)
 | .map M => match H.get M with
  | some (.map es _) => some (zsk es.length)
  | _ => none
 | _ => none
def zj6 (f : AVal → AVal → Option Bool) (agg : Bool) (esz : Nat) (xs ys : List AVal) : Nat → Nat → Option Bool
 | _, 0 => some true
 | i, n + 1 => (aPart agg xs (i * esz) esz).bind fun x => (aPart agg ys (i * esz) esz).bind fun y => (f x y).bind fun r => if r then zj6 f agg esz xs ys (i + 1) n else some false
def zxh : zv6 → AVal → AVal → Option Bool
 | .bool, x, y => match x, y with | .raw (.bool a), .raw (.bool b) => some (a == b) | _, _ => none
 | .int, x, y => match x, y with | .raw (.int k a), .raw (.int k' b) => if k = k' then some (ieq a b) else none | _, _ => none
 | .str, x, y => match x, y with | .raw (.string a), .raw (.string b) => some (zmt a.data.toList b.data.toList) | _, _ => none
 | .nilS, x, y => match x, y with
  | .raw (.slice none _ _), .raw (.slice none _ _) => some true
  | .slice .., .raw (.slice none _ _) => some false
  | .raw (.slice none _ _), .slice .. => some false
  | _, _ => none
 | .nilM, x, y => match x, y with
  | .raw (.map none), .raw (.map none) => some true
  | .map _, .raw (.map none) => some false
  | .raw (.map none), .map _ => some false
  | _, _ => none
 | .nilF, x, y => match x, y with
  | .raw .nilFunc, .raw .nilFunc => some true
  | .func _ _, .raw .nilFunc => some false
  | .yield _, .raw .nilFunc => some false
  | .raw .nilFunc, .func _ _ => some false
  | _, _ => none
 | .nilP, x, y => match x, y with
  | .raw (.pointer none), .raw (.pointer none) => some true
  | .ptr .., .raw (.pointer none) => some false
  | .raw (.pointer none), .ptr .. => some false
  | _, _ => none
 | .fin, x, y => match x, y with | .agg _, .agg _ => some true | _, _ => none
 | .fld off agg n p rest, x, y => match x, y with
  | .agg xs, .agg ys => (aPart agg xs off n).bind fun x => (aPart agg ys off n).bind fun y => (zxh p x y).bind fun r => if r then zxh rest (.agg xs) (.agg ys) else some false
  | _, _ => none
 | .arr len esz agg p, x, y => match x, y with
  | .agg xs, .agg ys => zj6 (zxh p) agg esz xs ys 0 len
  | _, _ => none
def aOp (tm : List AVal) (op : AOp) (H : zz6) : Option (AVal × zz6) :=
 let pure (v : Option AVal) : Option (AVal × zz6) := v.map fun v => (v, H)
 match op with
 | .move x => some (ev tm x, H)
 | .pick c a b => match ev tm c with
  | .raw (.bool t) => some (if t then ev tm a else ev tm b, H)
  | _ => none
 | .alloc zero => some (.ptr H.next 0 0, H.push (.row [some (0, zero)]))
 | .box x => some (.ptr H.next 0 0, H.push (.row [some (0, (ev tm x).cells)]))
 | .build zero parts => pure ((zzm zero (parts.map fun (o, n, x) => (o, n, ev tm x))).map .agg)
 | .buildSlice len esz zero parts => (zzm (zx1 len zero) (parts.map fun (o, n, x) => (o, n, ev tm x))).map fun cells => (.slice H.next 0 0 len len true esz, H.push (.row [some (0, cells)]))
 | .load agg n x => match ev tm x with
  | .ptr A ver off => pure ((H.rowAt A ver).bind fun cells => if off + n ≤ cells.length then aPart agg cells off n else none)
  | _ => none
 | .store n a x => match ev tm a with
  | .ptr A ver off => if (ev tm x).cells.length = n then (H.write A ver off (ev tm x).cells).map fun H' => (zzc, H') else none
  | _ => none
 | .nilCheck x => match ev tm x with
  | .ptr A v o => some (.ptr A v o, H)
  | .func fn cs => some (.func fn cs, H)
  | .yield L => some (.yield L, H)
  | .map M => some (.map M, H)
  | _ => none
 | .bin op x y => pure (aBin op (ev tm x) (ev tm y))
 | .eqP neg p x y => pure ((zxh p (ev tm x) (ev tm y)).map fun b => zzt (if neg then !b else b))
 | .un op x => pure (aUn op (ev tm x))
 | .conv k x => match ev tm x with
  | .raw (.int _ n) => some (.raw (.int k (zq3 k n)), H)
  | _ => none
 | .strId x => match ev tm x with
  | .raw (.string s) => some (.raw (.string s), H)
  | _ => none
 | .strOfBytes x => pure ((aCells H 1 (ev tm x)).bind fun l => (zls l).map fun bs => .raw (.string ⟨bs.toArray⟩))
 | .ptrAdd off x => match ev tm x with
  | .ptr A v o => some (.ptr A v (o + off), H)
  | _ => none
 | .field agg off n x => match ev tm x with
  | .agg cs => pure (aPart agg cs off n)
  | _ => none
 | .idxAddrA len esz x i => match ev tm x, ev tm i with
  | .ptr A v o, .raw (.int _ i) => if ile 0 i && ilt i len then some (.ptr A v (o + i.toNat * esz), H) else none
  | _, _ => none
 | .idxAddrS esz x i => match ev tm x, ev tm i with
  | .slice A v o len _ _ _, .raw (.int _ i) => if ile 0 i && ilt i len then some (.ptr A v (o + i.toNat * esz), H) else none
  | _, _ => none
 | .idxA len esz agg x i => match ev tm x, ev tm i with
  | .agg cs, .raw (.int _ i) => if ile 0 i && ilt i len then pure (aPart agg cs (i.toNat * esz) esz) else none
  | _, _ => none
 | .idxStr x i => match ev tm x, ev tm i with
  | .raw (.string s), .raw (.int _ i) => if ile 0 i then pure ((s.data.toList[i.toNat]?).map fun b => .raw (.int .u8 b.toNat)) else none
  | _, _ => none
 | .sliceA n esz x lo hi mx => pure (zt8 H n esz (ev tm x) (lo.map (ev tm)) (hi.map (ev tm)) (mx.map (ev tm)))
 | .sliceS esz x lo hi mx => pure (zye esz (ev tm x) (lo.map (ev tm)) (hi.map (ev tm)) (mx.map (ev tm)))
 | .sliceStr x lo hi => pure (zlx (ev tm x) (lo.map (ev tm)) (hi.map (ev tm)))
 | .makeSlice esz bytes zero l c => match ev tm l, ev tm c with
  | .raw (.int .i64 l), .raw (.int .i64 c) =>
   if ile 0 l && ile l c && ile (bytes * c) 281474976710656 && ile c 281474976710656 then some (.slice H.next 0 0 l.toNat c.toNat true esz, H.push (.row [some (0, zx1 c.toNat zero)])) else none
  | _, _ => none
 | .makeMap => some (.map H.next, H.push (.map [] 0))
 | .lookup zero ok x k => pure (zzr H zero ok (ev tm x) (ev tm k))
 | .mapUpdate m k v => (zwr H (ev tm m) (ev tm k) (ev tm v)).map fun H' => (zzc, H')
 | .mapEntry zero m k => zbr H zero (ev tm m) (ev tm k)
 | .entryStore m s v => (zkw H (ev tm m) (ev tm s) (ev tm v)).map fun H' => (zzc, H')
 | .mapDelete m k => (zq2 H (ev tm m) (ev tm k)).map fun H' => (zzc, H')
 | .makeFunc fn caps => some (.func fn (caps.map (ev tm)), H)
 | .makeIface t x => some (.iface t (ev tm x), H)
 | .append esz bytes s x => zzf H esz bytes (ev tm s) (ev tm x)
 | .copy esz d s => zdy H esz (ev tm d) (ev tm s)
 | .len kind x => match kind with
  | 0 => pure (znb (ev tm x))
  | 1 => pure (zyy (ev tm x))
  | _ => pure (zds H (ev tm x))
 | .lenC n _ => some (zsk n, H)
 | .minmax isMax xs => match xs.map (ev tm) with
  | x :: r => pure (zvr isMax x r)
  | [] => none
 | .extract i x => match ev tm x with
  | .tuple vs => pure vs[i]?
  | _ => none
 | .call .. => none
 | .bad => none
 | .iterNew x => zb5 H (ev tm x)
 | .iterNext x => zr6 H (ev tm x)
 | .iterEntry x => pure (zt3 H (ev tm x))
 | .clearM x => (yyx H (ev tm x)).map fun H' => (.tuple [], H')
 | .clearS zero x => (zaf H zero (ev tm x)).map fun H' => (.tuple [], H')
 | .cap x => pure (ywa (ev tm x))
 | .appendZ esz bytes zero s n => zs3 H esz bytes zero (ev tm s) (ev tm n)
end
section
variable {P : Program} {B : Base} {ρ ρ' : Ren} {H H' : zz6} {w w' : World} {tm : List AVal} {ce : Operand → Value}
def zvg (ρ : Ren) (tm : List AVal) (ce : Operand → Value) : Prop := ∀ x ax, zxt x = some ax → VRel ρ (ev tm ax) (ce x)
def zhf : Obj → Nat
 | .cells arr _ _ => arr.size
 | _ => 0
def zyf (m : Mode) (P : Program) (B : Base) (ρ : Ren) (H : zz6) (w : World) (s : Sem Next) (av : AVal) (H' : zz6) : Prop :=
 ∃ ρ' w' nx cv, s.run P w = .ok nx w' ∧ (nx = .value cv ∨ (nx = .skip ∧ cv = undef)) ∧ VRel ρ' av cv ∧ HRel P B ρ' H' w' ∧ ρ.le ρ' ∧ (m = .quiet → w' = w ∧ ρ' = ρ) ∧
  (m = .makes → nx = .value cv ∧ ∃ co, w' = w.alloc co ∧ zah co ∧ ρ' = ρ.put H.next 0 ⟨w.heap.size, 0, zhf co⟩)
theorem zyf.weak {m : Mode} {H0 : zz6} {s : Sem Next} {av : AVal} (h : zyf m P B ρ H0 w s av H') : zyf .any P B ρ H0 w s av H' :=
 let ⟨ρ', w', nx, cv, h1, h2, h3, h4, h5, _⟩ := h; ⟨ρ', w', nx, cv, h1, h2, h3, h4, h5, fun h => by simp at h, fun h => by simp at h⟩
theorem zyf.pure {m : Mode} {H0 : zz6} (h : HRel P B ρ H w) {s : Sem Next} {av : AVal} {cv : Value} (hs : s.run P w = .ok (.value cv) w) (hv : VRel ρ av cv) (hm : m ≠ .makes := by decide) : zyf m P B ρ H0 w s av H :=
 ⟨ρ, w, _, cv, hs, .inl rfl, hv, h, Ren.le_refl _, fun _ => ⟨rfl, rfl⟩, fun h => absurd h hm⟩
theorem zyf.v {m : Mode} {H0 : zz6} (h : HRel P B ρ H w) {s : Sem Value} {av : AVal} {cv : Value} (hs : s.run P w = .ok cv w) (hv : VRel ρ av cv) (hm : m ≠ .makes := by decide) :
  zyf m P B ρ H0 w (do Pure.pure (.value (← s))) av H :=
 .pure h (by simp [hs]) hv hm
theorem zyf.vw {H0 : zz6} {s : Sem Value} {av : AVal} {cv : Value} (hs : s.run P w = .ok cv w') (hv : VRel ρ' av cv) (h : HRel P B ρ' H' w') (hle : ρ.le ρ') :
  zyf .any P B ρ H0 w (do Pure.pure (.value (← s))) av H' :=
 ⟨ρ', w', _, cv, by simp [hs], .inl rfl, hv, h, hle, fun h => by simp at h, fun h => by simp at h⟩
theorem zyf.uw {H0 : zz6} {s : Sem Unit} (hs : s.run P w = .ok () w') (h : HRel P B ρ' H' w') (hle : ρ.le ρ') :
  zyf .any P B ρ H0 w (do s; Pure.pure .skip) zzc H' :=
 ⟨ρ', w', _, undef, by simp [hs], .inr ⟨rfl, rfl⟩, .raw _, h, hle, fun h => by simp at h, fun h => by simp at h⟩
theorem zyf.mk {s : Sem Value} {av : AVal} {cv : Value} {co : Obj} (hs : s.run P w = .ok cv (w.alloc co)) (ht : zah co) (hv : VRel (ρ.put H.next 0 ⟨w.heap.size, 0, zhf co⟩) av cv) (h : HRel P B (ρ.put H.next 0 ⟨w.heap.size, 0, zhf co⟩) H' (w.alloc co))
  (hle : ρ.le (ρ.put H.next 0 ⟨w.heap.size, 0, zhf co⟩)) :
  zyf .makes P B ρ H w (do Pure.pure (.value (← s))) av H' :=
 ⟨_, w.alloc co, _, cv, by simp [hs], .inl rfl, hv, h, hle, fun h => by simp at h, fun _ => ⟨rfl, co, rfl, ht, rfl⟩⟩
theorem zz7 {t : TypeId} {d : TypeDesc} (h : P.underlying t = some d) : (underlying t).run P w = .ok d w := run_underlying h w
theorem zw9 {t : TypeId} {i : TypeInfo} (h : P.info? t = some i) : (typeInfo t).run P w = .ok i w := by simp [typeInfo, h]
theorem zy4 {t : TypeId} {n : Nat} (h : zjc P t = some n) : (sizeOf t).run P w = .ok n w := by
 unfold zjc at h
 obtain ⟨i, hi, rfl⟩ := Option.map_eq_some_iff.1 h
 simp [sizeOf, zw9 hi]
theorem zyj {t : TypeId} {z : Value} (h : zkt P t = some z) : (zeroValue t).run P w = .ok z w := by
 unfold zkt at h
 obtain ⟨i, hi, hz⟩ := Option.bind_eq_some_iff.1 h
 simp [zeroValue, zw9 hi, hz]
theorem zqp {t : TypeId} {d : TypeDesc} (h : P.underlying t = some d) : (isAgg t).run P w = .ok (zj3 d) w := by
 cases d <;> simp [isAgg, zz7 h, zj3]
theorem zqm {x : Option Operand} {ax : Option AOpd} (h : znf x = some ax) : (x = none ∧ ax = none) ∨ ∃ y ay, x = some y ∧ ax = some ay ∧ zxt y = some ay := by
 cases x with
 | none => simp [znf] at h; exact .inl ⟨rfl, h.symm⟩
 | some y =>
  simp only [znf] at h
  obtain ⟨ay, h1, rfl⟩ := Option.map_eq_some_iff.1 h
  exact .inr ⟨y, ay, rfl, rfl, h1⟩
theorem zb9 (hev : zvg ρ tm ce) : ∀ {xs : List Operand} {axs : List AOpd}, zpq xs = some axs → VRels ρ (axs.map (ev tm)) (xs.map ce)
 | [], axs, h => by simp [zpq] at h; subst h; exact .nil
 | x :: xs, axs, h => by
  simp only [zpq, Option.bind_eq_some_iff, Option.map_eq_some_iff] at h
  obtain ⟨y, hy, ys, hys, rfl⟩ := h
  exact .cons (hev _ _ hy) (zb9 hev hys)
theorem zfw {op : BinOp} (hop : op = .shl ∨ op = .shr) (t : TypeId) (k k' : IntKind) (a b : Int) : binOp op t (.int k a) (.int k' b) = Op.shift op k a k' b := by
 rcases hop with rfl | rfl <;> rfl
theorem zmg {op : BinOp} (hop : op = .shl ∨ op = .shr) (k k' : IntKind) (a b : Int) {av : AVal} (h : aArith op k a b = some av) : ∃ cv, av = .raw cv ∧ (Op.shift op k a k' b).run P w = .ok cv w := by
 rcases hop with rfl | rfl
 all_goals
  simp only [aArith, ilt_eq] at h
  split at h
  ·cases h
  ·rename_i hb
   cases h
   refine ⟨_, rfl, ?_⟩
   have : ¬ b < 0 := by simpa using hb
   simp [Op.shift, this, zk6]
theorem zpk {op : BinOp} {k : IntKind} {a b n : Int} (h : yw7 op k a b = some n) : (Op.intBits op k a b).run P w = .ok (.int k n) w := by
 cases op <;> simp [yw7, zk6] at h <;> subst h <;> simp [Op.intBits]
theorem zh1 {op : BinOp} (hop : ¬ (op = .shl ∨ op = .shr)) (t : TypeId) (k : IntKind) (a b : Int) {av : AVal} (h : aArith op k a b = some av) :
  ∃ cv, av = .raw cv ∧ (binOp op t (.int k a) (.int k b)).run P w = .ok cv w := by
 cases op
 case shl => exact absurd (.inl rfl) hop
 case shr => exact absurd (.inr rfl) hop
 case quo =>
  simp only [aArith, ieq_eq] at h
  split at h
  ·cases h
  ·rename_i h0; cases h
   have : ¬ b = 0 := by simpa using h0
   exact ⟨_, rfl, by simp [binOp, Op.intDiv, this, zk6]⟩
 case rem =>
  simp only [aArith, ieq_eq] at h
  split at h
  ·cases h
  ·rename_i h0; cases h
   have : ¬ b = 0 := by simpa using h0
   exact ⟨_, rfl, by simp [binOp, Op.intDiv, this]⟩
 case and | or | xor | andNot =>
  simp only [aArith] at h
  obtain ⟨n, hn, rfl⟩ := Option.map_eq_some_iff.1 h
  exact ⟨_, rfl, by simp only [binOp]; simpa using zpk hn⟩
 all_goals
  simp only [aArith, ieq_eq, ilt_eq, ile_eq, zk6] at h
  cases h
  refine ⟨_, rfl, ?_⟩
  first
   | (simp [binOp, Op.intArith]; done)
   | (simp [binOp, Op.intCmp]; done)
   | (simp [binOp, Op.intCmp, bne, beq_eq_decide]; done)
   | (simp only [binOp, Op.intCmp]; simp; rw [Bool.eq_iff_iff]; simp)
theorem zsq : ∀ (a b : List UInt8), zmt a b = (a == b)
 | [], [] => rfl
 | [], _ :: _ => rfl
 | _ :: _, [] => rfl
 | a :: x, b :: y => by
  have : Nat.beq a.toNat b.toNat = (a == b) := by
   rw [Bool.eq_iff_iff]; simp [← UInt8.toNat_inj]
  simp [zmt, zsq x y, this]
theorem zn1 : ∀ (a b : List UInt8), zuz a b = Op.bytesLess a b
 | [], [] => rfl
 | [], _ :: _ => rfl
 | _ :: _, [] => rfl
 | a :: x, b :: y => by
  have h1 : Nat.beq a.toNat b.toNat = (a == b) := by
   rw [Bool.eq_iff_iff]; simp [← UInt8.toNat_inj]
  have h2 : Nat.blt a.toNat b.toNat = decide (a < b) := by
   rw [Bool.eq_iff_iff]; simp [UInt8.lt_iff_toNat_lt, Nat.blt_eq]
  simp [zuz, Op.bytesLess, zn1 x y, h1, h2]
theorem zdv {op : BinOp} (t : TypeId) (x y : ByteArray) {av : AVal} (h : yu0 op x y = some av) : ∃ cv, av = .raw cv ∧ (binOp op t (.string x) (.string y)).run P w = .ok cv w := by
 have hb : binOp op t (.string x) (.string y) = Op.stringOp op x y := by cases op <;> rfl
 rw [hb]
 have hl : ∀ z : ByteArray, z.toList = z.data.toList := ByteArray.toList_eq
 cases op <;> simp only [yu0] at h <;> try (cases h; done)
 case add =>
  split at h
  ·rename_i hle
   cases h
   refine ⟨_, rfl, ?_⟩
   have hs : ∀ z : ByteArray, z.data.toList.length = z.size := fun z => rfl
   have hle' : ¬ ((x.size + y.size : Nat) : Int) > IntKind.i64.max := by
    rw [hs, hs] at hle
    have hm : IntKind.i64.max = 9223372036854775807 := by decide +kernel
    rw [hm]; exact Int.not_lt.2 hle
   simp only [Op.stringOp, hle', if_false, Sem.run_pure]
   congr 2
  ·cases h
 all_goals
  cases h
  refine ⟨_, rfl, ?_⟩
  simp only [Op.stringOp, hl, zsq, zn1, Sem.run_pure]
theorem zc8 {op : BinOp} (t : TypeId) {x y : AVal} {cx cy : Value} {av : AVal} (h : aBin op x y = some av) (hx : VRel ρ x cx) (hy : VRel ρ y cy) :
  ∃ cv, av = .raw cv ∧ (binOp op t cx cy).run P w = .ok cv w ∧ (∀ X Y, eqGuard op t X Y cx cy = pure ()) := by
 unfold aBin at h
 split at h
 ·rename_i k a k' b
  cases hx.raw_inv; cases hy.raw_inv
  split at h
  ·rename_i hop
   obtain ⟨cv, h1, h2⟩ := zmg (P := P) (w := w) hop k k' a b h
   exact ⟨cv, h1, by rw [zfw hop]; exact h2, fun X Y => eqGuard_at_int ..⟩
  ·rename_i hop
   split at h
   ·rename_i hk; subst hk
    obtain ⟨cv, h1, h2⟩ := zh1 (P := P) (w := w) hop t k a b h
    exact ⟨cv, h1, h2, fun X Y => eqGuard_at_int ..⟩
   ·cases h
 ·rename_i a b
  cases hx.raw_inv; cases hy.raw_inv
  obtain ⟨cv, h1, h2⟩ := zdv (P := P) (w := w) t a b h
  exact ⟨cv, h1, h2, fun X Y => eqGuard_at_string ..⟩
 ·cases h
end
section
variable {P : Program} {B : Base} {ρ ρ' : Ren} {H H' : zz6} {w w' : World} {tm : List AVal} {ce : Operand → Value}
theorem zux {t : TypeId} {a : Bool} {n : Nat} (h : zjs P t = some (a, n)) : ∃ d m, P.underlying t = some d ∧ zjc P t = some m ∧ a = zj3 d ∧ n = if a then m else 1 := by
 unfold zjs shOf at h
 obtain ⟨⟨a', n'⟩, h1, h2⟩ := Option.map_eq_some_iff.1 h
 obtain ⟨d, hd, h3⟩ := Option.bind_eq_some_iff.1 h1
 obtain ⟨m, hm, h4⟩ := Option.map_eq_some_iff.1 h3
 cases h4
 simp at h2
 obtain ⟨rfl, rfl⟩ := h2
 exact ⟨d, _, hd, hm, rfl, rfl⟩
theorem zf9 {cs : List AVal} {vs : List Value} (h : VRels ρ cs vs) (off n : Nat) : VRel ρ (.agg ((cs.drop off).take n)) (.agg (vs.toArray.extract off (off + n))) := by
 have : vs.toArray.extract off (off + n) = ((vs.drop off).take n).toArray := by simp
 rw [this]
 exact .agg ((h.drop off).take n)
theorem zju {t : TypeId} {a : Bool} {n : Nat} (ht : zjs P t = some (a, n)) {cs : List AVal} {vs : List Value} (h : VRels ρ cs vs) {off : Nat} {av : AVal} (ha : aPart a cs off n = some av) :
  ∃ cv, (part t vs.toArray off).run P w = .ok cv w ∧ VRel ρ av cv := by
 obtain ⟨d, m, hd, hm, rfl, rfl⟩ := zux ht
 unfold aPart at ha
 cases hagg : zj3 d with
 | true =>
  simp only [hagg, if_true] at ha
  cases ha
  refine ⟨_, ?_, zf9 h off m⟩
  simp [part, zqp hd, hagg, zy4 hm]
 | false =>
  simp only [hagg, Bool.false_eq_true, if_false] at ha
  obtain ⟨cv, h1, h2⟩ := h.get _ _ ha
  refine ⟨cv, ?_, h2⟩
  simp [part, zqp hd, hagg, h1]
theorem zw6 {ρ : Ren} {l : Loc} {cells : List AVal} (h : zr8 ρ w l cells) {off n : Nat} (hn : off + n ≤ cells.length) :
  ∃ cvs, (loadCells ⟨l.c, l.s + off, none⟩ n).run P w = .ok cvs.toArray w ∧ VRels ρ ((cells.drop off).take n) cvs := by
 obtain ⟨arr, e, fz, ha, _, hc⟩ := h
 have key : ∀ j, j < n → ∃ cv, arr[l.s + off + j]? = some cv := fun j hj => by
  obtain ⟨cv, h1, _⟩ := hc (off + j) _ (List.getElem?_eq_getElem (by omega))
  exact ⟨cv, by rw [← h1]; congr 1; omega⟩
 refine ⟨(List.range n).map fun j => (arr[l.s + off + j]?).getD undef, ?_, VRels.of_get (by simp; omega) fun i v hv => ?_⟩
 ·rw [run_loadCells w _ n (fun j => (arr[l.s + off + j]?).getD undef) fun j hj => ?_]
  obtain ⟨cv, h1⟩ := key j hj
  rw [zvk, zkq ha, h1]; rfl
 ·have hi : i < n := by
   have := (List.getElem?_eq_some_iff.1 hv).1
   simp at this; omega
  rw [List.getElem?_take, if_pos hi, List.getElem?_drop] at hv
  obtain ⟨cv, h1, h2⟩ := hc _ _ hv
  refine ⟨cv, ?_, h2⟩
  rw [List.getElem?_map, List.getElem?_range hi]
  simp only [Option.map_some]
  rw [show l.s + off + i = l.s + (off + i) by omega, h1]; rfl
theorem ztb {l : Loc} {cells : List AVal} (h : zr8 ρ w l cells) {off : Nat} {v : AVal} (hv : cells[off]? = some v) :
  ∃ cv, (load ⟨l.c, l.s + off, none⟩).run P w = .ok cv w ∧ VRel ρ v cv := by
 obtain ⟨arr, e, fz, ha, _, hc⟩ := h
 obtain ⟨cv, h1, h2⟩ := hc off v hv
 exact ⟨cv, by rw [run_load, zkq ha, h1], h2⟩
theorem zvs (h : HRel P B ρ H w) {esz : Nat} {x : AVal} {cx : Value} {cells : List AVal} {m : Nat} (hx : VRel ρ x cx) (hc : aCells H esz x = some cells) (hm : zjl x = some m) :
  ∃ a cap cvs, cx = .slice a m cap ∧ ((a = none ∧ m = 0) ∨ ∃ ad, a = some ad ∧ (∀ k, k ≤ m → (loadCells ad (k * esz)).run P w = .ok (cvs.take (k * esz)).toArray w)) ∧ VRels ρ cells cvs ∧ cells.length = m * esz := by
 unfold aCells at hc
 split at hc
 ·cases hc
  simp [zjl] at hm; subst hm
  cases hx.raw_inv
  exact ⟨none, 0, [], rfl, .inl ⟨rfl, rfl⟩, .nil, by simp⟩
 ·rename_i A ver off len kcap ex esz'
  simp [zjl] at hm; subst hm
  obtain ⟨row, hr, hif⟩ := Option.bind_eq_some_iff.1 hc
  obtain ⟨l, a, cap, hl, rfl, hk, hlen, _, hor⟩ := hx.slice_inv
  split at hif
  ·rename_i hfit
   cases hif
   rcases hor with ⟨rfl, hn⟩ | ⟨rfl, _, _⟩
   ·obtain ⟨cvs, h1, h2⟩ := zw6 (P := P) (h.rowAt hr hl) hfit
    refine ⟨some _, cap, cvs, rfl, .inr ⟨_, rfl, fun k hkm => ?_⟩, h2, by simp; omega⟩
    have hle : k * esz ≤ len * esz := Nat.mul_le_mul_right _ hkm
    obtain ⟨cvs', h3, h4⟩ := zw6 (P := P) (h.rowAt hr hl) (off := off) (n := k * esz) (by omega)
    rw [h3]
    obtain ⟨arr, e, fz, ha, _, hc⟩ := h.rowAt hr hl
    congr 2
    apply List.ext_getElem?
    intro i
    rw [List.getElem?_take]
    have hl1 := h2.length
    have hl4 := h4.length
    simp at hl1 hl4
    by_cases hi : i < k * esz
    ·rw [if_pos hi]
     have e1 : (loadCells ⟨l.c, l.s + off, none⟩ (len * esz)).run P w = .ok cvs.toArray w := h1
     have key : ∀ (n : Nat) (cs : List Value), off + n ≤ row.length → (loadCells ⟨l.c, l.s + off, none⟩ n).run P w = .ok cs.toArray w → ∀ j, j < n → cs[j]? = arr[l.s + off + j]? := fun n cs hn hrun j hj => by
      rw [run_loadCells w _ n (fun j => (arr[l.s + off + j]?).getD undef) fun j hj => by
       obtain ⟨cv, h1, _⟩ := hc (off + j) _ (List.getElem?_eq_getElem (by omega))
       rw [zvk, zkq ha, show l.s + off + j = l.s + (off + j) by omega, h1]; rfl] at hrun
      simp only [Result.ok.injEq, and_true] at hrun
      have hcs : cs = (List.range n).map fun j => (arr[l.s + off + j]?).getD undef := by
       have := congrArg Array.toList hrun
       simpa using this.symm
      rw [hcs, List.getElem?_map, List.getElem?_range hj]
      obtain ⟨cv, h1, _⟩ := hc (off + j) _ (List.getElem?_eq_getElem (by omega))
      simp only [Option.map_some]
      rw [show l.s + off + j = l.s + (off + j) by omega, h1]; rfl
     rw [key _ _ (by omega) h3 i hi, key _ _ hfit e1 i (by omega)]
    ·rw [if_neg hi, List.getElem?_eq_none (by omega)]
   ·refine ⟨some a, cap, [], rfl, .inr ⟨a, rfl, fun k hk => ?_⟩, ?_, by simp⟩
    ·have : k = 0 := by omega
     subst this
     simp [loadCells, loadCellsFrom]
    ·simp; exact .nil
  ·cases hif
 ·cases hc
theorem zyd.of_rels {cells : List AVal} {vs : List Value} (h : VRels ρ cells vs) : zyd ρ vs.toArray 0 cells := fun i v hv => by
 obtain ⟨cv, h1, h2⟩ := h.get i v hv
 exact ⟨cv, by simpa using h1, h2⟩
theorem zj8 (h : HRel P B ρ H w) {cells : List AVal} {vs : List Value} (e : TypeId) (hr : VRels ρ cells vs) :
  (newRow e vs.toArray).run P w = .ok ⟨w.heap.size, 0, none⟩ (w.alloc (.cells vs.toArray e)) ∧ HRel P B (ρ.put H.next 0 ⟨w.heap.size, 0, zhf (.cells vs.toArray e)⟩) (H.push (.row [some (0, cells)])) (w.alloc (.cells vs.toArray e)) ∧ ρ.le (ρ.put H.next 0 ⟨w.heap.size, 0, zhf (.cells vs.toArray e)⟩) ∧
   (ρ.put H.next 0 ⟨w.heap.size, 0, zhf (.cells vs.toArray e)⟩) H.next 0 = some ⟨w.heap.size, 0, vs.toArray.size⟩ :=
 ⟨by simp [newRow], h.newRow (zyd.of_rels hr), Ren.put_le (h.fresh _ _ (Nat.le_refl _)), Ren.put_same _ _ _ _⟩
theorem zsy (place : Nat → Option (Nat × Nat)) : ∀ (parts : List (Nat × Operand)) {aps : List (Nat × Nat × AOpd)} {cells : List AVal} {vs : List Value} {out : List AVal}, zvg ρ tm ce →
  zr1 place parts = some aps → VRels ρ cells vs → zzm cells (aps.map fun (o, n, x) => (o, n, ev tm x)) = some out →
  ∃ cvs, Instr.fill place vs.toArray (parts.map fun (i, x) => (i, ce x)) = some cvs.toArray ∧ VRels ρ out cvs
 | [], aps, cells, vs, out, hev, hp, hr, ho => by
  simp [zr1] at hp; subst hp
  simp [zzm] at ho; subst ho
  exact ⟨vs, rfl, hr⟩
 | (i, x) :: parts, aps, cells, vs, out, hev, hp, hr, ho => by
  simp only [zr1, Option.bind_eq_some_iff, Option.map_eq_some_iff] at hp
  obtain ⟨⟨o, n⟩, hpl, y, hy, r, hr', rfl⟩ := hp
  simp only [List.map_cons, zzm] at ho
  split at ho
  ·rename_i hfit
   have hv := (hev _ _ hy).cells
   have hlen := hv.length
   have hsz : (ce x).cells.size = n := by rw [← hfit.1, ← hlen]; simp
   have hrl := hr.length
   have hspl : VRels ρ (spl cells o (ev tm y).cells) (vs.take o ++ ((ce x).cells.toList ++ vs.drop (o + (ce x).cells.toList.length))) := by
    unfold spl
    rw [hlen]
    exact (hr.take o).append (hv.append (hr.drop _))
   obtain ⟨cvs, h1, h2⟩ := zsy place parts hev hr' hspl ho
   refine ⟨cvs, ?_, h2⟩
   simp only [List.map_cons, Instr.fill, hpl]
   rw [if_neg (by simp; omega)]
   rw [← h1]
   congr 1
   have hfold : ∀ (us : List Value) (j : Nat) (acc : Array Value), ((us.zipIdx j).foldl (fun cs (c, j) => cs.setIfInBounds (o + j) c) acc) = wr acc (o + j) us := by
    intro us
    induction us with
    | nil => intro j acc; rfl
    | cons u us ih =>
     intro j acc
     simp only [List.zipIdx_cons, List.foldl_cons]
     rw [ih (j + 1)]
     rfl
   rw [← Array.foldl_toList, Array.toList_zipIdx]
   have := hfold (ce x).cells.toList 0 vs.toArray
   rw [this, ykm _ _ _ (by simp; omega)]
   rfl
  ·cases ho
end
end Go.Vm
