/- The abstract machine, part 38: what a walk rewrites by; short names of the printed code. -/
import Derived.Test.YthbjfkkjmecaaaaX23
import Derived.Test.YthbjfkkjmecaaaaX10
namespace Go.Vm
open Go

set_option linter.unusedVariables false
set_option linter.unusedSimpArgs false

/-! ### Short names -/

abbrev zb : AVal := .raw (.int .u8 0)
abbrev zi : AVal := .raw (.int .i64 0)
abbrev ns : AVal := .raw (.slice none 0 0)
abbrev ki (n : Int) : AVal := .raw (.int .i64 n)
abbrev ci : AOpd := .c zi
abbrev mv (n : Nat) : AOp := .move (.t n)
abbrev qq (d : Nat) (x : AOp) (u : List Nat) : AOper := ⟨some d, x, none, [], u, .quiet⟩
abbrev qr (d : Nat) (x : AOp) (a u : List Nat) (m : Go.Vm.Mode) : AOper := ⟨some d, x, none, a, u, m⟩
abbrev gm (d : Nat) (x : AOp) (g : Nat) (b : Bool) (a u : List Nat) : AOper := ⟨some d, x, some (g, b), a, u, .quiet⟩

/-! ### Integers -/

@[simp high] theorem ile_t {a b : Int} (h : a ≤ b) : ile a b = true := by simp [ile_eq, h]
@[simp high] theorem ile_f {a b : Int} (h : b < a) : ile a b = false := by simp [ile_eq]; omega
@[simp high] theorem ilt_t {a b : Int} (h : a < b) : ilt a b = true := by simp [ilt_eq, h]
@[simp high] theorem ilt_f {a b : Int} (h : b ≤ a) : ilt a b = false := by simp [ilt_eq]; omega
@[simp high] theorem ieq_t {a b : Int} (h : a = b) : ieq a b = true := by simp [ieq_eq, h]
@[simp high] theorem ieq_f {a b : Int} (h : a ≠ b) : ieq a b = false := by simp [ieq_eq, h]
@[simp] theorem wrapI' {n : Int} (h : -9223372036854775808 ≤ n ∧ n < 9223372036854775808) : wrapF .i64 n = n := wrapI h.1 h.2
@[simp] theorem wrapU' {n : Int} (h : 0 ≤ n ∧ n < 18446744073709551616) : wrapF .u64 n = n := wrapU h.1 h.2
attribute [simp] ile_eq ilt_eq ieq_eq

/-! ### Addresses -/

def aeq (a b : Nat) : Bool := Nat.beq a b
@[simp high] theorem aeq_t {a b : Nat} (h : a = b) : aeq a b = true := by simp [aeq, h]
@[simp high] theorem aeq_f {a b : Nat} (h : a ≠ b) : aeq a b = false := Bool.eq_false_iff.2 fun e => h (Nat.beq_eq.mp e)

def rowOf (ver : Nat) : Option AObj → Option (List AVal)
  | some (.row vs) => match vs[ver]? with | some (some (_, l)) => some l | _ => none
  | some (.ro l) => if ver = 0 then some l else none
  | _ => none

@[simp] theorem get_push' (H : AHeap) (B : Nat) (o : AObj) : (H.push o).get B = bif aeq B H.next then some o else H.get B := by
  rw [AHeap.get_push]; by_cases h : B = H.next <;> simp [h]
@[simp] theorem get_set' (H : AHeap) (A B : Nat) (o : AObj) : (H.set A o).get B = bif aeq B A then some o else H.get B := by
  rw [AHeap.get_set]; by_cases h : B = A <;> simp [h]
theorem rowAt_eq (H : AHeap) (A v : Nat) : H.rowAt A v = rowOf v (H.get A) := rfl
@[simp] theorem rowAt_push' (H : AHeap) (B v : Nat) (o : AObj) : (H.push o).rowAt B v = bif aeq B H.next then rowOf v (some o) else H.rowAt B v := by
  rw [rowAt_eq, rowAt_eq, get_push']; cases aeq B H.next <;> rfl
@[simp] theorem rowAt_set' (H : AHeap) (A B v : Nat) (o : AObj) : (H.set A o).rowAt B v = bif aeq B A then rowOf v (some o) else H.rowAt B v := by
  rw [rowAt_eq, rowAt_eq, get_set']; cases aeq B A <;> rfl

/-- The same blocks, more addresses gone. -/
def AHeap.up (H : AHeap) (m : Nat) : AHeap := { next := H.next + m, tr := H.tr }
@[simp] theorem get_up (H : AHeap) (m A : Nat) : (H.up m).get A = H.get A := rfl
@[simp] theorem next_up (H : AHeap) (m : Nat) : (H.up m).next = H.next + m := rfl
@[simp] theorem rowAt_up (H : AHeap) (m A v : Nat) : (H.up m).rowAt A v = H.rowAt A v := rfl

attribute [simp] rowOf killAt spl List.getElem?_cons_zero List.getElem?_cons_succ

@[simp] theorem ifle_t {α : Type} {a b : Nat} {x y : α} (h : a ≤ b) : (if a ≤ b then x else y) = x := if_pos h
@[simp] theorem ifle_f {α : Type} {a b : Nat} {x y : α} (h : b < a) : (if a ≤ b then x else y) = y := if_neg (by omega)

@[simp] theorem cells_int (k : IntKind) (a : Int) : (AVal.raw (.int k a)).cells = [.raw (.int k a)] := rfl
@[simp] theorem cells_bool (b : Bool) : (AVal.raw (.bool b)).cells = [.raw (.bool b)] := rfl
@[simp] theorem cells_ns (a b : Nat) : (AVal.raw (.slice none a b)).cells = [.raw (.slice none a b)] := rfl
@[simp] theorem cells_np : (AVal.raw (.pointer none)).cells = [.raw (.pointer none)] := rfl
@[simp] theorem cells_nm : (AVal.raw (.map none)).cells = [.raw (.map none)] := rfl
@[simp] theorem cells_ptr (a b c : Nat) : (AVal.ptr a b c).cells = [.ptr a b c] := rfl
@[simp] theorem cells_slice (a b c d e : Nat) (f : Bool) (g : Nat) : (AVal.slice a b c d e f g).cells = [.slice a b c d e f g] := rfl
@[simp] theorem cells_map (a : Nat) : (AVal.map a).cells = [.map a] := rfl
@[simp] theorem cells_agg (cs : List AVal) : (AVal.agg cs).cells = cs := rfl

/-! ### A row that is written -/

/-- Over H0 but for the row R, whose version 'ver' holds these cells. -/
structure RowW (H0 : AHeap) (R ver nv : Nat) (cells : List AVal) (H : AHeap) : Prop where
  row : ∃ vs, H.get R = some (.row vs) ∧ vs.length = nv ∧ vs[ver]? = some (some (0, cells))
  next : H.next = H0.next
  other : ∀ A, A ≠ R → H.get A = H0.get A

theorem RowW.at {H0 H : AHeap} {R ver nv : Nat} {cells : List AVal} (h : RowW H0 R ver nv cells H) : H.rowAt R ver = some cells := by
  obtain ⟨vs, h1, h2, h3⟩ := h.row
  rw [rowAt_eq, h1]; simp [h3]

theorem set_spl {α : Type} {l : List α} {off : Nat} {v : α} (h : off < l.length) : l.take off ++ ([v] ++ l.drop (off + [v].length)) = l.set off v := by
  rw [List.set_eq_take_append_cons_drop, if_pos h]; rfl

theorem killAt_len (p n : Nat) : ∀ vs : Vers, (killAt p n vs).length = vs.length
  | [] => rfl
  | none :: r => by simp [killAt, killAt_len p n r]
  | some (rel, l) :: r => by simp [killAt, killAt_len p n r]

theorem RowW.write {H0 H : AHeap} {R ver nv : Nat} {cells : List AVal} (h : RowW H0 R ver nv cells H) {off : Nat} {vals : List AVal} (h0 : 0 < vals.length) (h1 : off + vals.length ≤ cells.length) (hv : vals.all AVal.one = true) :
    ∃ H', H.write R ver off vals = some H' ∧ RowW H0 R ver nv (cells.take off ++ (vals ++ cells.drop (off + vals.length))) H' := by
  obtain ⟨vs, a1, a2, a3⟩ := h.row
  have hlt := (List.getElem?_eq_some_iff.1 a3).1
  refine ⟨_, by unfold AHeap.write; rw [a1]; simp only [a3, h0, h1, hv, decide_true, Bool.and_self, if_true]; rfl, ⟨_, AHeap.get_set_same _ _ _, ?_, ?_⟩, h.next, fun A hA => by rw [AHeap.get_set_ne _ _ hA]; exact h.other A hA⟩
  · rw [List.length_set, killAt_len, a2]
  · rw [List.getElem?_set_self (by rw [killAt_len]; exact hlt)]; rfl

attribute [simp] look dropK putK pruneK SubK evK evsK eoK csK psK subK wantK opK opK2 putR callK stepO stepW stepK fltW fltK yldV yldW yldK askV askK resK ressK argK QSeq QBlk EndK
@[simp] theorem isTup_undef : isTup (.raw undef) = true := rfl
@[simp] theorem beq_int (k : IntKind) (a : Int) : AVal.beq (.raw (.int k a)) (.raw (.int k a)) = true := by cases k <;> simp [AVal.beq, valBeq, ieq_eq]
@[simp] theorem beq_bool (b : Bool) : AVal.beq (.raw (.bool b)) (.raw (.bool b)) = true := by simp [AVal.beq, valBeq]
@[simp] theorem beq_ns (a b : Nat) : AVal.beq (.raw (.slice none a b)) (.raw (.slice none a b)) = true := by simp [AVal.beq, valBeq]
@[simp] theorem beq_np : AVal.beq (.raw (.pointer none)) (.raw (.pointer none)) = true := rfl
@[simp] theorem beq_nm : AVal.beq (.raw (.map none)) (.raw (.map none)) = true := rfl
@[simp] theorem beq_ptr (a b c : Nat) : AVal.beq (.ptr a b c) (.ptr a b c) = true := by simp [AVal.beq]
@[simp] theorem beq_slice (a b c d e : Nat) (f : Bool) (g : Nat) : AVal.beq (.slice a b c d e f g) (.slice a b c d e f g) = true := by simp [AVal.beq]
@[simp] theorem beq_map (a : Nat) : AVal.beq (.map a) (.map a) = true := by simp [AVal.beq]
@[simp] theorem beq_agg (cs ds : List AVal) : AVal.beq (.agg cs) (.agg ds) = AVal.beqs cs ds := by simp [AVal.beq]
@[simp] theorem beqs_nil : AVal.beqs [] [] = true := by simp [AVal.beqs]
@[simp] theorem beqs_cons (a b : AVal) (as bs : List AVal) : AVal.beqs (a :: as) (b :: bs) = (AVal.beq a b && AVal.beqs as bs) := by simp [AVal.beqs]
@[simp] theorem beq_tup (cs ds : List AVal) : AVal.beq (.tuple cs) (.tuple ds) = AVal.beqs cs ds := by simp [AVal.beq]
attribute [simp] aOp ev aRess aRes1 tup aBin aUn aArith aPart hasN

@[congr] theorem bindK {α β : Type} {x y : Option α} (f : α → Option β) (h : x = y) : x.bind f = y.bind f := by rw [h]
@[congr] theorem mapK {α β : Type} {x y : Option α} (f : α → β) (h : x = y) : x.map f = y.map f := by rw [h]

end Go.Vm
namespace Go.Vm
open Go

set_option linter.unusedVariables false
set_option linter.unusedSimpArgs false

/-! ### Setting what is there -/

theorem Tr.set_self {α : Type} (u : α) : ∀ (t : Tr α) (k : Nat), t.get k = some u → t.set u k = t
  | .leaf, k, h => by simp [Tr.get] at h
  | .node v l r, k, h => by
    unfold Tr.get at h
    unfold Tr.set
    by_cases hk : k = 0
    · simp only [hk, if_true] at h ⊢; rw [h]
    · simp only [hk, if_false] at h ⊢
      by_cases h2 : k % 2 = 1
      · simp only [h2, if_true] at h ⊢; rw [Tr.set_self u l _ h]
      · simp only [h2, if_false] at h ⊢; rw [Tr.set_self u r _ h]

theorem AHeap.set_self {H : AHeap} {A : Nat} {o : AObj} (h : H.get A = some o) : H.set A o = H := by
  unfold AHeap.set
  rw [Tr.set_self o H.tr A h]

/-! ### Elements -/

theorem spl_len {α : Type} {l v : List α} {off : Nat} (h : off + v.length ≤ l.length) : (spl l off v).length = l.length := by
  simp only [spl, List.length_append, List.length_take, List.length_drop]; omega

theorem spl_mid {α : Type} {a e b v : List α} {f : Nat} (h : f + v.length ≤ e.length) : spl (a ++ (e ++ b)) (a.length + f) v = a ++ (spl e f v ++ b) := by
  simp only [spl]
  rw [List.take_append, List.take_of_length_le (by omega), Nat.add_sub_cancel_left, List.take_append_of_le_length (by omega), Nat.add_assoc, List.drop_append, List.drop_eq_nil_of_le (by omega), Nat.add_sub_cancel_left, List.nil_append, List.drop_append_of_le_length h]
  simp only [List.append_assoc]

theorem flatten_part {α : Type} {n : Nat} {es : List (List α)} (he : ∀ e ∈ es, e.length = n) {i f : Nat} {e v : List α} (hi : es[i]? = some e) (h : f + v.length ≤ n) : spl es.flatten (i * n + f) v = (es.set i (spl e f v)).flatten := by
  obtain ⟨hlt, hei⟩ := List.getElem?_eq_some_iff.1 hi
  have hd : es = es.take i ++ (e :: es.drop (i + 1)) := by rw [← hei, List.getElem_cons_drop, List.take_append_drop]
  have hl : (es.take i).flatten.length = i * n := by rw [flatten_len (n := n) fun x hx => he x (List.mem_of_mem_take hx), List.length_take, Nat.min_eq_left (by omega)]
  have hel := he e (List.mem_of_getElem? hi)
  have h1 : es.flatten = (es.take i).flatten ++ (e ++ (es.drop (i + 1)).flatten) := by
    conv => lhs; rw [hd]
    simp
  rw [h1, ← hl, spl_mid (by omega), List.set_eq_take_append_cons_drop, if_pos hlt]
  simp

theorem mem_set {α : Type} {es : List α} {i : Nat} {v e : α} (h : e ∈ es.set i v) : e ∈ es ∨ e = v := List.mem_or_eq_of_mem_set h

/-- Cells of an element, stored. -/
theorem SliceE.store {H : AHeap} {base esz : Nat} {v : AVal} {es : List (List AVal)} (h : SliceE H base esz v es) {i f : Nat} {e vals : List AVal} (hi : es[i]? = some e) (h0 : 0 < vals.length) (hf : f + vals.length ≤ esz) (hone : vals.all AVal.one = true) :
    ∃ R ver H', v = .slice R ver 0 es.length es.length false esz ∧ base ≤ R ∧ R < H.next ∧ H.write R ver (i * esz + f) vals = some H' ∧ SliceE H' base esz v (es.set i (spl e f vals)) ∧ H'.next = H.next ∧ ∀ A, A ≠ R → H'.get A = H.get A := by
  obtain ⟨hlt, hei⟩ := List.getElem?_eq_some_iff.1 hi
  rcases h with ⟨hes, ⟨rfl, rfl⟩ | ⟨R, ver, vs, h1, h2, rfl, h4, h5⟩⟩
  · simp at hi
  · have hfl := flatten_len hes
    have hm : (i + 1) * esz ≤ es.length * esz := Nat.mul_le_mul_right _ hlt
    rw [Nat.succ_mul] at hm
    obtain ⟨H', hw, hr⟩ := RowW.write (H0 := H) (nv := vs.length) ⟨⟨vs, h4, rfl, h5⟩, rfl, fun _ _ => rfl⟩ (off := i * esz + f) (vals := vals) h0 (by omega) hone
    obtain ⟨vs', q1, q2, q3⟩ := hr.row
    refine ⟨R, ver, H', rfl, h1, h2, hw, ⟨fun x hx => ?_, .inr ⟨R, ver, vs', h1, by rw [hr.next]; exact h2, by rw [List.length_set], q1, ?_⟩⟩, hr.next, hr.other⟩
    · rcases mem_set hx with h | rfl
      · exact hes x h
      · rw [spl_len (by rw [hes e (List.mem_of_getElem? hi)]; exact hf)]; exact hes e (List.mem_of_getElem? hi)
    · rw [q3, ← flatten_part hes hi hf]; rfl

/-- Cells of an element, read. -/
theorem SliceE.load {H : AHeap} {base esz : Nat} {v : AVal} {es : List (List AVal)} (h : SliceE H base esz v es) {i : Nat} {e : List AVal} (hi : es[i]? = some e) :
    ∃ R ver cells, v = .slice R ver 0 es.length es.length false esz ∧ base ≤ R ∧ R < H.next ∧ H.rowAt R ver = some cells ∧ i * esz + esz ≤ cells.length ∧ (∀ f, f < esz → cells[i * esz + f]? = e[f]?) ∧ (cells.drop (i * esz)).take esz = e := by
  obtain ⟨hlt, hei⟩ := List.getElem?_eq_some_iff.1 hi
  obtain ⟨R, ver, off, kcap, ex, cells, h1, h2, h3, h4⟩ := h.rd.at hi
  rcases h with ⟨hes, ⟨rfl, rfl⟩ | ⟨R', ver', vs, g1, g2, rfl, g4, g5⟩⟩
  · simp at hi
  · cases h1
    rw [Nat.zero_add] at h3 h4
    exact ⟨_, _, cells, rfl, g1, g2, h2, h3, fun f hf => part_at h4 hf, h4⟩

theorem RdE.beq {H : AHeap} {esz : Nat} {v : AVal} {es : List (List AVal)} (h : RdE H esz v es) : AVal.beq v v = true := by
  rcases h with ⟨_, ⟨rfl, _⟩ | ⟨R, ver, off, kc, ex, cells, rfl, _⟩⟩ <;> simp

theorem cells_one {v : AVal} (h : v.one = true) : v.cells = [v] := by
  cases v with
  | raw x => cases x <;> first | rfl | (cases h; done)
  | agg _ => cases h
  | _ => rfl

theorem SliceE.beq {H : AHeap} {base esz : Nat} {v : AVal} {es : List (List AVal)} (h : SliceE H base esz v es) : AVal.beq v v = true := by
  rcases h with ⟨_, ⟨rfl, _⟩ | ⟨R, ver, vs, _, _, rfl, _⟩⟩ <;> simp

end Go.Vm
namespace Go.Vm
open Go

set_option linter.unusedVariables false
set_option linter.unusedSimpArgs false

variable {P : Program} {B : Base} {ρ ρ' : Ren} {H H' : AHeap} {w w' : World} {tm : List AVal} {ce : Operand → Value} {o : Oper} {av : AVal} {ao : AOp}

theorem EntriesRel.at : ∀ {es : AEntries} {ces : List MapEntry} {j : Nat} {c : MapEntry}, EntriesRel ρ es ces → ces[j]? = some c → ∃ e, es[j]? = some e ∧ VRel ρ e.1 c.key ∧ VRel ρ e.2.1 c.val ∧ c.born = e.2.2
  | [], [], _, _, _, h => by simp at h
  | [], _ :: _, _, _, h, _ => h.elim
  | _ :: _, [], _, _, h, _ => h.elim
  | (k, v, b) :: r, e :: es, 0, c, ⟨h1, h2, h3, h4⟩, h => by
    simp at h
    subst h
    exact ⟨_, rfl, h1, h2, h3⟩
  | (k, v, b) :: r, e :: es, j + 1, c, ⟨h1, h2, h3, h4⟩, h => by
    simp at h
    obtain ⟨e', q⟩ := EntriesRel.at h4 h
    exact ⟨e', by simpa using q⟩

def leftIn (es : AEntries) (seen : List Nat) : AEntries := es.filter fun e => !bornIn seen e.2.2

theorem op_iterNext_any (h : HRel P B ρ H w) (hev : EvOk ρ tm ce) {x : Operand} {ax : AOpd} (hop : o.op = .next x false) (hx : cOpd x = some ax) {A M since last clock : Nat} {seen : List Nat} {es : AEntries}
    (hxe : ev tm ax = .ptr A 0 0) (hg : H.get A = some (.iter (some M) since seen last)) (hgM : H.get M = some (.map es clock)) (hold : ∀ e ∈ es, e.2.2 < since) (hsl : since ≤ last) :
    (leftIn es seen = [] ∧ OpRes .any P B ρ H w (execOp ce o) (.tuple [abool false]) H) ∨
    ∃ e ∈ leftIn es seen, OpRes .any P B ρ H w (execOp ce o) (.tuple [abool true, e.1, e.2.1]) (H.set A (.iter (some M) since (seen ++ [e.2.2]) clock)) := by
  have he : execOp ce o = (do Pure.pure (.value (← Instr.next (ce x) false o.type))) := by simp [execOp, hop]
  rw [he]
  have hxv := hev _ _ hx
  rw [hxe] at hxv
  obtain ⟨l, hl, hcx⟩ := hxv.ptr_inv
  obtain ⟨hsing, l', cm, hl', h0, hw, hit⟩ := h.obj A _ hg
  rw [hl] at hl'; cases hl'
  cases cm with
  | none => exact hit.elim
  | some c =>
    obtain ⟨lM, hlM, rfl⟩ := hit
    obtain ⟨_, lM', ces, hlM', hwM, hes⟩ := h.obj M _ hgM
    rw [hlM] at hlM'; cases hlM'
    have hcold : ∀ x ∈ ces.toList, x.born < since := fun x hx => by
      obtain ⟨j, hj⟩ := List.mem_iff_getElem?.1 hx
      obtain ⟨e, he, _, _, hb⟩ := hes.at hj
      rw [hb]
      exact hold e (List.mem_of_getElem? he)
    have hcond := next_test_false seen.toArray ces since last hcold hsl
    have hleft : EntriesRel ρ (leftIn es seen) (ces.filter fun e => !seen.toArray.contains e.born).toList := by
      have := hes.filter (p := fun b => !bornIn seen b)
      have e1 : (ces.filter fun e => !seen.toArray.contains e.born).toList = ces.toList.filter fun e => !bornIn seen e.born := by
        rw [Array.toList_filter]
        congr 1; funext e; rw [bornIn_eq]
      rw [e1]
      exact this
    have hmem : ∀ x ∈ (ces.filter fun e => !seen.toArray.contains e.born).toList, x.born < since := fun x hx => hcold x (by simp at hx ⊢; exact hx.1)
    generalize hL : (ces.filter fun e => !seen.toArray.contains e.born) = L at hleft hmem
    have e1 : L.filter (fun x => decide (x.born < since)) = L := Array.filter_eq_self.2 (fun x hx => by simpa using hmem x (by simpa using hx))
    have e2 : L.filter (fun x => decide (x.born ≥ since)) = #[] := by
      rw [Array.filter_eq_empty_iff]
      intro x hx
      have := hmem x (by simpa using hx)
      simp
      omega
    by_cases hz : L.size = 0
    · have hL0 : L = #[] := Array.eq_empty_of_size_eq_zero hz
      left
      refine ⟨?_, .v h (cv := .tuple #[.bool false]) ?_ (.tuple (.cons (.raw _) .nil))⟩
      · have := hleft.length
        rw [hL0] at this
        exact List.length_eq_zero_iff.1 (by simpa using this.symm)
      · rw [hcx, h0]
        simp only [Instr.next, Sem.run_bind, run_getObj' hw, Result.andThen_ok, Sem.run_pure, run_getObj' hwM, hcond, Bool.false_eq_true, if_false, hL, e1, e2]
        rw [hL0]
        simp [choose, Sem.run, Question.forced]
    · right
      have hne : L.isEmpty = false := by simp [Array.isEmpty, hz]
      have hch : ∃ (j : Nat) (w1 : World), j < L.size ∧ (w1 = w ∨ w1 = w.drew) ∧ (choose (Question.mapNext L.size)).run P w = .ok j w1 := by
        by_cases hf : L.size ≤ 1
        · exact ⟨0, w, by omega, .inl rfl, by simp [choose, Sem.run, Question.forced, hf]⟩
        · exact ⟨_, w.drew, Nat.mod_lt _ (by omega), .inr rfl, by
            simp only [choose, Sem.run, Question.forced, decide_eq_true_eq, hf, if_false, Question.cut]
            rfl⟩
      obtain ⟨j, w1, hj, hw1, hrun⟩ := hch
      obtain ⟨e, hej, hk, hv, hb⟩ := hleft.at (j := j) (c := L[j]) (by rw [Array.getElem?_toList, Array.getElem?_eq_getElem hj])
      have h1 : HRel P B ρ H w1 := by rcases hw1 with rfl | rfl; exact h; exact h.drew
      have hheap : w1.heap = w.heap := by rcases hw1 with rfl | rfl <;> rfl
      have hw' : w1.heap[l.c]? = some (.mapIter (some lM.c) since seen.toArray last) := by rw [hheap]; exact hw
      have hput := h1.putObj (co := .mapIter (some lM.c) since (seen ++ [e.2.2]).toArray clock) hg hl (fun x => by simp) (ob' := .iter (some M) since (seen ++ [e.2.2]) clock) (fun x => by simp)
        ⟨hsing, l, some lM.c, hl, h0, World.putObj_heap_same (Array.getElem?_eq_some_iff.1 hw').1, lM, hlM, rfl⟩ (Side.putPlain hw' trivial trivial)
      refine ⟨e, List.mem_of_getElem? hej, .vw (cv := .tuple #[.bool true, L[j].key, L[j].val]) ?_ (.tuple (.cons (.raw _) (.cons hk (.cons hv .nil)))) hput (Ren.le_refl _)⟩
      rw [hcx, h0]
      simp only [Instr.next, Sem.run_bind, run_getObj' hw, Result.andThen_ok, Sem.run_pure, run_getObj' hwM, hcond, Bool.false_eq_true, if_false, hL, e1, e2, Array.append_empty, hne, Array.empty_append, Array.size_map, hrun, Array.getElem?_map, Array.getElem?_eq_getElem hj, Option.map_some]
      rw [show seen.toArray.push L[j].born = (seen ++ [e.2.2]).toArray by rw [hb]; simp]
      simp [run_setObj' _ hw']

theorem cBin_no {op : BinOp} {t : TypeId} {x y ax : AOpd} (h : cBin P op t x y = some (.iterNext ax)) : False := by
  unfold cBin at h
  (repeat' split at h) <;> simp [Option.map_eq_some_iff] at h

theorem cConv_no {s d : TypeId} {x ax : AOpd} (h : cConv P s d x = some (.iterNext ax)) : False := by
  unfold cConv at h
  (repeat' split at h) <;> simp [Option.map_eq_some_iff] at h

theorem cAppend_no {l : List Operand} {ts : List TypeId} {ax : AOpd} (h : cAppend P l ts = some (.iterNext ax)) : False := by
  unfold cAppend at h
  (repeat' split at h) <;> simp [Option.map_eq_some_iff, Option.bind_eq_some_iff] at h
theorem cAppendZ_no {l : List Operand} {ts : List TypeId} {ax : AOpd} (h : cAppendZ P l ts = some (.iterNext ax)) : False := by
  unfold cAppendZ at h
  (repeat' split at h) <;> simp [Option.map_eq_some_iff, Option.bind_eq_some_iff] at h
theorem cCap_no {l : List Operand} {ts : List TypeId} {ax : AOpd} (h : cCap P l ts = some (.iterNext ax)) : False := by
  unfold cCap at h
  (repeat' split at h) <;> simp [Option.map_eq_some_iff] at h
theorem cCopy_no {l : List Operand} {ts : List TypeId} {ax : AOpd} (h : cCopy P l ts = some (.iterNext ax)) : False := by
  unfold cCopy at h
  (repeat' split at h) <;> simp [Option.map_eq_some_iff, Option.bind_eq_some_iff] at h
theorem cLen_no {l : List Operand} {ts : List TypeId} {ax : AOpd} (h : cLen P l ts = some (.iterNext ax)) : False := by
  unfold cLen at h
  (repeat' split at h) <;> simp [Option.map_eq_some_iff, Option.bind_eq_some_iff] at h
theorem cDelete_no {l : List Operand} {ts : List TypeId} {ax : AOpd} (h : cDelete P l ts = some (.iterNext ax)) : False := by
  unfold cDelete at h
  (repeat' split at h) <;> simp [Option.map_eq_some_iff, Option.bind_eq_some_iff] at h
theorem cClear_no {l : List Operand} {ts : List TypeId} {ax : AOpd} (h : cClear P l ts = some (.iterNext ax)) : False := by
  unfold cClear at h
  (repeat' split at h) <;> simp [Option.map_eq_some_iff, Option.bind_eq_some_iff] at h

theorem ite_no {c : Bool} {α : Type} {x y : Option α} {a : α} (h : (if c = true then x else y) = some a) : x = some a ∨ y = some a := by
  cases c
  · exact .inr h
  · exact .inl h

theorem cCall_no {c : Call} {ax : AOpd} (h : cCall P c = some (.iterNext ax)) : False := by
  unfold cCall at h
  split at h
  · simp [Option.map_eq_some_iff, Option.bind_eq_some_iff] at h
  · cases h
  · unfold cBuiltin at h
    split at h <;> first | exact (ite_no h).elim cAppendZ_no cAppend_no | exact cCap_no h | exact cCopy_no h | exact cLen_no h | exact cDelete_no h | exact cClear_no h | (simp [Option.map_eq_some_iff, Option.bind_eq_some_iff] at h; done)

theorem cOp_next {op : Op} {ax : AOpd} (h : cOp P op = some (.iterNext ax)) : ∃ x, op = .next x false ∧ cOpd x = some ax := by
  cases op with
  | next x str =>
    simp only [cOp] at h
    split at h
    · cases h
    · rename_i hs
      obtain ⟨a, h1, h2⟩ := Option.map_eq_some_iff.1 h
      cases h2
      exact ⟨x, by simp at hs; rw [hs], h1⟩
  | makeMap t r =>
    cases r <;> simp only [cOp] at h
    all_goals (repeat' split at h) <;> simp at h
  | _ =>
    simp only [cOp] at h
    first
    | exact (cCall_no h).elim
    | (obtain ⟨_, _, h⟩ := Option.bind_eq_some_iff.1 h
       first
       | exact (cConv_no h).elim
       | (obtain ⟨_, _, h⟩ := Option.bind_eq_some_iff.1 h
          exact (cBin_no h).elim))
    | ((repeat' split at h) <;> (try simp [Option.map_eq_some_iff, Option.bind_eq_some_iff] at h)
       all_goals
         obtain ⟨_, _, _, _, m, _, h⟩ := h
         cases m <;> simp [Option.map_eq_some_iff] at h)

/-- The next of a map's entries, whichever. -/
theorem AOps.iterNext {r : Option Nat} {ops : Array Oper} {o : Oper} {ao : AOper} {i : Nat} {rest : List Nat} {K : ASt → Prop} {st : ASt} {ax : AOpd} {A M since last clock : Nat} {seen : List Nat} {es : AEntries} (ho : ops[i]? = some o) (hc : cOper P ops o = some ao)
    (hop : ao.op = .iterNext ax) (hw : awanted ao.guard st.tm = some true) (hxe : ev st.tm ax = .ptr A 0 0) (hg : st.H.get A = some (.iter (some M) since seen last)) (hgM : st.H.get M = some (.map es clock)) (hold : ∀ e ∈ es, e.2.2 < since) (hsl : since ≤ last)
    (h0 : leftIn es seen = [] → AOps P r ops rest K (st.put ao.dst (.tuple [abool false])))
    (h1 : ∀ e ∈ leftIn es seen, AOps P r ops rest K ({ st with H := st.H.set A (.iter (some M) since (seen ++ [e.2.2]) clock) }.put ao.dst (.tuple [abool true, e.1, e.2.1]))) : AOps P r ops (i :: rest) K st := by
  intro B ρ a w hs
  obtain ⟨hc1, hc2, hc3⟩ := cOper_some hc
  rw [hop] at hc1
  obtain ⟨x, hopo, hx⟩ : ∃ x, o.op = .next x false ∧ cOpd x = some ax := by
    have hk : cOp P o.op = some (.iterNext ax) := by
      rcases cOp'_some hc1 with ⟨q | q, _⟩ | q
      · cases q
      · exact q
      · exact q
    exact cOp_next hk
  rcases op_iterNext_any hs.H hs.ev hopo hx hxe hg hgM hold hsl with ⟨hl, ρ', w', nx, cv, h1', h2, h3, h4, h5, _⟩ | ⟨e, hel, ρ', w', nx, cv, h1', h2, h3, h4, h5, _⟩
  · refine wpOpsIn_op ho (awanted_run hc hs.tm hw) (noDefer hc1) h1' h2 ?_
    have := h0 hl B ρ' _ w' (hs.put h5 ao.dst h3 h4)
    rw [hc2] at this
    exact wpOpsIn_mono (fun e a w hq => hq.le h5) _ _ _ this
  · refine wpOpsIn_op ho (awanted_run hc hs.tm hw) (noDefer hc1) h1' h2 ?_
    have := h1 e hel B ρ' _ w' (hs.put h5 ao.dst h3 h4)
    rw [hc2] at this
    exact wpOpsIn_mono (fun e a w hq => hq.le h5) _ _ _ this

end Go.Vm
