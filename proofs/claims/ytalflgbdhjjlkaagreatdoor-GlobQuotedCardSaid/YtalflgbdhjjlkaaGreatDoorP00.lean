/- Part 0 of the proof of the law: Ae0, Ae1. No condition. -/
import Derived.RangeFuncLeaves
import Derived.RangeFuncRecord
import Derived.CallsIn
import Derived.Laws.World
import Derived.Orders
import Derived.KernelRfl
set_option linter.all false
namespace Go.Ae
open Go
inductive Out (α : Type) where
 | ok (a : α)
 | big
 | bad (n : Nat)
def Out.bind {α β : Type} : Out α → (α → Out β) → Out β
 | .ok a,f => f a
 | .big,_ => .big
 | .bad n,_ => .bad n
def Out.sat {α : Type} (Q : α → Prop) : Out α → Prop
 | .ok a => Q a
 | .big => False
 | .bad _ => False
def flat1 : Value → Bool
 | .bool _ => true
 | .int _ _ => true
 | .string _ => true
 | .pointer none => true
 | .slice none n c => n == 0 && c == 0
 | .map none => true
 | .nilFunc => true
 | .nilIface => true
 | _ => false
def flat : Value → Bool
 | .agg cs => cs.toList.all flat1
 | .tuple vs => vs.toList.isEmpty
 | v => flat1 v
inductive SK where
 | int | str | bool
inductive EqK where
 | scalar (k : SK)
 | ptr | slice | map | func
inductive AOp where
 | mv (x : Operand)
 | pick (c a b : Operand)
 | new (cs : List Value) (e : TypeId)
 | box (x : Operand) (e : TypeId)
 | build (zero : List Value) (parts : List (Nat × Nat × Operand))
 | mkslice (len size : Nat) (zero : List Value) (parts : List (Nat × Nat × Operand))
 | load (a : Operand) (sz : Option Nat)
 | store (a x : Operand) (sz : Nat)
 | nilck (x : Operand)
 | bin (op : BinOp) (x y : Operand)
 | eqv (neg : Bool) (k : EqK) (x y : Operand)
 | un (op : UnOp) (x : Operand)
 | conv (k : IntKind) (x : Operand)
 | toStr (x : Operand)
 | faddr (x : Operand) (off : Nat)
 | fld (x : Operand) (off : Nat) (sz : Option Nat)
 | idx (x i : Operand) (sz : Nat)
 | idxA (x i : Operand) (len sz : Nat)
 | strAt (x i : Operand)
 | aggAt (x i : Operand) (len sz : Nat) (one : Bool)
 | sl (x : Operand) (lo hi : Option Operand) (sz : Nat)
 | slStr (x : Operand) (lo hi : Option Operand)
 | ext (x : Operand) (i : Nat)
 | lenS (x : Operand)
 | lenL (x : Operand)
 | lenM (x : Operand)
 | app (s x : Operand) (sz : Nat) (e : TypeId)
 | appStr (s x : Operand) (e : TypeId)
 | mx (x y : Operand)
 | mn (x y : Operand)
 | mkfn (f : FuncId) (caps : List Operand)
 | mkmap
 | look (s : SK) (m k : Operand) (zero : Value) (ok : Bool)
 | mset (s : SK) (m k v : Operand)
 | mdel (s : SK) (m k : Operand)
 | mkrow (l c : Operand) (sz : Nat) (zero : List Value)
 | call (f : Operand) (args : List Operand)
 | capq (x : Operand)
 | appz (s x : Operand) (sz : Nat) (zero : List Value)
 | copyS (x y : Operand) (sz : Nat)
 | toU (x : Operand)
 | ofU (x : Operand) (u : TypeId) (s : Nat)
 | sdata (x : Operand)
 | ustr (x n : Operand) (u : TypeId)
 | stop
structure AItem where
 dst : Option Tmp
 op : AOp
 guard : Option (Tmp × Bool)
inductive DItem where
 | run (it : AItem)
 | nam (it : AItem) (off : Nat)
 | lay (it : AItem) (off : Nat)
 | chk (it : AItem)
inductive ACode where
 | skip
 | ops (l : List AItem)
 | opsC (l0 : List AItem) (t x : Tmp) (d : Option Tmp) (l2 : List AItem)
 | draw (n : Nat) (l : List DItem)
 | seq (a b : ACode)
 | cond (c : Operand) (thn els : ACode)
 | block (id : Nat) (body : ACode)
 | loop (body : ACode)
 | exit (id : Nat)
 | ret
 | rfunc (f : Operand) (params : List Tmp) (assign body : ACode)
 | bad
inductive AJump where
 | ret
 | exit (id : Nat)
structure ALoop where
 state : LoopState
 pending : Option AJump
 env : List Value
 params : List Tmp
 assign : ACode
 body : ACode
inductive AObj where
 | row (cs : List Value) (fz : Nat) (ty : Option TypeId)
 | ro (cs : List Value)
 | map (es : List (Value × Value))
 | loop (l : ALoop)
def AObj.rw : AObj → Bool
 | .ro _ => false
 | _ => true
structure Heap where
 next : Nat
 rev : List (Option AObj)
def Heap.get (H : Heap) (b : Nat) : Option AObj := if b < H.next then (H.rev[H.next - 1 - b]?).join else none
def Heap.set (H : Heap) (b : Nat) (o : Option AObj) : Heap := if b < H.next then { H with rev := H.rev.set (H.next - 1 - b) o } else H
def Heap.push (H : Heap) (o : AObj) : Heap := { next := H.next + 1,rev := some o :: H.rev }
@[simp] theorem Heap.next_set (H : Heap) (b : Nat) (o : Option AObj) : (H.set b o).next = H.next := by unfold Heap.set; split <;> rfl
@[simp] theorem Heap.next_push (H : Heap) (o : AObj) : (H.push o).next = H.next + 1 := rfl
theorem Heap.get_ge {H : Heap} {b : Nat} (h : H.next ≤ b) : H.get b = none := by unfold Heap.get; rw [if_neg (by omega)]
theorem Heap.lt_of_get {H : Heap} {b : Nat} {o : AObj} (h : H.get b = some o) : b < H.next := by
 unfold Heap.get at h; split at h
 ·assumption
 ·cases h
@[simp] theorem Heap.get_push_same (H : Heap) (o : AObj) : (H.push o).get H.next = some o := by
 simp [Heap.get,Heap.push]
theorem Heap.get_push_ne (H : Heap) (o : AObj) {b : Nat} (h : b ≠ H.next) : (H.push o).get b = H.get b := by
 unfold Heap.get Heap.push
 by_cases hb : b < H.next
 ·simp only [show b < H.next + 1 from by omega,hb,if_true]
  rw [show H.next + 1 - 1 - b = (H.next - 1 - b) + 1 from by omega]
  simp
 ·simp only [show ¬ b < H.next + 1 from by omega,hb,if_false]
theorem Heap.get_push_old {H : Heap} {o : AObj} {b : Nat} {x : AObj} (h : H.get b = some x) : (H.push o).get b = some x := by
 rw [Heap.get_push_ne _ _ (by have := Heap.lt_of_get h; omega)]; exact h
theorem Heap.get_push_cases {H : Heap} {o x : AObj} {b : Nat} (h : (H.push o).get b = some x) : (b = H.next ∧ x = o) ∨ (b ≠ H.next ∧ H.get b = some x) := by
 by_cases hb : b = H.next
 ·subst hb; simp at h; exact .inl ⟨rfl,h.symm⟩
 ·rw [Heap.get_push_ne _ _ hb] at h; exact .inr ⟨hb,h⟩
theorem Heap.get_set_ne (H : Heap) (o : Option AObj) {b b' : Nat} (h : b ≠ b') : (H.set b o).get b' = H.get b' := by
 unfold Heap.set
 split
 ·rename_i hb
  unfold Heap.get
  simp only
  split
  ·rename_i hb'
   rw [List.getElem?_set_ne (by omega)]
  ·rfl
 ·rfl
theorem Heap.get_set_same (H : Heap) (o : Option AObj) {b : Nat} {x : AObj} (h : H.get b = some x) : (H.set b o).get b = o := by
 have hb := Heap.lt_of_get h
 unfold Heap.get at h
 rw [if_pos hb] at h
 unfold Heap.set Heap.get
 rw [if_pos hb]
 simp only [hb,if_true]
 have hlt : H.next - 1 - b < H.rev.length := by
  rcases Nat.lt_or_ge (H.next - 1 - b) H.rev.length with hl | hl
  ·exact hl
  ·rw [List.getElem?_eq_none hl] at h; cases h
 rw [List.getElem?_set_self hlt]
 rfl
theorem Heap.get_set_cases {H : Heap} {o : Option AObj} {b b' : Nat} {y x : AObj} (hy : H.get b = some y) (h : (H.set b o).get b' = some x) :
  (b' = b ∧ o = some x) ∨ (b' ≠ b ∧ H.get b' = some x) := by
 by_cases e : b' = b
 ·subst e; rw [Heap.get_set_same _ _ hy] at h; exact .inl ⟨rfl,h⟩
 ·rw [Heap.get_set_ne _ _ (Ne.symm e)] at h; exact .inr ⟨e,h⟩
theorem Heap.get_set_none (H : Heap) (o : Option AObj) {b : Nat} (hw : H.rev.length = H.next) (hb : b < H.next) : (H.set b o).get b = o := by
 unfold Heap.set Heap.get
 rw [if_pos hb]
 simp only [hb,if_true]
 rw [List.getElem?_set_self (by omega)]
 rfl
theorem Heap.wf_set {H : Heap} (b : Nat) (o : Option AObj) (hw : H.rev.length = H.next) : (H.set b o).rev.length = (H.set b o).next := by
 unfold Heap.set; split <;> simpa using hw
theorem Heap.wf_push {H : Heap} (o : AObj) (hw : H.rev.length = H.next) : (H.push o).rev.length = (H.push o).next := by simp [Heap.push,hw]
structure Adds (H : Heap) (N : Nat) (o : AObj) (H' : Heap) : Prop where
 same : H'.get N = some o
 other : ∀ b,b ≠ N → H'.get b = H.get b
 next : H.next ≤ H'.next
 absent : H.get N = none
 wf : H'.rev.length = H'.next
 lt : ∀ b,H'.next ≤ b → H.next ≤ b ∧ b ≠ N
theorem Adds.push {H : Heap} (o : AObj) (hw : H.rev.length = H.next) : Adds H H.next o (H.push o) :=
 ⟨Heap.get_push_same H o,fun _ h => Heap.get_push_ne H o h,by simp,Heap.get_ge (Nat.le_refl _),Heap.wf_push o hw,fun b hb => by simp at hb; omega⟩
theorem Adds.set {H : Heap} {N : Nat} (o : AObj) (hw : H.rev.length = H.next) (hN : N < H.next) (h : H.get N = none) : Adds H N o (H.set N (some o)) :=
 ⟨Heap.get_set_none H _ hw hN,fun _ h => Heap.get_set_ne H _ (Ne.symm h),by simp,h,Heap.wf_set _ _ hw,fun b hb => by simp at hb; omega⟩
def Heap.reserve (H : Heap) (n : Nat) : Heap := { next := H.next + n,rev := List.replicate n none ++ H.rev }
def ev (E : List Value) : Operand → Value
 | .tmp t => E.getD t undef
 | .const v => v
 | .global g => .pointer (some ⟨g,0,none⟩)
 | .func f => .func (.func f) #[] #[]
def put (E : List Value) : Option Tmp → Value → List Value
 | some d,v => E.set d v
 | none,_ => E
def okOpd (G0 : Nat) : Operand → Bool
 | .const v => flat v
 | .global g => decide (g < G0)
 | _ => true
def splice (cs : List Value) (off : Nat) (vs : List Value) : List Value := cs.take off ++ vs ++ cs.drop (off + vs.length)
def storable (v : Value) : Bool := match v with
 | .tuple _ => false
 | _ => true
def fillL : List Value → List (Nat × Nat × Value) → Option (List Value)
 | cs,[] => some cs
 | cs,(off,size,v) :: rest =>
  if storable v = true ∧ v.cells.toList.length = size ∧ off + size ≤ cs.length then fillL (splice cs off v.cells.toList) rest else none
def cellsAt (H : Heap) (b off n : Nat) : Option (List Value) :=
 match H.get b with
 | some (.row cs _ _) => if off + n ≤ cs.length then some ((cs.drop off).take n) else none
 | some (.ro cs) => if off + n ≤ cs.length then some ((cs.drop off).take n) else none
 | _ => none
def ptrTo (b o : Nat) : Value := .pointer (some ⟨b,o,none⟩)
def sliceOf (b o sz n cap : Nat) : Value := .slice (some ⟨b,o,some sz⟩) n cap
def abin (op : BinOp) (x y : Value) : Option Value :=
 match op,x,y with
 | .shl,.int k a,.int _ b => if b < 0 then none else some (.int k (k.wrap (a * 2 ^ (min b.toNat k.bits))))
 | .shr,.int k a,.int _ b => if b < 0 then none else some (.int k (a.fdiv (2 ^ (min b.toNat k.bits))))
 | .add,.int k a,.int k' b => if k = k' then some (.int k (k.wrap (a + b))) else none
 | .sub,.int k a,.int k' b => if k = k' then some (.int k (k.wrap (a - b))) else none
 | .mul,.int k a,.int k' b => if k = k' then some (.int k (k.wrap (a * b))) else none
 | .quo,.int k a,.int k' b => if k = k' ∧ b ≠ 0 then some (.int k (k.wrap (a.tdiv b))) else none
 | .rem,.int k a,.int k' b => if k = k' ∧ b ≠ 0 then some (.int k (a.tmod b)) else none
 | .and,.int k a,.int k' b => if k = k' then some (.int k (k.wrap (BitVec.ofInt k.bits a &&& BitVec.ofInt k.bits b).toNat)) else none
 | .or,.int k a,.int k' b => if k = k' then some (.int k (k.wrap (BitVec.ofInt k.bits a ||| BitVec.ofInt k.bits b).toNat)) else none
 | .xor,.int k a,.int k' b => if k = k' then some (.int k (k.wrap (BitVec.ofInt k.bits a ^^^ BitVec.ofInt k.bits b).toNat)) else none
 | .andNot,.int k a,.int k' b => if k = k' then some (.int k (k.wrap (BitVec.ofInt k.bits a &&& ~~~ BitVec.ofInt k.bits b).toNat)) else none
 | .lss,.int k a,.int k' b => if k = k' then some (.bool (decide (a < b))) else none
 | .leq,.int k a,.int k' b => if k = k' then some (.bool (decide (a ≤ b))) else none
 | .gtr,.int k a,.int k' b => if k = k' then some (.bool (decide (a > b))) else none
 | .geq,.int k a,.int k' b => if k = k' then some (.bool (decide (a ≥ b))) else none
 | .lss,.string a,.string b => some (.bool (Op.bytesLess a.data.toList b.data.toList))
 | .leq,.string a,.string b => some (.bool (Op.bytesLess a.data.toList b.data.toList || a.data.toList == b.data.toList))
 | .gtr,.string a,.string b => some (.bool !(Op.bytesLess a.data.toList b.data.toList || a.data.toList == b.data.toList))
 | .geq,.string a,.string b => some (.bool !(Op.bytesLess a.data.toList b.data.toList))
 | .add,.string a,.string b => if ((a.size + b.size : Nat) : Int) ≤ 9223372036854775807 then some (.string (a ++ b)) else none
 | _,_,_ => none
def sameCell : SK → Value → Value → Option Bool
 | .int,.int k a,.int k' b => if k = k' then some (a == b) else none
 | .str,.string a,.string b => some (a.data.toList == b.data.toList)
 | .bool,.bool a,.bool b => some (a == b)
 | _,_,_ => none
def aeqv (H : Heap) (k : EqK) (x y : Value) : Option Bool :=
 match k with
 | .scalar s => sameCell s x y
 | .ptr => match x,y with
  | .pointer none,.pointer b => some b.isNone
  | .pointer (some _),.pointer none => some false
  | .pointer (some a),.pointer (some b) => if a = b ∧ (H.get a.block).isSome = true then some true else none
  | _,_ => none
 | .slice => match x,y with
  | .slice none _ _,.slice b _ _ => some b.isNone
  | .slice (some _) _ _,.slice none _ _ => some false
  | _,_ => none
 | .map => match x,y with
  | .map none,.map b => some b.isNone
  | .map (some _),.map none => some false
  | _,_ => none
 | .func => match x,y with
  | .nilFunc,.nilFunc => some true
  | .nilFunc,.func _ _ _ => some false
  | .func _ _ _,.nilFunc => some false
  | _,_ => none
def aun (op : UnOp) (x : Value) : Option Value :=
 match op,x with
 | .neg,.int k n => some (.int k (k.wrap (0 - n)))
 | .not,.bool b => some (.bool !b)
 | .xor,.int k n => some (.int k (k.wrap (BitVec.ofInt k.bits (if k.signed then -1 else k.max) ^^^ BitVec.ofInt k.bits n).toNat))
 | _,_ => none
def partL (cs : List Value) (off : Nat) : Option Nat → Option Value
 | some n => some (.agg ((cs.drop off).take n).toArray)
 | none => cs[off]?
def bytesOf? : List Value → Option (List UInt8)
 | [] => some []
 | .int .u8 n :: r => (bytesOf? r).map (UInt8.ofNat n.toNat :: ·)
 | _ => none
def bound (E : List Value) (x : Option Operand) (dflt top : Nat) : Option Nat :=
 match x with
 | none => some dflt
 | some o => match ev E o with
  | .int _ i => if 0 ≤ i ∧ i ≤ top then some i.toNat else none
  | _ => none
def findKeyA (s : SK) (k : Value) : List (Value × Value) → Nat → Option (Option Nat)
 | [],_ => some none
 |(k',_) :: r,i => match sameCell s k k' with
  | some true => some (some i)
  | some false => findKeyA s k r (i + 1)
  | none => none
def maxRow : Nat := 9223372036854775807
def appMax : Nat := 1073741824
def ov (n : Nat) (H : Heap) : Option Value → Out (Value × Heap)
 | some a => .ok (a,H)
 | none => .bad n
def appendA (e : TypeId) (H : Heap) (base : Option Addr) (n : Nat) (sz : Nat) (xs : List Value) (m : Nat) : Out (Value × Heap) :=
 match base with
 | none => if n = 0 then (if appMax < n + m then .bad 34 else .ok (sliceOf H.next 0 sz m m,H.push (.row xs 0 (some e)))) else .bad 31
 | some a => match H.get a.block with
  | some (.row cs fz ty) => if a.off + n * sz ≤ cs.length ∧ a.spot = some sz ∧ fz ≤ a.off + n * sz ∧ (fz = 0 ∨ n + m ≤ 1073741824) then
    (if appMax < n + m then .bad 34 else
    .ok (sliceOf H.next 0 sz (n + m) (n + m),(H.set a.block none).push (.row ((cs.drop a.off).take (n * sz) ++ xs) (fz - a.off) (if ty = some e ∧ a.off = 0 then ty else none)))) else .bad 32
  | _ => .bad 33
def allocA (op : AOp) (E : List Value) : Option (AObj × (Nat → Value)) :=
 match op with
 | .new cs e => some (.row cs 0 (some e),fun b => ptrTo b 0)
 | .box x e => if storable (ev E x) then some (.row (ev E x).cells.toList 0 (some e),fun b => ptrTo b 0) else none
 | .mkslice len sz zero parts => match fillL zero (parts.map fun p => (p.1,p.2.1,ev E p.2.2)) with
  | some cs => some (.row cs 0 none,fun b => sliceOf b 0 sz len len)
  | none => none
 | .mkmap => some (.map [],fun b => .map (some b))
 | .mkrow l c sz zero => (match ev E l,ev E c with
  | .int .i64 n,.int .i64 m => if 0 ≤ n ∧ n ≤ m ∧ m * 4096 ≤ 1099511627776 then
    some (.row ((List.range (m.toNat * sz)).map fun i => zero.getD (i % sz) undef) 0 none,fun b => sliceOf b 0 sz n.toNat m.toNat) else none
  | _,_ => none)
 | _ => none
def isAlloc : AOp → Bool
 | .new _ _ => true
 | .box _ _ => true
 | .mkslice _ _ _ _ => true
 | .mkmap => true
 | .mkrow _ _ _ _ => true
 | _ => false
def allocOut (H : Heap) (n : Nat) : Option (AObj × (Nat → Value)) → Out (Value × Heap)
 | some (o,f) => .ok (f H.next,H.push o)
 | none => .bad n
def aop (op : AOp) (E : List Value) (H : Heap) : Out (Value × Heap) :=
 match op with
 | .mv x => .ok (ev E x,H)
 | .pick c a b => match ev E c with
  | .bool t => .ok (if t then ev E a else ev E b,H)
  | _ => .bad 1
 | .new cs e => allocOut H 1 (allocA (.new cs e) E)
 | .box x e => allocOut H 2 (allocA (.box x e) E)
 | .build zero parts => match fillL zero (parts.map fun p => (p.1,p.2.1,ev E p.2.2)) with
  | some cs => .ok (.agg cs.toArray,H)
  | none => .bad 3
 | .mkslice len sz zero parts => allocOut H 4 (allocA (.mkslice len sz zero parts) E)
 | .load a sz => match ev E a with
  | .pointer (some p) => (match sz with
   | some n => match cellsAt H p.block p.off n with
    | some cs => .ok (.agg cs.toArray,H)
    | none => .bad 5
   | none => match cellsAt H p.block p.off 1 with
    | some (c :: _) => .ok (c,H)
    | _ => .bad 6)
  | _ => .bad 7
 | .store a x sz => match ev E a with
  | .pointer (some p) => match H.get p.block with
   | some (.row cs fz ty) =>
    if storable (ev E x) ∧ (ev E x).cells.toList.length = sz ∧ p.off + sz ≤ cs.length ∧ fz ≤ p.off then
     .ok (undef,H.set p.block (some (.row (splice cs p.off (ev E x).cells.toList) fz ty))) else .bad 8
   | _ => .bad 9
  | _ => .bad 10
 | .nilck x => match ev E x with
  | .pointer (some p) => .ok (.pointer (some p),H)
  | .func f a b => .ok (.func f a b,H)
  | _ => .bad 11
 | .bin op x y => ov 12 H (abin op (ev E x) (ev E y))
 | .eqv neg k x y => match aeqv H k (ev E x) (ev E y) with
  | some b => .ok (.bool (if neg then !b else b),H)
  | none => .bad 13
 | .un op x => ov 14 H (aun op (ev E x))
 | .conv k x => match ev E x with
  | .int _ n => .ok (.int k (k.wrap n),H)
  | _ => .bad 15
 | .toStr x => match ev E x with
  | .slice none _ _ => .ok (.string .empty,H)
  | .slice (some a) n _ => if n = 0 then .ok (.string .empty,H) else match (cellsAt H a.block a.off n).bind bytesOf? with
   | some l => .ok (.string ⟨l.toArray⟩,H)
   | none => .bad 16
  | _ => .bad 17
 | .faddr x off => match ev E x with
  | .pointer (some p) => .ok (ptrTo p.block (p.off + off),H)
  | _ => .bad 18
 | .fld x off sz => match ev E x with
  | .agg cs => ov 19 H (partL cs.toList off sz)
  | _ => .bad 20
 | .idx x i sz => match ev E x,ev E i with
  | .slice (some a) n _,.int _ j => if 0 ≤ j ∧ j < n ∧ a.spot = some sz then .ok (ptrTo a.block (a.off + j.toNat * sz),H) else .bad 21
  | _,_ => .bad 22
 | .idxA x i len sz => match ev E x,ev E i with
  | .pointer (some a),.int _ j => if 0 ≤ j ∧ j < len then .ok (ptrTo a.block (a.off + j.toNat * sz),H) else .bad 23
  | _,_ => .bad 24
 | .strAt x i => match ev E x,ev E i with
  | .string s,.int _ j => if 0 ≤ j then (match s.data.toList[j.toNat]? with
   | some b => .ok (.int .u8 b.toNat,H)
   | none => .bad 25) else .bad 25
  | _,_ => .bad 26
 | .aggAt x i len sz one => match ev E x,ev E i with
  | .agg cs,.int _ j => if 0 ≤ j ∧ j < len then ov 27 H (partL cs.toList (j.toNat * sz) (if one then none else some sz)) else .bad 27
  | _,_ => .bad 28
 | .sl x lo hi sz => match ev E x with
  | .slice a n cap => (match bound E hi n cap with
   | some h => match bound E lo 0 h with
    | some l => (match a with
     | none => .ok (.slice none (h - l) (cap - l),H)
     | some a => if a.spot = some sz then .ok (sliceOf a.block (a.off + l * sz) sz (h - l) (cap - l),H) else .bad 29)
    | none => .bad 29
   | none => .bad 29)
  | _ => .bad 30
 | .slStr x lo hi => match ev E x with
  | .string s => (match bound E hi s.size s.size with
   | some h => match bound E lo 0 h with
    | some l => .ok (.string (s.extract l h),H)
    | none => .bad 34
   | none => .bad 34)
  | _ => .bad 35
 | .ext x i => match ev E x with
  | .tuple vs => ov 36 H (vs.toList[i]?)
  | _ => .bad 37
 | .lenS x => match ev E x with
  | .string s => .ok (.int .i64 s.size,H)
  | _ => .bad 38
 | .lenL x => match ev E x with
  | .slice _ n _ => .ok (.int .i64 n,H)
  | _ => .bad 39
 | .lenM x => match ev E x with
  | .map none => .ok (.int .i64 0,H)
  | .map (some b) => match H.get b with
   | some (.map es) => .ok (.int .i64 es.length,H)
   | _ => .bad 40
  | _ => .bad 41
 | .app s x sz e => match ev E s,ev E x with
  | .slice base n cap,.slice xb m _ =>
   if m = 0 then .ok (.slice base n cap,H) else
   (match xb with
   | none => .bad 42
   | some xa => match cellsAt H xa.block xa.off (m * sz) with
    | some xs => if base.map (·.block) = some xa.block ∨ xa.spot ≠ some sz then .bad 43 else appendA e H base n sz xs m
    | none => .bad 44)
  | _,_ => .bad 45
 | .appStr s x e => match ev E s,ev E x with
  | .slice base n cap,.string t =>
   if t.size = 0 then .ok (.slice base n cap,H) else
   appendA e H base n 1 (t.data.toList.map fun b => .int .u8 b.toNat) t.size
  | _,_ => .bad 46
 | .mx x y => match ev E x,ev E y with
  | .int k a,.int _ b => .ok (.int k (if b > a then b else a),H)
  | _,_ => .bad 47
 | .mn x y => match ev E x,ev E y with
  | .int k a,.int _ b => .ok (.int k (if b < a then b else a),H)
  | _,_ => .bad 48
 | .mkfn f caps => .ok (.func (.func f) #[] (caps.map (ev E)).toArray,H)
 | .mkmap => allocOut H 58 (allocA .mkmap E)
 | .look s m k zero ok =>
  (match (match ev E m with
   | .map none => some []
   | .map (some b) => (match H.get b with
    | some (.map es) => some es
    | _ => none)
   | _ => none) with
  | some es => (match findKeyA s (ev E k) es 0 with
   | some (some i) => (match es[i]? with
    | some kv => .ok (if ok then .tuple #[kv.2,.bool true] else kv.2,H)
    | none => .bad 49)
   | some none => .ok (if ok then .tuple #[zero,.bool false] else zero,H)
   | none => .bad 50)
  | none => .bad 51)
 | .mset s m k v => (match ev E m with
  | .map (some b) => (match H.get b with
   | some (.map es) => (match findKeyA s (ev E k) es 0 with
    | some (some i) => .ok (undef,H.set b (some (.map (es.set i (ev E k,ev E v)))))
    | some none => .ok (undef,H.set b (some (.map (es ++ [(ev E k,ev E v)]))))
    | none => .bad 52)
   | _ => .bad 53)
  | _ => .bad 54)
 | .mdel s m k => (match ev E m with
  | .map (some b) => (match H.get b with
   | some (.map es) => (match findKeyA s (ev E k) es 0 with
    | some (some i) => .ok (.tuple #[],H.set b (some (.map (es.eraseIdx i))))
    | some none => .ok (.tuple #[],H.set b (some (.map es)))
    | none => .bad 55)
   | _ => .bad 56)
  | _ => .bad 57)
 | .mkrow l c sz zero => allocOut H 59 (allocA (.mkrow l c sz zero) E)
 | .call _ _ => .bad 60
 | .toU x => match ev E x with
  | .pointer none => .ok (.pointer none,H)
  | .pointer (some p) => (match H.get p.block with
   | some (.row cs _ _) => if p.off < cs.length then .ok (.pointer (some p),H) else .bad 62
   | _ => .bad 62)
  | _ => .bad 62
 | .ofU x u s => match ev E x with
  | .pointer none => .ok (.pointer none,H)
  | .pointer (some p) => (match H.get p.block with
   | some (.row cs _ (some e)) => if e = u ∧ p.off % s = 0 ∧ p.off / s + 1 ≤ cs.length / s then .ok (.pointer (some p),H) else .bad 63
   | _ => .bad 63)
  | _ => .bad 63
 | .sdata x => match ev E x with
  | .slice none _ _ => .ok (.pointer none,H)
  | .slice (some a) _ cap => if cap = 0 then .bad 64 else .ok (ptrTo a.block a.off,H)
  | _ => .bad 64
 | .ustr x n u => match ev E x,ev E n with
  | .pointer none,.int .i64 k => if k = 0 then .ok (.string .empty,H) else .bad 65
  | .pointer (some p),.int .i64 k => if k = 0 then .ok (.string .empty,H) else if 0 < k then (match H.get p.block with
   | some (.row cs fz (some e)) => if e = u ∧ p.off + k.toNat ≤ cs.length ∧ k ≤ 9223372036854775807 then (match bytesOf? ((cs.drop p.off).take k.toNat) with
    | some l => .ok (.string ⟨l.toArray⟩,H.set p.block (some (.row cs (max fz (p.off + k.toNat)) (some e))))
    | none => .bad 65) else .bad 65
   | _ => .bad 65) else .bad 65
  | _,_ => .bad 65
 | .capq _ => .bad 66
 | .appz _ _ _ _ => .bad 68
 | .copyS x y sz => match ev E x,ev E y with
  | .slice da n _,.slice sb m _ =>
   if min m n = 0 then .ok (.int .i64 0,H) else
   (match da,sb with
   | some a,some b => (match cellsAt H b.block b.off (min m n * sz),H.get a.block with
    | some xs,some (.row cs fz ty) => if a.off ≤ cs.length ∧ fz ≤ a.off ∧ a.spot = some sz then
      .ok (.int .i64 (min m n : Nat),H.set a.block (some (.row (splice cs a.off xs) fz ty))) else .bad 67
    | _,_ => .bad 67)
   | _,_ => .bad 67)
  | _,_ => .bad 67
 | .stop => .bad 61
end Go.Ae
namespace Go.Ae
open Go
def guardTmp (ops : Array Oper) (o : Oper) : Option (Option (Tmp × Bool)) :=
 match o.guard with
 | none => some none
 | some (j,want) => match (ops[j]?).bind (·.dst) with
  | some t => some (some (t,want))
  | none => none
def aggSz (P : Program) (t : TypeId) : Option (Option Nat) :=
 match P.underlying t with
 | some (.struct _) => (P.info? t).map fun i => some i.size
 | some (.array _ _) => (P.info? t).map fun i => some i.size
 | some _ => some none
 | none => none
def szOf (P : Program) (t : TypeId) : Option Nat := (P.info? t).map (·.size)
def zeroOf (P : Program) (t : TypeId) : Option Value :=
 match (P.info? t).bind (·.zero) with
 | some z => if flat z && storable z then some z else none
 | none => none
def placeOf (P : Program) (t : TypeId) (i : Nat) : Option (Nat × Nat) :=
 match P.underlying t with
 | some (.struct fields) => match fields[i]? with
  | some f => match szOf P f.type with
   | some s => some (f.offset,s)
   | none => none
  | none => none
 | some (.array _ elem) => match szOf P elem with
  | some s => some (i * s,s)
  | none => none
 | _ => none
def sized (P : Program) (t : TypeId) : Bool :=
 match P.underlying t with
 | some (.struct fields) => fields.toList.all fun f => (szOf P f.type).isSome
 | some (.array _ elem) => (szOf P elem).isSome
 | _ => false
def partsOf (place : Nat → Option (Nat × Nat)) : List (Nat × Operand) → Option (List (Nat × Nat × Operand))
 | [] => some []
 |(i,x) :: r => match place i,partsOf place r with
  | some (o,s),some l => some ((o,s,x) :: l)
  | _,_ => none
def scalarK (P : Program) (t : TypeId) : Option SK :=
 match P.underlying t with
 | some (.int _) => some .int
 | some .string => some .str
 | some .bool => some .bool
 | _ => none
def eqKind (P : Program) (t : TypeId) : Option EqK :=
 match P.underlying t with
 | some (.int _) => some (.scalar .int)
 | some .string => some (.scalar .str)
 | some .bool => some (.scalar .bool)
 | some (.pointer e) => match P.info? e with
  | some i => if i.size = 0 then none else some .ptr
  | none => none
 | some (.slice _) => some .slice
 | some (.map _ _) => some .map
 | some (.func _ _ _) => some .func
 | _ => none
def okAll (G0 : Nat) (op : Op) : Bool := op.operands.toList.all (okOpd G0)
def compBuiltin (P : Program) (b : Builtin) (args : List Operand) (ts : List TypeId) : Option AOp :=
 match b,args,ts with
 | .len,[x],[t] => match P.underlying t with
  | some .string => some (.lenS x)
  | some (.slice _) => some (.lenL x)
  | some (.map _ _) => some (.lenM x)
  | _ => none
 | .append,[s,x],[ts,tx] => match P.underlying ts,P.underlying tx with
  | some (.slice e),some (.slice _) => match P.info? e,zeroOf P e with
   | some i,some z => if 1 ≤ i.bytes ∧ i.bytes ≤ 4096 ∧ 1 ≤ i.size ∧ z.cells.toList.length = i.size then some (.app s x i.size e) else none
   | _,_ => none
  | some (.slice e),some .string => match P.info? e,zeroOf P e with
   | some i,some z => if 1 ≤ i.bytes ∧ i.bytes ≤ 4096 ∧ i.size = 1 ∧ z.cells.toList.length = i.size then some (.appStr s x e) else none
   | _,_ => none
  | some (.slice e),some (.int _) => match P.info? e,zeroOf P e with
   | some i,some z => if 1 ≤ i.bytes ∧ i.bytes ≤ 4096 ∧ 1 ≤ i.size ∧ z.cells.toList.length = i.size then some (.appz s x i.size z.cells.toList) else none
   | _,_ => none
  | _,_ => none
 | .max,[x,y],_ => some (.mx x y)
 | .min,[x,y],_ => some (.mn x y)
 | .delete,[m,k],t :: _ => match P.underlying t with
  | some (.map kt _) => match scalarK P kt with
   | some s => some (.mdel s m k)
   | none => none
  | _ => none
 | .unsafeSliceData,[x],_ => some (.sdata x)
 | .copy,[x,y],t :: _ => match P.underlying t with
  | some (.slice e) => match szOf P e with
   | some s => some (.copyS x y s)
   | none => none
  | _ => none
 | .cap,[x],[t] => match P.underlying t with
  | some (.slice _) => some (.capq x)
  | _ => none
 | .unsafeString,[x,n],t :: _ => match P.underlying t with
  | some (.pointer u) => match szOf P u with
   | some s => if s = 1 then some (.ustr x n u) else none
   | none => none
  | _ => none
 | _,_,_ => none
def compOp (P : Program) (G0 : Nat) (op : Op) : Option AOp :=
 if !okAll G0 op then none else
 match op with
 | .move x => some (.mv x)
 | .assign x => some (.mv x)
 | .pick c a b => some (.pick c a b)
 | .alloc e => match zeroOf P e with
  | some z => some (.new z.cells.toList e)
  | none => none
 | .box e x => some (.box x e)
 | .build t parts => match zeroOf P t,partsOf (placeOf P t) parts.toList with
  | some z,some l => if sized P t then some (.build z.cells.toList l) else none
  | _,_ => none
 | .buildSlice t len parts => match P.underlying t with
  | some (.slice e) => match szOf P e,zeroOf P e with
   | some s,some z => match partsOf (fun i => some (i * s,s)) parts.toList with
    | some l => if len * s ≤ 65536 ∧ z.cells.toList.length = s ∧ 1 ≤ s then
      some (.mkslice len s ((List.range (len * s)).map fun i => z.cells.toList.getD (i % s) undef) l) else none
    | none => none
   | _,_ => none
  | _ => none
 | .load t a => match aggSz P t with
  | some s => some (.load a s)
  | none => none
 | .store t a x => match szOf P t with
  | some s => some (.store a x s)
  | none => none
 | .nilCheck x => some (.nilck x)
 | .binOp op t x y _ => match op with
  | .eql => match eqKind P t with
   | some k => some (.eqv false k x y)
   | none => none
  | .neq => match eqKind P t with
   | some k => some (.eqv true k x y)
   | none => none
  | op => some (.bin op x y)
 | .unOp op _ x => some (.un op x)
 | .convert src dst x => match P.underlying src,P.underlying dst with
  | some (.int _),some (.int k) => some (.conv k x)
  | some (.slice e),some .string => match P.underlying e with
   | some (.int .u8) => some (.toStr x)
   | _ => none
  | some (.pointer t),some .unsafePointer => match szOf P t with
   | some s => if s = 0 then none else some (.toU x)
   | none => none
  | some .unsafePointer,some (.pointer u) => match szOf P u with
   | some s => if s = 0 then none else some (.ofU x u s)
   | none => none
  | _,_ => none
 | .makeFunc fn first caps => match fn,first.toList with
  | .func f,[] => some (.mkfn f caps.toList)
  | _,_ => none
 | .makeMap _ r => match r with
  | none => some .mkmap
  | some _ => none
 | .makeSlice t l c => match P.underlying t with
  | some (.slice e) => match P.info? e,zeroOf P e with
   | some i,some z => if i.bytes ≤ 4096 ∧ z.cells.toList.length = i.size ∧ 1 ≤ i.size then some (.mkrow l c i.size z.cells.toList) else none
   | _,_ => none
  | _ => none
 | .slice t x lo hi mx => match mx,P.underlying t with
  | none,some .string => some (.slStr x lo hi)
  | none,some (.slice e) => match szOf P e with
   | some s => some (.sl x lo hi s)
   | none => none
  | _,_ => none
 | .fieldAddr s x f => match P.underlying s with
  | some (.struct fields) => match fields[f]? with
   | some fd => match szOf P fd.type with
    | some n => if n = 0 then none else some (.faddr x fd.offset)
    | none => none
   | none => none
  | _ => none
 | .field t x f => match P.underlying t with
  | some (.struct fields) => match fields[f]? with
   | some fd => match aggSz P fd.type with
    | some s => some (.fld x fd.offset s)
    | none => none
   | none => none
  | _ => none
 | .indexAddr t x i => match P.underlying t with
  | some (.slice e) => match szOf P e with
   | some s => some (.idx x i s)
   | none => none
  | some (.array len e) => match szOf P e with
   | some s => some (.idxA x i len s)
   | none => none
  | _ => none
 | .index t x i => match P.underlying t with
  | some .string => some (.strAt x i)
  | some (.array len e) => match szOf P e,aggSz P e with
   | some s,some a => some (.aggAt x i len s a.isNone)
   | _,_ => none
  | _ => none
 | .lookup t m k ok => match P.underlying t with
  | some (.map kt e) => match zeroOf P e,scalarK P kt with
   | some z,some s => some (.look s m k z ok)
   | _,_ => none
  | _ => none
 | .mapUpdate t m k v => match P.underlying t with
  | some (.map kt _) => match scalarK P kt with
   | some s => some (.mset s m k v)
   | none => none
  | _ => none
 | .insert t m k v => match P.underlying t with
  | some (.map kt _) => match scalarK P kt with
   | some s => some (.mset s m k v)
   | none => none
  | _ => none
 | .extract t i => some (.ext t i)
 | .call c => match c.callee with
  | .value f => some (.call f c.args.toList)
  | .builtin b => compBuiltin P b c.args.toList c.argTypes.toList
  | .invoke _ _ => none
 | _ => none
def compItem (P : Program) (G0 : Nat) (ops : Array Oper) (o : Oper) : Option AItem :=
 match guardTmp ops o with
 | some g => some { dst := o.dst,op := (compOp P G0 o.op).getD .stop,guard := g }
 | _ => none
def compItems (P : Program) (G0 : Nat) (ops : Array Oper) : List Oper → Option (List AItem)
 | [] => some []
 | o :: r => match compItem P G0 ops o,compItems P G0 ops r with
  | some i,some l => some (i :: l)
  | _,_ => none
def pairAt (it : AItem) (r : List AItem) : Option (Tmp × Tmp × Option Tmp × List AItem) :=
 match it,r with
 | ⟨some x,.mv (.tmp t),none⟩,⟨d,.capq (.tmp y),none⟩ :: r' => if x = y ∧ t ≠ x then some (t,x,d,r') else none
 | _,_ => none
def findPair : List AItem → Option (List AItem × Tmp × Tmp × Option Tmp × List AItem)
 | [] => none
 | it :: r => match pairAt it r with
  | some (t,x,d,r') => some ([it],t,x,d,r')
  | none => match findPair r with
   | some (l0,p) => some (it :: l0,p)
   | none => none
def splitCap (l : List AItem) : ACode := match findPair l with
 | some (l0,t,x,d,l2) => .opsC l0 t x d l2
 | none => .ops l
theorem pairAt_some {it : AItem} {r r' : List AItem} {t x : Tmp} {d : Option Tmp} (h : pairAt it r = some (t,x,d,r')) : it = ⟨some x,.mv (.tmp t),none⟩ ∧ r = ⟨d,.capq (.tmp x),none⟩ :: r' ∧ t ≠ x := by
 unfold pairAt at h
 split at h
 ·split at h
  ·rename_i hxy
   cases h
   obtain ⟨rfl,hne⟩ := hxy
   exact ⟨rfl,rfl,hne⟩
  ·cases h
 ·cases h
theorem findPair_some : ∀ {l l0 l2 : List AItem} {t x : Tmp} {d : Option Tmp},findPair l = some (l0,t,x,d,l2) → ∃ l1,l0 = l1 ++ [⟨some x,.mv (.tmp t),none⟩] ∧ l = l0 ++ ⟨d,.capq (.tmp x),none⟩ :: l2 ∧ t ≠ x
 | [],_,_,_,_,_,h => by simp [findPair] at h
 | it :: r,l0,l2,t,x,d,h => by
  unfold findPair at h
  cases hp : pairAt it r with
  | some p =>
   obtain ⟨t',x',d',r'⟩ := p
   rw [hp] at h
   simp only [Option.some.injEq,Prod.mk.injEq] at h
   obtain ⟨rfl,rfl,rfl,rfl,rfl⟩ := h
   obtain ⟨rfl,rfl,hne⟩ := pairAt_some hp
   exact ⟨[],rfl,rfl,hne⟩
  | none =>
   rw [hp] at h
   simp only at h
   cases hf : findPair r with
   | none => rw [hf] at h; cases h
   | some p =>
    obtain ⟨l0',p⟩ := p
    rw [hf] at h
    simp only [Option.some.injEq,Prod.mk.injEq] at h
    obtain ⟨rfl,rfl⟩ := h
    obtain ⟨l1,rfl,h2,hne⟩ := findPair_some hf
    exact ⟨it :: l1,rfl,by rw [h2]; rfl,hne⟩
def comp (P : Program) (G0 : Nat) (draw : Nat → Array Oper → Option (Nat × List DItem)) : Code → Option ACode
 | .skip => some .skip
 | .label _ => some .skip
 | .region _ ops false => (compItems P G0 ops ops.toList).map splitCap
 | .region id ops true => (draw id ops).map fun p => .draw p.1 p.2
 | .seq a b => match comp P G0 draw a,comp P G0 draw b with
  | some x,some y => some (.seq x y)
  | _,_ => none
 | .cond c a b => if okOpd G0 c then match comp P G0 draw a,comp P G0 draw b with
  | some x,some y => some (.cond c x y)
  | _,_ => none
  else none
 | .block id b => (comp P G0 draw b).map (.block id)
 | .loop b => (comp P G0 draw b).map .loop
 | .exit id => some (.exit id)
 | .ret => some .ret
 | .rangeFunc f ps a b => if okOpd G0 f then match comp P G0 draw a,comp P G0 draw b with
  | some x,some y => some (.rfunc f ps.toList x y)
  | _,_ => none
  else none
 | .goto _ => some .bad
 | .scope b => comp P G0 draw b
 | .refuse _ => some .bad
end Go.Ae
