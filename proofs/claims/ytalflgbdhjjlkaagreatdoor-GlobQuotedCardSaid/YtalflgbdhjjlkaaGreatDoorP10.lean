/- Part 10 of the proof of the law: Ae22, Ae23, Ix, Ae24, Ae25. No condition. -/
import Derived.Test.YtalflgbdhjjlkaaGreatDoorP09
import Derived.Laws.StandIn
set_option linter.all false
namespace Go.Ae
open Go
def mk (n : Nat) (f : Nat → Value) : List Value := (List.range n).map f
def upv (f : Nat → Value) (d : Nat) (v : Value) : Nat → Value := fun t => if t = d then v else f t
theorem put_mk (n : Nat) (f : Nat → Value) (d : Nat) (v : Value) : put (mk n f) (some d) v = mk n (upv f d v) := by
 unfold put mk
 refine List.ext_getElem? fun i => ?_
 rw [List.getElem?_set]
 simp only [List.length_map,List.length_range,List.getElem?_map]
 by_cases h : d = i
 ·subst h
  by_cases hi : d < n
  ·simp [hi,upv]
  ·simp [hi]
 ·rw [if_neg h]
  rcases Nat.lt_or_ge i n with hi | hi
  ·simp [hi,upv,Ne.symm h]
  ·simp [hi]
theorem put_mk_none (n : Nat) (f : Nat → Value) (v : Value) : put (mk n f) none v = mk n f := _root_.id rfl
theorem ev_mk {n : Nat} {f : Nat → Value} {t : Nat} : ev (mk n f) (.tmp t) = if t < n then f t else undef := by
 show (mk n f).getD t undef = _
 unfold mk
 rw [List.getD_eq_getElem?_getD,List.getElem?_map]
 split
 ·rename_i h; simp [h]
 ·rename_i h; simp [List.getElem?_eq_none,Nat.le_of_not_lt h]
theorem getD_mk {n : Nat} {f : Nat → Value} {t : Nat} : (mk n f).getD t undef = if t < n then f t else undef := ev_mk
theorem upv_at (f : Nat → Value) (d : Nat) (v : Value) (t : Nat) : upv f d v t = if t = d then v else f t := _root_.id rfl
theorem ev_const (E : List Value) (v : Value) : ev E (.const v) = v := _root_.id rfl
theorem ev_func (E : List Value) (f : FuncId) : ev E (.func f) = .func (.func f) #[] #[] := _root_.id rfl
theorem ev_global (E : List Value) (g : Nat) : ev E (.global g) = .pointer (some ⟨g,0,none⟩) := _root_.id rfl
variable {K : Cx} {Q : List Value → Heap → Prop} {E : List Value} {H : Heap} {d : Option Tmp} {r : List AItem} {g : Option (Tmp × Bool)}
def Later (K : Cx) (r : List AItem) (Q : List Value → Heap → Prop) (E : List Value) (d : Option Tmp) (v : Value) (H : Heap) : Prop := wpItems K r Q (put E d v) H
def satO (K : Cx) (r : List AItem) (Q : List Value → Heap → Prop) (E : List Value) (d : Option Tmp) : Out (Value × Heap) → Prop
 | .ok (v,H) => wpItems K r Q (put E d v) H
 | .big => False
 | .bad _ => False
theorem satO_ok (v : Value) (H : Heap) : satO K r Q E d (.ok (v,H)) = wpItems K r Q (put E d v) H := _root_.id rfl
theorem satO_big : satO K r Q E d .big = False := _root_.id rfl
theorem wpItems_nil : wpItems K [] Q E H = Q E H := _root_.id rfl
def skipO (K : Cx) (it : AItem) (r : List AItem) (Q : List Value → Heap → Prop) (E : List Value) (H : Heap) : Value → Bool → Prop
 | .bool b,want => if b = want then wpItems K ({ it with guard := none } :: r) Q E H else wpItems K r Q (put E it.dst undef) H
 | _,_ => wpItems K r Q (put E it.dst undef) H
theorem wpItems_guard (op : AOp) (t : Tmp) (want : Bool) : wpItems K (⟨d,op,some (t,want)⟩ :: r) Q E H = skipO K ⟨d,op,some (t,want)⟩ r Q E H (E.getD t undef) want := by
 have e : wantedA (some (t,want)) E = (match E.getD t undef with | .bool b => b == want | _ => false) := _root_.id rfl
 unfold wpItems wpItem
 simp only [e]
 cases h : E.getD t undef with
 | bool b => rw [h] at e; cases b <;> cases want <;> rfl
 | _ => rfl
theorem wpItems_call (f : Operand) (args : List Operand) : wpItems K (⟨d,.call f args,none⟩ :: r) Q E H = callP K (ev E f) (args.map (ev E)) H (Later K r Q E d) := _root_.id rfl
theorem wpItems_op (op : AOp) (h : (∀ f l,op ≠ .call f l) ∧ (∀ x,op ≠ .capq x) ∧ ∀ s x z l,op ≠ .appz s x z l) : wpItems K (⟨d,op,none⟩ :: r) Q E H = satO K r Q E d (aop op E H) := by
 cases op <;> first | exact absurd rfl (h.1 _ _) | exact absurd rfl (h.2.1 _) | exact absurd rfl (h.2.2 _ _ _ _) | (simp only [wpItems,wpItem,wantedA,if_true]; cases aop _ E H <;> rfl)
theorem wpItems_capq (x : Operand) : wpItems K (⟨d,.capq x,none⟩ :: r) Q E H = match ev E x with
  | .slice a _ cap => ∀ c : Nat,cap ≤ c ∧ (a = none → c = cap) → c ≤ maxRow → wpItems K r Q (put E d (.int .i64 c)) H
  | _ => False := _root_.id rfl
theorem wpItems_appz (s x : Operand) (sz : Nat) (zero : List Value) : wpItems K (⟨d,.appz s x sz zero,none⟩ :: r) Q E H = match appzO (ev E s) (ev E x) sz zero H with
  | some p => wpItems K r Q (put E d p.1.1) p.1.2 ∧ wpItems K r Q (put E d p.2.1) p.2.2
  | none => False := _root_.id rfl
theorem wpItems_mv (x : Operand) : wpItems K (⟨d,.mv x,none⟩ :: r) Q E H = wpItems K r Q (put E d (ev E x)) H := _root_.id rfl
theorem wpItems_lenS (x : Operand) : wpItems K (⟨d,.lenS x,none⟩ :: r) Q E H = match ev E x with
  | .string s => wpItems K r Q (put E d (.int .i64 s.size)) H
  | _ => False := by
 rw [wpItems_op _ (by simp)]; simp only [aop]; generalize ev E x = v; cases v <;> rfl
theorem wpItems_lenL (x : Operand) : wpItems K (⟨d,.lenL x,none⟩ :: r) Q E H = match ev E x with
  | .slice _ n _ => wpItems K r Q (put E d (.int .i64 n)) H
  | _ => False := by
 rw [wpItems_op _ (by simp)]; simp only [aop]; generalize ev E x = v; cases v <;> rfl
theorem wpItems_bin (op : BinOp) (x y : Operand) : wpItems K (⟨d,.bin op x y,none⟩ :: r) Q E H = match abin op (ev E x) (ev E y) with
  | some v => wpItems K r Q (put E d v) H
  | none => False := by
 rw [wpItems_op _ (by simp)]; simp only [aop]; generalize abin op (ev E x) (ev E y) = v; cases v <;> rfl
theorem wpItems_un (op : UnOp) (x : Operand) : wpItems K (⟨d,.un op x,none⟩ :: r) Q E H = match aun op (ev E x) with
  | some v => wpItems K r Q (put E d v) H
  | none => False := by
 rw [wpItems_op _ (by simp)]; simp only [aop]; generalize aun op (ev E x) = v; cases v <;> rfl
theorem wpItems_eqv (neg : Bool) (k : EqK) (x y : Operand) : wpItems K (⟨d,.eqv neg k x y,none⟩ :: r) Q E H = match aeqv H k (ev E x) (ev E y) with
  | some b => wpItems K r Q (put E d (.bool (if neg then !b else b))) H
  | none => False := by
 rw [wpItems_op _ (by simp)]; simp only [aop]; generalize aeqv H k (ev E x) (ev E y) = v; cases v <;> rfl
theorem wpItems_pick (c a b : Operand) : wpItems K (⟨d,.pick c a b,none⟩ :: r) Q E H = match ev E c with
  | .bool t => wpItems K r Q (put E d (if t then ev E a else ev E b)) H
  | _ => False := by
 rw [wpItems_op _ (by simp)]; simp only [aop]; generalize ev E c = v; cases v <;> rfl
theorem wpItems_new (cs : List Value) (e : TypeId) : wpItems K (⟨d,.new cs e,none⟩ :: r) Q E H = wpItems K r Q (put E d (ptrTo H.next 0)) (H.push (.row cs 0 (some e))) := by
 rw [wpItems_op _ (by simp)]; rfl
theorem wpItems_box (x : Operand) (e : TypeId) : wpItems K (⟨d,.box x e,none⟩ :: r) Q E H = (storable (ev E x) = true ∧ wpItems K r Q (put E d (ptrTo H.next 0)) (H.push (.row (ev E x).cells.toList 0 (some e)))) := by
 rw [wpItems_op _ (by simp)]; simp only [aop,allocA]
 by_cases h : storable (ev E x) = true
 ·rw [if_pos h]; simp only [h,true_and]; rfl
 ·rw [if_neg h]; simp only [h]; simp [satO,allocOut]
theorem wpItems_build (zero : List Value) (parts : List (Nat × Nat × Operand)) : wpItems K (⟨d,.build zero parts,none⟩ :: r) Q E H = match fillL zero (parts.map fun p => (p.1,p.2.1,ev E p.2.2)) with
  | some cs => wpItems K r Q (put E d (.agg cs.toArray)) H
  | none => False := by
 rw [wpItems_op _ (by simp)]; simp only [aop]; generalize fillL zero (parts.map fun p => (p.1,p.2.1,ev E p.2.2)) = v; cases v <;> rfl
theorem wpItems_mkslice (len size : Nat) (zero : List Value) (parts : List (Nat × Nat × Operand)) : wpItems K (⟨d,.mkslice len size zero parts,none⟩ :: r) Q E H = match fillL zero (parts.map fun p => (p.1,p.2.1,ev E p.2.2)) with
  | some cs => wpItems K r Q (put E d (sliceOf H.next 0 size len len)) (H.push (.row cs 0 none))
  | none => False := by
 rw [wpItems_op _ (by simp)]; simp only [aop,allocA]; generalize fillL zero (parts.map fun p => (p.1,p.2.1,ev E p.2.2)) = v; cases v <;> rfl
theorem wpItems_mkmap : wpItems K (⟨d,.mkmap,none⟩ :: r) Q E H = wpItems K r Q (put E d (.map (some H.next))) (H.push (.map [])) := by
 rw [wpItems_op _ (by simp)]; rfl
theorem wpItems_mkrow (l c : Operand) (sz : Nat) (zero : List Value) : wpItems K (⟨d,.mkrow l c sz zero,none⟩ :: r) Q E H = match ev E l,ev E c with
  | .int .i64 n,.int .i64 m => (0 ≤ n ∧ n ≤ m ∧ m * 4096 ≤ 1099511627776) ∧ wpItems K r Q (put E d (sliceOf H.next 0 sz n.toNat m.toNat)) (H.push (.row ((List.range (m.toNat * sz)).map fun i => zero.getD (i % sz) undef) 0 none))
  | _,_ => False := by
 rw [wpItems_op _ (by simp)]; simp only [aop,allocA]
 split
 ·rename_i n m h1 h2
  simp only [h1,h2]
  by_cases h : 0 ≤ n ∧ n ≤ m ∧ m * 4096 ≤ 1099511627776
  ·rw [if_pos h]; simp only [h,and_self,true_and]; rfl
  ·rw [if_neg h]; simp only [h,false_and]; rfl
 ·rename_i hn
  split
  ·rename_i h1 h2; exact (hn _ _ h1 h2).elim
  ·rfl
def cellAt (H : Heap) (b o : Nat) : Option Value := match cellsAt H b o 1 with
 | some (c :: _) => some c
 | _ => none
theorem wpItems_load (a : Operand) : wpItems K (⟨d,.load a none,none⟩ :: r) Q E H = match ev E a with
  | .pointer (some p) => (match cellAt H p.block p.off with
   | some c => wpItems K r Q (put E d c) H
   | none => False)
  | _ => False := by
 rw [wpItems_op _ (by simp)]; simp only [aop]; generalize ev E a = v
 cases v <;> try rfl
 rename_i p; cases p <;> try rfl
 rename_i p
 simp only [cellAt]
 cases cellsAt H p.block p.off 1 with
 | none => rfl
 | some l => cases l <;> rfl
theorem wpItems_loads (a : Operand) (n : Nat) : wpItems K (⟨d,.load a (some n),none⟩ :: r) Q E H = match ev E a with
  | .pointer (some p) => (match cellsAt H p.block p.off n with
   | some cs => wpItems K r Q (put E d (.agg cs.toArray)) H
   | none => False)
  | _ => False := by
 rw [wpItems_op _ (by simp)]; simp only [aop]; generalize ev E a = v
 cases v <;> try rfl
 rename_i p; cases p <;> try rfl
 rename_i p
 simp only
 cases cellsAt H p.block p.off n <;> rfl
theorem wpItems_store (a x : Operand) (sz : Nat) : wpItems K (⟨d,.store a x sz,none⟩ :: r) Q E H = match ev E a with
  | .pointer (some p) => (match H.get p.block with
   | some (.row cs fz ty) => (storable (ev E x) = true ∧ (ev E x).cells.toList.length = sz ∧ p.off + sz ≤ cs.length ∧ fz ≤ p.off) ∧
     wpItems K r Q (put E d undef) (H.set p.block (some (.row (splice cs p.off (ev E x).cells.toList) fz ty)))
   | _ => False)
  | _ => False := by
 rw [wpItems_op _ (by simp)]; simp only [aop]; generalize ev E a = v
 cases v <;> try rfl
 rename_i p; cases p <;> try rfl
 rename_i p
 simp only
 generalize H.get p.block = o
 cases o <;> try rfl
 rename_i o; cases o <;> try rfl
 rename_i cs fz ty
 simp only
 by_cases h : storable (ev E x) = true ∧ (ev E x).cells.toList.length = sz ∧ p.off + sz ≤ cs.length ∧ fz ≤ p.off
 ·rw [if_pos h]; simp only [h,and_self,true_and]; rfl
 ·rw [if_neg h]; simp only [h,false_and]; rfl
theorem wpItems_nilck (x : Operand) : wpItems K (⟨d,.nilck x,none⟩ :: r) Q E H = match ev E x with
  | .pointer (some p) => wpItems K r Q (put E d (.pointer (some p))) H
  | .func f a b => wpItems K r Q (put E d (.func f a b)) H
  | _ => False := by
 rw [wpItems_op _ (by simp)]; simp only [aop]; generalize ev E x = v
 cases v <;> try rfl
 rename_i p; cases p <;> rfl
theorem wpItems_conv (k : IntKind) (x : Operand) : wpItems K (⟨d,.conv k x,none⟩ :: r) Q E H = match ev E x with
  | .int _ n => wpItems K r Q (put E d (.int k (k.wrap n))) H
  | _ => False := by
 rw [wpItems_op _ (by simp)]; simp only [aop]; generalize ev E x = v; cases v <;> rfl
theorem wpItems_faddr (x : Operand) (off : Nat) : wpItems K (⟨d,.faddr x off,none⟩ :: r) Q E H = match ev E x with
  | .pointer (some p) => wpItems K r Q (put E d (ptrTo p.block (p.off + off))) H
  | _ => False := by
 rw [wpItems_op _ (by simp)]; simp only [aop]; generalize ev E x = v
 cases v <;> try rfl
 rename_i p; cases p <;> rfl
theorem wpItems_fld (x : Operand) (off : Nat) (sz : Option Nat) : wpItems K (⟨d,.fld x off sz,none⟩ :: r) Q E H = match ev E x with
  | .agg cs => (match partL cs.toList off sz with
   | some v => wpItems K r Q (put E d v) H
   | none => False)
  | _ => False := by
 rw [wpItems_op _ (by simp)]; simp only [aop]; generalize ev E x = v
 cases v <;> try rfl
 rename_i cs; simp only; cases partL cs.toList off sz <;> rfl
theorem wpItems_idx (x i : Operand) (sz : Nat) : wpItems K (⟨d,.idx x i sz,none⟩ :: r) Q E H = match ev E x,ev E i with
  | .slice (some a) n _,.int _ j => (0 ≤ j ∧ j < n ∧ a.spot = some sz) ∧ wpItems K r Q (put E d (ptrTo a.block (a.off + j.toNat * sz))) H
  | _,_ => False := by
 rw [wpItems_op _ (by simp)]; simp only [aop]
 split
 ·rename_i a n c k j h1 h2
  simp only [h1,h2]
  by_cases h : 0 ≤ j ∧ j < n ∧ a.spot = some sz
  ·rw [if_pos h]; simp only [h,and_self,true_and]; rfl
  ·rw [if_neg h]; simp only [h,false_and]; rfl
 ·rename_i hn
  split
  ·rename_i h1 h2; exact (hn _ _ _ _ _ h1 h2).elim
  ·rfl
theorem wpItems_idxA (x i : Operand) (len sz : Nat) : wpItems K (⟨d,.idxA x i len sz,none⟩ :: r) Q E H = match ev E x,ev E i with
  | .pointer (some a),.int _ j => (0 ≤ j ∧ j < len) ∧ wpItems K r Q (put E d (ptrTo a.block (a.off + j.toNat * sz))) H
  | _,_ => False := by
 rw [wpItems_op _ (by simp)]; simp only [aop]
 split
 ·rename_i a k j h1 h2
  simp only [h1,h2]
  by_cases h : 0 ≤ j ∧ j < len
  ·rw [if_pos h]; simp only [h,and_self,true_and]; rfl
  ·rw [if_neg h]; simp only [h,false_and]; rfl
 ·rename_i hn
  split
  ·rename_i h1 h2; exact (hn _ _ _ h1 h2).elim
  ·rfl
def byteAt (s : ByteArray) (j : Nat) : UInt8 := s.data.toList.getD j 0
theorem wpItems_strAt (x i : Operand) : wpItems K (⟨d,.strAt x i,none⟩ :: r) Q E H = match ev E x,ev E i with
  | .string s,.int _ j => (0 ≤ j ∧ j < s.size) ∧ wpItems K r Q (put E d (.int .u8 (byteAt s j.toNat).toNat)) H
  | _,_ => False := by
 rw [wpItems_op _ (by simp)]; simp only [aop]
 split
 ·rename_i s k j h1 h2
  simp only [h1,h2]
  have e : s.data.toList.length = s.size := by rw [Array.length_toList]; rfl
  by_cases h0 : 0 ≤ j
  ·rw [if_pos h0]
   by_cases hj : j < s.size
   ·have hlt : j.toNat < s.data.toList.length := by omega
    rw [List.getElem?_eq_getElem hlt]
    simp only [h0,hj,and_self,true_and,byteAt]
    rw [List.getD_eq_getElem?_getD,List.getElem?_eq_getElem hlt]; rfl
   ·have hge : s.data.toList.length ≤ j.toNat := by omega
    rw [List.getElem?_eq_none hge]
    simp only [hj,and_false,false_and]; rfl
  ·rw [if_neg h0]; simp only [h0,false_and]; rfl
 ·rename_i hn
  split
  ·rename_i h1 h2; exact (hn _ _ _ h1 h2).elim
  ·rfl
theorem wpItems_aggAt (x i : Operand) (len sz : Nat) (one : Bool) : wpItems K (⟨d,.aggAt x i len sz one,none⟩ :: r) Q E H = match ev E x,ev E i with
  | .agg cs,.int _ j => (0 ≤ j ∧ j < len) ∧ (match partL cs.toList (j.toNat * sz) (if one then none else some sz) with
   | some v => wpItems K r Q (put E d v) H
   | none => False)
  | _,_ => False := by
 rw [wpItems_op _ (by simp)]; simp only [aop]
 split
 ·rename_i cs k j h1 h2
  simp only [h1,h2]
  by_cases h : 0 ≤ j ∧ j < len
  ·rw [if_pos h]; simp only [h,and_self,true_and]; cases partL cs.toList (j.toNat * sz) (if one = true then none else some sz) <;> rfl
  ·rw [if_neg h]; simp only [h,false_and]; rfl
 ·rename_i hn
  split
  ·rename_i h1 h2; exact (hn _ _ _ h1 h2).elim
  ·rfl
theorem wpItems_slStr (x : Operand) (lo hi : Option Operand) : wpItems K (⟨d,.slStr x lo hi,none⟩ :: r) Q E H = match ev E x with
  | .string s => (match bound E hi s.size s.size with
   | some h => match bound E lo 0 h with
    | some l => wpItems K r Q (put E d (.string (s.extract l h))) H
    | none => False
   | none => False)
  | _ => False := by
 rw [wpItems_op _ (by simp)]; simp only [aop]; generalize ev E x = v; cases v <;> try rfl
 simp only
 rename_i s
 cases bound E hi s.size s.size with
 | none => rfl
 | some h =>
  simp only
  cases bound E lo 0 h <;> rfl
theorem wpItems_sl (x : Operand) (lo hi : Option Operand) (sz : Nat) : wpItems K (⟨d,.sl x lo hi sz,none⟩ :: r) Q E H = match ev E x with
  | .slice a n cap => (match bound E hi n cap with
   | some h => (match bound E lo 0 h with
    | some l => (match a with
     | none => wpItems K r Q (put E d (.slice none (h - l) (cap - l))) H
     | some a => a.spot = some sz ∧ wpItems K r Q (put E d (sliceOf a.block (a.off + l * sz) sz (h - l) (cap - l))) H)
    | none => False)
   | none => False)
  | _ => False := by
 rw [wpItems_op _ (by simp)]; simp only [aop]; generalize ev E x = v; cases v <;> try rfl
 simp only
 rename_i a n cap
 cases bound E hi n cap with
 | none => rfl
 | some h =>
  simp only
  cases bound E lo 0 h with
  | none => rfl
  | some l =>
   cases a with
   | none => rfl
   | some a =>
    simp only
    by_cases h : a.spot = some sz
    ·rw [if_pos h]; simp only [h,true_and]; rfl
    ·rw [if_neg h]; simp only [h,false_and]; rfl
theorem bound_none (dflt top : Nat) : bound E none dflt top = some dflt := _root_.id rfl
theorem bound_some (o : Operand) (dflt top : Nat) : bound E (some o) dflt top = match ev E o with
  | .int _ i => if 0 ≤ i ∧ i ≤ top then some i.toNat else none
  | _ => none := _root_.id rfl
theorem wpItems_ext (x : Operand) (i : Nat) : wpItems K (⟨d,.ext x i,none⟩ :: r) Q E H = match ev E x with
  | .tuple vs => (match vs.toList[i]? with
   | some v => wpItems K r Q (put E d v) H
   | none => False)
  | _ => False := by
 rw [wpItems_op _ (by simp)]; simp only [aop]; generalize ev E x = v; cases v <;> try rfl
 rename_i vs; simp only; cases vs.toList[i]? <;> rfl
theorem wpItems_mkfn (f : FuncId) (caps : List Operand) : wpItems K (⟨d,.mkfn f caps,none⟩ :: r) Q E H = wpItems K r Q (put E d (.func (.func f) #[] (caps.map (ev E)).toArray)) H := by
 rw [wpItems_op _ (by simp)]; rfl
theorem wpItems_mx (x y : Operand) : wpItems K (⟨d,.mx x y,none⟩ :: r) Q E H = match ev E x,ev E y with
  | .int k a,.int _ b => wpItems K r Q (put E d (.int k (if b > a then b else a))) H
  | _,_ => False := by
 rw [wpItems_op _ (by simp)]; simp only [aop]
 split
 ·rename_i h1 h2; simp only [h1,h2]; rfl
 ·rename_i hn
  split
  ·rename_i h1 h2; exact (hn _ _ _ _ h1 h2).elim
  ·rfl
theorem wpItems_mn (x y : Operand) : wpItems K (⟨d,.mn x y,none⟩ :: r) Q E H = match ev E x,ev E y with
  | .int k a,.int _ b => wpItems K r Q (put E d (.int k (if b < a then b else a))) H
  | _,_ => False := by
 rw [wpItems_op _ (by simp)]; simp only [aop]
 split
 ·rename_i h1 h2; simp only [h1,h2]; rfl
 ·rename_i hn
  split
  ·rename_i h1 h2; exact (hn _ _ _ _ h1 h2).elim
  ·rfl
variable {D : DrawP} {rn : Option Nat} {X : AExit → List Value → Heap → Prop}
def condO (K : Cx) (D : DrawP) (rn : Option Nat) (x y : ACode) (Q : AExit → List Value → Heap → Prop) (E : List Value) (H : Heap) : Value → Prop
 | .bool true => wpC K D rn x Q E H
 | .bool false => wpC K D rn y Q E H
 | _ => False
theorem wpC_cond (c : Operand) (x y : ACode) : wpC K D rn (.cond c x y) X E H = condO K D rn x y X E H (ev E c) := by
 show (match ev E c with | .bool true => wpC K D rn x X E H | .bool false => wpC K D rn y X E H | _ => False) = _
 generalize ev E c = v
 cases v <;> try rfl
theorem wpC_skip : wpC K D rn .skip X E H = X .normal E H := _root_.id rfl
theorem wpC_ops (l : List AItem) : wpC K D rn (.ops l) X E H = wpItems K l (X .normal) E H := _root_.id rfl
theorem wpC_seq (x y : ACode) : wpC K D rn (.seq x y) X E H = wpC K D rn x (thenA (wpC K D rn y X) X) E H := _root_.id rfl
theorem wpC_block (i : Nat) (x : ACode) : wpC K D rn (.block i x) X E H = wpC K D rn x (blockA i X) E H := _root_.id rfl
theorem wpC_exit (i : Nat) : wpC K D rn (.exit i) X E H = X (.exit i) E H := _root_.id rfl
theorem wpC_ret : wpC K D rn .ret X E H = X .ret E H := _root_.id rfl
theorem thenA_normal (n : List Value → Heap → Prop) : thenA n X .normal E H = n E H := _root_.id rfl
theorem thenA_ret (n : List Value → Heap → Prop) : thenA n X .ret E H = X .ret E H := _root_.id rfl
theorem thenA_exit (n : List Value → Heap → Prop) (i : Nat) : thenA n X (.exit i) E H = X (.exit i) E H := _root_.id rfl
theorem blockA_normal (i : Nat) : blockA i X .normal E H = X .normal E H := _root_.id rfl
theorem blockA_ret (i : Nat) : blockA i X .ret E H = X .ret E H := _root_.id rfl
theorem blockA_exit (i j : Nat) : blockA i X (.exit j) E H = if j = i then X .normal E H else X (.exit j) E H := by
 show (if j = i then X .normal else X (.exit j)) E H = _
 split <;> rfl
def retQ (rs : List ARes) (Q : Value → Heap → Prop) : AExit → List Value → Heap → Prop := fun e E' H' => match e with
 | .exit _ => False
 | _ => ∃ vs,resA E' H' rs = some vs ∧ Q (tupleA vs) H'
theorem retQ_ret (t : Tmp) (Q : Value → Heap → Prop) : retQ [.tmp t] Q .ret E H = Q (ev E (.tmp t)) H := by
 simp only [retQ,resA,resOne,ev]
 refine propext ⟨fun ⟨vs,h,q⟩ => by cases h; exact q,fun h => ⟨_,rfl,h⟩⟩
theorem retQ_ret0 (Q : Value → Heap → Prop) : retQ [] Q .ret E H = Q (.tuple #[]) H := by
 simp only [retQ,resA]
 refine propext ⟨fun ⟨vs,h,q⟩ => by cases h; exact q,fun h => ⟨_,rfl,h⟩⟩
theorem retQ_norm0 (Q : Value → Heap → Prop) : retQ [] Q .normal E H = Q (.tuple #[]) H := by
 simp only [retQ,resA]
 refine propext ⟨fun ⟨vs,h,q⟩ => by cases h; exact q,fun h => ⟨_,rfl,h⟩⟩
theorem retQ_ret2 (t u : Tmp) (Q : Value → Heap → Prop) : retQ [.tmp t,.tmp u] Q .ret E H = Q (.tuple #[ev E (.tmp t),ev E (.tmp u)]) H := by
 simp only [retQ,resA,resOne,ev]
 refine propext ⟨fun ⟨vs,h,q⟩ => by cases h; exact q,fun h => ⟨_,rfl,h⟩⟩
theorem retQ_ret3 (t u w : Tmp) (Q : Value → Heap → Prop) : retQ [.tmp t,.tmp u,.tmp w] Q .ret E H = Q (.tuple #[ev E (.tmp t),ev E (.tmp u),ev E (.tmp w)]) H := by
 simp only [retQ,resA,resOne,ev]
 refine propext ⟨fun ⟨vs,h,q⟩ => by cases h; exact q,fun h => ⟨_,rfl,h⟩⟩
def argf : List Value → Nat → Value
 | [],_ => undef
 | v :: l,t => if t = 0 then v else argf l (t - 1)
theorem argf_getD : ∀ (l : List Value) (t : Nat),argf l t = l.getD t undef
 | [],t => by simp [argf]
 | v :: l,0 => by simp [argf]
 | v :: l,t + 1 => by simp [argf,argf_getD l t]
theorem start_mk (args : List Value) (n : Nat) (h : args.length ≤ n) : args ++ List.replicate (n - args.length) undef = mk n (argf args) := by
 unfold mk
 refine List.ext_getElem? fun i => ?_
 rw [List.getElem?_map]
 rcases Nat.lt_or_ge i n with hi | hi
 ·rw [List.getElem?_range hi]
  simp only [Option.map_some,argf_getD]
  rcases Nat.lt_or_ge i args.length with ha | ha
  ·rw [List.getElem?_append_left ha,List.getD_eq_getElem?_getD,List.getElem?_eq_getElem ha]; rfl
  ·rw [List.getElem?_append_right ha,List.getElem?_replicate,if_pos (by omega),List.getD_eq_getElem?_getD,List.getElem?_eq_none ha]; rfl
 ·rw [List.getElem?_eq_none (by simp; omega),List.getElem?_eq_none (by simp; omega)]; rfl
theorem wpC_opsC (l0 : List AItem) (t x : Tmp) (d : Option Tmp) (l2 : List AItem) (X : AExit → List Value → Heap → Prop) (E : List Value) (H : Heap) : wpC K D rn (.opsC l0 t x d l2) X E H = wpItems K l0 (capW t x d (wpItems K l2 (X .normal))) E H := _root_.id rfl
theorem capW_mk {n : Nat} {f : Nat → Value} {Q : List Value → Heap → Prop} {H : Heap} (t x : Nat) (d : Option Tmp) (ht : t < n) (hx : x < n) : capW t x d Q (mk n f) H = (match f x,f t with
  | .slice a k cap,.slice a' k' cap' => a = a' ∧ k = k' ∧ ∀ c : Nat,cap ≤ c ∧ cap' ≤ c ∧ (a = none → c = cap) → c ≤ maxRow → Q (put (mk n (upv (upv f t (.slice a k c)) x (.slice a k c))) d (.int .i64 c)) H
  | _,_ => False) := by
 unfold capW
 rw [getD_mk,getD_mk,if_pos ht,if_pos hx]
 have e : ∀ v : Value,put (put (mk n f) (some t) v) (some x) v = mk n (upv (upv f t v) x v) := fun v => by rw [put_mk,put_mk]
 simp only [e]
 rfl
theorem funcP_mk (F : AFunc) (args : List Value) (Q : Value → Heap → Prop) (h : args.length ≤ F.ntmps) : funcP K D F args H Q = wpC K D none F.body (retQ F.results Q) (mk F.ntmps (argf args)) H := by
 unfold funcP
 rw [start_mk args F.ntmps h]
 rfl
theorem callP_func (f : FuncId) (caps : Array Value) (args : List Value) (Q : Value → Heap → Prop) : callP K (.func (.func f) #[] caps) args H Q = FC K f (args ++ caps.toList) H Q := _root_.id rfl
theorem callP_yield (l : Nat) (args : List Value) (Q : Value → Heap → Prop) : callP K (.func (.yield l) #[] #[]) args H Q = RC K l args H Q := _root_.id rfl
theorem argf_nil (t : Nat) : argf [] t = undef := _root_.id rfl
theorem argf_cons (v : Value) (l : List Value) (t : Nat) : argf (v :: l) t = if t = 0 then v else argf l (t - 1) := _root_.id rfl
theorem abin_add (k : IntKind) (a b : Int) : abin .add (.int k a) (.int k b) = some (.int k (k.wrap (a + b))) := by simp [abin]
theorem abin_sub (k : IntKind) (a b : Int) : abin .sub (.int k a) (.int k b) = some (.int k (k.wrap (a - b))) := by simp [abin]
theorem abin_mul (k : IntKind) (a b : Int) : abin .mul (.int k a) (.int k b) = some (.int k (k.wrap (a * b))) := by simp [abin]
theorem abin_lss (k : IntKind) (a b : Int) : abin .lss (.int k a) (.int k b) = some (.bool (decide (a < b))) := by simp [abin]
theorem abin_leq (k : IntKind) (a b : Int) : abin .leq (.int k a) (.int k b) = some (.bool (decide (a ≤ b))) := by simp [abin]
theorem abin_gtr (k : IntKind) (a b : Int) : abin .gtr (.int k a) (.int k b) = some (.bool (decide (b < a))) := by simp [abin]
theorem abin_geq (k : IntKind) (a b : Int) : abin .geq (.int k a) (.int k b) = some (.bool (decide (b ≤ a))) := by simp [abin]
theorem abin_adds (a b : ByteArray) : abin .add (.string a) (.string b) = if ((a.size + b.size : Nat) : Int) ≤ 9223372036854775807 then some (.string (a ++ b)) else none := by simp [abin]
theorem aun_not (b : Bool) : aun .not (.bool b) = some (.bool !b) := _root_.id rfl
theorem aeqv_int (k : IntKind) (a b : Int) : aeqv H (.scalar .int) (.int k a) (.int k b) = some (decide (a = b)) := by
 simp only [aeqv,sameCell,if_true]; rw [Option.some.injEq,Bool.eq_iff_iff]; simp
theorem aeqv_str (a b : ByteArray) : aeqv H (.scalar .str) (.string a) (.string b) = some (decide (a = b)) := by
 simp only [aeqv,sameCell]; rw [Option.some.injEq,Bool.eq_iff_iff]
 simp only [beq_iff_eq,decide_eq_true_eq]
 constructor
 ·intro h; cases a; cases b; simp at h; rw [h]
 ·rintro rfl; rfl
theorem aeqv_bool (a b : Bool) : aeqv H (.scalar .bool) (.bool a) (.bool b) = some (a == b) := _root_.id rfl
theorem aeqv_ptrNN : aeqv H .ptr (.pointer none) (.pointer none) = some true := _root_.id rfl
theorem aeqv_ptrNS (a : Addr) : aeqv H .ptr (.pointer none) (.pointer (some a)) = some false := _root_.id rfl
theorem aeqv_ptrSN (a : Addr) : aeqv H .ptr (.pointer (some a)) (.pointer none) = some false := _root_.id rfl
end Go.Ae
namespace Go.Ae
open Go
structure Cfg (K : Cx) : Prop where
 draw : K.draw = drawOf K.P K.G0
 mixed : K.P.follows .mixedOrders = true
structure Is (P : Program) (G0 : Nat) (f : FuncId) (F : AFunc) : Prop where
 is : ∃ fn c,P.funcs[f]? = some fn ∧ fn.body = some c ∧ fn.name ≠ "runtime.NumGoroutine" ∧ comp P G0 (drawOf P G0) c = some F.body ∧ fn.ntmps = F.ntmps ∧ compRes P fn.results.toList = some F.results
theorem FC.of {K : Cx} (hK : Cfg K) {f : FuncId} {F : AFunc} (h : Is K.P K.G0 f F) {args : List Value} {H : Heap} {Q : Value → Heap → Prop} (hl : args.length ≤ F.ntmps)
  (hw : wpC K DrawD none F.body (retQ F.results Q) (mk F.ntmps (argf args)) H) : FC K f args H Q := by
 obtain ⟨fn,c,h1,h2,h3,h4,h5,h6⟩ := h.is
 refine func_sound (fun rn => draw_ok hK.draw hK.mixed rn) h1 h2 h3 (by rw [hK.draw]; exact h4) h5 h6 ?_
 rw [funcP_mk F args Q hl]
 exact hw
theorem Is.isFn {K : Cx} {f : FuncId} {F : AFunc} (h : Is K.P K.G0 f F) : isFn K f := by
 obtain ⟨fn,c,h1,h2,h3,h4,h5,h6⟩ := h.is
 intro args w
 simp [callFunc,h1,h2,h3]
end Go.Ae
namespace Go.Ae
open Go
def bodyC (fn : Func) : Code := match fn.body with | some c => c | none => .skip
theorem mkIs {P : Program} {G0 f : Nat} {F : AFunc} {fn : Func} (h1 : P.funcs[f]? = some fn) (h2 : fn.body = some (bodyC fn)) (h3 : fn.name ≠ "runtime.NumGoroutine") (h4 : comp P G0 (drawOf P G0) (bodyC fn) = some F.body) (h5 : fn.ntmps = F.ntmps)
  (h6 : compRes P fn.results.toList = some F.results) : Is P G0 f F := ⟨⟨fn,bodyC fn,h1,h2,h3,h4,h5,h6⟩⟩
end Go.Ae
namespace Go.Ae
open Go
inductive Res (α : Type) where
 | ok (a : α)
 | big
 | fail
def Res.sat {α : Type} (Q : α → Prop) : Res α → Prop
 | .ok a => Q a
 | .big => False
 | .fail => False
def Res.bind {α β : Type} (r : Res α) (f : α → Res β) : Res β := match r with
 | .ok a => f a
 | .big => .big
 | .fail => .fail
theorem Res.sat_bind {α β : Type} {Q : β → Prop} {r : Res α} {f : α → Res β} (h : (r.bind f).sat Q) : r.sat fun a => (f a).sat Q := by
 cases r <;> exact h
def ofOut {α : Type} : Out α → Res α
 | .ok a => .ok a
 | .big => .big
 | .bad _ => .fail
abbrev CallF := Value → List Value → Heap → Res (Value × Heap)
def runItem (call : CallF) (it : AItem) (E : List Value) (H : Heap) : Res (List Value × Heap) :=
 if wantedA it.guard E then
  match it.op with
  | .call f args => (call (ev E f) (args.map (ev E)) H).bind fun p => .ok (put E it.dst p.1,p.2)
  | op => (ofOut (aop op E H)).bind fun p => .ok (put E it.dst p.1,p.2)
 else .ok (put E it.dst undef,H)
def runItems (call : CallF) : List AItem → List Value → Heap → Res (List Value × Heap)
 | [],E,H => .ok (E,H)
 | it :: r,E,H => (runItem call it E H).bind fun p => runItems call r p.1 p.2
def sameV : Value → Value → Bool
 | .bool a,.bool b => a == b
 | .int k a,.int j b => k == j && a == b
 | .string a,.string b => a.data.toList == b.data.toList
 | .pointer a,.pointer b => a == b
 | .slice a n c,.slice b m d => a == b && n == m && c == d
 | .map a,.map b => a == b
 | .nilFunc,.nilFunc => true
 | .nilIface,.nilIface => true
 | _,_ => false
def runD (call : CallF) (base : Nat) : List DItem → List Value → Heap → Res (List Value × Heap)
 | [],E,H => .ok (E,H)
 | .run it :: r,E,H => (runItem call it E H).bind fun p => runD call base r p.1 p.2
 | .nam it off :: r,E,H => match namV it (base + off) E with
  | some v => runD call base r (put E it.dst v) H
  | none => .fail
 | .lay it off :: r,E,H => runD call base r E (layH it (base + off) E H)
 | .chk it :: r,E,H => match valI it E H with
  | some v => if sameV v (dstV it.dst E) || !wantedA it.guard E && it.dst.isNone then runD call base r E H else .fail
  | none => .fail
def loopN (body : List Value → Heap → Res (AExit × List Value × Heap)) : Nat → List Value → Heap → Res (AExit × List Value × Heap)
 | 0,_,_ => .fail
 | n + 1,E,H => (body E H).bind fun p => match p.1 with
  | .normal => loopN body n p.2.1 p.2.2
  | e => .ok (e,p.2.1,p.2.2)
def isLoop (H : Heap) : Option Nat → Bool
 | none => true
 | some l => match H.get l with
  | some (.loop _) => true
  | _ => false
def notBusy : LoopState → Bool
 | .busy => false
 | _ => true
def runC (call : CallF) (fns : Nat → Bool) (fuel : Nat) (rn : Option Nat) : ACode → List Value → Heap → Res (AExit × List Value × Heap)
 | .skip,E,H => .ok (.normal,E,H)
 | .ops l,E,H => (runItems call l E H).bind fun p => .ok (.normal,p.1,p.2)
 | .opsC _ _ _ _ _,_,_ => .fail
 | .draw n l,E,H => (runD call H.next l E (H.reserve n)).bind fun p => .ok (.normal,p.1,p.2)
 | .seq x y,E,H => (runC call fns fuel rn x E H).bind fun p => match p.1 with
  | .normal => runC call fns fuel rn y p.2.1 p.2.2
  | e => .ok (e,p.2.1,p.2.2)
 | .cond c x y,E,H => match ev E c with
  | .bool true => runC call fns fuel rn x E H
  | .bool false => runC call fns fuel rn y E H
  | _ => .fail
 | .block id x,E,H => (runC call fns fuel rn x E H).bind fun p => match p.1 with
  | .exit i => if i = id then .ok (.normal,p.2.1,p.2.2) else .ok (.exit i,p.2.1,p.2.2)
  | e => .ok (e,p.2.1,p.2.2)
 | .loop x,E,H => loopN (runC call fns fuel rn x) fuel E H
 | .exit id,E,H => .ok (.exit id,E,H)
 | .ret,E,H => .ok (.ret,E,H)
 | .rfunc f ps asg body,E,H => if isLoop H rn && (match ev E f with
   | .func (.func g) _ _ => fns g
   | _ => false) then
   (call (ev E f) [.func (.yield H.next) #[] #[]] (H.push (.loop { state := .ready,pending := none,env := E,params := ps,assign := asg,body := body }))).bind fun p =>
    match p.2.get H.next with
    | some (.loop L) => if notBusy L.state then (match L.pending with
     | none => .ok (.normal,E,p.2.set H.next none)
     | some j => .ok (jumpA j,E,p.2.set H.next none)) else .fail
    | _ => .fail
   else .fail
 | .bad,_,_ => .fail
def isReady : LoopState → Bool
 | .ready => true
 | _ => false
abbrev Spec := Nat → Option (List Value → Heap → Res (Value × Heap))
def callN (tab : Nat → Option AFunc) (spec : Spec) : Nat → CallF
 | 0 => fun _ _ _ => .fail
 | n + 1 => fun fv args H => match fv with
  | .func (.func f) _ caps => (match spec f with
   | some s => s (args ++ caps.toList) H
   | none => match tab f with
   | some F => if (args ++ caps.toList).length ≤ F.ntmps then
     (runC (callN tab spec n) (fun g => (tab g).isSome) n none F.body ((args ++ caps.toList) ++ List.replicate (F.ntmps - (args ++ caps.toList).length) undef) H).bind fun p => match p.1 with
      | .exit _ => .fail
      | _ => match resA p.2.1 p.2.2 F.results with
       | some vs => .ok (tupleA vs,p.2.2)
       | none => .fail
    else .fail
   | none => .fail)
  | .func (.yield l) _ _ => (match H.get l with
   | some (.loop L) => if args.length = L.params.length then
     (runC (callN tab spec n) (fun g => (tab g).isSome) n (some l) L.assign (setPs L.env L.params args) H).bind fun p => match p.1 with
      | .normal => (match p.2.2.get l with
       | some (.loop L1) => if isReady L1.state then
         (runC (callN tab spec n) (fun g => (tab g).isSome) n (some l) L.body p.2.1 (p.2.2.set l (some (.loop { L1 with state := .busy })))).bind fun q =>
          match q.2.2.get l with
          | some (.loop L3) => .ok (.bool (exitJump q.1).isNone,q.2.2.set l (some (.loop { L3 with state := if (exitJump q.1).isNone then .ready else .done,pending := exitJump q.1 })))
          | _ => .fail
        else .fail
       | _ => .fail)
      | _ => .fail
    else .fail
   | _ => .fail)
  | _ => .fail
theorem Res.sat_mono {α : Type} {Q Q' : α → Prop} {r : Res α} (h : ∀ a,Q a → Q' a) (hs : r.sat Q) : r.sat Q' := by
 cases r with
 | ok a => exact h a hs
 | big => trivial
 | fail => exact hs
def CallOk (K : Cx) (call : CallF) : Prop := ∀ fv args H (Q : Value → Heap → Prop),(call fv args H).sat (fun p => Q p.1 p.2) → callP K fv args H Q
theorem runItem_ok {K : Cx} {call : CallF} (hc : CallOk K call) {it : AItem} {E : List Value} {H : Heap} {Q : List Value → Heap → Prop} (h : (runItem call it E H).sat fun p => Q p.1 p.2) : wpItem K it Q E H := by
 unfold runItem at h
 unfold wpItem
 split
 ·rename_i hw
  rw [if_pos hw] at h
  cases hop : it.op
  case call f args =>
   rw [hop] at h
   exact hc _ _ _ _ (Res.sat_bind h)
  case capq x =>
   rw [hop] at h
   exact h.elim
  case appz s x sz zero =>
   rw [hop] at h
   exact h.elim
  all_goals
   rw [hop] at h
   simp only at h ⊢
   revert h
   generalize aop _ E H = r
   cases r <;> exact fun h => h
 ·rename_i hw; rw [if_neg hw] at h; exact h
theorem runItems_ok {K : Cx} {call : CallF} (hc : CallOk K call) {Q : List Value → Heap → Prop} : ∀ (l : List AItem) (E : List Value) (H : Heap),((runItems call l E H).sat fun p => Q p.1 p.2) → wpItems K l Q E H
 | [],E,H,h => h
 | it :: r,E,H,h => by
  simp only [runItems] at h
  refine wpItem_mono (fun E' H' => ?_) (runItem_ok (Q := fun E' H' => (runItems call r E' H').sat fun p => Q p.1 p.2) hc (Res.sat_bind h))
  exact runItems_ok hc r E' H'
theorem sameV_eq {x y : Value} (h : sameV x y = true) : x = y := by
 unfold sameV at h
 split at h <;> (try simp only [Bool.and_eq_true,beq_iff_eq] at h)
 all_goals first | rfl | (cases h; done) | skip
 ·rw [h]
 ·rw [h.1,h.2]
 ·rename_i a b
  cases a; cases b; simp at h; rw [h]
 ·rw [h]
 ·rw [h.1.1,h.1.2,h.2]
 ·rw [h]
theorem runD_ok {K : Cx} {call : CallF} (hc : CallOk K call) {base : Nat} {Q : List Value → Heap → Prop} : ∀ (l : List DItem) (E : List Value) (H : Heap),((runD call base l E H).sat fun p => Q p.1 p.2) → wpD K base l Q E H
 | [],E,H,h => h
 | .run it :: r,E,H,h => by
  simp only [runD] at h
  refine wpItem_mono (fun E' H' => ?_) (runItem_ok (Q := fun E' H' => (runD call base r E' H').sat fun p => Q p.1 p.2) hc (Res.sat_bind h))
  exact runD_ok hc r E' H'
 | .nam it off :: r,E,H,h => by
  simp only [runD] at h
  cases hv : namV it (base + off) E with
  | none => rw [hv] at h; exact h.elim
  | some v => rw [hv] at h; exact ⟨v,hv,runD_ok hc r _ _ h⟩
 | .lay it off :: r,E,H,h => runD_ok hc r _ _ h
 | .chk it :: r,E,H,h => by
  simp only [runD] at h
  cases hv : valI it E H with
  | none => rw [hv] at h; exact h.elim
  | some v =>
   rw [hv] at h
   simp only at h
   split at h
   ·rename_i hs
    refine ⟨?_,runD_ok hc r _ _ h⟩
    rw [hv]
    simp only [Bool.or_eq_true,Bool.and_eq_true,Bool.not_eq_true'] at hs
    rcases hs with hs | ⟨h1,h2⟩
    ·rw [sameV_eq hs]
    ·unfold valI at hv
     rw [h1] at hv
     simp only [Bool.false_eq_true,if_false] at hv
     cases hv
     cases hd : it.dst with
     | none => rfl
     | some x => rw [hd] at h2; cases h2
   ·exact h.elim
theorem loopN_ok {body : List Value → Heap → Res (AExit × List Value × Heap)} {W : (AExit → List Value → Heap → Prop) → List Value → Heap → Prop} (hb : ∀ Q E H,((body E H).sat fun p => Q p.1 p.2.1 p.2.2) → W Q E H) {Q : AExit → List Value → Heap → Prop} :
  ∀ (n : Nat) (E : List Value) (H : Heap),((loopN body n E H).sat fun p => Q p.1 p.2.1 p.2.2) → LoopP W Q E H
 | 0,E,H,h => h.elim
 | n + 1,E,H,h => by
  intro I hI
  simp only [loopN] at h
  refine hI E H (hb _ E H (Res.sat_mono (fun p hp => ?_) (Res.sat_bind h)))
  obtain ⟨e,E',H'⟩ := p
  cases e with
  | normal => exact loopN_ok hb n E' H' hp I hI
  | exit i => exact hp
  | ret => exact hp
theorem runC_ok {K : Cx} {call : CallF} (hc : CallOk K call) {fns : Nat → Bool} (hf : ∀ g,fns g = true → isFn K g) (hcf : ∀ g first caps args H (Q : Value → Heap → Prop),(call (.func (.func g) first caps) args H).sat (fun p => Q p.1 p.2) → FC K g (args ++ caps.toList) H Q) {fuel : Nat} {rn : Option Nat} :
  ∀ (c : ACode) (Q : AExit → List Value → Heap → Prop) (E : List Value) (H : Heap),((runC call fns fuel rn c E H).sat fun p => Q p.1 p.2.1 p.2.2) → wpC K DrawD rn c Q E H
 | .skip,Q,E,H,h => h
 | .ops l,Q,E,H,h => runItems_ok hc l E H (Res.sat_bind h)
 | .opsC _ _ _ _ _,Q,E,H,h => h.elim
 | .draw n l,Q,E,H,h => runD_ok hc l E _ (Res.sat_bind h)
 | .seq x y,Q,E,H,h => by
  refine runC_ok hc hf hcf x _ E H (Res.sat_mono (fun p hp => ?_) (Res.sat_bind h))
  obtain ⟨e,E',H'⟩ := p
  cases e with
  | normal => exact runC_ok hc hf hcf y Q E' H' hp
  | exit i => exact hp
  | ret => exact hp
 | .cond c x y,Q,E,H,h => by
  simp only [runC] at h
  have hx := runC_ok (fuel := fuel) (rn := rn) hc hf hcf x Q E H
  have hy := runC_ok (fuel := fuel) (rn := rn) hc hf hcf y Q E H
  show (match ev E c with | .bool true => wpC K DrawD rn x Q E H | .bool false => wpC K DrawD rn y Q E H | _ => False)
  revert h
  generalize ev E c = v
  intro h
  split at h
  ·exact hx h
  ·exact hy h
  ·exact h.elim
 | .block i x,Q,E,H,h => by
  refine runC_ok hc hf hcf x _ E H (Res.sat_mono (fun p hp => ?_) (Res.sat_bind h))
  obtain ⟨e,E',H'⟩ := p
  cases e with
  | normal => exact hp
  | exit j =>
   simp only at hp
   simp only [blockA]
   split
   ·rename_i e; rw [if_pos e] at hp; exact hp
   ·rename_i e; rw [if_neg e] at hp; exact hp
  | ret => exact hp
 | .loop x,Q,E,H,h => loopN_ok (fun Q E H hh => runC_ok hc hf hcf x Q E H hh) fuel E H h
 | .exit i,Q,E,H,h => h
 | .ret,Q,E,H,h => h
 | .bad,Q,E,H,h => h.elim
 | .rfunc f ps asg body,Q,E,H,h => by
  simp only [runC] at h
  by_cases hcond : (isLoop H rn && (match ev E f with | .func (.func g) _ _ => fns g | _ => false)) = true
  ·rw [if_pos hcond] at h
   simp only [Bool.and_eq_true] at hcond
   obtain ⟨h1,h2⟩ := hcond
   refine ⟨fun l hl => ?_,?_⟩
   ·subst hl
    simp only [isLoop] at h1
    split at h1
    ·exact ⟨_,by assumption⟩
    ·cases h1
   ·unfold callR
    split
    ·rename_i g first caps hv
     rw [hv] at h2 h
     refine ⟨hf g h2,hcf g first caps _ _ _ (Res.sat_mono (fun p hp => ?_) (Res.sat_bind h))⟩
     unfold endLoopA
     split at hp
     ·rename_i L hL
      rw [hL]
      split at hp
      ·rename_i hb
       refine ⟨fun e => (by rw [e] at hb; cases hb),?_⟩
       split at hp
       ·rename_i hp2; rw [hp2]; exact hp
       ·rename_i j hp2; rw [hp2]; exact hp
      ·exact hp.elim
     ·exact hp.elim
    ·rename_i hn
     exfalso
     split at h2
     ·rename_i hv; exact hn _ _ _ hv
     ·cases h2
  ·rw [if_neg hcond] at h; exact h.elim
def TabOk (P : Program) (G0 : Nat) (tab : Nat → Option AFunc) : Prop := ∀ f F,tab f = some F → Is P G0 f F
def SpecOk (K : Cx) (spec : Spec) : Prop := ∀ f s,spec f = some s → ∀ args H (Q : Value → Heap → Prop),(s args H).sat (fun p => Q p.1 p.2) → FC K f args H Q
theorem callN_ok {K : Cx} (hK : Cfg K) {tab : Nat → Option AFunc} (ht : TabOk K.P K.G0 tab) {spec : Spec} (hs : SpecOk K spec) : ∀ (n : Nat),CallOk K (callN tab spec n) ∧ ∀ g first caps args H (Q : Value → Heap → Prop),(callN tab spec n (.func (.func g) first caps) args H).sat (fun p => Q p.1 p.2) → FC K g (args ++ caps.toList) H Q
 | 0 => ⟨fun _ _ _ _ h => h.elim,fun _ _ _ _ _ _ h => h.elim⟩
 | n + 1 => by
  obtain ⟨ih1,ih2⟩ := callN_ok hK ht hs n
  have hf : ∀ g,(tab g).isSome = true → isFn K g := fun g hg => by
   cases hgt : tab g with
   | none => rw [hgt] at hg; cases hg
   | some F => exact (ht g F hgt).isFn
  have key : ∀ g first caps args H (Q : Value → Heap → Prop),(callN tab spec (n + 1) (.func (.func g) first caps) args H).sat (fun p => Q p.1 p.2) → FC K g (args ++ caps.toList) H Q := by
   intro g first caps args H Q h
   simp only [callN] at h
   cases hsp : spec g with
   | some s => rw [hsp] at h; exact hs g s hsp _ _ _ h
   | none =>
   rw [hsp] at h
   simp only at h
   split at h
   ·rename_i F hF
    split at h
    ·rename_i hl
     refine FC.of hK (ht g F hF) hl ?_
     rw [← funcP_mk F _ _ hl]
     refine runC_ok ih1 hf ih2 F.body _ _ H (Res.sat_mono (fun p hp => ?_) (Res.sat_bind h))
     obtain ⟨e,E',H'⟩ := p
     have fin : Res.sat (fun (p : Value × Heap) => Q p.1 p.2) (match resA E' H' F.results with | some vs => .ok (tupleA vs,H') | none => .fail) → ∃ vs,resA E' H' F.results = some vs ∧ Q (tupleA vs) H' := by
      intro hq
      split at hq
      ·rename_i vs hvs; exact ⟨vs,hvs,hq⟩
      ·exact hq.elim
     cases e with
     | normal => exact fin hp
     | exit i => exact hp.elim
     | ret => exact fin hp
    ·exact h.elim
   ·exact h.elim
  refine ⟨fun fv args H Q h => ?_,key⟩
  unfold callP
  split
  ·exact key _ _ _ _ _ _ h
  ·rename_i l first caps
   simp only [callN] at h
   refine round_sound (fun rn => draw_ok hK.draw hK.mixed rn) ?_
   unfold roundP
   split at h
   ·rename_i L hL
    rw [hL]
    simp only
    split at h
    ·rename_i hl
     refine ⟨hl,runC_ok ih1 hf ih2 L.assign _ _ H (Res.sat_mono (fun p hp => ?_) (Res.sat_bind h))⟩
     obtain ⟨e,E',H'⟩ := p
     cases e with
     | normal =>
      simp only at hp ⊢
      unfold beginA
      split at hp
      ·rename_i L1 hL1
       rw [hL1]
       simp only
       split at hp
       ·rename_i hr
        refine ⟨(by cases hs : L1.state <;> rw [hs] at hr <;> first | rfl | cases hr),runC_ok ih1 hf ih2 L.body _ _ _ (Res.sat_mono (fun q hq => ?_) (Res.sat_bind hp))⟩
        unfold endA
        split at hq
        ·rename_i L3 hL3; rw [hL3]; exact hq
        ·exact hq.elim
       ·exact hp.elim
      ·exact hp.elim
     | exit i => exact hp.elim
     | ret => exact hp.elim
    ·exact h.elim
   ·exact h.elim
  ·rename_i h1 h2
   exfalso
   cases n <;> (unfold callN at h; split at h <;> first | (exact h1 _ _ _ rfl) | (exact h2 _ _ _ rfl) | exact h.elim)
end Go.Ae
namespace Go.Ae
open Go
def idxL (l : List UInt8) (c : UInt8) : Int := match l.findIdx? (· == c) with
 | some i => i
 | none => -1
def spIndexByte (args : List Value) (H : Heap) : Res (Value × Heap) := match args with
 | [.string s,.int .u8 c] => .ok (.int .i64 (idxL s.data.toList c.toNat.toUInt8),H)
 | _ => .fail
def spCount (args : List Value) (H : Heap) : Res (Value × Heap) := match args with
 | [.string s,.int .u8 c] => .ok (.int .i64 (s.data.toList.countP (· == c.toNat.toUInt8)),H)
 | _ => .fail
def cmpL : List UInt8 → List UInt8 → Int
 | [],[] => 0
 | [],_ :: _ => -1
 | _ :: _,[] => 1
 | a :: l,b :: m => if a = b then cmpL l m else if a < b then -1 else 1
def spCmp (args : List Value) (H : Heap) : Res (Value × Heap) := match args with
 | [.string s,.string t] => .ok (.int .i64 (cmpL s.data.toList t.data.toList),H)
 | _ => .fail
theorem fc_extern {K : Cx} {f : FuncId} {fn : Func} {e : Array Value → Sem Value} (hf : K.P.funcs[f]? = some fn) (hname : (fn.name == "runtime.NumGoroutine") = false)
  (hb : fn.body.isNone = true) (hn : Extern.findNext fn = none) (he : Extern.find fn = some e) {args : List Value} {H : Heap} {Q : Value → Heap → Prop} {v : Value} (hfl : flat v = true)
  (hrun : ∀ (ρ : Nm) (w : World) (args' : Array Value),VRs ρ args args'.toList → (e args').run K.P w = .ok v w) (hq : Q v H) : FC K f args H Q := by
 intro ρ w args' hr ha
 rw [run_callFunc_extern hf hname hb hn he,hrun ρ w args' ha]
 exact ⟨v,ρ,H,hq,VR.flat hfl,hr,.refl _ _ _⟩
theorem get_bang (s : ByteArray) (i : Nat) (h : i < s.size) : s[i]! = s.data.toList[i]'(by rw [Array.length_toList]; exact h) := by
 have : s[i]! = s[i] := getElem!_pos s i h
 rw [this]; rfl
theorem find_range (l : List UInt8) (p : UInt8 → Bool) (q : Nat → Bool) (h : ∀ i (hi : i < l.length),q i = p l[i]) : (List.range l.length).find? q = l.findIdx? p := by
 induction l generalizing q with
 | nil => rfl
 | cons x l ih =>
  rw [List.length_cons,List.range_succ_eq_map,List.find?_cons,List.findIdx?_cons]
  have h0 := h 0 (by simp)
  simp only [List.getElem_cons_zero] at h0
  rw [h0]
  cases p x with
  | true => rfl
  | false =>
   simp only [Bool.false_eq_true,if_false]
   rw [List.find?_map,ih (q ∘ Nat.succ) (fun i hi => by have := h (i + 1) (by simp; omega); simpa using this)]
theorem firstIdx_eq (s : ByteArray) (c : UInt8) : firstIdx s c = idxL s.data.toList c := by
 unfold firstIdx idxL
 have hl : s.data.toList.length = s.size := by rw [Array.length_toList]; rfl
 have := find_range s.data.toList (· == c) (fun i => s[i]! == c) (fun i hi => by rw [get_bang s i (by omega)])
 rw [hl] at this
 rw [this]
 cases s.data.toList.findIdx? (· == c) <;> rfl
theorem args_two {ρ : Nm} {a b : Value} {args' : Array Value} (h : VRs ρ [a,b] args'.toList) : ∃ a' b',args' = #[a',b'] ∧ VR ρ a a' ∧ VR ρ b b' := by
 obtain ⟨l⟩ := args'
 cases h with
 | cons ha ht => cases ht with
  | cons hb ht => cases ht; exact ⟨_,_,rfl,ha,hb⟩
theorem spIndexByte_ok {K : Cx} {f : FuncId} {fn : Func} (hf : K.P.funcs[f]? = some fn) (hname : (fn.name == "runtime.NumGoroutine") = false)
  (hb : fn.body.isNone = true) (hn : Extern.findNext fn = none) (he : Extern.find fn = some Extern.BytealgIndexByte.indexByte) {args : List Value} {H : Heap} {Q : Value → Heap → Prop}
  (h : (spIndexByte args H).sat fun p => Q p.1 p.2) : FC K f args H Q := by
 unfold spIndexByte at h
 split at h
 ·rename_i s c
  refine fc_extern hf hname hb hn he (v := .int .i64 (idxL s.data.toList c.toNat.toUInt8)) rfl (fun ρ w args' ha => ?_) h
  obtain ⟨a,b,rfl,h1,h2⟩ := args_two ha
  cases h1; cases h2
  rw [run_indexByte_string,firstIdx_eq]
 ·exact h.elim
def cmpR (l m : List UInt8) (q : Nat → Bool) (lt : Nat → Bool) : Int := match (List.range (min l.length m.length)).find? q with
 | some i => if lt i then -1 else 1
 | none => if l.length < m.length then -1 else if l.length > m.length then 1 else 0
theorem cmpR_eq : ∀ (l m : List UInt8) (q lt : Nat → Bool),(∀ i (h1 : i < l.length) (h2 : i < m.length),q i = (l[i] != m[i]) ∧ lt i = decide (l[i] < m[i])) → cmpR l m q lt = cmpL l m
 | [],[],q,lt,h => rfl
 | [],b :: m,q,lt,h => by simp [cmpR,cmpL]
 | a :: l,[],q,lt,h => by simp [cmpR,cmpL]
 | a :: l,b :: m,q,lt,h => by
  have h0 := h 0 (by simp) (by simp)
  simp only [List.getElem_cons_zero] at h0
  have ih := cmpR_eq l m (q ∘ Nat.succ) (lt ∘ Nat.succ) (fun i h1 h2 => by
   have := h (i + 1) (by simp; omega) (by simp; omega)
   simpa using this)
  unfold cmpR cmpL
  rw [List.length_cons,List.length_cons,show min (l.length + 1) (m.length + 1) = min l.length m.length + 1 from by omega,List.range_succ_eq_map,List.find?_cons,h0.1]
  by_cases hab : a = b
  ·rw [if_pos hab]
   subst hab
   simp only [bne_self_eq_false]
   rw [List.find?_map]
   rw [← ih]
   unfold cmpR
   cases (List.range (min l.length m.length)).find? (q ∘ Nat.succ) with
   | none => simp only [Option.map_none,Nat.add_lt_add_iff_right,gt_iff_lt]
   | some i => rfl
  ·rw [if_neg hab]
   have : (a != b) = true := by simpa using hab
   rw [this]
   simp only [h0.2,decide_eq_true_eq]
theorem cmp_eq (a b : ByteArray) : Extern.BytealgCompare.cmp a b = cmpL a.data.toList b.data.toList := by
 have ha : a.data.toList.length = a.size := by rw [Array.length_toList]; rfl
 have hb : b.data.toList.length = b.size := by rw [Array.length_toList]; rfl
 rw [← cmpR_eq a.data.toList b.data.toList (fun i => a[i]! != b[i]!) (fun i => decide (a[i]! < b[i]!)) (fun i h1 h2 => by
  rw [get_bang a i (by omega),get_bang b i (by omega)]; exact ⟨rfl,rfl⟩)]
 unfold Extern.BytealgCompare.cmp cmpR
 rw [ha,hb]
 cases (List.range (min a.size b.size)).find? (fun i => a[i]! != b[i]!) with
 | none => rfl
 | some i => simp only [decide_eq_true_eq]
theorem run_compare {P : Program} (a b : ByteArray) (w : World) : (Extern.BytealgCompare.compare #[.string a,.string b]).run P w = .ok (.int .i64 (Extern.BytealgCompare.cmp a b)) w := by
 change Sem.run P (do pure (goInt (Extern.BytealgCompare.cmp (← Extern.Bytes.bytesOf (.string a)) (← Extern.Bytes.bytesOf (.string b))))) w = _
 simp only [Extern.Bytes.bytesOf,Sem.run_bind,Sem.run_pure,Result.andThen,goInt]
theorem spCmp_ok {K : Cx} {f : FuncId} {fn : Func} (hf : K.P.funcs[f]? = some fn) (hname : (fn.name == "runtime.NumGoroutine") = false)
  (hb : fn.body.isNone = true) (hn : Extern.findNext fn = none) (he : Extern.find fn = some Extern.BytealgCompare.compare) {args : List Value} {H : Heap} {Q : Value → Heap → Prop}
  (h : (spCmp args H).sat fun p => Q p.1 p.2) : FC K f args H Q := by
 unfold spCmp at h
 split at h
 ·rename_i s t
  refine fc_extern hf hname hb hn he (v := .int .i64 (cmpL s.data.toList t.data.toList)) rfl (fun ρ w args' ha => ?_) h
  obtain ⟨a,b,rfl,h1,h2⟩ := args_two ha
  cases h1; cases h2
  rw [run_compare,cmp_eq]
 ·exact h.elim
theorem foldl_loop {β : Type} (f : β → UInt8 → β) (as : ByteArray) : ∀ (i j : Nat) (b : β),i + j = as.size →
  (ByteArray.foldlM.loop (m := _root_.Id) (fun x y => pure (f x y)) as as.size (Nat.le_refl _) i j b) = (as.data.toList.drop j).foldl f b := by
 intro i
 induction i with
 | zero =>
  intro j b hj
  rw [ByteArray.foldlM.loop.eq_1,dif_neg (by omega)]
  have hl : as.data.toList.length = as.size := by rw [Array.length_toList]; rfl
  rw [List.drop_eq_nil_of_le (by omega)]
  rfl
 | succ i ih =>
  intro j b hj
  rw [ByteArray.foldlM.loop.eq_1,dif_pos (by omega)]
  have hl : as.data.toList.length = as.size := by rw [Array.length_toList]; rfl
  have hd : as.data.toList.drop j = as[j]'(by omega) :: as.data.toList.drop (j + 1) := by
   rw [List.drop_eq_getElem_cons (by omega)]; rfl
  rw [hd,List.foldl_cons]
  exact ih (j + 1) (f b as[j]) (by omega)
theorem foldl_list {β : Type} (f : β → UInt8 → β) (b : β) (as : ByteArray) : as.foldl f b = as.data.toList.foldl f b := by
 unfold ByteArray.foldl ByteArray.foldlM
 simp only [Nat.le_refl,dif_pos]
 have := foldl_loop f as as.size 0 b (by omega)
 rw [List.drop_zero] at this
 exact this
theorem foldl_count (l : List UInt8) (c : UInt8) : ∀ n : Int,l.foldl (fun n x => if x == c then n + 1 else n) n = n + l.countP (· == c) := by
 induction l with
 | nil => intro n; simp
 | cons x l ih =>
  intro n
  rw [List.foldl_cons,List.countP_cons,ih]
  cases x == c <;> simp <;> omega
theorem run_count {P : Program} (s : ByteArray) (c : Int) (w : World) : (Extern.BytealgCount.count #[.string s,.int .u8 c]).run P w = .ok (.int .i64 (s.data.toList.countP (· == c.toNat.toUInt8))) w := by
 change Sem.run P (do
  let b ← Extern.Bytes.bytesOf (.string s)
  let c' ← Extern.Bytes.asByte (.int .u8 c)
  pure (goInt (b.foldl (fun n x => if x == c' then n + 1 else n) (0 : Nat)))) w = _
 simp only [Extern.Bytes.bytesOf,Extern.Bytes.asByte,Sem.run_bind,Sem.run_pure,Result.andThen,goInt]
 rw [foldl_list,foldl_count]
 simp
theorem spCount_ok {K : Cx} {f : FuncId} {fn : Func} (hf : K.P.funcs[f]? = some fn) (hname : (fn.name == "runtime.NumGoroutine") = false)
  (hb : fn.body.isNone = true) (hn : Extern.findNext fn = none) (he : Extern.find fn = some Extern.BytealgCount.count) {args : List Value} {H : Heap} {Q : Value → Heap → Prop}
  (h : (spCount args H).sat fun p => Q p.1 p.2) : FC K f args H Q := by
 unfold spCount at h
 split at h
 ·rename_i s c
  refine fc_extern hf hname hb hn he (v := .int .i64 (s.data.toList.countP (· == c.toNat.toUInt8))) rfl (fun ρ w args' ha => ?_) h
  obtain ⟨a,b,rfl,h1,h2⟩ := args_two ha
  cases h1; cases h2
  rw [run_count]
 ·exact h.elim
end Go.Ae
