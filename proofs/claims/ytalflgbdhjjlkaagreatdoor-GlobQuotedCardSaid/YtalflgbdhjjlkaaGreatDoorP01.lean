/- Part 1 of the proof of the law: Ae2, Ae3, Ae4. No condition. -/
import Derived.Test.YtalflgbdhjjlkaaGreatDoorP00
import Derived.Laws.BytesString
import Derived.Laws.Strings
import Derived.Laws.Entries
import Derived.Laws.Slices
set_option linter.all false
namespace Go.Ae
open Go
structure Cx where
 P : Program
 G0 : Nat
 N0 : Nat
 draw : Nat → Array Oper → Option (Nat × List DItem)
inductive St where
 | fresh | dead
 | live (c base size : Nat)
abbrev Nm := Nat → St
def PR (ρ : Nm) (b o : Nat) (a : Addr) : Prop := ρ b ≠ .fresh ∧ ∀ c base size,ρ b = .live c base size → a = ⟨c,base + o,none⟩
def BR (ρ : Nm) (b r : Nat) : Prop := ρ b ≠ .fresh ∧ ∀ c base size,ρ b = .live c base size → r = c
def PS (ρ : Nm) (b o sz cap : Nat) (a : Addr) : Prop :=
 ρ b ≠ .fresh ∧ ∀ c base size,ρ b = .live c base size → base + o + cap * sz ≤ size ∧ (a = ⟨c,base + o,none⟩ ∨ (cap = 0 ∧ ∃ o',o' ≤ o ∧ a = ⟨c,base + o',none⟩))
inductive VR (ρ : Nm) : Value → Value → Prop where
 | bool (b : Bool) : VR ρ (.bool b) (.bool b)
 | int (k : IntKind) (n : Int) : VR ρ (.int k n) (.int k n)
 | string (s : ByteArray) : VR ρ (.string s) (.string s)
 | ptrNil : VR ρ (.pointer none) (.pointer none)
 | ptr {b o : Nat} {a : Addr} (h : PR ρ b o a) : VR ρ (.pointer (some ⟨b,o,none⟩)) (.pointer (some a))
 | sliceNil : VR ρ (.slice none 0 0) (.slice none 0 0)
 | slice {b o sz n cap cap' : Nat} {a : Addr} (h : PS ρ b o sz cap' a) (h1 : n ≤ cap) (h2 : cap ≤ cap') (h3 : cap' ≤ maxRow) :
   VR ρ (.slice (some ⟨b,o,some sz⟩) n cap) (.slice (some a) n cap')
 | mapNil : VR ρ (.map none) (.map none)
 | map {b r : Nat} (h : BR ρ b r) : VR ρ (.map (some b)) (.map (some r))
 | nilFunc : VR ρ .nilFunc .nilFunc
 | nilIface : VR ρ .nilIface .nilIface
 | func (f : FuncId) {c c' : Array Value} (hs : c.size = c'.size) (h : ∀ i (h1 : i < c.size) (h2 : i < c'.size),VR ρ c[i] c'[i]) :
   VR ρ (.func (.func f) #[] c) (.func (.func f) #[] c')
 | yield {l l' : Nat} (h : BR ρ l l') : VR ρ (.func (.yield l) #[] #[]) (.func (.yield l') #[] #[])
 | agg {c c' : Array Value} (hs : c.size = c'.size) (h : ∀ i (h1 : i < c.size) (h2 : i < c'.size),VR ρ c[i] c'[i])
   (ho : ∀ i (h1 : i < c.size),c[i].oneCell' = true) : VR ρ (.agg c) (.agg c')
 | tuple {c c' : Array Value} (hs : c.size = c'.size) (h : ∀ i (h1 : i < c.size) (h2 : i < c'.size),VR ρ c[i] c'[i]) : VR ρ (.tuple c) (.tuple c')
inductive VRs (ρ : Nm) : List Value → List Value → Prop where
 | nil : VRs ρ [] []
 | cons {x y : Value} {xs ys : List Value} (h : VR ρ x y) (t : VRs ρ xs ys) : VRs ρ (x :: xs) (y :: ys)
theorem VR.oneCell {ρ : Nm} {x y : Value} (h : VR ρ x y) : y.oneCell' = x.oneCell' := by cases h <;> rfl
theorem VRs.length {ρ : Nm} {xs ys : List Value} (h : VRs ρ xs ys) : ys.length = xs.length := by
 induction h with
 | nil => rfl
 | cons _ _ ih => simp [ih]
theorem VRs.get {ρ : Nm} {xs ys : List Value} (h : VRs ρ xs ys) {i : Nat} {x : Value} (hx : xs[i]? = some x) : ∃ y,ys[i]? = some y ∧ VR ρ x y := by
 induction h generalizing i with
 | nil => simp at hx
 | cons hv _ ih =>
  cases i with
  | zero => simp at hx; subst hx; exact ⟨_,by simp,hv⟩
  | succ i => simp at hx; simpa using ih hx
theorem VRs.append {ρ : Nm} {xs ys xs' ys' : List Value} (h : VRs ρ xs ys) (h' : VRs ρ xs' ys') : VRs ρ (xs ++ xs') (ys ++ ys') := by
 induction h with
 | nil => exact h'
 | cons hv _ ih => exact .cons hv ih
theorem VRs.take {ρ : Nm} {xs ys : List Value} (h : VRs ρ xs ys) (n : Nat) : VRs ρ (xs.take n) (ys.take n) := by
 induction h generalizing n with
 | nil => simp; exact .nil
 | cons hv _ ih => cases n with
  | zero => simp; exact .nil
  | succ n => simp; exact .cons hv (ih n)
theorem VRs.drop {ρ : Nm} {xs ys : List Value} (h : VRs ρ xs ys) (n : Nat) : VRs ρ (xs.drop n) (ys.drop n) := by
 induction h generalizing n with
 | nil => simp; exact .nil
 | cons hv ht ih => cases n with
  | zero => exact .cons hv ht
  | succ n => simp; exact ih n
theorem VRs.set {ρ : Nm} {xs ys : List Value} (h : VRs ρ xs ys) (n : Nat) {x y : Value} (hv : VR ρ x y) : VRs ρ (xs.set n x) (ys.set n y) := by
 induction h generalizing n with
 | nil => exact .nil
 | cons hv' ht ih => cases n with
  | zero => exact .cons hv ht
  | succ n => exact .cons hv' (ih n)
theorem VRs.of_array {ρ : Nm} {c c' : Array Value} (hs : c.size = c'.size) (h : ∀ i (h1 : i < c.size) (h2 : i < c'.size),VR ρ c[i] c'[i]) : VRs ρ c.toList c'.toList := by
 obtain ⟨l⟩ := c
 obtain ⟨l'⟩ := c'
 simp at hs
 simp at h ⊢
 induction l generalizing l' with
 | nil => cases l' with
  | nil => exact .nil
  | cons _ _ => simp at hs
 | cons x l ih => cases l' with
  | nil => simp at hs
  | cons y l' =>
   refine .cons (h 0 (by simp) (by simp)) (ih l' (by simpa using hs) fun i h1 h2 => ?_)
   simpa using h (i + 1) (by simpa using h1) (by simpa using h2)
theorem VRs.to_array {ρ : Nm} {l l' : List Value} (h : VRs ρ l l') : l.toArray.size = l'.toArray.size ∧ ∀ i (h1 : i < l.toArray.size) (h2 : i < l'.toArray.size),VR ρ l.toArray[i] l'.toArray[i] := by
 refine ⟨by simp [h.length],fun i h1 h2 => ?_⟩
 have h1' : i < l.length := by simpa using h1
 obtain ⟨y,hy,hv⟩ := h.get (List.getElem?_eq_getElem h1')
 have h2' : i < l'.length := by simpa using h2
 rw [List.getElem?_eq_getElem h2'] at hy
 simp at hy
 simp
 rw [hy]; exact hv
theorem VRs.agg {ρ : Nm} {l l' : List Value} (h : VRs ρ l l') (ho : ∀ x ∈ l,x.oneCell' = true) : VR ρ (.agg l.toArray) (.agg l'.toArray) :=
 .agg h.to_array.1 h.to_array.2 fun i h1 => ho _ (by simp)
theorem VRs.tuple {ρ : Nm} {l l' : List Value} (h : VRs ρ l l') : VR ρ (.tuple l.toArray) (.tuple l'.toArray) := .tuple h.to_array.1 h.to_array.2
theorem VR.agg_inv {ρ : Nm} {c : Array Value} {y : Value} (h : VR ρ (.agg c) y) : ∃ c',y = .agg c' ∧ VRs ρ c.toList c'.toList ∧ ∀ x ∈ c.toList,x.oneCell' = true := by
 cases h with
 | agg hs h ho => exact ⟨_,rfl,.of_array hs h,fun x hx => by
   obtain ⟨i,hi,rfl⟩ := List.getElem_of_mem hx
   exact ho i (by simpa using hi)⟩
theorem VR.tuple_inv {ρ : Nm} {c : Array Value} {y : Value} (h : VR ρ (.tuple c) y) : ∃ c',y = .tuple c' ∧ VRs ρ c.toList c'.toList := by
 cases h with
 | tuple hs h => exact ⟨_,rfl,.of_array hs h⟩
theorem VR.undef {ρ : Nm} : VR ρ undef undef := .tuple rfl (fun i h1 _ => by simp at h1)
theorem VR.cells {ρ : Nm} {x y : Value} (h : VR ρ x y) : VRs ρ x.cells.toList y.cells.toList := by
 cases h with
 | agg hs h ho => exact .of_array hs h
 | _ => exact .cons (by first | exact .bool _ | exact .int _ _ | exact .string _ | exact .ptrNil | exact .ptr ‹_› | exact .sliceNil | exact .slice ‹_› ‹_› ‹_› ‹_› | exact .mapNil | exact .map ‹_› | exact .nilFunc | exact .nilIface | exact .func _ ‹_› ‹_› | exact .yield ‹_› | exact .tuple ‹_› ‹_›) .nil
theorem VR.cells_one {ρ : Nm} {x y : Value} (h : VR ρ x y) (hs : storable x = true) : ∀ z ∈ x.cells.toList,z.oneCell' = true := by
 cases h with
 | agg hsz h ho => intro z hz; obtain ⟨i,hi,rfl⟩ := List.getElem_of_mem hz; exact ho i (by simpa [Value.cells] using hi)
 | tuple _ _ => simp [storable] at hs
 | _ => intro z hz; simp [Value.cells] at hz; subst hz; rfl
def Ext (ρ ρ' : Nm) : Prop := ∀ b,ρ b ≠ .fresh → ρ' b = ρ b ∨ ρ' b = .dead
theorem Ext.refl (ρ : Nm) : Ext ρ ρ := fun _ _ => .inl rfl
theorem Ext.trans {a b c : Nm} (h : Ext a b) (h' : Ext b c) : Ext a c := fun x hx => by
 rcases h x hx with e | e
 ·rcases h' x (by rw [e]; exact hx) with e' | e'
  ·exact .inl (e'.trans e)
  ·exact .inr e'
 ·rcases h' x (by rw [e]; simp) with e' | e'
  ·exact .inr (e'.trans e)
  ·exact .inr e'
theorem Ext.named {ρ ρ' : Nm} (h : Ext ρ ρ') {b : Nat} (hb : ρ b ≠ .fresh) : ρ' b ≠ .fresh := by
 rcases h b hb with e | e <;> rw [e]
 ·exact hb
 ·simp
theorem Ext.live {ρ ρ' : Nm} (h : Ext ρ ρ') {b c base size : Nat} (hb : ρ b ≠ .fresh) (hl : ρ' b = .live c base size) : ρ b = .live c base size := by
 rcases h b hb with e | e
 ·rw [← e]; exact hl
 ·rw [e] at hl; cases hl
theorem PR.mono {ρ ρ' : Nm} (he : Ext ρ ρ') {b o : Nat} {a : Addr} (h : PR ρ b o a) : PR ρ' b o a :=
 ⟨he.named h.1,fun c base size hl => h.2 c base size (he.live h.1 hl)⟩
theorem BR.mono {ρ ρ' : Nm} (he : Ext ρ ρ') {b r : Nat} (h : BR ρ b r) : BR ρ' b r :=
 ⟨he.named h.1,fun c base size hl => h.2 c base size (he.live h.1 hl)⟩
theorem PS.mono {ρ ρ' : Nm} (he : Ext ρ ρ') {b o sz cap : Nat} {a : Addr} (h : PS ρ b o sz cap a) : PS ρ' b o sz cap a :=
 ⟨he.named h.1,fun c base size hl => h.2 c base size (he.live h.1 hl)⟩
theorem VR.mono {ρ ρ' : Nm} (he : Ext ρ ρ') {x y : Value} (h : VR ρ x y) : VR ρ' x y := by
 induction h with
 | bool b => exact .bool b
 | int k n => exact .int k n
 | string s => exact .string s
 | ptrNil => exact .ptrNil
 | ptr h => exact .ptr (h.mono he)
 | sliceNil => exact .sliceNil
 | slice h h1 h2 h3 => exact .slice (h.mono he) h1 h2 h3
 | mapNil => exact .mapNil
 | map h => exact .map (h.mono he)
 | nilFunc => exact .nilFunc
 | nilIface => exact .nilIface
 | func f hs _ ih => exact .func f hs ih
 | yield h => exact .yield (h.mono he)
 | agg hs _ ho ih => exact .agg hs ih ho
 | tuple hs _ ih => exact .tuple hs ih
theorem VRs.mono {ρ ρ' : Nm} (he : Ext ρ ρ') {xs ys : List Value} (h : VRs ρ xs ys) : VRs ρ' xs ys := by
 induction h with
 | nil => exact .nil
 | cons hv _ ih => exact .cons (hv.mono he) ih
theorem VR.flat1 {ρ : Nm} {v : Value} (h : flat1 v = true) : VR ρ v v := by
 unfold Ae.flat1 at h
 split at h
 case h_5 n c => simp at h; obtain ⟨rfl,rfl⟩ := h; exact .sliceNil
 all_goals first | (cases h; done) | exact .bool _ | exact .int _ _ | exact .string _ | exact .ptrNil | exact .mapNil | exact .nilFunc | exact .nilIface
theorem flat1_one {v : Value} (h : flat1 v = true) : v.oneCell' = true := by
 unfold flat1 at h
 split at h <;> first | rfl | cases h
theorem VRs.flat {ρ : Nm} {l : List Value} (h : l.all Ae.flat1 = true) : VRs ρ l l := by
 induction l with
 | nil => exact .nil
 | cons x l ih => simp at h; exact .cons (.flat1 h.1) (ih (by simpa using h.2))
theorem VR.flat {ρ : Nm} {v : Value} (h : flat v = true) : VR ρ v v := by
 unfold Ae.flat at h
 split at h
 ·rename_i cs
  have := VRs.agg (ρ := ρ) (VRs.flat h) (fun x hx => flat1_one (List.all_eq_true.1 h x hx))
  simpa using this
 ·rename_i vs
  have hv : vs = #[] := by simpa using h
  subst hv; exact .undef
 ·exact .flat1 h
def cellsR (ρ : Nm) (cs : List Value) (C : Array Value) (base : Nat) : Prop :=
 ∀ i v,cs[i]? = some v → v.oneCell' = true ∧ ∃ v',C[base + i]? = some v' ∧ VR ρ v v'
theorem cellsR.mono {ρ ρ' : Nm} (he : Ext ρ ρ') {cs : List Value} {C : Array Value} {base : Nat} (h : cellsR ρ cs C base) : cellsR ρ' cs C base :=
 fun i v hv => let ⟨ho,v',h1,h2⟩ := h i v hv; ⟨ho,v',h1,h2.mono he⟩
def jumpCode : AJump → Code
 | .ret => .ret
 | .exit id => .exit id
def EnvR (ρ : Nm) (E : List Value) (T : Array Value) : Prop := VRs ρ E T.toList
structure LoopR (K : Cx) (ρ : Nm) (L : ALoop) (L' : Loop) : Prop where
 state : L'.state = L.state
 pending : L'.pending = L.pending.map jumpCode
 env : EnvR ρ L.env L'.tmps
 params : L'.params.toList = L.params
 assign : comp K.P K.G0 K.draw L'.assign = some L.assign
 body : comp K.P K.G0 K.draw L'.body = some L.body
theorem LoopR.mono {K : Cx} {ρ ρ' : Nm} (he : Ext ρ ρ') {L : ALoop} {L' : Loop} (h : LoopR K ρ L L') : LoopR K ρ' L L' :=
 { h with env := h.env.mono he }
structure EntryR (ρ : Nm) (e : Value × Value) (e' : MapEntry) : Prop where
 key : VR ρ e.1 e'.key
 val : VR ρ e.2 e'.val
def bornRises : List MapEntry → Prop
 | [] => True
 | e :: r => (∀ x ∈ r,e.born < x.born) ∧ bornRises r
structure MapR (ρ : Nm) (es : List (Value × Value)) (es' : List MapEntry) (clock : Nat) : Prop where
 size : es'.length = es.length
 entries : ∀ (i : Nat) (e : Value × Value),es[i]? = some e → ∃ e' : MapEntry,es'[i]? = some e' ∧ EntryR ρ e e'
 rises : bornRises es'
 below : ∀ x ∈ es',x.born < clock
theorem MapR.mono {ρ ρ' : Nm} (he : Ext ρ ρ') {es : List (Value × Value)} {es' : List MapEntry} {clock : Nat} (h : MapR ρ es es' clock) : MapR ρ' es es' clock :=
 { h with entries := fun i e hi => let ⟨e',h1,h2⟩ := h.entries i e hi; ⟨e',h1,h2.key.mono he,h2.val.mono he⟩ }
inductive ObjR (K : Cx) (ρ : Nm) (c base size : Nat) : AObj → Option Obj → Prop where
 | row {cs : List Value} {fn : Nat} {C : Array Value} {e : TypeId} {fz : Nat × Nat} (hc : K.N0 ≤ c) (h : cellsR ρ cs C base)
   (hf : ∀ i,fn ≤ i → ¬ (fz.1 ≤ base + i ∧ base + i < fz.2)) (hs : C.size = size) (hb : base + cs.length ≤ size) {ty : Option TypeId} (ht : ∀ t,ty = some t → e = t ∧ base = 0 ∧ fz.1 ≤ fz.2) : ObjR K ρ c base size (.row cs fn ty) (some (.cells C e fz))
 | ro {cs : List Value} {C : Array Value} {e : TypeId} {fz : Nat × Nat} (hc : c < K.N0) (h : cellsR ρ cs C base) (hs : C.size = size) (hb : base + cs.length ≤ size) : ObjR K ρ c base size (.ro cs) (some (.cells C e fz))
 | map {es : List (Value × Value)} {es' : Array MapEntry} {clock : Nat} (hc : K.N0 ≤ c) (hb : base = 0) (h : MapR ρ es es'.toList clock) :
   ObjR K ρ c base size (.map es) (some (.map es' clock))
 | loop {L : ALoop} {L' : Loop} (hc : K.N0 ≤ c) (hb : base = 0) (h : LoopR K ρ L L') : ObjR K ρ c base size (.loop L) (some (.loop L'))
theorem ObjR.mono {K : Cx} {ρ ρ' : Nm} (he : Ext ρ ρ') {c base size : Nat} {o : AObj} {x : Option Obj} (h : ObjR K ρ c base size o x) : ObjR K ρ' c base size o x := by
 cases h with
 | row hc h hf hs hb ht => exact .row hc (h.mono he) hf hs hb ht
 | ro hc h hs hb => exact .ro hc (h.mono he) hs hb
 | map hc hb h => exact .map hc hb (h.mono he)
 | loop hc hb h => exact .loop hc hb (h.mono he)
theorem ObjR.lt {K : Cx} {ρ : Nm} {c base size : Nat} {o : AObj} {w : World} (h : ObjR K ρ c base size o w.heap[c]?) : c < w.heap.size := by
 rcases Nat.lt_or_ge c w.heap.size with hl | hl
 ·exact hl
 ·rw [Array.getElem?_eq_none hl] at h; cases h
theorem ObjR.ro_lt {K : Cx} {ρ : Nm} {c base size : Nat} {cs : List Value} {x : Option Obj} (h : ObjR K ρ c base size (.ro cs) x) : c < K.N0 := by
 cases h; assumption
theorem ObjR.n0 {K : Cx} {ρ : Nm} {c base size : Nat} {o : AObj} {x : Option Obj} (h : ObjR K ρ c base size o x) (hr : o.rw = true) : K.N0 ≤ c := by
 cases h <;> first | assumption | (cases hr)
structure Rel (K : Cx) (ρ : Nm) (H : Heap) (w : World) : Prop where
 objs : ∀ b o,H.get b = some o → ∃ c base size,ρ b = .live c base size ∧ ObjR K ρ c base size o w.heap[c]?
 fresh : ∀ b,H.next ≤ b → ρ b = .fresh
 inj : ∀ b b' o o' c base base' size size',H.get b = some o → H.get b' = some o' → o.rw = true → o'.rw = true → ρ b = .live c base size → ρ b' = .live c base' size' → b = b'
 base : K.N0 ≤ w.heap.size
 wf : H.rev.length = H.next
 glob : ∀ g,g < K.G0 → ρ g ≠ .fresh ∧ ∀ c base size,ρ g = .live c base size → c = g ∧ base = 0
theorem Rel.named {K : Cx} {ρ : Nm} {H : Heap} {w : World} (h : Rel K ρ H w) {b : Nat} {o : AObj} (hb : H.get b = some o) : ρ b ≠ .fresh := by
 obtain ⟨c,base,size,hl,_⟩ := h.objs b o hb
 rw [hl]; simp
def Img (ρ : Nm) (H : Heap) (c : Nat) : Prop := ∃ b o base size,H.get b = some o ∧ o.rw = true ∧ ρ b = .live c base size
structure Step (ρ : Nm) (H : Heap) (w : World) (ρ' : Nm) (H' : Heap) (w' : World) : Prop where
 ext : Ext ρ ρ'
 next : H.next ≤ H'.next
 hid : ∀ b,b < H.next → H.get b = none → ρ' b = ρ b ∧ H'.get b = none
 size : w.heap.size ≤ w'.heap.size
 keeps : ∀ c,c < w.heap.size → ¬ Img ρ H c → w'.heap[c]? = w.heap[c]? ∧ ¬ Img ρ' H' c
 os : w'.os = w.os
 tape : w'.tape = w.tape
 output : w'.output = w.output
theorem Step.refl (ρ : Nm) (H : Heap) (w : World) : Step ρ H w ρ H w := ⟨.refl _,Nat.le_refl _,fun _ _ h => ⟨rfl,h⟩,Nat.le_refl _,fun _ _ h => ⟨rfl,h⟩,rfl,rfl,rfl⟩
theorem Step.trans {ρ ρ1 ρ2 : Nm} {H H1 H2 : Heap} {w w1 w2 : World} (h : Step ρ H w ρ1 H1 w1) (h' : Step ρ1 H1 w1 ρ2 H2 w2) : Step ρ H w ρ2 H2 w2 :=
 ⟨h.ext.trans h'.ext,Nat.le_trans h.next h'.next,fun b hb hn => by
  obtain ⟨e1,n1⟩ := h.hid b hb hn
  obtain ⟨e2,n2⟩ := h'.hid b (Nat.lt_of_lt_of_le hb h.next) n1
  exact ⟨e2.trans e1,n2⟩,Nat.le_trans h.size h'.size,fun c hc hi => by
  obtain ⟨e1,n1⟩ := h.keeps c hc hi
  obtain ⟨e2,n2⟩ := h'.keeps c (Nat.lt_of_lt_of_le hc h.size) n1
  exact ⟨e2.trans e1,n2⟩,h'.os.trans h.os,h'.tape.trans h.tape,h'.output.trans h.output⟩
theorem Rel.drew {K : Cx} {ρ : Nm} {H : Heap} {w : World} (h : Rel K ρ H w) : Rel K ρ H w.drew := ⟨h.objs,h.fresh,h.inj,h.base,h.wf,h.glob⟩
theorem Rel.same {K : Cx} {ρ : Nm} {H : Heap} {w w' : World} (h : Rel K ρ H w) (e : w'.heap = w.heap) : Rel K ρ H w' :=
 ⟨by rw [e]; exact h.objs,h.fresh,h.inj,by rw [e]; exact h.base,h.wf,h.glob⟩
theorem Step.same {ρ : Nm} {H : Heap} {w w' : World} (e : w'.heap = w.heap) (h1 : w'.os = w.os) (h2 : w'.tape = w.tape) (h3 : w'.output = w.output) : Step ρ H w ρ H w' :=
 ⟨.refl _,Nat.le_refl _,fun _ _ h => ⟨rfl,h⟩,by rw [e]; exact Nat.le_refl _,fun _ _ h => ⟨by rw [e],h⟩,h1,h2,h3⟩
def setN (ρ : Nm) (b : Nat) (s : St) : Nm := fun x => if x = b then s else ρ x
@[simp] theorem setN_same (ρ : Nm) (b : Nat) (s : St) : setN ρ b s b = s := by simp [setN]
theorem setN_ne (ρ : Nm) {b x : Nat} (s : St) (h : x ≠ b) : setN ρ b s x = ρ x := by simp [setN,h]
theorem Ext.setN {ρ : Nm} {b : Nat} {s : St} (h : ρ b = .fresh) : Ext ρ (setN ρ b s) := fun x hx => by
 have : x ≠ b := fun e => hx (e ▸ h)
 exact .inl (setN_ne ρ s this)
theorem Ext.kill (ρ : Nm) (b : Nat) : Ext ρ (Ae.setN ρ b .dead) := fun x _ => by
 by_cases e : x = b
 ·subst e; exact .inr (by simp)
 ·exact .inl (setN_ne ρ _ e)
theorem Rel.add {K : Cx} {ρ : Nm} {H H' : Heap} {w : World} (h : Rel K ρ H w) {N : Nat} {o : AObj} {x : Obj} {size : Nat} (ha : Adds H N o H') (hfr : ρ N = .fresh) (hg : K.G0 ≤ N)
  (ho : ObjR K (setN ρ N (.live w.heap.size 0 size)) w.heap.size 0 size o (some x)) :
  Rel K (setN ρ N (.live w.heap.size 0 size)) H' (w.alloc x) ∧
   ∀ ρ0 H0 w0,Step ρ0 H0 w0 ρ H w → H0.next ≤ N → Step ρ0 H0 w0 (setN ρ N (.live w.heap.size 0 size)) H' (w.alloc x) := by
 have hext : Ext ρ (setN ρ N (.live w.heap.size 0 size)) := Ext.setN hfr
 have hnew : (w.alloc x).heap[w.heap.size]? = some x := World.alloc_heap_new w x
 have hold : ∀ c,c < w.heap.size → (w.alloc x).heap[c]? = w.heap[c]? := fun c hc => by
  show (w.heap.push x)[c]? = _
  rw [Array.getElem?_push,if_neg (by omega)]
 have cases' : ∀ {b : Nat} {y : AObj},H'.get b = some y → (b = N ∧ y = o) ∨ (b ≠ N ∧ H.get b = some y) := by
  intro b y hy
  by_cases e : b = N
  ·subst e; rw [ha.same] at hy; cases hy; exact .inl ⟨rfl,rfl⟩
  ·rw [ha.other b e] at hy; exact .inr ⟨e,hy⟩
 refine ⟨⟨?_,?_,?_,?_,ha.wf,?_⟩,?_⟩
 ·intro b o' hb
  rcases cases' hb with ⟨rfl,rfl⟩ | ⟨hne,hb'⟩
  ·exact ⟨_,_,_,setN_same _ _ _,by rw [hnew]; exact ho⟩
  ·obtain ⟨c,base,sz,hl,hobj⟩ := h.objs b o' hb'
   refine ⟨c,base,sz,by rw [setN_ne _ _ hne]; exact hl,?_⟩
   rw [hold c hobj.lt]; exact hobj.mono hext
 ·intro b hb
  obtain ⟨h1,h2⟩ := ha.lt b hb
  rw [setN_ne _ _ h2]; exact h.fresh b h1
 ·intro b b' o1 o2 c base base' s1 s2 h1 h2 r1 r2 l1 l2
  rcases cases' h1 with ⟨e1,_⟩ | ⟨n1,g1⟩ <;> rcases cases' h2 with ⟨e2,_⟩ | ⟨n2,g2⟩
  ·exact e1.trans e2.symm
  ·subst e1
   rw [setN_same] at l1
   rw [setN_ne _ _ n2] at l2
   obtain ⟨c',base'',sz,hl,hobj⟩ := h.objs b' o2 g2
   rw [hl] at l2
   cases l1; cases l2
   exact absurd hobj.lt (by omega)
  ·subst e2
   rw [setN_same] at l2
   rw [setN_ne _ _ n1] at l1
   obtain ⟨c',base'',sz,hl,hobj⟩ := h.objs b o1 g1
   rw [hl] at l1
   cases l1; cases l2
   exact absurd hobj.lt (by omega)
  ·rw [setN_ne _ _ n1] at l1
   rw [setN_ne _ _ n2] at l2
   exact h.inj b b' o1 o2 c base base' s1 s2 g1 g2 r1 r2 l1 l2
 ·simp; have := h.base; omega
 ·intro g hgl
  rw [setN_ne _ _ (by omega)]; exact h.glob g hgl
 ·intro ρ0 H0 w0 S hN
  refine ⟨S.ext.trans hext,Nat.le_trans S.next ha.next,fun b hb hn => ?_,by have := S.size; simp; omega,fun c hc hi => ?_,S.os,S.tape,S.output⟩
  ·obtain ⟨e1,n1⟩ := S.hid b hb hn
   have hne : b ≠ N := by omega
   rw [setN_ne _ _ hne,ha.other b hne]
   exact ⟨e1,n1⟩
  ·obtain ⟨e1,n1⟩ := S.keeps c hc hi
   have hlt : c < w.heap.size := Nat.lt_of_lt_of_le hc S.size
   refine ⟨(hold c hlt).trans e1,?_⟩
   rintro ⟨b,o',base,sz,hb,hr,hl⟩
   rcases cases' hb with ⟨rfl,rfl⟩ | ⟨hne,hb'⟩
   ·rw [setN_same] at hl; cases hl; omega
   ·rw [setN_ne _ _ hne] at hl; exact n1 ⟨b,o',base,sz,hb',hr,hl⟩
theorem Rel.turn {K : Cx} {ρ : Nm} {H : Heap} {w w' : World} (h : Rel K ρ H w) {b c base size : Nat} {o o' : AObj} (hb : H.get b = some o) (hrw : o.rw = true)
  (hl : ρ b = .live c base size) (hsize : w'.heap.size = w.heap.size) (hother : ∀ k,k ≠ c → w'.heap[k]? = w.heap[k]?) (ho : ObjR K ρ c base size o' w'.heap[c]?)
  (h1 : w'.os = w.os) (h2 : w'.tape = w.tape) (h3 : w'.output = w.output) :
  Rel K ρ (H.set b (some o')) w' ∧ Step ρ H w ρ (H.set b (some o')) w' := by
 refine ⟨⟨?_,?_,?_,by rw [hsize]; exact h.base,Heap.wf_set _ _ h.wf,h.glob⟩,⟨.refl _,by simp,fun b' hb' hn => ⟨rfl,?_⟩,by omega,?_,h1,h2,h3⟩⟩
 ·intro b' x hx
  rcases Heap.get_set_cases hb hx with ⟨rfl,e⟩ | ⟨hne,hx'⟩
  ·cases e; exact ⟨c,base,size,hl,ho⟩
  ·obtain ⟨c',base',sz,hl',hobj⟩ := h.objs b' x hx'
   refine ⟨c',base',sz,hl',?_⟩
   by_cases hc : c' = c
   ·exfalso
    subst hc
    cases hxr : x.rw with
    | true => exact hne (h.inj b' b x o c' base' base sz size hx' hb hxr hrw hl' hl)
    | false =>
     obtain ⟨c2,base2,sz2,hl2,hobj2⟩ := h.objs b o hb
     rw [hl2] at hl; cases hl
     have := hobj2.n0 hrw
     cases x with
     | ro cs => have := hobj.ro_lt; omega
     | _ => cases hxr
   ·rw [hother c' hc]; exact hobj
 ·intro b' hb'; rw [Heap.next_set] at hb'; exact h.fresh b' hb'
 ·intro b1 b2 o1 o2 c1 base1 base2 s1 s2 g1 g2 r1 r2 l1 l2
  have f1 : ∃ x,H.get b1 = some x ∧ x.rw = true := by
   rcases Heap.get_set_cases hb g1 with ⟨rfl,_⟩ | ⟨_,g⟩
   ·exact ⟨o,hb,hrw⟩
   ·exact ⟨o1,g,r1⟩
  have f2 : ∃ x,H.get b2 = some x ∧ x.rw = true := by
   rcases Heap.get_set_cases hb g2 with ⟨rfl,_⟩ | ⟨_,g⟩
   ·exact ⟨o,hb,hrw⟩
   ·exact ⟨o2,g,r2⟩
  obtain ⟨x1,k1,q1⟩ := f1
  obtain ⟨x2,k2,q2⟩ := f2
  exact h.inj b1 b2 x1 x2 c1 base1 base2 s1 s2 k1 k2 q1 q2 l1 l2
 ·have hne : b ≠ b' := fun e => by subst e; rw [hb] at hn; cases hn
  rw [Heap.get_set_ne _ _ hne]; exact hn
 ·intro k hk hi
  have hne : k ≠ c := fun e => hi (e ▸ ⟨b,o,base,size,hb,hrw,hl⟩)
  refine ⟨hother k hne,?_⟩
  rintro ⟨b',x,base',sz,hx,hr,hl'⟩
  rcases Heap.get_set_cases hb hx with ⟨rfl,_⟩ | ⟨_,g⟩
  ·rw [hl] at hl'; cases hl'; exact hne rfl
  ·exact hi ⟨b',x,base',sz,g,hr,hl'⟩
theorem Rel.kill {K : Cx} {ρ : Nm} {H : Heap} {w : World} (h : Rel K ρ H w) {b : Nat} {o : AObj} (hb : H.get b = some o) :
  Rel K (setN ρ b .dead) (H.set b none) w ∧ Step ρ H w (setN ρ b .dead) (H.set b none) w := by
 refine ⟨⟨?_,?_,?_,h.base,Heap.wf_set _ _ h.wf,?_⟩,⟨.kill _ _,by simp,fun b' hb' hn => ?_,Nat.le_refl _,fun c hc hi => ⟨rfl,?_⟩,rfl,rfl,rfl⟩⟩
 ·intro b' x hx
  rcases Heap.get_set_cases hb hx with ⟨_,e⟩ | ⟨hne,hx'⟩
  ·cases e
  ·obtain ⟨c',base',sz,hl',hobj⟩ := h.objs b' x hx'
   exact ⟨c',base',sz,by rw [setN_ne _ _ hne]; exact hl',hobj.mono (.kill _ _)⟩
 ·intro b' hb'
  rw [Heap.next_set] at hb'
  rw [setN_ne _ _ (by have := Heap.lt_of_get hb; omega)]; exact h.fresh b' hb'
 ·intro b1 b2 o1 o2 c1 base1 base2 s1 s2 g1 g2 r1 r2 l1 l2
  rcases Heap.get_set_cases hb g1 with ⟨_,e⟩ | ⟨n1,k1⟩
  ·cases e
  ·rcases Heap.get_set_cases hb g2 with ⟨_,e⟩ | ⟨n2,k2⟩
   ·cases e
   ·rw [setN_ne _ _ n1] at l1; rw [setN_ne _ _ n2] at l2
    exact h.inj b1 b2 o1 o2 c1 base1 base2 s1 s2 k1 k2 r1 r2 l1 l2
 ·intro g hg
  by_cases e : g = b
  ·subst e; simp
  ·rw [setN_ne _ _ e]; exact h.glob g hg
 ·have hne : b' ≠ b := fun e => by subst e; rw [hb] at hn; cases hn
  rw [Heap.get_set_ne _ _ (Ne.symm hne),setN_ne _ _ hne]; exact ⟨rfl,hn⟩
 ·rintro ⟨b',x,base',sz,hx,hr,hl'⟩
  rcases Heap.get_set_cases hb hx with ⟨_,e⟩ | ⟨hne,g⟩
  ·cases e
  ·rw [setN_ne _ _ hne] at hl'; exact hi ⟨b',x,base',sz,g,hr,hl'⟩
theorem Rel.name {K : Cx} {ρ : Nm} {H : Heap} {w w' : World} (h : Rel K ρ H w) {c base size : Nat} {o' : AObj} (hg : K.G0 ≤ H.next) (hc : K.N0 ≤ c)
  (hfree : ¬ Img ρ H c) (hsize : w'.heap.size = w.heap.size) (hother : ∀ k,k ≠ c → w'.heap[k]? = w.heap[k]?) (ho : ObjR K (setN ρ H.next (.live c base size)) c base size o' w'.heap[c]?) :
  Rel K (setN ρ H.next (.live c base size)) (H.push o') w' := by
 have hfr : ρ H.next = .fresh := h.fresh _ (Nat.le_refl _)
 have hext : Ext ρ (setN ρ H.next (.live c base size)) := Ext.setN hfr
 refine ⟨?_,?_,?_,by rw [hsize]; exact h.base,Heap.wf_push _ h.wf,?_⟩
 ·intro b x hx
  rcases Heap.get_push_cases hx with ⟨rfl,rfl⟩ | ⟨hne,hx'⟩
  ·exact ⟨_,_,_,setN_same _ _ _,ho⟩
  ·obtain ⟨c',base',sz,hl',hobj⟩ := h.objs b x hx'
   refine ⟨c',base',sz,by rw [setN_ne _ _ hne]; exact hl',?_⟩
   have hne' : c' ≠ c := by
    rintro rfl
    cases hxr : x.rw with
    | true => exact hfree ⟨b,x,base',sz,hx',hxr,hl'⟩
    | false => cases x with
     | ro cs => have := hobj.ro_lt; omega
     | _ => cases hxr
   rw [hother c' hne']; exact hobj.mono hext
 ·intro b hb
  rw [Heap.next_push] at hb
  rw [setN_ne _ _ (by omega)]; exact h.fresh b (by omega)
 ·intro b b' o1 o2 c1 base1 base' s1 s2 h1 h2 r1 r2 l1 l2
  rcases Heap.get_push_cases h1 with ⟨e1,_⟩ | ⟨n1,g1⟩ <;> rcases Heap.get_push_cases h2 with ⟨e2,_⟩ | ⟨n2,g2⟩
  ·exact e1.trans e2.symm
  ·subst e1
   rw [setN_same] at l1
   rw [setN_ne _ _ n2] at l2
   cases l1
   exact absurd ⟨b',o2,_,_,g2,r2,l2⟩ hfree
  ·subst e2
   rw [setN_same] at l2
   rw [setN_ne _ _ n1] at l1
   cases l2
   exact absurd ⟨b,o1,_,_,g1,r1,l1⟩ hfree
  ·rw [setN_ne _ _ n1] at l1
   rw [setN_ne _ _ n2] at l2
   exact h.inj b b' o1 o2 c1 base1 base' s1 s2 g1 g2 r1 r2 l1 l2
 ·intro g hgl
  rw [setN_ne _ _ (by omega)]; exact h.glob g hgl
end Go.Ae
namespace Go.Ae
open Go
theorem Addr_add (c o n : Nat) : Addr.add ⟨c,o,none⟩ n = ⟨c,o + n,none⟩ := by
 unfold Addr.add; split
 ·rename_i h; subst h; rfl
 ·rfl
theorem cell_at {w : World} {c o : Nat} {C : Array Value} {e : TypeId} {fz : Nat × Nat} (h : w.heap[c]? = some (.cells C e fz)) : w.cell? ⟨c,o,none⟩ = C[o]? := by
 simp [World.cell?,h]
theorem frozen_at {w : World} {c o : Nat} {C : Array Value} {e : TypeId} {fz : Nat × Nat} (h : w.heap[c]? = some (.cells C e fz)) :
  w.frozen? ⟨c,o,none⟩ = (decide (fz.1 ≤ o) && decide (o < fz.2)) := by
 simp [World.frozen?,h]
theorem run_loadCellsFrom {P : Program} {w : World} {c o : Nat} : ∀ (l : List Value) (i : Nat) (acc : Array Value),
  (∀ (j : Nat) (v : Value),l[j]? = some v → w.cell? ⟨c,o + i + j,none⟩ = some v) →
  (loadCellsFrom ⟨c,o,none⟩ i l.length acc).run P w = .ok (acc ++ l.toArray) w
 | [],i,acc,_ => by simp [loadCellsFrom]
 | v :: l,i,acc,h => by
  have h0 : w.cell? ⟨c,o + i,none⟩ = some v := h 0 v (by simp)
  simp only [List.length_cons,loadCellsFrom,Sem.run_bind,Addr_add,run_load,h0,Result.andThen_ok]
  rw [run_loadCellsFrom l (i + 1) (acc.push v) (fun j u hj => by
   have := h (j + 1) u (by simpa using hj)
   rw [show o + (i + 1) + j = o + i + (j + 1) from by omega]; exact this)]
  congr 1
  apply Array.ext'
  simp
theorem run_loadCells {P : Program} {w : World} {c o n : Nat} (l : List Value) (hn : l.length = n) (h : ∀ (j : Nat) (v : Value),l[j]? = some v → w.cell? ⟨c,o + j,none⟩ = some v) :
  (loadCells ⟨c,o,none⟩ n).run P w = .ok l.toArray w := by
 subst hn
 unfold loadCells
 rw [run_loadCellsFrom l 0 #[] (by simpa using h)]
 simp
theorem cellsR.list {ρ : Nm} {cs : List Value} {C : Array Value} {base : Nat} (h : cellsR ρ cs C base) (off n : Nat) (hn : off + n ≤ cs.length) :
  ∃ l : List Value,l.length = n ∧ VRs ρ ((cs.drop off).take n) l ∧ ∀ (j : Nat) (v : Value),l[j]? = some v → C[base + off + j]? = some v := by
 induction n generalizing off with
 | zero => exact ⟨[],rfl,by simp; exact .nil,by simp⟩
 | succ n ih =>
  have hlt : off < cs.length := by omega
  obtain ⟨_,v',h1,h2⟩ := h off cs[off] (List.getElem?_eq_getElem hlt)
  obtain ⟨l,hl,hr,hc⟩ := ih (off + 1) (by omega)
  refine ⟨v' :: l,by simp [hl],?_,?_⟩
  ·rw [List.drop_eq_getElem_cons hlt,List.take_succ_cons]; exact .cons h2 hr
  ·intro j v hj
   cases j with
   | zero => simp at hj; subst hj; simpa using h1
   | succ j => simp at hj; rw [show base + off + (j + 1) = base + (off + 1) + j from by omega]; exact hc j v hj
theorem cellsR.one {ρ : Nm} {cs : List Value} {C : Array Value} {base : Nat} (h : cellsR ρ cs C base) (off n : Nat) : ∀ x ∈ (cs.drop off).take n,x.oneCell' = true := by
 intro x hx
 have hx' := List.mem_of_mem_drop (List.mem_of_mem_take hx)
 obtain ⟨i,hi,rfl⟩ := List.getElem_of_mem hx'
 exact (h i _ (List.getElem?_eq_getElem hi)).1
theorem cellsR.set {ρ : Nm} {cs : List Value} {C : Array Value} {base : Nat} (h : cellsR ρ cs C base) (i : Nat) {v v' : Value} (hv : VR ρ v v') (ho : v.oneCell' = true) :
  cellsR ρ (cs.set i v) (C.setIfInBounds (base + i) v') base := by
 intro j x hx
 by_cases e : i = j
 ·subst e
  rw [List.getElem?_set] at hx
  simp at hx
  obtain ⟨hlt,rfl⟩ := hx
  obtain ⟨_,u,h1,_⟩ := h i cs[i] (List.getElem?_eq_getElem hlt)
  have hb : base + i < C.size := by
   rcases Nat.lt_or_ge (base + i) C.size with hb | hb
   ·exact hb
   ·rw [Array.getElem?_eq_none hb] at h1; cases h1
  exact ⟨ho,v',by rw [Array.getElem?_setIfInBounds_self_of_lt hb],hv⟩
 ·rw [List.getElem?_set_ne e] at hx
  obtain ⟨h0,u,h1,h2⟩ := h j x hx
  exact ⟨h0,u,by rw [Array.getElem?_setIfInBounds_ne (by omega)]; exact h1,h2⟩
def setL (cs : List Value) (off : Nat) : List Value → List Value
 | [] => cs
 | v :: vs => setL (cs.set off v) (off + 1) vs
theorem setL_splice : ∀ (vs cs : List Value) (off : Nat),off + vs.length ≤ cs.length → setL cs off vs = splice cs off vs
 | [],cs,off,_ => by simp [setL,splice]
 | v :: vs,cs,off,h => by
  simp at h
  rw [setL,setL_splice vs (cs.set off v) (off + 1) (by simp; omega)]
  unfold splice
  have hlt : off < cs.length := by omega
  rw [List.take_succ_eq_append_getElem (by simpa using hlt)]
  have h1 : (cs.set off v)[off]'(by simpa using hlt) = v := by simp
  rw [h1,List.take_set_of_le (Nat.le_refl _)]
  simp only [List.append_assoc,List.cons_append,List.nil_append,List.length_cons]
  rw [show off + (vs.length + 1) = off + 1 + vs.length from by omega,List.drop_set_of_lt (by omega)]
theorem run_storeCells {P : Program} {ρ : Nm} {c base : Nat} {e : TypeId} {fz : Nat × Nat} : ∀ (vs vs' : List Value) (cs : List Value) (C : Array Value) (w : World) (o i : Nat),
  VRs ρ vs vs' → (∀ x ∈ vs,x.oneCell' = true) → w.heap[c]? = some (.cells C e fz) → cellsR ρ cs C base → o + i + vs.length ≤ cs.length →
  (∀ j,o + i ≤ j → ¬ (fz.1 ≤ base + j ∧ base + j < fz.2)) →
  ∃ (w' : World) (C' : Array Value),(storeCells ⟨c,base + o,none⟩ vs' i).run P w = .ok () w' ∧ w'.heap[c]? = some (.cells C' e fz) ∧ C'.size = C.size ∧ cellsR ρ (setL cs (o + i) vs) C' base ∧
   w'.heap.size = w.heap.size ∧ (∀ k,k ≠ c → w'.heap[k]? = w.heap[k]?) ∧ w'.os = w.os ∧ w'.tape = w.tape ∧ w'.output = w.output
 | [],vs',cs,C,w,o,i,hv,_,hw,hc,_,_ => by
  cases hv
  exact ⟨w,C,by simp [storeCells],hw,rfl,by simpa [setL] using hc,rfl,fun _ _ => rfl,rfl,rfl,rfl⟩
 | v :: vs,vs',cs,C,w,o,i,hv,ho,hw,hc,hlen,hf => by
  cases hv with
  | cons hv ht =>
   rename_i v' vs'
   simp at hlen
   have hlt : o + i < cs.length := by omega
   obtain ⟨_,u,h1,_⟩ := hc (o + i) cs[o + i] (List.getElem?_eq_getElem hlt)
   have hov : v.oneCell' = true := ho v (by simp)
   have hov' : v'.oneCell' = true := by rw [hv.oneCell]; exact hov
   have hcell : w.cell? ⟨c,base + o + i,none⟩ = some u := by rw [cell_at hw,show base + o + i = base + (o + i) from by omega]; exact h1
   have hfz : w.frozen? ⟨c,base + o + i,none⟩ = false := by
    rw [frozen_at hw]
    have := hf (o + i) (Nat.le_refl _)
    simp only [Bool.and_eq_false_iff,decide_eq_false_iff_not]
    rw [show base + o + i = base + (o + i) from by omega]
    omega
   have hw1 : (w.setCell ⟨c,base + o + i,none⟩ v').heap[c]? = some (.cells (C.setIfInBounds (base + (o + i)) v') e fz) := by
    simp [World.setCell,Array.getElem?_modify,hw,show base + o + i = base + (o + i) from by omega]
   obtain ⟨w',C',hr,hw',hz',hc',hs,hk,g1,g2,g3⟩ := run_storeCells (P := P) vs vs' (cs.set (o + i) v) _ (w.setCell ⟨c,base + o + i,none⟩ v') o (i + 1) ht (fun x hx => ho x (by simp [hx])) hw1
    (hc.set (o + i) hv hov) (by simp; omega) (fun j hj => hf j (by omega))
   refine ⟨w',C',?_,hw',by rw [hz']; simp,?_,?_,?_,g1,g2,g3⟩
   ·rw [storeCells]
    simp only [Sem.run_bind,Addr_add]
    rw [run_store _ _ _ _ _ hov',hcell]
    simp only [hfz,Bool.false_eq_true,if_false,Result.andThen_ok]
    exact hr
   ·rw [setL]; rw [show o + i + 1 = o + (i + 1) from by omega]; exact hc'
   ·rw [hs]; simp
   ·intro k hk'
    rw [hk k hk']
    simp only [World.setCell,Array.getElem?_modify]
    rw [if_neg (by omega)]
theorem Rel.cells {K : Cx} {ρ : Nm} {H : Heap} {w : World} (h : Rel K ρ H w) {b off n : Nat} {l : List Value} (hc : cellsAt H b off n = some l) {a : Addr} (ha : PR ρ b off a) :
  ∃ l' : List Value,l'.length = n ∧ VRs ρ l l' ∧ (∀ x ∈ l,x.oneCell' = true) ∧ a.spot = none ∧ (∀ (j : Nat) (v : Value),l'[j]? = some v → w.cell? ⟨a.block,a.off + j,none⟩ = some v) ∧
   ∃ C e fz,w.heap[a.block]? = some (.cells C e fz) ∧ a.off + n ≤ C.size := by
 unfold cellsAt at hc
 have key : ∀ (cs : List Value) (ob : AObj),H.get b = some ob → ((∃ fz ty,ob = .row cs fz ty) ∨ ob = .ro cs) → off + n ≤ cs.length → l = (cs.drop off).take n →
   ∃ l' : List Value,l'.length = n ∧ VRs ρ l l' ∧ (∀ x ∈ l,x.oneCell' = true) ∧ a.spot = none ∧ (∀ (j : Nat) (v : Value),l'[j]? = some v → w.cell? ⟨a.block,a.off + j,none⟩ = some v) ∧
    ∃ C e fz,w.heap[a.block]? = some (.cells C e fz) ∧ a.off + n ≤ C.size := by
  intro cs ob hb hob hle hl
  obtain ⟨c,base,size,hlive,hobj⟩ := h.objs b ob hb
  have ea := ha.2 c base size hlive
  subst ea
  have : ∃ C e fz,w.heap[c]? = some (.cells C e fz) ∧ cellsR ρ cs C base ∧ base + cs.length ≤ C.size := by
   generalize hx : w.heap[c]? = x at hobj
   rcases hob with ⟨fz,ty,rfl⟩ | rfl
   ·cases hobj with | row _ hc _ hs hb _ => exact ⟨_,_,_,rfl,hc,by omega⟩
   ·cases hobj with | ro _ hc hs hb => exact ⟨_,_,_,rfl,hc,by omega⟩
  obtain ⟨C,e,fz,hw,hcr,hsz⟩ := this
  obtain ⟨l',h1,h2,h3⟩ := hcr.list off n hle
  refine ⟨l',h1,by rw [hl]; exact h2,by rw [hl]; exact hcr.one off n,rfl,fun j v hj => ?_,C,e,fz,hw,?_⟩
  ·simp only
   rw [cell_at hw]; exact h3 j v hj
  ·simp only; omega
 split at hc
 ·rename_i cs fz ty hg
  split at hc
  ·rename_i hle; exact key cs _ hg (.inl ⟨_,_,rfl⟩) hle (by cases hc; rfl)
  ·cases hc
 ·rename_i cs hg
  split at hc
  ·rename_i hle; exact key cs _ hg (.inr rfl) hle (by cases hc; rfl)
  ·cases hc
 ·cases hc
theorem Rel.g0 {K : Cx} {ρ : Nm} {H : Heap} {w : World} (h : Rel K ρ H w) : K.G0 ≤ H.next := by
 rcases Nat.lt_or_ge H.next K.G0 with hl | hl
 ·exact absurd (h.fresh H.next (Nat.le_refl _)) (h.glob H.next hl).1
 ·exact hl
theorem Rel.newRowAt {K : Cx} {ρ : Nm} {H H' : Heap} {w : World} (h : Rel K ρ H w) {N : Nat} {l : List Value} {C : Array Value} {e : TypeId} {fn : Nat} {ty : Option TypeId} (hty : ∀ t,ty = some t → e = t) (ha : Adds H N (.row l fn ty) H') (hfr : ρ N = .fresh) (hg : K.G0 ≤ N)
  (hl : VRs ρ l (C.toList.take l.length)) (ho : ∀ x ∈ l,x.oneCell' = true) :
  ∃ ρ',Rel K ρ' H' (w.alloc (.cells C e)) ∧ (∀ ρ0 H0 w0,Step ρ0 H0 w0 ρ H w → H0.next ≤ N → Step ρ0 H0 w0 ρ' H' (w.alloc (.cells C e))) ∧ PR ρ' N 0 ⟨w.heap.size,0,none⟩ ∧
   ρ' = setN ρ N (.live w.heap.size 0 C.size) := by
 have hext : Ext ρ (setN ρ N (.live w.heap.size 0 C.size)) := Ext.setN hfr
 have hc : cellsR (setN ρ N (.live w.heap.size 0 C.size)) l C 0 := by
  intro i v hv
  obtain ⟨v',h1,h2⟩ := (hl.mono hext).get hv
  refine ⟨ho v (List.mem_of_getElem? hv),v',?_,h2⟩
  rw [List.getElem?_take] at h1
  split at h1
  ·simpa using h1
  ·cases h1
 have hlen := hl.length
 rw [List.length_take] at hlen
 obtain ⟨r,s⟩ := h.add (x := .cells C e) (size := C.size) ha hfr hg (.row h.base hc (fun i _ => by simp) rfl (by simp at hlen; omega) fun t h => ⟨hty t h,rfl,Nat.le_refl _⟩)
 refine ⟨_,r,s,⟨by simp,?_⟩,rfl⟩
 intro c base size hlv
 rw [setN_same] at hlv
 cases hlv
 rfl
theorem Rel.newRow {K : Cx} {ρ : Nm} {H : Heap} {w : World} (h : Rel K ρ H w) {l : List Value} {C : Array Value} {e : TypeId} (fn : Nat) {ty : Option TypeId} (hty : ∀ t,ty = some t → e = t) (hl : VRs ρ l (C.toList.take l.length)) (ho : ∀ x ∈ l,x.oneCell' = true) :
  ∃ ρ',Rel K ρ' (H.push (.row l fn ty)) (w.alloc (.cells C e)) ∧ Step ρ H w ρ' (H.push (.row l fn ty)) (w.alloc (.cells C e)) ∧ PR ρ' H.next 0 ⟨w.heap.size,0,none⟩ ∧
   ρ' H.next = .live w.heap.size 0 C.size := by
 obtain ⟨ρ',r,s,p,q⟩ := h.newRowAt (e := e) hty (Adds.push (.row l fn ty) h.wf) (h.fresh _ (Nat.le_refl _)) h.g0 hl ho
 exact ⟨ρ',r,s _ _ _ (.refl _ _ _) (Nat.le_refl _),p,by rw [q,setN_same]⟩
end Go.Ae
namespace Go.Ae
open Go
def Ran (K : Cx) (ρ : Nm) (H : Heap) (w : World) (v : Value) (H' : Heap) (r : Result Next) : Prop :=
 ∃ v' w' ρ',(r = .ok (.value v') w' ∨ (r = .ok .skip w' ∧ v' = undef)) ∧ VR ρ' v v' ∧ Rel K ρ' H' w' ∧ Step ρ H w ρ' H' w'
structure RanN (K : Cx) (ρ : Nm) (H : Heap) (w : World) (N : Nat) (v : Value) (H' : Heap) (r : Result Next) (v' : Value) (w' : World) (ρ' : Nm) : Prop where
 run : r = .ok (.value v') w'
 val : VR ρ' v v'
 rel : Rel K ρ' H' w'
 ext : Ext ρ ρ'
 only : ∀ b,b ≠ N → ρ' b = ρ b
 step : ∀ ρ0 H0 w0,Step ρ0 H0 w0 ρ H w → H0.next ≤ N → Step ρ0 H0 w0 ρ' H' w'
theorem ran_val {K : Cx} {ρ : Nm} {H : Heap} {w : World} (hr : Rel K ρ H w) {v v' : Value} {r : Result Next} (h : r = .ok (.value v') w) (hv : VR ρ v v') : Ran K ρ H w v H r :=
 ⟨v',w,ρ,.inl h,hv,hr,.refl _ _ _⟩
theorem ev_rel {K : Cx} {ρ : Nm} {H : Heap} {w : World} (hr : Rel K ρ H w) {a : Act} {E : List Value} (he : EnvR ρ E a.tmps) (x : Operand) (hx : okOpd K.G0 x = true) : VR ρ (ev E x) (a.eval x) := by
 cases x with
 | tmp t =>
  simp only [ev,Act.eval]
  have hg : a.tmps.getD t undef = (a.tmps.toList[t]?).getD undef := by simp
  rw [hg,List.getD_eq_getElem?_getD]
  cases h : E[t]? with
  | some v =>
   obtain ⟨v',h1,h2⟩ := VRs.get he h
   rw [h1]; exact h2
  | none =>
   have hl : E.length ≤ t := List.getElem?_eq_none_iff.1 h
   rw [List.getElem?_eq_none (by rw [VRs.length he]; exact hl)]
   exact .undef
 | const v => exact .flat hx
 | global g =>
  have hg : g < K.G0 := by simpa [okOpd] using hx
  obtain ⟨h1,h2⟩ := hr.glob g hg
  exact .ptr ⟨h1,fun c base size hl => by obtain ⟨rfl,rfl⟩ := h2 c base size hl; rfl⟩
 | func f => exact .func f rfl (fun i h1 _ => by simp at h1)
theorem VR.bool_inv {ρ : Nm} {b : Bool} {y : Value} (h : VR ρ (.bool b) y) : y = .bool b := by cases h; rfl
theorem VR.int_inv {ρ : Nm} {k : IntKind} {n : Int} {y : Value} (h : VR ρ (.int k n) y) : y = .int k n := by cases h; rfl
theorem VR.string_inv {ρ : Nm} {s : ByteArray} {y : Value} (h : VR ρ (.string s) y) : y = .string s := by cases h; rfl
theorem VR.ptr_inv {ρ : Nm} {p : Addr} {y : Value} (h : VR ρ (.pointer (some p)) y) : ∃ a,y = .pointer (some a) ∧ PR ρ p.block p.off a ∧ p.spot = none := by
 cases h with | ptr h => exact ⟨_,rfl,h,rfl⟩
theorem VR.slice_inv {ρ : Nm} {p : Option Addr} {n cap : Nat} {y : Value} (h : VR ρ (.slice p n cap) y) :
  (p = none ∧ n = 0 ∧ cap = 0 ∧ y = .slice none 0 0) ∨ (∃ q sz a cap',p = some q ∧ q.spot = some sz ∧ y = .slice (some a) n cap' ∧ PS ρ q.block q.off sz cap' a ∧ n ≤ cap ∧ cap ≤ cap' ∧ cap' ≤ maxRow) := by
 cases h with
 | sliceNil => exact .inl ⟨rfl,rfl,rfl,rfl⟩
 | slice h h1 h2 h3 => exact .inr ⟨_,_,_,_,rfl,rfl,rfl,h,h1,h2,h3⟩
theorem PS.pr {ρ : Nm} {b o sz cap : Nat} {a : Addr} (h : PS ρ b o sz cap a) (hc : 0 < cap) : PR ρ b o a :=
 ⟨h.1,fun c base size hl => by
  rcases (h.2 c base size hl).2 with e | ⟨e,_⟩
  ·exact e
  ·omega⟩
theorem abin_run {op : BinOp} {x y v : Value} (P : Program) (w : World) (t : TypeId) (h : abin op x y = some v) :
  (binOp op t x y).run P w = .ok v w ∧ flat1 v = true ∧ (∀ {ρ : Nm} {z : Value},VR ρ x z → z = x) ∧ (∀ {ρ : Nm} {z : Value},VR ρ y z → z = y) := by
 unfold abin at h
 split at h
 all_goals (try (simp at h; done))
 all_goals (try simp only [Option.ite_none_right_eq_some,Option.ite_none_left_eq_some,Option.some.injEq] at h)
 all_goals (refine ⟨?_,?_,fun q => by first | exact q.int_inv | exact q.string_inv,fun q => by first | exact q.int_inv | exact q.string_inv⟩)
 all_goals first
  |(obtain ⟨hc,rfl⟩ := h; rfl)
  |(subst h; rfl)
  |(obtain ⟨hc,rfl⟩ := h; simp [binOp,Op.shift,hc]; done)
  |(obtain ⟨hc,rfl⟩ := h; simp [binOp,Op.intArith,hc]; done)
  |(obtain ⟨hc,rfl⟩ := h; simp [binOp,Op.intDiv,hc]; done)
  |(obtain ⟨hc,rfl⟩ := h; simp [binOp,Op.intBits,hc]; done)
  |(obtain ⟨hc,rfl⟩ := h; simp [binOp,Op.intCmp,hc]; done)
  |(obtain ⟨hc,rfl⟩ := h; simp only [binOp,Op.stringOp]; rw [if_neg (by rw [IntKind.max_i64]; omega)]; rfl)
  |(subst h; simp [binOp,Op.stringOp,ByteArray.toList_eq]; done)
section ops
variable {K : Cx} {ρ : Nm} {H : Heap} {w : World} (hr : Rel K ρ H w) {a : Act} {E : List Value} (he : EnvR ρ E a.tmps) {o : Oper}
include hr he
theorem s_mv {x : Operand} (ho : o.op = .move x ∨ o.op = .assign x) (hx : okOpd K.G0 x = true) : Ran K ρ H w (ev E x) H ((execOp a.eval o).run K.P w) := by
 refine ran_val hr (v' := a.eval x) ?_ (ev_rel hr he x hx)
 rcases ho with h | h <;> simp [execOp,h]
theorem s_pick {c x y : Operand} (ho : o.op = .pick c x y) (hc : okOpd K.G0 c = true) (hx : okOpd K.G0 x = true) (hy : okOpd K.G0 y = true) {t : Bool} (ht : ev E c = .bool t) :
  Ran K ρ H w (if t then ev E x else ev E y) H ((execOp a.eval o).run K.P w) := by
 have h1 := ev_rel hr he c hc
 rw [ht] at h1
 refine ran_val hr (v' := if t then a.eval x else a.eval y) ?_ ?_
 ·simp [execOp,ho,h1.bool_inv,asBool]
 ·cases t
  ·exact ev_rel hr he y hy
  ·exact ev_rel hr he x hx
theorem ran_row {e : TypeId} {ty : Option TypeId} (hty : ∀ t,ty = some t → e = t) {l : List Value} {C : Array Value} {N : Nat} {H' : Heap} (ha : Adds H N (.row l 0 ty) H') (hfr : ρ N = .fresh) (hg : K.G0 ≤ N) (hl : VRs ρ l C.toList) (h1 : ∀ x ∈ l,x.oneCell' = true) {r : Result Next}
  (h : r = .ok (.value (.pointer (some ⟨w.heap.size,0,none⟩))) (w.alloc (.cells C e))) : ∃ v' w' ρ',RanN K ρ H w N (ptrTo N 0) H' r v' w' ρ' := by
 obtain ⟨ρ',g1,g2,g3,g4⟩ := hr.newRowAt (e := e) hty ha hfr hg (l := l) (C := C) (by rw [List.take_of_length_le (by rw [hl.length]; exact Nat.le_refl _)]; exact hl) h1
 exact ⟨_,_,ρ',h,.ptr g3,g1,by rw [g4]; exact Ext.setN hfr,fun b hb => by rw [g4,setN_ne _ _ hb],g2⟩
theorem s_new {e : TypeId} {z : Value} (ho : o.op = .alloc e) (hz : zeroOf K.P e = some z) {N : Nat} {H' : Heap} (ha : Adds H N (.row z.cells.toList 0 (some e)) H') (hfr : ρ N = .fresh) (hg : K.G0 ≤ N) :
  ∃ v' w' ρ',RanN K ρ H w N (ptrTo N 0) H' ((execOp a.eval o).run K.P w) v' w' ρ' := by
 unfold zeroOf at hz
 split at hz
 ·rename_i z' hz'
  split at hz
  ·rename_i hf
   simp at hf
   cases hz
   cases hi : K.P.info? e with
   | none => simp [hi] at hz'
   | some i =>
    simp [hi] at hz'
    refine ran_row hr he (e := e) (fun t h => by cases h; rfl) (C := z.cells) ha hfr hg (VR.flat hf.1).cells ((VR.flat (ρ := ρ) hf.1).cells_one hf.2) ?_
    simp [execOp,ho,Instr.alloc,zeroValue,typeInfo,hi,hz',newVar,newRow]
  ·cases hz
 ·cases hz
theorem s_box {e : TypeId} {x : Operand} (ho : o.op = .box e x) (hx : okOpd K.G0 x = true) (hs : storable (ev E x) = true) {N : Nat} {H' : Heap} (ha : Adds H N (.row (ev E x).cells.toList 0 (some e)) H') (hfr : ρ N = .fresh) (hg : K.G0 ≤ N) :
  ∃ v' w' ρ',RanN K ρ H w N (ptrTo N 0) H' ((execOp a.eval o).run K.P w) v' w' ρ' := by
 have h1 := ev_rel hr he x hx
 refine ran_row hr he (e := e) (fun t h => by cases h; rfl) (C := (a.eval x).cells) ha hfr hg h1.cells (h1.cells_one hs) ?_
 simp [execOp,ho,Instr.box,newVar,newRow]
theorem s_load {t : TypeId} {x : Operand} (ho : o.op = .load t x) (hx : okOpd K.G0 x = true) {sz : Option Nat} (hz : aggSz K.P t = some sz) {v : Value} {H' : Heap}
  (h : aop (.load x sz) E H = .ok (v,H')) : Ran K ρ H w v H' ((execOp a.eval o).run K.P w) := by
 have h1 := ev_rel hr he x hx
 simp only [aop] at h
 split at h
 ·rename_i p hp
  rw [hp] at h1
  obtain ⟨b,hb,hpr,hsp⟩ := h1.ptr_inv
  unfold aggSz at hz
  cases sz with
  | some n =>
   simp only at h
   split at h
   ·rename_i cs hcs
    cases h
    obtain ⟨l',g1,g2,g3,g4,g5,_⟩ := hr.cells hcs hpr
    refine ran_val hr (v' := .agg l'.toArray) ?_ (g2.agg g3)
    have hb' : b = ⟨b.block,b.off,none⟩ := by cases b; simp at g4; simp [g4]
    have key : (loadCells b n).run K.P w = .ok l'.toArray w := by rw [hb']; exact run_loadCells l' g1 g5
    split at hz
    ·rename_i fs hu
     cases hi : K.P.info? t with
     | none => simp [hi] at hz
     | some i => simp [hi] at hz; simp [execOp,ho,Instr.loadAt,hb,Instr.sureAddr,loadVar,isAgg,underlying,hu,sizeOf,typeInfo,hi,hz,key]
    ·rename_i fs hu
     cases hi : K.P.info? t with
     | none => simp [hi] at hz
     | some i => simp [hi] at hz; simp [execOp,ho,Instr.loadAt,hb,Instr.sureAddr,loadVar,isAgg,underlying,hu,sizeOf,typeInfo,hi,hz,key]
    ·cases hz
    ·cases hz
   ·cases h
  | none =>
   simp only at h
   split at h
   ·rename_i c cs hcs
    cases h
    obtain ⟨l',g1,g2,g3,g4,g5,_⟩ := hr.cells hcs hpr
    cases g2 with
    | cons hv ht =>
     rename_i y ys
     refine ran_val hr (v' := y) ?_ hv
     have hb' : b = ⟨b.block,b.off,none⟩ := by cases b; simp at g4; simp [g4]
     have key : w.cell? b = some y := by rw [hb']; exact g5 0 y (by simp)
     split at hz
     ·cases hi : K.P.info? t <;> simp [hi] at hz
     ·cases hi : K.P.info? t <;> simp [hi] at hz
     ·rename_i d h1 h2 hu
      have ha : (isAgg t).run K.P w = .ok false w := by
       simp only [isAgg,underlying,Sem.run_bind,run_program,Result.andThen_ok,hu]
       cases d <;> first | rfl | exact absurd rfl (h1 _) | exact absurd rfl (h2 _ _)
      simp [execOp,ho,Instr.loadAt,hb,Instr.sureAddr,loadVar,ha,key]
     ·cases hz
   ·cases h
 ·cases h
theorem s_store {t : TypeId} {x y : Operand} (ho : o.op = .store t x y) (hx : okOpd K.G0 x = true) (hy : okOpd K.G0 y = true) {sz : Nat} (hz : szOf K.P t = some sz) {v : Value} {H' : Heap}
  (h : aop (.store x y sz) E H = .ok (v,H')) : Ran K ρ H w v H' ((execOp a.eval o).run K.P w) := by
 have h1 := ev_rel hr he x hx
 have h2 := ev_rel hr he y hy
 simp only [aop] at h
 split at h
 ·rename_i p hp
  rw [hp] at h1
  obtain ⟨b,hb,hpr,hsp⟩ := h1.ptr_inv
  split at h
  ·rename_i cs fn ty hcs
   split at h
   ·rename_i hcond
    obtain ⟨q1,q2,q3,q4⟩ := hcond
    cases h
    obtain ⟨c,base,size,hlive,hobj⟩ := hr.objs _ _ hcs
    have eb := hpr.2 c base size hlive
    subst eb
    generalize hX : w.heap[c]? = X at hobj
    cases hobj with
    | row hc hcr hf hsz hbs hty =>
     rename_i C e fz
     have hlen : (a.eval y).cells.toList.length = sz := by rw [h2.cells.length]; exact q2
     obtain ⟨w',C',r1,r2,r0,r3,r4,r5,r6,r7,r8⟩ := run_storeCells (P := K.P) _ _ cs C w p.off 0 h2.cells (h2.cells_one q1) hX hcr (by rw [q2]; omega) (fun j hj => hf j (by omega))
     rw [Nat.add_zero,setL_splice _ _ _ (by rw [q2]; exact q3)] at r3
     have hn : (splice cs p.off (ev E y).cells.toList).length = cs.length := by
      unfold splice; simp only [List.length_append,List.length_take,List.length_drop]; rw [q2]; omega
     obtain ⟨R,S⟩ := hr.turn (w' := w') (o' := .row (splice cs p.off (ev E y).cells.toList) fn ty) hcs rfl hlive r4 r5
      (by rw [r2]; exact .row hc r3 hf (by rw [r0]; exact hsz) (by rw [hn]; exact hbs) hty) r6 r7 r8
     refine ⟨undef,w',ρ,.inr ⟨?_,rfl⟩,.undef,R,S⟩
     unfold szOf at hz
     cases hi : K.P.info? t with
     | none => simp [hi] at hz
     | some i =>
      simp [hi] at hz
      have hlen' : (a.eval y).cells.size = i.size := by rw [hz,← hlen]; simp
      simp [execOp,ho,Instr.storeAt,hb,Instr.sureAddr,storeVar,sizeOf,typeInfo,hi,hlen',r1]
   ·cases h
  ·cases h
 ·cases h
theorem s_nilck {x : Operand} (ho : o.op = .nilCheck x) (hx : okOpd K.G0 x = true) {v : Value} {H' : Heap}
  (h : aop (.nilck x) E H = .ok (v,H')) : Ran K ρ H w v H' ((execOp a.eval o).run K.P w) := by
 have h1 := ev_rel hr he x hx
 simp only [aop] at h
 split at h
 ·rename_i p hp
  rw [hp] at h1
  cases h
  obtain ⟨b,hb,hpr,hsp⟩ := h1.ptr_inv
  refine ran_val hr (v' := .pointer (some b)) ?_ (by rw [← hb]; exact h1)
  simp [execOp,ho,hb]
 ·rename_i f u c hp
  rw [hp] at h1
  cases h
  generalize hy : a.eval x = y at h1
  refine ran_val hr (v' := y) ?_ h1
  cases h1 <;> simp [execOp,ho,hy]
 ·cases h
theorem s_un {op : UnOp} {t : TypeId} {x : Operand} (ho : o.op = .unOp op t x) (hx : okOpd K.G0 x = true) {v : Value} {H' : Heap}
  (h : aop (.un op x) E H = .ok (v,H')) : Ran K ρ H w v H' ((execOp a.eval o).run K.P w) := by
 have h1 := ev_rel hr he x hx
 simp only [aop,ov] at h
 split at h
 ·rename_i u hu
  cases h
  unfold aun at hu
  split at hu <;> first | (cases hu; done) | skip
  ·rename_i k n hx'
   cases hu; rw [hx'] at h1
   exact ran_val hr (v' := .int k (k.wrap (0 - n))) (by simp [execOp,ho,h1.int_inv,Op.unary,Op.intArith]) (.int _ _)
  ·rename_i b hx'
   cases hu; rw [hx'] at h1
   exact ran_val hr (v' := .bool !b) (by simp [execOp,ho,h1.bool_inv,Op.unary]) (.bool _)
  ·rename_i k n hx'
   cases hu; rw [hx'] at h1
   exact ran_val hr (v' := .int k (k.wrap (BitVec.ofInt k.bits (if k.signed then -1 else k.max) ^^^ BitVec.ofInt k.bits n).toNat)) (by simp [execOp,ho,h1.int_inv,Op.unary,Op.intBits]) (.int _ _)
 ·cases h
theorem s_bin {op : BinOp} {t t' : TypeId} {x y : Operand} (ho : o.op = .binOp op t x y t') (hne : op ≠ .eql ∧ op ≠ .neq) (hx : okOpd K.G0 x = true) (hy : okOpd K.G0 y = true) {v : Value} {H' : Heap}
  (h : aop (.bin op x y) E H = .ok (v,H')) : Ran K ρ H w v H' ((execOp a.eval o).run K.P w) := by
 have h1 := ev_rel hr he x hx
 have h2 := ev_rel hr he y hy
 simp only [aop,ov] at h
 split at h
 ·rename_i u hu
  cases h
  have hg : ∀ p q,eqGuard op t x y p q = pure () := by
   intro p q; unfold eqGuard; cases op <;> first | rfl | (exact absurd rfl hne.1) | (exact absurd rfl hne.2)
  obtain ⟨k1,k2,k3,k4⟩ := abin_run K.P w t hu
  refine ran_val hr (v' := v) ?_ (.flat1 k2)
  have e1 := k3 h1
  have e2 := k4 h2
  simp [execOp,ho,hg,e1,e2,k1]
 ·cases h
end ops
end Go.Ae
