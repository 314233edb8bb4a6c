/- Part 6 of the proof of the law: Ae11, Ae12. No condition. -/
import Derived.Test.YtalflgbdhjjlkaaGreatDoorP05
import Derived.RangeFuncCalls
set_option linter.all false
namespace Go.Ae
open Go
inductive AExit where
 | normal
 | exit (id : Nat)
 | ret
def FX : Option Nat → Fence
 | none => Fence.wide
 | some l => Fence.wide.inRound l
theorem FX_round (l : Option Nat) : (FX l).round = l := by cases l <;> rfl
theorem FX_fenced (P : Program) (l : Option Nat) (m : Machine) : m.fenced P (FX l) := by cases l <;> exact fenced_wide P m
theorem FX_fn (l : Option Nat) (f : FuncId) : (FX l).fn f := by cases l <;> trivial
theorem FX_room (l : Option Nat) (n : Nat) : (FX l).room n := by cases l <;> exact room_wide n
theorem FX_depth (l : Option Nat) : (FX l).depth = none := by cases l <;> rfl
def Marks (n0 : Nat) (w : World) (ds : List Deferred) : Prop :=
 ∃ rs : List Nat,ds = rs.map (fun r => ({ target := .collected r,args := #[] } : Deferred)) ∧ rs.Nodup ∧ ∀ r ∈ rs,n0 ≤ r ∧ w.heap[r]? = some (.deferred (some []))
theorem not_img_deferred {K : Cx} {ρ : Nm} {H : Heap} {w : World} (hr : Rel K ρ H w) {r : Nat} {x : Option (List Deferred)} (h : w.heap[r]? = some (.deferred x)) : ¬ Img ρ H r := by
 rintro ⟨b,o,base,size,hb,_,hl⟩
 obtain ⟨c,base',size',hl',hobj⟩ := hr.objs b o hb
 rw [hl] at hl'; cases hl'
 rw [h] at hobj
 cases hobj
theorem Marks.step {K : Cx} {n0 : Nat} {ρ ρ' : Nm} {H H' : Heap} {w w' : World} {ds : List Deferred} (hr : Rel K ρ H w) (h : Marks n0 w ds) (s : Step ρ H w ρ' H' w') : Marks n0 w' ds := by
 obtain ⟨rs,h1,h2,h3⟩ := h
 refine ⟨rs,h1,h2,fun r hm => ?_⟩
 obtain ⟨q1,q2⟩ := h3 r hm
 refine ⟨q1,?_⟩
 have hlt : r < w.heap.size := by
  rcases Nat.lt_or_ge r w.heap.size with hl | hl
  ·exact hl
  ·rw [Array.getElem?_eq_none hl] at q2; cases q2
 rw [(s.keeps r hlt (not_img_deferred hr q2)).1]; exact q2
def RetPost (K : Cx) (ρ : Nm) (H : Heap) (w : World) (Q : Value → Heap → Prop) : Ending → World → Prop
 | .returned v',w' => ∃ v ρ' H',Q v H' ∧ VR ρ' v v' ∧ Rel K ρ' H' w' ∧ Step ρ H w ρ' H' w'
 | .outgrown,_ => False
 | .panicked _,_ => False
def Upon (P : Program) (R : Ending → World → Prop) : Result Next → Prop
 | .ok (.enter f args) w' => CallsIn Fence.wide 0 P f args w' R
 | .ok (.value v) w' => R (.returned v) w'
 | _ => False
def FC (K : Cx) (f : FuncId) (args : List Value) (H : Heap) (Q : Value → Heap → Prop) : Prop :=
 ∀ (ρ : Nm) (w : World) (args' : Array Value),Rel K ρ H w → VRs ρ args args'.toList → Upon K.P (RetPost K ρ H w Q) ((callFunc f args').run K.P w)
def RC (K : Cx) (l : Nat) (args : List Value) (H : Heap) (Q : Value → Heap → Prop) : Prop :=
 ∀ (ρ : Nm) (w : World) (l' : Nat) (args' : Array Value),Rel K ρ H w → BR ρ l l' → VRs ρ args args'.toList →
  ∃ fn tmps asg body,(Instr.yield l' args').run K.P w = .ok (.round l' fn tmps asg body) w ∧ RoundIn Fence.wide 0 K.P l' fn tmps asg body w (RetPost K ρ H w Q)
def callP (K : Cx) (fv : Value) (args : List Value) (H : Heap) (Q : Value → Heap → Prop) : Prop :=
 match fv with
 | .func (.func f) _ caps => FC K f (args ++ caps.toList) H Q
 | .func (.yield l) _ _ => RC K l args H Q
 | _ => False
def wantedA (g : Option (Tmp × Bool)) (E : List Value) : Bool :=
 match g with
 | none => true
 | some (t,want) => match E.getD t undef with
  | .bool b => b == want
  | _ => false
def wpItem (K : Cx) (it : AItem) (Q : List Value → Heap → Prop) (E : List Value) (H : Heap) : Prop :=
 if wantedA it.guard E then
  match it.op with
  | .call f args => callP K (ev E f) (args.map (ev E)) H fun v H' => Q (put E it.dst v) H'
  | .capq x => match ev E x with
   | .slice a _ cap => ∀ c : Nat,cap ≤ c ∧ (a = none → c = cap) → c ≤ maxRow → Q (put E it.dst (.int .i64 c)) H
   | _ => False
  | .appz s x sz zero => match appzO (ev E s) (ev E x) sz zero H with
   | some r => Q (put E it.dst r.1.1) r.1.2 ∧ Q (put E it.dst r.2.1) r.2.2
   | none => False
  | op => (aop op E H).sat fun r => Q (put E it.dst r.1) r.2
 else Q (put E it.dst undef) H
def wpItems (K : Cx) : List AItem → (List Value → Heap → Prop) → List Value → Heap → Prop
 | [],Q => Q
 | it :: r,Q => wpItem K it (wpItems K r Q)
def QR (K : Cx) (n0 : Nat) (ρ : Nm) (H : Heap) (w : World) (Q : AExit → List Value → Heap → Prop) : Exit → Act → World → Prop
 | .outgrown,_,_ => False
 | .panic _,_,_ => False
 | .goto _,_,_ => False
 | .normal,a',w' => ∃ ρ' H' E',Q .normal E' H' ∧ Step ρ H w ρ' H' w' ∧ Rel K ρ' H' w' ∧ EnvR ρ' E' a'.tmps ∧ Marks n0 w' a'.defers
 | .ret,a',w' => ∃ ρ' H' E',Q .ret E' H' ∧ Step ρ H w ρ' H' w' ∧ Rel K ρ' H' w' ∧ EnvR ρ' E' a'.tmps ∧ Marks n0 w' a'.defers
 | .exit id,a',w' => ∃ ρ' H' E',Q (.exit id) E' H' ∧ Step ρ H w ρ' H' w' ∧ Rel K ρ' H' w' ∧ EnvR ρ' E' a'.tmps ∧ Marks n0 w' a'.defers
theorem QR.pre {K : Cx} {n0 : Nat} {ρ ρ1 : Nm} {H H1 : Heap} {w w1 : World} {Q : AExit → List Value → Heap → Prop} (s : Step ρ H w ρ1 H1 w1) {e : Exit} {a : Act} {w' : World}
  (h : QR K n0 ρ1 H1 w1 Q e a w') : QR K n0 ρ H w Q e a w' := by
 cases e with
 | normal => obtain ⟨ρ',H',E',q,s',r⟩ := h; exact ⟨ρ',H',E',q,s.trans s',r⟩
 | ret => obtain ⟨ρ',H',E',q,s',r⟩ := h; exact ⟨ρ',H',E',q,s.trans s',r⟩
 | exit id => obtain ⟨ρ',H',E',q,s',r⟩ := h; exact ⟨ρ',H',E',q,s.trans s',r⟩
 | goto l => exact h
 | panic c => exact h
 | outgrown => exact h
def RoundR (ρ : Nm) (rn : Option Nat) (l' : Option Nat) : Prop :=
 match rn,l' with
 | none,none => True
 | some l,some r => BR ρ l r
 | _,_ => False
theorem RoundR.mono {ρ ρ' : Nm} (he : Ext ρ ρ') {rn l' : Option Nat} (h : RoundR ρ rn l') : RoundR ρ' rn l' := by
 unfold RoundR at *
 split at h
 ·trivial
 ·exact h.mono he
 ·exact h.elim
structure At (K : Cx) (rn : Option Nat) (n0 : Nat) (ρ : Nm) (E : List Value) (H : Heap) (w : World) (a : Act) (l' : Option Nat) : Prop where
 rel : Rel K ρ H w
 env : EnvR ρ E a.tmps
 marks : Marks n0 w a.defers
 n0 : n0 ≤ w.heap.size
 round : RoundR ρ rn l'
theorem At.step {K : Cx} {rn : Option Nat} {n0 : Nat} {ρ ρ1 : Nm} {E E1 : List Value} {H H1 : Heap} {w w1 : World} {a a1 : Act} {l' : Option Nat} (h : At K rn n0 ρ E H w a l') (s : Step ρ H w ρ1 H1 w1)
  (hr : Rel K ρ1 H1 w1) (he : EnvR ρ1 E1 a1.tmps) (hd : a1.defers = a.defers) : At K rn n0 ρ1 E1 H1 w1 a1 l' :=
 ⟨hr,he,by rw [hd]; exact h.marks.step h.rel s,Nat.le_trans h.n0 s.size,h.round.mono s.ext⟩
def Comes' (K : Cx) (Q : Exit → Act → World → Prop) (l' : Option Nat) (x : Item) (a : Act) (w : World) : Prop :=
 ∀ (b : Frame) (k : List Item) (cs : List Frame),b.roundOf = l' →
  ∃ e a' w',Q e a' w' ∧ ArrivesIn (Machine.fenced K.P (FX l')) K.P (lone (b.atR a (x :: k)) cs w) b k cs e a' w'
theorem comes_wpIn {K : Cx} {Q : Exit → Act → World → Prop} {l' : Option Nat} {c : Code} {a : Act} {w : World} : Comes' K Q l' (.code c) a w ↔ c.wpIn (FX l') 0 K.P Q a w :=
 ⟨fun h b k cs hb _ _ => h b k cs (by rw [hb,FX_round]),fun h b k cs hb => h b k cs (by rw [hb,FX_round]) (FX_fn _ _) (FX_room _ _)⟩
theorem put_rel {ρ : Nm} {E : List Value} {T : Array Value} (h : EnvR ρ E T) {v v' : Value} (hv : VR ρ v v') (dst : Option Tmp) (ds : List Deferred) : EnvR ρ (put E dst v) (({ tmps := T,defers := ds } : Act).put dst v').tmps := by
 cases dst with
 | none => exact h
 | some d =>
  simp only [put,Act.put,EnvR,Array.toList_setIfInBounds]
  exact VRs.set h d hv
theorem wanted_rel {ρ : Nm} {E : List Value} {a : Act} (he : EnvR ρ E a.tmps) {ops : Array Oper} {o : Oper} {g : Option (Tmp × Bool)} (hg : guardTmp ops o = some g) : Region.wanted o (yielded ops a.tmps) = wantedA g E := by
 unfold guardTmp at hg
 unfold Region.wanted
 split at hg
 ·rename_i h; rw [h]; cases hg; rfl
 ·rename_i j want h
  rw [h]
  split at hg
  ·rename_i t ht
   cases hg
   simp only [wantedA,yielded]
   rw [ht]
   simp only [Option.bind_some]
   rw [List.getD_eq_getElem?_getD]
   cases hE : E[t]? with
   | none =>
    have hl : E.length ≤ t := List.getElem?_eq_none_iff.1 hE
    have : a.tmps[t]? = none := by
     have h2 := VRs.length he
     rw [Array.getElem?_eq_none]
     simp at h2; omega
    rw [this]; rfl
   | some v =>
    obtain ⟨v',h1,h2⟩ := VRs.get he hE
    have h1' : a.tmps[t]? = some v' := by simpa using h1
    rw [h1']
    simp only [Option.getD_some]
    cases h2 <;> rfl
  ·cases hg
inductive ItemsR (K : Cx) (ops : Array Oper) : List Nat → List AItem → Prop where
 | nil : ItemsR K ops [] []
 | cons {i : Nat} {is : List Nat} {o : Oper} {it : AItem} {its : List AItem} (ho : ops[i]? = some o) (hop : compOp K.P K.G0 o.op = some it.op ∨ it.op = .stop) (hg : guardTmp ops o = some it.guard) (hd : o.dst = it.dst)
   (t : ItemsR K ops is its) : ItemsR K ops (i :: is) (it :: its)
theorem comp_call {K : Cx} {o : Oper} {f : Operand} {args : List Operand} (h : compOp K.P K.G0 o.op = some (.call f args)) :
  ∃ c,o.op = .call c ∧ c.callee = .value f ∧ c.args.toList = args ∧ okOpd K.G0 f = true ∧ ∀ x ∈ args,okOpd K.G0 x = true := by
 unfold compOp at h
 split at h
 ·cases h
 rename_i hall
 simp only [Bool.not_eq_true,Bool.not_eq_false'] at hall
 have hok : ∀ x ∈ o.op.operands.toList,okOpd K.G0 x = true := by
  have : okAll K.G0 o.op = true := by simpa using hall
  exact fun x hx => List.all_eq_true.1 this x hx
 split at h
 all_goals (try (cases h; done))
 all_goals (try ((repeat' split at h) <;> cases h; done))
 ·rename_i c hop
  split at h
  ·rename_i f' hc
   cases h
   refine ⟨c,hop,hc,rfl,hok _ (by rw [hop]; simp [Op.operands,Call.operands,hc]),fun x hx => hok _ (by rw [hop]; simp only [Op.operands,Call.operands,Array.toList_append]; exact List.mem_append_right _ hx)⟩
  ·unfold compBuiltin at h
   (repeat' split at h) <;> cases h
  ·cases h
theorem comp_cap {K : Cx} {o : Oper} {x : Operand} (h : compOp K.P K.G0 o.op = some (.capq x)) :
  ∃ args ts t e,o.op = .call { callee := .builtin .cap,args := args,argTypes := ts } ∧ args = #[x] ∧ ts[0]? = some t ∧ K.P.underlying t = some (.slice e) ∧ okOpd K.G0 x = true := by
 unfold compOp at h
 split at h
 ·cases h
 rename_i hall
 simp only [Bool.not_eq_true,Bool.not_eq_false'] at hall
 have hok : ∀ y ∈ o.op.operands.toList,okOpd K.G0 y = true := by
  have : okAll K.G0 o.op = true := by simpa using hall
  exact fun y hy => List.all_eq_true.1 this y hy
 split at h
 all_goals (try (cases h; done))
 all_goals (try ((repeat' split at h) <;> cases h; done))
 ·rename_i c hop
  split at h
  ·cases h
  ·rename_i b hc
   unfold compBuiltin at h
   split at h
   all_goals (try ((repeat' split at h) <;> cases h; done))
   ·rename_i y t hargs hts
    split at h
    ·rename_i e hu
     cases h
     refine ⟨c.args,c.argTypes,t,e,by rw [hop]; cases c; simp at hc; subst hc; rfl,by apply Array.ext'; simpa using hargs,by rw [← Array.getElem?_toList,hts]; rfl,hu,hok _ ?_⟩
     rw [hop]
     simp only [Op.operands,Call.operands,hc,Array.toList_append]
     exact List.mem_append_right _ (by rw [hargs]; simp)
    ·cases h
  ·cases h
theorem comp_appz {K : Cx} {o : Oper} {s x : Operand} {sz : Nat} {zero : List Value} (h : compOp K.P K.G0 o.op = some (.appz s x sz zero)) :
  ∃ args ts t tx e kn i z,o.op = .call { callee := .builtin .append,args := args,argTypes := ts } ∧ args.toList = [s,x] ∧ ts.toList = [t,tx] ∧ K.P.underlying t = some (.slice e) ∧ K.P.underlying tx = some (.int kn) ∧
   K.P.info? e = some i ∧ zeroOf K.P e = some z ∧ z.cells.toList.length = i.size ∧ 1 ≤ i.bytes ∧ i.bytes ≤ 4096 ∧ 1 ≤ i.size ∧ sz = i.size ∧ zero = z.cells.toList ∧ okOpd K.G0 s = true ∧ okOpd K.G0 x = true := by
 unfold compOp at h
 split at h
 ·cases h
 rename_i hall
 simp only [Bool.not_eq_true,Bool.not_eq_false'] at hall
 have hok : ∀ y ∈ o.op.operands.toList,okOpd K.G0 y = true := by
  have : okAll K.G0 o.op = true := by simpa using hall
  exact fun y hy => List.all_eq_true.1 this y hy
 split at h
 all_goals (try (cases h; done))
 all_goals (try ((repeat' split at h) <;> cases h; done))
 ·rename_i c hop
  split at h
  ·cases h
  ·rename_i b hc
   have hokc : ∀ x ∈ c.args.toList,okOpd K.G0 x = true := fun x hx => hok _ (by
    rw [hop]; simp only [Op.operands,Call.operands,Array.toList_append]; exact List.mem_append_right _ hx)
   unfold compBuiltin at h
   split at h
   all_goals (try ((repeat' split at h) <;> cases h; done))
   ·rename_i s' x' t tx hargs hts
    split at h
    ·(repeat' split at h) <;> cases h
    ·(repeat' split at h) <;> cases h
    ·rename_i e kn ht htx
     split at h
     ·rename_i i z hi hz
      split at h
      ·rename_i hcond
       cases h
       refine ⟨c.args,c.argTypes,t,tx,e,kn,i,z,by rw [hop]; cases c; simp at hc; subst hc; rfl,hargs,hts,ht,htx,hi,hz,hcond.2.2.2,hcond.1,hcond.2.1,hcond.2.2.1,rfl,rfl,hokc _ (by rw [hargs]; simp),hokc _ (by rw [hargs]; simp)⟩
      ·cases h
     ·cases h
    ·cases h
  ·cases h
theorem not_defer {K : Cx} {o : Oper} {op : AOp} (h : compOp K.P K.G0 o.op = some op) : ∀ c,o.op ≠ .defer c := by
 intro c hc
 unfold compOp at h
 rw [hc] at h
 split at h
 ·cases h
 ·cases h
end Go.Ae
namespace Go.Ae
open Go
abbrev St' (K : Cx) (l' : Option Nat) := StepsIn (Machine.fenced K.P (FX l')) K.P
theorem put_defers (a : Act) (d : Option Tmp) (v : Value) : (a.put d v).defers = a.defers := by cases d <;> rfl
theorem Upon.mono {P : Program} {R R' : Ending → World → Prop} (h : ∀ e w,R e w → R' e w) {r : Result Next} (hu : Upon P R r) : Upon P R' r := by
 unfold Upon at *
 split at hu
 ·exact ⟨hu.1,fun cs hc => let ⟨e,w',fr,hR,x⟩ := hu.2 cs hc; ⟨e,w',fr,h _ _ hR,x⟩⟩
 ·exact h _ _ hu
 ·exact hu.elim
theorem retPost_mono {K : Cx} {ρ : Nm} {H : Heap} {w : World} {Q Q' : Value → Heap → Prop} (h : ∀ v H,Q v H → Q' v H) {e : Ending} {w' : World} (hp : RetPost K ρ H w Q e w') : RetPost K ρ H w Q' e w' := by
 cases e with
 | outgrown => exact hp
 | panicked ch => exact hp.elim
 | returned v' => obtain ⟨v,ρ',H',q,r⟩ := hp; exact ⟨v,ρ',H',h _ _ q,r⟩
theorem FC.mono {K : Cx} {f : FuncId} {args : List Value} {H : Heap} {Q Q' : Value → Heap → Prop} (h : ∀ v H,Q v H → Q' v H) (hf : FC K f args H Q) : FC K f args H Q' := fun ρ w args' hr ha =>
 Upon.mono (fun e w' => retPost_mono h) (hf ρ w args' hr ha)
theorem RC.mono {K : Cx} {l : Nat} {args : List Value} {H : Heap} {Q Q' : Value → Heap → Prop} (h : ∀ v H,Q v H → Q' v H) (hf : RC K l args H Q) : RC K l args H Q' := fun ρ w l' args' hr hb ha =>
 let ⟨fn,tmps,asg,body,h1,h2⟩ := hf ρ w l' args' hr hb ha
 ⟨fn,tmps,asg,body,h1,h2.mono fun e w' => retPost_mono h⟩
theorem callP_mono {K : Cx} {fv : Value} {args : List Value} {H : Heap} {Q Q' : Value → Heap → Prop} (h : ∀ v H,Q v H → Q' v H) (hf : callP K fv args H Q) : callP K fv args H Q' := by
 unfold callP at *
 split at hf
 ·exact hf.mono h
 ·exact hf.mono h
 ·exact hf.elim
theorem sat_mono {α : Type} {Q Q' : α → Prop} {r : Out α} (h : ∀ x,Q x → Q' x) (hs : r.sat Q) : r.sat Q' := by
 cases r with
 | ok x => exact h _ hs
 | big => trivial
 | bad n => exact hs.elim
theorem wpItem_mono {K : Cx} {it : AItem} {Q Q' : List Value → Heap → Prop} (h : ∀ E H,Q E H → Q' E H) {E : List Value} {H : Heap} (hw : wpItem K it Q E H) : wpItem K it Q' E H := by
 unfold wpItem at *
 split at hw
 ·rename_i hg
  rw [if_pos hg]
  cases ho : it.op <;> rw [ho] at hw <;> first
   | exact callP_mono (fun v H => h _ _) hw
   | exact sat_mono (fun r => h _ _) hw
   |(simp only at hw ⊢; split at hw <;> first | exact hw.elim | exact fun c h1 h2 => h _ _ (hw c h1 h2) | exact ⟨h _ _ hw.1,h _ _ hw.2⟩)
 ·rename_i hg; rw [if_neg hg]; exact h _ _ hw
theorem item_arrive {K : Cx} {rn : Option Nat} {n0 : Nat} {ρ : Nm} {E : List Value} {H : Heap} {w : World} {a : Act} {l' : Option Nat} (hat : At K rn n0 ρ E H w a l')
  {ops : Array Oper} {i : Nat} {rest : List Nat} {o : Oper} {it : AItem} (ho : ops[i]? = some o) (hop : compOp K.P K.G0 o.op = some it.op ∨ it.op = .stop) (hg : guardTmp ops o = some it.guard) (hd : o.dst = it.dst)
  {Q : List Value → Heap → Prop} (h : wpItem K it Q E H) (b : Frame) (k : List Item) (cs : List Frame) (hb : b.roundOf = l') :
  False ∨
  ∃ a' w' ρ' H' E',St' K l' (lone (b.atR a (.inRegion ops (i :: rest) :: k)) cs w) (lone (b.atR a' (.inRegion ops rest :: k)) cs w') ∧ Q E' H' ∧ At K rn n0 ρ' E' H' w' a' l' ∧ Step ρ H w ρ' H' w' ∧ a'.defers = a.defers := by
 have hfen : ∀ m : Machine,m.fenced K.P (FX l') := FX_fenced _ _
 have hwant := wanted_rel hat.env hg
 unfold wpItem at h
 have hfin : ∀ v,(b.atR a (.inRegion ops (i :: rest) :: k)).finish v = b.atR (a.put o.dst v) (.inRegion ops rest :: k) := by
  intro v; rw [Frame.finish_atR,ho]; rfl
 by_cases hw : wantedA it.guard E = true
 ·rw [if_pos hw] at h
  rw [hw] at hwant
  replace hop : compOp K.P K.G0 o.op = some it.op := by
   rcases hop with hop | hop
   ·exact hop
   ·rw [hop] at h; exact h.elim
  have hnd := not_defer hop
  have hstep := stepGR_op (P := K.P) (b := b) (a := a) (k := k) (cs := cs) (w := w) (rest := rest) ho hwant
  rw [Oper.semAt_eq _ _ _ hnd] at hstep
  have plain : (∀ f l,it.op ≠ .call f l) → (aop it.op E H).sat (fun r => Q (put E it.dst r.1) r.2) →
    False ∨
    ∃ a' w' ρ' H' E',St' K l' (lone (b.atR a (.inRegion ops (i :: rest) :: k)) cs w) (lone (b.atR a' (.inRegion ops rest :: k)) cs w') ∧ Q E' H' ∧ At K rn n0 ρ' E' H' w' a' l' ∧ Step ρ H w ρ' H' w' ∧ a'.defers = a.defers := by
   intro hnc hs
   obtain ⟨s1,s2⟩ := aop_sound hat.rel hat.env hop hnc
   have asks : False → False := by
    exact _root_.id
   cases hr : aop it.op E H with
   | bad n => rw [hr] at hs; exact hs.elim
   | big => exact .inl (asks (s2 hr))
   | ok r =>
    obtain ⟨v,H'⟩ := r
    rw [hr] at hs
    rcases s1 v H' hr with ⟨v',w',ρ',hres,hv,R,S⟩ | ha
    ·right
     refine ⟨a.put o.dst v',w',ρ',H',put E it.dst v,?_,hs,?_,S,put_defers _ _ _⟩
     ·refine .one (hfen _) (step_lone_go ?_)
      rw [hstep,← hfin]
      rcases hres with hres | ⟨hres,hu⟩
      ·simp [stepG.apply,hres]
      ·subst hu; simp [stepG.apply,hres]
     ·refine hat.step S R ?_ (put_defers _ _ _)
      rw [hd]
      exact put_rel (VRs.mono S.ext hat.env) hv it.dst a.defers
    ·exact .inl (asks ha)
  cases hitop : it.op with
  | call f args =>
   rw [hitop] at h hop
   simp only at h
   obtain ⟨c,hoc,hcal,hargs,hf,hall⟩ := comp_call hop
   have hfv := ev_rel hat.rel hat.env f hf
   have hav : VRs ρ (args.map (ev E)) (c.args.map a.eval).toList := by
    rw [Array.toList_map,hargs]
    clear hargs h hop hitop
    induction args with
    | nil => exact .nil
    | cons x l ih => exact .cons (ev_rel hat.rel hat.env x (hall x (by simp))) (ih fun y hy => hall y (by simp [hy]))
   have hexec : execOp a.eval o = (do let d ← Deferred.ofValue (a.eval f) (c.args.map a.eval); invoke d.target d.args) := by
    simp only [execOp,hoc,resolve,hcal]
   have after : ∀ (v : Value) (ρ' : Nm) (H' : Heap) (v' : Value) (w' : World),Q (put E it.dst v) H' → VR ρ' v v' → Rel K ρ' H' w' → Step ρ H w ρ' H' w' →
     St' K l' (lone (b.atR a (.inRegion ops (i :: rest) :: k)) cs w) (lone ((b.atR a (.inRegion ops (i :: rest) :: k)).finish v') cs w') →
     ∃ a' w' ρ' H' E',St' K l' (lone (b.atR a (.inRegion ops (i :: rest) :: k)) cs w) (lone (b.atR a' (.inRegion ops rest :: k)) cs w') ∧ Q E' H' ∧ At K rn n0 ρ' E' H' w' a' l' ∧ Step ρ H w ρ' H' w' ∧ a'.defers = a.defers := by
    intro v ρ' H' v' w' hq hv R S hst
    rw [hfin] at hst
    refine ⟨_,w',ρ',H',_,hst,hq,hat.step S R ?_ (put_defers _ _ _),S,put_defers _ _ _⟩
    rw [hd]
    exact put_rel (VRs.mono S.ext hat.env) hv it.dst a.defers
   unfold callP at h
   split at h
   ·rename_i g first caps hfe
    rw [hfe] at hfv
    have hcl : ∃ caps',a.eval f = .func (.func g) #[] caps' ∧ VRs ρ caps.toList caps'.toList := by
     generalize a.eval f = y at hfv
     cases hfv with
     | func f hs hc => exact ⟨_,rfl,.of_array hs hc⟩
    obtain ⟨caps',hcf,hcaps⟩ := hcl
    have hu := h ρ w (#[] ++ c.args.map a.eval ++ caps') hat.rel (by simp only [Array.toList_append,List.nil_append]; exact hav.append hcaps)
    have hex : execOp a.eval o = callFunc g (#[] ++ c.args.map a.eval ++ caps') := by
     rw [hexec,hcf]; simp [Deferred.ofValue,invoke]
    have hrun : (execOp a.eval o).run K.P w = (callFunc g (#[] ++ c.args.map a.eval ++ caps')).run K.P w := by rw [hex]
    rw [← hrun] at hu
    unfold Upon at hu
    split at hu
    ·rename_i g2 args2 w2 hres
     obtain ⟨_,hcalls⟩ := hu
     obtain ⟨e,w3,fr,hR,hsteps,hfn,hleave⟩ := hcalls (b.atR a (.inRegion ops (i :: rest) :: k) :: cs) (room_wide _)
     have henter : step K.P (lone (b.atR a (.inRegion ops (i :: rest) :: k)) cs w) = .next (lone (Frame.enter K.P g2 args2 .normal) (b.atR a (.inRegion ops (i :: rest) :: k) :: cs) w2) :=
      step_lone_go (by rw [hstep]; simp [stepG.apply,hres,Frame.atR])
     cases e with
     | outgrown => exact hR.elim
     | panicked ch => exact hR.elim
     | returned v' =>
      obtain ⟨v,ρ',H',hq,hv,R,S⟩ := hR
      right
      refine after v ρ' H' v' w3 hq hv R S ?_
      have hst : St' K l' (lone (Frame.enter K.P g2 args2 .normal) (b.atR a (.inRegion ops (i :: rest) :: k) :: cs) w2) (lone fr (b.atR a (.inRegion ops (i :: rest) :: k) :: cs) w3) :=
       StepsIn.mono (fun m _ => hfen m) hsteps
      exact .head (hfen _) henter (hst.trans (.one (hfen _) (step_leave_returned hleave)))
    ·rename_i v' w2 hres
     obtain ⟨v,ρ',H',hq,hv,R,S⟩ := hu
     right
     refine after v ρ' H' v' w2 hq hv R S (.one (hfen _) (step_lone_go ?_))
     rw [hstep]; simp [stepG.apply,hres]
    ·exact hu.elim
   ·rename_i l first caps hfe
    rw [hfe] at hfv
    have hcl : ∃ l2,a.eval f = .func (.yield l2) #[] #[] ∧ BR ρ l l2 := by
     generalize a.eval f = y at hfv
     cases hfv with
     | yield hb => exact ⟨_,rfl,hb⟩
    obtain ⟨l2,hcf,hbr⟩ := hcl
    obtain ⟨fn,tmps,asg,body,hyield,hround⟩ := h ρ w l2 (c.args.map a.eval) hat.rel hbr hav
    have hrun : (execOp a.eval o).run K.P w = .ok (.round l2 fn tmps asg body) w := by
     rw [hexec,hcf]; simp [Deferred.ofValue,invoke,hyield]
    obtain ⟨_,hcalls⟩ := hround
    obtain ⟨e,w3,hR,hsteps⟩ := hcalls (b.atR a (.inRegion ops (i :: rest) :: k)) cs (room_wide _)
    have henter : step K.P (lone (b.atR a (.inRegion ops (i :: rest) :: k)) cs w) = .next (lone (Frame.round l2 fn tmps asg body .normal) (b.atR a (.inRegion ops (i :: rest) :: k) :: cs) w) :=
     step_lone_go (by rw [hstep]; simp [stepG.apply,hrun,Frame.atR])
    cases e with
    | outgrown => exact hR.elim
    | panicked ch => exact hR.elim
    | returned v' =>
     obtain ⟨v,ρ',H',hq,hv,R,S⟩ := hR
     right
     refine after v ρ' H' v' w3 hq hv R S ?_
     exact .head (hfen _) henter (StepsIn.mono (fun m _ => hfen m) hsteps)
   ·exact h.elim
  | capq x =>
   rw [hitop] at h hop
   simp only at h
   have hcap : ∃ args ts t e,o.op = .call { callee := .builtin .cap,args := args,argTypes := ts } ∧ args = #[x] ∧ ts[0]? = some t ∧ K.P.underlying t = some (.slice e) ∧ okOpd K.G0 x = true := comp_cap hop
   obtain ⟨args,ts,t,e,hoc,rfl,hts,hu,hokx⟩ := hcap
   have hxv := ev_rel hat.rel hat.env x hokx
   split at h
   ·rename_i q n cap hxe
    rw [hxe] at hxv
    have hval : ∃ q' cap',a.eval x = .slice q' n cap' ∧ (cap ≤ cap' ∧ (q = none → cap' = cap)) ∧ cap' ≤ maxRow := by
     rcases hxv.slice_inv with ⟨rfl,rfl,rfl,e1⟩ | ⟨_,_,b',cap',rfl,_,e1,_,_,c2,c3⟩
     ·exact ⟨_,_,e1,⟨Nat.le_refl _,fun _ => rfl⟩,by unfold maxRow; omega⟩
     ·exact ⟨_,_,e1,⟨c2,fun h => by cases h⟩,c3⟩
    obtain ⟨q',cap',e1,c2,c3⟩ := hval
    right
    have hrun : (execOp a.eval o).run K.P w = .ok (.value (.int .i64 cap')) w := by
     simp [execOp,hoc,resolve,invoke,builtin,Builtin.cap_,hts,e1,underlying,hu,goInt]
    refine ⟨a.put o.dst (.int .i64 cap'),w,ρ,H,put E it.dst (.int .i64 cap'),?_,h cap' c2 c3,?_,.refl _ _ _,put_defers _ _ _⟩
    ·refine .one (hfen _) (step_lone_go ?_)
     rw [hstep,← hfin]
     simp [stepG.apply,hrun]
    ·refine hat.step (.refl _ _ _) hat.rel ?_ (put_defers _ _ _)
     rw [hd]
     exact put_rel hat.env (.int _ _) it.dst a.defers
   ·exact h.elim
  | appz s x sz zero =>
   rw [hitop] at h hop
   simp only at h
   obtain ⟨args,ts,t,tx,e,kn,inf,z,hoc,hargs,hts,ht,htx,hi,hz,hzs,hb1,hb2,hs1,rfl,rfl,hoks,hokx⟩ := comp_appz hop
   split at h
   ·rename_i r hr
    right
    have fin : ∀ p : Value × Heap,Q (put E it.dst p.1) p.2 → Ran K ρ H w p.1 p.2 ((execOp a.eval o).run K.P w) →
      ∃ a' w' ρ' H' E',St' K l' (lone (b.atR a (.inRegion ops (i :: rest) :: k)) cs w) (lone (b.atR a' (.inRegion ops rest :: k)) cs w') ∧ Q E' H' ∧ At K rn n0 ρ' E' H' w' a' l' ∧ Step ρ H w ρ' H' w' ∧ a'.defers = a.defers := by
     rintro p hq ⟨v',w',ρ',hres,hv,R,S⟩
     refine ⟨a.put o.dst v',w',ρ',p.2,put E it.dst p.1,?_,hq,?_,S,put_defers _ _ _⟩
     ·refine .one (hfen _) (step_lone_go ?_)
      rw [hstep,← hfin]
      rcases hres with hres | ⟨hres,hu⟩
      ·simp [stepG.apply,hres]
      ·subst hu; simp [stepG.apply,hres]
     ·refine hat.step S R ?_ (put_defers _ _ _)
      rw [hd]
      exact put_rel (VRs.mono S.ext hat.env) hv it.dst a.defers
    obtain ⟨r1,r2⟩ := r
    rcases s_appz hat.rel hat.env hoc hargs hts hoks hokx ht htx hi hz (zero_info hat.rel hat.env hz hi) hzs hb1 hb2 hs1 hr with g | g
    ·exact fin r1 h.1 g
    ·exact fin r2 h.2 g
   ·exact h.elim
  | _ =>
   refine plain ?_ ?_
   ·rw [hitop]; simp
   ·rw [hitop] at h ⊢; exact h
 ·rw [if_neg hw] at h
  have hwf : wantedA it.guard E = false := by simpa using hw
  rw [hwf] at hwant
  right
  have hs := stepR_op_skip (P := K.P) (b := b) (a := a) (k := k) (cs := cs) (w := w) (ops := ops) (i := i) (rest := rest) (by simp [ho,hwant])
  simp only [ho,Option.bind_some] at hs
  refine ⟨_,w,ρ,H,_,.one (hfen _) hs,h,hat.step (.refl _ _ _) hat.rel ?_ (put_defers _ _ _),.refl _ _ _,put_defers _ _ _⟩
  rw [hd]
  exact put_rel hat.env .undef it.dst a.defers
theorem items_arrive {K : Cx} {rn : Option Nat} {n0 : Nat} {l' : Option Nat} {ops : Array Oper} : ∀ (is : List Nat) (its : List AItem),ItemsR K ops is its → ∀ {ρ : Nm} {E : List Value} {H : Heap} {w : World} {a : Act}
  (_ : At K rn n0 ρ E H w a l') {Q : List Value → Heap → Prop} (_ : wpItems K its Q E H) (b : Frame) (k : List Item) (cs : List Frame) (_ : b.roundOf = l'),
  False ∨
  ∃ a' w' ρ' H' E',St' K l' (lone (b.atR a (.inRegion ops is :: k)) cs w) (lone (b.atR a' k) cs w') ∧ Q E' H' ∧ At K rn n0 ρ' E' H' w' a' l' ∧ Step ρ H w ρ' H' w' := by
 intro is its hR
 induction hR with
 | nil =>
  intro ρ E H w a hat Q h b k cs hb
  exact .inr ⟨a,w,ρ,H,E,.one (FX_fenced _ _ _) stepR_region_end,h,hat,.refl _ _ _⟩
 | cons ho hop hg hd _ ih =>
  intro ρ E H w a hat Q h b k cs hb
  rcases item_arrive (rest := _) hat ho hop hg hd h b k cs hb with h1 | ⟨a1,w1,ρ1,H1,E1,s1,q1,at1,st1,d1⟩
  ·exact .inl h1
  ·rcases ih at1 q1 b k cs hb with h2 | ⟨a2,w2,ρ2,H2,E2,s2,q2,at2,st2⟩
   ·exact h2.elim
   ·exact .inr ⟨a2,w2,ρ2,H2,E2,s1.trans s2,q2,at2,st1.trans st2⟩
theorem itemsR_of {K : Cx} {ops : Array Oper} : ∀ (l : List Oper) (k : Nat) (its : List AItem),(∀ (j : Nat),l[j]? = ops[k + j]?) → compItems K.P K.G0 ops l = some its → ItemsR K ops ((List.range l.length).map (k + ·)) its
 | [],k,its,_,h => by simp [compItems] at h; subst h; exact .nil
 | o :: l,k,its,hl,h => by
  unfold compItems at h
  split at h
  ·rename_i it its' h1 h2
   cases h
   unfold compItem at h1
   split at h1
   ·rename_i g hg
    cases h1
    have hop : compOp K.P K.G0 o.op = some ((compOp K.P K.G0 o.op).getD .stop) ∨ (compOp K.P K.G0 o.op).getD .stop = .stop := by
     cases compOp K.P K.G0 o.op with
     | none => exact .inr rfl
     | some op => exact .inl rfl
    rw [List.length_cons,List.range_succ_eq_map]
    simp only [List.map_cons,List.map_map,Nat.add_zero]
    refine .cons (o := o) ?_ hop hg rfl ?_
    ·have := hl 0; simpa using this.symm
    ·have := itemsR_of l (k + 1) its' (fun j => by have := hl (j + 1); simpa [Nat.add_assoc,Nat.add_comm 1 j] using this) h2
     have e : ((fun x => k + x) ∘ Nat.succ) = (fun x => k + 1 + x) := by funext x; simp; omega
     rw [e]; exact this
   ·cases h1
  ·cases h
theorem comp_mv {K : Cx} {o : Oper} {y : Operand} (h : compOp K.P K.G0 o.op = some (.mv y)) : o.op = .move y ∨ o.op = .assign y := by
 unfold compOp at h
 split at h
 ·cases h
 split at h
 all_goals (try (cases h; done))
 all_goals (try ((repeat' split at h) <;> cases h; done))
 ·rename_i hop; cases h; exact .inl hop
 ·rename_i hop; cases h; exact .inr hop
 ·rename_i c hop
  split at h
  ·cases h
  ·unfold compBuiltin at h
   (repeat' split at h) <;> cases h
  ·cases h
theorem items_prefix {K : Cx} {rn : Option Nat} {n0 : Nat} {l' : Option Nat} {ops : Array Oper} (rest : List Nat) : ∀ (is : List Nat) (its : List AItem),ItemsR K ops is its → ∀ {ρ : Nm} {E : List Value} {H : Heap} {w : World} {a : Act}
  (_ : At K rn n0 ρ E H w a l') {Q : List Value → Heap → Prop} (_ : wpItems K its Q E H) (b : Frame) (k : List Item) (cs : List Frame) (_ : b.roundOf = l'),
  False ∨
  ∃ a' w' ρ' H' E',St' K l' (lone (b.atR a (.inRegion ops (is ++ rest) :: k)) cs w) (lone (b.atR a' (.inRegion ops rest :: k)) cs w') ∧ Q E' H' ∧ At K rn n0 ρ' E' H' w' a' l' ∧ Step ρ H w ρ' H' w' := by
 intro is its hR
 induction hR with
 | nil =>
  intro ρ E H w a hat Q h b k cs hb
  exact .inr ⟨a,w,ρ,H,E,.refl _,h,hat,.refl _ _ _⟩
 | cons ho hop hg hd _ ih =>
  intro ρ E H w a hat Q h b k cs hb
  rcases item_arrive (rest := _) hat ho hop hg hd h b k cs hb with h1 | ⟨a1,w1,ρ1,H1,E1,s1,q1,at1,st1,d1⟩
  ·exact .inl h1
  ·rcases ih at1 q1 b k cs hb with h2 | ⟨a2,w2,ρ2,H2,E2,s2,q2,at2,st2⟩
   ·exact h2.elim
   ·exact .inr ⟨a2,w2,ρ2,H2,E2,s1.trans s2,q2,at2,st1.trans st2⟩
theorem ItemsR.split {K : Cx} {ops : Array Oper} : ∀ {is : List Nat} {A B : List AItem},ItemsR K ops is (A ++ B) → ∃ i1 i2,is = i1 ++ i2 ∧ ItemsR K ops i1 A ∧ ItemsR K ops i2 B
 | is,[],B,h => ⟨[],is,rfl,.nil,h⟩
 | is,it :: A,B,h => by
  rw [List.cons_append] at h
  cases h with
  | cons ho hop hg hd t =>
   obtain ⟨i1,i2,e,h1,h2⟩ := ItemsR.split t
   exact ⟨_ :: i1,i2,by rw [e]; rfl,.cons ho hop hg hd h1,h2⟩
def capW (t x : Tmp) (d : Option Tmp) (Q : List Value → Heap → Prop) (E : List Value) (H : Heap) : Prop :=
 match E.getD x undef,E.getD t undef with
 | .slice a n cap,.slice a' n' cap' => a = a' ∧ n = n' ∧ ∀ c : Nat,cap ≤ c ∧ cap' ≤ c ∧ (a = none → c = cap) → c ≤ maxRow → Q (put (put (put E (some t) (.slice a n c)) (some x) (.slice a n c)) d (.int .i64 c)) H
 | _,_ => False
theorem VRs.set_left {ρ : Nm} : ∀ {E : List Value} {T : List Value} (_ : VRs ρ E T) (t : Nat) {v y : Value} (_ : T[t]? = some y) (_ : VR ρ v y),VRs ρ (E.set t v) T
 | _,_,.nil,_,_,_,hy,_ => by simp at hy
 | _,_,.cons h r,0,v,y,hy,hv => by simp at hy; subst hy; exact .cons hv r
 | _,_,.cons h r,t + 1,v,y,hy,hv => by simp at hy; exact .cons h (VRs.set_left r t hy hv)
theorem cap_arrive {K : Cx} {rn : Option Nat} {n0 : Nat} {ρ : Nm} {E : List Value} {H : Heap} {w : World} {a : Act} {l' : Option Nat} (hat : At K rn n0 ρ E H w a l')
  {ops : Array Oper} {i j : Nat} {rest : List Nat} {o o2 : Oper} {t x : Tmp} {d : Option Tmp} (ho : ops[i]? = some o) (hop : compOp K.P K.G0 o.op = some (.mv (.tmp t))) (hg : guardTmp ops o = some none) (hd : o.dst = some x)
  (ho2 : ops[j]? = some o2) (hop2 : compOp K.P K.G0 o2.op = some (.capq (.tmp x))) (hg2 : guardTmp ops o2 = some none) (hd2 : o2.dst = d) (hne : t ≠ x)
  {Q : List Value → Heap → Prop} (h : capW t x d Q (put E (some x) (ev E (.tmp t))) H) (b : Frame) (k : List Item) (cs : List Frame) (hb : b.roundOf = l') :
  ∃ a' E',St' K l' (lone (b.atR a (.inRegion ops (i :: j :: rest) :: k)) cs w) (lone (b.atR a' (.inRegion ops rest :: k)) cs w) ∧ Q E' H ∧ At K rn n0 ρ E' H w a' l' := by
 have hfen : ∀ m : Machine,m.fenced K.P (FX l') := FX_fenced _ _
 have hw1 : Region.wanted o (yielded ops a.tmps) = true := wanted_rel hat.env hg
 have st1 := stepGR_op (P := K.P) (b := b) (a := a) (k := k) (cs := cs) (w := w) (rest := j :: rest) ho hw1
 rw [Oper.semAt_eq _ _ _ (not_defer hop)] at st1
 have hrun1 : (execOp a.eval o).run K.P w = .ok (.value (a.eval (.tmp t))) w := by
  rcases comp_mv hop with e | e <;> simp [execOp,e]
 have fin1 : (b.atR a (.inRegion ops (i :: j :: rest) :: k)).finish (a.eval (.tmp t)) = b.atR (a.put o.dst (a.eval (.tmp t))) (.inRegion ops (j :: rest) :: k) := by
  rw [Frame.finish_atR,ho]; rfl
 have g1 : step K.P (lone (b.atR a (.inRegion ops (i :: j :: rest) :: k)) cs w) = .next (lone (b.atR (a.put o.dst (a.eval (.tmp t))) (.inRegion ops (j :: rest) :: k)) cs w) := step_lone_go (by
  rw [st1,← fin1]; simp [stepG.apply,hrun1])
 have hvt := ev_rel hat.rel hat.env (.tmp t) rfl
 have env1 : EnvR ρ (put E (some x) (ev E (.tmp t))) (a.put o.dst (a.eval (.tmp t))).tmps := by
  rw [hd]; exact put_rel hat.env hvt (some x) a.defers
 generalize ha1 : a.put o.dst (a.eval (.tmp t)) = a1 at g1 env1
 generalize hE1 : put E (some x) (ev E (.tmp t)) = E1 at h env1
 have at1 : At K rn n0 ρ E1 H w a1 l' := hat.step (.refl _ _ _) hat.rel env1 (by rw [← ha1]; exact put_defers _ _ _)
 unfold capW at h
 split at h
 ·rename_i qa n cap qa' n' cap' hx ht
  obtain ⟨rfl,rfl,h⟩ := h
  have hlx : x < E1.length := by
   rcases Nat.lt_or_ge x E1.length with g | g
   ·exact g
   ·rw [List.getD_eq_getElem?_getD,List.getElem?_eq_none g] at hx; cases hx
  have hlt : t < E1.length := by
   rcases Nat.lt_or_ge t E1.length with g | g
   ·exact g
   ·rw [List.getD_eq_getElem?_getD,List.getElem?_eq_none g] at ht; cases ht
  have gx : E1[x]? = some (.slice qa n cap) := by
   rw [List.getD_eq_getElem?_getD,List.getElem?_eq_getElem hlx] at hx
   rw [List.getElem?_eq_getElem hlx]; exact congrArg some hx
  have gt : E1[t]? = some (.slice qa n cap') := by
   rw [List.getD_eq_getElem?_getD,List.getElem?_eq_getElem hlt] at ht
   rw [List.getElem?_eq_getElem hlt]; exact congrArg some ht
  obtain ⟨yx,hyx,vx⟩ := VRs.get env1 gx
  obtain ⟨yt,hyt,vt⟩ := VRs.get env1 gt
  have hsame : yx = yt := by
   have e1 : a1.tmps = a.tmps.setIfInBounds x (a.eval (.tmp t)) := by rw [← ha1,hd]; rfl
   have lx : x < a.tmps.size := by
    have := VRs.length env1
    rw [e1,Array.toList_setIfInBounds,List.length_set,Array.length_toList] at this
    exact this ▸ hlx
   rw [e1] at hyx hyt
   rw [Array.toList_setIfInBounds,List.getElem?_set_self (by simpa using lx)] at hyx
   rw [Array.toList_setIfInBounds,List.getElem?_set_ne (Ne.symm hne)] at hyt
   have e2 : a.eval (.tmp t) = yt := by
    have : a.tmps[t]? = some yt := by simpa using hyt
    simp [Act.eval,this]
   rw [e2] at hyx
   exact (Option.some.inj hyx).symm
  subst hsame
  have hval : ∃ q' c,yx = .slice q' n c ∧ cap ≤ c ∧ cap' ≤ c ∧ (qa = none → c = cap) ∧ c ≤ maxRow ∧ VR ρ (.slice qa n c) yx := by
   rcases vx.slice_inv with ⟨rfl,rfl,rfl,e1⟩ | ⟨q,sz,b',cp,rfl,hsp,e1,hps,c1,c2,c3⟩
   ·rcases vt.slice_inv with ⟨_,_,rfl,e2⟩ | ⟨_,_,_,_,e2,_⟩
    ·exact ⟨_,_,e1,Nat.le_refl _,Nat.le_refl _,fun _ => rfl,by unfold maxRow; omega,vx⟩
    ·cases e2
   ·rcases vt.slice_inv with ⟨e2,_⟩ | ⟨q2,sz2,b2,cp2,e2,hsp2,e3,hps2,d1,d2,d3⟩
    ·cases e2
    ·cases e2
     rw [e1] at e3
     cases e3
     refine ⟨_,_,e1,c2,d2,(fun e => by cases e),c3,?_⟩
     rw [e1]
     have eq : (⟨q.block,q.off,q.spot⟩ : Addr) = q := rfl
     rw [← eq,hsp]
     exact .slice hps (by omega) (Nat.le_refl _) c3
  obtain ⟨q',c,ey,c1,c2,c3,c4,hv⟩ := hval
  have hx1 : a1.eval (.tmp x) = .slice q' n c := by
   have : a1.tmps[x]? = some yx := by simpa using hyx
   simp [Act.eval,this,ey]
  obtain ⟨args,ts,ty,e,hoc,rfl,hts,hu,_⟩ := comp_cap hop2
  have hw2 : Region.wanted o2 (yielded ops a1.tmps) = true := wanted_rel env1 hg2
  have st2 := stepGR_op (P := K.P) (b := b) (a := a1) (k := k) (cs := cs) (w := w) (rest := rest) ho2 hw2
  rw [Oper.semAt_eq _ _ _ (not_defer hop2)] at st2
  have hrun2 : (execOp a1.eval o2).run K.P w = .ok (.value (.int .i64 c)) w := by
   simp [execOp,hoc,resolve,invoke,builtin,Builtin.cap_,hts,hx1,underlying,hu,goInt]
  have fin2 : (b.atR a1 (.inRegion ops (j :: rest) :: k)).finish (.int .i64 c) = b.atR (a1.put o2.dst (.int .i64 c)) (.inRegion ops rest :: k) := by
   rw [Frame.finish_atR,ho2]; rfl
  have g2 : step K.P (lone (b.atR a1 (.inRegion ops (j :: rest) :: k)) cs w) = .next (lone (b.atR (a1.put o2.dst (.int .i64 c)) (.inRegion ops rest :: k)) cs w) := step_lone_go (by
   rw [st2,← fin2]; simp [stepG.apply,hrun2])
  have env2 : EnvR ρ (put (put E1 (some t) (.slice qa n c)) (some x) (.slice qa n c)) a1.tmps := by
   show VRs ρ ((E1.set t (.slice qa n c)).set x (.slice qa n c)) a1.tmps.toList
   exact VRs.set_left (VRs.set_left env1 t hyt hv) x hyx hv
  refine ⟨a1.put o2.dst (.int .i64 c),_,(StepsIn.one (hfen _) g1).trans (.one (hfen _) g2),h c ⟨c1,c2,c3⟩ c4,at1.step (.refl _ _ _) hat.rel ?_ (put_defers _ _ _)⟩
  rw [hd2]
  exact put_rel env2 (.int _ _) d a1.defers
 ·exact h.elim
end Go.Ae
