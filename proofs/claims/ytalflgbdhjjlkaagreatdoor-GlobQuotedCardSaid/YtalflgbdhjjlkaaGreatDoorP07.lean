/- Part 7 of the proof of the law: Ae13, Ae14, Ae15. No condition. -/
import Derived.Test.YtalflgbdhjjlkaaGreatDoorP06
import Derived.RangeFuncLeaves
set_option linter.all false
namespace Go.Ae
open Go
def thenA (n : List Value → Heap → Prop) (Q : AExit → List Value → Heap → Prop) : AExit → List Value → Heap → Prop
 | .normal => n
 | .exit id => Q (.exit id)
 | .ret => Q .ret
def blockA (id : Nat) (Q : AExit → List Value → Heap → Prop) : AExit → List Value → Heap → Prop
 | .normal => Q .normal
 | .exit i => if i = id then Q .normal else Q (.exit i)
 | .ret => Q .ret
def LoopP (W : (AExit → List Value → Heap → Prop) → List Value → Heap → Prop) (Q : AExit → List Value → Heap → Prop) (E : List Value) (H : Heap) : Prop :=
 ∀ I : List Value → Heap → Prop,(∀ E H,W (thenA I Q) E H → I E H) → I E H
def jumpA : AJump → AExit
 | .ret => .ret
 | .exit id => .exit id
def isFn (K : Cx) (f : FuncId) : Prop := ∀ args w,(callFunc f args).run K.P w = .ok (.enter f args) w
def callR (K : Cx) (fv : Value) (args : List Value) (H : Heap) (Q : Value → Heap → Prop) : Prop :=
 match fv with
 | .func (.func f) _ caps => isFn K f ∧ FC K f (args ++ caps.toList) H Q
 | _ => False
def endLoopA (l : Nat) (Q : AExit → Heap → Prop) (H : Heap) : Prop :=
 match H.get l with
 | some (.loop L) => L.state ≠ .busy ∧ (match L.pending with
  | none => Q .normal (H.set l none)
  | some j => Q (jumpA j) (H.set l none))
 | _ => False
def DrawP := Cx → Option Nat → Nat → List DItem → (List Value → Heap → Prop) → List Value → Heap → Prop
def wpC (K : Cx) (D : DrawP) (rn : Option Nat) : ACode → (AExit → List Value → Heap → Prop) → List Value → Heap → Prop
 | .skip,Q => Q .normal
 | .ops l,Q => wpItems K l (Q .normal)
 | .opsC l0 t x d l2,Q => wpItems K l0 (capW t x d (wpItems K l2 (Q .normal)))
 | .draw n l,Q => D K rn n l (Q .normal)
 | .seq x y,Q => wpC K D rn x (thenA (wpC K D rn y Q) Q)
 | .cond c x y,Q => fun E H => match ev E c with
  | .bool true => wpC K D rn x Q E H
  | .bool false => wpC K D rn y Q E H
  | _ => False
 | .block id x,Q => wpC K D rn x (blockA id Q)
 | .loop x,Q => LoopP (wpC K D rn x) Q
 | .exit id,Q => Q (.exit id)
 | .ret,Q => Q .ret
 | .rfunc f ps asg body,Q => fun E H => (∀ l,rn = some l → ∃ L,H.get l = some (.loop L)) ∧
  callR K (ev E f) [.func (.yield H.next) #[] #[]] (H.push (.loop { state := .ready,pending := none,env := E,params := ps,assign := asg,body := body }))
   fun _ H' => endLoopA H.next (fun e => Q e E) H'
 | .bad,_ => fun _ _ => False
def CS (K : Cx) (rn : Option Nat) (c : Code) (Q : AExit → List Value → Heap → Prop) (E : List Value) (H : Heap) : Prop :=
 ∀ (n0 : Nat) (ρ : Nm) (w : World) (a : Act) (l' : Option Nat),At K rn n0 ρ E H w a l' → Comes' K (QR K n0 ρ H w Q) l' (.code c) a w
theorem CS.from {K : Cx} {rn : Option Nat} {c : Code} {Q : AExit → List Value → Heap → Prop} {E : List Value} {H : Heap} (h : CS K rn c Q E H) {n0 : Nat} {ρ0 ρ : Nm} {H0 : Heap} {w0 w : World} {a : Act} {l' : Option Nat}
  (s : Step ρ0 H0 w0 ρ H w) (hat : At K rn n0 ρ E H w a l') : Comes' K (QR K n0 ρ0 H0 w0 Q) l' (.code c) a w := fun b k cs hb =>
 let ⟨e,a',w',q,r⟩ := h n0 ρ w a l' hat b k cs hb
 ⟨e,a',w',q.pre s,r⟩
def DrawOk (D : DrawP) (K : Cx) (rn : Option Nat) : Prop := ∀ id ops n l,K.draw id ops = some (n,l) → ∀ (Q : List Value → Heap → Prop) (E : List Value) (H : Heap),D K rn n l Q E H →
  CS K rn (.region id ops true) (fun e E H => match e with | .normal => Q E H | _ => False) E H
theorem qr_of {K : Cx} {n0 : Nat} {ρ : Nm} {H : Heap} {w : World} {Q : AExit → List Value → Heap → Prop} {rn l' : Option Nat} {ρ' : Nm} {H' : Heap} {E' : List Value} {w' : World} {a' : Act} (e : AExit) (hq : Q e E' H') (s : Step ρ H w ρ' H' w') (hat : At K rn n0 ρ' E' H' w' a' l') :
  QR K n0 ρ H w Q (match e with | .normal => .normal | .exit id => .exit id | .ret => .ret) a' w' := by
 cases e <;> exact ⟨ρ',H',E',hq,s,hat.rel,hat.env,hat.marks⟩
theorem run_eval {K : Cx} {rn : Option Nat} {n0 : Nat} {ρ : Nm} {E : List Value} {H : Heap} {w : World} {a : Act} {l' : Option Nat} (hat : At K rn n0 ρ E H w a l') {c : Operand} (hc : okOpd K.G0 c = true) {t : Bool} (h : ev E c = .bool t) : a.eval c = .bool t := by
 have := ev_rel hat.rel hat.env c hc
 rw [h] at this
 exact this.bool_inv
theorem loop_at {K : Cx} {ρ : Nm} {H : Heap} {w : World} (hr : Rel K ρ H w) {l l' : Nat} {L : ALoop} (hL : H.get l = some (.loop L)) (hb : BR ρ l l') :
  ∃ L',w.heap[l']? = some (.loop L') ∧ LoopR K ρ L L' ∧ K.N0 ≤ l' ∧ ∃ size,ρ l = .live l' 0 size := by
 obtain ⟨c,base,size,hl,hobj⟩ := hr.objs _ _ hL
 have er := hb.2 c base size hl
 subst er
 generalize hX : w.heap[l']? = X at hobj
 cases hobj with
 | loop hc hb' hm => subst hb'; exact ⟨_,rfl,hm,hc,size,hl⟩
theorem loop_turn {K : Cx} {ρ : Nm} {H : Heap} {w : World} (hr : Rel K ρ H w) {l l' : Nat} {L : ALoop} (hL : H.get l = some (.loop L)) (hb : BR ρ l l') {L2 : ALoop} {L2' : Loop} (h : LoopR K ρ L2 L2') :
  Rel K ρ (H.set l (some (.loop L2))) (w.putObj l' (.loop L2')) ∧ Step ρ H w ρ (H.set l (some (.loop L2))) (w.putObj l' (.loop L2')) := by
 obtain ⟨L',h1,h2,h3,size,h4⟩ := loop_at hr hL hb
 have hlt : l' < w.heap.size := by
  rcases Nat.lt_or_ge l' w.heap.size with hl | hl
  ·exact hl
  ·rw [Array.getElem?_eq_none hl] at h1; cases h1
 exact hr.turn (w' := w.putObj l' (.loop L2')) (o' := .loop L2) hL rfl h4 (World.putObj_size) (fun k hk => World.putObj_heap_other hk)
  (by rw [World.putObj_heap_same hlt]; exact .loop h3 rfl h) rfl rfl rfl
theorem loop_end {K : Cx} {ρ : Nm} {H : Heap} {w : World} (hr : Rel K ρ H w) {l l' : Nat} {L : ALoop} (hL : H.get l = some (.loop L)) (hb : BR ρ l l') {L2' : Loop} :
  Rel K (setN ρ l .dead) (H.set l none) (w.putObj l' (.loop L2')) ∧ Step ρ H w (setN ρ l .dead) (H.set l none) (w.putObj l' (.loop L2')) := by
 obtain ⟨L',h1,h2,h3,size,h4⟩ := loop_at hr hL hb
 have hlt : l' < w.heap.size := by
  rcases Nat.lt_or_ge l' w.heap.size with hl | hl
  ·exact hl
  ·rw [Array.getElem?_eq_none hl] at h1; cases h1
 obtain ⟨R,S⟩ := hr.kill hL
 have hfree : ¬ Img (setN ρ l .dead) (H.set l none) l' := by
  rintro ⟨b2,o2,base2,size2,g1,g2,g3⟩
  rcases Heap.get_set_cases hL g1 with ⟨_,e⟩ | ⟨hne,g⟩
  ·cases e
  ·rw [setN_ne _ _ hne] at g3
   exact hne (hr.inj _ _ _ _ _ _ _ _ _ g hL g2 rfl g3 h4)
 have hro : ∀ (b : Nat) (o : AObj) (c base size : Nat),(H.set l none).get b = some o → setN ρ l .dead b = .live c base size → c ≠ l' := by
  intro b o c base size g1 g2 e
  subst e
  cases ho : o.rw with
  | true => exact hfree ⟨b,o,base,size,g1,ho,g2⟩
  | false =>
   cases o with
   | ro cs =>
    obtain ⟨c',base',size',g3,g4⟩ := R.objs _ _ g1
    rw [g2] at g3; cases g3
    have := g4.ro_lt; omega
   | _ => cases ho
 refine ⟨⟨fun b o hbo => ?_,R.fresh,R.inj,by simp; exact R.base,R.wf,R.glob⟩,⟨S.ext,S.next,S.hid,by simp,fun c hc hi => ?_,rfl,rfl,rfl⟩⟩
 ·obtain ⟨c,base,size',g1,g2⟩ := R.objs b o hbo
  refine ⟨c,base,size',g1,?_⟩
  rw [World.putObj_heap_other (hro b o c base size' hbo g1)]; exact g2
 ·have hne : c ≠ l' := fun e => hi (e ▸ ⟨l,_,0,size,hL,rfl,h4⟩)
  rw [World.putObj_heap_other hne]
  exact S.keeps c hc hi
theorem enter_loop {K : Cx} {rn : Option Nat} {n0 : Nat} {ρ : Nm} {E : List Value} {H : Heap} {w : World} {a : Act} {l' : Option Nat} (hat : At K rn n0 ρ E H w a l') (hrn : ∀ l,rn = some l → ∃ L,H.get l = some (.loop L))
  (fn : FuncId) {ps : Array Tmp} {asg body : Code} {asgA bodyA : ACode} (h1 : comp K.P K.G0 K.draw asg = some asgA) (h2 : comp K.P K.G0 K.draw body = some bodyA) :
  ∃ (l : Nat) (mark : List Deferred) (w1 : World) (ρ1 : Nm),(Instr.enterLoop fn a.tmps ps asg body l').run K.P w = .ok (l,mark) w1 ∧
   Rel K ρ1 (H.push (.loop { state := .ready,pending := none,env := E,params := ps.toList,assign := asgA,body := bodyA })) w1 ∧
   Step ρ H w ρ1 (H.push (.loop { state := .ready,pending := none,env := E,params := ps.toList,assign := asgA,body := bodyA })) w1 ∧ BR ρ1 H.next l ∧ Marks n0 w1 (mark ++ a.defers) := by
 have lay : ∀ (w0 : World) (d : Nat),Rel K ρ H w0 →
   Rel K (setN ρ H.next (.live w0.heap.size 0 0)) (H.push (.loop { state := .ready,pending := none,env := E,params := ps.toList,assign := asgA,body := bodyA })) (w0.alloc (.loop { state := .ready,pending := none,fn,tmps := a.tmps,params := ps,assign := asg,body,defers := d })) ∧
    Step ρ H w0 (setN ρ H.next (.live w0.heap.size 0 0)) (H.push (.loop { state := .ready,pending := none,env := E,params := ps.toList,assign := asgA,body := bodyA })) (w0.alloc (.loop { state := .ready,pending := none,fn,tmps := a.tmps,params := ps,assign := asg,body,defers := d })) := by
  intro w0 d hr0
  obtain ⟨R,S⟩ := hr0.add (x := .loop { state := .ready,pending := none,fn,tmps := a.tmps,params := ps,assign := asg,body,defers := d }) (size := 0)
   (Adds.push (.loop { state := .ready,pending := none,env := E,params := ps.toList,assign := asgA,body := bodyA }) hr0.wf) (hr0.fresh _ (Nat.le_refl _)) hr0.g0
   (.loop hr0.base rfl ⟨rfl,rfl,VRs.mono (Ext.setN (hr0.fresh _ (Nat.le_refl _))) hat.env,rfl,h1,h2⟩)
  exact ⟨R,S _ _ _ (.refl _ _ _) (Nat.le_refl _)⟩
 cases hl : l' with
 | none =>
  have hold : ∀ c,c < w.heap.size → (w.alloc (.deferred (some []))).heap[c]? = w.heap[c]? := fun c hc => by
   show (w.heap.push _)[c]? = _
   rw [Array.getElem?_push,if_neg (by omega)]
  have hnewd : (w.alloc (.deferred (some []))).heap[w.heap.size]? = some (.deferred (some [])) := World.alloc_heap_new w _
  have hr1 : Rel K ρ H (w.alloc (.deferred (some []))) := by
   refine ⟨fun b o hb => ?_,hat.rel.fresh,hat.rel.inj,?_,hat.rel.wf,hat.rel.glob⟩
   ·obtain ⟨c,base,size,g1,g2⟩ := hat.rel.objs b o hb
    exact ⟨c,base,size,g1,by rw [hold c g2.lt]; exact g2⟩
   ·simp; have := hat.rel.base; omega
  have hs1 : Step ρ H w ρ H (w.alloc (.deferred (some []))) := ⟨.refl _,Nat.le_refl _,fun _ _ h => ⟨rfl,h⟩,by simp,fun c hc hi => ⟨hold c hc,hi⟩,rfl,rfl,rfl⟩
  obtain ⟨R,S⟩ := lay (w.alloc (.deferred (some []))) w.heap.size hr1
  refine ⟨w.heap.size + 1,[{ target := .collected w.heap.size,args := #[] }],_,_,run_enterLoop_outer fn a.tmps ps asg body,R,hs1.trans S,⟨by simp,fun c base size hlv => ?_⟩,?_⟩
  ·rw [setN_same] at hlv; cases hlv; simp
  ·obtain ⟨rs,m1,m2,m3⟩ := hat.marks.step hat.rel hs1
   have hmS : ∀ r : Nat,(w.alloc (.deferred (some []))).heap[r]? = some (Obj.deferred (some [])) → ((w.alloc (.deferred (some []))).alloc (.loop { state := .ready,pending := none,fn,tmps := a.tmps,params := ps,assign := asg,body,defers := w.heap.size })).heap[r]? = some (Obj.deferred (some [])) := by
    intro r hr
    have hlt : r < (w.alloc (.deferred (some []))).heap.size := by
     rcases Nat.lt_or_ge r (w.alloc (.deferred (some []))).heap.size with h | h
     ·exact h
     ·rw [Array.getElem?_eq_none h] at hr; cases hr
    rw [(S.keeps r hlt (not_img_deferred hr1 hr)).1]; exact hr
   refine ⟨w.heap.size :: rs,by simp [m1],?_,fun r hr => ?_⟩
   ·rw [List.nodup_cons]
    refine ⟨fun hm => ?_,m2⟩
    obtain ⟨rs0,p1,p2,p3⟩ := hat.marks
    have : rs0 = rs := by
     have e : rs0.map (fun r => ({ target := .collected r,args := #[] } : Deferred)) = rs.map (fun r => ({ target := .collected r,args := #[] } : Deferred)) := p1.symm.trans m1
     have hinj : Function.Injective (fun r : Nat => ({ target := .collected r,args := #[] } : Deferred)) := fun x y h => by simpa using h
     exact (List.map_inj_right fun x y h => hinj h).1 e
    subst this
    obtain ⟨_,q⟩ := p3 _ hm
    rw [Array.getElem?_eq_none (Nat.le_refl _)] at q; cases q
   ·rcases List.mem_cons.1 hr with rfl | hr
    ·exact ⟨hat.n0,hmS _ hnewd⟩
    ·obtain ⟨g1,g2⟩ := m3 r hr
     exact ⟨g1,hmS _ g2⟩
 | some r =>
  have hround := hat.round
  rw [hl] at hround
  cases hrn' : rn with
  | none => rw [hrn'] at hround; exact hround.elim
  | some l =>
   rw [hrn'] at hround
   obtain ⟨L,hL⟩ := hrn l hrn'
   obtain ⟨L',g1,g2,_⟩ := loop_at hat.rel hL hround
   obtain ⟨R,S⟩ := lay w L'.defers hat.rel
   refine ⟨w.heap.size,[],_,_,?_,R,S,⟨by simp,fun c base size hlv => ?_⟩,?_⟩
   ·simp [Instr.enterLoop,run_getLoop g1,Result.andThen]
   ·rw [setN_same] at hlv; cases hlv; rfl
   ·simp only [List.nil_append]; exact hat.marks.step hat.rel S
theorem code_sound {K : Cx} {D : DrawP} {rn : Option Nat} (hD : DrawOk D K rn) : ∀ (c : Code) (ac : ACode),comp K.P K.G0 K.draw c = some ac → ∀ (Q : AExit → List Value → Heap → Prop) (E : List Value) (H : Heap),wpC K D rn ac Q E H → CS K rn c Q E H := by
 intro c
 induction c with
 | skip =>
  intro ac hc Q E H h n0 ρ w a l' hat
  cases hc
  exact comes_wpIn.2 (wpIn_skip (qr_of (rn := rn) (l' := l') .normal h (.refl _ _ _) hat))
 | label l =>
  intro ac hc Q E H h n0 ρ w a l' hat
  cases hc
  exact comes_wpIn.2 (wpIn_label (qr_of (rn := rn) (l' := l') .normal h (.refl _ _ _) hat))
 | region id ops draw =>
  intro ac hc Q E H h
  cases draw with
  | false =>
   simp only [comp] at hc
   cases hi : compItems K.P K.G0 ops ops.toList with
   | none => simp [hi] at hc
   | some its =>
    simp [hi] at hc
    subst hc
    intro n0 ρ w a l' hat b k cs hb
    have hR := itemsR_of (K := K) (ops := ops) ops.toList 0 its (fun j => by simp) hi
    have e0 : (List.range ops.toList.length).map (0 + ·) = List.range ops.size := by simp
    rw [e0] at hR
    have s0 : St' K l' (lone (b.atR a (.code (.region id ops false) :: k)) cs w) (lone (b.atR a (.inRegion ops (List.range ops.size) :: k)) cs w) := .one (FX_fenced _ _ _) stepR_region
    unfold splitCap at h
    cases hfp : findPair its with
    | none =>
     rw [hfp] at h
     rcases items_arrive _ _ hR hat h b k cs hb with h1 | ⟨a',w',ρ',H',E',s1,q1,at1,st1⟩
     ·exact h1.elim
     ·exact ⟨.normal,a',w',⟨ρ',H',E',q1,st1,at1.rel,at1.env,at1.marks⟩,s0.trans s1⟩
    | some p =>
     obtain ⟨l0,t,x,d,l2⟩ := p
     rw [hfp] at h
     obtain ⟨l1,rfl,rfl,hne⟩ := findPair_some hfp
     have h' : wpItems K l1 (fun E H => wpItem K ⟨some x,.mv (.tmp t),none⟩ (capW t x d (wpItems K l2 (Q .normal))) E H) E H := by
      have : ∀ (l : List AItem) (R : List Value → Heap → Prop) (E : List Value) (H : Heap),wpItems K (l ++ [⟨some x,.mv (.tmp t),none⟩]) R E H → wpItems K l (fun E H => wpItem K ⟨some x,.mv (.tmp t),none⟩ R E H) E H := by
       intro l R
       induction l with
       | nil => exact fun E H h => h
       | cons it l ih => exact fun E H h => wpItem_mono (fun E H q => ih E H q) h
      exact this l1 _ E H h
     rw [List.append_assoc] at hR
     obtain ⟨i1,i2,ei,r1,r2⟩ := hR.split
     rw [ei] at s0
     cases r2 with
     | cons ho hop hg hd r3 =>
      cases r3 with
      | cons ho2 hop2 hg2 hd2 r4 =>
       rcases items_prefix _ _ _ r1 hat h' b k cs hb with h1 | ⟨a1,w1,ρ1,H1,E1,s1,q1,at1,st1⟩
       ·exact h1.elim
       ·have q1' : capW t x d (wpItems K l2 (Q .normal)) (put E1 (some x) (ev E1 (.tmp t))) H1 := q1
        obtain ⟨a2,E2,s2,q2,at2⟩ := cap_arrive (rest := _) at1 ho (hop.resolve_right (by simp)) hg hd ho2 (hop2.resolve_right (by simp)) hg2 hd2 hne q1' b k cs hb
        rcases items_arrive _ _ r4 at2 q2 b k cs hb with h3 | ⟨a',w',ρ',H',E',s3,q3,at3,st3⟩
        ·exact h3.elim
        ·exact ⟨.normal,a',w',⟨ρ',H',E',q3,st1.trans st3,at3.rel,at3.env,at3.marks⟩,s0.trans (s1.trans (s2.trans s3))⟩
  | true =>
   simp only [comp] at hc
   cases hi : K.draw id ops with
   | none => simp [hi] at hc
   | some its =>
    simp [hi] at hc
    subst hc
    intro n0 ρ w a l' hat b k cs hb
    obtain ⟨e,a',w',q,r⟩ := hD id ops its.1 its.2 hi _ E H h n0 ρ w a l' hat b k cs hb
    refine ⟨e,a',w',?_,r⟩
    cases e with
    | normal => exact q
    | exit i => obtain ⟨_,_,_,q,_⟩ := q; exact q.elim
    | ret => obtain ⟨_,_,_,q,_⟩ := q; exact q.elim
    | goto t => exact q
    | panic ch => exact q
    | outgrown => exact q
 | seq x y ihx ihy =>
  intro ac hc Q E H h
  simp only [comp] at hc
  split at hc
  ·rename_i ax ay hx hy
   cases hc
   intro n0 ρ w a l' hat
   refine comes_wpIn.2 (wpIn_seq (wpIn_mono (comes_wpIn.1 (ihx ax hx _ E H h n0 ρ w a l' hat)) fun e a1 w1 hq => ?_))
   cases e with
   | normal =>
    obtain ⟨ρ1,H1,E1,q1,s1,r1,e1,m1⟩ := hq
    exact comes_wpIn.1 ((ihy ay hy Q E1 H1 q1).from s1 ⟨r1,e1,m1,Nat.le_trans hat.n0 s1.size,hat.round.mono s1.ext⟩)
   | exit id => exact hq
   | ret => exact hq
   | goto l => exact hq
   | panic ch => exact hq
   | outgrown => exact hq
  ·cases hc
 | cond c x y ihx ihy =>
  intro ac hc Q E H h
  simp only [comp] at hc
  split at hc
  ·rename_i hok
   split at hc
   ·rename_i ax ay hx hy
    cases hc
    intro n0 ρ w a l' hat
    simp only [wpC] at h
    split at h
    ·rename_i hb
     exact comes_wpIn.2 (wpIn_cond_true (run_eval hat hok hb) (comes_wpIn.1 (ihx ax hx Q E H h n0 ρ w a l' hat)))
    ·rename_i hb
     exact comes_wpIn.2 (wpIn_cond_false (run_eval hat hok hb) (comes_wpIn.1 (ihy ay hy Q E H h n0 ρ w a l' hat)))
    ·exact h.elim
   ·cases hc
  ·cases hc
 | block id x ih =>
  intro ac hc Q E H h
  simp only [comp] at hc
  cases hx : comp K.P K.G0 K.draw x with
  | none => simp [hx] at hc
  | some ax =>
   simp [hx] at hc
   subst hc
   intro n0 ρ w a l' hat
   refine comes_wpIn.2 (wpIn_block (wpIn_mono (comes_wpIn.1 (ih ax hx _ E H h n0 ρ w a l' hat)) fun e a1 w1 hq => ?_))
   cases e with
   | normal => exact hq
   | exit i =>
    obtain ⟨ρ1,H1,E1,q1,r1⟩ := hq
    simp only [Exit.inBlock]
    simp only [blockA] at q1
    split
    ·rename_i e; rw [if_pos e] at q1; exact ⟨ρ1,H1,E1,q1,r1⟩
    ·rename_i e; rw [if_neg e] at q1; exact ⟨ρ1,H1,E1,q1,r1⟩
   | ret => exact hq
   | goto l => exact hq
   | panic ch => exact hq
   | outgrown => exact hq
 | loop x ih =>
  intro ac hc Q E H h
  simp only [comp] at hc
  cases hx : comp K.P K.G0 K.draw x with
  | none => simp [hx] at hc
  | some ax =>
   simp [hx] at hc
   subst hc
   have head := h (fun E H => ∀ (n0 : Nat) (ρ : Nm) (w : World) (a : Act) (l' : Option Nat),At K rn n0 ρ E H w a l' → ∀ (b : Frame) (k : List Item) (cs : List Frame),b.roundOf = l' →
     ∃ e a' w',QR K n0 ρ H w Q e a' w' ∧ ArrivesIn (Machine.fenced K.P (FX l')) K.P (lone (b.atR a (.code x :: .inLoop x :: k)) cs w) b k cs e a' w')
    (fun E H hb n0 ρ w a l' hat b k cs hro => by
     obtain ⟨e,a1,w1,q1,r1⟩ := ih ax hx _ E H hb n0 ρ w a l' hat b (.inLoop x :: k) cs hro
     cases e with
     | normal =>
      obtain ⟨ρ1,H1,E1,hI,s1,rel1,env1,m1⟩ := q1
      obtain ⟨e,a2,w2,q2,r2⟩ := hI n0 ρ1 w1 a1 l' ⟨rel1,env1,m1,Nat.le_trans hat.n0 s1.size,hat.round.mono s1.ext⟩ b k cs hro
      exact ⟨e,a2,w2,q2.pre s1,.of_steps (StepsIn.trans r1 (.one (FX_fenced _ _ _) stepR_inLoop)) r2⟩
     | exit i =>
      obtain ⟨ρ1,H1,E1,hI,rest⟩ := q1
      exact ⟨.exit i,a1,w1,⟨ρ1,H1,E1,hI,rest⟩,.pass (x := .inLoop x) rfl (fun _ _ => .inl (by simp)) r1⟩
     | goto t => exact q1.elim
     | ret =>
      obtain ⟨ρ1,H1,E1,hI,rest⟩ := q1
      exact ⟨.ret,a1,w1,⟨ρ1,H1,E1,hI,rest⟩,.pass (x := .inLoop x) rfl (fun _ _ => .inl (by simp)) r1⟩
     | panic ch => exact q1.elim
     | outgrown => exact q1.elim)
   intro n0 ρ w a l' hat b k cs hro
   obtain ⟨e,a',w',q,r⟩ := head n0 ρ w a l' hat b k cs hro
   exact ⟨e,a',w',q,.of_steps (.one (FX_fenced _ _ _) stepR_loop) r⟩
 | exit id =>
  intro ac hc Q E H h n0 ρ w a l' hat
  cases hc
  exact comes_wpIn.2 (wpIn_exit (qr_of (rn := rn) (l' := l') (.exit id) h (.refl _ _ _) hat))
 | ret =>
  intro ac hc Q E H h n0 ρ w a l' hat
  cases hc
  exact comes_wpIn.2 (wpIn_ret (qr_of (rn := rn) (l' := l') .ret h (.refl _ _ _) hat))
 | goto l => intro ac hc Q E H h; cases hc; exact h.elim
 | scope x ih =>
  intro ac hc Q E H h n0 ρ w a l' hat b k cs hro
  simp only [comp] at hc
  obtain ⟨e,a1,w1,q1,r1⟩ := ih ac hc Q E H h n0 ρ w a l' hat b (.inScope x :: k) cs hro
  have s0 : St' K l' (lone (b.atR a (.code (.scope x) :: k)) cs w) (lone (b.atR a (.code x :: .inScope x :: k)) cs w) :=
   .one (FX_fenced _ _ _) (step_lone_go (by simp [stepG,stepG.exec,Frame.atR]))
  refine ⟨e,a1,w1,q1,.of_steps s0 ?_⟩
  cases e with
  | normal => exact r1.trans (.one (FX_fenced _ _ _) (step_lone_go (by simp [stepG,stepG.exec,Frame.atR])))
  | exit id => exact ⟨fun k' hk => r1.1 k' hk,fun hr hk => r1.2 hr hk⟩
  | goto t => exact q1.elim
  | ret => exact r1
  | panic ch => exact q1.elim
  | outgrown => exact r1
 | refuse s => intro ac hc Q E H h; cases hc; exact h.elim
 | rangeFunc f ps asg body _ _ =>
  intro ac hc Q E H h
  simp only [comp] at hc
  split at hc
  ·rename_i hok
   split at hc
   ·rename_i aa ab ha hb
    cases hc
    obtain ⟨hrn,h⟩ := h
    intro n0 ρ w a l' hat
    refine comes_wpIn.2 (wpIn_rangeFunc fun fn _ => ?_)
    rw [FX_round]
    obtain ⟨l,mark,w1,ρ1,henter,R1,S1,hbr,hmarks⟩ := enter_loop hat hrn fn ha hb
    have hfv := ev_rel hat.rel hat.env f hok
    unfold callR at h
    split at h
    ·rename_i g first caps hfe
     obtain ⟨hg,h⟩ := h
     rw [hfe] at hfv
     have hcl : ∃ caps',a.eval f = .func (.func g) #[] caps' ∧ VRs ρ caps.toList caps'.toList := by
      generalize a.eval f = y at hfv
      cases hfv with
      | func f hs hc => exact ⟨_,rfl,.of_array hs hc⟩
     obtain ⟨caps',hcf,hcaps⟩ := hcl
     have hu := h ρ1 w1 (#[.func (.yield l) #[] #[]] ++ caps') R1 (by
      simp only [Array.toList_append]
      exact VRs.append (.cons (.yield hbr) .nil) (VRs.mono S1.ext hcaps))
     rw [hg] at hu
     refine ⟨l,mark,w1,{ target := .fn (.func g) caps',args := #[.func (.yield l) #[] #[]] },w1,g,#[.func (.yield l) #[] #[]] ++ caps',w1,henter,?_,fun _ _ => FX_fn _ _,?_,(fun hd => by rw [FX_depth] at hd; cases hd),?_⟩
     ·simp only [resolve,hcf]
      simp [go_sem]
     ·simp [invoke,go_sem]; exact hg _ _
     ·refine ⟨FX_fn _ _,fun cs _ => ?_⟩
      obtain ⟨e,w2,fr,hR,hsteps,hfn,hleave⟩ := hu.2 cs (room_wide _)
      refine ⟨e,w2,fr,?_,?_,hfn,hleave⟩
      ·cases e with
       | outgrown => exact hR.elim
       | panicked ch => exact hR.elim
       | returned v =>
        obtain ⟨v0,ρ2,H2,hend,hv,R2,S2⟩ := hR
        unfold endLoopA at hend
        split at hend
        ·rename_i L hL
         obtain ⟨hbusy,hend⟩ := hend
         obtain ⟨L',g1,g2,_⟩ := loop_at R2 hL (hbr.mono S2.ext)
         obtain ⟨R3,S3⟩ := loop_end (L2' := { L' with state := .exhausted }) R2 hL (hbr.mono S2.ext)
         have S := (S1.trans S2).trans S3
         have hm := (hmarks.step R1 S2).step R2 S3
         refine ⟨L'.pending,_,run_endLoop g1 (by rw [g2.state]; exact hbusy),?_⟩
         have hpe := g2.pending
         generalize (w2.putObj l (.loop { L' with state := .exhausted })) = w4 at S R3 hm ⊢
         rw [hpe]
         cases hp : L.pending with
         | none =>
          rw [hp] at hend
          exact ⟨_,_,E,hend,S,R3,VRs.mono S.ext hat.env,hm⟩
         | some j =>
          rw [hp] at hend
          cases j with
          | ret => exact wpIn_ret ⟨_,_,E,hend,S,R3,VRs.mono S.ext hat.env,hm⟩
          | exit id => exact wpIn_exit ⟨_,_,E,hend,S,R3,VRs.mono S.ext hat.env,hm⟩
        ·exact hend.elim
      ·cases e with
       | outgrown => exact hR.elim
       | panicked ch => exact hR.elim
       | returned v => exact StepsIn.mono (fun m _ => FX_fenced _ _ m) hsteps
    ·exact h.elim
   ·cases hc
  ·cases hc
end Go.Ae
namespace Go.Ae
open Go
def setPs : List Value → List Tmp → List Value → List Value
 | E,p :: ps,v :: vs => setPs (E.set p v) ps vs
 | E,_,_ => E
def exitJump : AExit → Option AJump
 | .normal => none
 | .ret => some .ret
 | .exit id => some (.exit id)
def beginA (l : Nat) (Q : Heap → Prop) (H : Heap) : Prop :=
 match H.get l with
 | some (.loop L) => L.state = .ready ∧ Q (H.set l (some (.loop { L with state := .busy })))
 | _ => False
def endA (l : Nat) (e : AExit) (Q : Value → Heap → Prop) (H : Heap) : Prop :=
 match H.get l with
 | some (.loop L) => Q (.bool (exitJump e).isNone) (H.set l (some (.loop { L with state := if (exitJump e).isNone then .ready else .done,pending := exitJump e })))
 | _ => False
def roundP (K : Cx) (D : DrawP) (l : Nat) (args : List Value) (H : Heap) (Q : Value → Heap → Prop) : Prop :=
 match H.get l with
 | some (.loop L) => args.length = L.params.length ∧
  wpC K D (some l) L.assign (fun e E1 H1 => match e with
   | .normal => beginA l (wpC K D (some l) L.body (fun e _ H3 => endA l e Q H3) E1) H1
   | _ => False) (setPs L.env L.params args) H
 | _ => False
theorem setPs_rel {ρ : Nm} : ∀ (ps : List Tmp) (E : List Value) (T : List Value) (vs vs' : List Value),VRs ρ E T → VRs ρ vs vs' → VRs ρ (setPs E ps vs) (setPs T ps vs')
 | [],E,T,vs,vs',h,_ => by unfold setPs; exact h
 | p :: ps,E,T,[],vs',h,h2 => by cases h2; exact h
 | p :: ps,E,T,v :: vs,vs',h,h2 => by
  cases h2 with
  | cons hv ht => exact setPs_rel ps _ _ vs _ (h.set p hv) ht
theorem setPs_array : ∀ (ps : List Tmp) (vs : List Value) (T : Array Value),((ps.zip vs).foldl (fun (t : Array Value) (x : Tmp × Value) => t.setIfInBounds x.1 x.2) T).toList = setPs T.toList ps vs
 | [],vs,T => by cases vs <;> rfl
 | p :: ps,[],T => rfl
 | p :: ps,v :: vs,T => by
  simp only [List.zip_cons_cons,List.foldl_cons]
  rw [setPs_array ps vs]
  simp [setPs]
theorem round_sound {K : Cx} {D : DrawP} (hD : ∀ rn,DrawOk D K rn) {l : Nat} {args : List Value} {H : Heap} {Q : Value → Heap → Prop} (h : roundP K D l args H Q) : RC K l args H Q := by
 intro ρ w l' args' hr hbr hargs
 unfold roundP at h
 split at h
 ·rename_i L hL
  obtain ⟨hlen,h⟩ := h
  obtain ⟨L',hl,hLR,hcut,_⟩ := loop_at hr hL hbr
  have hsz : args'.size = L'.params.size := by
   have h1 := hargs.length
   have h2 := hLR.params
   have h3 : L'.params.toList.length = L.params.length := by rw [h2]
   simp at h1 h3; omega
  refine ⟨L'.fn,_,L'.assign,L'.body,run_yield hl hsz,trivial,fun c cs _ => ?_⟩
  let b : Frame := { (default : Frame) with fn := L'.fn,kind := .normal,roundOf := some l' }
  let T : Array Value := (L'.params.zip args').foldl (fun tmps (t,a) => tmps.setIfInBounds t a) L'.tmps
  have hb0 : Frame.round l' L'.fn T L'.assign L'.body .normal = b.atR { tmps := T,defers := [] } [.code L'.assign,.beginRound,.code L'.body] := by
   simp [Frame.round,Frame.atR,b]
  have hT : EnvR ρ (setPs L.env L.params args) T := by
   show VRs _ _ T.toList
   have : T.toList = setPs L'.tmps.toList L.params args'.toList := by
    rw [← hLR.params,← setPs_array]
    simp only [T,← Array.foldl_toList,Array.toList_zip]
   rw [this]
   exact setPs_rel _ _ _ _ _ hLR.env hargs
  have hat : At K (some l) w.heap.size ρ (setPs L.env L.params args) H w { tmps := T,defers := [] } (some l') :=
   ⟨hr,hT,⟨[],rfl,List.nodup_nil,fun r h => by cases h⟩,Nat.le_refl _,hbr⟩
  obtain ⟨e,a1,w1,q1,arr1⟩ := code_sound (hD _) _ _ hLR.assign _ _ _ h _ _ _ _ _ hat b [.beginRound,.code L'.body] (c :: cs) rfl
  show ∃ e w',_ ∧ ComesIn _ _ (lone (Frame.round l' L'.fn T L'.assign L'.body .normal) (c :: cs) w) _ e
  rw [hb0]
  have cast : ∀ {m m'},St' K (some l') m m' → StepsIn (Machine.fenced K.P Fence.wide) K.P m m' := fun s => StepsIn.mono (fun m _ => fenced_wide K.P m) s
  cases e with
  | exit id => obtain ⟨_,_,_,q,_⟩ := q1; exact q.elim
  | ret => obtain ⟨_,_,_,q,_⟩ := q1; exact q.elim
  | goto t => exact q1.elim
  | panic ch => exact q1.elim
  | outgrown => exact q1.elim
  | normal =>
   obtain ⟨ρ1,H1,E1,q,S1,R1,env1,m1⟩ := q1
   simp only [beginA] at q
   split at q
   ·rename_i L1 hL1
    obtain ⟨hready,q⟩ := q
    have hbr1 := hbr.mono S1.ext
    obtain ⟨L1',hl1,hLR1,hcut1,_⟩ := loop_at R1 hL1 hbr1
    have hbegin := run_beginRound (P := K.P) hl1 (by rw [hLR1.state]; exact hready)
    obtain ⟨R2,S2⟩ := loop_turn R1 hL1 hbr1 (L2 := { L1 with state := .busy }) (L2' := { L1' with state := .busy }) { hLR1 with state := rfl }
    have s1 : StepsIn (Machine.fenced K.P Fence.wide) K.P (lone (b.atR a1 [.beginRound,.code L'.body]) (c :: cs) w1) (lone (b.atR a1 [.code L'.body]) (c :: cs) (w1.putObj l' (.loop { L1' with state := .busy }))) :=
     .one (fenced_wide _ _) (stepR_beginRound rfl hbegin)
    have hat2 : At K (some l) w.heap.size ρ1 E1 (H1.set l (some (.loop { L1 with state := .busy }))) (w1.putObj l' (.loop { L1' with state := .busy })) a1 (some l') :=
     ⟨R2,env1,m1.step R1 S2,Nat.le_trans S1.size S2.size,hbr1.mono S2.ext⟩
    have hbodyeq : comp K.P K.G0 K.draw L'.body = some L.body := hLR.body
    obtain ⟨e,a2,w2,q2,arr2⟩ := code_sound (hD _) _ _ hbodyeq _ _ _ q _ _ _ _ _ hat2 b [] (c :: cs) rfl
    have S12 := S1.trans S2
    have fin : ∀ (ej : AExit) (ρ3 : Nm) (H3 : Heap) (w3 : World),endA l ej Q H3 → Rel K ρ3 H3 w3 → Step ρ1 (H1.set l (some (.loop { L1 with state := .busy }))) (w1.putObj l' (.loop { L1' with state := .busy })) ρ3 H3 w3 →
      ∃ v w4,(Instr.endRound l' ((exitJump ej).map jumpCode)).run K.P w3 = .ok v w4 ∧ RetPost K ρ H w Q (.returned v) w4 := by
     intro ej ρ3 H3 w3 hend R3 S3
     unfold endA at hend
     split at hend
     ·rename_i L3 hL3
      have hbr3 := (hbr1.mono S2.ext).mono S3.ext
      obtain ⟨L3',hl3,hLR3,_,_⟩ := loop_at R3 hL3 hbr3
      have hLn : LoopR K ρ3 { L3 with state := if (exitJump ej).isNone then .ready else .done,pending := exitJump ej } { L3' with state := if (exitJump ej).isNone then .ready else .done,pending := (exitJump ej).map jumpCode } :=
       { hLR3 with state := rfl,pending := rfl }
      refine ⟨_,_,run_endRound ((exitJump ej).map jumpCode) hl3,_,ρ3,_,hend,?_,?_,?_⟩
      ·rw [Option.isNone_map]; exact .bool _
      ·rw [Option.isNone_map]
       exact (loop_turn R3 hL3 hbr3 hLn).1
      ·rw [Option.isNone_map]
       exact (S12.trans S3).trans (loop_turn R3 hL3 hbr3 hLn).2
     ·exact hend.elim
    cases e with
    | goto t => exact q2.elim
    | panic ch => exact q2.elim
    | outgrown => exact q2.elim
    | normal =>
     obtain ⟨ρ3,H3,E3,q3,S3,R3,_⟩ := q2
     obtain ⟨v,w4,hend,hpost⟩ := fin .normal ρ3 H3 w2 q3 R3 S3
     exact ⟨.returned v,w4,hpost,((cast arr1).trans s1).trans ((cast arr2).trans (.one (fenced_wide _ _) (stepR_round_end rfl rfl hend)))⟩
    | ret =>
     obtain ⟨ρ3,H3,E3,q3,S3,R3,_⟩ := q2
     obtain ⟨v,w4,hend,hpost⟩ := fin .ret ρ3 H3 w2 q3 R3 S3
     obtain ⟨k₁,hs⟩ := arr2.2 rfl
     exact ⟨.returned v,w4,hpost,((cast arr1).trans s1).trans ((cast hs).trans (.one (fenced_wide _ _) (stepR_round_ret rfl rfl hend)))⟩
    | exit id =>
     obtain ⟨ρ3,H3,E3,q3,S3,R3,_⟩ := q2
     obtain ⟨v,w4,hend,hpost⟩ := fin (.exit id) ρ3 H3 w2 q3 R3 S3
     obtain ⟨k₁,hk,hs⟩ := arr2.2 rfl rfl
     exact ⟨.returned v,w4,hpost,((cast arr1).trans s1).trans ((cast hs).trans (.one (fenced_wide _ _) (stepR_round_exit rfl rfl hk hend)))⟩
   ·exact q.elim
 ·exact h.elim
inductive ARes where
 | tmp (t : Tmp)
 | cell (a : Tmp) (sz : Option Nat)
deriving DecidableEq
structure AFunc where
 ntmps : Nat
 results : List ARes
 body : ACode
def resOne (E : List Value) (H : Heap) : ARes → Option Value
 | .tmp t => some (E.getD t undef)
 | .cell a sz => match aop (.load (.tmp a) sz) E H with
  | .ok r => some r.1
  | _ => none
def resA (E : List Value) (H : Heap) : List ARes → Option (List Value)
 | [] => some []
 | r :: l => match resOne E H r,resA E H l with
  | some v,some vs => some (v :: vs)
  | _,_ => none
def tupleA : List Value → Value
 | [v] => v
 | vs => .tuple vs.toArray
def funcP (K : Cx) (D : DrawP) (F : AFunc) (args : List Value) (H : Heap) (Q : Value → Heap → Prop) : Prop :=
 wpC K D none F.body (fun e E' H' => match e with
  | .exit _ => False
  | _ => ∃ vs,resA E' H' F.results = some vs ∧ Q (tupleA vs) H') (args ++ List.replicate (F.ntmps - args.length) undef) H
def compRes (P : Program) : List ResultVar → Option (List ARes)
 | [] => some []
 | .tmp t :: l => (compRes P l).map (.tmp t :: ·)
 | .cell a t :: l => match aggSz P t,compRes P l with
  | some s,some r => some (.cell a s :: r)
  | _,_ => none
theorem run_loadVar {K : Cx} {ρ : Nm} {E : List Value} {T : Array Value} {H : Heap} {w : World} (hr : Rel K ρ H w) (he : EnvR ρ E T) {a : Tmp} {t : TypeId} {sz : Option Nat} (hz : aggSz K.P t = some sz) {v : Value} {H' : Heap}
  (h : aop (.load (.tmp a) sz) E H = .ok (v,H')) : ∃ v',(do loadVar t (← asAddr (T.getD a undef)) : Sem Value).run K.P w = .ok v' w ∧ VR ρ v v' := by
 have h1 : VR ρ (E.getD a undef) (T.getD a undef) := ev_rel (a := { tmps := T,defers := [] }) hr he (.tmp a) rfl
 simp only [aop,ev] at h
 split at h
 ·rename_i p hp
  rw [hp] at h1
  obtain ⟨b,hb,hpr,hsp⟩ := h1.ptr_inv
  rw [hb]
  unfold aggSz at hz
  cases sz with
  | some n =>
   simp only at h
   split at h
   ·rename_i cs hcs
    cases h
    obtain ⟨l',g1,g2,g3,g4,g5,_⟩ := hr.cells hcs hpr
    refine ⟨.agg l'.toArray,?_,g2.agg g3⟩
    have hb' : b = ⟨b.block,b.off,none⟩ := by cases b; simp at g4; simp [g4]
    have key : (loadCells b n).run K.P w = .ok l'.toArray w := by rw [hb']; exact run_loadCells l' g1 g5
    split at hz
    ·rename_i fs hu
     cases hi : K.P.info? t with
     | none => simp [hi] at hz
     | some i => simp [hi] at hz; simp [asAddr,loadVar,isAgg,underlying,hu,sizeOf,typeInfo,hi,hz,key]
    ·rename_i fs hu
     cases hi : K.P.info? t with
     | none => simp [hi] at hz
     | some i => simp [hi] at hz; simp [asAddr,loadVar,isAgg,underlying,hu,sizeOf,typeInfo,hi,hz,key]
    ·cases hz
    ·cases hz
   ·cases h
  | none =>
   simp only at h
   split at h
   ·rename_i c cs hcs
    cases h
    obtain ⟨l',g1,g2,g3,g4,g5,_⟩ := hr.cells hcs hpr
    cases g2 with
    | cons hv ht =>
     rename_i y ys
     refine ⟨y,?_,hv⟩
     have hb' : b = ⟨b.block,b.off,none⟩ := by cases b; simp at g4; simp [g4]
     have key : w.cell? b = some y := by rw [hb']; exact g5 0 y (by simp)
     split at hz
     ·cases hi : K.P.info? t <;> simp [hi] at hz
     ·cases hi : K.P.info? t <;> simp [hi] at hz
     ·rename_i d h1 h2 hu
      have ha : (isAgg t).run K.P w = .ok false w := by
       simp only [isAgg,underlying,Sem.run_bind,run_program,Result.andThen_ok,hu]
       cases d <;> first | rfl | exact absurd rfl (h1 _) | exact absurd rfl (h2 _ _)
      simp [asAddr,loadVar,ha,key]
     ·cases hz
   ·cases h
 ·cases h
def resRun (T : Array Value) : ResultVar → Sem Value
 | .tmp t => pure (T.getD t undef)
 | .cell a t => do loadVar t (← asAddr (T.getD a undef))
theorem run_mapM_list {P : Program} {α : Type} (f : α → Sem Value) (w : World) : ∀ (l : List α) (vs : List Value),l.length = vs.length → (∀ (i : Nat) (x : α) (v : Value),l[i]? = some x → vs[i]? = some v → (f x).run P w = .ok v w) → (l.mapM f).run P w = .ok vs w
 | [],[],_,_ => rfl
 | x :: l,v :: vs,hl,h => by
  rw [List.mapM_cons]
  simp only [Sem.run_bind,h 0 x v (by simp) (by simp),Result.andThen_ok]
  rw [run_mapM_list f w l vs (by simpa using hl) (fun i x v h1 h2 => h (i + 1) x v (by simpa using h1) (by simpa using h2))]
  rfl
theorem results_sound {K : Cx} {ρ : Nm} {E : List Value} {T : Array Value} {H : Heap} {w : World} (hr : Rel K ρ H w) (he : EnvR ρ E T) : ∀ (rs : List ResultVar) (ars : List ARes),compRes K.P rs = some ars → ∀ vs,resA E H ars = some vs →
  ∃ vs' : List Value,rs.length = vs'.length ∧ VRs ρ vs vs' ∧ ∀ (i : Nat) (x : ResultVar) (v : Value),rs[i]? = some x → vs'[i]? = some v → (resRun T x).run K.P w = .ok v w
 | [],ars,hc,vs,h => by
  simp [compRes] at hc; subst hc
  simp [resA] at h; subst h
  exact ⟨[],rfl,.nil,fun i x v h => by simp at h⟩
 | .tmp t :: rs,ars,hc,vs,h => by
  simp only [compRes] at hc
  cases hrest : compRes K.P rs with
  | none => simp [hrest] at hc
  | some ar =>
   simp [hrest] at hc; subst hc
   simp only [resA,resOne] at h
   cases hv : resA E H ar with
   | none => simp [hv] at h
   | some vs1 =>
    simp [hv] at h; subst h
    obtain ⟨vs',g1,g2,g3⟩ := results_sound hr he rs ar hrest vs1 hv
    refine ⟨T.getD t undef :: vs',by simp [g1],.cons (ev_rel (a := { tmps := T,defers := [] }) hr he (.tmp t) rfl) g2,fun i x v h1 h2 => ?_⟩
    cases i with
    | zero => simp at h1 h2; subst h1 h2; simp [resRun]
    | succ i => exact g3 i x v (by simpa using h1) (by simpa using h2)
 | .cell a t :: rs,ars,hc,vs,h => by
  simp only [compRes] at hc
  split at hc
  ·rename_i s ar hz hrest
   cases hc
   simp only [resA,resOne] at h
   cases hl : aop (.load (.tmp a) s) E H with
   | bad n => simp [hl] at h
   | big => simp [hl] at h
   | ok r =>
    simp only [hl] at h
    cases hv : resA E H ar with
    | none => simp [hv] at h
    | some vs1 =>
     simp [hv] at h; subst h
     obtain ⟨v',hrun,hvr⟩ := run_loadVar hr he hz (v := r.1) (H' := r.2) hl
     obtain ⟨vs',g1,g2,g3⟩ := results_sound hr he rs ar hrest vs1 hv
     refine ⟨v' :: vs',by simp [g1],.cons hvr g2,fun i x v h1 h2 => ?_⟩
     cases i with
     | zero => simp at h1 h2; subst h1 h2; exact hrun
     | succ i => exact g3 i x v (by simpa using h1) (by simpa using h2)
  ·cases hc
theorem shut_rel {K : Cx} {ρ : Nm} {H : Heap} {w : World} (hr : Rel K ρ H w) {r : Nat} {x : Option (List Deferred)} (h : w.heap[r]? = some (.deferred x)) (o : Obj) : Rel K ρ H (w.putObj r o) := by
 refine ⟨fun b ob hb => ?_,hr.fresh,hr.inj,by simp; exact hr.base,hr.wf,hr.glob⟩
 obtain ⟨c,base,size,g1,g2⟩ := hr.objs b ob hb
 refine ⟨c,base,size,g1,?_⟩
 have hne : c ≠ r := fun e => by subst e; rw [h] at g2; cases g2
 rw [World.putObj_heap_other hne]; exact g2
theorem shut_step {ρ ρ' : Nm} {H H' : Heap} {w w' : World} (s : Step ρ H w ρ' H' w') {r : Nat} (hn : w.heap.size ≤ r) (o : Obj) : Step ρ H w ρ' H' (w'.putObj r o) := by
 refine ⟨s.ext,s.next,s.hid,by simp; exact s.size,fun c hc hi => ?_,s.os,s.tape,s.output⟩
 have hne : c ≠ r := by omega
 rw [World.putObj_heap_other hne]; exact s.keeps c hc hi
theorem tuple_rel {ρ : Nm} {vs vs' : List Value} (h : VRs ρ vs vs') : VR ρ (tupleA vs) (if h : vs'.toArray.size = 1 then vs'.toArray[0] else .tuple vs'.toArray) := by
 have key : VR ρ (.tuple vs.toArray) (.tuple vs'.toArray) := by
  have hl := h.length
  refine .tuple (by simp [hl]) fun i h1 h2 => ?_
  simp at h1 h2
  obtain ⟨y,hy,hv⟩ := h.get (i := i) (x := vs[i]) (by simp [h1])
  have : vs'[i] = y := by rw [List.getElem?_eq_getElem h2] at hy; exact Option.some.inj hy
  simpa [this] using hv
 cases h with
 | nil => simpa [tupleA] using key
 | cons hv ht =>
  cases ht with
  | nil => simpa [tupleA] using hv
  | cons hv2 ht2 => simpa [tupleA] using key
theorem func_sound {K : Cx} {D : DrawP} (hD : ∀ rn,DrawOk D K rn) {f : FuncId} {fn : Func} {c : Code} {F : AFunc} (hf : K.P.funcs[f]? = some fn) (hb : fn.body = some c) (hn : fn.name ≠ "runtime.NumGoroutine")
  (hc : comp K.P K.G0 K.draw c = some F.body) (ht : fn.ntmps = F.ntmps) (hres : compRes K.P fn.results.toList = some F.results) {args : List Value} {H : Heap} {Q : Value → Heap → Prop} (h : funcP K D F args H Q) : FC K f args H Q := by
 intro ρ w args' hr hargs
 have hcall : (callFunc f args').run K.P w = .ok (.enter f args') w := by
  simp [callFunc,hf,hb,hn]
 rw [hcall]
 refine callsIn_of_wp_marks hf hb trivial ?_
 have hat : At K none w.heap.size ρ (args ++ List.replicate (F.ntmps - args.length) undef) H w { tmps := args' ++ Array.replicate (fn.ntmps - args'.size) undef,defers := [] } none := by
  refine ⟨hr,?_,⟨[],rfl,List.nodup_nil,fun r h => by cases h⟩,Nat.le_refl _,trivial⟩
  show VRs _ _ (args' ++ Array.replicate (fn.ntmps - args'.size) undef).toList
  rw [Array.toList_append,Array.toList_replicate,ht]
  have hl := hargs.length
  simp only [Array.length_toList] at hl
  rw [hl]
  refine hargs.append ?_
  generalize F.ntmps - args.length = m
  induction m with
  | zero => exact .nil
  | succ m ih => rw [List.replicate_succ]; exact .cons .undef ih
 have hwp := comes_wpIn.1 (code_sound (hD _) _ _ hc _ _ _ h _ _ _ _ _ hat)
 have out : ∀ (a' : Act) (w' : World) (ρ' : Nm) (H' : Heap) (E' : List Value) (vs : List Value),resA E' H' F.results = some vs → Q (tupleA vs) H' → Step ρ H w ρ' H' w' → Rel K ρ' H' w' → EnvR ρ' E' a'.tmps → Marks w.heap.size w' a'.defers →
   LeavesInM Fence.wide 0 K.P fn a'.tmps (RetPost K ρ H w Q) a'.defers .returning w' := by
  intro a' w' ρ' H' E' vs hvs hq S R env m
  obtain ⟨rs,m1,m2,m3⟩ := m
  rw [m1]
  clear m1
  induction rs generalizing w' with
  | nil =>
   obtain ⟨vs',g1,g2,g3⟩ := results_sound R env _ _ hres vs hvs
   have hm := run_mapM_list (P := K.P) (resRun a'.tmps) w' _ _ g1 g3
   have hrun : (results fn a'.tmps).run K.P w' = .ok (if h : vs'.toArray.size = 1 then vs'.toArray[0] else .tuple vs'.toArray) w' := by
    have e1 : (fn.results.mapM (resRun a'.tmps)).run K.P w' = .ok vs'.toArray w' := by
     rw [Array.mapM_eq_mapM_toList,Sem.run_map]
     rw [hm]; rfl
    have e2 : results fn a'.tmps = (do let vs ← fn.results.mapM (resRun a'.tmps); pure (if h : vs.size = 1 then vs[0] else .tuple vs)) := by
     unfold results
     congr 1
    rw [e2]
    simp only [Sem.run_bind,e1,Result.andThen_ok,Sem.run_pure]
   exact ⟨_,hrun,_,ρ',H',hq,tuple_rel g2,R,S⟩
  | cons r rs ih =>
   obtain ⟨h1,h2⟩ := m3 r (by simp)
   have hnd := List.nodup_cons.1 m2
   refine ⟨by simp,.inl ⟨r,_,rfl,run_takeDeferred h2,?_⟩⟩
   refine ih (w'.putObj r (.deferred none)) (shut_step S h1 _) (shut_rel R h2 _) hnd.2 fun q hq => ?_
   obtain ⟨g1,g2⟩ := m3 q (by simp [hq])
   refine ⟨g1,?_⟩
   have hne : q ≠ r := fun e => hnd.1 (e ▸ hq)
   rw [World.putObj_heap_other hne]; exact g2
 refine wpIn_mono hwp fun e a' w' hq => ?_
 cases e with
 | normal => obtain ⟨ρ',H',E',⟨vs,q1,q2⟩,S,R,env,m⟩ := hq; exact out a' w' ρ' H' E' vs q1 q2 S R env m
 | ret => obtain ⟨ρ',H',E',⟨vs,q1,q2⟩,S,R,env,m⟩ := hq; exact out a' w' ρ' H' E' vs q1 q2 S R env m
 | exit id => obtain ⟨ρ',H',E',q,_⟩ := hq; exact q.elim
 | goto t => exact hq.elim
 | panic ch => exact hq.elim
 | outgrown => exact hq
end Go.Ae
namespace Go.Ae
open Go
def opdTmps : List Operand → List Tmp
 | [] => []
 | .tmp t :: l => t :: opdTmps l
 | _ :: l => opdTmps l
def optOpd : Option Operand → List Operand
 | some x => [x]
 | none => []
def AOp.opds : AOp → List Operand
 | .mv x => [x]
 | .pick c a b => [c,a,b]
 | .new _ _ => []
 | .box x _ => [x]
 | .build _ parts => parts.map fun p => p.2.2
 | .mkslice _ _ _ parts => parts.map fun p => p.2.2
 | .load a _ => [a]
 | .store a x _ => [a,x]
 | .nilck x => [x]
 | .bin _ x y => [x,y]
 | .eqv _ _ x y => [x,y]
 | .un _ x => [x]
 | .conv _ x => [x]
 | .toStr x => [x]
 | .faddr x _ => [x]
 | .fld x _ _ => [x]
 | .idx x i _ => [x,i]
 | .idxA x i _ _ => [x,i]
 | .strAt x i => [x,i]
 | .aggAt x i _ _ _ => [x,i]
 | .sl x lo hi _ => x :: (optOpd lo ++ optOpd hi)
 | .slStr x lo hi => x :: (optOpd lo ++ optOpd hi)
 | .ext x _ => [x]
 | .lenS x => [x]
 | .lenL x => [x]
 | .lenM x => [x]
 | .app s x _ _ => [s,x]
 | .appStr s x _ => [s,x]
 | .mx x y => [x,y]
 | .mn x y => [x,y]
 | .mkfn _ caps => caps
 | .mkmap => []
 | .look _ m k _ _ => [m,k]
 | .mset _ m k v => [m,k,v]
 | .mdel _ m k => [m,k]
 | .mkrow l c _ _ => [l,c]
 | .call f args => f :: args
 | .capq x => [x]
 | .appz s x _ _ => [s,x]
 | .copyS x y _ => [x,y]
 | .toU x => [x]
 | .ofU x _ _ => [x]
 | .sdata x => [x]
 | .ustr x n _ => [x,n]
 | .stop => []
inductive NK where
 | pure | load | effect | nam | lay
deriving DecidableEq,Repr
def kindA : AOp → NK
 | .load _ _ => .load
 | .toStr _ => .load
 | .lenM _ => .load
 | .toU _ => .load
 | .ofU _ _ _ => .load
 | .look _ _ _ _ _ => .load
 | .eqv _ .ptr _ _ => .load
 | .new _ _ => .nam
 | .box _ _ => .nam
 | .mkslice _ _ _ _ => .nam
 | .mkmap => .nam
 | .mkrow _ _ _ _ => .nam
 | .store _ _ _ => .effect
 | .app _ _ _ _ => .effect
 | .appStr _ _ _ => .effect
 | .mset _ _ _ _ => .effect
 | .mdel _ _ _ => .effect
 | .call _ _ => .effect
 | .ustr _ _ _ => .effect
 | .capq _ => .effect
 | .appz _ _ _ _ => .effect
 | .copyS _ _ _ => .effect
 | _ => .pure
def guardTmps : Option (Tmp × Bool) → List Tmp
 | some (t,_) => [t]
 | none => []
def AItem.reads (it : AItem) : List Tmp := guardTmps it.guard ++ opdTmps it.op.opds
structure Node where
 it : AItem
 kind : NK
 off : Nat
def offOf (its : List AItem) (i : Nat) : Nat := ((its.take i).filter fun it => isAlloc it.op).length
def nodeOf (its : List AItem) (u : Nat) : Option Node :=
 match its[u / 2]? with
 | some it => if u % 2 = 0 then some ⟨it,kindA it.op,offOf its (u / 2)⟩
  else if isAlloc it.op then some ⟨it,.lay,offOf its (u / 2)⟩ else none
 | none => none
def Node.reads (n : Node) : List Tmp := n.it.reads
def Node.dst (n : Node) : Option Tmp := match n.kind with
 | .lay => none
 | _ => n.it.dst
def away (d : Option Tmp) (l : List Tmp) : Bool := match d with
 | some d => !l.contains d
 | none => true
def neD (d e : Option Tmp) : Bool := match d,e with
 | some x,some y => x != y
 | _,_ => true
def apartN (a b : Node) : Bool := away a.dst b.reads && away b.dst a.reads && neD a.dst b.dst
def NK.val : NK → Bool
 | .pure => true
 | .load => true
 | .nam => true
 | _ => false
def kindOk (i a : NK) : Bool := match i,a with
 | .pure,_ => true
 | .nam,_ => true
 | .load,_ => true
 | .effect,.lay => true
 | .lay,.lay => true
 | .lay,.pure => true
 | .lay,.nam => true
 | _,_ => false
def swapOk (i a : Node) : Bool := kindOk i.kind a.kind && apartN i a && (i.kind != .load || a.kind != .effect || i.dst.isSome && away i.dst i.reads)
def direct (o : Oper) : List Nat := (o.after.toList.filter fun e => Region.binds .any e).map (·.on)
def predsL : List Oper → List (List Nat) → List (List Nat)
 | [],acc => acc
 | o :: r,acc => predsL r (acc ++ [direct o ++ (direct o).flatMap fun j => acc.getD j []])
structure Graph where
 its : List AItem
 preds : List (List Nat)
def Graph.comesBefore (g : Graph) (j i : Nat) : Bool := (g.preds.getD i []).contains j
def Graph.before (g : Graph) (u v : Nat) : Bool :=
 if u / 2 = v / 2 then u % 2 == 0 && v % 2 == 1
 else g.comesBefore (u / 2) (v / 2) && (u % 2 == 0 ||
  match nodeOf g.its u,nodeOf g.its v with
  | some a,some b => !((b.kind == .pure || b.kind == .nam) && away b.dst a.reads && neD b.dst a.it.dst)
  | _,_ => false)
def Graph.nodes (g : Graph) : List Nat := (List.range g.its.length).flatMap fun i => match g.its[i]? with
 | some it => if isAlloc it.op then [2 * i,2 * i + 1] else [2 * i]
 | none => []
def Graph.chkAt (g : Graph) (l a : Nat) : Bool := match nodeOf g.its l,nodeOf g.its a with
 | some n,some m => n.kind == .load && m.kind == .effect && !g.before l a && !g.before a l
 | _,_ => false
def rank : NK → Nat
 | .pure => 0
 | .nam => 1
 | .load => 2
 | .effect => 3
 | .lay => 4
def Graph.mayPick (g : Graph) (rest : List Nat) (i : Nat) : Bool :=
 rest.all (fun a => a == i || !g.before a i) &&
 rest.all fun a => a == i || g.before i a || match nodeOf g.its i,nodeOf g.its a with
  | some n,some m => swapOk n m
  | _,_ => false
def Graph.pick (g : Graph) (rest : List Nat) : Option Nat :=
 let c := rest.filter (g.mayPick rest)
 (List.range 5).findSome? fun r => c.find? fun i => match nodeOf g.its i with
  | some n => rank n.kind == r
  | none => false
def Graph.canon (g : Graph) : Nat → List Nat → Option (List Nat)
 | _,[] => some []
 | 0,_ => none
 | f + 1,rest => match g.pick rest with
  | some i => (g.canon f (rest.filter (· != i))).map (i :: ·)
  | none => none
def Graph.ditems (g : Graph) : List Nat → List Nat → List DItem
 | _,[] => []
 | done,i :: r => match nodeOf g.its i with
  | some n => (match n.kind with
   | .nam => [DItem.nam n.it n.off]
   | .lay => [DItem.lay n.it n.off]
   | _ => [DItem.run n.it]) ++ (done.reverse.filterMap fun l => if g.chkAt l i then (g.its[l / 2]?).map DItem.chk else none) ++ g.ditems (i :: done) r
  | none => []
def edgesOk (ops : List Oper) : Bool := (List.range ops.length).all fun i => match ops[i]? with
 | some o => (direct o).all (· < i)
 | none => true
def Graph.loadsOk (g : Graph) : Bool := g.nodes.all fun l => g.nodes.all fun a => !g.chkAt l a || g.nodes.all fun b => b == l || g.before b l || match nodeOf g.its l,nodeOf g.its b with
 | some n,some m => away m.dst n.reads && neD m.dst n.dst
 | _,_ => false
def Graph.namsOk (g : Graph) : Bool := g.its.all fun it => !isAlloc it.op || away it.dst it.reads
def drawOf (P : Program) (G0 : Nat) (_ : Nat) (ops : Array Oper) : Option (Nat × List DItem) :=
 match compItems P G0 ops ops.toList with
 | some its =>
  let g : Graph := { its,preds := predsL ops.toList [] }
  if edgesOk ops.toList && g.loadsOk && g.namsOk then (g.canon (2 * its.length) g.nodes).map fun c => (offOf its its.length,g.ditems [] c) else none
 | none => none
end Go.Ae
