/- Part 11 of the proof of the law: Ae26, Ae27, Ae28, Ae29, Ae30, Ae31. No condition. -/
import Derived.Test.YtalflgbdhjjlkaaGreatDoorP10
import Derived.Lib.MakeNoZero
import Derived.Lib.Builder
set_option linter.all false
namespace Go.Ae
open Go
def oldNm (n : Nat) : Nm := fun b => if b < n then .dead else .fresh
def Old (n : Nat) (v : Value) : Prop := ∃ x,VR (oldNm n) v x
theorem oldNm_known {n b : Nat} (h : oldNm n b ≠ .fresh) : b < n := by
 unfold oldNm at h
 split at h
 ·assumption
 ·exact (h rfl).elim
theorem VR.known {ρ0 ρ' ρ1 : Nm} (hk : ∀ b,ρ0 b ≠ .fresh → ρ1 b = ρ' b) {v x y : Value} (h0 : VR ρ0 v x) (h : VR ρ' v y) : VR ρ1 v y := by
 induction h generalizing x with
 | bool b => exact .bool b
 | int k n => exact .int k n
 | string s => exact .string s
 | ptrNil => exact .ptrNil
 | @ptr b o a h =>
  cases h0 with
  | ptr h0 => exact .ptr ⟨by rw [hk b h0.1]; exact h.1,fun c base size hl => h.2 c base size (by rw [← hk b h0.1]; exact hl)⟩
 | sliceNil => exact .sliceNil
 | @slice b o sz n cap cap' a h h1 h2 h3 =>
  cases h0 with
  | slice h0 _ _ _ => exact .slice ⟨by rw [hk b h0.1]; exact h.1,fun c base size hl => h.2 c base size (by rw [← hk b h0.1]; exact hl)⟩ h1 h2 h3
 | mapNil => exact .mapNil
 | @map b r h =>
  cases h0 with
  | map h0 => exact .map ⟨by rw [hk b h0.1]; exact h.1,fun c base size hl => h.2 c base size (by rw [← hk b h0.1]; exact hl)⟩
 | nilFunc => exact .nilFunc
 | nilIface => exact .nilIface
 | @func f c c' hs h ih =>
  cases h0 with
  | func _ hs0 h0 => exact .func f hs fun i h1 h2 => ih i h1 h2 (h0 i h1 (by omega))
 | @yield l l' h =>
  cases h0 with
  | yield h0 => exact .yield ⟨by rw [hk l h0.1]; exact h.1,fun c base size hl => h.2 c base size (by rw [← hk l h0.1]; exact hl)⟩
 | @agg c c' hs h ho ih =>
  cases h0 with
  | agg hs0 h0 _ => exact .agg hs (fun i h1 h2 => ih i h1 h2 (h0 i h1 (by omega))) ho
 | @tuple c c' hs h ih =>
  cases h0 with
  | tuple hs0 h0 => exact .tuple hs fun i h1 h2 => ih i h1 h2 (h0 i h1 (by omega))
theorem VRs.known {ρ0 ρ' ρ1 : Nm} (hk : ∀ b,ρ0 b ≠ .fresh → ρ1 b = ρ' b) {v x y : List Value} (h0 : VRs ρ0 v x) (h : VRs ρ' v y) : VRs ρ1 v y := by
 induction h generalizing x with
 | nil => exact .nil
 | cons hv _ ih => cases h0 with | cons a b => exact .cons (VR.known hk a hv) (ih b)
theorem ObjR.known {K : Cx} {ρ0 ρ' ρ1 : Nm} (hk : ∀ b,ρ0 b ≠ .fresh → ρ1 b = ρ' b) {c0 base0 size0 c base size : Nat} {o : AObj} {x y : Option Obj} (h0 : ObjR K ρ0 c0 base0 size0 o x) (h : ObjR K ρ' c base size o y) : ObjR K ρ1 c base size o y := by
 cases h with
 | row hc h hf hs hb ht =>
  cases h0 with
  | row _ h0 => exact .row hc (fun i v hv => by
    obtain ⟨h1,v',h2,h3⟩ := h i v hv
    obtain ⟨_,x',_,h4⟩ := h0 i v hv
    exact ⟨h1,v',h2,h4.known hk h3⟩) hf hs hb ht
 | ro hc h hs hb =>
  cases h0 with
  | ro _ h0 => exact .ro hc (fun i v hv => by
    obtain ⟨h1,v',h2,h3⟩ := h i v hv
    obtain ⟨_,x',_,h4⟩ := h0 i v hv
    exact ⟨h1,v',h2,h4.known hk h3⟩) hs hb
 | map hc hb h =>
  cases h0 with
  | map _ _ h0 =>
   refine .map hc hb ⟨h.size,fun i e hi => ?_,h.rises,h.below⟩
   obtain ⟨e',g1,g2⟩ := h.entries i e hi
   obtain ⟨x',_,g3⟩ := h0.entries i e hi
   exact ⟨e',g1,VR.known hk g3.key g2.key,VR.known hk g3.val g2.val⟩
 | loop hc hb h =>
  cases h0 with
  | loop _ _ h0 => exact .loop hc hb { h with env := VRs.known hk h0.env h.env }
def Agree (n : Nat) (H H' : Heap) : Prop := ∀ b,b < n → H'.get b = H.get b
theorem Agree.refl (n : Nat) (H : Heap) : Agree n H H := fun _ _ => rfl
theorem Agree.trans {n : Nat} {A B C : Heap} (h : Agree n A B) (h' : Agree n B C) : Agree n A C := fun b hb => (h' b hb).trans (h b hb)
def cutNm (n : Nat) (ρ : Nm) : Nm := fun b => if b < n then ρ b else .fresh
theorem cutNm_lt {n : Nat} {ρ : Nm} {b : Nat} (h : b < n) : cutNm n ρ b = ρ b := if_pos h
theorem Rel.lt_next {K : Cx} {ρ : Nm} {H : Heap} {w : World} (h : Rel K ρ H w) {b : Nat} (hb : ρ b ≠ .fresh) : b < H.next := by
 rcases Nat.lt_or_ge b H.next with hl | hl
 ·exact hl
 ·exact (hb (h.fresh b hl)).elim
theorem retPost_forget {K : Cx} {ρ : Nm} {H : Heap} {w : World} (hr : Rel K ρ H w) {Q : Value → Heap → Prop} {e : Ending} {w' : World}
  (hp : RetPost K ρ H w (fun v H' => Agree H.next H H' ∧ Old H.next v ∧ Q v H) e w') : RetPost K ρ H w Q e w' := by
 cases e with
 | outgrown => exact hp
 | panicked _ => exact hp
 | returned v' =>
  obtain ⟨v,ρ',H',⟨ha,⟨x,hx⟩,hq⟩,hv,hr',hs⟩ := hp
  have hk : ∀ b,ρ b ≠ .fresh → cutNm H.next ρ' b = ρ' b := fun b hb => cutNm_lt (hr.lt_next hb)
  refine ⟨v,cutNm H.next ρ',H,hq,?_,?_,?_⟩
  ·exact VR.known (ρ0 := oldNm H.next) (fun b hb => cutNm_lt (oldNm_known hb)) hx hv
  ·refine ⟨fun b o hb => ?_,fun b hb => ?_,fun b b' o o' c base base' size size' hb hb' ho ho' hl hl' => ?_,hr'.base,hr.wf,fun g hg => ?_⟩
   ·have hlt := Heap.lt_of_get hb
    obtain ⟨c,base,size,h1,h2⟩ := hr'.objs b o (by rw [ha b hlt]; exact hb)
    obtain ⟨c0,base0,size0,_,h3⟩ := hr.objs b o hb
    exact ⟨c,base,size,by rw [cutNm_lt hlt]; exact h1,h3.known hk h2⟩
   ·unfold cutNm; rw [if_neg (by omega)]
   ·have l1 := Heap.lt_of_get hb
    have l2 := Heap.lt_of_get hb'
    rw [cutNm_lt l1] at hl
    rw [cutNm_lt l2] at hl'
    exact hr'.inj b b' o o' c base base' size size' (by rw [ha b l1]; exact hb) (by rw [ha b' l2]; exact hb') ho ho' hl hl'
   ·have h1 := (hr.glob g hg).1
    rw [hk g h1]
    exact hr'.glob g hg
  ·refine ⟨fun b hb => ?_,Nat.le_refl _,fun b hb hn => ?_,hs.size,fun c hc hi => ?_,hs.os,hs.tape,hs.output⟩
   ·rw [hk b hb]; exact hs.ext b hb
   ·exact ⟨by rw [cutNm_lt hb]; exact (hs.hid b hb hn).1,hn⟩
   ·obtain ⟨h1,h2⟩ := hs.keeps c hc hi
    refine ⟨h1,fun ⟨b,o,base,size,g1,g2,g3⟩ => h2 ⟨b,o,base,size,?_,g2,?_⟩⟩
    ·rw [ha b (Heap.lt_of_get g1)]; exact g1
    ·rw [cutNm_lt (Heap.lt_of_get g1)] at g3; exact g3
theorem FC.forget {K : Cx} {f : FuncId} {args : List Value} {H : Heap} {Q : Value → Heap → Prop} (h : FC K f args H fun v H' => Agree H.next H H' ∧ Old H.next v ∧ Q v H) : FC K f args H Q := fun ρ w args' hr ha =>
 Upon.mono (fun _ _ => retPost_forget hr) (h ρ w args' hr ha)
theorem RC.forget {K : Cx} {l : Nat} {args : List Value} {H : Heap} {Q : Value → Heap → Prop} (h : RC K l args H fun v H' => Agree H.next H H' ∧ Old H.next v ∧ Q v H) : RC K l args H Q := by
 intro ρ w l' args' hr hb ha
 obtain ⟨fn,tmps,asg,body,h1,h2⟩ := h ρ w l' args' hr hb ha
 exact ⟨fn,tmps,asg,body,h1,h2.mono fun _ _ => retPost_forget hr⟩
def swapNm (n b : Nat) (ρ : Nm) : Nm := fun x => if x < n then ρ x else if x = n then ρ b else .fresh
inductive Moved (n b : Nat) : Value → Value → Prop where
 | slice (o sz k cap : Nat) : Moved n b (.slice (some ⟨b,o,some sz⟩) k cap) (.slice (some ⟨n,o,some sz⟩) k cap)
 | ptr (o : Nat) : Moved n b (.pointer (some ⟨b,o,none⟩)) (.pointer (some ⟨n,o,none⟩))
 | map : Moved n b (.map (some b)) (.map (some n))
 | old {v : Value} (h : Old n v) : Moved n b v v
 | pair {v u v' u' : Value} (h : Moved n b v v') (g : Moved n b u u') : Moved n b (.tuple #[v,u]) (.tuple #[v',u'])
theorem VR.moved {n b : Nat} {ρ : Nm} {v u y : Value} (h : Moved n b v u) (hv : VR ρ v y) : VR (swapNm n b ρ) u y := by
 have e : swapNm n b ρ n = ρ b := by unfold swapNm; rw [if_neg (by omega),if_pos rfl]
 induction h generalizing y with
 | slice o sz k cap =>
  cases hv with
  | slice h h1 h2 h3 => exact .slice ⟨by rw [e]; exact h.1,fun c base size hl => h.2 c base size (by rw [← e]; exact hl)⟩ h1 h2 h3
 | ptr o =>
  cases hv with
  | ptr h => exact .ptr ⟨by rw [e]; exact h.1,fun c base size hl => h.2 c base size (by rw [← e]; exact hl)⟩
 | map =>
  cases hv with
  | map h => exact .map ⟨by rw [e]; exact h.1,fun c base size hl => h.2 c base size (by rw [← e]; exact hl)⟩
 | old h =>
  obtain ⟨x,hx⟩ := h
  exact VR.known (ρ0 := oldNm n) (fun c hc => by unfold swapNm; rw [if_pos (oldNm_known hc)]) hx hv
 | pair h g ih1 ih2 =>
  obtain ⟨c',rfl,hc⟩ := hv.tuple_inv
  obtain ⟨c'⟩ := c'
  cases hc with
  | cons a t => cases t with
   | cons b t => cases t; exact VRs.tuple (.cons (ih1 a) (.cons (ih2 b) .nil))
theorem retPost_move {K : Cx} {ρ : Nm} {H : Heap} {w : World} (hr : Rel K ρ H w) {Q : Value → Heap → Prop} {e : Ending} {w' : World}
  (hp : RetPost K ρ H w (fun v H' => Agree H.next H H' ∧ ∃ b cs ty u,H.next ≤ b ∧ H'.get b = some (.row cs 0 ty) ∧ (∀ x ∈ cs,Old H.next x) ∧ Moved H.next b v u ∧ Q u (H.push (.row cs 0 ty))) e w') : RetPost K ρ H w Q e w' := by
 cases e with
 | outgrown => exact hp
 | panicked _ => exact hp
 | returned v' =>
  obtain ⟨v,ρ',H',⟨ha,b,cs,ty,u,hb,hg,hold,hm,hq⟩,hv,hr',hs⟩ := hp
  let ρ1 := swapNm H.next b ρ'
  have e1 : ∀ x,x < H.next → ρ1 x = ρ' x := fun x hx => if_pos hx
  have e2 : ρ1 H.next = ρ' b := by show swapNm H.next b ρ' H.next = _; unfold swapNm; rw [if_neg (by omega),if_pos rfl]
  have hk : ∀ x,ρ x ≠ .fresh → ρ1 x = ρ' x := fun x hx => e1 x (hr.lt_next hx)
  have hget : ∀ x o,(H.push (.row cs 0 ty)).get x = some o → ∃ y,H'.get y = some o ∧ ρ1 x = ρ' y ∧ ((x < H.next ∧ y = x) ∨ (x = H.next ∧ y = b)) := by
   intro x o hx
   rcases Heap.get_push_cases hx with ⟨h1,h2⟩ | ⟨h1,h2⟩
   ·subst h1 h2; exact ⟨b,hg,e2,.inr ⟨rfl,rfl⟩⟩
   ·have hl := Heap.lt_of_get h2
    exact ⟨x,by rw [ha x hl]; exact h2,e1 x hl,.inl ⟨hl,rfl⟩⟩
  refine ⟨u,ρ1,H.push (.row cs 0 ty),hq,hv.moved hm,?_,?_⟩
  ·refine ⟨fun x o hx => ?_,fun x hx => ?_,fun x x' o o' c base base' size size' hx hx' ho ho' hl hl' => ?_,hr'.base,Heap.wf_push _ hr.wf,fun g hg' => ?_⟩
   ·obtain ⟨y,g1,g2,g3⟩ := hget x o hx
    obtain ⟨c,base,size,h1,h2⟩ := hr'.objs y o g1
    refine ⟨c,base,size,by rw [g2]; exact h1,?_⟩
    rcases g3 with ⟨hl,rfl⟩ | ⟨rfl,rfl⟩
    ·obtain ⟨c0,base0,size0,_,h3⟩ := hr.objs y o (by rw [← ha y hl]; exact g1)
     exact h3.known hk h2
    ·rw [hg] at g1; cases g1
     generalize w'.heap[c]? = ob at h2 ⊢
     cases h2 with
     | row hc h hf hs' hb' ht => exact .row hc (fun i z hz => by
       obtain ⟨p1,z',p2,p3⟩ := h i z hz
       obtain ⟨q,hq'⟩ := hold z (List.mem_of_getElem? hz)
       exact ⟨p1,z',p2,VR.known (ρ0 := oldNm H.next) (fun d hd => e1 d (oldNm_known hd)) hq' p3⟩) hf hs' hb' ht
   ·show swapNm H.next b ρ' x = _
    simp at hx
    unfold swapNm; rw [if_neg (by omega),if_neg (by omega)]
   ·obtain ⟨y,g1,g2,g3⟩ := hget x o hx
    obtain ⟨y',g1',g2',g3'⟩ := hget x' o' hx'
    have := hr'.inj y y' o o' c base base' size size' g1 g1' ho ho' (by rw [← g2]; exact hl) (by rw [← g2']; exact hl')
    omega
   ·have h1 := (hr.glob g hg').1
    rw [hk g h1]
    exact hr'.glob g hg'
  ·refine ⟨fun x hx => ?_,by simp,fun x hx hn => ?_,hs.size,fun c hc hi => ?_,hs.os,hs.tape,hs.output⟩
   ·rw [hk x hx]; exact hs.ext x hx
   ·exact ⟨by rw [e1 x hx]; exact (hs.hid x hx hn).1,by rw [Heap.get_push_ne _ _ (by omega)]; exact hn⟩
   ·obtain ⟨h1,h2⟩ := hs.keeps c hc hi
    refine ⟨h1,fun ⟨x,o,base,size,g1,g2,g3⟩ => ?_⟩
    obtain ⟨y,k1,k2,_⟩ := hget x o g1
    exact h2 ⟨y,o,base,size,k1,g2,by rw [← k2]; exact g3⟩
theorem FC.move {K : Cx} {f : FuncId} {args : List Value} {H : Heap} {Q : Value → Heap → Prop} (h : FC K f args H fun v H' => Agree H.next H H' ∧ ∃ b cs ty u,H.next ≤ b ∧ H'.get b = some (.row cs 0 ty) ∧ (∀ x ∈ cs,Old H.next x) ∧ Moved H.next b v u ∧ Q u (H.push (.row cs 0 ty))) : FC K f args H Q := fun ρ w args' hr ha =>
 Upon.mono (fun _ _ => retPost_move hr) (h ρ w args' hr ha)
theorem Old.flat {n : Nat} {v : Value} (h : flat v = true) : Old n v := ⟨v,.flat h⟩
theorem Old.bool {n : Nat} (b : Bool) : Old n (.bool b) := ⟨_,.bool b⟩
theorem Old.int {n : Nat} (k : IntKind) (i : Int) : Old n (.int k i) := ⟨_,.int k i⟩
theorem Old.string {n : Nat} (s : ByteArray) : Old n (.string s) := ⟨_,.string s⟩
theorem Old.ptr {n b o : Nat} (h : b < n) : Old n (ptrTo b o) := ⟨.pointer (some ⟨0,0,none⟩),.ptr ⟨by unfold oldNm; rw [if_pos h]; simp,fun c base size hl => by unfold oldNm at hl; rw [if_pos h] at hl; cases hl⟩⟩
theorem Old.map {n b : Nat} (h : b < n) : Old n (.map (some b)) := ⟨.map (some 0),.map ⟨by unfold oldNm; rw [if_pos h]; simp,fun c base size hl => by unfold oldNm at hl; rw [if_pos h] at hl; cases hl⟩⟩
theorem Old.nilp {n : Nat} : Old n (.pointer none) := ⟨_,.ptrNil⟩
theorem Old.slice {n b o sz k cap : Nat} (h : b < n) (h1 : k ≤ cap) (h2 : cap ≤ maxRow) : Old n (sliceOf b o sz k cap) :=
 ⟨.slice (some ⟨0,0,none⟩) k cap,.slice ⟨by unfold oldNm; rw [if_pos h]; simp,fun c base size hl => by unfold oldNm at hl; rw [if_pos h] at hl; cases hl⟩ h1 (Nat.le_refl _) h2⟩
theorem Old.pair {n : Nat} {a b : Value} (h : Old n a) (g : Old n b) : Old n (.tuple #[a,b]) := by
 obtain ⟨x,hx⟩ := h
 obtain ⟨y,hy⟩ := g
 exact ⟨_,VRs.tuple (.cons hx (.cons hy .nil))⟩
end Go.Ae
namespace Go.Ae
open Go
theorem loop_ind {W : (AExit → List Value → Heap → Prop) → List Value → Heap → Prop} {Q : AExit → List Value → Heap → Prop} (inv : Nat → List Value → Heap → Prop) {n : Nat} {E : List Value} {H : Heap} (h0 : inv n E H)
  (h : ∀ (I : List Value → Heap → Prop) n E H,inv n E H → (∀ m E' H',m < n → inv m E' H' → I E' H') → W (thenA I Q) E H) : LoopP W Q E H := by
 intro I hI
 have : ∀ n E H,inv n E H → I E H := fun n => by
  induction n using Nat.strongRecOn with
  | ind n ih => exact fun E H hi => hI E H (h I n E H hi fun m E' H' hm h' => ih m hm E' H' h')
 exact this n E H h0
variable {K : Cx} {Q : List Value → Heap → Prop} {E : List Value} {H : Heap} {d : Option Tmp} {r : List AItem} {D : DrawP} {rn : Option Nat} {X : AExit → List Value → Heap → Prop} {n : Nat} {f : Nat → Value}
theorem upv_self {t : Nat} {v : Value} (h : f t = v) : upv f t v = f := by
 funext x; unfold upv; split
 ·rename_i e; subst e; exact h.symm
 ·rfl
def skipB (K : Cx) (it : AItem) (r : List AItem) (Q : List Value → Heap → Prop) (n : Nat) (f : Nat → Value) (H : Heap) (t : Nat) : Value → Bool → Prop
 | .bool b,true => if b = true then wpItems K (⟨it.dst,it.op,none⟩ :: r) Q (mk n (upv f t (.bool true))) H else wpItems K r Q (mk n (upv (upv f t (.bool false)) (it.dst.getD n) undef)) H
 | .bool b,false => if b = true then wpItems K r Q (mk n (upv (upv f t (.bool true)) (it.dst.getD n) undef)) H else wpItems K (⟨it.dst,it.op,none⟩ :: r) Q (mk n (upv f t (.bool false))) H
 | _,_ => wpItems K r Q (mk n (upv f (it.dst.getD n) undef)) H
theorem mk_out (v : Value) : mk n (upv f n v) = mk n f := by
 unfold mk
 refine List.map_congr_left fun x hx => ?_
 unfold upv; rw [if_neg]; exact Nat.ne_of_lt (List.mem_range.1 hx)
theorem put_mk' (d : Option Tmp) (v : Value) : put (mk n f) d v = mk n (upv f (d.getD n) v) := by
 cases d with
 | none => exact (mk_out v).symm
 | some d => exact put_mk n f d v
theorem wpItems_guardB (op : AOp) (t : Nat) (want : Bool) (ht : t < n) : wpItems K (⟨d,op,some (t,want)⟩ :: r) Q (mk n f) H = skipB K ⟨d,op,none⟩ r Q n f H t (f t) want := by
 rw [wpItems_guard,getD_mk,if_pos ht]
 cases h : f t with
 | bool b =>
  cases b <;> cases want <;> simp [skipO,skipB,put_mk',upv_self h]
 | _ => simp [skipO,skipB,put_mk']
theorem skipB_t (it : AItem) (t : Nat) (b : Bool) : skipB K it r Q n f H t (.bool b) true = if b = true then wpItems K (⟨it.dst,it.op,none⟩ :: r) Q (mk n (upv f t (.bool true))) H else wpItems K r Q (mk n (upv (upv f t (.bool false)) (it.dst.getD n) undef)) H := _root_.id rfl
theorem skipB_f (it : AItem) (t : Nat) (b : Bool) : skipB K it r Q n f H t (.bool b) false = if b = true then wpItems K r Q (mk n (upv (upv f t (.bool true)) (it.dst.getD n) undef)) H else wpItems K (⟨it.dst,it.op,none⟩ :: r) Q (mk n (upv f t (.bool false))) H := _root_.id rfl
theorem wpC_condB (t : Nat) (x y : ACode) (ht : t < n) : wpC K D rn (.cond (.tmp t) x y) X (mk n f) H = (match f t with
  | .bool b => if b = true then wpC K D rn x X (mk n (upv f t (.bool true))) H else wpC K D rn y X (mk n (upv f t (.bool false))) H
  | _ => False) := by
 rw [wpC_cond,ev_mk,if_pos ht]
 cases h : f t with
 | bool b => cases b <;> simp [condO,upv_self h]
 | _ => rfl
theorem wpC_loop (x : ACode) : wpC K D rn (.loop x) X E H = LoopP (wpC K D rn x) X E H := _root_.id rfl
theorem wpC_draw (k : Nat) (l : List DItem) : wpC K DrawD rn (.draw k l) X E H = wpD K H.next l (X .normal) E (H.reserve k) := _root_.id rfl
theorem reserve_zero : H.reserve 0 = H := by cases H; simp [Heap.reserve]
theorem wpD_nil {base : Nat} : wpD K base [] Q E H = Q E H := _root_.id rfl
theorem wpD_run {base : Nat} (it : AItem) (l : List DItem) : wpD K base (.run it :: l) Q E H = wpItems K [it] (wpD K base l Q) E H := _root_.id rfl
theorem wpD_nam {base : Nat} (op : AOp) (off : Nat) (l : List DItem) : wpD K base (.nam ⟨d,op,none⟩ off :: l) Q E H = (match allocA op E with
  | some p => wpD K base l Q (put E d (p.2 (base + off))) H
  | none => False) := by
 simp only [wpD,namV,wantedA,if_true]
 cases allocA op E with
 | none => simp
 | some p => simp
theorem wpD_lay {base : Nat} (op : AOp) (off : Nat) (l : List DItem) : wpD K base (.lay ⟨d,op,none⟩ off :: l) Q E H = (match allocA op E with
  | some p => wpD K base l Q E (H.set (base + off) (some p.1))
  | none => wpD K base l Q E H) := by
 simp only [wpD,layH,wantedA,if_true]
 cases allocA op E <;> rfl
theorem wpD_chk {base : Nat} (it : AItem) (l : List DItem) : wpD K base (.chk it :: l) Q E H = (valI it E H = some (dstV it.dst E) ∧ wpD K base l Q E H) := _root_.id rfl
theorem valI_none (op : AOp) : valI ⟨d,op,none⟩ E H = outVal (aop op E H) := _root_.id rfl
theorem dstV_mk (t : Nat) (ht : t < n) : dstV (some t) (mk n f) = f t := by
 show (mk n f).getD t undef = _
 rw [getD_mk,if_pos ht]
theorem allocA_new (cs : List Value) (e : TypeId) : allocA (.new cs e) E = some (.row cs 0 (some e),fun b => ptrTo b 0) := _root_.id rfl
theorem allocA_mkslice (len sz : Nat) (zero : List Value) (parts : List (Nat × Nat × Operand)) : allocA (.mkslice len sz zero parts) E = (match fillL zero (parts.map fun p => (p.1,p.2.1,ev E p.2.2)) with
  | some cs => some (.row cs 0 none,fun b => sliceOf b 0 sz len len)
  | none => none) := _root_.id rfl
theorem allocA_box (x : Operand) (e : TypeId) : allocA (.box x e) E = if storable (ev E x) = true then some (.row (ev E x).cells.toList 0 (some e),fun b => ptrTo b 0) else none := _root_.id rfl
theorem allocA_mkmap : allocA .mkmap E = some (.map [],fun b => .map (some b)) := _root_.id rfl
theorem wpItems_toStr (x : Operand) : wpItems K (⟨d,.toStr x,none⟩ :: r) Q E H = satO K r Q E d (aop (.toStr x) E H) := wpItems_op _ (by simp)
theorem wpItems_app (s x : Operand) (sz : Nat) (e : TypeId) : wpItems K (⟨d,.app s x sz e,none⟩ :: r) Q E H = satO K r Q E d (aop (.app s x sz e) E H) := wpItems_op _ (by simp)
theorem wpItems_appStr (s x : Operand) (e : TypeId) : wpItems K (⟨d,.appStr s x e,none⟩ :: r) Q E H = satO K r Q E d (aop (.appStr s x e) E H) := wpItems_op _ (by simp)
theorem wpItems_look (s : SK) (m k : Operand) (z : Value) (ok : Bool) : wpItems K (⟨d,.look s m k z ok,none⟩ :: r) Q E H = satO K r Q E d (aop (.look s m k z ok) E H) := wpItems_op _ (by simp)
theorem wpItems_mset (s : SK) (m k v : Operand) : wpItems K (⟨d,.mset s m k v,none⟩ :: r) Q E H = satO K r Q E d (aop (.mset s m k v) E H) := wpItems_op _ (by simp)
theorem wpItems_copyS (x y : Operand) (sz : Nat) : wpItems K (⟨d,.copyS x y sz,none⟩ :: r) Q E H = satO K r Q E d (aop (.copyS x y sz) E H) := wpItems_op _ (by simp)
theorem wpItems_toU (x : Operand) : wpItems K (⟨d,.toU x,none⟩ :: r) Q E H = satO K r Q E d (aop (.toU x) E H) := wpItems_op _ (by simp)
theorem wpItems_ofU (x : Operand) (u : TypeId) (s : Nat) : wpItems K (⟨d,.ofU x u s,none⟩ :: r) Q E H = satO K r Q E d (aop (.ofU x u s) E H) := wpItems_op _ (by simp)
theorem wpItems_sdata (x : Operand) : wpItems K (⟨d,.sdata x,none⟩ :: r) Q E H = satO K r Q E d (aop (.sdata x) E H) := wpItems_op _ (by simp)
theorem wpItems_ustr (x k : Operand) (u : TypeId) : wpItems K (⟨d,.ustr x k u,none⟩ :: r) Q E H = satO K r Q E d (aop (.ustr x k u) E H) := wpItems_op _ (by simp)
def rowOf (H : Heap) (b : Nat) : Option (List Value) := match H.get b with
 | some (.row cs _ _) => some cs
 | some (.ro cs) => some cs
 | _ => none
theorem cellsAt_row (b o k : Nat) : cellsAt H b o k = (rowOf H b).bind fun cs => if o + k ≤ cs.length then some ((cs.drop o).take k) else none := by
 unfold cellsAt rowOf
 cases H.get b with
 | none => rfl
 | some x => cases x <;> rfl
theorem cellAt_row (b o : Nat) : cellAt H b o = (rowOf H b).bind fun cs => cs[o]? := by
 unfold cellAt
 rw [cellsAt_row]
 cases rowOf H b with
 | none => rfl
 | some cs =>
  simp only [Option.bind_some]
  by_cases h : o + 1 ≤ cs.length
  ·rw [if_pos h,List.getElem?_eq_getElem (by omega),List.drop_eq_getElem_cons (by omega)]
   rfl
  ·rw [if_neg h,List.getElem?_eq_none (by omega)]
theorem cellAt_lt {b o : Nat} {v : Value} (h : cellAt H b o = some v) : b < H.next := by
 rw [cellAt_row] at h
 unfold rowOf at h
 cases hg : H.get b with
 | none => rw [hg] at h; cases h
 | some x => exact Heap.lt_of_get hg
theorem cellAt_push {b o : Nat} {x : AObj} (hb : b < H.next) : cellAt (H.push x) b o = cellAt H b o := by
 simp only [cellAt_row,rowOf,Heap.get_push_ne H x (Nat.ne_of_lt hb)]
theorem cellAt_push_self {o : Nat} {cs : List Value} {fz : Nat} {ty : Option TypeId} : cellAt (H.push (.row cs fz ty)) H.next o = cs[o]? := by
 simp only [cellAt_row,rowOf,Heap.get_push_same,Option.bind_some]
theorem cellAt_agree {n : Nat} {H' : Heap} (h : Agree n H H') {b : Nat} (hb : b < n) (o : Nat) : cellAt H' b o = cellAt H b o := by
 simp only [cellAt_row,rowOf,h b hb]
theorem cellAt_of {b o : Nat} {cs : List Value} {fz : Nat} {ty : Option TypeId} (h : H.get b = some (.row cs fz ty)) : cellAt H b o = cs[o]? := by
 simp only [cellAt_row,rowOf,h,Option.bind_some]
theorem cellAt_set_ne {b c o : Nat} {x : Option AObj} (h : c ≠ b) : cellAt (H.set c x) b o = cellAt H b o := by
 simp only [cellAt_row,rowOf,Heap.get_set_ne H x h]
theorem cellAt_set_self {b o : Nat} {y : AObj} (hg : H.get b = some y) {cs : List Value} {fz : Nat} {ty : Option TypeId} : cellAt (H.set b (some (.row cs fz ty))) b o = cs[o]? := by
 simp only [cellAt_row,rowOf,Heap.get_set_same H _ hg,Option.bind_some]
theorem Agree.push {n : Nat} (x : AObj) (h : n ≤ H.next) : Agree n H (H.push x) := fun b hb => Heap.get_push_ne H x (by omega)
theorem Agree.set {n b : Nat} (x : Option AObj) (h : n ≤ b) : Agree n H (H.set b x) := fun c hc => Heap.get_set_ne H x (by omega)
theorem Agree.mono {n m : Nat} {H' : Heap} (h : Agree n H H') (hm : m ≤ n) : Agree m H H' := fun b hb => h b (by omega)
def Sl (H : Heap) (v : Value) (sz k : Nat) (g : Nat → Value) : Prop := ∃ a cap,v = .slice a k cap ∧ k ≤ cap ∧ (k = 0 ∨ ∃ b o,a = some ⟨b,o,some sz⟩ ∧ ∀ j,j < k * sz → cellAt H b (o + j) = some (g j))
theorem Sl.agree {v : Value} {sz k : Nat} {g : Nat → Value} (h : Sl H v sz k g) {H' : Heap} (ha : Agree H.next H H') : Sl H' v sz k g := by
 obtain ⟨a,cap,rfl,hcp,h⟩ := h
 refine ⟨a,cap,rfl,hcp,?_⟩
 rcases h with h | ⟨b,o,rfl,h⟩
 ·exact .inl h
 ·refine .inr ⟨b,o,rfl,fun j hj => ?_⟩
  rw [cellAt_agree ha (cellAt_lt (h j hj))]; exact h j hj
theorem Sl.mono {v : Value} {sz k : Nat} {g : Nat → Value} (h : Sl H v sz k g) {n : Nat} {H' : Heap} (hn : H.next ≤ n) (ha : Agree n H H') : Sl H' v sz k g := h.agree (ha.mono hn)
def Own (n0 : Nat) (H : Heap) (v : Value) (sz : Nat) (cs : List Value) : Prop :=
 (v = .slice none 0 0 ∧ cs = []) ∨ ∃ b k ty,n0 ≤ b ∧ v = sliceOf b 0 sz k k ∧ H.get b = some (.row cs 0 ty) ∧ cs.length = k * sz ∧ k ≤ maxRow
theorem Own.nil {n0 : Nat} {sz : Nat} : Own n0 H (.slice none 0 0) sz [] := .inl ⟨rfl,rfl⟩
theorem Own.push {n0 : Nat} {v : Value} {sz : Nat} {cs : List Value} (h : Own n0 H v sz cs) (x : AObj) : Own n0 (H.push x) v sz cs := by
 rcases h with h | ⟨b,k,ty,h0,h1,h2,h3,h4⟩
 ·exact .inl h
 ·exact .inr ⟨b,k,ty,h0,h1,Heap.get_push_old h2,h3,h4⟩
theorem Own.sl {n0 : Nat} {v : Value} {sz k : Nat} {cs : List Value} (h : Own n0 H v sz cs) (hk : cs.length = k * sz) (hz : 0 < sz) : Sl H v sz k fun j => cs.getD j undef := by
 rcases h with ⟨rfl,rfl⟩ | ⟨b,k',ty,h0,rfl,h2,h3,h4⟩
 ·have : k = 0 := by
   rcases Nat.eq_zero_or_pos k with h | h
   ·exact h
   ·have := Nat.mul_pos h hz; simp at hk; omega
  subst this; exact ⟨none,0,rfl,Nat.le_refl _,.inl rfl⟩
 ·have : k' = k := Nat.eq_of_mul_eq_mul_right hz (h3.symm.trans hk)
  subst this
  refine ⟨_,_,rfl,Nat.le_refl _,.inr ⟨b,0,rfl,fun j hj => ?_⟩⟩
  rw [cellAt_of h2,Nat.zero_add]
  show _ = some (cs.getD j undef)
  rw [List.getD_eq_getElem?_getD,List.getElem?_eq_getElem (by omega)]; rfl
theorem wpItems_app_own {n0 : Nat} {s x : Operand} {sz : Nat} {e : TypeId} {v : Value} {cs xs : List Value} {m : Nat} {xb : Addr} {c : Nat} (hv : ev E s = v) (ho : Own n0 H v sz cs) (hx : ev E x = .slice (some xb) m c) (hs : xb.spot = some sz) (hz : 0 < sz)
  (hxs : cellsAt H xb.block xb.off (m * sz) = some xs) (hm : 0 < m) (hne : ∀ b k,v = sliceOf b 0 sz k k → b ≠ xb.block) (hn : n0 ≤ H.next)
  (hB : cs.length + xs.length ≤ appMax) (h : ∀ v' H',Own n0 H' v' sz (cs ++ xs) → Agree n0 H H' → (∀ c,c < H.next → (∀ k,v ≠ sliceOf c 0 sz k k) → H'.get c = H.get c) → H.next < H'.next → (H.wf → H'.wf) → wpItems K r Q (put E d v') H') : wpItems K (⟨d,.app s x sz e,none⟩ :: r) Q E H := by
 rw [wpItems_app]
 have hlen : xs.length = m * sz := by
  rw [cellsAt_row] at hxs
  cases hr : rowOf H xb.block with
  | none => rw [hr] at hxs; cases hxs
  | some l =>
   rw [hr] at hxs
   simp only [Option.bind_some] at hxs
   split at hxs
   ·rename_i hl; cases hxs; rw [List.length_take,List.length_drop]; omega
   ·cases hxs
 have hbd : m ≤ xs.length := by rw [hlen]; exact Nat.le_mul_of_pos_right _ hz
 have hmx : appMax ≤ maxRow := by decide
 simp only [aop,hv,hx]
 rcases ho with ⟨rfl,rfl⟩ | ⟨b,k,ty,h0,rfl,h2,h3,h4⟩
 ·simp only [List.length_nil] at hB
  simp only [show ¬ m = 0 from by omega,if_false,hxs,Option.map_none,hs,ne_eq,not_true_eq_false,or_false,reduceCtorEq,appendA,if_true]
  split
  ·omega
  ·rename_i hbig
   refine h _ _ (.inr ⟨H.next,m,some e,hn,rfl,by simp,by simpa using hlen,by omega⟩) (Agree.push _ hn) (fun c hc _ => Heap.get_push_ne _ _ (by omega)) (by simp) (Heap.wf_push _)
 ·have hne' := hne b k rfl
  simp only [sliceOf,show ¬ m = 0 from by omega,if_false,hxs,Option.map_some,hs,Option.some.injEq,hne',ne_eq,not_true_eq_false,or_false,appendA,h2]
  rw [if_pos ⟨by omega,trivial,by omega,.inl trivial⟩]
  have hbd2 : k ≤ cs.length := by rw [h3]; exact Nat.le_mul_of_pos_right _ hz
  split
  ·omega
  ·rename_i hbig
   have e1 : (List.drop 0 cs).take (k * sz) = cs := by rw [List.drop_zero,← h3,List.take_length]
   refine h _ _ (.inr ⟨H.next,k + m,if ty = some e ∧ True then ty else none,hn,rfl,?_,?_,by omega⟩) ?_ (fun c hc hk => ?_) (by simp) (fun hw => Heap.wf_push _ (Heap.wf_set _ _ hw))
   ·have := Heap.get_push_same (H.set b none) (.row (cs ++ xs) 0 (if ty = some e ∧ True then ty else none))
    simp only [Heap.next_set] at this
    rw [e1]; exact this
   ·rw [List.length_append,h3,hlen,Nat.add_mul]
   ·exact (Agree.set none h0).trans (Agree.push _ (by simp; exact hn))
   ·rw [Heap.get_push_ne _ _ (by simp only [Heap.next_set]; omega),Heap.get_set_ne _ _ (fun e => hk k (by rw [e]))]
theorem getq_cons (x : Value) (l : List Value) (k : Nat) : (x :: l)[k]? = if k = 0 then some x else l[k - 1]? := by
 cases k with
 | zero => rfl
 | succ k => simp
theorem cells_agg (c : Array Value) : (Value.agg c).cells.toList = c.toList := _root_.id rfl
theorem cells_bool (b : Bool) : (Value.bool b).cells.toList = [.bool b] := _root_.id rfl
theorem cells_int (k : IntKind) (b : Int) : (Value.int k b).cells.toList = [.int k b] := _root_.id rfl
theorem cells_string (b : ByteArray) : (Value.string b).cells.toList = [.string b] := _root_.id rfl
theorem cells_ptr (b : Option Addr) : (Value.pointer b).cells.toList = [.pointer b] := _root_.id rfl
theorem cells_slice (b : Option Addr) (n k : Nat) : (Value.slice b n k).cells.toList = [.slice b n k] := _root_.id rfl
theorem cells_map (b : Option Nat) : (Value.map b).cells.toList = [.map b] := _root_.id rfl
theorem cells_func (t : Fn) (b c : Array Value) : (Value.func t b c).cells.toList = [.func t b c] := _root_.id rfl
theorem st_agg (c : Array Value) : storable (.agg c) = true := _root_.id rfl
theorem st_bool (b : Bool) : storable (.bool b) = true := _root_.id rfl
theorem st_int (k : IntKind) (b : Int) : storable (.int k b) = true := _root_.id rfl
theorem st_string (b : ByteArray) : storable (.string b) = true := _root_.id rfl
theorem st_ptr (b : Option Addr) : storable (.pointer b) = true := _root_.id rfl
theorem st_slice (b : Option Addr) (n k : Nat) : storable (.slice b n k) = true := _root_.id rfl
theorem st_map (b : Option Nat) : storable (.map b) = true := _root_.id rfl
theorem st_func (t : Fn) (b c : Array Value) : storable (.func t b c) = true := _root_.id rfl
theorem toNat_cast (n : Nat) : ((n : Int)).toNat = n := Int.toNat_natCast n
theorem wrap_i64 {x : Int} (h : -9223372036854775808 ≤ x ∧ x ≤ 9223372036854775807) : IntKind.i64.wrap x = x := by
 rw [IntKind.wrap_i64]; omega
theorem wrap_u8 {x : Int} (h : 0 ≤ x ∧ x ≤ 255) : IntKind.u8.wrap x = x := by
 rw [IntKind.wrap_u8]; omega
end Go.Ae
namespace Go.Ae
open Go
variable {K : Cx} {Q : List Value → Heap → Prop} {E : List Value} {H : Heap} {d : Option Tmp} {r : List AItem}
theorem Own.lt {n0 : Nat} {v : Value} {sz : Nat} {cs : List Value} (h : Own n0 H v sz cs) {b o k c : Nat} (e : v = .slice (some ⟨b,o,some sz⟩) k c) : n0 ≤ b ∧ b < H.next := by
 rcases h with ⟨rfl,_⟩ | ⟨b',k',ty,h0,rfl,h2,_⟩
 ·cases e
 ·unfold sliceOf at e; cases e; exact ⟨h0,Heap.lt_of_get h2⟩
theorem Own.frame {n0 : Nat} {v : Value} {sz : Nat} {cs : List Value} (h : Own n0 H v sz cs) {H' : Heap} (hf : ∀ b k c,v = .slice (some ⟨b,0,some sz⟩) k c → H'.get b = H.get b) : Own n0 H' v sz cs := by
 rcases h with h | ⟨b,k,ty,h0,rfl,h2,h3,h4⟩
 ·exact .inl h
 ·exact .inr ⟨b,k,ty,h0,rfl,by rw [hf b k k rfl]; exact h2,h3,h4⟩
theorem Own.low {n0 n1 : Nat} {v : Value} {sz : Nat} {cs : List Value} (h : Own n1 H v sz cs) (hn : n0 ≤ n1) : Own n0 H v sz cs := by
 rcases h with h | ⟨b,k,ty,h0,rfl,h2,h3,h4⟩
 ·exact .inl h
 ·exact .inr ⟨b,k,ty,by omega,rfl,h2,h3,h4⟩
theorem Own.agree {n0 : Nat} {v : Value} {sz : Nat} {cs : List Value} (h : Own n0 H v sz cs) {H' : Heap} (ha : Agree H.next H H') : Own n0 H' v sz cs := h.frame fun _ _ _ e => ha _ (h.lt e).2
theorem Own.val {n0 : Nat} {v : Value} {sz k : Nat} {cs : List Value} (h : Own n0 H v sz cs) (hk : cs.length = k * sz) (hz : 0 < sz) : (v = .slice none 0 0 ∧ k = 0 ∧ cs = []) ∨ ∃ b ty,n0 ≤ b ∧ b < H.next ∧ v = .slice (some ⟨b,0,some sz⟩) k k ∧ H.get b = some (.row cs 0 ty) := by
 rcases h with ⟨rfl,rfl⟩ | ⟨b,k',ty,h0,rfl,h2,h3,h4⟩
 ·refine .inl ⟨rfl,?_,rfl⟩
  rcases Nat.eq_zero_or_pos k with h | h
  ·exact h
  ·have := Nat.mul_pos h hz; simp at hk; omega
 ·have : k' = k := Nat.eq_of_mul_eq_mul_right hz (h3.symm.trans hk)
  subst this
  exact .inr ⟨b,ty,h0,Heap.lt_of_get h2,rfl,h2⟩
theorem getD_el {cs : List Value} {i : Nat} (h : i < cs.length) {x : Value} (e : cs[i] = x) : cs.getD i undef = x := by
 rw [List.getD_eq_getElem?_getD,List.getElem?_eq_getElem h,e]; rfl
theorem cellsAt_push_self {cs : List Value} {fz : Nat} {ty : Option TypeId} {k : Nat} (h : cs.length = k) : cellsAt (H.push (.row cs fz ty)) H.next 0 k = some cs := by
 rw [cellsAt_row]
 simp only [rowOf,Heap.get_push_same,Option.bind_some,Nat.zero_add]
 rw [if_pos (by omega),List.drop_zero,List.take_of_length_le (by omega)]
theorem wpItems_app1 {n0 : Nat} {s x : Operand} {sz : Nat} {e : TypeId} (v : Value) {cs xs : List Value} {m : Nat} (ho : Own n0 H v sz cs) (hv : ev E s = v) (hx : ev E x = sliceOf H.next 0 sz m m) (hlen : xs.length = m * sz) (hz : 0 < sz)
  (hm : 0 < m) (hn : n0 ≤ H.next) (hB : cs.length + xs.length ≤ appMax)
  (h : ∀ v' H',Own n0 H' v' sz (cs ++ xs) → Agree n0 H H' → (∀ c,c < H.next → (∀ k,v ≠ sliceOf c 0 sz k k) → H'.get c = H.get c) → H.next < H'.next → (H.wf → H'.wf) → wpItems K r Q (put E d v') H') :
  wpItems K (⟨d,.app s x sz e,none⟩ :: r) Q E (H.push (.row xs 0 none)) := by
 refine wpItems_app_own (n0 := n0) hv (ho.push _) hx rfl hz (cellsAt_push_self hlen) hm (fun b k e => ?_) (by simp; omega) hB fun v' H' h1 h2 h3 h4 h5 => ?_
 ·have := (ho.lt e).2
  exact Nat.ne_of_lt this
 ·simp at h4
  refine h v' H' h1 (fun b hb => ?_) (fun c hc hk => ?_) (by omega) (fun hw => h5 (Heap.wf_push _ hw))
  ·rw [h2 b hb,Heap.get_push_ne _ _ (by omega)]
  ·rw [h3 c (by simp; omega) hk,Heap.get_push_ne _ _ (by omega)]
theorem cellsAt_of {b o k : Nat} {g : Nat → Value} (hk : 0 < k) (h : ∀ j,j < k → cellAt H b (o + j) = some (g j)) : cellsAt H b o k = some ((List.range k).map g) := by
 rw [cellsAt_row]
 have h0 := h (k - 1) (by omega)
 rw [cellAt_row] at h0
 cases hr : rowOf H b with
 | none => rw [hr] at h0; cases h0
 | some cs =>
  rw [hr] at h0
  simp only [Option.bind_some] at h0 ⊢
  have hl : o + k ≤ cs.length := by
   rcases Nat.lt_or_ge (o + (k - 1)) cs.length with hlt | hge
   ·omega
   ·rw [List.getElem?_eq_none hge] at h0; cases h0
  rw [if_pos hl]
  refine congrArg some (List.ext_getElem? fun i => ?_)
  rw [List.getElem?_take,List.getElem?_drop,List.getElem?_map]
  by_cases hi : i < k
  ·have h1 := h i hi
   rw [cellAt_row,hr] at h1
   simp only [Option.bind_some] at h1
   rw [if_pos hi,h1,List.getElem?_range hi]; rfl
  ·rw [if_neg hi,List.getElem?_eq_none (by simp; omega)]; rfl
theorem wpItems_appS {n0 : Nat} {s x : Operand} {sz : Nat} {e : TypeId} (v u : Value) {cs : List Value} {m : Nat} {g : Nat → Value} (ho : Own n0 H v sz cs) (hv : ev E s = v) (hx : ev E x = u) (hu : Sl H u sz m g) (hz : 0 < sz)
  (hne : ∀ b o k c,u = .slice (some ⟨b,o,some sz⟩) k c → m ≠ 0 → ∀ k',v ≠ sliceOf b 0 sz k' k') (hn : n0 ≤ H.next) (hB : cs.length + m * sz ≤ appMax)
  (h : ∀ v' H',Own n0 H' v' sz (cs ++ (List.range (m * sz)).map g) → Agree n0 H H' → (∀ c,c < H.next → (∀ k,v ≠ sliceOf c 0 sz k k) → H'.get c = H.get c) → H.next ≤ H'.next → (H.wf → H'.wf) → wpItems K r Q (put E d v') H') :
  wpItems K (⟨d,.app s x sz e,none⟩ :: r) Q E H := by
 obtain ⟨a,cap,rfl,hcp,hu⟩ := hu
 by_cases hm : m = 0
 ·subst hm
  rw [wpItems_app]
  simp only [aop,hv,hx]
  rcases ho with ⟨rfl,rfl⟩ | ⟨b,k,ty,h0,rfl,h2,h3,h4⟩
  ·simp only [if_true]
   exact h _ _ (by simp; exact .nil) (.refl _ _) (fun _ _ _ => rfl) (Nat.le_refl _) _root_.id
  ·simp only [sliceOf,if_true]
   exact h _ _ (by simp; exact .inr ⟨b,k,ty,h0,rfl,h2,h3,h4⟩) (.refl _ _) (fun _ _ _ => rfl) (Nat.le_refl _) _root_.id
 ·obtain ⟨b,o,rfl,hc⟩ := hu.resolve_left hm
  refine wpItems_app_own (n0 := n0) hv ho hx rfl hz (cellsAt_of (Nat.mul_pos (by omega) hz) hc) (by omega) (fun b' k e1 e2 => ?_) hn (by simp; omega) fun v' H' h1 h2 h3 h4 h5 => h v' H' h1 h2 h3 (Nat.le_of_lt h4) h5
  subst e2
  exact hne _ _ _ _ rfl hm k e1
def byteVs (l : List UInt8) : List Value := l.map fun b => .int .u8 b.toNat
theorem bytesOf_byteVs (l : List UInt8) : bytesOf? (byteVs l) = some l := by
 induction l with
 | nil => rfl
 | cons b l ih =>
  show (bytesOf? (byteVs l)).map _ = _
  rw [ih]
  simp
theorem aop_toStr_own {n0 : Nat} {x : Operand} {l : List UInt8} (v : Value) (h : Own n0 H v 1 (byteVs l)) (hx : ev E x = v) : aop (.toStr x) E H = .ok (.string ⟨l.toArray⟩,H) := by
 simp only [aop,hx]
 rcases h with ⟨rfl,h2⟩ | ⟨b,k,ty,h0,rfl,h2,h3,h4⟩
 ·cases l with
  | nil => rfl
  | cons b l => cases h2
 ·have hl : l.length = k := by simpa [byteVs] using h3
  unfold sliceOf
  by_cases hk : k = 0
  ·subst hk
   have : l = [] := List.eq_nil_of_length_eq_zero hl
   subst this; rfl
  ·simp only [hk,if_false,cellsAt_row,rowOf,h2,Option.bind_some,Nat.zero_add]
   rw [if_pos (by omega),List.drop_zero,List.take_of_length_le (by omega)]
   simp only [Option.bind_some,bytesOf_byteVs]
theorem wpItems_toStr_own {n0 : Nat} {x : Operand} {l : List UInt8} (v : Value) (ho : Own n0 H v 1 (byteVs l)) (hx : ev E x = v) (h : wpItems K r Q (put E d (.string ⟨l.toArray⟩)) H) : wpItems K (⟨d,.toStr x,none⟩ :: r) Q E H := by
 rw [wpItems_toStr,aop_toStr_own v ho hx]; exact h
theorem FC.withWf {f : FuncId} {args : List Value} {Q : Value → Heap → Prop} (h : FC K f args H fun v H' => H'.wf → Q v H') : FC K f args H Q := h.keeps.mono fun _ _ h => h.1 h.2.1
theorem FC.wf0 {f : FuncId} {args : List Value} {Q : Value → Heap → Prop} (h : H.wf → FC K f args H Q) : FC K f args H Q := fun ρ w args' hr ha => h hr.wf ρ w args' hr ha
theorem get_reserve (k b : Nat) : (H.reserve k).get b = H.get b := by
 unfold Heap.reserve Heap.get
 simp only
 by_cases h1 : b < H.next
 ·rw [if_pos (by omega),if_pos h1,List.getElem?_append_right (by simp; omega)]
  simp only [List.length_replicate]
  rw [show H.next + k - 1 - b - k = H.next - 1 - b by omega]
 ·rw [if_neg h1]
  by_cases h2 : b < H.next + k
  ·rw [if_pos h2,List.getElem?_append_left (by simp; omega),List.getElem?_replicate]
   split <;> rfl
  ·rw [if_neg h2]
theorem next_reserve (k : Nat) : (H.reserve k).next = H.next + k := _root_.id rfl
theorem wf_reserve (k : Nat) (h : H.wf) : (H.reserve k).wf := by
 unfold Heap.wf Heap.reserve at *
 simp; omega
def ACode.fst : ACode → ACode
 | .seq a _ => a
 | x => x
def ACode.snd : ACode → ACode
 | .seq _ b => b
 | x => x
theorem cellAt_reserve (k b o : Nat) : cellAt (H.reserve k) b o = cellAt H b o := by simp only [cellAt_row,rowOf,get_reserve]
theorem fillL_nil (cs : List Value) : fillL cs [] = some cs := _root_.id rfl
theorem fillL_cons (cs : List Value) (o k : Nat) (v : Value) (r : List (Nat × Nat × Value)) : fillL cs ((o,k,v) :: r) = if storable v = true ∧ v.cells.toList.length = k ∧ o + k ≤ cs.length then fillL (splice cs o v.cells.toList) r else none := _root_.id rfl
theorem splice_nil (k : Nat) (vs : List Value) : splice [] k vs = vs := by simp [splice]
theorem splice_cons (x : Value) (cs : List Value) (k : Nat) (vs : List Value) : splice (x :: cs) k vs = if k = 0 then vs ++ (x :: cs).drop vs.length else x :: splice cs (k - 1) vs := by
 cases k with
 | zero => simp [splice]
 | succ k => simp [splice,Nat.add_right_comm]
theorem drop_cons (x : Value) (cs : List Value) (k : Nat) : (x :: cs).drop k = if k = 0 then x :: cs else cs.drop (k - 1) := by
 cases k with
 | zero => rfl
 | succ k => simp
theorem drop_nil (k : Nat) : ([] : List Value).drop k = [] := by simp
theorem valI_load (a : Operand) : valI ⟨d,.load a none,none⟩ E H = match ev E a with
  | .pointer (some p) => cellAt H p.block p.off
  | _ => none := by
 rw [valI_none]; simp only [aop]; generalize ev E a = v
 cases v <;> try rfl
 rename_i p; cases p <;> try rfl
 rename_i p
 simp only [cellAt]
 cases cellsAt H p.block p.off 1 with
 | none => rfl
 | some l => cases l <;> rfl
theorem Sl.lt {u : Value} {sz m : Nat} {g : Nat → Value} (h : Sl H u sz m g) (hz : 0 < sz) {b o k c : Nat} (e : u = .slice (some ⟨b,o,some sz⟩) k c) (hm : m ≠ 0) : b < H.next := by
 obtain ⟨a,cap,rfl,_,h⟩ := h
 obtain ⟨b',o',rfl,h1⟩ := h.resolve_left hm
 cases e
 exact cellAt_lt (h1 0 (Nat.mul_pos (by omega) hz))
theorem size_lit (l : Array UInt8) : (ByteArray.mk l).size = l.size := _root_.id rfl
theorem bound_if {i : Int} {n : Nat} {x : Option Nat} (h : 0 ≤ i ∧ i ≤ (n : Int)) : (if 0 ≤ i ∧ i ≤ (n : Int) then x else none) = x := if_pos h
theorem adds_if {x : Value} {n : Nat} (h : n ≤ 9223372036854775807) : (if (n : Int) ≤ 9223372036854775807 then some x else none) = some x := if_pos (by omega)
theorem toNat_add1 (n : Nat) : ((n : Int) + 1).toNat = n + 1 := by omega
theorem toNat_sub1 (n : Nat) : ((n : Int) - 1).toNat = n - 1 := by omega
theorem toNat_addk (n k : Nat) : ((n : Int) + (k : Int)).toNat = n + k := by omega
end Go.Ae
namespace Go.Ae
open Go
theorem wpItems_mono {K : Cx} : ∀ (l : List AItem) {Q Q' : List Value → Heap → Prop},(∀ E H,Q E H → Q' E H) → ∀ {E : List Value} {H : Heap},wpItems K l Q E H → wpItems K l Q' E H
 | [],_,_,h,_,_,hw => h _ _ hw
 | it :: r,_,_,h,_,_,hw => wpItem_mono (it := it) (fun _ _ hw => wpItems_mono r h hw) hw
theorem wpD_mono {K : Cx} {base : Nat} : ∀ (l : List DItem) {Q Q' : List Value → Heap → Prop},(∀ E H,Q E H → Q' E H) → ∀ {E : List Value} {H : Heap},wpD K base l Q E H → wpD K base l Q' E H
 | [],_,_,h,_,_,hw => h _ _ hw
 | .run it :: r,_,_,h,_,_,hw => wpItem_mono (it := it) (fun _ _ hw => wpD_mono r h hw) hw
 | .nam it off :: r,_,_,h,_,_,hw => let ⟨v,h1,h2⟩ := hw; ⟨v,h1,wpD_mono r h h2⟩
 | .lay it off :: r,_,_,h,_,_,hw => wpD_mono r h hw
 | .chk it :: r,_,_,h,_,_,hw => ⟨hw.1,wpD_mono r h hw.2⟩
theorem endLoopA_mono {l : Nat} {Q Q' : AExit → Heap → Prop} (h : ∀ e H,Q e H → Q' e H) {H : Heap} (hw : endLoopA l Q H) : endLoopA l Q' H := by
 unfold endLoopA at *
 split at hw
 ·refine ⟨hw.1,?_⟩
  have := hw.2
  split at this
  ·exact h _ _ this
  ·exact h _ _ this
 ·exact hw.elim
theorem wpC_mono {K : Cx} {rn : Option Nat} : ∀ (c : ACode) {X X' : AExit → List Value → Heap → Prop},(∀ e E H,X e E H → X' e E H) → ∀ {E : List Value} {H : Heap},wpC K DrawD rn c X E H → wpC K DrawD rn c X' E H
 | .skip,_,_,h,_,_,hw => h _ _ _ hw
 | .exit _,_,_,h,_,_,hw => h _ _ _ hw
 | .ret,_,_,h,_,_,hw => h _ _ _ hw
 | .bad,_,_,_,_,_,hw => hw
 | .ops l,_,_,h,_,_,hw => wpItems_mono l (fun _ _ q => h _ _ _ q) hw
 | .opsC l0 t x d l2,_,_,h,_,_,hw => wpItems_mono l0 (fun E H q => by
   unfold capW at q ⊢
   split at q
   ·exact ⟨q.1,q.2.1,fun c h1 h2 => wpItems_mono l2 (fun _ _ q => h _ _ _ q) (q.2.2 c h1 h2)⟩
   ·exact q.elim) hw
 | .draw n l,_,_,h,_,_,hw => wpD_mono l (fun _ _ q => h _ _ _ q) hw
 | .seq x y,X,X',h,_,_,hw => wpC_mono x (X := thenA (wpC K DrawD rn y X) X) (X' := thenA (wpC K DrawD rn y X') X') (fun e E H q => by
   cases e with
   | normal => exact wpC_mono y h q
   | exit i => exact h _ _ _ q
   | ret => exact h _ _ _ q) hw
 | .cond c x y,X,X',h,E,H,hw => by
  rw [wpC_cond] at hw ⊢
  generalize ev E c = v at hw ⊢
  cases v with
  | bool b => cases b with
   | true => exact wpC_mono x h hw
   | false => exact wpC_mono y h hw
  | _ => exact hw
 | .block i x,X,X',h,_,_,hw => wpC_mono x (X := blockA i X) (X' := blockA i X') (fun e E H q => by
   cases e with
   | normal => exact h _ _ _ q
   | ret => exact h _ _ _ q
   | exit j =>
    rw [blockA_exit] at q ⊢
    split
    ·rename_i hj; rw [if_pos hj] at q; exact h _ _ _ q
    ·rename_i hj; rw [if_neg hj] at q; exact h _ _ _ q) hw
 | .loop x,X,X',h,E,H,hw => fun I hI => hw I fun E H q => hI E H (wpC_mono x (X := thenA I X) (X' := thenA I X') (fun e E H p => by
   cases e with
   | normal => exact p
   | exit i => exact h _ _ _ p
   | ret => exact h _ _ _ p) q)
 | .rfunc f ps asg body,X,X',h,E,H,hw => ⟨hw.1,callR_mono (fun _ _ q => endLoopA_mono (fun _ _ p => h _ _ _ p) q) hw.2⟩
theorem heap_hole {H : Heap} {b : Nat} {o : AObj} (hg : H.get b = some o) : (H.set b none).set b (some o) = H := by
 have hb := Heap.lt_of_get hg
 obtain ⟨n,rev⟩ := H
 unfold Heap.get at hg
 simp only at hg hb
 rw [if_pos hb] at hg
 unfold Heap.set
 simp only [hb,if_true,List.set_set,Heap.mk.injEq,true_and]
 refine List.ext_getElem? fun i => ?_
 rw [List.getElem?_set]
 split
 ·rename_i e
  subst e
  cases hr : rev[n - 1 - b]? with
  | none => rw [hr] at hg; cases hg
  | some x =>
   rw [hr] at hg
   have hl : n - 1 - b < rev.length := by
    rcases Nat.lt_or_ge (n - 1 - b) rev.length with h | h
    ·exact h
    ·rw [List.getElem?_eq_none h] at hr; cases hr
   rw [if_pos hl]
   simp at hg
   rw [hg]
 ·rfl
theorem free_hole {H : Heap} (hw : H.wf) {b : Nat} {o : AObj} (hg : H.get b = some o) : Free (H.set b none) b :=
 ⟨by rw [Heap.next_set]; exact Heap.lt_of_get hg,Heap.get_set_same H none hg,Heap.wf_set _ _ hw⟩
theorem set_push_at {H : Heap} {o x : AObj} {b : Nat} (h : b = H.next) : (H.push o).set b (some x) = H.push x := by
 subst h
 unfold Heap.set Heap.push
 simp
theorem set_push_lt {H : Heap} {o : AObj} {x : Option AObj} {b : Nat} (h : b < H.next) : (H.push o).set b x = (H.set b x).push o := Heap.set_push H x o h
theorem get_push_at {H : Heap} {o : AObj} {b : Nat} (h : b = H.next) : (H.push o).get b = some o := by subst h; exact Heap.get_push_same H o
theorem get_push_lt {H : Heap} {o : AObj} {b : Nat} (h : b < H.next) : (H.push o).get b = H.get b := Heap.get_push_ne H o (Nat.ne_of_lt h)
theorem cellAt_push_at {H : Heap} {b o : Nat} {cs : List Value} {fz : Nat} {ty : Option TypeId} (h : b = H.next) : cellAt (H.push (.row cs fz ty)) b o = cs[o]? := by subst h; exact cellAt_push_self
theorem cellsAt_push {H : Heap} {b o k : Nat} {x : AObj} (hb : b < H.next) : cellsAt (H.push x) b o k = cellsAt H b o k := by
 simp only [cellsAt_row,rowOf,Heap.get_push_ne H x (Nat.ne_of_lt hb)]
def Lp (s : LoopState) (p : Option AJump) (E : List Value) (ps : List Tmp) (asg body : ACode) : AObj := .loop { state := s,pending := p,env := E,params := ps,assign := asg,body := body }
def Stable (l : Nat) (P : Heap → Prop) : Prop := ∀ H H',P H → (∀ x,x ≠ l → H'.get x = H.get x) → H'.next = H.next → P H'
structure Rdy (l : Nat) (E : List Value) (ps : List Tmp) (asg body : ACode) (P : Heap → Prop) (H : Heap) : Prop where
 p : P H
 wf : H.wf
 get : H.get l = some (Lp .ready none E ps asg body)
def Fin (l : Nat) (E : List Value) (ps : List Tmp) (asg body : ACode) (F : AExit → Heap → Prop) (H : Heap) : Prop :=
 ∃ e,(exitJump e).isSome = true ∧ F e H ∧ H.wf ∧ H.get l = some (Lp .done (exitJump e) E ps asg body)
theorem round_step' {K : Cx} (hK : Cfg K) {l : Nat} {E E1 : List Value} {ps : List Tmp} {asg body : ACode} {P0 P : Heap → Prop} {F : AExit → Heap → Prop} (hs0 : Stable l P0) (hst : Stable l P) (hsf : ∀ e,Stable l (F e)) {args : List Value} (hlen : args.length = ps.length)
  {H : Heap} (hJ : Rdy l E ps asg body P0 H)
  (hasg : ∀ Z : List Value → Heap → Prop,Z E1 H → wpC K DrawD (some l) asg (fun e E1 H1 => match e with | .normal => Z E1 H1 | _ => False) (setPs E ps args) H)
  (h : ∀ H1,P0 H1 → H1.wf → H1.next = H.next → H1.get l = some (Lp .busy none E ps asg body) → (∀ x,x ≠ l → H1.get x = H.get x) →
   wpC K DrawD (some l) body (fun e _ H3 => H3.wf ∧ H3.get l = some (Lp .busy none E ps asg body) ∧ (match e with | .normal => P H3 | e => F e H3)) E1 H1) :
  RC K l args H fun v H' => (v = .bool true ∧ Rdy l E ps asg body P H') ∨ (v = .bool false ∧ Fin l E ps asg body F H') := by
 refine round_sound (D := DrawD) (fun rn => draw_ok hK.draw hK.mixed rn) ?_
 unfold roundP
 rw [hJ.get]
 refine ⟨hlen,?_⟩
 have hl := Heap.lt_of_get hJ.get
 have set_get : ∀ (G : Heap) (y : AObj),G.get l = some y → ∀ x : AObj,(G.set l (some x)).get l = some x := fun G y hy x => Heap.get_set_same G _ hy
 refine wpC_mono asg (fun e E' H' q => q) (hasg (fun E' H' => beginA l (wpC K DrawD (some l) body (fun e _ H3 => endA l e (fun v H' => (v = .bool true ∧ Rdy l E ps asg body P H') ∨ (v = .bool false ∧ Fin l E ps asg body F H')) H3) E') H') ?_)
 unfold beginA
 rw [hJ.get]
 refine ⟨rfl,?_⟩
 have h1 := h (H.set l (some (Lp .busy none E ps asg body))) (hs0 _ _ hJ.p (fun x hx => Heap.get_set_ne _ _ (Ne.symm hx)) (by simp)) (Heap.wf_set _ _ hJ.wf) (by simp) (set_get _ _ hJ.get _) (fun x hx => Heap.get_set_ne _ _ (Ne.symm hx))
 refine wpC_mono body (fun e E3 H3 q => ?_) h1
 obtain ⟨q1,q2,q3⟩ := q
 unfold endA
 rw [q2]
 cases e with
 | normal => exact .inl ⟨rfl,hst _ _ q3 (fun x hx => Heap.get_set_ne _ _ (Ne.symm hx)) (by simp),Heap.wf_set _ _ q1,set_get _ _ q2 _⟩
 | ret => exact .inr ⟨rfl,.ret,rfl,hsf _ _ _ q3 (fun x hx => Heap.get_set_ne _ _ (Ne.symm hx)) (by simp),Heap.wf_set _ _ q1,set_get _ _ q2 _⟩
 | exit i => exact .inr ⟨rfl,.exit i,rfl,hsf _ _ _ q3 (fun x hx => Heap.get_set_ne _ _ (Ne.symm hx)) (by simp),Heap.wf_set _ _ q1,set_get _ _ q2 _⟩
theorem rounds_end {l : Nat} {E : List Value} {ps : List Tmp} {asg body : ACode} {P : Heap → Prop} {F : AExit → Heap → Prop} {X : AExit → Heap → Prop} {H : Heap}
  (h : Rdy l E ps asg body P H ∨ Fin l E ps asg body F H) (hP : ∀ H',P H → H'.wf → H'.next = H.next → (∀ x,x ≠ l → H'.get x = H.get x) → H'.get l = none → X .normal H')
  (hF : ∀ e H',(exitJump e).isSome = true → F e H → H'.wf → H'.next = H.next → (∀ x,x ≠ l → H'.get x = H.get x) → H'.get l = none → X e H') : endLoopA l X H := by
 unfold endLoopA
 rcases h with h | ⟨e,h1,h2,h3,h4⟩
 ·rw [h.get]
  exact ⟨by simp,hP _ h.p (Heap.wf_set _ _ h.wf) (by simp) (fun x hx => Heap.get_set_ne _ _ (Ne.symm hx)) (Heap.get_set_same _ _ h.get)⟩
 ·rw [h4]
  refine ⟨by simp,?_⟩
  cases e with
  | normal => cases h1
  | ret => exact hF .ret _ rfl h2 (Heap.wf_set _ _ h3) (by simp) (fun x hx => Heap.get_set_ne _ _ (Ne.symm hx)) (Heap.get_set_same _ _ h4)
  | exit i => exact hF (.exit i) _ rfl h2 (Heap.wf_set _ _ h3) (by simp) (fun x hx => Heap.get_set_ne _ _ (Ne.symm hx)) (Heap.get_set_same _ _ h4)
theorem wpC_rfunc {K : Cx} {rn : Option Nat} (f : Operand) (ps : List Tmp) (asg body : ACode) (X : AExit → List Value → Heap → Prop) (E : List Value) (H : Heap) : wpC K DrawD rn (.rfunc f ps asg body) X E H = ((∀ l,rn = some l → ∃ L,H.get l = some (.loop L)) ∧
  callR K (ev E f) [.func (.yield H.next) #[] #[]] (H.push (Lp .ready none E ps asg body)) fun _ H' => endLoopA H.next (fun e => X e E) H') := _root_.id rfl
theorem callR_func {K : Cx} (g : FuncId) (caps : Array Value) (args : List Value) (H : Heap) (Q : Value → Heap → Prop) : callR K (.func (.func g) #[] caps) args H Q = (isFn K g ∧ FC K g (args ++ caps.toList) H Q) := _root_.id rfl
end Go.Ae
namespace Go.Ae
open Go
theorem noEscape_ok {K : Cx} {f : FuncId} {fn : Func} (hf : K.P.funcs[f]? = some fn) (hname : (fn.name == "runtime.NumGoroutine") = false)
  (hb : fn.body.isNone = true) (hn : Extern.findNext fn = none) (he : Extern.find fn = some Extern.AbiNoEscape.same) {x : Value} {H : Heap} {Q : Value → Heap → Prop} (hq : Q x H) : FC K f [x] H Q := by
 intro ρ w args' hr ha
 obtain ⟨l⟩ := args'
 cases ha with
 | @cons _ y _ _ hv ht =>
  cases ht
  rw [run_callFunc_extern hf hname hb hn he]
  have : (Extern.AbiNoEscape.same (Array.mk [y])).run K.P w = .ok y w := Go.Lib.run_noEscape (P := K.P) (w := w) y
  rw [this]
  exact ⟨x,ρ,H,hq,hv,hr,.refl _ _ _⟩
theorem digits_bytes : ∀ (n t : Nat) (acc : Array Value) (l : List UInt8),acc.toList = byteVs l → ∃ l',(Extern.BytealgMakeNoZero.digits n t acc).toList = byteVs l'
 | 0,_,_,l,h => ⟨l,h⟩
 | n + 1,t,acc,l,h => digits_bytes n (t / 256) (acc.push (.int .u8 (Int.ofNat (t % 256)))) (l ++ [UInt8.ofNat t]) (by
   rw [Array.toList_push,h]
   unfold byteVs
   rw [List.map_append]
   simp [UInt8.toNat_ofNat])
theorem run_makeNoZero_bytes {P : Program} (w : World) (ps : Array TypeId) (t e : TypeId) (ht : P.underlying t = some (.slice e)) (n : Nat) (hn : n ≤ 281474976710656) :
  ∃ (cs : Array Value) (l : List UInt8),(Extern.BytealgMakeNoZero.makeNoZero ps #[t] #[.int .i64 n]).run P w = .ok (.slice (some ⟨w.heap.size,0,none⟩) n cs.size) (w.drew.drew.alloc (.cells cs e)) ∧ n ≤ cs.size ∧ (n ≤ maxLen → cs.size ≤ maxLen) ∧ cs.toList = byteVs l := by
 have hdef : Extern.BytealgMakeNoZero.makeNoZero ps #[t] #[.int .i64 n] =
   (do
    let .slice elem ← underlying t | stuck "bytealg.MakeNoZero: slice type expected"
    if (n : Int) < 0 || (n : Int) > 2 ^ 48 then runtimePanic (.error "makeslice: len out of range")
    let cap ← choose (.appendCap (n : Int).toNat 0 elem)
    askRoom cap
    let bytes ← choose (.extern "internal/bytealg.MakeNoZero.bytes" 0)
    let a ← newRow elem (Extern.BytealgMakeNoZero.digits cap bytes #[])
    pure (.slice (some a) (n : Int).toNat cap)) := rfl
 obtain ⟨l,hl⟩ := digits_bytes (grownCap w n 0 e) ((Question.extern "internal/bytealg.MakeNoZero.bytes" 0).cut (w.tape (w.drawn + 1) (.extern "internal/bytealg.MakeNoZero.bytes" 0))) #[] [] rfl
 refine ⟨Extern.BytealgMakeNoZero.digits (grownCap w n 0 e) ((Question.extern "internal/bytealg.MakeNoZero.bytes" 0).cut (w.tape (w.drawn + 1) (.extern "internal/bytealg.MakeNoZero.bytes" 0))) #[],l,?_,?_,?_,hl⟩
 ·rw [hdef]
  have h1 : ¬ (n : Int) < 0 := by omega
  have h2 : ¬ (281474976710656 : Int) < (n : Int) := by omega
  simp [run_underlying ht,h1,h2,Question.forced,newRow,Go.Lib.size_digits,grownCap]
 ·rw [Go.Lib.size_digits]
  simpa using grownCap_ge w n 0 e
 ·intro hm
  rw [Go.Lib.size_digits]
  simpa using grownCap_le_maxLen w n 0 e hm
theorem byteVs_vrs (ρ : Nm) (l : List UInt8) : VRs ρ (byteVs l) (byteVs l) := by
 induction l with
 | nil => exact .nil
 | cons b l ih => exact .cons (.int _ _) ih
theorem makeNoZero_ok {K : Cx} {f : FuncId} {fn : Func} {ps : Array TypeId} {t e : TypeId} (hf : K.P.funcs[f]? = some fn) (hname : (fn.name == "runtime.NumGoroutine") = false)
  (hb : fn.body.isNone = true) (hn : Extern.findNext fn = none) (he : Extern.find fn = some (Extern.BytealgMakeNoZero.makeNoZero ps #[t])) (ht : K.P.underlying t = some (.slice e)) {n : Nat} (hsz : n ≤ 268435456) {H : Heap} {Q : Value → Heap → Prop}
  (hq : ∀ l : List UInt8,l.length = n → Q (sliceOf H.next 0 1 n n) (H.push (.row (byteVs l) 0 (some e)))) : FC K f [.int .i64 n] H Q := by
 intro ρ w args' hr ha
 obtain ⟨l⟩ := args'
 cases ha with
 | cons hv ht' =>
  cases ht'
  cases hv
  obtain ⟨cs,l,h1,h2,h3,h4⟩ := run_makeNoZero_bytes (P := K.P) w ps t e ht n (by omega)
  ·rw [run_callFunc_extern hf hname hb hn he,h1]
   have hlen : (byteVs (l.take n)).length = n := by
    have : cs.size = l.length := by rw [← Array.length_toList,h4]; simp [byteVs]
    simp [byteVs]; omega
   have htk : cs.toList.take (byteVs (l.take n)).length = byteVs (l.take n) := by
    rw [hlen,h4]; simp [byteVs,List.map_take]
   obtain ⟨ρ',R,S,hpr,hlive⟩ := hr.drew.drew.newRowAt (e := e) (C := cs) (l := byteVs (l.take n)) (fn := 0) (ty := some e) (fun t h => by cases h; rfl) (Adds.push _ hr.wf) (hr.fresh _ (Nat.le_refl _)) hr.g0 (by rw [htk]; exact byteVs_vrs ρ _)
    (fun x hx => by
     unfold byteVs at hx
     obtain ⟨b,_,rfl⟩ := List.mem_map.1 hx
     rfl)
   refine ⟨sliceOf H.next 0 1 n n,ρ',_,hq (l.take n) (by simpa [byteVs] using hlen),.slice ⟨hpr.1,fun c base size hl => ?_⟩ (Nat.le_refl _) h2 ?_,R,S _ _ _ ?_ (Nat.le_refl _)⟩
   ·rw [hlive,setN_same] at hl
    cases hl
    exact ⟨by omega,.inl rfl⟩
   ·have := h3 (by unfold maxLen; omega)
    unfold maxLen at this
    unfold maxRow; omega
   ·exact (Step.same rfl rfl rfl rfl).trans (Step.same rfl rfl rfl rfl)
end Go.Ae
namespace Go.Ae
open Go
set_option maxRecDepth 100000
abbrev Names := Nat → Prop
structure Mvd (H H' : Heap) (D D' : Names) : Prop where
 get : ∀ x,x < H.next → ¬ D x → H'.get x = H.get x
 next : H.next ≤ H'.next
 new : ∀ x,D' x → D x ∨ H.next ≤ x
 wf : H'.wf
theorem Mvd.refl {H : Heap} {D : Names} (hw : H.wf) : Mvd H H D D := ⟨fun _ _ _ => rfl,Nat.le_refl _,fun _ h => .inl h,hw⟩
theorem Mvd.trans {H H1 H2 : Heap} {D D1 D2 : Names} (h : Mvd H H1 D D1) (h' : Mvd H1 H2 D1 D2) : Mvd H H2 D D2 := by
 refine ⟨fun x h1 h2 => ?_,Nat.le_trans h.next h'.next,fun x hx => ?_,h'.wf⟩
 ·have hd : ¬ D1 x := fun hd => by
   rcases h.new x hd with e | e
   ·exact h2 e
   ·omega
  rw [h'.get x (Nat.lt_of_lt_of_le h1 h.next) hd,h.get x h1 h2]
 ·rcases h'.new x hx with e | e
  ·exact h.new x e
  ·exact .inr (Nat.le_trans h.next e)
structure Yd (K : Cx) (l : Nat) {A : Type} (enc : A → List Value) (ok : List A → A → Prop) (J : List A → Names → Heap → Prop) : Prop where
 loc : ∀ {pl D H H'},J pl D H → (∀ x,D x → H'.get x = H.get x) → H.next ≤ H'.next → H'.wf → J pl D H'
 low : ∀ {pl D H},J pl D H → ∀ x,D x → x < H.next
 step : ∀ {pl D H a},J pl D H → H.wf → ok pl a → RC K l (enc a) H fun v H' => v = .bool true ∧ ∃ D',J (pl ++ [a]) D' H' ∧ Mvd H H' D D'
theorem round_all {K : Cx} (hK : Cfg K) {l : Nat} {E : List Value} {ps : List Tmp} {asg body : ACode} {args : List Value} {H : Heap} {Q : Value → Heap → Prop} (hlen : args.length = ps.length) (hl : H.get l = some (Lp .ready none E ps asg body))
  (h : wpC K DrawD (some l) asg (fun e E1 H1 => match e with
   | .normal => H1.get l = some (Lp .ready none E ps asg body) ∧ wpC K DrawD (some l) body (fun e _ H3 => e = .normal ∧ H3.get l = some (Lp .busy none E ps asg body) ∧ Q (.bool true) (H3.set l (some (Lp .ready none E ps asg body)))) E1 (H1.set l (some (Lp .busy none E ps asg body)))
   | _ => False) (setPs E ps args) H) : RC K l args H Q := by
 refine round_sound (D := DrawD) (fun rn => draw_ok hK.draw hK.mixed rn) ?_
 unfold roundP
 rw [hl]
 refine ⟨hlen,wpC_mono asg (fun e E1 H1 q => ?_) h⟩
 cases e with
 | normal =>
  obtain ⟨q1,q2⟩ := q
  unfold beginA
  simp only
  rw [q1]
  refine ⟨rfl,wpC_mono body (fun e E3 H3 q => ?_) q2⟩
  obtain ⟨rfl,q3,q4⟩ := q
  unfold endA
  rw [q3]
  exact q4
 | exit i => exact q
 | ret => exact q
theorem end_all {l : Nat} {E : List Value} {ps : List Tmp} {asg body : ACode} {X : AExit → Heap → Prop} {H : Heap} (hl : H.get l = some (Lp .ready none E ps asg body)) (h : X .normal (H.set l none)) : endLoopA l X H := by
 unfold endLoopA
 rw [hl]
 exact ⟨by simp,h⟩
theorem retQ_cells2 (t u : Tmp) (k : Nat) (Q : Value → Heap → Prop) (E : List Value) (H : Heap) : retQ [.cell t (some k),.tmp u] Q .ret E H = (match ev E (.tmp t) with
  | .pointer (some p) => (match cellsAt H p.block p.off k with
   | some cs => Q (.tuple #[.agg cs.toArray,ev E (.tmp u)]) H
   | none => False)
  | _ => False) := by
 have e : retQ [.cell t (some k),.tmp u] Q .ret E H = ∃ vs,resA E H [.cell t (some k),.tmp u] = some vs ∧ Q (tupleA vs) H := rfl
 rw [e]
 simp only [resA,resOne,aop]
 generalize ev E (.tmp t) = v
 cases v <;> try (simp; done)
 rename_i p
 cases p <;> try (simp; done)
 rename_i p
 simp only
 cases cellsAt H p.block p.off k <;> simp [tupleA,ev]
section
variable {K : Cx} {Q : List Value → Heap → Prop} {E : List Value} {H : Heap} {d : Option Tmp} {r : List AItem}
theorem wpItems_lookI0 {m k : Operand} {zero : Value} {a : Int} {mb : Nat} {es : List (Value × Value)} (hm : ev E m = .map (some mb)) (hk : ev E k = .int .i64 a) (hg : H.get mb = some (.map es)) (hf : findKeyA .int (.int .i64 a) es 0 = some none)
  (h : wpItems K r Q (put E d zero) H) : wpItems K (⟨d,.look .int m k zero false,none⟩ :: r) Q E H := by
 rw [wpItems_look]
 simp only [aop,hm,hk,hg,hf]
 exact h
theorem wpItems_lookI1 {m k : Operand} {zero : Value} {a : Int} {mb i : Nat} {es : List (Value × Value)} {kv : Value × Value} (hm : ev E m = .map (some mb)) (hk : ev E k = .int .i64 a) (hg : H.get mb = some (.map es)) (hf : findKeyA .int (.int .i64 a) es 0 = some (some i)) (he : es[i]? = some kv)
  (h : wpItems K r Q (put E d kv.2) H) : wpItems K (⟨d,.look .int m k zero false,none⟩ :: r) Q E H := by
 rw [wpItems_look]
 simp only [aop,hm,hk,hg,hf,he]
 exact h
theorem wpItems_msetI0 {m k v : Operand} {a : Int} {mb : Nat} {es : List (Value × Value)} (hm : ev E m = .map (some mb)) (hk : ev E k = .int .i64 a) (hg : H.get mb = some (.map es)) (hf : findKeyA .int (.int .i64 a) es 0 = some none)
  (h : wpItems K r Q (put E d undef) (H.set mb (some (.map (es ++ [(.int .i64 a,ev E v)]))))) : wpItems K (⟨d,.mset .int m k v,none⟩ :: r) Q E H := by
 rw [wpItems_mset]
 simp only [aop,hm,hk,hg,hf]
 exact h
end
theorem Old.two {n : Nat} {v u : Value} (h : Old n v) (h' : Old n u) : Old n (.tuple #[v,u]) := by
 obtain ⟨x,hx⟩ := h
 obtain ⟨y,hy⟩ := h'
 exact ⟨_,VRs.tuple (.cons hx (.cons hy .nil))⟩
end Go.Ae
