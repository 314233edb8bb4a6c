/- Part 35 of the proof of the law: Ae37, Ae38, Ae39, Ce41. No condition. -/
import Derived.Test.YtalflgbdhjjlkaaGreatDoorP34
set_option linter.all false
namespace Go.Ae
open Go
def isT : Value → Bool
 | .bool b => b
 | _ => false
def isF : Value → Bool
 | .bool b => !b
 | _ => false
def isP (N : Nat) : Value → Bool
 | .pointer (some ⟨b,0,none⟩) => b == N
 | _ => false
theorem isT_eq {v : Value} (h : isT v = true) : v = .bool true := by
 unfold isT at h; split at h
 ·rw [h]
 ·cases h
theorem isF_eq {v : Value} (h : isF v = true) : v = .bool false := by
 unfold isF at h; split at h
 ·rename_i b; cases b
  ·rfl
  ·cases h
 ·cases h
theorem isP_eq {N : Nat} {v : Value} (h : isP N v = true) : v = ptrTo0 N := by
 unfold isP at h; split at h
 ·rename_i b; simp at h; subst h; rfl
 ·cases h
def good {α : Type} (r : Res α) (f : α → Bool) : Bool := match r with
 | .ok a => f a
 | _ => false
theorem good_sat {α : Type} {r : Res α} {f : α → Bool} (h : good r f = true) : r.sat fun a => f a = true := by
 cases r <;> first | exact h | cases h
def tree (call : CallF) (it tn tc te : Tmp) (itsB itsC itsD : List AItem) (N mb : Nat) (es : List (Value × Value)) (fin : List Value → Heap → Bool) : Nat → List Nat → List Value → Heap → Bool
 | 0,_,_,_ => false
 | m + 1,idxs,E,H => isP N (ev E (.tmp it)) &&
  if (List.range es.length).all fun i => idxs.contains i then
   good (runItems call itsB (put E (some tn) (.tuple #[.bool false])) H) fun p => isF (ev p.1 (.tmp tc)) && fin p.1 (p.2.set mb (some (.map es)))
  else (List.range es.length).all fun i => idxs.contains i || match es[i]? with
   | some e => good (runItems call itsB (put E (some tn) (.tuple #[.bool true,e.1,e.2])) H) fun p => isT (ev p.1 (.tmp tc)) && isP N (ev p.1 (.tmp it)) &&
     good (runItems call itsC (put p.1 (some te) (.tuple #[e.1,e.2])) p.2) fun q => good (runItems call itsD q.1 q.2) fun r => tree call it tn tc te itsB itsC itsD N mb es fin m (idxs ++ [i]) r.1 r.2
   | none => true
theorem tree_mp {K : Cx} {call : CallF} (hc : CallOk K call) {it tn tc te : Tmp} {tmm : Operand} {itsB itsC itsD : List AItem} {mb : Nat} {es : List (Value × Value)} {fin : List Value → Heap → Bool} {Q : List Value → Heap → Prop} {m : Nat} {E : List Value} {H : Heap}
  (h1 : ev E tmm = .map (some mb)) (h2 : H.get mb = some (.map es)) (h : tree call it tn tc te itsB itsC itsD H.next mb es fin m [] (put E (some it) (ptrTo0 H.next)) ((H.set mb none).reserve 1) = true)
  (hq : ∀ E H,fin E H = true → Q E H) : MP K it tn tc te tmm itsB itsC itsD Q E H := by
 refine ⟨mb,es,h1,h2,fun idxs E H' => ∃ m,tree call it tn tc te itsB itsC itsD H.next mb es fin m idxs E H' = true,⟨m,h⟩,?_⟩
 rintro idxs E1 H1 ⟨m1,ht⟩
 cases m1 with
 | zero => cases ht
 | succ m1 =>
  rw [tree,Bool.and_eq_true] at ht
  obtain ⟨ht1,ht2⟩ := ht
  refine ⟨isP_eq ht1,fun hn hl i e he hni => ?_,fun hn hl => ?_⟩
  ·have hil : i < es.length := (List.getElem?_eq_some_iff.1 he).1
   rw [if_neg (by
    intro hall
    rw [List.all_eq_true] at hall
    have := hall i (List.mem_range.2 hil)
    exact hni (by simpa using this))] at ht2
   rw [List.all_eq_true] at ht2
   have h3 := ht2 i (List.mem_range.2 hil)
   rw [he] at h3
   have h4 : idxs.contains i = false := by
    cases hc : idxs.contains i with
    | false => rfl
    | true => exact absurd (by simpa using hc) hni
   rw [h4,Bool.false_or] at h3
   refine runItems_ok hc itsB _ _ (Res.sat_mono (fun p hp => ?_) (good_sat h3))
   rw [Bool.and_eq_true,Bool.and_eq_true] at hp
   obtain ⟨⟨p1,p2⟩,p3⟩ := hp
   refine ⟨isT_eq p1,isP_eq p2,?_⟩
   refine runItems_ok hc itsC _ _ (Res.sat_mono (fun q hq => ?_) (good_sat p3))
   exact runItems_ok hc itsD _ _ (Res.sat_mono (fun r hr => ⟨m1,hr⟩) (good_sat hq))
  ·rw [if_pos (by
    rw [List.all_eq_true]
    intro i hi
    simpa using (hl i).2 (List.mem_range.1 hi))] at ht2
   refine runItems_ok hc itsB _ _ (Res.sat_mono (fun p hp => ?_) (good_sat ht2))
   rw [Bool.and_eq_true] at hp
   exact ⟨isF_eq hp.1,hq _ _ hp.2⟩
def sameL (f : Value → Value → Bool) : List Value → List Value → Bool
 | [],[] => true
 | a :: l,b :: r => f a b && sameL f l r
 | _,_ => false
theorem sameL_eq {f : Value → Value → Bool} (hf : ∀ a b,f a b = true → a = b) : ∀ {l r : List Value},sameL f l r = true → l = r
 | [],[],_ => rfl
 | a :: l,b :: r,h => by
  rw [sameL,Bool.and_eq_true] at h
  rw [hf _ _ h.1,sameL_eq hf h.2]
 | [],_ :: _,h => by cases h
 | _ :: _,[],h => by cases h
def sameF : Nat → Value → Value → Bool
 | n + 1,.func (.func f) x c,.func (.func g) y d => f == g && x.size == 0 && y.size == 0 && sameL (sameF n) c.toList d.toList
 | _ + 1,.func (.yield f) x c,.func (.yield g) y d => f == g && x.size == 0 && y.size == 0 && c.size == 0 && d.size == 0
 | _,a,b => sameV a b
theorem size0 {x y : Array Value} (h1 : x.size = 0) (h2 : y.size = 0) : x = y := by
 rw [Array.eq_empty_of_size_eq_zero h1,Array.eq_empty_of_size_eq_zero h2]
theorem sameF_eq : ∀ (n : Nat) (a b : Value),sameF n a b = true → a = b := by
 intro n
 induction n with
 | zero => intro a b h; unfold sameF at h; exact sameV_eq h
 | succ n ih =>
  intro a b h
  unfold sameF at h
  split at h
  ·rename_i e; simp at e
   subst e
   simp only [Bool.and_eq_true,beq_iff_eq] at h
   obtain ⟨⟨⟨rfl,h1⟩,h2⟩,h3⟩ := h
   rw [size0 h1 h2,Array.toList_inj.1 (sameL_eq ih h3)]
  ·simp only [Bool.and_eq_true,beq_iff_eq] at h
   obtain ⟨⟨⟨⟨rfl,h1⟩,h2⟩,h3⟩,h4⟩ := h
   rw [size0 h1 h2,size0 h3 h4]
  ·exact sameV_eq h
def sameVs (l r : List Value) : Bool := sameL (sameF 5) l r
theorem sameVs_eq {l r : List Value} (h : sameVs l r = true) : l = r := sameL_eq (sameF_eq 5) h
def sameMs : List (Value × Value) → List (Value × Value) → Bool
 | [],[] => true
 | a :: l,b :: r => sameV a.1 b.1 && sameV a.2 b.2 && sameMs l r
 | _,_ => false
theorem sameMs_eq : ∀ {l r : List (Value × Value)},sameMs l r = true → l = r
 | [],[],_ => rfl
 |(a,c) :: l,(b,d) :: r,h => by
  rw [sameMs,Bool.and_eq_true,Bool.and_eq_true] at h
  rw [sameMs_eq h.2]
  have h1 := sameV_eq h.1.1
  have h2 := sameV_eq h.1.2
  simp only at h1 h2
  rw [h1,h2]
 | [],_ :: _,h => by cases h
 | _ :: _,[],h => by cases h
def sameO : Option AObj → Option AObj → Bool
 | none,none => true
 | some (.row a f t),some (.row b g u) => sameVs a b && f == g && t == u
 | some (.ro a),some (.ro b) => sameVs a b
 | some (.map a),some (.map b) => sameMs a b
 | _,_ => false
theorem sameO_eq {x y : Option AObj} (h : sameO x y = true) : x = y := by
 unfold sameO at h
 split at h
 ·rfl
 ·simp only [Bool.and_eq_true,beq_iff_eq] at h
  rw [sameVs_eq h.1.1,h.1.2,h.2]
 ·rw [sameVs_eq h]
 ·rw [sameMs_eq h]
 ·cases h
def agreeB (H H' : Heap) : Bool := (List.range H.next).all fun b => sameO (H'.get b) (H.get b)
theorem agreeB_ok {H H' : Heap} (h : agreeB H H' = true) : Agree H.next H H' := fun b hb => sameO_eq (List.all_eq_true.1 h b (List.mem_range.2 hb))
def isStr : Value → Bool
 | .string _ => true
 | _ => false
theorem isStr_old {n : Nat} {v : Value} (h : isStr v = true) : Old n v := by
 unfold isStr at h; split at h
 ·exact .string _
 ·cases h
def finR (call : CallF) (fns : Nat → Bool) (fuel : Nat) (rs : List ARes) (rest : ACode) (H0 : Heap) (S : List Value) (k cap : Nat) (ty : Option TypeId) (E : List Value) (H : Heap) : Bool :=
 good (runC call fns fuel none rest E H) fun p => match p.1 with
  | .exit _ => false
  | _ => match resA p.2.1 p.2.2 rs with
   | some [.slice (some ⟨b,o,some sz⟩) n c] => decide (H0.next ≤ b) && o == 0 && sz == 1 && n == k && c == cap && agreeB H0 p.2.2 &&
    match p.2.2.get b with
    | some (.row cs fz t) => sameVs cs S && S.all isStr && fz == 0 && t == ty
    | _ => false
   | _ => false
def mvQ (H0 : Heap) (Q : Value → Heap → Prop) (v : Value) (H' : Heap) : Prop := Agree H0.next H0 H' ∧ ∃ b cs ty u,H0.next ≤ b ∧ H'.get b = some (.row cs 0 ty) ∧ (∀ x ∈ cs,Old H0.next x) ∧ Moved H0.next b v u ∧ Q u (H0.push (.row cs 0 ty))
theorem finR_ok {K : Cx} {call : CallF} (hc : CallOk K call) {fns : Nat → Bool} (hf : ∀ g,fns g = true → isFn K g) (hcf : ∀ g first caps args H (Q : Value → Heap → Prop),(call (.func (.func g) first caps) args H).sat (fun p => Q p.1 p.2) → FC K g (args ++ caps.toList) H Q)
  {fuel : Nat} {rs : List ARes} {rest : ACode} {H0 : Heap} {S : List Value} {k cap : Nat} {ty : Option TypeId} {E : List Value} {H : Heap} (h : finR call fns fuel rs rest H0 S k cap ty E H = true) {Q : Value → Heap → Prop}
  (hQ : Q (.slice (some ⟨H0.next,0,some 1⟩) k cap) (H0.push (.row S 0 ty))) : wpC K DrawD none rest (retQ rs (mvQ H0 Q)) E H := by
 refine runC_ok hc hf hcf rest _ E H (Res.sat_mono (fun p hp => ?_) (good_sat h))
 obtain ⟨e,E',H'⟩ := p
 have key : (match resA E' H' rs with
   | some [.slice (some ⟨b,o,some sz⟩) n c] => decide (H0.next ≤ b) && o == 0 && sz == 1 && n == k && c == cap && agreeB H0 H' &&
    match H'.get b with
    | some (.row cs fz t) => sameVs cs S && S.all isStr && fz == 0 && t == ty
    | _ => false
   | _ => false) = true → ∃ vs,resA E' H' rs = some vs ∧ mvQ H0 Q (tupleA vs) H' := by
  intro hp
  split at hp
  ·rename_i b o sz n c hres
   simp only [Bool.and_eq_true,decide_eq_true_eq,beq_iff_eq] at hp
   obtain ⟨⟨⟨⟨⟨⟨p1,rfl⟩,rfl⟩,rfl⟩,rfl⟩,p2⟩,p3⟩ := hp
   split at p3
   ·rename_i cs fz t hg
    simp only [Bool.and_eq_true,beq_iff_eq] at p3
    obtain ⟨⟨⟨p3,p4⟩,rfl⟩,rfl⟩ := p3
    have := sameVs_eq p3
    subst this
    exact ⟨_,hres,agreeB_ok p2,b,cs,t,_,p1,hg,fun x hx => isStr_old (List.all_eq_true.1 p4 x hx),.slice 0 1 n c,hQ⟩
   ·cases p3
  ·cases hp
 cases e with
 | normal => exact key hp
 | exit i => cases hp
 | ret => exact key hp
end Go.Ae
namespace Go.Ae
open Go
def lexLt : List UInt8 → List UInt8 → Bool
 | [],[] => false
 | [],_ :: _ => true
 | _ :: _,[] => false
 | a :: l,b :: r => if a.toNat < b.toNat then true else if b.toNat < a.toNat then false else lexLt l r
def bytesOf : Value → List UInt8
 | .string s => s.data.toList
 | _ => []
def insV (v : Value) : List Value → List Value
 | [] => [v]
 | x :: l => if lexLt (bytesOf v) (bytesOf x) then v :: x :: l else x :: insV v l
def sortV : List Value → List Value
 | [] => []
 | v :: l => insV v (sortV l)
structure MRx where
 n : Nat
 rs : List ARes
 l0 : List AItem
 l1 : List AItem
 it : Tmp
 tn : Tmp
 tc : Tmp
 te : Tmp
 tmm : Operand
 a : List AItem
 b : List AItem
 c : List AItem
 d : List AItem
 rest : ACode
 ty : Option TypeId
def namesS (X : MRx) (call : CallF) (fns : Nat → Bool) (fuel : Nat) (args : List Value) (H0 : Heap) : Res (Value × Heap) :=
 (runItems call X.l0 (args ++ List.replicate (X.n - args.length) undef) H0).bind fun p => (runItems call X.l1 p.1 p.2).bind fun q => (runItems call X.a q.1 q.2).bind fun r =>
  match ev r.1 X.tmm with
  | .map (some mb) => match r.2.get mb with
   | some (.map es) => if tree call X.it X.tn X.tc X.te X.b X.c X.d r.2.next mb es (finR call fns fuel X.rs X.rest H0 (sortV (es.map (·.1))) es.length es.length X.ty) (es.length + 1) [] (put r.1 (some X.it) (ptrTo0 r.2.next)) ((r.2.set mb none).reserve 1)
     then .ok (.slice (some ⟨H0.next,0,some 1⟩) es.length es.length,H0.push (.row (sortV (es.map (·.1))) 0 X.ty)) else .fail
   | _ => .fail
  | _ => .fail
theorem namesS_ok {K : Cx} (hK : Cfg K) {f : FuncId} {X : MRx} (hi : IsMR K.P K.G0 f X.n X.rs X.l0 X.l1 X.it X.tn X.tc X.te X.tmm X.a X.b X.c X.d X.rest) {call : CallF} (hc : CallOk K call) {fns : Nat → Bool} (hf : ∀ g,fns g = true → isFn K g)
  (hcf : ∀ g first caps args H (Q : Value → Heap → Prop),(call (.func (.func g) first caps) args H).sat (fun p => Q p.1 p.2) → FC K g (args ++ caps.toList) H Q) {fuel : Nat} (args : List Value) (H : Heap) (Q : Value → Heap → Prop)
  (h : (namesS X call fns fuel args H).sat fun p => Q p.1 p.2) : FC K f args H Q := by
 refine FC.move ?_
 refine FC.ofMR hK hi ?_
 refine runItems_ok hc _ _ _ (Res.sat_mono (fun p hp => ?_) (Res.sat_bind h))
 refine runItems_ok hc _ _ _ (Res.sat_mono (fun q hq => ?_) (Res.sat_bind hp))
 refine runItems_ok hc _ _ _ (Res.sat_mono (fun r hr => ?_) (Res.sat_bind hq))
 split at hr
 ·rename_i mb h1
  split at hr
  ·rename_i es h2
   split at hr
   ·rename_i ht
    exact tree_mp hc h1 h2 ht fun E H' hfin => finR_ok hc hf hcf hfin hr
   ·exact hr.elim
  ·exact hr.elim
 ·exact hr.elim
def asideS (s : List Value → Heap → Res (Value × Heap)) : List Nat → List Value → Heap → Res (Value × Heap)
 | [],args,H => s args H
 | b :: l,args,H => match H.get b with
  | some (.loop L) => (asideS s l args (H.set b none)).bind fun p => .ok (p.1,p.2.set b (some (.loop L)))
  | _ => .fail
theorem asideS_ok {K : Cx} {f : FuncId} {s : List Value → Heap → Res (Value × Heap)} (hs : ∀ args H (Q : Value → Heap → Prop),(s args H).sat (fun p => Q p.1 p.2) → FC K f args H Q) :
  ∀ (l : List Nat) (args : List Value) (H : Heap) (Q : Value → Heap → Prop),(asideS s l args H).sat (fun p => Q p.1 p.2) → FC K f args H Q
 | [],args,H,Q,h => hs args H Q h
 | b :: l,args,H,Q,h => by
  rw [asideS] at h
  split at h
  ·rename_i L hL
   have h1 := asideS_ok hs l args (H.set b none) (fun v H' => Q v (H'.set b (some (.loop L)))) (Res.sat_bind h)
   intro ρ w args' hr ha
   have h2 := FC.frame h1 (free_hole hr.wf hL) (o := .loop L) rfl
   rw [heap_hole hL] at h2
   refine FC.mono ?_ h2 ρ w args' hr ha
   rintro v H2 ⟨H1,rfl,_,hq⟩
   exact hq
  ·exact h.elim
def isLoopO : Option AObj → Bool
 | some (.loop _) => true
 | _ => false
def loopsOf (H : Heap) : List Nat := (List.range H.next).filter fun b => isLoopO (H.get b)
def namesF (X : MRx) (call : CallF) (fns : Nat → Bool) (fuel : Nat) (args : List Value) (H0 : Heap) : Res (Value × Heap) := asideS (namesS X call fns fuel) (loopsOf H0) args H0
theorem namesF_ok {K : Cx} (hK : Cfg K) {f : FuncId} {X : MRx} (hi : IsMR K.P K.G0 f X.n X.rs X.l0 X.l1 X.it X.tn X.tc X.te X.tmm X.a X.b X.c X.d X.rest) {call : CallF} (hc : CallOk K call) {fns : Nat → Bool} (hf : ∀ g,fns g = true → isFn K g)
  (hcf : ∀ g first caps args H (Q : Value → Heap → Prop),(call (.func (.func g) first caps) args H).sat (fun p => Q p.1 p.2) → FC K g (args ++ caps.toList) H Q) {fuel : Nat} (args : List Value) (H : Heap) (Q : Value → Heap → Prop)
  (h : (namesF X call fns fuel args H).sat fun p => Q p.1 p.2) : FC K f args H Q :=
 asideS_ok (fun args H Q h => namesS_ok hK hi hc hf hcf args H Q h) _ args H Q h
end Go.Ae
namespace Go.Ae
open Go
def H00 (n : Nat) : Heap := { next := n,rev := List.replicate n none }
theorem get00 (n b : Nat) : (H00 n).get b = none := by
 unfold Heap.get H00
 split
 ·rw [List.getElem?_replicate]; split <;> rfl
 ·rfl
theorem img00 (ρ : Nm) (n c : Nat) : ¬ Img ρ (H00 n) c := by
 rintro ⟨b,o,_,_,h,_⟩
 rw [get00] at h; cases h
theorem FC.closed {K : Cx} {f : FuncId} {b : Bool} (h : FC K f [] (H00 K.G0) fun v _ => v = .bool b) {H : Heap} {Q : Value → Heap → Prop} (hQ : Q (.bool b) H) : FC K f [] H Q := by
 intro ρ w args' hr ha
 have hrel : Rel K (cutNm K.G0 ρ) (H00 K.G0) w := by
  refine ⟨fun b o hb => ?_,fun b hb => ?_,fun b b' o o' c base base' size size' h1 => ?_,hr.base,by simp [H00],fun g hg => ?_⟩
  ·rw [get00] at hb; cases hb
  ·unfold cutNm
   have : K.G0 ≤ b := hb
   rw [if_neg (by omega)]
  ·rw [get00] at h1; cases h1
  ·rw [cutNm_lt hg]; exact hr.glob g hg
 have ha' : args'.toList = [] := by
  generalize args'.toList = l at ha
  cases ha; rfl
 refine Upon.mono (fun e w' hp => ?_) (h _ w args' hrel (by rw [ha']; exact .nil))
 cases e with
 | outgrown => exact hp
 | panicked ch => exact hp
 | returned v' =>
  obtain ⟨v,ρ',H',rfl,hv,R,S⟩ := hp
  rw [hv.bool_inv]
  refine ⟨_,ρ,H,hQ,.bool b,⟨fun x o hx => ?_,hr.fresh,hr.inj,Nat.le_trans hr.base S.size,hr.wf,hr.glob⟩,⟨.refl _,Nat.le_refl _,fun _ _ h => ⟨rfl,h⟩,S.size,fun c hc hi => ⟨(S.keeps c hc (img00 _ _ _)).1,hi⟩,S.os,S.tape,S.output⟩⟩
  obtain ⟨c,base,size,g1,g2⟩ := hr.objs x o hx
  exact ⟨c,base,size,g1,by rw [(S.keeps c g2.lt (img00 _ _ _)).1]; exact g2⟩
end Go.Ae
namespace Go.Ae
open Go
def strV : Value → ByteArray
 | .string t => t
 | _ => ⟨#[]⟩
def cellVv (H : Heap) (b o : Nat) : Value := (cellAt H b o).getD undef
def shortAt (H : Heap) (b o : Nat) : Bool := match cellAt H b o with
 | some (.string s) => decide (s.size ≤ 1000)
 | _ => false
def sp72 (args : List Value) (H : Heap) : Res (Value × Heap) := match args with
 | [.slice (some ⟨b,o,some 1⟩) k cap,.string sep] =>
  if decide (k ≤ cap) && decide (k ≤ 10000) && sep.size == 1 && (List.range k).all fun j => shortAt H b (o + j) then
   .ok (.string ⟨(joinL sep.data.toList (fun j => (strV (cellVv H b (o + j))).data.toList) k).toArray⟩,H) else .fail
 | _ => .fail
theorem sp72_ok {K : Cx} (hK : Cfg K) (hS : JoinIs K) (args : List Value) (H : Heap) (Q : Value → Heap → Prop) (h : (sp72 args H).sat fun p => Q p.1 p.2) : FC K 72 args H Q := by
 unfold sp72 at h
 split at h
 ·rename_i b o k cap sep
  split at h
  ·rename_i hc
   simp only [Bool.and_eq_true,decide_eq_true_eq,beq_iff_eq,List.all_eq_true] at hc
   obtain ⟨⟨⟨h1,h2⟩,h3⟩,h4⟩ := hc
   have hcell : ∀ j,j < k → ∃ s : ByteArray,cellAt H b (o + j) = some (.string s) ∧ s.size ≤ 1000 := fun j hj => by
    have := h4 j (List.mem_range.2 hj)
    unfold shortAt at this
    split at this
    ·rename_i s hs; exact ⟨s,hs,by simpa using this⟩
    ·cases this
   refine c72 (k := k) (g := fun j => cellVv H b (o + j)) (s := fun j => strV (cellVv H b (o + j))) hK hS ⟨_,cap,rfl,h1,.inr ⟨b,o,rfl,fun j hj => ?_⟩⟩ (fun j hj => ?_) h2 h3 h
   ·obtain ⟨s,hs,_⟩ := hcell j (by omega)
    simp [cellVv,hs]
   ·obtain ⟨s,hs,hl⟩ := hcell j hj
    simp [cellVv,hs,strV,hl]
  ·exact h.elim
 ·exact h.elim
end Go.Ae
