/- Part 8 of the proof of the law: Ae16, Ae17, Ae18. No condition. -/
import Derived.Test.YtalflgbdhjjlkaaGreatDoorP07
set_option linter.all false
namespace Go.Ae
open Go
theorem mem_opdTmps {t : Tmp} {l : List Operand} (h : .tmp t ∈ l) : t ∈ opdTmps l := by
 induction l with
 | nil => cases h
 | cons x l ih =>
  rcases List.mem_cons.1 h with e | e
  ·cases e; exact List.mem_cons_self
  ·cases x with
   | tmp s => exact List.mem_cons_of_mem _ (ih e)
   | _ => exact ih e
theorem ev_put {E : List Value} {d : Option Tmp} {v : Value} {l : List Operand} (h : away d (opdTmps l) = true) {x : Operand} (hx : x ∈ l) : ev (put E d v) x = ev E x := by
 cases d with
 | none => rfl
 | some d =>
  cases x with
  | tmp t =>
   have hne : d ≠ t := by
    intro e; subst e
    have := mem_opdTmps hx
    simp [away] at h
    exact h this
   simp only [ev,put]
   rw [List.getD_eq_getElem?_getD,List.getD_eq_getElem?_getD,List.getElem?_set_ne hne]
  | _ => rfl
theorem wanted_put {E : List Value} {d : Option Tmp} {v : Value} {g : Option (Tmp × Bool)} (h : away d (guardTmps g) = true) : wantedA g (put E d v) = wantedA g E := by
 cases d with
 | none => rfl
 | some d =>
  cases g with
  | none => rfl
  | some p =>
   obtain ⟨t,b⟩ := p
   have hne : d ≠ t := by
    intro e; subst e; simp [away,guardTmps] at h
   simp only [wantedA,put]
   rw [List.getD_eq_getElem?_getD,List.getD_eq_getElem?_getD,List.getElem?_set_ne hne]
theorem away_append {d : Option Tmp} {a b : List Tmp} (h : away d (a ++ b) = true) : away d a = true ∧ away d b = true := by
 cases d with
 | none => exact ⟨rfl,rfl⟩
 | some d => simp [away] at h ⊢; exact h
theorem put_comm {E : List Value} {d e : Option Tmp} {u v : Value} (h : neD d e = true) : put (put E d u) e v = put (put E e v) d u := by
 cases d with
 | none => rfl
 | some x =>
  cases e with
  | none => rfl
  | some y =>
   simp [neD] at h
   exact List.set_comm _ _ h
theorem bound_congr {E E' : List Value} {x : Option Operand} (h : ∀ y ∈ optOpd x,ev E y = ev E' y) (d t : Nat) : bound E x d t = bound E' x d t := by
 cases x with
 | none => rfl
 | some y => simp [bound,h y (by simp [optOpd])]
theorem parts_congr {E E' : List Value} (l : List (Nat × Nat × Operand)) (h : ∀ x ∈ l.map (fun p => p.2.2),ev E x = ev E' x) :
  (l.map fun p => (p.1,p.2.1,ev E p.2.2)) = l.map fun p => (p.1,p.2.1,ev E' p.2.2) := by
 refine List.map_congr_left fun p hp => ?_
 rw [h p.2.2 (List.mem_map.2 ⟨p,hp,rfl⟩)]
theorem allocA_congr {E E' : List Value} {op : AOp} (h : ∀ x ∈ op.opds,ev E x = ev E' x) : allocA op E = allocA op E' := by
 cases op <;> simp only [AOp.opds] at h <;> simp only [allocA]
 case box x e => rw [h x (by simp)]
 case mkslice len size zero parts => rw [parts_congr parts h]
 case mkrow l c sz zero => rw [h l (by simp),h c (by simp)]
theorem aop_congr {E E' : List Value} {op : AOp} (h : ∀ x ∈ op.opds,ev E x = ev E' x) (H : Heap) : aop op E H = aop op E' H := by
 cases op
 case box x e => simp only [aop]; rw [allocA_congr h]
 case mkslice len size zero parts => simp only [aop]; rw [allocA_congr h]
 case mkrow l c sz zero => simp only [aop]; rw [allocA_congr h]
 case build zero parts => simp only [aop]; rw [parts_congr parts h]
 case sl x lo hi sz =>
  simp only [AOp.opds] at h
  simp only [aop,bound_congr (x := lo) (fun y hy => h y (by simp [hy])),bound_congr (x := hi) (fun y hy => h y (by simp [hy])),h x (by simp)]
 case slStr x lo hi =>
  simp only [AOp.opds] at h
  simp only [aop,bound_congr (x := lo) (fun y hy => h y (by simp [hy])),bound_congr (x := hi) (fun y hy => h y (by simp [hy])),h x (by simp)]
 case mkfn f caps =>
  simp only [aop]
  rw [List.map_congr_left (l := caps) h]
 all_goals (simp only [AOp.opds,List.mem_cons,List.not_mem_nil,or_false,forall_eq_or_imp,forall_eq] at h; simp only [aop])
 all_goals (first | rw [h] | rw [h.1,h.2] | rw [h.1,h.2.1,h.2.2] | rfl | skip)
def Heap.wf (H : Heap) : Prop := H.rev.length = H.next
theorem Heap.set_comm (H : Heap) {a b : Nat} (x y : Option AObj) (h : a ≠ b) : (H.set a x).set b y = (H.set b y).set a x := by
 unfold Heap.set
 by_cases ha : a < H.next <;> by_cases hb : b < H.next <;> simp only [ha,hb,if_true,if_false]
 rw [List.set_comm _ _ (by omega)]
theorem Heap.set_push (H : Heap) {a : Nat} (x : Option AObj) (o : AObj) (h : a < H.next) : (H.push o).set a x = (H.set a x).push o := by
 unfold Heap.set Heap.push
 simp only [h,show a < H.next + 1 from by omega,if_true]
 rw [show H.next + 1 - 1 - a = (H.next - 1 - a) + 1 from by omega]
 rfl
structure Free (H : Heap) (N : Nat) : Prop where
 lt : N < H.next
 none : H.get N = none
 wf : H.rev.length = H.next
theorem Free.ne {H : Heap} {N b : Nat} {o : AObj} (h : Free H N) (hb : H.get b = some o) : N ≠ b := fun e => by subst e; rw [h.none] at hb; cases hb
theorem Free.get {H : Heap} {N b : Nat} {o x : AObj} (h : Free H N) (hb : H.get b = some o) : (H.set N (some x)).get b = some o := by
 rw [Heap.get_set_ne _ _ (h.ne hb)]; exact hb
theorem Free.cells {H : Heap} {N b off n : Nat} {x : AObj} {l : List Value} (h : Free H N) (hb : cellsAt H b off n = some l) : cellsAt (H.set N (some x)) b off n = some l := by
 unfold cellsAt at *
 cases hg : H.get b with
 | none => rw [hg] at hb; cases hb
 | some o => rw [h.get hg]; rw [hg] at hb; exact hb
def outSet (N : Nat) (o : AObj) : Out (Value × Heap) → Out (Value × Heap)
 | .ok (v,H) => .ok (v,H.set N (some o))
 | .big => .big
 | .bad n => .bad n
theorem appendA_frame {e : TypeId} {H : Heap} {N : Nat} (h : Free H N) (o : AObj) (base : Option Addr) (n sz : Nat) (xs : List Value) (m : Nat) (hb : (∀ k,appendA e H base n sz xs m ≠ .bad k)) :
  appendA e (H.set N (some o)) base n sz xs m = outSet N o (appendA e H base n sz xs m) := by
 unfold appendA at *
 cases base with
 | none =>
  simp only at hb ⊢
  split
  ·split
   ·rfl
   ·simp only [outSet,Heap.next_set,Heap.set_push _ _ _ h.lt]
  ·rename_i hn; simp [hn] at hb
 | some a =>
  simp only at hb ⊢
  cases hg : H.get a.block with
  | none => rw [hg] at hb; exact absurd rfl (hb 33)
  | some ob =>
   rw [h.get hg]
   rw [hg] at hb
   cases ob with
   | row cs fz ty =>
    simp only at hb ⊢
    split
    ·split
     ·rfl
     ·simp only [outSet,Heap.next_set]
      rw [Heap.set_comm _ _ _ (h.ne hg),Heap.set_push _ _ _ (by simp; exact h.lt)]
    ·rename_i hc; rw [if_neg hc] at hb; exact absurd rfl (hb 32)
   | _ => exact absurd rfl (hb 33)
theorem ov_frame (n N : Nat) (o : AObj) (H : Heap) (x : Option Value) : ov n (H.set N (some o)) x = outSet N o (ov n H x) := by cases x <;> rfl
theorem cells_frame {H : Heap} {N : Nat} (h : Free H N) (o : AObj) (b off n : Nat) : cellsAt H b off n = none ∨ cellsAt (H.set N (some o)) b off n = cellsAt H b off n := by
 cases hc : cellsAt H b off n with
 | none => exact .inl rfl
 | some l => exact .inr (h.cells hc)
theorem get_frame {H : Heap} {N : Nat} (h : Free H N) (o : AObj) (b : Nat) : H.get b = none ∨ (H.set N (some o)).get b = H.get b ∧ N ≠ b := by
 cases hc : H.get b with
 | none => exact .inl rfl
 | some l => exact .inr ⟨h.get hc,h.ne hc⟩
theorem aop_frame {H : Heap} {N : Nat} (h : Free H N) (o : AObj) {op : AOp} (hna : isAlloc op = false) {E : List Value} (hb : ∀ k,aop op E H ≠ .bad k) : aop op E (H.set N (some o)) = outSet N o (aop op E H) := by
 cases op <;> simp only [isAlloc] at hna <;> first | cases hna; done | skip
 case load a sz =>
  simp only [aop] at hb ⊢
  split at hb
  ·rename_i p hp
   cases sz with
   | some n =>
    rcases cells_frame h o p.block p.off n with e | e
    ·simp [e] at hb
    ·simp only [e]; cases cellsAt H p.block p.off n <;> rfl
   | none =>
    rcases cells_frame h o p.block p.off 1 with e | e
    ·simp [e] at hb
    ·simp only [e]; cases cellsAt H p.block p.off 1 with
     | none => rfl
     | some l => cases l <;> rfl
  ·exact absurd rfl (hb 7)
 case store a x sz =>
  simp only [aop] at hb ⊢
  split at hb
  ·rename_i p hp
   rcases get_frame h o p.block with e | ⟨e,hne⟩
   ·simp [e] at hb
   ·simp only [e]
    cases hg : H.get p.block with
    | none => simp [hg] at hb
    | some ob =>
     cases ob with
     | row cs fz ty =>
      simp only
      split
      ·simp only [outSet]; rw [Heap.set_comm _ _ _ hne]
      ·rfl
     | _ => rfl
  ·exact absurd rfl (hb 10)
 case bin op x y => simp only [aop]; exact ov_frame ..
 case un op x => simp only [aop]; exact ov_frame ..
 case eqv neg k x y =>
  simp only [aop] at hb ⊢
  have key : ∀ b,aeqv H k (ev E x) (ev E y) = some b → aeqv (H.set N (some o)) k (ev E x) (ev E y) = some b := by
   intro b hk
   cases k with
   | ptr =>
    simp only [aeqv] at hk ⊢
    split at hk
    ·exact hk
    ·exact hk
    ·rename_i p q _ _
     split at hk
     ·rename_i hh
      rcases get_frame h o p.block with e | ⟨e,hne⟩
      ·simp [e] at hh
      ·rw [e,if_pos hh]; exact hk
     ·cases hk
    ·cases hk
   | _ => exact hk
  cases hk : aeqv H k (ev E x) (ev E y) with
  | none => rw [hk] at hb; exact absurd rfl (hb 13)
  | some b => rw [key b hk]; rfl
 case toStr x =>
  simp only [aop] at hb ⊢
  split at hb
  ·rfl
  ·rename_i a n _ _
   split
   ·rfl
   ·rename_i hn
    rcases cells_frame h o a.block a.off n with e | e
    ·simp [e,hn] at hb
    ·simp only [e]; cases (cellsAt H a.block a.off n).bind bytesOf? <;> rfl
  ·exact absurd rfl (hb 17)
 case fld x off sz =>
  simp only [aop] at hb ⊢
  split
  ·exact ov_frame ..
  ·rfl
 case aggAt x i len sz one =>
  simp only [aop] at hb ⊢
  split
  ·split
   ·exact ov_frame ..
   ·rfl
  ·rfl
 case ext x i =>
  simp only [aop] at hb ⊢
  split
  ·exact ov_frame ..
  ·rfl
 case lenM x =>
  simp only [aop] at hb ⊢
  split at hb
  ·rfl
  ·rename_i b hx
   rcases get_frame h o b with e | ⟨e,hne⟩
   ·simp [e] at hb
   ·simp only [e]
    cases hg : H.get b with
    | none => rfl
    | some ob => cases ob <;> rfl
  ·exact absurd rfl (hb 41)
 case app s x sz e =>
  simp only [aop] at hb ⊢
  split at hb
  ·rename_i base n cap xb m _ hs hx
   split
   ·rfl
   ·rename_i hm
    simp only [hm,if_false] at hb
    cases xb with
    | none => rfl
    | some xa =>
     simp only at hb ⊢
     rcases cells_frame h o xa.block xa.off (m * sz) with e | e
     ·simp [e] at hb
     ·simp only [e]
      cases hc : cellsAt H xa.block xa.off (m * sz) with
      | none => rfl
      | some xs =>
       simp only [hc] at hb
       simp only
       split
       ·rfl
       ·rename_i hcond
        rw [if_neg hcond] at hb
        exact appendA_frame h o _ _ _ _ _ hb
  ·exact absurd rfl (hb 45)
 case appStr s x e =>
  simp only [aop] at hb ⊢
  split at hb
  ·rename_i base n cap t hs hx
   split
   ·rfl
   ·rename_i hm
    simp only [hm,if_false] at hb
    exact appendA_frame h o _ _ _ _ _ hb
  ·exact absurd rfl (hb 46)
 case copyS x y sz =>
  simp only [aop] at hb ⊢
  split at hb
  ·rename_i da n cd sb m cs' hx hy
   split
   ·rfl
   ·rename_i hk
    rw [if_neg hk] at hb
    split at hb
    ·rename_i qa qb
     rcases cells_frame h o qb.block qb.off (min m n * sz) with e | e
     ·simp [e] at hb
     ·rcases get_frame h o qa.block with e2 | ⟨e2,hne⟩
      ·simp [e2] at hb
      ·simp only [e,e2]
       cases cellsAt H qb.block qb.off (min m n * sz) with
       | none => rfl
       | some xs =>
        cases hg : H.get qa.block with
        | none => rfl
        | some ob =>
         cases ob with
         | row cs fz ty =>
          simp only
          split
          ·simp only [outSet]; rw [Heap.set_comm _ _ _ hne]
          ·rfl
         | _ => rfl
    ·exact absurd rfl (hb 67)
  ·exact absurd rfl (hb 67)
 case toU x =>
  simp only [aop] at hb ⊢
  split at hb
  ·rfl
  ·rename_i p hx
   rcases get_frame h o p.block with e | ⟨e,hne⟩
   ·simp [e] at hb
   ·simp only [e]
    cases hg : H.get p.block with
    | none => rfl
    | some ob => cases ob <;> first | rfl | (simp only; split <;> rfl)
  ·exact absurd rfl (hb 62)
 case ofU x u s =>
  simp only [aop] at hb ⊢
  split at hb
  ·rfl
  ·rename_i p hx
   rcases get_frame h o p.block with e | ⟨e,hne⟩
   ·simp [e] at hb
   ·simp only [e]
    cases hg : H.get p.block with
    | none => rfl
    | some ob =>
     cases ob with
     | row cs fz ty => cases ty <;> first | rfl | (simp only; split <;> rfl)
     | _ => rfl
  ·exact absurd rfl (hb 63)
 case ustr x n u =>
  simp only [aop] at hb ⊢
  split at hb
  ·split <;> rfl
  ·rename_i p k hx hn
   rcases get_frame h o p.block with e | ⟨e,hne⟩
   ·by_cases hk : k = 0
    ·simp only [hk,if_true]; rfl
    ·simp [e,hk] at hb
   ·simp only [e]
    by_cases hk : k = 0
    ·simp only [hk,if_true]; rfl
    ·simp only [hk,if_false]
     by_cases hk2 : 0 < k
     ·simp only [hk2,if_true]
      cases hg : H.get p.block with
      | none => rfl
      | some ob =>
       cases ob with
       | row cs fz ty =>
        cases ty with
        | none => rfl
        | some e2 =>
         simp only
         split
         ·cases bytesOf? ((cs.drop p.off).take k.toNat) with
          | none => rfl
          | some l => simp only [outSet]; rw [Heap.set_comm _ _ _ hne]
         ·rfl
       | _ => rfl
     ·simp only [hk2,if_false]; rfl
  ·exact absurd rfl (hb 65)
 case look s m k zero ok =>
  simp only [aop] at hb ⊢
  cases hm : ev E m <;> simp only [hm] at hb ⊢
  case map b =>
   cases b with
   | none =>
    simp only at hb ⊢
    (repeat' split) <;> simp_all [outSet]
   | some b =>
    simp only at hb ⊢
    rcases get_frame h o b with e | ⟨e,hne⟩
    ·simp [e] at hb
    ·rw [e]
     cases hg : H.get b with
     | none => simp [hg] at hb
     | some ob =>
      cases ob with
      | map es => simp only [hg] at hb ⊢; (repeat' split) <;> simp_all [outSet]
      | _ => rfl
  all_goals rfl
 case mset s m k v =>
  simp only [aop] at hb ⊢
  cases hm : ev E m <;> simp only [hm] at hb ⊢
  case map b =>
   cases b with
   | none => rfl
   | some b =>
    simp only at hb ⊢
    rcases get_frame h o b with e | ⟨e,hne⟩
    ·simp [e] at hb
    ·rw [e]
     cases hg : H.get b with
     | none => simp [hg] at hb
     | some ob =>
      cases ob with
      | map es =>
       simp only
       split
       ·simp only [outSet]; rw [Heap.set_comm _ _ _ hne]
       ·simp only [outSet]; rw [Heap.set_comm _ _ _ hne]
       ·rfl
      | _ => rfl
  all_goals rfl
 case mdel s m k =>
  simp only [aop] at hb ⊢
  cases hm : ev E m <;> simp only [hm] at hb ⊢
  case map b =>
   cases b with
   | none => rfl
   | some b =>
    simp only at hb ⊢
    rcases get_frame h o b with e | ⟨e,hne⟩
    ·simp [e] at hb
    ·rw [e]
     cases hg : H.get b with
     | none => simp [hg] at hb
     | some ob =>
      cases ob with
      | map es =>
       simp only
       split
       ·simp only [outSet]; rw [Heap.set_comm _ _ _ hne]
       ·simp only [outSet]; rw [Heap.set_comm _ _ _ hne]
       ·rfl
      | _ => rfl
  all_goals rfl
 all_goals (try (simp only [aop,outSet]; done))
 all_goals (try (simp only [aop] at hb ⊢; (repeat' split) <;> first | rfl | simp_all [outSet,ov]; done))
end Go.Ae
namespace Go.Ae
open Go
theorem rel_less {K : Cx} {ρ : Nm} {H : Heap} {w : World} {N : Nat} {o : AObj} (h : Free H N) (hr : Rel K ρ (H.set N (some o)) w) : Rel K ρ H w := by
 have get : ∀ b x,H.get b = some x → (H.set N (some o)).get b = some x := fun b x hb => h.get hb
 refine ⟨fun b x hb => hr.objs b x (get b x hb),fun b hb => hr.fresh b (by simpa using hb),fun b b' x x' c base base' size size' h1 h2 => hr.inj b b' x x' c base base' size size' (get _ _ h1) (get _ _ h2),hr.base,h.wf,hr.glob⟩
theorem set_same {H : Heap} {N : Nat} {o : AObj} (h : Free H N) : (H.set N (some o)).get N = some o := Heap.get_set_none H _ h.wf h.lt
theorem get_set_inv {H : Heap} {N b : Nat} {o x : AObj} (h : Free H N) (hb : (H.set N (some o)).get b = some x) : (b = N ∧ x = o) ∨ (b ≠ N ∧ H.get b = some x) := by
 by_cases e : b = N
 ·subst e; rw [set_same h] at hb; cases hb; exact .inl ⟨rfl,rfl⟩
 ·rw [Heap.get_set_ne _ _ (Ne.symm e)] at hb; exact .inr ⟨e,hb⟩
theorem free_step {ρ ρ' : Nm} {H H' : Heap} {w w' : World} {K : Cx} {N : Nat} (h : Free H N) (s : Step ρ H w ρ' H' w') (hr : Rel K ρ' H' w') : Free H' N :=
 ⟨Nat.lt_of_lt_of_le h.lt s.next,(s.hid N h.lt h.none).2,hr.wf⟩
theorem rel_more {K : Cx} {ρ ρ' : Nm} {H H' : Heap} {w w' : World} {N : Nat} {o : AObj} (h : Free H N) (ho : o.rw = true) (hr : Rel K ρ (H.set N (some o)) w) (hr' : Rel K ρ' H' w') (s : Step ρ H w ρ' H' w') :
  Rel K ρ' (H'.set N (some o)) w' ∧ Step ρ (H.set N (some o)) w ρ' (H'.set N (some o)) w' := by
 have h' := free_step h s hr'
 obtain ⟨c,base,size,hl,hobj⟩ := hr.objs N o (set_same h)
 have hρ : ρ' N = ρ N := (s.hid N h.lt h.none).1
 have hni : ¬ Img ρ H c := by
  rintro ⟨b,x,base',size',g1,g2,g3⟩
  have := hr.inj b N x o c base' base size' size (h.get g1) (set_same h) g2 ho g3 hl
  subst this; rw [h.none] at g1; cases g1
 obtain ⟨k1,k2⟩ := s.keeps c hobj.lt hni
 refine ⟨⟨fun b x hb => ?_,fun b hb => hr'.fresh b (by simpa using hb),?_,hr'.base,Heap.wf_set _ _ h'.wf,hr'.glob⟩,⟨s.ext,by simpa using s.next,fun b hb hn => ?_,s.size,fun d hd hi => ?_,s.os,s.tape,s.output⟩⟩
 ·rcases get_set_inv h' hb with ⟨rfl,rfl⟩ | ⟨hne,hb⟩
  ·exact ⟨c,base,size,hρ.trans hl,by rw [k1]; exact hobj.mono s.ext⟩
  ·exact hr'.objs b x hb
 ·intro b b' x x' d base1 base2 size1 size2 g1 g2 r1 r2 l1 l2
  rcases get_set_inv h' g1 with ⟨e1,_⟩ | ⟨n1,p1⟩ <;> rcases get_set_inv h' g2 with ⟨e2,_⟩ | ⟨n2,p2⟩
  ·rw [e1,e2]
  ·rw [e1,hρ,hl] at l1; cases l1
   exact absurd ⟨b',x',base2,size2,p2,r2,l2⟩ k2
  ·rw [e2,hρ,hl] at l2; cases l2
   exact absurd ⟨b,x,base1,size1,p1,r1,l1⟩ k2
  ·exact hr'.inj b b' x x' d base1 base2 size1 size2 p1 p2 r1 r2 l1 l2
 ·have hne : b ≠ N := fun e => by subst e; rw [set_same h] at hn; cases hn
  rw [Heap.get_set_ne _ _ (Ne.symm hne)] at hn ⊢
  exact s.hid b (by simpa using hb) hn
 ·have hi' : ¬ Img ρ H d := fun ⟨b,x,base',size',g1,g2,g3⟩ => hi ⟨b,x,base',size',h.get g1,g2,g3⟩
  obtain ⟨q1,q2⟩ := s.keeps d hd hi'
  refine ⟨q1,?_⟩
  rintro ⟨b,x,base',size',g1,g2,g3⟩
  rcases get_set_inv h' g1 with ⟨rfl,rfl⟩ | ⟨hne,g1⟩
  ·rw [hρ] at g3; exact hi ⟨b,x,base',size',set_same h,ho,g3⟩
  ·exact q2 ⟨b,x,base',size',g1,g2,g3⟩
def More (N : Nat) (o : AObj) (Q : Value → Heap → Prop) (v : Value) (H2 : Heap) : Prop := ∃ H1,H2 = H1.set N (some o) ∧ Free H1 N ∧ Q v H1
theorem retPost_frame {K : Cx} {ρ : Nm} {H : Heap} {w : World} {N : Nat} {o : AObj} (h : Free H N) (ho : o.rw = true) (hr : Rel K ρ (H.set N (some o)) w) {Q : Value → Heap → Prop} {e : Ending} {w' : World}
  (hp : RetPost K ρ H w Q e w') : RetPost K ρ (H.set N (some o)) w (More N o Q) e w' := by
 cases e with
 | outgrown => exact hp
 | panicked ch => exact hp.elim
 | returned v' =>
  obtain ⟨v,ρ',H',q,hv,R,S⟩ := hp
  obtain ⟨R2,S2⟩ := rel_more h ho hr R S
  exact ⟨v,ρ',_,⟨H',rfl,free_step h S R,q⟩,hv,R2,S2⟩
theorem FC.frame {K : Cx} {f : FuncId} {args : List Value} {H : Heap} {Q : Value → Heap → Prop} (hf : FC K f args H Q) {N : Nat} {o : AObj} (h : Free H N) (ho : o.rw = true) : FC K f args (H.set N (some o)) (More N o Q) := by
 intro ρ w args' hr ha
 exact Upon.mono (fun e w' => retPost_frame h ho hr) (hf ρ w args' (rel_less h hr) ha)
theorem RC.frame {K : Cx} {l : Nat} {args : List Value} {H : Heap} {Q : Value → Heap → Prop} (hf : RC K l args H Q) {N : Nat} {o : AObj} (h : Free H N) (ho : o.rw = true) : RC K l args (H.set N (some o)) (More N o Q) := by
 intro ρ w l' args' hr hb ha
 obtain ⟨fn,tmps,asg,body,h1,h2⟩ := hf ρ w l' args' (rel_less h hr) hb ha
 exact ⟨fn,tmps,asg,body,h1,h2.mono fun e w' => retPost_frame h ho hr⟩
theorem callP_frame {K : Cx} {fv : Value} {args : List Value} {H : Heap} {Q : Value → Heap → Prop} (hf : callP K fv args H Q) {N : Nat} {o : AObj} (h : Free H N) (ho : o.rw = true) : callP K fv args (H.set N (some o)) (More N o Q) := by
 unfold callP at *
 split at hf
 ·exact hf.frame h ho
 ·exact hf.frame h ho
 ·exact hf.elim
def Keeps (H : Heap) (Q : Value → Heap → Prop) (v : Value) (H' : Heap) : Prop := Q v H' ∧ H'.wf ∧ ∀ N,Free H N → Free H' N
theorem retPost_keeps {K : Cx} {ρ : Nm} {H : Heap} {w : World} {Q : Value → Heap → Prop} {e : Ending} {w' : World} (hp : RetPost K ρ H w Q e w') : RetPost K ρ H w (Keeps H Q) e w' := by
 cases e with
 | outgrown => exact hp
 | panicked ch => exact hp.elim
 | returned v' =>
  obtain ⟨v,ρ',H',q,hv,R,S⟩ := hp
  exact ⟨v,ρ',_,⟨q,R.wf,fun N h => free_step h S R⟩,hv,R,S⟩
theorem FC.keeps {K : Cx} {f : FuncId} {args : List Value} {H : Heap} {Q : Value → Heap → Prop} (hf : FC K f args H Q) : FC K f args H (Keeps H Q) := fun ρ w args' hr ha =>
 Upon.mono (fun e w' => retPost_keeps) (hf ρ w args' hr ha)
theorem RC.keeps {K : Cx} {l : Nat} {args : List Value} {H : Heap} {Q : Value → Heap → Prop} (hf : RC K l args H Q) : RC K l args H (Keeps H Q) := fun ρ w l' args' hr hb ha =>
 let ⟨fn,tmps,asg,body,h1,h2⟩ := hf ρ w l' args' hr hb ha
 ⟨fn,tmps,asg,body,h1,h2.mono fun e w' => retPost_keeps⟩
theorem callP_keeps {K : Cx} {fv : Value} {args : List Value} {H : Heap} {Q : Value → Heap → Prop} (hf : callP K fv args H Q) : callP K fv args H (Keeps H Q) := by
 unfold callP at *
 split at hf
 ·exact hf.keeps
 ·exact hf.keeps
 ·exact hf.elim
theorem callR_mono {K : Cx} {fv : Value} {args : List Value} {H : Heap} {Q Q' : Value → Heap → Prop} (h : ∀ v H,Q v H → Q' v H) (hf : callR K fv args H Q) : callR K fv args H Q' := by
 unfold callR at *
 split at hf
 ·exact ⟨hf.1,hf.2.mono h⟩
 ·exact hf.elim
theorem wpItem_put {K : Cx} {it : AItem} {d : Option Tmp} {v : Value} {Q : List Value → Heap → Prop} {E : List Value} {H : Heap} (h1 : away d it.reads = true) (h2 : neD d it.dst = true)
  (hw : wpItem K it Q (put E d v) H) : wpItem K it (fun E' H' => Q (put E' d v) H') E H := by
 obtain ⟨g1,g2⟩ := away_append h1
 unfold wpItem at *
 rw [wanted_put g1] at hw
 have hput : ∀ u,put (put E d v) it.dst u = put (put E it.dst u) d v := fun u => put_comm h2
 have hev : ∀ x ∈ it.op.opds,ev (put E d v) x = ev E x := fun x hx => ev_put g2 hx
 split at hw
 ·rename_i hg
  rw [if_pos hg]
  cases ho : it.op
  case call f args =>
   rw [ho] at hw hev
   simp only at hw ⊢
   rw [hev f (by simp [AOp.opds]),List.map_congr_left (fun x hx => hev x (by simp [AOp.opds,hx]))] at hw
   exact callP_mono (fun u H' hq => by rw [hput] at hq; exact hq) hw
  case capq x =>
   rw [ho] at hw hev
   simp only at hw ⊢
   rw [hev x (by simp [AOp.opds])] at hw
   revert hw
   generalize ev E x = y
   intro hw
   split at hw
   ·exact fun c h1 h2 => by have := hw c h1 h2; rw [hput] at this; exact this
   ·exact hw.elim
  case appz s x sz zero =>
   rw [ho] at hw hev
   simp only at hw ⊢
   rw [hev s (by simp [AOp.opds]),hev x (by simp [AOp.opds])] at hw
   revert hw
   generalize appzO (ev E s) (ev E x) sz zero H = y
   intro hw
   split at hw
   ·rw [hput,hput] at hw; exact hw
   ·exact hw.elim
  all_goals
   rw [ho] at hw hev
   simp only at hw ⊢
   rw [aop_congr hev] at hw
   exact sat_mono (fun r hq => by rw [hput] at hq; exact hq) hw
 ·rename_i hg; rw [if_neg hg]; rw [hput] at hw; exact hw
def MoreE (N : Nat) (o : AObj) (Q : List Value → Heap → Prop) (E : List Value) (H2 : Heap) : Prop := ∃ H1,H2 = H1.set N (some o) ∧ Free H1 N ∧ Q E H1
theorem push_free {H : Heap} {N : Nat} (h : Free H N) (o : AObj) : Free (H.push o) N :=
 ⟨by simp; have := h.lt; omega,by rw [Heap.get_push_ne _ _ (by have := h.lt; omega)]; exact h.none,Heap.wf_push o h.wf⟩
theorem set_free {H : Heap} {N b : Nat} (h : Free H N) (x : Option AObj) (hne : b ≠ N) : Free (H.set b x) N :=
 ⟨by simp; exact h.lt,by rw [Heap.get_set_ne _ _ hne]; exact h.none,Heap.wf_set _ _ h.wf⟩
structure Grows (H H' : Heap) : Prop where
 wf : H.wf → H'.wf
 free : ∀ N,Free H N → Free H' N
theorem Grows.refl (H : Heap) : Grows H H := ⟨id,fun _ => id⟩
theorem Grows.trans {A B C : Heap} (h : Grows A B) (h' : Grows B C) : Grows A C := ⟨fun x => h'.wf (h.wf x),fun N x => h'.free N (h.free N x)⟩
theorem Grows.push (H : Heap) (o : AObj) : Grows H (H.push o) := ⟨Heap.wf_push o,fun _ h => push_free h o⟩
theorem Grows.set {H : Heap} {b : Nat} {x : AObj} (hg : H.get b = some x) (y : Option AObj) : Grows H (H.set b y) := ⟨Heap.wf_set b y,fun _ h => set_free h y (Ne.symm (h.ne hg))⟩
theorem appendA_grows {e : TypeId} {H : Heap} {base : Option Addr} {n sz : Nat} {xs : List Value} {m : Nat} {v : Value} {H' : Heap} (ha : appendA e H base n sz xs m = .ok (v,H')) : Grows H H' := by
 unfold appendA at ha
 split at ha
 ·split at ha
  ·split at ha
   ·cases ha
   ·cases ha; exact Grows.push _ _
  ·cases ha
 ·split at ha
  ·rename_i cs fz ty hg
   split at ha
   ·split at ha
    ·cases ha
    ·cases ha; exact (Grows.set hg _).trans (Grows.push _ _)
   ·cases ha
  ·cases ha
theorem aop_grows {H : Heap} {op : AOp} {E : List Value} {v : Value} {H' : Heap} (ha : aop op E H = .ok (v,H')) : Grows H H' := by
 have hall : ∀ n x,allocOut H n x = .ok (v,H') → Grows H H' := by
  intro n x hx
  cases x with
  | none => cases hx
  | some p => obtain ⟨o,f⟩ := p; simp only [allocOut] at hx; cases hx; exact Grows.push _ _
 have hov : ∀ n x,ov n H x = .ok (v,H') → Grows H H' := by
  intro n x hx
  cases x with
  | none => cases hx
  | some p => simp only [ov] at hx; cases hx; exact Grows.refl _
 cases op <;> simp only [aop] at ha
 case new cs e => exact hall _ _ ha
 case box x e => exact hall _ _ ha
 case mkslice a b c d => exact hall _ _ ha
 case mkmap => exact hall _ _ ha
 case mkrow a b c d => exact hall _ _ ha
 case bin => exact hov _ _ ha
 case un => exact hov _ _ ha
 case store a x sz =>
  split at ha
  ·split at ha
   ·rename_i cs fz ty hg
    split at ha
    ·cases ha; exact Grows.set hg _
    ·cases ha
   ·cases ha
  ·cases ha
 case app s x sz e =>
  split at ha
  ·split at ha
   ·cases ha; exact Grows.refl _
   ·split at ha
    ·cases ha
    ·split at ha
     ·split at ha
      ·cases ha
      ·exact appendA_grows ha
     ·cases ha
  ·cases ha
 case appStr s x e =>
  split at ha
  ·split at ha
   ·cases ha; exact Grows.refl _
   ·exact appendA_grows ha
  ·cases ha
 case copyS x y sz =>
  split at ha
  ·split at ha
   ·cases ha; exact Grows.refl _
   ·split at ha
    ·split at ha
     ·rename_i xs cs fz ty hxs hg
      split at ha
      ·cases ha; exact Grows.set hg _
      ·cases ha
     ·cases ha
    ·cases ha
  ·cases ha
 case ustr x n u =>
  split at ha
  ·split at ha
   ·cases ha; exact Grows.refl _
   ·cases ha
  ·split at ha
   ·cases ha; exact Grows.refl _
   ·split at ha
    ·split at ha
     ·rename_i cs fz e hg
      split at ha
      ·split at ha
       ·cases ha; exact Grows.set hg _
       ·cases ha
      ·cases ha
     ·cases ha
    ·cases ha
  ·cases ha
 case mset s m k x =>
  split at ha
  ·split at ha
   ·rename_i es hg
    split at ha
    ·cases ha; exact Grows.set hg _
    ·cases ha; exact Grows.set hg _
    ·cases ha
   ·cases ha
  ·cases ha
 case mdel s m k =>
  split at ha
  ·split at ha
   ·rename_i es hg
    split at ha
    ·cases ha; exact Grows.set hg _
    ·cases ha; exact Grows.set hg _
    ·cases ha
   ·cases ha
  ·cases ha
 all_goals (repeat' split at ha)
 all_goals first | (cases ha; done) | (cases ha; exact Grows.refl _) | exact hov _ _ ha
theorem appzO_grows {s x : Value} {sz : Nat} {zero : List Value} {H : Heap} {r : (Value × Heap) × (Value × Heap)} (h : appzO s x sz zero H = some r) : Grows H r.1.2 ∧ Grows H r.2.2 := by
 unfold appzO at h
 split at h
 ·split at h
  ·rename_i hg
   split at h
   ·cases h; exact ⟨Grows.push _ _,Grows.set hg _⟩
   ·cases h
  ·cases h
 ·cases h
theorem appzO_frame {s x : Value} {sz : Nat} {zero : List Value} {H : Heap} {N : Nat} (hf : Free H N) (o : AObj) {r : (Value × Heap) × (Value × Heap)} (h : appzO s x sz zero H = some r) :
  appzO s x sz zero (H.set N (some o)) = some ((r.1.1,r.1.2.set N (some o)),(r.2.1,r.2.2.set N (some o))) ∧ Grows H r.1.2 ∧ Grows H r.2.2 := by
 refine ⟨?_,appzO_grows h⟩
 unfold appzO at h
 split at h
 ·split at h
  ·rename_i q k cap m cs fz ty hg
   split at h
   ·rename_i hc
    cases h
    unfold appzO
    simp only
    rw [Heap.get_set_ne _ _ (hf.ne hg),hg]
    simp only
    rw [if_pos hc]
    simp only [Heap.next_set,Heap.set_push _ _ _ hf.lt,Heap.set_comm _ _ _ (hf.ne hg)]
   ·cases h
  ·cases h
 ·cases h
theorem wpItem_frame {K : Cx} {it : AItem} (hna : isAlloc it.op = false) {Q : List Value → Heap → Prop} {E : List Value} {H : Heap} {N : Nat} {o : AObj} (h : Free H N) (ho : o.rw = true) (hw : wpItem K it Q E H) :
  wpItem K it (MoreE N o Q) E (H.set N (some o)) := by
 unfold wpItem at *
 split at hw
 ·rename_i hg
  rw [if_pos hg]
  have key : (∀ f l,it.op ≠ .call f l) → (aop it.op E H).sat (fun r => Q (put E it.dst r.1) r.2) → (aop it.op E (H.set N (some o))).sat fun r => MoreE N o Q (put E it.dst r.1) r.2 := by
   intro _ hs
   have hb : ∀ k,aop it.op E H ≠ .bad k := fun k e => by rw [e] at hs; exact hs.elim
   rw [aop_frame h o hna hb]
   cases hr : aop it.op E H with
   | ok r => rw [hr] at hs; exact ⟨r.2,rfl,(aop_grows (v := r.1) (by rw [hr])).free N h,hs⟩
   | big => (rw [hr] at hs; exact hs)
   | bad k => exact (hb k hr).elim
  cases hop : it.op
  case call f args =>
   rw [hop] at hw
   exact callP_mono (fun v H2 hq => hq) (callP_frame hw h ho)
  case capq x =>
   rw [hop] at hw
   simp only at hw ⊢
   split at hw
   ·exact fun c h1 h2 => ⟨H,rfl,h,hw c h1 h2⟩
   ·exact hw.elim
  case appz s x sz zero =>
   rw [hop] at hw
   simp only at hw ⊢
   split at hw
   ·rename_i r hr
    obtain ⟨g1,g2,g3⟩ := appzO_frame h o hr
    rw [g1]
    exact ⟨⟨_,rfl,g2.free N h,hw.1⟩,⟨_,rfl,g3.free N h,hw.2⟩⟩
   ·exact hw.elim
  all_goals
   rw [hop] at hw key
   exact key (by simp) hw
 ·rename_i hg; rw [if_neg hg]; exact ⟨H,rfl,h,hw⟩
theorem wpItem_grows {K : Cx} {it : AItem} {Q : List Value → Heap → Prop} {E : List Value} {H : Heap} (hwf : H.wf) (hw : wpItem K it Q E H) :
  wpItem K it (fun E' H' => (∃ v,E' = put E it.dst v) ∧ Grows H H' ∧ H'.wf ∧ Q E' H') E H := by
 unfold wpItem at *
 split at hw
 ·rename_i hg
  rw [if_pos hg]
  have key : (aop it.op E H).sat (fun r => Q (put E it.dst r.1) r.2) → (aop it.op E H).sat fun r => (∃ v,put E it.dst r.1 = put E it.dst v) ∧ Grows H r.2 ∧ r.2.wf ∧ Q (put E it.dst r.1) r.2 := by
   intro hs
   cases hr : aop it.op E H with
   | ok r => rw [hr] at hs; have g := aop_grows (v := r.1) (H' := r.2) (by rw [hr]); exact ⟨⟨_,rfl⟩,g,g.wf hwf,hs⟩
   | big => (rw [hr] at hs; exact hs)
   | bad k => rw [hr] at hs; exact hs.elim
  cases hop : it.op
  case call f args =>
   rw [hop] at hw
   exact callP_mono (fun v H2 hq => ⟨⟨_,rfl⟩,⟨fun _ => hq.2.1,hq.2.2⟩,hq.2.1,hq.1⟩) (callP_keeps hw)
  case capq x =>
   rw [hop] at hw
   simp only at hw ⊢
   split at hw
   ·exact fun c h1 h2 => ⟨⟨_,rfl⟩,.refl _,hwf,hw c h1 h2⟩
   ·exact hw.elim
  case appz s x sz zero =>
   rw [hop] at hw
   simp only at hw ⊢
   split at hw
   ·rename_i r hr
    obtain ⟨g2,g3⟩ := appzO_grows hr
    exact ⟨⟨⟨_,rfl⟩,g2,g2.wf hwf,hw.1⟩,⟨⟨_,rfl⟩,g3,g3.wf hwf,hw.2⟩⟩
   ·exact hw.elim
  all_goals
   rw [hop] at hw key
   exact key hw
 ·rename_i hg; rw [if_neg hg]; exact ⟨⟨_,rfl⟩,.refl _,hwf,hw⟩
end Go.Ae
namespace Go.Ae
open Go
def outVal : Out (Value × Heap) → Option Value
 | .ok r => some r.1
 | _ => none
def valI (it : AItem) (E : List Value) (H : Heap) : Option Value :=
 if wantedA it.guard E then outVal (aop it.op E H) else some undef
def namV (it : AItem) (N : Nat) (E : List Value) : Option Value :=
 if wantedA it.guard E then (allocA it.op E).map (fun p => p.2 N) else some undef
def layH (it : AItem) (N : Nat) (E : List Value) (H : Heap) : Heap :=
 if wantedA it.guard E then (match allocA it.op E with
  | some p => H.set N (some p.1)
  | none => H) else H
def valN (base : Nat) (n : Node) (E : List Value) (H : Heap) : Option Value := match n.kind with
 | .nam => namV n.it (base + n.off) E
 | _ => valI n.it E H
def runN (K : Cx) (base : Nat) (n : Node) (R : List Value → Heap → Prop) (E : List Value) (H : Heap) : Prop := match n.kind with
 | .lay => R E (layH n.it (base + n.off) E H)
 | .effect => wpItem K n.it R E H
 | _ => ∃ v,valN base n E H = some v ∧ R (put E n.it.dst v) H
def NodeOk (n : Node) : Prop := (n.kind = .lay ∧ isAlloc n.it.op = true) ∨ n.kind = kindA n.it.op
theorem alloc_rw {op : AOp} {E : List Value} {p : AObj × (Nat → Value)} (h : allocA op E = some p) : p.1.rw = true := by
 cases op <;> simp only [allocA] at h
 case new => cases h; rfl
 case box => split at h <;> cases h; rfl
 case mkslice => split at h <;> cases h; rfl
 case mkmap => cases h; rfl
 case mkrow =>
  split at h
  ·split at h <;> cases h; rfl
  ·cases h
 all_goals cases h
theorem not_alloc {op : AOp} (h : kindA op ≠ .nam) : isAlloc op = false := by
 cases op <;> first | rfl | exact absurd rfl h
def outHeap (H : Heap) : Out (Value × Heap) → Out (Value × Heap)
 | .ok r => .ok (r.1,H)
 | .big => .big
 | .bad n => .bad n
theorem aop_pure {op : AOp} (h : kindA op = .pure) (E : List Value) (H H' : Heap) : aop op E H' = outHeap H' (aop op E H) := by
 have hov : ∀ n x,ov n H' x = outHeap H' (ov n H x) := by intro n x; cases x <;> rfl
 cases op <;> simp [kindA] at h <;> simp only [aop]
 case eqv neg k x y =>
  have : aeqv H k (ev E x) (ev E y) = aeqv H' k (ev E x) (ev E y) := by
   cases k <;> first | rfl | simp [kindA] at h
  rw [this]
  cases aeqv H' k (ev E x) (ev E y) <;> rfl
 all_goals (repeat' split)
 all_goals first | rfl | exact hov _ _
def Looks (H : Heap) (r : Out (Value × Heap)) : Prop := (∀ v H',r = .ok (v,H') → H' = H) ∧ r ≠ .big
theorem Looks.ok (v : Value) (H : Heap) : Looks H (.ok (v,H)) := ⟨fun _ _ e => (by cases e; rfl),by simp⟩
theorem Looks.bad (n : Nat) (H : Heap) : Looks H (.bad n) := ⟨fun _ _ e => (by cases e),by simp⟩
theorem aop_load {op : AOp} (h : kindA op = .load) (E : List Value) (H : Heap) : Looks H (aop op E H) := by
 cases op <;> simp [kindA] at h <;> simp only [aop]
 all_goals (repeat' split)
 all_goals first | exact Looks.ok _ _ | exact Looks.bad _ _
theorem aop_looks {op : AOp} (h : kindA op = .pure ∨ kindA op = .load) (E : List Value) (H : Heap) : Looks H (aop op E H) := by
 rcases h with h | h
 ·have hov : ∀ n x,Looks H (ov n H x) := by intro n x; cases x <;> first | exact Looks.ok _ _ | exact Looks.bad _ _
  cases op <;> simp [kindA] at h <;> simp only [aop]
  all_goals (repeat' split)
  all_goals first | exact Looks.ok _ _ | exact Looks.bad _ _ | exact hov _ _
 ·exact aop_load h E H
theorem valI_put {it : AItem} {E : List Value} {d : Option Tmp} {v : Value} (h : away d it.reads = true) (H : Heap) : valI it (put E d v) H = valI it E H := by
 obtain ⟨g1,g2⟩ := away_append h
 unfold valI
 rw [wanted_put g1,aop_congr (fun x hx => ev_put g2 hx)]
theorem namV_put {it : AItem} {E : List Value} {d : Option Tmp} {v : Value} (h : away d it.reads = true) (N : Nat) : namV it N (put E d v) = namV it N E := by
 obtain ⟨g1,g2⟩ := away_append h
 unfold namV
 rw [wanted_put g1,allocA_congr (fun x hx => ev_put g2 hx)]
theorem layH_put {it : AItem} {E : List Value} {d : Option Tmp} {v : Value} (h : away d it.reads = true) (N : Nat) (H : Heap) : layH it N (put E d v) H = layH it N E H := by
 obtain ⟨g1,g2⟩ := away_append h
 unfold layH
 rw [wanted_put g1,allocA_congr (fun x hx => ev_put g2 hx)]
theorem valN_put {base : Nat} {n : Node} {E : List Value} {d : Option Tmp} {v : Value} (h : away d n.reads = true) (H : Heap) : valN base n (put E d v) H = valN base n E H := by
 unfold valN
 cases n.kind <;> first | exact valI_put h H | exact namV_put h _
theorem layH_cases (it : AItem) (N : Nat) (E : List Value) (H : Heap) : (∀ E',wantedA it.guard E' = wantedA it.guard E → allocA it.op E' = allocA it.op E → ∀ H',layH it N E' H' = H') ∨
  ∃ o,o.rw = true ∧ ∀ E',wantedA it.guard E' = wantedA it.guard E → allocA it.op E' = allocA it.op E → ∀ H',layH it N E' H' = H'.set N (some o) := by
 cases hw : wantedA it.guard E with
 | false => exact .inl fun E' h1 _ H' => by unfold layH; rw [h1]; rfl
 | true =>
  cases ha : allocA it.op E with
  | none => exact .inl fun E' h1 h2 H' => by unfold layH; rw [h1,h2]; rfl
  | some p => exact .inr ⟨p.1,alloc_rw ha,fun E' h1 h2 H' => by unfold layH; rw [h1,h2]; rfl⟩
theorem valN_frame {base : Nat} {n : Node} (hn : NodeOk n) (hk : n.kind.val = true) {E : List Value} {H : Heap} {N : Nat} {o : AObj} (h : Free H N) {v : Value} (hv : valN base n E H = some v) : valN base n E (H.set N (some o)) = some v := by
 unfold valN at *
 have key : isAlloc n.it.op = false → valI n.it E H = some v → valI n.it E (H.set N (some o)) = some v := by
  intro hna hv
  unfold valI at *
  split at hv
  ·rename_i hw
   rw [if_pos hw]
   cases hr : aop n.it.op E H with
   | ok r => rw [hr] at hv; rw [aop_frame h o hna (by rw [hr]; simp),hr]; exact hv
   | big => rw [hr] at hv; cases hv
   | bad k => rw [hr] at hv; cases hv
  ·rename_i hw; rw [if_neg hw]; exact hv
 rcases hn with ⟨h1,h2⟩ | h1
 ·rw [h1] at hk; cases hk
 ·cases hkind : n.kind with
  | nam => rw [hkind] at hv; exact hv
  | _ => rw [hkind] at hv h1; exact key (not_alloc (by rw [← h1]; simp)) hv
theorem valN_pure {base : Nat} {n : Node} (hn : NodeOk n) (hk : n.kind = .pure ∨ n.kind = .nam) (E : List Value) (H H' : Heap) : valN base n E H = valN base n E H' := by
 unfold valN
 rcases hk with hk | hk
 ·rw [hk]
  have : kindA n.it.op = .pure := by
   rcases hn with ⟨h1,_⟩ | h1
   ·rw [hk] at h1; cases h1
   ·rw [← h1]; exact hk
  show valI n.it E H = valI n.it E H'
  unfold valI
  split
  ·rw [aop_pure this E H H']
   cases aop n.it.op E H <;> rfl
  ·rfl
 ·rw [hk]
def upd (X : Nat → Bool) (i : Nat) : Nat → Bool := fun j => j == i || X j
theorem upd_comm (X : Nat → Bool) (i a : Nat) : upd (upd X i) a = upd (upd X a) i := by
 funext j; simp only [upd]; cases j == i <;> cases j == a <;> rfl
def dstV (d : Option Tmp) (E : List Value) : Value := match d with
 | some d => E.getD d undef
 | none => undef
def chks (g : Graph) (base : Nat) (X : Nat → Bool) (i : Nat) (E : List Value) (H : Heap) : Prop :=
 ∀ l n,X l = true → g.chkAt l i = true → nodeOf g.its l = some n → valN base n E H = some (dstV n.it.dst E)
def wpO (K : Cx) (g : Graph) (base : Nat) (Q : List Value → Heap → Prop) : (Nat → Bool) → List Nat → List Value → Heap → Prop
 | _,[] => Q
 | X,i :: r => match nodeOf g.its i with
  | some n => runN K base n fun E H => chks g base X i E H ∧ wpO K g base Q (upd X i) r E H
  | none => fun _ _ => False
theorem runN_mono {K : Cx} {base : Nat} {n : Node} {R R' : List Value → Heap → Prop} (h : ∀ E H,R E H → R' E H) {E : List Value} {H : Heap} (hr : runN K base n R E H) : runN K base n R' E H := by
 unfold runN at *
 cases hk : n.kind <;> rw [hk] at hr <;> first
  | exact h _ _ hr
  | exact wpItem_mono h hr
  |(obtain ⟨v,h1,h2⟩ := hr; exact ⟨v,h1,h _ _ h2⟩)
theorem dstV_put_ne {d e : Option Tmp} (h : neD d e = true) (E : List Value) (v : Value) : dstV e (put E d v) = dstV e E := by
 cases e with
 | none => rfl
 | some y =>
  cases d with
  | none => rfl
  | some x =>
   simp [neD] at h
   simp only [dstV,put]
   rw [List.getD_eq_getElem?_getD,List.getD_eq_getElem?_getD,List.getElem?_set_ne h]
theorem put_dstV (d : Tmp) (E : List Value) (v : Value) : put E (some d) (dstV (some d) (put E (some d) v)) = put E (some d) v := by
 simp only [put,dstV]
 rw [List.getD_eq_getElem?_getD]
 rcases Nat.lt_or_ge d E.length with h | h
 ·rw [List.getElem?_set_self h]; rfl
 ·rw [List.set_eq_of_length_le h,List.set_eq_of_length_le h]
theorem wpItem_form {K : Cx} {it : AItem} {Q : List Value → Heap → Prop} {E : List Value} {H : Heap} (hw : wpItem K it Q E H) :
  wpItem K it (fun E' H' => (∃ v,E' = put E it.dst v) ∧ Q E' H') E H := by
 unfold wpItem at *
 split at hw
 ·rename_i hg
  rw [if_pos hg]
  cases hop : it.op <;> rw [hop] at hw <;> first
   | exact callP_mono (fun v H2 hq => ⟨⟨_,rfl⟩,hq⟩) hw
   | exact sat_mono (fun r hq => ⟨⟨_,rfl⟩,hq⟩) hw
   |(simp only at hw ⊢; split at hw <;> first | exact hw.elim | exact ⟨⟨⟨_,rfl⟩,hw.1⟩,⟨⟨_,rfl⟩,hw.2⟩⟩ | exact fun c h1 h2 => ⟨⟨_,rfl⟩,hw c h1 h2⟩)
 ·rename_i hg; rw [if_neg hg]; exact ⟨⟨_,rfl⟩,hw⟩
theorem swap {K : Cx} {g : Graph} {base : Nat} {i a : Nat} {n m : Node} (hi : nodeOf g.its i = some n) (ha : nodeOf g.its a = some m) (hne : i ≠ a) (hnok : NodeOk n) (hmok : NodeOk m) (hok : swapOk n m = true) {X : Nat → Bool} (hXi : X i = false)
  (hchk : n.kind = .load → m.kind = .effect → g.chkAt i a = true) (hl : ∀ l n',X l = true → g.chkAt l a = true → nodeOf g.its l = some n' → away n.dst n'.reads = true ∧ neD n.dst n'.it.dst = true)
  (hca : ∀ l,g.chkAt a l = true → m.kind = .load) (hci : ∀ l,g.chkAt l i = true → n.kind = .effect) (hcl : ∀ l,g.chkAt l a = true → m.kind = .effect) (hil : ∀ l,g.chkAt i l = true → n.kind = .load)
  (hlv : ∀ l j n',g.chkAt l j = true → nodeOf g.its l = some n' → NodeOk n' ∧ n'.kind.val = true)
  {R : List Value → Heap → Prop} {E : List Value} {H : Heap} (hfree : m.kind = .lay → Free H (base + m.off)) (hoff : n.kind = .lay → m.kind = .lay → n.off ≠ m.off)
  (h : runN K base n (fun E H => chks g base X i E H ∧ runN K base m (fun E H => chks g base (upd X i) a E H ∧ R E H) E H) E H) :
  runN K base m (fun E H => chks g base X a E H ∧ runN K base n (fun E H => chks g base (upd X a) i E H ∧ R E H) E H) E H := by
 simp only [swapOk,apartN,Bool.and_eq_true] at hok
 obtain ⟨⟨hkind,⟨hd1,hd2⟩,hd3⟩,hld⟩ := hok
 have nochk : ∀ (Y : Nat → Bool) (j : Nat) (k : NK),(∀ l,g.chkAt l j = true → k = .effect) → k ≠ .effect → ∀ E H,chks g base Y j E H := fun Y j k hc hk E H l n' _ h2 _ => absurd (hc l h2) hk
 cases hnk : n.kind with
 | effect =>
  cases hmk : m.kind with
  | lay =>
   have hf := hfree hmk
   simp only [runN,hnk,hmk] at h ⊢
   have hdm : m.dst = none := by simp [Node.dst,hmk]
   have hdn : n.dst = n.it.dst := by simp [Node.dst,hnk]
   refine ⟨fun l n' _ h2 _ => (by have := hcl l h2; rw [hmk] at this; cases this),?_⟩
   have hna : isAlloc n.it.op = false := not_alloc (by
    rcases hnok with ⟨h1,_⟩ | h1
    ·rw [hnk] at h1; cases h1
    ·rw [← h1,hnk]; simp)
   have hg := wpItem_grows hf.wf h
   have hloc : ∀ v,layH m.it (base + m.off) (put E n.it.dst v) = layH m.it (base + m.off) E := fun v => by
    funext H'; exact layH_put (by rw [← hdn]; exact hd1) _ _
   rcases layH_cases m.it (base + m.off) E H with hc | ⟨o,ho,hc⟩
   ·have hcE := hc E rfl rfl
    rw [hcE]
    refine wpItem_mono (fun E' H' hq => ?_) hg
    obtain ⟨⟨v,rfl⟩,_,_,q1,q2⟩ := hq
    rw [hloc,hcE] at q2
    refine ⟨fun l n' h1 h2 h3 => ?_,q2.2⟩
    simp only [upd,Bool.or_eq_true] at h1
    rcases h1 with h1 | h1
    ·simp at h1; subst h1; have := hca i h2; rw [hmk] at this; cases this
    ·exact q1 l n' h1 h2 h3
   ·have hcE := hc E rfl rfl
    rw [hcE]
    refine wpItem_mono (fun E' H' hq => ?_) (wpItem_frame hna hf ho hg)
    obtain ⟨H1,rfl,hf1,⟨v,rfl⟩,_,_,q1,q2⟩ := hq
    rw [hloc,hcE] at q2
    refine ⟨fun l n' h1 h2 h3 => ?_,q2.2⟩
    simp only [upd,Bool.or_eq_true] at h1
    rcases h1 with h1 | h1
    ·simp at h1; subst h1; have := hca i h2; rw [hmk] at this; cases this
    ·obtain ⟨g1,g2⟩ := hlv l i n' h2 h3
     exact valN_frame g1 g2 hf1 (q1 l n' h1 h2 h3)
  | _ => rw [hnk,hmk] at hkind; cases hkind
 | lay =>
  have hdn : n.dst = none := by simp [Node.dst,hnk]
  cases hmk : m.kind with
  | lay =>
   have hof := hoff hnk hmk
   simp only [runN,hnk,hmk] at h ⊢
   refine ⟨nochk _ a .lay (fun l hl => by rw [← hmk]; exact hcl l hl) (by simp) _ _,nochk _ i .lay (fun l hl => by rw [← hnk]; exact hci l hl) (by simp) _ _,?_⟩
   have h2 := h.2.2
   have : layH n.it (base + n.off) E (layH m.it (base + m.off) E H) = layH m.it (base + m.off) E (layH n.it (base + n.off) E H) := by
    rcases layH_cases m.it (base + m.off) E H with hc | ⟨o,ho,hc⟩ <;> rcases layH_cases n.it (base + n.off) E H with hc' | ⟨o',ho',hc'⟩ <;> simp only [hc E rfl rfl,hc' E rfl rfl]
    exact Heap.set_comm _ _ _ (by omega)
   rw [this]; exact h2
  | load => rw [hnk,hmk] at hkind; cases hkind
  | effect => rw [hnk,hmk] at hkind; cases hkind
  | _ =>
   simp only [runN,hnk,hmk] at h ⊢
   obtain ⟨_,v,q1,_,q2⟩ := h
   have hdm : m.dst = m.it.dst := by simp [Node.dst,hmk]
   refine ⟨v,by rw [← q1]; exact valN_pure hmok (by simp [hmk]) _ _ _,nochk _ a _ hcl (by simp [hmk]) _ _,nochk _ i _ hci (by simp [hnk]) _ _,?_⟩
   rw [layH_put (by rw [← hdm]; exact hd2)]; exact q2
 | _ =>
  have hdn : n.dst = n.it.dst := by simp [Node.dst,hnk]
  have hval : n.kind.val = true := by rw [hnk]; rfl
  have nci : ∀ Y E H,chks g base Y i E H := fun Y E H => nochk Y i _ hci (by simp [hnk]) E H
  have hrun : ∀ R E H,runN K base n R E H ↔ ∃ v,valN base n E H = some v ∧ R (put E n.it.dst v) H := fun R E H => by simp only [runN,hnk]
  rw [hrun] at h
  simp only [hrun]
  obtain ⟨v,hv,_,h⟩ := h
  rw [hdn] at hd1 hd3
  cases hmk : m.kind with
  | lay =>
   have hf := hfree hmk
   simp only [runN,hmk] at h ⊢
   rw [layH_put hd1] at h
   refine ⟨nochk _ a _ hcl (by simp [hmk]) _ _,v,?_,nci _ _ _,h.2⟩
   rcases layH_cases m.it (base + m.off) E H with hc | ⟨o,ho,hc⟩
   ·rw [hc E rfl rfl]; exact hv
   ·rw [hc E rfl rfl]; exact valN_frame hnok hval hf hv
  | effect =>
   simp only [runN,hmk] at h ⊢
   have hdm : m.dst = m.it.dst := by simp [Node.dst,hmk]
   rw [hdm] at hd2 hd3
   refine wpItem_mono (fun E' H' hq => ?_) (wpItem_form (wpItem_put hd1 hd3 h))
   obtain ⟨⟨u,hE⟩,q1,q2⟩ := hq
   have hloads : chks g base X a E' H' := by
    intro l n' h1 h2 h3
    obtain ⟨g1,g2⟩ := hl l n' h1 h2 h3
    rw [hdn] at g1 g2
    have := q1 l n' (by simp [upd,h1]) h2 h3
    rw [valN_put g1,dstV_put_ne g2] at this
    exact this
   refine ⟨hloads,?_⟩
   by_cases hload : n.kind = .load
   ·have hcia := hchk hload hmk
    have q := q1 i n (by simp [upd]) hcia hi
    simp only [hload,hmk,bne_self_eq_false,Bool.false_or,Bool.and_eq_true,Bool.or_false] at hld
    rw [hdn] at hld
    obtain ⟨hsome,haway⟩ := hld
    obtain ⟨d,hd⟩ := Option.isSome_iff_exists.1 hsome
    rw [valN_put haway] at q
    refine ⟨_,q,nci _ _ _,?_⟩
    rw [hd,put_dstV,← hd]
    exact q2
   ·refine ⟨v,?_,nci _ _ _,q2⟩
    rw [hE,valN_put hd2,← hv]
    refine valN_pure hnok ?_ _ _ _
    rw [hnk] at hload ⊢
    first | exact .inl rfl | exact .inr rfl | exact absurd rfl hload
  | _ =>
   have hdm : m.dst = m.it.dst := by simp [Node.dst,hmk]
   rw [hdm] at hd2 hd3
   simp only [runN,hmk] at h ⊢
   obtain ⟨u,hu,_,q⟩ := h
   rw [valN_put hd1] at hu
   refine ⟨u,hu,nochk _ a _ hcl (by simp [hmk]) _ _,v,?_,nci _ _ _,?_⟩
   ·rw [valN_put hd2]; exact hv
   ·rw [put_comm (d := n.it.dst) hd3] at q; exact q
end Go.Ae
