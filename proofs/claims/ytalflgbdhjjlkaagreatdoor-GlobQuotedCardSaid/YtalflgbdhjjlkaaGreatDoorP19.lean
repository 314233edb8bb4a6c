/- Part 19 of the proof of the law: Ce17, Ce18, Ce19, Ce20. No condition. -/
import Derived.Test.YtalflgbdhjjlkaaGreatDoorP18
set_option linter.all false
namespace Go.Ae
open Nat (reduceLT reduceEqDiff reduceSub reduceAdd reduceMul reduceLeDiff)
open Int (reduceToNat)
open Go
set_option maxRecDepth 100000
def OwN (H : Heap) (b : Nat) (v : Value) (sz n : Nat) (cs : List Value) : Prop :=
 cs.length = n * sz ∧ ((v = .slice none 0 0 ∧ n = 0) ∨ ∃ c rest ty,v = .slice (some ⟨b,0,some sz⟩) n c ∧ n ≤ c ∧ H.get b = some (.row (cs ++ rest) 0 ty))
theorem OwN.nil {H : Heap} {b sz : Nat} : OwN H b (.slice none 0 0) sz 0 [] := ⟨by simp,.inl ⟨rfl,rfl⟩⟩
theorem OwN.frame {H H' : Heap} {b : Nat} {v : Value} {sz n : Nat} {cs : List Value} (h : OwN H b v sz n cs) (hf : H'.get b = H.get b) : OwN H' b v sz n cs := by
 obtain ⟨h0,h⟩ := h
 refine ⟨h0,?_⟩
 rcases h with h | ⟨c,rest,ty,h1,h2,h3⟩
 ·exact .inl h
 ·exact .inr ⟨c,rest,ty,h1,h2,by rw [hf]; exact h3⟩
theorem OwN.val {H : Heap} {b : Nat} {v : Value} {sz n : Nat} {cs : List Value} (h : OwN H b v sz n cs) : ∃ a c,v = .slice a n c ∧ n ≤ c := by
 obtain ⟨h0,h⟩ := h
 rcases h with ⟨rfl,rfl⟩ | ⟨c,rest,ty,h1,h2,h3⟩
 ·exact ⟨none,0,rfl,Nat.le_refl _⟩
 ·exact ⟨_,c,h1,h2⟩
theorem OwN.some {H : Heap} {b : Nat} {v : Value} {sz n : Nat} {cs : List Value} (h : OwN H b v sz n cs) (hn : n ≠ 0) : ∃ c rest ty,v = .slice (some ⟨b,0,some sz⟩) n c ∧ n ≤ c ∧ H.get b = some (.row (cs ++ rest) 0 ty) ∧ b < H.next ∧ cs.length = n * sz := by
 obtain ⟨h0,h⟩ := h
 rcases h with ⟨rfl,rfl⟩ | ⟨c,rest,ty,h1,h2,h3⟩
 ·exact absurd rfl hn
 ·exact ⟨c,rest,ty,h1,h2,h3,Heap.lt_of_get h3,h0⟩
theorem set_reserve1 {H : Heap} {o : AObj} : (H.reserve 1).set H.next (some o) = H.push o := by
 unfold Heap.reserve Heap.set Heap.push
 simp only [Nat.lt_add_one,if_true]
 congr 1
 have : H.next + 1 - 1 - H.next = 0 := by omega
 rw [this]
 rfl
section
variable {K : Cx} {Q : List Value → Heap → Prop} {E : List Value} {H : Heap} {d : Option Tmp} {r : List AItem}
theorem wpItems_appN {s x : Operand} {sz : Nat} {e : TypeId} (v : Value) {b n : Nat} {cs xs : List Value} {m : Nat} (ho : OwN H b v sz n cs) (hv : ev E s = v) (hx : ev E x = sliceOf H.next 0 sz m m) (hlen : xs.length = m * sz) (hm : 0 < m)
  (hB : n + m ≤ appMax)
  (h : ∀ v' H',OwN H' (H.next + 1) v' sz (n + m) (cs ++ xs) → (∀ y,y < H.next → y ≠ b → H'.get y = H.get y) → H'.next = H.next + 2 → (H.wf → H'.wf) → wpItems K r Q (put E d v') H') :
  wpItems K (⟨d,.app s x sz e,none⟩ :: r) Q E (H.push (.row xs 0 none)) := by
 rw [wpItems_app]
 have hxs : cellsAt (H.push (.row xs 0 none)) H.next 0 (m * sz) = some xs := cellsAt_push_self hlen
 simp only [aop,hv,hx]
 obtain ⟨h0,ho⟩ := ho
 rcases ho with ⟨rfl,rfl⟩ | ⟨c,rest,ty,rfl,h2,h3⟩
 ·simp only [sliceOf,show ¬ m = 0 from by omega,if_false,hxs,Option.map_none,ne_eq,not_true_eq_false,or_false,reduceCtorEq,appendA,if_true]
  split
  ·omega
  ·have hcs : cs = [] := List.eq_nil_of_length_eq_zero (by simpa using h0)
   subst hcs
   refine h _ _ ⟨by simp [hlen],.inr ⟨m,[],some e,by simp,by omega,?_⟩⟩ (fun y hy _ => ?_) (by simp) (fun hw => Heap.wf_push _ (Heap.wf_push _ hw))
   ·have := Heap.get_push_same (H.push (.row xs 0 none)) (.row xs 0 (some e))
    simp only [Heap.next_push] at this
    rw [this]; simp
   ·rw [Heap.get_push_ne _ _ (by simp; omega),Heap.get_push_ne _ _ (by omega)]
 ·have hlt := Heap.lt_of_get h3
  have hbn : b ≠ H.next := by omega
  simp only [sliceOf,show ¬ m = 0 from by omega,if_false,hxs,Option.map_some,Option.some.injEq,hbn,ne_eq,not_true_eq_false,or_false,appendA,Heap.get_push_old h3]
  rw [if_pos ⟨by simp [h0],trivial,by omega,.inl trivial⟩]
  split
  ·omega
  ·have e1 : (List.drop 0 (cs ++ rest)).take (n * sz) = cs := by rw [List.drop_zero,← h0,List.take_left]
   refine h _ _ ⟨by simp [h0,hlen,Nat.add_mul],.inr ⟨n + m,[],if ty = some e ∧ True then ty else none,by simp,by omega,?_⟩⟩ (fun y hy hyb => ?_) (by simp) (fun hw => Heap.wf_push _ (Heap.wf_set _ _ (Heap.wf_push _ hw)))
   ·have := Heap.get_push_same ((H.push (.row xs 0 none)).set b none) (.row (cs ++ xs) 0 (if ty = some e ∧ True then ty else none))
    simp only [Heap.next_set,Heap.next_push] at this
    rw [e1,this]; simp
   ·rw [Heap.get_push_ne _ _ (by simp only [Heap.next_set,Heap.next_push]; omega),Heap.get_set_ne _ _ (Ne.symm hyb),Heap.get_push_ne _ _ (by omega)]
end
def frV : List (Nat × Nat) → List Value
 | [] => []
 | p :: r => .int .i64 (p.1 : Nat) :: .int .i64 (p.2 : Nat) :: frV r
theorem frV_len (fs : List (Nat × Nat)) : (frV fs).length = fs.length * 2 := by
 induction fs with
 | nil => rfl
 | cons p r ih => simp [frV,ih]; omega
theorem frV_append (a b : List (Nat × Nat)) : frV (a ++ b) = frV a ++ frV b := by
 induction a with
 | nil => rfl
 | cons p r ih => simp [frV,ih]
structure Mc (H : Heap) (tm b : Nat) (fs : List (Nat × Nat)) (at_ : Nat) : Prop where
 row : ∃ v fr,H.get tm = some (.row [v,.bool fr,.int .i64 (at_ : Nat)] 0 (some 319)) ∧ OwN H b v 2 fs.length (frV fs)
 ne : b ≠ tm
 wf : H.wf
structure Mv (H H' : Heap) (tm b b' : Nat) : Prop where
 get : ∀ x,x < H.next → x ≠ tm → x ≠ b → H'.get x = H.get x
 next : H.next ≤ H'.next
 new : b' = b ∨ H.next ≤ b'
theorem Mv.refl {H : Heap} {tm b : Nat} : Mv H H tm b b := ⟨fun _ _ _ _ => rfl,Nat.le_refl _,.inl rfl⟩
theorem Mv.trans {H H1 H2 : Heap} {tm b b1 b2 : Nat} (h : Mv H H1 tm b b1) (h' : Mv H1 H2 tm b1 b2) : Mv H H2 tm b b2 := by
 refine ⟨fun x h1 h2 h3 => ?_,Nat.le_trans h.next h'.next,?_⟩
 ·have hb : x ≠ b1 := by
   rcases h.new with e | e
   ·rw [e]; exact h3
   ·omega
  rw [h'.get x (Nat.lt_of_lt_of_le h1 h.next) h2 hb,h.get x h1 h2 h3]
 ·rcases h'.new with e | e
  ·rw [e]; exact h.new
  ·exact .inr (Nat.le_trans h.next e)
structure ModeIs (K : Cx) : Prop extends ClassIs K where
 i243 : Is K.P K.G0 243 F243
 i244 : Is K.P K.G0 244 F244
 i246 : Is K.P K.G0 246 F246
 i261 : Is K.P K.G0 261 F261
 i262 : Is K.P K.G0 262 F262
 i264 : Is K.P K.G0 264 F264
 i273 : Is K.P K.G0 273 F273
 i274 : Is K.P K.G0 274 F274
 i276 : Is K.P K.G0 276 F276
 i281 : Is K.P K.G0 281 F281
 i282 : Is K.P K.G0 282 F282
theorem c274 {K : Cx} (hK : Cfg K) (hS : ModeIs K) {tm b at_ mode : Nat} {fs : List (Nat × Nat)} {H : Heap} {Q : Value → Heap → Prop} (hM : Mc H tm b fs at_) (hl : fs.length ≤ 1000)
  (hQ : ∀ v H' b',Mc H' tm b' (fs ++ [(mode,at_)]) at_ → Mv H H' tm b b' → Q v H') : FC K 274 [.pointer (some ⟨tm,0,none⟩),.int .i64 (mode : Nat)] H Q := by
 obtain ⟨⟨v,fr,hg,ho⟩,hne,hw⟩ := hM
 have hlt := Heap.lt_of_get hg
 refine FC.of hK hS.i274 (by simp [F274]) ?_
 unfold F274
 have c0 : cellAt H tm 0 = some v := by rw [cellAt_of hg]; rfl
 have c2 : cellAt H tm 2 = some (.int .i64 (at_ : Nat)) := by rw [cellAt_of hg]; rfl
 simp (disch := omega) only [↓wD,wU,↓reduceIte,reduceLT,reduceEqDiff,reduceSub,reduceAdd,reduceLeDiff,c0,c2,set_reserve1]
 refine wpItems_appN v ho (by simp (disch := omega) only [↓wD,wU,↓reduceIte,reduceLT,reduceEqDiff,reduceSub,reduceAdd,reduceLeDiff]) (by simp (disch := omega) only [↓wD,wU,↓reduceIte,reduceLT,reduceEqDiff,reduceSub,reduceAdd,reduceLeDiff]; rfl) (xs := [.int .i64 (mode : Nat),.int .i64 (at_ : Nat)]) (by simp) (by decide) (by unfold appMax; omega) fun v' H' h1 h2 h3 h4 => ?_
 have hg' : H'.get tm = some (.row [v,.bool fr,.int .i64 (at_ : Nat)] 0 (some 319)) := by rw [h2 tm hlt (Ne.symm hne)]; exact hg
 obtain ⟨a',c',rfl,_⟩ := h1.val
 simp (disch := omega) only [↓wD,wU,↓reduceIte,reduceLT,reduceEqDiff,reduceSub,reduceAdd,reduceLeDiff,hg']
 refine hQ _ _ (H.next + 1) ⟨⟨_,fr,Heap.get_set_same _ _ hg',?_⟩,by omega,Heap.wf_set _ _ (h4 hw)⟩ ⟨fun x hx h5 h6 => ?_,by simp; omega,.inr (by omega)⟩
 ·rw [frV_append,List.length_append]
  exact h1.frame (Heap.get_set_ne _ _ (by omega))
 ·rw [Heap.get_set_ne _ _ (Ne.symm h5),h2 x hx h6]
theorem c261 {K : Cx} (hK : Cfg K) (hS : ModeIs K) {tm b at_ : Nat} {fs : List (Nat × Nat)} {p : Nat × Nat} {H : Heap} {Q : Value → Heap → Prop} (hM : Mc H tm b (fs ++ [p]) at_) (hl : fs ≠ []) (hl2 : fs.length ≤ 1000)
  (hQ : ∀ v H',Mc H' tm b fs at_ → Mv H H' tm b b → Q v H') : FC K 261 [.pointer (some ⟨tm,0,none⟩)] H Q := by
 obtain ⟨⟨v,fr,hg,ho⟩,hne,hw⟩ := hM
 have hlt := Heap.lt_of_get hg
 have hpos : 0 < fs.length := List.length_pos_iff.2 hl
 obtain ⟨c,rest,ty,rfl,h2,h3,h4,h5⟩ := ho.some (by simp)
 refine FC.of hK hS.i261 (by simp [F261]) ?_
 unfold F261
 simp only [List.length_append,List.length_cons,List.length_nil] at hg h2
 have c0 : cellAt H tm 0 = some (.slice (some ⟨b,0,some 2⟩) (fs.length + 1) c) := by rw [cellAt_of hg]; rfl
 simp (disch := omega) only [↓wD,wU,↓reduceIte,reduceLT,reduceEqDiff,reduceSub,reduceAdd,reduceLeDiff,c0,hg,sliceOf]
 split
 ·refine hQ _ _ ⟨⟨_,fr,Heap.get_set_same _ _ hg,?_⟩,hne,Heap.wf_set _ _ hw⟩ ⟨fun x hx h5 h6 => ?_,by simp,.inl rfl⟩
  ·refine ⟨frV_len _,.inr ⟨c,frV [p] ++ rest,ty,?_,by omega,?_⟩⟩
   ·congr 1
   ·rw [Heap.get_set_ne _ _ (Ne.symm hne),h3,frV_append,List.append_assoc]
  ·rw [Heap.get_set_ne _ _ (Ne.symm h5)]
 ·omega
inductive QS where
 | top | esc (a : Nat) | sgl (a : Nat) | dbl (a : Nat) | desc (a c : Nat)
deriving DecidableEq
def safeB (b : Int) : Bool := (b == 37 || b == 43 || b == 44 || b == 45 || b == 46 || b == 47 || b == 58 || b == 64) || (classV b == 5 || classV b == 6 || decide (128 ≤ b))
def qstep (q : QS) (at_ : Nat) (b : Int) : Option QS :=
 match q with
 | .top => if b = 92 then some (.esc at_) else if b = 39 then some (.sgl at_) else if b = 34 then some (.dbl at_) else if safeB b then some .top else none
 | .esc _ => if b = 10 then none else some .top
 | .sgl a => if b = 39 then some .top else some (.sgl a)
 | .dbl a => if b = 34 then some .top else if b = 92 then some (.desc a at_) else if b = 36 ∨ b = 96 then none else some (.dbl a)
 | .desc a _ => if b = 36 ∨ b = 96 ∨ b = 34 ∨ b = 92 then some (.dbl a) else none
def frs : QS → List (Nat × Nat)
 | .top => [(0,0)]
 | .esc a => [(0,0),(13,a)]
 | .sgl a => [(0,0),(4,a)]
 | .dbl a => [(0,0),(5,a)]
 | .desc a c => [(0,0),(5,a),(13,c)]
theorem safeB_ne {b : Int} (h : safeB b = true) : b ≠ 92 ∧ b ≠ 35 ∧ b ≠ 40 ∧ b ≠ 41 ∧ b ≠ 39 ∧ b ≠ 34 ∧ b ≠ 36 ∧ b ≠ 96 ∧ b ≠ 42 ∧ b ≠ 63 ∧ b ≠ 91 := by
 refine ⟨?_,?_,?_,?_,?_,?_,?_,?_,?_,?_,?_⟩ <;> (rintro rfl; revert h; decide)
theorem c282 {K : Cx} (hK : Cfg K) (hS : ModeIs K) {b : Int} {H : Heap} {Q : Value → Heap → Prop} (hQ : ∀ t,Q (.bool t) H) : FC K 282 [.int .u8 b] H Q := by
 refine FC.of hK hS.i282 (by simp [F282]) ?_
 unfold F282
 simp (disch := omega) only [↓wD,wU,↓reduceIte,reduceLT,reduceEqDiff,reduceSub,reduceAdd,reduceLeDiff]
 refine c137 hK hS.toClassIs ?_
 unfold Later
 simp (disch := omega) only [↓wD,wU,↓reduceIte,reduceLT,reduceEqDiff,reduceSub,reduceAdd,reduceLeDiff]
 (repeat' split) <;> exact hQ _
theorem c273 {K : Cx} (hK : Cfg K) (hS : ModeIs K) {tm b at_ : Nat} {x : Int} {q : QS} {H : Heap} {Q : Value → Heap → Prop} (hM : Mc H tm b (frs .top) at_) (hq : qstep .top at_ x = some q)
  (hQ : ∀ v H' b',Mc H' tm b' (frs q) at_ → Mv H H' tm b b' → Q v H') : FC K 273 [.pointer (some ⟨tm,0,none⟩),.int .i64 0,.int .u8 x] H Q := by
 refine FC.of hK hS.i273 (by simp [F273]) ?_
 unfold F273
 unfold qstep at hq
 have fin : ∀ (H1 : Heap) (b1 : Nat) (t : Bool),Mc H1 tm b1 (frs q) at_ → Mv H H1 tm b b1 → ∀ v fr,H1.get tm = some (.row [v,.bool fr,.int .i64 (at_ : Nat)] 0 (some 319)) → OwN H1 b1 v 2 (frs q).length (frV (frs q)) → ∀ u,
   Q u (H1.set tm (some (.row [v,.bool t,.int .i64 (at_ : Nat)] 0 (some 319)))) := by
  intro H1 b1 t hM1 hV1 v fr hg ho u
  refine hQ _ _ b1 ⟨⟨v,t,Heap.get_set_same _ _ hg,ho.frame (Heap.get_set_ne _ _ (Ne.symm hM1.ne))⟩,hM1.ne,Heap.wf_set _ _ hM1.wf⟩ ⟨fun y h1 h2 h3 => ?_,by simp; exact hV1.next,hV1.new⟩
  rw [Heap.get_set_ne _ _ (Ne.symm h2)]; exact hV1.get y h1 h2 h3
 by_cases n92 : x = 92
 ·rw [if_pos n92] at hq
  cases hq
  subst n92
  simp (disch := omega) only [↓wD,wU,↓reduceIte,reduceLT,reduceEqDiff,reduceSub,reduceAdd,reduceLeDiff,decide_true]
  refine c274 hK hS (mode := 13) hM (by decide) fun v H' b' h1 h2 => ?_
  unfold Later
  simp (disch := omega) only [↓wD,wU,↓reduceIte,reduceLT,reduceEqDiff,reduceSub,reduceAdd,reduceLeDiff]
  exact hQ _ _ b' h1 h2
 rw [if_neg n92] at hq
 by_cases n39 : x = 39
 ·rw [if_pos n39] at hq
  cases hq
  subst n39
  simp (disch := omega) only [↓wD,wU,↓reduceIte,reduceLT,reduceEqDiff,reduceSub,reduceAdd,reduceLeDiff,Int.reduceEq,decide_true,decide_false]
  refine c274 hK hS (mode := 4) hM (by decide) fun v H' b' h1 h2 => ?_
  unfold Later
  simp (disch := omega) only [↓wD,wU,↓reduceIte,reduceLT,reduceEqDiff,reduceSub,reduceAdd,reduceLeDiff]
  refine c282 hK hS fun t => ?_
  unfold Later
  obtain ⟨⟨v,fr,hg,ho⟩,hne,hw⟩ := id h1
  simp (disch := omega) only [↓wD,wU,↓reduceIte,reduceLT,reduceEqDiff,reduceSub,reduceAdd,reduceLeDiff,hg]
  exact fin H' b' t h1 h2 v fr hg ho _
 rw [if_neg n39] at hq
 by_cases n34 : x = 34
 ·rw [if_pos n34] at hq
  cases hq
  subst n34
  simp (disch := omega) only [↓wD,wU,↓reduceIte,reduceLT,reduceEqDiff,reduceSub,reduceAdd,reduceLeDiff,Int.reduceEq,decide_true,decide_false]
  refine c274 hK hS (mode := 5) hM (by decide) fun v H' b' h1 h2 => ?_
  unfold Later
  simp (disch := omega) only [↓wD,wU,↓reduceIte,reduceLT,reduceEqDiff,reduceSub,reduceAdd,reduceLeDiff]
  refine c282 hK hS fun t => ?_
  unfold Later
  obtain ⟨⟨v,fr,hg,ho⟩,hne,hw⟩ := id h1
  simp (disch := omega) only [↓wD,wU,↓reduceIte,reduceLT,reduceEqDiff,reduceSub,reduceAdd,reduceLeDiff,hg]
  exact fin H' b' t h1 h2 v fr hg ho _
 rw [if_neg n34] at hq
 by_cases hs : safeB x = true
 ·rw [if_pos hs] at hq
  cases hq
  obtain ⟨_,m35,m40,m41,_,_,m36,m96,_⟩ := safeB_ne hs
  simp (disch := omega) only [↓wD,wU,↓reduceIte,reduceLT,reduceEqDiff,reduceSub,reduceAdd,reduceLeDiff,n92,n39,n34,m35,m40,m41,m36,m96,decide_false]
  refine c282 hK hS fun t => ?_
  unfold Later
  obtain ⟨⟨v,fr,hg,ho⟩,hne,hw⟩ := id hM
  simp (disch := omega) only [↓wD,wU,↓reduceIte,reduceLT,reduceEqDiff,reduceSub,reduceAdd,reduceLeDiff,hg]
  exact fin H b t hM .refl v fr hg ho _
 ·rw [if_neg hs] at hq
  cases hq
theorem c276 {K : Cx} (hK : Cfg K) (hS : ModeIs K) {tm b at_ a : Nat} {x : Int} {q : QS} {H : Heap} {Q : Value → Heap → Prop} (hM : Mc H tm b (frs (.dbl a)) at_) (hq : qstep (.dbl a) at_ x = some q)
  (hQ : ∀ v H' b',Mc H' tm b' (frs q) at_ → Mv H H' tm b b' → Q v H') : FC K 276 [.pointer (some ⟨tm,0,none⟩),.int .i64 5,.int .u8 x] H Q := by
 refine FC.of hK hS.i276 (by simp [F276]) ?_
 unfold F276
 change (if x = 34 then some QS.top else if x = 92 then some (QS.desc a at_) else if x = 36 ∨ x = 96 then none else some (QS.dbl a)) = some q at hq
 simp (disch := omega) only [↓wD,wU,↓reduceIte,reduceLT,reduceEqDiff,reduceSub,reduceAdd,reduceLeDiff]
 refine FC.of hK hS.i281 (by simp [F281]) ?_
 unfold F281
 by_cases n92 : x = 92
 ·subst n92
  simp at hq
  subst hq
  simp (disch := omega) only [↓wD,wU,↓reduceIte,reduceLT,reduceEqDiff,reduceSub,reduceAdd,reduceLeDiff,decide_true]
  refine c274 hK hS (mode := 13) hM (by simp [frs]) fun v H' b' h1 h2 => ?_
  unfold Later
  simp (disch := omega) only [↓wD,wU,↓reduceIte,reduceLT,reduceEqDiff,reduceSub,reduceAdd,reduceLeDiff]
  exact hQ _ _ b' h1 h2
 by_cases n34 : x = 34
 ·subst n34
  simp at hq
  subst hq
  simp (disch := omega) only [↓wD,wU,↓reduceIte,reduceLT,reduceEqDiff,reduceSub,reduceAdd,reduceLeDiff,Int.reduceEq,decide_true,decide_false]
  unfold Later
  simp (disch := omega) only [↓wD,wU,↓reduceIte,reduceLT,reduceEqDiff,reduceSub,reduceAdd,reduceLeDiff,Int.reduceEq,decide_true,decide_false]
  refine c261 hK hS (fs := frs .top) (p := (5,a)) hM (by decide) (by decide) fun v H' h1 h2 => ?_
  unfold Later
  simp (disch := omega) only [↓wD,wU,↓reduceIte,reduceLT,reduceEqDiff,reduceSub,reduceAdd,reduceLeDiff]
  exact hQ _ _ b h1 h2
 rw [if_neg n34,if_neg n92] at hq
 by_cases n : x = 36 ∨ x = 96
 ·rw [if_pos n] at hq; cases hq
 rw [if_neg n] at hq
 cases hq
 have m36 : x ≠ 36 := fun e => n (.inl e)
 have m96 : x ≠ 96 := fun e => n (.inr e)
 simp (disch := omega) only [↓wD,wU,↓reduceIte,reduceLT,reduceEqDiff,reduceSub,reduceAdd,reduceLeDiff,n92,m36,m96,decide_false]
 unfold Later
 by_cases n125 : x = 125
 ·subst n125
  simp (disch := omega) only [↓wD,wU,↓reduceIte,reduceLT,reduceEqDiff,reduceSub,reduceAdd,reduceLeDiff,Int.reduceEq,decide_true,decide_false]
  exact hQ _ _ b hM .refl
 by_cases n39 : x = 39
 ·subst n39
  simp (disch := omega) only [↓wD,wU,↓reduceIte,reduceLT,reduceEqDiff,reduceSub,reduceAdd,reduceLeDiff,Int.reduceEq,decide_true,decide_false]
  exact hQ _ _ b hM .refl
 simp (disch := omega) only [↓wD,wU,↓reduceIte,reduceLT,reduceEqDiff,reduceSub,reduceAdd,reduceLeDiff,n34,n125,n39,decide_false]
 exact hQ _ _ b hM .refl
end Go.Ae
namespace Go.Ae
open Nat (reduceLT reduceEqDiff reduceSub reduceAdd reduceMul reduceLeDiff)
open Int (reduceToNat)
open Go
set_option maxRecDepth 100000
def modeOf : QS → Nat
 | .top => 0
 | .esc _ => 13
 | .sgl _ => 4
 | .dbl _ => 5
 | .desc _ _ => 13
theorem c262e {K : Cx} (hK : Cfg K) (hS : ModeIs K) {tm b at_ : Nat} {x : Int} {fs : List (Nat × Nat)} {p : Nat × Nat} {H : Heap} {Q : Value → Heap → Prop} (hM : Mc H tm b (fs ++ [p]) at_) (hl : fs ≠ []) (hl2 : fs.length ≤ 1000)
  (hQ : ∀ v H' b',Mc H' tm b' fs at_ → Mv H H' tm b b' → Q v H') : FC K 262 [.pointer (some ⟨tm,0,none⟩),.int .i64 13,.int .u8 x] H Q := by
 refine FC.of hK hS.i262 (by simp [F262]) ?_
 unfold F262
 simp (disch := omega) only [↓wD,wU,↓reduceIte,reduceLT,reduceEqDiff,reduceSub,reduceAdd,reduceLeDiff,Int.reduceEq,decide_true,decide_false]
 refine c261 hK hS hM hl hl2 fun v H' h1 h2 => ?_
 unfold Later
 obtain ⟨⟨v,fr,hg,ho⟩,hne,hw⟩ := id h1
 have c1 : cellAt H' tm 1 = some (.bool fr) := by rw [cellAt_of hg]; rfl
 have fin : ∀ t u,Q u (H'.set tm (some (.row [v,.bool t,.int .i64 (at_ : Nat)] 0 (some 319)))) := fun t u => by
  refine hQ _ _ b ⟨⟨v,t,Heap.get_set_same _ _ hg,ho.frame (Heap.get_set_ne _ _ (Ne.symm hne))⟩,hne,Heap.wf_set _ _ hw⟩ ⟨fun y g1 g2 g3 => ?_,by simp; exact h2.next,h2.new⟩
  rw [Heap.get_set_ne _ _ (Ne.symm g2)]; exact h2.get y g1 g2 g3
 cases fr
 ·simp (disch := omega) only [↓wD,wU,↓reduceIte,reduceLT,reduceEqDiff,reduceSub,reduceAdd,reduceLeDiff,c1,hg]
  exact fin _ _
 ·simp (disch := omega) only [↓wD,wU,↓reduceIte,reduceLT,reduceEqDiff,reduceSub,reduceAdd,reduceLeDiff,c1,hg]
  exact fin _ _
set_option maxHeartbeats 2000000 in
theorem c262 {K : Cx} (hK : Cfg K) (hS : ModeIs K) {tm b at_ : Nat} {x : Int} {q q' : QS} {H : Heap} {Q : Value → Heap → Prop} (hM : Mc H tm b (frs q) at_) (hq : qstep q at_ x = some q')
  (hQ : ∀ v H' b',Mc H' tm b' (frs q') at_ → Mv H H' tm b b' → Q v H') : FC K 262 [.pointer (some ⟨tm,0,none⟩),.int .i64 (modeOf q : Nat),.int .u8 x] H Q := by
 cases q with
 | top =>
  change FC K 262 [.pointer (some ⟨tm,0,none⟩),.int .i64 0,.int .u8 x] H Q
  refine FC.of hK hS.i262 (by simp [F262]) ?_
  unfold F262
  simp (disch := omega) only [↓wD,wU,↓reduceIte,reduceLT,reduceEqDiff,reduceSub,reduceAdd,reduceLeDiff,Int.reduceEq,decide_true,decide_false]
  refine c273 hK hS hM hq fun v H' b' h1 h2 => ?_
  unfold Later
  simp (disch := omega) only [↓wD,wU,↓reduceIte,reduceLT,reduceEqDiff,reduceSub,reduceAdd,reduceLeDiff]
  exact hQ _ _ b' h1 h2
 | esc a =>
  change (if x = 10 then none else some QS.top) = some q' at hq
  split at hq
  ·cases hq
  cases hq
  exact c262e hK hS (fs := frs .top) (p := (13,a)) hM (by simp [frs]) (by simp [frs]) hQ
 | sgl a =>
  change (if x = 39 then some QS.top else some (.sgl a)) = some q' at hq
  change FC K 262 [.pointer (some ⟨tm,0,none⟩),.int .i64 4,.int .u8 x] H Q
  by_cases h : x = 39
  ·rw [if_pos h] at hq
   subst h
   cases hq
   refine FC.of hK hS.i262 (by simp [F262]) ?_
   unfold F262
   simp (disch := omega) only [↓wD,wU,↓reduceIte,reduceLT,reduceEqDiff,reduceSub,reduceAdd,reduceLeDiff,Int.reduceEq,decide_true,decide_false]
   refine c261 hK hS (fs := frs .top) (p := (4,a)) hM (by simp [frs]) (by simp [frs]) fun v H' h1 h2 => ?_
   unfold Later
   simp (disch := omega) only [↓wD,wU,↓reduceIte,reduceLT,reduceEqDiff,reduceSub,reduceAdd,reduceLeDiff]
   exact hQ _ _ b h1 h2
  ·rw [if_neg h] at hq
   cases hq
   refine FC.of hK hS.i262 (by simp [F262]) ?_
   unfold F262
   simp (disch := omega) only [↓wD,wU,↓reduceIte,reduceLT,reduceEqDiff,reduceSub,reduceAdd,reduceLeDiff,Int.reduceEq,h,decide_true,decide_false]
   exact hQ _ _ b hM .refl
 | dbl a =>
  change FC K 262 [.pointer (some ⟨tm,0,none⟩),.int .i64 5,.int .u8 x] H Q
  refine FC.of hK hS.i262 (by simp [F262]) ?_
  unfold F262
  simp (disch := omega) only [↓wD,wU,↓reduceIte,reduceLT,reduceEqDiff,reduceSub,reduceAdd,reduceLeDiff,Int.reduceEq,decide_true,decide_false]
  refine c276 hK hS hM hq fun v H' b' h1 h2 => ?_
  unfold Later
  simp (disch := omega) only [↓wD,wU,↓reduceIte,reduceLT,reduceEqDiff,reduceSub,reduceAdd,reduceLeDiff]
  exact hQ _ _ b' h1 h2
 | desc a c =>
  change (if x = 36 ∨ x = 96 ∨ x = 34 ∨ x = 92 then some (QS.dbl a) else none) = some q' at hq
  split at hq
  ·cases hq
   exact c262e hK hS (fs := frs (.dbl a)) (p := (13,c)) hM (by simp [frs]) (by simp [frs]) hQ
  ·cases hq
theorem frs_last (q : QS) : ∃ n,(frs q).length = n + 1 ∧ n ≤ 2 ∧ (frV (frs q))[n * 2]? = some (.int .i64 (modeOf q : Nat)) := by
 cases q with
 | top => exact ⟨0,rfl,by omega,rfl⟩
 | esc a => exact ⟨1,rfl,by omega,rfl⟩
 | sgl a => exact ⟨1,rfl,by omega,rfl⟩
 | dbl a => exact ⟨1,rfl,by omega,rfl⟩
 | desc a c => exact ⟨2,rfl,by omega,rfl⟩
theorem modeOf_ne (q : QS) : ((modeOf q : Nat) : Int) ≠ 12 ∧ ((modeOf q : Nat) : Int) ≠ 3 ∧ ((modeOf q : Nat) : Int) ≠ 11 := by
 cases q <;> simp [modeOf]
theorem c244 {K : Cx} (hK : Cfg K) (hS : ModeIs K) {tm b at_ : Nat} {x : Int} {q q' : QS} {H : Heap} {Q : Value → Heap → Prop} (hM : Mc H tm b (frs q) at_) (hq : qstep q at_ x = some q') (ha : at_ ≤ 1000000)
  (hQ : ∀ v H' b',Mc H' tm b' (frs q') (at_ + 1) → Mv H H' tm b b' → Q v H') : FC K 244 [.pointer (some ⟨tm,0,none⟩),.int .u8 x] H Q := by
 obtain ⟨⟨v,fr,hg,ho⟩,hne,hw⟩ := id hM
 obtain ⟨n,hn,hn2,hmode⟩ := frs_last q
 rw [hn] at ho
 obtain ⟨c,rest,ty,rfl,h2,h3,h4,h5⟩ := ho.some (by omega)
 obtain ⟨m12,m3,m11⟩ := modeOf_ne q
 refine FC.of hK hS.i244 (by simp [F244]) ?_
 unfold F244
 have c0 : cellAt H tm 0 = some (.slice (some ⟨b,0,some 2⟩) (n + 1) c) := by rw [cellAt_of hg]; rfl
 have cm : cellAt H b (n * 2) = some (.int .i64 (modeOf q : Nat)) := by
  rw [cellAt_of h3,List.getElem?_append_left (by omega)]; exact hmode
 have n0 : ¬ (((n + 1 : Nat) : Int) = 0) := by omega
 simp (disch := omega) only [↓wD,wU,↓reduceIte,reduceLT,reduceEqDiff,reduceSub,reduceAdd,reduceLeDiff,c0,n0,decide_false]
 intro I hI
 refine hI _ _ ?_
 have e1 : (((n + 1 : Nat) : Int) - 1).toNat = n := by omega
 simp (disch := omega) only [↓wD,wU,↓reduceIte,reduceLT,reduceEqDiff,reduceSub,reduceAdd,reduceLeDiff,c0,e1,cm,m12,m3,m11,decide_false]
 refine ⟨by omega,?_⟩
 refine c262 hK hS hM hq fun v H' b' h1 h2 => ?_
 unfold Later
 obtain ⟨⟨v',fr',hg',ho'⟩,hne',hw'⟩ := id h1
 have d2 : cellAt H' tm 2 = some (.int .i64 (at_ : Nat)) := by rw [cellAt_of hg']; rfl
 simp (disch := omega) only [↓wD,wU,↓reduceIte,reduceLT,reduceEqDiff,reduceSub,reduceAdd,reduceLeDiff,hg',d2]
 refine hQ _ _ b' ⟨⟨v',fr',Heap.get_set_same _ _ hg',ho'.frame (Heap.get_set_ne _ _ (Ne.symm hne'))⟩,hne',Heap.wf_set _ _ hw'⟩ ⟨fun y g1 g2 g3 => ?_,by simp; exact h2.next,h2.new⟩
 rw [Heap.get_set_ne _ _ (Ne.symm g2)]; exact h2.get y g1 g2 g3
theorem c243 {K : Cx} (hK : Cfg K) (hS : ModeIs K) {H : Heap} {Q : Value → Heap → Prop}
  (hQ : ∀ tm H' b,H.next ≤ tm → H.next ≤ b → tm < H'.next → b < H'.next → Mc H' tm b (frs .top) 0 → Agree H.next H H' → H.next ≤ H'.next → Q (.pointer (some ⟨tm,0,none⟩)) H') : FC K 243 [] H Q := by
 refine FC.wf0 fun hw => ?_
 refine FC.of hK hS.i243 (by simp [F243]) ?_
 unfold F243
 simp (disch := omega) only [↓wD,wU,↓reduceIte,reduceLT,reduceEqDiff,reduceSub,reduceAdd,reduceLeDiff,sliceOf]
 refine hQ _ _ H.next (by omega) (by omega) (by simp) (by simp; omega) ⟨⟨_,true,?_,rfl,.inr ⟨1,[],none,rfl,by decide,?_⟩⟩,by omega,Heap.wf_push _ (Heap.wf_push _ hw)⟩ ((Agree.push _ (by omega)).trans (Agree.push _ (by simp))) (by simp; omega)
 ·have := Heap.get_push_same (H.push (.row [.int .i64 0,.int .i64 0] 0 none)) (.row [.slice (some ⟨H.next,0,some 2⟩) 1 1,.bool true,.int .i64 0] 0 (some 319))
  simp only [Heap.next_push] at this
  exact this
 ·exact Heap.get_push_old (Heap.get_push_same _ _)
theorem c246 {K : Cx} (hK : Cfg K) (hS : ModeIs K) {tm b at_ : Nat} {q : QS} {H : Heap} {Q : Value → Heap → Prop} (hM : Mc H tm b (frs q) at_)
  (hQ : ∀ v H' b',OwN H' b' v 2 (frs q).length (frV (frs q)) → H.next ≤ b' → (∀ x,x < H.next → H'.get x = H.get x) → H.next ≤ H'.next → H'.wf → Q v H') : FC K 246 [.pointer (some ⟨tm,0,none⟩)] H Q := by
 obtain ⟨⟨v,fr,hg,ho⟩,hne,hw⟩ := id hM
 obtain ⟨n,hn,hn2,hmode⟩ := frs_last q
 have hcl := frV_len (frs q)
 rw [hn] at ho hQ hcl
 obtain ⟨c,rest,ty,rfl,h2,h3,h4,h5⟩ := ho.some (by omega)
 refine FC.of hK hS.i246 (by simp [F246]) ?_
 unfold F246
 have c0 : cellAt H tm 0 = some (.slice (some ⟨b,0,some 2⟩) (n + 1) c) := by rw [cellAt_of hg]; rfl
 have n0 : ¬ (((n + 1 : Nat) : Int) = 0) := by omega
 simp (disch := omega) only [↓wD,wU,↓reduceIte,reduceLT,reduceEqDiff,reduceSub,reduceAdd,reduceLeDiff,c0,n0,decide_false]
 refine FC.of hK hS.i264 (by simp [F264]) ?_
 unfold F264
 have es : aeqv H .slice (.slice (some ⟨b,0,some 2⟩) (n + 1) c) (.slice none 0 0) = some false := rfl
 simp (disch := omega) only [↓wD,wU,↓reduceIte,reduceLT,reduceEqDiff,reduceSub,reduceAdd,reduceLeDiff,es]
 have hx : cellsAt (H.push (.row [] 0 none)) b 0 ((n + 1) * 2) = some (frV (frs q)) := by
  rw [cellsAt_row]
  simp only [rowOf,Heap.get_push_old h3,Option.bind_some,Nat.zero_add]
  rw [if_pos (by simp; omega),List.drop_zero,← hcl,List.take_left]
 refine wpItems_app_own (n0 := H.next) (xs := frV (frs q)) (cs := []) (m := n + 1) (sz := 2) (c := c) (v := sliceOf H.next 0 2 0 0) (xb := ⟨b,0,some 2⟩) (by simp (disch := omega) only [↓wD,wU,↓reduceIte,reduceLT,reduceEqDiff,reduceSub,reduceAdd,reduceLeDiff]) (.inr ⟨H.next,0,none,Nat.le_refl _,rfl,Heap.get_push_same _ _,rfl,by decide⟩) (by simp (disch := omega) only [↓wD,wU,↓reduceIte,reduceLT,reduceEqDiff,reduceSub,reduceAdd,reduceLeDiff]) rfl (by decide) hx (by omega)
  (fun b' k e => by unfold sliceOf at e; cases e; exact Nat.ne_of_gt h4) (by simp) (by simp; unfold appMax; omega) fun v' H' g1 g2 g3 g4 g5 => ?_
 simp (disch := omega) only [↓wD,wU,↓reduceIte,reduceLT,reduceEqDiff,reduceSub,reduceAdd,reduceLeDiff]
 unfold Later
 simp (disch := omega) only [↓wD,wU,↓reduceIte,reduceLT,reduceEqDiff,reduceSub,reduceAdd,reduceLeDiff]
 rw [List.nil_append] at g1
 rcases g1 with ⟨rfl,g⟩ | ⟨b2,k,ty2,k0,rfl,k2,k3,k4⟩
 ·rw [g] at hcl; simp at hcl
 ·have ek : k = n + 1 := by omega
  subst ek
  refine hQ _ _ b2 ⟨hcl,.inr ⟨n + 1,[],ty2,rfl,Nat.le_refl _,by rw [List.append_nil]; exact k2⟩⟩ k0 (fun x hx => ?_) (by simp at g4; omega) (g5 (Heap.wf_push _ hw))
  rw [g2 x hx,Heap.get_push_ne _ _ (by omega)]
end Go.Ae
namespace Go.Ae
open Nat (reduceLT reduceEqDiff reduceSub reduceAdd reduceMul reduceLeDiff)
open Int (reduceToNat)
open Go
set_option maxRecDepth 100000
structure Prt where
 mode : Nat
 frm : Nat
 to : Nat
 up : Int
 op : Bool
def pV : List Prt → List Value
 | [] => []
 | p :: r => .int .i64 (p.mode : Nat) :: .int .i64 (p.frm : Nat) :: .int .i64 (p.to : Nat) :: .int .i64 p.up :: .bool p.op :: pV r
def hV : List Nat → List Value
 | [] => []
 | k :: r => .int .i64 (k : Nat) :: hV r
theorem pV_len (P : List Prt) : (pV P).length = P.length * 5 := by
 induction P with
 | nil => rfl
 | cons p r ih => simp [pV,ih]; omega
theorem pV_append (a b : List Prt) : pV (a ++ b) = pV a ++ pV b := by
 induction a with
 | nil => rfl
 | cons p r ih => simp [pV,ih]
theorem hV_len (P : List Nat) : (hV P).length = P.length := by
 induction P with
 | nil => rfl
 | cons p r ih => simp [hV,ih]
theorem hV_append (a b : List Nat) : hV (a ++ b) = hV a ++ hV b := by
 induction a with
 | nil => rfl
 | cons p r ih => simp [hV,ih]
theorem hV_get {P : List Nat} {k x : Nat} (h : P[k]? = some x) : (hV P)[k]? = some (.int .i64 (x : Nat)) := by
 induction P generalizing k with
 | nil => simp at h
 | cons p r ih => cases k with
  | zero => simp at h; subst h; rfl
  | succ k => simp at h; simpa [hV] using ih h
theorem frV_get {P : List (Nat × Nat)} {k : Nat} {x : Nat × Nat} (h : P[k]? = some x) : (frV P)[k * 2]? = some (.int .i64 (x.1 : Nat)) ∧ (frV P)[k * 2 + 1]? = some (.int .i64 (x.2 : Nat)) := by
 induction P generalizing k with
 | nil => simp at h
 | cons p r ih => cases k with
  | zero => simp at h; subst h; exact ⟨rfl,rfl⟩
  | succ k =>
   simp at h
   have := ih h
   rw [show (k + 1) * 2 = k * 2 + 1 + 1 by omega]
   simpa [frV] using this
theorem split_at {α : Type} {P : List α} {k : Nat} {p : α} (h : P[k]? = some p) : ∃ A B,P = A ++ p :: B ∧ A.length = k := by
 induction P generalizing k with
 | nil => simp at h
 | cons x r ih => cases k with
  | zero => simp at h; subst h; exact ⟨[],r,rfl,rfl⟩
  | succ k =>
   simp at h
   obtain ⟨A,B,e,hk⟩ := ih h
   exact ⟨x :: A,B,by simp [e],by simp [hk]⟩
theorem splice_app (X Y vs : List Value) (i : Nat) : splice (X ++ Y) (X.length + i) vs = X ++ splice Y i vs := by
 unfold splice
 rw [List.take_append,List.drop_append]
 have e1 : X.length + i - X.length = i := by omega
 have e2 : X.length + i + vs.length - X.length = i + vs.length := by omega
 rw [e1,e2,List.take_of_length_le (by omega),List.drop_eq_nil_of_le (by omega)]
 simp
theorem pV_cell {P : List Prt} {k : Nat} {p : Prt} (h : P[k]? = some p) (rest : List Value) :
  (pV P ++ rest)[k * 5]? = some (.int .i64 (p.mode : Nat)) ∧ (pV P ++ rest)[k * 5 + 1]? = some (.int .i64 (p.frm : Nat)) ∧ (pV P ++ rest)[k * 5 + 2]? = some (.int .i64 (p.to : Nat)) ∧
   (pV P ++ rest)[k * 5 + 3]? = some (.int .i64 p.up) ∧ (pV P ++ rest)[k * 5 + 4]? = some (.bool p.op) := by
 obtain ⟨A,B,rfl,rfl⟩ := split_at h
 have e : pV (A ++ p :: B) ++ rest = pV A ++ (pV (p :: B) ++ rest) := by rw [pV_append,List.append_assoc]
 have hl := pV_len A
 rw [e]
 refine ⟨?_,?_,?_,?_,?_⟩ <;> (rw [List.getElem?_append_right (by omega),hl]; simp [pV])
theorem pV_set {P : List Prt} {k : Nat} {p q : Prt} (h : P[k]? = some p) (rest : List Value) (i : Nat) (x : Value) (hx : splice (pV [p]) i [x] = pV [q]) (hi : i < 5) : splice (pV P ++ rest) (k * 5 + i) [x] = pV (P.set k q) ++ rest := by
 obtain ⟨A,B,rfl,rfl⟩ := split_at h
 have e : pV (A ++ p :: B) ++ rest = pV A ++ (pV [p] ++ (pV B ++ rest)) := by rw [pV_append]; simp [pV]
 have e2 : (A ++ p :: B).set A.length q = A ++ q :: B := by simp
 rw [e,e2,← pV_len A,splice_app,pV_append]
 have hp5 : (pV [p]).length = 5 := rfl
 have e3 : splice (pV [p] ++ (pV B ++ rest)) i [x] = splice (pV [p]) i [x] ++ (pV B ++ rest) := by
  unfold splice
  rw [List.take_append_of_le_length (by omega),List.drop_append_of_le_length (by simp; omega)]
  simp
 rw [e3,hx]
 simp [pV]
def OwO (H : Heap) (b : Option Nat) (v : Value) (sz n : Nat) (cs : List Value) : Prop :=
 match b with
 | none => v = .slice none 0 0 ∧ n = 0 ∧ cs = []
 | some b => OwN H b v sz n cs ∧ ∃ c,v = .slice (some ⟨b,0,some sz⟩) n c
theorem OwO.frame {H H' : Heap} {b : Option Nat} {v : Value} {sz n : Nat} {cs : List Value} (h : OwO H b v sz n cs) (hf : ∀ x,b = some x → H'.get x = H.get x) : OwO H' b v sz n cs := by
 cases b with
 | none => exact h
 | some b => exact ⟨h.1.frame (hf b rfl),h.2⟩
theorem OwO.val {H : Heap} {b : Option Nat} {v : Value} {sz n : Nat} {cs : List Value} (h : OwO H b v sz n cs) : ∃ a c,v = .slice a n c ∧ n ≤ c := by
 cases b with
 | none => obtain ⟨rfl,rfl,_⟩ := h; exact ⟨none,0,rfl,Nat.le_refl _⟩
 | some b => exact h.1.val
theorem OwO.real {H : Heap} {b : Option Nat} {v : Value} {sz n : Nat} {cs : List Value} (h : OwO H b v sz n cs) (hn : n ≠ 0) : ∃ b' c rest ty,b = some b' ∧ v = .slice (some ⟨b',0,some sz⟩) n c ∧ n ≤ c ∧ H.get b' = some (.row (cs ++ rest) 0 ty) ∧ b' < H.next ∧ cs.length = n * sz := by
 cases b with
 | none => exact absurd h.2.1 hn
 | some b =>
  obtain ⟨c,rest,ty,h1,h2,h3,h4,h5⟩ := h.1.some hn
  exact ⟨b,c,rest,ty,rfl,h1,h2,h3,h4,h5⟩
section
variable {K : Cx} {Q : List Value → Heap → Prop} {E : List Value} {H : Heap} {d : Option Tmp} {r : List AItem}
theorem wpItems_appO {s x : Operand} {sz : Nat} {e : TypeId} (v : Value) {b : Option Nat} {n : Nat} {cs xs : List Value} {m : Nat} (ho : OwO H b v sz n cs) (hv : ev E s = v) (hx : ev E x = sliceOf H.next 0 sz m m) (hlen : xs.length = m * sz) (hm : 0 < m)
  (hB : n + m ≤ appMax)
  (h : ∀ c H',OwO H' (some (H.next + 1)) (.slice (some ⟨H.next + 1,0,some sz⟩) (n + m) c) sz (n + m) (cs ++ xs) → (∀ y,y < H.next → b ≠ some y → H'.get y = H.get y) → H'.next = H.next + 2 → (H.wf → H'.wf) →
   wpItems K r Q (put E d (.slice (some ⟨H.next + 1,0,some sz⟩) (n + m) c)) H') :
  wpItems K (⟨d,.app s x sz e,none⟩ :: r) Q E (H.push (.row xs 0 none)) := by
 have fin : ∀ v' H',OwN H' (H.next + 1) v' sz (n + m) (cs ++ xs) → (∀ y,y < H.next → b ≠ some y → H'.get y = H.get y) → H'.next = H.next + 2 → (H.wf → H'.wf) → wpItems K r Q (put E d v') H' := by
  intro v' H' h1 h2 h3 h4
  obtain ⟨c,rest,ty,rfl,g⟩ := h1.some (by omega)
  exact h c H' ⟨h1,c,rfl⟩ h2 h3 h4
 cases b with
 | none =>
  obtain ⟨rfl,rfl,rfl⟩ := ho
  exact wpItems_appN (.slice none 0 0) (b := H.next) .nil hv hx hlen hm hB fun v' H' h1 h2 h3 h4 => fin v' H' h1 (fun y hy _ => h2 y hy (by omega)) h3 h4
 | some b =>
  exact wpItems_appN v ho.1 hv hx hlen hm hB fun v' H' h1 h2 h3 h4 => fin v' H' h1 (fun y hy hb => h2 y hy (fun e => hb (by rw [e]))) h3 h4
end
structure Wk (H : Heap) (tw : Nat) (bl bh : Option Nat) (P : List Prt) (hs : List Nat) : Prop where
 row : ∃ vl vh,H.get tw = some (.row [vl,vh] 0 (some 298)) ∧ OwO H bl vl 5 P.length (pV P) ∧ OwO H bh vh 1 hs.length (hV hs)
 nl : bl ≠ some tw
 nh : bh ≠ some tw
 ne : ∀ x,bl = some x → bh ≠ some x
 wf : H.wf
 ltl : ∀ x,bl = some x → x < H.next
 lth : ∀ x,bh = some x → x < H.next
structure Wv (H H' : Heap) (tw : Nat) (bl bh bl' bh' : Option Nat) : Prop where
 get : ∀ x,x < H.next → x ≠ tw → bl ≠ some x → bh ≠ some x → H'.get x = H.get x
 next : H.next ≤ H'.next
 nl : ∀ x,bl' = some x → bl = some x ∨ H.next ≤ x
 nh : ∀ x,bh' = some x → bh = some x ∨ H.next ≤ x
theorem Wv.refl {H : Heap} {tw : Nat} {bl bh : Option Nat} : Wv H H tw bl bh bl bh := ⟨fun _ _ _ _ _ => rfl,Nat.le_refl _,fun _ h => .inl h,fun _ h => .inl h⟩
theorem Wv.trans {H H1 H2 : Heap} {tw : Nat} {bl bh bl1 bh1 bl2 bh2 : Option Nat} (h : Wv H H1 tw bl bh bl1 bh1) (h' : Wv H1 H2 tw bl1 bh1 bl2 bh2) : Wv H H2 tw bl bh bl2 bh2 := by
 refine ⟨fun x h1 h2 h3 h4 => ?_,Nat.le_trans h.next h'.next,fun x hx => ?_,fun x hx => ?_⟩
 ·have g1 : bl1 ≠ some x := fun e => by
   rcases h.nl x e with e | e
   ·exact h3 e
   ·omega
  have g2 : bh1 ≠ some x := fun e => by
   rcases h.nh x e with e | e
   ·exact h4 e
   ·omega
  rw [h'.get x (Nat.lt_of_lt_of_le h1 h.next) h2 g1 g2,h.get x h1 h2 h3 h4]
 ·rcases h'.nl x hx with e | e
  ·exact h.nl x e
  ·exact .inr (Nat.le_trans h.next e)
 ·rcases h'.nh x hx with e | e
  ·exact h.nh x e
  ·exact .inr (Nat.le_trans h.next e)
theorem Wk.push {H : Heap} {tw : Nat} {bl bh : Option Nat} {P : List Prt} {hs : List Nat} (h : Wk H tw bl bh P hs) (o : AObj) : Wk (H.push o) tw bl bh P hs := by
 obtain ⟨vl,vh,h1,h2,h3⟩ := h.row
 refine ⟨⟨vl,vh,Heap.get_push_old h1,h2.frame fun x hx => Heap.get_push_ne _ _ (Nat.ne_of_lt (h.ltl x hx)),h3.frame fun x hx => Heap.get_push_ne _ _ (Nat.ne_of_lt (h.lth x hx))⟩,h.nl,h.nh,h.ne,Heap.wf_push _ h.wf,fun x hx => ?_,fun x hx => ?_⟩
 ·have := h.ltl x hx; simp; omega
 ·have := h.lth x hx; simp; omega
theorem Wv.push {H : Heap} {tw : Nat} {bl bh : Option Nat} (o : AObj) : Wv H (H.push o) tw bl bh bl bh := ⟨fun x hx _ _ _ => Heap.get_push_ne _ _ (Nat.ne_of_lt hx),by simp,fun _ h => .inl h,fun _ h => .inl h⟩
inductive Cl (fs : List (Nat × Nat)) (at_ : Nat) : List Prt → List Nat → List Prt → List Nat → Prop
 | nil {P : List Prt} : Cl fs at_ P [] P []
 | stop {P : List Prt} {hs : List Nat} {k : Nat} {p : Prt} {f : Nat × Nat} (h1 : P[k]? = some p) (h2 : fs[hs.length]? = some f) (h3 : f.2 = p.frm) : Cl fs at_ P (hs ++ [k]) P (hs ++ [k])
 | close {P : List Prt} {hs : List Nat} {k : Nat} {p : Prt} {P' : List Prt} {h' : List Nat} (h1 : P[k]? = some p) (h2 : ∀ f,fs[hs.length]? = some f → f.2 ≠ p.frm) (h3 : Cl fs at_ (P.set k { p with to := at_ + 1,op := false }) hs P' h') : Cl fs at_ P (hs ++ [k]) P' h'
inductive Op : List (Nat × Nat) → Nat → List Prt → List Nat → List Prt → List Nat → Prop
 | nil {i : Nat} {P : List Prt} {hs : List Nat} : Op [] i P hs P hs
 | old {f : Nat × Nat} {r : List (Nat × Nat)} {i k : Nat} {P : List Prt} {hs : List Nat} {p : Prt} {P' : List Prt} {h' : List Nat} (h1 : hs[i]? = some k) (h2 : P[k]? = some p) (h3 : Op r (i + 1) (P.set k { p with mode := f.1 }) hs P' h') : Op (f :: r) i P hs P' h'
 | new {f : Nat × Nat} {r : List (Nat × Nat)} {i : Nat} {P : List Prt} {hs : List Nat} {up : Int} {P' : List Prt} {h' : List Nat} (h1 : i = hs.length) (h2 : (i = 0 ∧ up = -1) ∨ (0 < i ∧ ∃ u : Nat,hs[i - 1]? = some u ∧ up = (u : Nat))) (h3 : Op r (i + 1) (P ++ [⟨f.1,f.2,0,up,true⟩]) (hs ++ [P.length]) P' h') : Op (f :: r) i P hs P' h'
structure PartIs (K : Cx) : Prop extends ModeIs K where
 i263 : Is K.P K.G0 263 F263
 i245 : Is K.P K.G0 245 F245
 i221 : Is K.P K.G0 221 F221
 i247 : Is K.P K.G0 247 F247
theorem c263 {K : Cx} (hK : Cfg K) (hS : PartIs K) {m : Int} {H : Heap} {Q : Value → Heap → Prop} (h3 : m ≠ 3) (h11 : m ≠ 11) (hQ : Q (.int .i64 m) H) : FC K 263 [.int .i64 m] H Q := by
 refine FC.of hK hS.i263 (by simp [F263]) ?_
 unfold F263
 simp (disch := omega) only [↓wD,wU,↓reduceIte,reduceLT,reduceEqDiff,reduceAdd,h3,h11,decide_false]
 exact hQ
end Go.Ae
namespace Go.Ae
open Nat (reduceLT reduceEqDiff reduceSub reduceAdd reduceMul reduceLeDiff)
open Int (reduceToNat)
open Go
set_option maxRecDepth 100000
def FrC (H : Heap) (bf : Nat) (fs : List (Nat × Nat)) : Prop := ∀ (i : Nat) (f : Nat × Nat),fs[i]? = some f → cellsAt H bf (2 + i * 2) 2 = some [.int .i64 (f.1 : Nat),.int .i64 (f.2 : Nat)]
theorem FrC.frame {H H' : Heap} {bf : Nat} {fs : List (Nat × Nat)} (h : FrC H bf fs) (hf : H'.get bf = H.get bf) : FrC H' bf fs := fun i f hi => by
 rw [← h i f hi]; simp only [cellsAt_row,rowOf,hf]
theorem FrC.lt {H : Heap} {bf : Nat} {fs : List (Nat × Nat)} (h : FrC H bf fs) {i : Nat} {f : Nat × Nat} (hi : fs[i]? = some f) : bf < H.next := by
 have h1 := h i f hi
 unfold cellsAt at h1
 cases hg : H.get bf with
 | none => rw [hg] at h1; cases h1
 | some o => exact Heap.lt_of_get hg
theorem FrC.one {H : Heap} {bf : Nat} {fs : List (Nat × Nat)} (h : FrC H bf fs) {i : Nat} {f : Nat × Nat} (hi : fs[i]? = some f) : cellAt H bf (2 + i * 2 + 1) = some (.int .i64 (f.2 : Nat)) := by
 have h1 := h i f hi
 rw [cellsAt_row] at h1
 rw [cellAt_row]
 cases hr : rowOf H bf with
 | none => rw [hr] at h1; cases h1
 | some cs =>
  rw [hr] at h1
  simp only [Option.bind_some] at h1 ⊢
  split at h1
  ·have h2 := congrArg (fun l => l[1]?) (Option.some.inj h1)
   simp only [List.getElem?_take,List.getElem?_drop] at h2
   simpa using h2
  ·cases h1
theorem set_reserve1' {H : Heap} {o : AObj} {n : Nat} (h : n = H.next) : (H.reserve 1).set n (some o) = H.push o := by subst h; exact set_reserve1
def r245 : ACode := F245.body.snd.snd
theorem b245 : F245.body = .seq F245.body.fst (.seq F245.body.snd.fst r245) := rfl
theorem Op.len {fs : List (Nat × Nat)} {i : Nat} {P P' : List Prt} {hs h' : List Nat} (h : Op fs i P hs P' h') : P.length ≤ P'.length := by
 induction h with
 | nil => exact Nat.le_refl _
 | old _ _ _ ih => simpa using ih
 | new _ _ _ ih => simp at ih; omega
set_option maxHeartbeats 4000000 in
theorem r245_ok {K : Cx} (hK : Cfg K) (hS : PartIs K) {tw bf c2 : Nat} {bl bh : Option Nat} {P P2 : List Prt} {hs h2 : List Nat} {fs : List (Nat × Nat)} {H : Heap} {Q : Value → Heap → Prop} (hW : Wk H tw bl bh P hs) (hF : FrC H bf fs) (hfl : fs.length ≤ 10)
  (hb1 : bf ≠ tw) (hb2 : bl ≠ some bf) (hb3 : bh ≠ some bf) (hO : Op fs 0 P hs P2 h2) (hm : ∀ f ∈ fs,f.1 ≠ 3 ∧ f.1 ≠ 11) (hP : P2.length ≤ 100000) (hhs : hs.length ≤ 10)
  (hQ : ∀ v H' bl' bh',Wk H' tw bl' bh' P2 h2 → Wv H H' tw bl bh bl' bh' → Q v H') (g : Nat → Value) (g0 : g 0 = .pointer (some ⟨tw,0,none⟩)) (g1 : g 1 = .slice (some ⟨bf,2,some 2⟩) fs.length c2) :
  wpC K DrawD none r245 (retQ F245.results Q) (mk 148 g) H := by
 unfold r245 F245
 simp only [ACode.snd]
 simp -implicitDefEqProofs (maxSteps := 1000000) (disch := first | omega | (simp -implicitDefEqProofs only [wH]; done) | (simp -implicitDefEqProofs only [wH]; omega)) only [↓wD,wU,↓reduceIte,reduceLT,reduceEqDiff,reduceSub,reduceAdd,reduceLeDiff,g0,g1]
 refine loop_ind (fun m E H' => ∃ (f : Nat → Value) (i : Nat) (P' : List Prt) (hs' : List Nat) (bl' bh' : Option Nat),E = mk 148 f ∧ f 0 = .pointer (some ⟨tw,0,none⟩) ∧ f 77 = .slice (some ⟨bf,2,some 2⟩) fs.length c2 ∧ f 78 = .int .i64 (fs.length : Nat) ∧ f 79 = .int .i64 (i : Nat) ∧
   m + i = fs.length + 1 ∧ i ≤ fs.length ∧ Wk H' tw bl' bh' P' hs' ∧ Op (fs.drop i) i P' hs' P2 h2 ∧ FrC H' bf fs ∧ bl' ≠ some bf ∧ bh' ≠ some bf ∧ Wv H H' tw bl bh bl' bh' ∧ hs'.length ≤ 10 + i) (n := fs.length + 1) ?_ ?_
 ·exact ⟨_,0,P,hs,bl,bh,rfl,by simp only [upv_at,g0]; rfl,rfl,rfl,rfl,by omega,by omega,hW,hO,hF,hb2,hb3,.refl,by omega⟩
 rintro I m E H' ⟨f,i,P',hs',bl',bh',rfl,f0,f77,f78,f79,hmi,hi,hW',hO',hF',k2,k3,hV,hhs'⟩ hI
 by_cases hlt : (i : Int) < fs.length
 ·have hi' : i < fs.length := by omega
  obtain ⟨x,hx⟩ : ∃ x,fs[i]? = some x := ⟨_,List.getElem?_eq_getElem hi'⟩
  have hxm := hm x (List.mem_of_getElem? hx)
  have hd : fs.drop i = x :: fs.drop (i + 1) := by rw [List.drop_eq_getElem_cons hi']; rw [List.getElem?_eq_getElem hi'] at hx; cases hx; rfl
  rw [hd] at hO'
  have hc := hF' i x hx
  have hbfl := hF'.lt hx
  obtain ⟨vl,vh,hg,hol,hoh⟩ := hW'.row
  have htw := Heap.lt_of_get hg
  have m3 : ((x.1 : Nat) : Int) ≠ 3 := by have := hxm.1; omega
  have m11 : ((x.1 : Nat) : Int) ≠ 11 := by have := hxm.2; omega
  cases hO' with
  | old h1 h2' h3 =>
   rename_i k p
   have hlh : i < hs'.length := (List.getElem?_eq_some_iff.1 h1).1
   have hlP : k < P'.length := (List.getElem?_eq_some_iff.1 h2').1
   obtain ⟨xh,ch,resth,tyh,rfl,rfl,e2,e3,e4,e5⟩ := hoh.real (by omega)
   obtain ⟨xl,cl,restl,tyl,rfl,rfl,l2,l3,l4,l5⟩ := hol.real (by omega)
   have d0 : cellAt H' tw 0 = some (.slice (some ⟨xl,0,some 5⟩) P'.length cl) := by rw [cellAt_of hg]; rfl
   have d1 : cellAt H' tw 1 = some (.slice (some ⟨xh,0,some 1⟩) hs'.length ch) := by rw [cellAt_of hg]; rfl
   have dk : cellAt H' xh i = some (.int .i64 (k : Nat)) := by rw [cellAt_of e3,List.getElem?_append_left (by rw [e5]; omega)]; exact hV_get h1
   have hlh2 : (i : Int) < hs'.length := by omega
   simp -implicitDefEqProofs (maxSteps := 1000000) (disch := first | omega | (simp -implicitDefEqProofs only [wH]; done) | (simp -implicitDefEqProofs only [wH]; omega)) only [↓wD,wU,↓reduceIte,reduceLT,reduceEqDiff,reduceSub,reduceAdd,reduceLeDiff,f0,f77,f78,f79,hlt,hc,hlh2,d0,d1,dk,decide_true,Nat.mul_one]
   refine ⟨by omega,by omega,?_⟩
   refine c263 hK hS m3 m11 ?_
   unfold Later
   have hgl : (H'.push (.row [.int .i64 (x.1 : Nat),.int .i64 (x.2 : Nat)] 0 (some 317))).get xl = some (.row (pV P' ++ restl) 0 tyl) := by rw [Heap.get_push_ne _ _ (by omega)]; exact l3
   simp -implicitDefEqProofs (maxSteps := 1000000) (disch := first | omega | (simp -implicitDefEqProofs only [wH]; done) | (simp -implicitDefEqProofs only [wH]; omega)) only [↓wD,wU,↓reduceIte,reduceLT,reduceEqDiff,reduceSub,reduceAdd,reduceLeDiff,f79,d0,d1,dk,hgl,Nat.mul_one]
   refine ⟨by omega,by simp only [List.length_append]; omega,?_⟩
   have hne : xl ≠ tw := fun e => hW'.nl (by rw [e])
   have hne2 : xl ≠ xh := fun e => hW'.ne xl rfl (by rw [e])
   have hW2 := hW'.push (.row [.int .i64 (x.1 : Nat),.int .i64 (x.2 : Nat)] 0 (some 317))
   have e0 := pV_set (q := { p with mode := x.1 }) h2' restl 0 (.int .i64 (x.1 : Nat)) rfl (by decide)
   rw [Nat.add_zero] at e0
   refine hI _ _ _ (show m - 1 < m by omega) ?_
   exact ⟨_,i + 1,P'.set k { p with mode := x.1 },hs',some xl,some xh,rfl,f0,f77,f78,rfl,by omega,by omega,
    ⟨⟨_,_,by rw [Heap.get_set_ne _ _ hne]; exact Heap.get_push_old hg,
     ⟨⟨by rw [pV_len,List.length_set],.inr ⟨cl,restl,tyl,by rw [List.length_set],by rw [List.length_set]; exact l2,by rw [Heap.get_set_same _ _ hgl,e0]⟩⟩,cl,by rw [List.length_set]⟩,
     OwO.frame hoh (fun y hy => by cases hy; rw [Heap.get_set_ne _ _ hne2,Heap.get_push_ne _ _ (by omega)])⟩,hW'.nl,hW'.nh,hW'.ne,Heap.wf_set _ _ hW2.wf,fun y hy => by cases hy; simp; omega,fun y hy => by cases hy; simp; omega⟩,
    h3,hF'.frame (by rw [Heap.get_set_ne _ _ (fun e => k2 (by rw [e])),Heap.get_push_ne _ _ (by omega)]),k2,k3,
    hV.trans ⟨fun y y1 y2 y3 y4 => by rw [Heap.get_set_ne _ _ (fun e => y3 (by rw [e])),Heap.get_push_ne _ _ (by omega)],by simp,fun y hy => .inl hy,fun y hy => .inl hy⟩,by omega⟩
  | new h1 h2' h3 =>
   rename_i up
   obtain ⟨al,cl,el,hcl⟩ := hol.val
   obtain ⟨ah,ch,eh,hch⟩ := hoh.val
   have d0 : cellAt H' tw 0 = some vl := by rw [cellAt_of hg]; rfl
   have d1 : cellAt H' tw 1 = some vh := by rw [cellAt_of hg]; rfl
   have hlh2 : ¬ (i : Int) < hs'.length := by omega
   have hP' := h3.len
   simp only [List.length_append,List.length_cons,List.length_nil] at hP'
   have hW1 := hW'.push (.row [.int .i64 (x.1 : Nat),.int .i64 (x.2 : Nat)] 0 (some 317))
   obtain ⟨vl1,vh1,hg1,hol1,hoh1⟩ := hW1.row
   have ev1 : vl1 = vl ∧ vh1 = vh := by
    rw [Heap.get_push_old hg] at hg1
    simp only [Option.some.injEq,AObj.row.injEq,List.cons.injEq,and_true] at hg1
    exact ⟨hg1.1.symm,hg1.2.symm⟩
   obtain ⟨rfl,rfl⟩ := ev1
   have hgt : (H'.push (.row [.int .i64 (x.1 : Nat),.int .i64 (x.2 : Nat)] 0 (some 317))).get tw = some (.row [vl1,vh1] 0 (some 298)) := Heap.get_push_old hg
   subst el
   subst eh
   rcases h2' with ⟨i0,rfl⟩ | ⟨ipos,u,hu,rfl⟩
   ·have hz : ¬ (0 : Int) < (i : Int) := by omega
    simp -implicitDefEqProofs (maxSteps := 1000000) (disch := first | omega | (simp -implicitDefEqProofs only [wH]; done) | (simp -implicitDefEqProofs only [wH]; omega)) only [↓wD,wU,↓reduceIte,reduceLT,reduceEqDiff,reduceSub,reduceAdd,reduceLeDiff,f0,f77,f78,f79,hlt,hc,d0,d1,hz,hlh2,decide_true,decide_false,Nat.mul_one,set_reserve1']
    refine ⟨by omega,?_⟩
    refine wpItems_appO _ hoh1 (by simp -implicitDefEqProofs (maxSteps := 1000000) (disch := first | omega | (simp -implicitDefEqProofs only [wH]; done) | (simp -implicitDefEqProofs only [wH]; omega)) only [↓wD,wU,↓reduceIte,reduceLT,reduceEqDiff,reduceSub,reduceAdd,reduceLeDiff]) (by simp -implicitDefEqProofs (maxSteps := 1000000) (disch := first | omega | (simp -implicitDefEqProofs only [wH]; done) | (simp -implicitDefEqProofs only [wH]; omega)) only [↓wD,wU,↓reduceIte,reduceLT,reduceEqDiff,reduceSub,reduceAdd,reduceLeDiff]) (xs := [.int .i64 (P'.length : Nat)]) rfl (by decide) (by unfold appMax; omega) fun ch2 H2 q1 q2 q3 q4 => ?_
    simp only [Heap.next_push] at q1 q2 q3 ⊢
    have hgt2 : H2.get tw = _ := (q2 tw (by omega) hW'.nh).trans hgt
    have d0' : cellAt (H2.set tw (some (.row [.slice al P'.length cl,.slice (some ⟨H'.next + 1 + 1,0,some 1⟩) (hs'.length + 1) ch2] 0 (some 298)))) tw 0 = some (.slice al P'.length cl) := by rw [cellAt_set_self hgt2]; rfl
    have hX2 : H2.get H'.next = some (.row [.int .i64 (x.1 : Nat),.int .i64 (x.2 : Nat)] 0 (some 317)) := (q2 _ (by omega) (fun e => by have := hW'.lth _ e; omega)).trans (Heap.get_push_same _ _)
    have ex0 : cellAt (H2.set tw (some (.row [.slice al P'.length cl,.slice (some ⟨H'.next + 1 + 1,0,some 1⟩) (hs'.length + 1) ch2] 0 (some 298)))) H'.next 0 = some (.int .i64 (x.1 : Nat)) := by rw [cellAt_set_ne (by omega),cellAt_of hX2]; rfl
    have ex1 : cellAt (H2.set tw (some (.row [.slice al P'.length cl,.slice (some ⟨H'.next + 1 + 1,0,some 1⟩) (hs'.length + 1) ch2] 0 (some 298)))) H'.next 1 = some (.int .i64 (x.2 : Nat)) := by rw [cellAt_set_ne (by omega),cellAt_of hX2]; rfl
    simp -implicitDefEqProofs (maxSteps := 1000000) (disch := first | omega | (simp -implicitDefEqProofs only [wH]; done) | (simp -implicitDefEqProofs only [wH]; omega)) only [↓wD,wU,↓reduceIte,reduceLT,reduceEqDiff,reduceSub,reduceAdd,reduceLeDiff,f0,hgt2,d0',ex0,ex1]
    refine c263 hK hS m3 m11 ?_
    unfold Later
    simp -implicitDefEqProofs (maxSteps := 1000000) (disch := first | omega | (simp -implicitDefEqProofs only [wH]; done) | (simp -implicitDefEqProofs only [wH]; omega)) only [↓wD,wU,↓reduceIte,reduceLT,reduceEqDiff,reduceSub,reduceAdd,reduceLeDiff,d0',ex1,set_reserve1']
    have hol3 : OwO (H2.set tw (some (.row [.slice al P'.length cl,.slice (some ⟨H'.next + 1 + 1,0,some 1⟩) (hs'.length + 1) ch2] 0 (some 298)))) bl' (.slice al P'.length cl) 5 P'.length (pV P') := hol1.frame fun y hy => by
     rw [Heap.get_set_ne _ _ (fun e => hW'.nl (by rw [hy,e]))]
     exact q2 y (by have := hW'.ltl y hy; omega) (hW'.ne y hy)
    refine wpItems_appO _ hol3 (by simp -implicitDefEqProofs (maxSteps := 1000000) (disch := first | omega | (simp -implicitDefEqProofs only [wH]; done) | (simp -implicitDefEqProofs only [wH]; omega)) only [↓wD,wU,↓reduceIte,reduceLT,reduceEqDiff,reduceSub,reduceAdd,reduceLeDiff]) (by simp -implicitDefEqProofs (maxSteps := 1000000) (disch := first | omega | (simp -implicitDefEqProofs only [wH]; done) | (simp -implicitDefEqProofs only [wH]; omega)) only [↓wD,wU,↓reduceIte,reduceLT,reduceEqDiff,reduceSub,reduceAdd,reduceLeDiff]) (xs := [.int .i64 (x.1 : Nat),.int .i64 (x.2 : Nat),.int .i64 0,.int .i64 (-1),.bool true]) rfl (by decide) (by unfold appMax; omega) fun cl2 H4 z1 z2 z3 z4 => ?_
    simp only [Heap.next_set] at z1 z2 z3 ⊢
    have hgt4 : H4.get tw = _ := (z2 tw (by omega) hW'.nl).trans (Heap.get_set_same _ _ hgt2)
    simp -implicitDefEqProofs (maxSteps := 1000000) (disch := first | omega | (simp -implicitDefEqProofs only [wH]; done) | (simp -implicitDefEqProofs only [wH]; omega)) only [↓wD,wU,↓reduceIte,reduceLT,reduceEqDiff,reduceSub,reduceAdd,reduceLeDiff,hgt4,f77,f78,f79]
    refine hI _ _ _ (show m - 1 < m by omega) ?_
    exact ⟨_,i + 1,_,_,some (H2.next + 1),some (H'.next + 1 + 1),rfl,f0,f77,f78,rfl,by omega,by omega,
     ⟨⟨_,_,Heap.get_set_same _ _ hgt4,by
       rw [pV_append,List.length_append]
       exact z1.frame fun y hy => Heap.get_set_ne _ _ (by cases hy; omega),by
       rw [hV_append,List.length_append]
       exact q1.frame fun y hy => by
        cases hy
        rw [Heap.get_set_ne _ _ (by omega),z2 _ (by omega) (fun e => by have := hW'.ltl _ e; omega),Heap.get_set_ne _ _ (by omega)]⟩,
      fun e => by cases e; omega,fun e => by cases e; omega,fun y hy e => by simp only [Option.some.injEq] at hy e; omega,Heap.wf_set _ _ (z4 (Heap.wf_set _ _ (q4 (Heap.wf_push _ hW'.wf)))),fun y hy => by cases hy; simp; omega,fun y hy => by cases hy; simp; omega⟩,
     h3,hF'.frame (by rw [Heap.get_set_ne _ _ (Ne.symm hb1),z2 _ (by omega) k2,Heap.get_set_ne _ _ (Ne.symm hb1),q2 _ (by omega) k3,Heap.get_push_ne _ _ (by omega)]),fun e => by cases e; omega,fun e => by cases e; omega,
     hV.trans ⟨fun y y1 y2 y3 y4 => by rw [Heap.get_set_ne _ _ (Ne.symm y2),z2 _ (by omega) y3,Heap.get_set_ne _ _ (Ne.symm y2),q2 _ (by omega) y4,Heap.get_push_ne _ _ (by omega)],by simp; omega,fun y hy => by cases hy; omega,fun y hy => by cases hy; omega⟩,by simp; omega⟩
   ·have hz : (0 : Int) < (i : Int) := by omega
    have hul : i - 1 < hs'.length := (List.getElem?_eq_some_iff.1 hu).1
    obtain ⟨xh,ch',resth,tyh,rfl,eah,e2,e3,e4,e5⟩ := hoh.real (by omega)
    cases eah
    have du : cellAt H' xh (i - 1) = some (.int .i64 (u : Nat)) := by rw [cellAt_of e3,List.getElem?_append_left (by rw [e5]; omega)]; exact hV_get hu
    have ei : ((i : Int) - 1).toNat = i - 1 := by omega
    simp -implicitDefEqProofs (maxSteps := 1000000) (disch := first | omega | (simp -implicitDefEqProofs only [wH]; done) | (simp -implicitDefEqProofs only [wH]; omega)) only [↓wD,wU,↓reduceIte,reduceLT,reduceEqDiff,reduceSub,reduceAdd,reduceLeDiff,f0,f77,f78,f79,hlt,hc,d0,d1,hz,hlh2,ei,du,decide_true,decide_false,Nat.mul_one,set_reserve1']
    refine ⟨by omega,by omega,?_⟩
    refine wpItems_appO _ hoh1 (by simp -implicitDefEqProofs (maxSteps := 1000000) (disch := first | omega | (simp -implicitDefEqProofs only [wH]; done) | (simp -implicitDefEqProofs only [wH]; omega)) only [↓wD,wU,↓reduceIte,reduceLT,reduceEqDiff,reduceSub,reduceAdd,reduceLeDiff]) (by simp -implicitDefEqProofs (maxSteps := 1000000) (disch := first | omega | (simp -implicitDefEqProofs only [wH]; done) | (simp -implicitDefEqProofs only [wH]; omega)) only [↓wD,wU,↓reduceIte,reduceLT,reduceEqDiff,reduceSub,reduceAdd,reduceLeDiff]) (xs := [.int .i64 (P'.length : Nat)]) rfl (by decide) (by unfold appMax; omega) fun ch2 H2 q1 q2 q3 q4 => ?_
    simp only [Heap.next_push] at q1 q2 q3 ⊢
    have hgt2 : H2.get tw = _ := (q2 tw (by omega) hW'.nh).trans hgt
    have d0' : cellAt (H2.set tw (some (.row [.slice al P'.length cl,.slice (some ⟨H'.next + 1 + 1,0,some 1⟩) (hs'.length + 1) ch2] 0 (some 298)))) tw 0 = some (.slice al P'.length cl) := by rw [cellAt_set_self hgt2]; rfl
    have hX2 : H2.get H'.next = some (.row [.int .i64 (x.1 : Nat),.int .i64 (x.2 : Nat)] 0 (some 317)) := (q2 _ (by omega) (fun e => by have := hW'.lth _ e; omega)).trans (Heap.get_push_same _ _)
    have ex0 : cellAt (H2.set tw (some (.row [.slice al P'.length cl,.slice (some ⟨H'.next + 1 + 1,0,some 1⟩) (hs'.length + 1) ch2] 0 (some 298)))) H'.next 0 = some (.int .i64 (x.1 : Nat)) := by rw [cellAt_set_ne (by omega),cellAt_of hX2]; rfl
    have ex1 : cellAt (H2.set tw (some (.row [.slice al P'.length cl,.slice (some ⟨H'.next + 1 + 1,0,some 1⟩) (hs'.length + 1) ch2] 0 (some 298)))) H'.next 1 = some (.int .i64 (x.2 : Nat)) := by rw [cellAt_set_ne (by omega),cellAt_of hX2]; rfl
    simp -implicitDefEqProofs (maxSteps := 1000000) (disch := first | omega | (simp -implicitDefEqProofs only [wH]; done) | (simp -implicitDefEqProofs only [wH]; omega)) only [↓wD,wU,↓reduceIte,reduceLT,reduceEqDiff,reduceSub,reduceAdd,reduceLeDiff,f0,hgt2,d0',ex0,ex1]
    refine c263 hK hS m3 m11 ?_
    unfold Later
    simp -implicitDefEqProofs (maxSteps := 1000000) (disch := first | omega | (simp -implicitDefEqProofs only [wH]; done) | (simp -implicitDefEqProofs only [wH]; omega)) only [↓wD,wU,↓reduceIte,reduceLT,reduceEqDiff,reduceSub,reduceAdd,reduceLeDiff,d0',ex1,set_reserve1']
    have hol3 : OwO (H2.set tw (some (.row [.slice al P'.length cl,.slice (some ⟨H'.next + 1 + 1,0,some 1⟩) (hs'.length + 1) ch2] 0 (some 298)))) bl' (.slice al P'.length cl) 5 P'.length (pV P') := hol1.frame fun y hy => by
     rw [Heap.get_set_ne _ _ (fun e => hW'.nl (by rw [hy,e]))]
     exact q2 y (by have := hW'.ltl y hy; omega) (hW'.ne y hy)
    refine wpItems_appO _ hol3 (by simp -implicitDefEqProofs (maxSteps := 1000000) (disch := first | omega | (simp -implicitDefEqProofs only [wH]; done) | (simp -implicitDefEqProofs only [wH]; omega)) only [↓wD,wU,↓reduceIte,reduceLT,reduceEqDiff,reduceSub,reduceAdd,reduceLeDiff]) (by simp -implicitDefEqProofs (maxSteps := 1000000) (disch := first | omega | (simp -implicitDefEqProofs only [wH]; done) | (simp -implicitDefEqProofs only [wH]; omega)) only [↓wD,wU,↓reduceIte,reduceLT,reduceEqDiff,reduceSub,reduceAdd,reduceLeDiff]) (xs := [.int .i64 (x.1 : Nat),.int .i64 (x.2 : Nat),.int .i64 0,.int .i64 (u : Nat),.bool true]) rfl (by decide) (by unfold appMax; omega) fun cl2 H4 z1 z2 z3 z4 => ?_
    simp only [Heap.next_set] at z1 z2 z3 ⊢
    have hgt4 : H4.get tw = _ := (z2 tw (by omega) hW'.nl).trans (Heap.get_set_same _ _ hgt2)
    simp -implicitDefEqProofs (maxSteps := 1000000) (disch := first | omega | (simp -implicitDefEqProofs only [wH]; done) | (simp -implicitDefEqProofs only [wH]; omega)) only [↓wD,wU,↓reduceIte,reduceLT,reduceEqDiff,reduceSub,reduceAdd,reduceLeDiff,hgt4,f77,f78,f79]
    refine hI _ _ _ (show m - 1 < m by omega) ?_
    exact ⟨_,i + 1,_,_,some (H2.next + 1),some (H'.next + 1 + 1),rfl,f0,f77,f78,rfl,by omega,by omega,
     ⟨⟨_,_,Heap.get_set_same _ _ hgt4,by
       rw [pV_append,List.length_append]
       exact z1.frame fun y hy => Heap.get_set_ne _ _ (by cases hy; omega),by
       rw [hV_append,List.length_append]
       exact q1.frame fun y hy => by
        cases hy
        rw [Heap.get_set_ne _ _ (by omega),z2 _ (by omega) (fun e => by have := hW'.ltl _ e; omega),Heap.get_set_ne _ _ (by omega)]⟩,
      fun e => by cases e; omega,fun e => by cases e; omega,fun y hy e => by simp only [Option.some.injEq] at hy e; omega,Heap.wf_set _ _ (z4 (Heap.wf_set _ _ (q4 (Heap.wf_push _ hW'.wf)))),fun y hy => by cases hy; simp; omega,fun y hy => by cases hy; simp; omega⟩,
     h3,hF'.frame (by rw [Heap.get_set_ne _ _ (Ne.symm hb1),z2 _ (by omega) k2,Heap.get_set_ne _ _ (Ne.symm hb1),q2 _ (by omega) k3,Heap.get_push_ne _ _ (by omega)]),fun e => by cases e; omega,fun e => by cases e; omega,
     hV.trans ⟨fun y y1 y2 y3 y4 => by rw [Heap.get_set_ne _ _ (Ne.symm y2),z2 _ (by omega) y3,Heap.get_set_ne _ _ (Ne.symm y2),q2 _ (by omega) y4,Heap.get_push_ne _ _ (by omega)],by simp; omega,fun y hy => by cases hy; omega,fun y hy => by cases hy; omega⟩,by simp; omega⟩
 ·simp -implicitDefEqProofs (maxSteps := 1000000) (disch := first | omega | (simp -implicitDefEqProofs only [wH]; done) | (simp -implicitDefEqProofs only [wH]; omega)) only [↓wD,wU,↓reduceIte,reduceLT,reduceEqDiff,reduceSub,reduceAdd,reduceLeDiff,f0,f77,f78,f79,hlt,decide_false]
  have : fs.drop i = [] := List.drop_eq_nil_of_le (by omega)
  rw [this] at hO'
  cases hO'
  exact hQ _ _ bl' bh' hW' hV
end Go.Ae
