/- Part 28 of the proof of the law: Ce35, Ce2, Ce3, Ce4, Ce15. No condition. -/
import Derived.Test.YtalflgbdhjjlkaaGreatDoorP27
set_option linter.all false
namespace Go.Ae
open Nat (reduceLT reduceEqDiff reduceSub reduceAdd reduceMul reduceLeDiff)
open Int (reduceToNat)
open Go
set_option maxRecDepth 100000
def asg76 : ACode := (.ops [⟨some 6,.new [(.int .u8 0),(.bool false),(.bool false),(.bool false)] 198,none⟩,
    ⟨none,.store (.tmp 6) (.tmp 11) 4,none⟩])
def body76 : ACode := (.block 1
    (.seq (.seq (.ops [⟨some 12,.faddr (.tmp 6) 1,none⟩,
     ⟨some 13,.load (.tmp 12) none,none⟩,
     ⟨some 14,.mv (.tmp 13),none⟩,
     ⟨some 15,.faddr (.tmp 6) 3,(some (14,false))⟩,
     ⟨some 16,.load (.tmp 15) none,(some (14,false))⟩,
     ⟨some 17,.un .not (.tmp 16),(some (14,false))⟩,
     ⟨some 18,.pick (.tmp 14) (.const (.bool true)) (.tmp 17),none⟩,
     ⟨some 19,.mv (.tmp 18),none⟩,
     ⟨some 20,.load (.tmp 3) none,(some (19,false))⟩,
     ⟨some 21,.faddr (.tmp 6) 0,(some (19,false))⟩,
     ⟨some 22,.load (.tmp 21) none,(some (19,false))⟩,
     ⟨some 23,.call (.func 118) [.tmp 20,.tmp 22],(some (19,false))⟩,
     ⟨some 24,.bin .lss (.tmp 23) (.const (.int .i64 0)),(some (19,false))⟩,
     ⟨some 25,.pick (.tmp 19) (.const (.bool true)) (.tmp 24),none⟩])
    (.cond (.tmp 25)
     (.seq (.ops [⟨some 26,.load (.tmp 5) none,none⟩,
      ⟨some 27,.load (.tmp 6) (some 4),none⟩,
      ⟨some 28,.call (.func 119) [.tmp 26,.tmp 27],none⟩])
     (.exit 1))
     .skip))
    (.ops [⟨some 29,.load (.tmp 5) none,none⟩,
     ⟨some 30,.faddr (.tmp 6) 0,none⟩,
     ⟨some 31,.load (.tmp 30) none,none⟩,
     ⟨some 32,.eqv false (.scalar .int) (.tmp 31) (.const (.int .u8 32)),none⟩,
     ⟨some 33,.mv (.tmp 32),none⟩,
     ⟨some 34,.faddr (.tmp 6) 0,(some (33,false))⟩,
     ⟨some 35,.load (.tmp 34) none,(some (33,false))⟩,
     ⟨some 36,.eqv false (.scalar .int) (.tmp 35) (.const (.int .u8 9)),(some (33,false))⟩,
     ⟨some 37,.pick (.tmp 33) (.const (.bool true)) (.tmp 36),none⟩,
     ⟨some 38,.mv (.tmp 37),none⟩,
     ⟨some 39,.faddr (.tmp 6) 0,(some (38,false))⟩,
     ⟨some 40,.load (.tmp 39) none,(some (38,false))⟩,
     ⟨some 41,.eqv false (.scalar .int) (.tmp 40) (.const (.int .u8 10)),(some (38,false))⟩,
     ⟨some 42,.pick (.tmp 38) (.const (.bool true)) (.tmp 41),none⟩,
     ⟨some 43,.call (.func 120) [.tmp 29,.tmp 42],none⟩])))
def Jm (l c3 c5 tm : Nat) (E : List Value) (by_ : ByteArray) : List Un → Names → Heap → Prop := fun L D H =>
 ∃ bt bp,D = (fun x => x = l ∨ x = c3 ∨ x = c5 ∨ x = tm ∨ bt = some x ∨ bp = some x) ∧ H.get l = some (Lp .ready none E [11] asg76 body76) ∧ H.get c3 = some (.row [.string by_] 0 (some 9)) ∧ H.get c5 = some (.row [.pointer (some ⟨tm,0,none⟩)] 0 (some 191)) ∧
  Mkr H tm bt bp (L.flatMap txU) (L.flatMap ptU) (decide (L ≠ [])) ∧ (∀ x,bt = some x ∨ bp = some x → x ≠ l ∧ x ≠ c3 ∧ x ≠ c5 ∧ x ≠ tm)
section
variable {K : Cx} {H : Heap}
theorem Mkr.frame {H H' : Heap} {tm : Nat} {bt bp : Option Nat} {T P : List UInt8} {bg : Bool} (h : Mkr H tm bt bp T P bg) (hf : ∀ x,x = tm ∨ bt = some x ∨ bp = some x → H'.get x = H.get x) : Mkr H' tm bt bp T P bg := by
 obtain ⟨vt,vp,mk0,h1,h2,h3⟩ := h.row
 exact ⟨⟨vt,vp,mk0,by rw [hf tm (.inl rfl)]; exact h1,h2.frame fun x hx => hf x (.inr (.inl hx)),h3.frame fun x hx => hf x (.inr (.inr hx))⟩,h.nt,h.np,h.ne⟩
theorem Mkr.lt {H : Heap} {tm : Nat} {bt bp : Option Nat} {T P : List UInt8} {bg : Bool} (h : Mkr H tm bt bp T P bg) : tm < H.next ∧ ∀ x,bt = some x ∨ bp = some x → x < H.next := by
 obtain ⟨vt,vp,mk0,h1,h2,h3⟩ := h.row
 refine ⟨Heap.lt_of_get h1,fun x hx => ?_⟩
 rcases hx with hx | hx
 ·exact h2.lt x hx
 ·exact h3.lt x hx
theorem flat_len {g : Un → List UInt8} (h : ∀ u,(g u).length ≤ 2) (L : List Un) : (L.flatMap g).length ≤ 2 * L.length := by
 induction L with
 | nil => simp
 | cons a L ih => rw [List.flatMap_cons,List.length_append,List.length_cons]; have := h a; omega
theorem txU_len (u : Un) : (txU u).length ≤ 2 := by unfold txU; split <;> simp
theorem ptU_len (u : Un) : (ptU u).length ≤ 2 := by unfold ptU; (repeat' split) <;> simp
set_option maxHeartbeats 2000000 in
theorem yd76 (hK : Cfg K) (hS : FldIs K) {l c3 c5 tm : Nat} {f : Nat → Value} {by_ : ByteArray} (f3 : f 3 = .pointer (some ⟨c3,0,none⟩)) (f5 : f 5 = .pointer (some ⟨c5,0,none⟩)) (n1 : c3 ≠ l) (n2 : c5 ≠ l) (n3 : tm ≠ l) (n4 : tm ≠ c3) (n5 : tm ≠ c5) : Yd K l encU okU (Jm l c3 c5 tm (mk 54 f) by_) where
 loc := by
  rintro L D H H' ⟨bt,bp,rfl,h1,h2,h3,h4,h5⟩ hf _ _
  exact ⟨bt,bp,rfl,by rw [hf l (.inl rfl)]; exact h1,by rw [hf c3 (.inr (.inl rfl))]; exact h2,by rw [hf c5 (.inr (.inr (.inl rfl)))]; exact h3,h4.frame fun x hx => hf x (by
   rcases hx with hx | hx | hx
   ·exact .inr (.inr (.inr (.inl hx)))
   ·exact .inr (.inr (.inr (.inr (.inl hx))))
   ·exact .inr (.inr (.inr (.inr (.inr hx))))),h5⟩
 low := by
  rintro L D H ⟨bt,bp,rfl,h1,h2,h3,h4,h5⟩ x hx
  rcases hx with rfl | rfl | rfl | rfl | hx | hx
  ·exact Heap.lt_of_get h1
  ·exact Heap.lt_of_get h2
  ·exact Heap.lt_of_get h3
  ·exact h4.lt.1
  ·exact h4.lt.2 x (.inl hx)
  ·exact h4.lt.2 x (.inr hx)
 step := by
  rintro L D H u ⟨bt,bp,rfl,h1,h2,h3,h4,h5⟩ hw hok
  have hok' : L.length ≤ 30000 := hok
  have hl := Heap.lt_of_get h1
  have hc3 := Heap.lt_of_get h2
  have hc5 := Heap.lt_of_get h3
  obtain ⟨htm,hbb⟩ := h4.lt
  have hT := flat_len txU_len L
  have hP := flat_len ptU_len L
  refine RC.mono (fun v H' h => ?_) (RC.keeps (round_all hK (Q := fun v H' => v = .bool true ∧ ∃ D',Jm l c3 c5 tm (mk 54 f) by_ (L ++ [u]) D' H' ∧ Mvd H H' (fun x => x = l ∨ x = c3 ∨ x = c5 ∨ x = tm ∨ bt = some x ∨ bp = some x) D') rfl h1 ?_))
  ·exact h.1
  show wpC K DrawD (some l) asg76 _ ((mk 54 f).set 11 (.agg (uV u).toArray)) H
  rw [show (mk 54 f).set 11 (.agg (uV u).toArray) = mk 54 (upv f 11 (.agg (uV u).toArray)) from put_mk 54 f 11 _]
  have ea : ∀ (X : AExit → List Value → Heap → Prop) (E : List Value) (H : Heap),wpC K DrawD (some l) asg76 X E H = wpC K DrawD (some l) (.ops [⟨some 6,.new [(.int .u8 0),(.bool false),(.bool false),(.bool false)] 198,none⟩,
    ⟨none,.store (.tmp 6) (.tmp 11) 4,none⟩]) X E H := fun _ _ _ => rfl
  have eb : ∀ (X : AExit → List Value → Heap → Prop) (E : List Value) (H : Heap),wpC K DrawD (some l) body76 X E H = wpC K DrawD (some l) (.block 1
    (.seq (.seq (.ops [⟨some 12,.faddr (.tmp 6) 1,none⟩,
     ⟨some 13,.load (.tmp 12) none,none⟩,
     ⟨some 14,.mv (.tmp 13),none⟩,
     ⟨some 15,.faddr (.tmp 6) 3,(some (14,false))⟩,
     ⟨some 16,.load (.tmp 15) none,(some (14,false))⟩,
     ⟨some 17,.un .not (.tmp 16),(some (14,false))⟩,
     ⟨some 18,.pick (.tmp 14) (.const (.bool true)) (.tmp 17),none⟩,
     ⟨some 19,.mv (.tmp 18),none⟩,
     ⟨some 20,.load (.tmp 3) none,(some (19,false))⟩,
     ⟨some 21,.faddr (.tmp 6) 0,(some (19,false))⟩,
     ⟨some 22,.load (.tmp 21) none,(some (19,false))⟩,
     ⟨some 23,.call (.func 118) [.tmp 20,.tmp 22],(some (19,false))⟩,
     ⟨some 24,.bin .lss (.tmp 23) (.const (.int .i64 0)),(some (19,false))⟩,
     ⟨some 25,.pick (.tmp 19) (.const (.bool true)) (.tmp 24),none⟩])
    (.cond (.tmp 25)
     (.seq (.ops [⟨some 26,.load (.tmp 5) none,none⟩,
      ⟨some 27,.load (.tmp 6) (some 4),none⟩,
      ⟨some 28,.call (.func 119) [.tmp 26,.tmp 27],none⟩])
     (.exit 1))
     .skip))
    (.ops [⟨some 29,.load (.tmp 5) none,none⟩,
     ⟨some 30,.faddr (.tmp 6) 0,none⟩,
     ⟨some 31,.load (.tmp 30) none,none⟩,
     ⟨some 32,.eqv false (.scalar .int) (.tmp 31) (.const (.int .u8 32)),none⟩,
     ⟨some 33,.mv (.tmp 32),none⟩,
     ⟨some 34,.faddr (.tmp 6) 0,(some (33,false))⟩,
     ⟨some 35,.load (.tmp 34) none,(some (33,false))⟩,
     ⟨some 36,.eqv false (.scalar .int) (.tmp 35) (.const (.int .u8 9)),(some (33,false))⟩,
     ⟨some 37,.pick (.tmp 33) (.const (.bool true)) (.tmp 36),none⟩,
     ⟨some 38,.mv (.tmp 37),none⟩,
     ⟨some 39,.faddr (.tmp 6) 0,(some (38,false))⟩,
     ⟨some 40,.load (.tmp 39) none,(some (38,false))⟩,
     ⟨some 41,.eqv false (.scalar .int) (.tmp 40) (.const (.int .u8 10)),(some (38,false))⟩,
     ⟨some 42,.pick (.tmp 38) (.const (.bool true)) (.tmp 41),none⟩,
     ⟨some 43,.call (.func 120) [.tmp 29,.tmp 42],none⟩]))) X E H := fun _ _ _ => rfl
  rw [ea]
  obtain ⟨u0,un,uq⟩ := u
  unfold uV
  simp -implicitDefEqProofs (maxSteps := 1000000) (disch := first | omega | (simp -implicitDefEqProofs only [wH]; done) | (simp -implicitDefEqProofs only [wH]; omega)) only [↓wD,wU,↓reduceIte,reduceLT,reduceEqDiff,reduceSub,reduceAdd,reduceLeDiff]
  refine ⟨h1,?_⟩
  rw [eb]
  generalize hB : some (Lp .busy none (mk 54 f) [11] asg76 body76) = oB
  generalize hG : (H.push (.row [.int .u8 (u0.toNat : Nat),.bool un,.bool uq,.bool false] 0 (some 198))).set l oB = G
  have gG : ∀ x,x < H.next → x ≠ l → G.get x = H.get x := fun x hx hn => by rw [← hG,Heap.get_set_ne _ _ (Ne.symm hn),Heap.get_push_ne _ _ (by omega)]
  have nG : G.next = H.next + 1 := by rw [← hG]; simp
  have wG : G.wf := by rw [← hG]; exact Heap.wf_set _ _ (Heap.wf_push _ hw)
  have lG : G.get l = oB := by rw [← hG]; exact Heap.get_set_same _ _ (by rw [Heap.get_push_ne _ _ (by omega)]; exact h1)
  have uG : G.get H.next = some (.row [.int .u8 (u0.toNat : Nat),.bool un,.bool uq,.bool false] 0 (some 198)) := by rw [← hG,Heap.get_set_ne _ _ (by omega),Heap.get_push_same]
  have k1 : cellAt G H.next 1 = some (.bool un) := by rw [cellAt_of uG]; rfl
  have k3 : cellAt G H.next 3 = some (.bool false) := by rw [cellAt_of uG]; rfl
  have ka : cellsAt G H.next 0 4 = some [.int .u8 (u0.toNat : Nat),.bool un,.bool uq,.bool false] := by rw [cellsAt_row,rowOf,uG]; rfl
  have k5 : cellAt G c5 0 = some (.pointer (some ⟨tm,0,none⟩)) := by rw [cellAt_row,rowOf,gG c5 hc5 n2,h3]; rfl
  have MG : Mkr G tm bt bp (L.flatMap txU) (L.flatMap ptU) (decide (L ≠ [])) := h4.frame fun x hx => by
   rcases hx with rfl | hx | hx
   ·exact gG x htm n3
   ·exact gG x (hbb x (.inl hx)) (h5 x (.inl hx)).1
   ·exact gG x (hbb x (.inr hx)) (h5 x (.inr hx)).1
  have go : FC K 119 [.pointer (some ⟨tm,0,none⟩),.agg #[.int .u8 (u0.toNat : Nat),.bool un,.bool uq,.bool false]] G fun v H3 => v = .tuple #[] ∧ H3.get l = oB ∧ ∃ D',Jm l c3 c5 tm (mk 54 f) by_ (L ++ [⟨u0,un,uq⟩]) D' (H3.set l (some (Lp .ready none (mk 54 f) [11] asg76 body76))) ∧
    Mvd H (H3.set l (some (Lp .ready none (mk 54 f) [11] asg76 body76))) (fun x => x = l ∨ x = c3 ∨ x = c5 ∨ x = tm ∨ bt = some x ∨ bp = some x) D' := by
   refine c119 (u := ⟨u0,un,uq⟩) hK hS wG MG (by omega) (by omega) fun H3 bt' bp' M3 V3 => ?_
   have v3n := V3.next
   have nb : ∀ x,x = l ∨ x = c3 ∨ x = c5 → x < H.next ∧ x ≠ tm ∧ bt ≠ some x ∧ bp ≠ some x := fun x hx => by
    rcases hx with rfl | rfl | rfl
    ·exact ⟨hl,Ne.symm n3,fun e => (h5 _ (.inl e)).1 rfl,fun e => (h5 _ (.inr e)).1 rfl⟩
    ·exact ⟨hc3,Ne.symm n4,fun e => (h5 _ (.inl e)).2.1 rfl,fun e => (h5 _ (.inr e)).2.1 rfl⟩
    ·exact ⟨hc5,Ne.symm n5,fun e => (h5 _ (.inl e)).2.2.1 rfl,fun e => (h5 _ (.inr e)).2.2.1 rfl⟩
   have k3' : ∀ x,x = l ∨ x = c3 ∨ x = c5 → H3.get x = G.get x := fun x hx => by
    obtain ⟨a1,a2,a3,a4⟩ := nb x hx
    exact V3.get x (by omega) a2 a3 a4
   have l3 : H3.get l = oB := (k3' l (.inl rfl)).trans lG
   have nb' : ∀ x,bt' = some x ∨ bp' = some x → x ≠ l ∧ x ≠ c3 ∧ x ≠ c5 ∧ x ≠ tm := fun x hx => by
    rcases hx with hx | hx
    ·rcases V3.nt x hx with e | e
     ·exact h5 x (.inl e)
     ·exact ⟨by omega,by omega,by omega,by omega⟩
    ·rcases V3.np x hx with e | e
     ·exact h5 x (.inr e)
     ·exact ⟨by omega,by omega,by omega,by omega⟩
   refine ⟨rfl,l3,_,⟨bt',bp',rfl,Heap.get_set_same _ _ (l3.trans hB.symm),?_,?_,?_,nb'⟩,⟨fun x hx hd => ?_,by simp; omega,fun x hx => ?_,Heap.wf_set _ _ V3.wf⟩⟩
   ·rw [Heap.get_set_ne _ _ (Ne.symm n1),k3' c3 (.inr (.inl rfl)),gG c3 hc3 n1]; exact h2
   ·rw [Heap.get_set_ne _ _ (Ne.symm n2),k3' c5 (.inr (.inr rfl)),gG c5 hc5 n2]; exact h3
   ·rw [List.flatMap_append,List.flatMap_append,decide_eq_true (by simp)]
    simp only [List.flatMap_cons,List.flatMap_nil,List.append_nil]
    refine M3.frame fun x hx => Heap.get_set_ne _ _ ?_
    rcases hx with rfl | hx | hx
    ·exact Ne.symm n3
    ·exact Ne.symm (nb' x (.inl hx)).1
    ·exact Ne.symm (nb' x (.inr hx)).1
   ·rw [Heap.get_set_ne _ _ (fun e => hd (.inl e.symm)),V3.get x (by omega) (fun e => hd (.inr (.inr (.inr (.inl e))))) (fun e => hd (.inr (.inr (.inr (.inr (.inl e)))))) (fun e => hd (.inr (.inr (.inr (.inr (.inr e)))))),gG x hx (fun e => hd (.inl e))]
   ·rcases hx with e | e | e | e | e | e
    ·exact .inl (.inl e)
    ·exact .inl (.inr (.inl e))
    ·exact .inl (.inr (.inr (.inl e)))
    ·exact .inl (.inr (.inr (.inr (.inl e))))
    ·rcases V3.nt x e with e | e
     ·exact .inl (.inr (.inr (.inr (.inr (.inl e)))))
     ·exact .inr (by omega)
    ·rcases V3.np x e with e | e
     ·exact .inl (.inr (.inr (.inr (.inr (.inr e)))))
     ·exact .inr (by omega)
  cases un
  ·simp -implicitDefEqProofs (maxSteps := 1000000) (disch := first | omega | (simp -implicitDefEqProofs only [wH]; done) | (simp -implicitDefEqProofs only [wH]; omega)) only [↓wD,wU,↓reduceIte,reduceLT,reduceEqDiff,reduceSub,reduceAdd,reduceLeDiff,f3,f5,k1,k3,ka,k5,skipB_u]
   refine FC.mono (fun v H3 h => ?_) go
   unfold Later
   simp -implicitDefEqProofs (maxSteps := 1000000) (disch := first | omega | (simp -implicitDefEqProofs only [wH]; done) | (simp -implicitDefEqProofs only [wH]; omega)) only [↓wD,wU,↓reduceIte,reduceLT,reduceEqDiff,reduceSub,reduceAdd,reduceLeDiff]
   exact h.2
  ·simp -implicitDefEqProofs (maxSteps := 1000000) (disch := first | omega | (simp -implicitDefEqProofs only [wH]; done) | (simp -implicitDefEqProofs only [wH]; omega)) only [↓wD,wU,↓reduceIte,reduceLT,reduceEqDiff,reduceSub,reduceAdd,reduceLeDiff,f3,f5,k1,k3,ka,k5,skipB_u]
   refine FC.mono (fun v H3 h => ?_) go
   unfold Later
   simp -implicitDefEqProofs (maxSteps := 1000000) (disch := first | omega | (simp -implicitDefEqProofs only [wH]; done) | (simp -implicitDefEqProofs only [wH]; omega)) only [↓wD,wU,↓reduceIte,reduceLT,reduceEqDiff,reduceSub,reduceAdd,reduceLeDiff]
   exact h.2
theorem c76 (hK : Cfg K) (hS : FldIs K) {L : List Pc} {v : Value} {bo : Option Nat} {by_ : ByteArray} {Q : Value → Heap → Prop} (hol : OwO H bo v 3 L.length (L.flatMap cellsP)) (hlen : (L.flatMap unitsOf).length ≤ 30000) (hLl : L.length ≤ 30000) (hsz : ∀ a ∈ L,a.2.size ≤ 30000) (hne : L.flatMap unitsOf ≠ [])
  (hQ : ∀ H' b u,OwO H' (some b) u 2 1 [.string ⟨((L.flatMap unitsOf).flatMap txU).toArray⟩,.string ⟨((L.flatMap unitsOf).flatMap ptU).toArray⟩] → H.next ≤ b → Agree H.next H H' → H.next ≤ H'.next → H'.wf → Q u H') : FC K 76 [v,.string by_] H Q := by
 refine FC.wf0 fun hw => ?_
 refine FC.of hK hS.i76 (by simp [F76]) ?_
 unfold F76
 obtain ⟨av,cv,rfl,hcv⟩ := hol.val
 have hbl := hol.lt
 simp -implicitDefEqProofs (maxSteps := 1000000) (disch := first | omega | (simp -implicitDefEqProofs only [wH]; done) | (simp -implicitDefEqProofs only [wH]; omega)) only [↓wD,wU,↓reduceIte,reduceLT,reduceEqDiff,reduceSub,reduceAdd,reduceLeDiff]
 refine FC.of hK hS.i117 (by simp [F117]) ?_
 unfold F117
 simp -implicitDefEqProofs (maxSteps := 1000000) (disch := first | omega | (simp -implicitDefEqProofs only [wH]; done) | (simp -implicitDefEqProofs only [wH]; omega)) only [↓wD,wU,↓reduceIte,reduceLT,reduceEqDiff,reduceSub,reduceAdd,reduceLeDiff]
 unfold Later
 simp -implicitDefEqProofs (maxSteps := 1000000) (disch := first | omega | (simp -implicitDefEqProofs only [wH]; done) | (simp -implicitDefEqProofs only [wH]; omega)) only [↓wD,wU,↓reduceIte,reduceLT,reduceEqDiff,reduceSub,reduceAdd,reduceLeDiff,wpC_rfunc,callR_func]
 refine ⟨by simp,hS.i168.isFn,?_⟩
 generalize hf : (upv (upv (upv (upv (upv (upv (upv (upv (argf [Value.slice av L.length cv,Value.string by_]) 3 (Value.pointer (some ⟨H.next,0,none⟩))) 4 (Value.slice none 0 0)) 7 (Value.agg #[Value.slice none 0 0,Value.slice none 0 0,Value.slice none 0 0,Value.bool false,Value.bool false])) 8 (Value.pointer (some ⟨H.next + 1,0,none⟩))) 5 (Value.pointer (some ⟨H.next + 2,0,none⟩))) 54 undef) 9 (Value.slice av L.length cv)) 10 (Value.func (Fn.func 168) #[] #[Value.pointer (some ⟨H.next + 3,0,none⟩)])) = f
 have f3 : f 3 = .pointer (some ⟨H.next,0,none⟩) := by rw [← hf]; rfl
 have f5 : f 5 = .pointer (some ⟨H.next + 2,0,none⟩) := by rw [← hf]; rfl
 have w1 := Heap.wf_push (.row [.string by_] 0 (some 9)) hw
 have w2 := Heap.wf_push (.row [.slice none 0 0,.slice none 0 0,.slice none 0 0,.bool false,.bool false] 0 (some 193)) w1
 have w3 := Heap.wf_push (.row [.pointer (some ⟨H.next + 1,0,none⟩)] 0 (some 191)) w2
 have w4 := Heap.wf_push (.row [.slice av L.length cv] 0 (some 67)) w3
 generalize hG : (((H.push (.row [.string by_] 0 (some 9))).push (.row [.slice none 0 0,.slice none 0 0,.slice none 0 0,.bool false,.bool false] 0 (some 193))).push (.row [.pointer (some ⟨H.next + 1,0,none⟩)] 0 (some 191))).push (.row [.slice av L.length cv] 0 (some 67)) = G at w4 ⊢
 have nG : G.next = H.next + 4 := by rw [← hG]; rfl
 have g0 : G.get H.next = some (.row [.string by_] 0 (some 9)) := by rw [← hG,Heap.get_push_ne _ _ (by simp only [Heap.next_push]; omega),Heap.get_push_ne _ _ (by simp only [Heap.next_push]; omega),Heap.get_push_ne _ _ (by simp only [Heap.next_push]; omega),Heap.get_push_same]
 have g1 : G.get (H.next + 1) = some (.row [.slice none 0 0,.slice none 0 0,.slice none 0 0,.bool false,.bool false] 0 (some 193)) := by rw [← hG,Heap.get_push_ne _ _ (by simp only [Heap.next_push]; omega),Heap.get_push_ne _ _ (by simp only [Heap.next_push]; omega)]; exact Heap.get_push_same (H.push _) _
 have g2 : G.get (H.next + 2) = some (.row [.pointer (some ⟨H.next + 1,0,none⟩)] 0 (some 191)) := by rw [← hG,Heap.get_push_ne _ _ (by simp only [Heap.next_push]; omega)]; exact Heap.get_push_same ((H.push _).push _) _
 have g3 : G.get (H.next + 3) = some (.row [.slice av L.length cv] 0 (some 67)) := by rw [← hG]; exact Heap.get_push_same (((H.push _).push _).push _) _
 have gH : Agree H.next H G := fun x hx => by rw [← hG,Heap.get_push_ne _ _ (by simp only [Heap.next_push]; omega),Heap.get_push_ne _ _ (by simp only [Heap.next_push]; omega),Heap.get_push_ne _ _ (by simp only [Heap.next_push]; omega),Heap.get_push_ne _ _ (by omega)]
 rw [← nG]
 have hY := yd76 (l := G.next) (c3 := H.next) (c5 := H.next + 2) (tm := H.next + 1) (by_ := by_) hK hS f3 f5 (by omega) (by omega) (by omega) (by omega) (by omega)
 refine c168 hK hS (J := Jm G.next H.next (H.next + 2) (H.next + 1) (mk 54 f) by_) hY (D0 := fun x => x = G.next ∨ x = H.next ∨ x = H.next + 2 ∨ x = H.next + 1 ∨ none = some x ∨ none = some x) (Heap.wf_push _ w4) (Heap.get_push_old g3)
  (hol.frame fun x hx => by have := hbl x hx; rw [Heap.get_push_ne _ _ (by omega)]; exact gH x this) (fun x hx => by have := hbl x hx; simp; omega)
  ⟨none,none,rfl,Heap.get_push_same _ _,Heap.get_push_old g0,Heap.get_push_old g2,⟨⟨_,_,false,Heap.get_push_old g1,⟨rfl,rfl,rfl⟩,⟨rfl,rfl,rfl⟩⟩,by simp,by simp,by simp⟩,by simp⟩ hlen hLl hsz fun H' D' hJ hM => ?_
 obtain ⟨bt,bp,rfl,h1,h2,h3,h4,h5⟩ := hJ
 refine end_all h1 ?_
 have hn' := hM.next
 simp only [Heap.next_push] at hn'
 rw [decide_eq_true hne] at h4
 generalize hB : H'.set G.next none = B
 have wB : B.wf := by rw [← hB]; exact Heap.wf_set _ _ hM.wf
 have nB : B.next = H'.next := by rw [← hB]; simp
 have kB : ∀ x,x ≠ G.next → B.get x = H'.get x := fun x hx => by rw [← hB,Heap.get_set_ne _ _ (Ne.symm hx)]
 have c5 : cellAt B (H.next + 2) 0 = some (.pointer (some ⟨H.next + 1,0,none⟩)) := by rw [cellAt_row,rowOf,kB _ (by omega),h3]; rfl
 have MB : Mkr B (H.next + 1) bt bp ((L.flatMap unitsOf).flatMap txU) ((L.flatMap unitsOf).flatMap ptU) true := h4.frame fun x hx => kB x (by
  rcases hx with rfl | hx | hx
  ·omega
  ·exact (h5 x (.inl hx)).1
  ·exact (h5 x (.inr hx)).1)
 obtain ⟨vt,vp,mk0,r1,_,_⟩ := MB.row
 have cb : cellAt B (H.next + 1) 3 = some (.bool true) := by rw [cellAt_of r1]; rfl
 simp -implicitDefEqProofs (maxSteps := 1000000) (disch := first | omega | (simp -implicitDefEqProofs only [wH]; done) | (simp -implicitDefEqProofs only [wH]; omega)) only [↓wD,wU,↓reduceIte,reduceLT,reduceEqDiff,reduceSub,reduceAdd,reduceLeDiff,f3,f5,c5,cb]
 refine c121 hK hS wB MB fun H3 b u mk1 q1 q2 q3 q4 q5 q6 => ?_
 unfold Later
 have d5 : cellAt H3 (H.next + 2) 0 = some (.pointer (some ⟨H.next + 1,0,none⟩)) := by rw [cellAt_row,rowOf,q3 _ (by omega) (by omega),kB _ (by omega),h3]; rfl
 have d0 : cellAt H3 (H.next + 1) 0 = some u := by rw [cellAt_of q1]; rfl
 simp -implicitDefEqProofs (maxSteps := 1000000) (disch := first | omega | (simp -implicitDefEqProofs only [wH]; done) | (simp -implicitDefEqProofs only [wH]; omega)) only [↓wD,wU,↓reduceIte,reduceLT,reduceEqDiff,reduceSub,reduceAdd,reduceLeDiff,f3,f5,d5,d0]
 refine hQ H3 b u q2 (by omega) (fun x hx => ?_) (by omega) q5
 rw [q3 x (by omega) (by omega),kB x (by omega),hM.get x (by simp; omega) (by simp; omega),Heap.get_push_ne _ _ (by omega),gH x hx]
end
end Go.Ae
namespace Go.Ae
open Nat (reduceLT reduceEqDiff reduceSub reduceAdd reduceMul reduceLeDiff)
open Int (reduceToNat)
open Go
theorem c36 {K : Cx} (hK : Cfg K) (hI : Is K.P K.G0 36 F36) {s : ByteArray} {H : Heap} {Q : Value → Heap → Prop} (hs : s.size ≤ 1000000)
  (hQ : ∀ v H' cs,Own H.next H' v 1 cs → Agree H.next H H' → H.next ≤ H'.next → cs.length ≤ s.size + 1 → (∀ x ∈ cs,∃ t : ByteArray,x = .string t ∧ t.size ≤ s.size) → Q v H') : FC K 36 [.string s] H Q := by
 refine FC.of hK hI (by simp [F36]) ?_
 unfold F36
 simp (disch := omega) only [↓wD,wU,↓reduceIte,reduceLT,reduceEqDiff,reduceAdd]
 refine loop_ind (fun m E H' => ∃ (f : Nat → Value) (i : Nat) (v : Value) (cs : List Value) (w : ByteArray),E = mk 31 f ∧ f 0 = .string s ∧ f 3 = v ∧ f 4 = .string w ∧ f 5 = .int .i64 (i : Nat) ∧ m + i = s.size + 1 ∧ i ≤ s.size ∧
   Own H.next H' v 1 cs ∧ Agree H.next H H' ∧ H.next ≤ H'.next ∧ cs.length ≤ i ∧ w.size ≤ i ∧ (∀ x ∈ cs,∃ t : ByteArray,x = .string t ∧ t.size ≤ s.size)) (n := s.size + 1) ?_ ?_
 ·exact ⟨_,0,_,[],⟨#[]⟩,rfl,rfl,rfl,rfl,rfl,rfl,by omega,.nil,.refl _ _,Nat.le_refl _,by simp,Nat.le_refl _,by simp⟩
 rintro I m E H' ⟨f,i,v,cs,w,rfl,h0,h3,h4,h5,hm,hi,ho,ha,hn,hl,hw,hall⟩ hI
 by_cases hik : (i : Int) < s.size
 ·simp (disch := omega) only [↓wD,wU,↓reduceIte,reduceLT,reduceEqDiff,reduceAdd,h0,h3,h4,h5,hik]
  refine ⟨by omega,?_⟩
  split
  ·refine wpItems_app1 (n0 := H.next) v ho (by simp (disch := omega) only [↓wD,wU,↓reduceIte,reduceLT,reduceEqDiff,reduceAdd,h3]) (by simp (disch := omega) only [↓wD,wU,↓reduceIte,reduceLT,reduceEqDiff,reduceAdd]) rfl (by decide) (by decide) hn (by simp only [List.length_cons,List.length_nil,appMax]; omega) fun v' H2 ho2 ha2 hf2 hn2 _ => ?_
   simp (disch := omega) only [↓wD,wU,↓reduceIte,reduceLT,reduceEqDiff,reduceAdd,h0,h3,h4,h5]
   refine hI _ _ _ (show m - 1 < m by omega) ?_
   refine ⟨_,i + 1,v',cs ++ [.string w],⟨#[]⟩,rfl,h0,rfl,rfl,rfl,by omega,by omega,ho2,ha.trans ha2,by omega,by simp; omega,Nat.zero_le _,fun x hx => ?_⟩
   rcases List.mem_append.1 hx with h | h
   ·exact hall x h
   ·simp at h; exact ⟨w,h,by omega⟩
  ·refine hI _ _ _ (show m - 1 < m by omega) ?_
   exact ⟨_,i + 1,v,cs,_,rfl,h0,h3,rfl,rfl,by omega,by omega,ho,ha,hn,by omega,by simp only [ByteArray.size_append,ByteArray.size_extract]; omega,hall⟩
 ·simp (disch := omega) only [↓wD,wU,↓reduceIte,reduceLT,reduceEqDiff,reduceAdd,h0,h3,h4,h5,hik]
  refine wpItems_app1 (n0 := H.next) v ho (by simp (disch := omega) only [↓wD,wU,↓reduceIte,reduceLT,reduceEqDiff,reduceAdd,h3]) (by simp (disch := omega) only [↓wD,wU,↓reduceIte,reduceLT,reduceEqDiff,reduceAdd]) rfl (by decide) (by decide) hn (by simp only [List.length_cons,List.length_nil,appMax]; omega) fun v' H2 ho2 ha2 hf2 hn2 _ => ?_
  simp (disch := omega) only [↓wD,wU,↓reduceIte,reduceLT,reduceEqDiff,reduceAdd,h0,h3,h4,h5]
  refine hQ _ _ (cs ++ [.string w]) ho2 (ha.trans ha2) (by omega) (by simp; omega) fun x hx => ?_
  rcases List.mem_append.1 hx with h | h
  ·exact hall x h
  ·simp at h; exact ⟨w,h,by omega⟩
end Go.Ae
namespace Go.Ae
open Nat (reduceLT reduceEqDiff reduceSub reduceAdd reduceMul reduceLeDiff)
open Int (reduceToNat)
open Go
set_option maxRecDepth 100000
theorem c15 {K : Cx} (hK : Cfg K) (h36 : Is K.P K.G0 36 F36) (h37 : Is K.P K.G0 37 F37) (hI : Is K.P K.G0 15 F15) {s : ByteArray} {H : Heap} {Q : Value → Heap → Prop} (hs : s.size ≤ 1000000)
  (hQ : ∀ b : Bool,Q (.bool b) H) : FC K 15 [.string s] H Q := by
 refine FC.forget ?_
 have hQ' : ∀ b H',Agree H.next H H' → Agree H.next H H' ∧ Old H.next (.bool b) ∧ Q (.bool b) H := fun b H' ha => ⟨ha,.bool b,hQ b⟩
 refine FC.of hK hI (by simp [F15]) ?_
 unfold F15
 simp (disch := omega) only [↓wD,wU,↓reduceIte,reduceLT,reduceEqDiff,reduceAdd]
 split
 ·exact hQ' _ _ (.refl _ _)
 rename_i hs0
 have hp : 0 < s.size := by
  rcases Nat.eq_zero_or_pos s.size with h | h
  ·exact (hs0 (by cases s; rename_i d; have : d = #[] := Array.eq_empty_of_size_eq_zero h; rw [this])).elim
  ·exact h
 refine ⟨by omega,?_⟩
 split
 ·exact hQ' _ _ (.refl _ _)
 simp (disch := omega) only [↓wD,wU,↓reduceIte,reduceLT,reduceEqDiff,reduceAdd]
 refine c36 hK h36 (by simp only [ByteArray.size_extract]; omega) fun v H1 cs ho ha hn hl hall => ?_
 unfold Later
 simp (disch := omega) only [↓wD,wU,↓reduceIte,reduceLT,reduceEqDiff,reduceAdd]
 simp only [ByteArray.size_extract] at hl
 obtain ⟨a,cap,rfl,hcp,hs⟩ := ho.sl (k := cs.length) (by omega) (by decide)
 refine loop_ind (fun m E H' => ∃ (f : Nat → Value) (i : Nat),E = mk 29 f ∧ f 0 = .string s ∧ f 3 = .slice a cs.length cap ∧ f 4 = .int .i64 (i : Nat) ∧ m + i = cs.length + 1 ∧ H' = H1) (n := cs.length + 1) ?_ ?_
 ·exact ⟨_,0,rfl,rfl,rfl,rfl,rfl,rfl⟩
 rintro I m E H' ⟨f,i,rfl,h0,h3,h4,hm,rfl⟩ hI
 by_cases hik : (i : Int) < cs.length
 ·obtain ⟨b,o,rfl,hc⟩ := hs.resolve_left (by omega)
  have c0 := hc i (by omega)
  have hi : i < cs.length := by omega
  obtain ⟨t,ht,htl⟩ := hall _ (List.getElem_mem hi)
  simp only [getD_el hi ht] at c0
  simp (disch := omega) only [↓wD,wU,↓reduceIte,reduceLT,reduceEqDiff,reduceAdd,h0,h3,h4,hik,c0,Nat.mul_one]
  refine ⟨by omega,?_⟩
  refine c37 hK h37 (by simp only [ByteArray.size_extract] at htl; omega) fun b => ?_
  unfold Later
  simp (disch := omega) only [↓wD,wU,↓reduceIte,reduceLT,reduceEqDiff,reduceAdd,h0,h3,h4]
  cases b
  ·simp (disch := omega) only [↓wD,wU,↓reduceIte,reduceLT,reduceEqDiff,reduceAdd,h0,h3,h4]
   exact hQ' _ _ ha
  ·simp (disch := omega) only [↓wD,wU,↓reduceIte,reduceLT,reduceEqDiff,reduceAdd,h0,h3,h4]
   refine hI _ _ _ (show m - 1 < m by omega) ?_
   exact ⟨_,i + 1,rfl,h0,h3,rfl,by omega,rfl⟩
 ·simp (disch := omega) only [↓wD,wU,↓reduceIte,reduceLT,reduceEqDiff,reduceAdd,h0,h3,h4,hik]
  exact hQ' _ _ ha
def r16 : ACode := F16.body.snd.snd
theorem b16 : F16.body = .seq (.ops [⟨some 4,.mv (.const (.string ⟨#[]⟩)),none⟩]) (.seq F16.body.snd.fst r16) := rfl
theorem r16_ok {K : Cx} (hK : Cfg K) (h36 : Is K.P K.G0 36 F36) {s : ByteArray} {H : Heap} {Q : Value → Heap → Prop} (hs : s.size ≤ 201) (hw : H.wf)
  (hQ : ∀ (t : ByteArray) (H' : Heap),t.size ≤ 1000000 → Agree H.next H H' → Q (.string t) H') (f : Nat → Value) (h1 : f 1 = .string s) : wpC K DrawD none r16 (retQ F16.results Q) (mk 79 f) H := by
 unfold r16 F16
 simp only [ACode.snd,ACode.fst]
 simp (disch := omega) only [↓wD,wU,↓reduceIte,reduceLT,reduceEqDiff,reduceAdd,h1]
 refine FC.withWf (c36 hK h36 (by omega) fun v H1 cs ho ha hn hl hall hw1 => ?_)
 unfold Later
 simp (disch := omega) only [↓wD,wU,↓reduceIte,reduceLT,reduceEqDiff,reduceAdd,h1]
 obtain ⟨a,cap,rfl,hcp,hs⟩ := ho.sl (k := cs.length) (by omega) (by decide)
 refine loop_ind (fun m E H' => ∃ (f : Nat → Value) (i k : Nat) (u : Value) (g : Nat → Value),E = mk 79 f ∧ f 5 = .slice a cs.length cap ∧ f 6 = u ∧ f 7 = .int .i64 (i : Nat) ∧ m + i = cs.length + 1 ∧ i ≤ cs.length ∧ Agree H1.next H1 H' ∧ H'.wf ∧ H1.next ≤ H'.next ∧
   Sl H' u 1 k g ∧ k ≤ i ∧ ∀ j,j < k → ∃ t : ByteArray,g j = .string t ∧ t.size ≤ s.size) (n := cs.length + 1) ?_ ?_
 ·exact ⟨_,0,0,_,fun _ => undef,rfl,rfl,rfl,rfl,rfl,by omega,.refl _ _,hw1,Nat.le_refl _,⟨none,0,rfl,by omega,.inl rfl⟩,by omega,fun j hj => by omega⟩
 rintro I m E H' ⟨f,i,k,u,g,rfl,h5,h6,h7,hm,hi,ha2,hw2,hn2,⟨a6,cap6,rfl,hcp6,hu⟩,hki,hg⟩ hI
 by_cases hik : (i : Int) < cs.length
 ·obtain ⟨b,o,rfl,hc⟩ := hs.resolve_left (by omega)
  have c0 := hc i (by omega)
  have hilt : i < cs.length := by omega
  obtain ⟨t,ht,htl⟩ := hall _ (List.getElem_mem hilt)
  simp only [getD_el hilt ht] at c0
  have hb := cellAt_lt c0
  have c1 : cellAt H' b (o + i) = some (.string t) := by rw [cellAt_agree ha2 hb]; exact c0
  simp (disch := omega) only [↓wD,wU,↓reduceIte,reduceLT,reduceEqDiff,reduceAdd,h5,h6,h7,hik,c1,Nat.mul_one]
  refine ⟨by omega,?_⟩
  split
  ·split
   ·obtain ⟨b6,o6,rfl,hc6⟩ := hu.resolve_left (by omega)
    simp (disch := omega) only [↓wD,wU,↓reduceIte,reduceLT,reduceEqDiff,reduceAdd,sliceOf]
    refine hI _ _ _ (show m - 1 < m by omega) ?_
    exact ⟨_,i + 1,k - 1,_,g,rfl,h5,rfl,rfl,by omega,by omega,ha2,hw2,hn2,⟨some ⟨b6,o6,some 1⟩,cap6,rfl,by omega,.inr ⟨_,_,rfl,fun j hj => hc6 j (by omega)⟩⟩,by omega,fun j hj => hg j (by omega)⟩
   ·refine hI _ _ _ (show m - 1 < m by omega) ?_
    exact ⟨_,i + 1,k,_,g,rfl,h5,rfl,rfl,by omega,by omega,ha2,hw2,hn2,⟨a6,cap6,h6,hcp6,hu⟩,by omega,hg⟩
  ·have key : ∀ f' : Nat → Value,f' 5 = .slice (some ⟨b,o,some 1⟩) cs.length cap → f' 6 = .slice a6 k cap6 → f' 7 = .int .i64 ((i + 1 : Nat) : Int) → I (mk 79 f') H' := fun f' g5 g6 g7 => by
    refine hI _ _ _ (show m - 1 < m by omega) ?_
    exact ⟨_,i + 1,k,_,g,rfl,g5,g6,g7,by omega,by omega,ha2,hw2,hn2,⟨a6,cap6,rfl,hcp6,hu⟩,by omega,hg⟩
   split
   ·refine ⟨by omega,by omega,?_⟩
    split
    ·refine ⟨by omega,?_⟩
     have hg2 : ((H'.reserve 2).set H'.next (some (.row [] 0 none))).get H'.next = some (.row [] 0 none) := Heap.get_set_none _ _ (wf_reserve 2 hw2) (by simp [Heap.reserve])
     have hA : Agree H'.next H' ((H'.reserve 2).set H'.next (some (.row [] 0 none))) := fun x hx => by rw [Heap.get_set_ne _ _ (by omega),get_reserve]
     have hw0 : ((H'.reserve 2).set H'.next (some (.row [] 0 none))).wf := Heap.wf_set _ _ (wf_reserve 2 hw2)
     have hsl6 : Sl H' (.slice a6 k cap6) 1 k g := ⟨a6,cap6,rfl,hcp6,hu⟩
     refine wpItems_appS (n0 := H'.next) (sliceOf H'.next 0 1 0 0) (.slice a6 k cap6) (cs := []) (m := k) (g := g) (.inr ⟨_,0,none,Nat.le_refl _,rfl,hg2,rfl,by decide⟩) (by simp (disch := omega) only [↓wD,wU,↓reduceIte,reduceLT,reduceEqDiff,reduceAdd]) (by simp (disch := omega) only [↓wD,wU,↓reduceIte,reduceLT,reduceEqDiff,reduceAdd,h6]) (hsl6.agree hA) (by decide)
      (fun b' o' k' c' e hm k2 e2 => ?_) (by simp [Heap.reserve]) (by simp only [List.length_nil,appMax]; omega) fun v3 H3 ho3 ha3 hf3 hn3 hw3 => ?_
     ·have := hsl6.lt (by decide) e hm
      unfold sliceOf at e2; cases e2; omega
     simp only [Heap.next_set,next_reserve] at hn3 hf3
     have hno : H3.get (H'.next + 1) = none := by
      rw [hf3 _ (by omega) (fun k e => by unfold sliceOf at e; simp at e),Heap.get_set_ne _ _ (by omega),get_reserve]; exact Heap.get_ge (by omega)
     have c3 : cellAt H3 b (o + i) = some (.string t) := by rw [cellAt_agree ha3 (show b < H'.next by have := hn2; omega),cellAt_agree hA (by omega)]; exact c1
     simp (disch := omega) only [↓wD,wU,↓reduceIte,reduceLT,reduceEqDiff,reduceAdd,c3]
     have hw3' := hw3 hw0
     have hg4 : (H3.set (H'.next + 1) (some (.row [.string t] 0 none))).get (H'.next + 1) = some (.row [.string t] 0 none) := Heap.get_set_none _ _ hw3' (by omega)
     have ho4 : Own H'.next (H3.set (H'.next + 1) (some (.row [.string t] 0 none))) v3 1 ([] ++ (List.range (k * 1)).map g) := ho3.frame fun b' k' c' e => Heap.get_set_ne _ _ (fun e' => by
      subst e'
      rcases ho3 with ⟨h,_⟩ | ⟨b5,k5,ty5,_,h,h',_⟩
      ·rw [h] at e; cases e
      ·rw [h] at e; unfold sliceOf at e; cases e; rw [hno] at h'; cases h')
     refine wpItems_app_own (n0 := H'.next) (v := v3) (xb := ⟨H'.next + 1,0,some 1⟩) (m := 1) (c := 1) (xs := [.string t]) (by simp (disch := omega) only [↓wD,wU,↓reduceIte,reduceLT,reduceEqDiff,reduceAdd]) ho4 (by simp (disch := omega) only [↓wD,wU,↓reduceIte,reduceLT,reduceEqDiff,reduceAdd,sliceOf]) rfl (by decide) ?_ (by decide) (fun b' k' e e' => ?_) (by simp; omega) (by simp [appMax]; omega) fun v5 H5 ho5 ha5 hf5 hn5 hw5 => ?_
     ·rw [cellsAt_row]; simp only [rowOf,hg4]; rfl
     ·subst e'
      rcases ho3 with ⟨h,_⟩ | ⟨b5,k5,ty5,_,h,h',_⟩
      ·rw [h] at e; cases e
      ·rw [h] at e; unfold sliceOf at e; cases e; rw [hno] at h'; cases h'
     simp (disch := omega) only [↓wD,wU,↓reduceIte,reduceLT,reduceEqDiff,reduceAdd,h7]
     simp only [Heap.next_set] at hn5
     refine hI _ _ _ (show m - 1 < m by omega) ?_
     refine ⟨_,i + 1,k + 1,v5,_,rfl,h5,rfl,rfl,by omega,by omega,fun x hx => ?_,hw5 (Heap.wf_set _ _ hw3'),by omega,ho5.sl (k := k + 1) (by simp) (by decide),by omega,fun j hj => ?_⟩
     ·rw [ha5 x (by omega),Heap.get_set_ne _ _ (by omega),ha3 x (by omega),hA x (by omega),ha2 x hx]
     ·by_cases hjk : j < k
      ·obtain ⟨t',ht',hl'⟩ := hg j hjk
       refine ⟨t',?_,hl'⟩
       rw [getD_el (by simp; omega)]
       rw [List.getElem_append_left (by simp; omega)]
       simp [ht']
      ·have : j = k := by omega
       subst this
       refine ⟨t,?_,htl⟩
       rw [getD_el (by simp)]
       rw [List.getElem_append_right (by simp)]
       simp
    ·apply key
     ·exact h5
     ·exact h6
     ·rfl
   ·refine ⟨by omega,?_⟩
    apply key
    ·exact h5
    ·exact h6
    ·rfl
 ·simp (disch := omega) only [↓wD,wU,↓reduceIte,reduceLT,reduceEqDiff,reduceAdd,h5,h6,h7,hik]
  have hA2 : Agree H.next H H' := ha.trans (ha2.mono hn)
  refine loop_ind (fun m E H2 => ∃ (f : Nat → Value) (i : Nat) (w : ByteArray),E = mk 79 f ∧ f 6 = .slice a6 k cap6 ∧ f 8 = .string w ∧ f 9 = .int .i64 (i : Nat) ∧ m + i = k + 1 ∧ i ≤ k ∧ w.size ≤ i * 202 ∧ H2 = H') (n := k + 1) ?_ ?_
  ·exact ⟨_,0,_,rfl,h6,rfl,rfl,rfl,by omega,Nat.le_refl _,rfl⟩
  rintro I m E H2 ⟨f,i,w,rfl,h6,h8,h9,hm,hi,hwz,rfl⟩ hI
  by_cases hik : (i : Int) < k
  ·obtain ⟨b6,o6,rfl,hc6⟩ := hu.resolve_left (by omega)
   have c0 := hc6 i (by omega)
   obtain ⟨t,ht,htl⟩ := hg i (by omega)
   rw [ht] at c0
   simp (disch := omega) only [↓wD,wU,↓reduceIte,reduceLT,reduceEqDiff,reduceAdd,h6,h8,h9,hik,c0,Nat.mul_one]
   refine ⟨by omega,?_⟩
   refine hI _ _ _ (show m - 1 < m by omega) ?_
   exact ⟨_,i + 1,_,rfl,h6,rfl,rfl,by omega,by omega,by simp only [ByteArray.size_append,size_lit,List.size_toArray,List.length_cons,List.length_nil]; omega,rfl⟩
  ·simp (disch := omega) only [↓wD,wU,↓reduceIte,reduceLT,reduceEqDiff,reduceAdd,h6,h8,h9,hik]
   split
   ·exact hQ _ _ (by decide) hA2
   ·exact hQ _ _ (by omega) hA2
theorem c16 {K : Cx} (hK : Cfg K) (h36 : Is K.P K.G0 36 F36) (hI : Is K.P K.G0 16 F16) {dir s : ByteArray} {H : Heap} {Q : Value → Heap → Prop} (hd : dir.size ≤ 100) (hs : s.size ≤ 100)
  (hQ : ∀ t : ByteArray,t.size ≤ 1000000 → Q (.string t) H) : FC K 16 [.string dir,.string s] H Q := by
 refine FC.forget (FC.wf0 fun hw => ?_)
 have hQ' : ∀ t H',t.size ≤ 1000000 → Agree H.next H H' → Agree H.next H H' ∧ Old H.next (.string t) ∧ Q (.string t) H := fun b H' hb ha => ⟨ha,.string b,hQ b hb⟩
 refine FC.of hK hI (by simp [F16]) ?_
 rw [b16]
 simp only [F16,ACode.fst,ACode.snd]
 simp (disch := omega) only [↓wD,wU,↓reduceIte,reduceLT,reduceEqDiff,reduceAdd]
 have hp : s ≠ ⟨#[]⟩ → 0 < s.size := fun hs0 => by
  rcases Nat.eq_zero_or_pos s.size with h | h
  ·exact (hs0 (by cases s; rename_i d; have : d = #[] := Array.eq_empty_of_size_eq_zero h; rw [this])).elim
  ·exact h
 have r : ∀ (f : Nat → Value) (t : ByteArray),t.size ≤ 201 → f 1 = .string t → wpC K DrawD none r16 (retQ [.tmp 4] fun v H' => Agree H.next H H' ∧ Old H.next v ∧ Q v H) (mk 79 f) H := fun f t ht h1 =>
  r16_ok (Q := fun v H' => Agree H.next H H' ∧ Old H.next v ∧ Q v H) hK h36 ht hw (fun t H' a b => hQ' t H' a b) f h1
 split
 ·apply r
  rotate_left
  ·rfl
  ·simp only [ByteArray.size_append,size_lit,List.size_toArray,List.length_cons,List.length_nil]; omega
 ·rename_i h0
  have := hp h0
  refine ⟨by omega,?_⟩
  split
  ·apply r
   rotate_left
   ·rfl
   ·simp only [ByteArray.size_append,size_lit,List.size_toArray,List.length_cons,List.length_nil]; omega
  ·apply r
   rotate_left
   ·rfl
   ·omega
end Go.Ae
namespace Go.Ae
open Nat (reduceLT reduceEqDiff reduceSub reduceAdd reduceMul reduceLeDiff)
open Int (reduceToNat)
open Go
set_option maxRecDepth 100000
structure Tb where
 v : Value
 n : Nat
 g : Nat → Value
 s : Nat → ByteArray
def Tb.ok (t : Tb) (H : Heap) : Prop := Sl H t.v 2 t.n t.g ∧ ∀ j,j < t.n * 2 → t.g j = .string (t.s j)
structure Fl where
 v : Value
 n : Nat
 g : Nat → Value
 p : Nat → ByteArray
 k : Nat → Int
def Fl.ok (t : Fl) (H : Heap) : Prop := Sl H t.v 2 t.n t.g ∧ ∀ j,j < t.n → t.g (j * 2) = .string (t.p j) ∧ t.g (j * 2 + 1) = .int .i64 (t.k j)
structure Sp where
 va : Value
 ka : Nat
 ga : Nat → Value
 ia : Nat → Int
 vw : Value
 kw : Nat
 gw : Nat → Value
 sw : Nat → ByteArray
 s1 : ByteArray
 s2 : ByteArray
 s3 : ByteArray
 s4 : ByteArray
def Sp.ok (t : Sp) (H : Heap) : Prop := Sl H t.va 1 t.ka t.ga ∧ (∀ j,j < t.ka → t.ga j = .int .i64 (t.ia j)) ∧ Sl H t.vw 1 t.kw t.gw ∧ ∀ j,j < t.kw → t.gw j = .string (t.sw j)
structure Sps where
 v : Value
 n : Nat
 g : Nat → Value
 nm : Nat → ByteArray
 sp : Nat → Sp
def Sps.ok (t : Sps) (H : Heap) : Prop := Sl H t.v 7 t.n t.g ∧ ∀ j,j < t.n → (t.sp j).ok H ∧ t.g (j * 7) = .string (t.nm j) ∧ t.g (j * 7 + 1) = (t.sp j).va ∧ t.g (j * 7 + 2) = (t.sp j).vw ∧ t.g (j * 7 + 3) = .string (t.sp j).s1 ∧
 t.g (j * 7 + 4) = .string (t.sp j).s2 ∧ t.g (j * 7 + 5) = .string (t.sp j).s3 ∧ t.g (j * 7 + 6) = .string (t.sp j).s4
structure Wd where
 fl : Fl
 dir : ByteArray
 t1 : Tb
 t2 : Tb
 t3 : Tb
 t4 : Tb
 sp : Sps
def Wd.ok (w : Wd) (H : Heap) : Prop := w.fl.ok H ∧ w.t1.ok H ∧ w.t2.ok H ∧ w.t3.ok H ∧ w.t4.ok H ∧ w.sp.ok H
def Wd.v (w : Wd) : Value := .agg #[w.fl.v,.string w.dir,w.t1.v,w.t2.v,w.t3.v,w.t4.v,w.sp.v]
theorem Tb.ok.agree {t : Tb} {H H' : Heap} (h : t.ok H) (ha : Agree H.next H H') : t.ok H' := ⟨h.1.agree ha,h.2⟩
theorem Fl.ok.agree {t : Fl} {H H' : Heap} (h : t.ok H) (ha : Agree H.next H H') : t.ok H' := ⟨h.1.agree ha,h.2⟩
theorem Sps.ok.agree {t : Sps} {H H' : Heap} (h : t.ok H) (ha : Agree H.next H H') : t.ok H' :=
 ⟨h.1.agree ha,fun j hj => ⟨⟨(h.2 j hj).1.1.agree ha,(h.2 j hj).1.2.1,(h.2 j hj).1.2.2.1.agree ha,(h.2 j hj).1.2.2.2⟩,(h.2 j hj).2⟩⟩
theorem Wd.ok.agree {w : Wd} {H H' : Heap} (h : w.ok H) (ha : Agree H.next H H') : w.ok H' := ⟨h.1.agree ha,h.2.1.agree ha,h.2.2.1.agree ha,h.2.2.2.1.agree ha,h.2.2.2.2.1.agree ha,h.2.2.2.2.2.agree ha⟩
def Tb.light (t : Tb) : Prop := t.n ≤ 20 ∧ ∀ j,j < t.n * 2 → (t.s j).size ≤ 100
structure Wd.light (w : Wd) : Prop where
 files : w.fl.n ≤ 20 ∧ ∀ j,j < w.fl.n → (w.fl.p j).size ≤ 100
 dir : w.dir.size ≤ 100
 t1 : w.t1.light
 t2 : w.t2.light
 t3 : w.t3.light
 t4 : w.t4.light
 sp : w.sp.n ≤ 10 ∧ ∀ j,j < w.sp.n → (w.sp.nm j).size ≤ 100
structure LightIs (K : Cx) : Prop where
 i6 : Is K.P K.G0 6 F6
 i15 : Is K.P K.G0 15 F15
 i16 : Is K.P K.G0 16 F16
 i17 : Is K.P K.G0 17 F17
 i18 : Is K.P K.G0 18 F18
 i36 : Is K.P K.G0 36 F36
 i37 : Is K.P K.G0 37 F37
theorem c6 {K : Cx} (hK : Cfg K) (hL : LightIs K) {w : Wd} {H : Heap} {Q : Value → Heap → Prop} (hw : w.ok H) (hQ : ∀ b : Bool,(b = true → w.light) → Q (.bool b) H) : FC K 6 [w.v] H Q := by
 refine FC.forget ?_
 have hQ' : ∀ b H',(b = true → w.light) → Agree H.next H H' → Agree H.next H H' ∧ Old H.next (.bool b) ∧ Q (.bool b) H := fun b H' hb ha => ⟨ha,.bool b,hQ b hb⟩
 refine FC.of hK hL.i6 (by simp [F6]) ?_
 unfold F6 Wd.v
 have hA : ∀ o,Agree H.next H (H.push o) := fun o => Agree.push o (Nat.le_refl _)
 obtain ⟨af,capf,ef,hcpf,hsf⟩ := hw.1.1
 obtain ⟨asp,capsp,esp,hcpsp,hssp⟩ := hw.2.2.2.2.2.1
 rw [ef,esp]
 simp (disch := omega) only [↓wD,wU,↓reduceIte,reduceLT,reduceEqDiff,reduceSub,reduceAdd]
 split
 ·exact hQ' _ _ (by simp) (hA _)
 split
 ·exact hQ' _ _ (by simp) (hA _)
 split
 ·exact hQ' _ _ (by simp) (hA _)
 refine c16 hK hL.i36 hL.i16 (by decide) (by omega) fun t ht => ?_
 unfold Later
 simp (disch := omega) only [↓wD,wU,↓reduceIte,reduceLT,reduceEqDiff,reduceSub,reduceAdd]
 refine c15 hK hL.i36 hL.i37 hL.i15 (by omega) fun b => ?_
 unfold Later
 simp (disch := omega) only [↓wD,wU,↓reduceIte,reduceLT,reduceEqDiff,reduceSub,reduceAdd]
 cases b
 ·simp (disch := omega) only [↓wD,wU,↓reduceIte,reduceLT,reduceEqDiff,reduceSub,reduceAdd]
  exact hQ' _ _ (by simp) (hA _)
 simp (disch := omega) only [↓wD,wU,↓reduceIte,reduceLT,reduceEqDiff,reduceSub,reduceAdd]
 refine c17 hK hL.i17 (hw.2.1.agree (hA _)).1 hw.2.1.2 fun b h1 => ?_
 unfold Later
 simp (disch := omega) only [↓wD,wU,↓reduceIte,reduceLT,reduceEqDiff,reduceSub,reduceAdd]
 cases b
 ·simp (disch := omega) only [↓wD,wU,↓reduceIte,reduceLT,reduceEqDiff,reduceSub,reduceAdd]
  exact hQ' _ _ (by simp) (hA _)
 simp (disch := omega) only [↓wD,wU,↓reduceIte,reduceLT,reduceEqDiff,reduceSub,reduceAdd]
 refine c17 hK hL.i17 (hw.2.2.1.agree (hA _)).1 hw.2.2.1.2 fun b h2 => ?_
 unfold Later
 simp (disch := omega) only [↓wD,wU,↓reduceIte,reduceLT,reduceEqDiff,reduceSub,reduceAdd]
 cases b
 ·simp (disch := omega) only [↓wD,wU,↓reduceIte,reduceLT,reduceEqDiff,reduceSub,reduceAdd]
  exact hQ' _ _ (by simp) (hA _)
 simp (disch := omega) only [↓wD,wU,↓reduceIte,reduceLT,reduceEqDiff,reduceSub,reduceAdd]
 refine c17 hK hL.i17 (hw.2.2.2.1.agree (hA _)).1 hw.2.2.2.1.2 fun b h3 => ?_
 unfold Later
 simp (disch := omega) only [↓wD,wU,↓reduceIte,reduceLT,reduceEqDiff,reduceSub,reduceAdd]
 cases b
 ·simp (disch := omega) only [↓wD,wU,↓reduceIte,reduceLT,reduceEqDiff,reduceSub,reduceAdd]
  exact hQ' _ _ (by simp) (hA _)
 simp (disch := omega) only [↓wD,wU,↓reduceIte,reduceLT,reduceEqDiff,reduceSub,reduceAdd]
 refine c17 hK hL.i17 (hw.2.2.2.2.1.agree (hA _)).1 hw.2.2.2.2.1.2 fun b h4 => ?_
 unfold Later
 simp (disch := omega) only [↓wD,wU,↓reduceIte,reduceLT,reduceEqDiff,reduceSub,reduceAdd]
 cases b
 ·simp (disch := omega) only [↓wD,wU,↓reduceIte,reduceLT,reduceEqDiff,reduceSub,reduceAdd]
  exact hQ' _ _ (by simp) (hA _)
 simp (disch := omega) only [↓wD,wU,↓reduceIte,reduceLT,reduceEqDiff,reduceSub,reduceAdd]
 refine loop_ind (fun m E H' => ∃ (f : Nat → Value) (i : Nat),E = mk 92 f ∧ f 1 = .pointer (some ⟨H.next,0,none⟩) ∧ f 3 = .int .i64 (i : Nat) ∧ m + i = w.fl.n + 1 ∧ (∀ j,j < i → (w.fl.p j).size ≤ 100) ∧
   H' = H.push (.row [.slice af w.fl.n capf,.string w.dir,w.t1.v,w.t2.v,w.t3.v,w.t4.v,.slice asp w.sp.n capsp] 0 (some 26))) (n := w.fl.n + 1) ?_ ?_
 ·exact ⟨_,0,rfl,rfl,rfl,rfl,fun j hj => by omega,rfl⟩
 rintro I m E H' ⟨f,i,rfl,f1,f3,hm,hall,rfl⟩ hI
 by_cases hik : (i : Int) < w.fl.n
 ·obtain ⟨b,o,rfl,hc⟩ := hsf.resolve_left (by omega)
  have c0 := hc (i * 2) (by omega)
  have hlt := cellAt_lt c0
  rw [(hw.1.2 i (by omega)).1] at c0
  simp (disch := omega) only [↓wD,wU,↓reduceIte,reduceLT,reduceEqDiff,reduceSub,reduceAdd,f1,f3,hik,c0]
  refine ⟨by omega,?_⟩
  split
  ·exact hQ' _ _ (by simp) (hA _)
  ·refine hI _ _ _ (show m - 1 < m by omega) ?_
   refine ⟨_,i + 1,rfl,f1,rfl,by omega,fun j hj => ?_,rfl⟩
   rcases (show j < i ∨ j = i by omega) with h | rfl
   ·exact hall j h
   ·omega
 simp (disch := omega) only [↓wD,wU,↓reduceIte,reduceLT,reduceEqDiff,reduceSub,reduceAdd,f1,f3,hik]
 have hfl : ∀ j,j < w.fl.n → (w.fl.p j).size ≤ 100 := fun j hj => hall j (by omega)
 clear hI hall hm
 refine loop_ind (fun m E H' => ∃ (f : Nat → Value) (i : Nat),E = mk 92 f ∧ f 1 = .pointer (some ⟨H.next,0,none⟩) ∧ f 4 = .int .i64 (i : Nat) ∧ m + i = w.sp.n + 1 ∧ (∀ j,j < i → (w.sp.nm j).size ≤ 100) ∧
   H' = H.push (.row [.slice af w.fl.n capf,.string w.dir,w.t1.v,w.t2.v,w.t3.v,w.t4.v,.slice asp w.sp.n capsp] 0 (some 26))) (n := w.sp.n + 1) ?_ ?_
 ·exact ⟨_,0,rfl,f1,rfl,rfl,fun j hj => by omega,rfl⟩
 rintro I m E H' ⟨f,i,rfl,f1,f4,hm,hall,rfl⟩ hI
 by_cases hik : (i : Int) < w.sp.n
 ·obtain ⟨b,o,rfl,hc⟩ := hssp.resolve_left (by omega)
  have c0 := hc (i * 7) (by omega)
  have hlt := cellAt_lt c0
  obtain ⟨q0,q1,q2,q3,q4,q5,q6,q7⟩ := hw.2.2.2.2.2.2 i (by omega)
  rw [q1] at c0
  have c6 : ∀ x,cellsAt (H.push x) b (o + (i * 7 + 1)) 6 = some [(w.sp.sp i).va,(w.sp.sp i).vw,.string (w.sp.sp i).s1,.string (w.sp.sp i).s2,.string (w.sp.sp i).s3,.string (w.sp.sp i).s4] := fun x => by
   rw [cellsAt_of (g := fun j => w.sp.g (i * 7 + 1 + j)) (by decide) (fun j hj => by rw [cellAt_push hlt,Nat.add_assoc]; exact hc _ (by omega))]
   show some [w.sp.g (i * 7 + 1),w.sp.g (i * 7 + 2),w.sp.g (i * 7 + 3),w.sp.g (i * 7 + 4),w.sp.g (i * 7 + 5),w.sp.g (i * 7 + 6)] = _
   rw [q2,q3,q4,q5,q6,q7]
  simp (disch := omega) only [↓wD,wU,↓reduceIte,reduceLT,reduceEqDiff,reduceSub,reduceAdd,f1,f4,hik,c0,c6]
  refine ⟨by omega,?_⟩
  split
  ·exact hQ' _ _ (by simp) (hA _)
  ·refine ⟨by omega,?_⟩
   refine c18 hK hL.i18 (q0.1.agree (hA _)) (q0.2.2.1.agree (hA _)) q0.2.2.2 fun b => ?_
   unfold Later
   simp (disch := omega) only [↓wD,wU,↓reduceIte,reduceLT,reduceEqDiff,reduceSub,reduceAdd,f1,f4]
   cases b
   ·simp (disch := omega) only [↓wD,wU,↓reduceIte,reduceLT,reduceEqDiff,reduceSub,reduceAdd,f1,f4]
    exact hQ' _ _ (by simp) (hA _)
   ·simp (disch := omega) only [↓wD,wU,↓reduceIte,reduceLT,reduceEqDiff,reduceSub,reduceAdd,f1,f4]
    refine hI _ _ _ (show m - 1 < m by omega) ?_
    refine ⟨_,i + 1,rfl,f1,rfl,by omega,fun j hj => ?_,rfl⟩
    rcases (show j < i ∨ j = i by omega) with h | rfl
    ·exact hall j h
    ·omega
 simp (disch := omega) only [↓wD,wU,↓reduceIte,reduceLT,reduceEqDiff,reduceSub,reduceAdd,f1,f4,hik]
 exact hQ' _ _ (fun _ => ⟨⟨by omega,hfl⟩,by omega,h1 rfl,h2 rfl,h3 rfl,h4 rfl,by omega,fun j hj => hall j (by omega)⟩) (hA _)
end Go.Ae
namespace Go.Ae
open Nat (reduceLT reduceEqDiff reduceSub reduceAdd reduceMul reduceLeDiff)
open Int (reduceToNat)
open Go
set_option maxRecDepth 100000
def Ent (lo : Nat) (H : Heap) (v : Value) (k : Nat) : Prop :=
 (v = .slice none 0 0 ∧ k = 0) ∨ ∃ b c xs rest ty,lo ≤ b ∧ v = .slice (some ⟨b,0,some 2⟩) k c ∧ k ≤ c ∧ H.get b = some (.row (xs ++ rest) 0 ty) ∧ xs.length = k * 2 ∧ ∀ x ∈ xs,∃ s,x = .string s
structure Tbl (H : Heap) (tb : Nat) (k : Nat) : Prop where
 row : ∃ kd v,H.get tb = some (.row [.int .i64 kd,v] 0 (some 184)) ∧ Ent (tb + 1) H v k
theorem Ent.agree {lo k : Nat} {H H' : Heap} {v : Value} (h : Ent lo H v k) (ha : ∀ b,lo ≤ b → b < H.next → H'.get b = H.get b) : Ent lo H' v k := by
 rcases h with h | ⟨b,c,xs,rest,ty,h1,h2,h3,h4,h5,h6⟩
 ·exact .inl h
 ·exact .inr ⟨b,c,xs,rest,ty,h1,h2,h3,by rw [ha b h1 (Heap.lt_of_get h4)]; exact h4,h5,h6⟩
theorem Ent.val {lo k : Nat} {H : Heap} {v : Value} (h : Ent lo H v k) : ∃ a c,v = .slice a k c ∧ k ≤ c ∧ (a = none → k = 0) := by
 rcases h with ⟨rfl,rfl⟩ | ⟨b,c,xs,rest,ty,h1,h2,h3,h4,h5,h6⟩
 ·exact ⟨none,0,rfl,Nat.le_refl _,fun _ => rfl⟩
 ·exact ⟨_,c,h2,h3,fun h => (by cases h)⟩
theorem Ent.cell {lo k j : Nat} {H : Heap} {v : Value} (h : Ent lo H v k) (hj : j < k) : ∃ b c s t,v = .slice (some ⟨b,0,some 2⟩) k c ∧ lo ≤ b ∧ cellAt H b (j * 2) = some (.string s) ∧ cellAt H b (j * 2 + 1) = some (.string t) := by
 rcases h with ⟨rfl,rfl⟩ | ⟨b,c,xs,rest,ty,h1,h2,h3,h4,h5,h6⟩
 ·omega
 ·obtain ⟨s,hs⟩ := h6 (xs[j * 2]'(by omega)) (List.getElem_mem _)
  obtain ⟨t,ht⟩ := h6 (xs[j * 2 + 1]'(by omega)) (List.getElem_mem _)
  refine ⟨b,c,s,t,h2,h1,?_,?_⟩
  ·rw [cellAt_of h4,List.getElem?_append_left (by omega),List.getElem?_eq_getElem (by omega),hs]
  ·rw [cellAt_of h4,List.getElem?_append_left (by omega),List.getElem?_eq_getElem (by omega),ht]
structure TabIs (K : Cx) : Prop extends ClassIs K where
 x218 : ∀ (args : List Value) (H : Heap) (Q : Value → Heap → Prop),((spCmp args H).sat fun p => Q p.1 p.2) → FC K 218 args H Q
 i194 : Is K.P K.G0 194 F194
 i162 : Is K.P K.G0 162 F162
 i161 : Is K.P K.G0 161 F161
 i160 : Is K.P K.G0 160 F160
 i114 : Is K.P K.G0 114 F114
 i113 : Is K.P K.G0 113 F113
 i73 : Is K.P K.G0 73 F73
 i74 : Is K.P K.G0 74 F74
 i46 : Is K.P K.G0 46 F46
 x115 : ∀ (lo k i : Nat) (v : Value) (s t : ByteArray) (H : Heap) (Q : Value → Heap → Prop),H.wf → lo ≤ H.next → Ent lo H v k → i ≤ k → k ≤ 1000 →
  (∀ v' H',H'.wf → Ent lo H' v' (k + 1) → (∀ b,b < lo → H'.get b = H.get b) → H.next ≤ H'.next → Q v' H') → FC K 115 [v,.int .i64 (i : Nat),sliceOf H.next 0 2 1 1] (H.push (.row [.string s,.string t] 0 none)) Q
theorem c194 {K : Cx} (hK : Cfg K) (hS : TabIs K) {s t : ByteArray} {H : Heap} {Q : Value → Heap → Prop} (hQ : Q (.int .i64 (cmpL s.data.toList t.data.toList)) H) : FC K 194 [.string s,.string t] H Q := by
 refine FC.of hK hS.i194 (by simp [F194]) ?_
 unfold F194
 simp (disch := omega) only [↓wD,wU,↓reduceIte,reduceLT,reduceEqDiff,reduceAdd]
 refine hS.x218 _ _ _ ?_
 show Later _ _ _ _ _ _ _
 unfold Later
 simp (disch := omega) only [↓wD,wU,↓reduceIte,reduceLT,reduceEqDiff,reduceAdd]
 exact hQ
theorem c162 {K : Cx} (hK : Cfg K) (hS : TabIs K) {s t : ByteArray} {H : Heap} {Q : Value → Heap → Prop} (hQ : Q (.int .i64 (cmpL s.data.toList t.data.toList)) H) : FC K 162 [.string s,.string t] H Q := by
 refine FC.of hK hS.i162 (by simp [F162]) ?_
 unfold F162
 simp (disch := omega) only [↓wD,wU,↓reduceIte,reduceLT,reduceEqDiff,reduceAdd]
 refine c194 hK hS ?_
 unfold Later
 simp (disch := omega) only [↓wD,wU,↓reduceIte,reduceLT,reduceEqDiff,reduceAdd]
 exact hQ
theorem c161 {K : Cx} (hK : Cfg K) (hS : TabIs K) {s t u : ByteArray} {H : Heap} {Q : Value → Heap → Prop} (hQ : Q (.int .i64 (cmpL s.data.toList u.data.toList)) H) : FC K 161 [.agg #[.string s,.string t],.string u] H Q := by
 refine FC.forget ?_
 refine FC.of hK hS.i161 (by simp [F161]) ?_
 unfold F161
 simp (disch := omega) only [↓wD,wU,↓reduceIte,reduceLT,reduceEqDiff,reduceAdd]
 refine c162 hK hS ?_
 unfold Later
 simp (disch := omega) only [↓wD,wU,↓reduceIte,reduceLT,reduceEqDiff,reduceAdd]
 exact ⟨Agree.push _ (Nat.le_refl _),.int _ _,hQ⟩
theorem wrap_u64 {x : Int} (h : 0 ≤ x ∧ x ≤ 18446744073709551615) : IntKind.u64.wrap x = x := by
 simp [IntKind.wrap,IntKind.bits,IntKind.signed]; omega
theorem shr1 (i j : Nat) : abin .shr (.int .u64 ((i : Int) + (j : Int))) (.int .u64 1) = some (.int .u64 (((i + j) / 2 : Nat) : Int)) := by
 simp only [abin]
 rw [if_neg (by omega)]
 have e : min (Int.toNat 1) (IntKind.bits IntKind.u64) = 1 := by decide
 rw [e]
 have : ((i : Int) + (j : Int)).fdiv (2 ^ 1) = (((i + j) / 2 : Nat) : Int) := by
  rw [Int.fdiv_eq_ediv_of_nonneg _ (by decide)]
  omega
 rw [this]
theorem c160 {K : Cx} (hK : Cfg K) (hS : TabIs K) {lo k : Nat} {v : Value} {u : ByteArray} {H : Heap} {Q : Value → Heap → Prop} (hv : Ent lo H v k) (hk : k ≤ 1000000)
  (hQ : ∀ (n : Nat) (b : Bool),n ≤ k → (b = true → n < k) → Q (.tuple #[.int .i64 (n : Nat),.bool b]) H) : FC K 160 [v,.string u,.func (.func 161) #[] #[]] H Q := by
 refine FC.of hK hS.i160 (by simp [F160]) ?_
 unfold F160
 have hcells : ∀ j,j < k → ∃ b c s t,v = .slice (some ⟨b,0,some 2⟩) k c ∧ cellsAt H b (j * 2) 2 = some [.string s,.string t] := fun j hj => by
  obtain ⟨b,c,s,t,h1,_,h2,h3⟩ := hv.cell hj
  refine ⟨b,c,s,t,h1,?_⟩
  rw [cellsAt_of (g := fun i => if i = 0 then .string s else .string t) (by decide) (fun i hi => by
   rcases (show i = 0 ∨ i = 1 by omega) with rfl | rfl
   ·exact h2
   ·exact h3)]
  rfl
 obtain ⟨a,cap,rfl,hcap,hnil⟩ := hv.val
 simp (disch := omega) only [↓wD,wU,↓reduceIte,reduceLT,reduceEqDiff,reduceAdd]
 refine loop_ind (fun m E G => ∃ (f : Nat → Value) (i j : Nat),E = mk 49 f ∧ f 0 = .slice a k cap ∧ f 1 = .string u ∧ f 2 = .func (.func 161) #[] #[] ∧ f 8 = .int .i64 (k : Nat) ∧ f 9 = .int .i64 (i : Nat) ∧ f 10 = .int .i64 (j : Nat) ∧ i ≤ j ∧ j ≤ k ∧ m = j - i ∧ G = H) (n := k) ?_ ?_
 ·exact ⟨_,0,k,rfl,rfl,rfl,rfl,rfl,rfl,rfl,Nat.zero_le _,Nat.le_refl _,rfl,rfl⟩
 rintro I m E G ⟨f,i,j,rfl,f0,f1,f2,f8,f9,f10,hij,hjk,rfl,rfl⟩ hI
 by_cases hlt : (i : Int) < (j : Int)
 ·obtain ⟨b,c,s,t,e,hc⟩ := hcells ((i + j) / 2) (by omega)
  cases e
  simp (disch := omega) only [↓wD,wU,↓reduceIte,reduceLT,reduceEqDiff,reduceAdd,f0,f1,f2,f8,f9,f10,hlt,wrap_u64,shr1,hc]
  refine ⟨by omega,?_⟩
  refine c161 hK hS ?_
  unfold Later
  simp (disch := omega) only [↓wD,wU,↓reduceIte,reduceLT,reduceEqDiff,reduceAdd,f0,f1,f2,f8,f9,f10]
  split
  ·refine hI (j - ((i + j) / 2 + 1)) _ _ (by omega) ?_
   exact ⟨_,(i + j) / 2 + 1,j,rfl,f0,f1,f2,f8,rfl,f10,by omega,hjk,rfl,rfl⟩
  ·refine hI ((i + j) / 2 - i) _ _ (by omega) ?_
   exact ⟨_,i,(i + j) / 2,rfl,f0,f1,f2,f8,f9,rfl,by omega,by omega,rfl,rfl⟩
 ·simp (disch := omega) only [↓wD,wU,↓reduceIte,reduceLT,reduceEqDiff,reduceAdd,f0,f1,f2,f8,f9,f10,hlt]
  split
  ·obtain ⟨b,c,s,t,e,hc⟩ := hcells i (by omega)
   cases e
   simp (disch := omega) only [↓wD,wU,↓reduceIte,reduceLT,reduceEqDiff,reduceAdd,f0,f1,f2,f8,f9,f10,hc]
   refine ⟨by omega,?_⟩
   refine c161 hK hS ?_
   unfold Later
   simp (disch := omega) only [↓wD,wU,↓reduceIte,reduceLT,reduceEqDiff,reduceAdd,f0,f1,f2,f8,f9,f10]
   exact hQ i _ (by omega) (fun _ => by omega)
  ·exact hQ i _ (by omega) (by simp)
end Go.Ae
