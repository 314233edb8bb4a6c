/- Part 27 of the proof of the law: Ce34. No condition. -/
import Derived.Test.YtalflgbdhjjlkaaGreatDoorP26
set_option linter.all false
namespace Go.Ae
open Nat (reduceLT reduceEqDiff reduceSub reduceAdd reduceMul reduceLeDiff)
open Int (reduceToNat)
open Go
set_option maxRecDepth 100000
def okU : List Un → Un → Prop := fun L _ => L.length ≤ 30000
def unB (q : Bool) (b : UInt8) : Un := ⟨b,false,q⟩
def unitsOf (a : Pc) : List Un := if a.2.data.toList = [] then (if a.1 = true then [⟨0,true,true⟩] else []) else a.2.data.toList.map (unB a.1)
theorem unitsOf_len (a : Pc) : (unitsOf a).length ≤ a.2.data.toList.length + 1 := by
 unfold unitsOf
 split
 ·split <;> simp
 ·simp
def lp168 : ACode := (.block 2
     (.loop
      (.seq (.ops [⟨some 29,.bin .lss (.tmp 28) (.tmp 27),none⟩])
      (.seq (.cond (.tmp 29)
       .skip
       (.exit 2))
      (.seq (.block 3
       (.seq (.ops [⟨some 30,.mv (.tmp 28),none⟩,
        ⟨some 5,.mv (.tmp 30),none⟩])
       (.seq (.draw 0 [.run ⟨some 31,.mv (.tmp 0),none⟩,
        .run ⟨some 32,.faddr (.tmp 4) 2,none⟩,
        .run ⟨some 34,.mv (.tmp 5),none⟩,
        .run ⟨some 36,.faddr (.tmp 4) 1,none⟩,
        .run ⟨some 38,.faddr (.tmp 4) 0,none⟩,
        .run ⟨some 33,.load (.tmp 32) none,none⟩,
        .run ⟨some 35,.strAt (.tmp 33) (.tmp 34),none⟩,
        .run ⟨some 37,.load (.tmp 36) none,none⟩,
        .run ⟨some 39,.load (.tmp 38) none,none⟩,
        .run ⟨some 40,.mv (.tmp 39),none⟩,
        .run ⟨some 41,.faddr (.tmp 4) 1,(some (40,true))⟩,
        .run ⟨some 42,.load (.tmp 41) none,(some (40,true))⟩,
        .run ⟨some 43,.un .not (.tmp 42),(some (40,true))⟩,
        .run ⟨some 44,.pick (.tmp 40) (.tmp 43) (.const (.bool false)),none⟩,
        .run ⟨some 45,.build [(.int .u8 0),(.bool false),(.bool false),(.bool false)] [(0,1,.tmp 35),(2,1,.tmp 37),(3,1,.tmp 44)],none⟩,
        .run ⟨some 46,.call (.tmp 31) [.tmp 45],none⟩,
        .run ⟨some 47,.un .not (.tmp 46),none⟩])
       (.cond (.tmp 47)
        .ret
        .skip))))
      (.ops [⟨some 48,.bin .add (.tmp 28) (.const (.int .i64 1)),none⟩,
       ⟨some 28,.mv (.tmp 48),none⟩]))))))
theorem body168 : F168.body = (.seq (.ops [⟨some 6,.load (.tmp 1) none,none⟩,
  ⟨some 7,.lenL (.tmp 6),none⟩,
  ⟨some 8,.mv (.const (.int .i64 0)),none⟩])
 (.block 0
  (.loop
   (.seq (.ops [⟨some 9,.bin .lss (.tmp 8) (.tmp 7),none⟩])
   (.seq (.cond (.tmp 9)
    .skip
    (.exit 0))
   (.seq (.block 1
    (.seq (.ops [⟨some 10,.idx (.tmp 6) (.tmp 8) 3,none⟩,
     ⟨some 11,.load (.tmp 10) (some 3),none⟩,
     ⟨some 4,.new [(.bool false),(.bool false),(.string ⟨#[]⟩)] 103,none⟩,
     ⟨none,.store (.tmp 4) (.tmp 11) 3,none⟩])
    (.seq (.seq (.ops [⟨some 12,.faddr (.tmp 4) 2,none⟩,
     ⟨some 13,.load (.tmp 12) none,none⟩,
     ⟨some 14,.eqv false (.scalar .str) (.tmp 13) (.const (.string ⟨#[]⟩)),none⟩,
     ⟨some 15,.mv (.tmp 14),none⟩,
     ⟨some 16,.faddr (.tmp 4) 1,(some (15,true))⟩,
     ⟨some 17,.load (.tmp 16) none,(some (15,true))⟩,
     ⟨some 18,.pick (.tmp 15) (.tmp 17) (.const (.bool false)),none⟩,
     ⟨some 19,.mv (.tmp 18),none⟩,
     ⟨some 20,.mv (.tmp 0),(some (19,true))⟩,
     ⟨some 21,.build [(.int .u8 0),(.bool false),(.bool false),(.bool false)] [(1,1,(.const (.bool true))),(2,1,(.const (.bool true)))],(some (19,true))⟩,
     ⟨some 22,.call (.tmp 20) [.tmp 21],(some (19,true))⟩,
     ⟨some 23,.un .not (.tmp 22),(some (19,true))⟩,
     ⟨some 24,.pick (.tmp 19) (.tmp 23) (.const (.bool false)),none⟩])
    (.cond (.tmp 24)
     .ret
     .skip))
    (.seq (.ops [⟨some 25,.faddr (.tmp 4) 2,none⟩,
     ⟨some 26,.load (.tmp 25) none,none⟩,
     ⟨some 27,.lenS (.tmp 26),none⟩,
     ⟨some 28,.mv (.const (.int .i64 0)),none⟩])
    lp168))))
   (.ops [⟨some 49,.bin .add (.tmp 8) (.const (.int .i64 1)),none⟩,
    ⟨some 8,.mv (.tmp 49),none⟩]))))))) := rfl
section
variable {K : Cx} {H : Heap}
theorem upv_ne {f : Nat → Value} {t x : Nat} {v : Value} (h : x ≠ t) : upv f t v x = f x := by unfold upv; rw [if_neg h]
theorem t168 {l g : Nat} {J : List Un → Names → Heap → Prop} (hY : Yd K l encU okU J) {D0 : Names} {U : List Un} {q : Bool} {t : ByteArray} {f : Nat → Value} {X : AExit → List Value → Heap → Prop} (hw : H.wf) (hg : H.get g = some (.row [.bool false,.bool q,.string t] 0 (some 103))) (hd : ¬ D0 g) (hJ : J U D0 H)
  (hlen : U.length + t.size ≤ 30000) (f0 : f 0 = .func (.yield l) #[] #[]) (f4 : f 4 = .pointer (some ⟨g,0,none⟩)) (f27 : f 27 = .int .i64 (t.size : Nat)) (f28 : f 28 = .int .i64 0)
  (hX : ∀ f' H' D',(∀ x,x < 28 → x ≠ 5 → f' x = f x) → J (U ++ t.data.toList.map (unB q)) D' H' → Mvd H H' D0 D' → X .normal (mk 50 f') H') : wpC K DrawD none lp168 X (mk 50 f) H := by
 unfold lp168
 simp (disch := omega) only [↓wD,wU,↓reduceIte,reduceLT,reduceEqDiff,reduceSub,reduceAdd,reduceLeDiff]
 have hsz := size_data t
 refine loop_ind (fun m E H' => ∃ (f' : Nat → Value) (j : Nat) (D : Names),E = mk 50 f' ∧ (∀ x,x < 28 → x ≠ 5 → f' x = f x) ∧ f' 28 = .int .i64 (j : Nat) ∧ m + j = t.size + 1 ∧ j ≤ t.size ∧ J (U ++ (t.data.toList.take j).map (unB q)) D H' ∧ Mvd H H' D0 D) (n := t.size + 1) ?_ ?_
 ·exact ⟨f,0,D0,rfl,fun _ _ _ => rfl,f28,by omega,by omega,by simpa using hJ,.refl hw⟩
 rintro I m E H' ⟨f',j,D,rfl,ff,g28,hm,hj,hJ',hM⟩ hI
 have g0 := (ff 0 (by decide) (by decide)).trans f0
 have g4 := (ff 4 (by decide) (by decide)).trans f4
 have g27 := (ff 27 (by decide) (by decide)).trans f27
 have gl := Heap.lt_of_get hg
 have hg' : H'.get g = some (.row [.bool false,.bool q,.string t] 0 (some 103)) := by rw [hM.get g gl hd]; exact hg
 have k0 : cellAt H' g 0 = some (.bool false) := by rw [cellAt_of hg']; rfl
 have k1 : cellAt H' g 1 = some (.bool q) := by rw [cellAt_of hg']; rfl
 have k2 : cellAt H' g 2 = some (.string t) := by rw [cellAt_of hg']; rfl
 by_cases hik : (j : Int) < t.size
 ·simp (disch := omega) only [↓wD,wU,↓reduceIte,reduceLT,reduceEqDiff,reduceSub,reduceAdd,reduceLeDiff,g0,g4,g27,g28,hik,decide_true,k0,k1,k2,skipB_u]
  refine ⟨by omega,?_⟩
  have hb : t.data.toList.take (j + 1) = t.data.toList.take j ++ [byteAt t j] := take_succ_getD _ j 0 (by omega)
  refine RC.mono (fun v5 H5 h5 => ?_) (hY.step (a := unB q (byteAt t j)) hJ' hM.wf (show (U ++ (t.data.toList.take j).map (unB q)).length ≤ 30000 by rw [List.length_append,List.length_map,List.length_take]; omega))
  obtain ⟨rfl,D5,j5,m5⟩ := h5
  unfold Later
  simp (disch := omega) only [↓wD,wU,↓reduceIte,reduceLT,reduceEqDiff,reduceSub,reduceAdd,reduceLeDiff,g0,g4,g27,g28]
  refine hI _ _ _ (show m - 1 < m by omega) ?_
  refine ⟨_,j + 1,D5,rfl,fun x hx h5 => ?_,rfl,by omega,by omega,?_,hM.trans m5⟩
  ·simp (disch := omega) only [upv_ne]
   exact ff x hx h5
  ·rw [hb,List.map_append,← List.append_assoc]; exact j5
 ·have e0 : j = t.size := by omega
  subst e0
  rw [← hsz,List.take_length] at hJ'
  simp (disch := omega) only [↓wD,wU,↓reduceIte,reduceLT,reduceEqDiff,reduceSub,reduceAdd,reduceLeDiff,g0,g4,g27,g28,hik,decide_false]
  refine hX _ H' D (fun x hx h5 => ?_) hJ' hM
  simp (disch := omega) only [upv_ne]
  exact ff x hx h5
set_option maxHeartbeats 1000000 in
theorem c121 (hK : Cfg K) (hS : FldIs K) {tm : Nat} {bt bp : Option Nat} {T P : List UInt8} {Q : Value → Heap → Prop} (hw : H.wf) (hM : Mkr H tm bt bp T P true)
  (hQ : ∀ H' b v mk,H'.get tm = some (.row [v,.slice none 0 0,.slice none 0 0,.bool false,.bool mk] 0 (some 193)) → OwO H' (some b) v 2 1 [.string ⟨T.toArray⟩,.string ⟨P.toArray⟩] → (∀ x,x < H.next → x ≠ tm → H'.get x = H.get x) → H.next ≤ H'.next → H'.wf → H.next ≤ b → Q (.tuple #[]) H') : FC K 121 [.pointer (some ⟨tm,0,none⟩)] H Q := by
 refine FC.of hK hS.i121 (by simp [F121]) ?_
 unfold F121
 obtain ⟨vt,vp,mk0,hg,ht,hp⟩ := hM.row
 have hlt := Heap.lt_of_get hg
 have c0 : cellAt H tm 0 = some (.slice none 0 0) := by rw [cellAt_of hg]; rfl
 have c1 : cellAt H tm 1 = some vt := by rw [cellAt_of hg]; rfl
 have c2 : cellAt H tm 2 = some vp := by rw [cellAt_of hg]; rfl
 have f0 : ∀ k o,cellAt (H.reserve k) tm o = cellAt H tm o := fun k o => cellAt_reserve k tm o
 simp (disch := omega) only [↓wD,wU,↓reduceIte,reduceLT,reduceEqDiff,reduceSub,reduceAdd,reduceLeDiff,c0,c1,c2,f0]
 refine wpItems_toStrO (l := T) vt (ht.frame fun x hx => get_reserve _ _) (by simp (disch := omega) only [↓wD,wU,↓reduceIte,reduceLT,reduceEqDiff,reduceSub,reduceAdd,reduceLeDiff]) ?_
 simp (disch := omega) only [↓wD,wU,↓reduceIte,reduceLT,reduceEqDiff,reduceSub,reduceAdd,reduceLeDiff,c0,c1,c2,f0]
 refine wpItems_toStrO (l := P) vp (hp.frame fun x hx => get_reserve _ _) (by simp (disch := omega) only [↓wD,wU,↓reduceIte,reduceLT,reduceEqDiff,reduceSub,reduceAdd,reduceLeDiff]) ?_
 simp (disch := omega) only [↓wD,wU,↓reduceIte,reduceLT,reduceEqDiff,reduceSub,reduceAdd,reduceLeDiff,c0,c1,c2,f0,set_reserve1]
 refine wpItems_appO (b := none) (n := 0) (cs := []) (xs := [.string ⟨T.toArray⟩,.string ⟨P.toArray⟩]) (m := 1) (.slice none 0 0) ⟨rfl,rfl,rfl⟩ (by simp (disch := omega) only [↓wD,wU,↓reduceIte,reduceLT,reduceEqDiff,reduceSub,reduceAdd,reduceLeDiff]) (by simp (disch := omega) only [↓wD,wU,↓reduceIte,reduceLT,reduceEqDiff,reduceSub,reduceAdd,reduceLeDiff]) rfl (by decide) (by decide) fun c3 H3 h7 h8 h9 h10 => ?_
 have r3 : H3.get tm = some (.row [.slice none 0 0,vt,vp,.bool true,.bool mk0] 0 (some 193)) := by rw [h8 tm hlt (by simp)]; exact hg
 have s3 : ∀ y : AObj,(H3.set tm (some y)).get tm = some y := fun y => Heap.get_set_same _ _ r3
 have ss3 : ∀ x y : Option AObj,(H3.set tm x).set tm y = H3.set tm y := fun x y => Heap.set_set H3 tm x y
 simp (disch := omega) only [↓wD,wU,↓reduceIte,reduceLT,reduceEqDiff,reduceSub,reduceAdd,reduceLeDiff,r3,s3,ss3]
 refine hQ _ (H.next + 1) _ mk0 (s3 _) (h7.frame fun x hx => ?_) (fun x h1 h2 => ?_) (by simp; omega) (Heap.wf_set _ _ (h10 hw)) (by omega)
 ·simp at hx
  rw [Heap.get_set_ne _ _ (by omega)]
 ·rw [Heap.get_set_ne _ _ (Ne.symm h2),h8 x h1 (by simp)]
set_option maxHeartbeats 1000000 in
theorem c168 (hK : Cfg K) (hS : FldIs K) {l pc : Nat} {J : List Un → Names → Heap → Prop} (hY : Yd K l encU okU J) {D0 : Names} {L : List Pc} {v : Value} {bo : Option Nat} {tyw : Option TypeId} {Q : Value → Heap → Prop}
  (hw : H.wf) (hpc : H.get pc = some (.row [v] 0 tyw)) (hol : OwO H bo v 3 L.length (L.flatMap cellsP)) (hbo : ∀ x,bo = some x → ¬ D0 x) (hJ : J [] D0 H) (hlen : (L.flatMap unitsOf).length ≤ 30000) (hLl : L.length ≤ 30000) (hsz : ∀ a ∈ L,a.2.size ≤ 30000)
  (hQ : ∀ H' D',J (L.flatMap unitsOf) D' H' → Mvd H H' D0 D' → Q (.tuple #[]) H') : FC K 168 [.func (.yield l) #[] #[],.pointer (some ⟨pc,0,none⟩)] H Q := by
 refine FC.of hK hS.i168 (by simp [F168]) ?_
 rw [body168,show F168.ntmps = 50 from rfl,show F168.results = [] from rfl]
 have cw : cellAt H pc 0 = some v := by rw [cellAt_of hpc]; rfl
 obtain ⟨av,cv,rfl,hcv⟩ := hol.val
 have hbl := hol.lt
 have hlow := hY.low hJ
 simp (disch := omega) only [↓wD,wU,↓reduceIte,reduceLT,reduceEqDiff,reduceSub,reduceAdd,reduceLeDiff,cw]
 refine loop_ind (fun m E H' => ∃ (f : Nat → Value) (i : Nat) (D : Names),E = mk 50 f ∧ f 0 = .func (.yield l) #[] #[] ∧ f 6 = .slice av L.length cv ∧ f 7 = .int .i64 (L.length : Nat) ∧ f 8 = .int .i64 (i : Nat) ∧ m + i = L.length + 1 ∧ i ≤ L.length ∧
  J ((L.take i).flatMap unitsOf) D H' ∧ Mvd H H' D0 D) (n := L.length + 1) ?_ ?_
 ·exact ⟨_,0,D0,rfl,rfl,rfl,rfl,rfl,by omega,by omega,hJ,.refl hw⟩
 rintro I m E H' ⟨f,i,D,rfl,f0,f6,f7,f8,hm,hi,hj,hM⟩ hI
 by_cases hik : (i : Int) < L.length
 ·obtain ⟨a,ha⟩ : ∃ a,L[i]? = some a := ⟨_,List.getElem?_eq_getElem (by omega)⟩
  have haL : a ∈ L := List.mem_of_getElem? ha
  have hasz := hsz a haL
  have hol' : OwO H' bo (.slice av L.length cv) 3 L.length (L.flatMap cellsP) := hol.frame fun x hx => hM.get x (hbl x hx) (hbo x hx)
  obtain ⟨b',c',rest,ty,rfl,e2,e3,e4,e5,e6⟩ := hol'.real (by omega)
  cases e2
  have hcs := flat_cells (sz := 3) (fun a => rfl) ha e4
  unfold cellsP at hcs
  have tk : L.take (i + 1) = L.take i ++ [a] := by rw [List.take_succ,ha]; rfl
  have hle : ((L.take i).flatMap unitsOf).length + (unitsOf a).length ≤ 30000 := by
   refine Nat.le_trans ?_ hlen
   conv => rhs; rw [← List.take_append_drop (i + 1) L,List.flatMap_append,List.length_append,tk,List.flatMap_append,List.length_append]
   simp
  have hlo := hY.low hj
  have hnx := hM.next
  generalize hG : H'.push (.row [.bool false,.bool a.1,.string a.2] 0 (some 103)) = G
  have wG : G.wf := by rw [← hG]; exact Heap.wf_push _ hM.wf
  have nG : G.next = H'.next + 1 := by rw [← hG]; rfl
  have kG : ∀ x,x < H'.next → G.get x = H'.get x := fun x hx => by rw [← hG,Heap.get_push_ne _ _ (by omega)]
  have gG : G.get H'.next = some (.row [.bool false,.bool a.1,.string a.2] 0 (some 103)) := by rw [← hG,Heap.get_push_same]
  have jG : J ((L.take i).flatMap unitsOf) D G := hY.loc hj (fun x hx => kG x (hlo x hx)) (by omega) wG
  have MG : Mvd H G D0 D := ⟨fun x hx hd => by rw [kG x (by omega)]; exact hM.get x hx hd,by omega,hM.new,wG⟩
  have dG : ¬ D H'.next := fun e => by have := hlo _ e; omega
  have cG0 : cellAt G H'.next 0 = some (.bool false) := by rw [cellAt_of gG]; rfl
  have cG1 : cellAt G H'.next 1 = some (.bool a.1) := by rw [cellAt_of gG]; rfl
  have cG2 : cellAt G H'.next 2 = some (.string a.2) := by rw [cellAt_of gG]; rfl
  have hasz2 := size_data a.2
  have tk2 : (L.take (i + 1)).flatMap unitsOf = (L.take i).flatMap unitsOf ++ unitsOf a := by rw [tk,List.flatMap_append]; simp
  have fin : ∀ (f' : Nat → Value) (H5 : Heap) (D5 : Names),f' 0 = f 0 → f' 6 = f 6 → f' 7 = f 7 → J ((L.take i).flatMap unitsOf ++ unitsOf a) D5 H5 → Mvd H H5 D0 D5 → I (mk 50 (upv (upv f' 49 (.int .i64 ((i : Nat) + 1 : Int))) 8 (.int .i64 ((i : Nat) + 1 : Int)))) H5 := fun f' H5 D5 q0 q6 q7 j5 m5 =>
   hI _ _ _ (show m - 1 < m by omega) ⟨_,i + 1,D5,rfl,q0.trans f0,q6.trans f6,q7.trans f7,rfl,by omega,by omega,by rw [tk2]; exact j5,m5⟩
  by_cases h0 : a.2 = ⟨#[]⟩
  ·have hbs : a.2.data.toList = [] := by rw [h0]
   have hun : unitsOf a = if a.1 = true then [⟨0,true,true⟩] else [] := by unfold unitsOf; rw [if_pos hbs]
   have hz : a.2.size = 0 := by rw [← hasz2,hbs]; rfl
   cases hq : a.1
   ·rw [hq] at cG1 hun
    simp (disch := omega) only [↓wD,wU,↓reduceIte,reduceLT,reduceEqDiff,reduceSub,reduceAdd,reduceLeDiff,f0,f6,f7,f8,hik,decide_true,decide_false,hcs,hG,hq,eq_true h0,cG1,cG2,skipB_u]
    rw [hq] at hG gG
    simp (disch := omega) only [↓wD,wU,↓reduceIte,reduceLT,reduceEqDiff,reduceSub,reduceAdd,reduceLeDiff,hG,cG2]
    refine ⟨by omega,?_⟩
    refine t168 hY wG gG dG jG (by omega) ?_ ?_ ?_ ?_ fun f' H5 D5 hf j5 m5 => ?_
    ·simp (disch := omega) only [↓wD,wU,↓reduceIte,reduceLT,reduceEqDiff,reduceSub,reduceAdd,reduceLeDiff,f0]
    ·simp (disch := omega) only [↓wD,wU,↓reduceIte,reduceLT,reduceEqDiff,reduceSub,reduceAdd,reduceLeDiff]
    ·simp (disch := omega) only [↓wD,wU,↓reduceIte,reduceLT,reduceEqDiff,reduceSub,reduceAdd,reduceLeDiff]
    ·simp (disch := omega) only [↓wD,wU,↓reduceIte,reduceLT,reduceEqDiff,reduceSub,reduceAdd,reduceLeDiff]
    ·have q0 := hf 0 (by decide) (by decide)
     have q6 := hf 6 (by decide) (by decide)
     have q7 := hf 7 (by decide) (by decide)
     have q8 := hf 8 (by decide) (by decide)
     simp (disch := omega) only [upv_ne] at q0 q6 q7 q8
     have p8 := q8.trans f8
     simp (disch := omega) only [↓wD,wU,↓reduceIte,reduceLT,reduceEqDiff,reduceSub,reduceAdd,reduceLeDiff,p8]
     refine fin f' H5 D5 q0 q6 q7 ?_ (MG.trans m5)
     rw [hbs] at j5
     rw [hun]; exact j5
   ·rw [hq] at cG1 hun hG gG hcs
    simp only [if_true] at hun
    simp (disch := omega) only [↓wD,wU,↓reduceIte,reduceLT,reduceEqDiff,reduceSub,reduceAdd,reduceLeDiff,f0,f6,f7,f8,hik,decide_true,decide_false,hcs,hG,eq_true h0,cG1,cG2]
    refine ⟨by omega,?_⟩
    refine RC.mono (fun v5 H4 h5 => ?_) (hY.step (a := ⟨0,true,true⟩) jG wG (show _ ≤ 30000 by omega))
    obtain ⟨rfl,D4,j4,m4⟩ := h5
    unfold Later
    have gl := Heap.lt_of_get gG
    have g4 : H4.get H'.next = some (.row [.bool false,.bool true,.string a.2] 0 (some 103)) := by rw [m4.get _ gl dG]; exact gG
    have cH2 : cellAt H4 H'.next 2 = some (.string a.2) := by rw [cellAt_of g4]; rfl
    have d4 : ¬ D4 H'.next := fun e => by
     rcases m4.new _ e with e | e
     ·exact dG e
     ·omega
    simp (disch := omega) only [↓wD,wU,↓reduceIte,reduceLT,reduceEqDiff,reduceSub,reduceAdd,reduceLeDiff,cH2]
    have hle2 := hle
    rw [hun] at hle2
    refine t168 hY m4.wf g4 d4 j4 (by rw [List.length_append]; simp at hle2 ⊢; omega) ?_ ?_ ?_ ?_ fun f' H5 D5 hf j5 m5 => ?_
    ·simp (disch := omega) only [↓wD,wU,↓reduceIte,reduceLT,reduceEqDiff,reduceSub,reduceAdd,reduceLeDiff,f0]
    ·simp (disch := omega) only [↓wD,wU,↓reduceIte,reduceLT,reduceEqDiff,reduceSub,reduceAdd,reduceLeDiff]
    ·simp (disch := omega) only [↓wD,wU,↓reduceIte,reduceLT,reduceEqDiff,reduceSub,reduceAdd,reduceLeDiff]
    ·simp (disch := omega) only [↓wD,wU,↓reduceIte,reduceLT,reduceEqDiff,reduceSub,reduceAdd,reduceLeDiff]
    ·have q0 := hf 0 (by decide) (by decide)
     have q6 := hf 6 (by decide) (by decide)
     have q7 := hf 7 (by decide) (by decide)
     have q8 := hf 8 (by decide) (by decide)
     simp (disch := omega) only [upv_ne] at q0 q6 q7 q8
     have p8 := q8.trans f8
     simp (disch := omega) only [↓wD,wU,↓reduceIte,reduceLT,reduceEqDiff,reduceSub,reduceAdd,reduceLeDiff,p8]
     refine fin f' H5 D5 q0 q6 q7 ?_ ((MG.trans m4).trans m5)
     rw [hbs] at j5
     rw [hun]; simpa using j5
  ·have hbs : a.2.data.toList ≠ [] := fun e => h0 (bytes_ext (by rw [e]))
   have hun : unitsOf a = a.2.data.toList.map (unB a.1) := by unfold unitsOf; rw [if_neg hbs]
   have hul : (unitsOf a).length = a.2.size := by rw [hun,List.length_map,hasz2]
   ·simp (disch := omega) only [↓wD,wU,↓reduceIte,reduceLT,reduceEqDiff,reduceSub,reduceAdd,reduceLeDiff,f0,f6,f7,f8,hik,decide_true,decide_false,hcs,hG,h0,cG1,cG2,skipB_u]
    refine ⟨by omega,?_⟩
    refine t168 hY wG gG dG jG (by omega) ?_ ?_ ?_ ?_ fun f' H5 D5 hf j5 m5 => ?_
    ·simp (disch := omega) only [↓wD,wU,↓reduceIte,reduceLT,reduceEqDiff,reduceSub,reduceAdd,reduceLeDiff,f0]
    ·simp (disch := omega) only [↓wD,wU,↓reduceIte,reduceLT,reduceEqDiff,reduceSub,reduceAdd,reduceLeDiff]
    ·simp (disch := omega) only [↓wD,wU,↓reduceIte,reduceLT,reduceEqDiff,reduceSub,reduceAdd,reduceLeDiff]
    ·simp (disch := omega) only [↓wD,wU,↓reduceIte,reduceLT,reduceEqDiff,reduceSub,reduceAdd,reduceLeDiff]
    ·have q0 := hf 0 (by decide) (by decide)
     have q6 := hf 6 (by decide) (by decide)
     have q7 := hf 7 (by decide) (by decide)
     have q8 := hf 8 (by decide) (by decide)
     simp (disch := omega) only [upv_ne] at q0 q6 q7 q8
     have p8 := q8.trans f8
     simp (disch := omega) only [↓wD,wU,↓reduceIte,reduceLT,reduceEqDiff,reduceSub,reduceAdd,reduceLeDiff,p8]
     refine fin f' H5 D5 q0 q6 q7 ?_ (MG.trans m5)
     rw [hun]; exact j5
 ·have e0 : i = L.length := by omega
  subst e0
  rw [List.take_length] at hj
  simp (disch := omega) only [↓wD,wU,↓reduceIte,reduceLT,reduceEqDiff,reduceSub,reduceAdd,reduceLeDiff,f0,f6,f7,f8,hik,decide_false]
  exact hQ _ D hj hM
end
end Go.Ae
