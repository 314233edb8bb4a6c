/- Part 26 of the proof of the law: Ce33. No condition. -/
import Derived.Test.YtalflgbdhjjlkaaGreatDoorP25
set_option linter.all false
namespace Go.Ae
open Nat (reduceLT reduceEqDiff reduceSub reduceAdd reduceMul reduceLeDiff)
open Int (reduceToNat)
open Go
set_option maxRecDepth 100000
structure FldIs (K : Cx) : Prop extends ExpIs K where
 i119 : Is K.P K.G0 119 F119
 i121 : Is K.P K.G0 121 F121
 i117 : Is K.P K.G0 117 F117
 i168 : Is K.P K.G0 168 F168
 i76 : Is K.P K.G0 76 F76
section
variable {K : Cx} {Q : List Value → Heap → Prop} {E : List Value} {H : Heap} {d : Option Tmp} {r : List AItem}
theorem wpItems_appG {s x : Operand} {sz : Nat} {e : TypeId} (v : Value) {b : Option Nat} {n : Nat} {cs xs : List Value} {m xb : Nat} (ho : OwO H b v sz n cs) (hv : ev E s = v) (hx : ev E x = .slice (some ⟨xb,0,some sz⟩) m m) (hxs : cellsAt H xb 0 (m * sz) = some xs) (hlen : xs.length = m * sz) (hm : 0 < m)
  (hne : b ≠ some xb) (hB : n + m ≤ appMax)
  (h : ∀ c H',OwO H' (some H.next) (.slice (some ⟨H.next,0,some sz⟩) (n + m) c) sz (n + m) (cs ++ xs) → (∀ y,y < H.next → b ≠ some y → H'.get y = H.get y) → H'.next = H.next + 1 → (H.wf → H'.wf) →
   wpItems K r Q (put E d (.slice (some ⟨H.next,0,some sz⟩) (n + m) c)) H') :
  wpItems K (⟨d,.app s x sz e,none⟩ :: r) Q E H := by
 rw [wpItems_app]
 simp only [aop,hv,hx]
 cases b with
 | none =>
  obtain ⟨rfl,rfl,rfl⟩ := ho
  simp only [show ¬ m = 0 from by omega,if_false,hxs,Option.map_none,ne_eq,not_true_eq_false,or_false,reduceCtorEq,appendA,if_true]
  rw [if_neg (by omega)]
  have hz : (0 + m : Nat) = m := by omega
  rw [hz,List.nil_append] at h
  refine h m (H.push (.row xs 0 (some e))) ?_ (fun y hy _ => Heap.get_push_ne _ _ (by omega)) (by simp) (fun hw => Heap.wf_push _ hw)
  refine ⟨⟨by simpa using hlen,.inr ⟨m,[],some e,by simp,by omega,?_⟩⟩,m,by simp⟩
  rw [Heap.get_push_same]; simp
 | some b =>
  obtain ⟨⟨h0,ho⟩,c',hc'⟩ := ho
  rcases ho with ⟨rfl,_⟩ | ⟨c,rest,ty,rfl,h2,h3⟩
  ·cases hc'
  ·have hlt := Heap.lt_of_get h3
   have hbn : ¬ b = xb := fun e => hne (by rw [e])
   simp only [show ¬ m = 0 from by omega,if_false,hxs,Option.map_some,Option.some.injEq,hbn,ne_eq,not_true_eq_false,or_false,appendA,h3]
   rw [if_pos ⟨by simp [h0],trivial,by omega,.inl trivial⟩,if_neg (by omega)]
   have e1 : (List.drop 0 (cs ++ rest)).take (n * sz) = cs := by rw [List.drop_zero,← h0,List.take_left]
   refine h (n + m) _ ⟨⟨by simp [h0,hlen,Nat.add_mul],.inr ⟨n + m,[],if ty = some e ∧ True then ty else none,by simp,by omega,?_⟩⟩,n + m,by simp⟩ (fun y hy hyb => ?_) (by simp) (fun hw => Heap.wf_push _ (Heap.wf_set _ _ hw))
   ·have := Heap.get_push_same (H.set b none) (.row (cs ++ xs) 0 (if ty = some e ∧ True then ty else none))
    simp only [Heap.next_set] at this
    rw [e1,this]; simp
   ·rw [Heap.get_push_ne _ _ (by simp only [Heap.next_set]; omega),Heap.get_set_ne _ _ (fun e => hyb (by rw [e]))]
end
structure Un where
 b : UInt8
 none : Bool
 q : Bool
def uV (u : Un) : List Value := [.int .u8 (u.b.toNat : Nat),.bool u.none,.bool u.q,.bool false]
def encU (u : Un) : List Value := [.agg (uV u).toArray]
def txU (u : Un) : List UInt8 := if u.none then [] else [u.b]
def ptU (u : Un) : List UInt8 := if u.none then [] else if u.q then [92,u.b] else [u.b]
structure Mkr (H : Heap) (tm : Nat) (bt bp : Option Nat) (T P : List UInt8) (bg : Bool) : Prop where
 row : ∃ vt vp mk,H.get tm = some (.row [.slice none 0 0,vt,vp,.bool bg,.bool mk] 0 (some 193)) ∧ OwO H bt vt 1 T.length (byteVs T) ∧ OwO H bp vp 1 P.length (byteVs P)
 nt : bt ≠ some tm
 np : bp ≠ some tm
 ne : ∀ x,bt = some x → bp ≠ some x
structure Mkv (H H' : Heap) (tm : Nat) (bt bp bt' bp' : Option Nat) : Prop where
 get : ∀ x,x < H.next → x ≠ tm → bt ≠ some x → bp ≠ some x → H'.get x = H.get x
 next : H.next ≤ H'.next
 wf : H'.wf
 nt : ∀ x,bt' = some x → bt = some x ∨ H.next ≤ x
 np : ∀ x,bp' = some x → bp = some x ∨ H.next ≤ x
def dr119 : ACode := (.draw 2 [.run ⟨some 23,.mv (.tmp 0),none⟩,
  .run ⟨some 24,.mv (.tmp 0),none⟩,
  .run ⟨some 25,.mv (.tmp 0),none⟩,
  .run ⟨some 26,.nilck (.tmp 25),none⟩,
  .run ⟨some 27,.faddr (.tmp 26) 1,none⟩,
  .run ⟨some 29,.faddr (.tmp 3) 0,none⟩,
  .run ⟨some 33,.mv (.tmp 0),none⟩,
  .run ⟨some 34,.nilck (.tmp 33),none⟩,
  .run ⟨some 35,.faddr (.tmp 34) 2,none⟩,
  .run ⟨some 37,.faddr (.tmp 3) 0,none⟩,
  .run ⟨some 28,.load (.tmp 27) none,none⟩,
  .run ⟨some 30,.load (.tmp 29) none,none⟩,
  .nam ⟨some 31,.mkslice 1 1 [(.int .u8 0)] [(0,1,.tmp 30)],none⟩ 0,
  .run ⟨some 36,.load (.tmp 35) none,none⟩,
  .run ⟨some 38,.load (.tmp 37) none,none⟩,
  .nam ⟨some 39,.mkslice 1 1 [(.int .u8 0)] [(0,1,.tmp 38)],none⟩ 1,
  .lay ⟨some 31,.mkslice 1 1 [(.int .u8 0)] [(0,1,.tmp 30)],none⟩ 0,
  .run ⟨some 32,.app (.tmp 28) (.tmp 31) 1 5,none⟩,
  .chk ⟨some 36,.load (.tmp 35) none,none⟩,
  .chk ⟨some 38,.load (.tmp 37) none,none⟩,
  .lay ⟨some 39,.mkslice 1 1 [(.int .u8 0)] [(0,1,.tmp 38)],none⟩ 1,
  .run ⟨some 40,.app (.tmp 36) (.tmp 39) 1 5,none⟩,
  .run ⟨some 41,.nilck (.tmp 23),none⟩,
  .run ⟨some 42,.faddr (.tmp 41) 1,none⟩,
  .run ⟨none,.store (.tmp 42) (.tmp 32) 1,none⟩,
  .run ⟨some 43,.nilck (.tmp 24),none⟩,
  .run ⟨some 44,.faddr (.tmp 43) 2,none⟩,
  .run ⟨none,.store (.tmp 44) (.tmp 40) 1,none⟩])
theorem body119 : F119.body = (.seq (.ops [⟨some 3,.box (.tmp 1) 198,none⟩])
 (.seq (.ops [⟨some 4,.mv (.tmp 0),none⟩,
  ⟨some 5,.mv (.tmp 0),none⟩,
  ⟨some 6,.nilck (.tmp 4),none⟩,
  ⟨some 7,.faddr (.tmp 6) 3,none⟩,
  ⟨none,.store (.tmp 7) (.const (.bool true)) 1,none⟩,
  ⟨some 8,.nilck (.tmp 5),none⟩,
  ⟨some 9,.faddr (.tmp 8) 4,none⟩,
  ⟨none,.store (.tmp 9) (.const (.bool false)) 1,none⟩])
 (.seq (.seq (.ops [⟨some 10,.faddr (.tmp 3) 1,none⟩,
  ⟨some 11,.load (.tmp 10) none,none⟩])
 (.cond (.tmp 11)
  .ret
  .skip))
 (.seq (.seq (.ops [⟨some 12,.faddr (.tmp 3) 2,none⟩,
  ⟨some 13,.load (.tmp 12) none,none⟩])
 (.cond (.tmp 13)
  (.ops [⟨some 14,.mv (.tmp 0),none⟩,
   ⟨some 15,.mv (.tmp 0),none⟩,
   ⟨some 16,.nilck (.tmp 15),none⟩,
   ⟨some 17,.faddr (.tmp 16) 2,none⟩,
   ⟨some 18,.load (.tmp 17) none,none⟩,
   ⟨some 19,.mkslice 1 1 [(.int .u8 0)] [(0,1,(.const (.int .u8 92)))],none⟩,
   ⟨some 20,.app (.tmp 18) (.tmp 19) 1 5,none⟩,
   ⟨some 21,.nilck (.tmp 14),none⟩,
   ⟨some 22,.faddr (.tmp 21) 2,none⟩,
   ⟨none,.store (.tmp 22) (.tmp 20) 1,none⟩])
  .skip))
 dr119)))) := rfl
section
variable {K : Cx} {H : Heap}
theorem t119 {tm g : Nat} {bt bp : Option Nat} {T P : List UInt8} {b : UInt8} {u1 u2 u3 : Value} {tg : Option TypeId} {f : Nat → Value} {X : AExit → List Value → Heap → Prop} (hw : H.wf) (hM : Mkr H tm bt bp T P true) (hT : T.length ≤ 100000) (hP : P.length ≤ 100001)
  (hg : H.get g = some (.row [.int .u8 (b.toNat : Nat),u1,u2,u3] 0 tg)) (f0 : f 0 = .pointer (some ⟨tm,0,none⟩)) (f3 : f 3 = .pointer (some ⟨g,0,none⟩)) (hgm : g ≠ tm) (hgt : bt ≠ some g) (hgp : bp ≠ some g)
  (hX : ∀ E H' bt' bp',Mkr H' tm bt' bp' (T ++ [b]) (P ++ [b]) true → Mkv H H' tm bt bp bt' bp' → X .normal E H') : wpC K DrawD none dr119 X (mk 45 f) H := by
 unfold dr119
 obtain ⟨vt,vp,mk0,hr,ht,hp⟩ := hM.row
 have hlt := Heap.lt_of_get hr
 have hgl := Heap.lt_of_get hg
 have c1 : cellAt H tm 1 = some vt := by rw [cellAt_of hr]; rfl
 have c2 : cellAt H tm 2 = some vp := by rw [cellAt_of hr]; rfl
 have cg : cellAt H g 0 = some (.int .u8 (b.toNat : Nat)) := by rw [cellAt_of hg]; rfl
 simp (disch := omega) only [↓wD,wU,↓reduceIte,reduceLT,reduceEqDiff,reduceSub,reduceAdd,reduceLeDiff,f0,f3,c1,c2,cg]
 generalize hA : (H.reserve 2).set H.next (some (.row [.int .u8 (b.toNat : Nat)] 0 none)) = A
 have wR := wf_reserve 2 hw
 have nA : A.next = H.next + 2 := by rw [← hA]; simp [next_reserve]
 have wA : A.wf := by rw [← hA]; exact Heap.wf_set _ _ wR
 have kA : ∀ x,x ≠ H.next → A.get x = H.get x := fun x hx => by rw [← hA,Heap.get_set_ne _ _ (Ne.symm hx),get_reserve]
 have xA : A.get H.next = some (.row [.int .u8 (b.toNat : Nat)] 0 none) := by rw [← hA]; exact Heap.get_set_none _ _ wR (by rw [next_reserve]; omega)
 have lt' := ht.lt
 have lp' := hp.lt
 have tA : OwO A bt vt 1 T.length (byteVs T) := ht.frame fun x hx => kA x (by have := lt' x hx; omega)
 refine wpItems_appG (xs := byteVs [b]) (m := 1) (xb := H.next) vt tA (by simp (disch := omega) only [↓wD,wU,↓reduceIte,reduceLT,reduceEqDiff,reduceSub,reduceAdd,reduceLeDiff]) (by simp (disch := omega) only [↓wD,wU,↓reduceIte,reduceLT,reduceEqDiff,reduceSub,reduceAdd,reduceLeDiff]; rfl) (by rw [cellsAt_row,rowOf,xA]; rfl) rfl (by decide) (fun e => by have := lt' _ e; omega) (by unfold appMax; omega) fun c3 H3 h7 h8 h9 h10 => ?_
 have w3 := h10 wA
 have k3 : ∀ x,x < H.next → bt ≠ some x → H3.get x = H.get x := fun x hx hb => by rw [h8 x (by omega) hb,kA x (by omega)]
 have r3 : H3.get tm = some (.row [.slice none 0 0,vt,vp,.bool true,.bool mk0] 0 (some 193)) := by rw [k3 tm hlt hM.nt]; exact hr
 have d2 : cellAt H3 tm 2 = some vp := by rw [cellAt_of r3]; rfl
 have dg : cellAt H3 g 0 = some (.int .u8 (b.toNat : Nat)) := by rw [cellAt_row,rowOf,k3 g hgl hgt,hg]; rfl
 simp (disch := omega) only [↓wD,wU,↓reduceIte,reduceLT,reduceEqDiff,reduceSub,reduceAdd,reduceLeDiff,f0,f3,d2,dg]
 generalize hB : H3.set (H.next + 1) (some (.row [.int .u8 (b.toNat : Nat)] 0 none)) = B
 have nB : B.next = H.next + 3 := by rw [← hB]; simp; omega
 have wB : B.wf := by rw [← hB]; exact Heap.wf_set _ _ w3
 have kB : ∀ x,x ≠ H.next + 1 → B.get x = H3.get x := fun x hx => by rw [← hB,Heap.get_set_ne _ _ (Ne.symm hx)]
 have xB : B.get (H.next + 1) = some (.row [.int .u8 (b.toNat : Nat)] 0 none) := by rw [← hB]; exact Heap.get_set_none _ _ w3 (by omega)
 have pB : OwO B bp vp 1 P.length (byteVs P) := hp.frame fun x hx => by
  have := lp' x hx
  rw [kB x (by omega),k3 x this (fun e => hM.ne x e hx)]
 refine wpItems_appG (xs := byteVs [b]) (m := 1) (xb := H.next + 1) vp pB (by simp (disch := omega) only [↓wD,wU,↓reduceIte,reduceLT,reduceEqDiff,reduceSub,reduceAdd,reduceLeDiff]) (by simp (disch := omega) only [↓wD,wU,↓reduceIte,reduceLT,reduceEqDiff,reduceSub,reduceAdd,reduceLeDiff]; rfl) (by rw [cellsAt_row,rowOf,xB]; rfl) rfl (by decide) (fun e => by have := lp' _ e; omega) (by unfold appMax; omega) fun c4 H4 g7 g8 g9 g10 => ?_
 have w4 := g10 wB
 have r4 : H4.get tm = some (.row [.slice none 0 0,vt,vp,.bool true,.bool mk0] 0 (some 193)) := by rw [g8 tm (by omega) hM.np,kB tm (by omega)]; exact r3
 have s4 : ∀ y : AObj,(H4.set tm (some y)).get tm = some y := fun y => Heap.get_set_same _ _ r4
 have ss4 : ∀ x y : Option AObj,(H4.set tm x).set tm y = H4.set tm y := fun x y => Heap.set_set H4 tm x y
 rw [nA] at h7
 rw [nB] at g7
 simp (disch := omega) only [↓wD,wU,↓reduceIte,reduceLT,reduceEqDiff,reduceSub,reduceAdd,reduceLeDiff,f0,f3,r4,s4,ss4,nA,nB]
 refine hX _ _ (some (H.next + 2)) (some (H.next + 3)) ⟨⟨_,_,mk0,s4 _,?_,?_⟩,fun e => by cases e; omega,fun e => by cases e; omega,fun x hx e => by simp at hx e; omega⟩ ⟨fun x h1 h2 h3 h4 => ?_,by simp; omega,Heap.wf_set _ _ w4,fun x hx => by cases hx; exact .inr (by omega),fun x hx => by cases hx; exact .inr (by omega)⟩
 ·rw [List.length_append,byteVs_append]
  exact h7.frame fun x hx => by
   cases hx
   rw [Heap.get_set_ne _ _ (by omega),g8 _ (by omega) (fun e => by have := lp' _ e; omega),kB _ (by omega)]
 ·rw [List.length_append,byteVs_append]
  exact g7.frame fun x hx => by
   cases hx
   rw [Heap.get_set_ne _ _ (by omega)]
 ·rw [Heap.get_set_ne _ _ (Ne.symm h2),g8 x (by omega) h4,kB x (by omega),k3 x h1 h3]
set_option maxHeartbeats 4000000 in
theorem c119 (hK : Cfg K) (hS : FldIs K) {tm : Nat} {bt bp : Option Nat} {T P : List UInt8} {bg : Bool} {u : Un} {Q : Value → Heap → Prop} (hw : H.wf) (hM : Mkr H tm bt bp T P bg) (hT : T.length ≤ 100000) (hP : P.length ≤ 100000)
  (hQ : ∀ H' bt' bp',Mkr H' tm bt' bp' (T ++ txU u) (P ++ ptU u) true → Mkv H H' tm bt bp bt' bp' → Q (.tuple #[]) H') : FC K 119 [.pointer (some ⟨tm,0,none⟩),.agg (uV u).toArray] H Q := by
 refine FC.of hK hS.i119 (by simp [F119]) ?_
 rw [body119,show F119.ntmps = 45 from rfl,show F119.results = [] from rfl]
 unfold uV
 obtain ⟨vt,vp,mk0,hg,ht,hp⟩ := hM.row
 have hlt := Heap.lt_of_get hg
 obtain ⟨u0,un,uq⟩ := u
 have hg' : ∀ o,(H.push o).get tm = some (.row [.slice none 0 0,vt,vp,.bool bg,.bool mk0] 0 (some 193)) := fun o => Heap.get_push_old hg
 have hss : ∀ (G : Heap) (x y : Option AObj),(G.set tm x).set tm y = G.set tm y := fun G x y => Heap.set_set G tm x y
 have hgs : ∀ (o y : AObj),((H.push o).set tm (some y)).get tm = some y := fun o y => Heap.get_set_same _ _ (hg' o)
 have hc : ∀ (o y : AObj) (x k : Nat),x = H.next → cellAt ((H.push o).set tm (some y)) x k = cellAt (H.push o) x k := fun o y x k hx => cellAt_set_ne (by omega)
 generalize hG : (H.push (.row [.int .u8 (u0.toNat : Nat),.bool un,.bool uq,.bool false] 0 (some 198))).set tm (some (.row [.slice none 0 0,vt,vp,.bool true,.bool false] 0 (some 193))) = G
 have wG : G.wf := by rw [← hG]; exact Heap.wf_set _ _ (Heap.wf_push _ hw)
 have nG : G.next = H.next + 1 := by rw [← hG]; simp
 have mG : G.get tm = some (.row [.slice none 0 0,vt,vp,.bool true,.bool false] 0 (some 193)) := by rw [← hG]; exact hgs _ _
 have kG : ∀ x,x < H.next → x ≠ tm → G.get x = H.get x := fun x hx hn => by rw [← hG,Heap.get_set_ne _ _ (Ne.symm hn),Heap.get_push_ne _ _ (by omega)]
 have uG : G.get H.next = some (.row [.int .u8 (u0.toNat : Nat),.bool un,.bool uq,.bool false] 0 (some 198)) := by rw [← hG,Heap.get_set_ne _ _ (by omega),Heap.get_push_same]
 have tG : OwO G bt vt 1 T.length (byteVs T) := ht.frame fun x hx => kG x (ht.lt x hx) (fun e => hM.nt (by rw [hx,e]))
 have pG : OwO G bp vp 1 P.length (byteVs P) := hp.frame fun x hx => kG x (hp.lt x hx) (fun e => hM.np (by rw [hx,e]))
 have MG : Mkr G tm bt bp T P true := ⟨⟨vt,vp,false,mG,tG,pG⟩,hM.nt,hM.np,hM.ne⟩
 have VG : Mkv H G tm bt bp bt bp := ⟨fun x hx h1 _ _ => kG x hx h1,by omega,wG,fun x h => .inl h,fun x h => .inl h⟩
 have ut : bt ≠ some H.next := fun e => by have := ht.lt _ e; omega
 have up : bp ≠ some H.next := fun e => by have := hp.lt _ e; omega
 have cu1 : cellAt G H.next 1 = some (.bool un) := by rw [cellAt_of uG]; rfl
 have cu2 : cellAt G H.next 2 = some (.bool uq) := by rw [cellAt_of uG]; rfl
 cases un
 ·cases uq
  ·simp (disch := omega) only [↓wD,wU,↓reduceIte,reduceLT,reduceEqDiff,reduceSub,reduceAdd,reduceLeDiff,hg',hgs,hss,hc,hG,cu1,cu2]
   refine t119 wG MG hT (by omega) uG ?_ ?_ (by omega) ut up fun E H' bt' bp' h1 h2 => ?_
   ·simp (disch := omega) only [↓wD,wU,↓reduceIte,reduceLT,reduceEqDiff,reduceSub,reduceAdd,reduceLeDiff]
   ·simp (disch := omega) only [↓wD,wU,↓reduceIte,reduceLT,reduceEqDiff,reduceSub,reduceAdd,reduceLeDiff]
   simp (disch := omega) only [↓wD,wU,↓reduceIte,reduceLT,reduceEqDiff,reduceSub,reduceAdd,reduceLeDiff]
   refine hQ H' bt' bp' h1 ⟨fun x h3 h4 h5 h6 => ?_,by have := h2.next; omega,h2.wf,fun x hx => ?_,fun x hx => ?_⟩
   ·rw [h2.get x (by omega) h4 h5 h6,kG x h3 h4]
   ·rcases h2.nt x hx with e | e
    ·exact .inl e
    ·exact .inr (by omega)
   ·rcases h2.np x hx with e | e
    ·exact .inl e
    ·exact .inr (by omega)
  ·have c2 : cellAt G tm 2 = some vp := by rw [cellAt_of mG]; rfl
   simp (disch := omega) only [↓wD,wU,↓reduceIte,reduceLT,reduceEqDiff,reduceSub,reduceAdd,reduceLeDiff,hg',hgs,hss,hc,hG,c2,cu1,cu2]
   refine wpItems_appO (xs := byteVs [92]) (m := 1) vp pG (by simp (disch := omega) only [↓wD,wU,↓reduceIte,reduceLT,reduceEqDiff,reduceSub,reduceAdd,reduceLeDiff]) (by simp (disch := omega) only [↓wD,wU,↓reduceIte,reduceLT,reduceEqDiff,reduceSub,reduceAdd,reduceLeDiff]) rfl (by decide) (by unfold appMax; omega) fun c3 H3 h7 h8 h9 h10 => ?_
   have w3 := h10 wG
   have lp' := hp.lt
   have lt' := ht.lt
   have r3 : H3.get tm = some (.row [.slice none 0 0,vt,vp,.bool true,.bool false] 0 (some 193)) := by rw [h8 tm (by omega) hM.np]; exact mG
   rw [nG] at h7 h9
   simp (disch := omega) only [↓wD,wU,↓reduceIte,reduceLT,reduceEqDiff,reduceSub,reduceAdd,reduceLeDiff,r3,nG]
   have s3 : ∀ y : AObj,(H3.set tm (some y)).get tm = some y := fun y => Heap.get_set_same _ _ r3
   have k3 : ∀ (y : Option AObj) x,x < H.next + 1 → x ≠ tm → bp ≠ some x → (H3.set tm y).get x = G.get x := fun y x hx h1 h2 => by rw [Heap.get_set_ne _ _ (Ne.symm h1),h8 x (by omega) h2]
   refine t119 (bt := bt) (bp := some (H.next + 1 + 1)) (T := T) (P := P ++ [92]) (g := H.next) (tm := tm) (Heap.wf_set _ _ w3) ⟨⟨_,_,false,s3 _,?_,?_⟩,hM.nt,fun e => by cases e; omega,fun x hx e => by have := lt' _ hx; simp at e; omega⟩ hT (by simp; omega) (by rw [k3 _ _ (by omega) (by omega) up]; exact uG) ?_ ?_ (by omega) ut (fun e => by simp at e; omega) fun E H' bt' bp' h1 h2 => ?_
   ·exact tG.frame fun x hx => k3 _ x (by have := lt' x hx; omega) (fun e => hM.nt (by rw [hx,e])) (fun e => hM.ne x hx e)
   ·rw [List.length_append,byteVs_append]
    exact h7.frame fun x hx => by cases hx; rw [Heap.get_set_ne _ _ (by omega)]
   ·simp (disch := omega) only [↓wD,wU,↓reduceIte,reduceLT,reduceEqDiff,reduceSub,reduceAdd,reduceLeDiff]
   ·simp (disch := omega) only [↓wD,wU,↓reduceIte,reduceLT,reduceEqDiff,reduceSub,reduceAdd,reduceLeDiff]
   ·simp (disch := omega) only [↓wD,wU,↓reduceIte,reduceLT,reduceEqDiff,reduceSub,reduceAdd,reduceLeDiff]
    have e1 : P ++ ptU ⟨u0,false,true⟩ = P ++ [92] ++ [u0] := by simp [ptU]
    refine hQ H' bt' bp' (by rw [e1]; exact h1) ⟨fun x h3 h4 h5 h6 => ?_,by have := h2.next; simp at this; omega,h2.wf,fun x hx => ?_,fun x hx => ?_⟩
    ·rw [h2.get x (by simp; omega) h4 h5 (fun e => by simp at e; omega),k3 _ x (by omega) h4 h6,kG x h3 h4]
    ·rcases h2.nt x hx with e | e
     ·exact .inl e
     ·simp at e; exact .inr (by omega)
    ·rcases h2.np x hx with e | e
     ·simp at e; exact .inr (by omega)
     ·simp at e; exact .inr (by omega)
 ·simp (disch := omega) only [↓wD,wU,↓reduceIte,reduceLT,reduceEqDiff,reduceSub,reduceAdd,reduceLeDiff,hg',hgs,hss,hc,hG,cu1]
  refine hQ G bt bp (by simpa [txU,ptU] using MG) VG
end
end Go.Ae
