/- Part 30 of the proof of the law: Ce10, Ce11, Ce12, Ce13, Ce39. No condition. -/
import Derived.Test.YtalflgbdhjjlkaaGreatDoorP29
set_option linter.all false
namespace Go.Ae
open Nat (reduceLT reduceEqDiff reduceSub reduceAdd reduceMul reduceLeDiff)
open Int (reduceToNat)
open Go
set_option maxRecDepth 100000
theorem findKey_str (key : ByteArray) : ∀ (es : List (Value × Value)) (n : Nat),(∀ kv ∈ es,∃ s,kv.1 = .string s) →
  findKeyA .str (.string key) es n = some none ∨ ∃ i kv,findKeyA .str (.string key) es n = some (some (n + i)) ∧ es[i]? = some kv
 | [],n,_ => .inl rfl
 |(k,v) :: es,n,h => by
  obtain ⟨s,hs⟩ := h (k,v) (by simp)
  simp only at hs
  subst hs
  simp only [findKeyA,sameCell]
  cases hk : (key.data.toList == s.data.toList) with
  | true => exact .inr ⟨0,_,rfl,rfl⟩
  | false =>
   rcases findKey_str key es (n + 1) fun kv hkv => h kv (by simp [hkv]) with h1 | ⟨i,kv,h1,h2⟩
   ·exact .inl h1
   ·exact .inr ⟨i + 1,kv,by rw [h1,Nat.add_assoc,Nat.add_comm 1],by simpa using h2⟩
theorem wpItems_lookS {K : Cx} {Q : List Value → Heap → Prop} {E : List Value} {H : Heap} {d : Option Tmp} {r : List AItem} {m k : Operand} {zero mv : Value} {key : ByteArray} (hm : ev E m = mv) (hk : ev E k = .string key)
  (hok : mv = .map none ∨ ∃ x es,mv = .map (some x) ∧ H.get x = some (.map es) ∧ ∀ kv ∈ es,∃ s,kv.1 = .string s)
  (h0 : wpItems K r Q (put E d zero) H) (h1 : ∀ x es,mv = .map (some x) → H.get x = some (.map es) → ∀ kv ∈ es,wpItems K r Q (put E d kv.2) H) : wpItems K (⟨d,.look .str m k zero false,none⟩ :: r) Q E H := by
 rw [wpItems_look]
 simp only [aop,hm,hk]
 rcases hok with rfl | ⟨x,es,rfl,hg,hes⟩
 ·simp only [findKeyA]
  exact h0
 ·simp only [hg]
  rcases findKey_str key es 0 hes with h | ⟨i,kv,h,h2⟩
  ·simp only [h]; exact h0
  ·rw [Nat.zero_add] at h
   simp only [h,h2]
   exact h1 x es rfl hg kv (List.mem_of_getElem? h2)
structure Tr (H : Heap) (lo tp c : Nat) (N M : Nat → Prop) : Prop where
 top : lo ≤ tp
 root : ∃ r n,H.get tp = some (.row [.pointer (some ⟨r,0,none⟩),.int .i64 (n : Nat)] 0 (some 123)) ∧ N r ∧ n ≤ c
 node : ∀ b,N b → lo ≤ b ∧ b ≠ tp ∧ ∃ k m,H.get b = some (.row [.int .i64 k,m] 0 (some 121)) ∧ (m = .map none ∨ ∃ x,m = .map (some x) ∧ M x)
 map : ∀ x,M x → lo ≤ x ∧ ∃ es,H.get x = some (.map es) ∧ ∀ kv ∈ es,(∃ s,kv.1 = .string s) ∧ ∃ b,kv.2 = .pointer (some ⟨b,0,none⟩) ∧ N b
theorem Tr.agree {H H' : Heap} {lo tp c : Nat} {N M : Nat → Prop} (h : Tr H lo tp c N M) (ha : Agree H.next H H') : Tr H' lo tp c N M where
 top := h.top
 root := by
  obtain ⟨r,n,h1,h2⟩ := h.root
  exact ⟨r,n,by rw [ha _ (Heap.lt_of_get h1)]; exact h1,h2⟩
 node := fun b hb => by
  obtain ⟨h0,h00,k,m,h1,h2⟩ := h.node b hb
  exact ⟨h0,h00,k,m,by rw [ha _ (Heap.lt_of_get h1)]; exact h1,h2⟩
 map := fun x hx => by
  obtain ⟨h0,es,h1,h2⟩ := h.map x hx
  exact ⟨h0,es,by rw [ha _ (Heap.lt_of_get h1)]; exact h1,h2⟩
structure TreeIs (K : Cx) : Prop extends PathIs K where
 i62 : Is K.P K.G0 62 F62
 i63 : Is K.P K.G0 63 F63
 i31 : Is K.P K.G0 31 F31
 i32 : Is K.P K.G0 32 F32
 i13 : Is K.P K.G0 13 F13
theorem c62 {K : Cx} (hK : Cfg K) (hS : TreeIs K) {s : ByteArray} {lo tp c : Nat} {N M : Nat → Prop} {H : Heap} {Q : Value → Heap → Prop} (hT : Tr H lo tp c N M) (hs : 0 < s.size ∧ s.size ≤ 1000000)
  (hQ : ∀ v,(v = .pointer none ∨ ∃ b,v = .pointer (some ⟨b,0,none⟩) ∧ N b) → Q v H) : FC K 62 [.pointer (some ⟨tp,0,none⟩),.string s] H Q := by
 refine FC.forget (FC.wf0 fun hw => ?_)
 have hold : ∀ b,N b → b < H.next := fun b hb => by
  obtain ⟨_,_,k,m,h1,_⟩ := hT.node b hb
  exact Heap.lt_of_get h1
 have hQ' : ∀ v H',(v = .pointer none ∨ ∃ b,v = .pointer (some ⟨b,0,none⟩) ∧ N b) → Agree H.next H H' → Agree H.next H H' ∧ Old H.next v ∧ Q v H := fun v H' h ha => by
  refine ⟨ha,?_,hQ v h⟩
  rcases h with rfl | ⟨b,rfl,hb⟩
  ·exact .nilp
  ·exact .ptr (hold b hb)
 refine FC.of hK hS.i62 (by simp [F62]) ?_
 unfold F62
 obtain ⟨r,n,hr,hNr,hn⟩ := hT.root
 have htp := Heap.lt_of_get hr
 have c0 : cellAt H tp 0 = some (.pointer (some ⟨r,0,none⟩)) := by rw [cellAt_of hr]; rfl
 have hA0 : ∀ o,Agree H.next H (H.push o) := fun o => Agree.push o (Nat.le_refl _)
 simp -implicitDefEqProofs (maxSteps := 1000000) (disch := first | omega | (simp -implicitDefEqProofs only [wH]; done) | (simp -implicitDefEqProofs only [wH]; omega)) only [↓wD,wU,↓reduceIte,reduceLT,reduceEqDiff,reduceSub,reduceAdd,reduceMul,reduceToNat,reduceLeDiff,c0,set_push_lt,retQ_cell]
 split
 ·exact hQ' _ _ (.inr ⟨r,rfl,hNr⟩) ((hA0 _).trans (Agree.push _ (by simp)))
 refine c71 hK hS.toStrIs ?_
 unfold Later
 simp -implicitDefEqProofs (maxSteps := 1000000) (disch := first | omega | (simp -implicitDefEqProofs only [wH]; done) | (simp -implicitDefEqProofs only [wH]; omega)) only [↓wD,wU,↓reduceIte,reduceLT,reduceEqDiff,reduceSub,reduceAdd,reduceMul,reduceToNat,reduceLeDiff,wpC_rfunc,callR_func]
 refine ⟨fun _ h => (by cases h),?_⟩
 refine range_parts hK hS.toStrIs (Heap.wf_push _ (Heap.wf_push _ (Heap.wf_push _ hw))) (Heap.get_push_same _ _) (by simp only [ByteArray.size_extract]; omega) (by decide)
  (fun _ H' => (∃ v,H'.get H.next = some (.row [v] 0 (some 118))) ∧ (∃ b,N b ∧ H'.get (H.next + 1) = some (.row [.pointer (some ⟨b,0,none⟩)] 0 (some 118))) ∧ Agree H.next H H')
  (fun e H' => e = .ret ∧ H'.get H.next = some (.row [.pointer none] 0 (some 118)) ∧ Agree H.next H H') (fun r => ?_) (fun e => ?_) ⟨⟨.pointer none,?_⟩,⟨r,hNr,?_⟩,?_⟩ ?_ ?_ ?_
 ·rintro H1 H2 ⟨⟨v,h1⟩,⟨b,h5,h6⟩,h2⟩ h3 h4
  simp only [Heap.next_push] at h3
  exact ⟨⟨v,by rw [h3 _ (by omega) (by omega)]; exact h1⟩,⟨b,h5,by rw [h3 _ (by omega) (by omega)]; exact h6⟩,fun x hx => by rw [h3 x (by omega) (by omega)]; exact h2 x hx⟩
 ·rintro H1 H2 ⟨h0,h1,h2⟩ h3 h4
  simp only [Heap.next_push] at h3
  exact ⟨h0,by rw [h3 _ (by omega) (by omega)]; exact h1,fun x hx => by rw [h3 x (by omega) (by omega)]; exact h2 x hx⟩
 ·simp -implicitDefEqProofs (maxSteps := 1000000) (disch := first | omega | (simp -implicitDefEqProofs only [wH]; done) | (simp -implicitDefEqProofs only [wH]; omega)) only [↓wD,wU,↓reduceIte,reduceLT,reduceEqDiff,reduceSub,reduceAdd,reduceMul,reduceToNat,reduceLeDiff]
 ·simp -implicitDefEqProofs (maxSteps := 1000000) (disch := first | omega | (simp -implicitDefEqProofs only [wH]; done) | (simp -implicitDefEqProofs only [wH]; omega)) only [↓wD,wU,↓reduceIte,reduceLT,reduceEqDiff,reduceSub,reduceAdd,reduceMul,reduceToNat,reduceLeDiff]
 ·exact (((hA0 _).trans (Agree.push _ (by simp))).trans (Agree.push _ (by simp; omega))).trans (Agree.push _ (by simp; omega))
 ·rintro t ps H1 L ⟨⟨v,h1⟩,⟨b,hNb,h5⟩,h2⟩ hw1 hn1 hb1 hL
  simp only [Heap.next_push] at hn1 hb1 hL ⊢
  have hH1 : b < H.next := hold b hNb
  obtain ⟨_,_,k,m,hb2,hm⟩ := hT.node b hNb
  have hb3 : H1.get b = _ := (h2 b hH1).trans hb2
  have cb : cellAt H1 b 1 = some m := by rw [cellAt_of hb3]; rfl
  have c5 : cellAt H1 (H.next + 1) 0 = some (.pointer (some ⟨b,0,none⟩)) := by rw [cellAt_of h5]; rfl
  simp -implicitDefEqProofs (maxSteps := 1000000) (disch := first | omega | (simp -implicitDefEqProofs only [wH]; done) | (simp -implicitDefEqProofs only [wH]; omega)) only [↓wD,wU,↓reduceIte,reduceLT,reduceEqDiff,reduceSub,reduceAdd,reduceMul,reduceToNat,reduceLeDiff,c5,cb]
  have hmap : ∀ x es,m = .map (some x) → H1.get x = some (.map es) → ∀ kv ∈ es,(∃ s,kv.1 = .string s) ∧ ∃ b,kv.2 = .pointer (some ⟨b,0,none⟩) ∧ N b := fun x es e hx => by
   rcases hm with h | ⟨y,h,hM⟩
   ·rw [h] at e; cases e
   ·rw [h] at e; cases e
    obtain ⟨_,es',he,h⟩ := hT.map x hM
    rw [h2 x (Heap.lt_of_get he),he] at hx
    cases hx; exact h
  refine wpItems_lookS (mv := m) (key := ⟨t.toArray⟩) (by simp -implicitDefEqProofs (maxSteps := 1000000) (disch := first | omega | (simp -implicitDefEqProofs only [wH]; done) | (simp -implicitDefEqProofs only [wH]; omega)) only [↓wD,wU,↓reduceIte,reduceLT,reduceEqDiff,reduceSub,reduceAdd,reduceMul,reduceToNat,reduceLeDiff]) (by simp -implicitDefEqProofs (maxSteps := 1000000) (disch := first | omega | (simp -implicitDefEqProofs only [wH]; done) | (simp -implicitDefEqProofs only [wH]; omega)) only [↓wD,wU,↓reduceIte,reduceLT,reduceEqDiff,reduceSub,reduceAdd,reduceMul,reduceToNat,reduceLeDiff]) ?_ ?_ ?_
  ·rcases hm with h | ⟨y,h,hM⟩
   ·exact .inl h
   ·obtain ⟨_,es',he,h'⟩ := hT.map y hM
    exact .inr ⟨y,es',h,by rw [h2 y (Heap.lt_of_get he)]; exact he,fun kv hkv => (h' kv hkv).1⟩
  ·have hg2 : ∀ x,(H1.set (H.next + 1) (some (.row [x] 0 (some 118)))).get (H.next + 1) = some (.row [x] 0 (some 118)) := fun x => Heap.get_set_same _ _ h5
   have hc2 : ∀ x,cellAt (H1.set (H.next + 1) (some (.row [x] 0 (some 118)))) (H.next + 1) 0 = some x := fun x => by rw [cellAt_of (hg2 x)]; rfl
   have hg3 : ∀ x,(H1.set (H.next + 1) (some (.row [x] 0 (some 118)))).get H.next = some (.row [v] 0 (some 118)) := fun x => by rw [Heap.get_set_ne _ _ (by omega)]; exact h1
   simp -implicitDefEqProofs (maxSteps := 1000000) (disch := first | omega | (simp -implicitDefEqProofs only [wH]; done) | (simp -implicitDefEqProofs only [wH]; omega)) only [↓wD,wU,↓reduceIte,reduceLT,reduceEqDiff,reduceSub,reduceAdd,reduceMul,reduceToNat,reduceLeDiff,h5,hc2,hg3]
   refine ⟨Heap.wf_set _ _ (Heap.wf_set _ _ hw1),?_,?_,?_⟩
   ·rw [Heap.get_set_ne _ _ (by omega),Heap.get_set_ne _ _ (by omega)]; exact hL
   ·rw [Heap.get_set_same _ _ (hg3 _)]
   ·exact (h2.trans (Agree.set _ (by omega))).trans (Agree.set _ (Nat.le_refl _))
  ·intro x es e hx kv hkv
   obtain ⟨_,b',e',hN'⟩ := hmap x es e hx kv hkv
   rw [e']
   have hg2 : ∀ x,(H1.set (H.next + 1) (some (.row [x] 0 (some 118)))).get (H.next + 1) = some (.row [x] 0 (some 118)) := fun x => Heap.get_set_same _ _ h5
   have hc2 : ∀ x,cellAt (H1.set (H.next + 1) (some (.row [x] 0 (some 118)))) (H.next + 1) 0 = some x := fun x => by rw [cellAt_of (hg2 x)]; rfl
   simp -implicitDefEqProofs (maxSteps := 1000000) (disch := first | omega | (simp -implicitDefEqProofs only [wH]; done) | (simp -implicitDefEqProofs only [wH]; omega)) only [↓wD,wU,↓reduceIte,reduceLT,reduceEqDiff,reduceSub,reduceAdd,reduceMul,reduceToNat,reduceLeDiff,h5,hc2]
   refine ⟨Heap.wf_set _ _ hw1,?_,⟨v,?_⟩,⟨b',hN',hg2 _⟩,h2.trans (Agree.set _ (by omega))⟩
   ·rw [Heap.get_set_ne _ _ (by omega)]; exact hL
   ·rw [Heap.get_set_ne _ _ (by omega)]; exact h1
 ·rintro H1 ⟨⟨v,h1⟩,⟨b,hNb,h5⟩,h2⟩ hw1
  have c5 : cellAt H1 (H.next + 1) 0 = some (.pointer (some ⟨b,0,none⟩)) := by rw [cellAt_of h5]; rfl
  simp -implicitDefEqProofs (maxSteps := 1000000) (disch := first | omega | (simp -implicitDefEqProofs only [wH]; done) | (simp -implicitDefEqProofs only [wH]; omega)) only [↓wD,wU,↓reduceIte,reduceLT,reduceEqDiff,reduceSub,reduceAdd,reduceMul,reduceToNat,reduceLeDiff,c5,h1,retQ_cell]
  rw [cellAt_set_self h1]
  exact hQ' _ _ (.inr ⟨b,rfl,hNb⟩) (h2.trans (Agree.set _ (Nat.le_refl _)))
 ·rintro e H1 he ⟨rfl,h1,h2⟩ hw1
  simp -implicitDefEqProofs (maxSteps := 1000000) (disch := first | omega | (simp -implicitDefEqProofs only [wH]; done) | (simp -implicitDefEqProofs only [wH]; omega)) only [↓wD,wU,↓reduceIte,reduceLT,reduceEqDiff,reduceSub,reduceAdd,reduceMul,reduceToNat,reduceLeDiff,retQ_cell,cellAt_of h1]
  exact hQ' _ _ (.inl rfl) h2
end Go.Ae
namespace Go.Ae
open Nat (reduceLT reduceEqDiff reduceSub reduceAdd reduceMul reduceLeDiff)
open Int (reduceToNat)
open Go
set_option maxRecDepth 100000
theorem c63 {K : Cx} (hK : Cfg K) (hS : TreeIs K) {s : ByteArray} {H : Heap} {Q : Value → Heap → Prop} (hs : s.size ≤ 1000000) (hp : isPathB s = true)
  (hQ : ∀ d n : ByteArray,0 < d.size → d.size ≤ s.size → Q (.tuple #[.string d,.string n]) H) : FC K 63 [.string s] H Q := by
 refine FC.of hK hS.i63 (by simp [F63]) ?_
 unfold F63
 simp (disch := omega) only [↓wD,wU,↓reduceIte,reduceLT,reduceEqDiff,reduceSub,reduceAdd,reduceMul,reduceToNat,reduceLeDiff]
 refine c61 hK hS.toPathIs hs ?_
 have h0 := isPathB_pos hp
 rw [hp]
 unfold Later
 simp (disch := omega) only [↓wD,wU,↓reduceIte,reduceLT,reduceEqDiff,reduceSub,reduceAdd,reduceMul,reduceToNat,reduceLeDiff]
 refine c102 hK hS.toStrIs (by omega) fun i h1 h2 => ?_
 unfold Later
 simp (disch := omega) only [↓wD,wU,↓reduceIte,reduceLT,reduceEqDiff,reduceSub,reduceAdd,reduceMul,reduceToNat,reduceLeDiff]
 obtain ⟨n,rfl⟩ : ∃ n : Nat,i = (n : Int) - 1 := ⟨(i + 1).toNat,by omega⟩
 by_cases hn : (1 : Int) > (n : Int) - 1
 ·rw [if_pos hn]
  refine hQ _ _ ?_ ?_ <;> (simp only [ByteArray.size_extract]; omega)
 ·rw [if_neg hn]
  refine hQ _ _ ?_ ?_ <;> (simp only [ByteArray.size_extract]; omega)
theorem Tr.mkMap {H : Heap} {lo tp c : Nat} {N M : Nat → Prop} (h : Tr H lo tp c N M) {b : Nat} (hb : N b) {k : Int} {m : Value} (hg : H.get b = some (.row [.int .i64 k,m] 0 (some 121))) (hlo : lo ≤ H.next) :
  Tr ((H.push (.map [])).set b (some (.row [.int .i64 k,.map (some H.next)] 0 (some 121)))) lo tp c N (fun x => M x ∨ x = H.next) where
 top := h.top
 root := by
  obtain ⟨r,n,h1,h2⟩ := h.root
  obtain ⟨_,hne,_⟩ := h.node b hb
  exact ⟨r,n,by rw [Heap.get_set_ne _ _ hne,Heap.get_push_old h1],h2⟩
 node := fun b' hb' => by
  obtain ⟨h0,h00,k',m',h1,h2⟩ := h.node b' hb'
  refine ⟨h0,h00,?_⟩
  by_cases e : b' = b
  ·subst e
   exact ⟨k,_,Heap.get_set_same _ _ (Heap.get_push_old hg),.inr ⟨_,rfl,.inr rfl⟩⟩
  ·refine ⟨k',m',by rw [Heap.get_set_ne _ _ (Ne.symm e),Heap.get_push_old h1],?_⟩
   rcases h2 with h2 | ⟨x,h2,h3⟩
   ·exact .inl h2
   ·exact .inr ⟨x,h2,.inl h3⟩
 map := fun x hx => by
  rcases hx with hx | rfl
  ·obtain ⟨h0,es,h1,h2⟩ := h.map x hx
   have hne : b ≠ x := fun e => by subst e; rw [hg] at h1; cases h1
   exact ⟨h0,es,by rw [Heap.get_set_ne _ _ hne,Heap.get_push_old h1],h2⟩
  ·have := Heap.lt_of_get hg
   exact ⟨hlo,[],by rw [Heap.get_set_ne _ _ (by omega),Heap.get_push_same],by simp⟩
theorem Tr.add {H : Heap} {lo tp c : Nat} {N M : Nat → Prop} (h : Tr H lo tp c N M) {x : Nat} (hx : M x) {es es' : List (Value × Value)} (hg : H.get x = some (.map es)) {k : Int} (hlo : lo ≤ H.next)
  (he : ∀ kv ∈ es',kv ∈ es ∨ (∃ s,kv.1 = .string s) ∧ kv.2 = .pointer (some ⟨H.next,0,none⟩)) :
  Tr ((H.push (.row [.int .i64 k,.map none] 0 (some 121))).set x (some (.map es'))) lo tp c (fun b => N b ∨ b = H.next) M where
 top := h.top
 root := by
  obtain ⟨r,n,h1,h2,h3⟩ := h.root
  have hne : x ≠ tp := fun e => by subst e; rw [hg] at h1; cases h1
  exact ⟨r,n,by rw [Heap.get_set_ne _ _ hne,Heap.get_push_old h1],.inl h2,h3⟩
 node := fun b hb => by
  rcases hb with hb | rfl
  ·obtain ⟨h0,h00,k',m',h1,h2⟩ := h.node b hb
   have hne : x ≠ b := fun e => by subst e; rw [hg] at h1; cases h1
   exact ⟨h0,h00,k',m',by rw [Heap.get_set_ne _ _ hne,Heap.get_push_old h1],h2⟩
  ·have := Heap.lt_of_get hg
   obtain ⟨r,n,h1,_⟩ := h.root
   have h2 := Heap.lt_of_get h1
   exact ⟨hlo,by omega,k,_,by rw [Heap.get_set_ne _ _ (by omega),Heap.get_push_same],.inl rfl⟩
 map := fun y hy => by
  obtain ⟨h0,es2,h1,h2⟩ := h.map y hy
  refine ⟨h0,?_⟩
  by_cases e : y = x
  ·subst e
   rw [hg] at h1; cases h1
   refine ⟨es',Heap.get_set_same _ _ (Heap.get_push_old hg),fun kv hkv => ?_⟩
   rcases he kv hkv with h | ⟨h,h'⟩
   ·obtain ⟨g1,b,g2,g3⟩ := h2 kv h
    exact ⟨g1,b,g2,.inl g3⟩
   ·exact ⟨h,H.next,h',.inr rfl⟩
  ·refine ⟨es2,by rw [Heap.get_set_ne _ _ (Ne.symm e),Heap.get_push_old h1],fun kv hkv => ?_⟩
   obtain ⟨g1,b,g2,g3⟩ := h2 kv hkv
   exact ⟨g1,b,g2,.inl g3⟩
theorem Tr.count {H : Heap} {lo tp c n : Nat} {N M : Nat → Prop} (h : Tr H lo tp c N M) {r : Nat} (hg : H.get tp = some (.row [.pointer (some ⟨r,0,none⟩),.int .i64 (n : Nat)] 0 (some 123))) :
  Tr (H.set tp (some (.row [.pointer (some ⟨r,0,none⟩),.int .i64 ((n + 1 : Nat) : Int)] 0 (some 123)))) lo tp (c + 1) N M where
 top := h.top
 root := by
  obtain ⟨r',n',h1,h2,h3⟩ := h.root
  rw [hg] at h1
  simp at h1
  obtain ⟨e1,e2⟩ := h1
  exact ⟨r,n + 1,Heap.get_set_same _ _ hg,by rw [e1]; exact h2,by omega⟩
 node := fun b hb => by
  obtain ⟨h0,h00,k',m',h1,h2⟩ := h.node b hb
  exact ⟨h0,h00,k',m',by rw [Heap.get_set_ne _ _ (Ne.symm h00)]; exact h1,h2⟩
 map := fun y hy => by
  obtain ⟨h0,es2,h1,h2⟩ := h.map y hy
  have hne : tp ≠ y := fun e => by subst e; rw [hg] at h1; cases h1
  exact ⟨h0,es2,by rw [Heap.get_set_ne _ _ hne]; exact h1,h2⟩
theorem c31 {K : Cx} (hK : Cfg K) (hS : TreeIs K) {H : Heap} {Q : Value → Heap → Prop} (hQ : Q (.pointer (some ⟨H.next + 1,0,none⟩)) ((H.push (.row [.int .i64 1,.map none] 0 (some 121))).push (.row [.pointer (some ⟨H.next,0,none⟩),.int .i64 0] 0 (some 123)))) : FC K 31 [] H Q := by
 refine FC.of hK hS.i31 (by simp [F31]) ?_
 unfold F31
 simp (disch := omega) only [↓wD,wU,↓reduceIte,reduceLT,reduceEqDiff,reduceSub,reduceAdd,reduceMul,reduceToNat,reduceLeDiff]
 exact hQ
def r32 : ACode := F32.body.snd.snd.snd.snd.snd.snd.snd.snd
theorem b32 : F32.body = .seq F32.body.fst (.seq F32.body.snd.fst (.seq F32.body.snd.snd.fst (.seq F32.body.snd.snd.snd.fst (.seq F32.body.snd.snd.snd.snd.fst (.seq F32.body.snd.snd.snd.snd.snd.fst (.seq F32.body.snd.snd.snd.snd.snd.snd.fst
 (.seq F32.body.snd.snd.snd.snd.snd.snd.snd.fst r32))))))) := rfl
theorem aeqv_mapNN {H : Heap} : aeqv H .map (.map none) (.map none) = some true := rfl
theorem aeqv_mapSN {H : Heap} (a : Nat) : aeqv H .map (.map (some a)) (.map none) = some false := rfl
theorem r32_ok {K : Cx} {tp lo c b x : Nat} {N M : Nat → Prop} {k : Int} {name : ByteArray} {kd : Int} {H : Heap} {Q : Value → Heap → Prop} (hw : H.wf) (hT : Tr H lo tp c N M) (hc : c ≤ 1000) (hlo : lo ≤ H.next) (hN : N b) (hg : H.get b = some (.row [.int .i64 k,.map (some x)] 0 (some 121))) (hM : M x)
  (hQ : ∀ H' N' M',H'.wf → Tr H' lo tp (c + 1) N' M' → (∀ y,y < lo → H'.get y = H.get y) → H.next ≤ H'.next → Q (.int .i64 0) H')
  (f : Nat → Value) (f0 : f 0 = .pointer (some ⟨tp,0,none⟩)) (f2 : f 2 = .int .i64 kd) (f8 : f 8 = .string name) (f9 : f 9 = .pointer (some ⟨b,0,none⟩)) : wpC K DrawD none r32 (retQ F32.results Q) (mk 70 f) H := by
 unfold r32 F32
 simp only [ACode.snd]
 obtain ⟨r,n,hr,hNr,hn⟩ := hT.root
 obtain ⟨_,es,hx,hes⟩ := hT.map x hM
 have hbl := Heap.lt_of_get hg
 have htl := Heap.lt_of_get hr
 have hxl := Heap.lt_of_get hx
 have cb : cellAt H b 1 = some (.map (some x)) := by rw [cellAt_of hg]; rfl
 have done : ∀ es',(∀ kv ∈ es',kv ∈ es ∨ (∃ s,kv.1 = .string s) ∧ kv.2 = .pointer (some ⟨H.next,0,none⟩)) →
   ((H.push (.row [.int .i64 kd,.map none] 0 (some 121))).set x (some (.map es'))).get tp = some (.row [.pointer (some ⟨r,0,none⟩),.int .i64 (n : Nat)] 0 (some 123)) ∧
   cellAt ((H.push (.row [.int .i64 kd,.map none] 0 (some 121))).set x (some (.map es'))) tp 1 = some (.int .i64 (n : Nat)) ∧
   Q (.int .i64 0) (((H.push (.row [.int .i64 kd,.map none] 0 (some 121))).set x (some (.map es'))).set tp (some (.row [.pointer (some ⟨r,0,none⟩),.int .i64 ((n : Int) + 1)] 0 (some 123)))) := fun es' he => by
  have hT2 := hT.add (k := kd) hM hx hlo he
  have hxt : x ≠ tp := fun e => by subst e; rw [hx] at hr; cases hr
  have hr2 : ((H.push (.row [.int .i64 kd,.map none] 0 (some 121))).set x (some (.map es'))).get tp = some (.row [.pointer (some ⟨r,0,none⟩),.int .i64 (n : Nat)] 0 (some 123)) := by
   rw [Heap.get_set_ne _ _ hxt]; exact Heap.get_push_old hr
  refine ⟨hr2,by rw [cellAt_of hr2]; rfl,?_⟩
  refine hQ _ _ _ (Heap.wf_set _ _ (Heap.wf_set _ _ (Heap.wf_push _ hw))) (hT2.count hr2) (fun y hy => ?_) (by simp)
  have := hT.top
  have := (hT.map x hM).1
  rw [Heap.get_set_ne _ _ (by omega),Heap.get_set_ne _ _ (by omega),Heap.get_push_ne _ _ (by omega)]
 simp (disch := omega) only [↓wD,wU,↓reduceIte,reduceLT,reduceEqDiff,reduceSub,reduceAdd,reduceMul,reduceToNat,reduceLeDiff,f0,f2,f8,f9,cb]
 rw [wpItems_mset]
 have hx2 : (H.push (.row [.int .i64 kd,.map none] 0 (some 121))).get x = some (.map es) := Heap.get_push_old hx
 simp only [aop,ev_mk,upv_at,f0,f2,f8,f9,↓reduceIte,Nat.reduceLT,Nat.reduceEqDiff,hx2]
 rcases findKey_str name es 0 (fun kv hkv => (hes kv hkv).1) with h | ⟨i,kv,h,h2⟩
 ·simp only [h]
  obtain ⟨d1,d2,d3⟩ := done (es ++ [(.string name,.pointer (some ⟨H.next,0,none⟩))]) (fun kv hkv => by
   rcases List.mem_append.1 hkv with h | h
   ·exact .inl h
   ·simp at h; subst h; exact .inr ⟨⟨_,rfl⟩,rfl⟩)
  simp (disch := omega) only [↓wD,wU,↓reduceIte,reduceLT,reduceEqDiff,reduceSub,reduceAdd,reduceMul,reduceToNat,reduceLeDiff,f0,d1,d2]
  exact d3
 ·rw [Nat.zero_add] at h
  simp only [h]
  obtain ⟨d1,d2,d3⟩ := done (es.set i (.string name,.pointer (some ⟨H.next,0,none⟩))) (fun kv hkv => by
   rcases List.mem_or_eq_of_mem_set hkv with h | h
   ·exact .inl h
   ·subst h; exact .inr ⟨⟨_,rfl⟩,rfl⟩)
  simp (disch := omega) only [↓wD,wU,↓reduceIte,reduceLT,reduceEqDiff,reduceSub,reduceAdd,reduceMul,reduceToNat,reduceLeDiff,f0,d1,d2]
  exact d3
set_option maxHeartbeats 4000000 in
theorem c32 {K : Cx} (hK : Cfg K) (hS : TreeIs K) {s : ByteArray} {kd : Int} {tp lo c : Nat} {N M : Nat → Prop} {H : Heap} {Q : Value → Heap → Prop} (hT : Tr H lo tp c N M) (hc : c ≤ 1000) (hlo : lo ≤ H.next) (hs : s.size ≤ 1000000)
  (hQ : ∀ v H' N' M',H'.wf → Tr H' lo tp (c + 1) N' M' → (∀ y,y < lo → H'.get y = H.get y) → H.next ≤ H'.next → Q v H') : FC K 32 [.pointer (some ⟨tp,0,none⟩),.string s,.int .i64 kd] H Q := by
 refine FC.wf0 fun hw => ?_
 have hsame : ∀ v,Q v H := fun v => hQ v H N M hw ⟨hT.top,(by obtain ⟨r,n,h1,h2,h3⟩ := hT.root; exact ⟨r,n,h1,h2,by omega⟩),hT.node,hT.map⟩ (fun _ _ => rfl) (Nat.le_refl _)
 refine FC.of hK hS.i32 (by simp [F32]) ?_
 rw [b32]
 simp only [F32,ACode.fst,ACode.snd]
 simp (disch := omega) only [↓wD,wU,↓reduceIte,reduceLT,reduceEqDiff,reduceSub,reduceAdd,reduceMul,reduceToNat,reduceLeDiff]
 refine c61 hK hS.toPathIs hs ?_
 unfold Later
 cases hp : isPathB s
 ·simp (disch := omega) only [↓wD,wU,↓reduceIte,reduceLT,reduceEqDiff,reduceSub,reduceAdd,reduceMul,reduceToNat,reduceLeDiff]
  exact hsame _
 have hp0 := isPathB_pos hp
 simp (disch := omega) only [↓wD,wU,↓reduceIte,reduceLT,reduceEqDiff,reduceSub,reduceAdd,reduceMul,reduceToNat,reduceLeDiff]
 split
 ·exact hsame _
 split
 ·exact hsame _
 refine c62 hK hS hT ⟨hp0,hs⟩ fun v hv => ?_
 unfold Later
 rcases hv with rfl | ⟨b,rfl,hb⟩
 rotate_left
 ·simp (disch := omega) only [↓wD,wU,↓reduceIte,reduceLT,reduceEqDiff,reduceSub,reduceAdd,reduceMul,reduceToNat,reduceLeDiff,aeqv_ptrSN]
  exact hsame _
 simp (disch := omega) only [↓wD,wU,↓reduceIte,reduceLT,reduceEqDiff,reduceSub,reduceAdd,reduceMul,reduceToNat,reduceLeDiff,aeqv_ptrNN]
 refine c63 hK hS hs hp fun d nm h1 h2 => ?_
 unfold Later
 simp (disch := omega) only [↓wD,wU,↓reduceIte,reduceLT,reduceEqDiff,reduceSub,reduceAdd,reduceMul,reduceToNat,reduceLeDiff]
 refine c62 hK hS hT ⟨h1,by omega⟩ fun v hv => ?_
 unfold Later
 rcases hv with rfl | ⟨b,rfl,hb⟩
 ·simp (disch := omega) only [↓wD,wU,↓reduceIte,reduceLT,reduceEqDiff,reduceSub,reduceAdd,reduceMul,reduceToNat,reduceLeDiff,aeqv_ptrNN]
  exact hsame _
 obtain ⟨hb0,hbt,k,m,hg,hm⟩ := hT.node b hb
 obtain ⟨r,n,hr,hNr,hn⟩ := hT.root
 have c0 : cellAt H b 0 = some (.int .i64 k) := by rw [cellAt_of hg]; rfl
 have c1 : cellAt H b 1 = some m := by rw [cellAt_of hg]; rfl
 have ct : cellAt H tp 1 = some (.int .i64 (n : Nat)) := by rw [cellAt_of hr]; rfl
 have hbl := Heap.lt_of_get hg
 simp (disch := omega) only [↓wD,wU,↓reduceIte,reduceLT,reduceEqDiff,reduceSub,reduceAdd,reduceMul,reduceToNat,reduceLeDiff,aeqv_ptrSN,c0,c1,ct]
 split
 ·exact hsame _
 split
 ·exact hsame _
 rcases hm with rfl | ⟨x,rfl,hM⟩
 ·have hg' : (H.push (.map [])).get b = some (.row [.int .i64 k,.map none] 0 (some 121)) := Heap.get_push_old hg
  simp (disch := omega) only [↓wD,wU,↓reduceIte,reduceLT,reduceEqDiff,reduceSub,reduceAdd,reduceMul,reduceToNat,reduceLeDiff,aeqv_mapNN,c0,c1,ct,hg]
  refine r32_ok (K := K) (tp := tp) (lo := lo) (c := c) (b := b) (x := H.next) (k := k) (name := nm) (kd := kd) (Heap.wf_set _ _ (Heap.wf_push _ hw)) (hT.mkMap hb hg hlo) hc (by simp; omega) hb (Heap.get_set_same _ _ hg') (.inr rfl)
   (fun H' N' M' h1 h2 h3 h4 => hQ _ H' N' M' h1 h2 (fun y hy => ?_) (by simp at h4; omega)) _ ?_ ?_ ?_ ?_
  ·rw [h3 y hy,Heap.get_set_ne _ _ (by omega),Heap.get_push_ne _ _ (by omega)]
  all_goals rfl
 ·simp (disch := omega) only [↓wD,wU,↓reduceIte,reduceLT,reduceEqDiff,reduceSub,reduceAdd,reduceMul,reduceToNat,reduceLeDiff,aeqv_mapSN,c0,c1,ct]
  refine r32_ok (K := K) (tp := tp) (lo := lo) (c := c) (b := b) (x := x) (k := k) (name := nm) (kd := kd) hw hT hc hlo hb hg hM
   (fun H' N' M' h1 h2 h3 h4 => hQ _ H' N' M' h1 h2 h3 h4) _ ?_ ?_ ?_ ?_
  all_goals rfl
end Go.Ae
namespace Go.Ae
open Nat (reduceLT reduceEqDiff reduceSub reduceAdd reduceMul reduceLeDiff)
open Int (reduceToNat)
open Go
set_option maxRecDepth 100000
set_option maxHeartbeats 4000000 in
theorem c13 {K : Cx} (hK : Cfg K) (hS : TreeIs K) {fl : Fl} {H : Heap} {Q : Value → Heap → Prop} (hf : fl.ok H) (hl : fl.n ≤ 20 ∧ ∀ j,j < fl.n → (fl.p j).size ≤ 100)
  (hQ : ∀ tp H' N M,H'.wf → Tr H' H.next tp 20 N M → Agree H.next H H' → H.next ≤ H'.next → Q (.pointer (some ⟨tp,0,none⟩)) H') : FC K 13 [fl.v] H Q := by
 refine FC.wf0 fun hw => ?_
 refine FC.of hK hS.i13 (by simp [F13]) ?_
 unfold F13
 obtain ⟨⟨a,cap,ev,hcp,hs⟩,hcells⟩ := hf
 rw [ev]
 simp (disch := omega) only [↓wD,wU,↓reduceIte,reduceLT,reduceEqDiff,reduceSub,reduceAdd,reduceMul,reduceToNat,reduceLeDiff]
 refine c31 hK hS ?_
 unfold Later
 simp (disch := omega) only [↓wD,wU,↓reduceIte,reduceLT,reduceEqDiff,reduceSub,reduceAdd,reduceMul,reduceToNat,reduceLeDiff]
 have hT0 : Tr ((H.push (.row [.int .i64 1,.map none] 0 (some 121))).push (.row [.pointer (some ⟨H.next,0,none⟩),.int .i64 0] 0 (some 123))) H.next (H.next + 1) 0 (fun b => b = H.next) (fun _ => False) := by
  refine ⟨by omega,⟨H.next,0,Heap.get_push_same _ _,rfl,Nat.le_refl _⟩,fun b hb => ?_,fun x hx => hx.elim⟩
  subst hb
  exact ⟨Nat.le_refl _,by omega,1,.map none,Heap.get_push_old (Heap.get_push_same _ _),.inl rfl⟩
 refine loop_ind (fun m E H' => ∃ (f : Nat → Value) (i : Nat) (N M : Nat → Prop),E = mk 21 f ∧ f 3 = .pointer (some ⟨H.next + 1,0,none⟩) ∧ f 7 = .slice a fl.n cap ∧ f 8 = .int .i64 (fl.n : Nat) ∧ f 9 = .int .i64 (i : Nat) ∧ m + i = fl.n + 1 ∧ i ≤ fl.n ∧
   H'.wf ∧ Tr H' H.next (H.next + 1) i N M ∧ Agree H.next H H' ∧ H.next ≤ H'.next) (n := fl.n + 1) ?_ ?_
 ·exact ⟨_,0,_,_,rfl,rfl,rfl,rfl,rfl,rfl,by omega,Heap.wf_push _ (Heap.wf_push _ hw),hT0,(Agree.push _ (Nat.le_refl _)).trans (Agree.push _ (by simp)),by simp; omega⟩
 rintro I m E H' ⟨f,i,N,M,rfl,f3,f7,f8,f9,hm,hi,hw1,hT,hA,hn⟩ hI
 by_cases hik : (i : Int) < fl.n
 ·obtain ⟨b,o,rfl,hc⟩ := hs.resolve_left (by omega)
  have hb := cellAt_lt (hc (i * 2) (by omega))
  have c2 : cellsAt H' b (o + i * 2) 2 = some [.string (fl.p i),.int .i64 (fl.k i)] := by
   rw [cellsAt_of (g := fun j => fl.g (i * 2 + j)) (by decide) (fun j hj => by rw [cellAt_agree hA hb,Nat.add_assoc]; exact hc _ (by omega))]
   show some [fl.g (i * 2),fl.g (i * 2 + 1)] = _
   rw [(hcells i (by omega)).1,(hcells i (by omega)).2]
  simp (disch := omega) only [↓wD,wU,↓reduceIte,reduceLT,reduceEqDiff,reduceSub,reduceAdd,reduceMul,reduceToNat,reduceLeDiff,f3,f7,f8,f9,hik,c2]
  refine ⟨by omega,?_⟩
  have hT2 := hT.agree (Agree.push (.row [.string (fl.p i),.int .i64 (fl.k i)] 0 (some 46)) (Nat.le_refl _))
  refine c32 hK hS hT2 (by omega) (by simp; omega) (by have := hl.2 i (by omega); omega) fun _ H2 N' M' hw2 hT3 hA2 hn2 => ?_
  unfold Later
  simp (disch := omega) only [↓wD,wU,↓reduceIte,reduceLT,reduceEqDiff,reduceSub,reduceAdd,reduceMul,reduceToNat,reduceLeDiff,f3,f7,f8,f9,hik]
  simp only [Heap.next_push] at hn2
  refine hI _ _ _ (show m - 1 < m by omega) ?_
  exact ⟨_,i + 1,N',M',rfl,f3,f7,f8,rfl,by omega,by omega,hw2,hT3,fun x hx => by rw [hA2 x hx,Heap.get_push_ne _ _ (by omega),hA x hx],by omega⟩
 ·simp (disch := omega) only [↓wD,wU,↓reduceIte,reduceLT,reduceEqDiff,reduceSub,reduceAdd,reduceMul,reduceToNat,reduceLeDiff,f3,f7,f8,f9,hik]
  refine hQ _ _ N M hw1 ⟨hT.top,?_,hT.node,hT.map⟩ hA hn
  obtain ⟨r,n,h1,h2,h3⟩ := hT.root
  exact ⟨r,n,h1,h2,by omega⟩
end Go.Ae
namespace Go.Ae
open Nat (reduceLT reduceEqDiff reduceSub reduceAdd reduceMul reduceLeDiff)
open Int (reduceToNat)
open Go
set_option maxRecDepth 100000
structure CleanIs (K : Cx) : Prop where
 path : PathIs K
 join : JoinIs K
 i45 : Is K.P K.G0 45 F45
def Seg (n0 : Nat) (H : Heap) (v : Value) (xs : List Value) : Prop :=
 (v = .slice none 0 0 ∧ xs = []) ∨ ∃ b c rest ty,n0 ≤ b ∧ v = .slice (some ⟨b,0,some 1⟩) xs.length c ∧ xs.length ≤ c ∧ H.get b = some (.row (xs ++ rest) 0 ty)
theorem Seg.frame {n0 : Nat} {H H' : Heap} {v : Value} {xs : List Value} (h : Seg n0 H v xs) (hf : ∀ b,n0 ≤ b → b < H.next → H'.get b = H.get b) : Seg n0 H' v xs := by
 rcases h with h | ⟨b,c,rest,ty,h1,h2,h3,h4⟩
 ·exact .inl h
 ·exact .inr ⟨b,c,rest,ty,h1,h2,h3,by rw [hf b h1 (Heap.lt_of_get h4)]; exact h4⟩
theorem Seg.val {n0 : Nat} {H : Heap} {v : Value} {xs : List Value} (h : Seg n0 H v xs) : ∃ a c,v = .slice a xs.length c ∧ xs.length ≤ c ∧ (a = none → xs = []) ∧ ∀ q,a = some q → q.spot = some 1 ∧ q.off = 0 ∧ n0 ≤ q.block := by
 rcases h with ⟨rfl,rfl⟩ | ⟨b,c,rest,ty,h1,h2,h3,h4⟩
 ·exact ⟨none,0,rfl,Nat.le_refl _,fun _ => rfl,fun q h => (by cases h)⟩
 ·exact ⟨_,c,h2,h3,fun h => (by cases h),fun q h => (by cases h; exact ⟨rfl,rfl,h1⟩)⟩
theorem Seg.take {n0 : Nat} {H : Heap} {a : Option Addr} {c : Nat} {xs : List Value} (h : Seg n0 H (.slice a xs.length c) xs) {k : Nat} (hk : k ≤ xs.length) (ha : a ≠ none) : Seg n0 H (.slice a k c) (xs.take k) := by
 rcases h with ⟨h,_⟩ | ⟨b,c',rest,ty,h1,h2,h3,h4⟩
 ·exact (ha (Value.slice.inj h).1).elim
 ·cases h2
  refine .inr ⟨b,c,xs.drop k ++ rest,ty,h1,by rw [List.length_take,Nat.min_eq_left hk],by rw [List.length_take]; omega,?_⟩
  rw [← List.append_assoc,List.take_append_drop]; exact h4
theorem Seg.sl {n0 : Nat} {H : Heap} {v : Value} {xs : List Value} (h : Seg n0 H v xs) : Sl H v 1 xs.length fun j => xs.getD j undef := by
 rcases h with ⟨rfl,rfl⟩ | ⟨b,c,rest,ty,h1,rfl,h3,h4⟩
 ·exact ⟨none,0,rfl,Nat.le_refl _,.inl rfl⟩
 ·refine ⟨_,c,rfl,h3,.inr ⟨b,0,rfl,fun j hj => ?_⟩⟩
  rw [cellAt_of h4,Nat.zero_add,List.getElem?_append_left (by omega)]
  show _ = some (xs.getD j undef)
  rw [List.getD_eq_getElem?_getD,List.getElem?_eq_getElem (by omega)]; rfl
theorem wpItems_app_seg {K : Cx} {Q : List Value → Heap → Prop} {E : List Value} {H : Heap} {d : Option Tmp} {r : List AItem} {n0 : Nat} {s x : Operand} {e : TypeId} (v : Value) {xs : List Value} {y : Value} (ho : Seg n0 H v xs) (hv : ev E s = v) (hx : ev E x = sliceOf H.next 0 1 1 1)
  (hn : n0 ≤ H.next) (hB : xs.length + 1 ≤ appMax)
  (h : ∀ v' H',Seg n0 H' v' (xs ++ [y]) → (∀ c,c < n0 → H'.get c = H.get c) → H.next ≤ H'.next → (H.wf → H'.wf) → wpItems K r Q (put E d v') H') :
  wpItems K (⟨d,.app s x 1 e,none⟩ :: r) Q E (H.push (.row [y] 0 none)) := by
 rw [wpItems_app]
 have hxs : cellsAt (H.push (.row [y] 0 none)) H.next 0 (1 * 1) = some [y] := cellsAt_push_self rfl
 rcases ho with ⟨rfl,rfl⟩ | ⟨b,c,rest,ty,h1,rfl,h3,h4⟩
 ·simp only [aop,hv,hx,sliceOf,Nat.one_ne_zero,if_false,hxs,Option.map_none,reduceCtorEq,ne_eq,not_true_eq_false,or_false,appendA,if_true]
  rw [if_neg (by simp at hB; omega)]
  refine h _ _ (.inr ⟨H.next + 1,1,[],some e,by omega,by simp,by simp,?_⟩) (fun c hc => ?_) (by simp; omega) (fun hw => Heap.wf_push _ (Heap.wf_push _ hw))
  ·have := Heap.get_push_same (H.push (.row [y] 0 none)) (.row [y] 0 (some e))
   simpa using this
  ·rw [Heap.get_push_ne _ _ (by simp; omega),Heap.get_push_ne _ _ (by omega)]
 ·have hlt := Heap.lt_of_get h4
  have h4' : (H.push (.row [y] 0 none)).get b = some (.row (xs ++ rest) 0 ty) := Heap.get_push_old h4
  have hne : ¬ b = H.next := by omega
  simp only [aop,hv,hx,sliceOf,Nat.one_ne_zero,if_false,hxs,Option.map_some,Option.some.injEq,hne,ne_eq,not_true_eq_false,or_false,appendA,h4']
  rw [if_pos ⟨by simp,trivial,by omega,.inl trivial⟩,if_neg (by omega)]
  have e1 : (List.drop 0 (xs ++ rest)).take (xs.length * 1) = xs := by rw [List.drop_zero,Nat.mul_one,List.take_left]
  rw [e1]
  refine h _ _ (.inr ⟨H.next + 1,xs.length + 1,[],if ty = some e ∧ True then ty else none,by omega,by simp,by simp,?_⟩) (fun c hc => ?_) (by simp; omega) (fun hw => Heap.wf_push _ (Heap.wf_set _ _ (Heap.wf_push _ hw)))
  ·have := Heap.get_push_same ((H.push (.row [y] 0 none)).set b none) (.row (xs ++ [y]) 0 (if ty = some e ∧ True then ty else none))
   simpa using this
  ·rw [Heap.get_push_ne _ _ (by simp; omega),Heap.get_set_ne _ _ (by omega),Heap.get_push_ne _ _ (by omega)]
theorem splitL_len : ∀ l : List UInt8,(splitL l).length ≤ l.length + 1 ∧ ∀ p ∈ splitL l,p.length ≤ l.length
 | [] => by simp [splitL]
 | c :: l => by
  obtain ⟨h1,h2⟩ := splitL_len l
  unfold splitL
  split
  ·refine ⟨by simp; omega,fun p hp => ?_⟩
   rcases List.mem_cons.1 hp with rfl | hp
   ·simp
   ·have := h2 p hp; simp; omega
  ·cases hs : splitL l with
   | nil => exact (splitL_ne l hs).elim
   | cons p ps =>
    rw [hs] at h1 h2
    refine ⟨by simp at h1 ⊢; omega,fun q hq => ?_⟩
    rcases List.mem_cons.1 hq with rfl | hq
    ·have := h2 p (by simp); simp; omega
    ·have := h2 q (by simp [hq]); simp; omega
def r45 : ACode := F45.body.snd.snd.snd
theorem b45 : F45.body = .seq F45.body.fst (.seq F45.body.snd.fst (.seq F45.body.snd.snd.fst r45)) := rfl
set_option maxHeartbeats 4000000 in
theorem r45_ok {K : Cx} (hK : Cfg K) (hS : CleanIs K) {s : ByteArray} {H : Heap} {Q : Value → Heap → Prop} (hs : s.size ≤ 900) (hw : H.wf)
  (hQ : ∀ (t : ByteArray) (H' : Heap),t.size ≤ 9000000 → Agree H.next H H' → Q (.string t) H') (f : Nat → Value) (f1 : f 1 = .string s) (f5 : f 5 = .pointer (some ⟨H.next,0,none⟩)) :
  wpC K DrawD none r45 (retQ F45.results Q) (mk 36 f) (H.push (.row [.slice none 0 0] 0 (some 27))) := by
 unfold r45 F45
 simp only [ACode.snd]
 simp -implicitDefEqProofs (maxSteps := 1000000) (disch := first | omega | (simp -implicitDefEqProofs only [wH]; done) | (simp -implicitDefEqProofs only [wH]; omega)) only [↓wD,wU,↓reduceIte,reduceLT,reduceEqDiff,reduceSub,reduceAdd,reduceMul,reduceToNat,reduceLeDiff,f1]
 refine c71 hK hS.path.toStrIs ?_
 unfold Later
 simp -implicitDefEqProofs (maxSteps := 1000000) (disch := first | omega | (simp -implicitDefEqProofs only [wH]; done) | (simp -implicitDefEqProofs only [wH]; omega)) only [↓wD,wU,↓reduceIte,reduceLT,reduceEqDiff,reduceSub,reduceAdd,reduceMul,reduceToNat,reduceLeDiff,wpC_rfunc,callR_func,f1]
 refine ⟨fun _ h => (by cases h),?_⟩
 obtain ⟨hl1,hl2⟩ := splitL_len s.data.toList
 rw [size_data] at hl1 hl2
 refine range_parts hK hS.path.toStrIs (Heap.wf_push _ (Heap.wf_push _ hw)) (Heap.get_push_same _ _) (by omega) (by decide)
  (fun ps G => ∃ v xs,G.get H.next = some (.row [v] 0 (some 27)) ∧ Seg (H.next + 3) G v xs ∧ Agree H.next H G ∧ H.next + 3 ≤ G.next ∧ xs.length + ps.length ≤ s.size + 1 ∧ (∀ x ∈ xs,∃ t : ByteArray,x = .string t ∧ t.size ≤ 900) ∧ (∀ p ∈ ps,p.length ≤ 900))
  (fun e G => False) (fun r => ?_) (fun e => ?_) ⟨.slice none 0 0,[],?_,.inl ⟨rfl,rfl⟩,?_,?_,by simp; omega,by simp,fun p hp => by have := hl2 p hp; omega⟩ ?_ ?_ ?_
 ·rintro G G' ⟨v,xs,h1,h2,h3,h4,h5⟩ h6 h7
  simp only [Heap.next_push] at h6
  exact ⟨v,xs,by rw [h6 _ (by omega) (by omega)]; exact h1,h2.frame fun b hb _ => h6 b (by omega) (by omega),fun x hx => by rw [h6 x (by omega) (by omega)]; exact h3 x hx,by omega,h5⟩
 ·rintro G G' h; exact h.elim
 ·simp -implicitDefEqProofs (maxSteps := 1000000) (disch := first | omega | (simp -implicitDefEqProofs only [wH]; done) | (simp -implicitDefEqProofs only [wH]; omega)) only [↓wD,wU,↓reduceIte,reduceLT,reduceEqDiff,reduceSub,reduceAdd,reduceMul,reduceToNat,reduceLeDiff]
 ·exact ((Agree.push _ (Nat.le_refl _)).trans (Agree.push _ (by simp))).trans (Agree.push _ (by simp; omega))
 ·simp
 ·rintro t ps G L ⟨v,xs,h1,h2,h3,h4,h5,h6,h7⟩ hw1 hn1 hb1 hL
  simp only [Heap.next_push] at hn1 hb1 hL ⊢
  have c1 : cellAt G H.next 0 = some v := by rw [cellAt_of h1]; rfl
  have hlt := Heap.lt_of_get h1
  have ht : t.length ≤ 900 := h7 t (by simp)
  have keep : (∃ v xs,G.get H.next = some (.row [v] 0 (some 27)) ∧ Seg (H.next + 3) G v xs ∧ Agree H.next H G ∧ H.next + 3 ≤ G.next ∧ xs.length + ps.length ≤ s.size + 1 ∧ (∀ x ∈ xs,∃ t : ByteArray,x = .string t ∧ t.size ≤ 900) ∧ (∀ p ∈ ps,p.length ≤ 900)) :=
   ⟨v,xs,h1,h2,h3,h4,by simp at h5; omega,h6,fun p hp => h7 p (by simp [hp])⟩
  obtain ⟨a,c,rfl,hc1,hc2,hc3⟩ := h2.val
  simp -implicitDefEqProofs (maxSteps := 1000000) (disch := first | omega | (simp -implicitDefEqProofs only [wH]; done) | (simp -implicitDefEqProofs only [wH]; omega)) only [↓wD,wU,↓reduceIte,reduceLT,reduceEqDiff,reduceSub,reduceAdd,reduceMul,reduceToNat,reduceLeDiff,f5,c1]
  split
  ·exact ⟨hw1,hL,keep⟩
  split
  ·exact ⟨hw1,hL,keep⟩
  split
  ·have hk : (if (0 : Int) > (xs.length : Int) - 1 then (0 : Int) else (xs.length : Int) - 1).toNat = xs.length - 1 := by split <;> omega
   rw [hk]
   have hps : ∀ p ∈ ps,p.length ≤ 900 := fun p hp => h7 p (by simp [hp])
   simp only [List.length_cons] at h5
   rcases h2 with ⟨e1,rfl⟩ | ⟨b,c',rest,ty,e0,e1,e2,e3⟩
   ·cases e1
    simp -implicitDefEqProofs (maxSteps := 1000000) (disch := first | omega | (simp -implicitDefEqProofs only [wH]; done) | (simp -implicitDefEqProofs only [wH]; omega)) only [↓wD,wU,↓reduceIte,reduceLT,reduceEqDiff,reduceSub,reduceAdd,reduceMul,reduceToNat,reduceLeDiff,h1]
    refine ⟨Heap.wf_set _ _ hw1,?_,.slice none 0 0,[],Heap.get_set_same _ _ h1,.inl ⟨rfl,rfl⟩,h3.trans (Agree.set _ (Nat.le_refl _)),by omega,by simp; omega,by simp,hps⟩
    rw [Heap.get_set_ne _ _ (by omega)]; exact hL
   ·cases e1
    have h2 : Seg (H.next + 3) G (.slice (some ⟨b,0,some 1⟩) xs.length c) xs := .inr ⟨b,c,rest,ty,e0,rfl,e2,e3⟩
    simp -implicitDefEqProofs (maxSteps := 1000000) (disch := first | omega | (simp -implicitDefEqProofs only [wH]; done) | (simp -implicitDefEqProofs only [wH]; omega)) only [↓wD,wU,↓reduceIte,reduceLT,reduceEqDiff,reduceSub,reduceAdd,reduceMul,reduceToNat,reduceLeDiff,h1,sliceOf]
    refine ⟨Heap.wf_set _ _ hw1,?_,_,xs.take (xs.length - 1),Heap.get_set_same _ _ h1,(h2.take (k := xs.length - 1) (by omega) (by simp)).frame (fun b hb _ => Heap.get_set_ne _ _ (by omega)),h3.trans (Agree.set _ (Nat.le_refl _)),by omega,by rw [List.length_take]; omega,fun x hx => h6 x (List.mem_of_mem_take hx),hps⟩
    rw [Heap.get_set_ne _ _ (by omega)]; exact hL
  ·refine wpItems_app_seg (n0 := H.next + 3) (.slice a xs.length c) h2 ?_ ?_ (by omega) (by unfold appMax; simp at h5; omega) fun v' G' g1 g2 g3 g4 => ?_
   ·simp -implicitDefEqProofs (maxSteps := 1000000) (disch := first | omega | (simp -implicitDefEqProofs only [wH]; done) | (simp -implicitDefEqProofs only [wH]; omega)) only [↓wD,wU,↓reduceIte,reduceLT,reduceEqDiff,reduceSub,reduceAdd,reduceMul,reduceToNat,reduceLeDiff]
   ·simp -implicitDefEqProofs (maxSteps := 1000000) (disch := first | omega | (simp -implicitDefEqProofs only [wH]; done) | (simp -implicitDefEqProofs only [wH]; omega)) only [↓wD,wU,↓reduceIte,reduceLT,reduceEqDiff,reduceSub,reduceAdd,reduceMul,reduceToNat,reduceLeDiff]
   have g5 : G'.get H.next = some (.row [.slice a xs.length c] 0 (some 27)) := by rw [g2 _ (by omega)]; exact h1
   obtain ⟨a',c',rfl,_⟩ := g1.val
   simp -implicitDefEqProofs (maxSteps := 1000000) (disch := first | omega | (simp -implicitDefEqProofs only [wH]; done) | (simp -implicitDefEqProofs only [wH]; omega)) only [↓wD,wU,↓reduceIte,reduceLT,reduceEqDiff,reduceSub,reduceAdd,reduceMul,reduceToNat,reduceLeDiff,f5,g5]
   refine ⟨Heap.wf_set _ _ (g4 hw1),?_,_,_,Heap.get_set_same _ _ g5,g1.frame fun b hb _ => Heap.get_set_ne _ _ (by omega),?_,?_,?_,fun x hx => ?_,fun p hp => h7 p (by simp [hp])⟩
   ·rw [Heap.get_set_ne _ _ (by omega),g2 _ (by omega)]; exact hL
   ·intro x hx
    rw [Heap.get_set_ne _ _ (by omega),g2 x (by omega),h3 x hx]
   ·omega
   ·rw [List.length_append]; simp only [List.length_cons,List.length_nil] at h5 ⊢; omega
   ·rcases List.mem_append.1 hx with hx | hx
    ·exact h6 x hx
    ·simp at hx; subst hx; exact ⟨_,rfl,by simpa [ByteArray.size] using ht⟩
 ·rintro G ⟨v,xs,h1,h2,h3,h4,h5,h6,h7⟩ hw1
  have c1 : cellAt G H.next 0 = some v := by rw [cellAt_of h1]; rfl
  simp -implicitDefEqProofs (maxSteps := 1000000) (disch := first | omega | (simp -implicitDefEqProofs only [wH]; done) | (simp -implicitDefEqProofs only [wH]; omega)) only [↓wD,wU,↓reduceIte,reduceLT,reduceEqDiff,reduceSub,reduceAdd,reduceMul,reduceToNat,reduceLeDiff,f5,c1]
  have hall : ∀ j,j < xs.length → ∃ t : ByteArray,xs.getD j undef = .string t ∧ t.size ≤ 900 := fun j hj => by
   obtain ⟨t,ht,hl⟩ := h6 _ (List.getElem_mem hj)
   exact ⟨t,getD_el hj ht,hl⟩
  have hstr : ∀ j,j < xs.length → xs.getD j undef = .string (match xs.getD j undef with | .string t => t | _ => ⟨#[]⟩) ∧ (match xs.getD j undef with | .string t => t | _ => ⟨#[]⟩ : ByteArray).size ≤ 1000 := fun j hj => by
   obtain ⟨t,ht,hl⟩ := hall j hj
   rw [ht]; exact ⟨rfl,by simp only; omega⟩
  refine c72 (s := fun j => match xs.getD j undef with | .string t => t | _ => ⟨#[]⟩) hK hS.join h2.sl hstr (by simp at h5; omega) rfl ?_
  unfold Later
  have hlen := joinL_len (ByteArray.mk #[47]).data.toList (fun j => (match xs.getD j undef with | .string t => t | _ => ⟨#[]⟩ : ByteArray).data.toList) 900 rfl xs.length (fun j hj => by
   obtain ⟨t,ht,hl⟩ := hall j hj
   simp only [ht]; rw [size_data]; exact hl)
  generalize joinL _ _ xs.length = jl at hlen ⊢
  have hsz : (ByteArray.mk jl.toArray).size = jl.length := by simp [ByteArray.size]
  simp only [List.length_nil,Nat.add_zero] at h5
  have hb : jl.length ≤ 901 * 901 := Nat.le_trans hlen (Nat.mul_le_mul_right _ (by omega))
  simp -implicitDefEqProofs (maxSteps := 1000000) (disch := first | omega | (simp -implicitDefEqProofs only [wH]; done) | (simp -implicitDefEqProofs only [wH]; omega)) only [↓wD,wU,↓reduceIte,reduceLT,reduceEqDiff,reduceSub,reduceAdd,reduceMul,reduceToNat,reduceLeDiff,hsz]
  refine hQ _ _ ?_ h3
  simp only [ByteArray.size_append,size_lit,List.size_toArray,List.length_cons,List.length_nil] at hsz ⊢
  omega
 ·rintro e G _ h; exact h.elim
theorem c45 {K : Cx} (hK : Cfg K) (hS : CleanIs K) {dir s : ByteArray} {H : Heap} {Q : Value → Heap → Prop} (hd : dir.size ≤ 400) (hs : s.size ≤ 400)
  (hQ : ∀ t : ByteArray,t.size ≤ 9000000 → Q (.string t) H) : FC K 45 [.string dir,.string s] H Q := by
 refine FC.forget (FC.wf0 fun hw => ?_)
 have r : ∀ (f : Nat → Value) (t : ByteArray),t.size ≤ 900 → f 1 = .string t → f 5 = .pointer (some ⟨H.next,0,none⟩) → wpC K DrawD none r45 (retQ F45.results fun v H' => Agree H.next H H' ∧ Old H.next v ∧ Q v H) (mk 36 f) (H.push (.row [.slice none 0 0] 0 (some 27))) := fun f t ht h1 h5 =>
  r45_ok (Q := fun v H' => Agree H.next H H' ∧ Old H.next v ∧ Q v H) hK hS ht hw (fun t H' a b => ⟨b,.string t,hQ t a⟩) f h1 h5
 refine FC.of hK hS.i45 (by simp [F45]) ?_
 rw [b45]
 simp only [F45,ACode.fst,ACode.snd]
 simp -implicitDefEqProofs (maxSteps := 1000000) (disch := first | omega | (simp -implicitDefEqProofs only [wH]; done) | (simp -implicitDefEqProofs only [wH]; omega)) only [↓wD,wU,↓reduceIte,reduceLT,reduceEqDiff,reduceSub,reduceAdd,reduceMul,reduceToNat,reduceLeDiff]
 refine c70 hK hS.path.toStrIs ?_
 unfold Later
 simp -implicitDefEqProofs (maxSteps := 1000000) (disch := first | omega | (simp -implicitDefEqProofs only [wH]; done) | (simp -implicitDefEqProofs only [wH]; omega)) only [↓wD,wU,↓reduceIte,reduceLT,reduceEqDiff,reduceSub,reduceAdd,reduceMul,reduceToNat,reduceLeDiff]
 split
 ·apply r
  rotate_left
  ·rfl
  ·rfl
  ·simp only [ByteArray.size_append,size_lit,List.size_toArray,List.length_cons,List.length_nil]; omega
 ·apply r
  rotate_left
  ·rfl
  ·rfl
  ·omega
end Go.Ae
namespace Go.Ae
open Nat (reduceLT reduceEqDiff reduceSub reduceAdd reduceMul reduceLeDiff)
open Int (reduceToNat)
open Go
set_option maxRecDepth 100000
structure GlobIs (K : Cx) : Prop extends PatIs K where
 tree : TreeIs K
 clean : CleanIs K
 light : LightIs K
 i22 : Is K.P K.G0 22 F22
 i23 : Is K.P K.G0 23 F23
 i9 : Is K.P K.G0 9 F9
 i4 : Is K.P K.G0 4 F4
section
variable {K : Cx} {H : Heap}
theorem retQ_cells1 (t : Tmp) (k : Nat) (Q : Value → Heap → Prop) (E : List Value) (H : Heap) : retQ [.cell t (some k)] Q .ret E H = (match ev E (.tmp t) with
  | .pointer (some p) => (match cellsAt H p.block p.off k with
   | some cs => Q (.agg cs.toArray) H
   | none => False)
  | _ => False) := by
 have e : retQ [.cell t (some k)] Q .ret E H = ∃ vs,resA E H [.cell t (some k)] = some vs ∧ Q (tupleA vs) H := rfl
 rw [e]
 simp only [resA,resOne,aop]
 generalize ev E (.tmp t) = v
 cases v <;> try (simp; done)
 rename_i p
 cases p <;> try (simp; done)
 rename_i p
 simp only
 cases cellsAt H p.block p.off k <;> simp [tupleA]
theorem valI_loads {E : List Value} {d : Option Tmp} (a : Operand) (n : Nat) : valI ⟨d,.load a (some n),none⟩ E H = match ev E a with
  | .pointer (some p) => (match cellsAt H p.block p.off n with
   | some cs => some (.agg cs.toArray)
   | none => none)
  | _ => none := by
 rw [valI_none]; simp only [aop]; generalize ev E a = v
 cases v <;> try rfl
 rename_i p; cases p <;> try rfl
 rename_i p
 simp only
 cases cellsAt H p.block p.off n <;> rfl
set_option maxHeartbeats 2000000 in
theorem c22 (hK : Cfg K) (hS : GlobIs K) {w : Wd} {Q : Value → Heap → Prop} (hw : w.ok H) (hl : w.light)
  (hQ : ∀ H' tp tb k (t : ByteArray),Tb1 H' tb k → k ≤ 20 → Agree H.next H H' → H.next ≤ H'.next → H'.wf → Q (.agg #[.pointer (some ⟨tp,0,none⟩),.string t,.pointer (some ⟨tb,0,none⟩)]) H') : FC K 22 [w.v] H Q := by
 refine FC.wf0 fun hwf => ?_
 refine FC.of hK hS.i22 (by simp [F22]) ?_
 unfold F22 Wd.v
 generalize hG : (H.push (.row [w.fl.v,.string w.dir,w.t1.v,w.t2.v,w.t3.v,w.t4.v,w.sp.v] 0 (some 26))).push (.row [.pointer none,.string ⟨#[]⟩,.pointer none] 0 (some 64)) = G
 have nG : G.next = H.next + 2 := by rw [← hG]; rfl
 have wG : G.wf := by rw [← hG]; exact Heap.wf_push _ (Heap.wf_push _ hwf)
 have gH : Agree H.next H G := fun x hx => by rw [← hG,Heap.get_push_ne _ _ (by simp only [Heap.next_push]; omega),Heap.get_push_ne _ _ (by omega)]
 have r1 : G.get H.next = some (.row [w.fl.v,.string w.dir,w.t1.v,w.t2.v,w.t3.v,w.t4.v,w.sp.v] 0 (some 26)) := by rw [← hG,Heap.get_push_ne _ _ (by simp only [Heap.next_push]; omega),Heap.get_push_same]
 have r2 : G.get (H.next + 1) = some (.row [.pointer none,.string ⟨#[]⟩,.pointer none] 0 (some 64)) := by rw [← hG]; exact Heap.get_push_same (H.push _) _
 have cA : ∀ (H' : Heap) (i : Nat) (v : Value),Agree G.next G H' → [w.fl.v,.string w.dir,w.t1.v,w.t2.v,w.t3.v,w.t4.v,w.sp.v][i]? = some v → cellAt H' H.next i = some v := fun H' i v ha hv => by
  rw [cellAt_row,rowOf,ha _ (by omega),r1]; exact hv
 have a0 := cA G 0 _ (.refl _ _) rfl
 have a1 := cA G 1 _ (.refl _ _) rfl
 have a2 := cA G 2 _ (.refl _ _) rfl
 simp (disch := omega) only [↓wD,wU,↓reduceIte,reduceLT,reduceEqDiff,reduceSub,reduceAdd,reduceMul,reduceToNat,reduceLeDiff,hG,a0,a1,a2]
 obtain ⟨o1,o2,o3,o4,o5,o6⟩ := hw
 refine c13 hK hS.tree (o1.agree gH) hl.files fun tp H1 N M hw1 hT hA1 hn1 => ?_
 unfold Later
 have b1 := cA H1 1 _ hA1 rfl
 have b2 := cA H1 2 _ hA1 rfl
 simp (disch := omega) only [↓wD,wU,↓reduceIte,reduceLT,reduceEqDiff,reduceSub,reduceAdd,reduceMul,reduceToNat,reduceLeDiff,b1,b2]
 refine c45 hK hS.clean (by rw [size_lit]; decide) (by have := hl.dir; omega) fun t ht => ?_
 unfold Later
 simp (disch := omega) only [↓wD,wU,↓reduceIte,reduceLT,reduceEqDiff,reduceSub,reduceAdd,reduceMul,reduceToNat,reduceLeDiff,b2]
 have A1 : Agree H.next H H1 := fun x hx => by rw [hA1 x (by omega),gH x hx]
 refine c46 hK hS.tab (o2.agree A1) hl.t1 fun tb k H2 hT2 hk hb hA2 hn2 => ?_
 unfold Later
 have r2' : H2.get (H.next + 1) = some (.row [.pointer none,.string ⟨#[]⟩,.pointer none] 0 (some 64)) := by rw [hA2 _ (by omega),hA1 _ (by omega)]; exact r2
 have cs : ∀ (x0 x1 x2 : Value),cellsAt (H2.set (H.next + 1) (some (.row [x0,x1,x2] 0 (some 64)))) (H.next + 1) 0 3 = some [x0,x1,x2] := fun x0 x1 x2 => by
  rw [cellsAt_row,rowOf,Heap.get_set_same _ _ r2']; rfl
 simp (disch := omega) only [↓wD,wU,↓reduceIte,reduceLT,reduceEqDiff,reduceSub,reduceAdd,reduceMul,reduceToNat,reduceLeDiff,r2',retQ_cells1,cs]
 obtain ⟨v,t1,t2⟩ := hT2.row
 refine hQ _ tp tb k t ⟨⟨v,by rw [Heap.get_set_ne _ _ (by omega)]; exact t1,t2.agree fun x hx _ => Heap.get_set_ne _ _ (by omega)⟩,Heap.wf_set _ _ hT2.wf⟩ hk (fun x hx => ?_) (by simp; omega) (Heap.wf_set _ _ hT2.wf)
 rw [Heap.get_set_ne _ _ (by omega),hA2 x (by omega),A1 x hx]
set_option maxHeartbeats 2000000 in
theorem c23 (hK : Cfg K) (hS : GlobIs K) {tp tb k : Nat} {t w : ByteArray} {q : Nat → QS} {T : List UInt8} {Q : Value → Heap → Prop} (hT : Tb1 H tb k) (hk : k ≤ 1000000) (hr : Run q (bAt w) w.size) (hend : q w.size = .top) (hd : dec q (bAt w) 0 w.size = T) (hsz : w.size ≤ 10000) (hne : w.size ≠ 0)
  (hQ : ∀ H' b u,OwO H' (some b) u 1 1 [.string ⟨T.toArray⟩] → Q (.tuple #[u,.int .i64 0]) H') : FC K 23 [.agg #[.pointer (some ⟨tp,0,none⟩),.string t,.pointer (some ⟨tb,0,none⟩)],.string w] H Q := by
 refine FC.of hK hS.i23 (by simp [F23]) ?_
 unfold F23
 simp (disch := omega) only [↓wD,wU,↓reduceIte,reduceLT,reduceEqDiff,reduceSub,reduceAdd,reduceMul,reduceToNat,reduceLeDiff]
 have hT1 : Tb1 (H.push (.row [.pointer (some ⟨tp,0,none⟩),.string t,.pointer (some ⟨tb,0,none⟩)] 0 (some 64))) tb k := by
  obtain ⟨v,h1,h2⟩ := hT.row
  exact ⟨⟨v,Heap.get_push_old h1,h2.agree fun b _ hb => Heap.get_push_ne _ _ (by omega)⟩,Heap.wf_push _ hT.wf⟩
 refine c47 hK hS.toFofIs hT1 hk hr hend hd hsz hne fun H1 b u PE h1 h2 h3 h4 h5 h6 h7 => ?_
 unfold Later
 obtain ⟨b',c',rest,ty,e1,rfl,e3,e4,e5,e6⟩ := h1.real (by decide)
 cases e1
 have cs : cellsAt H1 b 0 2 = some [.string ⟨T.toArray⟩,.string ⟨(PE.flatMap peL).toArray⟩] := by
  rw [cellsAt_row,rowOf,e4]
  simp only [Option.bind_some]
  rw [if_pos (by simp)]; rfl
 simp (disch := omega) only [↓wD,wU,↓reduceIte,reduceLT,reduceEqDiff,reduceSub,reduceAdd,reduceMul,reduceToNat,reduceLeDiff]
 refine loop_ind (fun m E H' => (m = 2 ∧ ∃ f : Nat → Value,E = mk 56 f ∧ H' = H1 ∧ f 2 = .pointer (some ⟨H.next,0,none⟩) ∧ f 7 = .int .i64 0 ∧ f 8 = .slice none 0 0 ∧ f 21 = .slice (some ⟨b,0,some 2⟩) 1 c' ∧ f 22 = .int .i64 1 ∧ f 23 = .int .i64 0) ∨
  (m = 1 ∧ ∃ (f : Nat → Value) (b2 : Nat) (v : Value),E = mk 56 f ∧ f 7 = .int .i64 0 ∧ f 8 = v ∧ OwO H' (some b2) v 1 1 [.string ⟨T.toArray⟩] ∧ f 21 = .slice (some ⟨b,0,some 2⟩) 1 c' ∧ f 22 = .int .i64 1 ∧ f 23 = .int .i64 1)) (n := 2) ?_ ?_
 ·refine .inl ⟨rfl,_,rfl,rfl,rfl,rfl,rfl,rfl,rfl,rfl⟩
 rintro I m E H' (⟨rfl,f,rfl,rfl,f2,f7,f8,f21,f22,f23⟩ | ⟨rfl,f,b2,v,rfl,f7,f8,hv,f21,f22,f23⟩) hI
 ·simp (disch := omega) only [↓wD,wU,↓reduceIte,reduceLT,reduceEqDiff,reduceSub,reduceAdd,reduceMul,reduceToNat,reduceLeDiff,f2,f7,f8,f21,f22,f23,cs,decide_true,Int.reduceLT]
  refine ⟨by omega,?_⟩
  refine c48 hK hS.toPatIs h6 h7 fun s' => ?_
  unfold Later
  simp (disch := omega) only [↓wD,wU,↓reduceIte,reduceLT,reduceEqDiff,reduceSub,reduceAdd,reduceMul,reduceToNat,reduceLeDiff,f2,f7,f8,f21,f22,f23]
  refine wpItems_appO (b := none) (n := 0) (cs := []) (xs := [.string ⟨T.toArray⟩]) (m := 1) (.slice none 0 0) ⟨rfl,rfl,rfl⟩ (by simp (disch := omega) only [↓wD,wU,↓reduceIte,reduceLT,reduceEqDiff,reduceSub,reduceAdd,reduceMul,reduceToNat,reduceLeDiff,f8]) (by simp (disch := omega) only [↓wD,wU,↓reduceIte,reduceLT,reduceEqDiff,reduceSub,reduceAdd,reduceMul,reduceToNat,reduceLeDiff]) rfl (by decide) (by decide) fun c3 H3 g7 g8 g9 g10 => ?_
  simp (disch := omega) only [↓wD,wU,↓reduceIte,reduceLT,reduceEqDiff,reduceSub,reduceAdd,reduceMul,reduceToNat,reduceLeDiff,f2,f7,f8,f21,f22,f23]
  refine hI 1 _ _ (by decide) ?_
  exact .inr ⟨rfl,_,_,_,rfl,f7,rfl,g7,f21,f22,rfl⟩
 ·simp (disch := omega) only [↓wD,wU,↓reduceIte,reduceLT,reduceEqDiff,reduceSub,reduceAdd,reduceMul,reduceToNat,reduceLeDiff,f7,f8,f21,f22,f23,decide_false,Int.reduceLT]
  exact hQ H' b2 v hv
set_option maxHeartbeats 2000000 in
theorem c9 (hK : Cfg K) (hS : GlobIs K) {wd : Wd} {w : ByteArray} {q : Nat → QS} {T : List UInt8} {Q : Value → Heap → Prop} (hw : wd.ok H) (hl : wd.light) (hr : Run q (bAt w) w.size) (hend : q w.size = .top) (hd : dec q (bAt w) 0 w.size = T) (hsz : w.size ≤ 10000) (hne : w.size ≠ 0)
  (hQ : ∀ H' b u,OwO H' (some b) u 1 1 [.string ⟨T.toArray⟩] → Q (.tuple #[u,.int .i64 0]) H') : FC K 9 [wd.v,.string w] H Q := by
 refine FC.of hK hS.i9 (by simp [F9]) ?_
 unfold F9 Wd.v
 have cs : cellsAt (H.push (.row [wd.fl.v,.string wd.dir,wd.t1.v,wd.t2.v,wd.t3.v,wd.t4.v,wd.sp.v] 0 (some 26))) H.next 0 7 = some [wd.fl.v,.string wd.dir,wd.t1.v,wd.t2.v,wd.t3.v,wd.t4.v,wd.sp.v] := cellsAt_push_self rfl
 simp (disch := omega) only [↓wD,wU,↓reduceIte,reduceLT,reduceEqDiff,reduceSub,reduceAdd,reduceMul,reduceToNat,reduceLeDiff,cs]
 refine c22 (w := wd) hK hS (hw.agree (Agree.push _ (Nat.le_refl _))) hl fun H1 tp tb k t h1 h2 h3 h4 h5 => ?_
 unfold Later
 simp (disch := omega) only [↓wD,wU,↓reduceIte,reduceLT,reduceEqDiff,reduceSub,reduceAdd,reduceMul,reduceToNat,reduceLeDiff]
 refine c23 hK hS h1 (by omega) hr hend hd hsz hne fun H2 b u h6 => ?_
 unfold Later
 simp (disch := omega) only [↓wD,wU,↓reduceIte,reduceLT,reduceEqDiff,reduceSub,reduceAdd,reduceMul,reduceToNat,reduceLeDiff]
 exact hQ H2 b u h6
theorem c9' (hK : Cfg K) (hS : GlobIs K) {wd : Wd} {w : ByteArray} {q : Nat → QS} {text : ByteArray} {Q : Value → Heap → Prop} (hw : wd.ok H) (hl : wd.light) (hr : Run q (bAt w) w.size) (hend : q w.size = .top) (hd : dec q (bAt w) 0 w.size = text.data.toList) (hsz : w.size ≤ 10000) (hne : w.size ≠ 0)
  (hQ : ∀ H' b c,cellAt H' b 0 = some (.string text) → Q (.tuple #[.slice (some ⟨b,0,some 1⟩) 1 c,.int .i64 0]) H') : FC K 9 [wd.v,.string w] H Q := by
 refine c9 hK hS hw hl hr hend hd hsz hne fun H2 b u hu => ?_
 obtain ⟨b',c',rest,ty,e1,rfl,e3,e4,e5,e6⟩ := hu.real (by decide)
 cases e1
 exact hQ H2 b c' (by rw [cellAt_of e4,mk_bytes]; rfl)
set_option maxHeartbeats 2000000 in
theorem c4 (hK : Cfg K) (hS : GlobIs K) (hA : ∀ (H : Heap) (Q : Value → Heap → Prop),Q (.bool true) H → FC K 5 [] H Q) {wd : Wd} {text : ByteArray} (hw : wd.ok H) : FC K 4 [wd.v,.string text] H fun v _ => v = .bool true := by
 refine FC.of hK hS.i4 (by simp [F4]) ?_
 unfold F4 Wd.v
 have hw1 := hw.agree (Agree.push (.row [wd.fl.v,.string wd.dir,wd.t1.v,wd.t2.v,wd.t3.v,wd.t4.v,wd.sp.v] 0 (some 26)) (Nat.le_refl _))
 have cs : cellsAt (H.push (.row [wd.fl.v,.string wd.dir,wd.t1.v,wd.t2.v,wd.t3.v,wd.t4.v,wd.sp.v] 0 (some 26))) H.next 0 7 = some [wd.fl.v,.string wd.dir,wd.t1.v,wd.t2.v,wd.t3.v,wd.t4.v,wd.sp.v] := cellsAt_push_self rfl
 simp (disch := omega) only [↓wD,wU,↓reduceIte,reduceLT,reduceEqDiff,reduceSub,reduceAdd,reduceMul,reduceToNat,reduceLeDiff]
 refine hA _ _ ?_
 unfold Later
 simp (disch := omega) only [↓wD,wU,↓reduceIte,reduceLT,reduceEqDiff,reduceSub,reduceAdd,reduceMul,reduceToNat,reduceLeDiff,cs]
 refine c6 (w := wd) hK hS.light hw1 fun lb hlb => ?_
 unfold Later
 cases lb
 ·simp (disch := omega) only [↓wD,wU,↓reduceIte,reduceLT,reduceEqDiff,reduceSub,reduceAdd,reduceMul,reduceToNat,reduceLeDiff,skipB_u]
 ·have hl := hlb rfl
  by_cases hlen : (text.size : Int) > 40
  ·have hlen' : (40 : Int) < text.size := by omega
   simp (disch := omega) only [↓wD,wU,↓reduceIte,reduceLT,reduceEqDiff,reduceSub,reduceAdd,reduceMul,reduceToNat,reduceLeDiff,hlen',decide_true]
  ·have hlen' : ¬ (40 : Int) < text.size := by omega
   simp (disch := omega) only [↓wD,wU,↓reduceIte,reduceLT,reduceEqDiff,reduceSub,reduceAdd,reduceMul,reduceToNat,reduceLeDiff,hlen',decide_false,cs]
   refine c12 hK hS.toQuoIs (by omega) fun w hwf => ?_
   unfold Later
   simp (disch := omega) only [↓wD,wU,↓reduceIte,reduceLT,reduceEqDiff,reduceSub,reduceAdd,reduceMul,reduceToNat,reduceLeDiff,cs,valI_loads]
   have hsw := size_mk w
   have hbw : ∀ i,i < w.length → bAt ⟨w.toArray⟩ i = (((w.getD i 0).toNat : Nat) : Int) := fun i _ => by unfold bAt byteAt; simp
   obtain ⟨r1,r2,r3⟩ := run_of hbw hwf.wr
   have hwl := hwf.len
   have hwn := List.length_pos_iff.2 hwf.ne
   refine c9' (wd := wd) (q := qAt w) (text := text) hK hS hw1 hl (by rw [hsw]; exact r1) (by rw [hsw]; exact r2) (by rw [hsw]; exact r3) (by omega) (by omega) fun H2 b c c0 => ?_
   unfold Later
   simp (disch := omega) only [↓wD,wU,↓reduceIte,reduceLT,reduceEqDiff,reduceSub,reduceAdd,reduceMul,reduceToNat,reduceLeDiff,c0,decide_true,Int.reduceLT,Int.natCast_one]
   exact Int.le_refl _
end
end Go.Ae
