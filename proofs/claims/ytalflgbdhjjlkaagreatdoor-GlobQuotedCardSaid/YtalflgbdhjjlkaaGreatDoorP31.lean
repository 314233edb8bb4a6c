/- Part 31 of the proof of the law: Ce40. No condition. -/
import Derived.Test.YtalflgbdhjjlkaaGreatDoorP30
import Derived.Lib.Overlaps
set_option linter.all false
namespace Go.Ae
open Nat (reduceLT reduceEqDiff reduceSub reduceAdd reduceMul reduceLeDiff)
open Int (reduceToNat)
open Go
set_option maxRecDepth 100000
theorem overlaps_ok {K : Cx} {f : FuncId} {fn : Func} {tS tR el : TypeId} {inf : TypeInfo} (hf : K.P.funcs[f]? = some fn) (hname : (fn.name == "runtime.NumGoroutine") = false)
  (hb : fn.body.isNone = true) (hn : Extern.findNext fn = none) (he : Extern.find fn = some (Extern.SlicesOverlaps.overlaps #[tS,tS] #[tR])) (ht : K.P.underlying tS = some (.slice el)) (hinf : K.P.info? el = some inf)
  {ba bb oa ob sa sb la ca lb cb fzb : Nat} {csA csB : List Value} {tyA tyB : Option TypeId} {H : Heap} {Q : Value → Heap → Prop}
  (hA : H.get ba = some (.row csA 0 tyA)) (hB : H.get bb = some (.row csB fzb tyB)) (hne : ba ≠ bb) (hca : 0 < ca) (hcb : 0 < cb) (hlB : csB ≠ [])
  (hQ : Q (.bool false) H) : FC K f [.slice (some ⟨ba,oa,some sa⟩) la ca,.slice (some ⟨bb,ob,some sb⟩) lb cb] H Q := by
 intro ρ w args' hr ha
 obtain ⟨va,vb,rfl,h1,h2⟩ := args_two ha
 rcases h1.slice_inv with ⟨e0,_⟩ | ⟨_,sza,a',cda,e0,hspa,e1,hpsa,a1,a2,a3⟩
 ·cases e0
 cases e0
 rcases h2.slice_inv with ⟨e0,_⟩ | ⟨_,szb,b',cdb,e0,hspb,e2,hpsb,b1,b2,b3⟩
 ·cases e0
 cases e0
 have hpa := hpsa.pr (by omega)
 have hpb := hpsb.pr (by omega)
 obtain ⟨cA,baseA,sizeA,liveA,objA⟩ := hr.objs _ _ hA
 obtain ⟨cB,baseB,sizeB,liveB,objB⟩ := hr.objs _ _ hB
 have ea := hpa.2 _ _ _ liveA
 have eb := hpb.2 _ _ _ liveB
 subst e1; subst e2; subst ea; subst eb
 have hcc : cA ≠ cB := fun e => by
  subst e
  exact hne (hr.inj _ _ _ _ _ _ _ _ _ hA hB rfl rfl liveA liveB)
 generalize hXA : w.heap[cA]? = XA at objA
 generalize hXB : w.heap[cB]? = XB at objB
 cases objA with
 | row hcA hrA hfA hsA hbA htA =>
  cases objB with
  | row hcB hrB hfB hsB hbB htB =>
   rename_i CA eA fzA CB eB fzB
   have hlen : 0 < csB.length := List.length_pos_iff.2 hlB
   rw [run_callFunc_extern hf hname hb hn he,Lib.run_overlaps_apart w tS tR el ht inf.size (fun w => by simp [sizeOf,typeInfo,hinf]) _ _ la cda lb cdb hcc eA eB CA.size CB.size (by simp [World.shape?,hXA]) (by simp [World.shape?,hXB]) (by omega) ?_ ?_]
   ·exact ⟨.bool false,ρ,H,hQ,.bool _,hr,.refl _ _ _⟩
   ·rw [frozen_at hXA]
    have := hfA oa (Nat.zero_le _)
    simp only [Bool.and_eq_false_iff,decide_eq_false_iff_not]
    omega
   ·rw [frozen_at hXA]
    have := hfA (CA.size - baseA) (Nat.zero_le _)
    simp only [Bool.and_eq_false_iff,decide_eq_false_iff_not]
    omega
section
variable {K : Cx} {H : Heap}
def StrN (cs : List Value) (n : Nat) : Prop := ∀ j,j < n → ∃ s,cs[j]? = some (.string s)
theorem StrN.len {cs : List Value} {n : Nat} (h : StrN cs n) : n ≤ cs.length := by
 rcases Nat.eq_zero_or_pos n with e | e
 ·omega
 ·obtain ⟨s,hs⟩ := h (n - 1) (by omega)
  have := (List.getElem?_eq_some_iff.1 hs).1
  omega
theorem StrN.mono {cs : List Value} {n m : Nat} (h : StrN cs n) (hm : m ≤ n) : StrN cs m := fun j hj => h j (by omega)
theorem StrN.splice {cs vs : List Value} {n o : Nat} (h : StrN cs n) (hv : StrN vs vs.length) (ho : o ≤ n) : StrN (Ae.splice cs o vs) (max n (o + vs.length)) := by
 intro j hj
 have hl := h.len
 unfold Ae.splice
 by_cases h1 : j < o
 ·rw [List.append_assoc,List.getElem?_append_left (by rw [List.length_take]; omega),List.getElem?_take,if_pos h1]
  exact h j (by omega)
 ·by_cases h2 : j < o + vs.length
  ·rw [List.append_assoc,List.getElem?_append_right (by rw [List.length_take]; omega),List.getElem?_append_left (by rw [List.length_take]; omega)]
   exact hv _ (by rw [List.length_take]; omega)
  ·rw [List.getElem?_append_right (by rw [List.length_append,List.length_take]; omega),List.getElem?_drop,List.length_append,List.length_take]
   rw [show o + vs.length + (j - (min o cs.length + vs.length)) = j by omega]
   exact h j (by omega)
theorem StrN.cells {cs : List Value} {n b o k fz : Nat} {ty : Option TypeId} {H : Heap} (h : StrN cs n) (hg : H.get b = some (.row cs fz ty)) (ho : o + k ≤ n) : ∃ xs,cellsAt H b o k = some xs ∧ xs.length = k ∧ StrN xs xs.length := by
 have hl := h.len
 refine ⟨(cs.drop o).take k,?_,by rw [List.length_take,List.length_drop]; omega,fun j hj => ?_⟩
 ·rw [cellsAt_row]
  simp only [rowOf,hg,Option.bind_some]
  rw [if_pos (by omega)]
 ·rw [List.length_take,List.length_drop] at hj
  rw [List.getElem?_take,if_pos (by omega),List.getElem?_drop]
  exact h _ (by omega)
theorem StrN.append {xs rest : List Value} (h : ∀ x ∈ xs,∃ s,x = .string s) : StrN (xs ++ rest) xs.length := fun j hj => by
 rw [List.getElem?_append_left hj,List.getElem?_eq_getElem hj]
 obtain ⟨s,hs⟩ := h _ (List.getElem_mem hj)
 exact ⟨s,by rw [hs]⟩
theorem StrN.all {cs : List Value} {n : Nat} (h : StrN cs n) : ∀ x ∈ cs.take n,∃ s,x = .string s := fun x hx => by
 obtain ⟨j,hj,e⟩ := List.getElem_of_mem hx
 rw [List.length_take] at hj
 obtain ⟨s,hs⟩ := h j (by omega)
 refine ⟨s,?_⟩
 rw [← e,List.getElem_take]
 have := (List.getElem?_eq_some_iff.1 hs).2
 exact this
theorem StrN.ent {cs : List Value} {k c b lo : Nat} {ty : Option TypeId} {H : Heap} (h : StrN cs (k * 2)) (hg : H.get b = some (.row cs 0 ty)) (hlo : lo ≤ b) (hc : k ≤ c) : Ent lo H (.slice (some ⟨b,0,some 2⟩) k c) k := by
 have hl := h.len
 exact .inr ⟨b,c,cs.take (k * 2),cs.drop (k * 2),ty,hlo,rfl,hc,by rw [List.take_append_drop]; exact hg,by rw [List.length_take]; omega,h.all⟩
theorem wpItems_copyG {Q : List Value → Heap → Prop} {E : List Value} {d : Option Tmp} {r : List AItem} {x y : Operand} {sz sb a b oa ob n m ca cb fz : Nat} {cs xs : List Value} {ty : Option TypeId} (hx : ev E x = .slice (some ⟨a,oa,some sz⟩) n ca) (hy : ev E y = .slice (some ⟨b,ob,some sb⟩) m cb)
  (hk : 0 < min m n) (hxs : cellsAt H b ob (min m n * sz) = some xs) (hg : H.get a = some (.row cs fz ty)) (ho : oa ≤ cs.length) (hf : fz ≤ oa)
  (h : wpItems K r Q (put E d (.int .i64 (min m n : Nat))) (H.set a (some (.row (splice cs oa xs) fz ty)))) : wpItems K (⟨d,.copyS x y sz,none⟩ :: r) Q E H := by
 rw [wpItems_copyS]
 simp only [aop,hx,hy]
 rw [if_neg (by omega)]
 simp only [hxs,hg]
 rw [if_pos ⟨ho,hf,trivial⟩]
 exact h
set_option maxHeartbeats 4000000 in
theorem c115 (hK : Cfg K) (i115 : Is K.P K.G0 115 F115)
  (x163 : ∀ (ba bb oa ob la ca lb cb fzb : Nat) (csA csB : List Value) (tyA tyB : Option TypeId) (H : Heap) (Q : Value → Heap → Prop),H.get ba = some (.row csA 0 tyA) → H.get bb = some (.row csB fzb tyB) → ba ≠ bb → 0 < ca → 0 < cb → csB ≠ [] →
   Q (.bool false) H → FC K 163 [.slice (some ⟨ba,oa,some 2⟩) la ca,.slice (some ⟨bb,ob,some 2⟩) lb cb] H Q)
  (lo k i : Nat) (v : Value) (s t : ByteArray) (H : Heap) (Q : Value → Heap → Prop) (hw : H.wf) (hlo : lo ≤ H.next) (hE : Ent lo H v k) (hik : i ≤ k) (hk : k ≤ 1000)
  (hQ : ∀ v' H',H'.wf → Ent lo H' v' (k + 1) → (∀ b,b < lo → H'.get b = H.get b) → H.next ≤ H'.next → Q v' H') :
  FC K 115 [v,.int .i64 (i : Nat),sliceOf H.next 0 2 1 1] (H.push (.row [.string s,.string t] 0 none)) Q := by
 refine FC.of hK i115 (by simp [F115]) ?_
 unfold F115
 unfold sliceOf
 rcases hE with ⟨rfl,rfl⟩ | ⟨b,c,xs,rest,ty,h1,rfl,h3,h4,h5,h6⟩
 ·have e0 : i = 0 := by omega
  subst e0
  simp (disch := omega) only [↓wD,wU,↓reduceIte,reduceLT,reduceEqDiff,reduceSub,reduceAdd,reduceMul,reduceToNat,reduceLeDiff,decide_true,decide_false,Int.natCast_zero,Int.natCast_one,Int.reduceEq]
  refine wpItems_appO (b := none) (n := 0) (cs := []) (xs := [.string s,.string t]) (m := 1) (.slice none 0 0) ⟨rfl,rfl,rfl⟩ (by simp (disch := omega) only [↓wD,wU,↓reduceIte,reduceLT,reduceEqDiff,reduceSub,reduceAdd,reduceMul,reduceToNat,reduceLeDiff]) (by simp (disch := omega) only [↓wD,wU,↓reduceIte,reduceLT,reduceEqDiff,reduceSub,reduceAdd,reduceMul,reduceToNat,reduceLeDiff]; rfl) rfl (by decide) (by decide) fun c3 H3 h7 h8 h9 h10 => ?_
  simp (disch := omega) only [↓wD,wU,↓reduceIte,reduceLT,reduceEqDiff,reduceSub,reduceAdd,reduceMul,reduceToNat,reduceLeDiff]
  have g := h7.real (by decide)
  obtain ⟨b',c',rest,ty,e1,e2,e3,e4,e5,e6⟩ := g
  cases e1
  refine hQ _ _ (h10 hw) (.inr ⟨H.next + 1,c3,_,rest,ty,by omega,rfl,?_,e4,rfl,fun x hx => ?_⟩) (fun b hb => h8 b (by omega) (by simp)) (by omega)
  ·cases e2; exact e3
  ·simp at hx; rcases hx with rfl | rfl <;> exact ⟨_,rfl⟩
 ·have hbl := Heap.lt_of_get h4
  have g4 : (H.push (.row [.string s,.string t] 0 none)).get b = some (.row (xs ++ rest) 0 ty) := Heap.get_push_old h4
  have gl : (H.push (.row [.string s,.string t] 0 none)).get H.next = some (.row [.string s,.string t] 0 none) := Heap.get_push_same _ _
  have sx : StrN (xs ++ rest) (k * 2) := h5 ▸ StrN.append h6
  have sl : StrN [Value.string s,.string t] [Value.string s,.string t].length := by
   have := StrN.append (xs := [Value.string s,.string t]) (rest := []) (fun x hx => by simp at hx; rcases hx with rfl | rfl <;> exact ⟨_,rfl⟩)
   simpa using this
  have ho : OwO (H.push (.row [.string s,.string t] 0 none)) (some b) (.slice (some ⟨b,0,some 2⟩) k c) 2 k xs := ⟨⟨h5,.inr ⟨c,rest,ty,rfl,h3,g4⟩⟩,c,rfl⟩
  by_cases hi : i = k
  ·subst hi
   simp (disch := omega) only [↓wD,wU,↓reduceIte,reduceLT,reduceEqDiff,reduceSub,reduceAdd,reduceMul,reduceToNat,reduceLeDiff,decide_true,decide_false,Int.natCast_one,Int.reduceEq]
   refine wpItems_appG (xs := [.string s,.string t]) (m := 1) (xb := H.next) _ ho (by simp (disch := omega) only [↓wD,wU,↓reduceIte,reduceLT,reduceEqDiff,reduceSub,reduceAdd,reduceMul,reduceToNat,reduceLeDiff]) (by simp (disch := omega) only [↓wD,wU,↓reduceIte,reduceLT,reduceEqDiff,reduceSub,reduceAdd,reduceMul,reduceToNat,reduceLeDiff]) (cellsAt_push_self rfl) rfl (by decide) (fun e => by cases e; omega) (by unfold appMax; omega) fun c3 H3 h7 h8 h9 h10 => ?_
   simp only [Heap.next_push] at h7 h8 h9
   simp (disch := omega) only [↓wD,wU,↓reduceIte,reduceLT,reduceEqDiff,reduceSub,reduceAdd,reduceMul,reduceToNat,reduceLeDiff,Heap.next_push]
   obtain ⟨b',c',rest',ty',e1,e2,e3,e4,e5,e6⟩ := h7.real (by omega)
   cases e1
   refine hQ _ _ (h10 (Heap.wf_push _ hw)) (.inr ⟨H.next + 1,c3,_,rest',ty',by omega,rfl,?_,e4,by simp [h5]; omega,fun x hx => ?_⟩) (fun y hy => ?_) (by omega)
   ·cases e2; exact e3
   ·rcases List.mem_append.1 hx with hx | hx
    ·exact h6 x hx
    ·simp at hx; rcases hx with rfl | rfl <;> exact ⟨_,rfl⟩
   ·rw [h8 y (by omega) (fun e => by cases e; omega),Heap.get_push_ne _ _ (by omega)]
  ·have hi' : ¬ ((i : Nat) : Int) = ((k : Nat) : Int) := by omega
   simp (disch := omega) only [↓wD,wU,↓reduceIte,reduceLT,reduceEqDiff,reduceSub,reduceAdd,reduceMul,reduceToNat,reduceLeDiff,hi',decide_true,decide_false,Int.natCast_one,Int.reduceEq]
   rintro c1 ⟨hc1,_⟩ hcm
   by_cases hgr : ((c1 : Nat) : Int) < ((k : Nat) : Int) + 1
   ·
    have hm1 : (((k : Nat) : Int) + 1 - ((i : Nat) : Int)) = ((k + 1 - i : Nat) : Int) := by omega
    have fin : ∀ (G : Heap) (nb : Nat) (cs csb : List Value) (ty1 ty2 : Option TypeId),G.wf → G.next = H.next + 1 ∨ G.next = H.next + 2 → nb ≠ H.next → lo ≤ nb → G.get nb = some (.row cs 0 ty1) → StrN cs ((k + 1) * 2) → G.get b = some (.row csb 0 ty2) → StrN csb (k * 2) → G.get H.next = some (.row [.string s,.string t] 0 none) →
      (∀ y,y < lo → G.get y = H.get y) → ∃ xs1 xs2,cellsAt G H.next 0 2 = some [.string s,.string t] ∧ cellsAt (G.set nb (some (.row (splice cs (i * 2) [.string s,.string t]) 0 ty1))) b (i * 2) ((k - i) * 2) = some xs1 ∧ xs2 = splice (splice cs (i * 2) [.string s,.string t]) ((i + 1) * 2) xs1 ∧
       ∀ c,k + 1 ≤ c → Q (.slice (some ⟨nb,0,some 2⟩) (k + 1) c) ((G.set nb (some (.row (splice cs (i * 2) [.string s,.string t]) 0 ty1))).set nb (some (.row xs2 0 ty1))) := by
     intro G nb cs csb ty1 ty2 wG hn h1' h2' gn sn gb sb' gl' hag
     have c0 : cellsAt G H.next 0 2 = some [.string s,.string t] := by rw [cellsAt_row,rowOf,gl']; rfl
     have s1 := sn.splice sl (o := i * 2) (by omega)
     have g1 : (G.set nb (some (.row (splice cs (i * 2) [.string s,.string t]) 0 ty1))).get nb = some (.row (splice cs (i * 2) [.string s,.string t]) 0 ty1) := Heap.get_set_same _ _ gn
     have hcell : ∃ xs1,cellsAt (G.set nb (some (.row (splice cs (i * 2) [.string s,.string t]) 0 ty1))) b (i * 2) ((k - i) * 2) = some xs1 ∧ xs1.length = (k - i) * 2 ∧ StrN xs1 xs1.length := by
      by_cases hnb : nb = b
      ·subst hnb
       exact s1.cells g1 (by simp; omega)
      ·exact sb'.cells (by rw [Heap.get_set_ne _ _ hnb]; exact gb) (by omega)
     obtain ⟨xs1,e1,l1,z1⟩ := hcell
     refine ⟨xs1,_,c0,e1,rfl,fun c hc => hQ _ _ (Heap.wf_set _ _ (Heap.wf_set _ _ wG)) ?_ (fun y hy => ?_) (by simp; omega)⟩
     ·have s2 := s1.splice z1 (o := (i + 1) * 2) (by simp; omega)
      refine (s2.mono (m := (k + 1) * 2) (by simp only [List.length_cons,List.length_nil,l1]; omega)).ent (Heap.get_set_same _ _ g1) h2' hc
     ·rw [Heap.get_set_ne _ _ (by omega),Heap.get_set_ne _ _ (by omega),hag y hy]
    have zS : ∀ n : Nat,StrN ((List.range (n * 2)).map fun j => [Value.string ⟨#[]⟩,.string ⟨#[]⟩].getD (j % 2) undef) (n * 2) := fun n j hj => by
     rw [List.getElem?_map,List.getElem?_range hj]
     refine ⟨⟨#[]⟩,?_⟩
     rcases Nat.mod_two_eq_zero_or_one j with e | e <;> simp [e]
    have sxl := sx.len
    have ek : i + (k + 1 - i) = k + 1 := by omega
    obtain ⟨zs,hzs⟩ : ∃ zs,zs = ((List.range ((k + 1 - i) * 2)).map fun j => [Value.string ⟨#[]⟩,.string ⟨#[]⟩].getD (j % 2) undef) := ⟨_,rfl⟩
    have zl : zs.length = (k + 1 - i) * 2 := by rw [hzs]; simp
    have zn : StrN zs zs.length := by rw [zl,hzs]; exact zS _
    have eA : splice ((xs ++ rest).take (i * 2)) (i * 2) zs = (xs ++ rest).take (i * 2) ++ zs := by
     unfold Ae.splice
     rw [List.take_of_length_le (by rw [List.length_take]; omega),List.drop_of_length_le (by rw [List.length_take]; omega),List.append_nil]
    have eB : splice (xs ++ rest) (i * 2) zs = (xs ++ rest).take (i * 2) ++ zs ++ (xs ++ rest).drop ((k + 1) * 2) := by
     unfold Ae.splice
     rw [show i * 2 + zs.length = (k + 1) * 2 by omega]
    have ez : appzO (.slice (some ⟨b,0,some 2⟩) i c1) (.int .i64 ((k + 1 - i : Nat) : Int)) 2 [.string ⟨#[]⟩,.string ⟨#[]⟩] (H.push (.row [.string s,.string t] 0 none)) =
      some ((.slice (some ⟨H.next + 1,0,some 2⟩) (k + 1) (k + 1),(H.push (.row [.string s,.string t] 0 none)).push (.row (splice ((xs ++ rest).take (i * 2)) (i * 2) zs) 0 none)),
       (.slice (some ⟨b,0,some 2⟩) (k + 1) (k + 1),(H.push (.row [.string s,.string t] 0 none)).set b (some (.row (splice (xs ++ rest) (i * 2) zs) 0 ty)))) := by
     unfold appzO
     simp only [g4]
     rw [if_pos ⟨by omega,by rw [Int.toNat_natCast]; unfold appMax; omega,trivial,by omega,Nat.zero_le _⟩]
     simp only [Int.toNat_natCast,ek,sliceOf,List.drop_zero,Nat.zero_add,← hzs,Heap.next_push]
     rw [eA,eB]
    have hgr' : ((c1 : Nat) : Int) < ((k : Nat) : Int) + 1 := hgr
    have wL := Heap.wf_push (.row [.string s,.string t] 0 none) hw
    have snA : StrN (splice ((xs ++ rest).take (i * 2)) (i * 2) zs) ((k + 1) * 2) := by
     have : StrN ((xs ++ rest).take (i * 2)) (i * 2) := fun j hj => by
      rw [List.getElem?_take,if_pos hj]; exact sx j (by omega)
     exact (this.splice zn (Nat.le_refl _)).mono (by omega)
    have snB : StrN (splice (xs ++ rest) (i * 2) zs) ((k + 1) * 2) := (sx.splice zn (by omega)).mono (by omega)
    have gA : ((H.push (.row [.string s,.string t] 0 none)).push (.row (splice ((xs ++ rest).take (i * 2)) (i * 2) zs) 0 none)).get (H.next + 1) = some (.row (splice ((xs ++ rest).take (i * 2)) (i * 2) zs) 0 none) := Heap.get_push_same (H.push _) _
    have gB : ((H.push (.row [.string s,.string t] 0 none)).set b (some (.row (splice (xs ++ rest) (i * 2) zs) 0 ty))).get b = some (.row (splice (xs ++ rest) (i * 2) zs) 0 ty) := Heap.get_set_same _ _ g4
    have lA := snA.len
    have lB := snB.len
    simp (disch := omega) only [↓wD,wU,↓reduceIte,reduceLT,reduceEqDiff,reduceSub,reduceAdd,reduceMul,reduceToNat,reduceLeDiff,hgr',sliceOf,hm1,ez]
    refine ⟨?_,?_⟩
    ·skip
     obtain ⟨xs1,xs2,f1,f2,rfl,f4⟩ := fin _ (H.next + 1) _ _ _ _ (Heap.wf_push _ wL) (.inr (by simp)) (by omega) (by omega) gA snA (Heap.get_push_old g4) sx (Heap.get_push_old gl) (fun y hy => by rw [Heap.get_push_ne _ _ (by simp; omega),Heap.get_push_ne _ _ (by omega)])
     generalize (H.push (.row [.string s,.string t] 0 none)).push (.row (splice ((xs ++ rest).take (i * 2)) (i * 2) zs) 0 none) = G at f1 f2 f4 gA ⊢
     refine wpItems_copyG (oa := i * 2) (ca := k + 1 - i) (cb := 1) (sb := 2) (b := H.next) (ob := 0) (n := k + 1 - i) (m := 1) (xs := [.string s,.string t]) (by simp (disch := omega) only [↓wD,wU,↓reduceIte,reduceLT,reduceEqDiff,reduceSub,reduceAdd,reduceMul,reduceToNat,reduceLeDiff]) (by simp (disch := omega) only [↓wD,wU,↓reduceIte,reduceLT,reduceEqDiff,reduceSub,reduceAdd,reduceMul,reduceToNat,reduceLeDiff]) (by omega) (by rw [show min 1 (k + 1 - i) * 2 = 2 by omega]; exact f1) gA (by omega) (Nat.zero_le _) ?_
     simp (disch := omega) only [↓wD,wU,↓reduceIte,reduceLT,reduceEqDiff,reduceSub,reduceAdd,reduceMul,reduceToNat,reduceLeDiff,sliceOf]
     refine wpItems_copyG (oa := (i + 1) * 2) (ca := k + 1 - (i + 1)) (cb := c1 - i) (sb := 2) (b := b) (ob := i * 2) (n := k + 1 - (i + 1)) (m := k - i) (xs := xs1) (by simp (disch := omega) only [↓wD,wU,↓reduceIte,reduceLT,reduceEqDiff,reduceSub,reduceAdd,reduceMul,reduceToNat,reduceLeDiff]) (by simp (disch := omega) only [↓wD,wU,↓reduceIte,reduceLT,reduceEqDiff,reduceSub,reduceAdd,reduceMul,reduceToNat,reduceLeDiff]) (by omega) (by rw [show min (k - i) (k + 1 - (i + 1)) * 2 = (k - i) * 2 by omega]; exact f2) (Heap.get_set_same _ _ gA) (by rw [splice_len _ _ _ (by omega)]; simp; omega) (Nat.zero_le _) ?_
     simp (disch := omega) only [↓wD,wU,↓reduceIte,reduceLT,reduceEqDiff,reduceSub,reduceAdd,reduceMul,reduceToNat,reduceLeDiff,sliceOf]
     exact f4 _ (Nat.le_refl _)
    ·skip
     obtain ⟨xs1,xs2,f1,f2,rfl,f4⟩ := fin _ b _ _ _ _ (Heap.wf_set _ _ wL) (.inl (by simp)) (by omega) h1 gB snB gB (snB.mono (by omega)) (by rw [Heap.get_set_ne _ _ (by omega)]; exact gl) (fun y hy => by rw [Heap.get_set_ne _ _ (by omega),Heap.get_push_ne _ _ (by omega)])
     refine wpItems_copyG (oa := i * 2) (ca := k + 1 - i) (cb := 1) (sb := 2) (b := H.next) (ob := 0) (n := k + 1 - i) (m := 1) (xs := [.string s,.string t]) (by simp (disch := omega) only [↓wD,wU,↓reduceIte,reduceLT,reduceEqDiff,reduceSub,reduceAdd,reduceMul,reduceToNat,reduceLeDiff]) (by simp (disch := omega) only [↓wD,wU,↓reduceIte,reduceLT,reduceEqDiff,reduceSub,reduceAdd,reduceMul,reduceToNat,reduceLeDiff]) (by omega) (by rw [show min 1 (k + 1 - i) * 2 = 2 by omega]; exact f1) gB (by omega) (Nat.zero_le _) ?_
     simp (disch := omega) only [↓wD,wU,↓reduceIte,reduceLT,reduceEqDiff,reduceSub,reduceAdd,reduceMul,reduceToNat,reduceLeDiff,sliceOf]
     refine wpItems_copyG (oa := (i + 1) * 2) (ca := k + 1 - (i + 1)) (cb := c1 - i) (sb := 2) (b := b) (ob := i * 2) (n := k + 1 - (i + 1)) (m := k - i) (xs := xs1) (by simp (disch := omega) only [↓wD,wU,↓reduceIte,reduceLT,reduceEqDiff,reduceSub,reduceAdd,reduceMul,reduceToNat,reduceLeDiff]) (by simp (disch := omega) only [↓wD,wU,↓reduceIte,reduceLT,reduceEqDiff,reduceSub,reduceAdd,reduceMul,reduceToNat,reduceLeDiff]) (by omega) (by rw [show min (k - i) (k + 1 - (i + 1)) * 2 = (k - i) * 2 by omega]; exact f2) (Heap.get_set_same _ _ gB) (by rw [splice_len _ _ _ (by omega)]; simp; omega) (Nat.zero_le _) ?_
     simp (disch := omega) only [↓wD,wU,↓reduceIte,reduceLT,reduceEqDiff,reduceSub,reduceAdd,reduceMul,reduceToNat,reduceLeDiff,sliceOf]
     exact f4 _ (Nat.le_refl _)
   ·
    have hgr' : ¬ ((c1 : Nat) : Int) < ((k : Nat) : Int) + 1 := hgr
    simp (disch := omega) only [↓wD,wU,↓reduceIte,reduceLT,reduceEqDiff,reduceSub,reduceAdd,reduceMul,reduceToNat,reduceLeDiff,hgr',sliceOf]
    refine x163 _ _ _ _ _ _ _ _ _ _ _ _ _ _ _ gl g4 (by omega) (by decide) (by omega) (fun e => by have := sx.len; rw [e] at this; simp at this; omega) ?_
    unfold Later
    simp (disch := omega) only [↓wD,wU,↓reduceIte,reduceLT,reduceEqDiff,reduceSub,reduceAdd,reduceMul,reduceToNat,reduceLeDiff,sliceOf]
    obtain ⟨xs1,e1,l1,z1⟩ := sx.cells g4 (o := i * 2) (k := min (k + 1 - i) (k + 1 - (i + 1)) * 2) (by omega)
    have sxl := sx.len
    refine wpItems_copyG (oa := (i + 1) * 2) (ca := c1 - (i + 1)) (cb := c1 - i) (sb := 2) (xs := xs1) (by simp (disch := omega) only [↓wD,wU,↓reduceIte,reduceLT,reduceEqDiff,reduceSub,reduceAdd,reduceMul,reduceToNat,reduceLeDiff]) (by simp (disch := omega) only [↓wD,wU,↓reduceIte,reduceLT,reduceEqDiff,reduceSub,reduceAdd,reduceMul,reduceToNat,reduceLeDiff]) (by omega) e1 g4 (by omega) (Nat.zero_le _) ?_
    simp (disch := omega) only [↓wD,wU,↓reduceIte,reduceLT,reduceEqDiff,reduceSub,reduceAdd,reduceMul,reduceToNat,reduceLeDiff,sliceOf]
    have g5 : ((H.push (.row [.string s,.string t] 0 none)).set b (some (.row (splice (xs ++ rest) ((i + 1) * 2) xs1) 0 ty))).get b = some (.row (splice (xs ++ rest) ((i + 1) * 2) xs1) 0 ty) := Heap.get_set_same _ _ g4
    have s5 := sx.splice z1 (o := (i + 1) * 2) (by omega)
    have s5l := s5.len
    have e2 : cellsAt ((H.push (.row [.string s,.string t] 0 none)).set b (some (.row (splice (xs ++ rest) ((i + 1) * 2) xs1) 0 ty))) H.next 0 (min 1 (k + 1 - i) * 2) = some [.string s,.string t] := by
     rw [cellsAt_row,rowOf,Heap.get_set_ne _ _ (by omega),gl,show min 1 (k + 1 - i) = 1 by omega]; rfl
    refine wpItems_copyG (oa := i * 2) (ca := c1 - i) (cb := 1) (sb := 2) (xs := [.string s,.string t]) (by simp (disch := omega) only [↓wD,wU,↓reduceIte,reduceLT,reduceEqDiff,reduceSub,reduceAdd,reduceMul,reduceToNat,reduceLeDiff]) (by simp (disch := omega) only [↓wD,wU,↓reduceIte,reduceLT,reduceEqDiff,reduceSub,reduceAdd,reduceMul,reduceToNat,reduceLeDiff]) (by omega) e2 g5 (by omega) (Nat.zero_le _) ?_
    simp (disch := omega) only [↓wD,wU,↓reduceIte,reduceLT,reduceEqDiff,reduceSub,reduceAdd,reduceMul,reduceToNat,reduceLeDiff,sliceOf]
    have s6 := s5.splice sl (o := i * 2) (by omega)
    refine hQ _ _ (Heap.wf_set _ _ (Heap.wf_set _ _ (Heap.wf_push _ hw))) ((s6.mono (m := (k + 1) * 2) (by rw [l1]; omega)).ent (Heap.get_set_same _ _ g5) h1 (by omega)) (fun y hy => ?_) (by simp)
    rw [Heap.get_set_ne _ _ (by omega),Heap.get_set_ne _ _ (by omega),Heap.get_push_ne _ _ (by omega)]
end
end Go.Ae
