/- Part 20 of the proof of the law: Ce21, Ce22, Ce23, Ce6, Ce7. No condition. -/
import Derived.Test.YtalflgbdhjjlkaaGreatDoorP19
set_option linter.all false
namespace Go.Ae
open Nat (reduceLT reduceEqDiff reduceSub reduceAdd reduceMul reduceLeDiff)
open Int (reduceToNat)
open Go
set_option maxRecDepth 100000
theorem frC_of {H : Heap} {bf c : Nat} {p : Nat × Nat} {fs : List (Nat × Nat)} {rest : List Value} {ty : Option TypeId} (h : H.get bf = some (.row (frV (p :: fs) ++ rest) c ty)) : FrC H bf fs := by
 intro i f hi
 obtain ⟨h1,h2⟩ := frV_get hi
 have hl := frV_len fs
 have hlt : i < fs.length := (List.getElem?_eq_some_iff.1 hi).1
 rw [cellsAt_of (g := fun j => if j = 0 then .int .i64 (f.1 : Nat) else .int .i64 (f.2 : Nat)) (by decide) (fun j hj => ?_)]
 ·rfl
 ·rw [cellAt_of h]
  rw [List.getElem?_append_left (by simp [frV]; omega)]
  rcases (show j = 0 ∨ j = 1 by omega) with rfl | rfl
  ·rw [show 2 + i * 2 + 0 = i * 2 + 1 + 1 by omega]
   simpa [frV] using h1
  ·rw [show 2 + i * 2 + 1 = i * 2 + 1 + 1 + 1 by omega]
   simpa [frV] using h2
theorem Cl.len {fs : List (Nat × Nat)} {a : Nat} {P P' : List Prt} {hs h' : List Nat} (h : Cl fs a P hs P' h') : P'.length = P.length ∧ h'.length ≤ hs.length := by
 induction h with
 | nil => exact ⟨rfl,Nat.le_refl _⟩
 | stop _ _ _ => exact ⟨rfl,Nat.le_refl _⟩
 | close _ _ _ ih => simp at ih ⊢; exact ⟨ih.1,by omega⟩
set_option maxHeartbeats 4000000 in
theorem c245 {K : Cx} (hK : Cfg K) (hS : PartIs K) {tw bf at_ : Nat} {v : Value} {bl bh : Option Nat} {P P1 P2 : List Prt} {hs h1 h2 : List Nat} {fs : List (Nat × Nat)} {H : Heap} {Q : Value → Heap → Prop} (hW : Wk H tw bl bh P hs)
  (hF : OwN H bf v 2 (fs.length + 1) (frV ((0,0) :: fs))) (hfl : fs.length ≤ 10) (ha : at_ ≤ 1000000)
  (hb1 : bf ≠ tw) (hb2 : bl ≠ some bf) (hb3 : bh ≠ some bf) (hC : Cl fs at_ P hs P1 h1) (hO : Op fs 0 P1 h1 P2 h2) (hm : ∀ f ∈ fs,f.1 ≠ 3 ∧ f.1 ≠ 11) (hP : P2.length ≤ 100000) (hhs : hs.length ≤ 10)
  (hQ : ∀ v H' bl' bh',Wk H' tw bl' bh' P2 h2 → Wv H H' tw bl bh bl' bh' → Q v H') : FC K 245 [.pointer (some ⟨tw,0,none⟩),v,.int .i64 (at_ : Nat)] H Q := by
 obtain ⟨c,rest,ty,rfl,hc,hgf,hbf,_⟩ := hF.some (by omega)
 have hFr := frC_of hgf
 refine FC.of hK hS.i245 (by simp [F245]) ?_
 rw [b245]
 simp only [F245,ACode.fst,ACode.snd]
 obtain ⟨vl,vh,hg,hol,hoh⟩ := hW.row
 obtain ⟨ah,ch,rfl,hch⟩ := hoh.val
 have d1 : cellAt H tw 1 = some (.slice ah hs.length ch) := by rw [cellAt_of hg]; rfl
 have en : fs.length + 1 - 1 = fs.length := by omega
 simp (disch := omega) only [↓wD,wU,↓reduceIte,reduceLT,reduceEqDiff,reduceAdd,reduceLeDiff,d1,sliceOf,en]
 refine loop_ind (fun m E H' => ∃ (f : Nat → Value) (Pc : List Prt) (hc : List Nat),E = mk 148 f ∧ f 0 = .pointer (some ⟨tw,0,none⟩) ∧ f 1 = .slice (some ⟨bf,2,some 2⟩) fs.length (c - 1) ∧ f 2 = .int .i64 (at_ : Nat) ∧ f 6 = .int .i64 (hc.length : Nat) ∧
   m = hc.length ∧ hc.length ≤ 10 ∧ Wk H' tw bl bh Pc hc ∧ Cl fs at_ Pc hc P1 h1 ∧ FrC H' bf fs ∧ Wv H H' tw bl bh bl bh) (n := hs.length) ?_ ?_
 ·exact ⟨_,P,hs,rfl,rfl,by simp only [upv_at]; rfl,rfl,rfl,rfl,hhs,hW,hC,hFr,.refl⟩
 rintro I m E H' ⟨f,Pc,hc,rfl,f0,f1,f2,f6,rfl,hcl,hW',hC',hF',hV⟩ hI
 have done : ∀ g : Nat → Value,g 0 = .pointer (some ⟨tw,0,none⟩) → g 1 = .slice (some ⟨bf,2,some 2⟩) fs.length (c - 1) → P1 = Pc → h1 = hc → wpC K DrawD none r245 (retQ F245.results Q) (mk 148 g) H' := by
  intro g g0 g1 e1 e2
  subst e1
  subst e2
  exact r245_ok hK hS hW' hF' hfl hb1 hb2 hb3 hO hm hP hcl (fun v H2 bl' bh' w1 w2 => hQ v H2 bl' bh' w1 (hV.trans w2)) g g0 g1
 obtain ⟨vl,vh,hg,hol,hoh⟩ := hW'.row
 have htw := Heap.lt_of_get hg
 generalize hPz : P1 = Pz at hC'
 generalize hhz : h1 = hz at hC'
 cases hC' with
 | nil =>
  have n0 : ¬ (0 : Int) < ((([] : List Nat).length : Nat) : Int) := by simp
  simp (disch := omega) only [↓wD,wU,↓reduceIte,reduceLT,reduceEqDiff,reduceAdd,reduceLeDiff,f0,f1,f6,n0,decide_false]
  apply done
  ·exact f0
  ·exact f1
  ·exact hPz
  ·exact hhz
 | stop k1 k2 k3 =>
  rename_i hs0 k p x
  simp only [List.length_append,List.length_cons,List.length_nil,Nat.zero_add] at f6 hcl hoh
  obtain ⟨xh,ch,resth,tyh,rfl,rfl,e2,e3,e4,e5⟩ := hoh.real (by omega)
  have hlP : k < Pc.length := (List.getElem?_eq_some_iff.1 k1).1
  obtain ⟨xl,cl,restl,tyl,rfl,rfl,l2,l3,l4,l5⟩ := hol.real (by omega)
  have n0 : (0 : Int) < ((hs0.length + 1 : Nat) : Int) := by omega
  have d0 : cellAt H' tw 0 = some (.slice (some ⟨xl,0,some 5⟩) Pc.length cl) := by rw [cellAt_of hg]; rfl
  have d1 : cellAt H' tw 1 = some (.slice (some ⟨xh,0,some 1⟩) (hs0.length + 1) ch) := by rw [cellAt_of hg]; simp
  have dk : cellAt H' xh hs0.length = some (.int .i64 (k : Nat)) := by
   rw [cellAt_of e3,hV_append,List.append_assoc,List.getElem?_append_right (by rw [hV_len]; omega),hV_len]; simp [Ae.hV]
  have hxl : hs0.length < fs.length := (List.getElem?_eq_some_iff.1 k2).1
  have df : cellAt H' bf (2 + (hs0.length * 2 + 1)) = some (.int .i64 (x.2 : Nat)) := by rw [← Nat.add_assoc]; exact hF'.one k2
  have dp : cellAt H' xl (k * 5 + 1) = some (.int .i64 (p.frm : Nat)) := by rw [cellAt_of l3]; exact (pV_cell k1 restl).2.1
  have ei : (((hs0.length + 1 : Nat) : Int) - 1).toNat = hs0.length := by omega
  have hle : ((hs0.length + 1 : Nat) : Int) ≤ (fs.length : Nat) := by omega
  have heq : ((x.2 : Nat) : Int) = (p.frm : Nat) := by omega
  simp (disch := omega) only [↓wD,wU,↓reduceIte,reduceLT,reduceEqDiff,reduceAdd,reduceLeDiff,f0,f1,f6,n0,d0,d1,ei,dk,df,dp,hle,heq,Nat.mul_one,beq_self_eq_true,decide_true,decide_false]
  refine ⟨by omega,by omega,by omega,?_⟩
  apply done
  ·exact f0
  ·exact f1
  ·exact hPz
  ·exact hhz
 | close k1 k2 k3 =>
  rename_i hs0 k p
  simp only [List.length_append,List.length_cons,List.length_nil,Nat.zero_add] at f6 hcl hoh hI
  obtain ⟨xh,ch,resth,tyh,rfl,rfl,e2,e3,e4,e5⟩ := hoh.real (by omega)
  have hlP : k < Pc.length := (List.getElem?_eq_some_iff.1 k1).1
  obtain ⟨xl,cl,restl,tyl,rfl,rfl,l2,l3,l4,l5⟩ := hol.real (by omega)
  have n0 : (0 : Int) < ((hs0.length + 1 : Nat) : Int) := by omega
  have d0 : cellAt H' tw 0 = some (.slice (some ⟨xl,0,some 5⟩) Pc.length cl) := by rw [cellAt_of hg]; rfl
  have d1 : cellAt H' tw 1 = some (.slice (some ⟨xh,0,some 1⟩) (hs0.length + 1) ch) := by rw [cellAt_of hg]; simp
  have dk : cellAt H' xh hs0.length = some (.int .i64 (k : Nat)) := by
   rw [cellAt_of e3,hV_append,List.append_assoc,List.getElem?_append_right (by rw [hV_len]; omega),hV_len]; simp [Ae.hV]
  have dp : cellAt H' xl (k * 5 + 1) = some (.int .i64 (p.frm : Nat)) := by rw [cellAt_of l3]; exact (pV_cell k1 restl).2.1
  have ei : ((hs0.length + 1 : Nat) : Int) - 1 = (hs0.length : Nat) := by omega
  have ne1 : xl ≠ tw := fun e => hW'.nl (by rw [e])
  have ne2 : xh ≠ tw := fun e => hW'.nh (by rw [e])
  have ne3 : xl ≠ xh := fun e => hW'.ne xl rfl (by rw [e])
  have e1 := pV_set (q := { p with to := at_ + 1 }) k1 restl 2 (.int .i64 ((at_ : Nat) + 1)) rfl (by decide)
  have k1' : (Pc.set k { p with to := at_ + 1 })[k]? = some { p with to := at_ + 1 } := by rw [List.getElem?_set_self hlP]
  have e1b := pV_set (q := { p with to := at_ + 1,op := false }) k1' restl 4 (.bool false) rfl (by decide)
  rw [List.set_set] at e1b
  have hgl2 : (H'.set xl (some (.row (pV (Pc.set k { p with to := at_ + 1 }) ++ restl) 0 tyl))).get xl = some (.row (pV (Pc.set k { p with to := at_ + 1 }) ++ restl) 0 tyl) := Heap.get_set_same _ _ l3
  have hgt2 : ((H'.set xl (some (.row (pV (Pc.set k { p with to := at_ + 1 }) ++ restl) 0 tyl))).set xl (some (.row (pV (Pc.set k { p with to := at_ + 1,op := false }) ++ restl) 0 tyl))).get tw = some (.row [.slice (some ⟨xl,0,some 5⟩) Pc.length cl,.slice (some ⟨xh,0,some 1⟩) (hs0.length + 1) ch] 0 (some 298)) := by
   rw [Heap.get_set_ne _ _ ne1,Heap.get_set_ne _ _ ne1,hg]
  have c1b : cellAt ((H'.set xl (some (.row (pV (Pc.set k { p with to := at_ + 1 }) ++ restl) 0 tyl))).set xl (some (.row (pV (Pc.set k { p with to := at_ + 1,op := false }) ++ restl) 0 tyl))) tw 1 = some (.slice (some ⟨xh,0,some 1⟩) (hs0.length + 1) ch) := by rw [cellAt_of hgt2]; rfl
  have fin : ∀ g : Nat → Value,g 0 = .pointer (some ⟨tw,0,none⟩) → g 1 = .slice (some ⟨bf,2,some 2⟩) fs.length (c - 1) → g 2 = .int .i64 (at_ : Nat) → g 6 = .int .i64 (hs0.length : Nat) →
    I (mk 148 g) (((H'.set xl (some (.row (pV (Pc.set k { p with to := at_ + 1 }) ++ restl) 0 tyl))).set xl (some (.row (pV (Pc.set k { p with to := at_ + 1,op := false }) ++ restl) 0 tyl))).set tw
     (some (.row [.slice (some ⟨xl,0,some 5⟩) Pc.length cl,.slice (some ⟨xh,0,some 1⟩) hs0.length ch] 0 (some 298)))) := by
   intro g g0 g1 g2 g6
   refine hI hs0.length _ _ (by omega) ?_
   refine ⟨g,Pc.set k { p with to := at_ + 1,op := false },hs0,rfl,g0,g1,g2,g6,rfl,by omega,?_,by rw [hPz,hhz]; exact k3,hF'.frame ?_,hV.trans ⟨fun y y1 y2 y3 y4 => ?_,by simp,fun y hy => .inl hy,fun y hy => .inl hy⟩⟩
   ·have hfr : ∀ y,y ≠ xl → y ≠ tw → (((H'.set xl (some (.row (pV (Pc.set k { p with to := at_ + 1 }) ++ restl) 0 tyl))).set xl (some (.row (pV (Pc.set k { p with to := at_ + 1,op := false }) ++ restl) 0 tyl))).set tw
     (some (.row [.slice (some ⟨xl,0,some 5⟩) Pc.length cl,.slice (some ⟨xh,0,some 1⟩) hs0.length ch] 0 (some 298)))).get y = H'.get y := fun y y1 y2 => by
     rw [Heap.get_set_ne _ _ (Ne.symm y2),Heap.get_set_ne _ _ (Ne.symm y1),Heap.get_set_ne _ _ (Ne.symm y1)]
    refine ⟨⟨_,_,Heap.get_set_same _ _ hgt2,⟨⟨by rw [pV_len,List.length_set],.inr ⟨cl,restl,tyl,by rw [List.length_set],by rw [List.length_set]; exact l2,?_⟩⟩,cl,by rw [List.length_set]⟩,
     ⟨⟨by rw [hV_len]; omega,.inr ⟨ch,Ae.hV [k] ++ resth,tyh,rfl,by omega,?_⟩⟩,ch,rfl⟩⟩,hW'.nl,hW'.nh,hW'.ne,Heap.wf_set _ _ (Heap.wf_set _ _ (Heap.wf_set _ _ hW'.wf)),fun y hy => by simpa using hW'.ltl y hy,fun y hy => by simpa using hW'.lth y hy⟩
    ·rw [Heap.get_set_ne _ _ (Ne.symm ne1),Heap.get_set_same _ _ hgl2]
    ·rw [hfr xh (Ne.symm ne3) ne2,e3,hV_append,List.append_assoc]
   ·rw [Heap.get_set_ne _ _ (Ne.symm hb1),Heap.get_set_ne _ _ (fun e => hb2 (by rw [e])),Heap.get_set_ne _ _ (fun e => hb2 (by rw [e]))]
   ·rw [Heap.get_set_ne _ _ (Ne.symm y2),Heap.get_set_ne _ _ (fun e => y3 (by rw [e])),Heap.get_set_ne _ _ (fun e => y3 (by rw [e]))]
  by_cases hle : ((hs0.length + 1 : Nat) : Int) ≤ (fs.length : Nat)
  ·obtain ⟨x,hx⟩ : ∃ x,fs[hs0.length]? = some x := ⟨_,List.getElem?_eq_getElem (by omega)⟩
   have df : cellAt H' bf (2 + (hs0.length * 2 + 1)) = some (.int .i64 (x.2 : Nat)) := by rw [← Nat.add_assoc]; exact hF'.one hx
   have hne := k2 x hx
   have heq : ¬ ((x.2 : Nat) : Int) = (p.frm : Nat) := by omega
   simp (disch := omega) only [↓wD,wU,↓reduceIte,reduceLT,reduceEqDiff,reduceAdd,reduceLeDiff,f0,f1,f2,f6,n0,hle,df,heq,d0,d1,ei,dk,dp,l3,e1,e1b,hgl2,c1b,hgt2,sliceOf,Nat.mul_one,beq_self_eq_true,decide_true,decide_false]
   refine ⟨by omega,by omega,by omega,by omega,by rw [List.length_append]; omega,by omega,by rw [List.length_append,pV_len,List.length_set]; omega,?_⟩
   exact fin _ f0 f1 f2 rfl
  ·simp (disch := omega) only [↓wD,wU,↓reduceIte,reduceLT,reduceEqDiff,reduceAdd,reduceLeDiff,f0,f1,f2,f6,n0,hle,d0,d1,ei,dk,dp,l3,e1,e1b,hgl2,c1b,hgt2,sliceOf,Nat.mul_one,beq_self_eq_true,decide_true,decide_false]
   refine ⟨by omega,by omega,by rw [List.length_append]; omega,by omega,by rw [List.length_append,pV_len,List.length_set]; omega,?_⟩
   exact fin _ f0 f1 f2 rfl
end Go.Ae
namespace Go.Ae
open Go
structure Run (q : Nat → QS) (b : Nat → Int) (n : Nat) : Prop where
 zero : q 0 = .top
 step : ∀ i,i < n → qstep (q i) i (b i) = some (q (i + 1))
def inD (a : Nat) : QS → Prop
 | .dbl x => x = a
 | .desc x _ => x = a
 | _ => False
def Hist (q : Nat → QS) (i : Nat) : Prop :=
 match q i with
 | .top => True
 | .esc a => i = a + 1 ∧ q a = .top
 | .sgl a => a < i ∧ q a = .top ∧ ∀ j,a < j → j ≤ i → q j = .sgl a
 | .dbl a => a < i ∧ q a = .top ∧ q (a + 1) = .dbl a ∧ ∀ j,a < j → j ≤ i → inD a (q j)
 | .desc a c => i = c + 1 ∧ q c = .dbl a ∧ a < c ∧ q a = .top ∧ q (a + 1) = .dbl a ∧ ∀ j,a < j → j ≤ i → inD a (q j)
theorem qstep_inv {q q' : QS} {at_ : Nat} {b : Int} (h : qstep q at_ b = some q') :
  (q = .top ∧ ((q' = .esc at_ ∧ b = 92) ∨ (q' = .sgl at_ ∧ b = 39) ∨ (q' = .dbl at_ ∧ b = 34) ∨ (q' = .top ∧ safeB b = true))) ∨
  (∃ a,q = .esc a ∧ q' = .top ∧ b ≠ 10) ∨
  (∃ a,q = .sgl a ∧ ((q' = .top ∧ b = 39) ∨ (q' = .sgl a ∧ b ≠ 39))) ∨
  (∃ a,q = .dbl a ∧ ((q' = .top ∧ b = 34) ∨ (q' = .desc a at_ ∧ b = 92) ∨ (q' = .dbl a ∧ b ≠ 34 ∧ b ≠ 92 ∧ b ≠ 36 ∧ b ≠ 96))) ∨
  (∃ a c,q = .desc a c ∧ q' = .dbl a ∧ (b = 36 ∨ b = 96 ∨ b = 34 ∨ b = 92)) := by
 cases q with
 | top =>
  refine .inl ⟨rfl,?_⟩
  change (if b = 92 then some (QS.esc at_) else if b = 39 then some (.sgl at_) else if b = 34 then some (.dbl at_) else if safeB b then some .top else none) = some q' at h
  split at h
  ·cases h; exact .inl ⟨rfl,‹_›⟩
  split at h
  ·cases h; exact .inr (.inl ⟨rfl,‹_›⟩)
  split at h
  ·cases h; exact .inr (.inr (.inl ⟨rfl,‹_›⟩))
  split at h
  ·cases h; exact .inr (.inr (.inr ⟨rfl,‹_›⟩))
  ·cases h
 | esc a =>
  refine .inr (.inl ⟨a,rfl,?_⟩)
  change (if b = 10 then none else some QS.top) = some q' at h
  split at h
  ·cases h
  ·cases h; exact ⟨rfl,‹_›⟩
 | sgl a =>
  refine .inr (.inr (.inl ⟨a,rfl,?_⟩))
  change (if b = 39 then some QS.top else some (.sgl a)) = some q' at h
  split at h
  ·cases h; exact .inl ⟨rfl,‹_›⟩
  ·cases h; exact .inr ⟨rfl,‹_›⟩
 | dbl a =>
  refine .inr (.inr (.inr (.inl ⟨a,rfl,?_⟩)))
  change (if b = 34 then some QS.top else if b = 92 then some (QS.desc a at_) else if b = 36 ∨ b = 96 then none else some (QS.dbl a)) = some q' at h
  split at h
  ·cases h; exact .inl ⟨rfl,‹_›⟩
  split at h
  ·cases h; exact .inr (.inl ⟨rfl,‹_›⟩)
  split at h
  ·cases h
  ·rename_i n1 n2 n3
   cases h; exact .inr (.inr ⟨rfl,n1,n2,fun e => n3 (.inl e),fun e => n3 (.inr e)⟩)
 | desc a c =>
  refine .inr (.inr (.inr (.inr ⟨a,c,rfl,?_⟩)))
  change (if b = 36 ∨ b = 96 ∨ b = 34 ∨ b = 92 then some (QS.dbl a) else none) = some q' at h
  split at h
  ·cases h; exact ⟨rfl,‹_›⟩
  ·cases h
theorem hist_all {q : Nat → QS} {b : Nat → Int} {n : Nat} (h : Run q b n) : ∀ i,i ≤ n → Hist q i := by
 intro i
 induction i with
 | zero => intro _; unfold Hist; rw [h.zero]; trivial
 | succ i ih =>
  intro hi
  have hp := ih (by omega)
  have hs := qstep_inv (h.step i (by omega))
  unfold Hist at hp ⊢
  rcases hs with ⟨e,hs⟩ | ⟨a,e,e',_⟩ | ⟨a,e,hs⟩ | ⟨a,e,hs⟩ | ⟨a,c,e,e',_⟩
  ·rcases hs with ⟨e',_⟩ | ⟨e',_⟩ | ⟨e',_⟩ | ⟨e',_⟩
   ·rw [e']; exact ⟨rfl,e⟩
   ·rw [e']; exact ⟨by omega,e,fun j h1 h2 => by rw [show j = i + 1 by omega]; exact e'⟩
   ·rw [e']; exact ⟨by omega,e,e',fun j h1 h2 => by rw [show j = i + 1 by omega,e']; rfl⟩
   ·rw [e']; trivial
  ·rw [e']; trivial
  ·rw [e] at hp
   rcases hs with ⟨e',_⟩ | ⟨e',_⟩
   ·rw [e']; trivial
   ·rw [e']
    refine ⟨by omega,hp.2.1,fun j h1 h2 => ?_⟩
    rcases Nat.lt_or_ge i j with g | g
    ·rw [show j = i + 1 by omega]; exact e'
    ·exact hp.2.2 j h1 g
  ·rw [e] at hp
   obtain ⟨p1,p2,p3,p4⟩ := hp
   rcases hs with ⟨e',_⟩ | ⟨e',_⟩ | ⟨e',_⟩
   ·rw [e']; trivial
   ·rw [e']
    refine ⟨rfl,e,p1,p2,p3,fun j h1 h2 => ?_⟩
    rcases Nat.lt_or_ge i j with g | g
    ·rw [show j = i + 1 by omega,e']; rfl
    ·exact p4 j h1 g
   ·rw [e']
    refine ⟨by omega,p2,p3,fun j h1 h2 => ?_⟩
    rcases Nat.lt_or_ge i j with g | g
    ·rw [show j = i + 1 by omega,e']; rfl
    ·exact p4 j h1 g
  ·rw [e] at hp
   obtain ⟨p0,p5,p1,p2,p3,p4⟩ := hp
   rw [e']
   refine ⟨by omega,p2,p3,fun j h1 h2 => ?_⟩
   rcases Nat.lt_or_ge i j with g | g
   ·rw [show j = i + 1 by omega,e']; rfl
   ·exact p4 j h1 g
def opens (q : Nat → QS) (a : Nat) : Prop :=
 match q (a + 1) with
 | .top => False
 | .esc x => x = a
 | .sgl x => x = a
 | .dbl x => x = a
 | .desc _ x => x = a
def Ended (q : Nat → QS) (a to : Nat) : Prop :=
 match q (a + 1) with
 | .top => False
 | .esc _ => to = a + 2
 | .desc _ _ => to = a + 2
 | .sgl _ => a + 2 ≤ to ∧ q to = .top ∧ ∀ j,a < j → j < to → q j = .sgl a
 | .dbl _ => a + 2 ≤ to ∧ q to = .top ∧ ∀ j,a < j → j < to → inD a (q j)
structure PI (q : Nat → QS) (i : Nat) (P : List Prt) (hs : List Nat) : Prop where
 all : ∀ a,a < i → opens q a → ∃ (k : Nat) (p : Prt),P[k]? = some p ∧ p.frm = a
 each : ∀ (k : Nat) (p : Prt),P[k]? = some p → p.frm < i ∧ opens q p.frm ∧ p.mode = modeOf (q (p.frm + 1)) ∧ (k ∈ hs ∨ (p.op = false ∧ Ended q p.frm p.to))
 rise : ∀ (k k' : Nat) (p p' : Prt),k < k' → P[k]? = some p → P[k']? = some p' → p.frm < p'.frm
 len : hs.length + 1 = (frs (q i)).length
 here : ∀ (j : Nat) (f : Nat × Nat),(frs (q i)).tail[j]? = some f → ∃ (k : Nat) (p : Prt),hs[j]? = some k ∧ P[k]? = some p ∧ p.mode = f.1 ∧ p.frm = f.2
 size : P.length ≤ i
theorem PI.lt {q : Nat → QS} {i : Nat} {P : List Prt} {hs : List Nat} (h : PI q i P hs) {k : Nat} {p : Prt} (hk : P[k]? = some p) : k < P.length := (List.getElem?_eq_some_iff.1 hk).1
theorem pi_new {q : Nat → QS} {i : Nat} {P : List Prt} {hs : List Nat} (h : PI q i P hs) {m : Nat} {up : Int} (ho : opens q i) (hm : m = modeOf (q (i + 1))) (hf : (frs (q (i + 1))).tail = (frs (q i)).tail ++ [(m,i)]) (hl : (frs (q (i + 1))).length = (frs (q i)).length + 1) :
  PI q (i + 1) (P ++ [⟨m,i,0,up,true⟩]) (hs ++ [P.length]) := by
 refine ⟨fun a ha hoa => ?_,fun k p hk => ?_,fun k k' p p' hkk hk hk' => ?_,?_,fun j f hj => ?_,?_⟩
 ·rcases Nat.lt_or_ge a i with g | g
  ·obtain ⟨k,p,h1,h2⟩ := h.all a g hoa
   exact ⟨k,p,by rw [List.getElem?_append_left (h.lt h1)]; exact h1,h2⟩
  ·exact ⟨P.length,_,by rw [List.getElem?_append_right (by omega)]; simp; rfl,by simp; omega⟩
 ·rcases Nat.lt_or_ge k P.length with g | g
  ·rw [List.getElem?_append_left g] at hk
   obtain ⟨h1,h2,h3,h4⟩ := h.each k p hk
   refine ⟨by omega,h2,h3,?_⟩
   rcases h4 with h4 | h4
   ·exact .inl (List.mem_append_left _ h4)
   ·exact .inr h4
  ·have hk0 : k = P.length := by
    have := (List.getElem?_eq_some_iff.1 hk).1
    simp at this; omega
   subst hk0
   rw [List.getElem?_append_right (by omega)] at hk
   simp at hk
   subst hk
   exact ⟨by simp,ho,hm,.inl (by simp)⟩
 ·have hk'l := (List.getElem?_eq_some_iff.1 hk').1
  simp at hk'l
  rw [List.getElem?_append_left (by omega)] at hk
  rcases Nat.lt_or_ge k' P.length with g | g
  ·rw [List.getElem?_append_left g] at hk'
   exact h.rise k k' p p' hkk hk hk'
  ·have hk0 : k' = P.length := by omega
   subst hk0
   rw [List.getElem?_append_right (by omega)] at hk'
   simp at hk'
   subst hk'
   exact (h.each k p hk).1
 ·rw [List.length_append,hl,← h.len]; simp
 ·rw [hf] at hj
  have hlen := h.len
  have htl : (frs (q i)).tail.length = hs.length := by rw [List.length_tail]; omega
  rcases Nat.lt_or_ge j hs.length with g | g
  ·rw [List.getElem?_append_left (by omega)] at hj
   obtain ⟨k,p,h1,h2,h3⟩ := h.here j f hj
   exact ⟨k,p,by rw [List.getElem?_append_left g]; exact h1,by rw [List.getElem?_append_left (h.lt h2)]; exact h2,h3⟩
  ·have hj0 : j = hs.length := by
    have := (List.getElem?_eq_some_iff.1 hj).1
    simp at this; omega
   subst hj0
   rw [List.getElem?_append_right (by omega),htl] at hj
   simp at hj
   subst hj
   exact ⟨P.length,_,by simp,by rw [List.getElem?_append_right (by omega)]; simp; rfl,rfl,rfl⟩
 ·have := h.size; simp; omega
theorem pi_same {q : Nat → QS} {i : Nat} {P : List Prt} {hs : List Nat} (h : PI q i P hs) (ho : ¬ opens q i) (hf : frs (q (i + 1)) = frs (q i)) : PI q (i + 1) P hs := by
 refine ⟨fun a ha hoa => ?_,fun k p hk => ?_,h.rise,by rw [hf]; exact h.len,fun j f hj => by rw [hf] at hj; exact h.here j f hj,by have := h.size; omega⟩
 ·rcases Nat.lt_or_ge a i with g | g
  ·exact h.all a g hoa
  ·rw [show a = i by omega] at hoa; exact absurd hoa ho
 ·obtain ⟨h1,h2⟩ := h.each k p hk
  exact ⟨by omega,h2⟩
theorem pi_end {q : Nat → QS} {i k : Nat} {P : List Prt} {hs : List Nat} {p : Prt} (h : PI q i P (hs ++ [k])) (hk : P[k]? = some p) (ho : ¬ opens q i) (he : Ended q p.frm (i + 1)) (hf : (frs (q i)).tail.take hs.length = (frs (q (i + 1))).tail) (hl : (frs (q (i + 1))).length + 1 = (frs (q i)).length)
  (hn : k ∉ hs) : PI q (i + 1) (P.set k { p with to := i + 1,op := false }) hs := by
 have hkl := h.lt hk
 have hset : ∀ (x : Nat) (y : Prt),(P.set k { p with to := i + 1,op := false })[x]? = some y → (x = k ∧ y = { p with to := i + 1,op := false }) ∨ (x ≠ k ∧ P[x]? = some y) := by
  intro x y hx
  by_cases e : x = k
  ·subst e
   rw [List.getElem?_set_self hkl] at hx
   exact .inl ⟨rfl,(Option.some.inj hx).symm⟩
  ·rw [List.getElem?_set_ne (Ne.symm e)] at hx
   exact .inr ⟨e,hx⟩
 have hget : ∀ (x : Nat) (y : Prt),P[x]? = some y → ∃ z : Prt,(P.set k { p with to := i + 1,op := false })[x]? = some z ∧ z.frm = y.frm ∧ z.mode = y.mode := by
  intro x y hx
  by_cases e : x = k
  ·subst e
   rw [hk] at hx
   cases hx
   exact ⟨_,List.getElem?_set_self hkl,rfl,rfl⟩
  ·exact ⟨y,by rw [List.getElem?_set_ne (Ne.symm e)]; exact hx,rfl,rfl⟩
 refine ⟨fun a ha hoa => ?_,fun x y hx => ?_,fun x x' y y' hxx hx hx' => ?_,?_,fun j f hj => ?_,?_⟩
 ·rcases Nat.lt_or_ge a i with g | g
  ·obtain ⟨x,y,h1,h2⟩ := h.all a g hoa
   obtain ⟨z,z1,z2,_⟩ := hget x y h1
   exact ⟨x,z,z1,by rw [z2,h2]⟩
  ·rw [show a = i by omega] at hoa; exact absurd hoa ho
 ·rcases hset x y hx with ⟨rfl,rfl⟩ | ⟨hne,hx⟩
  ·obtain ⟨h1,h2,h3,_⟩ := h.each x p hk
   exact ⟨by show p.frm < _; omega,h2,h3,.inr ⟨rfl,he⟩⟩
  ·obtain ⟨h1,h2,h3,h4⟩ := h.each x y hx
   refine ⟨by omega,h2,h3,?_⟩
   rcases h4 with h4 | h4
   ·rcases List.mem_append.1 h4 with h4 | h4
    ·exact .inl h4
    ·simp at h4; exact absurd h4 hne
   ·exact .inr h4
 ·have f : ∀ (x : Nat) (y : Prt),(P.set k { p with to := i + 1,op := false })[x]? = some y → ∃ z,P[x]? = some z ∧ z.frm = y.frm := fun x y hx => by
   rcases hset x y hx with ⟨rfl,rfl⟩ | ⟨hne,hx⟩
   ·exact ⟨p,hk,rfl⟩
   ·exact ⟨y,hx,rfl⟩
  obtain ⟨z,z1,z2⟩ := f x y hx
  obtain ⟨z',z1',z2'⟩ := f x' y' hx'
  rw [← z2,← z2']
  exact h.rise x x' z z' hxx z1 z1'
 ·have := h.len; simp at this; omega
 ·rw [← hf,List.getElem?_take] at hj
  split at hj
  ·rename_i hjl
   obtain ⟨x,y,h1,h2,h3,h4⟩ := h.here j f hj
   rw [List.getElem?_append_left hjl] at h1
   obtain ⟨z,z1,z2,z3⟩ := hget x y h2
   exact ⟨x,z,h1,z1,z3.trans h3,z2.trans h4⟩
  ·cases hj
 ·have := h.size; simp; omega
theorem set_id {P : List Prt} {k : Nat} {p : Prt} (hk : P[k]? = some p) : P.set k p = P := by
 obtain ⟨h1,h2⟩ := List.getElem?_eq_some_iff.1 hk
 subst h2
 exact List.set_getElem_self h1
theorem two_of {α : Type} {l : List α} (h : l.length = 2) : ∃ a b,l = [a,b] := by
 match l,h with
 | [a,b],_ => exact ⟨a,b,rfl⟩
theorem one_of {α : Type} {l : List α} (h : l.length = 1) : ∃ a,l = [a] := by
 match l,h with
 | [a],_ => exact ⟨a,rfl⟩
theorem pi_step {q : Nat → QS} {b : Nat → Int} {n i : Nat} (hr : Run q b n) (hi : i < n) {P : List Prt} {hs : List Nat} (h : PI q i P hs) :
  ∃ P1 h1 P2 h2,Cl (frs (q (i + 1))).tail i P hs P1 h1 ∧ Op (frs (q (i + 1))).tail 0 P1 h1 P2 h2 ∧ PI q (i + 1) P2 h2 := by
 have hh := hist_all hr i (by omega)
 have hs' := qstep_inv (hr.step i hi)
 have hlen := h.len
 unfold Hist at hh
 rcases hs' with ⟨e,hs'⟩ | ⟨a,e,e',_⟩ | ⟨a,e,hs'⟩ | ⟨a,e,hs'⟩ | ⟨a,c,e,e',_⟩
 ·
  rw [e] at hlen
  have h0 : hs = [] := List.eq_nil_of_length_eq_zero (by simpa [frs] using hlen)
  subst h0
  rcases hs' with ⟨e',_⟩ | ⟨e',_⟩ | ⟨e',_⟩ | ⟨e',_⟩
  ·rw [e']
   exact ⟨P,[],_,_,.nil,.new rfl (.inl ⟨rfl,rfl⟩) .nil,pi_new h (by unfold opens; rw [e']) (by rw [e']; rfl) (by rw [e,e']; rfl) (by rw [e,e']; rfl)⟩
  ·rw [e']
   exact ⟨P,[],_,_,.nil,.new rfl (.inl ⟨rfl,rfl⟩) .nil,pi_new h (by unfold opens; rw [e']) (by rw [e']; rfl) (by rw [e,e']; rfl) (by rw [e,e']; rfl)⟩
  ·rw [e']
   exact ⟨P,[],_,_,.nil,.new rfl (.inl ⟨rfl,rfl⟩) .nil,pi_new h (by unfold opens; rw [e']) (by rw [e']; rfl) (by rw [e,e']; rfl) (by rw [e,e']; rfl)⟩
  ·rw [e']
   exact ⟨P,[],P,[],.nil,.nil,pi_same h (by unfold opens; rw [e']; exact _root_.id) (by rw [e,e'])⟩
 ·
  rw [e] at hh hlen
  obtain ⟨k,rfl⟩ := one_of (l := hs) (by simpa [frs] using hlen)
  obtain ⟨k',p,g1,g2,g3,g4⟩ := h.here 0 (13,a) (by rw [e]; rfl)
  cases g1
  have he : Ended q p.frm (i + 1) := by
   have : q (p.frm + 1) = .esc a := by rw [g4,← hh.1,e]
   unfold Ended; rw [this]
   show i + 1 = p.frm + 2
   rw [g4,hh.1]
  rw [e']
  exact ⟨_,[],_,[],.close (hs := []) g2 (fun f hf => by simp [frs] at hf) .nil,.nil,pi_end (hs := []) h g2 (by unfold opens; rw [e']; exact _root_.id) he (by rw [e,e']; rfl) (by rw [e,e']; rfl) (by simp)⟩
 ·
  rw [e] at hh hlen
  obtain ⟨k,rfl⟩ := one_of (l := hs) (by simpa [frs] using hlen)
  obtain ⟨k',p,g1,g2,g3,g4⟩ := h.here 0 (4,a) (by rw [e]; rfl)
  cases g1
  rcases hs' with ⟨e',_⟩ | ⟨e',_⟩
  ·have he : Ended q p.frm (i + 1) := by
    have : q (p.frm + 1) = .sgl a := by rw [g4]; exact hh.2.2 _ (by simp) (by simp; omega)
    unfold Ended; rw [this]
    refine ⟨by rw [g4]; simp; omega,e',fun j h1 h2 => ?_⟩
    rw [g4] at h1 ⊢
    exact hh.2.2 j h1 (by omega)
   rw [e']
   exact ⟨_,[],_,[],.close (hs := []) g2 (fun f hf => by simp [frs] at hf) .nil,.nil,pi_end (hs := []) h g2 (by unfold opens; rw [e']; exact _root_.id) he (by rw [e,e']; rfl) (by rw [e,e']; rfl) (by simp)⟩
  ·rw [e']
   refine ⟨P,[k],P,[k],.stop (hs := []) (f := (4,a)) g2 (by simp [frs]) g4.symm,.old (by simp) g2 ?_,pi_same h (by unfold opens; rw [e']; simp; omega) (by rw [e,e'])⟩
   have e0 : { p with mode := 4 } = p := by cases p; simp at g3; subst g3; rfl
   rw [e0,set_id g2]
   exact .nil
 ·
  rw [e] at hh hlen
  obtain ⟨p1,p2,p3,p4⟩ := hh
  obtain ⟨k,rfl⟩ := one_of (l := hs) (by simpa [frs] using hlen)
  obtain ⟨k',p,g1,g2,g3,g4⟩ := h.here 0 (5,a) (by rw [e]; rfl)
  cases g1
  have e0 : { p with mode := 5 } = p := by cases p; simp at g3; subst g3; rfl
  rcases hs' with ⟨e',_⟩ | ⟨e',_⟩ | ⟨e',_⟩
  ·have he : Ended q p.frm (i + 1) := by
    have : q (p.frm + 1) = .dbl a := by rw [g4]; exact p3
    unfold Ended; rw [this]
    refine ⟨by rw [g4]; simp; omega,e',fun j h1 h2 => ?_⟩
    rw [g4] at h1 ⊢
    exact p4 j h1 (by omega)
   rw [e']
   exact ⟨_,[],_,[],.close (hs := []) g2 (fun f hf => by simp [frs] at hf) .nil,.nil,pi_end (hs := []) h g2 (by unfold opens; rw [e']; exact _root_.id) he (by rw [e,e']; rfl) (by rw [e,e']; rfl) (by simp)⟩
  ·rw [e']
   refine ⟨P,[k],P ++ [⟨13,i,0,(k : Nat),true⟩],[k] ++ [P.length],.stop (hs := []) (f := (5,a)) g2 (by simp [frs]) g4.symm,.old (by simp) g2 ?_,pi_new h (by unfold opens; rw [e']) (by rw [e']; rfl) (by rw [e,e']; rfl) (by rw [e,e']; rfl)⟩
   rw [e0,set_id g2]
   exact .new rfl (.inr ⟨by decide,k,rfl,rfl⟩) .nil
  ·rw [e']
   refine ⟨P,[k],P,[k],.stop (hs := []) (f := (5,a)) g2 (by simp [frs]) g4.symm,.old (by simp) g2 ?_,pi_same h (by unfold opens; rw [e']; simp; omega) (by rw [e,e'])⟩
   rw [e0,set_id g2]
   exact .nil
 ·
  rw [e] at hh hlen
  obtain ⟨p0,p5,p1,p2,p3,p4⟩ := hh
  obtain ⟨k,k2,rfl⟩ := two_of (l := hs) (by simpa [frs] using hlen)
  obtain ⟨k',p,g1,g2,g3,g4⟩ := h.here 0 (5,a) (by rw [e]; rfl)
  cases g1
  obtain ⟨k'',p',f1,f2,f3,f4⟩ := h.here 1 (13,c) (by rw [e]; rfl)
  cases f1
  have hne : k ≠ k2 := fun he => by
   subst he
   rw [g2] at f2
   cases f2
   rw [g3] at f3; cases f3
  have e0 : { p with mode := 5 } = p := by cases p; simp at g3; subst g3; rfl
  have he : Ended q p'.frm (i + 1) := by
   have : q (p'.frm + 1) = .desc a c := by rw [f4,← p0,e]
   unfold Ended; rw [this]
   show i + 1 = p'.frm + 2
   rw [f4,p0]
  have g2' : (P.set k2 { p' with to := i + 1,op := false })[k]? = some p := by rw [List.getElem?_set_ne (Ne.symm hne)]; exact g2
  rw [e']
  refine ⟨_,[k],_,[k],.close (hs := [k]) f2 (fun f hf => by simp [frs] at hf) (.stop (hs := []) (f := (5,a)) g2' (by simp [frs]) g4.symm),.old (by simp) g2' (by rw [e0,set_id g2']; exact .nil),pi_end (hs := [k]) h f2 (by unfold opens; rw [e']; simp; omega) he (by rw [e,e']; rfl) (by rw [e,e']; rfl) (by simpa using Ne.symm hne)⟩
theorem pi_zero {q : Nat → QS} (h : q 0 = .top) : PI q 0 [] [] :=
 ⟨fun a ha => by omega,fun k p hk => by simp at hk,fun k k' p p' _ hk => by simp at hk,by rw [h]; rfl,fun j f hj => by rw [h] at hj; simp [frs] at hj,Nat.le_refl _⟩
end Go.Ae
namespace Go.Ae
open Nat (reduceLT reduceEqDiff reduceSub reduceAdd reduceMul reduceLeDiff)
open Int (reduceToNat)
open Go
set_option maxRecDepth 100000
def bAt (w : ByteArray) (i : Nat) : Int := (((byteAt w i).toNat : Nat) : Int)
theorem frs_cons (q : QS) : frs q = (0,0) :: (frs q).tail := by cases q <;> rfl
theorem frs_len (q : QS) : (frs q).length ≤ 3 ∧ 1 ≤ (frs q).length := by cases q <;> simp [frs]
theorem frs_modes (q : QS) : ∀ f ∈ (frs q).tail,f.1 ≠ 3 ∧ f.1 ≠ 11 := by
 cases q <;> simp [frs]
theorem Wk.frame {H H' : Heap} {tw : Nat} {bl bh : Option Nat} {P : List Prt} {hs : List Nat} (h : Wk H tw bl bh P hs) (hf : ∀ x,x = tw ∨ bl = some x ∨ bh = some x → H'.get x = H.get x) (hn : H.next ≤ H'.next) (hw : H'.wf) : Wk H' tw bl bh P hs := by
 obtain ⟨vl,vh,h1,h2,h3⟩ := h.row
 exact ⟨⟨vl,vh,by rw [hf tw (.inl rfl)]; exact h1,h2.frame fun x hx => hf x (.inr (.inl hx)),h3.frame fun x hx => hf x (.inr (.inr hx))⟩,h.nl,h.nh,h.ne,hw,fun x hx => Nat.lt_of_lt_of_le (h.ltl x hx) hn,fun x hx => Nat.lt_of_lt_of_le (h.lth x hx) hn⟩
theorem Wk.ltw {H : Heap} {tw : Nat} {bl bh : Option Nat} {P : List Prt} {hs : List Nat} (h : Wk H tw bl bh P hs) : tw < H.next := by
 obtain ⟨vl,vh,h1,_⟩ := h.row
 exact Heap.lt_of_get h1
theorem Mc.frame {H H' : Heap} {tm b a : Nat} {fs : List (Nat × Nat)} (h : Mc H tm b fs a) (h1 : H'.get tm = H.get tm) (h2 : H'.get b = H.get b) (hw : H'.wf) : Mc H' tm b fs a := by
 obtain ⟨v,fr,g1,g2⟩ := h.row
 exact ⟨⟨v,fr,by rw [h1]; exact g1,g2.frame h2⟩,h.ne,hw⟩
theorem Mc.lt {H : Heap} {tm b a : Nat} {fs : List (Nat × Nat)} (h : Mc H tm b fs a) (hf : fs ≠ []) : tm < H.next ∧ b < H.next := by
 obtain ⟨v,fr,g1,g2⟩ := h.row
 refine ⟨Heap.lt_of_get g1,?_⟩
 obtain ⟨c,rest,ty,_,_,_,h4,_⟩ := g2.some (by simpa using hf)
 exact h4
structure OfSt (q : Nat → QS) (H H' : Heap) (tw tm : Nat) (i : Nat) : Prop where
 ex : ∃ b bl bh P hs,Wk H' tw bl bh P hs ∧ Mc H' tm b (frs (q i)) i ∧ PI q i P hs ∧ b ≠ tw ∧ bl ≠ some tm ∧ bl ≠ some b ∧ bh ≠ some tm ∧ bh ≠ some b ∧ H.next ≤ b ∧ (∀ x,bl = some x → H.next ≤ x) ∧ (∀ x,bh = some x → H.next ≤ x)
 gtw : H.next ≤ tw
 gtm : H.next ≤ tm
 ne : tm ≠ tw
 agree : Agree H.next H H'
 next : H.next ≤ H'.next
set_option maxHeartbeats 8000000 in
theorem c221 {K : Cx} (hK : Cfg K) (hS : PartIs K) {w : ByteArray} {q : Nat → QS} {H : Heap} {Q : Value → Heap → Prop} (hr : Run q (bAt w) w.size) (hend : q w.size = .top) (hsz : w.size ≤ 10000)
  (hQ : ∀ v H' bl P,OwO H' bl v 5 P.length (pV P) → PI q w.size P [] → (∀ x,bl = some x → H.next ≤ x ∧ x < H'.next) → Agree H.next H H' → H.next ≤ H'.next → H'.wf → Q v H') : FC K 221 [.string w] H Q := by
 refine FC.wf0 fun hw => ?_
 refine FC.of hK hS.i221 (by simp [F221]) ?_
 unfold F221
 simp (disch := omega) only [↓wD,wU,↓reduceIte,reduceLT,reduceEqDiff,reduceAdd]
 refine c243 hK hS.toModeIs fun tm H2 b n1 n2 n3 n4 hM hA hn => ?_
 unfold Later
 simp only [Heap.next_push] at n1 n2 hA hn
 simp (disch := omega) only [↓wD,wU,↓reduceIte,reduceLT,reduceEqDiff,reduceAdd]
 have hgw : H2.get H.next = some (.row [.slice none 0 0,.slice none 0 0] 0 (some 298)) := (hA _ (by omega)).trans (Heap.get_push_same _ _)
 refine loop_ind (fun m E H' => ∃ (f : Nat → Value) (i : Nat),E = mk 79 f ∧ f 0 = .string w ∧ f 3 = .pointer (some ⟨H.next,0,none⟩) ∧ f 4 = .pointer (some ⟨tm,0,none⟩) ∧ f 12 = .int .i64 (w.size : Nat) ∧ f 13 = .int .i64 (i : Nat) ∧ m + i = w.size + 1 ∧ i ≤ w.size ∧
   OfSt q H H' H.next tm i) (n := w.size + 1) ?_ ?_
 ·refine ⟨_,0,rfl,rfl,rfl,rfl,rfl,rfl,by omega,by omega,?_⟩
  exact ⟨⟨b,none,none,[],[],⟨⟨_,_,hgw,⟨rfl,rfl,rfl⟩,⟨rfl,rfl,rfl⟩⟩,by simp,by simp,by simp,hM.wf,by simp,by simp⟩,by rw [hr.zero]; exact hM,pi_zero hr.zero,by omega,by simp,by simp,by simp,by simp,by omega,by simp,by simp⟩,by omega,by omega,by omega,
   fun x hx => (hA x (by omega)).trans (Heap.get_push_ne _ _ (by omega)),by omega⟩
 rintro I m E H' ⟨f,i,rfl,f0,f3,f4,f12,f13,hmi,hi,hSt⟩ hI
 by_cases hlt : (i : Int) < w.size
 ·obtain ⟨⟨b,bl,bh,P,hs,hW,hMc,hP,k1,k2,k3,k4,k5,k6,k7,k8⟩,j1,j2,j3,j4,j5⟩ := hSt
  have hstep := hr.step i (by omega)
  simp (disch := omega) only [↓wD,wU,↓reduceIte,reduceLT,reduceEqDiff,reduceAdd,f0,f3,f4,f12,f13,hlt,decide_true]
  refine ⟨by omega,?_⟩
  refine c244 hK hS.toModeIs hMc hstep (by omega) fun _ H3 b3 hM3 hV3 => ?_
  unfold Later
  simp (disch := omega) only [↓wD,wU,↓reduceIte,reduceLT,reduceEqDiff,reduceAdd,f3,f4]
  refine c246 hK hS.toModeIs hM3 fun v H4 bf hF hbf hA4 hn4 hw4 => ?_
  unfold Later
  obtain ⟨a,c,rfl,_⟩ := hF.val
  simp (disch := omega) only [↓wD,wU,↓reduceIte,reduceLT,reduceEqDiff,reduceAdd,f3]
  obtain ⟨l1,l2⟩ := hMc.lt (by rw [frs_cons]; simp)
  have hltw := hW.ltw
  have w3 : Wk H3 H.next bl bh P hs := hW.frame (fun y hy => by
   rcases hy with rfl | hy | hy
   ·exact hV3.get _ hltw (Ne.symm j3) (Ne.symm k1)
   ·exact hV3.get y (hW.ltl y hy) (fun e => k2 (by rw [hy,e])) (fun e => k3 (by rw [hy,e]))
   ·exact hV3.get y (hW.lth y hy) (fun e => k4 (by rw [hy,e])) (fun e => k5 (by rw [hy,e]))) hV3.next hM3.wf
  have w4 : Wk H4 H.next bl bh P hs := w3.frame (fun y hy => by
   rcases hy with rfl | hy | hy
   ·exact hA4 _ (by have := w3.ltw; omega)
   ·exact hA4 _ (w3.ltl y hy)
   ·exact hA4 _ (w3.lth y hy)) hn4 hw4
  have hcons := frs_cons (q (i + 1))
  obtain ⟨t1,t2⟩ := frs_len (q (i + 1))
  have hl1 : (frs (q (i + 1))).length = (frs (q (i + 1))).tail.length + 1 := by rw [List.length_tail]; omega
  rw [hl1] at hF ⊢
  rw [hcons] at hF
  simp only [List.tail_cons] at hF
  obtain ⟨P1,h1,P2,h2,hCl,hOp,hP2⟩ := pi_step hr (by omega) hP
  have hsz2 := hP2.size
  have hl2 := hP.len
  obtain ⟨t3,_⟩ := frs_len (q i)
  have hn3 := hV3.next
  obtain ⟨l3,l4⟩ := hM3.lt (by rw [frs_cons]; simp)
  have b3tw : b3 ≠ H.next := by rcases hV3.new with e | e <;> omega
  refine c245 hK hS w4 hF (by rw [List.length_tail]; omega) (by omega) (by omega) (fun e => by have := w3.ltl _ e; omega) (fun e => by have := w3.lth _ e; omega) hCl hOp (frs_modes _) (by omega) (by omega) fun _ H5 bl' bh' w5 v5 => ?_
  unfold Later
  have b3bl : bl ≠ some b3 := fun e => by
   rcases hV3.new with g | g
   ·exact k3 (by rw [e,g])
   ·have := hW.ltl _ e; omega
  have b3bh : bh ≠ some b3 := fun e => by
   rcases hV3.new with g | g
   ·exact k5 (by rw [e,g])
   ·have := hW.lth _ e; omega
  have M5 : Mc H5 tm b3 (frs (q (i + 1))) (i + 1) := hM3.frame (by rw [v5.get tm (by omega) j3 k2 k4,hA4 _ l3]) (by rw [v5.get b3 (by omega) b3tw b3bl b3bh,hA4 _ l4]) w5.wf
  have hn5 := v5.next
  simp (disch := omega) only [↓wD,wU,↓reduceIte,reduceLT,reduceEqDiff,reduceAdd,f12,f13]
  refine hI _ _ _ (show m - 1 < m by omega) ?_
  refine ⟨_,i + 1,rfl,f0,f3,f4,f12,rfl,by omega,by omega,⟨⟨b3,bl',bh',P2,h2,w5,M5,hP2,b3tw,fun e => ?_,fun e => ?_,fun e => ?_,fun e => ?_,?_,fun y hy => ?_,fun y hy => ?_⟩,j1,j2,j3,fun y hy => ?_,by omega⟩⟩
  ·rcases v5.nl _ e with g | g
   ·exact k2 g
   ·omega
  ·rcases v5.nl _ e with g | g
   ·exact b3bl g
   ·omega
  ·rcases v5.nh _ e with g | g
   ·exact k4 g
   ·omega
  ·rcases v5.nh _ e with g | g
   ·exact b3bh g
   ·omega
  ·rcases hV3.new with g | g <;> omega
  ·rcases v5.nl _ hy with g | g
   ·exact k7 y g
   ·omega
  ·rcases v5.nh _ hy with g | g
   ·exact k8 y g
   ·omega
  ·rw [v5.get y (by omega) (by omega) (fun e => by have := k7 y e; omega) (fun e => by have := k8 y e; omega),hA4 y (by omega),hV3.get y (by omega) (by omega) (by omega),j4 y hy]
 ·have hin : i = w.size := by omega
  subst hin
  obtain ⟨⟨b,bl,bh,P,hs,hW,hMc,hP,k1,k2,k3,k4,k5,k6,k7,k8⟩,j1,j2,j3,j4,j5⟩ := hSt
  have hl2 := hP.len
  rw [hend] at hl2
  have h0 : hs = [] := List.eq_nil_of_length_eq_zero (by simpa [frs] using hl2)
  subst h0
  obtain ⟨vl,vh,hg,hol,hoh⟩ := hW.row
  obtain ⟨a,c,ev,hc⟩ := hol.val
  have d0 : cellAt H' H.next 0 = some vl := by rw [cellAt_of hg]; rfl
  have hPs := hP.size
  rw [ev] at d0
  simp (disch := omega) only [↓wD,wU,↓reduceIte,reduceLT,reduceEqDiff,reduceAdd,f0,f3,f4,f12,f13,hlt,d0,decide_false]
  refine loop_ind (fun m E H'' => ∃ (f : Nat → Value) (i : Nat),E = mk 79 f ∧ H'' = H' ∧ f 3 = .pointer (some ⟨H.next,0,none⟩) ∧ f 31 = .int .i64 (P.length : Nat) ∧ f 32 = .int .i64 (i : Nat) ∧ m + i = P.length + 1 ∧ i ≤ P.length) (n := P.length + 1) ?_ ?_
  ·exact ⟨_,0,rfl,rfl,f3,rfl,rfl,by omega,by omega⟩
  rintro J m2 E2 H2' ⟨g,k,rfl,rfl,g3,g31,g32,hm2,hk⟩ hJ
  by_cases hlt2 : (k : Int) < P.length
  ·obtain ⟨p,hp⟩ : ∃ p,P[k]? = some p := ⟨_,List.getElem?_eq_getElem (by omega)⟩
   obtain ⟨bl',c',rest,ty,rfl,e2,e3,e4,e5,e6⟩ := hol.real (by omega)
   rw [ev] at e2
   cases e2
   obtain ⟨z0,z1,z2,z3,z4⟩ := pV_cell hp rest
   obtain ⟨y1,y2,y3,y4⟩ := hP.each k p hp
   have hop : p.op = false := by
    rcases y4 with y4 | y4
    ·cases y4
    ·exact y4.1
   have r0 : cellAt H2' bl' (k * 5) = some (.int .i64 (p.mode : Nat)) := by rw [cellAt_of e4]; exact z0
   have r4 : cellAt H2' bl' (k * 5 + 4) = some (.bool false) := by rw [cellAt_of e4,z4,hop]
   have hm12 : ¬ ((p.mode : Nat) : Int) = 12 := by
    rw [y3]; exact (modeOf_ne _).1
   simp (disch := omega) only [↓wD,wU,↓reduceIte,reduceLT,reduceEqDiff,reduceAdd,g3,g31,g32,hlt2,d0,r0,r4,hm12,decide_true,decide_false]
   refine ⟨by omega,?_⟩
   refine hJ _ _ _ (show m2 - 1 < m2 by omega) ?_
   exact ⟨_,k + 1,rfl,rfl,g3,g31,rfl,by omega,by omega⟩
  ·simp (disch := omega) only [↓wD,wU,↓reduceIte,reduceLT,reduceEqDiff,reduceAdd,g3,g31,g32,hlt2,d0,decide_false]
   rw [← ev]
   exact hQ vl _ bl P hol hP (fun x hx => ⟨k7 x hx,hW.ltl x hx⟩) j4 j5 hW.wf
end Go.Ae
namespace Go.Ae
open Nat (reduceLT reduceEqDiff reduceSub reduceAdd reduceMul reduceLeDiff)
open Int (reduceToNat)
open Go
set_option maxRecDepth 100000
structure BdIs (K : Cx) : Prop where
 x176 : ∀ (x : Value) (H : Heap) (Q : Value → Heap → Prop),Q x H → FC K 176 [x] H Q
 x192 : ∀ (n : Nat) (H : Heap) (Q : Value → Heap → Prop),n ≤ 268435456 → (∀ l : List UInt8,l.length = n → Q (sliceOf H.next 0 1 n n) (H.push (.row (byteVs l) 0 (some 5)))) → FC K 192 [.int .i64 n] H Q
 i136 : Is K.P K.G0 136 F136
 i95 : Is K.P K.G0 95 F95
 i98 : Is K.P K.G0 98 F98
 i99 : Is K.P K.G0 99 F99
 i157 : Is K.P K.G0 157 F157
 i112 : Is K.P K.G0 112 F112
def Buf (bb : Nat) (H : Heap) (v : Value) (l : List UInt8) : Prop :=
 (v = .slice none 0 0 ∧ l = []) ∨ ∃ b c rest,bb < b ∧ v = .slice (some ⟨b,0,some 1⟩) l.length c ∧ l.length ≤ c ∧ c ≤ maxRow ∧ (c ≤ (byteVs l ++ rest).length ∧ 0 < c) ∧ H.get b = some (.row (byteVs l ++ rest) 0 (some 5))
def Bd (H : Heap) (bb : Nat) (l : List UInt8) : Prop := H.wf ∧ ∃ p v,H.get bb = some (.row [p,v] 0 (some 163)) ∧ (p = .pointer none ∨ p = .pointer (some ⟨bb,0,none⟩)) ∧ Buf bb H v l
theorem Buf.agree {bb : Nat} {H H' : Heap} {v : Value} {l : List UInt8} (h : Buf bb H v l) (hf : ∀ x,bb < x → H'.get x = H.get x) : Buf bb H' v l := by
 rcases h with h | ⟨b,c,rest,h1,h2,h3,h4,h5,h6⟩
 ·exact .inl h
 ·exact .inr ⟨b,c,rest,h1,h2,h3,h4,h5,by rw [hf b h1]; exact h6⟩
theorem Buf.val {bb : Nat} {H : Heap} {v : Value} {l : List UInt8} (h : Buf bb H v l) : ∃ a c,v = .slice a l.length c ∧ l.length ≤ c ∧ c ≤ maxRow := by
 rcases h with ⟨rfl,rfl⟩ | ⟨b,c,rest,h1,h2,h3,h4,h5,h6⟩
 ·exact ⟨none,0,rfl,Nat.le_refl _,by decide⟩
 ·exact ⟨_,c,h2,h3,h4⟩
theorem byteVs_len (l : List UInt8) : (byteVs l).length = l.length := by simp [byteVs]
theorem appendA_buf {bb : Nat} {H : Heap} {v : Value} {l m : List UInt8} {k : Nat} {d : Option Tmp} {K : Cx} {r : List AItem} {Q : List Value → Heap → Prop} {E : List Value} (h : Buf bb H v l) (hbb : bb < H.next) (hk : k = m.length) (hm : m ≠ []) (hl : l.length + m.length ≤ 1073741824)
  (hq : ∀ v' H',Buf bb H' v' (l ++ m) → (∀ x,x ≤ bb → H'.get x = H.get x) → H.next ≤ H'.next → (H.wf → H'.wf) → wpItems K r Q (put E d v') H') :
  ∀ a c,v = .slice a l.length c → satO K r Q E d (appendA 5 H a l.length 1 (byteVs m) k) := by
 subst hk
 have hmp : 0 < m.length := List.length_pos_iff.2 hm
 rintro a c e
 rcases h with ⟨rfl,rfl⟩ | ⟨b,c',rest,h1,h2,h3,h4,h5,h6⟩
 ·cases e
  simp only [appendA,List.length_nil,if_true]
  rw [if_neg (by unfold appMax; simp; simp at hl; omega)]
  refine hq _ _ (.inr ⟨H.next,m.length,[],hbb,rfl,?_,by unfold maxRow; simp at hl; omega,⟨?_,hmp⟩,?_⟩) (fun x hx => Heap.get_push_ne _ _ (by omega)) (by simp) (Heap.wf_push _)
  ·simp
  ·simp [byteVs]
  ·rw [Heap.get_push_same]; simp
 ·rw [h2] at e
  cases e
  simp only [appendA,h6]
  have hb : (byteVs l ++ rest).length = l.length + rest.length := by simp [byteVs]
  rw [if_pos ⟨by rw [hb]; omega,trivial,by omega,.inl trivial⟩,if_neg (by unfold appMax; omega)]
  have e1 : (List.drop 0 (byteVs l ++ rest)).take (l.length * 1) = byteVs l := by
   rw [List.drop_zero,Nat.mul_one,List.take_append_of_le_length (by simp [byteVs]),List.take_of_length_le (by simp [byteVs])]
  rw [e1]
  refine hq _ _ (.inr ⟨H.next,l.length + m.length,[],hbb,by simp [sliceOf],by simp,by unfold maxRow; omega,⟨by simp [byteVs],by omega⟩,?_⟩) (fun x hx => ?_) (by simp) (fun hw => Heap.wf_push _ (Heap.wf_set _ _ hw))
  ·have := Heap.get_push_same (H.set b none) (.row (byteVs l ++ byteVs m) 0 (some 5))
   simp only [Heap.next_set] at this
   simp only [if_true,and_self,Nat.sub_self,List.append_nil]
   rw [show byteVs (l ++ m) = byteVs l ++ byteVs m by simp [byteVs]]
   exact this
  ·rw [Heap.get_push_ne _ _ (by simp only [Heap.next_set]; omega),Heap.get_set_ne _ _ (by omega)]
theorem c136r {K : Cx} (hK : Cfg K) (hS : BdIs K) {bb : Nat} {p v : Value} {H : Heap} {Q : Value → Heap → Prop} (hw : H.wf) (hg : H.get bb = some (.row [p,v] 0 (some 163))) (hp : p = .pointer none ∨ p = .pointer (some ⟨bb,0,none⟩))
  (hQ : ∀ u H' p',H'.wf → H'.get bb = some (.row [p',v] 0 (some 163)) → (p' = .pointer none ∨ p' = .pointer (some ⟨bb,0,none⟩)) → (∀ x,x ≠ bb → H'.get x = H.get x) → H'.next = H.next → Q u H') : FC K 136 [.pointer (some ⟨bb,0,none⟩)] H Q := by
 refine FC.of hK hS.i136 (by simp [F136]) ?_
 unfold F136
 have hc : cellAt H bb 0 = some p := by rw [cellAt_of hg]; rfl
 simp (disch := omega) only [↓wD,wU,↓reduceIte,reduceLT,reduceEqDiff,reduceAdd,reduceLeDiff,hc]
 rcases hp with rfl | rfl
 ·simp (disch := omega) only [↓wD,wU,↓reduceIte,reduceLT,reduceEqDiff,reduceAdd,reduceLeDiff,wpItems_toU]
  simp only [aop,ev_mk,upv_at,argf_cons,↓reduceIte,Nat.reduceLT,Nat.reduceEqDiff,hg,List.length_cons,List.length_nil,satO_ok]
  rw [if_pos (by decide)]
  simp (disch := omega) only [↓wD,wU,↓reduceIte,reduceLT,reduceEqDiff,reduceAdd,reduceLeDiff]
  refine hS.x176 _ _ _ ?_
  unfold Later
  simp (disch := omega) only [↓wD,wU,↓reduceIte,reduceLT,reduceEqDiff,reduceAdd,reduceLeDiff,wpItems_ofU]
  simp only [aop,ev_mk,upv_at,argf_cons,↓reduceIte,Nat.reduceLT,Nat.reduceEqDiff,hg,List.length_cons,List.length_nil]
  rw [if_pos (by decide)]
  simp (disch := omega) only [↓wD,wU,↓reduceIte,reduceLT,reduceEqDiff,reduceAdd,reduceLeDiff,hg]
  refine hQ _ _ _ (Heap.wf_set _ _ hw) ?_ (.inr rfl) (fun x hx => Heap.get_set_ne _ _ (Ne.symm hx)) (by simp)
  rw [Heap.get_set_same _ _ hg]
 ·have hs : aeqv H .ptr (.pointer (some ⟨bb,0,none⟩)) (.pointer (some ⟨bb,0,none⟩)) = some true := by simp [aeqv,hg]
  simp (disch := omega) only [↓wD,wU,↓reduceIte,reduceLT,reduceEqDiff,reduceAdd,reduceLeDiff,hs]
  exact hQ _ _ _ hw hg (.inr rfl) (fun _ _ => rfl) rfl
theorem c136 {K : Cx} (hK : Cfg K) (hS : BdIs K) {bb : Nat} {l : List UInt8} {H : Heap} {Q : Value → Heap → Prop} (hb : Bd H bb l) (hQ : ∀ v H',Bd H' bb l → (∀ x,x ≠ bb → H'.get x = H.get x) → H'.next = H.next → Q v H') : FC K 136 [.pointer (some ⟨bb,0,none⟩)] H Q := by
 obtain ⟨hw,p,v,hg,hp,hbuf⟩ := hb
 exact c136r hK hS hw hg hp fun u H' p' h1 h2 h3 h4 h5 => hQ u H' ⟨h1,p',v,h2,h3,hbuf.agree fun x hx => h4 x (by omega)⟩ h4 h5
theorem c95 {K : Cx} (hK : Cfg K) (hS : BdIs K) {bb : Nat} {l : List UInt8} {t : ByteArray} {H : Heap} {Q : Value → Heap → Prop} (hb : Bd H bb l) (hl : l.length + t.size ≤ 1073741824)
  (hQ : ∀ v H',Bd H' bb (l ++ t.data.toList) → Agree bb H H' → H.next ≤ H'.next → Q v H') : FC K 95 [.pointer (some ⟨bb,0,none⟩),.string t] H Q := by
 refine FC.of hK hS.i95 (by simp [F95]) ?_
 unfold F95
 simp (disch := omega) only [↓wD,wU,↓reduceIte,reduceLT,reduceEqDiff,reduceAdd,reduceLeDiff]
 refine c136 hK hS hb fun _ H1 hb1 hf1 hn1 => ?_
 unfold Later
 obtain ⟨hw,p,v,hg,hp,hbuf⟩ := hb1
 have hc : cellAt H1 bb 1 = some v := by rw [cellAt_of hg]; rfl
 simp (disch := omega) only [↓wD,wU,↓reduceIte,reduceLT,reduceEqDiff,reduceAdd,reduceLeDiff,hc]
 rw [wpItems_appStr]
 obtain ⟨a,c,rfl,hlc,hcm⟩ := hbuf.val
 simp only [aop,ev_mk,upv_at,argf_cons,↓reduceIte,Nat.reduceLT,Nat.reduceEqDiff]
 have done : ∀ (v' : Value) (H' : Heap),Buf bb H' v' (l ++ t.data.toList) → (∀ x,x ≤ bb → H'.get x = H1.get x) → H1.next ≤ H'.next → (H1.wf → H'.wf) →
   Q (.tuple #[.int .i64 t.size,.nilIface]) (H'.set bb (some (.row [p,v'] 0 (some 163)))) := fun v' H' h1 h2 h3 h4 => by
  have hg' : H'.get bb = some (.row [p,.slice a l.length c] 0 (some 163)) := by rw [h2 bb (Nat.le_refl _)]; exact hg
  refine hQ _ _ ⟨Heap.wf_set _ _ (h4 hw),p,v',Heap.get_set_same _ _ hg',hp,h1.agree fun x hx => Heap.get_set_ne _ _ (by omega)⟩ (fun x hx => ?_) (by simp; omega)
  rw [Heap.get_set_ne _ _ (by omega),h2 x (by omega),hf1 x (by omega)]
 have hsz : t.data.toList.length = t.size := by rw [Array.length_toList]; rfl
 by_cases ht : t.size = 0
 ·rw [if_pos ht]
  have : t.data.toList = [] := List.eq_nil_of_length_eq_zero (by omega)
  simp (disch := omega) only [↓wD,wU,↓reduceIte,reduceLT,reduceEqDiff,reduceAdd,reduceLeDiff,hg]
  exact done _ H1 (by rw [this,List.append_nil]; exact hbuf) (fun _ _ => rfl) (Nat.le_refl _) _root_.id
 ·rw [if_neg ht]
  refine appendA_buf (m := t.data.toList) hbuf (Heap.lt_of_get hg) hsz.symm (fun e => ht (by rw [← hsz,e]; rfl)) (by omega) (fun v' H' h1 h2 h3 h4 => ?_) a c rfl
  have hg' : H'.get bb = some (.row [p,.slice a l.length c] 0 (some 163)) := by rw [h2 bb (Nat.le_refl _)]; exact hg
  obtain ⟨a',c',rfl,_⟩ := h1.val
  simp (disch := omega) only [↓wD,wU,↓reduceIte,reduceLT,reduceEqDiff,reduceAdd,reduceLeDiff,hg']
  exact done _ H' h1 h2 h3 h4
theorem c98 {K : Cx} (hK : Cfg K) (hS : BdIs K) {bb : Nat} {l : List UInt8} {t : UInt8} {H : Heap} {Q : Value → Heap → Prop} (hb : Bd H bb l) (hl : l.length + 1 ≤ 1073741824)
  (hQ : ∀ v H',Bd H' bb (l ++ [t]) → Agree bb H H' → H.next ≤ H'.next → Q v H') : FC K 98 [.pointer (some ⟨bb,0,none⟩),.int .u8 t.toNat] H Q := by
 refine FC.of hK hS.i98 (by simp [F98]) ?_
 unfold F98
 simp (disch := omega) only [↓wD,wU,↓reduceIte,reduceLT,reduceEqDiff,reduceAdd,reduceLeDiff]
 refine c136 hK hS hb fun _ H1 hb1 hf1 hn1 => ?_
 unfold Later
 obtain ⟨hw,p,v,hg,hp,hbuf⟩ := hb1
 have hc : cellAt H1 bb 1 = some v := by rw [cellAt_of hg]; rfl
 simp (disch := omega) only [↓wD,wU,↓reduceIte,reduceLT,reduceEqDiff,reduceAdd,reduceLeDiff,hc]
 rw [wpItems_app]
 obtain ⟨a,c,rfl,hlc,hcm⟩ := hbuf.val
 have hlt := Heap.lt_of_get hg
 have hbuf2 : Buf bb (H1.push (.row [.int .u8 t.toNat] 0 none)) (.slice a l.length c) l := by
  rcases hbuf with h | ⟨b,c',rest,h1,h2,h3,h4,h5,h6⟩
  ·exact .inl h
  ·exact .inr ⟨b,c',rest,h1,h2,h3,h4,h5,Heap.get_push_old h6⟩
 have hg2 : (H1.push (.row [.int .u8 t.toNat] 0 none)).get bb = some (.row [p,.slice a l.length c] 0 (some 163)) := Heap.get_push_old hg
 have hxs : cellsAt (H1.push (.row [.int .u8 t.toNat] 0 none)) H1.next 0 (1 * 1) = some (byteVs [t]) := cellsAt_push_self rfl
 have hne : ¬ (a.map (·.block) = some H1.next ∨ (some 1 : Option Nat) ≠ some 1) := by
  rintro (h | h)
  ·rcases hbuf with ⟨h',_⟩ | ⟨b,c',rest,h1,h2,h3,h4,h5,h6⟩
   ·rw [(Value.slice.inj h').1] at h; cases h
   ·cases h2
    have := Heap.lt_of_get h6
    simp at h; omega
  ·exact h rfl
 simp only [aop,ev_mk,upv_at,argf_cons,↓reduceIte,Nat.reduceLT,Nat.reduceEqDiff,sliceOf,hxs,Nat.one_ne_zero]
 rw [if_neg hne]
 refine appendA_buf (m := [t]) hbuf2 (by simp; omega) rfl (by simp) (by simpa using hl) (fun v' H' h1 h2 h3 h4 => ?_) a c rfl
 have hg' : H'.get bb = some (.row [p,.slice a l.length c] 0 (some 163)) := by rw [h2 bb (Nat.le_refl _)]; exact hg2
 obtain ⟨a',c',rfl,_⟩ := h1.val
 simp (disch := omega) only [↓wD,wU,↓reduceIte,reduceLT,reduceEqDiff,reduceAdd,reduceLeDiff,hg']
 simp only [Heap.next_push] at h3
 refine hQ _ _ ⟨Heap.wf_set _ _ (h4 (Heap.wf_push _ hw)),p,_,Heap.get_set_same _ _ hg',hp,h1.agree fun x hx => Heap.get_set_ne _ _ (by omega)⟩ (fun x hx => ?_) (by simp; omega)
 rw [Heap.get_set_ne _ _ (by omega),h2 x (by omega),Heap.get_push_ne _ _ (by omega),hf1 x (by omega)]
theorem c99 {K : Cx} (hK : Cfg K) (hS : BdIs K) {bb : Nat} {l : List UInt8} {H : Heap} {Q : Value → Heap → Prop} (hb : Bd H bb l) (hl : l.length ≤ 1073741824)
  (hQ : ∀ H',Agree bb H H' → H'.next = H.next → Q (.string ⟨l.toArray⟩) H') : FC K 99 [.pointer (some ⟨bb,0,none⟩)] H Q := by
 refine FC.of hK hS.i99 (by simp [F99]) ?_
 unfold F99
 obtain ⟨hw,p,v,hg,hp,hbuf⟩ := hb
 have hc : cellAt H bb 1 = some v := by rw [cellAt_of hg]; rfl
 rcases hbuf with ⟨rfl,rfl⟩ | ⟨b,c,rest,h1,rfl,h3,h4,⟨h5,h7⟩,h6⟩
 ·simp (disch := omega) only [↓wD,wU,↓reduceIte,reduceLT,reduceEqDiff,reduceAdd,reduceLeDiff,hc,wpItems_sdata]
  simp only [aop,ev_mk,upv_at,argf_cons,↓reduceIte,Nat.reduceLT,Nat.reduceEqDiff,satO_ok]
  simp (disch := omega) only [↓wD,wU,↓reduceIte,reduceLT,reduceEqDiff,reduceAdd,reduceLeDiff,hc,wpItems_ustr]
  simp only [aop,ev_mk,upv_at,argf_cons,↓reduceIte,Nat.reduceLT,Nat.reduceEqDiff]
  rw [if_pos (by simp)]
  simp (disch := omega) only [↓wD,wU,↓reduceIte,reduceLT,reduceEqDiff,reduceAdd,reduceLeDiff]
  exact hQ H (.refl _ _) rfl
 ·simp (disch := omega) only [↓wD,wU,↓reduceIte,reduceLT,reduceEqDiff,reduceAdd,reduceLeDiff,hc,wpItems_sdata]
  simp only [aop,ev_mk,upv_at,argf_cons,↓reduceIte,Nat.reduceLT,Nat.reduceEqDiff,satO_ok]
  rw [if_neg (by omega)]
  simp (disch := omega) only [↓wD,wU,↓reduceIte,reduceLT,reduceEqDiff,reduceAdd,reduceLeDiff,hc,wpItems_ustr]
  simp only [aop,ev_mk,upv_at,argf_cons,↓reduceIte,Nat.reduceLT,Nat.reduceEqDiff]
  by_cases hl0 : l = []
  ·subst hl0
   rw [if_pos (by simp)]
   simp (disch := omega) only [↓wD,wU,↓reduceIte,reduceLT,reduceEqDiff,reduceAdd,reduceLeDiff]
   exact hQ H (.refl _ _) rfl
  ·have hlp : 0 < l.length := List.length_pos_iff.2 hl0
   rw [if_neg (by omega),if_pos (by omega)]
   have e1 : ((byteVs l ++ rest).drop 0).take ((l.length : Int).toNat) = byteVs l := by
    rw [toNat_cast,List.drop_zero,List.take_append_of_le_length (by simp [byteVs]),List.take_of_length_le (by simp [byteVs])]
   simp only [ptrTo,h6,e1,bytesOf_byteVs]
   rw [if_pos ⟨trivial,by rw [toNat_cast]; omega,by omega⟩]
   simp (disch := omega) only [↓wD,wU,↓reduceIte,reduceLT,reduceEqDiff,reduceAdd,reduceLeDiff]
   exact hQ _ (Agree.set _ (by omega)) (by simp)
end Go.Ae
namespace Go.Ae
open Nat (reduceLT reduceEqDiff reduceSub reduceAdd reduceMul reduceLeDiff)
open Int (reduceToNat)
open Go
set_option maxRecDepth 100000
theorem c157 {K : Cx} (hK : Cfg K) (hS : BdIs K) {bb n : Nat} {p : Value} {H : Heap} {Q : Value → Heap → Prop} (hw : H.wf) (hg : H.get bb = some (.row [p,.slice none 0 0] 0 (some 163))) (hp : p = .pointer none ∨ p = .pointer (some ⟨bb,0,none⟩))
  (hn : 0 < n ∧ n ≤ 268435456) (hQ : ∀ v H',Bd H' bb [] → Agree bb H H' → H.next ≤ H'.next → Q v H') : FC K 157 [.pointer (some ⟨bb,0,none⟩),.int .i64 n] H Q := by
 refine FC.of hK hS.i157 (by simp [F157]) ?_
 unfold F157
 have hlt := Heap.lt_of_get hg
 have hc : cellAt H bb 1 = some (.slice none 0 0) := by rw [cellAt_of hg]; rfl
 simp (disch := omega) only [↓wD,wU,↓reduceIte,reduceLT,reduceEqDiff,reduceAdd,reduceLeDiff,hc]
 rintro c ⟨_,hc0⟩ _
 cases hc0 trivial
 simp (disch := omega) only [↓wD,wU,↓reduceIte,reduceLT,reduceEqDiff,reduceAdd,reduceLeDiff,hc]
 have e : (2 * ((0 : Nat) : Int) + (n : Int)) = (n : Int) := by omega
 rw [e]
 refine hS.x192 n _ _ hn.2 fun l hl => ?_
 unfold Later
 have hg2 : (H.push (.row (byteVs l) 0 (some 5))).get bb = some (.row [p,.slice none 0 0] 0 (some 163)) := Heap.get_push_old hg
 have hc2 : cellAt (H.push (.row (byteVs l) 0 (some 5))) bb 1 = some (.slice none 0 0) := by rw [cellAt_of hg2]; rfl
 simp (disch := omega) only [↓wD,wU,↓reduceIte,reduceLT,reduceEqDiff,reduceAdd,reduceLeDiff,hc,hc2,sliceOf]
 rw [wpItems_copyS]
 simp only [aop,ev_mk,upv_at,argf_cons,↓reduceIte,Nat.reduceLT,Nat.reduceEqDiff]
 rw [if_pos (by simp)]
 simp (disch := omega) only [↓wD,wU,↓reduceIte,reduceLT,reduceEqDiff,reduceAdd,reduceLeDiff,hg2]
 refine hQ _ _ ⟨Heap.wf_set _ _ (Heap.wf_push _ hw),p,_,Heap.get_set_same _ _ hg2,hp,.inr ⟨H.next,n,byteVs l,hlt,rfl,by simp,by unfold maxRow; omega,⟨by simp [byteVs]; omega,hn.1⟩,?_⟩⟩ (fun x hx => ?_) (by simp)
 ·rw [Heap.get_set_ne _ _ (by omega),Heap.get_push_same]; rfl
 ·rw [Heap.get_set_ne _ _ (by omega),Heap.get_push_ne _ _ (by omega)]
theorem c112 {K : Cx} (hK : Cfg K) (hS : BdIs K) {bb n : Nat} {H : Heap} {Q : Value → Heap → Prop} (hw : H.wf) (hg : H.get bb = some (.row [.pointer none,.slice none 0 0] 0 (some 163)))
  (hn : n ≤ 268435456) (hQ : ∀ v H',Bd H' bb [] → Agree bb H H' → H.next ≤ H'.next → Q v H') : FC K 112 [.pointer (some ⟨bb,0,none⟩),.int .i64 n] H Q := by
 refine FC.of hK hS.i112 (by simp [F112]) ?_
 unfold F112
 simp (disch := omega) only [↓wD,wU,↓reduceIte,reduceLT,reduceEqDiff,reduceAdd,reduceLeDiff]
 refine c136r hK hS hw hg (.inl rfl) fun u H1 p1 hw1 hg1 hp1 hf1 hn1 => ?_
 unfold Later
 have hc : cellAt H1 bb 1 = some (.slice none 0 0) := by rw [cellAt_of hg1]; rfl
 simp (disch := omega) only [↓wD,wU,↓reduceIte,reduceLT,reduceEqDiff,reduceAdd,reduceLeDiff,hc]
 rw [if_neg (by omega)]
 rintro c ⟨_,hc0⟩ _
 cases hc0 trivial
 simp (disch := omega) only [↓wD,wU,↓reduceIte,reduceLT,reduceEqDiff,reduceAdd,reduceLeDiff,hc]
 split
 ·refine c157 hK hS hw1 hg1 hp1 ⟨by omega,hn⟩ fun v H2 h1 h2 h3 => ?_
  unfold Later
  simp (disch := omega) only [↓wD,wU,↓reduceIte,reduceLT,reduceEqDiff,reduceAdd,reduceLeDiff]
  exact hQ _ _ h1 (fun x hx => by rw [h2 x hx,hf1 x (by omega)]) (by omega)
 ·exact hQ _ _ ⟨hw1,p1,_,hg1,hp1,.inl ⟨rfl,rfl⟩⟩ (fun x hx => hf1 x (by omega)) (by omega)
end Go.Ae
