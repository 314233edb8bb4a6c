/- Part 25 of the proof of the law: Ce30, Ce31, Ce32. No condition. -/
import Derived.Test.YtalflgbdhjjlkaaGreatDoorP24
set_option linter.all false
namespace Go.Ae
open Nat (reduceLT reduceEqDiff reduceSub reduceAdd reduceMul reduceLeDiff)
open Int (reduceToNat)
open Go
set_option maxRecDepth 100000
section
variable {K : Cx} {H : Heap}
set_option maxHeartbeats 4000000 in
theorem c222 (hK : Cfg K) (hS : LitIs K) {l tr n rc : Nat} {J : List Pc → Names → Heap → Prop} (hY : Yd K l encP okP J) {D0 : Names} {w : ByteArray} {P : List Prt} {q : Nat → QS} {tyr : Option TypeId} {Q : Value → Heap → Prop}
  (hw : H.wf) (hR : Rd n H tr w P) (hnd : ∀ x,x < n → ¬ D0 x) (hn : n ≤ H.next) (hrc : H.get rc = some (.row [.pointer (some ⟨tr,0,none⟩)] 0 tyr)) (hrd : ¬ D0 rc) (hJ : J [] D0 H)
  (hr : Run q (bAt w) w.size) (hend : q w.size = .top) (hP : PI q w.size P []) (hsz : w.size ≤ 10000)
  (hQ : ∀ H' L D',J L D' H' → Mvd H H' D0 D' → Fed q (bAt w) w.size L [] → Q (.tuple #[]) H') : FC K 222 [.func (.yield l) #[] #[],.pointer (some ⟨rc,0,none⟩)] H Q := by
 refine FC.of hK hS.i222 (by simp [F222]) ?_
 unfold F222
 have hPl := hP.size
 have hrl := Heap.lt_of_get hrc
 simp -implicitDefEqProofs (maxSteps := 1000000) (disch := first | omega | (simp -implicitDefEqProofs only [wH]; done) | (simp -implicitDefEqProofs only [wH]; omega)) only [↓wD,wU,↓reduceIte,reduceLT,reduceEqDiff,reduceSub,reduceAdd,reduceLeDiff]
 refine loop_ind (fun m E H' => ∃ (f : Nat → Value) (i : Nat) (L : List Pc) (D : Names) (pl : List UInt8) (v : Value) (bo : Option Nat),E = mk 112 f ∧ f 1 = .pointer (some ⟨rc,0,none⟩) ∧ f 2 = .pointer (some ⟨H.next,0,none⟩) ∧ f 3 = .pointer (some ⟨H.next + 1,0,none⟩) ∧
  f 4 = .func (.func 223) #[] #[.pointer (some ⟨H.next + 1,0,none⟩),.pointer (some ⟨H.next,0,none⟩)] ∧ f 5 = .int .i64 (i : Nat) ∧ m + i = w.size ∧ i ≤ w.size ∧ q i = .top ∧ pl.length ≤ i ∧ Fed q (bAt w) i L pl ∧ Ea H H' l H.next (H.next + 1) D0 J L D pl v bo) (n := w.size) ?_ ?_
 ·refine ⟨_,0,[],D0,[],.slice none 0 0,none,rfl,rfl,rfl,rfl,rfl,rfl,rfl,Nat.zero_le _,hr.zero,Nat.zero_le _,.zero,?_⟩
  have hw1 := Heap.wf_push (.row [.func (.yield l) #[] #[]] 0 (some 261)) hw
  have hlow := hY.low hJ
  refine ⟨?_,?_,?_,⟨rfl,rfl,rfl⟩,fun x hx => by (cases hx),fun x hx _ => ?_,by simp; omega,fun x hx => .inl hx,fun e => by have := hlow _ e; omega,fun e => by have := hlow _ e; omega,Nat.le_refl _,by omega,by omega,Heap.wf_push _ hw1⟩
  ·refine hY.loc hJ (fun x hx => ?_) (by simp; omega) (Heap.wf_push _ hw1)
   have := hlow x hx
   rw [Heap.get_push_ne _ _ (by simp; omega),Heap.get_push_ne _ _ (by omega)]
  ·rw [Heap.get_push_ne _ _ (by simp),Heap.get_push_same]
  ·exact Heap.get_push_same (H.push _) _
  ·rw [Heap.get_push_ne _ _ (by simp; omega),Heap.get_push_ne _ _ (by omega)]
 rintro I m E H' ⟨f,i,L,D,pl,v,bo,rfl,f1,f2,f3,f4,f5,hm,hi,hqi,hpl,hF,hE⟩ hI
 have hnx := hE.nx
 have hFl := hF.len
 have hFf := hF.flush.len
 rw [List.length_nil,Nat.add_zero] at hFf
 have hR' : Rd n H' tr w P := hR.agree fun x hx => hE.mv x (by omega) (hnd x hx)
 have hrc' : H'.get rc = some (.row [.pointer (some ⟨tr,0,none⟩)] 0 tyr) := by rw [hE.mv rc hrl hrd]; exact hrc
 have crc : cellAt H' rc 0 = some (.pointer (some ⟨tr,0,none⟩)) := by rw [cellAt_of hrc']; rfl
 obtain ⟨vl,mb,bl,hg,hmb,hol,_,_⟩ := hR'.row
 have htl := Heap.lt_of_get hg
 have c0 : cellAt H' tr 0 = some (.string w) := by rw [cellAt_of hg]; rfl
 have cpc : cellAt H' (H.next + 1) 0 = some v := by rw [cellAt_of hE.rp]; rfl
 have hpc := Heap.lt_of_get hE.rp
 have cyb : cellAt H' H.next 0 = some (.func (.yield l) #[] #[]) := by rw [cellAt_of hE.ry]; rfl
 by_cases hik : (i : Int) < w.size
 ·simp -implicitDefEqProofs (maxSteps := 1000000) (disch := first | omega | (simp -implicitDefEqProofs only [wH]; done) | (simp -implicitDefEqProofs only [wH]; omega)) only [↓wD,wU,↓reduceIte,reduceLT,reduceEqDiff,reduceSub,reduceAdd,reduceLeDiff,f1,f2,f3,f4,f5,crc,c0,hik,decide_true]
  rcases top_step hr (by omega) hqi with ⟨h1,h2,h3,h4⟩ | ⟨h1,h2⟩
  ·
   refine c224 hK hS hR' (by omega) (by omega) (fun hno => ?_) (fun k p' hk hp' _ => ?_)
   ·unfold Later
    simp -implicitDefEqProofs (maxSteps := 1000000) (disch := first | omega | (simp -implicitDefEqProofs only [wH]; done) | (simp -implicitDefEqProofs only [wH]; omega)) only [↓wD,wU,↓reduceIte,reduceLT,reduceEqDiff,reduceSub,reduceAdd,reduceLeDiff,f1,f2,f3,f4,f5,crc,c0,cpc,set_reserve1']
    refine ⟨by omega,?_⟩
    have hx : (((byteAt w i).toNat : Nat) : Int) = bAt w i := rfl
    have hb1 : dec q (bAt w) i 1 = [byteAt w i] := by rw [h4]; exact says_self _
    have hE2 := hE.push hY (.row [.int .i64 0,.int .i64 0,.int .i64 0,.int .i64 0,.bool false] 0 (some 147))
    refine wpItems_appO (xs := byteVs [byteAt w i]) (m := 1) v hE2.own (by simp -implicitDefEqProofs (maxSteps := 1000000) (disch := first | omega | (simp -implicitDefEqProofs only [wH]; done) | (simp -implicitDefEqProofs only [wH]; omega)) only [↓wD,wU,↓reduceIte,reduceLT,reduceEqDiff,reduceSub,reduceAdd,reduceLeDiff]) (by simp -implicitDefEqProofs (maxSteps := 1000000) (disch := first | omega | (simp -implicitDefEqProofs only [wH]; done) | (simp -implicitDefEqProofs only [wH]; omega)) only [↓wD,wU,↓reduceIte,reduceLT,reduceEqDiff,reduceSub,reduceAdd,reduceLeDiff]) rfl (by decide) (by unfold appMax; omega) fun c2 H3 h7 h8 h9 h10 => ?_
    simp only [Heap.next_push] at h7 h8 h9 h10
    have hlow := hY.low hE.j
    have g3 : H3.get (H.next + 1) = some (.row [v] 0 (some 113)) := by
     rw [h8 _ (by omega) (fun e => (hE.nb _ e).2.2.1 rfl)]; exact hE2.rp
    have w3 : H3.wf := h10 (Heap.wf_push _ hE.wf)
    simp -implicitDefEqProofs (maxSteps := 1000000) (disch := first | omega | (simp -implicitDefEqProofs only [wH]; done) | (simp -implicitDefEqProofs only [wH]; omega)) only [↓wD,wU,↓reduceIte,reduceLT,reduceEqDiff,reduceSub,reduceAdd,reduceLeDiff,f1,f2,f3,f4,f5,g3]
    refine hI _ _ _ (show m - 1 < m by omega) ?_
    refine ⟨_,i + 1,L,D,pl ++ [byteAt w i],.slice (some ⟨H'.next + 1 + 1,0,some 1⟩) (pl.length + 1) c2,some (H'.next + 1 + 1),rfl,f1,f2,f3,f4,rfl,by omega,by omega,h1,by simp; omega,hF.byte (by rw [hx]; exact h2) hb1,?_⟩
    have fr : ∀ x,x < H'.next → (∀ y,bo = some y → y ≠ x) → x ≠ H.next + 1 → (H3.set (H.next + 1) (some (.row [.slice (some ⟨H'.next + 1 + 1,0,some 1⟩) (pl.length + 1) c2] 0 (some 113)))).get x = H'.get x := fun x hx hb hp => by
     rw [Heap.get_set_ne _ _ (Ne.symm hp),h8 x (by omega) (fun e => hb x e rfl),Heap.get_push_ne _ _ (by omega)]
    refine ⟨hY.loc hE.j (fun x hx => fr x (hlow x hx) (fun y hy e => (hE.nb y hy).1 (by rw [e]; exact hx)) (fun e => hE.np (by rw [← e]; exact hx))) (by simp; omega) (Heap.wf_set _ _ w3),?_,Heap.get_set_same _ _ g3,?_,fun x hx => ?_,fun x hx hd => ?_,by simp; omega,hE.new,hE.ny,hE.np,hE.hy,hE.hp,hE.ne,Heap.wf_set _ _ w3⟩
    ·rw [fr H.next (by omega) (fun y hy => (hE.nb y hy).2.1) (by omega)]; exact hE.ry
    ·rw [List.length_append,byteVs_append]
     exact h7.frame fun x hx => Heap.get_set_ne _ _ (by cases hx; omega)
    ·cases hx
     exact ⟨fun e => by have := hlow _ e; omega,by omega,by omega,by omega⟩
    ·rw [fr x (by omega) (fun y hy => by have := (hE.nb y hy).2.2.2; omega) (by omega)]; exact hE.mv x hx hd
   ·exact absurd (by rw [← hp']; exact (hP.each k p' hk).2.1) h3
  ·obtain ⟨k0,p0,hk0,hp0⟩ := hP.all i (by omega) h1
   refine c224 hK hS hR' (by omega) (by omega) (fun hno => absurd hp0 (hno k0 p0 hk0)) (fun k p hk hp _ => ?_)
   obtain ⟨_,_,hpm,hpe⟩ := hP.each k p hk
   have hpE := (hpe.resolve_left (by simp)).2
   have hpo := (hpe.resolve_left (by simp)).1
   unfold Later
   simp -implicitDefEqProofs (maxSteps := 1000000) (disch := first | omega | (simp -implicitDefEqProofs only [wH]; done) | (simp -implicitDefEqProofs only [wH]; omega)) only [↓wD,wU,↓reduceIte,reduceLT,reduceEqDiff,reduceSub,reduceAdd,reduceLeDiff,f1,f2,f3,f4,f5,prV,cells_self5]
   have hm12 : p.mode ≠ 12 := by rw [hpm]; exact fun e => by have := (modeOf_ne (q (p.frm + 1))).1; omega
   refine c225 (p := p) hK hS hm12 ?_
   unfold Later
   rw [hp] at hpm hpE
   have hE2 := hE.push hY (.row [.int .i64 (p.mode : Nat),.int .i64 (p.frm : Nat),.int .i64 (p.to : Nat),.int .i64 p.up,.bool p.op] 0 (some 147))
   rcases h2 with h2 | h2 | h2
   ·rw [h2] at hpm
    have hmo : p.mode = 13 := hpm
    have h13 : ((p.mode : Nat) : Int) = 13 := by omega
    have hn14 : ¬ ((p.mode : Nat) : Int) = 14 := by omega
    simp -implicitDefEqProofs (maxSteps := 1000000) (disch := first | omega | (simp -implicitDefEqProofs only [wH]; done) | (simp -implicitDefEqProofs only [wH]; omega)) only [↓wD,wU,↓reduceIte,reduceLT,reduceEqDiff,reduceSub,reduceAdd,reduceLeDiff,f1,f2,f3,f4,f5,crc,eq_true h13,hn14,decide_true,decide_false,cells_self5]
    obtain ⟨r1,r2,r3,r4,r5⟩ := esc_read hr hend (by omega) hqi h2 hpE
    have hR2 : Rd n (H'.push (.row [.int .i64 (p.mode : Nat),.int .i64 (p.frm : Nat),.int .i64 (p.to : Nat),.int .i64 p.up,.bool p.op] 0 (some 147))) tr w P := hR'.agree fun x hx => Heap.get_push_ne _ _ (by omega)
    have hb10 : byteAt w (p.frm + 1) ≠ 10 := fun e => r4 (by unfold bAt; rw [← hp,e]; rfl)
    refine c226e (p := p) hK hS hR2 hmo (by omega) (by omega) (by omega) hb10 ?_
    unfold Later pcV
    simp -implicitDefEqProofs (maxSteps := 1000000) (disch := first | omega | (simp -implicitDefEqProofs only [wH]; done) | (simp -implicitDefEqProofs only [wH]; omega)) only [↓wD,wU,↓reduceIte,reduceLT,reduceEqDiff,reduceSub,reduceAdd,reduceLeDiff,f1,f2,f3,f4,f5]
    have hE3 := hE2.push hY (.row [.bool false,.bool true,.string ⟨#[byteAt w (p.frm + 1)]⟩] 0 (some 103))
    have hlow := hY.low hE.j
    refine ea_flush hK hS hY hE3 (by omega) fun H4 D4 hE4 hk4 hn4 hd4 => ?_
    unfold Later
    simp only [Heap.next_push] at hk4 hn4 hd4
    have g8 : cellsAt H4 (H'.next + 1) 0 3 = some [.bool false,.bool true,.string ⟨#[byteAt w (p.frm + 1)]⟩] := by
     rw [cellsAt_row,rowOf,hk4 (H'.next + 1) (by omega) (by omega) (fun e => by have := hlow _ e; omega),← Heap.next_push H' (.row [.int .i64 (p.mode : Nat),.int .i64 (p.frm : Nat),.int .i64 (p.to : Nat),.int .i64 p.up,.bool p.op] 0 (some 147)),Heap.get_push_same]
     rfl
    have cy4 : cellAt H4 H.next 0 = some (.func (.yield l) #[] #[]) := by rw [cellAt_of hE4.ry]; rfl
    simp -implicitDefEqProofs (maxSteps := 1000000) (disch := first | omega | (simp -implicitDefEqProofs only [wH]; done) | (simp -implicitDefEqProofs only [wH]; omega)) only [↓wD,wU,↓reduceIte,reduceLT,reduceEqDiff,reduceSub,reduceAdd,reduceLeDiff,f1,f2,f3,f4,f5,g8,cy4]
    refine RC.mono (fun v5 H5 h5 => ?_) (hY.step (a := (true,⟨#[byteAt w (p.frm + 1)]⟩)) hE4.j hE4.wf (Nat.le_trans hFf (by omega)))
    obtain ⟨rfl,D5,j5,m5⟩ := h5
    unfold Later
    simp -implicitDefEqProofs (maxSteps := 1000000) (disch := first | omega | (simp -implicitDefEqProofs only [wH]; done) | (simp -implicitDefEqProofs only [wH]; omega)) only [↓wD,wU,↓reduceIte,reduceLT,reduceEqDiff,reduceSub,reduceAdd,reduceLeDiff,f1,f2,f3,f4,f5]
    refine hI _ _ _ (show w.size - p.to < m by omega) ?_
    refine ⟨_,p.to,_,D5,[],_,none,rfl,f1,f2,f3,f4,rfl,by omega,by omega,r3,Nat.zero_le _,(hF.flush).told (by omega) (t := ⟨#[byteAt w (p.frm + 1)]⟩) ?_,hE4.told j5 m5⟩
    rw [r5,hp]; exact says_self _
   ·rw [h2] at hpm
    have hmo : p.mode = 4 := hpm
    have h4 : ((p.mode : Nat) : Int) = 4 := by omega
    have hn13 : ¬ ((p.mode : Nat) : Int) = 13 := by omega
    have hn14 : ¬ ((p.mode : Nat) : Int) = 14 := by omega
    simp -implicitDefEqProofs (maxSteps := 1000000) (disch := first | omega | (simp -implicitDefEqProofs only [wH]; done) | (simp -implicitDefEqProofs only [wH]; omega)) only [↓wD,wU,↓reduceIte,reduceLT,reduceEqDiff,reduceSub,reduceAdd,reduceLeDiff,f1,f2,f3,f4,f5,crc,eq_true h4,hn13,hn14,decide_true,decide_false,cells_self5]
    obtain ⟨r1,r2,r3,r5⟩ := sgl_read hr hend (by omega) hqi h2 hpE
    have hR2 : Rd n (H'.push (.row [.int .i64 (p.mode : Nat),.int .i64 (p.frm : Nat),.int .i64 (p.to : Nat),.int .i64 p.up,.bool p.op] 0 (some 147))) tr w P := hR'.agree fun x hx => Heap.get_push_ne _ _ (by omega)
    refine c226s (p := p) hK hS hR2 hmo hpo (by omega) (by omega) (by omega) ?_
    generalize ht : w.extract (p.frm + 1) (p.to - 1) = t
    unfold Later pcV
    simp -implicitDefEqProofs (maxSteps := 1000000) (disch := first | omega | (simp -implicitDefEqProofs only [wH]; done) | (simp -implicitDefEqProofs only [wH]; omega)) only [↓wD,wU,↓reduceIte,reduceLT,reduceEqDiff,reduceSub,reduceAdd,reduceLeDiff,f1,f2,f3,f4,f5]
    have hE3 := hE2.push hY (.row [.bool false,.bool true,.string t] 0 (some 103))
    have hlow := hY.low hE.j
    refine ea_flush hK hS hY hE3 (by omega) fun H4 D4 hE4 hk4 hn4 hd4 => ?_
    unfold Later
    simp only [Heap.next_push] at hk4 hn4 hd4
    have g8 : cellsAt H4 (H'.next + 1) 0 3 = some [.bool false,.bool true,.string t] := by
     rw [cellsAt_row,rowOf,hk4 (H'.next + 1) (by omega) (by omega) (fun e => by have := hlow _ e; omega),← Heap.next_push H' (.row [.int .i64 (p.mode : Nat),.int .i64 (p.frm : Nat),.int .i64 (p.to : Nat),.int .i64 p.up,.bool p.op] 0 (some 147)),Heap.get_push_same]
     rfl
    have cy4 : cellAt H4 H.next 0 = some (.func (.yield l) #[] #[]) := by rw [cellAt_of hE4.ry]; rfl
    simp -implicitDefEqProofs (maxSteps := 1000000) (disch := first | omega | (simp -implicitDefEqProofs only [wH]; done) | (simp -implicitDefEqProofs only [wH]; omega)) only [↓wD,wU,↓reduceIte,reduceLT,reduceEqDiff,reduceSub,reduceAdd,reduceLeDiff,f1,f2,f3,f4,f5,g8,cy4]
    refine RC.mono (fun v5 H5 h5 => ?_) (hY.step (a := (true,t)) hE4.j hE4.wf (Nat.le_trans hFf (by omega)))
    obtain ⟨rfl,D5,j5,m5⟩ := h5
    unfold Later
    simp -implicitDefEqProofs (maxSteps := 1000000) (disch := first | omega | (simp -implicitDefEqProofs only [wH]; done) | (simp -implicitDefEqProofs only [wH]; omega)) only [↓wD,wU,↓reduceIte,reduceLT,reduceEqDiff,reduceSub,reduceAdd,reduceLeDiff,f1,f2,f3,f4,f5]
    refine hI _ _ _ (show w.size - p.to < m by omega) ?_
    refine ⟨_,p.to,_,D5,[],_,none,rfl,f1,f2,f3,f4,rfl,by omega,by omega,r3,Nat.zero_le _,(hF.flush).told (by omega) (t := t) ?_,hE4.told j5 m5⟩
    rw [r5,← ht,hp,show p.to - 1 = i + 1 + (p.to - i - 2) by omega,bts_extract (by omega)]
   ·rw [h2] at hpm
    have hmo : p.mode = 5 := hpm
    have h5 : ((p.mode : Nat) : Int) = 5 := by omega
    have hn4 : ¬ ((p.mode : Nat) : Int) = 4 := by omega
    have hn13 : ¬ ((p.mode : Nat) : Int) = 13 := by omega
    have hn14 : ¬ ((p.mode : Nat) : Int) = 14 := by omega
    have hdb := dbl_read hr hend (by omega) hqi h2 hpE
    have d1 := hdb.le
    have d2 := hdb.len
    simp -implicitDefEqProofs (maxSteps := 1000000) (disch := first | omega | (simp -implicitDefEqProofs only [wH]; done) | (simp -implicitDefEqProofs only [wH]; omega)) only [↓wD,wU,↓reduceIte,reduceLT,reduceEqDiff,reduceSub,reduceAdd,reduceLeDiff,f1,f2,f3,f4,f5,crc,eq_true h5,hn4,hn13,hn14,decide_true,decide_false,cells_self5]
    have hlow := hY.low hE.j
    refine ea_flush hK hS hY hE2 (by omega) fun H4 D4 hE4 hk4 hn4 hd4 => ?_
    unfold Later
    simp only [Heap.next_push] at hk4 hn4 hd4
    have g6 : cellsAt H4 H'.next 0 5 = some [.int .i64 (p.mode : Nat),.int .i64 (p.frm : Nat),.int .i64 (p.to : Nat),.int .i64 p.up,.bool p.op] := by
     rw [cellsAt_row,rowOf,hk4 H'.next (by omega) (by omega) (fun e => by have := hlow _ e; omega),Heap.get_push_same]
     rfl
    have cy4 : cellAt H4 H.next 0 = some (.func (.yield l) #[] #[]) := by rw [cellAt_of hE4.ry]; rfl
    have crc4 : cellAt H4 rc 0 = some (.pointer (some ⟨tr,0,none⟩)) := by rw [cellAt_of ((hE4.mv rc hrl hrd).trans hrc)]; rfl
    simp -implicitDefEqProofs (maxSteps := 1000000) (disch := first | omega | (simp -implicitDefEqProofs only [wH]; done) | (simp -implicitDefEqProofs only [wH]; omega)) only [↓wD,wU,↓reduceIte,reduceLT,reduceEqDiff,reduceSub,reduceAdd,reduceLeDiff,f1,f2,f3,f4,f5,g6,cy4,crc4]
    have hR4 : Rd n H4 tr w P := hR.agree fun x hx => hE4.mv x (by omega) (hnd x hx)
    have hnx4 := hE4.nx
    refine c227 (p := p) hK hS hY hE4.wf hR4 (by omega) hr hend hP hsz hmo hpo (by rw [hp]; exact hdb) hE4.j (Nat.le_trans hFf (by omega)) fun H5 D5 j5 m5 => ?_
    unfold Later
    simp -implicitDefEqProofs (maxSteps := 1000000) (disch := first | omega | (simp -implicitDefEqProofs only [wH]; done) | (simp -implicitDefEqProofs only [wH]; omega)) only [↓wD,wU,↓reduceIte,reduceLT,reduceEqDiff,reduceSub,reduceAdd,reduceLeDiff,f1,f2,f3,f4,f5]
    refine hI _ _ _ (show w.size - p.to < m by omega) ?_
    refine ⟨_,p.to,_,D5,[],_,none,rfl,f1,f2,f3,f4,rfl,by omega,by omega,hdb.top,Nat.zero_le _,(hF.flush).told (by omega) (t := ⟨(dec q (bAt w) p.frm (p.to - p.frm)).toArray⟩) ?_,hE4.told j5 m5⟩
    rw [hp]
 ·have hin : i = w.size := by omega
  subst hin
  simp -implicitDefEqProofs (maxSteps := 1000000) (disch := first | omega | (simp -implicitDefEqProofs only [wH]; done) | (simp -implicitDefEqProofs only [wH]; omega)) only [↓wD,wU,↓reduceIte,reduceLT,reduceEqDiff,reduceSub,reduceAdd,reduceLeDiff,f1,f2,f3,f4,f5,crc,c0,hik,decide_false]
  refine ea_flush hK hS hY hE (by omega) fun H4 D4 hE4 hk4 hn4 hd4 => ?_
  unfold Later
  simp -implicitDefEqProofs (maxSteps := 1000000) (disch := first | omega | (simp -implicitDefEqProofs only [wH]; done) | (simp -implicitDefEqProofs only [wH]; omega)) only [↓wD,wU,↓reduceIte,reduceLT,reduceEqDiff,reduceSub,reduceAdd,reduceLeDiff]
  refine hQ _ _ _ hE4.j ⟨fun x hx hd => hE4.mv x hx hd,hE4.nx,hE4.new,hE4.wf⟩ hF.flush
end
end Go.Ae
namespace Go.Ae
open Nat (reduceLT reduceEqDiff reduceSub reduceAdd reduceMul reduceLeDiff)
open Int (reduceToNat)
open Go
set_option maxRecDepth 100000
def Jc {A : Type} (l c2 : Nat) (E : List Value) (ps : List Tmp) (asg body : ACode) (sz : Nat) (cells : A → List Value) (ty : Option TypeId) : List A → Names → Heap → Prop := fun L D H =>
 ∃ v bo,D = (fun x => x = l ∨ x = c2 ∨ bo = some x) ∧ H.get l = some (Lp .ready none E ps asg body) ∧ H.get c2 = some (.row [v] 0 ty) ∧ OwO H bo v sz L.length (L.flatMap cells) ∧ bo ≠ some l ∧ bo ≠ some c2
theorem Jc.loc {A : Type} {l c2 : Nat} {E : List Value} {ps : List Tmp} {asg body : ACode} {sz : Nat} {cells : A → List Value} {ty : Option TypeId} {L : List A} {D : Names} {H H' : Heap} (h : Jc l c2 E ps asg body sz cells ty L D H) (hf : ∀ x,D x → H'.get x = H.get x) : Jc l c2 E ps asg body sz cells ty L D H' := by
 obtain ⟨v,bo,rfl,h1,h2,h3,h4,h5⟩ := h
 exact ⟨v,bo,rfl,by rw [hf l (.inl rfl)]; exact h1,by rw [hf c2 (.inr (.inl rfl))]; exact h2,h3.frame fun x hx => hf x (.inr (.inr hx)),h4,h5⟩
theorem Jc.low {A : Type} {l c2 : Nat} {E : List Value} {ps : List Tmp} {asg body : ACode} {sz : Nat} {cells : A → List Value} {ty : Option TypeId} {L : List A} {D : Names} {H : Heap} (h : Jc l c2 E ps asg body sz cells ty L D H) : ∀ x,D x → x < H.next := by
 obtain ⟨v,bo,rfl,h1,h2,h3,h4,h5⟩ := h
 rintro x (rfl | rfl | hx)
 ·exact Heap.lt_of_get h1
 ·exact Heap.lt_of_get h2
 ·exact h3.lt x hx
def cellsP (a : Pc) : List Value := [.bool false,.bool a.1,.string a.2]
def asg220 : ACode := (.ops [⟨some 5,.new [(.bool false),(.bool false),(.string ⟨#[]⟩)] 103,none⟩,⟨none,.store (.tmp 5) (.tmp 7) 3,none⟩])
def body220 : ACode := (.block 1
    (.ops [⟨some 8,.load (.tmp 2) none,none⟩,
     ⟨some 9,.load (.tmp 5) (some 3),none⟩,
     ⟨some 10,.mkslice 1 3 [(.bool false),(.bool false),(.string ⟨#[]⟩)] [(0,3,.tmp 9)],none⟩,
     ⟨some 11,.app (.tmp 8) (.tmp 10) 3 103,none⟩,
     ⟨none,.store (.tmp 2) (.tmp 11) 1,none⟩]))
section
variable {K : Cx} {H : Heap}
theorem yd220 (hK : Cfg K) {l c2 : Nat} {f : Nat → Value} {ty : Option TypeId} (f2 : f 2 = .pointer (some ⟨c2,0,none⟩)) (hne : c2 ≠ l) : Yd K l encP okP (Jc l c2 (mk 13 f) [7] asg220 body220 3 cellsP ty) where
 loc := fun h hf _ _ => h.loc hf
 low := fun h => h.low
 step := by
  rintro L D H ⟨q,t⟩ ⟨v,bo,rfl,h1,h2,h3,h4,h5⟩ hw hok
  have hok' : L.length ≤ 10000 := hok
  have hl := Heap.lt_of_get h1
  have hc := Heap.lt_of_get h2
  refine RC.mono (fun v H' h => ?_) (RC.keeps (round_all hK (Q := fun v H' => v = .bool true ∧ ∃ D',Jc l c2 (mk 13 f) [7] asg220 body220 3 cellsP ty (L ++ [(q,t)]) D' H' ∧ Mvd H H' (fun x => x = l ∨ x = c2 ∨ bo = some x) D') rfl h1 ?_))
  ·exact h.1
  show wpC K DrawD (some l) asg220 _ ((mk 13 f).set 7 (pcV q t)) H
  rw [show (mk 13 f).set 7 (pcV q t) = mk 13 (upv f 7 (pcV q t)) from put_mk 13 f 7 _]
  have ea : ∀ (X : AExit → List Value → Heap → Prop) (E : List Value) (H : Heap),wpC K DrawD (some l) asg220 X E H = wpC K DrawD (some l) (.ops [⟨some 5,.new [(.bool false),(.bool false),(.string ⟨#[]⟩)] 103,none⟩,⟨none,.store (.tmp 5) (.tmp 7) 3,none⟩]) X E H := fun _ _ _ => rfl
  have eb : ∀ (X : AExit → List Value → Heap → Prop) (E : List Value) (H : Heap),wpC K DrawD (some l) body220 X E H = wpC K DrawD (some l) (.block 1
    (.ops [⟨some 8,.load (.tmp 2) none,none⟩,
     ⟨some 9,.load (.tmp 5) (some 3),none⟩,
     ⟨some 10,.mkslice 1 3 [(.bool false),(.bool false),(.string ⟨#[]⟩)] [(0,3,.tmp 9)],none⟩,
     ⟨some 11,.app (.tmp 8) (.tmp 10) 3 103,none⟩,
     ⟨none,.store (.tmp 2) (.tmp 11) 1,none⟩])) X E H := fun _ _ _ => rfl
  rw [ea]
  unfold pcV
  simp (disch := omega) only [↓wD,wU,↓reduceIte,reduceLT,reduceEqDiff,reduceSub,reduceAdd,reduceLeDiff]
  refine ⟨h1,?_⟩
  rw [eb]
  generalize hB : some (Lp .busy none (mk 13 f) [7] asg220 body220) = oB
  have cs : cellsAt ((H.push (.row [.bool false,.bool q,.string t] 0 (some 103))).set l oB) H.next 0 3 = some [.bool false,.bool q,.string t] := by
   rw [cellsAt_row,rowOf,Heap.get_set_ne _ _ (by omega),Heap.get_push_same]; rfl
  have cc : cellAt ((H.push (.row [.bool false,.bool q,.string t] 0 (some 103))).set l oB) c2 0 = some v := by
   rw [cellAt_row,rowOf,Heap.get_set_ne _ _ (Ne.symm hne),Heap.get_push_ne _ _ (by omega),h2]; rfl
  simp (disch := omega) only [↓wD,wU,↓reduceIte,reduceLT,reduceEqDiff,reduceSub,reduceAdd,reduceLeDiff,f2,cs,cc]
  generalize hG : (H.push (.row [.bool false,.bool q,.string t] 0 (some 103))).set l oB = G at cs cc ⊢
  have gG : ∀ x,x < H.next → x ≠ l → G.get x = H.get x := fun x hx hn => by rw [← hG,Heap.get_set_ne _ _ (Ne.symm hn),Heap.get_push_ne _ _ (by omega)]
  have nG : G.next = H.next + 1 := by rw [← hG]; simp
  have wG : G.wf := by rw [← hG]; exact Heap.wf_set _ _ (Heap.wf_push _ hw)
  have lG : G.get l = oB := by rw [← hG]; exact Heap.get_set_same _ _ (by rw [Heap.get_push_ne _ _ (by omega)]; exact h1)
  have hlt := h3.lt
  refine wpItems_appO (xs := [.bool false,.bool q,.string t]) (m := 1) v (h3.frame fun x hx => gG x (hlt x hx) (fun e => h4 (by rw [hx,e]))) (by simp (disch := omega) only [↓wD,wU,↓reduceIte,reduceLT,reduceEqDiff,reduceSub,reduceAdd,reduceLeDiff]) (by simp (disch := omega) only [↓wD,wU,↓reduceIte,reduceLT,reduceEqDiff,reduceSub,reduceAdd,reduceLeDiff,nG]) rfl (by decide) (by unfold appMax; omega) fun c2' H3 h7 h8 h9 h10 => ?_
  have g3 : H3.get c2 = some (.row [v] 0 ty) := by rw [h8 c2 (by omega) h5,gG c2 hc hne]; exact h2
  have w3 := h10 wG
  have l3 : H3.get l = oB := by rw [h8 l (by omega) h4]; exact lG
  simp (disch := omega) only [↓wD,wU,↓reduceIte,reduceLT,reduceEqDiff,reduceSub,reduceAdd,reduceLeDiff,f2,g3]
  have fr : ∀ (o1 o2 : Option AObj) x,x < H.next → ¬ (x = l ∨ x = c2 ∨ bo = some x) → ((H3.set c2 o1).set l o2).get x = H.get x := fun o1 o2 x hx hd => by
   rw [Heap.get_set_ne _ _ (fun e => hd (.inl e.symm)),Heap.get_set_ne _ _ (fun e => hd (.inr (.inl e.symm))),h8 x (by omega) (fun e => hd (.inr (.inr e))),gG x hx (fun e => hd (.inl e))]
  have s3 : (H3.set c2 (some (.row [.slice (some ⟨G.next + 1,0,some 3⟩) (L.length + 1) c2'] 0 ty))).get l = oB := by rw [Heap.get_set_ne _ _ hne]; exact l3
  refine ⟨s3,fun x => x = l ∨ x = c2 ∨ some (G.next + 1) = some x,⟨.slice (some ⟨G.next + 1,0,some 3⟩) (L.length + 1) c2',some (G.next + 1),rfl,?_,?_,?_,fun e => by cases e; omega,fun e => by cases e; omega⟩,⟨fun x hx hd => fr _ _ x hx hd,by simp; omega,fun x hx => ?_,Heap.wf_set _ _ (Heap.wf_set _ _ w3)⟩⟩
  ·exact Heap.get_set_same _ _ (by rw [s3,← hB])
  ·rw [Heap.get_set_ne _ _ (Ne.symm hne),Heap.get_set_same _ _ g3]
  ·rw [List.length_append,List.flatMap_append]
   simp only [List.flatMap_cons,List.flatMap_nil,List.append_nil]
   exact h7.frame fun x hx => by rw [Heap.get_set_ne _ _ (by cases hx; omega),Heap.get_set_ne _ _ (by cases hx; omega)]
  ·rcases hx with hx | hx | hx
   ·exact .inl (.inl hx)
   ·exact .inl (.inr (.inl hx))
   ·cases hx; exact .inr (by omega)
theorem c220 (hK : Cfg K) (hS : LitIs K) {tr n rc : Nat} {w : ByteArray} {P : List Prt} {q : Nat → QS} {tyr : Option TypeId} {Q : Value → Heap → Prop}
  (hR : Rd n H tr w P) (hn : n ≤ H.next) (hrc : H.get rc = some (.row [.pointer (some ⟨tr,0,none⟩)] 0 tyr))
  (hr : Run q (bAt w) w.size) (hend : q w.size = .top) (hP : PI q w.size P []) (hsz : w.size ≤ 10000)
  (hQ : ∀ H' v bo L,OwO H' bo v 3 L.length (L.flatMap cellsP) → (∀ x,bo = some x → H.next ≤ x) → Agree H.next H H' → H.next ≤ H'.next → H'.wf → Fed q (bAt w) w.size L [] → Q v H') : FC K 220 [.slice none 0 0,.func (.func 222) #[] #[.pointer (some ⟨rc,0,none⟩)]] H Q := by
 refine FC.wf0 fun hw => ?_
 refine FC.of hK hS.i220 (by simp [F220]) ?_
 unfold F220
 have hrl := Heap.lt_of_get hrc
 simp (disch := omega) only [↓wD,wU,↓reduceIte,reduceLT,reduceEqDiff,reduceSub,reduceAdd,reduceLeDiff,wpC_rfunc,callR_func]
 refine ⟨by simp,hS.i222.isFn,?_⟩
 generalize hf : (upv (upv (upv (argf [Value.slice none 0 0,Value.func (Fn.func 222) #[] #[Value.pointer (some ⟨rc,0,none⟩)]]) 2 (Value.pointer (some ⟨H.next,0,none⟩))) 4 (Value.slice none 0 0)) 6 (Value.func (Fn.func 222) #[] #[Value.pointer (some ⟨rc,0,none⟩)])) = f
 have f2 : f 2 = .pointer (some ⟨H.next,0,none⟩) := by rw [← hf]; rfl
 have hw1 := Heap.wf_push (.row [.slice none 0 0] 0 (some 67)) hw
 refine c222 (n := n) (P := P) (q := q) (tyr := tyr) hK hS (J := Jc (H.next + 1) H.next (mk 13 f) [7] asg220 body220 3 cellsP (some 67)) (yd220 hK f2 (by omega)) (D0 := fun x => x = H.next + 1 ∨ x = H.next ∨ none = some x) (Heap.wf_push _ hw1) (hR.agree fun x hx => by rw [Heap.get_push_ne _ _ (by simp; omega),Heap.get_push_ne _ _ (by omega)])
  (fun x hx => by simp; omega) (by simp; omega) (by rw [Heap.get_push_ne _ _ (by simp; omega),Heap.get_push_ne _ _ (by omega)]; exact hrc) (by simp; omega)
  ⟨_,none,rfl,Heap.get_push_same (H.push _) _,by rw [Heap.get_push_ne _ _ (by simp)]; exact Heap.get_push_same _ _,⟨rfl,rfl,rfl⟩,by simp,by simp⟩ hr hend hP hsz fun H' L D' hJ hM hF => ?_
 obtain ⟨v,bo,rfl,h1,h2,h3,h4,h5⟩ := hJ
 refine end_all h1 ?_
 have hn' := hM.next
 simp only [Heap.next_push] at hn'
 have c2 : cellAt (H'.set (H.next + 1) none) H.next 0 = some v := by rw [cellAt_set_ne (by omega),cellAt_of h2]; rfl
 simp (disch := omega) only [↓wD,wU,↓reduceIte,reduceLT,reduceEqDiff,reduceSub,reduceAdd,reduceLeDiff,f2,c2]
 refine hQ _ v bo L (h3.frame fun x hx => Heap.get_set_ne _ _ (fun e => h4 (by rw [hx,e]))) (fun x hx => ?_) (fun x hx => ?_) (by simp; omega) (Heap.wf_set _ _ hM.wf) hF
 ·rcases hM.new x (.inr (.inr hx)) with e | e
  ·rcases e with e | e | e
   ·omega
   ·omega
   ·cases e
  ·simp at e; omega
 ·rw [Heap.get_set_ne _ _ (by omega),hM.get x (by simp; omega) (by simp; omega),Heap.get_push_ne _ _ (by simp; omega),Heap.get_push_ne _ _ (by omega)]
theorem c166 (hK : Cfg K) (hS : LitIs K) {w : ByteArray} {q : Nat → QS} {Q : Value → Heap → Prop} (hr : Run q (bAt w) w.size) (hend : q w.size = .top) (hsz : w.size ≤ 10000)
  (hQ : ∀ H' v bo L,OwO H' bo v 3 L.length (L.flatMap cellsP) → (∀ x,bo = some x → H.next ≤ x) → Agree H.next H H' → H.next ≤ H'.next → H'.wf → Fed q (bAt w) w.size L [] → Q v H') : FC K 166 [.string w] H Q := by
 refine FC.of hK hS.i166 (by simp [F166]) ?_
 unfold F166
 simp (disch := omega) only [↓wD,wU,↓reduceIte,reduceLT,reduceEqDiff,reduceSub,reduceAdd,reduceLeDiff]
 refine c197 hK hS hr hend hsz fun H1 tr P hP hR hA1 hn1 hw1 htr => ?_
 unfold Later
 simp (disch := omega) only [↓wD,wU,↓reduceIte,reduceLT,reduceEqDiff,reduceSub,reduceAdd,reduceLeDiff]
 refine FC.of hK hS.i198 (by simp [F198]) ?_
 unfold F198
 simp (disch := omega) only [↓wD,wU,↓reduceIte,reduceLT,reduceEqDiff,reduceSub,reduceAdd,reduceLeDiff]
 unfold Later
 simp (disch := omega) only [↓wD,wU,↓reduceIte,reduceLT,reduceEqDiff,reduceSub,reduceAdd,reduceLeDiff]
 refine FC.of hK hS.i196 (by simp [F196]) ?_
 unfold F196
 simp (disch := omega) only [↓wD,wU,↓reduceIte,reduceLT,reduceEqDiff,reduceSub,reduceAdd,reduceLeDiff]
 refine c220 (n := H1.next) (P := P) (q := q) (tr := tr) (tyr := some 258) hK hS (hR.agree fun x hx => Heap.get_push_ne _ _ (by omega)) (by simp) (Heap.get_push_same _ _) hr hend hP hsz fun H' v bo L h1 h2 h3 h4 h5 h6 => ?_
 unfold Later
 simp (disch := omega) only [↓wD,wU,↓reduceIte,reduceLT,reduceEqDiff,reduceSub,reduceAdd,reduceLeDiff]
 simp only [Heap.next_push] at h2 h3 h4
 exact hQ H' v bo L h1 (fun x hx => by have := h2 x hx; omega) (fun x hx => by rw [h3 x (by omega),Heap.get_push_ne _ _ (by omega),hA1 x hx]) (by omega) h5 h6
end
end Go.Ae
namespace Go.Ae
open Nat (reduceLT reduceEqDiff reduceSub reduceAdd reduceMul reduceLeDiff)
open Int (reduceToNat)
open Go
set_option maxRecDepth 100000
structure ExpIs (K : Cx) : Prop extends LitIs K where
 i75 : Is K.P K.G0 75 F75
 i116 : Is K.P K.G0 116 F116
 i165 : Is K.P K.G0 165 F165
def encE (a : Pc) : List Value := [pcV a.1 a.2,.int .i64 0]
def asg75 : ACode := (.seq (.ops [⟨some 8,.new [(.bool false),(.bool false),(.string ⟨#[]⟩)] 103,none⟩,
    ⟨none,.store (.tmp 8) (.tmp 13) 3,none⟩])
   (.ops [⟨some 9,.mv (.tmp 14),none⟩]))
def body75 : ACode := (.block 1
    (.seq (.seq (.ops [⟨some 15,.mv (.tmp 9),none⟩,
     ⟨some 16,.eqv true (.scalar .int) (.tmp 15) (.const (.int .i64 0)),none⟩])
    (.cond (.tmp 16)
     (.seq (.ops [⟨some 17,.mv (.tmp 9),none⟩,
      ⟨none,.store (.tmp 6) (.const (.slice none 0 0)) 1,none⟩,
      ⟨none,.store (.tmp 7) (.tmp 17) 1,none⟩])
     (.exit 0))
     .skip))
    (.ops [⟨some 18,.load (.tmp 6) none,none⟩,
     ⟨some 19,.load (.tmp 8) (some 3),none⟩,
     ⟨some 20,.mkslice 1 3 [(.bool false),(.bool false),(.string ⟨#[]⟩)] [(0,3,.tmp 19)],none⟩,
     ⟨some 21,.app (.tmp 18) (.tmp 20) 3 103,none⟩,
     ⟨none,.store (.tmp 6) (.tmp 21) 1,none⟩])))
theorem flat_cells {A : Type} {cells : A → List Value} {sz : Nat} (hc : ∀ a,(cells a).length = sz) {H : Heap} {L : List A} {k b fz : Nat} {a : A} {rest : List Value} {ty : Option TypeId} (h : L[k]? = some a) (hg : H.get b = some (.row (L.flatMap cells ++ rest) fz ty)) : cellsAt H b (k * sz) sz = some (cells a) := by
 obtain ⟨X,Y,rfl,rfl⟩ := split_at h
 have hl : ∀ X : List A,(X.flatMap cells).length = X.length * sz := fun X => by
  induction X with
  | nil => simp
  | cons x X ih => rw [List.flatMap_cons,List.length_append,ih,hc,List.length_cons,Nat.add_mul]; omega
 have e : (X ++ a :: Y).flatMap cells ++ rest = X.flatMap cells ++ (cells a ++ (Y.flatMap cells ++ rest)) := by simp
 rw [cellsAt_row]
 simp only [rowOf,hg,Option.bind_some]
 rw [e,if_pos (by simp only [List.length_append,hl,hc]; omega),List.drop_append_of_le_length (by rw [hl]; omega),List.drop_of_length_le (by rw [hl]; omega),List.nil_append,List.take_append_of_le_length (by rw [hc]; omega),List.take_of_length_le (by rw [hc]; omega)]
theorem dec_len (q : Nat → QS) (b : Nat → Int) (i k : Nat) : (dec q b i k).length ≤ k := by
 induction k generalizing i with
 | zero => simp [dec]
 | succ k ih =>
  have h := ih (i + 1)
  have h1 : (says (q i) (b i)).length ≤ 1 := by
   unfold says
   split <;> (try split) <;> simp
  simp only [dec,List.length_append]; omega
section
variable {K : Cx} {H : Heap}
theorem yd75 (hK : Cfg K) {l c2 : Nat} {f : Nat → Value} {ty : Option TypeId} (f2 : f 6 = .pointer (some ⟨c2,0,none⟩)) (hne : c2 ≠ l) : Yd K l encE okP (Jc l c2 (mk 24 f) [13,14] asg75 body75 3 cellsP ty) where
 loc := fun h hf _ _ => h.loc hf
 low := fun h => h.low
 step := by
  rintro L D H ⟨q,t⟩ ⟨v,bo,rfl,h1,h2,h3,h4,h5⟩ hw hok
  have hok' : L.length ≤ 10000 := hok
  have hl := Heap.lt_of_get h1
  have hc := Heap.lt_of_get h2
  refine RC.mono (fun v H' h => ?_) (RC.keeps (round_all hK (Q := fun v H' => v = .bool true ∧ ∃ D',Jc l c2 (mk 24 f) [13,14] asg75 body75 3 cellsP ty (L ++ [(q,t)]) D' H' ∧ Mvd H H' (fun x => x = l ∨ x = c2 ∨ bo = some x) D') rfl h1 ?_))
  ·exact h.1
  show wpC K DrawD (some l) asg75 _ (((mk 24 f).set 13 (pcV q t)).set 14 (.int .i64 0)) H
  rw [show (mk 24 f).set 13 (pcV q t) = mk 24 (upv f 13 (pcV q t)) from put_mk 24 f 13 _,show (mk 24 (upv f 13 (pcV q t))).set 14 (.int .i64 0) = mk 24 (upv (upv f 13 (pcV q t)) 14 (.int .i64 0)) from put_mk 24 _ 14 _]
  have ea : ∀ (X : AExit → List Value → Heap → Prop) (E : List Value) (H : Heap),wpC K DrawD (some l) asg75 X E H = wpC K DrawD (some l) (.seq (.ops [⟨some 8,.new [(.bool false),(.bool false),(.string ⟨#[]⟩)] 103,none⟩,
    ⟨none,.store (.tmp 8) (.tmp 13) 3,none⟩])
   (.ops [⟨some 9,.mv (.tmp 14),none⟩])) X E H := fun _ _ _ => rfl
  have eb : ∀ (X : AExit → List Value → Heap → Prop) (E : List Value) (H : Heap),wpC K DrawD (some l) body75 X E H = wpC K DrawD (some l) (.block 1
    (.seq (.seq (.ops [⟨some 15,.mv (.tmp 9),none⟩,
     ⟨some 16,.eqv true (.scalar .int) (.tmp 15) (.const (.int .i64 0)),none⟩])
    (.cond (.tmp 16)
     (.seq (.ops [⟨some 17,.mv (.tmp 9),none⟩,
      ⟨none,.store (.tmp 6) (.const (.slice none 0 0)) 1,none⟩,
      ⟨none,.store (.tmp 7) (.tmp 17) 1,none⟩])
     (.exit 0))
     .skip))
    (.ops [⟨some 18,.load (.tmp 6) none,none⟩,
     ⟨some 19,.load (.tmp 8) (some 3),none⟩,
     ⟨some 20,.mkslice 1 3 [(.bool false),(.bool false),(.string ⟨#[]⟩)] [(0,3,.tmp 19)],none⟩,
     ⟨some 21,.app (.tmp 18) (.tmp 20) 3 103,none⟩,
     ⟨none,.store (.tmp 6) (.tmp 21) 1,none⟩]))) X E H := fun _ _ _ => rfl
  rw [ea]
  unfold pcV
  simp -implicitDefEqProofs (maxSteps := 1000000) (disch := first | omega | (simp -implicitDefEqProofs only [wH]; done) | (simp -implicitDefEqProofs only [wH]; omega)) only [↓wD,wU,↓reduceIte,reduceLT,reduceEqDiff,reduceSub,reduceAdd,reduceLeDiff]
  refine ⟨h1,?_⟩
  rw [eb]
  generalize hB : some (Lp .busy none (mk 24 f) [13,14] asg75 body75) = oB
  have cs : cellsAt ((H.push (.row [.bool false,.bool q,.string t] 0 (some 103))).set l oB) H.next 0 3 = some [.bool false,.bool q,.string t] := by
   rw [cellsAt_row,rowOf,Heap.get_set_ne _ _ (by omega),Heap.get_push_same]; rfl
  have cc : cellAt ((H.push (.row [.bool false,.bool q,.string t] 0 (some 103))).set l oB) c2 0 = some v := by
   rw [cellAt_row,rowOf,Heap.get_set_ne _ _ (Ne.symm hne),Heap.get_push_ne _ _ (by omega),h2]; rfl
  simp -implicitDefEqProofs (maxSteps := 1000000) (disch := first | omega | (simp -implicitDefEqProofs only [wH]; done) | (simp -implicitDefEqProofs only [wH]; omega)) only [↓wD,wU,↓reduceIte,reduceLT,reduceEqDiff,reduceSub,reduceAdd,reduceLeDiff,f2,cs,cc,decide_true]
  generalize hG : (H.push (.row [.bool false,.bool q,.string t] 0 (some 103))).set l oB = G at cs cc ⊢
  have gG : ∀ x,x < H.next → x ≠ l → G.get x = H.get x := fun x hx hn => by rw [← hG,Heap.get_set_ne _ _ (Ne.symm hn),Heap.get_push_ne _ _ (by omega)]
  have nG : G.next = H.next + 1 := by rw [← hG]; simp
  have wG : G.wf := by rw [← hG]; exact Heap.wf_set _ _ (Heap.wf_push _ hw)
  have lG : G.get l = oB := by rw [← hG]; exact Heap.get_set_same _ _ (by rw [Heap.get_push_ne _ _ (by omega)]; exact h1)
  have hlt := h3.lt
  refine wpItems_appO (xs := [.bool false,.bool q,.string t]) (m := 1) v (h3.frame fun x hx => gG x (hlt x hx) (fun e => h4 (by rw [hx,e]))) (by simp -implicitDefEqProofs (maxSteps := 1000000) (disch := first | omega | (simp -implicitDefEqProofs only [wH]; done) | (simp -implicitDefEqProofs only [wH]; omega)) only [↓wD,wU,↓reduceIte,reduceLT,reduceEqDiff,reduceSub,reduceAdd,reduceLeDiff]) (by simp -implicitDefEqProofs (maxSteps := 1000000) (disch := first | omega | (simp -implicitDefEqProofs only [wH]; done) | (simp -implicitDefEqProofs only [wH]; omega)) only [↓wD,wU,↓reduceIte,reduceLT,reduceEqDiff,reduceSub,reduceAdd,reduceLeDiff,nG]) rfl (by decide) (by unfold appMax; omega) fun c2' H3 h7 h8 h9 h10 => ?_
  have g3 : H3.get c2 = some (.row [v] 0 ty) := by rw [h8 c2 (by omega) h5,gG c2 hc hne]; exact h2
  have w3 := h10 wG
  have l3 : H3.get l = oB := by rw [h8 l (by omega) h4]; exact lG
  simp -implicitDefEqProofs (maxSteps := 1000000) (disch := first | omega | (simp -implicitDefEqProofs only [wH]; done) | (simp -implicitDefEqProofs only [wH]; omega)) only [↓wD,wU,↓reduceIte,reduceLT,reduceEqDiff,reduceSub,reduceAdd,reduceLeDiff,f2,g3]
  have fr : ∀ (o1 o2 : Option AObj) x,x < H.next → ¬ (x = l ∨ x = c2 ∨ bo = some x) → ((H3.set c2 o1).set l o2).get x = H.get x := fun o1 o2 x hx hd => by
   rw [Heap.get_set_ne _ _ (fun e => hd (.inl e.symm)),Heap.get_set_ne _ _ (fun e => hd (.inr (.inl e.symm))),h8 x (by omega) (fun e => hd (.inr (.inr e))),gG x hx (fun e => hd (.inl e))]
  have s3 : (H3.set c2 (some (.row [.slice (some ⟨G.next + 1,0,some 3⟩) (L.length + 1) c2'] 0 ty))).get l = oB := by rw [Heap.get_set_ne _ _ hne]; exact l3
  refine ⟨s3,fun x => x = l ∨ x = c2 ∨ some (G.next + 1) = some x,⟨.slice (some ⟨G.next + 1,0,some 3⟩) (L.length + 1) c2',some (G.next + 1),rfl,?_,?_,?_,fun e => by cases e; omega,fun e => by cases e; omega⟩,⟨fun x hx hd => fr _ _ x hx hd,by simp; omega,fun x hx => ?_,Heap.wf_set _ _ (Heap.wf_set _ _ w3)⟩⟩
  ·exact Heap.get_set_same _ _ (by rw [s3,← hB])
  ·rw [Heap.get_set_ne _ _ (Ne.symm hne),Heap.get_set_same _ _ g3]
  ·rw [List.length_append,List.flatMap_append]
   simp only [List.flatMap_cons,List.flatMap_nil,List.append_nil]
   exact h7.frame fun x hx => by rw [Heap.get_set_ne _ _ (by cases hx; omega),Heap.get_set_ne _ _ (by cases hx; omega)]
  ·rcases hx with hx | hx | hx
   ·exact .inl (.inl hx)
   ·exact .inl (.inr (.inl hx))
   ·cases hx; exact .inr (by omega)
theorem c165 (hK : Cfg K) (hS : ExpIs K) {l wc : Nat} {J : List Pc → Names → Heap → Prop} (hY : Yd K l encE okP J) {D0 : Names} {w : ByteArray} {q : Nat → QS} {tyw : Option TypeId} {tv : Value} {Q : Value → Heap → Prop}
  (hw : H.wf) (hwc : H.get wc = some (.row [.string w] 0 tyw)) (hJ : J [] D0 H) (hr : Run q (bAt w) w.size) (hend : q w.size = .top) (hsz : w.size ≤ 10000)
  (hQ : ∀ H' L D',J L D' H' → Mvd H H' D0 D' → Fed q (bAt w) w.size L [] → Q (.tuple #[]) H') : FC K 165 [.func (.yield l) #[] #[],.pointer (some ⟨wc,0,none⟩),tv] H Q := by
 refine FC.of hK hS.i165 (by simp [F165]) ?_
 unfold F165
 have cw : cellAt H wc 0 = some (.string w) := by rw [cellAt_of hwc]; rfl
 simp -implicitDefEqProofs (maxSteps := 1000000) (disch := first | omega | (simp -implicitDefEqProofs only [wH]; done) | (simp -implicitDefEqProofs only [wH]; omega)) only [↓wD,wU,↓reduceIte,reduceLT,reduceEqDiff,reduceSub,reduceAdd,reduceLeDiff,cw]
 refine c166 hK hS.toLitIs hr hend hsz fun H1 v bo L hol hbo hA1 hn1 hw1 hF => ?_
 unfold Later
 obtain ⟨av,cv,rfl,hcv⟩ := hol.val
 have hbl := hol.lt
 have hlow := hY.low hJ
 have htxt : (L.flatMap fun a => a.2.data.toList).length ≤ 10000 := by
  have := hF.text
  rw [List.append_nil] at this
  rw [this]
  exact Nat.le_trans (dec_len _ _ _ _) hsz
 have hLl : L.length ≤ 10000 := by have := hF.len; simp at this; omega
 simp -implicitDefEqProofs (maxSteps := 1000000) (disch := first | omega | (simp -implicitDefEqProofs only [wH]; done) | (simp -implicitDefEqProofs only [wH]; omega)) only [↓wD,wU,↓reduceIte,reduceLT,reduceEqDiff,reduceSub,reduceAdd,reduceLeDiff]
 refine loop_ind (fun m E H' => ∃ (f : Nat → Value) (i : Nat) (D : Names),E = mk 41 f ∧ f 0 = .func (.yield l) #[] #[] ∧ f 4 = .int .i64 (((L.take i).flatMap fun a => a.2.data.toList).length : Nat) ∧ f 9 = .slice av L.length cv ∧ f 10 = .int .i64 (L.length : Nat) ∧ f 11 = .int .i64 (i : Nat) ∧ m + i = L.length + 1 ∧ i ≤ L.length ∧
  J (L.take i) D H' ∧ Mvd H1 H' D0 D) (n := L.length + 1) ?_ ?_
 ·exact ⟨_,0,D0,rfl,rfl,rfl,rfl,rfl,rfl,by omega,by omega,hY.loc hJ (fun x hx => hA1 x (hlow x hx)) hn1 hw1,.refl hw1⟩
 rintro I m E H' ⟨f,i,D,rfl,f0,f4,f9,f10,f11,hm,hi,hj,hM⟩ hI
 by_cases hik : (i : Int) < L.length
 ·obtain ⟨a,ha⟩ : ∃ a,L[i]? = some a := ⟨_,List.getElem?_eq_getElem (by omega)⟩
  have hol' : OwO H' bo (.slice av L.length cv) 3 L.length (L.flatMap cellsP) := hol.frame fun x hx => hM.get x (hbl x hx) (fun e => by have := hlow x e; have := hbo x hx; omega)
  obtain ⟨b',c',rest,ty,rfl,e2,e3,e4,e5,e6⟩ := hol'.real (by omega)
  cases e2
  have hcs := flat_cells (sz := 3) (fun a => rfl) ha e4
  unfold cellsP at hcs
  have tk : L.take (i + 1) = L.take i ++ [a] := by rw [List.take_succ,ha]; rfl
  have hsum : ((L.take (i + 1)).flatMap fun a => a.2.data.toList).length = ((L.take i).flatMap fun a => a.2.data.toList).length + a.2.size := by
   rw [tk,List.flatMap_append,List.length_append]
   simp [size_data]
  have hle : ((L.take (i + 1)).flatMap fun a => a.2.data.toList).length ≤ 10000 := by
   refine Nat.le_trans ?_ htxt
   conv => rhs; rw [← List.take_append_drop (i + 1) L,List.flatMap_append,List.length_append]
   omega
  have hgt : ¬ 1048576 < ((((L.take i).flatMap fun a => a.2.data.toList).length : Nat) : Int) + ((a.2.size : Nat) : Int) := by omega
  simp -implicitDefEqProofs (maxSteps := 1000000) (disch := first | omega | (simp -implicitDefEqProofs only [wH]; done) | (simp -implicitDefEqProofs only [wH]; omega)) only [↓wD,wU,↓reduceIte,reduceLT,reduceEqDiff,reduceSub,reduceAdd,reduceLeDiff,f0,f4,f9,f10,f11,hik,decide_true,decide_false,hcs,hgt,cells_self3]
  refine ⟨by omega,?_⟩
  have hlo := hY.low hj
  refine RC.mono (fun v5 H5 h5 => ?_) (hY.step (a := a) (hY.loc hj (fun x hx => Heap.get_push_ne _ _ (Nat.ne_of_lt (hlo x hx))) (by simp) (Heap.wf_push _ hM.wf)) (Heap.wf_push _ hM.wf) (show (L.take i).length ≤ 10000 by rw [List.length_take]; omega))
  obtain ⟨rfl,D5,j5,m5⟩ := h5
  unfold Later
  simp -implicitDefEqProofs (maxSteps := 1000000) (disch := first | omega | (simp -implicitDefEqProofs only [wH]; done) | (simp -implicitDefEqProofs only [wH]; omega)) only [↓wD,wU,↓reduceIte,reduceLT,reduceEqDiff,reduceSub,reduceAdd,reduceLeDiff,f0,f4,f9,f10,f11]
  refine hI _ _ _ (show m - 1 < m by omega) ?_
  refine ⟨_,i + 1,D5,rfl,f0,?_,f9,f10,rfl,by omega,by omega,by rw [tk]; exact j5,?_⟩
  ·show Value.int .i64 _ = _
   rw [hsum]; rfl
  ·refine Mvd.trans hM ⟨fun x hx hd => ?_,?_,fun x hx => ?_,m5.wf⟩
   ·rw [m5.get x (by simp; omega) hd,Heap.get_push_ne _ _ (by omega)]
   ·have := m5.next; simp at this; omega
   ·rcases m5.new x hx with e | e
    ·exact .inl e
    ·simp at e; exact .inr (by omega)
 ·have e0 : i = L.length := by omega
  subst e0
  rw [List.take_length] at hj
  simp -implicitDefEqProofs (maxSteps := 1000000) (disch := first | omega | (simp -implicitDefEqProofs only [wH]; done) | (simp -implicitDefEqProofs only [wH]; omega)) only [↓wD,wU,↓reduceIte,reduceLT,reduceEqDiff,reduceSub,reduceAdd,reduceLeDiff,f0,f4,f9,f10,f11,hik,decide_false]
  refine hQ _ L D hj ⟨fun x hx hd => by rw [hM.get x (by omega) hd,hA1 x hx],by have := hM.next; omega,fun x hx => ?_,hM.wf⟩ hF
  rcases hM.new x hx with e | e
  ·exact .inl e
  ·exact .inr (by omega)
theorem c75 (hK : Cfg K) (hS : ExpIs K) {w : ByteArray} {q : Nat → QS} {tb : Nat} {Q : Value → Heap → Prop} (hr : Run q (bAt w) w.size) (hend : q w.size = .top) (hsz : w.size ≤ 10000)
  (hQ : ∀ H' v bo L,OwO H' bo v 3 L.length (L.flatMap cellsP) → (∀ x,bo = some x → H.next ≤ x) → Agree H.next H H' → H.next ≤ H'.next → H'.wf → Fed q (bAt w) w.size L [] → Q (.tuple #[v,.int .i64 0]) H') : FC K 75 [.pointer (some ⟨tb,0,none⟩),.string w] H Q := by
 refine FC.wf0 fun hw => ?_
 refine FC.of hK hS.i75 (by simp [F75]) ?_
 unfold F75
 simp -implicitDefEqProofs (maxSteps := 1000000) (disch := first | omega | (simp -implicitDefEqProofs only [wH]; done) | (simp -implicitDefEqProofs only [wH]; omega)) only [↓wD,wU,↓reduceIte,reduceLT,reduceEqDiff,reduceSub,reduceAdd,reduceLeDiff]
 refine FC.of hK hS.i116 (by simp [F116]) ?_
 unfold F116
 simp -implicitDefEqProofs (maxSteps := 1000000) (disch := first | omega | (simp -implicitDefEqProofs only [wH]; done) | (simp -implicitDefEqProofs only [wH]; omega)) only [↓wD,wU,↓reduceIte,reduceLT,reduceEqDiff,reduceSub,reduceAdd,reduceLeDiff]
 unfold Later
 simp -implicitDefEqProofs (maxSteps := 1000000) (disch := first | omega | (simp -implicitDefEqProofs only [wH]; done) | (simp -implicitDefEqProofs only [wH]; omega)) only [↓wD,wU,↓reduceIte,reduceLT,reduceEqDiff,reduceSub,reduceAdd,reduceLeDiff,wpC_rfunc,callR_func]
 refine ⟨by simp,hS.i165.isFn,?_⟩
 generalize hf : (upv (upv (upv (upv (upv (upv (upv (upv (argf [Value.pointer (some ⟨tb,0,none⟩),Value.string w]) 4 (Value.slice none 0 0)) 5 (Value.int IntKind.i64 0)) 6 (Value.pointer (some ⟨H.next,0,none⟩))) 7 (Value.pointer (some ⟨H.next + 1,0,none⟩))) 24 undef) 10 (Value.pointer (some ⟨tb,0,none⟩))) 11 (Value.string w)) 12 (Value.func (Fn.func 165) #[] #[Value.pointer (some ⟨H.next + 3,0,none⟩),Value.pointer (some ⟨H.next + 2,0,none⟩)])) = f
 have f6 : f 6 = .pointer (some ⟨H.next,0,none⟩) := by rw [← hf]; rfl
 have f7 : f 7 = .pointer (some ⟨H.next + 1,0,none⟩) := by rw [← hf]; rfl
 have w1 := Heap.wf_push (.row [.slice none 0 0] 0 (some 67)) hw
 have w2 := Heap.wf_push (.row [.int .i64 0] 0 (some 32)) w1
 have w3 := Heap.wf_push (.row [.pointer (some ⟨tb,0,none⟩)] 0 (some 62)) w2
 have w4 := Heap.wf_push (.row [.string w] 0 (some 9)) w3
 generalize hG : (((H.push (.row [.slice none 0 0] 0 (some 67))).push (.row [.int .i64 0] 0 (some 32))).push (.row [.pointer (some ⟨tb,0,none⟩)] 0 (some 62))).push (.row [.string w] 0 (some 9)) = G at w4 ⊢
 have nG : G.next = H.next + 4 := by rw [← hG]; rfl
 have g0 : G.get H.next = some (.row [.slice none 0 0] 0 (some 67)) := by rw [← hG,Heap.get_push_ne _ _ (by simp only [Heap.next_push]; omega),Heap.get_push_ne _ _ (by simp only [Heap.next_push]; omega),Heap.get_push_ne _ _ (by simp only [Heap.next_push]; omega),Heap.get_push_same]
 have g1 : G.get (H.next + 1) = some (.row [.int .i64 0] 0 (some 32)) := by rw [← hG,Heap.get_push_ne _ _ (by simp only [Heap.next_push]; omega),Heap.get_push_ne _ _ (by simp only [Heap.next_push]; omega)]; exact Heap.get_push_same (H.push _) _
 have g3 : G.get (H.next + 3) = some (.row [.string w] 0 (some 9)) := by rw [← hG]; exact Heap.get_push_same (((H.push _).push _).push _) _
 have gH : Agree H.next H G := fun x hx => by rw [← hG,Heap.get_push_ne _ _ (by simp only [Heap.next_push]; omega),Heap.get_push_ne _ _ (by simp only [Heap.next_push]; omega),Heap.get_push_ne _ _ (by simp only [Heap.next_push]; omega),Heap.get_push_ne _ _ (by omega)]
 rw [← nG]
 refine c165 hK hS (J := Jc G.next H.next (mk 24 f) [13,14] asg75 body75 3 cellsP (some 67)) (yd75 hK f6 (by omega)) (D0 := fun x => x = G.next ∨ x = H.next ∨ none = some x) (Heap.wf_push _ w4) (Heap.get_push_old g3)
  ⟨_,none,rfl,Heap.get_push_same _ _,Heap.get_push_old g0,⟨rfl,rfl,rfl⟩,by simp,by simp⟩ hr hend hsz fun H' L D' hJ hM hF => ?_
 obtain ⟨v,bo,rfl,h1,h2,h3,h4,h5⟩ := hJ
 refine end_all h1 ?_
 have hn' := hM.next
 simp only [Heap.next_push] at hn'
 have c0 : cellAt (H'.set G.next none) H.next 0 = some v := by rw [cellAt_set_ne (by omega),cellAt_of h2]; rfl
 have c1 : cellAt (H'.set G.next none) (H.next + 1) 0 = some (.int .i64 0) := by
  rw [cellAt_set_ne (by omega),cellAt_of (b := H.next + 1) (cs := [.int .i64 0]) (fz := 0) (ty := some 32)]
  ·rfl
  ·rw [hM.get _ (by simp; omega) (by simp; omega)]; exact Heap.get_push_old g1
 simp -implicitDefEqProofs (maxSteps := 1000000) (disch := first | omega | (simp -implicitDefEqProofs only [wH]; done) | (simp -implicitDefEqProofs only [wH]; omega)) only [↓wD,wU,↓reduceIte,reduceLT,reduceEqDiff,reduceSub,reduceAdd,reduceLeDiff,f6,f7,c0,c1]
 refine hQ _ v bo L (h3.frame fun x hx => Heap.get_set_ne _ _ (fun e => h4 (by rw [hx,e]))) (fun x hx => ?_) (fun x hx => ?_) (by simp; omega) (Heap.wf_set _ _ hM.wf) hF
 ·rcases hM.new x (.inr (.inr hx)) with e | e
  ·rcases e with e | e | e
   ·omega
   ·omega
   ·cases e
  ·simp at e; omega
 ·rw [Heap.get_set_ne _ _ (by omega),hM.get x (by simp; omega) (by simp; omega),Heap.get_push_ne _ _ (by omega),gH x hx]
end
end Go.Ae
