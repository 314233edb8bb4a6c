/- Part 33 of the proof of the law: Ae32, Ae33, Ae34, Ae35, Ae36. No condition. -/
import Derived.Test.YtalflgbdhjjlkaaGreatDoorP32
import Derived.Maps.RangeRun
set_option linter.all false
namespace Go.Ae
open Go
open Go.ChangeMaps (setBlock)
theorem itemsR_of2 {K : Cx} {ops : Array Oper} : ∀ (l : List Oper) (k : Nat) (its : List AItem),(∀ (j : Nat),j < l.length → l[j]? = ops[k + j]?) → compItems K.P K.G0 ops l = some its → ItemsR K ops ((List.range l.length).map (k + ·)) its
 | [],k,its,_,h => by simp [compItems] at h; subst h; exact .nil
 | o :: l,k,its,hl,h => by
  unfold compItems at h
  split at h
  ·rename_i it its' h1 h2
   cases h
   unfold compItem at h1
   split at h1
   ·rename_i g hg
    cases h1
    have hop : compOp K.P K.G0 o.op = some ((compOp K.P K.G0 o.op).getD .stop) ∨ (compOp K.P K.G0 o.op).getD .stop = .stop := by
     cases compOp K.P K.G0 o.op with
     | none => exact .inr rfl
     | some op => exact .inl rfl
    rw [List.length_cons,List.range_succ_eq_map]
    simp only [List.map_cons,List.map_map,Nat.add_zero]
    refine .cons (o := o) ?_ hop hg rfl ?_
    ·have := hl 0 (by simp); simpa using this.symm
    ·have := itemsR_of2 l (k + 1) its' (fun j hj => by have := hl (j + 1) (by simpa using hj); simpa [Nat.add_assoc,Nat.add_comm 1 j] using this) h2
     have e : ((fun x => k + x) ∘ Nat.succ) = (fun x => k + 1 + x) := by funext x; simp; omega
     rw [e]; exact this
   ·cases h1
  ·cases h
theorem own_step {K : Cx} {rn : Option Nat} {n0 : Nat} {ρ : Nm} {E : List Value} {H : Heap} {w w' : World} {a : Act} {l' : Option Nat} (hat : At K rn n0 ρ E H w a l')
  {ops : Array Oper} {i : Nat} {rest : List Nat} {o : Oper} (ho : ops[i]? = some o) (hg : guardTmp ops o = some none) (hnd : ∀ c,o.op ≠ .defer c) {v : Value} (hrun : (execOp a.eval o).run K.P w = .ok (.value v) w')
  (b : Frame) (k : List Item) (cs : List Frame) : St' K l' (lone (b.atR a (.inRegion ops (i :: rest) :: k)) cs w) (lone (b.atR (a.put o.dst v) (.inRegion ops rest :: k)) cs w') := by
 have hw1 : Region.wanted o (yielded ops a.tmps) = true := wanted_rel hat.env hg
 have st1 := stepGR_op (P := K.P) (b := b) (a := a) (k := k) (cs := cs) (w := w) (rest := rest) ho hw1
 rw [Oper.semAt_eq _ _ _ hnd] at st1
 have fin1 : (b.atR a (.inRegion ops (i :: rest) :: k)).finish v = b.atR (a.put o.dst v) (.inRegion ops rest :: k) := by
  rw [Frame.finish_atR,ho]; rfl
 exact .one (FX_fenced _ _ _) (step_lone_go (by rw [st1,← fin1]; simp [stepG.apply,hrun]))
theorem cs_seq {K : Cx} {rn : Option Nat} {x y : Code} {Q : AExit → List Value → Heap → Prop} {E : List Value} {H : Heap} (h : CS K rn x (thenA (CS K rn y Q) Q) E H) : CS K rn (.seq x y) Q E H := by
 intro n0 ρ w a l' hat
 refine comes_wpIn.2 (wpIn_seq (wpIn_mono (comes_wpIn.1 (h n0 ρ w a l' hat)) fun e a1 w1 hq => ?_))
 cases e with
 | normal =>
  obtain ⟨ρ1,H1,E1,q1,s1,r1,e1,m1⟩ := hq
  exact comes_wpIn.1 (CS.from (q1 : CS K rn y Q E1 H1) s1 ⟨r1,e1,m1,Nat.le_trans hat.n0 s1.size,hat.round.mono s1.ext⟩)
 | exit id => exact hq
 | ret => exact hq
 | goto l => exact hq
 | panic c => exact hq
 | outgrown => exact hq
def Seen (es' : Array MapEntry) (idxs : List Nat) (seen : Array Nat) : Prop := seen.toList.map some = idxs.map fun i => es'[i]?.map (·.born)
structure MI (K : Cx) (rn : Option Nat) (n0 : Nat) (l' : Option Nat) (ρm : Nm) (Hm : Heap) (wm : World) (N bm cit : Nat) (es' : Array MapEntry) (clock : Nat) (idxs : List Nat) (ρ : Nm) (E : List Value) (H : Heap) (w : World) (a : Act) : Prop where
 at_ : At K rn n0 ρ E H w a l'
 st : Step ρm Hm wm ρ H w
 hc : wm.heap.size ≤ cit
 hN : N < H.next
 gN : H.get N = none
 rN : ρ N = .live cit 0 0
 iter : ∃ seen,Seen es' idxs seen ∧ w.heap[cit]? = some (.mapIter (some bm) clock seen clock)
 nit : ¬ Img ρ H cit
 hmap : w.heap[bm]? = some (.map es' clock)
 nmap : ¬ Img ρ H bm
theorem lt_of_get {w : World} {c : Nat} {o : Obj} (h : w.heap[c]? = some o) : c < w.heap.size := by
 rcases Nat.lt_or_ge c w.heap.size with hl | hl
 ·exact hl
 ·rw [Array.getElem?_eq_none hl] at h; cases h
theorem MI.step {K : Cx} {rn : Option Nat} {n0 : Nat} {l' : Option Nat} {ρm : Nm} {Hm : Heap} {wm : World} {N bm cit : Nat} {es' : Array MapEntry} {clock : Nat} {idxs : List Nat} {ρ : Nm} {E : List Value} {H : Heap} {w : World} {a : Act}
  (h : MI K rn n0 l' ρm Hm wm N bm cit es' clock idxs ρ E H w a) {ρ' : Nm} {E' : List Value} {H' : Heap} {w' : World} {a' : Act} (hat : At K rn n0 ρ' E' H' w' a' l') (s : Step ρ H w ρ' H' w') :
  MI K rn n0 l' ρm Hm wm N bm cit es' clock idxs ρ' E' H' w' a' := by
 obtain ⟨seen,i2,i3⟩ := h.iter
 obtain ⟨k1,k2⟩ := s.keeps cit (lt_of_get i3) h.nit
 obtain ⟨k3,k4⟩ := s.keeps bm (lt_of_get h.hmap) h.nmap
 obtain ⟨k5,k6⟩ := s.hid N h.hN h.gN
 exact ⟨hat,h.st.trans s,h.hc,Nat.lt_of_lt_of_le h.hN s.next,k6,k5.trans h.rN,⟨seen,i2,by rw [k1]; exact i3⟩,k2,by rw [k3]; exact h.hmap,k4⟩
theorem MI.turn {K : Cx} {rn : Option Nat} {n0 : Nat} {l' : Option Nat} {ρm : Nm} {Hm : Heap} {wm : World} {N bm cit : Nat} {es' : Array MapEntry} {clock : Nat} {idxs idxs' : List Nat} {ρ : Nm} {E : List Value} {H : Heap} {w : World} {a : Act}
  (h : MI K rn n0 l' ρm Hm wm N bm cit es' clock idxs ρ E H w a) {w1 : World} (hw1 : w1 = w ∨ w1 = w.drew) {seen1 : Array Nat} (hs1 : Seen es' idxs' seen1) :
  MI K rn n0 l' ρm Hm wm N bm cit es' clock idxs' ρ E H (setBlock w1 cit (.mapIter (some bm) clock seen1 clock)) a := by
 obtain ⟨seen,i2,i3⟩ := h.iter
 have hheap : (setBlock w1 cit (.mapIter (some bm) clock seen1 clock)).heap = w.heap.setIfInBounds cit (.mapIter (some bm) clock seen1 clock) := by rcases hw1 with rfl | rfl <;> rfl
 have hsize : (setBlock w1 cit (.mapIter (some bm) clock seen1 clock)).heap.size = w.heap.size := by rw [hheap,Array.size_setIfInBounds]
 have hother : ∀ c,c ≠ cit → (setBlock w1 cit (.mapIter (some bm) clock seen1 clock)).heap[c]? = w.heap[c]? := fun c hc => by
  rw [hheap,Array.getElem?_setIfInBounds_ne (Ne.symm hc)]
 have hsame : (setBlock w1 cit (.mapIter (some bm) clock seen1 clock)).heap[cit]? = some (.mapIter (some bm) clock seen1 clock) := by
  rw [hheap,Array.getElem?_setIfInBounds_self_of_lt (lt_of_get i3)]
 have hos : (setBlock w1 cit (.mapIter (some bm) clock seen1 clock)).os = w.os ∧ (setBlock w1 cit (.mapIter (some bm) clock seen1 clock)).tape = w.tape ∧ (setBlock w1 cit (.mapIter (some bm) clock seen1 clock)).output = w.output := by
  rcases hw1 with rfl | rfl <;> exact ⟨rfl,rfl,rfl⟩
 have hbm : bm ≠ cit := fun e => by have := h.hmap; rw [e,i3] at this; cases this
 generalize (setBlock w1 cit (.mapIter (some bm) clock seen1 clock)) = w2 at *
 have hr : Rel K ρ H w2 := by
  refine ⟨fun b o hb => ?_,h.at_.rel.fresh,h.at_.rel.inj,by rw [hsize]; exact h.at_.rel.base,h.at_.rel.wf,h.at_.rel.glob⟩
  obtain ⟨c,base,size,g1,g2⟩ := h.at_.rel.objs b o hb
  have hne : c ≠ cit := fun e => by rw [e,i3] at g2; cases g2
  exact ⟨c,base,size,g1,by rw [hother c hne]; exact g2⟩
 refine ⟨⟨hr,h.at_.env,?_,by rw [hsize]; exact h.at_.n0,h.at_.round⟩,⟨h.st.ext,h.st.next,h.st.hid,by rw [hsize]; exact h.st.size,fun c hc hi => ?_,hos.1.trans h.st.os,hos.2.1.trans h.st.tape,hos.2.2.trans h.st.output⟩,
  h.hc,h.hN,h.gN,h.rN,⟨seen1,hs1,hsame⟩,h.nit,by rw [hother bm hbm]; exact h.hmap,h.nmap⟩
 ·obtain ⟨rs,m1,m2,m3⟩ := h.at_.marks
  refine ⟨rs,m1,m2,fun r hm => ?_⟩
  obtain ⟨g1,g2⟩ := m3 r hm
  have hne : r ≠ cit := fun e => by rw [e,i3] at g2; cases g2
  exact ⟨g1,by rw [hother r hne]; exact g2⟩
 ·obtain ⟨k1,k2⟩ := h.st.keeps c hc hi
  have hne : c ≠ cit := by have := h.hc; omega
  exact ⟨(hother c hne).trans k1,k2⟩
theorem rises_nodup : ∀ (l : List MapEntry),bornRises l → (l.map (·.born)).Nodup
 | [],_ => List.nodup_nil
 | e :: r,h => by
  rw [List.map_cons,List.nodup_cons]
  refine ⟨fun hm => ?_,rises_nodup r h.2⟩
  obtain ⟨x,hx,e1⟩ := List.mem_map.1 hm
  have := h.1 x hx
  omega
theorem born_place {es' : Array MapEntry} (hr : bornRises es'.toList) {i j : Nat} {x y : MapEntry} (hx : es'[i]? = some x) (hy : es'[j]? = some y) (h : x.born = y.born) : i = j := by
 have hn := rises_nodup _ hr
 have h1 : (es'.toList.map (·.born))[i]? = some x.born := by simp [hx]
 have h2 : (es'.toList.map (·.born))[j]? = some y.born := by simp [hy]
 have li : i < (es'.toList.map (·.born)).length := (List.getElem?_eq_some_iff.1 h1).1
 rw [← h] at h2
 exact (List.getElem?_inj li hn).1 (h1.trans h2.symm)
theorem Seen.push {es' : Array MapEntry} {idxs : List Nat} {seen : Array Nat} (h : Seen es' idxs seen) {i : Nat} {x : MapEntry} (hx : es'[i]? = some x) : Seen es' (idxs ++ [i]) (seen.push x.born) := by
 unfold Seen at *
 simp [h,hx]
theorem Seen.not {es' : Array MapEntry} {idxs : List Nat} {seen : Array Nat} (h : Seen es' idxs seen) {i : Nat} {x : MapEntry} (hx : es'[i]? = some x) (hn : seen.contains x.born = false) : i ∉ idxs := fun hm => by
 unfold Seen at h
 have : some x.born ∈ seen.toList.map some := by rw [h]; exact List.mem_map.2 ⟨i,hm,by rw [hx]; rfl⟩
 obtain ⟨y,hy,e⟩ := List.mem_map.1 this
 cases e
 have : seen.contains x.born = true := by simpa using hy
 rw [hn] at this; cases this
theorem Seen.all {es' : Array MapEntry} {idxs : List Nat} {seen : Array Nat} (h : Seen es' idxs seen) (hr : bornRises es'.toList) (h0 : (leftOf es' seen).size = 0) {i : Nat} (hi : i < es'.size) : i ∈ idxs := by
 have h1 := all_seen es' seen h0 es'[i] (by simp)
 have h2 : es'[i].born ∈ seen := by simpa using h1
 unfold Seen at h
 have h3 : some es'[i].born ∈ idxs.map fun i => es'[i]?.map (·.born) := by rw [← h]; exact List.mem_map.2 ⟨_,by simpa using h2,rfl⟩
 obtain ⟨j,hj,e⟩ := List.mem_map.1 h3
 cases hx : es'[j]? with
 | none => rw [hx] at e; cases e
 | some y =>
  rw [hx] at e
  have e' : y.born = es'[i].born := by simpa using e
  have := born_place hr hx (Array.getElem?_eq_getElem hi) e'
  exact this ▸ hj
theorem Seen.same {es' : Array MapEntry} {idxs : List Nat} {s1 s2 : Array Nat} (h1 : Seen es' idxs s1) (h2 : Seen es' idxs s2) : s1 = s2 := by
 unfold Seen at *
 have : s1.toList.map some = s2.toList.map some := h1.trans h2.symm
 exact Array.toList_inj.1 ((List.map_inj_right fun x y h => Option.some.inj h).1 this)
theorem Seen.last {es' : Array MapEntry} {idxs : List Nat} {seen : Array Nat} {i : Nat} {x : MapEntry} (h : Seen es' (idxs ++ [i]) seen) (hx : es'[i]? = some x) : ∃ s0,Seen es' idxs s0 ∧ seen = s0.push x.born := by
 unfold Seen at *
 rw [List.map_append,List.map_cons,List.map_nil,hx,Option.map_some] at h
 obtain ⟨l1,l2,e1,e2,e3⟩ := List.map_eq_append_iff.1 h
 obtain ⟨y,l3,rfl,e4,e5⟩ := List.map_eq_cons_iff.1 e3
 have : l3 = [] := by simpa using e5
 subst this
 cases e4
 exact ⟨l1.toArray,by simpa using e2,by apply Array.toList_inj.1; simp [e1]⟩
def ptrTo0 (N : Nat) : Value := .pointer (some ⟨N,0,none⟩)
def MP (K : Cx) (it tn tc te : Tmp) (tmm : Operand) (itsB itsC itsD : List AItem) (Q : List Value → Heap → Prop) (E : List Value) (H : Heap) : Prop :=
 ∃ mb es,ev E tmm = .map (some mb) ∧ H.get mb = some (.map es) ∧
  ∃ I : List Nat → List Value → Heap → Prop,I [] (put E (some it) (ptrTo0 H.next)) ((H.set mb none).reserve 1) ∧
  ∀ idxs E1 H1,I idxs E1 H1 → ev E1 (.tmp it) = ptrTo0 H.next ∧
    (idxs.Nodup → (∀ j ∈ idxs,j < es.length) → ∀ i e,es[i]? = some e → i ∉ idxs →
     wpItems K itsB (fun E2 H2 => ev E2 (.tmp tc) = .bool true ∧ ev E2 (.tmp it) = ptrTo0 H.next ∧
      wpItems K itsC (wpItems K itsD (I (idxs ++ [i]))) (put E2 (some te) (.tuple #[e.1,e.2])) H2) (put E1 (some tn) (.tuple #[.bool true,e.1,e.2])) H1) ∧
    (idxs.Nodup → (∀ j,j ∈ idxs ↔ j < es.length) →
     wpItems K itsB (fun E2 H2 => ev E2 (.tmp tc) = .bool false ∧ Q E2 (H2.set mb (some (.map es)))) (put E1 (some tn) (.tuple #[.bool false])) H1)
structure MCode (P : Program) (G0 : Nat) (it tn te : Tmp) (tmm : Operand) (opsA opsB opsC opsD : Array Oper) (nA nB nC : Nat) (itsA itsB itsC itsD : List AItem) : Prop where
 a1 : opsA.size = nA + 1
 a2 : compItems P G0 opsA (opsA.toList.take nA) = some itsA
 a3 : ∃ o t k e,opsA[nA]? = some o ∧ o.op = .range t tmm ∧ o.dst = some it ∧ guardTmp opsA o = some none ∧ P.underlying t = some (.map k e) ∧ okOpd G0 tmm = true
 b1 : opsB.size = nB + 1
 b2 : ∃ o,opsB[0]? = some o ∧ o.op = .next (.tmp it) false ∧ o.dst = some tn ∧ guardTmp opsB o = some none
 b3 : compItems P G0 opsB (opsB.toList.drop 1) = some itsB
 c1 : opsC.size = nC + 1
 c2 : ∃ o,opsC[0]? = some o ∧ o.op = .entry (.tmp it) ∧ o.dst = some te ∧ guardTmp opsC o = some none
 c3 : compItems P G0 opsC (opsC.toList.drop 1) = some itsC
 d : compItems P G0 opsD opsD.toList = some itsD
theorem region_comes {K : Cx} {l' : Option Nat} {id : Nat} {ops : Array Oper} {QN : Act → World → Prop} {a : Act} {w : World}
  (h : ∀ (b : Frame) (k : List Item) (cs : List Frame),b.roundOf = l' → ∃ a' w',QN a' w' ∧ St' K l' (lone (b.atR a (.inRegion ops (List.range ops.size) :: k)) cs w) (lone (b.atR a' k) cs w')) :
  Comes' K (fun e a' w' => e = .normal ∧ QN a' w') l' (.code (.region id ops false)) a w := by
 intro b k cs hb
 obtain ⟨a',w',q,s⟩ := h b k cs hb
 exact ⟨.normal,a',w',⟨rfl,q⟩,StepsIn.trans (.one (FX_fenced _ _ _) stepR_region) s⟩
theorem items_tail {K : Cx} {ops : Array Oper} {n : Nat} {its : List AItem} (h1 : ops.size = n + 1) (h : compItems K.P K.G0 ops (ops.toList.drop 1) = some its) :
  ∃ is,List.range ops.size = 0 :: is ∧ ItemsR K ops is its := by
 refine ⟨(List.range n).map (1 + ·),?_,?_⟩
 ·rw [h1,List.range_succ_eq_map]
  congr 1
  apply List.map_congr_left
  intro x _; omega
 ·have := itemsR_of2 (K := K) (ops := ops) (ops.toList.drop 1) 1 its (fun j hj => by simp [Nat.add_comm]) h
  have e : (ops.toList.drop 1).length = n := by simp [h1]
  rw [e] at this
  exact this
end Go.Ae
namespace Go.Ae
open Go
open Go.ChangeMaps (setBlock)
theorem map_inv {ρ : Nm} {b : Nat} {y : Value} (h : VR ρ (.map (some b)) y) : ∃ r,y = .map (some r) ∧ BR ρ b r := by
 cases h with | map h => exact ⟨_,rfl,h⟩
theorem mi_start {K : Cx} {rn : Option Nat} {n0 : Nat} {l' : Option Nat} {ρ : Nm} {E : List Value} {H : Heap} {w : World} {a : Act} (hat : At K rn n0 ρ E H w a l') {mb : Nat} {es : List (Value × Value)} (hm : H.get mb = some (.map es)) {r : Nat} (hbr : BR ρ mb r)
  {it : Tmp} : ∃ (es' : Array MapEntry) (clock : Nat),w.heap[r]? = some (.map es' clock) ∧ MapR ρ es es'.toList clock ∧ Rel K ρ (H.set mb none) w ∧
   ∀ a1 : Act,a1 = a.put (some it) (.pointer (some ⟨w.heap.size,0,none⟩)) →
   MI K rn n0 l' ρ (H.set mb none) w H.next r w.heap.size es' clock [] (setN ρ H.next (.live w.heap.size 0 0)) (put E (some it) (ptrTo0 H.next)) ((H.set mb none).reserve 1) (w.alloc (.mapIter (some r) clock #[] clock)) a1 := by
 have hlt := Heap.lt_of_get hm
 have hfree : Free (H.set mb none) mb := ⟨by simpa using hlt,Heap.get_set_same H none hm,Heap.wf_set _ _ hat.rel.wf⟩
 have hback : (H.set mb none).set mb (some (.map es)) = H := heap_hole hm
 have hrel : Rel K ρ (H.set mb none) w := rel_less (o := .map es) hfree (by rw [hback]; exact hat.rel)
 obtain ⟨c,base,size,hl,hobj⟩ := hat.rel.objs _ _ hm
 have er := hbr.2 c base size hl
 subst er
 generalize hX : w.heap[r]? = X at hobj
 cases hobj with
 | map hc hb hM =>
  rename_i es' clock
  have hr1 : r < w.heap.size := lt_of_get hX
  have hfr : ρ H.next = .fresh := hat.rel.fresh _ (Nat.le_refl _)
  have hni : ¬ Img ρ (H.set mb none) r := by
   rintro ⟨b,o,base',size',g1,g2,g3⟩
   rcases Heap.get_set_cases hm g1 with ⟨_,e⟩ | ⟨hne,g⟩
   ·cases e
   ·exact hne (hat.rel.inj _ _ _ _ _ _ _ _ _ g hm g2 rfl g3 hl)
  have hold : ∀ c,c < w.heap.size → (w.alloc (.mapIter (some r) clock #[] clock)).heap[c]? = w.heap[c]? := fun c hc => by
   show (w.heap.push _)[c]? = _
   rw [Array.getElem?_push,if_neg (by omega)]
  have hnew : (w.alloc (.mapIter (some r) clock #[] clock)).heap[w.heap.size]? = some (.mapIter (some r) clock #[] clock) := World.alloc_heap_new w _
  have hext : Ext ρ (setN ρ H.next (.live w.heap.size 0 0)) := Ext.setN hfr
  have himg : ∀ c,¬ Img ρ (H.set mb none) c → ¬ Img (setN ρ H.next (.live w.heap.size 0 0)) ((H.set mb none).reserve 1) c := by
   rintro c hn ⟨b,o,base',size',g1,g2,g3⟩
   rw [get_reserve] at g1
   have hne : b ≠ H.next := fun e => by
    have := Heap.lt_of_get g1
    rw [Heap.next_set] at this; omega
   rw [setN_ne _ _ hne] at g3
   exact hn ⟨b,o,base',size',g1,g2,g3⟩
  have hstep : Step ρ (H.set mb none) w (setN ρ H.next (.live w.heap.size 0 0)) ((H.set mb none).reserve 1) (w.alloc (.mapIter (some r) clock #[] clock)) := by
   refine ⟨hext,by rw [next_reserve]; omega,fun b hb hn => ⟨setN_ne _ _ (by rw [Heap.next_set] at hb; omega),by rw [get_reserve]; exact hn⟩,by simp,fun c hc hi => ⟨hold c hc,himg c hi⟩,rfl,rfl,rfl⟩
  have hR : Rel K (setN ρ H.next (.live w.heap.size 0 0)) ((H.set mb none).reserve 1) (w.alloc (.mapIter (some r) clock #[] clock)) := by
   refine ⟨fun b o hb => ?_,fun b hb => ?_,?_,by simp; have := hrel.base; omega,wf_reserve _ hrel.wf,fun g hg => ?_⟩
   ·rw [get_reserve] at hb
    obtain ⟨c,base',size',g1,g2⟩ := hrel.objs b o hb
    have hne : b ≠ H.next := fun e => by
     have := Heap.lt_of_get hb
     rw [Heap.next_set] at this; omega
    exact ⟨c,base',size',by rw [setN_ne _ _ hne]; exact g1,by rw [hold c g2.lt]; exact g2.mono hext⟩
   ·rw [next_reserve,Heap.next_set] at hb
    rw [setN_ne _ _ (by omega)]
    exact hat.rel.fresh b (by omega)
   ·intro b b' o o' c base1 base2 size1 size2 g1 g2 r1 r2 l1 l2
    rw [get_reserve] at g1 g2
    have n1 : b ≠ H.next := fun e => by
     have := Heap.lt_of_get g1
     rw [Heap.next_set] at this; omega
    have n2 : b' ≠ H.next := fun e => by
     have := Heap.lt_of_get g2
     rw [Heap.next_set] at this; omega
    rw [setN_ne _ _ n1] at l1
    rw [setN_ne _ _ n2] at l2
    exact hrel.inj b b' o o' c base1 base2 size1 size2 g1 g2 r1 r2 l1 l2
   ·have h1 := hat.rel.glob g hg
    have hne : g ≠ H.next := fun e => h1.1 (by rw [e]; exact hfr)
    rw [setN_ne _ _ hne]; exact h1
  refine ⟨es',clock,rfl,hM,hrel,fun a1 ha1 => ⟨⟨hR,?_,?_,?_,hat.round.mono hext⟩,hstep,Nat.le_refl _,by rw [next_reserve,Heap.next_set]; omega,?_,setN_same _ _ _,⟨#[],rfl,hnew⟩,?_,by rw [hold _ hr1]; exact hX,himg _ hni⟩⟩
  ·subst ha1
   exact put_rel (VRs.mono hext hat.env) (.ptr ⟨by rw [setN_same]; simp,fun c base size hlv => by rw [setN_same] at hlv; cases hlv; rfl⟩) (some it) a.defers
  ·subst ha1
   rw [put_defers]
   exact hat.marks.step hrel hstep
  ·simp; have := hat.n0; omega
  ·rw [get_reserve]
   exact Heap.get_ge (by simp)
  ·refine himg _ ?_
   rintro ⟨b,o,base',size',g1,g2,g3⟩
   obtain ⟨c,base2,size2,g4,g5⟩ := hrel.objs b o g1
   rw [g3] at g4; cases g4
   have := g5.lt; omega
theorem mi_end {K : Cx} {rn : Option Nat} {n0 : Nat} {l' : Option Nat} {ρ ρ' : Nm} {E E' : List Value} {H H' : Heap} {w w' : World} {a a' : Act} (hat : At K rn n0 ρ E H w a l') {mb : Nat} {es : List (Value × Value)} (hm : H.get mb = some (.map es))
  (hr' : Rel K ρ' H' w') (s : Step ρ (H.set mb none) w ρ' H' w') : Rel K ρ' (H'.set mb (some (.map es))) w' ∧ Step ρ H w ρ' (H'.set mb (some (.map es))) w' := by
 have hlt := Heap.lt_of_get hm
 have hfree : Free (H.set mb none) mb := ⟨by simpa using hlt,Heap.get_set_same H none hm,Heap.wf_set _ _ hat.rel.wf⟩
 have hback : (H.set mb none).set mb (some (.map es)) = H := heap_hole hm
 have := rel_more (o := .map es) hfree rfl (by rw [hback]; exact hat.rel) hr' s
 rw [hback] at this
 exact this
end Go.Ae
namespace Go.Ae
open Go
open Go.ChangeMaps (setBlock)
theorem eval_ptr {K : Cx} {ρ : Nm} {H : Heap} {w : World} {E : List Value} {a : Act} (hr : Rel K ρ H w) (he : EnvR ρ E a.tmps) {it : Tmp} {N cit : Nat} (h : ev E (.tmp it) = ptrTo0 N) (hN : ρ N = .live cit 0 0) : a.eval (.tmp it) = .pointer (some ⟨cit,0,none⟩) := by
 have := ev_rel hr he (.tmp it) rfl
 rw [h] at this
 generalize a.eval (.tmp it) = y at this
 unfold ptrTo0 at this
 cases this with
 | ptr hp => rw [hp.2 cit 0 0 hN]
theorem mr_start {K : Cx} {rn : Option Nat} {it tn tc te : Tmp} {tmm : Operand} {opsA opsB opsC opsD : Array Oper} {nA nB nC : Nat} {itsA itsB itsC itsD : List AItem} (hC : MCode K.P K.G0 it tn te tmm opsA opsB opsC opsD nA nB nC itsA itsB itsC itsD)
  {Q : List Value → Heap → Prop} {E : List Value} {H : Heap} (h : wpItems K itsA (MP K it tn tc te tmm itsB itsC itsD Q) E H) {n0 : Nat} {ρ : Nm} {w : World} {a : Act} {l' : Option Nat} (hat : At K rn n0 ρ E H w a l') (id : Nat) :
  Comes' K (fun e a' w' => e = .normal ∧ ∃ ρ1 H1 E1 w1 a1 mb es r es' clock,At K rn n0 ρ1 E1 H1 w1 a1 l' ∧ Step ρ H w ρ1 H1 w1 ∧ H1.get mb = some (.map es) ∧ MapR ρ1 es es'.toList clock ∧
   MI K rn n0 l' ρ1 (H1.set mb none) w1 H1.next r w1.heap.size es' clock [] (setN ρ1 H1.next (.live w1.heap.size 0 0)) (put E1 (some it) (ptrTo0 H1.next)) ((H1.set mb none).reserve 1) w' a' ∧
   ∃ I : List Nat → List Value → Heap → Prop,I [] (put E1 (some it) (ptrTo0 H1.next)) ((H1.set mb none).reserve 1) ∧
  ∀ idxs E2 H2,I idxs E2 H2 → ev E2 (.tmp it) = ptrTo0 H1.next ∧
    (idxs.Nodup → (∀ j ∈ idxs,j < es.length) → ∀ i e,es[i]? = some e → i ∉ idxs →
     wpItems K itsB (fun E3 H3 => ev E3 (.tmp tc) = .bool true ∧ ev E3 (.tmp it) = ptrTo0 H1.next ∧
      wpItems K itsC (wpItems K itsD (I (idxs ++ [i]))) (put E3 (some te) (.tuple #[e.1,e.2])) H3) (put E2 (some tn) (.tuple #[.bool true,e.1,e.2])) H2) ∧
    (idxs.Nodup → (∀ j,j ∈ idxs ↔ j < es.length) →
     wpItems K itsB (fun E3 H3 => ev E3 (.tmp tc) = .bool false ∧ Q E3 (H3.set mb (some (.map es)))) (put E2 (some tn) (.tuple #[.bool false])) H2)) l' (.code (.region id opsA false)) a w := by
 refine region_comes fun b k cs hb => ?_
 obtain ⟨o,t,kk,e,ho,hop,hdst,hg,hu,hok⟩ := hC.a3
 have hR : ItemsR K opsA (List.range nA) itsA := by
  have := itemsR_of2 (K := K) (ops := opsA) (opsA.toList.take nA) 0 itsA (fun j hj => by
   have hj' : j < nA := by have := List.length_take_le nA opsA.toList; omega
   simp [List.getElem?_take_of_lt hj']) hC.a2
  have e1 : (opsA.toList.take nA).length = nA := by simp [hC.a1]
  rw [e1] at this
  simpa using this
 rw [hC.a1,List.range_succ]
 rcases items_prefix [nA] _ _ hR hat h b k cs hb with h1 | ⟨a1,w1,ρ1,H1,E1,s1,q1,at1,st1⟩
 ·exact h1.elim
 obtain ⟨mb,es,hev,hm,I,hI0,hI⟩ := q1
 have hv := ev_rel at1.rel at1.env tmm hok
 rw [hev] at hv
 obtain ⟨r,hr,hbr⟩ := map_inv hv
 obtain ⟨es',clock,g1,g2,g3,g4⟩ := mi_start at1 hm hbr (it := it)
 have hrun : (execOp a1.eval o).run K.P w1 = .ok (.value (.pointer (some ⟨w1.heap.size,0,none⟩))) (w1.alloc (.mapIter (some r) clock #[] clock)) := by
  have := run_range_map (P := K.P) w1 t kk e r es' clock hu g1
  simp [execOp,hop,hr,this,Result.andThen]
 have s2 := own_step (rest := []) at1 ho hg (fun c => by rw [hop]; simp) hrun b k cs
 refine ⟨_,_,⟨ρ1,H1,E1,w1,a1,mb,es,r,es',clock,at1,st1,hm,g2,g4 _ ?_,I,hI0,hI⟩,s1.trans (s2.trans (.one (FX_fenced _ _ _) stepR_region_end))⟩
 rw [hdst]
theorem mr_next {K : Cx} {rn : Option Nat} {it tn tc te : Tmp} {tmm : Operand} {opsA opsB opsC opsD : Array Oper} {nA nB nC : Nat} {itsA itsB itsC itsD : List AItem} (hC : MCode K.P K.G0 it tn te tmm opsA opsB opsC opsD nA nB nC itsA itsB itsC itsD)
  {n0 : Nat} {l' : Option Nat} {ρm : Nm} {Hm : Heap} {wm : World} {N bm cit : Nat} {es : List (Value × Value)} {es' : Array MapEntry} {clock : Nat} {idxs : List Nat} {ρ : Nm} {E : List Value} {H : Heap} {w : World} {a : Act}
  (hM : MapR ρm es es'.toList clock) (hi : MI K rn n0 l' ρm Hm wm N bm cit es' clock idxs ρ E H w a) (hit : ev E (.tmp it) = ptrTo0 N) {Y : Nat → Value × Value → List Value → Heap → Prop} {Z : List Value → Heap → Prop}
  (hy : ∀ i e,es[i]? = some e → i ∉ idxs → wpItems K itsB (Y i e) (put E (some tn) (.tuple #[.bool true,e.1,e.2])) H)
  (hz : (∀ j,j < es.length → j ∈ idxs) → wpItems K itsB Z (put E (some tn) (.tuple #[.bool false])) H) (id : Nat) :
  Comes' K (fun e a' w' => e = .normal ∧ ((∃ ρ' H' E' i e x,es[i]? = some e ∧ es'[i]? = some x ∧ i ∉ idxs ∧ MI K rn n0 l' ρm Hm wm N bm cit es' clock (idxs ++ [i]) ρ' E' H' w' a' ∧ Y i e E' H') ∨
   (∃ ρ' H' E',(∀ j,j < es.length → j ∈ idxs) ∧ MI K rn n0 l' ρm Hm wm N bm cit es' clock idxs ρ' E' H' w' a' ∧ Z E' H'))) l' (.code (.region id opsB false)) a w := by
 refine region_comes fun b k cs hb => ?_
 obtain ⟨o,ho,hop,hdst,hg⟩ := hC.b2
 obtain ⟨is,eis,hR⟩ := items_tail hC.b1 hC.b3
 rw [eis]
 obtain ⟨seen,i2,i3⟩ := hi.iter
 have hev := eval_ptr hi.at_.rel hi.at_.env hit hi.rN
 have hold : ∀ x ∈ es'.toList,x.born < clock := fun x hx => hM.below x hx
 rcases run_next_at (P := K.P) w o.type cit bm clock clock seen es' clock i3 hi.hmap hold (Nat.le_refl _) with ⟨h0,hrun⟩ | ⟨x,hx,w1,hw1,hrun⟩
 ·have hrun' : (execOp a.eval o).run K.P w = .ok (.value (.tuple #[.bool false])) w := by
   simp [execOp,hop,hev,hrun,Result.andThen]
  have s1 := own_step (rest := is) hi.at_ ho hg (fun c => by rw [hop]; simp) hrun' b k cs
  have hall : ∀ j,j < es.length → j ∈ idxs := fun j hj => i2.all hM.rises h0 (by have := hM.size; simp at this; omega)
  have at1 : At K rn n0 ρ (put E (some tn) (.tuple #[.bool false])) H w (a.put o.dst (.tuple #[.bool false])) l' :=
   hi.at_.step (.refl _ _ _) hi.at_.rel (by rw [hdst]; exact put_rel hi.at_.env (VRs.tuple (.cons (.bool _) .nil)) (some tn) a.defers) (put_defers _ _ _)
  have mi1 := hi.step at1 (.refl _ _ _)
  rcases items_arrive _ _ hR at1 (hz hall) b k cs hb with h1 | ⟨a',w',ρ',H',E',s2,q2,at2,st2⟩
  ·exact h1.elim
  ·exact ⟨a',w',.inr ⟨ρ',H',E',hall,mi1.step at2 st2,q2⟩,s1.trans s2⟩
 ·obtain ⟨m1,m2⟩ := mem_left hx
  obtain ⟨i,hil,ex⟩ := List.getElem_of_mem m1
  have hxi : es'[i]? = some x := by rw [← Array.getElem?_toList,List.getElem?_eq_getElem hil,ex]
  have hni := i2.not hxi m2
  have hie : i < es.length := by have := hM.size; simp at this hil; omega
  obtain ⟨x',g1,g2⟩ := hM.entries i es[i] (List.getElem?_eq_getElem hie)
  have : x' = x := by rw [Array.getElem?_toList,hxi] at g1; exact (Option.some.inj g1).symm
  subst this
  have hrun' : (execOp a.eval o).run K.P w = .ok (.value (.tuple #[.bool true,x'.key,x'.val])) (setBlock w1 cit (.mapIter (some bm) clock (seen.push x'.born) clock)) := by
   simp [execOp,hop,hev,hrun,Result.andThen]
  have s1 := own_step (rest := is) hi.at_ ho hg (fun c => by rw [hop]; simp) hrun' b k cs
  have mi1 := hi.turn hw1 (i2.push hxi)
  have at1 : At K rn n0 ρ (put E (some tn) (.tuple #[.bool true,es[i].1,es[i].2])) H (setBlock w1 cit (.mapIter (some bm) clock (seen.push x'.born) clock)) (a.put o.dst (.tuple #[.bool true,x'.key,x'.val])) l' :=
   mi1.at_.step (.refl _ _ _) mi1.at_.rel (by rw [hdst]; exact put_rel hi.at_.env (VRs.tuple (.cons (.bool _) (.cons (g2.key.mono hi.st.ext) (.cons (g2.val.mono hi.st.ext) .nil)))) (some tn) a.defers) (put_defers _ _ _)
  have mi2 := mi1.step at1 (.refl _ _ _)
  rcases items_arrive _ _ hR at1 (hy i es[i] (List.getElem?_eq_getElem hie) hni) b k cs hb with h1 | ⟨a',w',ρ',H',E',s2,q2,at2,st2⟩
  ·exact h1.elim
  ·exact ⟨a',w',.inl ⟨ρ',H',E',i,es[i],x',List.getElem?_eq_getElem hie,hxi,hni,mi2.step at2 st2,q2⟩,s1.trans s2⟩
theorem mr_entry {K : Cx} {rn : Option Nat} {it tn tc te : Tmp} {tmm : Operand} {opsA opsB opsC opsD : Array Oper} {nA nB nC : Nat} {itsA itsB itsC itsD : List AItem} (hC : MCode K.P K.G0 it tn te tmm opsA opsB opsC opsD nA nB nC itsA itsB itsC itsD)
  {n0 : Nat} {l' : Option Nat} {ρm : Nm} {Hm : Heap} {wm : World} {N bm cit : Nat} {es : List (Value × Value)} {es' : Array MapEntry} {clock : Nat} {idxs : List Nat} {i : Nat} {e : Value × Value} {x : MapEntry} {ρ : Nm} {E : List Value} {H : Heap} {w : World} {a : Act}
  (hM : MapR ρm es es'.toList clock) (he : es[i]? = some e) (hx : es'[i]? = some x) (hi : MI K rn n0 l' ρm Hm wm N bm cit es' clock (idxs ++ [i]) ρ E H w a) (hit : ev E (.tmp it) = ptrTo0 N) {Y : List Value → Heap → Prop}
  (hy : wpItems K itsC Y (put E (some te) (.tuple #[e.1,e.2])) H) (id : Nat) :
  Comes' K (fun e a' w' => e = .normal ∧ ∃ ρ' H' E',MI K rn n0 l' ρm Hm wm N bm cit es' clock (idxs ++ [i]) ρ' E' H' w' a' ∧ Y E' H') l' (.code (.region id opsC false)) a w := by
 refine region_comes fun b k cs hb => ?_
 obtain ⟨o,ho,hop,hdst,hg⟩ := hC.c2
 obtain ⟨is,eis,hR⟩ := items_tail hC.c1 hC.c3
 rw [eis]
 obtain ⟨seen,i2,i3⟩ := hi.iter
 obtain ⟨s0,i4,rfl⟩ := i2.last hx
 have hev := eval_ptr hi.at_.rel hi.at_.env hit hi.rN
 have hrun := run_entry_at (P := K.P) w cit bm clock s0 es' clock x i3 hi.hmap (by
  rw [← Array.getElem?_toList] at hx
  exact List.mem_of_getElem? hx) (rises_nodup _ hM.rises)
 have hrun' : (execOp a.eval o).run K.P w = .ok (.value (.tuple #[x.key,x.val])) w := by
  simp [execOp,hop,hev,hrun,Result.andThen]
 obtain ⟨x',g1,g2⟩ := hM.entries i e he
 have : x' = x := by rw [Array.getElem?_toList,hx] at g1; exact (Option.some.inj g1).symm
 subst this
 have s1 := own_step (rest := is) hi.at_ ho hg (fun c => by rw [hop]; simp) hrun' b k cs
 have at1 : At K rn n0 ρ (put E (some te) (.tuple #[e.1,e.2])) H w (a.put o.dst (.tuple #[x'.key,x'.val])) l' :=
  hi.at_.step (.refl _ _ _) hi.at_.rel (by rw [hdst]; exact put_rel hi.at_.env (VRs.tuple (.cons (g2.key.mono hi.st.ext) (.cons (g2.val.mono hi.st.ext) .nil))) (some te) a.defers) (put_defers _ _ _)
 have mi1 := hi.step at1 (.refl _ _ _)
 rcases items_arrive _ _ hR at1 hy b k cs hb with h1 | ⟨a',w',ρ',H',E',s2,q2,at2,st2⟩
 ·exact h1.elim
 ·exact ⟨a',w',⟨ρ',H',E',mi1.step at2 st2,q2⟩,s1.trans s2⟩
theorem mr_items {K : Cx} {rn : Option Nat} {n0 : Nat} {l' : Option Nat} {ρm : Nm} {Hm : Heap} {wm : World} {N bm cit : Nat} {es' : Array MapEntry} {clock : Nat} {idxs : List Nat} {ρ : Nm} {E : List Value} {H : Heap} {w : World} {a : Act}
  {ops : Array Oper} {its : List AItem} (hc : compItems K.P K.G0 ops ops.toList = some its) (hi : MI K rn n0 l' ρm Hm wm N bm cit es' clock idxs ρ E H w a) {Y : List Value → Heap → Prop} (hy : wpItems K its Y E H) (id : Nat) :
  Comes' K (fun e a' w' => e = .normal ∧ ∃ ρ' H' E',MI K rn n0 l' ρm Hm wm N bm cit es' clock idxs ρ' E' H' w' a' ∧ Y E' H') l' (.code (.region id ops false)) a w := by
 refine region_comes fun b k cs hb => ?_
 have hR := itemsR_of (K := K) (ops := ops) ops.toList 0 its (fun j => by simp) hc
 have e0 : (List.range ops.toList.length).map (0 + ·) = List.range ops.size := by simp
 rw [e0] at hR
 rcases items_arrive _ _ hR hi.at_ hy b k cs hb with h1 | ⟨a',w',ρ',H',E',s2,q2,at2,st2⟩
 ·exact h1.elim
 ·exact ⟨a',w',⟨ρ',H',E',hi.step at2 st2,q2⟩,s2⟩
end Go.Ae
namespace Go.Ae
open Go
theorem eval_bool {K : Cx} {ρ : Nm} {H : Heap} {w : World} {E : List Value} {a : Act} (hr : Rel K ρ H w) (he : EnvR ρ E a.tmps) {t : Tmp} {b : Bool} (h : ev E (.tmp t) = .bool b) : a.eval (.tmp t) = .bool b := by
 have := ev_rel hr he (.tmp t) rfl
 rw [h] at this
 exact this.bool_inv
def mrRound (tc : Tmp) (bid bid2 iB iC iD : Nat) (opsB opsC opsD : Array Oper) : Code :=
 .seq (.region iB opsB false) (.seq (.cond (.tmp tc) .skip (.exit bid)) (.block bid2 (.seq (.region iC opsC false) (.region iD opsD false))))
def mrCode (tc : Tmp) (bid bid2 iA iB iC iD : Nat) (opsA opsB opsC opsD : Array Oper) : Code :=
 .seq (.region iA opsA false) (.block bid (.loop (mrRound tc bid bid2 iB iC iD opsB opsC opsD)))
def MIv (K : Cx) (it tn tc te : Tmp) (itsB itsC itsD : List AItem) (N mb : Nat) (es : List (Value × Value)) (Q : List Value → Heap → Prop) (I : List Nat → List Value → Heap → Prop) : Prop :=
 ∀ idxs E2 H2,I idxs E2 H2 → ev E2 (.tmp it) = ptrTo0 N ∧
    (idxs.Nodup → (∀ j ∈ idxs,j < es.length) → ∀ i e,es[i]? = some e → i ∉ idxs →
     wpItems K itsB (fun E3 H3 => ev E3 (.tmp tc) = .bool true ∧ ev E3 (.tmp it) = ptrTo0 N ∧
      wpItems K itsC (wpItems K itsD (I (idxs ++ [i]))) (put E3 (some te) (.tuple #[e.1,e.2])) H3) (put E2 (some tn) (.tuple #[.bool true,e.1,e.2])) H2) ∧
    (idxs.Nodup → (∀ j,j ∈ idxs ↔ j < es.length) →
     wpItems K itsB (fun E3 H3 => ev E3 (.tmp tc) = .bool false ∧ Q E3 (H3.set mb (some (.map es)))) (put E2 (some tn) (.tuple #[.bool false])) H2)
theorem mr_round {K : Cx} {rn : Option Nat} {it tn tc te : Tmp} {tmm : Operand} {opsA opsB opsC opsD : Array Oper} {nA nB nC : Nat} {itsA itsB itsC itsD : List AItem} (hC : MCode K.P K.G0 it tn te tmm opsA opsB opsC opsD nA nB nC itsA itsB itsC itsD)
  {n0 : Nat} {l' : Option Nat} {ρm : Nm} {Hm : Heap} {wm : World} {N mb bm cit : Nat} {es : List (Value × Value)} {es' : Array MapEntry} {clock : Nat} {idxs : List Nat} {ρ : Nm} {E : List Value} {H : Heap} {w : World} {a : Act}
  {Q : List Value → Heap → Prop} {I : List Nat → List Value → Heap → Prop} (hI : MIv K it tn tc te itsB itsC itsD N mb es Q I) (hM : MapR ρm es es'.toList clock) (hi : MI K rn n0 l' ρm Hm wm N bm cit es' clock idxs ρ E H w a) (hq : I idxs E H)
  (hn : idxs.Nodup) (hl : ∀ j ∈ idxs,j < es.length) (bid bid2 iB iC iD : Nat) :
  Comes' K (fun e a' w' => (e = .normal ∧ ∃ i x ρ' H' E',es'[i]? = some x ∧ i ∉ idxs ∧ i < es.length ∧ MI K rn n0 l' ρm Hm wm N bm cit es' clock (idxs ++ [i]) ρ' E' H' w' a' ∧ I (idxs ++ [i]) E' H') ∨
   (e = .exit bid ∧ ∃ ρ' H' E',MI K rn n0 l' ρm Hm wm N bm cit es' clock idxs ρ' E' H' w' a' ∧ Q E' (H'.set mb (some (.map es))))) l' (.code (mrRound tc bid bid2 iB iC iD opsB opsC opsD)) a w := by
 obtain ⟨hit,h1,h2⟩ := hI _ _ _ hq
 refine comes_wpIn.2 (wpIn_seq (wpIn_mono (comes_wpIn.1 (mr_next (tc := tc) hC hM hi hit (Y := fun i e E3 H3 => ev E3 (.tmp tc) = .bool true ∧ ev E3 (.tmp it) = ptrTo0 N ∧
      wpItems K itsC (wpItems K itsD (I (idxs ++ [i]))) (put E3 (some te) (.tuple #[e.1,e.2])) H3) (Z := fun E3 H3 => ev E3 (.tmp tc) = .bool false ∧ Q E3 (H3.set mb (some (.map es))))
  (fun i e he hni => h1 hn hl i e he hni) (fun hall => h2 hn fun j => ⟨hl j,hall j⟩) iB)) ?_))
 rintro e a1 w1 ⟨rfl,hcase⟩
 rcases hcase with ⟨ρ1,H1,E1,i,en,x,he,hx,hni,mi1,hc1,hc2,hc3⟩ | ⟨ρ1,H1,E1,hall,mi1,hc1,hc2⟩
 ·refine wpIn_seq (wpIn_cond_true (eval_bool mi1.at_.rel mi1.at_.env hc1) (wpIn_skip ?_))
  refine wpIn_block (wpIn_seq (wpIn_mono (comes_wpIn.1 (mr_entry (rn := rn) (tc := tc) hC hM he hx mi1 hc2 hc3 iC)) ?_))
  rintro e a2 w2 ⟨rfl,ρ2,H2,E2,mi2,q2⟩
  refine wpIn_mono (comes_wpIn.1 (mr_items hC.d mi2 q2 iD)) ?_
  rintro e a3 w3 ⟨rfl,ρ3,H3,E3,mi3,q3⟩
  exact .inl ⟨rfl,i,x,ρ3,H3,E3,hx,hni,(List.getElem?_eq_some_iff.1 he).1,mi3,q3⟩
 ·refine wpIn_seq (wpIn_cond_false (eval_bool mi1.at_.rel mi1.at_.env hc1) (wpIn_exit ?_))
  exact .inr ⟨rfl,ρ1,H1,E1,mi1,hc2⟩
theorem mr_loop {K : Cx} {rn : Option Nat} {it tn tc te : Tmp} {tmm : Operand} {opsA opsB opsC opsD : Array Oper} {nA nB nC : Nat} {itsA itsB itsC itsD : List AItem} (hC : MCode K.P K.G0 it tn te tmm opsA opsB opsC opsD nA nB nC itsA itsB itsC itsD)
  {n0 : Nat} {l' : Option Nat} {ρm : Nm} {Hm : Heap} {wm : World} {N mb bm cit : Nat} {es : List (Value × Value)} {es' : Array MapEntry} {clock : Nat}
  {Q : List Value → Heap → Prop} {I : List Nat → List Value → Heap → Prop} (hI : MIv K it tn tc te itsB itsC itsD N mb es Q I) (hM : MapR ρm es es'.toList clock) (bid bid2 iB iC iD : Nat) :
  ∀ (m : Nat) (idxs : List Nat) (ρ : Nm) (E : List Value) (H : Heap) (w : World) (a : Act),MI K rn n0 l' ρm Hm wm N bm cit es' clock idxs ρ E H w a → I idxs E H → idxs.Nodup → (∀ j ∈ idxs,j < es.length) →
   (∀ seen,Seen es' idxs seen → (leftOf es' seen).size ≤ m) →
   ∀ (b : Frame) (k : List Item) (cs : List Frame),b.roundOf = l' → ∃ e a' w',(e = .exit bid ∧ ∃ idxs' ρ' H' E',MI K rn n0 l' ρm Hm wm N bm cit es' clock idxs' ρ' E' H' w' a' ∧ Q E' (H'.set mb (some (.map es)))) ∧
    ArrivesIn (Machine.fenced K.P (FX l')) K.P (lone (b.atR a (.code (mrRound tc bid bid2 iB iC iD opsB opsC opsD) :: .inLoop (mrRound tc bid bid2 iB iC iD opsB opsC opsD) :: k)) cs w) b k cs e a' w' := by
 intro m
 induction m using Nat.strongRecOn with
 | ind m ih =>
  intro idxs ρ E H w a hi hq hn hl hm b k cs hb
  obtain ⟨e,a1,w1,q1,r1⟩ := mr_round hC hI hM hi hq hn hl bid bid2 iB iC iD b (.inLoop (mrRound tc bid bid2 iB iC iD opsB opsC opsD) :: k) cs hb
  rcases q1 with ⟨rfl,i,x,ρ1,H1,E1,hx,hni,hil,mi1,q1⟩ | ⟨rfl,ρ1,H1,E1,mi1,q1⟩
  ·obtain ⟨s0,i2,_⟩ := hi.iter
   have hnc : s0.contains x.born = false := by
    cases hc : s0.contains x.born with
    | false => rfl
    | true =>
     have hmem : x.born ∈ s0 := by simpa using hc
     unfold Seen at i2
     have h3 : some x.born ∈ idxs.map fun i => es'[i]?.map (·.born) := by rw [← i2]; exact List.mem_map.2 ⟨_,by simpa using hmem,rfl⟩
     obtain ⟨j,hj,e⟩ := List.mem_map.1 h3
     cases hy : es'[j]? with
     | none => rw [hy] at e; cases e
     | some y =>
      rw [hy] at e
      have := born_place hM.rises hy hx (by simpa using e)
      exact absurd (this ▸ hj) hni
   have hxl : x ∈ (leftOf es' s0).toList := by
    unfold leftOf
    rw [Array.mem_toList_iff,Array.mem_filter]
    refine ⟨Array.mem_of_getElem? hx,by rw [hnc]; rfl⟩
   have hlt := left_shrinks es' s0 x hxl
   have hle := hm s0 i2
   obtain ⟨e,a2,w2,q2,r2⟩ := ih (leftOf es' (s0.push x.born)).size (by omega) (idxs ++ [i]) ρ1 E1 H1 w1 a1 mi1 q1 (by
     rw [List.nodup_append]
     refine ⟨hn,by simp,fun y hy z hz => ?_⟩
     have : z = i := by simpa using hz
     subst this
     exact fun e => hni (e ▸ hy)) (fun j hj => by
     rcases List.mem_append.1 hj with h | h
     ·exact hl j h
     ·have : j = i := by simpa using h
      omega) (fun seen hs => by rw [hs.same (i2.push hx)]; exact Nat.le_refl _) b k cs hb
   exact ⟨e,a2,w2,q2,.of_steps (StepsIn.trans r1 (.one (FX_fenced _ _ _) stepR_inLoop)) r2⟩
  ·exact ⟨.exit bid,a1,w1,⟨rfl,idxs,ρ1,H1,E1,mi1,q1⟩,.pass (x := .inLoop _) rfl (fun _ _ => .inl (by simp)) r1⟩
theorem cs_mrange {K : Cx} {rn : Option Nat} {it tn tc te : Tmp} {tmm : Operand} {opsA opsB opsC opsD : Array Oper} {nA nB nC : Nat} {itsA itsB itsC itsD : List AItem} (hC : MCode K.P K.G0 it tn te tmm opsA opsB opsC opsD nA nB nC itsA itsB itsC itsD)
  {Q : AExit → List Value → Heap → Prop} {E : List Value} {H : Heap} (h : wpItems K itsA (MP K it tn tc te tmm itsB itsC itsD (Q .normal)) E H) (bid bid2 iA iB iC iD : Nat) : CS K rn (mrCode tc bid bid2 iA iB iC iD opsA opsB opsC opsD) Q E H := by
 intro n0 ρ w a l' hat
 refine comes_wpIn.2 (wpIn_seq (wpIn_mono (comes_wpIn.1 (mr_start hC h hat iA)) ?_))
 rintro e a1 w1 ⟨rfl,ρ1,H1,E1,w0,a0,mb,es,r,es',clock,at1,st1,hm,hM,mi1,I,hI0,hI⟩
 refine wpIn_block (wpIn_mono (c := .loop _) (Q := fun e a' w' => e = .exit bid ∧ ∃ idxs' ρ' H' E',MI K rn n0 l' ρ1 (H1.set mb none) w0 H1.next r w0.heap.size es' clock idxs' ρ' E' H' w' a' ∧ Q .normal E' (H'.set mb (some (.map es)))) (comes_wpIn.1 ?_) ?_)
 ·intro b k cs hb
  obtain ⟨e,a',w',q,r'⟩ := mr_loop hC (tc := tc) (Q := Q .normal) (I := I) (mb := mb) hI hM bid bid2 iB iC iD es'.size [] _ _ _ _ _ mi1 hI0 List.nodup_nil (fun j hj => by cases hj) (fun seen _ => by
   unfold leftOf; exact Array.size_filter_le) b k cs hb
  exact ⟨e,a',w',q,.of_steps (.one (FX_fenced _ _ _) stepR_loop) r'⟩
 ·rintro e a2 w2 ⟨rfl,idxs',ρ2,H2,E2,mi2,q2⟩
  obtain ⟨R,S⟩ := mi_end at1 (a' := a2) (E' := E2) (n0 := n0) hm mi2.at_.rel mi2.st
  simp only [Exit.inBlock]
  exact ⟨ρ2,_,E2,q2,st1.trans S,R,mi2.at_.env,mi2.at_.marks⟩
end Go.Ae
namespace Go.Ae
open Go
theorem func_cs {K : Cx} {f : FuncId} {fn : Func} {c : Code} {n : Nat} {rs : List ARes} (hf : K.P.funcs[f]? = some fn) (hb : fn.body = some c) (hn : fn.name ≠ "runtime.NumGoroutine")
  (ht : fn.ntmps = n) (hres : compRes K.P fn.results.toList = some rs) {args : List Value} {H : Heap} {Q : Value → Heap → Prop} (h : CS K none c (retQ rs Q) (args ++ List.replicate (n - args.length) undef) H) : FC K f args H Q := by
 intro ρ w args' hr hargs
 have hcall : (callFunc f args').run K.P w = .ok (.enter f args') w := by
  simp [callFunc,hf,hb,hn]
 rw [hcall]
 refine callsIn_of_wp_marks hf hb trivial ?_
 have hat : At K none w.heap.size ρ (args ++ List.replicate (n - args.length) undef) H w { tmps := args' ++ Array.replicate (fn.ntmps - args'.size) undef,defers := [] } none := by
  refine ⟨hr,?_,⟨[],rfl,List.nodup_nil,fun r h => by cases h⟩,Nat.le_refl _,trivial⟩
  show VRs _ _ (args' ++ Array.replicate (fn.ntmps - args'.size) undef).toList
  rw [Array.toList_append,Array.toList_replicate,ht]
  have hl := hargs.length
  simp only [Array.length_toList] at hl
  rw [hl]
  refine hargs.append ?_
  generalize n - args.length = m
  induction m with
  | zero => exact .nil
  | succ m ih => rw [List.replicate_succ]; exact .cons .undef ih
 have hwp := comes_wpIn.1 (h _ _ _ _ _ hat)
 have out : ∀ (a' : Act) (w' : World) (ρ' : Nm) (H' : Heap) (E' : List Value) (vs : List Value),resA E' H' rs = some vs → Q (tupleA vs) H' → Step ρ H w ρ' H' w' → Rel K ρ' H' w' → EnvR ρ' E' a'.tmps → Marks w.heap.size w' a'.defers →
   LeavesInM Fence.wide 0 K.P fn a'.tmps (RetPost K ρ H w Q) a'.defers .returning w' := by
  intro a' w' ρ' H' E' vs hvs hq S R env m
  obtain ⟨rs1,m1,m2,m3⟩ := m
  rw [m1]
  clear m1
  induction rs1 generalizing w' with
  | nil =>
   obtain ⟨vs',g1,g2,g3⟩ := results_sound R env _ _ hres vs hvs
   have hm := run_mapM_list (P := K.P) (resRun a'.tmps) w' _ _ g1 g3
   have hrun : (results fn a'.tmps).run K.P w' = .ok (if h : vs'.toArray.size = 1 then vs'.toArray[0] else .tuple vs'.toArray) w' := by
    have e1 : (fn.results.mapM (resRun a'.tmps)).run K.P w' = .ok vs'.toArray w' := by
     rw [Array.mapM_eq_mapM_toList,Sem.run_map]
     rw [hm]; rfl
    have e2 : results fn a'.tmps = (do let vs ← fn.results.mapM (resRun a'.tmps); pure (if h : vs.size = 1 then vs[0] else .tuple vs)) := by
     unfold results
     congr 1
    rw [e2]
    simp only [Sem.run_bind,e1,Result.andThen_ok,Sem.run_pure]
   exact ⟨_,hrun,_,ρ',H',hq,tuple_rel g2,R,S⟩
  | cons r rs1 ih =>
   obtain ⟨h1,h2⟩ := m3 r (by simp)
   have hnd := List.nodup_cons.1 m2
   refine ⟨by simp,.inl ⟨r,_,rfl,run_takeDeferred h2,?_⟩⟩
   refine ih (w'.putObj r (.deferred none)) (shut_step S h1 _) (shut_rel R h2 _) hnd.2 fun q hq => ?_
   obtain ⟨g1,g2⟩ := m3 q (by simp [hq])
   refine ⟨g1,?_⟩
   have hne : q ≠ r := fun e => hnd.1 (e ▸ hq)
   rw [World.putObj_heap_other hne]; exact g2
 refine wpIn_mono hwp fun e a' w' hq => ?_
 cases e with
 | normal => obtain ⟨ρ',H',E',⟨vs,q1,q2⟩,S,R,env,m⟩ := hq; exact out a' w' ρ' H' E' vs q1 q2 S R env m
 | ret => obtain ⟨ρ',H',E',⟨vs,q1,q2⟩,S,R,env,m⟩ := hq; exact out a' w' ρ' H' E' vs q1 q2 S R env m
 | exit id => obtain ⟨ρ',H',E',q,_⟩ := hq; exact q.elim
 | goto t => exact hq.elim
 | panic ch => exact hq.elim
 | outgrown => exact hq
structure IsMR (P : Program) (G0 : Nat) (f : FuncId) (n : Nat) (rs : List ARes) (l0 l1 : List AItem) (it tn tc te : Tmp) (tmm : Operand) (itsA itsB itsC itsD : List AItem) (rest : ACode) : Prop where
 is : ∃ fn c0 c1 c2 bid bid2 iA iB iC iD opsA opsB opsC opsD nA nB nC,P.funcs[f]? = some fn ∧ fn.body = some (.seq c0 (.seq c1 (.seq (mrCode tc bid bid2 iA iB iC iD opsA opsB opsC opsD) c2))) ∧ fn.name ≠ "runtime.NumGoroutine" ∧
  comp P G0 (drawOf P G0) c0 = some (.ops l0) ∧ comp P G0 (drawOf P G0) c1 = some (.ops l1) ∧ MCode P G0 it tn te tmm opsA opsB opsC opsD nA nB nC itsA itsB itsC itsD ∧ comp P G0 (drawOf P G0) c2 = some rest ∧
  fn.ntmps = n ∧ compRes P fn.results.toList = some rs
theorem FC.ofMR {K : Cx} (hK : Cfg K) {f : FuncId} {n : Nat} {rs : List ARes} {l0 l1 : List AItem} {it tn tc te : Tmp} {tmm : Operand} {itsA itsB itsC itsD : List AItem} {rest : ACode}
  (h : IsMR K.P K.G0 f n rs l0 l1 it tn tc te tmm itsA itsB itsC itsD rest) {args : List Value} {H : Heap} {Q : Value → Heap → Prop}
  (hw : wpItems K l0 (wpItems K l1 (wpItems K itsA (MP K it tn tc te tmm itsB itsC itsD (wpC K DrawD none rest (retQ rs Q))))) (args ++ List.replicate (n - args.length) undef) H) : FC K f args H Q := by
 obtain ⟨fn,c0,c1,c2,bid,bid2,iA,iB,iC,iD,opsA,opsB,opsC,opsD,nA,nB,nC,h1,h2,h3,h4,h5,h6,h7,h8,h9⟩ := h.is
 have hD : DrawOk DrawD K none := draw_ok hK.draw hK.mixed none
 rw [← hK.draw] at h4 h5 h7
 refine func_cs h1 h2 h3 h8 h9 ?_
 refine cs_seq (code_sound hD _ _ h4 _ _ _ ?_)
 show wpItems K l0 (CS K none _ _) _ _
 refine wpItems_mono _ (fun E H hq => ?_) hw
 refine cs_seq (code_sound hD _ _ h5 _ _ _ ?_)
 show wpItems K l1 (CS K none _ _) _ _
 refine wpItems_mono _ (fun E H hq => ?_) hq
 refine cs_seq (cs_mrange h6 ?_ bid bid2 iA iB iC iD)
 refine wpItems_mono _ (fun E H hq => ?_) hq
 obtain ⟨mb,es,g1,g2,I,g3,g4⟩ := hq
 refine ⟨mb,es,g1,g2,I,g3,fun idxs E2 H2 hI => ?_⟩
 obtain ⟨k1,k2,k3⟩ := g4 idxs E2 H2 hI
 refine ⟨k1,k2,fun a b => wpItems_mono _ (fun E H hq => ⟨hq.1,?_⟩) (k3 a b)⟩
 exact code_sound hD _ _ h7 _ _ _ hq.2
end Go.Ae
