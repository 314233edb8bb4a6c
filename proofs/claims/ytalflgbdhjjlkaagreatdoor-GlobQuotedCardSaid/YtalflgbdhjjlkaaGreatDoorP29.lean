/- Part 29 of the proof of the law: Ce16, Ce36, Ce37, Ce38, Ce9. No condition. -/
import Derived.Test.YtalflgbdhjjlkaaGreatDoorP28
set_option linter.all false
namespace Go.Ae
open Nat (reduceLT reduceEqDiff reduceSub reduceAdd reduceMul reduceLeDiff)
open Int (reduceToNat)
open Go
set_option maxRecDepth 100000
theorem c114 {K : Cx} (hK : Cfg K) (hS : TabIs K) {tb k : Nat} {u : ByteArray} {H : Heap} {Q : Value → Heap → Prop} (hT : Tbl H tb k) (hk : k ≤ 1000000)
  (hQ : ∀ (n : Nat) (b : Bool),n ≤ k → (b = true → n < k) → Q (.tuple #[.int .i64 (n : Nat),.bool b]) H) : FC K 114 [.pointer (some ⟨tb,0,none⟩),.string u] H Q := by
 refine FC.of hK hS.i114 (by simp [F114]) ?_
 unfold F114
 obtain ⟨kd,v,hg,hv⟩ := hT.row
 have c1 : cellAt H tb 1 = some v := by rw [cellAt_of hg]; rfl
 simp (disch := omega) only [↓wD,wU,↓reduceIte,reduceLT,reduceEqDiff,reduceSub,reduceAdd,reduceMul,reduceToNat,reduceLeDiff,c1]
 refine c160 hK hS hv hk fun n b h1 h2 => ?_
 unfold Later
 simp (disch := omega) only [↓wD,wU,↓reduceIte,reduceLT,reduceEqDiff,reduceSub,reduceAdd,reduceMul,reduceToNat,reduceLeDiff]
 exact hQ n b h1 h2
theorem c113 {K : Cx} (hK : Cfg K) (hS : TabIs K) {kd : Int} {s : ByteArray} {H : Heap} {Q : Value → Heap → Prop} (hs : s.size ≤ 4611686018427387904) (hkd : kd = 1 ∨ kd = 3) (hQ : Q (.bool (isNameC s)) H) : FC K 113 [.int .i64 kd,.string s] H Q := by
 refine FC.of hK hS.i113 (by simp [F113]) ?_
 unfold F113
 rcases hkd with rfl | rfl
 ·simp (disch := omega) only [↓wD,wU,↓reduceIte,reduceLT,reduceEqDiff,reduceSub,reduceAdd,reduceMul,reduceToNat,reduceLeDiff,decide_true]
  refine c158 hK hS.toClassIs hs ?_
  unfold Later
  simp (disch := omega) only [↓wD,wU,↓reduceIte,reduceLT,reduceEqDiff,reduceSub,reduceAdd,reduceMul,reduceToNat,reduceLeDiff]
  exact hQ
 ·simp (disch := omega) only [↓wD,wU,↓reduceIte,reduceLT,reduceEqDiff,reduceSub,reduceAdd,reduceMul,reduceToNat,reduceLeDiff,Int.reduceEq,decide_true,decide_false]
  refine c158 hK hS.toClassIs hs ?_
  unfold Later
  simp (disch := omega) only [↓wD,wU,↓reduceIte,reduceLT,reduceEqDiff,reduceSub,reduceAdd,reduceMul,reduceToNat,reduceLeDiff]
  exact hQ
theorem c73 {K : Cx} (hK : Cfg K) (hS : TabIs K) {H : Heap} {Q : Value → Heap → Prop} (hQ : Q (.pointer (some ⟨H.next,0,none⟩)) (H.push (.row [.int .i64 1,.slice none 0 0] 0 (some 184)))) : FC K 73 [.int .i64 1] H Q := by
 refine FC.of hK hS.i73 (by simp [F73]) ?_
 unfold F73
 simp (disch := omega) only [↓wD,wU,↓reduceIte,reduceLT,reduceEqDiff,reduceSub,reduceAdd,reduceMul,reduceToNat,reduceLeDiff,Int.reduceLT,decide_true,decide_false]
 exact hQ
structure Tb1 (H : Heap) (tb k : Nat) : Prop where
 row : ∃ v,H.get tb = some (.row [.int .i64 1,v] 0 (some 184)) ∧ Ent (tb + 1) H v k
 wf : H.wf
theorem Tb1.tbl {H : Heap} {tb k : Nat} (h : Tb1 H tb k) : Tbl H tb k := by
 obtain ⟨v,h1,h2⟩ := h.row
 exact ⟨1,v,h1,h2⟩
set_option maxHeartbeats 4000000 in
theorem c74 {K : Cx} (hK : Cfg K) (hS : TabIs K) {tb k : Nat} {s t : ByteArray} {H : Heap} {Q : Value → Heap → Prop} (hT : Tb1 H tb k) (hk : k ≤ 1000) (hs : s.size ≤ 1000000)
  (hQ : ∀ v H' k',Tb1 H' tb k' → k' ≤ k + 1 → Agree tb H H' → H.next ≤ H'.next → Q v H') : FC K 74 [.pointer (some ⟨tb,0,none⟩),.string s,.string t] H Q := by
 have hsame : ∀ v,Q v H := fun v => hQ v H k hT (by omega) (.refl _ _) (Nat.le_refl _)
 obtain ⟨v,hg,hv⟩ := hT.row
 have hlt := Heap.lt_of_get hg
 have c0 : cellAt H tb 0 = some (.int .i64 1) := by rw [cellAt_of hg]; rfl
 have c1 : cellAt H tb 1 = some v := by rw [cellAt_of hg]; rfl
 refine FC.of hK hS.i74 (by simp [F74]) ?_
 unfold F74
 simp (disch := omega) only [↓wD,wU,↓reduceIte,reduceLT,reduceEqDiff,reduceSub,reduceAdd,reduceMul,reduceToNat,reduceLeDiff,c0]
 refine c113 hK hS (by omega) (.inl rfl) ?_
 unfold Later
 cases isNameC s
 ·simp (disch := omega) only [↓wD,wU,↓reduceIte,reduceLT,reduceEqDiff,reduceSub,reduceAdd,reduceMul,reduceToNat,reduceLeDiff]
  exact hsame _
 simp (disch := omega) only [↓wD,wU,↓reduceIte,reduceLT,reduceEqDiff,reduceSub,reduceAdd,reduceMul,reduceToNat,reduceLeDiff]
 split
 ·exact hsame _
 refine c114 hK hS hT.tbl (by omega) fun n b h1 h2 => ?_
 unfold Later
 cases b
 ·obtain ⟨a,cap,rfl,hcap,hnil⟩ := hv.val
  simp (disch := omega) only [↓wD,wU,↓reduceIte,reduceLT,reduceEqDiff,reduceSub,reduceAdd,reduceMul,reduceToNat,reduceLeDiff,c1]
  rw [if_neg (by omega)]
  refine hS.x115 (tb + 1) k n (.slice a k cap) s t H _ hT.wf (by omega) hv h1 hk fun v' H' w1 w2 w3 w4 => ?_
  unfold Later
  obtain ⟨a',c',rfl,_⟩ := w2.val
  have hg' : H'.get tb = some (.row [.int .i64 1,.slice a k cap] 0 (some 184)) := by rw [w3 tb (by omega)]; exact hg
  simp (disch := omega) only [↓wD,wU,↓reduceIte,reduceLT,reduceEqDiff,reduceSub,reduceAdd,reduceMul,reduceToNat,reduceLeDiff,hg']
  refine hQ _ _ (k + 1) ⟨⟨_,Heap.get_set_same _ _ hg',w2.agree fun b hb _ => Heap.get_set_ne _ _ (by omega)⟩,Heap.wf_set _ _ w1⟩ (by omega) (fun x hx => ?_) (by simp; omega)
  rw [Heap.get_set_ne _ _ (by omega),w3 x (by omega)]
 ·have hnk := h2 rfl
  rcases hv with ⟨rfl,rfl⟩ | ⟨b,c,xs,rest,ty,e1,rfl,e3,e4,e5,e6⟩
  ·omega
  ·simp (disch := omega) only [↓wD,wU,↓reduceIte,reduceLT,reduceEqDiff,reduceSub,reduceAdd,reduceMul,reduceToNat,reduceLeDiff,c1,e4]
   refine ⟨by omega,by simp only [List.length_append]; omega,?_⟩
   have hne : b ≠ tb := by omega
   refine hQ _ _ k ⟨⟨.slice (some ⟨b,0,some 2⟩) k c,?_,.inr ⟨b,c,splice xs (n * 2 + 1) [.string t],rest,ty,e1,rfl,e3,?_,?_,?_⟩⟩,Heap.wf_set _ _ hT.wf⟩ (by omega) (fun x hx => ?_) (by simp)
   ·rw [Heap.get_set_ne _ _ hne]; exact hg
   ·rw [Heap.get_set_same _ _ e4]
    congr 2
    unfold splice
    rw [List.take_append_of_le_length (by omega),List.drop_append_of_le_length (by simp; omega)]
    simp
   ·unfold splice
    simp only [List.length_append,List.length_take,List.length_drop,List.length_cons,List.length_nil]; omega
   ·intro x hx
    unfold splice at hx
    rcases List.mem_append.1 hx with hx | hx
    ·rcases List.mem_append.1 hx with hx | hx
     ·exact e6 x (List.mem_of_mem_take hx)
     ·simp at hx; exact ⟨t,hx⟩
    ·exact e6 x (List.mem_of_mem_drop hx)
   ·rw [Heap.get_set_ne _ _ (by omega)]
set_option maxHeartbeats 4000000 in
theorem c46 {K : Cx} (hK : Cfg K) (hS : TabIs K) {tb : Tb} {H : Heap} {Q : Value → Heap → Prop} (hf : tb.ok H) (hl : tb.light)
  (hQ : ∀ b k H',Tb1 H' b k → k ≤ 20 → H.next ≤ b → Agree H.next H H' → H.next ≤ H'.next → Q (.pointer (some ⟨b,0,none⟩)) H') : FC K 46 [.int .i64 1,tb.v] H Q := by
 refine FC.wf0 fun hw => ?_
 refine FC.of hK hS.i46 (by simp [F46]) ?_
 unfold F46
 obtain ⟨⟨a,cap,ev,hcp,hs⟩,hcells⟩ := hf
 rw [ev]
 simp (disch := omega) only [↓wD,wU,↓reduceIte,reduceLT,reduceEqDiff,reduceSub,reduceAdd,reduceMul,reduceToNat,reduceLeDiff]
 refine c73 hK hS ?_
 unfold Later
 simp (disch := omega) only [↓wD,wU,↓reduceIte,reduceLT,reduceEqDiff,reduceSub,reduceAdd,reduceMul,reduceToNat,reduceLeDiff,aeqv_ptrSN]
 have hT0 : Tb1 (H.push (.row [.int .i64 1,.slice none 0 0] 0 (some 184))) H.next 0 := ⟨⟨_,Heap.get_push_same _ _,.inl ⟨rfl,rfl⟩⟩,Heap.wf_push _ hw⟩
 refine loop_ind (fun m E H' => ∃ (f : Nat → Value) (i k : Nat),E = mk 26 f ∧ f 5 = .pointer (some ⟨H.next,0,none⟩) ∧ f 12 = .slice a tb.n cap ∧ f 13 = .int .i64 (tb.n : Nat) ∧ f 14 = .int .i64 (i : Nat) ∧ m + i = tb.n + 1 ∧ i ≤ tb.n ∧
   Tb1 H' H.next k ∧ k ≤ i ∧ Agree H.next H H' ∧ H.next < H'.next) (n := tb.n + 1) ?_ ?_
 ·exact ⟨_,0,0,rfl,rfl,rfl,rfl,rfl,rfl,by omega,hT0,Nat.le_refl _,Agree.push _ (Nat.le_refl _),by simp⟩
 rintro I m E H' ⟨f,i,k,rfl,f5,f12,f13,f14,hm,hi,hT,hki,hA,hn⟩ hI
 by_cases hik : (i : Int) < tb.n
 ·obtain ⟨b,o,rfl,hc⟩ := hs.resolve_left (by omega)
  have hb := cellAt_lt (hc (i * 2) (by omega))
  have hl1 := hl.1
  have c2 : cellsAt H' b (o + i * 2) 2 = some [.string (tb.s (i * 2)),.string (tb.s (i * 2 + 1))] := by
   rw [cellsAt_of (g := fun j => tb.g (i * 2 + j)) (by decide) (fun j hj => by rw [cellAt_agree hA hb,Nat.add_assoc]; exact hc _ (by omega))]
   show some [tb.g (i * 2),tb.g (i * 2 + 1)] = _
   rw [hcells _ (by omega),hcells _ (by omega)]
  simp (disch := omega) only [↓wD,wU,↓reduceIte,reduceLT,reduceEqDiff,reduceSub,reduceAdd,reduceMul,reduceToNat,reduceLeDiff,f5,f12,f13,f14,hik,c2]
  refine ⟨by omega,?_⟩
  have hT2 : Tb1 (H'.push (.row [.string (tb.s (i * 2)),.string (tb.s (i * 2 + 1))] 0 (some 90))) H.next k := by
   obtain ⟨v,h1,h2⟩ := hT.row
   exact ⟨⟨v,Heap.get_push_old h1,h2.agree fun b _ hb => Heap.get_push_ne _ _ (by omega)⟩,Heap.wf_push _ hT.wf⟩
  refine c74 hK hS hT2 (by have := hl.1; omega) (by have := hl.2 (i * 2) (by omega); omega) fun _ H2 k' hT3 hk' hA2 hn2 => ?_
  unfold Later
  simp (disch := omega) only [↓wD,wU,↓reduceIte,reduceLT,reduceEqDiff,reduceSub,reduceAdd,reduceMul,reduceToNat,reduceLeDiff,f5,f12,f13,f14,hik]
  simp only [Heap.next_push] at hn2
  refine hI _ _ _ (show m - 1 < m by omega) ?_
  exact ⟨_,i + 1,k',rfl,f5,f12,f13,rfl,by omega,by omega,hT3,by omega,fun x hx => by rw [hA2 x hx,Heap.get_push_ne _ _ (by omega),hA x hx],by omega⟩
 ·simp (disch := omega) only [↓wD,wU,↓reduceIte,reduceLT,reduceEqDiff,reduceSub,reduceAdd,reduceMul,reduceToNat,reduceLeDiff,f5,f12,f13,f14,hik]
  exact hQ _ k _ hT (by have := hl.1; omega) (Nat.le_refl _) hA (Nat.le_of_lt hn)
end Go.Ae
namespace Go.Ae
open Nat (reduceLT reduceEqDiff reduceSub reduceAdd reduceMul reduceLeDiff)
open Int (reduceToNat)
open Go
set_option maxRecDepth 100000
structure FofIs (K : Cx) : Prop extends FldIs K where
 tab : TabIs K
 i122 : Is K.P K.G0 122 F122
 i77 : Is K.P K.G0 77 F77
 i47 : Is K.P K.G0 47 F47
abbrev Pe := Bool × UInt8
def peL (x : Pe) : List UInt8 := if x.1 = true then [92,x.2] else [x.2]
def peOf (u : Un) : List Pe := if u.none then [] else [(u.q,u.b)]
theorem peOf_flat (U : List Un) : U.flatMap ptU = (U.flatMap peOf).flatMap peL := by
 induction U with
 | nil => rfl
 | cons u U ih =>
  rw [List.flatMap_cons,List.flatMap_cons,List.flatMap_append,ih]
  congr 1
  unfold ptU peOf peL
  cases u.none <;> simp
section
variable {K : Cx} {H : Heap}
set_option maxHeartbeats 2000000 in
theorem c122 (hK : Cfg K) (hS : FofIs K) {tb k : Nat} {u : ByteArray} {Q : Value → Heap → Prop} (hT : Tbl H tb k) (hk : k ≤ 1000000) (hQ : ∀ (s : ByteArray) (b : Bool),Q (.tuple #[.string s,.bool b]) H) : FC K 122 [.pointer (some ⟨tb,0,none⟩),.string u] H Q := by
 refine FC.of hK hS.i122 (by simp [F122]) ?_
 unfold F122
 obtain ⟨kd,v,hg,hv⟩ := hT.row
 simp (disch := omega) only [↓wD,wU,↓reduceIte,reduceLT,reduceEqDiff,reduceSub,reduceAdd,reduceMul,reduceToNat,reduceLeDiff]
 refine c114 hK hS.tab hT hk fun n b h1 h2 => ?_
 unfold Later
 cases b
 ·simp (disch := omega) only [↓wD,wU,↓reduceIte,reduceLT,reduceEqDiff,reduceSub,reduceAdd,reduceMul,reduceToNat,reduceLeDiff]
  exact hQ _ _
 ·obtain ⟨bb,c,s,t,rfl,e2,e3,e4⟩ := hv.cell (h2 rfl)
  have c1 : cellAt H tb 1 = some (.slice (some ⟨bb,0,some 2⟩) k c) := by rw [cellAt_of hg]; rfl
  have hn := h2 rfl
  simp (disch := omega) only [↓wD,wU,↓reduceIte,reduceLT,reduceEqDiff,reduceSub,reduceAdd,reduceMul,reduceToNat,reduceLeDiff,c1,e4]
  refine ⟨by omega,?_⟩
  exact hQ _ _
theorem c77 (hK : Cfg K) (hS : FofIs K) {tb k : Nat} {Q : Value → Heap → Prop} (hT : Tbl H tb k) (hk : k ≤ 1000000) (hQ : ∀ s : ByteArray,Q (.string s) H) : FC K 77 [.pointer (some ⟨tb,0,none⟩)] H Q := by
 refine FC.of hK hS.i77 (by simp [F77]) ?_
 unfold F77
 simp (disch := omega) only [↓wD,wU,↓reduceIte,reduceLT,reduceEqDiff,reduceSub,reduceAdd,reduceMul,reduceToNat,reduceLeDiff,aeqv_ptrSN]
 refine c122 hK hS hT hk fun s b => ?_
 unfold Later
 cases b <;> (simp (disch := omega) only [↓wD,wU,↓reduceIte,reduceLT,reduceEqDiff,reduceSub,reduceAdd,reduceMul,reduceToNat,reduceLeDiff]; exact hQ _)
set_option maxHeartbeats 2000000 in
theorem c47 (hK : Cfg K) (hS : FofIs K) {tb k : Nat} {w : ByteArray} {q : Nat → QS} {T : List UInt8} {Q : Value → Heap → Prop} (hT : Tb1 H tb k) (hk : k ≤ 1000000) (hr : Run q (bAt w) w.size) (hend : q w.size = .top) (hd : dec q (bAt w) 0 w.size = T) (hsz : w.size ≤ 10000) (hne : w.size ≠ 0)
  (hQ : ∀ H' b u (PE : List Pe),OwO H' (some b) u 2 1 [.string ⟨T.toArray⟩,.string ⟨(PE.flatMap peL).toArray⟩] → H.next ≤ b → Agree H.next H H' → H.next ≤ H'.next → H'.wf → PE.length ≤ 30000 → (∀ x ∈ PE,x.1 = true ∨ safeB ((x.2.toNat : Nat) : Int) = true) → Q (.tuple #[u,.int .i64 0]) H') : FC K 47 [.pointer (some ⟨tb,0,none⟩),.string w] H Q := by
 refine FC.of hK hS.i47 (by simp [F47]) ?_
 unfold F47
 simp (disch := omega) only [↓wD,wU,↓reduceIte,reduceLT,reduceEqDiff,reduceSub,reduceAdd,reduceMul,reduceToNat,reduceLeDiff]
 refine c75 hK hS.toExpIs hr hend hsz fun H1 v bo L hol hbo hA1 hn1 hw1 hF => ?_
 unfold Later
 simp (disch := omega) only [↓wD,wU,↓reduceIte,reduceLT,reduceEqDiff,reduceSub,reduceAdd,reduceMul,reduceToNat,reduceLeDiff,decide_true]
 have hT1 : Tbl H1 tb k := by
  obtain ⟨vt,h1,h2⟩ := hT.row
  exact ⟨1,vt,by rw [hA1 _ (Heap.lt_of_get h1)]; exact h1,h2.agree fun b _ hb => hA1 b hb⟩
 refine c77 hK hS hT1 hk fun by_ => ?_
 unfold Later
 simp (disch := omega) only [↓wD,wU,↓reduceIte,reduceLT,reduceEqDiff,reduceSub,reduceAdd,reduceMul,reduceToNat,reduceLeDiff]
 have htx : ∀ a : Pc,(unitsOf a).flatMap txU = a.2.data.toList := fun a => by
  unfold unitsOf
  by_cases h : a.2.data.toList = []
  ·rw [if_pos h,h]
   split <;> rfl
  ·rw [if_neg h]
   generalize a.2.data.toList = l
   induction l with
   | nil => rfl
   | cons x l ih => rw [List.map_cons,List.flatMap_cons,ih]; rfl
 have htxt : (L.flatMap unitsOf).flatMap txU = T := by
  rw [List.flatMap_assoc]
  have : (L.flatMap fun a => (unitsOf a).flatMap txU) = L.flatMap fun a => a.2.data.toList := by
   congr 1; funext a; exact htx a
  rw [this]
  have := hF.text
  rw [List.append_nil] at this
  rw [this,hd]
 have hTl : T.length ≤ 10000 := by rw [← hd]; exact Nat.le_trans (dec_len _ _ _ _) hsz
 have hLl := hF.len
 rw [List.length_nil,Nat.add_zero] at hLl
 have hsum : ∀ L : List Pc,(L.flatMap unitsOf).length ≤ (L.flatMap fun a => a.2.data.toList).length + L.length := fun L => by
  induction L with
  | nil => simp
  | cons a L ih =>
   rw [List.flatMap_cons,List.flatMap_cons,List.length_append,List.length_append,List.length_cons]
   have := unitsOf_len a
   omega
 have htl : (L.flatMap fun a => a.2.data.toList).length ≤ 10000 := by
  have := hF.text
  rw [List.append_nil,hd] at this
  rw [this]; exact hTl
 have hul : (L.flatMap unitsOf).length ≤ 20000 := Nat.le_trans (hsum L) (by omega)
 have hsz2 : ∀ a ∈ L,a.2.size ≤ 30000 := fun a ha => by
  obtain ⟨A,B,rfl⟩ := List.append_of_mem ha
  rw [List.flatMap_append,List.flatMap_cons,List.length_append,List.length_append,size_data] at htl
  omega
 have hun : L.flatMap unitsOf ≠ [] := fun e => by
  rcases hF.some hne with h | h
  ·obtain ⟨a,L',rfl⟩ := List.exists_cons_of_ne_nil h
   rw [List.flatMap_cons] at e
   have e1 := (List.append_eq_nil_iff.1 e).1
   unfold unitsOf at e1
   rcases hF.safe a (by simp) with hq | ⟨hq,_⟩
   ·by_cases h0 : a.2.data.toList = []
    ·rw [if_pos h0,if_pos hq] at e1; cases e1
    ·rw [if_neg h0] at e1; simp at e1; exact h0 (by simpa using e1)
   ·rw [if_neg hq] at e1; simp at e1; exact hq (by simpa using e1)
  ·exact h rfl
 refine c76 hK hS.toFldIs hol (by omega) (by omega) hsz2 hun fun H2 b u h1 h2 h3 h4 h5 => ?_
 unfold Later
 simp (disch := omega) only [↓wD,wU,↓reduceIte,reduceLT,reduceEqDiff,reduceSub,reduceAdd,reduceMul,reduceToNat,reduceLeDiff]
 rw [htxt,peOf_flat] at h1
 refine hQ H2 b u _ h1 (by omega) (fun x hx => by rw [h3 x (by omega),hA1 x hx]) (by omega) h5 ?_ ?_
 ·have : ∀ U : List Un,(U.flatMap peOf).length ≤ U.length := fun U => by
   induction U with
   | nil => simp
   | cons a L ih =>
    rw [List.flatMap_cons,List.length_append,List.length_cons]
    have : (peOf a).length ≤ 1 := by unfold peOf; split <;> simp
    omega
  exact Nat.le_trans (this _) (by omega)
 ·intro x hx
  obtain ⟨u',hu',hxu⟩ := List.mem_flatMap.1 hx
  obtain ⟨a,ha,hua⟩ := List.mem_flatMap.1 hu'
  unfold peOf at hxu
  unfold unitsOf at hua
  by_cases h0 : a.2.data.toList = []
  ·rw [if_pos h0] at hua
   split at hua
   ·simp at hua; subst hua; simp at hxu
   ·simp at hua
  ·rw [if_neg h0] at hua
   obtain ⟨y,hy,rfl⟩ := List.mem_map.1 hua
   simp [unB] at hxu
   subst hxu
   rcases hF.safe a ha with hq | ⟨_,hq⟩
   ·exact .inl hq
   ·exact .inr (hq y hy)
end
end Go.Ae
namespace Go.Ae
open Nat (reduceLT reduceEqDiff reduceSub reduceAdd reduceMul reduceLeDiff)
open Int (reduceToNat)
open Go
set_option maxRecDepth 100000
structure PatIs (K : Cx) : Prop extends FofIs K where
 i124 : Is K.P K.G0 124 F124
 i123 : Is K.P K.G0 123 F123
 i78 : Is K.P K.G0 78 F78
 i48 : Is K.P K.G0 48 F48
def atV (b : UInt8) : List Value := [.int .i64 1,.int .u8 (b.toNat : Nat),.int .u64 0,.int .u64 0,.int .u64 0,.int .u64 0]
def encA (b : UInt8) : List Value := [.agg (atV b).toArray]
def okA : List UInt8 → UInt8 → Prop := fun L _ => L.length ≤ 30000
def asg48 : ACode := (.ops [⟨some 5,.new [(.int .i64 0),(.int .u8 0),(.int .u64 0),(.int .u64 0),(.int .u64 0),(.int .u64 0)] 112,none⟩,
    ⟨none,.store (.tmp 5) (.tmp 8) 6,none⟩])
def body48 : ACode := (.block 1
    (.seq (.seq (.ops [⟨some 9,.faddr (.tmp 5) 0,none⟩,
     ⟨some 10,.load (.tmp 9) none,none⟩,
     ⟨some 11,.eqv true (.scalar .int) (.tmp 10) (.const (.int .i64 1)),none⟩])
    (.cond (.tmp 11)
     (.seq (.ops [⟨none,.store (.tmp 2) (.const (.string ⟨#[]⟩)) 1,none⟩,
      ⟨none,.store (.tmp 3) (.const (.bool false)) 1,none⟩])
     .ret)
     .skip))
    (.ops [⟨some 12,.load (.tmp 4) none,none⟩,
     ⟨some 13,.faddr (.tmp 5) 1,none⟩,
     ⟨some 14,.load (.tmp 13) none,none⟩,
     ⟨some 15,.mkslice 1 1 [(.int .u8 0)] [(0,1,.tmp 14)],none⟩,
     ⟨some 16,.app (.tmp 12) (.tmp 15) 1 5,none⟩,
     ⟨none,.store (.tmp 4) (.tmp 16) 1,none⟩])))
section
variable {K : Cx} {H : Heap}
theorem cells_at6 {b : Nat} (h : b = H.next) (x0 x1 x2 x3 x4 x5 : Value) (fz : Nat) (ty : Option TypeId) : cellsAt (H.push (.row [x0,x1,x2,x3,x4,x5] fz ty)) b 0 6 = some [x0,x1,x2,x3,x4,x5] := by subst h; exact cellsAt_push_self rfl
theorem Old.atom {n : Nat} (b : UInt8) : Old n (.agg (atV b).toArray) := ⟨_,VRs.agg (l := atV b) (VRs.flat rfl) fun x hx => by
 simp only [atV,List.mem_cons,List.not_mem_nil,or_false] at hx
 rcases hx with rfl | rfl | rfl | rfl | rfl | rfl <;> rfl⟩
theorem c124q (hK : Cfg K) (hS : PatIs K) {p : ByteArray} {a : Nat} {Q : Value → Heap → Prop} (ha : a + 1 < p.size) (hp : p.size ≤ 1000000) (h92 : byteAt p a = 92) (hQ : Q (.tuple #[.agg (atV (byteAt p (a + 1))).toArray,.int .i64 (a + 2 : Nat)]) H) : FC K 124 [.string p,.int .i64 (a : Nat)] H Q := by
 refine FC.forget ?_
 refine FC.of hK hS.i124 (by simp [F124]) ?_
 unfold F124
 have h1 : (((byteAt p a).toNat : Nat) : Int) = 92 := by rw [h92]; rfl
 have h2 : ((a : Nat) : Int) + 1 < p.size := by omega
 have e2 : ((a : Nat) : Int) + 2 = ((a + 2 : Nat) : Int) := by omega
 simp (disch := omega) only [↓wD,wU,↓reduceIte,reduceLT,reduceEqDiff,reduceSub,reduceAdd,reduceMul,reduceToNat,reduceLeDiff,eq_true h1,h2,decide_true,retQ_cells2,cells_at6,e2]
 refine ⟨by omega,by omega,?_⟩
 exact ⟨Agree.push _ (Nat.le_refl _),Old.two (Old.atom _) (Old.flat rfl),hQ⟩
theorem c124s (hK : Cfg K) (hS : PatIs K) {p : ByteArray} {a : Nat} {Q : Value → Heap → Prop} (ha : a < p.size) (hp : p.size ≤ 1000000) (hs : safeB (((byteAt p a).toNat : Nat) : Int) = true) (hQ : Q (.tuple #[.agg (atV (byteAt p a)).toArray,.int .i64 (a + 1 : Nat)]) H) : FC K 124 [.string p,.int .i64 (a : Nat)] H Q := by
 refine FC.forget ?_
 refine FC.of hK hS.i124 (by simp [F124]) ?_
 unfold F124
 obtain ⟨n92,_,_,_,_,_,_,_,n42,n63,n91⟩ := safeB_ne hs
 have e2 : ((a : Nat) : Int) + 1 = ((a + 1 : Nat) : Int) := by omega
 simp (disch := omega) only [↓wD,wU,↓reduceIte,reduceLT,reduceEqDiff,reduceSub,reduceAdd,reduceMul,reduceToNat,reduceLeDiff,n92,n42,n63,n91,decide_false,retQ_cells2,cells_at6,e2]
 refine ⟨by omega,by omega,?_⟩
 exact ⟨Agree.push _ (Nat.le_refl _),Old.two (Old.atom _) (Old.flat rfl),hQ⟩
theorem yd48 (hK : Cfg K) {l c4 : Nat} {f : Nat → Value} (f4 : f 4 = .pointer (some ⟨c4,0,none⟩)) (hne : c4 ≠ l) : Yd K l encA okA (Jc l c4 (mk 19 f) [8] asg48 body48 1 (fun b => [.int .u8 (b.toNat : Nat)]) (some 113)) where
 loc := fun h hf _ _ => h.loc hf
 low := fun h => h.low
 step := by
  rintro L D H b ⟨v,bo,rfl,h1,h2,h3,h4,h5⟩ hw hok
  have hok' : L.length ≤ 30000 := hok
  have hl := Heap.lt_of_get h1
  have hc := Heap.lt_of_get h2
  refine RC.mono (fun v H' h => ?_) (RC.keeps (round_all hK (Q := fun v H' => v = .bool true ∧ ∃ D',Jc l c4 (mk 19 f) [8] asg48 body48 1 (fun b => [.int .u8 (b.toNat : Nat)]) (some 113) (L ++ [b]) D' H' ∧ Mvd H H' (fun x => x = l ∨ x = c4 ∨ bo = some x) D') rfl h1 ?_))
  ·exact h.1
  show wpC K DrawD (some l) asg48 _ ((mk 19 f).set 8 (.agg (atV b).toArray)) H
  rw [show (mk 19 f).set 8 (.agg (atV b).toArray) = mk 19 (upv f 8 (.agg (atV b).toArray)) from put_mk 19 f 8 _]
  have ea : ∀ (X : AExit → List Value → Heap → Prop) (E : List Value) (H : Heap),wpC K DrawD (some l) asg48 X E H = wpC K DrawD (some l) (.ops [⟨some 5,.new [(.int .i64 0),(.int .u8 0),(.int .u64 0),(.int .u64 0),(.int .u64 0),(.int .u64 0)] 112,none⟩,
    ⟨none,.store (.tmp 5) (.tmp 8) 6,none⟩]) X E H := fun _ _ _ => rfl
  have eb : ∀ (X : AExit → List Value → Heap → Prop) (E : List Value) (H : Heap),wpC K DrawD (some l) body48 X E H = wpC K DrawD (some l) (.block 1
    (.seq (.seq (.ops [⟨some 9,.faddr (.tmp 5) 0,none⟩,
     ⟨some 10,.load (.tmp 9) none,none⟩,
     ⟨some 11,.eqv true (.scalar .int) (.tmp 10) (.const (.int .i64 1)),none⟩])
    (.cond (.tmp 11)
     (.seq (.ops [⟨none,.store (.tmp 2) (.const (.string ⟨#[]⟩)) 1,none⟩,
      ⟨none,.store (.tmp 3) (.const (.bool false)) 1,none⟩])
     .ret)
     .skip))
    (.ops [⟨some 12,.load (.tmp 4) none,none⟩,
     ⟨some 13,.faddr (.tmp 5) 1,none⟩,
     ⟨some 14,.load (.tmp 13) none,none⟩,
     ⟨some 15,.mkslice 1 1 [(.int .u8 0)] [(0,1,.tmp 14)],none⟩,
     ⟨some 16,.app (.tmp 12) (.tmp 15) 1 5,none⟩,
     ⟨none,.store (.tmp 4) (.tmp 16) 1,none⟩]))) X E H := fun _ _ _ => rfl
  rw [ea]
  unfold atV
  simp (disch := omega) only [↓wD,wU,↓reduceIte,reduceLT,reduceEqDiff,reduceSub,reduceAdd,reduceMul,reduceToNat,reduceLeDiff]
  refine ⟨h1,?_⟩
  rw [eb]
  generalize hB : some (Lp .busy none (mk 19 f) [8] asg48 body48) = oB
  generalize hG : (H.push (.row [.int .i64 1,.int .u8 (b.toNat : Nat),.int .u64 0,.int .u64 0,.int .u64 0,.int .u64 0] 0 (some 112))).set l oB = G
  have gG : ∀ x,x < H.next → x ≠ l → G.get x = H.get x := fun x hx hn => by rw [← hG,Heap.get_set_ne _ _ (Ne.symm hn),Heap.get_push_ne _ _ (by omega)]
  have nG : G.next = H.next + 1 := by rw [← hG]; simp
  have wG : G.wf := by rw [← hG]; exact Heap.wf_set _ _ (Heap.wf_push _ hw)
  have lG : G.get l = oB := by rw [← hG]; exact Heap.get_set_same _ _ (by rw [Heap.get_push_ne _ _ (by omega)]; exact h1)
  have uG : G.get H.next = some (.row [.int .i64 1,.int .u8 (b.toNat : Nat),.int .u64 0,.int .u64 0,.int .u64 0,.int .u64 0] 0 (some 112)) := by rw [← hG,Heap.get_set_ne _ _ (by omega),Heap.get_push_same]
  have k0 : cellAt G H.next 0 = some (.int .i64 1) := by rw [cellAt_of uG]; rfl
  have k1 : cellAt G H.next 1 = some (.int .u8 (b.toNat : Nat)) := by rw [cellAt_of uG]; rfl
  have cc : cellAt G c4 0 = some v := by rw [cellAt_row,rowOf,gG c4 hc hne,h2]; rfl
  have hlt := h3.lt
  simp (disch := omega) only [↓wD,wU,↓reduceIte,reduceLT,reduceEqDiff,reduceSub,reduceAdd,reduceMul,reduceToNat,reduceLeDiff,f4,k0,k1,cc,decide_true]
  refine wpItems_appO (xs := [.int .u8 (b.toNat : Nat)]) (m := 1) v (h3.frame fun x hx => gG x (hlt x hx) (fun e => h4 (by rw [hx,e]))) (by simp (disch := omega) only [↓wD,wU,↓reduceIte,reduceLT,reduceEqDiff,reduceSub,reduceAdd,reduceMul,reduceToNat,reduceLeDiff]) (by simp (disch := omega) only [↓wD,wU,↓reduceIte,reduceLT,reduceEqDiff,reduceSub,reduceAdd,reduceMul,reduceToNat,reduceLeDiff,nG]) rfl (by decide) (by unfold appMax; omega) fun c2' H3 h7 h8 h9 h10 => ?_
  have g3 : H3.get c4 = some (.row [v] 0 (some 113)) := by rw [h8 c4 (by omega) h5,gG c4 hc hne]; exact h2
  have w3 := h10 wG
  have l3 : H3.get l = oB := by rw [h8 l (by omega) h4]; exact lG
  simp (disch := omega) only [↓wD,wU,↓reduceIte,reduceLT,reduceEqDiff,reduceSub,reduceAdd,reduceMul,reduceToNat,reduceLeDiff,f4,g3]
  have fr : ∀ (o1 o2 : Option AObj) x,x < H.next → ¬ (x = l ∨ x = c4 ∨ bo = some x) → ((H3.set c4 o1).set l o2).get x = H.get x := fun o1 o2 x hx hd => by
   rw [Heap.get_set_ne _ _ (fun e => hd (.inl e.symm)),Heap.get_set_ne _ _ (fun e => hd (.inr (.inl e.symm))),h8 x (by omega) (fun e => hd (.inr (.inr e))),gG x hx (fun e => hd (.inl e))]
  have s3 : (H3.set c4 (some (.row [.slice (some ⟨G.next + 1,0,some 1⟩) (L.length + 1) c2'] 0 (some 113)))).get l = oB := by rw [Heap.get_set_ne _ _ hne]; exact l3
  refine ⟨s3,fun x => x = l ∨ x = c4 ∨ some (G.next + 1) = some x,⟨.slice (some ⟨G.next + 1,0,some 1⟩) (L.length + 1) c2',some (G.next + 1),rfl,?_,?_,?_,fun e => by simp at e; omega,fun e => by simp at e; omega⟩,⟨fun x hx hd => fr _ _ x hx hd,by simp; omega,fun x hx => ?_,Heap.wf_set _ _ (Heap.wf_set _ _ w3)⟩⟩
  ·exact Heap.get_set_same _ _ (by rw [s3,← hB])
  ·rw [Heap.get_set_ne _ _ (Ne.symm hne),Heap.get_set_same _ _ g3]
  ·rw [List.length_append,List.flatMap_append]
   simp only [List.flatMap_cons,List.flatMap_nil,List.append_nil]
   exact h7.frame fun x hx => by
    simp at hx
    rw [Heap.get_set_ne _ _ (by omega),Heap.get_set_ne _ _ (by omega)]
  ·rcases hx with hx | hx | hx
   ·exact .inl (.inl hx)
   ·exact .inl (.inr (.inl hx))
   ·simp at hx; exact .inr (by omega)
end
end Go.Ae
namespace Go.Ae
open Nat (reduceLT reduceEqDiff reduceSub reduceAdd reduceMul reduceLeDiff)
open Int (reduceToNat)
open Go
set_option maxRecDepth 100000
def patB (PE : List Pe) : ByteArray := ⟨(PE.flatMap peL).toArray⟩
theorem patB_size (PE : List Pe) : (patB PE).size = (PE.flatMap peL).length := size_mk _
theorem peL_len (x : Pe) : 1 ≤ (peL x).length ∧ (peL x).length ≤ 2 := by unfold peL; split <;> simp
theorem pe_flat_len (PE : List Pe) : (PE.flatMap peL).length ≤ 2 * PE.length := by
 induction PE with
 | nil => simp
 | cons a L ih => rw [List.flatMap_cons,List.length_append,List.length_cons]; have := (peL_len a).2; omega
theorem getD_app {X Y : List UInt8} {i : Nat} (k : Nat) (h : i = X.length + k) : (X ++ Y).getD i 0 = Y.getD k 0 := by
 subst h
 rw [List.getD_eq_getElem?_getD,List.getElem?_append_right (by omega),List.getD_eq_getElem?_getD,show X.length + k - X.length = k by omega]
theorem pe_at {PE : List Pe} {i : Nat} {x : Pe} (h : PE[i]? = some x) {a : Nat} (ha : a = ((PE.take i).flatMap peL).length) :
  a + (peL x).length ≤ (patB PE).size ∧ ((PE.take (i + 1)).flatMap peL).length = a + (peL x).length ∧ (x.1 = true → byteAt (patB PE) a = 92 ∧ byteAt (patB PE) (a + 1) = x.2) ∧ (x.1 = false → byteAt (patB PE) a = x.2) := by
 obtain ⟨A,B,rfl,rfl⟩ := split_at h
 rw [List.take_left] at ha
 have hd : (patB (A ++ x :: B)).data.toList = A.flatMap peL ++ (peL x ++ B.flatMap peL) := by
  unfold patB; simp
 have tk : (A ++ x :: B).take (A.length + 1) = A ++ [x] := by
  rw [List.take_append,List.take_of_length_le (by omega)]; simp
 refine ⟨?_,?_,fun hx => ⟨?_,?_⟩,fun hx => ?_⟩
 ·rw [← size_data,hd,List.length_append,List.length_append]; omega
 ·rw [tk,List.flatMap_append,List.length_append,ha]; simp
 ·unfold byteAt
  rw [hd,getD_app 0 (by omega)]
  unfold peL; rw [if_pos hx]; rfl
 ·unfold byteAt
  rw [hd,getD_app 1 (by omega)]
  unfold peL; rw [if_pos hx]; rfl
 ·unfold byteAt
  rw [hd,getD_app 0 (by omega)]
  unfold peL; rw [if_neg (by simp [hx])]; rfl
section
variable {K : Cx} {H : Heap}
set_option maxHeartbeats 1000000 in
theorem c123 (hK : Cfg K) (hS : PatIs K) {l sc : Nat} {J : List UInt8 → Names → Heap → Prop} (hY : Yd K l encA okA J) {D0 : Names} {PE : List Pe} {tyw : Option TypeId} {Q : Value → Heap → Prop}
  (hw : H.wf) (hsc : H.get sc = some (.row [.string (patB PE)] 0 tyw)) (hd : ¬ D0 sc) (hJ : J [] D0 H) (hlen : PE.length ≤ 30000) (hsafe : ∀ x ∈ PE,x.1 = true ∨ safeB ((x.2.toNat : Nat) : Int) = true)
  (hQ : ∀ H' L D',J L D' H' → Mvd H H' D0 D' → Q (.tuple #[]) H') : FC K 123 [.func (.yield l) #[] #[],.pointer (some ⟨sc,0,none⟩)] H Q := by
 refine FC.of hK hS.i123 (by simp [F123]) ?_
 unfold F123
 have hpl := pe_flat_len PE
 have hps := patB_size PE
 have hsl := Heap.lt_of_get hsc
 simp (disch := omega) only [↓wD,wU,↓reduceIte,reduceLT,reduceEqDiff,reduceSub,reduceAdd,reduceMul,reduceToNat,reduceLeDiff]
 refine loop_ind (fun m E H' => ∃ (f : Nat → Value) (i a : Nat) (D : Names),E = mk 21 f ∧ f 0 = .func (.yield l) #[] #[] ∧ f 1 = .pointer (some ⟨sc,0,none⟩) ∧ f 3 = .int .i64 (a : Nat) ∧ a = ((PE.take i).flatMap peL).length ∧ m + i = PE.length + 1 ∧ i ≤ PE.length ∧
  J ((PE.take i).map fun x => x.2) D H' ∧ Mvd H H' D0 D) (n := PE.length + 1) ?_ ?_
 ·exact ⟨_,0,0,D0,rfl,rfl,rfl,rfl,rfl,by omega,by omega,hJ,.refl hw⟩
 rintro I m E H' ⟨f,i,a,D,rfl,f0,f1,f3,ha,hm,hi,hj,hM⟩ hI
 have hsc' : H'.get sc = some (.row [.string (patB PE)] 0 tyw) := by rw [hM.get sc hsl hd]; exact hsc
 have cs : cellAt H' sc 0 = some (.string (patB PE)) := by rw [cellAt_of hsc']; rfl
 by_cases hlt : i < PE.length
 ·obtain ⟨x,hx⟩ : ∃ x,PE[i]? = some x := ⟨_,List.getElem?_eq_getElem hlt⟩
  obtain ⟨p1,p2,p3,p4⟩ := pe_at hx ha
  obtain ⟨q1,q2⟩ := peL_len x
  have hik : ((a : Nat) : Int) < (patB PE).size := by omega
  have tk : (PE.take (i + 1)).map (fun x => x.2) = (PE.take i).map (fun x => x.2) ++ [x.2] := by rw [List.take_succ,hx,List.map_append]; rfl
  have hlo := hY.low hj
  have next : ∀ (f' : Nat → Value),f' 0 = f 0 → f' 1 = f 1 → True := fun _ _ _ => trivial
  simp (disch := omega) only [↓wD,wU,↓reduceIte,reduceLT,reduceEqDiff,reduceSub,reduceAdd,reduceMul,reduceToNat,reduceLeDiff,f0,f1,f3,cs,hik,decide_true]
  cases hx1 : x.1
  ·have hl1 : (peL x).length = 1 := by unfold peL; rw [if_neg (by simp [hx1])]; rfl
   have hb := p4 hx1
   refine c124s hK hS (by omega) (by omega) (by rw [hb]; exact (hsafe x (List.mem_of_getElem? hx)).resolve_left (by simp [hx1])) ?_
   unfold Later
   rw [hb]
   unfold atV
   simp (disch := omega) only [↓wD,wU,↓reduceIte,reduceLT,reduceEqDiff,reduceSub,reduceAdd,reduceMul,reduceToNat,reduceLeDiff,f0,f1,f3,cells_at6]
   refine RC.mono (fun v5 H5 h5 => ?_) (hY.step (a := x.2) (hY.loc hj (fun y hy => Heap.get_push_ne _ _ (Nat.ne_of_lt (hlo y hy))) (by simp) (Heap.wf_push _ hM.wf)) (Heap.wf_push _ hM.wf) (show ((PE.take i).map fun x => x.2).length ≤ 30000 by rw [List.length_map,List.length_take]; omega))
   obtain ⟨rfl,D5,j5,m5⟩ := h5
   unfold Later
   simp (disch := omega) only [↓wD,wU,↓reduceIte,reduceLT,reduceEqDiff,reduceSub,reduceAdd,reduceMul,reduceToNat,reduceLeDiff,f0,f1,f3]
   refine hI _ _ _ (show m - 1 < m by omega) ?_
   refine ⟨_,i + 1,a + 1,D5,rfl,f0,f1,rfl,by rw [p2,hl1],by omega,by omega,by rw [tk]; exact j5,hM.trans ⟨fun y hy hd => ?_,?_,fun y hy => ?_,m5.wf⟩⟩
   ·rw [m5.get y (by simp; omega) hd,Heap.get_push_ne _ _ (by omega)]
   ·have := m5.next; simp at this; omega
   ·rcases m5.new y hy with e | e
    ·exact .inl e
    ·simp at e; exact .inr (by omega)
  ·have hl1 : (peL x).length = 2 := by unfold peL; rw [if_pos hx1]; rfl
   obtain ⟨hb,hb2⟩ := p3 hx1
   refine c124q hK hS (by omega) (by omega) hb ?_
   unfold Later
   rw [hb2]
   unfold atV
   simp (disch := omega) only [↓wD,wU,↓reduceIte,reduceLT,reduceEqDiff,reduceSub,reduceAdd,reduceMul,reduceToNat,reduceLeDiff,f0,f1,f3,cells_at6]
   refine RC.mono (fun v5 H5 h5 => ?_) (hY.step (a := x.2) (hY.loc hj (fun y hy => Heap.get_push_ne _ _ (Nat.ne_of_lt (hlo y hy))) (by simp) (Heap.wf_push _ hM.wf)) (Heap.wf_push _ hM.wf) (show ((PE.take i).map fun x => x.2).length ≤ 30000 by rw [List.length_map,List.length_take]; omega))
   obtain ⟨rfl,D5,j5,m5⟩ := h5
   unfold Later
   simp (disch := omega) only [↓wD,wU,↓reduceIte,reduceLT,reduceEqDiff,reduceSub,reduceAdd,reduceMul,reduceToNat,reduceLeDiff,f0,f1,f3]
   refine hI _ _ _ (show m - 1 < m by omega) ?_
   refine ⟨_,i + 1,a + 2,D5,rfl,f0,f1,rfl,by rw [p2,hl1],by omega,by omega,by rw [tk]; exact j5,hM.trans ⟨fun y hy hd => ?_,?_,fun y hy => ?_,m5.wf⟩⟩
   ·rw [m5.get y (by simp; omega) hd,Heap.get_push_ne _ _ (by omega)]
   ·have := m5.next; simp at this; omega
   ·rcases m5.new y hy with e | e
    ·exact .inl e
    ·simp at e; exact .inr (by omega)
 ·have e0 : i = PE.length := by omega
  subst e0
  rw [List.take_length] at ha
  have hik : ¬ ((a : Nat) : Int) < (patB PE).size := by omega
  simp (disch := omega) only [↓wD,wU,↓reduceIte,reduceLT,reduceEqDiff,reduceSub,reduceAdd,reduceMul,reduceToNat,reduceLeDiff,f0,f1,f3,cs,hik,decide_false]
  exact hQ _ _ D hj hM
def cellOf (H : Heap) : Value → Option Value
 | .pointer (some p) => cellAt H p.block p.off
 | _ => none
theorem resOne_cell (t : Tmp) (E : List Value) (H : Heap) : resOne E H (.cell t none) = cellOf H (ev E (.tmp t)) := by
 simp only [resOne,aop]
 generalize ev E (.tmp t) = v
 cases v <;> try (simp [cellOf]; done)
 rename_i p
 cases p with
 | none => simp [cellOf]
 | some p =>
  simp only [cellOf,cellAt]
  cases cellsAt H p.block p.off 1 with
  | none => simp
  | some l => cases l <;> simp
theorem cellOf_ptr (H : Heap) (p : Addr) : cellOf H (.pointer (some p)) = cellAt H p.block p.off := _root_.id rfl
theorem retQ_cc (t u : Tmp) (Q : Value → Heap → Prop) (E : List Value) (H : Heap) : retQ [.cell t none,.cell u none] Q .ret E H = (match cellOf H (ev E (.tmp t)),cellOf H (ev E (.tmp u)) with
  | some c,some d => Q (.tuple #[c,d]) H
  | _,_ => False) := by
 have e : retQ [.cell t none,.cell u none] Q .ret E H = ∃ vs,resA E H [.cell t none,.cell u none] = some vs ∧ Q (tupleA vs) H := rfl
 rw [e]
 simp only [resA,resOne_cell]
 cases cellOf H (ev E (.tmp t)) <;> cases cellOf H (ev E (.tmp u)) <;> simp [tupleA]
theorem c48 (hK : Cfg K) (hS : PatIs K) {PE : List Pe} {Q : Value → Heap → Prop} (hlen : PE.length ≤ 30000) (hsafe : ∀ x ∈ PE,x.1 = true ∨ safeB ((x.2.toNat : Nat) : Int) = true) (hQ : ∀ s : ByteArray,Q (.tuple #[.string s,.bool true]) H) : FC K 48 [.string (patB PE)] H Q := by
 refine FC.forget (FC.wf0 fun hw => ?_)
 refine FC.of hK hS.i48 (by simp [F48]) ?_
 unfold F48
 simp (disch := omega) only [↓wD,wU,↓reduceIte,reduceLT,reduceEqDiff,reduceSub,reduceAdd,reduceMul,reduceToNat,reduceLeDiff]
 refine FC.of hK hS.i78 (by simp [F78]) ?_
 unfold F78
 simp (disch := omega) only [↓wD,wU,↓reduceIte,reduceLT,reduceEqDiff,reduceSub,reduceAdd,reduceMul,reduceToNat,reduceLeDiff]
 unfold Later
 simp (disch := omega) only [↓wD,wU,↓reduceIte,reduceLT,reduceEqDiff,reduceSub,reduceAdd,reduceMul,reduceToNat,reduceLeDiff,wpC_rfunc,callR_func]
 refine ⟨by simp,hS.i123.isFn,?_⟩
 generalize hf : (upv (upv (upv (upv (upv (argf [Value.string (patB PE)]) 2 (Value.pointer (some ⟨H.next,0,none⟩))) 3 (Value.pointer (some ⟨H.next + 1,0,none⟩))) 4 (Value.pointer (some ⟨H.next + 2,0,none⟩))) 6 (Value.string (patB PE))) 7 (Value.func (Fn.func 123) #[] #[Value.pointer (some ⟨H.next + 3,0,none⟩)])) = f
 have f2 : f 2 = .pointer (some ⟨H.next,0,none⟩) := by rw [← hf]; rfl
 have f3 : f 3 = .pointer (some ⟨H.next + 1,0,none⟩) := by rw [← hf]; rfl
 have f4 : f 4 = .pointer (some ⟨H.next + 2,0,none⟩) := by rw [← hf]; rfl
 have w1 := Heap.wf_push (.row [.string ⟨#[]⟩] 0 (some 9)) hw
 have w2 := Heap.wf_push (.row [.bool false] 0 (some 4)) w1
 have w3 := Heap.wf_push (.row [.slice none 0 0] 0 (some 113)) w2
 have w4 := Heap.wf_push (.row [.string (patB PE)] 0 (some 9)) w3
 generalize hG : (((H.push (.row [.string ⟨#[]⟩] 0 (some 9))).push (.row [.bool false] 0 (some 4))).push (.row [.slice none 0 0] 0 (some 113))).push (.row [.string (patB PE)] 0 (some 9)) = G at w4 ⊢
 have nG : G.next = H.next + 4 := by rw [← hG]; rfl
 have g0 : G.get H.next = some (.row [.string ⟨#[]⟩] 0 (some 9)) := by rw [← hG,Heap.get_push_ne _ _ (by simp only [Heap.next_push]; omega),Heap.get_push_ne _ _ (by simp only [Heap.next_push]; omega),Heap.get_push_ne _ _ (by simp only [Heap.next_push]; omega),Heap.get_push_same]
 have g1 : G.get (H.next + 1) = some (.row [.bool false] 0 (some 4)) := by rw [← hG,Heap.get_push_ne _ _ (by simp only [Heap.next_push]; omega),Heap.get_push_ne _ _ (by simp only [Heap.next_push]; omega)]; exact Heap.get_push_same (H.push _) _
 have g2 : G.get (H.next + 2) = some (.row [.slice none 0 0] 0 (some 113)) := by rw [← hG,Heap.get_push_ne _ _ (by simp only [Heap.next_push]; omega)]; exact Heap.get_push_same ((H.push _).push _) _
 have g3 : G.get (H.next + 3) = some (.row [.string (patB PE)] 0 (some 9)) := by rw [← hG]; exact Heap.get_push_same (((H.push _).push _).push _) _
 have gH : Agree H.next H G := fun x hx => by rw [← hG,Heap.get_push_ne _ _ (by simp only [Heap.next_push]; omega),Heap.get_push_ne _ _ (by simp only [Heap.next_push]; omega),Heap.get_push_ne _ _ (by simp only [Heap.next_push]; omega),Heap.get_push_ne _ _ (by omega)]
 rw [← nG]
 refine c123 hK hS (J := Jc G.next (H.next + 2) (mk 19 f) [8] asg48 body48 1 (fun b => [.int .u8 (b.toNat : Nat)]) (some 113)) (yd48 hK f4 (by omega)) (D0 := fun x => x = G.next ∨ x = H.next + 2 ∨ none = some x) (Heap.wf_push _ w4) (Heap.get_push_old g3) (by simp; omega)
  ⟨_,none,rfl,Heap.get_push_same _ _,Heap.get_push_old g2,⟨rfl,rfl,rfl⟩,by simp,by simp⟩ hlen hsafe fun H' L D' hJ hM => ?_
 obtain ⟨v,bo,rfl,h1,h2,h3,h4,h5⟩ := hJ
 refine end_all h1 ?_
 have hn' := hM.next
 simp only [Heap.next_push] at hn'
 have hbyte : L.flatMap (fun b => [Value.int .u8 (b.toNat : Nat)]) = byteVs L := by
  unfold byteVs
  rw [List.flatMap_def]
  clear h3 hM hn'
  induction L with
  | nil => rfl
  | cons b L ih => rw [List.map_cons,List.map_cons,List.flatten_cons,ih]; rfl
 rw [hbyte] at h3
 generalize hB : H'.set G.next none = B
 have kB : ∀ x,x ≠ G.next → B.get x = H'.get x := fun x hx => by rw [← hB,Heap.get_set_ne _ _ (Ne.symm hx)]
 have r0 : B.get H.next = some (.row [.string ⟨#[]⟩] 0 (some 9)) := by rw [kB _ (by omega),hM.get _ (by simp; omega) (by simp; omega)]; exact Heap.get_push_old g0
 have r1 : B.get (H.next + 1) = some (.row [.bool false] 0 (some 4)) := by rw [kB _ (by omega),hM.get _ (by simp; omega) (by simp; omega)]; exact Heap.get_push_old g1
 have c4 : cellAt B (H.next + 2) 0 = some v := by rw [cellAt_row,rowOf,kB _ (by omega),h2]; rfl
 have oB : OwO B bo v 1 L.length (byteVs L) := h3.frame fun x hx => kB x (fun e => h4 (by rw [hx,e]))
 simp (disch := omega) only [↓wD,wU,↓reduceIte,reduceLT,reduceEqDiff,reduceSub,reduceAdd,reduceMul,reduceToNat,reduceLeDiff,f2,f3,f4,c4]
 refine wpItems_toStrO v oB (by simp (disch := omega) only [↓wD,wU,↓reduceIte,reduceLT,reduceEqDiff,reduceSub,reduceAdd,reduceMul,reduceToNat,reduceLeDiff]) ?_
 have r1' : ∀ o : AObj,(B.set H.next (some o)).get (H.next + 1) = some (.row [.bool false] 0 (some 4)) := fun o => by rw [Heap.get_set_ne _ _ (by omega)]; exact r1
 have e0 : ∀ o p : AObj,cellAt ((B.set H.next (some o)).set (H.next + 1) (some p)) H.next 0 = cellAt (B.set H.next (some o)) H.next 0 := fun o p => cellAt_set_ne (by omega)
 have e1 : ∀ (cs : List Value),cellAt (B.set H.next (some (.row cs 0 (some 9)))) H.next 0 = cs[0]? := fun cs => cellAt_set_self r0
 have e2 : ∀ (o : AObj) (cs : List Value),cellAt ((B.set H.next (some o)).set (H.next + 1) (some (.row cs 0 (some 4)))) (H.next + 1) 0 = cs[0]? := fun o cs => cellAt_set_self (r1' o)
 simp (disch := omega) only [↓wD,wU,↓reduceIte,reduceLT,reduceEqDiff,reduceSub,reduceAdd,reduceMul,reduceToNat,reduceLeDiff,f2,f3,f4,r0,r1',retQ_cc,cellOf_ptr,e0,e1,e2]
 refine ⟨fun x hx => ?_,Old.two (Old.flat rfl) (Old.flat rfl),hQ _⟩
 rw [Heap.get_set_ne _ _ (by omega),Heap.get_set_ne _ _ (by omega),kB x (by omega),hM.get x (by simp; omega) (by simp; omega),Heap.get_push_ne _ _ (by omega),gH x hx]
end
end Go.Ae
namespace Go.Ae
open Nat (reduceLT reduceEqDiff reduceSub reduceAdd reduceMul reduceLeDiff)
open Int (reduceToNat)
open Go
set_option maxRecDepth 100000
structure PathIs (K : Cx) : Prop extends StrIs K where
 i61 : Is K.P K.G0 61 F61
def Stable2 (l b : Nat) (P : Heap → Prop) : Prop := ∀ H H',P H → (∀ x,x ≠ l → x ≠ b → H'.get x = H.get x) → H'.next = H.next → P H'
theorem setPs_mk1 (n : Nat) (f : Nat → Value) (p : Nat) (v : Value) : setPs (mk n f) [p] [v] = mk n (upv f p v) := by
 show (mk n f).set p v = _
 exact put_mk n f p v
theorem asg1 {K : Cx} {l : Nat} {n : Nat} {f : Nat → Value} {p d : Nat} (hp : p < n) (v : Value) (H : Heap) (Z : List Value → Heap → Prop) (hZ : Z (mk n (upv (upv f p v) d v)) H) :
  wpC K DrawD (some l) (.ops [⟨some d,.mv (.tmp p),none⟩]) (fun e E1 H1 => match e with | .normal => Z E1 H1 | _ => False) (setPs (mk n f) [p] [v]) H := by
 rw [setPs_mk1]
 rw [wpC_ops,wpItems_mv,wpItems_nil,put_mk,ev_mk,if_pos hp]
 have : upv f p v p = v := by simp [upv]
 rw [this]
 exact hZ
theorem range_parts {K : Cx} (hK : Cfg K) (hS : StrIs K) {G : Heap} {n : Nat} {f : Nat → Value} {p d : Nat} {body : ACode} {Y : AExit → Heap → Prop} {b : Nat} {s : ByteArray} {ty : Option TypeId} (hw : G.wf) (hb : G.get b = some (.row [.string s] 0 ty)) (hs : s.size ≤ 1000000) (hpn : p < n)
  (P : List (List UInt8) → Heap → Prop) (F : AExit → Heap → Prop) (hst : ∀ r,Stable2 G.next b (P r)) (hsf : ∀ e,Stable2 G.next b (F e))
  (hP : P (splitL s.data.toList) (G.push (Lp .ready none (mk n f) [p] (.ops [⟨some d,.mv (.tmp p),none⟩]) body)))
  (hbody : ∀ t ps H1 L,P (t :: ps) H1 → H1.wf → G.next < H1.next → H1.get b = none → H1.get G.next = some (.loop L) →
   wpC K DrawD (some G.next) body (fun e _ H3 => H3.wf ∧ H3.get G.next = some (.loop L) ∧ (match e with | .normal => P ps H3 | e => F e H3)) (mk n (upv (upv f p (.string ⟨t.toArray⟩)) d (.string ⟨t.toArray⟩))) H1)
  (hN : ∀ H',P [] H' → H'.wf → Y .normal H') (hF : ∀ e H',(exitJump e).isSome = true → F e H' → H'.wf → Y e H') :
  isFn K 110 ∧ FC K 110 [.func (.yield G.next) #[] #[],.pointer (some ⟨b,0,none⟩)] (G.push (Lp .ready none (mk n f) [p] (.ops [⟨some d,.mv (.tmp p),none⟩]) body)) (fun _ H' => endLoopA G.next Y H') := by
 refine ⟨hS.i110.isFn,?_⟩
 generalize hasg0 : ACode.ops [⟨some d,.mv (.tmp p),none⟩] = asg at *
 generalize hE : mk n f = E at *
 have hbl := Heap.lt_of_get hb
 have hg : (G.push (Lp .ready none E [p] asg body)).get b = some (.row [.string s] 0 ty) := Heap.get_push_old hb
 have hw1 : (G.push (Lp .ready none E [p] asg body)).wf := Heap.wf_push _ hw
 have hfr := free_hole hw1 hg
 rw [← heap_hole hg]
 have st1 : ∀ r,Stable G.next (P r) := fun r H H' h1 h2 h3 => hst r H H' h1 (fun x hx _ => h2 x hx) h3
 have sf1 : ∀ e,Stable G.next (F e) := fun e H H' h1 h2 h3 => hsf e H H' h1 (fun x hx _ => h2 x hx) h3
 refine c110 hK hS (J := fun r H => Rdy G.next E [p] asg body (P r) H ∧ G.next < H.next) (N := fun H => Fin G.next E [p] asg body F H)
  (fun t ps H hJ hf => ?_) (fun H' t hf h => ?_) ⟨⟨?_,hfr.wf,?_⟩,by simp⟩ hfr (by omega)
 ·refine RC.mono (fun v H' h => ?_) (RC.keeps (round_step' hK (P0 := P (t :: ps)) (P := P ps) (F := F) (st1 (t :: ps)) (st1 ps) sf1 (args := [.string ⟨t.toArray⟩]) (E1 := mk n (upv (upv f p (.string ⟨t.toArray⟩)) d (.string ⟨t.toArray⟩))) rfl hJ.1
   (fun Z hZ => by subst hasg0; subst hE; exact asg1 hpn _ H Z hZ) fun H1 h1 h2 h3 h4 h5 => hbody t ps H1 _ h1 h2 (by have := hJ.2; omega) (by rw [h5 b (by omega)]; exact hf.none) h4))
  obtain ⟨h,hwf,hfree⟩ := h
  rcases h with ⟨rfl,h⟩ | ⟨rfl,h⟩
  ·exact .inl ⟨rfl,h,Heap.lt_of_get h.get⟩
  ·exact .inr ⟨rfl,h⟩
 ·have hx : ∀ x,x ≠ b → (H'.set b (some (.row [.string t] 0 ty))).get x = H'.get x := fun x hx => Heap.get_set_ne _ _ (Ne.symm hx)
  refine rounds_end (E := E) (ps := [p]) (asg := asg) (body := body) (P := P []) (F := F) ?_ (fun H2 h1 h2 h3 h4 h5 => hN H2 (st1 [] _ _ h1 h4 h3) h2) (fun e H2 h0 h1 h2 h3 h4 h5 => hF e H2 h0 (sf1 e _ _ h1 h4 h3) h2)
  rcases h with h | ⟨e,h1,h2,h3,h4⟩
  ·exact .inl ⟨hst [] _ _ h.1.p (fun x _ h2 => hx x h2) (by simp),Heap.wf_set _ _ h.1.wf,by rw [hx _ (by omega)]; exact h.1.get⟩
  ·exact .inr ⟨e,h1,hsf e _ _ h2 (fun x _ h2 => hx x h2) (by simp),Heap.wf_set _ _ h3,by rw [hx _ (by omega)]; exact h4⟩
 ·exact hst _ _ _ hP (fun x _ h2 => Heap.get_set_ne _ _ (Ne.symm h2)) (by simp)
 ·rw [Heap.get_set_ne _ _ (by omega),Heap.get_push_same]
def isPathB (s : ByteArray) : Bool := decide (s = ⟨#[47]⟩) || (decide (1 ≤ s.size ∧ s.extract 0 1 = ⟨#[47]⟩) && (splitL (s.extract 1 s.size).data.toList).all fun p => isNameB ⟨p.toArray⟩)
theorem isPathB_pos {s : ByteArray} (h : isPathB s = true) : 0 < s.size := by
 simp only [isPathB,Bool.or_eq_true,decide_eq_true_eq,Bool.and_eq_true] at h
 rcases h with h | h
 ·rw [h]; decide
 ·exact h.1.1
theorem c61 {K : Cx} (hK : Cfg K) (hS : PathIs K) {s : ByteArray} {H : Heap} {Q : Value → Heap → Prop} (hs : s.size ≤ 1000000) (hQ : Q (.bool (isPathB s)) H) : FC K 61 [.string s] H Q := by
 refine FC.forget (FC.wf0 fun hw => ?_)
 have hQ' : ∀ b H',b = isPathB s → Agree H.next H H' → Agree H.next H H' ∧ Old H.next (.bool b) ∧ Q (.bool b) H := fun b H' h ha => ⟨ha,.bool b,by rw [h]; exact hQ⟩
 refine FC.of hK hS.i61 (by simp [F61]) ?_
 unfold F61
 have hg0 := Heap.get_push_same H (.row [.bool false] 0 (some 4))
 have hA0 : ∀ o,Agree H.next H (H.push o) := fun o => Agree.push o (Nat.le_refl _)
 simp (disch := omega) only [↓wD,wU,↓reduceIte,reduceLT,reduceEqDiff,reduceSub,reduceAdd,reduceMul,reduceToNat,reduceLeDiff,retQ_cell,hg0]
 split
 ·rename_i h
  exact hQ' _ _ (by simp [isPathB,h]) (hA0 _)
 rename_i hne
 refine c70 hK hS.toStrIs ?_
 unfold Later
 simp (disch := omega) only [↓wD,wU,↓reduceIte,reduceLT,reduceEqDiff,reduceSub,reduceAdd,reduceMul,reduceToNat,reduceLeDiff,retQ_cell,hg0]
 split
 ·rename_i h
  refine hQ' _ _ ?_ (hA0 _)
  have hf : ¬ (1 ≤ s.size ∧ s.extract 0 1 = ⟨#[47]⟩) := fun hc => by rw [decide_eq_true hc] at h; cases h
  simp only [isPathB,hf,decide_false,Bool.false_and,Bool.or_false]
  exact (decide_eq_false hne).symm
 rename_i hpre
 have hp : 1 ≤ s.size ∧ s.extract 0 1 = ⟨#[47]⟩ := by
  by_cases h : 1 ≤ s.size ∧ s.extract 0 1 = ⟨#[47]⟩
  ·exact h
  ·simp [h] at hpre
 have hval : isPathB s = (splitL (s.extract 1 s.size).data.toList).all fun p => isNameB ⟨p.toArray⟩ := by
  unfold isPathB
  rw [decide_eq_false hne,decide_eq_true hp]; simp
 rw [bound_if ⟨by omega,by omega⟩]
 refine c71 hK hS.toStrIs ?_
 unfold Later
 simp (disch := omega) only [↓wD,wU,↓reduceIte,reduceLT,reduceEqDiff,reduceSub,reduceAdd,reduceMul,reduceToNat,reduceLeDiff,wpC_rfunc,callR_func]
 refine ⟨fun _ h => (by cases h),?_⟩
 refine range_parts hK hS.toStrIs (Heap.wf_push _ (Heap.wf_push _ hw)) (Heap.get_push_same _ _) (by simp only [ByteArray.size_extract]; omega) (by decide)
  (fun ps H' => isPathB s = (ps.all fun p => isNameB ⟨p.toArray⟩) ∧ (∃ v : Bool,H'.get H.next = some (.row [.bool v] 0 (some 4))) ∧ Agree H.next H H') (fun e H' => e = .ret ∧ isPathB s = false ∧ H'.get H.next = some (.row [.bool false] 0 (some 4)) ∧ Agree H.next H H') (fun r => ?_) (fun e => ?_) ⟨hval,⟨false,?_⟩,?_⟩ ?_ ?_ ?_
 ·rintro H1 H2 ⟨h0,⟨v,h1⟩,h2⟩ h3 h4
  exact ⟨h0,⟨v,by rw [h3 _ (by simp; omega) (by simp)]; exact h1⟩,fun x hx => by rw [h3 x (by simp; omega) (by simp; omega)]; exact h2 x hx⟩
 ·rintro H1 H2 ⟨h0,h5,h1,h2⟩ h3 h4
  exact ⟨h0,h5,by rw [h3 _ (by simp; omega) (by simp)]; exact h1,fun x hx => by rw [h3 x (by simp; omega) (by simp; omega)]; exact h2 x hx⟩
 ·exact Heap.get_push_old (Heap.get_push_old hg0)
 ·exact ((hA0 _).trans (Agree.push _ (by simp))).trans (Agree.push _ (by simp; omega))
 ·rintro t ps H1 L ⟨h0,⟨v,h1⟩,h2⟩ hw1 hn1 hb1 hL
  simp (disch := omega) only [↓wD,wU,↓reduceIte,reduceLT,reduceEqDiff,reduceSub,reduceAdd,reduceMul,reduceToNat,reduceLeDiff]
  refine c101 hK hS.toStrIs ?_
  unfold Later
  rw [List.all_cons] at h0
  cases hb : isNameB ⟨t.toArray⟩
  ·simp (disch := omega) only [↓wD,wU,↓reduceIte,reduceLT,reduceEqDiff,reduceSub,reduceAdd,reduceMul,reduceToNat,reduceLeDiff,h1]
   rw [hb,Bool.false_and] at h0
   refine ⟨Heap.wf_set _ _ hw1,?_,h0,?_,?_⟩
   ·rw [Heap.get_set_ne _ _ (by simp)]; exact hL
   ·rw [Heap.get_set_same _ _ h1]
   ·exact h2.trans (Agree.set _ (Nat.le_refl _))
  ·simp (disch := omega) only [↓wD,wU,↓reduceIte,reduceLT,reduceEqDiff,reduceSub,reduceAdd,reduceMul,reduceToNat,reduceLeDiff]
   rw [hb,Bool.true_and] at h0
   exact ⟨hw1,hL,h0,⟨v,h1⟩,h2⟩
 ·rintro H1 ⟨h0,⟨v,h1⟩,h2⟩ hw1
  simp (disch := omega) only [↓wD,wU,↓reduceIte,reduceLT,reduceEqDiff,reduceSub,reduceAdd,reduceMul,reduceToNat,reduceLeDiff,h1,retQ_cell]
  rw [cellAt_set_self h1]
  exact hQ' _ _ (by rw [h0]; rfl) (h2.trans (Agree.set _ (Nat.le_refl _)))
 ·rintro e H1 he ⟨rfl,h5,h1,h2⟩ hw1
  simp (disch := omega) only [↓wD,wU,↓reduceIte,reduceLT,reduceEqDiff,reduceSub,reduceAdd,reduceMul,reduceToNat,reduceLeDiff,retQ_cell,cellAt_of h1]
  exact hQ' _ _ h5.symm h2
end Go.Ae
