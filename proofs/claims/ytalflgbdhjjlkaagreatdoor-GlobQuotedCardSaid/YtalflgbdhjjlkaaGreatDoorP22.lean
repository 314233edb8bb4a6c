/- Part 22 of the proof of the law: Ce24. No condition. -/
import Derived.Test.YtalflgbdhjjlkaaGreatDoorP21
set_option linter.all false
namespace Go.Ae
open Nat (reduceLT reduceEqDiff reduceSub reduceAdd reduceMul reduceLeDiff)
open Int (reduceToNat)
open Go
set_option maxRecDepth 100000
structure QuoIs (K : Cx) : Prop extends ClassIs K,StrIs K,BdIs K where
 x208 : ∀ (args : List Value) (H : Heap) (Q : Value → Heap → Prop),((spCount args H).sat fun p => Q p.1 p.2) → FC K 208 args H Q
 i96 : Is K.P K.G0 96 F96
 i97 : Is K.P K.G0 97 F97
 i138 : Is K.P K.G0 138 F138
 i139 : Is K.P K.G0 139 F139
 i180 : Is K.P K.G0 180 F180
 i179 : Is K.P K.G0 179 F179
 i140 : Is K.P K.G0 140 F140
 i100 : Is K.P K.G0 100 F100
 i58 : Is K.P K.G0 58 F58
 i59 : Is K.P K.G0 59 F59
 i60 : Is K.P K.G0 60 F60
 i30 : Is K.P K.G0 30 F30
 i12 : Is K.P K.G0 12 F12
theorem skipB_u {K : Cx} {Q : List Value → Heap → Prop} {H : Heap} {r : List AItem} {n : Nat} {f : Nat → Value} (it : AItem) (t : Nat) (want : Bool) : skipB K it r Q n f H t undef want = wpItems K r Q (mk n (upv f (it.dst.getD n) undef)) H := by
 cases want <;> exact _root_.id rfl
theorem c138 {K : Cx} (hK : Cfg K) (hS : QuoIs K) {s : ByteArray} {H : Heap} {Q : Value → Heap → Prop} (hQ : ∀ b : Bool,Q (.bool b) H) : FC K 138 [.string s] H Q := by
 refine FC.of hK hS.i138 (by simp [F138]) ?_
 unfold F138
 by_cases n0 : s = ⟨#[33]⟩
 ·simp (disch := omega) only [↓wD,wU,↓reduceIte,reduceLT,reduceEqDiff,reduceAdd,eq_true n0,decide_true,decide_false]
  exact hQ _
 by_cases n1 : s = ⟨#[123]⟩
 ·simp (disch := omega) only [↓wD,wU,↓reduceIte,reduceLT,reduceEqDiff,reduceAdd,n0,eq_true n1,decide_true,decide_false]
  exact hQ _
 by_cases n2 : s = ⟨#[125]⟩
 ·simp (disch := omega) only [↓wD,wU,↓reduceIte,reduceLT,reduceEqDiff,reduceAdd,n0,n1,eq_true n2,decide_true,decide_false]
  exact hQ _
 by_cases n3 : s = ⟨#[99,97,115,101]⟩
 ·simp (disch := omega) only [↓wD,wU,↓reduceIte,reduceLT,reduceEqDiff,reduceAdd,n0,n1,n2,eq_true n3,decide_true,decide_false]
  exact hQ _
 by_cases n4 : s = ⟨#[100,111]⟩
 ·simp (disch := omega) only [↓wD,wU,↓reduceIte,reduceLT,reduceEqDiff,reduceAdd,n0,n1,n2,n3,eq_true n4,decide_true,decide_false]
  exact hQ _
 by_cases n5 : s = ⟨#[100,111,110,101]⟩
 ·simp (disch := omega) only [↓wD,wU,↓reduceIte,reduceLT,reduceEqDiff,reduceAdd,n0,n1,n2,n3,n4,eq_true n5,decide_true,decide_false]
  exact hQ _
 by_cases n6 : s = ⟨#[101,108,105,102]⟩
 ·simp (disch := omega) only [↓wD,wU,↓reduceIte,reduceLT,reduceEqDiff,reduceAdd,n0,n1,n2,n3,n4,n5,eq_true n6,decide_true,decide_false]
  exact hQ _
 by_cases n7 : s = ⟨#[101,108,115,101]⟩
 ·simp (disch := omega) only [↓wD,wU,↓reduceIte,reduceLT,reduceEqDiff,reduceAdd,n0,n1,n2,n3,n4,n5,n6,eq_true n7,decide_true,decide_false]
  exact hQ _
 by_cases n8 : s = ⟨#[101,115,97,99]⟩
 ·simp (disch := omega) only [↓wD,wU,↓reduceIte,reduceLT,reduceEqDiff,reduceAdd,n0,n1,n2,n3,n4,n5,n6,n7,eq_true n8,decide_true,decide_false]
  exact hQ _
 by_cases n9 : s = ⟨#[102,105]⟩
 ·simp (disch := omega) only [↓wD,wU,↓reduceIte,reduceLT,reduceEqDiff,reduceAdd,n0,n1,n2,n3,n4,n5,n6,n7,n8,eq_true n9,decide_true,decide_false]
  exact hQ _
 by_cases n10 : s = ⟨#[102,111,114]⟩
 ·simp (disch := omega) only [↓wD,wU,↓reduceIte,reduceLT,reduceEqDiff,reduceAdd,n0,n1,n2,n3,n4,n5,n6,n7,n8,n9,eq_true n10,decide_true,decide_false]
  exact hQ _
 by_cases n11 : s = ⟨#[105,102]⟩
 ·simp (disch := omega) only [↓wD,wU,↓reduceIte,reduceLT,reduceEqDiff,reduceAdd,n0,n1,n2,n3,n4,n5,n6,n7,n8,n9,n10,eq_true n11,decide_true,decide_false]
  exact hQ _
 by_cases n12 : s = ⟨#[105,110]⟩
 ·simp (disch := omega) only [↓wD,wU,↓reduceIte,reduceLT,reduceEqDiff,reduceAdd,n0,n1,n2,n3,n4,n5,n6,n7,n8,n9,n10,n11,eq_true n12,decide_true,decide_false]
  exact hQ _
 by_cases n13 : s = ⟨#[116,104,101,110]⟩
 ·simp (disch := omega) only [↓wD,wU,↓reduceIte,reduceLT,reduceEqDiff,reduceAdd,n0,n1,n2,n3,n4,n5,n6,n7,n8,n9,n10,n11,n12,eq_true n13,decide_true,decide_false]
  exact hQ _
 by_cases n14 : s = ⟨#[117,110,116,105,108]⟩
 ·simp (disch := omega) only [↓wD,wU,↓reduceIte,reduceLT,reduceEqDiff,reduceAdd,n0,n1,n2,n3,n4,n5,n6,n7,n8,n9,n10,n11,n12,n13,eq_true n14,decide_true,decide_false]
  exact hQ _
 by_cases n15 : s = ⟨#[119,104,105,108,101]⟩
 ·simp (disch := omega) only [↓wD,wU,↓reduceIte,reduceLT,reduceEqDiff,reduceAdd,n0,n1,n2,n3,n4,n5,n6,n7,n8,n9,n10,n11,n12,n13,n14,eq_true n15,decide_true,decide_false]
  exact hQ _
 simp (disch := omega) only [↓wD,wU,↓reduceIte,reduceLT,reduceEqDiff,reduceAdd,n0,n1,n2,n3,n4,n5,n6,n7,n8,n9,n10,n11,n12,n13,n14,n15,decide_false]
 exact hQ _
theorem c139 {K : Cx} (hK : Cfg K) (hS : QuoIs K) {s : ByteArray} {H : Heap} {Q : Value → Heap → Prop} (hs : s.size ≤ 1000000) (hQ : ∀ n : Nat,Q (.int .i64 n) H) : FC K 139 [.string s,.int .i64 0] H Q := by
 refine FC.of hK hS.i139 (by simp [F139]) ?_
 unfold F139
 simp (disch := omega) only [↓wD,wU,↓reduceIte,reduceLT,reduceEqDiff,reduceAdd]
 refine c177 (k := 0) (pr := fun b => decide (classV b.toNat = 6)) hK hS.toClassIs (fun b H Q h => c178 hK hS.toClassIs h) (by omega) (by omega) ?_
 unfold Later
 simp (disch := omega) only [↓wD,wU,↓reduceIte,reduceLT,reduceEqDiff,reduceAdd]
 exact hQ _
theorem c97 {K : Cx} (hK : Cfg K) (hS : QuoIs K) {s : ByteArray} {H : Heap} {Q : Value → Heap → Prop} (hs : s.size ≤ 1000000) (hQ : ∀ b : Bool,Q (.bool b) H) : FC K 97 [.string s] H Q := by
 refine FC.of hK hS.i97 (by simp [F97]) ?_
 unfold F97
 simp (disch := omega) only [↓wD,wU,↓reduceIte,reduceLT,reduceEqDiff,reduceAdd]
 refine c138 hK hS fun b => ?_
 unfold Later
 simp (disch := omega) only [↓wD,wU,↓reduceIte,reduceLT,reduceEqDiff,reduceAdd]
 cases b
 ·simp (disch := omega) only [↓wD,wU,↓reduceIte,reduceLT,reduceEqDiff,reduceAdd]
  split
  ·refine c139 hK hS hs fun n => ?_
   unfold Later
   simp (disch := omega) only [↓wD,wU,↓reduceIte,reduceLT,reduceEqDiff,reduceAdd]
   exact hQ _
  ·exact hQ _
 ·simp (disch := omega) only [↓wD,wU,↓reduceIte,reduceLT,reduceEqDiff,reduceAdd,skipB_u]
  exact hQ _
theorem c96 {K : Cx} (hK : Cfg K) (hS : QuoIs K) {b : Int} {H : Heap} {Q : Value → Heap → Prop} (hQ : Q (.bool (safeB b)) H) : FC K 96 [.int .u8 b] H Q := by
 refine FC.of hK hS.i96 (by simp [F96]) ?_
 unfold F96
 by_cases h : b = 37 ∨ b = 43 ∨ b = 44 ∨ b = 45 ∨ b = 46 ∨ b = 47 ∨ b = 58 ∨ b = 64
 ·have e : safeB b = true := by
   rcases h with rfl | rfl | rfl | rfl | rfl | rfl | rfl | rfl <;> decide
  rw [e] at hQ
  rcases h with rfl | rfl | rfl | rfl | rfl | rfl | rfl | rfl <;> (simp (disch := omega) only [↓wD,wU,↓reduceIte,reduceLT,reduceEqDiff,reduceAdd,Int.reduceEq,decide_true,decide_false]; exact hQ)
 ·have n1 : ¬ b = 37 := fun e => h (by simp [e])
  have n2 : ¬ b = 43 := fun e => h (by simp [e])
  have n3 : ¬ b = 44 := fun e => h (by simp [e])
  have n4 : ¬ b = 45 := fun e => h (by simp [e])
  have n5 : ¬ b = 46 := fun e => h (by simp [e])
  have n6 : ¬ b = 47 := fun e => h (by simp [e])
  have n7 : ¬ b = 58 := fun e => h (by simp [e])
  have n8 : ¬ b = 64 := fun e => h (by simp [e])
  simp (disch := omega) only [↓wD,wU,↓reduceIte,reduceLT,reduceEqDiff,reduceAdd,n1,n2,n3,n4,n5,n6,n7,n8,decide_false]
  refine c137 hK hS.toClassIs ?_
  unfold Later
  have e : safeB b = (decide (classV b = 5) || decide (classV b = 6) || decide (128 ≤ b)) := by
   unfold safeB
   have hbd : ∀ k : Int,(b == k) = decide (b = k) := fun _ => rfl
   simp only [hbd,n1,n2,n3,n4,n5,n6,n7,n8,decide_false,Bool.or_false,Bool.false_or]
   rfl
  rw [e] at hQ
  by_cases m5 : classV b = 5
  ·simp only [m5,decide_true,Bool.true_or] at hQ
   simp (disch := omega) only [↓wD,wU,↓reduceIte,reduceLT,reduceEqDiff,reduceAdd,eq_true m5,decide_true]
   exact hQ
  by_cases m6 : classV b = 6
  ·simp only [m6,decide_true,Bool.true_or,Bool.or_true] at hQ
   simp (disch := omega) only [↓wD,wU,↓reduceIte,reduceLT,reduceEqDiff,reduceAdd,m5,eq_true m6,decide_true,decide_false]
   exact hQ
  ·simp only [m5,m6,decide_false,Bool.false_or] at hQ
   simp (disch := omega) only [↓wD,wU,↓reduceIte,reduceLT,reduceEqDiff,reduceAdd,m5,m6,decide_false]
   exact hQ
theorem take_succ_getD {α : Type} (l : List α) (i : Nat) (d : α) (h : i < l.length) : l.take (i + 1) = l.take i ++ [l.getD i d] := by
 rw [List.take_succ,List.getElem?_eq_getElem h,List.getD_eq_getElem?_getD,List.getElem?_eq_getElem h]; rfl
theorem flatMap_len {α β : Type} {g : α → List β} {k : Nat} (h : ∀ a,(g a).length ≤ k) (l : List α) : (l.flatMap g).length ≤ k * l.length := by
 induction l with
 | nil => simp
 | cons a l ih =>
  rw [List.flatMap_cons,List.length_append,List.length_cons,Nat.mul_add]
  have := h a
  omega
theorem doubleB_len (b : UInt8) : (doubleB b).length ≤ 4 := by unfold doubleB; split <;> simp
theorem singleB_len (b : UInt8) : (singleB b).length ≤ 4 := by unfold singleB; split <;> simp
theorem plainB_len (r : Bool) (b : UInt8) : (plainB r b).length ≤ 4 := by unfold plainB; (repeat' split) <;> simp
theorem c60 {K : Cx} (hK : Cfg K) (hS : QuoIs K) {s : ByteArray} {H : Heap} {Q : Value → Heap → Prop} (hs : s.size ≤ 1000) (hQ : Q (.string ⟨(doubleL s.data.toList).toArray⟩) H) : FC K 60 [.string s] H Q := by
 refine FC.forget (FC.wf0 fun hw => ?_)
 have fin : ∀ v H',v = .string ⟨(doubleL s.data.toList).toArray⟩ → Agree H.next H H' → Agree H.next H H' ∧ Old H.next v ∧ Q v H := fun v H' e ha => by subst e; exact ⟨ha,⟨_,.string _⟩,hQ⟩
 refine FC.of hK hS.i60 (by simp [F60]) ?_
 unfold F60
 have hb0 : Bd (H.push (.row [.pointer none,.slice none 0 0] 0 (some 163))) H.next [] := ⟨Heap.wf_push _ hw,_,_,Heap.get_push_same _ _,.inl rfl,.inl ⟨rfl,rfl⟩⟩
 simp (disch := omega) only [↓wD,wU,↓reduceIte,reduceLT,reduceEqDiff,reduceAdd]
 refine c98 (t := 34) hK hS.toBdIs hb0 (by simp) fun _ H1 hb1 ha1 hn1 => ?_
 unfold Later
 simp (disch := omega) only [↓wD,wU,↓reduceIte,reduceLT,reduceEqDiff,reduceAdd]
 refine loop_ind (fun m E H' => ∃ (f : Nat → Value) (i : Nat),E = mk 26 f ∧ f 0 = .string s ∧ f 3 = .pointer (some ⟨H.next,0,none⟩) ∧ f 7 = .int .i64 (s.size : Nat) ∧ f 8 = .int .i64 (i : Nat) ∧ m + i = s.size + 1 ∧ i ≤ s.size ∧
  Bd H' H.next (34 :: (s.data.toList.take i).flatMap doubleB) ∧ Agree H.next H H') (n := s.size + 1) ?_ ?_
 ·exact ⟨_,0,rfl,rfl,rfl,rfl,rfl,rfl,by omega,hb1,fun x hx => (ha1 x hx).trans (Heap.get_push_ne _ _ (by omega))⟩
 rintro I m E H' ⟨f,i,rfl,f0,f3,f7,f8,hm,hi,hb,ha⟩ hI
 have hsz := size_data s
 have hl := flatMap_len doubleB_len (s.data.toList.take i)
 rw [List.length_take] at hl
 by_cases hik : (i : Int) < s.size
 ·have hst : (34 :: (s.data.toList.take (i + 1)).flatMap doubleB) = (34 :: (s.data.toList.take i).flatMap doubleB) ++ doubleB (byteAt s i) := by
   rw [take_succ_getD _ i 0 (by omega),List.flatMap_append]
   simp [byteAt]
  by_cases hq : (((byteAt s i).toNat : Nat) : Int) = 36 ∨ (((byteAt s i).toNat : Nat) : Int) = 96 ∨ (((byteAt s i).toNat : Nat) : Int) = 34 ∨ (((byteAt s i).toNat : Nat) : Int) = 92
  ·have hd : doubleB (byteAt s i) = [92] ++ [byteAt s i] := by
    unfold doubleB
    rw [if_pos]; rfl
    rcases hq with h | h | h | h
    ·exact .inl (UInt8.toNat_inj.1 (Int.ofNat.inj h))
    ·exact .inr (.inl (UInt8.toNat_inj.1 (Int.ofNat.inj h)))
    ·exact .inr (.inr (.inl (UInt8.toNat_inj.1 (Int.ofNat.inj h))))
    ·exact .inr (.inr (.inr (UInt8.toNat_inj.1 (Int.ofNat.inj h))))
   rcases hq with h | h | h | h <;> (
    first
    | simp (disch := omega) only [↓wD,wU,↓reduceIte,reduceLT,reduceEqDiff,reduceAdd,f0,f3,f7,f8,hik,eq_true h,decide_true]
    | skip
    refine ⟨by omega,?_⟩
    have n1 : ¬ (((byteAt s i).toNat : Nat) : Int) = 36 ∨ (((byteAt s i).toNat : Nat) : Int) = 36 := by omega
    have n2 : ¬ (((byteAt s i).toNat : Nat) : Int) = 96 ∨ (((byteAt s i).toNat : Nat) : Int) = 96 := by omega
    have n3 : ¬ (((byteAt s i).toNat : Nat) : Int) = 34 ∨ (((byteAt s i).toNat : Nat) : Int) = 34 := by omega
    (repeat' split) <;> first
    |(exfalso; omega; done)
    |(refine c98 (t := 92) hK hS.toBdIs hb (by simp only [List.length_cons,List.length_append,List.length_nil]; omega) fun _ H2 hb2 ha2 hn2 => ?_
      unfold Later
      simp (disch := omega) only [↓wD,wU,↓reduceIte,reduceLT,reduceEqDiff,reduceAdd,f0,f3,f7,f8]
      refine ⟨by omega,?_⟩
      refine c98 (t := byteAt s i) hK hS.toBdIs hb2 (by simp only [List.length_cons,List.length_append,List.length_nil]; omega) fun _ H3 hb3 ha3 hn3 => ?_
      unfold Later
      simp (disch := omega) only [↓wD,wU,↓reduceIte,reduceLT,reduceEqDiff,reduceAdd,f0,f3,f7,f8]
      refine hI _ _ _ (show m - 1 < m by omega) ?_
      exact ⟨_,i + 1,rfl,f0,f3,f7,rfl,by omega,by omega,by rw [hst,hd,← List.append_assoc]; exact hb3,fun x hx => by rw [ha3 x hx,ha2 x hx,ha x hx]⟩))
  ·have n1 : ¬ (((byteAt s i).toNat : Nat) : Int) = 36 := fun e => hq (.inl e)
   have n2 : ¬ (((byteAt s i).toNat : Nat) : Int) = 96 := fun e => hq (.inr (.inl e))
   have n3 : ¬ (((byteAt s i).toNat : Nat) : Int) = 34 := fun e => hq (.inr (.inr (.inl e)))
   have n4 : ¬ (((byteAt s i).toNat : Nat) : Int) = 92 := fun e => hq (.inr (.inr (.inr e)))
   have hd : doubleB (byteAt s i) = [byteAt s i] := by
    unfold doubleB
    rw [if_neg]
    rintro (h | h | h | h)
    ·exact n1 (by rw [h]; rfl)
    ·exact n2 (by rw [h]; rfl)
    ·exact n3 (by rw [h]; rfl)
    ·exact n4 (by rw [h]; rfl)
   simp (disch := omega) only [↓wD,wU,↓reduceIte,reduceLT,reduceEqDiff,reduceAdd,f0,f3,f7,f8,hik,n1,n2,n3,n4,decide_true,decide_false]
   refine ⟨by omega,?_⟩
   refine ⟨by omega,?_⟩
   refine c98 (t := byteAt s i) hK hS.toBdIs hb (by simp only [List.length_cons,List.length_append,List.length_nil]; omega) fun _ H3 hb3 ha3 hn3 => ?_
   unfold Later
   simp (disch := omega) only [↓wD,wU,↓reduceIte,reduceLT,reduceEqDiff,reduceAdd,f0,f3,f7,f8]
   refine hI _ _ _ (show m - 1 < m by omega) ?_
   exact ⟨_,i + 1,rfl,f0,f3,f7,rfl,by omega,by omega,by rw [hst,hd]; exact hb3,fun x hx => by rw [ha3 x hx,ha x hx]⟩
 ·simp (disch := omega) only [↓wD,wU,↓reduceIte,reduceLT,reduceEqDiff,reduceAdd,f0,f3,f7,f8,hik,decide_false]
  refine c99 hK hS.toBdIs hb (by simp only [List.length_cons,List.length_append,List.length_nil]; omega) fun H2 ha2 hn2 => ?_
  unfold Later
  simp (disch := omega) only [↓wD,wU,↓reduceIte,reduceLT,reduceEqDiff,reduceAdd]
  refine fin _ _ ?_ (fun x hx => by rw [ha2 x hx,ha x hx])
  rw [List.take_of_length_le (by omega)]; rfl
end Go.Ae
