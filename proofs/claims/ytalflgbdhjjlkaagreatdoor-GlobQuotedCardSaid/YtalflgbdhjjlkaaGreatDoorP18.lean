/- Part 18 of the proof of the law: Ce14. No condition. -/
import Derived.Test.YtalflgbdhjjlkaaGreatDoorP17
set_option linter.all false
namespace Go.Ae
open Nat (reduceLT reduceEqDiff reduceSub reduceAdd reduceMul reduceLeDiff)
open Int (reduceToNat)
open Go
set_option maxRecDepth 100000
def classV (b : Int) : Int := if b = 32 ∨ b = 9 then 1 else if b = 10 then 2 else if 48 ≤ b ∧ b ≤ 57 then 6 else if (97 ≤ b ∧ b ≤ 122) ∨ (65 ≤ b ∧ b ≤ 90) ∨ b = 95 then 5
 else if b = 124 ∨ b = 38 ∨ b = 59 ∨ b = 60 ∨ b = 62 ∨ b = 40 ∨ b = 41 then 3 else if b = 92 ∨ b = 39 ∨ b = 34 ∨ b = 96 ∨ b = 36 then 4 else 0
structure ClassIs (K : Cx) : Prop where
 i137 : Is K.P K.G0 137 F137
 i178 : Is K.P K.G0 178 F178
 i216 : Is K.P K.G0 216 F216
 i217 : Is K.P K.G0 217 F217
 i177 : Is K.P K.G0 177 F177
 i193 : Is K.P K.G0 193 F193
 i158 : Is K.P K.G0 158 F158
set_option maxHeartbeats 4000000 in
theorem c137 {K : Cx} (hK : Cfg K) (hS : ClassIs K) {b : Int} {H : Heap} {Q : Value → Heap → Prop} (hQ : Q (.int .i64 (classV b)) H) : FC K 137 [.int .u8 b] H Q := by
 have fin : ∀ k : Int,classV b = k → Q (.int .i64 k) H := fun k e => by rw [e] at hQ; exact hQ
 refine FC.of hK hS.i137 (by simp [F137]) ?_
 by_cases n32 : b = 32
 ·subst n32
  unfold F137
  simp (disch := omega) only [↓wD,wU,↓reduceIte,reduceLT,reduceEqDiff,reduceAdd,Int.reduceLT,Int.reduceLE,Int.reduceEq,decide_true,decide_false]
  exact fin _ (by decide)
 by_cases n9 : b = 9
 ·subst n9
  unfold F137
  simp (disch := omega) only [↓wD,wU,↓reduceIte,reduceLT,reduceEqDiff,reduceAdd,Int.reduceLT,Int.reduceLE,Int.reduceEq,decide_true,decide_false]
  exact fin _ (by decide)
 by_cases n10 : b = 10
 ·subst n10
  unfold F137
  simp (disch := omega) only [↓wD,wU,↓reduceIte,reduceLT,reduceEqDiff,reduceAdd,Int.reduceLT,Int.reduceLE,Int.reduceEq,decide_true,decide_false]
  exact fin _ (by decide)
 by_cases n95 : b = 95
 ·subst n95
  unfold F137
  simp (disch := omega) only [↓wD,wU,↓reduceIte,reduceLT,reduceEqDiff,reduceAdd,Int.reduceLT,Int.reduceLE,Int.reduceEq,decide_true,decide_false]
  exact fin _ (by decide)
 by_cases n124 : b = 124
 ·subst n124
  unfold F137
  simp (disch := omega) only [↓wD,wU,↓reduceIte,reduceLT,reduceEqDiff,reduceAdd,Int.reduceLT,Int.reduceLE,Int.reduceEq,decide_true,decide_false]
  exact fin _ (by decide)
 by_cases n38 : b = 38
 ·subst n38
  unfold F137
  simp (disch := omega) only [↓wD,wU,↓reduceIte,reduceLT,reduceEqDiff,reduceAdd,Int.reduceLT,Int.reduceLE,Int.reduceEq,decide_true,decide_false]
  exact fin _ (by decide)
 by_cases n59 : b = 59
 ·subst n59
  unfold F137
  simp (disch := omega) only [↓wD,wU,↓reduceIte,reduceLT,reduceEqDiff,reduceAdd,Int.reduceLT,Int.reduceLE,Int.reduceEq,decide_true,decide_false]
  exact fin _ (by decide)
 by_cases n60 : b = 60
 ·subst n60
  unfold F137
  simp (disch := omega) only [↓wD,wU,↓reduceIte,reduceLT,reduceEqDiff,reduceAdd,Int.reduceLT,Int.reduceLE,Int.reduceEq,decide_true,decide_false]
  exact fin _ (by decide)
 by_cases n62 : b = 62
 ·subst n62
  unfold F137
  simp (disch := omega) only [↓wD,wU,↓reduceIte,reduceLT,reduceEqDiff,reduceAdd,Int.reduceLT,Int.reduceLE,Int.reduceEq,decide_true,decide_false]
  exact fin _ (by decide)
 by_cases n40 : b = 40
 ·subst n40
  unfold F137
  simp (disch := omega) only [↓wD,wU,↓reduceIte,reduceLT,reduceEqDiff,reduceAdd,Int.reduceLT,Int.reduceLE,Int.reduceEq,decide_true,decide_false]
  exact fin _ (by decide)
 by_cases n41 : b = 41
 ·subst n41
  unfold F137
  simp (disch := omega) only [↓wD,wU,↓reduceIte,reduceLT,reduceEqDiff,reduceAdd,Int.reduceLT,Int.reduceLE,Int.reduceEq,decide_true,decide_false]
  exact fin _ (by decide)
 by_cases n92 : b = 92
 ·subst n92
  unfold F137
  simp (disch := omega) only [↓wD,wU,↓reduceIte,reduceLT,reduceEqDiff,reduceAdd,Int.reduceLT,Int.reduceLE,Int.reduceEq,decide_true,decide_false]
  exact fin _ (by decide)
 by_cases n39 : b = 39
 ·subst n39
  unfold F137
  simp (disch := omega) only [↓wD,wU,↓reduceIte,reduceLT,reduceEqDiff,reduceAdd,Int.reduceLT,Int.reduceLE,Int.reduceEq,decide_true,decide_false]
  exact fin _ (by decide)
 by_cases n34 : b = 34
 ·subst n34
  unfold F137
  simp (disch := omega) only [↓wD,wU,↓reduceIte,reduceLT,reduceEqDiff,reduceAdd,Int.reduceLT,Int.reduceLE,Int.reduceEq,decide_true,decide_false]
  exact fin _ (by decide)
 by_cases n96 : b = 96
 ·subst n96
  unfold F137
  simp (disch := omega) only [↓wD,wU,↓reduceIte,reduceLT,reduceEqDiff,reduceAdd,Int.reduceLT,Int.reduceLE,Int.reduceEq,decide_true,decide_false]
  exact fin _ (by decide)
 by_cases n36 : b = 36
 ·subst n36
  unfold F137
  simp (disch := omega) only [↓wD,wU,↓reduceIte,reduceLT,reduceEqDiff,reduceAdd,Int.reduceLT,Int.reduceLE,Int.reduceEq,decide_true,decide_false]
  exact fin _ (by decide)
 unfold F137
 by_cases g0 : b < 48
 ·have d0 : ¬ 48 ≤ b := by omega
  have d1 : b ≤ 57 := by omega
  have d2 : ¬ 97 ≤ b := by omega
  have d3 : b ≤ 122 := by omega
  have d4 : ¬ 65 ≤ b := by omega
  have d5 : b ≤ 90 := by omega
  simp (disch := omega) only [↓wD,wU,↓reduceIte,reduceLT,reduceEqDiff,reduceAdd,n32,n9,n10,n95,n124,n38,n59,n60,n62,n40,n41,n92,n39,n34,n96,n36,d0,d1,d2,d3,d4,d5,decide_true,decide_false]
  refine fin _ ?_
  unfold classV
  (repeat' split) <;> omega
 by_cases g1 : b ≤ 57
 ·have d0 : 48 ≤ b := by omega
  have d1 : b ≤ 57 := by omega
  have d2 : ¬ 97 ≤ b := by omega
  have d3 : b ≤ 122 := by omega
  have d4 : ¬ 65 ≤ b := by omega
  have d5 : b ≤ 90 := by omega
  simp (disch := omega) only [↓wD,wU,↓reduceIte,reduceLT,reduceEqDiff,reduceAdd,n32,n9,n10,n95,n124,n38,n59,n60,n62,n40,n41,n92,n39,n34,n96,n36,d0,d1,d2,d3,d4,d5,decide_true,decide_false]
  refine fin _ ?_
  unfold classV
  (repeat' split) <;> omega
 by_cases g2 : b < 65
 ·have d0 : 48 ≤ b := by omega
  have d1 : ¬ b ≤ 57 := by omega
  have d2 : ¬ 97 ≤ b := by omega
  have d3 : b ≤ 122 := by omega
  have d4 : ¬ 65 ≤ b := by omega
  have d5 : b ≤ 90 := by omega
  simp (disch := omega) only [↓wD,wU,↓reduceIte,reduceLT,reduceEqDiff,reduceAdd,n32,n9,n10,n95,n124,n38,n59,n60,n62,n40,n41,n92,n39,n34,n96,n36,d0,d1,d2,d3,d4,d5,decide_true,decide_false]
  refine fin _ ?_
  unfold classV
  (repeat' split) <;> omega
 by_cases g3 : b ≤ 90
 ·have d0 : 48 ≤ b := by omega
  have d1 : ¬ b ≤ 57 := by omega
  have d2 : ¬ 97 ≤ b := by omega
  have d3 : b ≤ 122 := by omega
  have d4 : 65 ≤ b := by omega
  have d5 : b ≤ 90 := by omega
  simp (disch := omega) only [↓wD,wU,↓reduceIte,reduceLT,reduceEqDiff,reduceAdd,n32,n9,n10,n95,n124,n38,n59,n60,n62,n40,n41,n92,n39,n34,n96,n36,d0,d1,d2,d3,d4,d5,decide_true,decide_false]
  refine fin _ ?_
  unfold classV
  (repeat' split) <;> omega
 by_cases g4 : b < 97
 ·have d0 : 48 ≤ b := by omega
  have d1 : ¬ b ≤ 57 := by omega
  have d2 : ¬ 97 ≤ b := by omega
  have d3 : b ≤ 122 := by omega
  have d4 : 65 ≤ b := by omega
  have d5 : ¬ b ≤ 90 := by omega
  simp (disch := omega) only [↓wD,wU,↓reduceIte,reduceLT,reduceEqDiff,reduceAdd,n32,n9,n10,n95,n124,n38,n59,n60,n62,n40,n41,n92,n39,n34,n96,n36,d0,d1,d2,d3,d4,d5,decide_true,decide_false]
  refine fin _ ?_
  unfold classV
  (repeat' split) <;> omega
 by_cases g5 : b ≤ 122
 ·have d0 : 48 ≤ b := by omega
  have d1 : ¬ b ≤ 57 := by omega
  have d2 : 97 ≤ b := by omega
  have d3 : b ≤ 122 := by omega
  have d4 : 65 ≤ b := by omega
  have d5 : ¬ b ≤ 90 := by omega
  simp (disch := omega) only [↓wD,wU,↓reduceIte,reduceLT,reduceEqDiff,reduceAdd,n32,n9,n10,n95,n124,n38,n59,n60,n62,n40,n41,n92,n39,n34,n96,n36,d0,d1,d2,d3,d4,d5,decide_true,decide_false]
  refine fin _ ?_
  unfold classV
  (repeat' split) <;> omega
 have d0 : 48 ≤ b := by omega
 have d1 : ¬ b ≤ 57 := by omega
 have d2 : 97 ≤ b := by omega
 have d3 : ¬ b ≤ 122 := by omega
 have d4 : 65 ≤ b := by omega
 have d5 : ¬ b ≤ 90 := by omega
 simp (disch := omega) only [↓wD,wU,↓reduceIte,reduceLT,reduceEqDiff,reduceAdd,n32,n9,n10,n95,n124,n38,n59,n60,n62,n40,n41,n92,n39,n34,n96,n36,d0,d1,d2,d3,d4,d5,decide_true,decide_false]
 refine fin _ ?_
 unfold classV
 (repeat' split) <;> omega
theorem c178 {K : Cx} (hK : Cfg K) (hS : ClassIs K) {b : Int} {H : Heap} {Q : Value → Heap → Prop} (hQ : Q (.bool (decide (classV b = 6))) H) : FC K 178 [.int .u8 b] H Q := by
 refine FC.of hK hS.i178 (by simp [F178]) ?_
 unfold F178
 simp (disch := omega) only [↓wD,wU,↓reduceIte,reduceLT,reduceEqDiff,reduceAdd]
 refine c137 hK hS ?_
 unfold Later
 simp (disch := omega) only [↓wD,wU,↓reduceIte,reduceLT,reduceEqDiff,reduceAdd]
 exact hQ
theorem c216 {K : Cx} (hK : Cfg K) (hS : ClassIs K) {b : Int} {H : Heap} {Q : Value → Heap → Prop} (hQ : Q (.bool (decide (classV b = 5))) H) : FC K 216 [.int .u8 b] H Q := by
 refine FC.of hK hS.i216 (by simp [F216]) ?_
 unfold F216
 simp (disch := omega) only [↓wD,wU,↓reduceIte,reduceLT,reduceEqDiff,reduceAdd]
 refine c137 hK hS ?_
 unfold Later
 simp (disch := omega) only [↓wD,wU,↓reduceIte,reduceLT,reduceEqDiff,reduceAdd]
 exact hQ
theorem c217 {K : Cx} (hK : Cfg K) (hS : ClassIs K) {b : Int} {H : Heap} {Q : Value → Heap → Prop} (hQ : Q (.bool (decide (classV b = 5 ∨ classV b = 6))) H) : FC K 217 [.int .u8 b] H Q := by
 refine FC.of hK hS.i217 (by simp [F217]) ?_
 unfold F217
 simp (disch := omega) only [↓wD,wU,↓reduceIte,reduceLT,reduceEqDiff,reduceAdd]
 refine c216 hK hS ?_
 unfold Later
 by_cases h : classV b = 5
 ·rw [decide_eq_true h]
  rw [show decide (classV b = 5 ∨ classV b = 6) = true from decide_eq_true (.inl h)] at hQ
  simp (disch := omega) only [↓wD,wU,↓reduceIte,reduceLT,reduceEqDiff,reduceAdd]
  exact hQ
 ·rw [decide_eq_false h]
  simp (disch := omega) only [↓wD,wU,↓reduceIte,reduceLT,reduceEqDiff,reduceAdd]
  refine c178 hK hS ?_
  unfold Later
  rw [show decide (classV b = 5 ∨ classV b = 6) = decide (classV b = 6) from decide_eq_decide.2 (by simp [h])] at hQ
  simp (disch := omega) only [↓wD,wU,↓reduceIte,reduceLT,reduceEqDiff,reduceAdd]
  exact hQ
def spanN (s : ByteArray) (k : Nat) (pr : UInt8 → Bool) : Nat := ((s.data.toList.drop k).takeWhile pr).length
theorem byteAt_get {s : ByteArray} {i : Nat} (h : i < s.size) : byteAt s i = s.data.toList[i]'(by rw [size_data]; exact h) := by
 unfold byteAt
 rw [List.getD_eq_getElem?_getD,List.getElem?_eq_getElem (by rw [size_data]; exact h)]; rfl
theorem spanN_step {s : ByteArray} {k : Nat} {pr : UInt8 → Bool} : spanN s k pr = if k < s.size ∧ pr (byteAt s k) = true then spanN s (k + 1) pr + 1 else 0 := by
 unfold spanN
 by_cases h : k < s.size
 ·have hl : k < s.data.toList.length := by rw [size_data]; exact h
  rw [List.drop_eq_getElem_cons hl,List.takeWhile_cons,byteAt_get h]
  generalize s.data.toList[k] = x
  by_cases hp : pr x = true
  ·rw [if_pos hp,if_pos ⟨h,hp⟩,List.length_cons]
  ·rw [if_neg hp,if_neg (fun h' => hp h'.2)]; rfl
 ·rw [if_neg (fun h' => h h'.1),List.drop_eq_nil_of_le (by rw [size_data]; omega)]; rfl
theorem c177 {K : Cx} (hK : Cfg K) (hS : ClassIs K) {s : ByteArray} {k : Nat} {g : FuncId} {pr : UInt8 → Bool} (hf : ∀ (b : UInt8) (H : Heap) (Q : Value → Heap → Prop),Q (.bool (pr b)) H → FC K g [.int .u8 b.toNat] H Q)
  (hs : s.size ≤ 4611686018427387904) (hk : k ≤ 4611686018427387904) {H : Heap} {Q : Value → Heap → Prop} (hQ : Q (.int .i64 (spanN s k pr : Nat)) H) : FC K 177 [.string s,.int .i64 k,.func (.func g) #[] #[]] H Q := by
 refine FC.of hK hS.i177 (by simp [F177]) ?_
 unfold F177
 simp (disch := omega) only [↓wD,wU,↓reduceIte,reduceLT,reduceEqDiff,reduceAdd]
 rw [if_neg (by omega)]
 split
 ·rw [spanN_step,if_neg (by omega)] at hQ
  exact hQ
 refine loop_ind (fun m E H' => ∃ (f : Nat → Value) (n : Nat),E = mk 33 f ∧ f 0 = .string s ∧ f 1 = .int .i64 (k : Nat) ∧ f 2 = .func (.func g) #[] #[] ∧ f 7 = .int .i64 (n : Nat) ∧ m + n = s.size + 1 ∧ k + n ≤ s.size ∧ spanN s k pr = n + spanN s (k + n) pr ∧ H' = H) (n := s.size + 1) ?_ ?_
 ·exact ⟨_,0,rfl,rfl,rfl,rfl,rfl,rfl,by omega,by simp,rfl⟩
 rintro I m E H' ⟨f,n,rfl,f0,f1,f2,f7,hm,hn,hsp,rfl⟩ hI
 by_cases hik : (k : Int) + (n : Int) < s.size
 ·simp (disch := omega) only [↓wD,wU,↓reduceIte,reduceLT,reduceEqDiff,reduceAdd,f0,f1,f2,f7,hik]
  refine ⟨by omega,?_⟩
  refine hf _ _ _ ?_
  unfold Later
  have hst := spanN_step (s := s) (k := k + n) (pr := pr)
  cases hp : pr (byteAt s (k + n))
  ·rw [hp,if_neg (by simp)] at hst
   simp (disch := omega) only [↓wD,wU,↓reduceIte,reduceLT,reduceEqDiff,reduceAdd,f0,f1,f2,f7]
   rw [hsp,hst] at hQ
   exact hQ
  ·rw [hp,if_pos ⟨by omega,rfl⟩] at hst
   simp (disch := omega) only [↓wD,wU,↓reduceIte,reduceLT,reduceEqDiff,reduceAdd,f0,f1,f2,f7]
   refine hI _ _ _ (show m - 1 < m by omega) ?_
   exact ⟨_,n + 1,rfl,f0,f1,f2,rfl,by omega,by omega,by rw [hsp,hst,← Nat.add_assoc k n 1]; omega,rfl⟩
 ·simp (disch := omega) only [↓wD,wU,↓reduceIte,reduceLT,reduceEqDiff,reduceAdd,f0,f1,f2,f7,hik]
  rw [hsp,spanN_step,if_neg (by omega)] at hQ
  exact hQ
def letter (b : UInt8) : Bool := decide (classV b.toNat = 5)
def letdig (b : UInt8) : Bool := decide (classV b.toNat = 5 ∨ classV b.toNat = 6)
def nameN (s : ByteArray) (k : Nat) : Nat := if spanN s k letter = 0 then 0 else spanN s k letdig
theorem c193 {K : Cx} (hK : Cfg K) (hS : ClassIs K) {s : ByteArray} {k : Nat} (hs : s.size ≤ 4611686018427387904) (hk : k ≤ 4611686018427387904) {H : Heap} {Q : Value → Heap → Prop} (hQ : Q (.int .i64 (nameN s k : Nat)) H) : FC K 193 [.string s,.int .i64 k] H Q := by
 refine FC.of hK hS.i193 (by simp [F193]) ?_
 unfold F193
 simp (disch := omega) only [↓wD,wU,↓reduceIte,reduceLT,reduceEqDiff,reduceAdd]
 refine c177 hK hS (fun b H Q h => c216 hK hS h) hs hk ?_
 unfold Later
 unfold nameN at hQ
 simp (disch := omega) only [↓wD,wU,↓reduceIte,reduceLT,reduceEqDiff,reduceAdd]
 split
 ·rename_i h
  rw [if_pos (by unfold letter; omega)] at hQ
  exact hQ
 ·rename_i h
  rw [if_neg (by unfold letter; omega)] at hQ
  refine c177 hK hS (fun b H Q h => c217 hK hS h) hs hk ?_
  unfold Later
  simp (disch := omega) only [↓wD,wU,↓reduceIte,reduceLT,reduceEqDiff,reduceAdd]
  exact hQ
def isNameC (s : ByteArray) : Bool := decide (s ≠ ⟨#[]⟩ ∧ nameN s 0 = s.size)
theorem c158 {K : Cx} (hK : Cfg K) (hS : ClassIs K) {s : ByteArray} (hs : s.size ≤ 4611686018427387904) {H : Heap} {Q : Value → Heap → Prop} (hQ : Q (.bool (isNameC s)) H) : FC K 158 [.string s] H Q := by
 refine FC.of hK hS.i158 (by simp [F158]) ?_
 unfold F158
 simp (disch := omega) only [↓wD,wU,↓reduceIte,reduceLT,reduceEqDiff,reduceAdd]
 split
 ·rename_i h
  have h' : s ≠ ⟨#[]⟩ := by simpa using h
  refine c193 (k := 0) hK hS hs (by omega) ?_
  unfold Later
  simp (disch := omega) only [↓wD,wU,↓reduceIte,reduceLT,reduceEqDiff,reduceAdd]
  have : isNameC s = decide (((nameN s 0 : Nat) : Int) = (s.size : Int)) := decide_eq_decide.2 ⟨fun h => by rw [h.2],fun h => ⟨h',by omega⟩⟩
  rw [this] at hQ
  exact hQ
 ·rename_i h
  have : isNameC s = false := decide_eq_false fun h' => h (by simp [h'.1])
  rw [this] at hQ
  exact hQ
end Go.Ae
