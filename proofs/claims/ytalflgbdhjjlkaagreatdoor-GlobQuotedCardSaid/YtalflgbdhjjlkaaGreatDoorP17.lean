/- Part 17 of the proof of the law: Ce5. No condition. -/
import Derived.Test.YtalflgbdhjjlkaaGreatDoorP16
set_option linter.all false
namespace Go.Ae
open Nat (reduceLT reduceEqDiff reduceSub reduceAdd reduceMul reduceLeDiff)
open Int (reduceToNat)
open Go
set_option maxRecDepth 100000
theorem Heap.set_set (H : Heap) (b : Nat) (x y : Option AObj) : (H.set b x).set b y = H.set b y := by
 unfold Heap.set
 by_cases h : b < H.next
 ·simp only [h,if_true,List.set_set]
 ·simp only [h,if_false]
structure ExtIs (K : Cx) : Prop where
 x202 : ∀ (args : List Value) (H : Heap) (Q : Value → Heap → Prop),((spIndexByte args H).sat fun p => Q p.1 p.2) → FC K 202 args H Q
structure StrIs (K : Cx) : Prop extends ExtIs K where
 i169 : Is K.P K.G0 169 F169
 i118 : Is K.P K.G0 118 F118
 i191 : Is K.P K.G0 191 F191
 i156 : Is K.P K.G0 156 F156
 i111 : Is K.P K.G0 111 F111
 i109 : Is K.P K.G0 109 F109
 i70 : Is K.P K.G0 70 F70
 i141 : Is K.P K.G0 141 F141
 i102 : Is K.P K.G0 102 F102
 i101 : Is K.P K.G0 101 F101
 i71 : Is K.P K.G0 71 F71
 i110 : Is K.P K.G0 110 F110
theorem idxL_range (l : List UInt8) (c : UInt8) : -1 ≤ idxL l c ∧ idxL l c < l.length := by
 unfold idxL
 cases h : l.findIdx? (· == c) with
 | none => simp only; omega
 | some i =>
  have := (List.findIdx?_eq_some_iff_getElem.1 h).1
  simp only; omega
theorem size_data (s : ByteArray) : s.data.toList.length = s.size := by rw [Array.length_toList]; rfl
theorem c169 {K : Cx} (hK : Cfg K) (hS : StrIs K) {s : ByteArray} {c : Int} {H : Heap} {Q : Value → Heap → Prop} (hQ : Q (.int .i64 (idxL s.data.toList c.toNat.toUInt8)) H) : FC K 169 [.string s,.int .u8 c] H Q := by
 refine FC.of hK hS.i169 (by simp [F169]) ?_
 unfold F169
 simp (disch := omega) only [↓wD,wU,↓reduceIte,reduceLT,reduceEqDiff,reduceAdd,reduceLeDiff]
 refine hS.x202 _ _ _ ?_
 show Later _ _ _ _ _ _ _
 unfold Later
 simp (disch := omega) only [↓wD,wU,↓reduceIte,reduceLT,reduceEqDiff,reduceAdd,reduceLeDiff]
 exact hQ
theorem c118 {K : Cx} (hK : Cfg K) (hS : StrIs K) {s : ByteArray} {c : Int} {H : Heap} {Q : Value → Heap → Prop} (hQ : Q (.int .i64 (idxL s.data.toList c.toNat.toUInt8)) H) : FC K 118 [.string s,.int .u8 c] H Q := by
 refine FC.of hK hS.i118 (by simp [F118]) ?_
 unfold F118
 simp (disch := omega) only [↓wD,wU,↓reduceIte,reduceLT,reduceEqDiff,reduceAdd,reduceLeDiff]
 refine c169 hK hS ?_
 unfold Later
 simp (disch := omega) only [↓wD,wU,↓reduceIte,reduceLT,reduceEqDiff,reduceAdd,reduceLeDiff]
 exact hQ
theorem idxL_cons (b c : UInt8) (l : List UInt8) : idxL (b :: l) c = if b = c then 0 else if idxL l c < 0 then -1 else idxL l c + 1 := by
 unfold idxL
 rw [List.findIdx?_cons]
 by_cases h : b = c
 ·subst h; simp
 ·have : (b == c) = false := by simpa using h
  rw [this]
  simp only [Bool.false_eq_true,if_false,h]
  cases l.findIdx? (· == c) with
  | none => simp
  | some i => simp; omega
def splitL : List UInt8 → List (List UInt8)
 | [] => [[]]
 | c :: l => if c = 47 then [] :: splitL l else match splitL l with
  | p :: ps => (c :: p) :: ps
  | [] => [[c]]
theorem splitL_ne (l : List UInt8) : splitL l ≠ [] := by
 cases l with
 | nil => simp [splitL]
 | cons c l =>
  unfold splitL
  split
  ·simp
  ·split <;> simp
theorem splitL_cut : ∀ l : List UInt8,(idxL l 47 < 0 → splitL l = [l]) ∧ (0 ≤ idxL l 47 → splitL l = l.take (idxL l 47).toNat :: splitL (l.drop ((idxL l 47).toNat + 1)))
 | [] => ⟨fun _ => rfl,fun h => by simp [idxL] at h⟩
 | c :: l => by
  have ih := splitL_cut l
  rw [idxL_cons]
  by_cases h : c = 47
  ·subst h
   simp [splitL]
  ·simp only [h,if_false,splitL]
   by_cases h2 : idxL l 47 < 0
   ·rw [if_pos h2]
    refine ⟨fun _ => by rw [ih.1 h2],fun h => by omega⟩
   ·rw [if_neg h2]
    refine ⟨fun h => by omega,fun _ => ?_⟩
    rw [ih.2 (by omega)]
    obtain ⟨n,hn⟩ := Int.eq_ofNat_of_zero_le (show 0 ≤ idxL l 47 by omega)
    rw [hn]
    simp
theorem bytes_ext {s t : ByteArray} (h : s.data.toList = t.data.toList) : s = t := by
 cases s; cases t
 rename_i a b
 have : a = b := Array.toList_inj.1 h
 rw [this]
theorem bytes_mk (l : List UInt8) : (ByteArray.mk l.toArray).data.toList = l := by simp
theorem mk_bytes (s : ByteArray) : ByteArray.mk s.data.toList.toArray = s := bytes_ext (by simp)
theorem extract_list (s : ByteArray) (a b : Nat) : (s.extract a b).data.toList = (s.data.toList.drop a).take (b - a) := by
 rw [ByteArray.data_extract,Array.toList_extract]
 try simp [List.extract]
theorem c191 {K : Cx} (hK : Cfg K) (hS : StrIs K) {s p : ByteArray} {H : Heap} {Q : Value → Heap → Prop} (hp : p.size = 1) (hQ : Q (.int .i64 (idxL s.data.toList (byteAt p 0))) H) : FC K 191 [.string s,.string p] H Q := by
 refine FC.of hK hS.i191 (by simp [F191]) ?_
 unfold F191
 simp (disch := omega) only [↓wD,wU,↓reduceIte,reduceLT,reduceEqDiff,reduceAdd,reduceLeDiff,hp]
 split
 ·rename_i h; simp at h
 split
 ·rename_i h; subst h
  have : idxL p.data.toList (byteAt p 0) = 0 := by
   unfold byteAt
   have h1 : p.data.toList.length = 1 := by rw [size_data]; exact hp
   match h : p.data.toList,h1 with
   | [a],_ => simp [idxL_cons]
  rw [this] at hQ
  exact hQ
 split
 ·refine ⟨by omega,?_⟩
  refine c169 hK hS ?_
  unfold Later
  simp (disch := omega) only [↓wD,wU,↓reduceIte,reduceLT,reduceEqDiff,reduceAdd,reduceLeDiff]
  rw [show (byteAt p 0).toNat.toUInt8 = byteAt p 0 from UInt8.ofNat_toNat]
  exact hQ
 ·rename_i h; simp at h
def cutV (s : ByteArray) : Value :=
 if idxL s.data.toList 47 < 0 then .tuple #[.string s,.string ⟨#[]⟩,.bool false] else .tuple #[.string (s.extract 0 (idxL s.data.toList 47).toNat),.string (s.extract ((idxL s.data.toList 47).toNat + 1) s.size),.bool true]
theorem c156 {K : Cx} (hK : Cfg K) (hS : StrIs K) {s : ByteArray} {H : Heap} {Q : Value → Heap → Prop} (hs : s.size ≤ 4611686018427387904) (hQ : Q (cutV s) H) : FC K 156 [.string s,.string ⟨#[47]⟩] H Q := by
 refine FC.of hK hS.i156 (by simp [F156]) ?_
 unfold F156
 simp (disch := omega) only [↓wD,wU,↓reduceIte,reduceLT,reduceEqDiff,reduceAdd,reduceLeDiff]
 refine c191 hK hS rfl ?_
 unfold Later
 have h1 := idxL_range s.data.toList 47
 rw [size_data] at h1
 have e : byteAt ⟨#[47]⟩ 0 = 47 := rfl
 unfold cutV at hQ
 rw [e]
 generalize idxL s.data.toList 47 = i at *
 simp (disch := omega) only [↓wD,wU,↓reduceIte,reduceLT,reduceEqDiff,reduceAdd,reduceLeDiff]
 split
 ·obtain ⟨n,rfl⟩ := Int.eq_ofNat_of_zero_le (show 0 ≤ i by omega)
  rw [if_neg (by omega)] at hQ
  simp (disch := omega) only [↓wD,wU,↓reduceIte,reduceLT,reduceEqDiff,reduceAdd,reduceLeDiff,Int.ofNat_eq_natCast,Int.cast_ofNat_Int]
  simp only [toNat_cast] at hQ
  exact hQ
 ·rw [if_pos (by omega)] at hQ
  exact hQ
theorem c111 {K : Cx} (hK : Cfg K) (hS : StrIs K) {s : ByteArray} {H : Heap} {Q : Value → Heap → Prop} (hs : s.size ≤ 4611686018427387904) (hQ : Q (cutV s) H) : FC K 111 [.string s,.string ⟨#[47]⟩] H Q := by
 refine FC.of hK hS.i111 (by simp [F111]) ?_
 unfold F111
 simp (disch := omega) only [↓wD,wU,↓reduceIte,reduceLT,reduceEqDiff,reduceAdd,reduceLeDiff]
 refine c156 hK hS hs ?_
 unfold Later
 unfold cutV at hQ ⊢
 split at hQ
 ·rename_i h
  simp only [h,if_true]
  simp (disch := omega) only [↓wD,wU,↓reduceIte,reduceLT,reduceEqDiff,reduceAdd,reduceLeDiff]
  exact hQ
 ·rename_i h
  simp only [h,if_false]
  simp (disch := omega) only [↓wD,wU,↓reduceIte,reduceLT,reduceEqDiff,reduceAdd,reduceLeDiff]
  exact hQ
theorem c109 {K : Cx} (hK : Cfg K) (hS : StrIs K) {s p : ByteArray} {H : Heap} {Q : Value → Heap → Prop} (hQ : Q (.bool (decide (p.size ≤ s.size ∧ s.extract 0 p.size = p))) H) : FC K 109 [.string s,.string p] H Q := by
 refine FC.of hK hS.i109 (by simp [F109]) ?_
 unfold F109
 simp (disch := omega) only [↓wD,wU,↓reduceIte,reduceLT,reduceEqDiff,reduceAdd,reduceLeDiff]
 split
 ·rename_i h
  have e : decide (s.extract 0 p.size = p) = decide (p.size ≤ s.size ∧ s.extract 0 p.size = p) := decide_eq_decide.2 ⟨fun h' => ⟨by omega,h'⟩,fun h' => h'.2⟩
  rw [e]
  exact hQ
 ·rename_i h
  rw [show decide (p.size ≤ s.size ∧ s.extract 0 p.size = p) = false from decide_eq_false fun h' => h (by omega)] at hQ
  exact hQ
theorem c70 {K : Cx} (hK : Cfg K) (hS : StrIs K) {s p : ByteArray} {H : Heap} {Q : Value → Heap → Prop} (hQ : Q (.bool (decide (p.size ≤ s.size ∧ s.extract 0 p.size = p))) H) : FC K 70 [.string s,.string p] H Q := by
 refine FC.of hK hS.i70 (by simp [F70]) ?_
 unfold F70
 simp (disch := omega) only [↓wD,wU,↓reduceIte,reduceLT,reduceEqDiff,reduceAdd,reduceLeDiff]
 refine c109 hK hS ?_
 unfold Later
 simp (disch := omega) only [↓wD,wU,↓reduceIte,reduceLT,reduceEqDiff,reduceAdd,reduceLeDiff]
 exact hQ
theorem c141 {K : Cx} (hK : Cfg K) (hS : StrIs K) {s : ByteArray} {c : Int} {H : Heap} {Q : Value → Heap → Prop} (hs : s.size ≤ 4611686018427387904) (hQ : ∀ i : Int,-1 ≤ i → i < s.size → Q (.int .i64 i) H) : FC K 141 [.string s,.int .u8 c] H Q := by
 refine FC.of hK hS.i141 (by simp [F141]) ?_
 unfold F141
 simp (disch := omega) only [↓wD,wU,↓reduceIte,reduceLT,reduceEqDiff,reduceAdd,reduceLeDiff]
 refine loop_ind (fun k E H' => ∃ (f : Nat → Value),E = mk 19 f ∧ f 0 = .string s ∧ f 1 = .int .u8 c ∧ f 5 = .int .i64 ((k : Int) - 1) ∧ k ≤ s.size ∧ H' = H) (n := s.size) ?_ ?_
 ·exact ⟨_,rfl,rfl,rfl,rfl,Nat.le_refl _,rfl⟩
 rintro I k E H' ⟨f,rfl,f0,f1,f5,hk,rfl⟩ hI
 simp (disch := omega) only [↓wD,wU,↓reduceIte,reduceLT,reduceEqDiff,reduceAdd,reduceLeDiff,f0,f1,f5]
 split
 ·refine ⟨by omega,?_⟩
  split
  ·exact hQ _ (by omega) (by omega)
  ·refine hI (k - 1) _ _ (by omega) ?_
   refine ⟨_,rfl,f0,f1,?_,by omega,rfl⟩
   simp (disch := omega) only [↓wD,wU,↓reduceIte,reduceLT,reduceEqDiff,reduceAdd,reduceLeDiff]
   rw [show ((k : Int) - 1 - 1) = ((k - 1 : Nat) : Int) - 1 by omega]
 ·exact hQ (-1) (by omega) (by omega)
theorem c102 {K : Cx} (hK : Cfg K) (hS : StrIs K) {s : ByteArray} {c : Int} {H : Heap} {Q : Value → Heap → Prop} (hs : s.size ≤ 4611686018427387904) (hQ : ∀ i : Int,-1 ≤ i → i < s.size → Q (.int .i64 i) H) : FC K 102 [.string s,.int .u8 c] H Q := by
 refine FC.of hK hS.i102 (by simp [F102]) ?_
 unfold F102
 simp (disch := omega) only [↓wD,wU,↓reduceIte,reduceLT,reduceEqDiff,reduceAdd,reduceLeDiff]
 refine c141 hK hS hs fun i h1 h2 => ?_
 unfold Later
 simp (disch := omega) only [↓wD,wU,↓reduceIte,reduceLT,reduceEqDiff,reduceAdd,reduceLeDiff]
 exact hQ i h1 h2
def isNameB (s : ByteArray) : Bool := decide (s ≠ ⟨#[]⟩ ∧ s ≠ ⟨#[46]⟩ ∧ s ≠ ⟨#[46,46]⟩ ∧ s.size ≤ 255 ∧ idxL s.data.toList 47 < 0 ∧ idxL s.data.toList 0 < 0)
theorem c101 {K : Cx} (hK : Cfg K) (hS : StrIs K) {s : ByteArray} {H : Heap} {Q : Value → Heap → Prop} (hQ : Q (.bool (isNameB s)) H) : FC K 101 [.string s] H Q := by
 refine FC.of hK hS.i101 (by simp [F101]) ?_
 unfold F101
 simp (disch := omega) only [↓wD,wU,↓reduceIte,reduceLT,reduceEqDiff,reduceAdd,reduceLeDiff]
 split
 ·rename_i h0
  split
  ·rename_i h1
   split
   ·rename_i h2
    split
    ·rename_i h3
     refine c118 hK hS ?_
     unfold Later
     simp (disch := omega) only [↓wD,wU,↓reduceIte,reduceLT,reduceEqDiff,reduceAdd,reduceLeDiff]
     split
     ·rename_i h4
      refine c118 hK hS ?_
      unfold Later
      simp (disch := omega) only [↓wD,wU,↓reduceIte,reduceLT,reduceEqDiff,reduceAdd,reduceLeDiff]
      have : isNameB s = decide (idxL s.data.toList ((0 : Int).toNat.toUInt8) < 0) := by
       simp at h0 h1 h2
       simp only [isNameB]
       refine decide_eq_decide.2 ⟨fun h => h.2.2.2.2.2,fun h => ⟨h0,h1,h2,by omega,h4,h⟩⟩
      rw [this] at hQ
      exact hQ
     ·rename_i h4
      have : isNameB s = false := decide_eq_false fun h => h4 h.2.2.2.2.1
      rw [this] at hQ; exact hQ
    ·rename_i h3
     have : isNameB s = false := decide_eq_false fun h => h3 (by have := h.2.2.2.1; omega)
     rw [this] at hQ; exact hQ
   ·rename_i h2
    have : isNameB s = false := decide_eq_false fun h => h2 (by simp [h.2.2.1])
    rw [this] at hQ; exact hQ
  ·rename_i h1
   have : isNameB s = false := decide_eq_false fun h => h1 (by simp [h.2.1])
   rw [this] at hQ; exact hQ
 ·rename_i h0
  have : isNameB s = false := decide_eq_false fun h => h0 (by simp [h.1])
  rw [this] at hQ; exact hQ
theorem c71 {K : Cx} (hK : Cfg K) (hS : StrIs K) {s : ByteArray} {H : Heap} {Q : Value → Heap → Prop} (hQ : Q (.func (.func 110) #[] #[.pointer (some ⟨H.next,0,none⟩)]) (H.push (.row [.string s] 0 (some 9)))) : FC K 71 [.string s] H Q := by
 refine FC.of hK hS.i71 (by simp [F71]) ?_
 unfold F71
 simp (disch := omega) only [↓wD,wU,↓reduceIte,reduceLT,reduceEqDiff,reduceAdd,reduceLeDiff]
 exact hQ
theorem c110 {K : Cx} (hK : Cfg K) (hS : StrIs K) {l b : Nat} {ty : Option TypeId} {J : List (List UInt8) → Heap → Prop} {N : Heap → Prop} {Q : Value → Heap → Prop}
  (hstep : ∀ p ps H,J (p :: ps) H → Free H b → RC K l [.string ⟨p.toArray⟩] H fun v H' => (v = .bool true ∧ J ps H') ∨ (v = .bool false ∧ N H'))
  (hQ : ∀ H' (t : ByteArray),Free H' b → (J [] H' ∨ N H') → Q (.tuple #[]) (H'.set b (some (.row [.string t] 0 ty))))
  {H : Heap} {s : ByteArray} (hJ : J (splitL s.data.toList) H) (hf : Free H b) (hs : s.size ≤ 4611686018427387904) : FC K 110 [.func (.yield l) #[] #[],.pointer (some ⟨b,0,none⟩)] (H.set b (some (.row [.string s] 0 ty))) Q := by
 refine FC.of hK hS.i110 (by simp [F110]) ?_
 unfold F110
 simp (disch := omega) only [↓wD,wU,↓reduceIte,reduceLT,reduceEqDiff,reduceAdd,reduceLeDiff]
 refine loop_ind (fun k E G => ∃ (f : Nat → Value) (t : ByteArray) (H' : Heap),E = mk 21 f ∧ f 0 = .func (.yield l) #[] #[] ∧ f 1 = .pointer (some ⟨b,0,none⟩) ∧ t.size = k ∧ t.size ≤ 4611686018427387904 ∧ G = H'.set b (some (.row [.string t] 0 ty)) ∧ J (splitL t.data.toList) H' ∧ Free H' b) (n := s.size) ?_ ?_
 ·exact ⟨_,s,H,rfl,rfl,rfl,rfl,hs,rfl,hJ,hf⟩
 rintro I k E G ⟨f,t,H',rfl,f0,f1,hk,htB,rfl,hJ',hf'⟩ hI
 have hc : cellAt (H'.set b (some (.row [.string t] 0 ty))) b 0 = some (.string t) := by
  rw [cellAt_of (Heap.get_set_none H' _ hf'.wf hf'.lt)]; rfl
 simp (disch := omega) only [↓wD,wU,↓reduceIte,reduceLT,reduceEqDiff,reduceAdd,reduceLeDiff,f0,f1,hc]
 refine c111 hK hS (by omega) ?_
 unfold Later
 have hr := idxL_range t.data.toList 47
 rw [size_data] at hr
 unfold cutV
 by_cases hi : idxL t.data.toList 47 < 0
 ·rw [if_pos hi]
  rw [(splitL_cut _).1 hi] at hJ'
  simp (disch := omega) only [↓wD,wU,↓reduceIte,reduceLT,reduceEqDiff,reduceAdd,reduceLeDiff,f0,f1]
  have hst := hstep _ _ _ hJ' hf'
  rw [mk_bytes] at hst
  refine RC.mono (fun v H2 h => ?_) (hst.frame (o := .row [.string t] 0 ty) hf' rfl)
  obtain ⟨H1,rfl,hf1,h⟩ := h
  unfold Later
  rcases h with ⟨rfl,hj⟩ | ⟨rfl,hn⟩
  ·simp (disch := omega) only [↓wD,wU,↓reduceIte,reduceLT,reduceEqDiff,reduceAdd,reduceLeDiff,f0,f1]
   exact hQ H1 t hf1 (.inl hj)
  ·simp (disch := omega) only [↓wD,wU,↓reduceIte,reduceLT,reduceEqDiff,reduceAdd,reduceLeDiff,f0,f1]
   exact hQ H1 t hf1 (.inr hn)
 ·rw [if_neg hi]
  rw [(splitL_cut _).2 (by omega)] at hJ'
  simp (disch := omega) only [↓wD,wU,↓reduceIte,reduceLT,reduceEqDiff,reduceAdd,reduceLeDiff,f0,f1]
  have hst := hstep _ _ _ hJ' hf'
  have e1 : (ByteArray.mk (List.take (idxL t.data.toList 47).toNat t.data.toList).toArray) = t.extract 0 (idxL t.data.toList 47).toNat := bytes_ext (by rw [bytes_mk,extract_list]; simp)
  have e2 : (t.extract ((idxL t.data.toList 47).toNat + 1) t.size).data.toList = List.drop ((idxL t.data.toList 47).toNat + 1) t.data.toList := by
   rw [extract_list,List.take_of_length_le (by rw [List.length_drop,size_data]; omega)]
  rw [e1] at hst
  refine RC.mono (fun v H2 h => ?_) (hst.frame (o := .row [.string t] 0 ty) hf' rfl)
  obtain ⟨H1,rfl,hf1,h⟩ := h
  unfold Later
  rcases h with ⟨rfl,hj⟩ | ⟨rfl,hn⟩
  ·have hg := Heap.get_set_none H1 (some (.row [.string t] 0 ty)) hf1.wf hf1.lt
   simp (disch := omega) only [↓wD,wU,↓reduceIte,reduceLT,reduceEqDiff,reduceAdd,reduceLeDiff,f0,f1,hg]
   refine hI (t.extract ((idxL t.data.toList 47).toNat + 1) t.size).size _ _ (by simp only [ByteArray.size_extract]; omega) ?_
   exact ⟨_,_,H1,rfl,f0,f1,rfl,by simp only [ByteArray.size_extract]; omega,Heap.set_set _ _ _ _,by rw [e2]; exact hj,hf1⟩
  ·simp (disch := omega) only [↓wD,wU,↓reduceIte,reduceLT,reduceEqDiff,reduceAdd,reduceLeDiff,f0,f1]
   exact hQ H1 t hf1 (.inr hn)
theorem retQ_cell (t : Tmp) (Q : Value → Heap → Prop) (E : List Value) (H : Heap) : retQ [.cell t none] Q .ret E H = (match ev E (.tmp t) with
  | .pointer (some p) => (match cellAt H p.block p.off with
   | some c => Q c H
   | none => False)
  | _ => False) := by
 have e : retQ [.cell t none] Q .ret E H = ∃ vs,resA E H [.cell t none] = some vs ∧ Q (tupleA vs) H := rfl
 rw [e]
 simp only [resA,resOne,aop]
 generalize ev E (.tmp t) = v
 cases v <;> try (simp; done)
 rename_i p
 cases p with
 | none => simp
 | some p =>
  simp only [cellAt]
  cases cellsAt H p.block p.off 1 with
  | none => simp
  | some l => cases l with
   | nil => simp
   | cons c l =>
    simp only
    refine propext ⟨fun ⟨vs,h,q⟩ => by cases h; exact q,fun h => ⟨_,rfl,h⟩⟩
end Go.Ae
