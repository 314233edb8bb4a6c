/- Part 23 of the proof of the law: Ce25. No condition. -/
import Derived.Test.YtalflgbdhjjlkaaGreatDoorP22
set_option linter.all false
namespace Go.Ae
open Nat (reduceLT reduceEqDiff reduceSub reduceAdd reduceMul reduceLeDiff)
open Int (reduceToNat)
open Go
set_option maxRecDepth 100000
def plainP (r : Bool) : List UInt8 → List UInt8
 | [] => []
 | b :: l => plainB r b ++ l.flatMap (plainB false)
theorem plainP_len (r : Bool) (l : List UInt8) : (plainP r l).length ≤ 4 * l.length := by
 cases l with
 | nil => simp [plainP]
 | cons b l =>
  have h1 := plainB_len r b
  have h2 := flatMap_len (plainB_len false) l
  simp only [plainP,List.length_append,List.length_cons]
  omega
theorem plainP_snoc {r : Bool} {l : List UInt8} {b : UInt8} (h : l ≠ []) : plainP r (l ++ [b]) = plainP r l ++ plainB false b := by
 cases l with
 | nil => exact absurd rfl h
 | cons a l => simp [plainP]
theorem plainP_eq {r : Bool} {l : List UInt8} (h : l ≠ []) : plainP r l = plainL r l := by
 cases l with
 | nil => exact absurd rfl h
 | cons a l => rfl
theorem plainB_10 {r : Bool} {b : UInt8} (h : ((b.toNat : Nat) : Int) = 10) : plainB r b = [39,10,39] := by
 have : b = 10 := UInt8.toNat_inj.1 (Int.ofNat.inj h)
 unfold plainB; rw [if_pos this]
theorem plainB_q {r : Bool} {b : UInt8} (h : ¬ ((b.toNat : Nat) : Int) = 10) (h2 : safeB ((b.toNat : Nat) : Int) = false ∨ r = true) : plainB r b = [92,b] := by
 unfold plainB; rw [if_neg (fun e => h (by rw [e]; rfl)),if_pos h2]
theorem plainB_s {b : UInt8} (h : ¬ ((b.toNat : Nat) : Int) = 10) (h2 : safeB ((b.toNat : Nat) : Int) = true) : plainB false b = [b] := by
 unfold plainB; rw [if_neg (fun e => h (by rw [e]; rfl)),if_neg (by simp [h2])]
set_option maxHeartbeats 1000000 in
theorem c58 {K : Cx} (hK : Cfg K) (hS : QuoIs K) {s : ByteArray} {H : Heap} {Q : Value → Heap → Prop} (hs : s.size ≤ 1000) (hQ : ∀ r,Q (.string ⟨(plainL r s.data.toList).toArray⟩) H) : FC K 58 [.string s] H Q := by
 refine FC.forget (FC.wf0 fun hw => ?_)
 have fin : ∀ v r H',v = .string ⟨(plainL r s.data.toList).toArray⟩ → Agree H.next H H' → Agree H.next H H' ∧ Old H.next v ∧ Q v H := fun v r H' e ha => by subst e; exact ⟨ha,⟨_,.string _⟩,hQ r⟩
 refine FC.of hK hS.i58 (by simp [F58]) ?_
 unfold F58
 have hb0 : Bd (H.push (.row [.pointer none,.slice none 0 0] 0 (some 163))) H.next [] := ⟨Heap.wf_push _ hw,_,_,Heap.get_push_same _ _,.inl rfl,.inl ⟨rfl,rfl⟩⟩
 by_cases h0 : s = ⟨#[]⟩
 ·simp (disch := omega) only [↓wD,wU,↓reduceIte,reduceLT,reduceEqDiff,reduceSub,reduceAdd,eq_true h0,decide_true]
  exact fin _ false _ (by rw [h0]; rfl) (.refl _ _)
 have hne : s.data.toList ≠ [] := fun e => h0 (bytes_ext (by rw [e]))
 have hsz := size_data s
 have hpos : 0 < s.data.toList.length := List.length_pos_iff.2 hne
 simp (disch := omega) only [↓wD,wU,↓reduceIte,reduceLT,reduceEqDiff,reduceSub,reduceAdd,h0,decide_false]
 refine loop_ind (fun m E H' => ∃ (f : Nat → Value) (i : Nat) (r : Bool),E = mk 37 f ∧ f 0 = .string s ∧ f 3 = .pointer (some ⟨H.next,0,none⟩) ∧ f 8 = .int .i64 (s.size : Nat) ∧ f 9 = .int .i64 (i : Nat) ∧ m + i = s.size + 1 ∧ i ≤ s.size ∧
  Bd H' H.next (plainP r (s.data.toList.take i)) ∧ Agree H.next H H') (n := s.size + 1) ?_ ?_
 ·exact ⟨_,0,false,rfl,rfl,rfl,rfl,rfl,by omega,by omega,hb0,fun x hx => Heap.get_push_ne _ _ (by omega)⟩
 rintro I m E H' ⟨f,i,r,rfl,f0,f3,f8,f9,hm,hi,hb,ha⟩ hI
 have hl := plainP_len r (s.data.toList.take i)
 rw [List.length_take] at hl
 by_cases hik : (i : Int) < s.size
 ·have tk : s.data.toList.take (i + 1) = s.data.toList.take i ++ [byteAt s i] := take_succ_getD _ i 0 (by omega)
  have step : ∀ r',(i = 0 ∨ r' = r) → plainP r' (s.data.toList.take (i + 1)) = plainP r (s.data.toList.take i) ++ plainB (if i = 0 then r' else false) (byteAt s i) := by
   intro r' hr'
   by_cases hi0 : i = 0
   ·subst hi0
    rw [tk]; simp [plainP]
   ·rw [if_neg hi0,hr'.resolve_left hi0,tk,plainP_snoc]
    intro e
    have := congrArg List.length e
    simp only [List.length_take,List.length_nil] at this; omega
  by_cases h10 : (((byteAt s i).toNat : Nat) : Int) = 10
  ·simp (disch := omega) only [↓wD,wU,↓reduceIte,reduceLT,reduceEqDiff,reduceSub,reduceAdd,f0,f3,f8,f9,hik,eq_true h10,decide_true]
   refine ⟨by omega,?_⟩
   refine c95 (t := ⟨#[39,10,39]⟩) hK hS.toBdIs hb (by show _ + 3 ≤ _; omega) fun _ H2 hb2 ha2 hn2 => ?_
   unfold Later
   simp (disch := omega) only [↓wD,wU,↓reduceIte,reduceLT,reduceEqDiff,reduceSub,reduceAdd,f0,f3,f8,f9]
   refine hI _ _ _ (show m - 1 < m by omega) ?_
   exact ⟨_,i + 1,r,rfl,f0,f3,f8,rfl,by omega,by omega,by rw [step r (.inr rfl),plainB_10 h10]; exact hb2,fun x hx => by rw [ha2 x hx,ha x hx]⟩
  by_cases hsf : safeB (((byteAt s i).toNat : Nat) : Int) = true
  ·simp (disch := omega) only [↓wD,wU,↓reduceIte,reduceLT,reduceEqDiff,reduceSub,reduceAdd,f0,f3,f8,f9,hik,h10,decide_true,decide_false]
   refine ⟨by omega,?_⟩
   refine ⟨by omega,?_⟩
   refine c96 hK hS ?_
   unfold Later
   rw [hsf]
   by_cases hi0 : i = 0
   ·subst hi0
    simp (disch := omega) only [↓wD,wU,↓reduceIte,reduceLT,reduceEqDiff,reduceSub,reduceAdd,f0,f3,f8,f9,Int.natCast_zero,Int.cast_ofNat_Int,decide_true]
    refine c97 hK hS (by omega) fun r' => ?_
    unfold Later
    cases r'
    ·simp (disch := omega) only [↓wD,wU,↓reduceIte,reduceLT,reduceEqDiff,reduceSub,reduceAdd,f0,f3,f8,f9]
     refine ⟨by omega,?_⟩
     refine c98 (t := byteAt s 0) hK hS.toBdIs hb (by omega) fun _ H3 hb3 ha3 hn3 => ?_
     unfold Later
     simp (disch := omega) only [↓wD,wU,↓reduceIte,reduceLT,reduceEqDiff,reduceSub,reduceAdd,f0,f3,f8,f9]
     refine hI _ _ _ (show m - 1 < m by omega) ?_
     refine ⟨_,1,false,rfl,f0,f3,f8,rfl,by omega,by omega,?_,fun x hx => by rw [ha3 x hx,ha x hx]⟩
     rw [step false (.inl rfl),if_pos rfl,plainB_s h10 hsf]; exact hb3
    ·simp (disch := omega) only [↓wD,wU,↓reduceIte,reduceLT,reduceEqDiff,reduceSub,reduceAdd,f0,f3,f8,f9]
     refine c98 (t := 92) hK hS.toBdIs hb (by omega) fun _ H2 hb2 ha2 hn2 => ?_
     unfold Later
     simp (disch := omega) only [↓wD,wU,↓reduceIte,reduceLT,reduceEqDiff,reduceSub,reduceAdd,f0,f3,f8,f9]
     refine ⟨by omega,?_⟩
     refine c98 (t := byteAt s 0) hK hS.toBdIs hb2 (by simp only [List.length_append,List.length_cons,List.length_nil]; omega) fun _ H3 hb3 ha3 hn3 => ?_
     unfold Later
     simp (disch := omega) only [↓wD,wU,↓reduceIte,reduceLT,reduceEqDiff,reduceSub,reduceAdd,f0,f3,f8,f9]
     refine hI _ _ _ (show m - 1 < m by omega) ?_
     refine ⟨_,1,true,rfl,f0,f3,f8,rfl,by omega,by omega,?_,fun x hx => by rw [ha3 x hx,ha2 x hx,ha x hx]⟩
     rw [step true (.inl rfl),if_pos rfl,plainB_q h10 (.inr rfl)]
     rw [List.append_assoc] at hb3; exact hb3
   ·have hi0' : ¬ ((i : Nat) : Int) = 0 := by omega
    simp (disch := omega) only [↓wD,wU,↓reduceIte,reduceLT,reduceEqDiff,reduceSub,reduceAdd,f0,f3,f8,f9,hi0',decide_false,skipB_u]
    refine ⟨by omega,?_⟩
    refine c98 (t := byteAt s i) hK hS.toBdIs hb (by omega) fun _ H3 hb3 ha3 hn3 => ?_
    unfold Later
    simp (disch := omega) only [↓wD,wU,↓reduceIte,reduceLT,reduceEqDiff,reduceSub,reduceAdd,f0,f3,f8,f9]
    refine hI _ _ _ (show m - 1 < m by omega) ?_
    refine ⟨_,i + 1,r,rfl,f0,f3,f8,rfl,by omega,by omega,?_,fun x hx => by rw [ha3 x hx,ha x hx]⟩
    rw [step r (.inr rfl),if_neg hi0,plainB_s h10 hsf]; exact hb3
  ·have hsf' : safeB (((byteAt s i).toNat : Nat) : Int) = false := by
    cases e : safeB (((byteAt s i).toNat : Nat) : Int) with
    | true => exact absurd e hsf
    | false => rfl
   simp (disch := omega) only [↓wD,wU,↓reduceIte,reduceLT,reduceEqDiff,reduceSub,reduceAdd,f0,f3,f8,f9,hik,h10,decide_true,decide_false]
   refine ⟨by omega,?_⟩
   refine ⟨by omega,?_⟩
   refine c96 hK hS ?_
   unfold Later
   rw [hsf']
   simp (disch := omega) only [↓wD,wU,↓reduceIte,reduceLT,reduceEqDiff,reduceSub,reduceAdd,f0,f3,f8,f9]
   refine c98 (t := 92) hK hS.toBdIs hb (by omega) fun _ H2 hb2 ha2 hn2 => ?_
   unfold Later
   simp (disch := omega) only [↓wD,wU,↓reduceIte,reduceLT,reduceEqDiff,reduceSub,reduceAdd,f0,f3,f8,f9]
   refine ⟨by omega,?_⟩
   refine c98 (t := byteAt s i) hK hS.toBdIs hb2 (by simp only [List.length_append,List.length_cons,List.length_nil]; omega) fun _ H3 hb3 ha3 hn3 => ?_
   unfold Later
   simp (disch := omega) only [↓wD,wU,↓reduceIte,reduceLT,reduceEqDiff,reduceSub,reduceAdd,f0,f3,f8,f9]
   refine hI _ _ _ (show m - 1 < m by omega) ?_
   refine ⟨_,i + 1,r,rfl,f0,f3,f8,rfl,by omega,by omega,?_,fun x hx => by rw [ha3 x hx,ha2 x hx,ha x hx]⟩
   rw [step r (.inr rfl),plainB_q h10 (.inl hsf')]
   rw [List.append_assoc] at hb3; exact hb3
 ·simp (disch := omega) only [↓wD,wU,↓reduceIte,reduceLT,reduceEqDiff,reduceSub,reduceAdd,f0,f3,f8,f9,hik,decide_false]
  refine c99 hK hS.toBdIs hb (by omega) fun H2 ha2 hn2 => ?_
  unfold Later
  simp (disch := omega) only [↓wD,wU,↓reduceIte,reduceLT,reduceEqDiff,reduceSub,reduceAdd]
  refine fin _ r _ ?_ (fun x hx => by rw [ha2 x hx,ha x hx])
  rw [List.take_of_length_le (by omega),plainP_eq hne]
theorem c180 {K : Cx} (hK : Cfg K) (hS : QuoIs K) {s p : ByteArray} {H : Heap} {Q : Value → Heap → Prop} (hp : p.size = 1) (hQ : Q (.int .i64 (idxL s.data.toList (byteAt p 0))) H) : FC K 180 [.string s,.string p] H Q := by
 refine FC.of hK hS.i180 (by simp [F180]) ?_
 unfold F180
 simp (disch := omega) only [↓wD,wU,↓reduceIte,reduceLT,reduceEqDiff,reduceSub,reduceAdd]
 refine c191 hK hS.toStrIs hp ?_
 unfold Later
 simp (disch := omega) only [↓wD,wU,↓reduceIte,reduceLT,reduceEqDiff,reduceSub,reduceAdd]
 exact hQ
theorem c179 {K : Cx} (hK : Cfg K) (hS : QuoIs K) {s : ByteArray} {H : Heap} {Q : Value → Heap → Prop} (hQ : Q (.int .i64 (s.data.toList.countP (· == 39))) H) : FC K 179 [.string s,.string ⟨#[39]⟩] H Q := by
 refine FC.of hK hS.i179 (by simp [F179]) ?_
 unfold F179
 simp (disch := omega) only [↓wD,wU,↓reduceIte,reduceLT,reduceEqDiff,reduceSub,reduceAdd,Int.reduceEq,decide_true,decide_false,Int.natCast_one]
 have hb : byteAt ⟨#[39]⟩ 0 = 39 := rfl
 refine ⟨by decide,?_⟩
 refine hS.x208 _ _ _ ?_
 show Later _ _ _ _ _ _ _
 unfold Later
 simp (disch := omega) only [↓wD,wU,↓reduceIte,reduceLT,reduceEqDiff,reduceSub,reduceAdd]
 exact hQ
theorem flat_single {l : List UInt8} (h : l.countP (· == 39) = 0) : l.flatMap singleB = l := by
 induction l with
 | nil => rfl
 | cons b l ih =>
  rw [List.countP_cons] at h
  have hb : ¬ b = 39 := fun e => by subst e; simp at h
  rw [List.flatMap_cons,ih (by omega)]
  unfold singleB
  rw [if_neg hb]; rfl
theorem idx_found {l : List UInt8} (h : 0 < l.countP (· == 39)) : ∃ i : Nat,idxL l 39 = i ∧ i < l.length ∧ (l.take i).countP (· == 39) = 0 ∧ l.drop i = 39 :: l.drop (i + 1) := by
 induction l with
 | nil => simp at h
 | cons b l ih =>
  rw [idxL_cons]
  by_cases hb : b = 39
  ·subst hb
   exact ⟨0,by simp,by simp,by simp,by simp⟩
  ·rw [List.countP_cons] at h
   have hb' : (b == 39) = false := by simpa using hb
   rw [hb'] at h
   obtain ⟨i,h1,h2,h3,h4⟩ := ih (by simpa using h)
   refine ⟨i + 1,?_,by simp; omega,?_,?_⟩
   ·rw [if_neg hb,h1,if_neg (by omega)]; rfl
   ·rw [List.take_succ_cons,List.countP_cons,h3,hb']; rfl
   ·rw [List.drop_succ_cons,List.drop_succ_cons,h4]
set_option maxHeartbeats 1000000 in
theorem c140 {K : Cx} (hK : Cfg K) (hS : QuoIs K) {s : ByteArray} {H : Heap} {Q : Value → Heap → Prop} (hs : s.size ≤ 1000) (hQ : Q (.string ⟨(s.data.toList.flatMap singleB).toArray⟩) H) : FC K 140 [.string s,.string ⟨#[39]⟩,.string ⟨#[39,92,39,39]⟩,.int .i64 (-1)] H Q := by
 refine FC.forget (FC.wf0 fun hw => ?_)
 have fin : ∀ v H',v = .string ⟨(s.data.toList.flatMap singleB).toArray⟩ → Agree H.next H H' → Agree H.next H H' ∧ Old H.next v ∧ Q v H := fun v H' e ha => by subst e; exact ⟨ha,⟨_,.string _⟩,hQ⟩
 refine FC.of hK hS.i140 (by simp [F140]) ?_
 unfold F140
 have hsz := size_data s
 have hne : ¬ ((⟨#[39]⟩ : ByteArray) = ⟨#[39,92,39,39]⟩) := by decide
 have g0 : (H.push (.row [.pointer none,.slice none 0 0] 0 (some 163))).get H.next = some (.row [.pointer none,.slice none 0 0] 0 (some 163)) := Heap.get_push_same _ _
 simp (disch := omega) only [↓wD,wU,↓reduceIte,reduceLT,reduceEqDiff,reduceSub,reduceAdd,hne,decide_false,Int.reduceEq,Int.reduceNeg]
 refine c179 hK hS ?_
 unfold Later
 generalize hc : s.data.toList.countP (· == 39) = c
 have hcl : c ≤ s.size := by rw [← hc,← hsz]; exact List.countP_le_length
 by_cases hc0 : (c : Int) = 0
 ·simp (disch := omega) only [↓wD,wU,↓reduceIte,reduceLT,reduceEqDiff,reduceSub,reduceAdd,eq_true hc0,decide_true]
  refine fin _ _ ?_ (.refl _ _)
  rw [flat_single (by omega),mk_bytes]
 simp (disch := omega) only [↓wD,wU,↓reduceIte,reduceLT,reduceEqDiff,reduceSub,reduceAdd,hc0,decide_false,Int.reduceLT,Int.reduceNeg,decide_true,skipB_u]
 have e1 : ((s.size : Nat) : Int) + (c : Int) * (((4 : Nat) : Int) - ((1 : Nat) : Int)) = ((s.size + 3 * c : Nat) : Int) := by omega
 rw [e1]
 refine c112 hK hS.toBdIs (Heap.wf_push _ hw) g0 (by omega) fun _ H1 hb1 ha1 hn1 => ?_
 unfold Later
 simp (disch := omega) only [↓wD,wU,↓reduceIte,reduceLT,reduceEqDiff,reduceSub,reduceAdd,Int.reduceLT,decide_true,Int.natCast_one,Int.cast_ofNat_Int,hsz]
 refine loop_ind (fun m E H' => ∃ (f : Nat → Value) (j st : Nat),E = mk 104 f ∧ f 0 = .string s ∧ f 1 = .string ⟨#[39]⟩ ∧ f 2 = .string ⟨#[39,92,39,39]⟩ ∧ f 10 = .pointer (some ⟨H.next,0,none⟩) ∧ f 11 = .int .i64 (st : Nat) ∧ f 52 = .int .i64 (c : Nat) ∧ f 53 = .int .i64 (j : Nat) ∧
  m + j = c + 1 ∧ j ≤ c ∧ st ≤ s.size ∧ (s.data.toList.drop st).countP (· == 39) = c - j ∧ Bd H' H.next ((s.data.toList.take st).flatMap singleB) ∧ Agree H.next H H') (n := c + 1) ?_ ?_
 ·exact ⟨_,0,0,rfl,rfl,rfl,rfl,rfl,rfl,rfl,rfl,by omega,by omega,by omega,by simpa using hc,hb1,fun x hx => (ha1 x hx).trans (Heap.get_push_ne _ _ (by omega))⟩
 rintro I m E H' ⟨f,j,st,rfl,f0,f1,f2,f10,f11,f52,f53,hm,hj,hst,hcn,hb,ha⟩ hI
 have hl := flatMap_len singleB_len (s.data.toList.take st)
 rw [List.length_take] at hl
 have hx : (s.extract st s.size).data.toList = s.data.toList.drop st := by rw [extract_list,List.take_of_length_le (by rw [List.length_drop]; omega)]
 have hxs : (s.extract st s.size).size = s.size - st := by rw [ByteArray.size_extract]; omega
 by_cases hjc : (j : Int) < c
 ·obtain ⟨i,h1,h2,h3,h4⟩ := idx_found (l := s.data.toList.drop st) (by omega)
  rw [List.length_drop] at h2
  simp (disch := omega) only [↓wD,wU,↓reduceIte,reduceLT,reduceEqDiff,reduceSub,reduceAdd,f0,f1,f2,f10,f11,f52,f53,hjc,decide_true]
  refine c180 (p := ⟨#[39]⟩) hK hS rfl ?_
  unfold Later
  rw [hx,show byteAt ⟨#[39]⟩ 0 = 39 from rfl,h1]
  simp (disch := omega) only [↓wD,wU,↓reduceIte,reduceLT,reduceEqDiff,reduceSub,reduceAdd,f0,f1,f2,f10,f11,f52,f53]
  have hy : (s.extract st (st + i)).data.toList = (s.data.toList.drop st).take i := by rw [extract_list]; congr 1; omega
  have hys : (s.extract st (st + i)).size = i := by rw [ByteArray.size_extract]; omega
  refine c95 (t := s.extract st (st + i)) hK hS.toBdIs hb (by omega) fun _ H2 hb2 ha2 hn2 => ?_
  unfold Later
  simp (disch := omega) only [↓wD,wU,↓reduceIte,reduceLT,reduceEqDiff,reduceSub,reduceAdd,f0,f1,f2,f10,f11,f52,f53]
  rw [hy] at hb2
  refine c95 (t := ⟨#[39,92,39,39]⟩) hK hS.toBdIs hb2 (by rw [List.length_append,List.length_take,List.length_drop]; show _ + 4 ≤ _; omega) fun _ H3 hb3 ha3 hn3 => ?_
  unfold Later
  simp (disch := omega) only [↓wD,wU,↓reduceIte,reduceLT,reduceEqDiff,reduceSub,reduceAdd,f0,f1,f2,f10,f11,f52,f53,Int.natCast_one]
  refine hI _ _ _ (show m - 1 < m by omega) ?_
  refine ⟨_,j + 1,st + i + 1,rfl,f0,f1,f2,f10,rfl,f52,rfl,by omega,by omega,by omega,?_,?_,fun x hx => by rw [ha3 x hx,ha2 x hx,ha x hx]⟩
  ·have e := hcn
   rw [← List.take_append_drop i (s.data.toList.drop st),List.countP_append,h3,h4,List.countP_cons,List.drop_drop] at e
   rw [show st + i + 1 = st + (i + 1) by omega]
   simp only [beq_self_eq_true,if_true] at e
   omega
  ·have e2 : s.data.toList.take (st + i + 1) = s.data.toList.take st ++ ((s.data.toList.drop st).take i ++ [39]) := by
    have e3 : s.data.toList.drop st = (s.data.toList.drop st).take i ++ 39 :: s.data.toList.drop (st + (i + 1)) := by
     conv => lhs; rw [← List.take_append_drop i (s.data.toList.drop st),h4,List.drop_drop]
    conv => lhs; rw [← List.take_append_drop st s.data.toList,e3]
    rw [show (s.data.toList.take st ++ ((s.data.toList.drop st).take i ++ 39 :: s.data.toList.drop (st + (i + 1)))) = (s.data.toList.take st ++ ((s.data.toList.drop st).take i ++ [39])) ++ s.data.toList.drop (st + (i + 1)) by simp]
    rw [List.take_left' (by rw [List.length_append,List.length_append,List.length_take,List.length_take,List.length_drop,List.length_cons,List.length_nil]; omega)]
   rw [e2,List.flatMap_append,List.flatMap_append,flat_single h3,← List.append_assoc]
   exact hb3
 ·simp (disch := omega) only [↓wD,wU,↓reduceIte,reduceLT,reduceEqDiff,reduceSub,reduceAdd,f0,f1,f2,f10,f11,f52,f53,hjc,decide_false]
  refine c95 (t := s.extract st s.size) hK hS.toBdIs hb (by omega) fun _ H2 hb2 ha2 hn2 => ?_
  unfold Later
  simp (disch := omega) only [↓wD,wU,↓reduceIte,reduceLT,reduceEqDiff,reduceSub,reduceAdd,f0,f1,f2,f10,f11,f52,f53]
  refine c99 hK hS.toBdIs hb2 (by rw [hx,List.length_append,List.length_drop]; omega) fun H3 ha3 hn3 => ?_
  unfold Later
  simp (disch := omega) only [↓wD,wU,↓reduceIte,reduceLT,reduceEqDiff,reduceSub,reduceAdd]
  refine fin _ _ ?_ (fun x hx => by rw [ha3 x hx,ha2 x hx,ha x hx])
  have : (s.data.toList.drop st).flatMap singleB = s.data.toList.drop st := flat_single (by omega)
  rw [hx,← this,← List.flatMap_append,List.take_append_drop]
theorem c100 {K : Cx} (hK : Cfg K) (hS : QuoIs K) {s : ByteArray} {H : Heap} {Q : Value → Heap → Prop} (hs : s.size ≤ 1000) (hQ : Q (.string ⟨(s.data.toList.flatMap singleB).toArray⟩) H) : FC K 100 [.string s,.string ⟨#[39]⟩,.string ⟨#[39,92,39,39]⟩] H Q := by
 refine FC.of hK hS.i100 (by simp [F100]) ?_
 unfold F100
 simp (disch := omega) only [↓wD,wU,↓reduceIte,reduceLT,reduceEqDiff,reduceSub,reduceAdd]
 refine c140 hK hS hs ?_
 unfold Later
 simp (disch := omega) only [↓wD,wU,↓reduceIte,reduceLT,reduceEqDiff,reduceSub,reduceAdd]
 exact hQ
theorem add_bytes (a b : List UInt8) : (⟨a.toArray⟩ : ByteArray) ++ ⟨b.toArray⟩ = ⟨(a ++ b).toArray⟩ := bytes_ext (by simp)
theorem add_lit (a : List UInt8) (c : UInt8) : (⟨a.toArray⟩ : ByteArray) ++ ⟨#[c]⟩ = ⟨(a ++ [c]).toArray⟩ := bytes_ext (by simp)
theorem size_mk (l : List UInt8) : (⟨l.toArray⟩ : ByteArray).size = l.length := by show l.toArray.size = _; simp
theorem c59 {K : Cx} (hK : Cfg K) (hS : QuoIs K) {s : ByteArray} {H : Heap} {Q : Value → Heap → Prop} (hs : s.size ≤ 1000) (hQ : Q (.string ⟨(singleL s.data.toList).toArray⟩) H) : FC K 59 [.string s] H Q := by
 refine FC.of hK hS.i59 (by simp [F59]) ?_
 unfold F59
 simp (disch := omega) only [↓wD,wU,↓reduceIte,reduceLT,reduceEqDiff,reduceSub,reduceAdd]
 refine c100 hK hS hs ?_
 unfold Later
 have hl := flatMap_len singleB_len s.data.toList
 rw [size_data] at hl
 have e : (1 + (⟨(s.data.toList.flatMap singleB).toArray⟩ : ByteArray).size : Nat) ≤ 9223372036854775807 := by rw [size_mk]; omega
 simp (disch := omega) only [↓wD,wU,↓reduceIte,reduceLT,reduceEqDiff,reduceSub,reduceAdd,e]
 rw [show (⟨#[39]⟩ : ByteArray) = ⟨[39].toArray⟩ from rfl,add_bytes]
 exact hQ
structure Form (s : ByteArray) (w : List UInt8) : Prop where
 wr : Wr .top 0 w .top s.data.toList
 ne : w ≠ []
 len : w.length ≤ 4 * s.size + 2
theorem form_plain (r : Bool) (s : ByteArray) : Form s (plainL r s.data.toList) := by
 refine ⟨wr_plain r _,?_,?_⟩
 ·cases h : s.data.toList with
  | nil => simp [plainL]
  | cons b l =>
   unfold plainL plainB
   (repeat' split) <;> simp
 ·have := size_data s
  cases h : s.data.toList with
  | nil => simp [plainL]
  | cons b l =>
   have h1 := plainP_len r s.data.toList
   rw [plainP_eq (by rw [h]; simp),h] at h1
   rw [h] at this
   omega
theorem form_single (s : ByteArray) : Form s (singleL s.data.toList ++ [39]) := by
 refine ⟨wr_single _,by simp [singleL],?_⟩
 have h1 := flatMap_len singleB_len s.data.toList
 rw [size_data] at h1
 simp only [singleL,List.length_append,List.length_cons,List.length_nil]; omega
theorem form_double (s : ByteArray) : Form s (doubleL s.data.toList ++ [34]) := by
 refine ⟨wr_double _,by simp [doubleL],?_⟩
 have h1 := flatMap_len doubleB_len s.data.toList
 rw [size_data] at h1
 simp only [doubleL,List.length_append,List.length_cons,List.length_nil]; omega
theorem c30 {K : Cx} (hK : Cfg K) (hS : QuoIs K) {s : ByteArray} {st : Int} {H : Heap} {Q : Value → Heap → Prop} (hs : s.size ≤ 1000) (hst : st = 0 ∨ st = 4 ∨ st = 5) (hQ : ∀ w,Form s w → Q (.string ⟨w.toArray⟩) H) : FC K 30 [.string s,.int .i64 st,.bool true] H Q := by
 refine FC.of hK hS.i30 (by simp [F30]) ?_
 unfold F30
 simp (disch := omega) only [↓wD,wU,↓reduceIte,reduceLT,reduceEqDiff,reduceSub,reduceAdd]
 refine c58 hK hS hs fun r => ?_
 unfold Later
 rcases hst with rfl | rfl | rfl
 ·have hf := form_plain r s
  simp (disch := omega) only [↓wD,wU,↓reduceIte,reduceLT,reduceEqDiff,reduceSub,reduceAdd,Int.reduceEq,decide_true,decide_false]
  rw [show (⟨#[]⟩ : ByteArray) = ⟨[].toArray⟩ from rfl,add_bytes,List.append_nil]
  rw [if_pos (by have := hf.len; omega)]
  exact hQ _ hf
 ·simp (disch := omega) only [↓wD,wU,↓reduceIte,reduceLT,reduceEqDiff,reduceSub,reduceAdd,Int.reduceEq,decide_true,decide_false]
  refine c59 hK hS hs ?_
  unfold Later
  have hf := form_single s
  have hl : (singleL s.data.toList).length + 1 ≤ 4 * s.size + 2 := by
   have := hf.len
   rw [List.length_append] at this
   exact this
  have hl2 : (((singleL s.data.toList).length + 1 : Nat) : Int) ≤ 9223372036854775807 := by omega
  simp (disch := omega) only [↓wD,wU,↓reduceIte,reduceLT,reduceEqDiff,reduceSub,reduceAdd,hl2]
  exact add_lit _ _ ▸ hQ _ hf
 ·simp (disch := omega) only [↓wD,wU,↓reduceIte,reduceLT,reduceEqDiff,reduceSub,reduceAdd,Int.reduceEq,decide_true,decide_false]
  refine c60 hK hS hs ?_
  unfold Later
  have hf := form_double s
  have hl : (doubleL s.data.toList).length + 1 ≤ 4 * s.size + 2 := by
   have := hf.len
   rw [List.length_append] at this
   exact this
  have hl2 : (((doubleL s.data.toList).length + 1 : Nat) : Int) ≤ 9223372036854775807 := by omega
  simp (disch := omega) only [↓wD,wU,↓reduceIte,reduceLT,reduceEqDiff,reduceSub,reduceAdd,hl2]
  exact add_lit _ _ ▸ hQ _ hf
theorem c12 {K : Cx} (hK : Cfg K) (hS : QuoIs K) {s : ByteArray} {H : Heap} {Q : Value → Heap → Prop} (hs : s.size ≤ 1000) (hQ : ∀ w,Form s w → Q (.string ⟨w.toArray⟩) H) : FC K 12 [.string s] H Q := by
 refine FC.forget ?_
 have fin : ∀ w H',Form s w → Agree H.next H H' → Agree H.next H H' ∧ Old H.next (.string ⟨w.toArray⟩) ∧ Q (.string ⟨w.toArray⟩) H := fun w H' e ha => ⟨ha,⟨_,.string _⟩,hQ w e⟩
 refine FC.of hK hS.i12 (by simp [F12]) ?_
 unfold F12
 simp (disch := omega) only [↓wD,wU,↓reduceIte,reduceLT,reduceEqDiff,reduceSub,reduceAdd,sliceOf]
 have hc0 : cellAt (H.push (.row [.int .i64 0,.int .i64 4,.int .i64 5] 0 none)) H.next 0 = some (.int .i64 0) := cellAt_push_self
 have hc1 : cellAt (H.push (.row [.int .i64 0,.int .i64 4,.int .i64 5] 0 none)) H.next 1 = some (.int .i64 4) := cellAt_push_self
 have hc2 : cellAt (H.push (.row [.int .i64 0,.int .i64 4,.int .i64 5] 0 none)) H.next 2 = some (.int .i64 5) := cellAt_push_self
 refine loop_ind (fun m E H' => ∃ (f : Nat → Value) (i : Nat) (w : List UInt8),E = mk 28 f ∧ f 0 = .string s ∧ f 3 = .string ⟨w.toArray⟩ ∧ f 7 = .slice (some ⟨H.next,0,some 1⟩) 3 3 ∧ f 8 = .int .i64 3 ∧ f 9 = .int .i64 (i : Nat) ∧ m + i = 4 ∧ i ≤ 3 ∧ (i ≠ 0 → Form s w) ∧ (i = 0 → w = []) ∧ H' = H.push (.row [.int .i64 0,.int .i64 4,.int .i64 5] 0 none)) (n := 4) ?_ ?_
 ·exact ⟨_,0,[],rfl,rfl,rfl,rfl,rfl,rfl,by omega,by omega,fun h => absurd rfl h,fun _ => rfl,rfl⟩
 rintro I m E H' ⟨f,i,w,rfl,f0,f3,f7,f8,f9,hm,hi,hw,hwe,rfl⟩ hI
 by_cases hik : (i : Int) < 3
 ·simp (disch := omega) only [↓wD,wU,↓reduceIte,reduceLT,reduceEqDiff,reduceSub,reduceAdd,f0,f3,f7,f8,f9,hik,decide_true]
  refine ⟨by omega,?_⟩
  have hst : ∃ x : Int,(if i * 1 = 0 then some (Value.int IntKind.i64 0) else if i * 1 - 1 = 0 then some (Value.int IntKind.i64 4) else if i * 1 - 1 - 1 = 0 then some (Value.int IntKind.i64 5) else ([] : List Value)[i * 1 - 1 - 1 - 1]?) = some (.int .i64 x) ∧ (x = 0 ∨ x = 4 ∨ x = 5) := by
   rcases i with _ | _ | _ | i
   ·exact ⟨0,rfl,.inl rfl⟩
   ·exact ⟨4,rfl,.inr (.inl rfl)⟩
   ·exact ⟨5,rfl,.inr (.inr rfl)⟩
   ·omega
  obtain ⟨x,hx,hxs⟩ := hst
  rw [hx]
  refine c30 hK hS hs hxs fun w2 hw2 => ?_
  unfold Later
  by_cases hw0 : (⟨w.toArray⟩ : ByteArray) = ⟨#[]⟩
  ·simp (disch := omega) only [↓wD,wU,↓reduceIte,reduceLT,reduceEqDiff,reduceSub,reduceAdd,f0,f3,f7,f8,f9,eq_true hw0,decide_true,skipB_u]
   refine hI _ _ _ (show m - 1 < m by omega) ?_
   exact ⟨_,i + 1,w2,rfl,f0,rfl,f7,f8,rfl,by omega,by omega,fun _ => hw2,fun e => by omega,rfl⟩
  ·have hi0 : i ≠ 0 := fun e => by
    rw [hwe e] at hw0; exact hw0 rfl
   by_cases hlen : (w.length : Int) ≤ w2.length
   ·simp (disch := omega) only [↓wD,wU,↓reduceIte,reduceLT,reduceEqDiff,reduceSub,reduceAdd,f0,f3,f7,f8,f9,hw0,hlen,decide_true,decide_false]
    refine hI _ _ _ (show m - 1 < m by omega) ?_
    exact ⟨_,i + 1,w,rfl,f0,f3,f7,f8,rfl,by omega,by omega,fun _ => hw hi0,fun e => by omega,rfl⟩
   ·simp (disch := omega) only [↓wD,wU,↓reduceIte,reduceLT,reduceEqDiff,reduceSub,reduceAdd,f0,f3,f7,f8,f9,hw0,hlen,decide_true,decide_false]
    refine hI _ _ _ (show m - 1 < m by omega) ?_
    exact ⟨_,i + 1,w2,rfl,f0,rfl,f7,f8,rfl,by omega,by omega,fun _ => hw2,fun e => by omega,rfl⟩
 ·simp (disch := omega) only [↓wD,wU,↓reduceIte,reduceLT,reduceEqDiff,reduceSub,reduceAdd,f0,f3,f7,f8,f9,hik,decide_false]
  exact fin _ _ (hw (by omega)) (Agree.push _ (Nat.le_refl _))
end Go.Ae
