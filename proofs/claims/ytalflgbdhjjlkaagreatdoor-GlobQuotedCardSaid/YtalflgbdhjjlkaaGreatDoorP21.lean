/- Part 21 of the proof of the law: Ce8, Pl1. No condition. -/
import Derived.Test.YtalflgbdhjjlkaaGreatDoorP20
set_option linter.all false
namespace Go.Ae
open Nat (reduceLT reduceEqDiff reduceSub reduceAdd reduceMul reduceLeDiff)
open Int (reduceToNat)
open Go
set_option maxRecDepth 100000
def joinL (sep : List UInt8) (s : Nat → List UInt8) : Nat → List UInt8
 | 0 => []
 | k + 1 => s 0 ++ (List.range k).flatMap fun j => sep ++ s (j + 1)
theorem joinL_succ (sep : List UInt8) (s : Nat → List UInt8) (k : Nat) : joinL sep s (k + 2) = joinL sep s (k + 1) ++ sep ++ s (k + 1) := by
 simp [joinL,List.range_succ,List.append_assoc]
theorem joinL_len (sep : List UInt8) (s : Nat → List UInt8) (B : Nat) (hs : sep.length = 1) : ∀ k,(∀ j,j < k → (s j).length ≤ B) → (joinL sep s k).length ≤ k * (B + 1)
 | 0,_ => by simp [joinL]
 | 1,h => by have := h 0 (by omega); simp [joinL]; omega
 | k + 2,h => by
  have := joinL_len sep s B hs (k + 1) fun j hj => h j (by omega)
  have h2 := h (k + 1) (by omega)
  rw [joinL_succ]
  simp only [List.length_append,hs]
  rw [show (k + 2) * (B + 1) = (k + 1) * (B + 1) + (B + 1) by rw [Nat.add_mul (k + 1) 1,Nat.one_mul]]
  omega
theorem abin_quo (k : IntKind) (a b : Int) (h : b ≠ 0) : abin .quo (.int k a) (.int k b) = some (.int k (k.wrap (a.tdiv b))) := by simp [abin,h]
structure JoinIs (K : Cx) : Prop extends BdIs K where
 i72 : Is K.P K.G0 72 F72
theorem c72 {K : Cx} (hK : Cfg K) (hS : JoinIs K) {v : Value} {k : Nat} {g : Nat → Value} {s : Nat → ByteArray} {sep : ByteArray} {H : Heap} {Q : Value → Heap → Prop} (hv : Sl H v 1 k g) (hg : ∀ j,j < k → g j = .string (s j) ∧ (s j).size ≤ 1000)
  (hk : k ≤ 10000) (hsep : sep.size = 1) (hQ : Q (.string ⟨(joinL sep.data.toList (fun j => (s j).data.toList) k).toArray⟩) H) : FC K 72 [v,.string sep] H Q := by
 refine FC.forget (FC.wf0 fun hw => ?_)
 refine FC.of hK hS.i72 (by simp [F72]) ?_
 unfold F72
 obtain ⟨a,cap,rfl,hcp,hs⟩ := hv
 simp (disch := omega) only [↓wD,wU,↓reduceIte,reduceLT,reduceEqDiff,reduceAdd,reduceMul,hsep]
 split
 ·rename_i h
  have : k = 0 := by omega
  subst this
  exact ⟨.refl _ _,.string _,hQ⟩
 rename_i hk0
 obtain ⟨b,o,rfl,hc⟩ := hs.resolve_left (by omega)
 have hlt := cellAt_lt (hc 0 (by omega))
 split
 ·rename_i h
  have : k = 1 := by omega
  subst this
  have c0 := hc 0 (by omega)
  rw [(hg 0 (by omega)).1] at c0
  simp only [Nat.add_zero] at c0
  simp (disch := omega) only [↓wD,wU,↓reduceIte,reduceLT,reduceEqDiff,reduceAdd,reduceMul,c0]
  refine ⟨by omega,.refl _ _,.string _,?_⟩
  simp only [joinL,List.range_zero,List.flatMap_nil,List.append_nil] at hQ
  exact hQ
 rename_i hk1
 obtain ⟨k,rfl⟩ : ∃ n,k = n + 2 := ⟨k - 2,by omega⟩
 have e1 : ((k + 2 : Nat) : Int) - 1 = ((k + 1 : Nat) : Int) := by omega
 rw [if_pos (by decide)]
 simp (disch := omega) only [↓wD,wU,↓reduceIte,reduceLT,reduceEqDiff,reduceAdd,reduceMul,hsep,e1,abin_quo,Int.one_mul]
 have hd : Int.tdiv 9223372036854775807 ((k + 1 : Nat) : Int) = 9223372036854775807 / ((k + 1 : Nat) : Int) := Int.tdiv_eq_ediv_of_nonneg (by decide)
 have h2 : 2 ≤ 9223372036854775807 / ((k + 1 : Nat) : Int) := Int.le_ediv_of_mul_le (by omega) (by omega)
 have h3 : 9223372036854775807 / ((k + 1 : Nat) : Int) ≤ 9223372036854775807 := Int.ediv_le_self _ (by decide)
 rw [hd]
 generalize 9223372036854775807 / ((k + 1 : Nat) : Int) = q at h2 h3
 rw [wrap_i64 ⟨by omega,h3⟩,if_neg (by omega)]
 simp (disch := omega) only [↓wD,wU,↓reduceIte,reduceLT,reduceEqDiff,reduceAdd,reduceMul,hsep,e1,abin_quo,Int.one_mul,Int.zero_add]
 refine loop_ind (fun m E H' => ∃ (f : Nat → Value) (i n : Nat),E = mk 75 f ∧ f 0 = .slice (some ⟨b,o,some 1⟩) (k + 2) cap ∧ f 1 = .string sep ∧ f 5 = .int .i64 (n : Nat) ∧ f 39 = .slice (some ⟨b,o,some 1⟩) (k + 2) cap ∧ f 40 = .int .i64 ((k + 2 : Nat) : Int) ∧ f 41 = .int .i64 (i : Nat) ∧
   m + i = k + 3 ∧ n ≤ k + 1 + i * 1000 ∧ i ≤ k + 2 ∧ H' = H) (n := k + 3) ?_ ?_
 ·exact ⟨_,0,k + 1,rfl,rfl,rfl,by simp [upv_at],rfl,rfl,rfl,rfl,by omega,by omega,rfl⟩
 rintro I m E H' ⟨f,i,n,rfl,f0,f1,f5,f39,f40,f41,hm,hn,hi,rfl⟩ hI
 by_cases hik : (i : Int) < ((k + 2 : Nat) : Int)
 ·have c0 := hc i (by omega)
  rw [(hg i (by omega)).1] at c0
  have hsz := (hg i (by omega)).2
  simp (disch := omega) only [↓wD,wU,↓reduceIte,reduceLT,reduceEqDiff,reduceAdd,reduceMul,f0,f1,f5,f39,f40,f41,hik,c0,Nat.mul_one]
  refine ⟨by omega,?_⟩
  rw [if_neg (by omega)]
  refine hI _ _ _ (show m - 1 < m by omega) ?_
  exact ⟨_,i + 1,n + (s i).size,rfl,f0,f1,rfl,f39,f40,rfl,by omega,by omega,by omega,rfl⟩
 simp (disch := omega) only [↓wD,wU,↓reduceIte,reduceLT,reduceEqDiff,reduceAdd,reduceMul,f0,f1,f5,f39,f40,f41,hik]
 clear hI
 refine c112 hK hS.toBdIs (Heap.wf_push _ hw) (Heap.get_push_same _ _) (by omega) fun _ H1 hb1 ha1 hn1 => ?_
 unfold Later
 simp only [Heap.next_push] at hn1
 have hA1 : Agree H'.next H' H1 := (Agree.push _ (Nat.le_refl _)).trans ha1
 have cell : ∀ {G : Heap},Agree H'.next H' G → ∀ j,j < k + 2 → cellAt G b (o + j) = some (.string (s j)) := fun hG j hj => by
  rw [cellAt_agree hG hlt,hc j (by omega),(hg j hj).1]
 have c0 := cell hA1 0 (by omega)
 simp only [Nat.add_zero] at c0
 simp (disch := omega) only [↓wD,wU,↓reduceIte,reduceLT,reduceEqDiff,reduceAdd,reduceMul,f0,f1,c0]
 refine ⟨by omega,?_⟩
 refine c95 hK hS.toBdIs hb1 (by have := (hg 0 (by omega)).2; simp; omega) fun _ H2 hb2 ha2 hn2 => ?_
 unfold Later
 simp (disch := omega) only [↓wD,wU,↓reduceIte,reduceLT,reduceEqDiff,reduceAdd,reduceMul,f0,f1,sliceOf,e1]
 have hlen : ∀ j,j ≤ k + 2 → (joinL sep.data.toList (fun j => (s j).data.toList) j).length ≤ 10010000 := fun j hj => by
  have := joinL_len sep.data.toList (fun j => (s j).data.toList) 1000 (by rw [size_data]; exact hsep) j (fun x hx => by rw [size_data]; exact (hg x (by omega)).2)
  omega
 refine loop_ind (fun m E G => ∃ (f : Nat → Value) (i : Nat),E = mk 75 f ∧ f 1 = .string sep ∧ f 8 = .pointer (some ⟨H'.next,0,none⟩) ∧ f 63 = .slice (some ⟨b,o + 1,some 1⟩) (k + 1) (cap - 1) ∧ f 64 = .int .i64 ((k + 1 : Nat) : Int) ∧ f 65 = .int .i64 (i : Nat) ∧
   m + i = k + 2 ∧ i ≤ k + 1 ∧ Bd G H'.next (joinL sep.data.toList (fun j => (s j).data.toList) (i + 1)) ∧ Agree H'.next H' G) (n := k + 2) ?_ ?_
 ·refine ⟨_,0,rfl,f1,rfl,rfl,rfl,rfl,rfl,by omega,?_,hA1.trans ha2⟩
  simpa [joinL] using hb2
 clear c0
 rintro I m E G ⟨f,i,rfl,f1,f8,f63,f64,f65,hm,hi,hb,hA⟩ hI
 by_cases hik : (i : Int) < ((k + 1 : Nat) : Int)
 ·have c0 := cell hA (1 + i) (by omega)
  simp (disch := omega) only [↓wD,wU,↓reduceIte,reduceLT,reduceEqDiff,reduceAdd,reduceMul,f1,f8,f63,f64,f65,hik,c0,Nat.mul_one]
  refine ⟨by omega,?_⟩
  refine c95 hK hS.toBdIs hb (by have := hlen (i + 1) (by omega); omega) fun _ G1 hb1 ha1 hn1 => ?_
  unfold Later
  simp (disch := omega) only [↓wD,wU,↓reduceIte,reduceLT,reduceEqDiff,reduceAdd,reduceMul,f1,f8,f63,f64,f65]
  refine c95 hK hS.toBdIs hb1 (by have := hlen (i + 1) (by omega); have := (hg (1 + i) (by omega)).2; rw [List.length_append,size_data]; omega) fun _ G2 hb2 ha2 hn2 => ?_
  unfold Later
  simp (disch := omega) only [↓wD,wU,↓reduceIte,reduceLT,reduceEqDiff,reduceAdd,reduceMul,f1,f8,f63,f64,f65]
  refine hI _ _ _ (show m - 1 < m by omega) ?_
  refine ⟨_,i + 1,rfl,f1,f8,f63,f64,rfl,by omega,by omega,?_,(hA.trans ha1).trans ha2⟩
  rw [joinL_succ]
  rw [Nat.add_comm 1 i] at hb2
  exact hb2
 simp (disch := omega) only [↓wD,wU,↓reduceIte,reduceLT,reduceEqDiff,reduceAdd,reduceMul,f1,f8,f63,f64,f65,hik]
 have : i = k + 1 := by omega
 subst this
 refine c99 hK hS.toBdIs hb (by have := hlen (k + 1 + 1) (by omega); omega) fun H3 ha3 hn3 => ?_
 unfold Later
 simp (disch := omega) only [↓wD,wU,↓reduceIte,reduceLT,reduceEqDiff,reduceAdd,reduceMul]
 exact ⟨hA.trans ha3,.string _,hQ⟩
end Go.Ae
namespace Go.Ae
open Go
def stepAll : QS → Nat → List UInt8 → Option QS
 | q,_,[] => some q
 | q,i,b :: l => match qstep q i ((b.toNat : Nat) : Int) with
  | some q' => stepAll q' (i + 1) l
  | none => none
def says (q : QS) (b : Int) : List UInt8 := match q with
 | .top => if b = 92 ∨ b = 39 ∨ b = 34 then [] else [b.toNat.toUInt8]
 | .esc _ => [b.toNat.toUInt8]
 | .sgl _ => if b = 39 then [] else [b.toNat.toUInt8]
 | .dbl _ => if b = 34 ∨ b = 92 then [] else [b.toNat.toUInt8]
 | .desc _ _ => [b.toNat.toUInt8]
def saysAll : QS → Nat → List UInt8 → List UInt8
 | _,_,[] => []
 | q,i,b :: l => says q ((b.toNat : Nat) : Int) ++ match qstep q i ((b.toNat : Nat) : Int) with
  | some q' => saysAll q' (i + 1) l
  | none => []
def Wr (q : QS) (i : Nat) (l : List UInt8) (q' : QS) (t : List UInt8) : Prop := stepAll q i l = some q' ∧ saysAll q i l = t
theorem Wr.nil {q : QS} {i : Nat} : Wr q i [] q [] := ⟨rfl,rfl⟩
theorem Wr.cons {q q1 q2 : QS} {i : Nat} {b : UInt8} {l t : List UInt8} (h : qstep q i ((b.toNat : Nat) : Int) = some q1) (h' : Wr q1 (i + 1) l q2 t) : Wr q i (b :: l) q2 (says q ((b.toNat : Nat) : Int) ++ t) := by
 refine ⟨?_,?_⟩
 ·simp only [stepAll,h]; exact h'.1
 ·simp only [saysAll,h]; rw [h'.2]
theorem Wr.append {q q1 q2 : QS} {i : Nat} {l l' t t' : List UInt8} (h : Wr q i l q1 t) (h' : Wr q1 (i + l.length) l' q2 t') : Wr q i (l ++ l') q2 (t ++ t') := by
 induction l generalizing q i t with
 | nil =>
  obtain ⟨h1,h2⟩ := h
  simp only [stepAll,saysAll] at h1 h2
  cases h1; subst h2
  exact h'
 | cons b l ih =>
  obtain ⟨h1,h2⟩ := h
  simp only [stepAll,saysAll] at h1 h2
  cases hs : qstep q i ((b.toNat : Nat) : Int) with
  | none => rw [hs] at h1; cases h1
  | some q3 =>
   rw [hs] at h1 h2
   simp only at h1 h2
   have := Wr.cons hs (ih ⟨h1,rfl⟩ (by rw [show i + 1 + l.length = i + (b :: l).length by simp; omega]; exact h'))
   rw [← h2,List.append_assoc]
   exact this
theorem Wr.one {q q1 : QS} {i : Nat} {b : UInt8} {t : List UInt8} (h : qstep q i ((b.toNat : Nat) : Int) = some q1) (ht : says q ((b.toNat : Nat) : Int) = t) : Wr q i [b] q1 t := by
 have := Wr.cons h (Wr.nil (q := q1) (i := i + 1))
 rw [ht,List.append_nil] at this
 exact this
theorem says_self (b : UInt8) : [(((b.toNat : Nat) : Int)).toNat.toUInt8] = [b] := by
 rw [Int.toNat_natCast]
 have : b.toNat.toUInt8 = b := UInt8.ofNat_toNat
 rw [this]
theorem toInt_ne {b : UInt8} (c : UInt8) (k : Int) (hk : ((c.toNat : Nat) : Int) = k) (h : b ≠ c) : ((b.toNat : Nat) : Int) ≠ k := fun e => h (UInt8.toNat_inj.1 (by omega))
def plainB (r : Bool) (b : UInt8) : List UInt8 := if b = 10 then [39,10,39] else if safeB ((b.toNat : Nat) : Int) = false ∨ r = true then [92,b] else [b]
def plainL (r : Bool) : List UInt8 → List UInt8
 | [] => [39,39]
 | b :: l => plainB r b ++ l.flatMap (plainB false)
def singleB (b : UInt8) : List UInt8 := if b = 39 then [39,92,39,39] else [b]
def singleL (l : List UInt8) : List UInt8 := 39 :: l.flatMap singleB
def doubleB (b : UInt8) : List UInt8 := if b = 36 ∨ b = 96 ∨ b = 34 ∨ b = 92 then [92,b] else [b]
def doubleL (l : List UInt8) : List UInt8 := 34 :: l.flatMap doubleB
theorem wr_plainB (r : Bool) (b : UInt8) (i : Nat) : Wr .top i (plainB r b) .top [b] := by
 unfold plainB
 split
 ·rename_i h; subst h
  exact .cons (q1 := .sgl i) rfl (.cons (q1 := .sgl i) rfl (.one rfl rfl))
 rename_i h10
 split
 ·refine .cons (q1 := .esc i) rfl (.one ?_ (says_self b))
  show (if ((b.toNat : Nat) : Int) = 10 then none else some QS.top) = some QS.top
  rw [if_neg (toInt_ne 10 10 rfl h10)]
 ·rename_i h
  have hs : safeB ((b.toNat : Nat) : Int) = true := by
   cases e : safeB ((b.toNat : Nat) : Int) with
   | true => rfl
   | false => exact absurd (.inl e) h
  obtain ⟨h1,_,_,_,h2,h3,_⟩ := safeB_ne hs
  refine .one ?_ ?_
  ·unfold qstep; rw [if_neg h1,if_neg h2,if_neg h3,if_pos hs]
  ·unfold says; rw [if_neg (by omega)]; exact says_self b
theorem wr_flat {q : QS} {g : UInt8 → List UInt8} (h : ∀ b i,Wr q i (g b) q [b]) : ∀ (l : List UInt8) (i : Nat),Wr q i (l.flatMap g) q l
 | [],_ => .nil
 | b :: l,i => by
  rw [List.flatMap_cons]
  exact Wr.append (h b i) (wr_flat h l _)
theorem wr_plain (r : Bool) (l : List UInt8) : Wr .top 0 (plainL r l) .top l := by
 cases l with
 | nil => exact .cons (q1 := .sgl 0) (by decide) (.one (by decide) (by decide))
 | cons b l =>
  unfold plainL
  exact Wr.append (t := [b]) (wr_plainB r b 0) (wr_flat (wr_plainB false) l _)
theorem wr_singles : ∀ (l : List UInt8) (i a : Nat),∃ a',Wr (.sgl a) i (l.flatMap singleB) (.sgl a') l
 | [],_,a => ⟨a,.nil⟩
 | b :: l,i,a => by
  rw [List.flatMap_cons]
  unfold singleB
  split
  ·rename_i h; subst h
   obtain ⟨a',h'⟩ := wr_singles l (i + 1 + 1 + 1 + 1) (i + 1 + 1 + 1)
   refine ⟨a',?_⟩
   have h0 : Wr (.sgl a) i [39,92,39,39] (.sgl (i + 1 + 1 + 1)) [39] :=
    .cons (q1 := .top) rfl (.cons (q1 := .esc (i + 1)) rfl (.cons (q1 := .top) rfl (.one rfl rfl)))
   exact Wr.append (t := [39]) h0 h'
  ·rename_i h
   obtain ⟨a',h'⟩ := wr_singles l (i + 1) a
   refine ⟨a',Wr.append (t := [b]) (.one ?_ ?_) h'⟩
   ·show (if ((b.toNat : Nat) : Int) = 39 then some QS.top else some (.sgl a)) = _
    rw [if_neg (toInt_ne 39 39 rfl h)]
   ·show (if ((b.toNat : Nat) : Int) = 39 then [] else _) = _
    rw [if_neg (toInt_ne 39 39 rfl h)]; exact says_self b
theorem wr_single (l : List UInt8) : Wr .top 0 (singleL l ++ [39]) .top l := by
 obtain ⟨a',h⟩ := wr_singles l 1 0
 have := Wr.append h (.one (q1 := .top) (b := 39) (t := []) rfl rfl)
 rw [List.append_nil] at this
 exact .cons (q1 := .sgl 0) rfl this
theorem wr_doubleB (b : UInt8) (a i : Nat) : Wr (.dbl a) i (doubleB b) (.dbl a) [b] := by
 unfold doubleB
 split
 ·rename_i h
  refine .cons (q1 := .desc a i) rfl (.one ?_ (says_self b))
  rcases h with rfl | rfl | rfl | rfl <;> rfl
 ·rename_i h
  have h1 : ((b.toNat : Nat) : Int) ≠ 36 := toInt_ne 36 36 rfl fun e => h (.inl e)
  have h2 : ((b.toNat : Nat) : Int) ≠ 96 := toInt_ne 96 96 rfl fun e => h (.inr (.inl e))
  have h3 : ((b.toNat : Nat) : Int) ≠ 34 := toInt_ne 34 34 rfl fun e => h (.inr (.inr (.inl e)))
  have h4 : ((b.toNat : Nat) : Int) ≠ 92 := toInt_ne 92 92 rfl fun e => h (.inr (.inr (.inr e)))
  refine .one ?_ ?_
  ·show (if ((b.toNat : Nat) : Int) = 34 then some QS.top else if ((b.toNat : Nat) : Int) = 92 then some (QS.desc a i) else if ((b.toNat : Nat) : Int) = 36 ∨ ((b.toNat : Nat) : Int) = 96 then none else some (QS.dbl a)) = _
   rw [if_neg h3,if_neg h4,if_neg (by omega)]
  ·show (if ((b.toNat : Nat) : Int) = 34 ∨ ((b.toNat : Nat) : Int) = 92 then [] else _) = _
   rw [if_neg (by omega)]; exact says_self b
theorem wr_double (l : List UInt8) : Wr .top 0 (doubleL l ++ [34]) .top l := by
 have := Wr.append (wr_flat (q := .dbl 0) (fun b i => wr_doubleB b 0 i) l 1) (.one (q1 := .top) (b := 34) (t := []) rfl rfl)
 rw [List.append_nil] at this
 exact .cons (q1 := .dbl 0) rfl this
def qAt (l : List UInt8) (i : Nat) : QS := (stepAll .top 0 (l.take i)).getD .top
def dec (q : Nat → QS) (b : Nat → Int) (i : Nat) : Nat → List UInt8
 | 0 => []
 | k + 1 => says (q i) (b i) ++ dec q b (i + 1) k
theorem dec_add (q : Nat → QS) (b : Nat → Int) (i k m : Nat) : dec q b i (k + m) = dec q b i k ++ dec q b (i + k) m := by
 induction k generalizing i with
 | zero => simp [dec]
 | succ k ih =>
  rw [show k + 1 + m = (k + m) + 1 by omega]
  simp only [dec]
  rw [ih (i + 1),List.append_assoc,show i + 1 + k = i + (k + 1) by omega]
theorem stepAll_append (q : QS) (i : Nat) (l m : List UInt8) : stepAll q i (l ++ m) = (stepAll q i l).bind fun q' => stepAll q' (i + l.length) m := by
 induction l generalizing q i with
 | nil => rfl
 | cons b l ih =>
  simp only [List.cons_append,stepAll]
  cases qstep q i ((b.toNat : Nat) : Int) with
  | none => rfl
  | some q' =>
   simp only [List.length_cons]
   rw [ih,show i + 1 + l.length = i + (l.length + 1) by omega]
theorem run_of {l t : List UInt8} {b : Nat → Int} (hb : ∀ i,i < l.length → b i = (((l.getD i 0).toNat : Nat) : Int)) (h : Wr .top 0 l .top t) : Run (qAt l) b l.length ∧ qAt l l.length = .top ∧ dec (qAt l) b 0 l.length = t := by
 obtain ⟨h1,h2⟩ := h
 have pre : ∀ i,i ≤ l.length → stepAll .top 0 (l.take i) = some (qAt l i) := fun i hi => by
  unfold qAt
  cases hs : stepAll .top 0 (l.take i) with
  | some q => rfl
  | none =>
   have := stepAll_append .top 0 (l.take i) (l.drop i)
   rw [List.take_append_drop,h1,hs] at this
   cases this
 have step : ∀ i,i < l.length → qstep (qAt l i) i (b i) = some (qAt l (i + 1)) := fun i hi => by
  have e : l.take (i + 1) = l.take i ++ [l.getD i 0] := by
   rw [List.take_succ,List.getElem?_eq_getElem hi,List.getD_eq_getElem?_getD,List.getElem?_eq_getElem hi]; rfl
  have := pre (i + 1) (by omega)
  rw [e,stepAll_append,pre i (by omega)] at this
  simp only [Option.bind_some,stepAll,List.length_take,Nat.zero_add,Nat.min_eq_left (Nat.le_of_lt hi)] at this
  rw [hb i hi]
  cases hq : qstep (qAt l i) i (((l.getD i 0).toNat : Nat) : Int) with
  | none => rw [hq] at this; cases this
  | some q => rw [hq] at this; exact this
 refine ⟨⟨rfl,step⟩,?_,?_⟩
 ·have := pre l.length (Nat.le_refl _)
  rw [List.take_length,h1] at this
  exact (Option.some.inj this).symm
 ·have : ∀ m i,i + m = l.length → saysAll (qAt l i) i (l.drop i) = dec (qAt l) b i m := by
   intro m
   induction m with
   | zero => intro i hi; rw [List.drop_of_length_le (by omega)]; rfl
   | succ m ih =>
    intro i hi
    have hd : l.drop i = l.getD i 0 :: l.drop (i + 1) := by
     rw [List.drop_eq_getElem_cons (by omega),List.getD_eq_getElem?_getD,List.getElem?_eq_getElem (by omega)]; rfl
    have hs := step i (by omega)
    rw [hb i (by omega)] at hs
    rw [hd]
    simp only [saysAll,hs,dec]
    rw [ih (i + 1) (by omega),hb i (by omega)]
  have := this l.length 0 (by omega)
  rw [List.drop_zero] at this
  rw [← this,← h2]; rfl
end Go.Ae
