/- Part 24 of the proof of the law: Pl2, Ce26, Ce27, Ce28, Ce29. No condition. -/
import Derived.Test.YtalflgbdhjjlkaaGreatDoorP23
set_option linter.all false
namespace Go.Ae
open Go
variable {q : Nat → QS} {b : Nat → Int} {n i to : Nat}
theorem top_step (hr : Run q b n) (hi : i < n) (ht : q i = .top) :
  (q (i + 1) = .top ∧ safeB (b i) = true ∧ ¬ opens q i ∧ dec q b i 1 = [(b i).toNat.toUInt8]) ∨ (opens q i ∧ ((q (i + 1) = .esc i) ∨ q (i + 1) = .sgl i ∨ q (i + 1) = .dbl i)) := by
 rcases qstep_inv (hr.step i hi) with ⟨_,h⟩ | ⟨a,e,_⟩ | ⟨a,e,_⟩ | ⟨a,e,_⟩ | ⟨a,c,e,_⟩
 ·rcases h with ⟨h,hb⟩ | ⟨h,hb⟩ | ⟨h,hb⟩ | ⟨h,hb⟩
  ·exact .inr ⟨by unfold opens; rw [h],.inl h⟩
  ·exact .inr ⟨by unfold opens; rw [h],.inr (.inl h)⟩
  ·exact .inr ⟨by unfold opens; rw [h],.inr (.inr h)⟩
  ·refine .inl ⟨h,hb,by unfold opens; rw [h]; exact _root_.id,?_⟩
   obtain ⟨h1,_,_,_,h2,h3,_⟩ := safeB_ne hb
   simp only [dec,ht,says,List.append_nil]
   rw [if_neg (by omega)]
 ·rw [ht] at e; cases e
 ·rw [ht] at e; cases e
 ·rw [ht] at e; cases e
 ·rw [ht] at e; cases e
theorem dec_two : dec q b i 2 = says (q i) (b i) ++ says (q (i + 1)) (b (i + 1)) := by simp [dec]
theorem dec_one : dec q b i 1 = says (q i) (b i) := by simp [dec]
theorem esc_read (hr : Run q b n) (he : q n = .top) (hi : i < n) (ht : q i = .top) (ho : q (i + 1) = .esc i) (hE : Ended q i to) :
  to = i + 2 ∧ to ≤ n ∧ q to = .top ∧ b (i + 1) ≠ 10 ∧ dec q b i (to - i) = [(b (i + 1)).toNat.toUInt8] := by
 unfold Ended at hE
 rw [ho] at hE
 simp only at hE
 subst hE
 have hlt : i + 1 < n := by
  rcases Nat.lt_or_ge (i + 1) n with g | g
  ·exact g
  ·rw [show i + 1 = n by omega,he] at ho; cases ho
 have hb : b i = 92 := by
  rcases qstep_inv (hr.step i hi) with ⟨_,h⟩ | ⟨a,e,_⟩ | ⟨a,e,_⟩ | ⟨a,e,_⟩ | ⟨a,c,e,_⟩
  ·rcases h with ⟨h,hb⟩ | ⟨h,hb⟩ | ⟨h,hb⟩ | ⟨h,hb⟩
   ·exact hb
   all_goals (rw [ho] at h; cases h)
  all_goals (rw [ht] at e; cases e)
 have h2 : q (i + 2) = .top ∧ b (i + 1) ≠ 10 := by
  rcases qstep_inv (hr.step (i + 1) hlt) with ⟨e,_⟩ | ⟨a,e,e',hb⟩ | ⟨a,e,_⟩ | ⟨a,e,_⟩ | ⟨a,c,e,_⟩
  ·rw [ho] at e; cases e
  ·exact ⟨e',hb⟩
  all_goals (rw [ho] at e; cases e)
 refine ⟨rfl,by omega,h2.1,h2.2,?_⟩
 rw [show i + 2 - i = 2 by omega,dec_two,ht,ho]
 simp [says,hb]
def bts (b : Nat → Int) (i k : Nat) : List UInt8 := (List.range k).map fun j => (b (i + j)).toNat.toUInt8
theorem bts_zero : bts b i 0 = [] := by simp [bts]
theorem bts_succ (k : Nat) : bts b i (k + 1) = (b i).toNat.toUInt8 :: bts b (i + 1) k := by
 unfold bts
 rw [List.range_succ_eq_map,List.map_cons,List.map_map]
 simp [Function.comp_def,Nat.add_assoc,Nat.add_comm 1]
theorem ended_le (he : q n = .top) (hi : i < n) (h : ∀ j,i < j → j < to → q j ≠ .top) : to ≤ n := by
 rcases Nat.lt_or_ge n to with g | g
 ·exact absurd he (h n hi g)
 ·exact g
theorem sgl_read (hr : Run q b n) (he : q n = .top) (hi : i < n) (ht : q i = .top) (ho : q (i + 1) = .sgl i) (hE : Ended q i to) :
  i + 2 ≤ to ∧ to ≤ n ∧ q to = .top ∧ dec q b i (to - i) = bts b (i + 1) (to - i - 2) := by
 unfold Ended at hE
 rw [ho] at hE
 obtain ⟨h1,h2,h3⟩ := hE
 have hle : to ≤ n := ended_le he hi fun j g1 g2 => by rw [h3 j g1 g2]; simp
 refine ⟨h1,hle,h2,?_⟩
 have hb : b i = 39 := by
  rcases qstep_inv (hr.step i hi) with ⟨_,h⟩ | ⟨a,e,_⟩ | ⟨a,e,_⟩ | ⟨a,e,_⟩ | ⟨a,c,e,_⟩
  ·rcases h with ⟨h,hb⟩ | ⟨h,hb⟩ | ⟨h,hb⟩ | ⟨h,hb⟩
   ·rw [ho] at h; cases h
   ·exact hb
   all_goals (rw [ho] at h; cases h)
  all_goals (rw [ht] at e; cases e)
 have mid : ∀ k j,i < j → j + k + 1 = to → dec q b j (k + 1) = bts b j k := by
  intro k
  induction k with
  | zero =>
   intro j g1 g2
   have e := h3 j g1 (by omega)
   have : b j = 39 := by
    rcases qstep_inv (hr.step j (by omega)) with ⟨e',_⟩ | ⟨a,e',_⟩ | ⟨a,e',h⟩ | ⟨a,e',_⟩ | ⟨a,c,e',_⟩
    ·rw [e] at e'; cases e'
    ·rw [e] at e'; cases e'
    ·rcases h with ⟨_,h⟩ | ⟨h,_⟩
     ·exact h
     ·rw [show j + 1 = to by omega,h2] at h; cases h
    ·rw [e] at e'; cases e'
    ·rw [e] at e'; cases e'
   rw [dec_one,e,bts_zero]
   simp [says,this]
  | succ k ih =>
   intro j g1 g2
   have e := h3 j g1 (by omega)
   have e1 := h3 (j + 1) (by omega) (by omega)
   have : b j ≠ 39 := by
    rcases qstep_inv (hr.step j (by omega)) with ⟨e',_⟩ | ⟨a,e',_⟩ | ⟨a,e',h⟩ | ⟨a,e',_⟩ | ⟨a,c,e',_⟩
    ·rw [e] at e'; cases e'
    ·rw [e] at e'; cases e'
    ·rcases h with ⟨h,_⟩ | ⟨_,h⟩
     ·rw [e1] at h; cases h
     ·exact h
    ·rw [e] at e'; cases e'
    ·rw [e] at e'; cases e'
   rw [bts_succ]
   show says (q j) (b j) ++ dec q b (j + 1) (k + 1) = _
   rw [ih (j + 1) (by omega) (by omega),e]
   simp [says,this]
 rw [show to - i = (to - i - 2) + 1 + 1 by omega]
 show says (q i) (b i) ++ dec q b (i + 1) (to - i - 2 + 1) = _
 rw [mid (to - i - 2) (i + 1) (by omega) (by omega),ht]
 simp [says,hb]
structure Dbl (q : Nat → QS) (b : Nat → Int) (n i to : Nat) : Prop where
 le : i + 2 ≤ to
 len : to ≤ n
 top : q to = .top
 at_ : q i = .top
 first : q (i + 1) = .dbl i
 fst : b i = 34
 last : q (to - 1) = .dbl i
 lst : b (to - 1) = 34
 ind : ∀ j,i < j → j < to → inD i (q j)
theorem dbl_read (hr : Run q b n) (he : q n = .top) (hi : i < n) (ht : q i = .top) (ho : q (i + 1) = .dbl i) (hE : Ended q i to) : Dbl q b n i to := by
 unfold Ended at hE
 rw [ho] at hE
 obtain ⟨h1,h2,h3⟩ := hE
 have hle : to ≤ n := ended_le he hi fun j g1 g2 e => by have := h3 j g1 g2; rw [e] at this; exact this
 have hb : b i = 34 := by
  rcases qstep_inv (hr.step i hi) with ⟨_,h⟩ | ⟨a,e,_⟩ | ⟨a,e,_⟩ | ⟨a,e,_⟩ | ⟨a,c,e,_⟩
  ·rcases h with ⟨h,hb⟩ | ⟨h,hb⟩ | ⟨h,hb⟩ | ⟨h,hb⟩
   ·rw [ho] at h; cases h
   ·rw [ho] at h; cases h
   ·exact hb
   ·rw [ho] at h; cases h
  all_goals (rw [ht] at e; cases e)
 have hlast : q (to - 1) = .dbl i ∧ b (to - 1) = 34 := by
  have hin := h3 (to - 1) (by omega) (by omega)
  have hst := hr.step (to - 1) (by omega)
  rw [show to - 1 + 1 = to by omega] at hst
  rcases qstep_inv hst with ⟨e',_⟩ | ⟨a,e',_⟩ | ⟨a,e',h⟩ | ⟨a,e',h⟩ | ⟨a,c,e',h,_⟩
  ·rw [e'] at hin; exact hin.elim
  ·rw [e'] at hin; exact hin.elim
  ·rw [e'] at hin; exact hin.elim
  ·rcases h with ⟨_,h⟩ | ⟨h,_⟩ | ⟨h,_⟩
   ·rw [e'] at hin
    have : a = i := hin
    subst this
    exact ⟨e',h⟩
   ·rw [h2] at h; cases h
   ·rw [h2] at h; cases h
  ·rw [h2] at h; cases h
 exact ⟨h1,hle,h2,ht,ho,hb,hlast.1,hlast.2,h3⟩
theorem Dbl.step (hr : Run q b n) (h : Dbl q b n i to) {k : Nat} (h1 : i < k) (h2 : k + 1 < to) (hk : q k = .dbl i) :
  (q (k + 1) = .dbl i ∧ ¬ opens q k ∧ dec q b k 1 = [(b k).toNat.toUInt8]) ∨
  (q (k + 1) = .desc i k ∧ opens q k ∧ k + 2 < to ∧ q (k + 2) = .dbl i ∧ (b (k + 1) = 36 ∨ b (k + 1) = 96 ∨ b (k + 1) = 34 ∨ b (k + 1) = 92) ∧ dec q b k 2 = [(b (k + 1)).toNat.toUInt8]) := by
 have hlen := h.len
 have hin := h.ind (k + 1) (by omega) (by omega)
 rcases qstep_inv (hr.step k (by omega)) with ⟨e,_⟩ | ⟨a,e,_⟩ | ⟨a,e,_⟩ | ⟨a,e,hs⟩ | ⟨a,c,e,_⟩
 ·rw [hk] at e; cases e
 ·rw [hk] at e; cases e
 ·rw [hk] at e; cases e
 ·rw [hk] at e
  cases e
  rcases hs with ⟨e',_⟩ | ⟨e',hb⟩ | ⟨e',hb1,hb2,_⟩
  ·rw [e'] at hin; exact hin.elim
  ·refine .inr ⟨e',by unfold opens; rw [e'],?_⟩
   have hlt : k + 2 < to := by
    rcases Nat.lt_or_ge (k + 2) to with g | g
    ·exact g
    ·have := h.last
     rw [show to - 1 = k + 1 by omega,e'] at this; cases this
   rcases qstep_inv (hr.step (k + 1) (by omega)) with ⟨f,_⟩ | ⟨a,f,_⟩ | ⟨a,f,_⟩ | ⟨a,f,_⟩ | ⟨a,c,f,f',hb'⟩
   ·rw [e'] at f; cases f
   ·rw [e'] at f; cases f
   ·rw [e'] at f; cases f
   ·rw [e'] at f; cases f
   ·rw [e'] at f
    cases f
    refine ⟨hlt,f',hb',?_⟩
    rw [dec_two,hk,e']
    simp [says,hb]
  ·refine .inl ⟨e',?_,?_⟩
   ·unfold opens; rw [e']; simp; omega
   ·rw [dec_one,hk]
    simp [says,hb1,hb2]
 ·rw [hk] at e; cases e
theorem Dbl.dec_first (h : Dbl q b n i to) : dec q b i 1 = [] := by rw [dec_one,h.at_]; simp [says,h.fst]
theorem Dbl.dec_last (h : Dbl q b n i to) : dec q b (to - 1) 1 = [] := by rw [dec_one,h.last]; simp [says,h.lst]
end Go.Ae
namespace Go.Ae
open Nat (reduceLT reduceEqDiff reduceSub reduceAdd reduceMul reduceLeDiff)
open Int (reduceToNat)
open Go
set_option maxRecDepth 100000
structure LitIs (K : Cx) : Prop extends PartIs K,QuoIs K where
 i197 : Is K.P K.G0 197 F197
 i198 : Is K.P K.G0 198 F198
 i222 : Is K.P K.G0 222 F222
 i223 : Is K.P K.G0 223 F223
 i224 : Is K.P K.G0 224 F224
 i225 : Is K.P K.G0 225 F225
 i226 : Is K.P K.G0 226 F226
 i227 : Is K.P K.G0 227 F227
 i248 : Is K.P K.G0 248 F248
 i166 : Is K.P K.G0 166 F166
 i196 : Is K.P K.G0 196 F196
 i220 : Is K.P K.G0 220 F220
def prV (p : Prt) : List Value := [.int .i64 (p.mode : Nat),.int .i64 (p.frm : Nat),.int .i64 (p.to : Nat),.int .i64 p.up,.bool p.op]
theorem pV_cells {H : Heap} {P : List Prt} {k b fz : Nat} {p : Prt} {rest : List Value} {ty : Option TypeId} (h : P[k]? = some p) (hg : H.get b = some (.row (pV P ++ rest) fz ty)) : cellsAt H b (k * 5) 5 = some (prV p) := by
 obtain ⟨A,B,rfl,rfl⟩ := split_at h
 have e : pV (A ++ p :: B) ++ rest = pV A ++ (prV p ++ (pV B ++ rest)) := by rw [pV_append,List.append_assoc]; rfl
 have hl := pV_len A
 rw [cellsAt_row]
 simp only [rowOf,hg,Option.bind_some]
 rw [e,if_pos (by simp only [List.length_append,hl]; simp [prV]),List.drop_append_of_le_length (by omega),List.drop_of_length_le (by omega),List.nil_append]
 rfl
def ptE : Nat → List Prt → List (Value × Value)
 | _,[] => []
 | j,p :: r => (.int .i64 (p.frm : Nat),.int .i64 ((j : Nat) + 1 : Int)) :: ptE (j + 1) r
theorem ptE_append (j : Nat) (a b : List Prt) : ptE j (a ++ b) = ptE j a ++ ptE (j + a.length) b := by
 induction a generalizing j with
 | nil => rfl
 | cons p r ih => simp only [List.cons_append,ptE,List.length_cons]; rw [ih,show j + 1 + r.length = j + (r.length + 1) by omega]
theorem ptE_none {P : List Prt} {a : Nat} (h : ∀ (k : Nat) (p : Prt),P[k]? = some p → p.frm ≠ a) (j i : Nat) : findKeyA .int (.int .i64 (a : Nat)) (ptE j P) i = some none := by
 induction P generalizing j i with
 | nil => rfl
 | cons p r ih =>
  have h0 := h 0 p rfl
  have : ((a : Int) == (p.frm : Int)) = false := by
   have : ¬ (a : Int) = (p.frm : Int) := by omega
   simpa using this
  simp only [ptE,findKeyA,sameCell,if_true,this]
  exact ih (fun k p hk => h (k + 1) p hk) _ _
theorem ptE_some {P : List Prt} {a k : Nat} {p : Prt} (hk : P[k]? = some p) (hp : p.frm = a) (h : ∀ (k' : Nat) (p' : Prt),k' < k → P[k']? = some p' → p'.frm ≠ a) (j i : Nat) : findKeyA .int (.int .i64 (a : Nat)) (ptE j P) i = some (some (i + k)) ∧ ∃ x,(ptE j P)[k]? = some (x,.int .i64 ((j + k : Nat) + 1 : Int)) := by
 induction P generalizing j i k with
 | nil => simp at hk
 | cons q r ih =>
  cases k with
  | zero =>
   simp at hk
   subst hk
   refine ⟨?_,.int .i64 (q.frm : Nat),by simp [ptE]⟩
   simp only [ptE,findKeyA,sameCell,if_true,hp,beq_self_eq_true,Nat.add_zero]
  | succ k =>
   have h0 := h 0 q (by omega) rfl
   have hne : ((a : Int) == (q.frm : Int)) = false := by
    have : ¬ (a : Int) = (q.frm : Int) := by omega
    simpa using this
   obtain ⟨h1,x,h2⟩ := ih (k := k) (by simpa using hk) (fun k' p' hl hk' => h (k' + 1) p' (by omega) (by simpa using hk')) (j + 1) (i + 1)
   refine ⟨?_,x,?_⟩
   ·simp only [ptE,findKeyA,sameCell,if_true,hne]
    rw [h1,show i + 1 + k = i + (k + 1) by omega]
   ·simp only [ptE,List.getElem?_cons_succ]
    rw [h2,show j + 1 + k = j + (k + 1) by omega]
structure Rd (n : Nat) (H : Heap) (tr : Nat) (w : ByteArray) (P : List Prt) : Prop where
 row : ∃ vl mb bl,H.get tr = some (.row [.string w,vl,.map (some mb)] 0 (some 275)) ∧ H.get mb = some (.map (ptE 0 P)) ∧ OwO H bl vl 5 P.length (pV P) ∧ mb < n ∧ ∀ x,bl = some x → x < n
 lt : tr < n
theorem Rd.agree {n : Nat} {H H' : Heap} {tr : Nat} {w : ByteArray} {P : List Prt} (h : Rd n H tr w P) (ha : ∀ x,x < n → H'.get x = H.get x) : Rd n H' tr w P := by
 obtain ⟨vl,mb,bl,h1,h2,h3,h4,h5⟩ := h.row
 exact ⟨⟨vl,mb,bl,by rw [ha tr h.lt]; exact h1,by rw [ha mb h4]; exact h2,h3.frame fun x hx => ha x (h5 x hx),h4,h5⟩,h.lt⟩
section
variable {K : Cx} {Q : Value → Heap → Prop} {H : Heap}
theorem cells_self5 (x0 x1 x2 x3 x4 : Value) (fz : Nat) (ty : Option TypeId) : cellsAt (H.push (.row [x0,x1,x2,x3,x4] fz ty)) H.next 0 5 = some [x0,x1,x2,x3,x4] := cellsAt_push_self rfl
theorem cells_self3 (x0 x1 x2 : Value) (fz : Nat) (ty : Option TypeId) : cellsAt (H.push (.row [x0,x1,x2] fz ty)) H.next 0 3 = some [x0,x1,x2] := cellsAt_push_self rfl
theorem cells_at5 {b : Nat} (h : b = H.next) (x0 x1 x2 x3 x4 : Value) (fz : Nat) (ty : Option TypeId) : cellsAt (H.push (.row [x0,x1,x2,x3,x4] fz ty)) b 0 5 = some [x0,x1,x2,x3,x4] := by subst h; exact cellsAt_push_self rfl
theorem cells_at3 {b : Nat} (h : b = H.next) (x0 x1 x2 : Value) (fz : Nat) (ty : Option TypeId) : cellsAt (H.push (.row [x0,x1,x2] fz ty)) b 0 3 = some [x0,x1,x2] := by subst h; exact cellsAt_push_self rfl
theorem Old.part {n : Nat} (p : Prt) : Old n (.agg (prV p).toArray) := ⟨_,VRs.agg (VRs.flat rfl) fun x hx => by
 simp only [prV,List.mem_cons,List.not_mem_nil,or_false] at hx
 rcases hx with rfl | rfl | rfl | rfl | rfl <;> rfl⟩
theorem c225 (hK : Cfg K) (hS : LitIs K) {p : Prt} (hm : p.mode ≠ 12) (hQ : Q (.bool false) H) : FC K 225 [.agg (prV p).toArray] H Q := by
 refine FC.forget ?_
 refine FC.of hK hS.i225 (by simp [F225]) ?_
 unfold F225 prV
 have h12 : ¬ ((p.mode : Nat) : Int) = 12 := by omega
 simp (disch := omega) only [↓wD,wU,↓reduceIte,reduceLT,reduceEqDiff,reduceSub,reduceAdd,reduceLeDiff,h12,decide_false,skipB_u]
 exact ⟨Agree.push _ (Nat.le_refl _),⟨_,.bool _⟩,hQ⟩
theorem c247 (hK : Cfg K) (hS : LitIs K) {p : Prt} (hm : p.mode = 4 ∨ p.mode = 5) (hop : p.op = false) (hsz : p.to ≤ 1000000) (hft : p.frm + 2 ≤ p.to) (hQ : Q (.tuple #[.int .i64 (p.frm + 1 : Nat),.int .i64 (p.to - 1 : Nat)]) H) : FC K 247 [.agg (prV p).toArray] H Q := by
 refine FC.forget ?_
 refine FC.of hK hS.i247 (by simp [F247]) ?_
 unfold F247 prV
 rw [hop]
 have h1 : ¬ ((p.mode : Nat) : Int) = 1 := by omega
 have h7 : ¬ ((p.mode : Nat) : Int) = 7 := by omega
 have h8 : ¬ ((p.mode : Nat) : Int) = 8 := by omega
 have h9 : ¬ ((p.mode : Nat) : Int) = 9 := by omega
 have h12 : ¬ ((p.mode : Nat) : Int) = 12 := by omega
 have h13 : ¬ ((p.mode : Nat) : Int) = 13 := by omega
 simp (disch := omega) only [↓wD,wU,↓reduceIte,reduceLT,reduceEqDiff,reduceSub,reduceAdd,reduceLeDiff,h1,h7,h8,h9,h12,h13,decide_false]
 have e2 : (if ((p.frm : Nat) : Int) + 1 > ((p.to : Nat) : Int) - 1 then ((p.frm : Nat) : Int) + 1 else ((p.to : Nat) : Int) - 1) = ((p.to - 1 : Nat) : Int) := by split <;> omega
 have e1 : ((p.frm : Nat) : Int) + 1 = ((p.frm + 1 : Nat) : Int) := by omega
 rw [e2,e1]
 exact ⟨Agree.push _ (Nat.le_refl _),Old.two (.flat rfl) (.flat rfl),hQ⟩
theorem c224 (hK : Cfg K) (hS : LitIs K) {n tr a : Nat} {w : ByteArray} {P : List Prt} (hR : Rd n H tr w P) (ha : a ≤ 1000000) (hP : P.length ≤ 1000000)
  (h0 : (∀ (k : Nat) (p : Prt),P[k]? = some p → p.frm ≠ a) → Q (.tuple #[.agg #[.int .i64 0,.int .i64 0,.int .i64 0,.int .i64 0,.bool false],.bool false]) H)
  (h1 : ∀ (k : Nat) (p : Prt),P[k]? = some p → p.frm = a → (∀ (k' : Nat) (p' : Prt),k' < k → P[k']? = some p' → p'.frm ≠ a) → Q (.tuple #[.agg (prV p).toArray,.bool true]) H) : FC K 224 [.pointer (some ⟨tr,0,none⟩),.int .i64 (a : Nat)] H Q := by
 refine FC.forget (FC.wf0 fun hw => ?_)
 refine FC.of hK hS.i224 (by simp [F224]) ?_
 unfold F224
 obtain ⟨vl,mb,bl,hg,hmb,hol,_,_⟩ := hR.row
 have hlt := Heap.lt_of_get hg
 have hmlt := Heap.lt_of_get hmb
 have c2 : cellAt H tr 2 = some (.map (some mb)) := by rw [cellAt_of hg]; rfl
 have c1 : cellAt H tr 1 = some vl := by rw [cellAt_of hg]; rfl
 have hA : ∀ o,Agree H.next H (H.push o) := fun o => Agree.push o (Nat.le_refl _)
 have hmb' : ∀ o,(H.push o).get mb = some (.map (ptE 0 P)) := fun o => Heap.get_push_old hmb
 by_cases hex : ∃ (k : Nat) (p : Prt),P[k]? = some p ∧ p.frm = a ∧ ∀ (k' : Nat) (p' : Prt),k' < k → P[k']? = some p' → p'.frm ≠ a
 ·obtain ⟨k,p,hk,hp,hlow⟩ := hex
  obtain ⟨f1,x,f2⟩ := ptE_some hk hp hlow 0 0
  have hkl := (List.getElem?_eq_some_iff.1 hk).1
  obtain ⟨b',c,rest,ty,rfl,rfl,hc,hgb,hblt,_⟩ := hol.real (by omega)
  simp only [Nat.zero_add] at f1 f2
  simp (disch := omega) only [↓wD,wU,↓reduceIte,reduceLT,reduceEqDiff,reduceSub,reduceAdd,reduceLeDiff,c2]
  refine wpItems_lookI1 (mb := mb) (a := (a : Nat)) (by simp (disch := omega) only [↓wD,wU,↓reduceIte,reduceLT,reduceEqDiff,reduceSub,reduceAdd,reduceLeDiff]) (by simp (disch := omega) only [↓wD,wU,↓reduceIte,reduceLT,reduceEqDiff,reduceSub,reduceAdd,reduceLeDiff]) (hmb' _) f1 f2 ?_
  have hk0 : ¬ ((k : Nat) : Int) + 1 = 0 := by omega
  have e1 : ((k : Nat) : Int) + 1 - 1 = (k : Nat) := by omega
  have hcs := pV_cells hk hgb
  have hcs' : ∀ o,cellsAt (H.push o) b' (k * 5) 5 = some (prV p) := fun o => by rw [cellsAt_push (by omega)]; exact hcs
  simp (disch := omega) only [↓wD,wU,↓reduceIte,reduceLT,reduceEqDiff,reduceSub,reduceAdd,reduceLeDiff,hk0,decide_false,c1,e1,hcs',retQ_cells2,prV,cells_self5]
  refine ⟨by omega,?_⟩
  exact ⟨hA _,Old.two (Old.part p) (Old.flat rfl),h1 k p hk hp hlow⟩
 ·have hno : ∀ (k : Nat) (p : Prt),P[k]? = some p → p.frm ≠ a := by
   intro k
   induction k using Nat.strongRecOn with
   | ind k ih => exact fun p hk e => hex ⟨k,p,hk,e,fun k' p' hl hk' => ih k' hl p' hk'⟩
  simp (disch := omega) only [↓wD,wU,↓reduceIte,reduceLT,reduceEqDiff,reduceSub,reduceAdd,reduceLeDiff,c2]
  refine wpItems_lookI0 (mb := mb) (a := (a : Nat)) (by simp (disch := omega) only [↓wD,wU,↓reduceIte,reduceLT,reduceEqDiff,reduceSub,reduceAdd,reduceLeDiff]) (by simp (disch := omega) only [↓wD,wU,↓reduceIte,reduceLT,reduceEqDiff,reduceSub,reduceAdd,reduceLeDiff]) (hmb' _) (ptE_none hno 0 0) ?_
  simp (disch := omega) only [↓wD,wU,↓reduceIte,reduceLT,reduceEqDiff,reduceSub,reduceAdd,reduceLeDiff,decide_true,retQ_cells2,cells_self5]
  exact ⟨hA _,Old.two (Old.part ⟨0,0,0,0,false⟩) (Old.flat rfl),h0 hno⟩
end
end Go.Ae
namespace Go.Ae
open Nat (reduceLT reduceEqDiff reduceSub reduceAdd reduceMul reduceLeDiff)
open Int (reduceToNat)
open Go
set_option maxRecDepth 100000
section
variable {K : Cx} {Q : Value → Heap → Prop} {H : Heap}
def pcV (q : Bool) (t : ByteArray) : Value := .agg #[.bool false,.bool q,.string t]
theorem Old.piece {n : Nat} (q : Bool) (t : ByteArray) : Old n (pcV q t) := ⟨_,VRs.agg (l := [.bool false,.bool q,.string t]) (VRs.flat rfl) fun x hx => by
 simp only [List.mem_cons,List.not_mem_nil,or_false] at hx
 rcases hx with rfl | rfl | rfl <;> rfl⟩
theorem c226s (hK : Cfg K) (hS : LitIs K) {n tr : Nat} {w : ByteArray} {P : List Prt} (hR : Rd n H tr w P) {p : Prt} (hm : p.mode = 4) (hop : p.op = false) (hft : p.frm + 2 ≤ p.to) (hto : p.to ≤ w.size) (hw : w.size ≤ 1000000)
  (hQ : Q (.tuple #[pcV true (w.extract (p.frm + 1) (p.to - 1)),.bool true]) H) : FC K 226 [.pointer (some ⟨tr,0,none⟩),.agg (prV p).toArray] H Q := by
 refine FC.forget ?_
 refine FC.of hK hS.i226 (by simp [F226]) ?_
 unfold F226
 obtain ⟨vl,mb,bl,hg,hmb,hol,_,_⟩ := hR.row
 have hlt := Heap.lt_of_get hg
 have c0 : cellAt H tr 0 = some (.string w) := by rw [cellAt_of hg]; rfl
 have hA : ∀ o,Agree H.next H (H.push o) := fun o => Agree.push o (Nat.le_refl _)
 have h4 : ((p.mode : Nat) : Int) = 4 := by omega
 unfold prV
 simp -implicitDefEqProofs (maxSteps := 1000000) (disch := first | omega | (simp -implicitDefEqProofs only [wH]; done) | (simp -implicitDefEqProofs only [wH]; omega)) only [↓wD,wU,↓reduceIte,reduceLT,reduceEqDiff,reduceSub,reduceAdd,reduceLeDiff,eq_true h4,decide_true,cells_at5,cellsAt_push]
 refine c247 hK hS (.inl hm) hop (by omega) hft ?_
 unfold Later
 simp -implicitDefEqProofs (maxSteps := 1000000) (disch := first | omega | (simp -implicitDefEqProofs only [wH]; done) | (simp -implicitDefEqProofs only [wH]; omega)) only [↓wD,wU,↓reduceIte,reduceLT,reduceEqDiff,reduceSub,reduceAdd,reduceLeDiff,c0,retQ_cells2,cells_at3]
 exact ⟨fun x hx => by rw [Heap.get_push_ne _ _ (by simp; omega),Heap.get_push_ne _ _ (by omega)],Old.two (Old.piece _ _) (Old.flat rfl),hQ⟩
theorem c226e (hK : Cfg K) (hS : LitIs K) {n tr : Nat} {w : ByteArray} {P : List Prt} (hR : Rd n H tr w P) {p : Prt} (hm : p.mode = 13) (hto : p.to = p.frm + 2) (hle : p.to ≤ w.size) (hw : w.size ≤ 1000000) (hb : byteAt w (p.frm + 1) ≠ 10)
  (hQ : Q (.tuple #[pcV true ⟨#[byteAt w (p.frm + 1)]⟩,.bool true]) H) : FC K 226 [.pointer (some ⟨tr,0,none⟩),.agg (prV p).toArray] H Q := by
 refine FC.forget ?_
 refine FC.of hK hS.i226 (by simp [F226]) ?_
 unfold F226
 obtain ⟨vl,mb,bl,hg,hmb,hol,_,_⟩ := hR.row
 have hlt := Heap.lt_of_get hg
 have c0 : cellAt H tr 0 = some (.string w) := by rw [cellAt_of hg]; rfl
 have hA : ∀ o,Agree H.next H (H.push o) := fun o => Agree.push o (Nat.le_refl _)
 have h4 : ¬ ((p.mode : Nat) : Int) = 4 := by omega
 unfold prV
 have hx : w.extract (p.frm + 1) p.to = ⟨#[byteAt w (p.frm + 1)]⟩ := by
  refine bytes_ext ?_
  rw [extract_list,hto,show p.frm + 2 - (p.frm + 1) = 1 by omega,List.drop_eq_getElem_cons (by rw [size_data]; omega),byteAt_get (by omega)]
  rfl
 have n0 : ¬ ((⟨#[byteAt w (p.frm + 1)]⟩ : ByteArray) = ⟨#[]⟩) := fun e => by
  have := congrArg ByteArray.size e
  simp [size_lit] at this
 have n10 : ¬ ((⟨#[byteAt w (p.frm + 1)]⟩ : ByteArray) = ⟨#[10]⟩) := fun e => by
  have := congrArg (fun x : ByteArray => x.data.toList) e
  simp at this; exact hb this
 simp -implicitDefEqProofs (maxSteps := 1000000) (disch := first | omega | (simp -implicitDefEqProofs only [wH]; done) | (simp -implicitDefEqProofs only [wH]; omega)) only [↓wD,wU,↓reduceIte,reduceLT,reduceEqDiff,reduceSub,reduceAdd,reduceLeDiff,h4,decide_false,c0,hx,n0,n10,retQ_cells2,cells_at3]
 exact ⟨fun x hx => by rw [Heap.get_push_ne _ _ (by simp; omega),Heap.get_push_ne _ _ (by omega)],Old.two (Old.piece _ _) (Old.flat rfl),hQ⟩
theorem c248 (hK : Cfg K) (hS : LitIs K) {n tr : Nat} {w : ByteArray} {P : List Prt} (hR : Rd n H tr w P) {p : Prt} (hto : p.to = p.frm + 2) (hle : p.to ≤ w.size) (hw : w.size ≤ 1000000) (hb : bAt w (p.frm + 1) = 36 ∨ bAt w (p.frm + 1) = 96 ∨ bAt w (p.frm + 1) = 34 ∨ bAt w (p.frm + 1) = 92)
  (hQ : Q (.string ⟨#[byteAt w (p.frm + 1)]⟩) H) : FC K 248 [.pointer (some ⟨tr,0,none⟩),.agg (prV p).toArray] H Q := by
 refine FC.forget ?_
 refine FC.of hK hS.i248 (by simp [F248]) ?_
 unfold F248
 obtain ⟨vl,mb,bl,hg,hmb,hol,_,_⟩ := hR.row
 have hlt := Heap.lt_of_get hg
 have c0 : cellAt H tr 0 = some (.string w) := by rw [cellAt_of hg]; rfl
 have hA : ∀ o,Agree H.next H (H.push o) := fun o => Agree.push o (Nat.le_refl _)
 unfold bAt at hb
 unfold prV
 have e1 : ¬ ((p.to : Nat) : Int) - ((p.frm : Nat) : Int) < 2 := by omega
 have fin : ∀ (E : List Value) (d : Option Tmp) (r : List AItem) (X : List Value → Heap → Prop) (H0 : Heap),True := fun _ _ _ _ _ => trivial
 have own : ∀ H0 : Heap,Own H0.next (H0.push (.row [.int .u8 ((byteAt w (p.frm + 1)).toNat : Nat)] 0 none)) (sliceOf H0.next 0 1 1 1) 1 (byteVs [byteAt w (p.frm + 1)]) := fun H0 => .inr ⟨H0.next,1,none,Nat.le_refl _,rfl,Heap.get_push_same _ _,rfl,by decide⟩
 rcases hb with h | h | h | h
 ·simp -implicitDefEqProofs (maxSteps := 1000000) (disch := first | omega | (simp -implicitDefEqProofs only [wH]; done) | (simp -implicitDefEqProofs only [wH]; omega)) only [↓wD,wU,↓reduceIte,reduceLT,reduceEqDiff,reduceSub,reduceAdd,reduceLeDiff,c0,e1,eq_true h,decide_true,decide_false]
  refine ⟨by omega,?_⟩
  refine wpItems_toStr_own _ (own _) (by simp -implicitDefEqProofs (maxSteps := 1000000) (disch := first | omega | (simp -implicitDefEqProofs only [wH]; done) | (simp -implicitDefEqProofs only [wH]; omega)) only [↓wD,wU,↓reduceIte,reduceLT,reduceEqDiff,reduceSub,reduceAdd,reduceLeDiff]) ?_
  simp -implicitDefEqProofs (maxSteps := 1000000) (disch := first | omega | (simp -implicitDefEqProofs only [wH]; done) | (simp -implicitDefEqProofs only [wH]; omega)) only [↓wD,wU,↓reduceIte,reduceLT,reduceEqDiff,reduceSub,reduceAdd,reduceLeDiff]
  exact ⟨fun x hx => by rw [Heap.get_push_ne _ _ (by simp; omega),Heap.get_push_ne _ _ (by omega)],Old.flat rfl,hQ⟩
 ·have n1 : ¬ (((byteAt w (p.frm + 1)).toNat : Nat) : Int) = 36 := by omega
  simp -implicitDefEqProofs (maxSteps := 1000000) (disch := first | omega | (simp -implicitDefEqProofs only [wH]; done) | (simp -implicitDefEqProofs only [wH]; omega)) only [↓wD,wU,↓reduceIte,reduceLT,reduceEqDiff,reduceSub,reduceAdd,reduceLeDiff,c0,e1,n1,eq_true h,decide_true,decide_false]
  refine ⟨by omega,?_⟩
  refine wpItems_toStr_own _ (own _) (by simp -implicitDefEqProofs (maxSteps := 1000000) (disch := first | omega | (simp -implicitDefEqProofs only [wH]; done) | (simp -implicitDefEqProofs only [wH]; omega)) only [↓wD,wU,↓reduceIte,reduceLT,reduceEqDiff,reduceSub,reduceAdd,reduceLeDiff]) ?_
  simp -implicitDefEqProofs (maxSteps := 1000000) (disch := first | omega | (simp -implicitDefEqProofs only [wH]; done) | (simp -implicitDefEqProofs only [wH]; omega)) only [↓wD,wU,↓reduceIte,reduceLT,reduceEqDiff,reduceSub,reduceAdd,reduceLeDiff]
  exact ⟨fun x hx => by rw [Heap.get_push_ne _ _ (by simp; omega),Heap.get_push_ne _ _ (by omega)],Old.flat rfl,hQ⟩
 ·have n1 : ¬ (((byteAt w (p.frm + 1)).toNat : Nat) : Int) = 36 := by omega
  have n2 : ¬ (((byteAt w (p.frm + 1)).toNat : Nat) : Int) = 96 := by omega
  simp -implicitDefEqProofs (maxSteps := 1000000) (disch := first | omega | (simp -implicitDefEqProofs only [wH]; done) | (simp -implicitDefEqProofs only [wH]; omega)) only [↓wD,wU,↓reduceIte,reduceLT,reduceEqDiff,reduceSub,reduceAdd,reduceLeDiff,c0,e1,n1,n2,eq_true h,decide_true,decide_false]
  refine ⟨by omega,?_⟩
  refine wpItems_toStr_own _ (own _) (by simp -implicitDefEqProofs (maxSteps := 1000000) (disch := first | omega | (simp -implicitDefEqProofs only [wH]; done) | (simp -implicitDefEqProofs only [wH]; omega)) only [↓wD,wU,↓reduceIte,reduceLT,reduceEqDiff,reduceSub,reduceAdd,reduceLeDiff]) ?_
  simp -implicitDefEqProofs (maxSteps := 1000000) (disch := first | omega | (simp -implicitDefEqProofs only [wH]; done) | (simp -implicitDefEqProofs only [wH]; omega)) only [↓wD,wU,↓reduceIte,reduceLT,reduceEqDiff,reduceSub,reduceAdd,reduceLeDiff]
  exact ⟨fun x hx => by rw [Heap.get_push_ne _ _ (by simp; omega),Heap.get_push_ne _ _ (by omega)],Old.flat rfl,hQ⟩
 ·have n1 : ¬ (((byteAt w (p.frm + 1)).toNat : Nat) : Int) = 36 := by omega
  have n2 : ¬ (((byteAt w (p.frm + 1)).toNat : Nat) : Int) = 96 := by omega
  have n3 : ¬ (((byteAt w (p.frm + 1)).toNat : Nat) : Int) = 34 := by omega
  simp -implicitDefEqProofs (maxSteps := 1000000) (disch := first | omega | (simp -implicitDefEqProofs only [wH]; done) | (simp -implicitDefEqProofs only [wH]; omega)) only [↓wD,wU,↓reduceIte,reduceLT,reduceEqDiff,reduceSub,reduceAdd,reduceLeDiff,c0,e1,n1,n2,n3,eq_true h,decide_true,decide_false]
  refine ⟨by omega,?_⟩
  refine wpItems_toStr_own _ (own _) (by simp -implicitDefEqProofs (maxSteps := 1000000) (disch := first | omega | (simp -implicitDefEqProofs only [wH]; done) | (simp -implicitDefEqProofs only [wH]; omega)) only [↓wD,wU,↓reduceIte,reduceLT,reduceEqDiff,reduceSub,reduceAdd,reduceLeDiff]) ?_
  simp -implicitDefEqProofs (maxSteps := 1000000) (disch := first | omega | (simp -implicitDefEqProofs only [wH]; done) | (simp -implicitDefEqProofs only [wH]; omega)) only [↓wD,wU,↓reduceIte,reduceLT,reduceEqDiff,reduceSub,reduceAdd,reduceLeDiff]
  exact ⟨fun x hx => by rw [Heap.get_push_ne _ _ (by simp; omega),Heap.get_push_ne _ _ (by omega)],Old.flat rfl,hQ⟩
theorem c197 (hK : Cfg K) (hS : LitIs K) {w : ByteArray} {q : Nat → QS} (hr : Run q (bAt w) w.size) (hend : q w.size = .top) (hsz : w.size ≤ 10000)
  (hQ : ∀ H' tr P,PI q w.size P [] → Rd H'.next H' tr w P → Agree H.next H H' → H.next ≤ H'.next → H'.wf → H.next ≤ tr → Q (.pointer (some ⟨tr,0,none⟩)) H') : FC K 197 [.string w] H Q := by
 refine FC.of hK hS.i197 (by simp [F197]) ?_
 unfold F197
 simp -implicitDefEqProofs (maxSteps := 1000000) (disch := first | omega | (simp -implicitDefEqProofs only [wH]; done) | (simp -implicitDefEqProofs only [wH]; omega)) only [↓wD,wU,↓reduceIte,reduceLT,reduceEqDiff,reduceSub,reduceAdd,reduceLeDiff]
 refine c221 hK hS.toPartIs hr hend hsz fun vl H1 bl P hol hP hbl hA1 hn1 hw1 => ?_
 unfold Later
 obtain ⟨a0,c0,rfl,hc0⟩ := hol.val
 have hPs := hP.size
 simp -implicitDefEqProofs (maxSteps := 1000000) (disch := first | omega | (simp -implicitDefEqProofs only [wH]; done) | (simp -implicitDefEqProofs only [wH]; omega)) only [↓wD,wU,↓reduceIte,reduceLT,reduceEqDiff,reduceSub,reduceAdd,reduceLeDiff]
 refine loop_ind (fun m E H' => ∃ (f : Nat → Value) (i : Nat),E = mk 32 f ∧ f 3 = .pointer (some ⟨H1.next + 1,0,none⟩) ∧ f 15 = .slice a0 P.length c0 ∧ f 16 = .int .i64 (P.length : Nat) ∧ f 17 = .int .i64 (i : Nat) ∧ m + i = P.length + 1 ∧ i ≤ P.length ∧
  H'.get (H1.next + 1) = some (.row [.string w,.slice a0 P.length c0,.map (some H1.next)] 0 (some 275)) ∧ H'.get H1.next = some (.map (ptE 0 (P.take i))) ∧ Agree H1.next H1 H' ∧ H1.next + 2 ≤ H'.next ∧ H'.wf) (n := P.length + 1) ?_ ?_
 ·refine ⟨_,0,rfl,rfl,rfl,rfl,rfl,by omega,by omega,?_,?_,fun x hx => ?_,by simp,Heap.wf_push _ (Heap.wf_push _ hw1)⟩
  ·exact Heap.get_push_same (H1.push (.map [])) _
  ·rw [Heap.get_push_ne _ _ (by simp)]; exact Heap.get_push_same _ _
  ·rw [Heap.get_push_ne _ _ (by simp; omega),Heap.get_push_ne _ _ (by omega)]
 rintro I m E H' ⟨f,i,rfl,f3,f15,f16,f17,hm,hi,hg,hmb,hA,hn,hw⟩ hI
 by_cases hik : (i : Int) < P.length
 ·obtain ⟨p,hp⟩ : ∃ p,P[i]? = some p := ⟨_,List.getElem?_eq_getElem (by omega)⟩
  have hol' : OwO H' bl (.slice a0 P.length c0) 5 P.length (pV P) := hol.frame fun x hx => hA x (hbl x hx).2
  obtain ⟨b',c',rest,ty,rfl,e2,e3,e4,e5,e6⟩ := hol'.real (by omega)
  cases e2
  have hcs := pV_cells hp e4
  unfold prV at hcs
  have hpf := (hP.each i p hp).1
  have c1 : ∀ o,cellAt (H'.push o) (H1.next + 1) 2 = some (.map (some H1.next)) := fun o => by rw [cellAt_push (by omega),cellAt_of hg]; rfl
  simp -implicitDefEqProofs (maxSteps := 1000000) (disch := first | omega | (simp -implicitDefEqProofs only [wH]; done) | (simp -implicitDefEqProofs only [wH]; omega)) only [↓wD,wU,↓reduceIte,reduceLT,reduceEqDiff,reduceSub,reduceAdd,reduceLeDiff,f3,f15,f16,f17,hik,decide_true,hcs,c1]
  refine ⟨by omega,?_⟩
  have hmb' : (H'.push (.row [.int .i64 (p.mode : Nat),.int .i64 (p.frm : Nat),.int .i64 (p.to : Nat),.int .i64 p.up,.bool p.op] 0 (some 147))).get H1.next = some (.map (ptE 0 (P.take i))) := Heap.get_push_old hmb
  have hno : ∀ (k : Nat) (p' : Prt),(P.take i)[k]? = some p' → p'.frm ≠ p.frm := by
   intro k p' hk
   rw [List.getElem?_take] at hk
   split at hk
   ·have := hP.rise k i p' p (by omega) hk hp
    omega
   ·cases hk
  refine wpItems_msetI0 (mb := H1.next) (a := (p.frm : Nat)) (by simp -implicitDefEqProofs (maxSteps := 1000000) (disch := first | omega | (simp -implicitDefEqProofs only [wH]; done) | (simp -implicitDefEqProofs only [wH]; omega)) only [↓wD,wU,↓reduceIte,reduceLT,reduceEqDiff,reduceSub,reduceAdd,reduceLeDiff]) (by simp -implicitDefEqProofs (maxSteps := 1000000) (disch := first | omega | (simp -implicitDefEqProofs only [wH]; done) | (simp -implicitDefEqProofs only [wH]; omega)) only [↓wD,wU,↓reduceIte,reduceLT,reduceEqDiff,reduceSub,reduceAdd,reduceLeDiff]) hmb' (ptE_none hno 0 0) ?_
  simp -implicitDefEqProofs (maxSteps := 1000000) (disch := first | omega | (simp -implicitDefEqProofs only [wH]; done) | (simp -implicitDefEqProofs only [wH]; omega)) only [↓wD,wU,↓reduceIte,reduceLT,reduceEqDiff,reduceSub,reduceAdd,reduceLeDiff,f3,f15,f16,f17]
  refine hI _ _ _ (show m - 1 < m by omega) ?_
  refine ⟨_,i + 1,rfl,f3,f15,f16,rfl,by omega,by omega,?_,?_,fun x hx => ?_,by simp; omega,Heap.wf_set _ _ (Heap.wf_push _ hw)⟩
  ·rw [Heap.get_set_ne _ _ (by omega)]; exact Heap.get_push_old hg
  ·rw [Heap.get_set_same _ _ hmb']
   have tk : P.take (i + 1) = P.take i ++ [p] := by rw [List.take_succ,hp]; rfl
   rw [tk,ptE_append,List.length_take,Nat.min_eq_left hi,Nat.zero_add]
   rfl
  ·rw [Heap.get_set_ne _ _ (by omega),Heap.get_push_ne _ _ (by omega),hA x hx]
 ·have e0 : i = P.length := by omega
  subst e0
  simp -implicitDefEqProofs (maxSteps := 1000000) (disch := first | omega | (simp -implicitDefEqProofs only [wH]; done) | (simp -implicitDefEqProofs only [wH]; omega)) only [↓wD,wU,↓reduceIte,reduceLT,reduceEqDiff,reduceSub,reduceAdd,reduceLeDiff,f3,f15,f16,f17,hik,decide_false]
  rw [List.take_length] at hmb
  refine hQ _ _ P hP ⟨⟨_,H1.next,bl,hg,hmb,hol.frame fun x hx => hA x (hbl x hx).2,by omega,fun x hx => by have := (hbl x hx).2; omega⟩,by omega⟩ (fun x hx => by rw [hA x (by omega),hA1 x hx]) (by omega) hw (by omega)
end
end Go.Ae
namespace Go.Ae
open Nat (reduceLT reduceEqDiff reduceSub reduceAdd reduceMul reduceLeDiff)
open Int (reduceToNat)
open Go
set_option maxRecDepth 100000
section
variable {K : Cx} {H : Heap}
theorem OwO.lt {b : Option Nat} {v : Value} {sz n : Nat} {cs : List Value} (h : OwO H b v sz n cs) : ∀ x,b = some x → x < H.next := by
 rintro x rfl
 obtain ⟨⟨_,h1⟩,c,h2⟩ := h
 rcases h1 with ⟨h1,_⟩ | ⟨c',rest,ty,_,_,h3⟩
 ·rw [h1] at h2; cases h2
 ·exact Heap.lt_of_get h3
theorem OwO.push {b : Option Nat} {v : Value} {sz n : Nat} {cs : List Value} (h : OwO H b v sz n cs) (o : AObj) : OwO (H.push o) b v sz n cs := h.frame fun x hx => Heap.get_push_ne _ _ (Nat.ne_of_lt (h.lt x hx))
theorem OwO.agree {b : Option Nat} {v : Value} {sz n : Nat} {cs : List Value} (h : OwO H b v sz n cs) {H' : Heap} (ha : Agree H.next H H') : OwO H' b v sz n cs := h.frame fun x hx => ha x (h.lt x hx)
theorem wpItems_toStrO {Q : List Value → Heap → Prop} {E : List Value} {d : Option Tmp} {r : List AItem} {x : Operand} {l : List UInt8} (v : Value) {b : Option Nat} (ho : OwO H b v 1 l.length (byteVs l)) (hx : ev E x = v) (h : wpItems K r Q (put E d (.string ⟨l.toArray⟩)) H) : wpItems K (⟨d,.toStr x,none⟩ :: r) Q E H := by
 rw [wpItems_toStr]
 by_cases hl : l = []
 ·subst hl
  obtain ⟨a,c,rfl,_⟩ := ho.val
  simp only [aop,hx]
  cases a with
  | none => exact h
  | some a => exact h
 ·have hlp := List.length_pos_iff.2 hl
  obtain ⟨b',c',rest,ty,rfl,rfl,e3,e4,e5,e6⟩ := ho.real (by omega)
  simp only [aop,hx]
  rw [if_neg (by omega)]
  have : cellsAt H b' 0 l.length = some (byteVs l) := by
   rw [cellsAt_row]
   simp only [rowOf,e4,Option.bind_some,Nat.zero_add,List.drop_zero]
   rw [if_pos (by rw [List.length_append]; omega),List.take_append_of_le_length (by omega),List.take_of_length_le (by omega)]
  simp only [this,Option.bind_some,bytesOf_byteVs]
  exact h
theorem byteVs_append (a b : List UInt8) : byteVs (a ++ b) = byteVs a ++ byteVs b := by simp [byteVs]
theorem wpItems_appStrO {Q : List Value → Heap → Prop} {E : List Value} {d : Option Tmp} {r : List AItem} {s x : Operand} {e : TypeId} (v : Value) {b : Option Nat} {l : List UInt8} {t : ByteArray} (ho : OwO H b v 1 l.length (byteVs l)) (hv : ev E s = v) (hx : ev E x = .string t) (hB : l.length + t.size ≤ appMax)
  (h : ∀ v' b' H',OwO H' b' v' 1 (l ++ t.data.toList).length (byteVs (l ++ t.data.toList)) → (∀ y,y < H.next → b ≠ some y → H'.get y = H.get y) → H.next ≤ H'.next → (H.wf → H'.wf) → (b' = b ∨ b' = some H.next) → wpItems K r Q (put E d v') H') :
  wpItems K (⟨d,.appStr s x e,none⟩ :: r) Q E H := by
 rw [wpItems_appStr]
 have hsz : t.data.toList.length = t.size := size_data t
 obtain ⟨a,c,rfl,hc⟩ := ho.val
 simp only [aop,hv,hx]
 by_cases ht : t.size = 0
 ·rw [if_pos ht]
  have : t.data.toList = [] := List.eq_nil_of_length_eq_zero (by omega)
  rw [this,List.append_nil] at h
  exact h _ _ _ ho (fun _ _ _ => rfl) (Nat.le_refl _) _root_.id (.inl rfl)
 ·rw [if_neg ht]
  have hbv : (t.data.toList.map fun b => Value.int .u8 (b.toNat : Nat)) = byteVs t.data.toList := rfl
  have hlen : (l ++ t.data.toList).length = l.length + t.size := by rw [List.length_append,hsz]
  have hbv2 : byteVs (l ++ t.data.toList) = byteVs l ++ byteVs t.data.toList := by simp [byteVs]
  have hbl : (byteVs t.data.toList).length = t.size := by rw [byteVs_len,hsz]
  rw [hbv]
  cases b with
  | none =>
   obtain ⟨e1,e2,e3⟩ := ho
   have hl : l = [] := List.eq_nil_of_length_eq_zero e2
   subst hl
   cases e1
   simp only [appendA,List.length_nil,if_true,Nat.zero_add]
   rw [if_neg (by simp at hB; omega)]
   refine h _ _ _ ?_ (fun y hy _ => Heap.get_push_ne _ _ (by omega)) (by simp) (Heap.wf_push _) (.inr rfl)
   rw [hlen,hbv2]
   refine ⟨⟨by simp [byteVs,hsz],.inr ⟨t.size,[],some e,by simp [sliceOf],by simp,?_⟩⟩,t.size,by simp [sliceOf]⟩
   rw [Heap.get_push_same]; simp [byteVs]
  | some b =>
   by_cases hl : l = []
   ·subst hl
    obtain ⟨⟨g1,g2⟩,c',g3⟩ := ho
    rcases g2 with ⟨g2,_⟩ | ⟨c2,rest,ty,g2,g4,g5⟩
    ·rw [g2] at g3; cases g3
    ·cases g2
     simp only [appendA,g5,List.length_nil,Nat.zero_mul,Nat.add_zero,Nat.zero_add]
     rw [if_pos ⟨by omega,trivial,by omega,.inl trivial⟩,if_neg (by simp at hB; omega)]
     refine h _ _ _ ?_ (fun y hy hyb => ?_) (by simp) (fun hw => Heap.wf_push _ (Heap.wf_set _ _ hw)) (.inr rfl)
     ·rw [hlen,hbv2]
      refine ⟨⟨by simp [byteVs,hsz],.inr ⟨t.size,[],if ty = some e ∧ True then ty else none,by simp [sliceOf],by simp,?_⟩⟩,t.size,by simp [sliceOf]⟩
      have := Heap.get_push_same (H.set b none) (.row (byteVs t.data.toList) 0 (if ty = some e ∧ True then ty else none))
      simp only [Heap.next_set] at this
      simp only [List.take_zero,List.nil_append,byteVs,List.map_nil,List.append_nil] at this ⊢
      exact this
     ·rw [Heap.get_push_ne _ _ (by simp only [Heap.next_set]; omega),Heap.get_set_ne _ _ (fun e => hyb (by rw [e]))]
   ·have hlp := List.length_pos_iff.2 hl
    obtain ⟨b',c',rest,ty,e1,e2,e3,e4,e5,e6⟩ := ho.real (by omega)
    cases e1
    cases e2
    simp only [appendA,e4]
    rw [if_pos ⟨by rw [List.length_append]; omega,trivial,by omega,.inl trivial⟩,if_neg (by omega)]
    have e7 : (List.drop 0 (byteVs l ++ rest)).take (l.length * 1) = byteVs l := by rw [List.drop_zero,← e6,List.take_left]
    refine h _ _ _ ?_ (fun y hy hyb => ?_) (by simp) (fun hw => Heap.wf_push _ (Heap.wf_set _ _ hw)) (.inr rfl)
    ·rw [hlen,hbv2]
     refine ⟨⟨by rw [List.length_append,e6,hbl]; omega,.inr ⟨l.length + t.size,[],if ty = some e ∧ True then ty else none,by simp [sliceOf],by simp,?_⟩⟩,l.length + t.size,by simp [sliceOf]⟩
     have := Heap.get_push_same (H.set b none) (.row (byteVs l ++ byteVs t.data.toList) 0 (if ty = some e ∧ True then ty else none))
     simp only [Heap.next_set] at this
     rw [e7]
     simp only [List.append_nil]
     exact this
    ·rw [Heap.get_push_ne _ _ (by simp only [Heap.next_set]; omega),Heap.get_set_ne _ _ (fun e => hyb (by rw [e]))]
abbrev Pc := Bool × ByteArray
def encP (a : Pc) : List Value := [pcV a.1 a.2]
def okP : List Pc → Pc → Prop := fun L _ => L.length ≤ 10000
def flushL (pl : List UInt8) : List Pc := if pl = [] then [] else [(false,⟨pl.toArray⟩)]
theorem c223 (hK : Cfg K) (hS : LitIs K) {l pc yc : Nat} {J : List Pc → Names → Heap → Prop} (hY : Yd K l encP okP J) {L : List Pc} {D : Names} {v : Value} {ty ty2 : Option TypeId} {pl : List UInt8} {bo : Option Nat} {Q : Value → Heap → Prop}
  (hw : H.wf) (hp : H.get pc = some (.row [v] 0 ty)) (ho : OwO H bo v 1 pl.length (byteVs pl)) (hy : H.get yc = some (.row [.func (.yield l) #[] #[]] 0 ty2)) (hne : pc ≠ yc) (hJ : J L D H) (hd : ¬ D pc) (hL : L.length ≤ 10000)
  (hQ : ∀ H' D',J (L ++ flushL pl) D' H' → Mvd (H.set pc (some (.row [.slice none 0 0] 0 ty))) H' D D' → Q (.bool true) H') : FC K 223 [.pointer (some ⟨pc,0,none⟩),.pointer (some ⟨yc,0,none⟩)] H Q := by
 refine FC.of hK hS.i223 (by simp [F223]) ?_
 unfold F223
 have c0 : cellAt H pc 0 = some v := by rw [cellAt_of hp]; rfl
 obtain ⟨a,c,rfl,hc⟩ := ho.val
 simp (disch := omega) only [↓wD,wU,↓reduceIte,reduceLT,reduceEqDiff,reduceSub,reduceAdd,reduceLeDiff,c0]
 refine wpItems_toStrO _ ho (by simp (disch := omega) only [↓wD,wU,↓reduceIte,reduceLT,reduceEqDiff,reduceSub,reduceAdd,reduceLeDiff]) ?_
 simp (disch := omega) only [↓wD,wU,↓reduceIte,reduceLT,reduceEqDiff,reduceSub,reduceAdd,reduceLeDiff,hp]
 have hw1 := Heap.wf_set pc (some (.row [.slice none 0 0] 0 ty)) hw
 have hJ1 : J L D (H.set pc (some (.row [.slice none 0 0] 0 ty))) := hY.loc hJ (fun x hx => Heap.get_set_ne _ _ (fun e => hd (by rw [e]; exact hx))) (by simp) hw1
 have cy : cellAt (H.set pc (some (.row [.slice none 0 0] 0 ty))) yc 0 = some (.func (.yield l) #[] #[]) := by rw [cellAt_set_ne hne,cellAt_of hy]; rfl
 by_cases h0 : (⟨pl.toArray⟩ : ByteArray) = ⟨#[]⟩
 ·have : pl = [] := by
   have := congrArg (fun x : ByteArray => x.data.toList) h0
   simpa using this
  subst this
  simp (disch := omega) only [↓wD,wU,↓reduceIte,reduceLT,reduceEqDiff,reduceSub,reduceAdd,reduceLeDiff,decide_true,skipB_u]
  refine hQ _ D ?_ (Mvd.refl hw1)
  simpa [flushL] using hJ1
 ·have hpl : pl ≠ [] := fun e => h0 (by rw [e])
  simp (disch := omega) only [↓wD,wU,↓reduceIte,reduceLT,reduceEqDiff,reduceSub,reduceAdd,reduceLeDiff,h0,decide_false,cy]
  refine RC.mono (fun v H' h => ?_) (hY.step (a := (false,⟨pl.toArray⟩)) hJ1 hw1 hL)
  obtain ⟨rfl,D',h1,h2⟩ := h
  unfold Later
  simp (disch := omega) only [↓wD,wU,↓reduceIte,reduceLT,reduceEqDiff,reduceSub,reduceAdd,reduceLeDiff]
  refine hQ _ D' ?_ h2
  unfold flushL
  rw [if_neg hpl]; exact h1
set_option maxHeartbeats 1000000 in
theorem c227 (hK : Cfg K) (hS : LitIs K) {l tr n : Nat} {J : List Pc → Names → Heap → Prop} (hY : Yd K l encP okP J) {L : List Pc} {D : Names} {w : ByteArray} {P : List Prt} {q : Nat → QS} {p : Prt} {Q : Value → Heap → Prop}
  (hw : H.wf) (hR : Rd n H tr w P) (hn : n ≤ H.next) (hr : Run q (bAt w) w.size) (hend : q w.size = .top) (hP : PI q w.size P []) (hsz : w.size ≤ 10000) (hm : p.mode = 5) (hop : p.op = false) (hdb : Dbl q (bAt w) w.size p.frm p.to) (hJ : J L D H) (hL : L.length ≤ 10000)
  (hQ : ∀ H' D',J (L ++ [(true,⟨(dec q (bAt w) p.frm (p.to - p.frm)).toArray⟩)]) D' H' → Mvd H H' D D' → Q (.bool true) H') : FC K 227 [.pointer (some ⟨tr,0,none⟩),.agg (prV p).toArray,.func (.yield l) #[] #[]] H Q := by
 refine FC.of hK hS.i227 (by simp [F227]) ?_
 unfold F227
 have d1 := hdb.le
 have d2 := hdb.len
 have hPl := hP.size
 have hg0 : ∀ t,cellsAt (H.push (.row [.int .i64 (p.mode : Nat),.int .i64 (p.frm : Nat),.int .i64 (p.to : Nat),.int .i64 p.up,.bool p.op] 0 t)) H.next 0 5 = some (prV p) := fun t => cells_self5 _ _ _ _ _ _ _
 unfold prV at hg0 ⊢
 simp (disch := omega) only [↓wD,wU,↓reduceIte,reduceLT,reduceEqDiff,reduceSub,reduceAdd,reduceLeDiff,hg0]
 refine c247 (p := p) hK hS (.inr hm) hop (by omega) d1 ?_
 unfold Later
 simp (disch := omega) only [↓wD,wU,↓reduceIte,reduceLT,reduceEqDiff,reduceSub,reduceAdd,reduceLeDiff]
 refine loop_ind (fun m E H' => ∃ (f : Nat → Value) (i : Nat) (v : Value) (bo : Option Nat) (hl : List UInt8),E = mk 95 f ∧ f 0 = .pointer (some ⟨tr,0,none⟩) ∧ f 2 = .func (.yield l) #[] #[] ∧ f 8 = .int .i64 (p.to - 1 : Nat) ∧ f 9 = v ∧ f 10 = .bool false ∧ f 11 = .int .i64 (i : Nat) ∧ m + i = p.to + (p.frm + 1) ∧ p.frm < i ∧ i < p.to ∧
  q i = .dbl p.frm ∧ hl = dec q (bAt w) (p.frm + 1) (i - (p.frm + 1)) ∧ OwO H' bo v 1 hl.length (byteVs hl) ∧ hl.length ≤ i ∧ (∀ x,bo = some x → H.next ≤ x) ∧ Agree H.next H H' ∧ H.next ≤ H'.next ∧ H'.wf) (n := p.to) ?_ ?_
 ·refine ⟨_,p.frm + 1,_,none,[],rfl,rfl,rfl,rfl,rfl,rfl,rfl,rfl,by omega,by omega,hdb.first,by rw [Nat.sub_self]; rfl,⟨rfl,rfl,rfl⟩,Nat.zero_le _,(fun x hx => by cases hx),Agree.push _ (Nat.le_refl _),by simp,Heap.wf_push _ hw⟩
 rintro I m E H' ⟨f,i,v,bo,hl,rfl,f0,f2,f8,f9,f10,f11,hm2,hi1,hi2,hqi,hle,ho,hdl,hbo,hA,hnx,hw'⟩ hI
 have hR' : Rd n H' tr w P := hR.agree fun x hx => hA x (by omega)
 obtain ⟨vl,mb,bl,hg,hmb,hol,_,_⟩ := hR'.row
 have htl := Heap.lt_of_get hg
 have c0 : cellAt H' tr 0 = some (.string w) := by rw [cellAt_of hg]; rfl
 have c0' : ∀ o,cellAt (H'.push o) tr 0 = some (.string w) := fun o => by rw [cellAt_push htl]; exact c0
 obtain ⟨av,cv,rfl,hcv⟩ := ho.val
 by_cases hik : (i : Int) < (p.to - 1 : Nat)
 ·have hst := hdb.step hr hi1 (by omega) hqi
  have hdn : ∀ k,dec q (bAt w) (p.frm + 1) (i + k - (p.frm + 1)) = hl ++ dec q (bAt w) i k := fun k => by
   rw [hle,show i + k - (p.frm + 1) = (i - (p.frm + 1)) + k by omega,dec_add,show p.frm + 1 + (i - (p.frm + 1)) = i by omega]
  simp (disch := omega) only [↓wD,wU,↓reduceIte,reduceLT,reduceEqDiff,reduceSub,reduceAdd,reduceLeDiff,f0,f2,f8,f9,f10,f11,hik,decide_true]
  rcases hst with ⟨h1,h2,h3⟩ | ⟨h1,h2,h3,h4,h5,h6⟩
  ·refine c224 hK hS hR' (by omega) (by omega) (fun hno => ?_) (fun k p' hk hp' _ => ?_)
   ·unfold Later
    simp (disch := omega) only [↓wD,wU,↓reduceIte,reduceLT,reduceEqDiff,reduceSub,reduceAdd,reduceLeDiff,f0,f2,f8,f9,f10,f11,c0,c0',skipB_u]
    refine ⟨by omega,?_⟩
    have hb1 : [byteAt w i] = dec q (bAt w) i 1 := by rw [h3]; exact (says_self _).symm
    refine wpItems_appO (xs := byteVs [byteAt w i]) (m := 1) _ (ho.push _) (by simp (disch := omega) only [↓wD,wU,↓reduceIte,reduceLT,reduceEqDiff,reduceSub,reduceAdd,reduceLeDiff,f9]) (by simp (disch := omega) only [↓wD,wU,↓reduceIte,reduceLT,reduceEqDiff,reduceSub,reduceAdd,reduceLeDiff]) rfl (by decide) (by unfold appMax; omega) fun c2 H3 h7 h8 h9 h10 => ?_
    simp only [Heap.next_push] at h7 h8 h9 h10
    simp (disch := omega) only [↓wD,wU,↓reduceIte,reduceLT,reduceEqDiff,reduceSub,reduceAdd,reduceLeDiff,f0,f2,f8,f9,f10,f11]
    refine hI _ _ _ (show m - 1 < m by omega) ?_
    refine ⟨_,i + 1,_,some (H'.next + 1 + 1),hl ++ [byteAt w i],rfl,f0,f2,f8,rfl,f10,rfl,by omega,by omega,by omega,h1,by rw [hdn 1,hb1],?_,by simp; omega,fun x hx => by cases hx; omega,fun x hx => ?_,by omega,h10 (Heap.wf_push _ hw')⟩
    ·rw [List.length_append,byteVs_append]; exact h7
    ·rw [h8 x (by omega) (fun e => by have := hbo x e; omega),Heap.get_push_ne _ _ (by omega),hA x hx]
   ·exact absurd (by rw [← hp']; exact (hP.each k p' hk).2.1) h2
  ·obtain ⟨k0,p0,hk0,hp0⟩ := hP.all i (by omega) h2
   refine c224 hK hS hR' (by omega) (by omega) (fun hno => absurd hp0 (hno k0 p0 hk0)) (fun k p' hk hp' _ => ?_)
   obtain ⟨_,_,hpm,hpe⟩ := hP.each k p' hk
   have hpE := (hpe.resolve_left (by simp)).2
   have hpo := (hpe.resolve_left (by simp)).1
   rw [hp',h1] at hpm
   unfold Ended at hpE
   rw [hp',h1] at hpE
   simp only at hpE
   have hmo : p'.mode = 13 := hpm
   have h13 : ((p'.mode : Nat) : Int) = 13 := by omega
   unfold Later
   simp (disch := omega) only [↓wD,wU,↓reduceIte,reduceLT,reduceEqDiff,reduceSub,reduceAdd,reduceLeDiff,f0,f2,f8,f9,f10,f11,prV,cells_self5]
   refine c225 (p := p') hK hS (by omega) ?_
   unfold Later
   simp (disch := omega) only [↓wD,wU,↓reduceIte,reduceLT,reduceEqDiff,reduceSub,reduceAdd,reduceLeDiff,f0,f2,f8,f9,f10,f11,cells_self5,eq_true h13,decide_true]
   have hR2 : Rd n (H'.push (.row [.int .i64 (p'.mode : Nat),.int .i64 (p'.frm : Nat),.int .i64 (p'.to : Nat),.int .i64 p'.up,.bool p'.op] 0 (some 147))) tr w P := hR'.agree fun x hx => Heap.get_push_ne _ _ (by omega)
   refine c248 (p := p') hK hS hR2 (by omega) (by omega) (by omega) (by rw [hp']; exact h5) ?_
   unfold Later
   simp (disch := omega) only [↓wD,wU,↓reduceIte,reduceLT,reduceEqDiff,reduceSub,reduceAdd,reduceLeDiff,f0,f2,f8,f9,f10,f11]
   have hb1 : [byteAt w (i + 1)] = dec q (bAt w) i 2 := by rw [h6]; exact (says_self _).symm
   rw [hp']
   refine wpItems_appStrO (t := ⟨#[byteAt w (i + 1)]⟩) _ (ho.push _) (by simp (disch := omega) only [↓wD,wU,↓reduceIte,reduceLT,reduceEqDiff,reduceSub,reduceAdd,reduceLeDiff,f9]) (by simp (disch := omega) only [↓wD,wU,↓reduceIte,reduceLT,reduceEqDiff,reduceSub,reduceAdd,reduceLeDiff]) (by unfold appMax; show _ + 1 ≤ _; omega) fun v2 b2 H3 h7 h8 h9 h10 h11 => ?_
   simp only [Heap.next_push] at h8 h9 h11
   have c9 : cellAt H3 H'.next 2 = some (.int .i64 (p'.to : Nat)) := by
    rw [cellAt_row,rowOf,h8 H'.next (by omega) (fun e => by have := ho.lt _ e; omega),Heap.get_push_same]
    rfl
   simp (disch := omega) only [↓wD,wU,↓reduceIte,reduceLT,reduceEqDiff,reduceSub,reduceAdd,reduceLeDiff,f0,f2,f8,f9,f10,f11,c9]
   refine hI _ _ _ (show m - 2 < m by omega) ?_
   refine ⟨_,i + 2,_,b2,hl ++ [byteAt w (i + 1)],rfl,f0,f2,f8,rfl,f10,?_,by omega,by omega,by omega,h4,by rw [hdn 2,hb1],h7,by simp; omega,fun x hx => ?_,fun x hx => ?_,by omega,h10 (Heap.wf_push _ hw')⟩
   ·show Value.int .i64 _ = _
    rw [hpE]
   ·rcases h11 with e | e
    ·rw [e] at hx; exact hbo x hx
    ·rw [e] at hx; cases hx; omega
   ·rw [h8 x (by omega) (fun e => by have := hbo x e; omega),Heap.get_push_ne _ _ (by omega),hA x hx]
 ·have hin : i = p.to - 1 := by omega
  have hall : dec q (bAt w) p.frm (p.to - p.frm) = hl := by
   rw [show p.to - p.frm = 1 + (i - (p.frm + 1)) + 1 by omega,dec_add,dec_add,hdb.dec_first,← hle,show p.frm + (1 + (i - (p.frm + 1))) = p.to - 1 by omega,hdb.dec_last]
   simp
  have hJ' : J L D H' := hY.loc hJ (fun x hx => hA x (hY.low hJ x hx)) hnx hw'
  have fin : RC K l [pcV true ⟨hl.toArray⟩] H' fun v H2 => v = .bool true ∧ Q (.bool true) H2 := by
   refine RC.mono (fun v H2 h => ?_) (hY.step (a := (true,⟨hl.toArray⟩)) hJ' hw' hL)
   obtain ⟨rfl,D',g1,g2⟩ := h
   refine ⟨rfl,hQ _ D' (by rw [hall]; exact g1) ⟨fun x h1 h2 => by rw [g2.get x (by omega) h2,hA x h1],by have := g2.next; omega,fun x hx => ?_,g2.wf⟩⟩
   rcases g2.new x hx with e | e
   ·exact .inl e
   ·exact .inr (by omega)
  have hl0 : ¬ (((hl.length : Nat) : Int) = 0 ∧ False) := fun e => e.2
  simp (disch := omega) only [↓wD,wU,↓reduceIte,reduceLT,reduceEqDiff,reduceSub,reduceAdd,reduceLeDiff,f0,f2,f8,f9,f10,f11,hik,decide_false]
  split
  all_goals
   refine wpItems_toStrO (l := hl) _ ho (by simp (disch := omega) only [↓wD,wU,↓reduceIte,reduceLT,reduceEqDiff,reduceSub,reduceAdd,reduceLeDiff,f9]) ?_
   simp (disch := omega) only [↓wD,wU,↓reduceIte,reduceLT,reduceEqDiff,reduceSub,reduceAdd,reduceLeDiff,f0,f2,f8,f9,f10,f11]
   refine RC.mono (fun v H2 h => ?_) fin
   obtain ⟨rfl,h⟩ := h
   unfold Later
   simp (disch := omega) only [↓wD,wU,↓reduceIte,reduceLT,reduceEqDiff,reduceSub,reduceAdd,reduceLeDiff]
   exact h
end
end Go.Ae
namespace Go.Ae
open Go
set_option maxRecDepth 100000
structure Fed (q : Nat → QS) (b : Nat → Int) (i : Nat) (L : List Pc) (pl : List UInt8) : Prop where
 text : (L.flatMap fun a => a.2.data.toList) ++ pl = dec q b 0 i
 safe : ∀ a ∈ L,a.1 = true ∨ (a.2.data.toList ≠ [] ∧ ∀ x ∈ a.2.data.toList,safeB ((x.toNat : Nat) : Int) = true)
 psafe : ∀ x ∈ pl,safeB ((x.toNat : Nat) : Int) = true
 some : i ≠ 0 → L ≠ [] ∨ pl ≠ []
 len : L.length + pl.length ≤ i
theorem Fed.zero {q : Nat → QS} {b : Nat → Int} : Fed q b 0 [] [] := ⟨rfl,fun a h => by simp at h,fun a h => by simp at h,fun h => absurd rfl h,Nat.le_refl _⟩
theorem Fed.byte {q : Nat → QS} {b : Nat → Int} {i : Nat} {L : List Pc} {pl : List UInt8} (h : Fed q b i L pl) {x : UInt8} (hx : safeB ((x.toNat : Nat) : Int) = true) (hd : dec q b i 1 = [x]) : Fed q b (i + 1) L (pl ++ [x]) := by
 refine ⟨?_,h.safe,fun y hy => ?_,fun _ => .inr (by simp),by have := h.len; simp; omega⟩
 ·rw [dec_add,Nat.zero_add,hd,← h.text,List.append_assoc]
 ·rcases List.mem_append.1 hy with hy | hy
  ·exact h.psafe y hy
  ·simp at hy; rw [hy]; exact hx
theorem Fed.flush {q : Nat → QS} {b : Nat → Int} {i : Nat} {L : List Pc} {pl : List UInt8} (h : Fed q b i L pl) : Fed q b i (L ++ flushL pl) [] := by
 unfold flushL
 by_cases e : pl = []
 ·rw [if_pos e,List.append_nil]
  rw [e] at h; exact h
 ·rw [if_neg e]
  refine ⟨?_,fun a ha => ?_,fun x hx => by simp at hx,fun _ => .inl (by simp),by have := h.len; have := List.length_pos_iff.2 e; simp; omega⟩
  ·rw [← h.text]; simp
  ·rcases List.mem_append.1 ha with ha | ha
   ·exact h.safe a ha
   ·simp at ha; rw [ha]; exact .inr ⟨by simpa using e,by simpa using h.psafe⟩
theorem Fed.told {q : Nat → QS} {b : Nat → Int} {i to : Nat} {L : List Pc} (h : Fed q b i L []) (hto : i < to) {t : ByteArray} (hd : dec q b i (to - i) = t.data.toList) : Fed q b to (L ++ [(true,t)]) [] := by
 refine ⟨?_,fun a ha => ?_,fun x hx => by simp at hx,fun _ => .inl (by simp),by have := h.len; simp at this ⊢; omega⟩
 ·rw [show to = i + (to - i) by omega,dec_add,Nat.zero_add,hd,← h.text]; simp
 ·rcases List.mem_append.1 ha with ha | ha
  ·exact h.safe a ha
  ·simp at ha; rw [ha]; exact .inl rfl
section
variable {K : Cx} {H : Heap}
structure Ea (H H' : Heap) (l yb pc : Nat) (D0 : Names) (J : List Pc → Names → Heap → Prop) (L : List Pc) (D : Names) (pl : List UInt8) (v : Value) (bo : Option Nat) : Prop where
 j : J L D H'
 ry : H'.get yb = some (.row [.func (.yield l) #[] #[]] 0 (some 261))
 rp : H'.get pc = some (.row [v] 0 (some 113))
 own : OwO H' bo v 1 pl.length (byteVs pl)
 nb : ∀ x,bo = some x → ¬ D x ∧ x ≠ yb ∧ x ≠ pc ∧ H.next ≤ x
 mv : ∀ x,x < H.next → ¬ D0 x → H'.get x = H.get x
 nx : H.next ≤ H'.next
 new : ∀ x,D x → D0 x ∨ H.next ≤ x
 ny : ¬ D yb
 np : ¬ D pc
 hy : H.next ≤ yb
 hp : H.next ≤ pc
 ne : pc ≠ yb
 wf : H'.wf
variable {H' : Heap} {l yb pc : Nat} {D0 D : Names} {J : List Pc → Names → Heap → Prop} {L : List Pc} {pl : List UInt8} {v : Value} {bo : Option Nat}
theorem Ea.push (hY : Yd K l encP okP J) (h : Ea H H' l yb pc D0 J L D pl v bo) (o : AObj) : Ea H (H'.push o) l yb pc D0 J L D pl v bo where
 j := hY.loc h.j (fun x hx => Heap.get_push_ne _ _ (Nat.ne_of_lt (hY.low h.j x hx))) (by simp) (Heap.wf_push _ h.wf)
 ry := Heap.get_push_old h.ry
 rp := Heap.get_push_old h.rp
 own := h.own.push o
 nb := h.nb
 mv := fun x hx hd => by rw [Heap.get_push_ne _ _ (by have := h.nx; omega)]; exact h.mv x hx hd
 nx := by have := h.nx; simp; omega
 new := h.new
 ny := h.ny
 np := h.np
 hy := h.hy
 hp := h.hp
 ne := h.ne
 wf := Heap.wf_push _ h.wf
theorem Ea.told {H2 : Heap} {D' : Names} {L' : List Pc} (h : Ea H H' l yb pc D0 J L D [] (.slice none 0 0) none) (hj : J L' D' H2) (hm : Mvd H' H2 D D') : Ea H H2 l yb pc D0 J L' D' [] (.slice none 0 0) none where
 j := hj
 ry := by rw [hm.get yb (Heap.lt_of_get h.ry) h.ny]; exact h.ry
 rp := by rw [hm.get pc (Heap.lt_of_get h.rp) h.np]; exact h.rp
 own := ⟨rfl,rfl,rfl⟩
 nb := fun x hx => by cases hx
 mv := fun x hx hd => by
  have hd' : ¬ D x := fun e => by
   rcases h.new x e with e | e
   ·exact hd e
   ·omega
  rw [hm.get x (Nat.lt_of_lt_of_le hx h.nx) hd']; exact h.mv x hx hd
 nx := Nat.le_trans h.nx hm.next
 new := fun x hx => by
  rcases hm.new x hx with e | e
  ·exact h.new x e
  ·exact .inr (Nat.le_trans h.nx e)
 ny := fun e => by
  rcases hm.new yb e with e | e
  ·exact h.ny e
  ·have := Heap.lt_of_get h.ry; omega
 np := fun e => by
  rcases hm.new pc e with e | e
  ·exact h.np e
  ·have := Heap.lt_of_get h.rp; omega
 hy := h.hy
 hp := h.hp
 ne := h.ne
 wf := hm.wf
theorem Ea.clear (hY : Yd K l encP okP J) (h : Ea H H' l yb pc D0 J L D pl v bo) : Ea H (H'.set pc (some (.row [.slice none 0 0] 0 (some 113)))) l yb pc D0 J L D [] (.slice none 0 0) none where
 j := hY.loc h.j (fun x hx => Heap.get_set_ne _ _ (fun e => h.np (by rw [e]; exact hx))) (by simp) (Heap.wf_set _ _ h.wf)
 ry := by rw [Heap.get_set_ne _ _ h.ne]; exact h.ry
 rp := Heap.get_set_same _ _ h.rp
 own := ⟨rfl,rfl,rfl⟩
 nb := fun x hx => by cases hx
 mv := fun x hx hd => by rw [Heap.get_set_ne _ _ (by have := h.hp; omega)]; exact h.mv x hx hd
 nx := by have := h.nx; simpa using this
 new := h.new
 ny := h.ny
 np := h.np
 hy := h.hy
 hp := h.hp
 ne := h.ne
 wf := Heap.wf_set _ _ h.wf
theorem ea_flush (hK : Cfg K) (hS : LitIs K) (hY : Yd K l encP okP J) {Q : Value → Heap → Prop} (h : Ea H H' l yb pc D0 J L D pl v bo) (hL : L.length ≤ 10000)
  (hQ : ∀ H2 D2,Ea H H2 l yb pc D0 J (L ++ flushL pl) D2 [] (.slice none 0 0) none → (∀ x,x < H'.next → x ≠ pc → ¬ D x → H2.get x = H'.get x) → H'.next ≤ H2.next → (∀ x,D2 x → D x ∨ H'.next ≤ x) → Q (.bool true) H2) : FC K 223 [.pointer (some ⟨pc,0,none⟩),.pointer (some ⟨yb,0,none⟩)] H' Q := by
 refine c223 hK hS hY h.wf h.rp h.own h.ry h.ne h.j h.np hL fun H2 D2 h1 h2 => ?_
 refine hQ H2 D2 ((h.clear hY).told h1 h2) (fun x h3 h4 h5 => ?_) (by have := h2.next; simpa using this) (fun x hx => by have := h2.new x hx; simpa using this)
 rw [h2.get x (by simpa using h3) h5,Heap.get_set_ne _ _ (Ne.symm h4)]
end
theorem bts_extract {w : ByteArray} {i k : Nat} (h : i + k ≤ w.size) : (w.extract i (i + k)).data.toList = bts (bAt w) i k := by
 rw [extract_list,show i + k - i = k by omega]
 induction k generalizing i with
 | zero => rw [bts_zero,List.take_zero]
 | succ k ih =>
  rw [bts_succ,List.drop_eq_getElem_cons (by rw [size_data]; omega),List.take_succ_cons]
  have e := ih (i := i + 1) (by omega)
  rw [e]
  congr 1
  unfold bAt
  rw [byteAt_get (by omega),Int.toNat_natCast]
  exact (UInt8.ofNat_toNat).symm
end Go.Ae
