/- Part 16 of the proof of the law: Ce1. No condition. -/
import Derived.Test.YtalflgbdhjjlkaaGreatDoorP15
set_option linter.all false
namespace Go.Ae
open Nat (reduceLT reduceEqDiff reduceSub reduceAdd reduceMul reduceLeDiff)
open Int (reduceToNat)
open Go
theorem c37 {K : Cx} (hK : Cfg K) (hI : Is K.P K.G0 37 F37) {s : ByteArray} {H : Heap} {Q : Value → Heap → Prop} (hs : s.size ≤ 4611686018427387904) (hQ : ∀ b : Bool,Q (.bool b) H) : FC K 37 [.string s] H Q := by
 refine FC.of hK hI (by simp [F37]) ?_
 unfold F37
 simp (disch := omega) only [↓wD,wU,↓reduceIte,reduceLT,reduceEqDiff,reduceSub,reduceAdd]
 repeat' (first | exact hQ _ | split)
 refine loop_ind (fun k E H' => ∃ (f : Nat → Value) (i : Nat),E = mk 35 f ∧ f 0 = .string s ∧ f 3 = .int .i64 (i : Nat) ∧ k + i = s.size + 1 ∧ H' = H) (n := s.size + 1) ?_ ?_
 ·exact ⟨_,0,rfl,rfl,rfl,rfl,rfl⟩
 rintro I k E H' ⟨f,i,rfl,h0,h3,hk,rfl⟩ hI
 simp (disch := omega) only [↓wD,wU,↓reduceIte,reduceLT,reduceEqDiff,reduceSub,reduceAdd,h0,h3]
 repeat' (first | exact hQ _ | split | refine And.intro (by omega) ?_)
 all_goals exact hI _ _ _ (show k - 1 < k by omega) ⟨_,i + 1,rfl,by simp only [upv_at]; exact h0,by rfl,by omega,rfl⟩
theorem c17 {K : Cx} (hK : Cfg K) (hI : Is K.P K.G0 17 F17) {v : Value} {k : Nat} {g : Nat → Value} {s : Nat → ByteArray} {H : Heap} {Q : Value → Heap → Prop} (hv : Sl H v 2 k g) (hg : ∀ j,j < k * 2 → g j = .string (s j))
  (hQ : ∀ b : Bool,(b = true → k ≤ 20 ∧ ∀ j,j < k * 2 → (s j).size ≤ 100) → Q (.bool b) H) : FC K 17 [v] H Q := by
 refine FC.of hK hI (by simp [F17]) ?_
 unfold F17
 obtain ⟨a,cap,rfl,hcp,hs⟩ := hv
 simp (disch := omega) only [↓wD,wU,↓reduceIte,reduceLT,reduceEqDiff,reduceSub,reduceAdd]
 split
 ·exact hQ _ (by simp)
 rename_i hk20
 refine loop_ind (fun m E H' => ∃ (f : Nat → Value) (i : Nat),E = mk 29 f ∧ f 0 = .slice a k cap ∧ f 3 = .int .i64 (i : Nat) ∧ m + i = k + 1 ∧ (∀ j,j < i * 2 → (s j).size ≤ 100) ∧ H' = H) (n := k + 1) ?_ ?_
 ·exact ⟨_,0,rfl,rfl,rfl,rfl,fun j hj => by omega,rfl⟩
 rintro I m E H' ⟨f,i,rfl,h0,h3,hm,hall,rfl⟩ hI
 by_cases hik : (i : Int) < k
 ·obtain ⟨b,o,rfl,hc⟩ := hs.resolve_left (by omega)
  have c0 := hc (i * 2) (by omega)
  have c1 := hc (i * 2 + 1) (by omega)
  rw [hg _ (by omega)] at c0 c1
  simp (disch := omega) only [↓wD,wU,↓reduceIte,reduceLT,reduceEqDiff,reduceSub,reduceAdd,h0,h3,hik,c0,c1]
  repeat' (first | exact hQ _ (by simp) | split | refine And.intro (by omega) ?_)
  refine hI _ _ _ (show m - 1 < m by omega) ⟨_,i + 1,rfl,by simp only [upv_at]; exact h0,by rfl,by omega,fun j hj => ?_,rfl⟩
  rcases (show j < i * 2 ∨ j = i * 2 ∨ j = i * 2 + 1 by omega) with h | rfl | rfl
  ·exact hall j h
  ·omega
  ·omega
 ·simp (disch := omega) only [↓wD,wU,↓reduceIte,reduceLT,reduceEqDiff,reduceSub,reduceAdd,h0,h3,hik]
  exact hQ _ fun _ => ⟨by omega,fun j hj => hall j (by omega)⟩
theorem c18 {K : Cx} (hK : Cfg K) (hI : Is K.P K.G0 18 F18) {va vw : Value} {ka k : Nat} {ga g : Nat → Value} {s : Nat → ByteArray} {s1 s2 s3 s4 : ByteArray} {H : Heap} {Q : Value → Heap → Prop}
  (ha : Sl H va 1 ka ga) (hv : Sl H vw 1 k g) (hg : ∀ j,j < k → g j = .string (s j))
  (hQ : ∀ b : Bool,Q (.bool b) H) : FC K 18 [.agg #[va,vw,.string s1,.string s2,.string s3,.string s4]] H Q := by
 refine FC.forget ?_
 have hQ' : ∀ b H',Agree H.next H H' → Agree H.next H H' ∧ Old H.next (.bool b) ∧ Q (.bool b) H := fun b H' ha => ⟨ha,.bool b,hQ b⟩
 refine FC.of hK hI (by simp [F18]) ?_
 unfold F18
 obtain ⟨a,cap,rfl,hcp,hs⟩ := hv
 obtain ⟨a2,cap2,rfl,hcp2,hs2⟩ := ha
 simp (disch := omega) only [↓wD,wU,↓reduceIte,reduceLT,reduceEqDiff,reduceSub,reduceAdd]
 repeat' (first | exact hQ' _ _ (Agree.push _ (Nat.le_refl _)) | split)
 refine loop_ind (fun m E H' => ∃ (f : Nat → Value) (i : Nat),E = mk 52 f ∧ f 1 = ptrTo H.next 0 ∧ f 3 = .int .i64 (i : Nat) ∧ m + i = k + 1 ∧ H' = H.push (.row [.slice a2 ka cap2,.slice a k cap,.string s1,.string s2,.string s3,.string s4] 0 (some 53))) (n := k + 1) ?_ ?_
 ·exact ⟨_,0,rfl,rfl,rfl,rfl,rfl⟩
 rintro I m E H' ⟨f,i,rfl,h0,h3,hm,rfl⟩ hI
 unfold ptrTo at h0
 by_cases hik : (i : Int) < k
 ·obtain ⟨b,o,rfl,hc⟩ := hs.resolve_left (by omega)
  have c0 := hc i (by omega)
  have hlt := cellAt_lt c0
  rw [hg _ (by omega)] at c0
  simp (disch := omega) only [↓wD,wU,↓reduceIte,reduceLT,reduceEqDiff,reduceSub,reduceAdd,h0,h3,hik,c0,Nat.mul_one]
  repeat' (first | exact hQ' _ _ (Agree.push _ (Nat.le_refl _)) | split | refine And.intro (by omega) ?_)
  refine hI _ _ _ (show m - 1 < m by omega) ⟨_,i + 1,rfl,by simp only [upv_at]; exact h0,by rfl,by omega,rfl⟩
 ·simp (disch := omega) only [↓wD,wU,↓reduceIte,reduceLT,reduceEqDiff,reduceSub,reduceAdd,h0,h3,hik]
  exact hQ' _ _ (Agree.push _ (Nat.le_refl _))
end Go.Ae
