/- Part 40 of the proof of the law: Cw7. No condition. -/
import Derived.Test.YtalflgbdhjjlkaaGreatDoorP39
set_option linter.all false
namespace Go.Proofs.YtalflgbdhjjlkaaGreatDoor
open Go Go.Ae Go.ChangeShapes Go.WideShapes Go.RowKit
set_option maxRecDepth 100000
theorem step_below {ρ ρ' : Nm} {L : List (Option Ex)} {H' : Ae.Heap} {w w' : World} (hs : Step ρ (exH L) w ρ' H' w') : Below w.heap.size w w' :=
 ⟨hs.os,hs.tape,hs.output,hs.size,fun k hk => (hs.keeps k hk (fun ⟨b,o,base,size,h1,h2,h3⟩ => by
  obtain ⟨_,x,_,rfl⟩ := exH_get h1
  cases h2)).1⟩
theorem gq_calls (main : MainGQ) {H : Type} {enc : TypeId × Value → H} {W : World} {v0 v1 : Value} {d0 : DataW H} {p0 : List MemPlace}
  (h0 : DataW.Trod enc Tryz.prog W 0 (fun _ => true) true 26 v0 d0 p0) {base : Nat} (hval : Value.okWide Tryz.prog W .any base 9 v1) :
  Calls Tryz.prog 4 #[v0,v1] W fun e W' => e = .returned (.bool true) ∧ Below W.heap.size W W' := by
 obtain ⟨x0,dir,x2,x3,x4,x5,x6,rfl,o0,o2,o3,o4,o5,o6⟩ := open_world h0
 obtain ⟨text,rfl⟩ := okWide_string Tryz.underlying9 hval
 obtain ⟨r1,r2,r3⟩ := start_world (K := { P := Tryz.prog,G0 := 6,N0 := W.heap.size,draw := drawOf Tryz.prog 6 }) (dir := dir) rfl rfl o0 o2 o3 o4 o5 o6
 have hfc := main { P := Tryz.prog,G0 := 6,N0 := W.heap.size,draw := drawOf Tryz.prog 6 } rfl rfl ⟨rfl,by kernel_rfl⟩ _ text _ r3 _ W #[.agg #[x0,.string dir,x2,x3,x4,x5,x6],.string text] r1 (.cons r2 (.cons (.string _) .nil))
 have hb : ∃ c,Tryz.f4.body = some c := ⟨_,rfl⟩
 obtain ⟨c,hb⟩ := hb
 have hn : Tryz.f4.name ≠ "runtime.NumGoroutine" := by decide
 have hcall : (callFunc 4 #[.agg #[x0,.string dir,x2,x3,x4,x5,x6],.string text]).run Tryz.prog W = .ok (.enter 4 #[.agg #[x0,.string dir,x2,x3,x4,x5,x6],.string text]) W := by
  simp [callFunc,Tryz.func4,hb,hn]
 rw [hcall] at hfc
 refine (callsIn_wide.1 hfc).mono fun e W' hR => ?_
 cases e with
 | outgrown => exact hR.elim
 | panicked _ => exact hR.elim
 | returned v' =>
  obtain ⟨v,ρ',H',rfl,hv,hr,hs⟩ := hR
  cases hv
  exact ⟨rfl,step_below hs⟩
theorem gq_lifted (main : MainGQ) (os : Os) (started : os.Started) (H : Type) (enc : TypeId × Value → H) :
  ReturnsInHanded {} Tryz.checked os 4 .any (fun w args => (Rows.globQuotedSpec.pre enc Tryz.prog Tryz.f4 [] false w args ∧ laidMetH Tryz.prog Rows.globQuotedRow.laid w) ∧ sizedMet enc Tryz.prog Tryz.f4 (OpenSpec.ofChange Rows.globQuotedSpec) false w args)
   (Rows.globQuotedSpec.post enc Tryz.prog Tryz.f4 false true false false) := by
 refine returnsInHanded_of_change_and (C := Tryz.checked) (X := fun w _ => laidMetH Tryz.prog Rows.globQuotedRow.laid w) (fun _ _ _ hh h => h.of_heap hh) own started (by kernel_rfl) Tryz.func4
  (ChangeSpec.witness_at (enc := enc) (C := Tryz.checked) (os := os) (X := fun w _ => laidMetH Tryz.prog Rows.globQuotedRow.laid w) false (laidWorld os)
   #[.agg #[.slice none 0 0,.string ⟨#[]⟩,.slice none 0 0,.slice none 0 0,.slice none 0 0,.slice none 0 0,.slice none 0 0],.string ⟨#[]⟩] 8 rfl (by kernel_rfl) (by kernel_rfl) (by kernel_rfl) (by kernel_rfl) (by kernel_rfl) (laidWorld_met os _)) ?_
 intro W base args ds gs before hval0 hW _ _ hL _
 have hval : ∀ (j : Nat) t v,Tryz.f4.params[j]? = some t → args[j]? = some v → Value.okWide Tryz.prog W .any base t v := hval0
 rw [Tryz.params4] at hval
 have hW' := hW
 obtain ⟨p,q,hA0,hV0,rfl,hfz,hnd⟩ := hW
 have hA : DataW.TrodAll enc Tryz.prog W 0 (fun _ => true) true Tryz.f4.params.toList args.toList ds p := hA0
 have hV : DataW.TrodVars enc Tryz.prog W (fun _ => true) [] gs q := hV0
 rw [Tryz.params4] at hA
 obtain ⟨v0,v1,d0,d1,p0,p1,rfl,rfl,rfl,h0,h1⟩ := trodAll_two hA
 obtain ⟨rfl,rfl⟩ : gs = [] ∧ q = [] := by
  cases gs with
  | nil => exact ⟨rfl,hV⟩
  | cons g r => exact absurd hV (by intro h; cases h)
 have e1 : Rows.globQuotedSpec.fn H ([d0,d1] ++ []) = { results := [.lit (.bool true)],args := [d0,d1] } := by simp [Rows.globQuotedSpec]
 refine (gq_calls main h0 (hval 1 9 v1 rfl rfl)).mono fun e W' ⟨he,hB⟩ => ?_
 subst he
 have hlt := hW'.lt
 refine ⟨_,rfl,_,_,_,[],p0 ++ p1,[],hW',?_,?_,?_,hB.frame _,fun h => by cases h⟩
 ·rw [e1]; exact trodAll_mk1 (shut_bool Tryz.underlying4 true)
 ·rw [e1]
  exact trodAll_mk2 (Below.trod laidOut (by kernel_rfl) (of_decide_eq_true (by kernel_rfl)) h0 hB fun x hx => hlt x (by simp [hx])) (Below.trod laidOut (by kernel_rfl) (of_decide_eq_true (by kernel_rfl)) h1 hB fun x hx => hlt x (by simp [hx]))
 ·rw [e1]; rfl
theorem gq_holds (main : MainGQ) : Rows.GlobQuotedSaid :=
 OpenClaim.holds_of_wide 4 Tryz.f4 rfl rfl rfl rfl rfl rfl rfl ⟨rfl,rfl,rfl,rfl,rfl⟩ rfl rfl rfl rfl rfl (by kernel_rfl) Tryz.func4 (by kernel_rfl)
  (of_decide_eq_true (by kernel_rfl)) (by unfold Func.isWrapper; rw [if_neg (of_decide_eq_false (by kernel_rfl))]; exact ⟨rfl,rfl⟩)
  (fun os started H enc _ => gq_lifted main os started H enc)
theorem gq_card (main : MainGQ) : Rows.GlobQuotedCardSaid :=
 Claim7.holds_tied_plain_at .later [] [.data,.data,.data,.data,.pinned] true (true,"cade12d11c0bac8a4ba3074860468d3d1ff46f2fb60db6252c1c36a58deab16c") false
  (gq_holds main) (fun _ h => by cases h) (by kernel_rfl) (fun _ h => by cases h) globQuoted_row_tie rfl ⟨rfl,rfl⟩ (by kernel_rfl) rfl
  (fun f fn hf hfn => by
   obtain rfl : f = 4 := Option.some.inj ((show Tryz.prog.funcNamed "quillwort/quillwortlaw27.GlobQuoted" = some 4 by kernel_rfl).symm.trans hf) |>.symm
   obtain rfl : fn = Tryz.f4 := (Option.some.inj (Tryz.func4.symm.trans hfn)).symm
   exact ⟨by kernel_rfl,fun j t ht => by
    rw [Tryz.params4] at ht
    rcases j with _ | _ | j
    ·have h : t = 26 := by simpa using ht.symm
     subst h
     exact (show Tryz.prog.wantsStandIn 26 = false by kernel_rfl)
    ·have h : t = 9 := by simpa using ht.symm
     subst h
     exact (show Tryz.prog.wantsStandIn 9 = false by kernel_rfl)
    ·simp at ht⟩)
  (by kernel_rfl)
end Go.Proofs.YtalflgbdhjjlkaaGreatDoor
