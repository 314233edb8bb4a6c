/- Part 36 of the proof of the law: Aw0. No condition. -/
import Derived.Test.YtalflgbdhjjlkaaGreatDoorP35
set_option linter.all false
namespace Go.Ae
open Go
set_option maxRecDepth 1000000
def tabW : List (Nat × AFunc) := [(5,F5),(13,F13),(14,F14),(31,F31),(32,F32),(33,F33),(34,F34),(35,F35),(45,F45),(48,F48),(61,F61),(62,F62),(63,F63),(64,F64),(65,F65),(66,F66),(67,F67),(68,F68),(70,F70),(71,F71),(78,F78),(101,F101),(102,F102),(103,F103),(104,F104),(105,F105),(106,F106),(107,F107),(109,F109),(110,F110),(111,F111),(118,F118),(123,F123),(124,F124),(141,F141),(142,F142),(148,F148),(152,F152),(153,F153),(154,F154),(155,F155),(156,F156),(169,F169),(187,F187),(189,F189),(190,F190),(191,F191),(211,F211),(212,F212),(241,F241)]
def tabF (f : Nat) : Option AFunc := (tabW.find? (·.1 == f)).map (·.2)
theorem tabF_ok : TabOk Proofs.Tryz.prog 6 tabF := by
 have h : ∀ p ∈ tabW,Is Proofs.Tryz.prog 6 p.1 p.2 := by
  unfold tabW
  refine List.forall_mem_cons.2 ⟨is5,List.forall_mem_cons.2 ⟨is13,List.forall_mem_cons.2 ⟨is14,List.forall_mem_cons.2 ⟨is31,List.forall_mem_cons.2 ⟨is32,List.forall_mem_cons.2 ⟨is33,List.forall_mem_cons.2 ⟨is34,List.forall_mem_cons.2 ⟨is35,List.forall_mem_cons.2 ⟨is45,List.forall_mem_cons.2 ⟨is48,List.forall_mem_cons.2 ⟨is61,List.forall_mem_cons.2 ⟨is62,List.forall_mem_cons.2 ⟨is63,List.forall_mem_cons.2 ⟨is64,List.forall_mem_cons.2 ⟨is65,List.forall_mem_cons.2 ⟨is66,List.forall_mem_cons.2 ⟨is67,List.forall_mem_cons.2 ⟨is68,List.forall_mem_cons.2 ⟨is70,List.forall_mem_cons.2 ⟨is71,List.forall_mem_cons.2 ⟨is78,List.forall_mem_cons.2 ⟨is101,List.forall_mem_cons.2 ⟨is102,List.forall_mem_cons.2 ⟨is103,List.forall_mem_cons.2 ⟨is104,List.forall_mem_cons.2 ⟨is105,List.forall_mem_cons.2 ⟨is106,List.forall_mem_cons.2 ⟨is107,List.forall_mem_cons.2 ⟨is109,List.forall_mem_cons.2 ⟨is110,List.forall_mem_cons.2 ⟨is111,List.forall_mem_cons.2 ⟨is118,List.forall_mem_cons.2 ⟨is123,List.forall_mem_cons.2 ⟨is124,List.forall_mem_cons.2 ⟨is141,List.forall_mem_cons.2 ⟨is142,List.forall_mem_cons.2 ⟨is148,List.forall_mem_cons.2 ⟨is152,List.forall_mem_cons.2 ⟨is153,List.forall_mem_cons.2 ⟨is154,List.forall_mem_cons.2 ⟨is155,List.forall_mem_cons.2 ⟨is156,List.forall_mem_cons.2 ⟨is169,List.forall_mem_cons.2 ⟨is187,List.forall_mem_cons.2 ⟨is189,List.forall_mem_cons.2 ⟨is190,List.forall_mem_cons.2 ⟨is191,List.forall_mem_cons.2 ⟨is211,List.forall_mem_cons.2 ⟨is212,List.forall_mem_cons.2 ⟨is241,fun p hp => (List.not_mem_nil hp).elim⟩⟩⟩⟩⟩⟩⟩⟩⟩⟩⟩⟩⟩⟩⟩⟩⟩⟩⟩⟩⟩⟩⟩⟩⟩⟩⟩⟩⟩⟩⟩⟩⟩⟩⟩⟩⟩⟩⟩⟩⟩⟩⟩⟩⟩⟩⟩⟩⟩⟩
 intro f F hf
 unfold tabF at hf
 cases hx : tabW.find? (·.1 == f) with
 | none => rw [hx] at hf; cases hf
 | some p =>
  rw [hx] at hf
  have e : p.2 = F := Option.some.inj hf
  have e1 : p.1 = f := by simpa using List.find?_some hx
  subst e; subst e1
  exact h p (List.mem_of_find?_eq_some hx)
def sp176 (args : List Value) (H : Heap) : Res (Value × Heap) := match args with
 | [x] => .ok (x,H)
 | _ => .fail
def spec0 : Spec := fun f => if f = 72 then some sp72 else if f = 202 then some spIndexByte else if f = 208 then some spCount else if f = 218 then some spCmp else if f = 176 then some sp176 else none
def X188 : MRx := ⟨21,[.tmp 2],l0_188,l1_188,9,10,11,12,.tmp 8,a_188,b_188,c_188,d_188,r_188,some 9⟩
def call0 : CallF := callN tabF spec0 60
def fnsW (g : Nat) : Bool := (tabF g).isSome
def specW : Spec := fun f => if f = 188 then some (namesF X188 call0 fnsW 60) else spec0 f
def resT : Res (Value × Heap) → Bool
 | .ok (v,_) => isT v
 | _ => false
theorem resT_sat {r : Res (Value × Heap)} (h : resT r = true) : r.sat fun p => p.1 = .bool true := by
 unfold resT at h
 split at h
 ·exact isT_eq h
 ·cases h
structure XIs (K : Cx) : Prop where
 x202 : ∀ (args : List Value) (H : Heap) (Q : Value → Heap → Prop),((spIndexByte args H).sat fun p => Q p.1 p.2) → FC K 202 args H Q
 x208 : ∀ (args : List Value) (H : Heap) (Q : Value → Heap → Prop),((spCount args H).sat fun p => Q p.1 p.2) → FC K 208 args H Q
 x218 : ∀ (args : List Value) (H : Heap) (Q : Value → Heap → Prop),((spCmp args H).sat fun p => Q p.1 p.2) → FC K 218 args H Q
 x176 : ∀ (x : Value) (H : Heap) (Q : Value → Heap → Prop),Q x H → FC K 176 [x] H Q
theorem sp176_ok {K : Cx} (hX : XIs K) (args : List Value) (H : Heap) (Q : Value → Heap → Prop) (h : (sp176 args H).sat fun p => Q p.1 p.2) : FC K 176 args H Q := by
 unfold sp176 at h
 split at h
 ·exact hX.x176 _ _ _ h
 ·exact h.elim
theorem spec0_ok {K : Cx} (hK : Cfg K) (hJ : JoinIs K) (hX : XIs K) : SpecOk K spec0 := by
 intro f s hf args H Q h
 unfold spec0 at hf
 split at hf
 ·rename_i e; subst e; cases hf; exact sp72_ok hK hJ args H Q h
 split at hf
 ·rename_i e; subst e; cases hf; exact hX.x202 args H Q h
 split at hf
 ·rename_i e; subst e; cases hf; exact hX.x208 args H Q h
 split at hf
 ·rename_i e; subst e; cases hf; exact hX.x218 args H Q h
 split at hf
 ·rename_i e; subst e; cases hf; exact sp176_ok hX args H Q h
 ·cases hf
theorem specW_ok {K : Cx} (hP : K.P = Proofs.Tryz.prog) (hG : K.G0 = 6) (hK : Cfg K) (hJ : JoinIs K) (hX : XIs K) : SpecOk K specW := by
 intro f s hf args H Q h
 unfold specW at hf
 split at hf
 ·rename_i e; subst e; cases hf
  have ht : TabOk K.P K.G0 tabF := by rw [hP,hG]; exact tabF_ok
  obtain ⟨c1,c2⟩ := callN_ok hK ht (spec0_ok hK hJ hX) 60
  exact namesF_ok hK (X := X188) (by rw [hP,hG]; exact is188mr) c1 (fun g hg => by
   unfold fnsW at hg
   cases hgt : tabF g with
   | none => rw [hgt] at hg; cases hg
   | some F => exact (ht g F hgt).isFn) c2 args H Q h
 ·exact spec0_ok hK hJ hX f s hf args H Q h
theorem closed_of {K : Cx} (hK : Cfg K) {tab : Nat → Option AFunc} {spec : Spec} (ht : TabOk K.P K.G0 tab) (hs : SpecOk K spec) (n f : Nat) (h : resT (callN tab spec n (.func (.func f) #[] #[]) [] (H00 K.G0)) = true) {H : Heap} {Q : Value → Heap → Prop} (hQ : Q (.bool true) H) : FC K f [] H Q := by
 obtain ⟨c1,c2⟩ := callN_ok hK ht hs n
 exact FC.closed (b := true) (c2 f #[] #[] [] (H00 K.G0) (fun v _ => v = .bool true) (resT_sat h)) hQ
end Go.Ae
