/- Part 2 of the proof of the law: Ae5, Ae6, Ae7. No condition. -/
import Derived.Test.YtalflgbdhjjlkaaGreatDoorP01
set_option linter.all false
namespace Go.Ae
open Go
theorem ba_get (s : ByteArray) (n : Nat) : s[n]? = s.data.toList[n]? := by
 by_cases h : n < s.size
 ·rw [ByteArray.getElem?_lt' s n h]
  have h' : n < s.data.toList.length := by simpa using h
  rw [List.getElem?_eq_getElem h']
  rfl
 ·rw [ByteArray.getElem?_ge' s n h,List.getElem?_eq_none (by simpa using h)]
theorem foldl_push_bytes : ∀ (ns : List Int) (r : List UInt8),(ns.foldl (fun (r : ByteArray) n => r.push (UInt8.ofNat n.toNat)) ⟨r.toArray⟩) = ⟨(r ++ ns.map fun n => UInt8.ofNat n.toNat).toArray⟩
 | [],r => by simp
 | n :: ns,r => by
  rw [List.foldl_cons]
  have : (ByteArray.mk r.toArray).push (UInt8.ofNat n.toNat) = ⟨(r ++ [UInt8.ofNat n.toNat]).toArray⟩ := by
   simp [ByteArray.push]
  rw [this,foldl_push_bytes ns]
  simp
theorem bytesOf_inv : ∀ (l : List Value) (bs : List UInt8),bytesOf? l = some bs → ∃ ns : List Int,l = ns.map (Value.int .u8) ∧ bs = ns.map fun n => UInt8.ofNat n.toNat
 | [],bs,h => by simp [bytesOf?] at h; subst h; exact ⟨[],rfl,rfl⟩
 | v :: l,bs,h => by
  unfold bytesOf? at h
  split at h
  ·rename_i heq; cases heq
  ·rename_i n r heq
   cases heq
   cases hb : bytesOf? l with
   | none => simp [hb] at h
   | some t =>
    simp [hb] at h
    obtain ⟨ns,e1,e2⟩ := bytesOf_inv l t hb
    exact ⟨n :: ns,by simp [e1],by simp [← h,e2]⟩
  ·cases h
theorem VRs.ints {ρ : Nm} {k : IntKind} : ∀ (ns : List Int) (l : List Value),VRs ρ (ns.map (Value.int k)) l → l = ns.map (Value.int k)
 | [],l,h => by cases h; rfl
 | n :: ns,l,h => by
  cases h with
  | cons hv ht => rw [hv.int_inv,VRs.ints ns _ ht]; rfl
theorem sameCell_inv {s : SK} {x y : Value} {b : Bool} (h : sameCell s x y = some b) : (∀ {ρ : Nm} {z : Value},VR ρ x z → z = x) ∧ (∀ {ρ : Nm} {z : Value},VR ρ y z → z = y) := by
 unfold sameCell at h
 split at h
 ·exact ⟨fun q => q.int_inv,fun q => q.int_inv⟩
 ·exact ⟨fun q => q.string_inv,fun q => q.string_inv⟩
 ·exact ⟨fun q => q.bool_inv,fun q => q.bool_inv⟩
 ·cases h
theorem both_eq {P : Program} {w : World} {t : TypeId} {x y : Value} {b : Bool} (h1 : binOp .eql t x y = (do pure (.bool (← Op.equal t x y)))) (h2 : binOp .neq t x y = (do pure (.bool (!(← Op.equal t x y)))))
  (h : ∀ d,(Op.equalIn (d + 1) t x y).run P w = .ok b w) : (binOp .eql t x y).run P w = .ok (.bool b) w ∧ (binOp .neq t x y).run P w = .ok (.bool !b) w := by
 have hq : (Op.equal t x y).run P w = .ok b w := h 9999
 rw [h1,h2]
 exact ⟨by rw [Sem.run_bind,hq]; rfl,by rw [Sem.run_bind,hq]; rfl⟩
theorem run_eql_scalar (P : Program) (w : World) {t : TypeId} {s : SK} (hk : scalarK P t = some s) {x y : Value} {b : Bool} (h : sameCell s x y = some b) :
  (binOp .eql t x y).run P w = .ok (.bool b) w ∧ (binOp .neq t x y).run P w = .ok (.bool !b) w := by
 unfold sameCell at h
 split at h
 ·split at h
  ·rename_i hkk
   subst hkk; cases h
   exact ⟨by simp [binOp,Op.intCmp],by simp [binOp,Op.intCmp]; rfl⟩
  ·cases h
 ·cases h
  exact ⟨by simp [binOp,Op.stringOp,ByteArray.toList_eq],by simp [binOp,Op.stringOp,ByteArray.toList_eq]⟩
 ·cases h
  have hu : P.underlying t = some .bool := by
   unfold scalarK at hk
   split at hk <;> first | (cases hk; done) | assumption
  exact both_eq rfl rfl fun d => by simp [Op.equalIn,underlying,hu]
 ·cases h
section ops
variable {K : Cx} {ρ : Nm} {H : Heap} {w : World} (hr : Rel K ρ H w) {a : Act} {E : List Value} (he : EnvR ρ E a.tmps) {o : Oper}
include hr he
theorem s_eqv {neg : Bool} {t t' : TypeId} {x y : Operand} (ho : o.op = .binOp (if neg then .neq else .eql) t x y t') (hx : okOpd K.G0 x = true) (hy : okOpd K.G0 y = true) {k : EqK} (hk : eqKind K.P t = some k) {v : Value} {H' : Heap}
  (h : aop (.eqv neg k x y) E H = .ok (v,H')) : Ran K ρ H w v H' ((execOp a.eval o).run K.P w) := by
 have h1 := ev_rel hr he x hx
 have h2 := ev_rel hr he y hy
 simp only [aop] at h
 split at h
 ·rename_i b hb
  cases h
  refine ran_val hr (v' := .bool (if neg then !b else b)) ?_ (.bool _)
  suffices hs : (∀ op,eqGuard op t x y (a.eval x) (a.eval y) = pure ()) ∧ (binOp .eql t (a.eval x) (a.eval y)).run K.P w = .ok (.bool b) w ∧ (binOp .neq t (a.eval x) (a.eval y)).run K.P w = .ok (.bool !b) w by
   obtain ⟨q1,q2,q3⟩ := hs
   cases neg
   ·simp at ho; simp [execOp,ho,q1,q2]
   ·simp at ho; simp [execOp,ho,q1,q3]
  unfold aeqv at hb
  cases k with
  | scalar s =>
   simp only at hb
   have hs : scalarK K.P t = some s := by
    unfold eqKind at hk; unfold scalarK
    split at hk <;> (rename_i hu; try simp only [hu])
    all_goals first | (cases hk; rfl) | (cases hk; done) | skip
    split at hk <;> first | (cases hk; done) | (split at hk <;> cases hk)
   obtain ⟨e1,e2⟩ := sameCell_inv hb
   rw [e1 h1,e2 h2]
   refine ⟨fun op => ?_,run_eql_scalar K.P w hs hb⟩
   unfold sameCell at hb
   split at hb
   ·rename_i q1 q2; rw [q1]; exact eqGuard_at_int ..
   ·rename_i q1 q2; rw [q1]; exact eqGuard_at_string ..
   ·rename_i q1 q2; rw [q1]; exact eqGuard_at_bool ..
   ·cases hb
  | ptr =>
   simp only at hb
   have hu : ∃ e i,K.P.underlying t = some (.pointer e) ∧ K.P.info? e = some i ∧ i.size ≠ 0 := by
    unfold eqKind at hk
    split at hk <;> first | (cases hk; done) | skip
    rename_i e hu
    split at hk
    ·rename_i i hi
     split at hk
     ·cases hk
     ·rename_i hne; exact ⟨e,i,hu,hi,hne⟩
    ·cases hk
   obtain ⟨e,i,hu,hi,hsz⟩ := hu
   split at hb
   ·rename_i b' hx' hy'
    cases hb
    rw [hx'] at h1; rw [hy'] at h2
    have e1 : a.eval x = .pointer none := by generalize a.eval x = z at h1; cases h1; rfl
    have e2 : ∃ q,a.eval y = .pointer q ∧ q.isNone = b'.isNone := by generalize a.eval y = z at h2; cases h2 <;> exact ⟨_,rfl,rfl⟩
    obtain ⟨q,e2,e3⟩ := e2
    rw [e1,e2]
    exact ⟨fun op => by first | exact eqGuard_at_pointer .. | exact eqGuard_at_slice .. | exact eqGuard_at_map ..,both_eq rfl rfl fun d => by simp [Op.equalIn,underlying,hu,e3]⟩
   ·rename_i p hx' hy'
    cases hb
    rw [hx'] at h1; rw [hy'] at h2
    obtain ⟨b1,e1,_⟩ := h1.ptr_inv
    have e2 : a.eval y = .pointer none := by generalize a.eval y = z at h2; cases h2; rfl
    rw [e1,e2]
    exact ⟨fun op => by first | exact eqGuard_at_pointer .. | exact eqGuard_at_slice .. | exact eqGuard_at_map ..,both_eq rfl rfl fun d => by simp [Op.equalIn,underlying,hu]⟩
   ·rename_i p q hx' hy'
    split at hb
    ·rename_i hc
     obtain ⟨rfl,hlive⟩ := hc
     cases hb
     rw [hx'] at h1; rw [hy'] at h2
     obtain ⟨b1,e1,p1,_⟩ := h1.ptr_inv
     obtain ⟨b2,e2,p2,_⟩ := h2.ptr_inv
     obtain ⟨ob,hob⟩ := Option.isSome_iff_exists.1 hlive
     obtain ⟨c,base,size,hl,_⟩ := hr.objs _ _ hob
     have g1 := p1.2 c base size hl
     have g2 := p2.2 c base size hl
     subst g1; subst g2
     rw [e1,e2]
     exact ⟨fun op => eqGuard_at_pointer ..,both_eq rfl rfl fun d => by simp [Op.equalIn,underlying,hu,sizeOf,typeInfo,hi,sameAddr]⟩
    ·cases hb
   ·cases hb
  | slice =>
   simp only at hb
   have hu : ∃ e,K.P.underlying t = some (.slice e) := by
    unfold eqKind at hk
    split at hk <;> first | (cases hk; done) | skip
    ·rename_i e hu; split at hk <;> first | (cases hk; done) | (split at hk <;> cases hk)
    ·rename_i e hu; exact ⟨e,hu⟩
   obtain ⟨e,hu⟩ := hu
   split at hb
   ·rename_i n1 n2 b' n3 n4 hx' hy'
    cases hb
    rw [hx'] at h1; rw [hy'] at h2
    have e1 : a.eval x = .slice none 0 0 := by generalize a.eval x = z at h1; cases h1; rfl
    have e2 : ∃ q m1 m2,a.eval y = .slice q m1 m2 ∧ q.isNone = b'.isNone := by generalize a.eval y = z at h2; cases h2 <;> exact ⟨_,_,_,rfl,rfl⟩
    obtain ⟨q,m1,m2,e2,e3⟩ := e2
    rw [e1,e2]
    exact ⟨fun op => by first | exact eqGuard_at_pointer .. | exact eqGuard_at_slice .. | exact eqGuard_at_map ..,both_eq rfl rfl fun d => by simp [Op.equalIn,underlying,hu,e3]⟩
   ·rename_i p n1 n2 n3 n4 hx' hy'
    cases hb
    rw [hx'] at h1; rw [hy'] at h2
    have e1 : ∃ q m1 m2,a.eval x = .slice (some q) m1 m2 := by generalize a.eval x = z at h1; cases h1; exact ⟨_,_,_,rfl⟩
    have e2 : a.eval y = .slice none 0 0 := by generalize a.eval y = z at h2; cases h2; rfl
    obtain ⟨q,m1,m2,e1⟩ := e1
    rw [e1,e2]
    exact ⟨fun op => by first | exact eqGuard_at_pointer .. | exact eqGuard_at_slice .. | exact eqGuard_at_map ..,both_eq rfl rfl fun d => by simp [Op.equalIn,underlying,hu]⟩
   ·cases hb
  | map =>
   simp only at hb
   have hu : ∃ e f,K.P.underlying t = some (.map e f) := by
    unfold eqKind at hk
    split at hk <;> first | (cases hk; done) | skip
    ·rename_i e hu; split at hk <;> first | (cases hk; done) | (split at hk <;> cases hk)
    ·rename_i e f hu; exact ⟨e,f,hu⟩
   obtain ⟨e,f,hu⟩ := hu
   split at hb
   ·rename_i b' hx' hy'
    cases hb
    rw [hx'] at h1; rw [hy'] at h2
    have e1 : a.eval x = .map none := by generalize a.eval x = z at h1; cases h1; rfl
    have e2 : ∃ q,a.eval y = .map q ∧ q.isNone = b'.isNone := by generalize a.eval y = z at h2; cases h2 <;> exact ⟨_,rfl,rfl⟩
    obtain ⟨q,e2,e3⟩ := e2
    rw [e1,e2]
    exact ⟨fun op => by first | exact eqGuard_at_pointer .. | exact eqGuard_at_slice .. | exact eqGuard_at_map ..,both_eq rfl rfl fun d => by simp [Op.equalIn,underlying,hu,e3]⟩
   ·rename_i p hx' hy'
    cases hb
    rw [hx'] at h1; rw [hy'] at h2
    have e1 : ∃ q,a.eval x = .map (some q) := by generalize a.eval x = z at h1; cases h1; exact ⟨_,rfl⟩
    have e2 : a.eval y = .map none := by generalize a.eval y = z at h2; cases h2; rfl
    obtain ⟨q,e1⟩ := e1
    rw [e1,e2]
    exact ⟨fun op => by first | exact eqGuard_at_pointer .. | exact eqGuard_at_slice .. | exact eqGuard_at_map ..,both_eq rfl rfl fun d => by simp [Op.equalIn,underlying,hu]⟩
   ·cases hb
  | func =>
   simp only at hb
   have hu : ∃ e f g,K.P.underlying t = some (.func e f g) := by
    unfold eqKind at hk
    split at hk <;> first | (cases hk; done) | skip
    ·rename_i e hu; split at hk <;> first | (cases hk; done) | (split at hk <;> cases hk)
    ·rename_i e f g hu; exact ⟨e,f,g,hu⟩
   obtain ⟨e,f,g,hu⟩ := hu
   split at hb <;> first | (cases hb; done) | skip
   all_goals
    rename_i hx' hy'
    cases hb
    rw [hx'] at h1; rw [hy'] at h2
    generalize a.eval x = z1 at h1
    generalize a.eval y = z2 at h2
    cases h1 <;> cases h2 <;> exact ⟨fun op => by first | exact eqGuard_at_func .. | exact eqGuard_at_nilFunc ..,both_eq rfl rfl fun d => by simp [Op.equalIn,underlying,hu]⟩
 ·cases h
theorem s_conv {src dst : TypeId} {x : Operand} (ho : o.op = .convert src dst x) (hx : okOpd K.G0 x = true) {j k : IntKind} (h1 : K.P.underlying src = some (.int j)) (h2 : K.P.underlying dst = some (.int k)) {v : Value} {H' : Heap}
  (h : aop (.conv k x) E H = .ok (v,H')) : Ran K ρ H w v H' ((execOp a.eval o).run K.P w) := by
 have hv := ev_rel hr he x hx
 simp only [aop] at h
 split at h
 ·rename_i k' n hx'
  cases h
  rw [hx'] at hv
  exact ran_val hr (v' := .int k (k.wrap n)) (by simp [execOp,ho,hv.int_inv,convert,underlying,h1,h2,Conv.intToInt]) (.int _ _)
 ·cases h
theorem s_toStr {src dst e : TypeId} {x : Operand} (ho : o.op = .convert src dst x) (hx : okOpd K.G0 x = true) (h1 : K.P.underlying src = some (.slice e)) (h2 : K.P.underlying dst = some .string) (h3 : K.P.underlying e = some (.int .u8)) {v : Value} {H' : Heap}
  (h : aop (.toStr x) E H = .ok (v,H')) : Ran K ρ H w v H' ((execOp a.eval o).run K.P w) := by
 have hv := ev_rel hr he x hx
 simp only [aop] at h
 split at h
 ·rename_i n c hx'
  cases h
  rw [hx'] at hv
  rcases hv.slice_inv with ⟨_,rfl,rfl,e1⟩ | ⟨q,sz,b,cap',e0,_⟩
  ·exact ran_val hr (v' := .string .empty) (by simp [execOp,ho,e1,convert,underlying,h1,h2,h3,Conv.bytesToString]) (.string _)
  ·cases e0
 ·rename_i p n c hx'
  rw [hx'] at hv
  rcases hv.slice_inv with ⟨e0,_⟩ | ⟨q,sz,b,cap',e0,hsp,e1,hps,q1,q2,q3⟩
  ·cases e0
  ·cases e0
   have hrun : (execOp a.eval o).run K.P w = ((Conv.bytesToString (.slice (some b) n cap')).run K.P w).andThen fun v w' => .ok (.value v) w' := by
    simp [execOp,ho,e1,convert,underlying,h1,h2,h3]
   split at h
   ·rename_i hn
    subst hn
    cases h
    refine ran_val hr (v' := .string .empty) ?_ (.string _)
    rw [hrun,run_bytesToString w b 0 cap' [] (by simp [loadCells,loadCellsFrom])]
    rfl
   ·rename_i hn
    split at h
    ·rename_i l hl
     cases h
     cases hc : cellsAt H p.block p.off n with
     | none => simp [hc] at hl
     | some cs =>
      simp [hc] at hl
      obtain ⟨ns,rfl,rfl⟩ := bytesOf_inv _ _ hl
      obtain ⟨l',g1,g2,g3,g4,g5,_⟩ := hr.cells hc (hps.pr (by omega))
      have el := VRs.ints _ _ g2
      subst el
      refine ran_val hr (v' := .string ⟨(ns.map fun n => UInt8.ofNat n.toNat).toArray⟩) ?_ (.string _)
      have hb' : b = ⟨b.block,b.off,none⟩ := by cases b; simp at g4; simp [g4]
      rw [hrun,run_bytesToString w b n cap' ns (by rw [hb']; exact run_loadCells _ g1 g5)]
      have := foldl_push_bytes ns []
      simp only [List.nil_append] at this
      have e0 : ByteArray.empty = ⟨([] : List UInt8).toArray⟩ := rfl
      rw [e0,this]
      rfl
    ·cases h
 ·cases h
theorem s_faddr {s : TypeId} {x : Operand} {f : Nat} (ho : o.op = .fieldAddr s x f) (hx : okOpd K.G0 x = true) {fields : Array Field} {fd : Field} {n : Nat} (h1 : K.P.underlying s = some (.struct fields)) (h2 : fields[f]? = some fd)
  (h3 : szOf K.P fd.type = some n) (h4 : n ≠ 0) {v : Value} {H' : Heap} (h : aop (.faddr x fd.offset) E H = .ok (v,H')) : Ran K ρ H w v H' ((execOp a.eval o).run K.P w) := by
 have hv := ev_rel hr he x hx
 simp only [aop] at h
 split at h
 ·rename_i p hx'
  cases h
  rw [hx'] at hv
  obtain ⟨b,e1,hp,hsp⟩ := hv.ptr_inv
  unfold szOf at h3
  cases hi : K.P.info? fd.type with
  | none => simp [hi] at h3
  | some i =>
   simp [hi] at h3
   refine ran_val hr (v' := .pointer (some (b.add fd.offset))) ?_ (.ptr ⟨hp.1,fun c base size hl => ?_⟩)
   ·simp [execOp,ho,e1,Instr.fieldAt,underlying,h1,h2,Instr.sureAddr,fieldPlace,sizeOf,typeInfo,hi,h3,h4]
   ·have := hp.2 c base size hl
    subst this
    rw [Addr_add,Nat.add_assoc]
 ·cases h
theorem part_rel {t : TypeId} {sz : Option Nat} (hz : aggSz K.P t = some sz) {cs cs' : List Value} (hc : VRs ρ cs cs') (ho : ∀ x ∈ cs,x.oneCell' = true) {off : Nat} {v : Value} (h : partL cs off sz = some v) :
  ∃ v',(part t cs'.toArray off).run K.P w = .ok v' w ∧ VR ρ v v' := by
 unfold partL at h
 unfold aggSz at hz
 cases sz with
 | some n =>
  simp only at h
  cases h
  refine ⟨.agg ((cs'.drop off).take n).toArray,?_,((hc.drop off).take n).agg fun x hx => ho x (List.mem_of_mem_drop (List.mem_of_mem_take hx))⟩
  have key : (part t cs'.toArray off).run K.P w = .ok (.agg (cs'.toArray.extract off (off + n))) w := by
   split at hz
   ·rename_i fs hu
    cases hi : K.P.info? t with
    | none => simp [hi] at hz
    | some i => simp [hi] at hz; simp [part,isAgg,underlying,hu,sizeOf,typeInfo,hi,hz]
   ·rename_i fs hu
    cases hi : K.P.info? t with
    | none => simp [hi] at hz
    | some i => simp [hi] at hz; simp [part,isAgg,underlying,hu,sizeOf,typeInfo,hi,hz]
   ·cases hz
   ·cases hz
  rw [key]
  congr 2
  apply Array.ext'
  simp [List.extract_eq_take_drop]
 | none =>
  simp only at h
  obtain ⟨v',h1,h2⟩ := hc.get h
  refine ⟨v',?_,h2⟩
  split at hz
  ·cases hi : K.P.info? t <;> simp [hi] at hz
  ·cases hi : K.P.info? t <;> simp [hi] at hz
  ·rename_i d n1 n2 hu
   have ha : (isAgg t).run K.P w = .ok false w := by
    simp only [isAgg,underlying,Sem.run_bind,run_program,Result.andThen_ok,hu]
    cases d <;> first | rfl | exact absurd rfl (n1 _) | exact absurd rfl (n2 _ _)
   have h1' : cs'.toArray[off]? = some v' := by simpa using h1
   simp [part,ha,h1]
  ·cases hz
theorem s_fld {t : TypeId} {x : Operand} {f : Nat} (ho : o.op = .field t x f) (hx : okOpd K.G0 x = true) {fields : Array Field} {fd : Field} {sz : Option Nat} (h1 : K.P.underlying t = some (.struct fields)) (h2 : fields[f]? = some fd)
  (h3 : aggSz K.P fd.type = some sz) {v : Value} {H' : Heap} (h : aop (.fld x fd.offset sz) E H = .ok (v,H')) : Ran K ρ H w v H' ((execOp a.eval o).run K.P w) := by
 have hv := ev_rel hr he x hx
 simp only [aop,ov] at h
 split at h
 ·rename_i cs hx'
  split at h
  ·rename_i u hu
   cases h
   rw [hx'] at hv
   obtain ⟨c',e1,hc,hone⟩ := hv.agg_inv
   obtain ⟨v',g1,g2⟩ := part_rel (w := w) hr he h3 hc hone hu
   exact ran_val hr (v' := v') (by simp [execOp,ho,e1,Instr.field,underlying,h1,h2,asAgg]; simp at g1; rw [g1]; rfl) g2
  ·cases h
 ·cases h
theorem s_idx {t e : TypeId} {x i : Operand} {sz : Nat} (ho : o.op = .indexAddr t x i) (hx : okOpd K.G0 x = true) (hi : okOpd K.G0 i = true) (h1 : K.P.underlying t = some (.slice e)) (h2 : szOf K.P e = some sz) {v : Value} {H' : Heap}
  (h : aop (.idx x i sz) E H = .ok (v,H')) : Ran K ρ H w v H' ((execOp a.eval o).run K.P w) := by
 have hv := ev_rel hr he x hx
 have hj := ev_rel hr he i hi
 simp only [aop] at h
 split at h
 ·rename_i p n c k j hx' hi'
  split at h
  ·rename_i hc
   obtain ⟨c0,c1,c2⟩ := hc
   cases h
   rw [hx'] at hv
   rw [hi'] at hj
   have ej := hj.int_inv
   rcases hv.slice_inv with ⟨e0,_⟩ | ⟨q,sz',b,cap',e0,hsp,e1,hps,q1,q2,q3⟩
   ·cases e0
   ·cases e0
    have hp := hps.pr (by omega)
    unfold szOf at h2
    cases hinf : K.P.info? e with
    | none => simp [hinf] at h2
    | some inf =>
     simp [hinf] at h2
     refine ran_val hr (v' := .pointer (some (b.add (j.toNat * sz)))) ?_ (.ptr ⟨hp.1,fun cc base size hl => ?_⟩)
     ·simp [execOp,ho,e1,ej,Instr.indexAt,asIntOf,underlying,h1,sizeOf,typeInfo,hinf,h2,c0,c1]
     ·have := hp.2 cc base size hl
      subst this
      rw [Addr_add,Nat.add_assoc]
  ·cases h
 ·cases h
theorem s_idxA {t e : TypeId} {x i : Operand} {len sz : Nat} (ho : o.op = .indexAddr t x i) (hx : okOpd K.G0 x = true) (hi : okOpd K.G0 i = true) (h1 : K.P.underlying t = some (.array len e)) (h2 : szOf K.P e = some sz) {v : Value} {H' : Heap}
  (h : aop (.idxA x i len sz) E H = .ok (v,H')) : Ran K ρ H w v H' ((execOp a.eval o).run K.P w) := by
 have hv := ev_rel hr he x hx
 have hj := ev_rel hr he i hi
 simp only [aop] at h
 split at h
 ·rename_i p k j hx' hi'
  split at h
  ·rename_i hc
   obtain ⟨c0,c1⟩ := hc
   cases h
   rw [hx'] at hv
   rw [hi'] at hj
   have ej := hj.int_inv
   obtain ⟨b,e1,hp,hsp⟩ := hv.ptr_inv
   unfold szOf at h2
   cases hinf : K.P.info? e with
   | none => simp [hinf] at h2
   | some inf =>
    simp [hinf] at h2
    refine ran_val hr (v' := .pointer (some (b.add (j.toNat * sz)))) ?_ (.ptr ⟨hp.1,fun cc base size hl => ?_⟩)
    ·simp [execOp,ho,e1,ej,Instr.indexAt,asIntOf,underlying,h1,sizeOf,typeInfo,hinf,h2,c0,c1,Instr.sureAddr]
    ·have := hp.2 cc base size hl
     subst this
     rw [Addr_add,Nat.add_assoc]
  ·cases h
 ·cases h
theorem s_strAt {t : TypeId} {x i : Operand} (ho : o.op = .index t x i) (hx : okOpd K.G0 x = true) (hi : okOpd K.G0 i = true) (h1 : K.P.underlying t = some .string) {v : Value} {H' : Heap}
  (h : aop (.strAt x i) E H = .ok (v,H')) : Ran K ρ H w v H' ((execOp a.eval o).run K.P w) := by
 have hv := ev_rel hr he x hx
 have hj := ev_rel hr he i hi
 simp only [aop] at h
 split at h
 ·rename_i s k j hx' hi'
  split at h
  ·rename_i c0
   split at h
   ·rename_i b hb
    cases h
    rw [hx'] at hv
    rw [hi'] at hj
    have hb' : s.data[j.toNat]? = some b := by simpa using hb
    exact ran_val hr (v' := .int .u8 b.toNat) (by simp [execOp,ho,hv.string_inv,hj.int_inv,Instr.index,asIntOf,underlying,h1,c0,ba_get,hb']) (.int _ _)
   ·cases h
  ·cases h
 ·cases h
theorem s_aggAt {t e : TypeId} {x i : Operand} {len sz : Nat} {ag : Option Nat} (ho : o.op = .index t x i) (hx : okOpd K.G0 x = true) (hi : okOpd K.G0 i = true) (h1 : K.P.underlying t = some (.array len e)) (h2 : szOf K.P e = some sz) (h3 : aggSz K.P e = some ag)
  (h4 : ag = none ∨ ag = some sz) {v : Value} {H' : Heap}
  (h : aop (.aggAt x i len sz ag.isNone) E H = .ok (v,H')) : Ran K ρ H w v H' ((execOp a.eval o).run K.P w) := by
 have hv := ev_rel hr he x hx
 have hj := ev_rel hr he i hi
 simp only [aop,ov] at h
 split at h
 ·rename_i cs k j hx' hi'
  split at h
  ·rename_i hc
   obtain ⟨c0,c1⟩ := hc
   have hag : (if ag.isNone = true then none else some sz) = ag := by rcases h4 with rfl | rfl <;> simp
   rw [hag] at h
   split at h
   ·rename_i u hu
    cases h
    rw [hx'] at hv
    rw [hi'] at hj
    obtain ⟨c',e1,hcs,hone⟩ := hv.agg_inv
    obtain ⟨v',g1,g2⟩ := part_rel (w := w) hr he h3 hcs hone hu
    unfold szOf at h2
    cases hinf : K.P.info? e with
    | none => simp [hinf] at h2
    | some inf =>
     simp [hinf] at h2
     refine ran_val hr (v' := v') ?_ g2
     simp at g1
     simp [execOp,ho,e1,hj.int_inv,Instr.index,asIntOf,underlying,h1,c0,c1,sizeOf,typeInfo,hinf,h2,g1]
   ·cases h
  ·cases h
 ·cases h
theorem s_ext {t : Operand} {i : Nat} (ho : o.op = .extract t i) (hx : okOpd K.G0 t = true) {v : Value} {H' : Heap}
  (h : aop (.ext t i) E H = .ok (v,H')) : Ran K ρ H w v H' ((execOp a.eval o).run K.P w) := by
 have hv := ev_rel hr he t hx
 simp only [aop,ov] at h
 split at h
 ·rename_i vs hx'
  split at h
  ·rename_i u hu
   cases h
   rw [hx'] at hv
   obtain ⟨c',e1,hc⟩ := hv.tuple_inv
   obtain ⟨v',g1,g2⟩ := hc.get hu
   have g1' : c'[i]? = some v' := by simpa using g1
   exact ran_val hr (v' := v') (by simp [execOp,ho,e1,Instr.extract,g1']) g2
  ·cases h
 ·cases h
theorem s_mkfn {f : FuncId} {caps : Array Operand} {first : Array Operand} (ho : o.op = .makeFunc (.func f) first caps) (hf : first.toList = []) (hx : ∀ x ∈ caps.toList,okOpd K.G0 x = true) :
  Ran K ρ H w (.func (.func f) #[] (caps.toList.map (ev E)).toArray) H ((execOp a.eval o).run K.P w) := by
 have hf' : first = #[] := by simpa using hf
 subst hf'
 have hl : VRs ρ (caps.toList.map (ev E)) (caps.toList.map a.eval) := by
  generalize caps.toList = l at hx
  induction l with
  | nil => exact .nil
  | cons x l ih => exact .cons (ev_rel hr he x (hx x (by simp))) (ih fun y hy => hx y (by simp [hy]))
 refine ran_val hr (v' := .func (.func f) #[] (caps.toList.map a.eval).toArray) ?_ (.func f hl.to_array.1 hl.to_array.2)
 simp only [execOp,ho,Instr.makeFunc,Sem.run_bind,Sem.run_pure,Result.andThen_ok]
 have e : (caps.toList.map a.eval).toArray = caps.map a.eval := by apply Array.ext'; simp
 rw [e]
 simp
theorem s_max {x y : Operand} {ts : Array TypeId} {args : Array Operand} (hargs : args.toList = [x,y]) (ho : o.op = .call { callee := .builtin .max,args := args,argTypes := ts }) (hx : okOpd K.G0 x = true) (hy : okOpd K.G0 y = true) {v : Value} {H' : Heap}
  (h : aop (.mx x y) E H = .ok (v,H')) : Ran K ρ H w v H' ((execOp a.eval o).run K.P w) := by
 have h1 := ev_rel hr he x hx
 have h2 := ev_rel hr he y hy
 have ha : args = #[x,y] := by apply Array.ext'; simpa using hargs
 subst ha
 simp only [aop] at h
 split at h
 ·rename_i k n k' m hx' hy'
  cases h
  rw [hx'] at h1; rw [hy'] at h2
  exact ran_val hr (v' := .int k (if m > n then m else n)) (by simp [execOp,ho,resolve,invoke,builtin,Builtin.max_,h1.int_inv,h2.int_inv,Builtin.max2]) (.int _ _)
 ·cases h
theorem s_min {x y : Operand} {ts : Array TypeId} {args : Array Operand} (hargs : args.toList = [x,y]) (ho : o.op = .call { callee := .builtin .min,args := args,argTypes := ts }) (hx : okOpd K.G0 x = true) (hy : okOpd K.G0 y = true) {v : Value} {H' : Heap}
  (h : aop (.mn x y) E H = .ok (v,H')) : Ran K ρ H w v H' ((execOp a.eval o).run K.P w) := by
 have h1 := ev_rel hr he x hx
 have h2 := ev_rel hr he y hy
 have ha : args = #[x,y] := by apply Array.ext'; simpa using hargs
 subst ha
 simp only [aop] at h
 split at h
 ·rename_i k n k' m hx' hy'
  cases h
  rw [hx'] at h1; rw [hy'] at h2
  exact ran_val hr (v' := .int k (if m < n then m else n)) (by simp [execOp,ho,resolve,invoke,builtin,Builtin.min_,h1.int_inv,h2.int_inv,Builtin.min2]) (.int _ _)
 ·cases h
end ops
end Go.Ae
namespace Go.Ae
open Go
section ops
variable {K : Cx} {ρ : Nm} {H : Heap} {w : World} (hr : Rel K ρ H w) {a : Act} {E : List Value} (he : EnvR ρ E a.tmps) {o : Oper}
include hr he
theorem bound_run {x : Option Operand} (hx : ∀ y ∈ x.toList,okOpd K.G0 y = true) {dflt top top' : Nat} {code : BoundsCode} {n : Nat} (h : bound E x dflt top = some n) (ht : top ≤ top') :
  (match x.map a.eval with
   | some v => Instr.sliceBound v top' code
   | none => pure dflt : Sem Nat).run K.P w = .ok n w := by
 unfold bound at h
 cases x with
 | none => simp at h; subst h; rfl
 | some y =>
  simp only at h
  have hv := ev_rel hr he y (hx y (by simp))
  split at h
  ·rename_i k i hy
   rw [hy] at hv
   split at h
   ·rename_i hc
    cases h
    simp only [Option.map_some,hv.int_inv,Instr.sliceBound,asIntOf,Sem.run_bind,Sem.run_pure,Result.andThen_ok]
    rw [if_pos ⟨hc.1,by omega⟩]
    rfl
   ·cases h
  ·cases h
theorem bounds_run {lo hi : Option Operand} (hlo : ∀ y ∈ lo.toList,okOpd K.G0 y = true) (hhi : ∀ y ∈ hi.toList,okOpd K.G0 y = true) {isSl : Bool} {len cap cap' h l : Nat}
  (h1 : bound E hi len cap = some h) (h2 : bound E lo 0 h = some l) (hc : cap ≤ cap') :
  (Instr.sliceBounds isSl len cap' (lo.map a.eval) (hi.map a.eval) none).run K.P w = .ok (l,h,cap') w := by
 have q1 := fun c => bound_run hr he hhi (code := c) h1 hc
 have q2 := bound_run hr he hlo (code := .sliceB) h2 (Nat.le_refl h)
 cases isSl <;> cases hi <;> cases lo
 all_goals
  simp only [Option.map_none,Option.map_some,Sem.run_pure,Result.ok.injEq,and_true] at q1 q2
  simp [Instr.sliceBounds,q1,q2]
 all_goals (first | exact ⟨q2,q1 .sliceAlen⟩ | exact q1 .sliceAlen | (have e := q1 .sliceAlen; subst e; simp [q2]))
theorem bound_le {x : Option Operand} {dflt top n : Nat} (h : bound E x dflt top = some n) (hd : dflt ≤ top) : n ≤ top := by
 unfold bound at h
 split at h
 ·cases h; exact hd
 ·split at h
  ·split at h
   ·cases h; omega
   ·cases h
  ·cases h
theorem s_slStr {t : TypeId} {x : Operand} {lo hi : Option Operand} (ho : o.op = .slice t x lo hi none) (hx : okOpd K.G0 x = true) (hlo : ∀ y ∈ lo.toList,okOpd K.G0 y = true) (hhi : ∀ y ∈ hi.toList,okOpd K.G0 y = true)
  (h1 : K.P.underlying t = some .string) {v : Value} {H' : Heap} (h : aop (.slStr x lo hi) E H = .ok (v,H')) : Ran K ρ H w v H' ((execOp a.eval o).run K.P w) := by
 have hv := ev_rel hr he x hx
 simp only [aop] at h
 split at h
 ·rename_i s hx'
  rw [hx'] at hv
  split at h
  ·rename_i hh q1
   split at h
   ·rename_i l q2
    cases h
    have := bounds_run (w := w) hr he hlo hhi (isSl := false) q1 q2 (Nat.le_refl s.size)
    refine ran_val hr (v' := .string (s.extract l hh)) ?_ (.string _)
    simp [execOp,ho,hv.string_inv,Instr.sliceAt,underlying,h1,Instr.slice,this]
   ·cases h
  ·cases h
 ·cases h
theorem s_sl {t e : TypeId} {x : Operand} {lo hi : Option Operand} {sz : Nat} (ho : o.op = .slice t x lo hi none) (hx : okOpd K.G0 x = true) (hlo : ∀ y ∈ lo.toList,okOpd K.G0 y = true) (hhi : ∀ y ∈ hi.toList,okOpd K.G0 y = true)
  (h1 : K.P.underlying t = some (.slice e)) (h2 : szOf K.P e = some sz) {v : Value} {H' : Heap} (h : aop (.sl x lo hi sz) E H = .ok (v,H')) : Ran K ρ H w v H' ((execOp a.eval o).run K.P w) := by
 have hv := ev_rel hr he x hx
 simp only [aop] at h
 split at h
 ·rename_i p n cap hx'
  rw [hx'] at hv
  split at h
  ·rename_i hh q1
   split at h
   ·rename_i l q2
    unfold szOf at h2
    cases hinf : K.P.info? e with
    | none => simp [hinf] at h2
    | some inf =>
     simp [hinf] at h2
     rcases hv.slice_inv with ⟨rfl,rfl,rfl,e1⟩ | ⟨q,sz',b,cap',rfl,hsp,e1,hps,c1,c2,c3⟩
     ·simp only at h
      cases h
      have g1 : hh = 0 := by have := bound_le hr he q1 (Nat.le_refl _); omega
      subst g1
      have g2 : l = 0 := by have := bound_le hr he q2 (Nat.le_refl _); omega
      subst g2
      have := bounds_run (w := w) hr he hlo hhi (isSl := true) q1 q2 (Nat.le_refl 0)
      refine ran_val hr (v' := .slice none 0 0) ?_ .sliceNil
      simp [execOp,ho,e1,Instr.sliceAt,underlying,h1,Instr.slice,this,sizeOf,typeInfo,hinf]
     ·simp only at h
      split at h
      ·rename_i hsp'
       rw [hsp] at hsp'
       cases hsp'
       cases h
       have g1 := bound_le hr he q1 c1
       have g2 := bound_le hr he q2 (Nat.zero_le _)
       have := bounds_run (w := w) hr he hlo hhi (isSl := true) q1 q2 c2
       refine ran_val hr (v' := .slice (if cap' = l then some b else some (b.add (l * sz))) (hh - l) (cap' - l)) ?_ ?_
       ·simp only [execOp,ho,e1,Instr.sliceAt,underlying,Sem.run_bind,run_program,Result.andThen_ok,h1,Sem.run_pure,Instr.slice,Option.map_none,this,sizeOf,typeInfo,hinf]
        simp [h2]
       ·have key : VR ρ (sliceOf q.block (q.off + l * sz) sz (hh - l) (cap - l)) (.slice (some (if cap' = l then b else b.add (l * sz))) (hh - l) (cap' - l)) := by
         refine .slice ⟨hps.1,fun cc base size hl => ?_⟩ (by omega) (by omega) (by omega)
         obtain ⟨r1,r2⟩ := hps.2 cc base size hl
         have r3 : (cap' - l) * sz + l * sz = cap' * sz := by rw [← Nat.add_mul]; congr 1; omega
         refine ⟨by omega,?_⟩
         by_cases hcl : cap' = l
         ·right
          refine ⟨by omega,?_⟩
          rw [if_pos hcl]
          rcases r2 with r2 | ⟨_,o',ho',r2⟩
          ·exact ⟨q.off,by omega,r2⟩
          ·exact ⟨o',by omega,r2⟩
         ·left
          rw [if_neg hcl]
          rcases r2 with r2 | ⟨r4,_⟩
          ·rw [r2,Addr_add,Nat.add_assoc]
          ·omega
        have e2 : (if cap' = l then some b else some (b.add (l * sz))) = some (if cap' = l then b else b.add (l * sz)) := by split <;> rfl
        rw [e2]; exact key
      ·cases h
   ·cases h
  ·cases h
 ·cases h
theorem s_len {t : TypeId} {x : Operand} {ts : Array TypeId} {args : Array Operand} (hargs : args.toList = [x]) (hts : ts.toList = [t]) (ho : o.op = .call { callee := .builtin .len,args := args,argTypes := ts }) (hx : okOpd K.G0 x = true)
  {op : AOp} (hop : (K.P.underlying t = some .string ∧ op = .lenS x) ∨ ((∃ e,K.P.underlying t = some (.slice e)) ∧ op = .lenL x) ∨ ((∃ e f,K.P.underlying t = some (.map e f)) ∧ op = .lenM x)) {v : Value} {H' : Heap}
  (h : aop op E H = .ok (v,H')) : Ran K ρ H w v H' ((execOp a.eval o).run K.P w) := by
 have hv := ev_rel hr he x hx
 have ha : args = #[x] := by apply Array.ext'; simpa using hargs
 have ht : ts = #[t] := by apply Array.ext'; simpa using hts
 subst ha; subst ht
 rcases hop with ⟨hu,rfl⟩ | ⟨⟨e,hu⟩,rfl⟩ | ⟨⟨e,f,hu⟩,rfl⟩ <;> simp only [aop] at h
 ·split at h
  ·rename_i s hx'
   cases h
   rw [hx'] at hv
   exact ran_val hr (v' := .int .i64 s.size) (by simp [execOp,ho,resolve,invoke,builtin,Builtin.len_,hv.string_inv,underlying,hu,goInt]) (.int _ _)
  ·cases h
 ·split at h
  ·rename_i p n c hx'
   cases h
   rw [hx'] at hv
   have : ∃ q c',a.eval x = .slice q n c' := by generalize a.eval x = z at hv; cases hv <;> exact ⟨_,_,rfl⟩
   obtain ⟨q,c',e1⟩ := this
   exact ran_val hr (v' := .int .i64 n) (by simp [execOp,ho,resolve,invoke,builtin,Builtin.len_,e1,underlying,hu,goInt]) (.int _ _)
  ·cases h
 ·split at h
  ·rename_i hx'
   cases h
   rw [hx'] at hv
   have e1 : a.eval x = .map none := by generalize a.eval x = z at hv; cases hv; rfl
   exact ran_val hr (v' := .int .i64 0) (by simp [execOp,ho,resolve,invoke,builtin,Builtin.len_,e1,underlying,hu,goInt]) (.int _ _)
  ·rename_i b hx'
   rw [hx'] at hv
   split at h
   ·rename_i es hes
    cases h
    obtain ⟨c,base,size,hl,hobj⟩ := hr.objs _ _ hes
    have : ∃ r,a.eval x = .map (some r) ∧ BR ρ b r := by generalize a.eval x = z at hv; cases hv; exact ⟨_,rfl,‹_›⟩
    obtain ⟨r,e1,hb⟩ := this
    have er := hb.2 c base size hl
    subst er
    generalize hX : w.heap[r]? = X at hobj
    cases hobj with
    | map hc hb' hm =>
     rename_i es' clock
     have hsz : es'.size = es.length := by simpa using hm.size
     exact ran_val hr (v' := .int .i64 es.length) (by simp [execOp,ho,resolve,invoke,builtin,Builtin.len_,e1,underlying,hu,goInt,getObj,Sem.run,hX,hsz]) (.int _ _)
   ·cases h
  ·cases h
theorem s_mkmap {t : TypeId} (ho : o.op = .makeMap t none) {N : Nat} {H' : Heap} (ha : Adds H N (.map []) H') (hfr : ρ N = .fresh) (hg : K.G0 ≤ N) :
  ∃ v' w' ρ',RanN K ρ H w N (.map (some N)) H' ((execOp a.eval o).run K.P w) v' w' ρ' := by
 obtain ⟨R,S⟩ := hr.add (x := .map #[] 0) (size := 0) ha hfr hg (.map hr.base rfl ⟨rfl,fun i e h => by simp at h,trivial,fun x h => by simp at h⟩)
 refine ⟨.map (some w.heap.size),w.alloc (.map #[] 0),_,?_,.map ⟨by simp,fun c base size hl => ?_⟩,R,Ext.setN hfr,fun b hb => setN_ne _ _ hb,S⟩
 ·simp [execOp,ho,Instr.makeMap]
 ·rw [setN_same] at hl; cases hl; rfl
end ops
end Go.Ae
namespace Go.Ae
open Go
theorem ba_beq (a b : ByteArray) : (a == b) = (a.data.toList == b.data.toList) := by
 cases a; cases b
 rename_i x y
 show (x == y) = _
 rw [Bool.eq_iff_iff]
 simp
theorem sameNow_eq {P : Program} {kt : TypeId} {s : SK} (hk : scalarK P kt = some s) : ∃ d,P.underlying kt = some d ∧ (∀ x y b,sameCell s x y = some b → Instr.sameNow d x y = some b) ∧
  (∀ n e x,(Instr.checkKey e (n + 1) kt x) = (do let _ ← underlying kt; Instr.checkKey e (n + 1) kt x) ∨ True) ∧ (∀ i,d ≠ .interface i) ∧ (∀ n t,d ≠ .array n t) ∧ (∀ f,d ≠ .struct f) := by
 unfold scalarK at hk
 split at hk
 ·rename_i k hu
  cases hk
  refine ⟨_,hu,?_,fun _ _ _ => .inr trivial,by simp,by simp,by simp⟩
  intro x y b h
  unfold sameCell at h
  split at h <;> first | (cases h; done) | skip
  all_goals (try contradiction)
  simpa [Instr.sameNow] using h
 ·rename_i hu
  cases hk
  refine ⟨_,hu,?_,fun _ _ _ => .inr trivial,by simp,by simp,by simp⟩
  intro x y b h
  unfold sameCell at h
  split at h <;> first | (cases h; done) | skip
  all_goals (try contradiction)
  cases h
  simp [Instr.sameNow,ba_beq]
 ·rename_i hu
  cases hk
  refine ⟨_,hu,?_,fun _ _ _ => .inr trivial,by simp,by simp,by simp⟩
  intro x y b h
  unfold sameCell at h
  split at h <;> first | (cases h; done) | skip
  all_goals (try contradiction)
  cases h
  simp [Instr.sameNow]
 ·cases hk
theorem run_checkKey {P : Program} {w : World} {kt : TypeId} {d : TypeDesc} (hu : P.underlying kt = some d) (h1 : ∀ i,d ≠ .interface i) (h2 : ∀ n t,d ≠ .array n t) (h3 : ∀ f,d ≠ .struct f) (e : Bool) (v : Value) :
  (Instr.checkKey e 10000 kt v).run P w = .ok () w := by
 have : ∀ n,(Instr.checkKey e (n + 1) kt v).run P w = .ok () w := by
  intro n
  rw [Instr.checkKey]
  simp only [underlying,Sem.run_bind,run_program,Result.andThen_ok,hu,Sem.run_pure]
  cases d <;> first | rfl | exact absurd rfl (h1 _) | exact absurd rfl (h2 _ _) | exact absurd rfl (h3 _)
 exact this 9999
theorem findNow_rel {ρ : Nm} {s : SK} {d : TypeDesc} (hd : ∀ x y b,sameCell s x y = some b → Instr.sameNow d x y = some b) {k : Value} : ∀ (es : List (Value × Value)) (es' : List MapEntry) (i : Nat) (r : Option Nat),
  es'.length = es.length → (∀ (j : Nat) (e : Value × Value),es[j]? = some e → ∃ e' : MapEntry,es'[j]? = some e' ∧ EntryR ρ e e') → findKeyA s k es i = some r →
  match r with
  | none => Instr.findNow d k es' i = some none
  | some n => i ≤ n ∧ ∃ e e',es[n - i]? = some e ∧ es'[n - i]? = some e' ∧ EntryR ρ e e' ∧ Instr.findNow d k es' i = some (some (n,e'.val)) ∧ sameCell s k e.1 = some true
 | [],es',i,r,hl,_,h => by
  simp [findKeyA] at h
  subst h
  have : es' = [] := by simpa using hl
  subst this
  rfl
 |(k1,v1) :: es,es',i,r,hl,hrel,h => by
  cases es' with
  | nil => simp at hl
  | cons e' es' =>
   obtain ⟨e0,q0,q1⟩ := hrel 0 (k1,v1) (by simp)
   simp at q0
   subst q0
   unfold findKeyA at h
   split at h
   ·rename_i hs
    cases h
    have hk1 := (sameCell_inv hs).2 q1.key
    refine ⟨Nat.le_refl _,(k1,v1),e',by simp,by simp,q1,?_,hs⟩
    rw [Instr.findNow,hk1,hd _ _ _ hs]
   ·rename_i hs
    have hk1 := (sameCell_inv hs).2 q1.key
    have ih := findNow_rel hd es es' (i + 1) r (by simpa using hl) (fun j e hj => by simpa using hrel (j + 1) e (by simpa using hj)) h
    have hstep : Instr.findNow d k (e' :: es') i = Instr.findNow d k es' (i + 1) := by rw [Instr.findNow,hk1,hd _ _ _ hs]
    cases r with
    | none => simpa [hstep] using ih
    | some n =>
     obtain ⟨g1,e1,e2,g2,g3,g4,g5,g6⟩ := ih
     refine ⟨by omega,e1,e2,?_,?_,g4,by rw [hstep]; exact g5,g6⟩
     ·rw [show n - i = (n - (i + 1)) + 1 from by omega]; simpa using g2
     ·rw [show n - i = (n - (i + 1)) + 1 from by omega]; simpa using g3
   ·cases h
theorem bornRises_set : ∀ (l : List MapEntry) (i : Nat) (e x : MapEntry),bornRises l → l[i]? = some e → x.born = e.born → bornRises (l.set i x)
 | [],_,_,_,_,h,_ => by simp at h
 | y :: l,0,e,x,hb,h,hx => by
  simp at h; subst h
  exact ⟨fun z hz => by rw [hx]; exact hb.1 z hz,hb.2⟩
 | y :: l,i + 1,e,x,hb,h,hx => by
  refine ⟨fun z hz => ?_,bornRises_set l i e x hb.2 (by simpa using h) hx⟩
  rcases List.mem_or_eq_of_mem_set hz with hz | rfl
  ·exact hb.1 z hz
  ·rw [hx]; exact hb.1 e (List.mem_of_getElem? (by simpa using h))
theorem bornRises_snoc : ∀ (l : List MapEntry) (x : MapEntry),bornRises l → (∀ y ∈ l,y.born < x.born) → bornRises (l ++ [x])
 | [],x,_,_ => ⟨fun _ h => by simp at h,trivial⟩
 | y :: l,x,hb,h => ⟨fun z hz => by
   rcases List.mem_append.1 hz with hz | hz
   ·exact hb.1 z hz
   ·simp at hz; subst hz; exact h y (by simp),bornRises_snoc l x hb.2 fun z hz => h z (by simp [hz])⟩
theorem bornRises_erase : ∀ (l : List MapEntry) (i : Nat),bornRises l → bornRises (l.eraseIdx i)
 | [],_,h => by simpa using h
 | y :: l,0,h => by simpa using h.2
 | y :: l,i + 1,h => by
  rw [List.eraseIdx_cons_succ]
  exact ⟨fun z hz => h.1 z (List.mem_of_mem_eraseIdx hz),bornRises_erase l i h.2⟩
theorem same_true {s : SK} {x y : Value} (h : sameCell s x y = some true) : x = y ∧ ∀ n,Instr.sameBits n y x = true := by
 unfold sameCell at h
 split at h
 ·split at h
  ·rename_i hk
   subst hk
   simp at h
   subst h
   exact ⟨rfl,fun n => by cases n <;> simp [Instr.sameBits]⟩
  ·cases h
 ·rename_i a b
  have : a = b := by
   have h' : a.data.toList = b.data.toList := by simpa using h
   cases a; cases b
   simp at h'
   rw [h']
  subst this
  exact ⟨rfl,fun n => by cases n <;> simp [Instr.sameBits,ba_beq]⟩
 ·simp at h
  subst h
  exact ⟨rfl,fun n => by cases n <;> simp [Instr.sameBits]⟩
 ·cases h
section ops
variable {K : Cx} {ρ : Nm} {H : Heap} {w : World} (hr : Rel K ρ H w) {a : Act} {E : List Value} (he : EnvR ρ E a.tmps) {o : Oper}
include hr he
theorem map_at {b : Nat} {es : List (Value × Value)} (hes : H.get b = some (.map es)) {r : Nat} (hb : BR ρ b r) : ∃ es' clock,w.heap[r]? = some (.map es' clock) ∧ MapR ρ es es'.toList clock ∧ K.N0 ≤ r ∧ ∃ size,ρ b = .live r 0 size := by
 obtain ⟨c,base,size,hl,hobj⟩ := hr.objs _ _ hes
 have er := hb.2 c base size hl
 subst er
 generalize hX : w.heap[r]? = X at hobj
 cases hobj with
 | map hc hb' hm => subst hb'; exact ⟨_,_,rfl,hm,hc,size,hl⟩
theorem s_look {t kt e : TypeId} {m k : Operand} {ok : Bool} (ho : o.op = .lookup t m k ok) (hm : okOpd K.G0 m = true) (hk : okOpd K.G0 k = true) {z : Value} {s : SK} (hu : K.P.underlying t = some (.map kt e)) (hz : zeroOf K.P e = some z)
  (hs : scalarK K.P kt = some s) {v : Value} {H' : Heap} (h : aop (.look s m k z ok) E H = .ok (v,H')) : Ran K ρ H w v H' ((execOp a.eval o).run K.P w) := by
 have h1 := ev_rel hr he m hm
 have h2 := ev_rel hr he k hk
 obtain ⟨d,hd,hsame,_,n1,n2,n3⟩ := sameNow_eq hs
 have hzero : (zeroValue e).run K.P w = .ok z w ∧ VR ρ z z := by
  unfold zeroOf at hz
  split at hz
  ·rename_i z' hz'
   split at hz
   ·rename_i hf
    cases hz
    cases hi : K.P.info? e with
    | none => simp [hi] at hz'
    | some i => simp [hi] at hz'; simp at hf; exact ⟨by simp [zeroValue,typeInfo,hi,hz'],.flat hf.1⟩
   ·cases hz
  ·cases hz
 simp only [aop] at h
 split at h
 ·rename_i es hes
  have hE : ∃ es' : Array MapEntry,((a.eval m = .map none ∧ es' = #[]) ∨ ∃ r clock,a.eval m = .map (some r) ∧ w.heap[r]? = some (.map es' clock)) ∧ es'.toList.length = es.length ∧
    (∀ (j : Nat) (e : Value × Value),es[j]? = some e → ∃ e' : MapEntry,es'.toList[j]? = some e' ∧ EntryR ρ e e') := by
   split at hes
   ·rename_i hm'
    cases hes
    rw [hm'] at h1
    have e1 : a.eval m = .map none := by generalize a.eval m = y at h1; cases h1; rfl
    exact ⟨#[],.inl ⟨e1,rfl⟩,rfl,fun j e hj => by simp at hj⟩
   ·rename_i b hm'
    split at hes
    ·rename_i es0 hb
     cases hes
     rw [hm'] at h1
     have : ∃ r,a.eval m = .map (some r) ∧ BR ρ b r := by generalize a.eval m = y at h1; cases h1; exact ⟨_,rfl,‹_›⟩
     obtain ⟨r,e1,hbr⟩ := this
     obtain ⟨es',clock,q1,q2,_⟩ := map_at hr he hb hbr
     exact ⟨es',.inr ⟨r,clock,e1,q1⟩,q2.size,q2.entries⟩
    ·cases hes
   ·cases hes
  obtain ⟨es',hrun,hlen,hent⟩ := hE
  have hpre : ∀ (r : Option (Nat × Value)),Instr.findNow d (a.eval k) es'.toList 0 = some r →
    (execOp a.eval o).run K.P w = .ok (.value (match r with
     | some (_,v) => if ok then .tuple #[v,.bool true] else v
     | none => if ok then .tuple #[z,.bool false] else z)) w := by
   intro r hf
   have hck := fun e => run_checkKey (w := w) hd n1 n2 n3 e (a.eval k)
   rcases hrun with ⟨e1,rfl⟩ | ⟨q,clock,e1,hq⟩
   ·simp only [execOp,ho,Instr.lookup,underlying,Sem.run_bind,run_program,Result.andThen_ok,hu,Sem.run_pure,e1,hck,Instr.findKey,hd,hf]
    cases r with
    | none => simp [hzero.1]
    | some r => cases r; simp
   ·simp only [execOp,ho,Instr.lookup,underlying,Sem.run_bind,run_program,Result.andThen_ok,hu,Sem.run_pure,e1,getObj,Sem.run,hq,hck,Instr.findKey,hd,hf]
    cases r with
    | none => simp [hzero.1]
    | some r => cases r; simp
  split at h
  ·rename_i i hf
   have hkey : a.eval k = ev E k := by
    obtain ⟨_,e,e',_,_,_,_,hb⟩ := findNow_rel (ρ := ρ) hsame es es'.toList 0 _ hlen hent hf
    exact (sameCell_inv hb).1 h2
   obtain ⟨_,e,e',g1,g2,g3,g4,_⟩ := findNow_rel (ρ := ρ) hsame es es'.toList 0 _ hlen hent hf
   simp only [Nat.sub_zero] at g1 g2
   rw [g1] at h
   simp only at h
   rw [← hkey] at g4
   have hrun' := hpre _ g4
   cases h
   refine ran_val hr (v' := if ok then .tuple #[e'.val,.bool true] else e'.val) hrun' ?_
   cases ok
   ·exact g3.val
   ·exact VRs.tuple (.cons g3.val (.cons (.bool true) .nil))
  ·rename_i hf
   have hf' := findNow_rel (ρ := ρ) hsame es es'.toList 0 _ hlen hent hf
   simp only at hf'
   cases h
   refine ran_val hr (v' := if ok then .tuple #[z,.bool false] else z) ?_ ?_
   ·cases hes0 : es'.toList with
    | nil => exact hpre none (by rw [hes0]; rfl)
    | cons e0 r0 =>
     have hkey : a.eval k = ev E k := by
      cases es with
      | nil => rw [hes0] at hlen; simp at hlen
      | cons p es =>
       obtain ⟨k1,v1⟩ := p
       unfold findKeyA at hf
       split at hf
       ·cases hf
       ·rename_i hs'; exact (sameCell_inv hs').1 h2
       ·cases hf
     rw [← hkey] at hf'
     exact hpre none hf'
   ·cases ok
    ·exact hzero.2
    ·exact VRs.tuple (.cons hzero.2 (.cons (.bool false) .nil))
  ·cases h
 ·cases h
theorem s_mset {t kt e : TypeId} {m k x : Operand} (ho : o.op = .mapUpdate t m k x ∨ o.op = .insert t m k x) (hm : okOpd K.G0 m = true) (hk : okOpd K.G0 k = true) (hx : okOpd K.G0 x = true) {s : SK} (hu : K.P.underlying t = some (.map kt e))
  (hs : scalarK K.P kt = some s) {v : Value} {H' : Heap} (h : aop (.mset s m k x) E H = .ok (v,H')) : Ran K ρ H w v H' ((execOp a.eval o).run K.P w) := by
 have h1 := ev_rel hr he m hm
 have h2 := ev_rel hr he k hk
 have h3 := ev_rel hr he x hx
 obtain ⟨d,hd,hsame,_,n1,n2,n3⟩ := sameNow_eq hs
 have hexec : (execOp a.eval o).run K.P w = ((Instr.mapUpdate t (a.eval m) (a.eval k) (a.eval x)).run K.P w).andThen fun _ w' => .ok .skip w' := by
  rcases ho with ho | ho <;> simp [execOp,ho]
 simp only [aop] at h
 split at h
 ·rename_i b hm'
  split at h
  ·rename_i es hb
   rw [hm'] at h1
   have : ∃ r,a.eval m = .map (some r) ∧ BR ρ b r := by generalize a.eval m = y at h1; cases h1; exact ⟨_,rfl,‹_›⟩
   obtain ⟨r,e1,hbr⟩ := this
   obtain ⟨es',clock,q1,q2,q3,size,q4⟩ := map_at hr he hb hbr
   have hlt : r < w.heap.size := by
    rcases Nat.lt_or_ge r w.heap.size with hl | hl
    ·exact hl
    ·rw [Array.getElem?_eq_none hl] at q1; cases q1
   have fin : ∀ (nes : List (Value × Value)) (nes' : Array MapEntry) (nclock : Nat),MapR ρ nes nes'.toList nclock →
     (Instr.mapUpdate t (a.eval m) (a.eval k) (a.eval x)).run K.P w = .ok () (w.putObj r (.map nes' nclock)) → Ran K ρ H w undef (H.set b (some (.map nes))) ((execOp a.eval o).run K.P w) := by
    intro nes nes' nclock hmr hrun
    obtain ⟨R,S⟩ := hr.turn (w' := w.putObj r (.map nes' nclock)) (o' := .map nes) hb rfl q4 (World.putObj_size) (fun k hk => World.putObj_heap_other hk)
     (by rw [World.putObj_heap_same hlt]; exact .map q3 rfl hmr) rfl rfl rfl
    exact ⟨undef,_,ρ,.inr ⟨by rw [hexec,hrun]; rfl,rfl⟩,.undef,R,S⟩
   split at h
   ·rename_i i hf
    cases h
    obtain ⟨_,e0,e',g1,g2,g3,g4,g5⟩ := findNow_rel (ρ := ρ) hsame es es'.toList 0 _ q2.size q2.entries hf
    simp only [Nat.sub_zero] at g1 g2
    have hkey := (sameCell_inv g5).1 h2
    have hek := (sameCell_inv g5).2 g3.key
    obtain ⟨hxy,hbits⟩ := same_true g5
    have hge : es'[i]? = some e' := by simpa using g2
    rw [← hkey] at g4
    refine fin _ (es'.modify i fun e => { e with key := a.eval k,val := a.eval x }) clock ⟨?_,?_,?_,?_⟩ ?_
    ·have := q2.size
     simpa using this
    ·intro j p hp
     by_cases hij : i = j
     ·subst hij
      rw [List.getElem?_set] at hp
      simp at hp
      obtain ⟨_,rfl⟩ := hp
      refine ⟨{ e' with key := a.eval k,val := a.eval x },by simp [Array.getElem?_modify,hge],?_,h3⟩
      exact h2
     ·rw [List.getElem?_set_ne hij] at hp
      obtain ⟨p',r1,r2⟩ := q2.entries j p hp
      refine ⟨p',?_,r2⟩
      have r1' : es'[j]? = some p' := by simpa using r1
      simp [Array.getElem?_modify,hij,r1']
    ·have : (es'.modify i fun e => { e with key := a.eval k,val := a.eval x }).toList = es'.toList.set i { e' with key := a.eval k,val := a.eval x } := by
      apply List.ext_getElem?
      intro j
      by_cases hij : i = j
      ·subst hij
       have hi : i < es'.size := by
        rcases Nat.lt_or_ge i es'.size with hl | hl
        ·exact hl
        ·rw [Array.getElem?_eq_none hl] at hge; cases hge
       rw [List.getElem?_set_self (by simpa using hi)]
       simp [Array.getElem?_modify,hge]
      ·rw [List.getElem?_set_ne hij]
       simp [Array.getElem?_modify,hij]
     rw [this]
     exact bornRises_set _ i e' _ q2.rises g2 rfl
    ·intro y hy
     obtain ⟨j,hj,rfl⟩ := List.getElem_of_mem hy
     have hj' : j < es'.size := by simpa using hj
     have hold := q2.below es'[j] (by simp)
     simp only [Array.getElem_toList,Array.getElem_modify]
     split
     ·exact hold
     ·exact hold
    ·have hb2 : Instr.sameBits 10000 e'.key (a.eval k) = true := by rw [hek,hkey]; exact hbits _
     simp only [e1,Instr.mapUpdate,underlying,Sem.run_bind,run_program,Result.andThen_ok,hu,Sem.run_pure,getObj,Sem.run,q1,run_checkKey hd n1 n2 n3,Instr.findKey,hd,g4,hge,Option.map_some,Option.getD_some,Instr.keyThatStays,hb2,if_true,setObj,World.putObj]
   ·rename_i hf
    cases h
    have hf' := findNow_rel (ρ := ρ) hsame es es'.toList 0 _ q2.size q2.entries hf
    simp only at hf'
    have hff : Instr.findNow d (a.eval k) es'.toList 0 = some none := by
     cases hes0 : es'.toList with
     | nil => rfl
     | cons e0 r0 =>
      have hkey : a.eval k = ev E k := by
       cases es with
       | nil => have := q2.size; rw [hes0] at this; simp at this
       | cons p es =>
        obtain ⟨k1,v1⟩ := p
        unfold findKeyA at hf
        split at hf
        ·cases hf
        ·rename_i hs'; exact (sameCell_inv hs').1 h2
        ·cases hf
      rw [hkey,← hes0]; exact hf'
    refine fin _ (es'.push { key := a.eval k,val := a.eval x,born := clock }) (clock + 1) ⟨?_,?_,?_,?_⟩ ?_
    ·have := q2.size; simp at this; simp [this]
    ·intro j p hp
     rw [List.getElem?_append] at hp
     split at hp
     ·obtain ⟨p',r1,r2⟩ := q2.entries j p hp
      refine ⟨p',?_,r2⟩
      simp only [Array.toList_push]
      rw [List.getElem?_append_left (List.getElem?_eq_some_iff.1 r1).1]; exact r1
     ·rename_i hge
      have hj : j - es.length = 0 := by
       rcases Nat.eq_zero_or_pos (j - es.length) with e | e
       ·exact e
       ·rw [List.getElem?_eq_none (by simp; omega)] at hp; cases hp
      rw [hj] at hp
      simp at hp
      subst hp
      refine ⟨{ key := a.eval k,val := a.eval x,born := clock },?_,h2,h3⟩
      have hl := q2.size
      simp only [Array.toList_push]
      rw [List.getElem?_append_right (by omega),hl,hj]; rfl
    ·simp only [Array.toList_push]
     exact bornRises_snoc _ _ q2.rises fun y hy => q2.below y hy
    ·intro y hy
     simp only [Array.toList_push,List.mem_append,List.mem_singleton] at hy
     rcases hy with hy | rfl
     ·have := q2.below y hy; omega
     ·exact Nat.lt_succ_self _
    ·simp only [e1,Instr.mapUpdate,underlying,Sem.run_bind,run_program,Result.andThen_ok,hu,Sem.run_pure,getObj,Sem.run,q1,run_checkKey hd n1 n2 n3,Instr.findKey,hd,hff,setObj,World.putObj]
   ·cases h
  ·cases h
 ·cases h
end ops
end Go.Ae
