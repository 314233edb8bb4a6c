/- Part 3 of the proof of the law: Ae8, Ae9. No condition. -/
import Derived.Test.YtalflgbdhjjlkaaGreatDoorP02
import Derived.Room.AppendAsks
import Derived.Room.AppendUpon
set_option linter.all false
namespace Go.Ae
open Go
theorem foldl_zipIdx_set (off : Nat) : ∀ (l : List Value) (n : Nat) (cells : Array Value),
  ((l.zipIdx n).foldl (fun (cs : Array Value) (p : Value × Nat) => cs.setIfInBounds (off + p.2) p.1) cells).toList = setL cells.toList (off + n) l
 | [],n,cells => by simp [setL]
 | v :: l,n,cells => by
  rw [List.zipIdx_cons,List.foldl_cons,foldl_zipIdx_set off l (n + 1),setL]
  simp [Nat.add_assoc]
theorem fold_set (off : Nat) (vs cells : Array Value) : (vs.zipIdx.foldl (fun cs (c,j) => cs.setIfInBounds (off + j) c) cells).toList = setL cells.toList off vs.toList := by
 have := foldl_zipIdx_set off vs.toList 0 cells
 rw [Nat.add_zero] at this
 rw [← this,← Array.foldl_toList,Array.toList_zipIdx]
theorem setL_length : ∀ (vs cs : List Value) (off : Nat),(setL cs off vs).length = cs.length
 | [],cs,off => rfl
 | v :: vs,cs,off => by rw [setL,setL_length vs]; simp
theorem VRs.setL {ρ : Nm} : ∀ {vs vs' : List Value} {cs cs' : List Value} (off : Nat),VRs ρ cs cs' → VRs ρ vs vs' → VRs ρ (Ae.setL cs off vs) (Ae.setL cs' off vs')
 | _,_,_,_,off,hc,.nil => hc
 | _,_,_,_,off,hc,.cons hv ht => by
  rw [Ae.setL,Ae.setL]
  exact VRs.setL (off + 1) (hc.set off hv) ht
theorem setL_one : ∀ (vs cs : List Value) (off : Nat),(∀ x ∈ cs,x.oneCell' = true) → (∀ x ∈ vs,x.oneCell' = true) → ∀ x ∈ setL cs off vs,x.oneCell' = true
 | [],cs,off,hc,_ => hc
 | v :: vs,cs,off,hc,hv => by
  rw [setL]
  refine setL_one vs _ _ (fun x hx => ?_) fun x hx => hv x (by simp [hx])
  rcases List.mem_or_eq_of_mem_set hx with h | rfl
  ·exact hc x h
  ·exact hv _ (by simp)
section ops
variable {K : Cx} {ρ : Nm} {H : Heap} {w : World} (hr : Rel K ρ H w) {a : Act} {E : List Value} (he : EnvR ρ E a.tmps) {o : Oper}
include hr he
theorem fill_rel {place : Nat → Option (Nat × Nat)} : ∀ (parts : List (Nat × Operand)) (l : List (Nat × Nat × Operand)) (cs : List Value) (cells : Array Value) (out : List Value),
  partsOf place parts = some l → (∀ p ∈ parts,okOpd K.G0 p.2 = true) → VRs ρ cs cells.toList → (∀ x ∈ cs,x.oneCell' = true) → fillL cs (l.map fun p => (p.1,p.2.1,ev E p.2.2)) = some out →
  ∃ cells',Instr.fill place cells (parts.map fun p => (p.1,a.eval p.2)) = some cells' ∧ VRs ρ out cells'.toList ∧ (∀ x ∈ out,x.oneCell' = true) ∧ out.length = cs.length
 | [],l,cs,cells,out,hp,_,hc,h1,hf => by
  simp [partsOf] at hp
  subst hp
  simp [fillL] at hf
  subst hf
  exact ⟨cells,rfl,hc,h1,rfl⟩
 |(i,x) :: parts,l,cs,cells,out,hp,hok,hc,h1,hf => by
  unfold partsOf at hp
  split at hp
  ·rename_i off size l' hpl hpr
   cases hp
   simp only [List.map_cons] at hf
   unfold fillL at hf
   split at hf
   ·rename_i hcond
    obtain ⟨c1,c2,c3⟩ := hcond
    have hv := ev_rel hr he x (hok (i,x) (by simp))
    have hlen : (a.eval x).cells.toList.length = size := by rw [hv.cells.length]; exact c2
    have hsz : cells.size = cs.length := by have := hc.length; simpa using this
    rw [← setL_splice _ _ _ (by rw [c2]; exact c3)] at hf
    obtain ⟨cells',g1,g2,g3,g4⟩ := fill_rel parts l' _ ((a.eval x).cells.zipIdx.foldl (fun cs (c,j) => cs.setIfInBounds (off + j) c) cells) out hpr (fun p hp => hok p (by simp [hp]))
     (by rw [fold_set]; exact hc.setL off hv.cells) (setL_one _ _ _ h1 (hv.cells_one c1)) hf
    refine ⟨cells',?_,g2,g3,by rw [g4,setL_length]⟩
    simp only [List.map_cons,Instr.fill,hpl]
    rw [if_neg]
    ·exact g1
    ·have hlen' : (a.eval x).cells.size = size := by simpa using hlen
     simp [hlen',hsz]
     omega
   ·cases hf
  ·cases hp
theorem zero_run {t : TypeId} {z : Value} (hz : zeroOf K.P t = some z) : (zeroValue t).run K.P w = .ok z w ∧ flat z = true ∧ storable z = true := by
 unfold zeroOf at hz
 split at hz
 ·rename_i z' hz'
  split at hz
  ·rename_i hf
   cases hz
   cases hi : K.P.info? t with
   | none => simp [hi] at hz'
   | some i => simp [hi] at hz'; simp at hf; exact ⟨by simp [zeroValue,typeInfo,hi,hz'],hf⟩
  ·cases hz
 ·cases hz
theorem mapM_places (l : List Field) (h : l.all (fun f => (szOf K.P f.type).isSome) = true) :
  (l.mapM (fun f => do pure (f.offset,← sizeOf f.type) : Field → Sem (Nat × Nat))).run K.P w = .ok (l.map fun f => (f.offset,(szOf K.P f.type).getD 0)) w := by
 induction l with
 | nil => rfl
 | cons f l ih =>
  simp only [List.all_cons,Bool.and_eq_true] at h
  rw [List.mapM_cons]
  have hsz : (sizeOf f.type).run K.P w = .ok ((szOf K.P f.type).getD 0) w := by
   have h1 := h.1
   unfold szOf at h1 ⊢
   cases hi : K.P.info? f.type with
   | none => simp [hi] at h1
   | some i => simp [sizeOf,typeInfo,hi]
  simp only [Sem.run_bind,hsz,Result.andThen_ok,Sem.run_pure,ih h.2,List.map_cons]
theorem s_build {t : TypeId} {parts : Array (Nat × Operand)} (ho : o.op = .build t parts) (hx : ∀ p ∈ parts.toList,okOpd K.G0 p.2 = true) {z : Value} {l : List (Nat × Nat × Operand)} (hz : zeroOf K.P t = some z)
  (hp : partsOf (placeOf K.P t) parts.toList = some l) (hs : sized K.P t = true) {v : Value} {H' : Heap}
  (h : aop (.build z.cells.toList l) E H = .ok (v,H')) : Ran K ρ H w v H' ((execOp a.eval o).run K.P w) := by
 obtain ⟨hz1,hz2,hz3⟩ := zero_run (w := w) hr he hz
 simp only [aop] at h
 split at h
 ·rename_i cs hcs
  cases h
  have hzr : VRs ρ z.cells.toList z.cells.toList := (VR.flat hz2).cells
  unfold sized at hs
  split at hs
  ·rename_i fields hu
   have hplace : ∀ i,placeOf K.P t i = ((fields.toList.map fun f => (f.offset,(szOf K.P f.type).getD 0)).toArray[i]?) := by
    intro i
    unfold placeOf
    rw [hu]
    simp only [List.getElem?_toArray,List.getElem?_map,Array.getElem?_toList]
    cases hf : fields[i]? with
    | none => rfl
    | some f =>
     have hm : f ∈ fields.toList := by
      have := Array.mem_of_getElem? hf
      simpa using this
     have := List.all_eq_true.1 hs f hm
     cases hsz : szOf K.P f.type with
     | none => simp [hsz] at this
     | some s => simp [hsz]
   have hpl : placeOf K.P t = fun i => ((fields.toList.map fun f => (f.offset,(szOf K.P f.type).getD 0)).toArray[i]?) := funext hplace
   rw [hpl] at hp
   obtain ⟨cells',g1,g2,g3,_⟩ := fill_rel hr he parts.toList l _ z.cells cs hp hx hzr ((VR.flat (ρ := ρ) hz2).cells_one hz3) hcs
   refine ran_val hr (v' := .agg cells') ?_ ?_
   ·have hm : (fields.mapM (fun f => do pure (f.offset,← sizeOf f.type) : Field → Sem (Nat × Nat))).run K.P w = .ok (fields.toList.map fun f => (f.offset,(szOf K.P f.type).getD 0)).toArray w := by
     have := mapM_places (w := w) hr he fields.toList hs
     rw [Array.mapM_eq_mapM_toList,Sem.run_map,this]
     rfl
    have hparts : (parts.map fun p => (p.1,a.eval p.2)).toList = parts.toList.map fun p => (p.1,a.eval p.2) := by simp
    simp only [execOp,ho,Instr.build,Sem.run_bind,hz1,Result.andThen_ok,underlying,run_program,hu,Sem.run_pure]
    rw [hm]
    simp only [Result.andThen_ok]
    rw [hparts,g1]
    rfl
   ·have := VRs.agg g2 g3
    simpa using this
  ·rename_i n elem hu
   cases hsz : szOf K.P elem with
   | none => simp [hsz] at hs
   | some s =>
    have hpl : placeOf K.P t = fun i => some (i * s,s) := by
     funext i; unfold placeOf; rw [hu]; simp [hsz]
    rw [hpl] at hp
    obtain ⟨cells',g1,g2,g3,_⟩ := fill_rel hr he parts.toList l _ z.cells cs hp hx hzr ((VR.flat (ρ := ρ) hz2).cells_one hz3) hcs
    refine ran_val hr (v' := .agg cells') ?_ ?_
    ·have hparts : (parts.map fun p => (p.1,a.eval p.2)).toList = parts.toList.map fun p => (p.1,a.eval p.2) := by simp
     have hsr : (sizeOf elem).run K.P w = .ok s w := by
      unfold szOf at hsz
      cases hi : K.P.info? elem with
      | none => simp [hi] at hsz
      | some i => simp [hi] at hsz; simp [sizeOf,typeInfo,hi,hsz]
     simp only [execOp,ho,Instr.build,Sem.run_bind,hz1,Result.andThen_ok,underlying,run_program,hu,Sem.run_pure,hsr]
     rw [hparts,g1]
     rfl
    ·have := VRs.agg g2 g3
     simpa using this
  ·cases hs
 ·cases h
theorem range_zero {z : Array Value} {s : Nat} (hs : 1 ≤ s) (hz : z.toList.length = s) (n : Nat) :
  (((Array.range n).map (z[· % z.size]!)).toList) = (List.range n).map fun i => z.toList.getD (i % s) undef := by
 simp only [Array.toList_map,Array.toList_range]
 apply List.map_congr_left
 intro i _
 have hsz : z.size = s := by simpa using hz
 rw [hsz]
 have hlt : i % s < z.size := by rw [hsz]; exact Nat.mod_lt _ hs
 rw [List.getD_eq_getElem?_getD]
 simp [hlt]
theorem zero_row {z : Value} (hf : flat z = true) (hst : storable z = true) {s : Nat} (hs : 1 ≤ s) (hz : z.cells.toList.length = s) (n : Nat) :
  VRs ρ ((List.range n).map fun i => z.cells.toList.getD (i % s) undef) ((List.range n).map fun i => z.cells.toList.getD (i % s) undef) ∧
   ∀ x ∈ ((List.range n).map fun i => z.cells.toList.getD (i % s) undef),x.oneCell' = true := by
 have hz' : VRs ρ z.cells.toList z.cells.toList := (VR.flat hf).cells
 have ho := (VR.flat (ρ := ρ) hf).cells_one hst
 have hel : ∀ i,VR ρ (z.cells.toList.getD (i % s) undef) (z.cells.toList.getD (i % s) undef) ∧ (z.cells.toList.getD (i % s) undef).oneCell' = true := by
  intro i
  have hlt : i % s < z.cells.toList.length := by rw [hz]; exact Nat.mod_lt _ hs
  rw [List.getD_eq_getElem?_getD,List.getElem?_eq_getElem hlt,Option.getD_some]
  obtain ⟨y,h1,h2⟩ := hz'.get (List.getElem?_eq_getElem hlt)
  rw [List.getElem?_eq_getElem hlt] at h1
  cases h1
  exact ⟨h2,ho _ (List.getElem_mem hlt)⟩
 constructor
 ·generalize List.range n = l
  induction l with
  | nil => exact .nil
  | cons i l ih => exact .cons (hel i).1 ih
 ·intro x hx
  obtain ⟨i,_,rfl⟩ := List.mem_map.1 hx
  exact (hel i).2
theorem s_mkslice {t e : TypeId} {len s : Nat} {parts : Array (Nat × Operand)} (ho : o.op = .buildSlice t len parts) (hx : ∀ p ∈ parts.toList,okOpd K.G0 p.2 = true) {z : Value} {l : List (Nat × Nat × Operand)}
  (hu : K.P.underlying t = some (.slice e)) (hsz : szOf K.P e = some s) (hz : zeroOf K.P e = some z) (hp : partsOf (fun i => some (i * s,s)) parts.toList = some l) (hb : len * s ≤ 65536) (hzl : z.cells.toList.length = s) (hs : 1 ≤ s)
  {cs : List Value} (hcs : fillL ((List.range (len * s)).map fun i => z.cells.toList.getD (i % s) undef) (l.map fun p => (p.1,p.2.1,ev E p.2.2)) = some cs)
  {N : Nat} {H' : Heap} (ha : Adds H N (.row cs 0 none) H') (hfr : ρ N = .fresh) (hg : K.G0 ≤ N) :
  ∃ v' w' ρ',RanN K ρ H w N (sliceOf N 0 s len len) H' ((execOp a.eval o).run K.P w) v' w' ρ' := by
 obtain ⟨hz1,hz2,hz3⟩ := zero_run (w := w) hr he hz
 obtain ⟨k1,k2⟩ := zero_row (ρ := ρ) hr he hz2 hz3 hs hzl (len * s)
 have hrz := range_zero hr he (z := z.cells) hs hzl (len * s)
 obtain ⟨cells',g1,g2,g3,g4⟩ := fill_rel hr he parts.toList l _ ((Array.range (len * s)).map (z.cells[· % z.cells.size]!)) cs hp hx (by rw [hrz]; exact k1) k2 hcs
 have hcl : cells'.size = len * s := by
  have := g2.length
  rw [g4] at this
  simpa using this
 obtain ⟨ρ',R,S,hpr,hlive⟩ := hr.newRowAt (e := e) (fun t h => by cases h) ha hfr hg (l := cs) (C := cells') (by rw [List.take_of_length_le (by rw [g2.length]; exact Nat.le_refl _)]; exact g2) g3
 refine ⟨.slice (some ⟨w.heap.size,0,none⟩) len len,_,ρ',?_,.slice ⟨hpr.1,fun c base size hl => ?_⟩ (Nat.le_refl _) (Nat.le_refl _) ?_,R,by rw [hlive]; exact Ext.setN hfr,fun b hb => by rw [hlive,setN_ne _ _ hb],S⟩
 ·have hsr : (sizeOf e).run K.P w = .ok s w := by
   unfold szOf at hsz
   cases hi : K.P.info? e with
   | none => simp [hi] at hsz
   | some i => simp [hi] at hsz; simp [sizeOf,typeInfo,hi,hsz]
  have hparts : (parts.map fun p => (p.1,a.eval p.2)).toList = parts.toList.map fun p => (p.1,a.eval p.2) := by simp
  have hnot : ¬ (len * s > 2 ^ 24) := by omega
  simp only [execOp,ho,Instr.buildSlice,Sem.run_bind,underlying,run_program,Result.andThen_ok,hu,Sem.run_pure,hsr,if_neg hnot]
  by_cases h0 : len * s = 0
  ·have e0 : ∀ (f : Nat → Value),(Array.range 0).map f = #[] := by intro f; simp [Array.range_zero']
   rw [h0,e0] at g1
   simp only [h0,if_true,Sem.run_bind,Sem.run_pure,Result.andThen_ok,e0]
   rw [hparts,g1]
   rfl
  ·simp only [h0,if_false,Sem.run_bind,hz1,Sem.run_pure,Result.andThen_ok]
   rw [hparts,g1]
   rfl
 ·rw [hlive,setN_same] at hl
  cases hl
  refine ⟨by omega,.inl rfl⟩
 ·unfold maxRow
  have : len ≤ len * s := Nat.le_mul_of_pos_right _ hs
  omega
theorem s_mkrow {t e : TypeId} {x y : Operand} (ho : o.op = .makeSlice t x y) (hx : okOpd K.G0 x = true) (hy : okOpd K.G0 y = true) {z : Value} {i : TypeInfo} (hu : K.P.underlying t = some (.slice e)) (hi : K.P.info? e = some i)
  (hz : zeroOf K.P e = some z) (hb : i.bytes ≤ 4096) (hzl : z.cells.toList.length = i.size) (hs : 1 ≤ i.size) {n m : Int} (hx' : ev E x = .int .i64 n) (hy' : ev E y = .int .i64 m) (hc : 0 ≤ n ∧ n ≤ m ∧ m * 4096 ≤ 1099511627776)
  {N : Nat} {H' : Heap} (ha : Adds H N (.row ((List.range (m.toNat * i.size)).map fun j => z.cells.toList.getD (j % i.size) undef) 0 none) H') (hfr : ρ N = .fresh) (hg : K.G0 ≤ N) :
  ∃ v' w' ρ',RanN K ρ H w N (sliceOf N 0 i.size n.toNat m.toNat) H' ((execOp a.eval o).run K.P w) v' w' ρ' := by
 obtain ⟨hz1,hz2,hz3⟩ := zero_run (w := w) hr he hz
 have hv1 := ev_rel hr he x hx
 have hv2 := ev_rel hr he y hy
 obtain ⟨c1,c2,c3⟩ := hc
 rw [hx'] at hv1
 rw [hy'] at hv2
 obtain ⟨n,rfl⟩ := Int.eq_ofNat_of_zero_le c1
 obtain ⟨m,rfl⟩ := Int.eq_ofNat_of_zero_le (show 0 ≤ m by omega)
 simp only [Int.toNat_natCast] at ha ⊢
 have hm : m * 4096 ≤ 1099511627776 := by omega
 obtain ⟨k1,k2⟩ := zero_row (ρ := ρ) hr he hz2 hz3 hs hzl (m * i.size)
 have hrz := range_zero hr he (z := z.cells) hs hzl (m * i.size)
 obtain ⟨ρ',R,S,hpr,hlive⟩ := hr.newRowAt (e := e) (fun t h => by cases h) ha hfr hg (l := (List.range (m * i.size)).map fun j => z.cells.toList.getD (j % i.size) undef) (C := (Array.range (m * i.size)).map (z.cells[· % z.cells.size]!))
  (by rw [hrz,List.take_of_length_le (by simp)]; exact k1) k2
 refine ⟨.slice (some ⟨w.heap.size,0,none⟩) n m,_,ρ',?_,.slice ⟨hpr.1,fun c base size hl => ?_⟩ (by omega) (Nat.le_refl _) (by unfold maxRow; omega),R,by rw [hlive]; exact Ext.setN hfr,fun b hb => by rw [hlive,setN_ne _ _ hb],S⟩
 ·have hbm : i.bytes * m ≤ 1099511627776 := Nat.le_trans (Nat.mul_le_mul_right m hb) (by omega)
  have w1 : IntKind.i64.wrap (n : Int) = n := by
   unfold IntKind.wrap; simp [IntKind.bits,IntKind.signed]; omega
  have w2 : IntKind.i64.wrap (m : Int) = m := by
   unfold IntKind.wrap; simp [IntKind.bits,IntKind.signed]; omega
  have t2 : ¬ ((m : Int) < 0 ∨ (281474976710656 : Int) < (i.bytes : Int) * (m : Int)) := by
   have : (i.bytes : Int) * (m : Int) = ((i.bytes * m : Nat) : Int) := by simp
   rw [this]; omega
  simp only [execOp,ho,Instr.makeSlice,Sem.run_bind,underlying,run_program,Result.andThen_ok,hu,Sem.run_pure,hv1.int_inv,hv2.int_inv,asInt,asIntOf,typeInfo,hi,w1,w2]
  have t3 : ¬ ((((decide ((m : Int) < 0) || decide ((i.bytes : Int) * (m : Int) > 2 ^ 48)) || decide ((n : Int) < 0)) || decide ((n : Int) > (m : Int))) = true) := by
   simp only [Bool.or_eq_true,decide_eq_true_eq,not_or]
   refine ⟨⟨⟨by omega,?_⟩,by omega⟩,by omega⟩
   intro hh
   exact t2 (.inr (by simpa using hh))
  rw [if_neg (by simpa using t3)]
  simp only [run_askRoom,Result.andThen_ok,sizeOf,typeInfo,Sem.run_bind,run_program,hi,Sem.run_pure,Int.toNat_natCast]
  by_cases h0 : m * i.size = 0
  ·have e0 : ∀ (f : Nat → Value),(Array.range 0).map f = #[] := by intro f; simp [Array.range_zero']
   simp only [h0,if_true,Sem.run_bind,Sem.run_pure,Result.andThen_ok,e0]
   rfl
  ·simp only [h0,if_false,Sem.run_bind,hz1,Sem.run_pure,Result.andThen_ok]
   rfl
 ·rw [hlive,setN_same] at hl
  cases hl
  refine ⟨by simp,.inl rfl⟩
end ops
end Go.Ae
namespace Go.Ae
open Go
theorem growBy_le (newLen : Nat) : ∀ (r c B : Nat),newLen + newLen / 4 + 192 ≤ B → c ≤ B → Builtin.growBy newLen r c ≤ B
 | 0,c,B,_,hc => hc
 | r + 1,c,B,hB,hc => by
  unfold Builtin.growBy
  split
  ·exact hc
  ·exact growBy_le newLen r _ B hB (by omega)
theorem nextcap_le {need old : Nat} (h : old < need) : Builtin.nextslicecap need old ≤ need + need / 4 + 510 := by
 unfold Builtin.nextslicecap
 split
 ·omega
 ·split
  ·omega
  ·exact growBy_le need 4 old _ (by omega) (by omega)
theorem run_storeRaw {P : Program} {c : Nat} {e : TypeId} {fz : Nat × Nat} : ∀ (vs : List Value) (C : Array Value) (w : World) (o i : Nat),
  (∀ x ∈ vs,x.oneCell' = true) → w.heap[c]? = some (.cells C e fz) → o + i + vs.length ≤ C.size → (∀ j,o + i ≤ j → ¬ (fz.1 ≤ j ∧ j < fz.2)) →
  ∃ (w' : World) (C' : Array Value),(storeCells ⟨c,o,none⟩ vs i).run P w = .ok () w' ∧ w'.heap[c]? = some (.cells C' e fz) ∧ C'.toList = setL C.toList (o + i) vs ∧
   w'.heap.size = w.heap.size ∧ (∀ k,k ≠ c → w'.heap[k]? = w.heap[k]?) ∧ w'.os = w.os ∧ w'.tape = w.tape ∧ w'.output = w.output
 | [],C,w,o,i,_,hw,_,_ => ⟨w,C,by simp [storeCells],hw,by simp [setL],rfl,fun _ _ => rfl,rfl,rfl,rfl⟩
 | v :: vs,C,w,o,i,ho,hw,hlen,hf => by
  simp at hlen
  have hov := ho v (by simp)
  have hlt : o + i < C.size := by omega
  have hcell : w.cell? ⟨c,o + i,none⟩ = some C[o + i] := by rw [cell_at hw]; simp [hlt]
  have hfz : w.frozen? ⟨c,o + i,none⟩ = false := by
   rw [frozen_at hw]
   have := hf (o + i) (Nat.le_refl _)
   simp only [Bool.and_eq_false_iff,decide_eq_false_iff_not]
   omega
  have hw1 : (w.setCell ⟨c,o + i,none⟩ v).heap[c]? = some (.cells (C.setIfInBounds (o + i) v) e fz) := by
   simp [World.setCell,Array.getElem?_modify,hw]
  obtain ⟨w',C',hr,hw',hc',hs,hk,g1,g2,g3⟩ := run_storeRaw (P := P) vs _ (w.setCell ⟨c,o + i,none⟩ v) o (i + 1) (fun x hx => ho x (by simp [hx])) hw1 (by simp; omega) (fun j hj => hf j (by omega))
  refine ⟨w',C',?_,hw',?_,?_,?_,g1,g2,g3⟩
  ·rw [storeCells]
   simp only [Sem.run_bind,Addr_add]
   rw [run_store _ _ _ _ _ hov,hcell]
   simp only [hfz,Bool.false_eq_true,if_false,Result.andThen_ok]
   exact hr
  ·rw [hc',setL]; simp [Nat.add_assoc]
  ·rw [hs]; simp
  ·intro k hk'
   rw [hk k hk']
   simp only [World.setCell,Array.getElem?_modify]
   rw [if_neg (by omega)]
section
variable {P : Program} {w : World}
theorem run_append_in {t tx ty e : TypeId} {i : TypeInfo} {d : TypeDesc} (ht : P.underlying t = some (.slice e)) (hi : P.info? e = some i) (htx : P.underlying tx = some d) (hd : ∀ k,d ≠ .int k)
  {b : Addr} {n cap m : Nat} {x : Value} {new : Array Value} {w' : World} (hlen : Builtin.lenOf x = Sem.pure m) (hf : n + m ≤ cap) (hnew : (Builtin.firstCells i.size m x).run P w = .ok new w)
  (hst : (storeCells (b.add (n * i.size)) new.toList).run P w = .ok () w') :
  (Builtin.append_ #[t,tx] ty #[.slice (some b) n cap,x]).run P w = .ok (.slice (some b) (n + m) cap) w' := by
 have hz : (match d with | .int _ => true | _ => false) = false := by cases d <;> first | rfl | exact absurd rfl (hd _)
 simp [Builtin.append_,underlying,sizeOf,typeInfo,ht,hi,htx,hz,hlen,hf,hnew,hst]
theorem run_append_grow {t tx ty e : TypeId} {i : TypeInfo} {z : Value} {d : TypeDesc} (ht : P.underlying t = some (.slice e)) (hi : P.info? e = some i) (hz0 : i.zero = some z) (hb1 : 1 ≤ i.bytes) (htx : P.underlying tx = some d) (hd : ∀ k,d ≠ .int k)
  {b : Option Addr} {n cap m : Nat} {x : Value} {old new : Array Value} (hlen : Builtin.lenOf x = Sem.pure m) (hg : cap < n + m) (hfit : Builtin.nextslicecap (n + m) cap * i.bytes ≤ 281474976710656)
  (hold : (Builtin.firstCells i.size n (.slice b n cap)).run P w.drew = .ok old w.drew) (hnew : (Builtin.firstCells i.size m x).run P w.drew = .ok new w.drew) :
  (Builtin.append_ #[t,tx] ty #[.slice b n cap,x]).run P w = .ok (.slice (some ⟨w.heap.size,0,none⟩) (n + m) (grownCap w (n + m) cap e))
   (w.drew.alloc (.cells (old ++ new ++ Builtin.zeroCells z.cells (grownCap w (n + m) cap e - (n + m))) e)) := by
 have hz : (match d with | .int _ => true | _ => false) = false := by cases d <;> first | rfl | exact absurd rfl (hd _)
 have hnf : ¬ (n + m ≤ cap) := by omega
 have hb0 : ¬ (i.bytes = 0) := by omega
 have h48' : ¬ (281474976710656 < Builtin.nextslicecap (n + m) cap * i.bytes) := by omega
 have hq : (Question.appendCap (n + m) cap e).forced = false := rfl
 have hdr : ({ w with drawn := w.drawn + 1 } : World) = w.drew := rfl
 simp [Builtin.append_,underlying,sizeOf,typeInfo,ht,hi,htx,hz,hlen,hnf,hb0,h48',run_choose,hq,hdr,hold,hnew,zeroValue,hz0,newRow,grownCap]
end
theorem grown_ge (w : World) (need old : Nat) (e : TypeId) : need ≤ grownCap w need old e := by
 exact Nat.le_add_right _ _
theorem zeroCells_size (z : Array Value) (n : Nat) : (Builtin.zeroCells z n).size = n * z.size := by simp [Builtin.zeroCells]
section ops
variable {K : Cx} {ρ : Nm} {H : Heap} {w : World} (hr : Rel K ρ H w) {a : Act} {E : List Value} {o : Oper}
include hr
structure AppSrc (K : Cx) (ρ : Nm) (w : World) (sz : Nat) (base : Option Addr) (x : Value) (xs : List Value) (m : Nat) : Prop where
 len : Builtin.lenOf x = Sem.pure m
 cells : ∃ new : Array Value,VRs ρ xs new.toList ∧ (Builtin.firstCells sz m x).run K.P w = .ok new w ∧ (Builtin.firstCells sz m x).run K.P w.drew = .ok new w.drew
 one : ∀ y ∈ xs,y.oneCell' = true
 count : xs.length = m * sz
 share : ∀ n,(∀ b,base = some b → Room.holdsV w b (n * sz) = true ∧ w.frozen? (b.add (n / 2 * sz)) = false) → (Builtin.mayShare sz n m base x).runT K.P w #[] = (.ok false w,#[])
theorem app_core {t tx e : TypeId} {i : TypeInfo} {z : Value} {d : TypeDesc} {s x : Operand} (ho : o.op = .call { callee := .builtin .append,args := #[s,x],argTypes := #[t,tx] })
  (ht : K.P.underlying t = some (.slice e)) (hi : K.P.info? e = some i) (hz0 : i.zero = some z) (hzs : z.cells.size = i.size) (hb1 : 1 ≤ i.bytes) (hb2 : i.bytes ≤ 4096) (hs1 : 1 ≤ i.size)
  (htx : K.P.underlying tx = some d) (hd : ∀ k,d ≠ .int k)
  {base : Option Addr} {n cap m : Nat} {xs : List Value} (hm : 1 ≤ m) (hv : VR ρ (.slice base n cap) (a.eval s)) (hsrc : ∀ b n' c',a.eval s = .slice b n' c' → AppSrc K ρ w i.size b (a.eval x) xs m) :
  (∀ v H',appendA e H base n i.size xs m = .ok (v,H') → Ran K ρ H w v H' ((execOp a.eval o).run K.P w) ∨ False) ∧ (appendA e H base n i.size xs m = .big → False) := by
 have hexec : (execOp a.eval o).run K.P w = ((Builtin.append_ #[t,tx] o.type #[a.eval s,a.eval x]).run K.P w).andThen fun v w' => .ok (.value v) w' := by
  simp [execOp,ho,resolve,invoke,builtin]
 have fits : ∀ n' c',c' < n' + m → n' + m ≤ appMax → Builtin.nextslicecap (n' + m) c' * i.bytes ≤ 281474976710656 := by
  intro n' c' h1 h2
  have := nextcap_le (need := n' + m) (old := c') h1
  unfold appMax at h2
  have h3 : Builtin.nextslicecap (n' + m) c' ≤ 1342178000 := by omega
  calc Builtin.nextslicecap (n' + m) c' * i.bytes ≤ 1342178000 * 4096 := Nat.mul_le_mul h3 hb2
   _ ≤ 281474976710656 := by omega
 have capOk : ∀ n' c',n' + m ≤ appMax → grownCap w (n' + m) c' e ≤ maxRow := by
  intro n' c' h
  have := grownCap_le_maxLen w (n' + m) c' e (by unfold appMax at h; unfold maxLen; omega)
  unfold maxLen at this
  unfold maxRow; omega
 rcases hv.slice_inv with ⟨rfl,rfl,rfl,e1⟩ | ⟨q,sz',b,cap',rfl,hsp,e1,hps,c1,c2,c3⟩
 ·
  have hS := hsrc _ _ _ e1
  obtain ⟨new,n1,n2,n3⟩ := hS.cells
  have hh : ∀ q,(none : Option Addr) = some q → Room.holdsV w q (0 * i.size) = true ∧ w.frozen? (q.add (0 / 2 * i.size)) = false := fun q hq => by cases hq
  by_cases hsm : 0 + m ≤ appMax
  ·have hfit := fits 0 0 (by omega) hsm
   have hrun := run_append_grow (P := K.P) (w := w) (ty := o.type) (b := none) (n := 0) (cap := 0) (old := #[]) ht hi hz0 hb1 htx hd hS.len (by omega) hfit rfl n3
   rw [← e1] at hrun
   have z0 : 0 + m = m := Nat.zero_add m
   ·have hcap := capOk 0 0 hsm
    have hge := grown_ge w (0 + m) 0 e
    rw [z0] at hrun hcap hge
    refine ⟨fun v H' h => .inl ?_,fun h => ?_⟩
    ·simp only [appendA,if_true] at h
     split at h
     ·cases h
     ·cases h
      obtain ⟨ρ',R,S,hpr,hlive⟩ := hr.drew.newRow (e := e) (l := xs) (C := #[] ++ new ++ Builtin.zeroCells z.cells (grownCap w m 0 e - m)) 0 (ty := some e) (fun t h => by cases h; rfl)
       (by
        have hl : new.toList.length = xs.length := n1.length
        rw [Array.toList_append,Array.toList_append]
        simp only [List.nil_append]
        rw [List.take_append_of_le_length (by omega),List.take_of_length_le (by omega)]; exact n1) hS.one
      refine ⟨_,_,ρ',.inl (by rw [hexec,hrun]; rfl),.slice ⟨hpr.1,fun c base size hl => ?_⟩ (Nat.le_refl _) (by omega) hcap,R,(Step.same rfl rfl rfl rfl : Step ρ H w ρ H w.drew).trans S⟩
      rw [hlive] at hl
      cases hl
      refine ⟨?_,.inl rfl⟩
      simp only [Array.size_append,zeroCells_size,hzs]
      have hl : new.size = m * i.size := by have := n1.length; rw [hS.count] at this; simpa using this
      have e2 : (grownCap w m 0 e - m) * i.size + m * i.size = grownCap w m 0 e * i.size := by rw [← Nat.add_mul]; congr 1; omega
      rw [hl]; simp only [List.size_toArray,List.length_nil]; omega
    ·simp only [appendA,if_true] at h
     split at h <;> cases h
  ·refine ⟨fun v H' h => ?_,fun h => ?_⟩ <;> (simp only [appendA,if_true] at h; rw [if_pos (by omega)] at h; cases h)
 ·
  have hS := hsrc _ _ _ e1
  obtain ⟨new,n1,n2,n3⟩ := hS.cells
  have hnl : new.toList.length = m * i.size := by rw [n1.length]; exact hS.count
  unfold appendA
  simp only
  split
  rotate_left
  ·exact ⟨fun v H' h => (by cases h),fun h => (by cases h)⟩
  rename_i cs fz ty hcs
  split
  rotate_left
  ·exact ⟨fun v H' h => (by cases h),fun h => (by cases h)⟩
  rename_i hcond
  obtain ⟨k1,k2,k3,k4⟩ := hcond
  rw [hsp] at k2
  cases k2
  obtain ⟨c,bs,size,hlive,hobj⟩ := hr.objs _ _ hcs
  obtain ⟨p1,p2⟩ := hps.2 c bs size hlive
  generalize hX : w.heap[c]? = X at hobj
  cases hobj with
  | row hc0 hcr hf hsz hbs hty =>
   rename_i C e' fzc
   have hold : ∃ old : Array Value,VRs ρ ((cs.drop q.off).take (n * i.size)) old.toList ∧ (∀ w2 : World,w2.heap = w.heap → (Builtin.firstCells i.size n (.slice (some b) n cap')).run K.P w2 = .ok old w2) ∧
     (∀ (j : Nat) (v : Value),old.toList[j]? = some v → C[bs + q.off + j]? = some v) ∧ old.toList.length = n * i.size := by
    obtain ⟨l,l1,l2,l3⟩ := hcr.list q.off (n * i.size) k1
    refine ⟨l.toArray,by simpa using l2,fun w2 hw2 => ?_,by simpa using l3,by simpa using l1⟩
    simp only [Builtin.firstCells]
    rcases p2 with p2 | ⟨p2,o',ho',p3⟩
    ·subst p2
     refine run_loadCells l l1 fun j v hj => ?_
     have hX2 : w2.heap[c]? = some (.cells C e' fzc) := by rw [hw2]; exact hX
     rw [cell_at hX2]; exact l3 j v hj
    ·have hn : n = 0 := by omega
     subst hn
     have hl0 : l = [] := by simpa using l1
     subst hl0
     simp [loadCells,loadCellsFrom]
   obtain ⟨old,o1,o2,o3,o4⟩ := hold
   by_cases hin : n + m ≤ cap'
   ·
    have hb : b = ⟨c,bs + q.off,none⟩ := by
     rcases p2 with p2 | ⟨p2,_⟩
     ·exact p2
     ·omega
    subst hb
    have hsz2 : (n + m) * i.size ≤ cap' * i.size := Nat.mul_le_mul_right _ hin
    rw [Nat.add_mul] at hsz2
    have hone' : ∀ y ∈ new.toList,y.oneCell' = true := by
     intro y hy
     obtain ⟨j,hj,rfl⟩ := List.getElem_of_mem hy
     have hj' : j < xs.length := by rw [n1.length] at hj; exact hj
     obtain ⟨y',g1,g2⟩ := n1.get (List.getElem?_eq_getElem hj')
     rw [List.getElem?_eq_getElem hj] at g1
     cases g1
     rw [g2.oneCell]; exact hS.one _ (List.getElem_mem hj')
    obtain ⟨w',C',s1,s2,s3,s4,s5,s6,s7,s8⟩ := run_storeRaw (P := K.P) new.toList C w (bs + q.off + n * i.size) 0 hone' hX (by rw [hnl]; omega)
     (fun j hj => by
      have := hf (j - bs) (by omega)
      rw [show bs + (j - bs) = j from by omega] at this
      exact this)
    rw [Nat.add_zero,setL_splice _ _ _ (by rw [hnl,Array.length_toList]; omega)] at s3
    have hrun : (Builtin.append_ #[t,tx] o.type #[a.eval s,a.eval x]).run K.P w = .ok (.slice (some ⟨c,bs + q.off,none⟩) (n + m) cap') w' := by
     rw [e1]
     exact run_append_in ht hi htx hd hS.len hin n2 (by rw [Addr_add]; exact s1)
    refine ⟨fun v H' h => .inl ?_,fun h => ?_⟩
    ·split at h
     ·cases h
     ·cases h
      obtain ⟨R1,S1⟩ := hr.kill hcs
      have hfree : ¬ Img (setN ρ q.block .dead) (H.set q.block none) c := by
       rintro ⟨b2,o2,base2,size2,g1,g2,g3⟩
       rcases Heap.get_set_cases hcs g1 with ⟨_,e⟩ | ⟨hne,g⟩
       ·cases e
       ·rw [setN_ne _ _ hne] at g3
        exact hne (hr.inj _ _ _ _ _ _ _ _ _ g hcs g2 rfl g3 hlive)
      have hnext : (H.set q.block none).next = H.next := Heap.next_set _ _ _
      have hfr : setN ρ q.block .dead H.next = .fresh := by rw [← hnext]; exact R1.fresh _ (Nat.le_refl _)
      have hext2 : Ext (setN ρ q.block .dead) (setN (setN ρ q.block .dead) H.next (.live c (bs + q.off) size)) := Ext.setN hfr
      have hcells : cellsR (setN (setN ρ q.block .dead) H.next (.live c (bs + q.off) size)) ((cs.drop q.off).take (n * i.size) ++ xs) C' (bs + q.off) := by
       have hext3 := S1.ext.trans hext2
       intro j v hv
       have hC'e : ∀ k,C'[k]? = (splice C.toList (bs + q.off + n * i.size) new.toList)[k]? := fun k => by rw [← s3,Array.getElem?_toList]
       rw [List.getElem?_append] at hv
       split at hv
       ·rename_i hj
        have hone := hcr.one q.off (n * i.size) v (List.mem_of_getElem? hv)
        obtain ⟨v',g1,g2⟩ := o1.get hv
        refine ⟨hone,v',?_,g2.mono hext3⟩
        rw [hC'e]
        unfold splice
        have hjn : j < n * i.size := by
         have := (List.getElem?_eq_some_iff.1 g1).1
         omega
        have hCj := o3 j v' g1
        have hlen : (C.toList.take (bs + q.off + n * i.size)).length = bs + q.off + n * i.size := by
         rw [List.length_take,Array.length_toList]; omega
        rw [List.append_assoc,List.getElem?_append_left (by omega),List.getElem?_take,if_pos (by omega)]
        simpa using hCj
       ·rename_i hj
        have hlen0 : ((cs.drop q.off).take (n * i.size)).length = n * i.size := by
         rw [List.length_take,List.length_drop]; omega
        rw [hlen0] at hj hv
        obtain ⟨v',g1,g2⟩ := n1.get hv
        refine ⟨hS.one v (List.mem_of_getElem? hv),v',?_,g2.mono hext3⟩
        rw [hC'e]
        unfold splice
        have hlen : (C.toList.take (bs + q.off + n * i.size)).length = bs + q.off + n * i.size := by
         rw [List.length_take,Array.length_toList]; omega
        have hjn : j - n * i.size < new.toList.length := (List.getElem?_eq_some_iff.1 g1).1
        rw [List.append_assoc,List.getElem?_append_right (by omega),hlen,List.getElem?_append_left (by omega)]
        rw [show bs + q.off + j - (bs + q.off + n * i.size) = j - n * i.size from by omega]
        exact g1
      have hC's : C'.size = size := by
       have := congrArg List.length s3
       unfold splice at this
       simp only [Array.length_toList,List.length_append,List.length_take,List.length_drop] at this
       simp at hnl
       omega
      have hl2 : ((cs.drop q.off).take (n * i.size) ++ xs).length = n * i.size + m * i.size := by
       rw [List.length_append,List.length_take,List.length_drop,hS.count]; omega
      have R2 := R1.name (w' := w') (c := c) (base := bs + q.off) (size := size) (o' := .row ((cs.drop q.off).take (n * i.size) ++ xs) (fz - q.off) (if ty = some e ∧ q.off = 0 then ty else none)) R1.g0 hc0 hfree s4 s5
       (by
        rw [s2,hnext]
        refine .row hc0 hcells (fun j hj => ?_) hC's (by rw [hl2]; omega) (fun t h => by
         split at h
         ·rename_i hc2
          obtain ⟨w1,w2,w3⟩ := hty t h
          exact ⟨w1,by omega,w3⟩
         ·cases h)
        have := hf (q.off + j) (by omega)
        rw [← Nat.add_assoc] at this
        exact this)
      rw [hnext] at R2
      refine ⟨_,w',_,.inl (by rw [hexec,hrun]; rfl),.slice ⟨by simp,fun c2 base2 size2 hl => ?_⟩ (Nat.le_refl _) hin c3,R2,?_⟩
      ·rw [setN_same] at hl
       cases hl
       exact ⟨by omega,.inl rfl⟩
      ·refine ⟨S1.ext.trans hext2,by simp,fun k hk hn => ?_,by rw [s4]; exact Nat.le_refl _,fun k hk hi => ?_,s6,s7,s8⟩
       ·obtain ⟨e1',n1'⟩ := S1.hid k hk hn
        have hne : k ≠ H.next := by omega
        rw [setN_ne _ _ hne,Heap.get_push_ne _ _ (by rw [hnext]; exact hne)]
        exact ⟨e1',n1'⟩
       have hkc : k ≠ c := fun e => hi (e ▸ ⟨q.block,_,bs,size,hcs,rfl,hlive⟩)
       refine ⟨s5 k hkc,?_⟩
       rintro ⟨b2,o2,base2,size2,g1,g2,g3⟩
       rcases Heap.get_push_cases g1 with ⟨e2,_⟩ | ⟨hne,g⟩
       ·rw [e2,hnext,setN_same] at g3
        cases g3; exact hkc rfl
       ·rw [hnext] at hne
        rw [setN_ne _ _ hne] at g3
        exact (S1.keeps k hk hi).2 ⟨b2,o2,base2,size2,g,g2,g3⟩
    ·split at h <;> cases h
   ·
    have hh : (fz = 0) → ∀ q',some b = some q' → Room.holdsV w q' (n * i.size) = true ∧ w.frozen? (q'.add (n / 2 * i.size)) = false := by
     intro hfz0 q' hq'
     cases hq'
     have hb' : ∃ o',b = ⟨c,bs + o',none⟩ ∧ bs + o' + n * i.size ≤ size := by
      have hc1 : n * i.size ≤ cap' * i.size := Nat.mul_le_mul_right _ (Nat.le_trans c1 c2)
      rcases p2 with p2 | ⟨p2,o',ho',p3⟩
      ·exact ⟨q.off,p2,by omega⟩
      ·refine ⟨o',p3,?_⟩
       have hn : n = 0 := by omega
       subst hn; omega
     obtain ⟨o',rfl,hle⟩ := hb'
     refine ⟨by simp [Room.holdsV,World.shape?,hX,hsz,hle],?_⟩
     rw [Addr_add,frozen_at hX]
     have := hf (o' + n / 2 * i.size) (by omega)
     simp only [Bool.and_eq_false_iff,decide_eq_false_iff_not]
     omega
    have hfit' : ¬ (Builtin.nextslicecap (n + m) cap' * i.bytes ≤ 281474976710656) → fz = 0 := by
     intro hnf
     rcases k4 with k4 | k4
     ·exact k4
     ·exfalso
      apply hnf
      have := nextcap_le (need := n + m) (old := cap') (by omega)
      have h1 : Builtin.nextslicecap (n + m) cap' ≤ 1342178000 := by omega
      calc Builtin.nextslicecap (n + m) cap' * i.bytes ≤ 1342178000 * 4096 := Nat.mul_le_mul h1 hb2
       _ ≤ 281474976710656 := by omega
    by_cases hsm : n + m ≤ appMax
    ·have hfit := fits n cap' (by omega) hsm
     have hrun := run_append_grow (P := K.P) (w := w) (ty := o.type) (old := old) ht hi hz0 hb1 htx hd hS.len (by omega) hfit (o2 w.drew rfl) n3
     rw [← e1] at hrun
     ·have hcap := capOk n cap' hsm
      have hge := grown_ge w (n + m) cap' e
      refine ⟨fun v H' h => .inl ?_,fun h => ?_⟩
      ·split at h
       ·cases h
       ·cases h
        obtain ⟨R1,S1⟩ := hr.kill hcs
        have hl2 : ((cs.drop q.off).take (n * i.size) ++ xs).length = n * i.size + m * i.size := by
         rw [List.length_append,List.length_take,List.length_drop,hS.count]; omega
        have hrel : VRs ρ ((cs.drop q.off).take (n * i.size) ++ xs) (old ++ new).toList := by
         rw [Array.toList_append]; exact o1.append n1
        obtain ⟨ρ',R,S,hpr,hlv⟩ := R1.drew.newRow (e := e) (l := (cs.drop q.off).take (n * i.size) ++ xs) (C := old ++ new ++ Builtin.zeroCells z.cells (grownCap w (n + m) cap' e - (n + m))) (fz - q.off) (ty := if ty = some e ∧ q.off = 0 then ty else none) (fun t h => by
         split at h
         ·rename_i hc2; rw [hc2.1] at h; cases h; rfl
         ·cases h)
         (by
          have e3 : (old ++ new ++ Builtin.zeroCells z.cells (grownCap w (n + m) cap' e - (n + m))).toList.take ((cs.drop q.off).take (n * i.size) ++ xs).length = (old ++ new).toList := by
           rw [Array.toList_append,← hrel.length,List.take_left]
          rw [e3]
          exact hrel.mono S1.ext)
         (by
          intro y hy
          rcases List.mem_append.1 hy with hy | hy
          ·exact hcr.one _ _ y hy
          ·exact hS.one y hy)
        have hnext : (H.set q.block none).next = H.next := Heap.next_set _ _ _
        rw [hnext] at hpr hlv
        refine ⟨_,_,ρ',.inl (by rw [hexec,hrun]; rfl),.slice ⟨hpr.1,fun c2 base2 size2 hl => ?_⟩ (Nat.le_refl _) (by omega) hcap,R,(S1.trans (Step.same rfl rfl rfl rfl : Step _ _ w _ _ w.drew)).trans S⟩
        rw [hlv] at hl
        cases hl
        refine ⟨?_,.inl rfl⟩
        have e2 : (grownCap w (n + m) cap' e - (n + m)) * i.size + (n * i.size + m * i.size) = grownCap w (n + m) cap' e * i.size := by rw [← Nat.add_mul,← Nat.add_mul]; congr 1; omega
        simp only [Array.size_append,zeroCells_size,hzs]
        simp at o4 hnl
        omega
      ·split at h <;> cases h
    ·refine ⟨fun v H' h => ?_,fun h => ?_⟩ <;> (rw [if_pos (by omega)] at h; cases h)
end ops
end Go.Ae
