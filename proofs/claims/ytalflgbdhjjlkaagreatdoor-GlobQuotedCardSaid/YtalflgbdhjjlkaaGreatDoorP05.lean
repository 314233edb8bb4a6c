/- Part 5 of the proof of the law: Ae10. No condition. -/
import Derived.Test.YtalflgbdhjjlkaaGreatDoorP04
set_option linter.all false
namespace Go.Ae
open Go
section ops
variable {K : Cx} {ρ : Nm} {H : Heap} {w : World} (hr : Rel K ρ H w) {a : Act} {E : List Value} (he : EnvR ρ E a.tmps) {o : Oper}
include hr he
theorem zero_info {t : TypeId} {z : Value} {i : TypeInfo} (hz : zeroOf K.P t = some z) (hi : K.P.info? t = some i) : i.zero = some z := by
 unfold zeroOf at hz
 rw [hi] at hz
 simp only [Option.bind_some] at hz
 split at hz
 ·rename_i z' hz'
  split at hz
  ·cases hz; exact hz'
  ·cases hz
 ·cases hz
theorem append_good {e : TypeId} {base : Option Addr} {n sz m : Nat} {xs : List Value} : (∃ k,appendA e H base n sz xs m = .bad k) ∨ base = none ∨ ∃ q cs fz ty,base = some q ∧ H.get q.block = some (.row cs fz ty) := by
 unfold appendA
 cases base with
 | none => exact .inr (.inl rfl)
 | some q =>
  simp only
  split
  ·rename_i cs fz ty h; exact .inr (.inr ⟨q,cs,fz,ty,rfl,h⟩)
  ·exact .inl ⟨33,rfl⟩
theorem s_app {t tx e ex : TypeId} {i : TypeInfo} {z : Value} {s x : Operand} {args : Array Operand} {ts : Array TypeId} (ho : o.op = .call { callee := .builtin .append,args := args,argTypes := ts }) (hargs : args.toList = [s,x]) (hts : ts.toList = [t,tx])
  (hs : okOpd K.G0 s = true) (hx : okOpd K.G0 x = true)
  (ht : K.P.underlying t = some (.slice e)) (htx : K.P.underlying tx = some (.slice ex)) (hi : K.P.info? e = some i) (hz : zeroOf K.P e = some z) (hzs : z.cells.toList.length = i.size) (hb1 : 1 ≤ i.bytes) (hb2 : i.bytes ≤ 4096) (hs1 : 1 ≤ i.size) :
  (∀ v H',aop (.app s x i.size e) E H = .ok (v,H') → Ran K ρ H w v H' ((execOp a.eval o).run K.P w) ∨ False) ∧ (aop (.app s x i.size e) E H = .big → False) := by
 have h1 := ev_rel hr he s hs
 have h2 := ev_rel hr he x hx
 have ea : args = #[s,x] := by apply Array.ext'; simpa using hargs
 have et : ts = #[t,tx] := by apply Array.ext'; simpa using hts
 subst ea; subst et
 simp only [aop]
 split
 rotate_left
 ·exact ⟨fun _ _ h => (by cases h),fun h => (by cases h)⟩
 rename_i base n cap xb m xcap hs' hx'
 rw [hs'] at h1
 rw [hx'] at h2
 have hexec : (execOp a.eval o).run K.P w = ((Builtin.append_ #[t,tx] o.type #[a.eval s,a.eval x]).run K.P w).andThen fun v w' => .ok (.value v) w' := by
  simp [execOp,ho,resolve,invoke,builtin]
 split
 ·
  rename_i hm
  subst hm
  refine ⟨fun v H' h => .inl ?_,fun h => (by cases h)⟩
  cases h
  have e2 : ∃ q c',a.eval x = .slice q 0 c' := by generalize a.eval x = y at h2; cases h2 <;> exact ⟨_,_,rfl⟩
  obtain ⟨xq,xc,e2⟩ := e2
  refine ran_val hr (v' := a.eval s) ?_ h1
  rw [hexec]
  rcases h1.slice_inv with ⟨_,rfl,rfl,e1⟩ | ⟨q,sz',b,cap',_,_,e1,hps,c1,c2,c3⟩
  ·rw [e1,e2]
   have hf : (Builtin.firstCells i.size 0 (.slice xq 0 xc)).run K.P w = .ok #[] w := by cases xq <;> simp [Builtin.firstCells,loadCells,loadCellsFrom]
   simp [Builtin.append_,underlying,sizeOf,typeInfo,ht,hi,htx,Builtin.lenOf,hf]
  ·rw [e1,e2]
   have hf : (Builtin.firstCells i.size 0 (.slice xq 0 xc)).run K.P w = .ok #[] w := by cases xq <;> simp [Builtin.firstCells,loadCells,loadCellsFrom]
   have hle : n ≤ cap' := by omega
   simp [Builtin.append_,underlying,sizeOf,typeInfo,ht,hi,htx,Builtin.lenOf,hf,hle,storeCells]
 ·rename_i hm
  split
  ·exact ⟨fun _ _ h => (by cases h),fun h => (by cases h)⟩
  ·rename_i xa
   split
   rotate_left
   ·exact ⟨fun _ _ h => (by cases h),fun h => (by cases h)⟩
   rename_i xs hxs
   split
   ·exact ⟨fun _ _ h => (by cases h),fun h => (by cases h)⟩
   ·rename_i hne
    simp only [not_or,ne_eq,Decidable.not_not] at hne
    obtain ⟨hne1,hne2⟩ := hne
    rcases append_good hr he (e := e) (H := H) (base := base) (n := n) (sz := i.size) (m := m) (xs := xs) with ⟨k,hk⟩ | hgood
    ·rw [hk]; exact ⟨fun _ _ h => (by cases h),fun h => (by cases h)⟩
    ·rcases h2.slice_inv with ⟨e0,_⟩ | ⟨xq,xsz,xb',xcap',e0,xsp,e2,xps,d1,d2,d3⟩
     ·cases e0
     ·cases e0
      have hp := xps.pr (by omega)
      obtain ⟨l',g1,g2,g3,g4,g5,C,ec,fzc,g6,g7⟩ := hr.cells hxs hp
      have hb' : xb' = ⟨xb'.block,xb'.off,none⟩ := by cases xb'; simp at g4; simp [g4]
      refine app_core (z := z) (i := i) hr ho ht hi (zero_info hr he hz hi) (by simpa using hzs) hb1 hb2 hs1 htx (by simp) (by omega) h1 ?_
      intro b n' c' e1
      refine ⟨by rw [e2]; rfl,⟨l'.toArray,by simpa using g2,?_,?_⟩,g3,by rw [← g2.length,g1],?_⟩
      ·rw [e2]; simp only [Builtin.firstCells]; rw [hb']; exact run_loadCells l' g1 g5
      ·rw [e2]; simp only [Builtin.firstCells]; rw [hb']; exact run_loadCells l' g1 g5
      ·intro k hk
       rw [e2]
       have hxv : Room.holdsV w xb' (m * i.size) = true := by simp [Room.holdsV,World.shape?,g6,g4,g7]
       cases b with
       | none => simp [-Sem.runT_eq,Builtin.mayShare,Room.Sem.bind_def,Room.Sem.runT_bind,Room.runT_holdsCells',Room.Sem.runT_pure',hxv]
       | some b =>
        obtain ⟨k1,k2⟩ := hk b rfl
        have hbne : b.block ≠ xb'.block := by
         rcases hgood with rfl | ⟨q,cs,fz,ty,rfl,hq⟩
         ·rcases h1.slice_inv with ⟨_,_,_,e3⟩ | ⟨_,_,_,_,e3,_⟩
          ·rw [e3] at e1; cases e1
          ·cases e3
         ·rcases h1.slice_inv with ⟨e3,_⟩ | ⟨q',sz',b',cap',e3,_,e4,ps,_⟩
          ·cases e3
          ·cases e3
           rw [e4] at e1
           cases e1
           obtain ⟨c1,bs1,size1,hl1,ho1⟩ := hr.objs _ _ hq
           have hb1 : b.block = c1 := by
            rcases (ps.2 c1 bs1 size1 hl1).2 with e5 | ⟨_,o',_,e5⟩ <;> rw [e5]
           have hx1 : ∃ ox,H.get xa.block = some ox ∧ ((∃ l f ty,ox = .row l f ty) ∨ ∃ l,ox = .ro l) := by
            unfold cellsAt at hxs
            split at hxs
            ·rename_i l f ty hg; exact ⟨_,hg,.inl ⟨l,f,ty,rfl⟩⟩
            ·rename_i l hg; exact ⟨_,hg,.inr ⟨l,rfl⟩⟩
            ·cases hxs
           obtain ⟨ox,hox,hkind⟩ := hx1
           obtain ⟨c2,bs2,size2,hl2,ho2⟩ := hr.objs _ _ hox
           have hb2 : xb'.block = c2 := by rw [hp.2 c2 bs2 size2 hl2]
           rw [hb1,hb2]
           intro e6
           subst e6
           rcases hkind with ⟨l,f,ty,rfl⟩ | ⟨l,rfl⟩
           ·have := hr.inj _ _ _ _ _ _ _ _ _ hq hox rfl rfl hl1 hl2
            exact hne1 (by simp [this])
           ·have n1 := ho1.n0 rfl
            have n2 := ho2.ro_lt
            omega
        simp [-Sem.runT_eq,Builtin.mayShare,Room.Sem.bind_def,frozen,Sem.bind,Sem.runT,Room.Sem.runT_bind,Room.runT_holdsCells',Room.Sem.runT_pure',k1,k2,hxv,hbne]
theorem s_appStr {t tx e : TypeId} {i : TypeInfo} {z : Value} {s x : Operand} {args : Array Operand} {ts : Array TypeId} (ho : o.op = .call { callee := .builtin .append,args := args,argTypes := ts }) (hargs : args.toList = [s,x]) (hts : ts.toList = [t,tx])
  (hs : okOpd K.G0 s = true) (hx : okOpd K.G0 x = true)
  (ht : K.P.underlying t = some (.slice e)) (htx : K.P.underlying tx = some .string) (hi : K.P.info? e = some i) (hz : zeroOf K.P e = some z) (hzs : z.cells.toList.length = i.size) (hb1 : 1 ≤ i.bytes) (hb2 : i.bytes ≤ 4096) (hs1 : i.size = 1) :
  (∀ v H',aop (.appStr s x e) E H = .ok (v,H') → Ran K ρ H w v H' ((execOp a.eval o).run K.P w) ∨ False) ∧ (aop (.appStr s x e) E H = .big → False) := by
 have h1 := ev_rel hr he s hs
 have h2 := ev_rel hr he x hx
 have ea : args = #[s,x] := by apply Array.ext'; simpa using hargs
 have et : ts = #[t,tx] := by apply Array.ext'; simpa using hts
 subst ea; subst et
 simp only [aop]
 split
 rotate_left
 ·exact ⟨fun _ _ h => (by cases h),fun h => (by cases h)⟩
 rename_i base n cap b hs' hx'
 rw [hs'] at h1
 rw [hx'] at h2
 have e2 := h2.string_inv
 have hexec : (execOp a.eval o).run K.P w = ((Builtin.append_ #[t,tx] o.type #[a.eval s,a.eval x]).run K.P w).andThen fun v w' => .ok (.value v) w' := by
  simp [execOp,ho,resolve,invoke,builtin]
 have hfc : ∀ w2 : World,(Builtin.firstCells i.size b.size (.string b)).run K.P w2 = .ok (b.data.map fun c => .int .u8 c.toNat) w2 := by
  intro w2
  simp only [Builtin.firstCells,Sem.run_pure]
  congr 3
  have e : b.extract 0 b.size = b := by
   apply ByteArray.ext
   simp
  rw [e]
 split
 ·rename_i hm
  refine ⟨fun v H' h => .inl ?_,fun h => (by cases h)⟩
  cases h
  refine ran_val hr (v' := a.eval s) ?_ h1
  rw [hexec]
  have hd : b.data = #[] := by
   have : b.data.size = 0 := hm
   exact Array.eq_empty_of_size_eq_zero this
  have hfc' : (Builtin.firstCells i.size 0 (.string b)).run K.P w = .ok #[] w := by
   have := hfc w
   rw [hm,hd] at this
   simpa using this
  rcases h1.slice_inv with ⟨_,rfl,rfl,e1⟩ | ⟨q,sz',b',cap',_,_,e1,hps,c1,c2,c3⟩
  ·rw [e1,e2]
   simp [Builtin.append_,underlying,sizeOf,typeInfo,ht,hi,htx,Builtin.lenOf,hm,hfc']
  ·rw [e1,e2]
   have hle : n ≤ cap' := by omega
   simp [Builtin.append_,underlying,sizeOf,typeInfo,ht,hi,htx,Builtin.lenOf,hm,hfc',hle,storeCells]
 ·rename_i hm
  have hl : ∀ (l : List UInt8),VRs ρ (l.map fun c => .int .u8 c.toNat) (l.map fun c => .int .u8 c.toNat) := by
   intro l
   induction l with
   | nil => exact .nil
   | cons c l ih => exact .cons (.int _ _) ih
  rw [show (1 : Nat) = i.size from hs1.symm]
  refine app_core (z := z) (i := i) hr ho ht hi (zero_info hr he hz hi) (by simpa using hzs) hb1 hb2 (by omega) htx (by simp) (by omega) h1 ?_
  intro bb n' c' e1
  refine ⟨by rw [e2]; rfl,⟨_,?_,by rw [e2]; exact hfc w,by rw [e2]; exact hfc w.drew⟩,?_,?_,?_⟩
  ·rw [Array.toList_map]; exact hl _
  ·intro y hy
   obtain ⟨c,_,rfl⟩ := List.mem_map.1 hy
   rfl
  ·rw [hs1]; simp
  ·intro k hk
   rw [e2]
   exact runT_mayShare_string w i.size k b.size bb b hk
theorem s_mdel {t kt e : TypeId} {m k : Operand} {args : Array Operand} {ts : Array TypeId} {rest : List TypeId} (ho : o.op = .call { callee := .builtin .delete,args := args,argTypes := ts }) (hargs : args.toList = [m,k]) (hts : ts.toList = t :: rest)
  (hm : okOpd K.G0 m = true) (hk : okOpd K.G0 k = true) {s : SK} (hu : K.P.underlying t = some (.map kt e))
  (hs : scalarK K.P kt = some s) {v : Value} {H' : Heap} (h : aop (.mdel s m k) E H = .ok (v,H')) : Ran K ρ H w v H' ((execOp a.eval o).run K.P w) := by
 have h1 := ev_rel hr he m hm
 have h2 := ev_rel hr he k hk
 obtain ⟨d,hd,hsame,_,n1,n2,n3⟩ := sameNow_eq hs
 have ea : args = #[m,k] := by apply Array.ext'; simpa using hargs
 have et : ts = (t :: rest).toArray := by apply Array.ext'; simpa using hts
 subst ea; subst et
 have hexec : (execOp a.eval o).run K.P w = ((Builtin.delete_ (t :: rest).toArray o.type #[a.eval m,a.eval k]).run K.P w).andThen fun v w' => .ok (.value v) w' := by
  simp [execOp,ho,resolve,invoke,builtin]
 simp only [aop] at h
 split at h
 ·rename_i b hm'
  split at h
  ·rename_i es hb
   rw [hm'] at h1
   have : ∃ r,a.eval m = .map (some r) ∧ BR ρ b r := by generalize a.eval m = y at h1; cases h1; exact ⟨_,rfl,‹_›⟩
   obtain ⟨r,e1,hbr⟩ := this
   obtain ⟨es',clock,q1,q2,q3,size,q4⟩ := map_at hr he hb hbr
   have hlt : r < w.heap.size := by
    rcases Nat.lt_or_ge r w.heap.size with hl | hl
    ·exact hl
    ·rw [Array.getElem?_eq_none hl] at q1; cases q1
   have fin : ∀ (nes : List (Value × Value)) (nes' : Array MapEntry) (nclock : Nat),MapR ρ nes nes'.toList nclock →
     (Builtin.delete_ (t :: rest).toArray o.type #[a.eval m,a.eval k]).run K.P w = .ok (.tuple #[]) (w.putObj r (.map nes' nclock)) → Ran K ρ H w (.tuple #[]) (H.set b (some (.map nes))) ((execOp a.eval o).run K.P w) := by
    intro nes nes' nclock hmr hrun
    obtain ⟨R,S⟩ := hr.turn (w' := w.putObj r (.map nes' nclock)) (o' := .map nes) hb rfl q4 (World.putObj_size) (fun k hk => World.putObj_heap_other hk)
     (by rw [World.putObj_heap_same hlt]; exact .map q3 rfl hmr) rfl rfl rfl
    exact ⟨.tuple #[],_,ρ,.inl (by rw [hexec,hrun]; rfl),.undef,R,S⟩
   split at h
   ·rename_i i hf
    cases h
    obtain ⟨_,e0,e',g1,g2,g3,g4,g5⟩ := findNow_rel (ρ := ρ) hsame es es'.toList 0 _ q2.size q2.entries hf
    simp only [Nat.sub_zero] at g1 g2
    have hkey := (sameCell_inv g5).1 h2
    rw [← hkey] at g4
    have hi : i < es'.size := by have := (List.getElem?_eq_some_iff.1 g2).1; simpa using this
    have hl : (es'.eraseIdxIfInBounds i).toList = es'.toList.eraseIdx i := by
     unfold Array.eraseIdxIfInBounds
     rw [dif_pos hi,Array.toList_eraseIdx]
    refine fin _ (es'.eraseIdxIfInBounds i) clock ⟨?_,?_,?_,?_⟩ ?_
    ·rw [hl,List.length_eraseIdx,List.length_eraseIdx,q2.size]
    ·intro j p hp
     rw [hl]
     rw [List.getElem?_eraseIdx] at hp ⊢
     split at hp
     ·rename_i hj
      rw [if_pos hj]
      exact q2.entries j p hp
     ·rename_i hj
      rw [if_neg hj]
      exact q2.entries (j + 1) p hp
    ·rw [hl]; exact bornRises_erase _ _ q2.rises
    ·intro y hy
     rw [hl] at hy
     exact q2.below y (List.mem_of_mem_eraseIdx hy)
    ·simp [e1,Builtin.delete_,underlying,hu,getObj,Sem.run,q1,run_checkKey hd n1 n2 n3,Instr.findKey,hd,g4,setObj,World.putObj]
   ·rename_i hf
    cases h
    have hf' := findNow_rel (ρ := ρ) hsame es es'.toList 0 _ q2.size q2.entries hf
    simp only at hf'
    have hff : Instr.findNow d (a.eval k) es'.toList 0 = some none := by
     cases hes0 : es'.toList with
     | nil => rfl
     | cons e0 r0 =>
      have hkey : a.eval k = ev E k := by
       cases es with
       | nil => have := q2.size; rw [hes0] at this; simp at this
       | cons p es =>
        obtain ⟨k1,v1⟩ := p
        unfold findKeyA at hf
        split at hf
        ·cases hf
        ·rename_i hs'; exact (sameCell_inv hs').1 h2
        ·cases hf
      rw [hkey,← hes0]; exact hf'
    refine fin _ es' clock q2 ?_
    simp [e1,Builtin.delete_,underlying,hu,getObj,Sem.run,q1,run_checkKey hd n1 n2 n3,Instr.findKey,hd,hff,setObj,World.putObj]
   ·cases h
  ·cases h
 ·cases h
theorem alloc_sound {op : AOp} (hc : compOp K.P K.G0 o.op = some op) {ob : AObj} {f : Nat → Value} (h : allocA op E = some (ob,f)) {N : Nat} {H' : Heap} (ha : Adds H N ob H') (hfr : ρ N = .fresh) (hg : K.G0 ≤ N) :
  ∃ v' w' ρ',RanN K ρ H w N (f N) H' ((execOp a.eval o).run K.P w) v' w' ρ' := by
 unfold compOp at hc
 split at hc
 ·cases hc
 rename_i hall
 simp only [Bool.not_eq_true,Bool.not_eq_false'] at hall
 have hok : ∀ x ∈ o.op.operands.toList,okOpd K.G0 x = true := by
  have : okAll K.G0 o.op = true := by simpa using hall
  exact fun x hx => List.all_eq_true.1 this x hx
 split at hc
 case h_4 e hop =>
  split at hc
  ·rename_i z hz; cases hc
   simp only [allocA] at h
   cases h
   exact s_new hr he hop hz ha hfr hg
  ·cases hc
 case h_5 e x hop =>
  cases hc
  simp only [allocA] at h
  split at h
  ·rename_i hs
   cases h
   exact s_box hr he hop (hok _ (by rw [hop]; simp [Op.operands])) hs ha hfr hg
  ·cases h
 case h_7 t len parts hop =>
  split at hc
  ·rename_i e hu
   split at hc
   ·rename_i s z hs hz
    split at hc
    ·rename_i l hl
     split at hc
     ·rename_i hcond; cases hc
      simp only [allocA] at h
      split at h
      ·rename_i cs hcs
       cases h
       exact s_mkslice hr he hop (fun p hp => hok _ (by rw [hop]; simp only [Op.operands]; simp only [List.mem_map]; exact ⟨p,hp,rfl⟩)) hu hs hz hl hcond.1 hcond.2.1 hcond.2.2 hcs ha hfr hg
      ·cases h
     ·cases hc
    ·cases hc
   ·cases hc
  ·cases hc
 case h_15 t r hop =>
  split at hc
  ·cases hc
   simp only [allocA] at h
   cases h
   exact s_mkmap hr he hop ha hfr hg
  ·cases hc
 case h_16 t l c hop =>
  split at hc
  ·rename_i e hu
   split at hc
   ·rename_i i z hi hz
    split at hc
    ·rename_i hcond; cases hc
     simp only [allocA] at h
     split at h
     ·rename_i n m hx' hy'
      split at h
      ·rename_i hc'
       cases h
       exact s_mkrow hr he hop (hok _ (by rw [hop]; simp [Op.operands])) (hok _ (by rw [hop]; simp [Op.operands])) hu hi hz hcond.1 hcond.2.1 hcond.2.2 hx' hy' hc' ha hfr hg
      ·cases h
     ·cases h
    ·cases hc
   ·cases hc
  ·cases hc
 all_goals (try (cases hc; cases h; done))
 all_goals
  (try ((repeat' split at hc) <;> (first | (cases hc; done) | (cases hc; cases h; done))))
 all_goals
  (unfold compBuiltin at hc; (repeat' split at hc) <;> (first | (cases hc; done) | (cases hc; cases h; done)))
theorem alloc_ran {op : AOp} (hc : compOp K.P K.G0 o.op = some op) {n : Nat} {v : Value} {H' : Heap} (h : allocOut H n (allocA op E) = .ok (v,H')) : Ran K ρ H w v H' ((execOp a.eval o).run K.P w) := by
 cases hal : allocA op E with
 | none => rw [hal] at h; cases h
 | some p =>
  obtain ⟨ob,f⟩ := p
  rw [hal] at h
  simp only [allocOut] at h
  cases h
  obtain ⟨v',w',ρ',q⟩ := alloc_sound (w := w) hr he hc hal (Adds.push ob hr.wf) (hr.fresh _ (Nat.le_refl _)) hr.g0
  exact ⟨v',w',ρ',.inl q.run,q.val,q.rel,q.step _ _ _ (.refl _ _ _) (Nat.le_refl _)⟩
theorem aop_sound {op : AOp} (hc : compOp K.P K.G0 o.op = some op) (hnc : ∀ f l,op ≠ .call f l) :
  (∀ v H',aop op E H = .ok (v,H') → Ran K ρ H w v H' ((execOp a.eval o).run K.P w) ∨ False) ∧ (aop op E H = .big → False) := by
 have hc0 := hc
 have hbig : ∀ n (x : Option (AObj × (Nat → Value))),allocOut H n x ≠ .big := fun n x => by cases x <;> simp [allocOut]
 unfold compOp at hc
 split at hc
 ·cases hc
 rename_i hall
 simp only [Bool.not_eq_true,Bool.not_eq_false'] at hall
 have hok : ∀ x ∈ o.op.operands.toList,okOpd K.G0 x = true := by
  have : okAll K.G0 o.op = true := by simpa using hall
  exact fun x hx => List.all_eq_true.1 this x hx
 have ov' : ∀ n (x : Option Value),ov n H x ≠ .big := fun n x => by cases x <;> simp [ov]
 split at hc
 ·rename_i x hop; cases hc
  exact ⟨fun v H' h => .inl (by simp only [aop] at h; cases h; exact s_mv hr he (.inl hop) (hok _ (by rw [hop]; simp [Op.operands]))),fun h => by simp [aop] at h⟩
 ·rename_i x hop; cases hc
  exact ⟨fun v H' h => .inl (by simp only [aop] at h; cases h; exact s_mv hr he (.inr hop) (hok _ (by rw [hop]; simp [Op.operands]))),fun h => by simp [aop] at h⟩
 ·rename_i c x y hop; cases hc
  refine ⟨fun v H' h => .inl ?_,fun h => by simp only [aop] at h; split at h <;> cases h⟩
  simp only [aop] at h
  split at h
  ·rename_i t ht; cases h
   exact s_pick hr he hop (hok _ (by rw [hop]; simp [Op.operands])) (hok _ (by rw [hop]; simp [Op.operands])) (hok _ (by rw [hop]; simp [Op.operands])) ht
  ·cases h
 ·rename_i e hop
  split at hc
  ·rename_i z hz; cases hc
   exact ⟨fun v H' h => .inl (alloc_ran hr he hc0 (by simpa only [aop] using h)),fun h => by simp only [aop] at h; exact absurd h (hbig _ _)⟩
  ·cases hc
 ·rename_i e x hop; cases hc
  exact ⟨fun v H' h => .inl (alloc_ran hr he hc0 (by simpa only [aop] using h)),fun h => by simp only [aop] at h; exact absurd h (hbig _ _)⟩
 ·rename_i t parts hop
  split at hc
  ·rename_i z l hz hl
   split at hc
   ·rename_i hs; cases hc
    refine ⟨fun v H' h => .inl (s_build hr he hop (fun p hp => hok _ ?_) hz hl hs h),fun h => by simp only [aop] at h; split at h <;> cases h⟩
    rw [hop]; simp only [Op.operands]; simp only [List.mem_map]; exact ⟨p,hp,rfl⟩
   ·cases hc
  ·cases hc
 ·rename_i t len parts hop
  split at hc
  ·rename_i e hu
   split at hc
   ·rename_i s z hs hz
    split at hc
    ·rename_i l hl
     split at hc
     ·rename_i hcond; cases hc
      exact ⟨fun v H' h => .inl (alloc_ran hr he hc0 (by simpa only [aop] using h)),fun h => by simp only [aop] at h; exact absurd h (hbig _ _)⟩
     ·cases hc
    ·cases hc
   ·cases hc
  ·cases hc
 ·rename_i t x hop
  split at hc
  ·rename_i s hs; cases hc
   refine ⟨fun v H' h => .inl (s_load hr he hop (hok _ (by rw [hop]; simp [Op.operands])) hs h),fun h => ?_⟩
   simp only [aop] at h; (repeat' split at h) <;> cases h
  ·cases hc
 ·rename_i t x y hop
  split at hc
  ·rename_i s hs; cases hc
   refine ⟨fun v H' h => .inl (s_store hr he hop (hok _ (by rw [hop]; simp [Op.operands])) (hok _ (by rw [hop]; simp [Op.operands])) hs h),fun h => ?_⟩
   simp only [aop] at h; (repeat' split at h) <;> cases h
  ·cases hc
 ·rename_i x hop; cases hc
  exact ⟨fun v H' h => .inl (s_nilck hr he hop (hok _ (by rw [hop]; simp [Op.operands])) h),fun h => by simp only [aop] at h; split at h <;> cases h⟩
 ·rename_i op t x y t' hop
  have hx : okOpd K.G0 x = true := hok _ (by rw [hop]; simp [Op.operands])
  have hy : okOpd K.G0 y = true := hok _ (by rw [hop]; simp [Op.operands])
  split at hc
  ·split at hc
   ·rename_i k hk; cases hc
    exact ⟨fun v H' h => .inl (s_eqv (neg := false) hr he hop hx hy hk h),fun h => by simp only [aop] at h; split at h <;> cases h⟩
   ·cases hc
  ·split at hc
   ·rename_i k hk; cases hc
    exact ⟨fun v H' h => .inl (s_eqv (neg := true) hr he hop hx hy hk h),fun h => by simp only [aop] at h; split at h <;> cases h⟩
   ·cases hc
  ·rename_i n1 n2; cases hc
   exact ⟨fun v H' h => .inl (s_bin hr he hop ⟨fun e => n1 e,fun e => n2 e⟩ hx hy h),fun h => by simp only [aop] at h; exact absurd h (ov' _ _)⟩
 ·rename_i op t x hop; cases hc
  exact ⟨fun v H' h => .inl (s_un hr he hop (hok _ (by rw [hop]; simp [Op.operands])) h),fun h => by simp only [aop] at h; exact absurd h (ov' _ _)⟩
 ·rename_i src dst x hop
  have hx : okOpd K.G0 x = true := hok _ (by rw [hop]; simp [Op.operands])
  split at hc
  ·rename_i j k h1 h2; cases hc
   exact ⟨fun v H' h => .inl (s_conv hr he hop hx h1 h2 h),fun h => by simp only [aop] at h; split at h <;> cases h⟩
  ·rename_i e h1 h2
   split at hc
   ·rename_i h3; cases hc
    refine ⟨fun v H' h => .inl (s_toStr hr he hop hx h1 h2 h3 h),fun h => ?_⟩
    simp only [aop] at h; (repeat' split at h) <;> cases h
   ·cases hc
  ·rename_i t h1 h2
   split at hc
   ·rename_i s hs
    split at hc
    ·cases hc
    ·rename_i hs0; cases hc
     refine ⟨fun v H' h => .inl (s_toU hr he hop hx h1 h2 hs hs0 h),fun h => ?_⟩
     simp only [aop] at h; (repeat' split at h) <;> cases h
   ·cases hc
  ·rename_i u h1 h2
   split at hc
   ·rename_i s hs
    split at hc
    ·cases hc
    ·rename_i hs0; cases hc
     refine ⟨fun v H' h => .inl (s_ofU hr he hop hx h1 h2 hs hs0 h),fun h => ?_⟩
     simp only [aop] at h; (repeat' split at h) <;> cases h
   ·cases hc
  ·cases hc
 ·rename_i fn first caps hop
  split at hc
  ·rename_i f hf; cases hc
   refine ⟨fun v H' h => .inl ?_,fun h => by simp [aop] at h⟩
   simp only [aop] at h; cases h
   exact s_mkfn hr he hop hf (fun x hx => hok _ (by rw [hop]; simp only [Op.operands,Array.toList_append]; exact List.mem_append_right _ hx))
  ·cases hc
 ·rename_i t r hop
  split at hc
  ·cases hc
   exact ⟨fun v H' h => .inl (alloc_ran hr he hc0 (by simpa only [aop] using h)),fun h => by simp only [aop] at h; exact absurd h (hbig _ _)⟩
  ·cases hc
 ·rename_i t l c hop
  split at hc
  ·rename_i e hu
   split at hc
   ·rename_i i z hi hz
    split at hc
    ·rename_i hcond; cases hc
     exact ⟨fun v H' h => .inl (alloc_ran hr he hc0 (by simpa only [aop] using h)),fun h => by simp only [aop] at h; exact absurd h (hbig _ _)⟩
    ·cases hc
   ·cases hc
  ·cases hc
 ·rename_i t x lo hi mx hop
  have hx : okOpd K.G0 x = true := hok _ (by rw [hop]; simp [Op.operands])
  have hlo : ∀ y ∈ lo.toList,okOpd K.G0 y = true := fun y hy => hok _ (by rw [hop]; cases lo <;> simp_all [Op.operands])
  have hhi : ∀ y ∈ hi.toList,okOpd K.G0 y = true := fun y hy => hok _ (by rw [hop]; cases hi <;> simp_all [Op.operands])
  split at hc
  ·rename_i hu; cases hc
   refine ⟨fun v H' h => .inl (s_slStr hr he hop hx hlo hhi hu h),fun h => ?_⟩
   simp only [aop] at h; (repeat' split at h) <;> cases h
  ·rename_i e hu
   split at hc
   ·rename_i s hs; cases hc
    refine ⟨fun v H' h => .inl (s_sl hr he hop hx hlo hhi hu hs h),fun h => ?_⟩
    simp only [aop] at h; (repeat' split at h) <;> cases h
   ·cases hc
  ·cases hc
 ·rename_i s x f hop
  split at hc
  ·rename_i fields hu
   split at hc
   ·rename_i fd hfd
    split at hc
    ·rename_i n hn
     split at hc
     ·cases hc
     ·rename_i hn0; cases hc
      exact ⟨fun v H' h => .inl (s_faddr hr he hop (hok _ (by rw [hop]; simp [Op.operands])) hu hfd hn hn0 h),fun h => by simp only [aop] at h; split at h <;> cases h⟩
    ·cases hc
   ·cases hc
  ·cases hc
 ·rename_i t x f hop
  split at hc
  ·rename_i fields hu
   split at hc
   ·rename_i fd hfd
    split at hc
    ·rename_i s hs; cases hc
     exact ⟨fun v H' h => .inl (s_fld hr he hop (hok _ (by rw [hop]; simp [Op.operands])) hu hfd hs h),fun h => by
      simp only [aop] at h
      split at h
      ·exact absurd h (ov' _ _)
      ·cases h⟩
    ·cases hc
   ·cases hc
  ·cases hc
 ·rename_i t x i hop
  have hx : okOpd K.G0 x = true := hok _ (by rw [hop]; simp [Op.operands])
  have hi : okOpd K.G0 i = true := hok _ (by rw [hop]; simp [Op.operands])
  split at hc
  ·rename_i e hu
   split at hc
   ·rename_i s hs; cases hc
    refine ⟨fun v H' h => .inl (s_idx hr he hop hx hi hu hs h),fun h => ?_⟩
    simp only [aop] at h; (repeat' split at h) <;> cases h
   ·cases hc
  ·rename_i len e hu
   split at hc
   ·rename_i s hs; cases hc
    refine ⟨fun v H' h => .inl (s_idxA hr he hop hx hi hu hs h),fun h => ?_⟩
    simp only [aop] at h; (repeat' split at h) <;> cases h
   ·cases hc
  ·cases hc
 ·rename_i t x i hop
  have hx : okOpd K.G0 x = true := hok _ (by rw [hop]; simp [Op.operands])
  have hi : okOpd K.G0 i = true := hok _ (by rw [hop]; simp [Op.operands])
  split at hc
  ·rename_i hu; cases hc
   refine ⟨fun v H' h => .inl (s_strAt hr he hop hx hi hu h),fun h => ?_⟩
   simp only [aop] at h; (repeat' split at h) <;> cases h
  ·rename_i len e hu
   split at hc
   ·rename_i s ag hs hag; cases hc
    have h4 : ag = none ∨ ag = some s := by
     unfold aggSz at hag; unfold szOf at hs
     split at hag
     ·cases hi' : K.P.info? e with
      | none => simp [hi'] at hs
      | some inf => simp [hi'] at hs hag; right; rw [← hag,hs]
     ·cases hi' : K.P.info? e with
      | none => simp [hi'] at hs
      | some inf => simp [hi'] at hs hag; right; rw [← hag,hs]
     ·cases hag; left; rfl
     ·cases hag
    refine ⟨fun v H' h => .inl (s_aggAt hr he hop hx hi hu hs hag h4 h),fun h => ?_⟩
    simp only [aop] at h
    split at h
    ·split at h
     ·exact absurd h (ov' _ _)
     ·cases h
    ·cases h
   ·cases hc
  ·cases hc
 ·rename_i t m k ok hop
  split at hc
  ·rename_i kt e hu
   split at hc
   ·rename_i z s hz hs; cases hc
    refine ⟨fun v H' h => .inl (s_look hr he hop (hok _ (by rw [hop]; simp [Op.operands])) (hok _ (by rw [hop]; simp [Op.operands])) hu hz hs h),fun h => ?_⟩
    simp only [aop] at h; (repeat' split at h) <;> cases h
   ·cases hc
  ·cases hc
 ·rename_i t m k v hop
  split at hc
  ·rename_i kt e hu
   split at hc
   ·rename_i s hs; cases hc
    refine ⟨fun v H' h => .inl (s_mset hr he (.inl hop) (hok _ (by rw [hop]; simp [Op.operands])) (hok _ (by rw [hop]; simp [Op.operands])) (hok _ (by rw [hop]; simp [Op.operands])) hu hs h),fun h => ?_⟩
    simp only [aop] at h; (repeat' split at h) <;> cases h
   ·cases hc
  ·cases hc
 ·rename_i t m k v hop
  split at hc
  ·rename_i kt e hu
   split at hc
   ·rename_i s hs; cases hc
    refine ⟨fun v H' h => .inl (s_mset hr he (.inr hop) (hok _ (by rw [hop]; simp [Op.operands])) (hok _ (by rw [hop]; simp [Op.operands])) (hok _ (by rw [hop]; simp [Op.operands])) hu hs h),fun h => ?_⟩
    simp only [aop] at h; (repeat' split at h) <;> cases h
   ·cases hc
  ·cases hc
 ·rename_i t i hop; cases hc
  exact ⟨fun v H' h => .inl (s_ext hr he hop (hok _ (by rw [hop]; simp [Op.operands])) h),fun h => by
   simp only [aop] at h
   split at h
   ·exact absurd h (ov' _ _)
   ·cases h⟩
 ·rename_i c hop
  split at hc
  ·cases hc; exact absurd rfl (hnc _ _)
  ·rename_i b hcal
   have hopc : o.op = .call { callee := .builtin b,args := c.args,argTypes := c.argTypes } := by
    rw [hop]; cases c; simp at hcal; simp [hcal]
   have hokc : ∀ x ∈ c.args.toList,okOpd K.G0 x = true := fun x hx => hok _ (by
    rw [hop]; simp only [Op.operands,Call.operands,Array.toList_append]; exact List.mem_append_right _ hx)
   unfold compBuiltin at hc
   split at hc
   ·
    rename_i x t hargs hts
    have hx : okOpd K.G0 x = true := hokc x (by rw [hargs]; simp)
    split at hc
    ·rename_i hu; cases hc
     exact ⟨fun v H' h => .inl (s_len hr he hargs hts hopc hx (.inl ⟨hu,rfl⟩) h),fun h => by simp only [aop] at h; split at h <;> cases h⟩
    ·rename_i e hu; cases hc
     exact ⟨fun v H' h => .inl (s_len hr he hargs hts hopc hx (.inr (.inl ⟨⟨e,hu⟩,rfl⟩)) h),fun h => by simp only [aop] at h; split at h <;> cases h⟩
    ·rename_i e f hu; cases hc
     refine ⟨fun v H' h => .inl (s_len hr he hargs hts hopc hx (.inr (.inr ⟨⟨e,f,hu⟩,rfl⟩)) h),fun h => ?_⟩
     simp only [aop] at h; (repeat' split at h) <;> cases h
    ·cases hc
   ·
    rename_i s x t tx hargs hts
    have hs : okOpd K.G0 s = true := hokc s (by rw [hargs]; simp)
    have hx : okOpd K.G0 x = true := hokc x (by rw [hargs]; simp)
    split at hc
    ·rename_i e ex ht htx
     split at hc
     ·rename_i i z hi hz
      split at hc
      ·rename_i hcond; cases hc
       exact s_app hr he hopc hargs hts hs hx ht htx hi hz hcond.2.2.2 hcond.1 hcond.2.1 hcond.2.2.1
      ·cases hc
     ·cases hc
    ·rename_i e ht htx
     split at hc
     ·rename_i i z hi hz
      split at hc
      ·rename_i hcond; cases hc
       exact s_appStr hr he hopc hargs hts hs hx ht htx hi hz hcond.2.2.2 hcond.1 hcond.2.1 hcond.2.2.1
      ·cases hc
     ·cases hc
    ·split at hc
     ·split at hc
      ·cases hc
       exact ⟨fun v H' h => absurd h (by simp [aop]),fun h => absurd h (by simp [aop])⟩
      ·cases hc
     ·cases hc
    ·cases hc
   ·
    rename_i x y hargs
    cases hc
    refine ⟨fun v H' h => .inl (s_max hr he hargs hopc (hokc x (by rw [hargs]; simp)) (hokc y (by rw [hargs]; simp)) h),fun h => ?_⟩
    simp only [aop] at h; (repeat' split at h) <;> cases h
   ·
    rename_i x y hargs
    cases hc
    refine ⟨fun v H' h => .inl (s_min hr he hargs hopc (hokc x (by rw [hargs]; simp)) (hokc y (by rw [hargs]; simp)) h),fun h => ?_⟩
    simp only [aop] at h; (repeat' split at h) <;> cases h
   ·
    rename_i m k t rest hargs hts
    split at hc
    ·rename_i kt ev hu
     split at hc
     ·rename_i s hs; cases hc
      refine ⟨fun v H' h => .inl (s_mdel hr he hopc hargs hts (hokc m (by rw [hargs]; simp)) (hokc k (by rw [hargs]; simp)) hu hs h),fun h => ?_⟩
      simp only [aop] at h; (repeat' split at h) <;> cases h
     ·cases hc
    ·cases hc
   ·
    rename_i x hargs
    cases hc
    refine ⟨fun v H' h => .inl (s_sdata hr he hopc hargs (hokc x (by rw [hargs]; simp)) h),fun h => ?_⟩
    simp only [aop] at h; (repeat' split at h) <;> cases h
   ·
    rename_i x y t rest hargs hts
    split at hc
    ·rename_i e hu
     split at hc
     ·rename_i s hs; cases hc
      refine ⟨fun v H' h => .inl (s_copy hr he hopc hargs (by rw [hts]; rfl) (hokc x (by rw [hargs]; simp)) (hokc y (by rw [hargs]; simp)) hu hs h),fun h => ?_⟩
      simp only [aop] at h; (repeat' split at h) <;> cases h
     ·cases hc
    ·cases hc
   ·
    split at hc
    ·cases hc; exact ⟨fun v H' h => (by simp [aop] at h),fun h => (by simp [aop] at h)⟩
    ·cases hc
   ·
    rename_i x n t rest hargs hts
    split at hc
    ·rename_i u hu
     split at hc
     ·rename_i s hs
      split at hc
      ·rename_i hs1; cases hc
       subst hs1
       refine ⟨fun v H' h => .inl (s_ustr hr he hopc hargs (by rw [hts]; rfl) (hokc x (by rw [hargs]; simp)) (hokc n (by rw [hargs]; simp)) hu hs h),fun h => ?_⟩
       simp only [aop] at h; (repeat' split at h) <;> cases h
      ·cases hc
     ·cases hc
    ·cases hc
   ·cases hc
  ·cases hc
 ·cases hc
end ops
end Go.Ae
