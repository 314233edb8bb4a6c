/- Part 4 of the proof of the law: Ae9b, Ae9c. No condition. -/
import Derived.Test.YtalflgbdhjjlkaaGreatDoorP03
set_option linter.all false
namespace Go.Ae
open Go
theorem run_shape_cells {P : Program} {w : World} {c : Nat} {C : Array Value} {e : TypeId} {fz : Nat × Nat} (h : w.heap[c]? = some (.cells C e fz)) : (shape c).run P w = .ok (some (e,C.size)) w := by
 simp [shape,Sem.run,World.shape?,h]
theorem run_viewAt_cells {P : Program} {w : World} {c : Nat} {C : Array Value} {e : TypeId} {fz : Nat × Nat} (h : w.heap[c]? = some (.cells C e fz)) : (viewAt c).run P w = .ok none w := by
 simp [viewAt,run_shape_cells h,Result.andThen]
theorem run_cellsIn_cells {P : Program} {w : World} {c : Nat} {C : Array Value} {e : TypeId} {fz : Nat × Nat} (h : w.heap[c]? = some (.cells C e fz)) : (cellsIn c).run P w = .ok (some C.size) w := by
 simp [cellsIn,run_shape_cells h,Result.andThen]
theorem run_seenAt_cells {P : Program} {w : World} {a : Addr} {C : Array Value} {e : TypeId} {fz : Nat × Nat} (h : w.heap[a.block]? = some (.cells C e fz)) : (Conv.seenAt a).run P w = .ok a w := by
 simp [Conv.seenAt,run_viewAt_cells h,Result.andThen]
theorem run_variablesAt {P : Program} {w : World} {a : Addr} {C : Array Value} {u : TypeId} {fz : Nat × Nat} (h : w.heap[a.block]? = some (.cells C u fz)) {s n : Nat} (hs : P.cellsOf u = s) (hs0 : s ≠ 0) (h1 : a.off % s = 0) (h2 : a.off / s + n ≤ C.size / s) :
  (variablesAt a u n).run P w = .ok true w := by
 have hd : ∃ d,P.depth = d + 1 := ⟨2 * (P.types.size + Made.depth) + 1,rfl⟩
 obtain ⟨d,hd⟩ := hd
 have hl : liesAt P P.depth u (C.size / s) a.off u n = true := by
  rw [hd]
  unfold liesAt rowAt sameLayout
  simp [hs,hs0,h1,h2,hd,rowAt,sameLayout]
 simp [variablesAt,run_shape_cells h,Result.andThen,hs,hl]
theorem run_sdata_nil {P : Program} (ts : Array TypeId) (ty : TypeId) (n c : Nat) (w : World) : (Builtin.unsafeSliceData_ ts ty #[.slice none n c]).run P w = .ok (.pointer none) w := rfl
theorem run_sdata_some {P : Program} (ts : Array TypeId) (ty : TypeId) (a : Addr) (n c : Nat) (hc : c ≠ 0) (w : World) : (Builtin.unsafeSliceData_ ts ty #[.slice (some a) n c]).run P w = .ok (.pointer (some a)) w := by
 show Sem.run P (if c ≠ 0 then pure (Value.pointer (some a)) else _) w = _
 rw [if_pos hc]; rfl
theorem run_loadBytes {P : Program} {w : World} {c : Nat} : ∀ (ns : List Int) (o : Nat) (acc : ByteArray),(∀ (j : Nat) (n : Int),ns[j]? = some n → w.cell? ⟨c,o + j,none⟩ = some (.int .u8 n)) →
  (loadBytes ⟨c,o,none⟩ acc ns.length).run P w = .ok (ns.foldl (fun r n => r.push n.toNat.toUInt8) acc) w
 | [],o,acc,h => by simp [loadBytes]
 | n :: ns,o,acc,h => by
  have h0 : w.cell? ⟨c,o,none⟩ = some (.int .u8 n) := h 0 n (by simp)
  simp only [List.length_cons,loadBytes,Sem.run_bind,run_load,h0,Result.andThen_ok,Addr_add]
  rw [run_loadBytes ns (o + 1) (acc.push n.toNat.toUInt8) (fun j m hj => by
   have := h (j + 1) m (by simpa using hj)
   rw [show o + 1 + j = o + (j + 1) from by omega]; exact this)]
  rfl
theorem run_ustr_zero {P : Program} {ts : Array TypeId} {ty pt : TypeId} (ht : ts[0]? = some pt) (p : Option Addr) (w : World) : (Builtin.unsafeString_ ts ty #[.pointer p,.int .i64 0]).run P w = .ok (.string .empty) w := by
 show Sem.run P (asInt (.int .i64 0) >>= _) w = _
 cases p <;> simp [asInt,asIntOf,IntKind.signed,IntKind.bits,ht,IntKind.max,Result.andThen]
theorem run_ustr {P : Program} {w : World} {ts : Array TypeId} {ty pt u : TypeId} {a : Addr} {k : Int} {s : ByteArray} (ht : ts[0]? = some pt) (hel : P.underlying pt = some (.pointer u)) (hk : 0 < k) (hm : k ≤ 9223372036854775807)
  (hva : (variablesAt a u k.toNat).run P w = .ok true w) (hlb : (loadBytes a .empty k.toNat).run P w = .ok s w) : (Builtin.unsafeString_ ts ty #[.pointer (some a),.int .i64 k]).run P w = .ok (.string s) (w.freeze a k.toNat) := by
 have h1 : ¬ k < 0 := by omega
 have h2 : ¬ (9223372036854775807 : Int) < k := by omega
 have h3 : k ≠ 0 := by omega
 show Sem.run P (asInt (.int .i64 k) >>= _) w = _
 simp [asInt,asIntOf,IntKind.signed,IntKind.bits,ht,h1,h3,elemOf,underlying,hel,hva,hlb,IntKind.max,Result.andThen,h2]
theorem splice_len (cs vs : List Value) (off : Nat) (h : off ≤ cs.length) : (splice cs off vs).length = max cs.length (off + vs.length) := by
 unfold splice; simp only [List.length_append,List.length_take,List.length_drop]; omega
theorem cellsR.splice1 {ρ : Nm} {cs : List Value} {C : Array Value} {base off : Nat} {v v' : Value} (h : cellsR ρ cs C base) (hv : VR ρ v v') (ho : v.oneCell' = true) (hoff : off ≤ cs.length) (hC : base + off < C.size) :
  cellsR ρ (splice cs off [v]) (C.setIfInBounds (base + off) v') base := by
 intro i u hu
 unfold splice at hu
 by_cases hi : i < off
 ·rw [List.append_assoc,List.getElem?_append_left (by rw [List.length_take]; omega),List.getElem?_take,if_pos hi] at hu
  obtain ⟨h1,u',h2,h3⟩ := h i u hu
  exact ⟨h1,u',by rw [Array.getElem?_setIfInBounds,if_neg (by omega)]; exact h2,h3⟩
 ·by_cases hi2 : i = off
  ·subst hi2
   have hl : (cs.take i).length = i := by rw [List.length_take]; omega
   rw [List.append_assoc,List.getElem?_append_right (by omega),hl,Nat.sub_self] at hu
   simp at hu
   subst hu
   exact ⟨ho,v',by rw [Array.getElem?_setIfInBounds,if_pos rfl,if_pos hC],hv⟩
  ·have hl : (cs.take off ++ [v]).length = off + 1 := by rw [List.length_append,List.length_take]; simp; omega
   rw [List.getElem?_append_right (by omega),hl,List.getElem?_drop] at hu
   obtain ⟨h1,u',h2,h3⟩ := h i u (by rw [← hu]; congr 1; simp; omega)
   exact ⟨h1,u',by rw [Array.getElem?_setIfInBounds,if_neg (by omega)]; exact h2,h3⟩
theorem splice_step (cs vs : List Value) (v : Value) (off : Nat) (h : off ≤ cs.length) : splice (splice cs off [v]) (off + 1) vs = splice cs off (v :: vs) := by
 unfold splice
 have hl : (cs.take off ++ [v]).length = off + 1 := by rw [List.length_append,List.length_take]; simp; omega
 rw [List.take_append_of_le_length (by omega),List.take_of_length_le (by omega)]
 have hd : (cs.take off ++ [v] ++ cs.drop (off + [v].length)).drop (off + 1 + vs.length) = cs.drop (off + (v :: vs).length) := by
  rw [List.drop_append,List.drop_of_length_le (by omega),hl,List.nil_append,List.drop_drop]
  congr 1; simp; omega
 rw [hd]; simp
theorem run_storeCells_g {P : Program} {ρ : Nm} {c base : Nat} {e : TypeId} {fz : Nat × Nat} : ∀ (vs vs' : List Value) (cs : List Value) (C : Array Value) (w : World) (o i : Nat),
  VRs ρ vs vs' → (∀ x ∈ vs,x.oneCell' = true) → w.heap[c]? = some (.cells C e fz) → cellsR ρ cs C base → o + i ≤ cs.length → base + o + i + vs.length ≤ C.size →
  (∀ j,o + i ≤ j → ¬ (fz.1 ≤ base + j ∧ base + j < fz.2)) →
  ∃ (w' : World) (C' : Array Value),(storeCells ⟨c,base + o,none⟩ vs' i).run P w = .ok () w' ∧ w'.heap[c]? = some (.cells C' e fz) ∧ C'.size = C.size ∧ cellsR ρ (splice cs (o + i) vs) C' base ∧
   w'.heap.size = w.heap.size ∧ (∀ k,k ≠ c → w'.heap[k]? = w.heap[k]?) ∧ w'.os = w.os ∧ w'.tape = w.tape ∧ w'.output = w.output
 | [],vs',cs,C,w,o,i,hv,_,hw,hc,_,_,_ => by
  cases hv
  exact ⟨w,C,by simp [storeCells],hw,rfl,by simpa [splice] using hc,rfl,fun _ _ => rfl,rfl,rfl,rfl⟩
 | v :: vs,vs',cs,C,w,o,i,hv,ho,hw,hc,hlen,hC,hf => by
  cases hv with
  | cons hv ht =>
   rename_i v' vs'
   simp at hC
   have hlt : base + (o + i) < C.size := by omega
   have h1 : C[base + (o + i)]? = some C[base + (o + i)] := Array.getElem?_eq_getElem hlt
   have hov : v.oneCell' = true := ho v (by simp)
   have hov' : v'.oneCell' = true := by rw [hv.oneCell]; exact hov
   have hcell : w.cell? ⟨c,base + o + i,none⟩ = some C[base + (o + i)] := by rw [cell_at hw,show base + o + i = base + (o + i) from by omega]; exact h1
   have hfz : w.frozen? ⟨c,base + o + i,none⟩ = false := by
    rw [frozen_at hw]
    have := hf (o + i) (Nat.le_refl _)
    simp only [Bool.and_eq_false_iff,decide_eq_false_iff_not]
    rw [show base + o + i = base + (o + i) from by omega]
    omega
   have hw1 : (w.setCell ⟨c,base + o + i,none⟩ v').heap[c]? = some (.cells (C.setIfInBounds (base + (o + i)) v') e fz) := by
    simp [World.setCell,Array.getElem?_modify,hw,show base + o + i = base + (o + i) from by omega]
   obtain ⟨w',C',hr,hw',hz',hc',hs,hk,g1,g2,g3⟩ := run_storeCells_g (P := P) vs vs' (splice cs (o + i) [v]) _ (w.setCell ⟨c,base + o + i,none⟩ v') o (i + 1) ht (fun x hx => ho x (by simp [hx])) hw1
    (hc.splice1 hv hov hlen hlt) (by rw [splice_len _ _ _ hlen]; simp; omega) (by simp; omega) (fun j hj => hf j (by omega))
   refine ⟨w',C',?_,hw',by rw [hz']; simp,?_,?_,?_,g1,g2,g3⟩
   ·rw [storeCells]
    simp only [Sem.run_bind,Addr_add]
    rw [run_store _ _ _ _ _ hov',hcell]
    simp only [hfz,Bool.false_eq_true,if_false,Result.andThen_ok]
    exact hr
   ·rw [← splice_step _ _ _ _ hlen]; rw [show o + i + 1 = o + (i + 1) from by omega]; exact hc'
   ·rw [hs]; simp
   ·intro k hk'
    rw [hk k hk']
    simp only [World.setCell,Array.getElem?_modify]
    rw [if_neg (by omega)]
section ops
variable {K : Cx} {ρ : Nm} {H : Heap} {w : World} (hr : Rel K ρ H w) {a : Act} {E : List Value} (he : EnvR ρ E a.tmps) {o : Oper}
include hr he
theorem s_toU {src dst t : TypeId} {x : Operand} (ho : o.op = .convert src dst x) (hx : okOpd K.G0 x = true) (h1 : K.P.underlying src = some (.pointer t)) (h2 : K.P.underlying dst = some .unsafePointer) {s : Nat} (hs : szOf K.P t = some s) (hs0 : s ≠ 0) {v : Value} {H' : Heap}
  (h : aop (.toU x) E H = .ok (v,H')) : Ran K ρ H w v H' ((execOp a.eval o).run K.P w) := by
 have hv := ev_rel hr he x hx
 have hsz : ∃ i,K.P.info? t = some i ∧ i.size = s := by
  unfold szOf at hs
  cases hi : K.P.info? t with
  | none => simp [hi] at hs
  | some i => simp [hi] at hs; exact ⟨i,rfl,hs⟩
 obtain ⟨i,hi,his⟩ := hsz
 simp only [aop] at h
 split at h
 ·rename_i hx'
  cases h
  rw [hx'] at hv
  have e1 : a.eval x = .pointer none := by generalize a.eval x = y at hv; cases hv; rfl
  exact ran_val hr (v' := .pointer none) (by simp [execOp,ho,e1,convert,underlying,h1,h2,Conv.unsafePointer]) .ptrNil
 ·rename_i p hx'
  rw [hx'] at hv
  obtain ⟨b,hb,hpr,hsp⟩ := hv.ptr_inv
  split at h
  ·rename_i cs fz ty hg
   split at h
   ·rename_i hlt
    cases h
    obtain ⟨c,base,size,hlive,hobj⟩ := hr.objs _ _ hg
    have eb := hpr.2 c base size hlive
    subst eb
    generalize hX : w.heap[c]? = X at hobj
    cases hobj with
    | row hc hcr hf hsz hbs hty =>
     rename_i C e fz'
     have hne : ¬ (C.size ≤ base + p.off) := by omega
     have hpv : VR ρ (.pointer (some p)) (.pointer (some ⟨c,base + p.off,none⟩)) := by rw [← hb]; exact hv
     refine ran_val hr (v' := .pointer (some ⟨c,base + p.off,none⟩)) ?_ hpv
     have hs0' : i.size ≠ 0 := by omega
     simp [execOp,ho,hb,convert,underlying,h1,h2,Conv.unsafePointer,run_seenAt_cells (a := ⟨c,base + p.off,none⟩) hX,run_cellsIn_cells hX,sizeOf,typeInfo,hi,hs0',hne,Result.andThen]
   ·cases h
  ·cases h
 ·cases h
theorem s_ofU {src dst u : TypeId} {x : Operand} (ho : o.op = .convert src dst x) (hx : okOpd K.G0 x = true) (h1 : K.P.underlying src = some .unsafePointer) (h2 : K.P.underlying dst = some (.pointer u)) {s : Nat} (hs : szOf K.P u = some s) (hs0 : s ≠ 0) {v : Value} {H' : Heap}
  (h : aop (.ofU x u s) E H = .ok (v,H')) : Ran K ρ H w v H' ((execOp a.eval o).run K.P w) := by
 have hv := ev_rel hr he x hx
 have hcells : K.P.cellsOf u = s := by
  unfold szOf at hs; unfold Program.cellsOf; rw [hs]; rfl
 have hsz : ∃ i,K.P.info? u = some i ∧ i.size = s := by
  unfold szOf at hs
  cases hi : K.P.info? u with
  | none => simp [hi] at hs
  | some i => simp [hi] at hs; exact ⟨i,rfl,hs⟩
 obtain ⟨i,hi,his⟩ := hsz
 simp only [aop] at h
 split at h
 ·rename_i hx'
  cases h
  rw [hx'] at hv
  have e1 : a.eval x = .pointer none := by generalize a.eval x = y at hv; cases hv; rfl
  exact ran_val hr (v' := .pointer none) (by simp [execOp,ho,e1,convert,underlying,h1,h2,Conv.unsafePointer]) .ptrNil
 ·rename_i p hx'
  rw [hx'] at hv
  obtain ⟨b,hb,hpr,hsp⟩ := hv.ptr_inv
  split at h
  ·rename_i cs fz e hg
   split at h
   ·rename_i hcond
    obtain ⟨rfl,k1,k2⟩ := hcond
    cases h
    obtain ⟨c,base,size,hlive,hobj⟩ := hr.objs _ _ hg
    have eb := hpr.2 c base size hlive
    subst eb
    generalize hX : w.heap[c]? = X at hobj
    cases hobj with
    | row hc hcr hf hsz hbs hty =>
     rename_i C e' fz'
     obtain ⟨rfl,rfl,_⟩ := hty e rfl
     simp only [Nat.zero_add] at hb
     have hpv : VR ρ (.pointer (some p)) (.pointer (some ⟨c,p.off,none⟩)) := by rw [← hb]; exact hv
     refine ran_val hr (v' := .pointer (some ⟨c,p.off,none⟩)) ?_ hpv
     have hle : cs.length / s ≤ C.size / s := Nat.div_le_div_right (by omega)
     have hva := run_variablesAt (P := K.P) (w := w) (a := ⟨c,p.off,none⟩) (n := 1) hX hcells hs0 k1 (by simp only; omega)
     simp [execOp,ho,hb,convert,underlying,h1,h2,Conv.unsafePointer,run_seenAt_cells (a := ⟨c,p.off,none⟩) hX,sizeOf,typeInfo,hi,hva,Result.andThen]
   ·cases h
  ·cases h
 ·cases h
theorem s_sdata {x : Operand} {args : Array Operand} {ts : Array TypeId} (ho : o.op = .call { callee := .builtin .unsafeSliceData,args := args,argTypes := ts }) (hargs : args.toList = [x]) (hx : okOpd K.G0 x = true) {v : Value} {H' : Heap}
  (h : aop (.sdata x) E H = .ok (v,H')) : Ran K ρ H w v H' ((execOp a.eval o).run K.P w) := by
 have hv := ev_rel hr he x hx
 have ea : args = #[x] := by apply Array.ext'; simpa using hargs
 subst ea
 simp only [aop] at h
 split at h
 ·rename_i n c hx'
  cases h
  rw [hx'] at hv
  rcases hv.slice_inv with ⟨_,_,_,e1⟩ | ⟨_,_,_,_,e0,_⟩
  ·exact ran_val hr (v' := .pointer none) (by simp [execOp,ho,resolve,invoke,builtin,e1,run_sdata_nil]) .ptrNil
  ·cases e0
 ·rename_i q n c hx'
  split at h
  ·cases h
  ·rename_i hc0
   cases h
   rw [hx'] at hv
   rcases hv.slice_inv with ⟨e0,_⟩ | ⟨q',sz,b,cap',e0,hsp,e1,hps,q1,q2,q3⟩
   ·cases e0
   ·cases e0
    have hcap : cap' ≠ 0 := by omega
    exact ran_val hr (v' := .pointer (some b)) (by simp [execOp,ho,resolve,invoke,builtin,e1,run_sdata_some _ _ _ _ _ hcap]) (.ptr (hps.pr (by omega)))
 ·cases h
theorem s_ustr {x n : Operand} {args : Array Operand} {ts : Array TypeId} {t u : TypeId} (ho : o.op = .call { callee := .builtin .unsafeString,args := args,argTypes := ts }) (hargs : args.toList = [x,n]) (hts : ts.toList.head? = some t)
  (hx : okOpd K.G0 x = true) (hn : okOpd K.G0 n = true) (h1 : K.P.underlying t = some (.pointer u)) (hs : szOf K.P u = some 1) {v : Value} {H' : Heap}
  (h : aop (.ustr x n u) E H = .ok (v,H')) : Ran K ρ H w v H' ((execOp a.eval o).run K.P w) := by
 have hvx := ev_rel hr he x hx
 have hvn := ev_rel hr he n hn
 have hcells : K.P.cellsOf u = 1 := by unfold szOf at hs; unfold Program.cellsOf; rw [hs]; rfl
 have ea : args = #[x,n] := by apply Array.ext'; simpa using hargs
 subst ea
 have ht0 : ts[0]? = some t := by
  obtain ⟨l⟩ := ts
  cases l with
  | nil => simp at hts
  | cons y l => simpa using hts
 have hexec : (execOp a.eval o).run K.P w = ((Builtin.unsafeString_ ts o.type #[a.eval x,a.eval n]).run K.P w).andThen fun v w' => .ok (.value v) w' := by
  simp [execOp,ho,resolve,invoke,builtin]
 simp only [aop] at h
 split at h
 ·rename_i k hx' hn'
  split at h
  ·rename_i hk
   subst hk
   cases h
   rw [hx'] at hvx
   rw [hn'] at hvn
   have e1 : a.eval x = .pointer none := by generalize a.eval x = y at hvx; cases hvx; rfl
   exact ran_val hr (v' := .string .empty) (by rw [hexec,e1,hvn.int_inv,run_ustr_zero ht0]; rfl) (.string _)
  ·cases h
 ·rename_i p k hx' hn'
  rw [hx'] at hvx
  rw [hn'] at hvn
  obtain ⟨b,hb,hpr,hsp⟩ := hvx.ptr_inv
  split at h
  ·rename_i hk
   subst hk
   cases h
   exact ran_val hr (v' := .string .empty) (by rw [hexec,hb,hvn.int_inv,run_ustr_zero ht0]; rfl) (.string _)
  ·split at h
   ·rename_i hk0 hkp
    split at h
    ·rename_i cs fz e hg
     split at h
     ·rename_i hcond
      obtain ⟨rfl,k2,k3⟩ := hcond
      split at h
      ·rename_i l hl
       cases h
       obtain ⟨c,base,size,hlive,hobj⟩ := hr.objs _ _ hg
       have eb := hpr.2 c base size hlive
       subst eb
       generalize hX : w.heap[c]? = X at hobj
       cases hobj with
       | row hc hcr hf hsz hbs hty =>
        rename_i C e' fz'
        obtain ⟨rfl,rfl,hlohi⟩ := hty e rfl
        obtain ⟨lo,hi⟩ := fz'
        simp only [Nat.zero_add] at hb
        obtain ⟨ns,hns,rfl⟩ := bytesOf_inv _ _ hl
        have hnl : ns.length = k.toNat := by
         have := congrArg List.length hns
         simp only [List.length_take,List.length_drop,List.length_map] at this
         omega
        have hcell : ∀ (j : Nat) (n : Int),ns[j]? = some n → w.cell? ⟨c,p.off + j,none⟩ = some (.int .u8 n) := by
         intro j n hj
         have hj2 : ((cs.drop p.off).take k.toNat)[j]? = some (.int .u8 n) := by rw [hns]; simp [hj]
         have hjl : j < k.toNat := by
          rcases Nat.lt_or_ge j ns.length with hh | hh
          ·omega
          ·rw [List.getElem?_eq_none hh] at hj; cases hj
         rw [List.getElem?_take,if_pos hjl,List.getElem?_drop] at hj2
         obtain ⟨_,v',g1,g2⟩ := hcr _ _ hj2
         rw [cell_at hX]
         rw [Nat.zero_add] at g1
         rw [g1,g2.int_inv]
        have hk1 : 0 < k.toNat := by omega
        have hlb : (loadBytes ⟨c,p.off,none⟩ .empty k.toNat).run K.P w = .ok ⟨(ns.map fun n => UInt8.ofNat n.toNat).toArray⟩ w := by
         rw [← hnl,run_loadBytes ns p.off .empty hcell]
         have := foldl_push_bytes ns []
         simp only [List.nil_append] at this
         rw [← this]; rfl
        have hva := run_variablesAt (P := K.P) (w := w) (a := ⟨c,p.off,none⟩) (n := k.toNat) hX hcells (by decide) (Nat.mod_one _) (by simp only [Nat.div_one]; omega)
        have hrun := run_ustr (ty := o.type) ht0 h1 hkp k3 hva hlb
        have hsz0 : c < w.heap.size := by
         rcases Nat.lt_or_ge c w.heap.size with hh | hh
         ·exact hh
         ·rw [Array.getElem?_eq_none hh] at hX; cases hX
        have hfr : (w.freeze ⟨c,p.off,none⟩ k.toNat).heap[c]? = some (.cells C e' (if lo == hi then (p.off,p.off + k.toNat) else (min lo p.off,max hi (p.off + k.toNat)))) := by
         unfold World.freeze
         rw [if_neg (by omega)]
         simp only
         rw [Array.getElem?_modify,if_pos rfl,hX]
         rfl
        have hoth : ∀ j,j ≠ c → (w.freeze ⟨c,p.off,none⟩ k.toNat).heap[j]? = w.heap[j]? := by
         intro j hj
         unfold World.freeze
         rw [if_neg (by omega)]
         simp only
         rw [Array.getElem?_modify,if_neg (Ne.symm hj)]
        have hsame : (w.freeze ⟨c,p.off,none⟩ k.toNat).heap.size = w.heap.size ∧ (w.freeze ⟨c,p.off,none⟩ k.toNat).os = w.os ∧ (w.freeze ⟨c,p.off,none⟩ k.toNat).tape = w.tape ∧ (w.freeze ⟨c,p.off,none⟩ k.toNat).output = w.output := by
         unfold World.freeze
         rw [if_neg (by omega)]
         exact ⟨by simp,rfl,rfl,rfl⟩
        obtain ⟨R,S⟩ := hr.turn (w' := w.freeze ⟨c,p.off,none⟩ k.toNat) (o' := .row cs (max fz (p.off + k.toNat)) (some e')) hg rfl hlive hsame.1 hoth
         (by
          rw [hfr]
          refine .row hc hcr (fun i hi' => ?_) hsz hbs (fun t ht => ?_)
          ·by_cases hlh : lo = hi
           ·simp only [hlh,beq_self_eq_true,if_true]; omega
           ·rw [if_neg (by simpa using hlh)]
            simp only
            rintro ⟨g1,g2⟩
            have g3 : i < hi := by omega
            have := hf (hi - 1) (by omega)
            simp only at this hlohi
            omega
          ·cases ht
           refine ⟨rfl,rfl,?_⟩
           by_cases hlh : lo = hi
           ·simp only [hlh,beq_self_eq_true,if_true]; omega
           ·rw [if_neg (by simpa using hlh)]
            simp only at hlohi ⊢
            omega) hsame.2.1 hsame.2.2.1 hsame.2.2.2
        exact ⟨.string _,w.freeze ⟨c,p.off,none⟩ k.toNat,ρ,.inl (by rw [hexec,hb,hvn.int_inv,hrun]; rfl),.string _,R,S⟩
      ·cases h
     ·cases h
    ·cases h
   ·cases h
 ·cases h
theorem s_copy {x y : Operand} {args : Array Operand} {ts : Array TypeId} {t e : TypeId} (ho : o.op = .call { callee := .builtin .copy,args := args,argTypes := ts }) (hargs : args.toList = [x,y]) (hts : ts.toList.head? = some t)
  (hx : okOpd K.G0 x = true) (hy : okOpd K.G0 y = true) (hu : K.P.underlying t = some (.slice e)) {sz : Nat} (hs : szOf K.P e = some sz) {v : Value} {H' : Heap}
  (h : aop (.copyS x y sz) E H = .ok (v,H')) : Ran K ρ H w v H' ((execOp a.eval o).run K.P w) := by
 have hvx := ev_rel hr he x hx
 have hvy := ev_rel hr he y hy
 have ea : args = #[x,y] := by apply Array.ext'; simpa using hargs
 subst ea
 have ht0 : ts[0]? = some t := by
  obtain ⟨l⟩ := ts
  cases l with
  | nil => simp at hts
  | cons y l => simpa using hts
 have hsz : ∃ i,K.P.info? e = some i ∧ i.size = sz := by
  unfold szOf at hs
  cases hi : K.P.info? e with
  | none => simp [hi] at hs
  | some i => simp [hi] at hs; exact ⟨i,rfl,hs⟩
 obtain ⟨i,hi,his⟩ := hsz
 have hexec : (execOp a.eval o).run K.P w = ((Builtin.copy_ ts o.type #[a.eval x,a.eval y]).run K.P w).andThen fun v w' => .ok (.value v) w' := by
  simp [execOp,ho,resolve,invoke,builtin]
 simp only [aop] at h
 split at h
 ·rename_i da n cd sb m cs' hx' hy'
  rw [hx'] at hvx
  rw [hy'] at hvy
  have hX : ∃ da' cd',a.eval x = .slice da' n cd' := by
   rcases hvx.slice_inv with ⟨rfl,rfl,rfl,e1⟩ | ⟨_,_,_,_,rfl,_,e1,_⟩ <;> exact ⟨_,_,e1⟩
  have hY : ∃ sb' cs'',a.eval y = .slice sb' m cs'' := by
   rcases hvy.slice_inv with ⟨rfl,rfl,rfl,e1⟩ | ⟨_,_,_,_,rfl,_,e1,_⟩ <;> exact ⟨_,_,e1⟩
  split at h
  ·rename_i hk
   cases h
   obtain ⟨da',cd',e1⟩ := hX
   obtain ⟨sb',cs'',e2⟩ := hY
   refine ran_val hr (v' := .int .i64 0) ?_ (.int _ _)
   have hf : (Builtin.firstCells i.size 0 (.slice sb' m cs'')).run K.P w = .ok #[] w := by cases sb' <;> simp [Builtin.firstCells,loadCells,loadCellsFrom]
   have hk' : Nat.min m n = 0 := hk
   rw [hexec,e1,e2]
   cases da' <;> simp [Builtin.copy_,ht0,underlying,hu,sizeOf,typeInfo,hi,Builtin.lenOf,hk',hf,storeCells,goInt,Result.andThen]
  ·rename_i hk
   split at h
   ·rename_i qa qb
    split at h
    ·rename_i xs cs fz ty hxs hg
     split at h
     ·rename_i hcond
      obtain ⟨k1,k2,k3⟩ := hcond
      cases h
      rcases hvx.slice_inv with ⟨e0,_⟩ | ⟨_,sza,a',cda,e0,hspa,e1,hpsa,a1,a2,a3⟩
      ·cases e0
      cases e0
      rcases hvy.slice_inv with ⟨e0,_⟩ | ⟨_,szb,b',cdb,e0,hspb,e2,hpsb,b1,b2,b3⟩
      ·cases e0
      cases e0
      have hpa := hpsa.pr (by omega)
      have hpb := hpsb.pr (by omega)
      obtain ⟨l',g1,g2,g3,g4,g5,_⟩ := hr.cells hxs hpb
      have hb' : b' = ⟨b'.block,b'.off,none⟩ := by cases b'; simp at g4; simp [g4]
      have hf : (Builtin.firstCells i.size (min m n) (.slice (some b') m cdb)).run K.P w = .ok l'.toArray w := by
       simp only [Builtin.firstCells]; rw [hb',his]; exact run_loadCells l' g1 g5
      obtain ⟨c,base,size,hlive,hobj⟩ := hr.objs _ _ hg
      have eb := hpa.2 c base size hlive
      subst eb
      generalize hXc : w.heap[c]? = X at hobj
      cases hobj with
      | row hc hcr hf' hsz hbs hty =>
       rename_i C e' fz'
       have hxl : xs.length = min m n * sz := by rw [← g1]; exact g2.length.symm
       have hsp : sza = sz := by rw [hspa] at k3; exact Option.some.inj k3
       have hroom : base + qa.off + cda * sz ≤ size := by rw [← hsp]; exact (hpsa.2 c base size hlive).1
       have hmul : min m n * sz ≤ cda * sz := Nat.mul_le_mul_right _ (by omega)
       obtain ⟨w',C',r1,r2,r0,r3,r4,r5,r6,r7,r8⟩ := run_storeCells_g (P := K.P) xs l' cs C w qa.off 0 g2 g3 hXc hcr (by omega) (by rw [hsz]; omega) (fun j hj => hf' j (by omega))
       rw [Nat.add_zero] at r3
       have hn : base + (splice cs qa.off xs).length ≤ size := by
        rw [splice_len _ _ _ k1]; omega
       obtain ⟨R,S⟩ := hr.turn (w' := w') (o' := .row (splice cs qa.off xs) fz ty) hg rfl hlive r4 r5
        (by rw [r2]; exact .row hc r3 hf' (by rw [r0]; exact hsz) hn hty) r6 r7 r8
       refine ⟨.int .i64 (min m n : Nat),w',ρ,.inl ?_,.int _ _,R,S⟩
       have hmn : Nat.min m n = min m n := rfl
       rw [hexec,e1,e2]
       simp [Builtin.copy_,ht0,underlying,hu,sizeOf,typeInfo,hi,Builtin.lenOf,hmn,hf,r1,goInt,Result.andThen]
     ·cases h
    ·cases h
   ·cases h
 ·cases h
end ops
end Go.Ae
namespace Go.Ae
open Go
def appzO (s x : Value) (sz : Nat) (zero : List Value) (H : Heap) : Option ((Value × Heap) × (Value × Heap)) :=
 match s,x with
 | .slice (some q) k _,.int .i64 m =>
  match H.get q.block with
  | some (.row cs fz ty) =>
   if 0 < m ∧ k + m.toNat ≤ appMax ∧ q.spot = some sz ∧ q.off + k * sz ≤ cs.length ∧ fz ≤ q.off + k * sz then
    some ((sliceOf H.next 0 sz (k + m.toNat) (k + m.toNat),H.push (.row ((cs.drop q.off).take (k * sz) ++ (List.range (m.toNat * sz)).map fun j => zero.getD (j % sz) undef) 0 none)),
     (sliceOf q.block q.off sz (k + m.toNat) (k + m.toNat),H.set q.block (some (.row (cs.take (q.off + k * sz) ++ ((List.range (m.toNat * sz)).map fun j => zero.getD (j % sz) undef) ++ cs.drop (q.off + (k + m.toNat) * sz)) fz ty))))
   else none
  | _ => none
 | _,_ => none
section
variable {P : Program} {w : World}
theorem run_appz_in {t tn ty e : TypeId} {i : TypeInfo} {z : Value} {kq kn : IntKind} (ht : P.underlying t = some (.slice e)) (htn : P.underlying tn = some (.int kn)) (hi : P.info? e = some i) (hz0 : i.zero = some z)
  {b : Addr} {n cap k : Nat} {w' : World} (h0 : 0 < k) (hs : 0 < i.size) (hin : n + k ≤ cap) (h63 : k ≤ 1099511627776) (h48 : k * i.bytes ≤ 281474976710656)
  (hst : (storeCells (b.add (n * i.size)) (Builtin.zeroCells z.cells k).toList).run P w = .ok () w') :
  (Builtin.append_ #[t,tn] ty #[.slice (some b) n cap,.int kq k]).run P w = .ok (.slice (some b) (n + k) cap) w' := by
 have hk : k ≠ 0 := by omega
 have hw : IntKind.i64.wrap (k : Int) = k := by rw [IntKind.wrap_i64]; omega
 have h48i : ¬ (281474976710656 < (k : Int) * (i.bytes : Int)) := by
  rw [← Int.natCast_mul]
  omega
 have hneg : ¬ ((k : Int) < 0) := by omega
 have hns : ¬ (k * i.size = 0) := Nat.mul_ne_zero hk (by omega)
 simp [Builtin.append_,run_underlying ht,run_underlying htn,sizeOf,typeInfo,zeroValue,hi,hz0,asInt,asIntOf,hw,hneg,hns,h48i,hin,hst]
theorem run_appz_grow {t tn ty e : TypeId} {i : TypeInfo} {z : Value} {kq kn : IntKind} (ht : P.underlying t = some (.slice e)) (htn : P.underlying tn = some (.int kn)) (hi : P.info? e = some i) (hz : i.zero = some z)
  {base : Option Addr} {sLen sCap k : Nat} {old : Array Value} (hold : (Builtin.firstCells i.size sLen (.slice base sLen sCap)).run P w.drew = .ok old w.drew)
  (h0 : 0 < k) (hs : 0 < i.size) (hg : sCap < sLen + k) (h63 : ((sLen + k : Nat) : Int) ≤ 9223372036854775807) (h48 : k * i.bytes ≤ 281474976710656) (hfit : Builtin.nextslicecap (sLen + k) sCap * i.bytes ≤ 281474976710656) :
  (Builtin.append_ #[t,tn] ty #[.slice base sLen sCap,.int kq k]).run P w =
   .ok (.slice (some ⟨w.heap.size,0,none⟩) (sLen + k) (grownCap w (sLen + k) sCap e))
    (w.drew.alloc (.cells (old ++ Builtin.zeroCells z.cells k ++ Builtin.zeroCells z.cells (grownCap w (sLen + k) sCap e - (sLen + k))) e)) := by
 have hk : k ≠ 0 := by omega
 have hw : IntKind.i64.wrap (k : Int) = k := by rw [IntKind.wrap_i64]; omega
 have hn : ¬ (sLen + k ≤ sCap) := by omega
 have h63' : ¬ (9223372036854775807 < ((sLen : Int) + (k : Int))) := by omega
 have h48' : ¬ (281474976710656 < Builtin.nextslicecap (sLen + k) sCap * i.bytes) := by omega
 have h48i : ¬ (281474976710656 < (k : Int) * (i.bytes : Int)) := by
  rw [← Int.natCast_mul]
  omega
 have hneg : ¬ ((k : Int) < 0) := by omega
 have hns : ¬ (k * i.size = 0) := Nat.mul_ne_zero hk (by omega)
 simp [Builtin.append_,run_underlying ht,run_underlying htn,sizeOf,typeInfo,zeroValue,hi,hz,asInt,asIntOf,hw,hn,hneg,hns,h63',h48',h48i,Question.forced,hold,newRow,grownCap]
end
section ops
variable {K : Cx} {ρ : Nm} {H : Heap} {w : World} (hr : Rel K ρ H w) {a : Act} {E : List Value} (he : EnvR ρ E a.tmps) {o : Oper}
include hr he
theorem s_appz {t tx e : TypeId} {kn : IntKind} {i : TypeInfo} {z : Value} {s x : Operand} {args : Array Operand} {ts : Array TypeId} (ho : o.op = .call { callee := .builtin .append,args := args,argTypes := ts }) (hargs : args.toList = [s,x]) (hts : ts.toList = [t,tx])
  (hs : okOpd K.G0 s = true) (hx : okOpd K.G0 x = true)
  (ht : K.P.underlying t = some (.slice e)) (htx : K.P.underlying tx = some (.int kn)) (hi : K.P.info? e = some i) (hz : zeroOf K.P e = some z) (hzi : i.zero = some z) (hzs : z.cells.toList.length = i.size) (hb1 : 1 ≤ i.bytes) (hb2 : i.bytes ≤ 4096) (hs1 : 1 ≤ i.size)
  {r1 r2 : Value × Heap} (h : appzO (ev E s) (ev E x) i.size z.cells.toList H = some (r1,r2)) :
  Ran K ρ H w r1.1 r1.2 ((execOp a.eval o).run K.P w) ∨ Ran K ρ H w r2.1 r2.2 ((execOp a.eval o).run K.P w) := by
 have h1 := ev_rel hr he s hs
 have h2 := ev_rel hr he x hx
 obtain ⟨hz1,hz2,hz3⟩ := zero_run (w := w) hr he hz
 have ea : args = #[s,x] := by apply Array.ext'; simpa using hargs
 have et : ts = #[t,tx] := by apply Array.ext'; simpa using hts
 subst ea; subst et
 have hexec : (execOp a.eval o).run K.P w = ((Builtin.append_ #[t,tx] o.type #[a.eval s,a.eval x]).run K.P w).andThen fun v w' => .ok (.value v) w' := by
  simp [execOp,ho,resolve,invoke,builtin]
 unfold appzO at h
 split at h
 rotate_left
 ·cases h
 rename_i q k cap m es ex
 rw [es] at h1
 rw [ex] at h2
 have e2 := h2.int_inv
 split at h
 rotate_left
 ·cases h
 rename_i cs fz ty hcs
 split at h
 rotate_left
 ·cases h
 rename_i hcond
 obtain ⟨m0,k1,k2,k3,k4⟩ := hcond
 obtain ⟨m,rfl⟩ := Int.eq_ofNat_of_zero_le (show 0 ≤ m by omega)
 simp only [Int.toNat_natCast] at k1 h
 cases h
 have hm0 : 0 < m := by omega
 rcases h1.slice_inv with ⟨hq,_⟩ | ⟨q',sz',b,cap',hq,hsp,e1,hps,c1,c2,c3⟩
 ·cases hq
 cases hq
 rw [hsp] at k2
 cases k2
 obtain ⟨zr1,zr2⟩ := zero_row (ρ := ρ) hr he hz2 hz3 hs1 hzs (m * i.size)
 have hrz := range_zero hr he (z := z.cells) hs1 hzs (m * i.size)
 obtain ⟨c,bs,size,hlive,hobj⟩ := hr.objs _ _ hcs
 obtain ⟨p1,p2⟩ := hps.2 c bs size hlive
 have hzsz : z.cells.size = i.size := by simpa using hzs
 have hznew : (Builtin.zeroCells z.cells m).toList = (List.range (m * i.size)).map fun j => z.cells.toList.getD (j % i.size) undef := by
  rw [← hrz]
  unfold Builtin.zeroCells
  rw [hzsz]
 have h48 : m * i.bytes ≤ 281474976710656 := by
  unfold appMax at k1
  calc m * i.bytes ≤ 1073741824 * 4096 := Nat.mul_le_mul (by omega) hb2
   _ ≤ 281474976710656 := by omega
 generalize hX : w.heap[c]? = X at hobj
 cases hobj with
 | row hc0 hcr hf hsz hbs hty =>
  rename_i C e' fzc
  by_cases hin : k + m ≤ cap'
  ·
   right
   have hb : b = ⟨c,bs + q.off,none⟩ := by
    rcases p2 with p2 | ⟨p2,_⟩
    ·exact p2
    ·omega
   subst hb
   have hsz2 : (k + m) * i.size ≤ cap' * i.size := Nat.mul_le_mul_right _ hin
   rw [Nat.add_mul] at hsz2
   have hzl : (Builtin.zeroCells z.cells m).toList.length = m * i.size := by rw [hznew]; simp
   obtain ⟨w',C',s1,s2,s3,s4,s5,s6,s7,s8⟩ := run_storeRaw (P := K.P) (Builtin.zeroCells z.cells m).toList C w (bs + q.off + k * i.size) 0 (by rw [hznew]; exact zr2) hX (by rw [hzl]; omega)
    (fun j hj => by
     have := hf (j - bs) (by omega)
     rw [show bs + (j - bs) = j from by omega] at this
     exact this)
   rw [Nat.add_zero,setL_splice _ _ _ (by rw [hzl,Array.length_toList]; omega)] at s3
   have hrun : (Builtin.append_ #[t,tx] o.type #[a.eval s,a.eval x]).run K.P w = .ok (.slice (some ⟨c,bs + q.off,none⟩) (k + m) cap') w' := by
    rw [e1,e2]
    exact run_appz_in ht htx hi hzi hm0 (by omega) hin (by unfold appMax at k1; omega) h48 (by rw [Addr_add]; exact s1)
   have hC's : C'.size = size := by
    have := congrArg List.length s3
    unfold splice at this
    simp only [Array.length_toList,List.length_append,List.length_take,List.length_drop,zeroCells_size,hzsz] at this
    have hle : bs + q.off + k * i.size ≤ C.size := by omega
    rw [Nat.min_eq_left hle] at this
    omega
   have hC'e : ∀ j,C'[j]? = (splice C.toList (bs + q.off + k * i.size) ((List.range (m * i.size)).map fun j => z.cells.toList.getD (j % i.size) undef))[j]? := fun j => by rw [← Array.getElem?_toList,s3,hznew]
   have hZl : ((List.range (m * i.size)).map fun j => z.cells.toList.getD (j % i.size) undef).length = m * i.size := by simp
   revert hC'e hZl zr1 zr2
   generalize ((List.range (m * i.size)).map fun j => z.cells.toList.getD (j % i.size) undef) = Z
   intro zr1 zr2 hC'e hZl
   have hlenT : (C.toList.take (bs + q.off + k * i.size)).length = bs + q.off + k * i.size := by rw [List.length_take,Array.length_toList]; omega
   have hlenA : (cs.take (q.off + k * i.size)).length = q.off + k * i.size := by rw [List.length_take]; omega
   have hmul : (k + m) * i.size = k * i.size + m * i.size := Nat.add_mul _ _ _
   have hcells : cellsR ρ (cs.take (q.off + k * i.size) ++ Z ++ cs.drop (q.off + (k + m) * i.size)) C' bs := by
    intro j v hv
    rw [hC'e]
    unfold splice
    rw [List.append_assoc] at hv ⊢
    rw [List.getElem?_append,hlenA] at hv
    split at hv
    ·rename_i hj
     rw [List.getElem?_take,if_pos hj] at hv
     obtain ⟨g0,v',g1,g2⟩ := hcr j v hv
     refine ⟨g0,v',?_,g2⟩
     rw [List.getElem?_append_left (by omega),List.getElem?_take,if_pos (by omega)]
     simpa using g1
    ·rename_i hj
     rw [List.getElem?_append,hZl] at hv
     split at hv
     ·rename_i hj2
      obtain ⟨v',g1,g2⟩ := zr1.get hv
      have hz := VRs.length zr1
      refine ⟨zr2 v (List.mem_of_getElem? hv),v,?_,?_⟩
      ·rw [List.getElem?_append_right (by omega),hlenT,List.getElem?_append_left (by omega),← hv]
       congr 1; omega
      ·have : v' = v := by rw [hv] at g1; cases g1; rfl
       subst this; exact g2
     ·rename_i hj2
      rw [List.getElem?_drop] at hv
      obtain ⟨g0,v',g1,g2⟩ := hcr _ v hv
      refine ⟨g0,v',?_,g2⟩
      rw [List.getElem?_append_right (by omega),hlenT,List.getElem?_append_right (by omega),hZl,List.getElem?_drop,← g1]
      simp only [Array.getElem?_toList]
      congr 1; omega
   have hX' : w'.heap[c]? = some (.cells C' e' fzc) := s2
   obtain ⟨R,S⟩ := hr.turn (w' := w') (o' := .row (cs.take (q.off + k * i.size) ++ Z ++ cs.drop (q.off + (k + m) * i.size)) fz ty) hcs rfl hlive s4 s5 (by
    rw [hX']
    refine .row hc0 hcells hf hC's ?_ hty
    simp only [List.length_append,hlenA,hZl,List.length_drop]
    omega) s6 s7 s8
   refine ⟨_,w',ρ,.inl (by rw [hexec,hrun]; rfl),.slice ⟨hps.1,fun c2 base2 size2 hl => ?_⟩ (Nat.le_refl _) hin c3,R,S⟩
   rw [hlive] at hl
   cases hl
   exact ⟨p1,.inl rfl⟩
  ·
   left
   have hold : ∃ old : Array Value,VRs ρ ((cs.drop q.off).take (k * i.size)) old.toList ∧ (Builtin.firstCells i.size k (.slice (some b) k cap')).run K.P w.drew = .ok old w.drew ∧ old.toList.length = k * i.size := by
    obtain ⟨l,l1,l2,l3⟩ := hcr.list q.off (k * i.size) k3
    refine ⟨l.toArray,by simpa using l2,?_,by simpa using l1⟩
    simp only [Builtin.firstCells]
    rcases p2 with p2 | ⟨p2,o',ho',p3⟩
    ·subst p2
     refine run_loadCells l l1 fun j v hj => ?_
     have hX2 : w.drew.heap[c]? = some (.cells C e' fzc) := hX
     rw [cell_at hX2]; exact l3 j v hj
    ·have hn : k = 0 := by omega
     subst hn
     have hl0 : l = [] := by simpa using l1
     subst hl0
     simp [loadCells,loadCellsFrom]
   obtain ⟨old,o1,o2,o4⟩ := hold
   have hfit : Builtin.nextslicecap (k + m) cap' * i.bytes ≤ 281474976710656 := by
    have := nextcap_le (need := k + m) (old := cap') (by omega)
    unfold appMax at k1
    have h3 : Builtin.nextslicecap (k + m) cap' ≤ 1342178000 := by omega
    calc Builtin.nextslicecap (k + m) cap' * i.bytes ≤ 1342178000 * 4096 := Nat.mul_le_mul h3 hb2
     _ ≤ 281474976710656 := by omega
   have hcap : grownCap w (k + m) cap' e ≤ maxRow := by
    have := grownCap_le_maxLen w (k + m) cap' e (by unfold appMax at k1; unfold maxLen; omega)
    unfold maxLen at this
    unfold maxRow; omega
   have hge := grown_ge w (k + m) cap' e
   have hrun := run_appz_grow (P := K.P) (w := w) (ty := o.type) (kq := .i64) ht htx hi hzi o2 hm0 (by omega) (by omega) (by unfold appMax at k1; omega) h48 hfit
   rw [← e1,← e2] at hrun
   have hl2 : ((cs.drop q.off).take (k * i.size) ++ (List.range (m * i.size)).map fun j => z.cells.toList.getD (j % i.size) undef).length = k * i.size + m * i.size := by
    rw [List.length_append,List.length_take,List.length_drop,List.length_map,List.length_range]; omega
   have hrel : VRs ρ ((cs.drop q.off).take (k * i.size) ++ (List.range (m * i.size)).map fun j => z.cells.toList.getD (j % i.size) undef) (old ++ Builtin.zeroCells z.cells m).toList := by
    rw [Array.toList_append,hznew]; exact o1.append zr1
   obtain ⟨ρ',R,S,hpr,hlv⟩ := hr.drew.newRow (e := e) (l := (cs.drop q.off).take (k * i.size) ++ (List.range (m * i.size)).map fun j => z.cells.toList.getD (j % i.size) undef) (C := old ++ Builtin.zeroCells z.cells m ++ Builtin.zeroCells z.cells (grownCap w (k + m) cap' e - (k + m))) 0 (ty := none) (fun t h => by cases h)
    (by
     have e3 : (old ++ Builtin.zeroCells z.cells m ++ Builtin.zeroCells z.cells (grownCap w (k + m) cap' e - (k + m))).toList.take ((cs.drop q.off).take (k * i.size) ++ (List.range (m * i.size)).map fun j => z.cells.toList.getD (j % i.size) undef).length = (old ++ Builtin.zeroCells z.cells m).toList := by
      rw [Array.toList_append,← hrel.length,List.take_left]
     rw [e3]
     exact hrel)
    (by
     intro y hy
     rcases List.mem_append.1 hy with hy | hy
     ·exact hcr.one _ _ y hy
     ·exact zr2 y hy)
   refine ⟨_,_,ρ',.inl (by rw [hexec,hrun]; rfl),.slice ⟨hpr.1,fun c2 base2 size2 hl => ?_⟩ (Nat.le_refl _) (by omega) hcap,R,(Step.same rfl rfl rfl rfl : Step _ _ w _ _ w.drew).trans S⟩
   rw [hlv] at hl
   cases hl
   refine ⟨?_,.inl rfl⟩
   have e2 : (grownCap w (k + m) cap' e - (k + m)) * i.size + (k * i.size + m * i.size) = grownCap w (k + m) cap' e * i.size := by rw [← Nat.add_mul,← Nat.add_mul]; congr 1; omega
   have e5 : (Builtin.zeroCells z.cells m).size = m * i.size := by rw [zeroCells_size,hzsz]
   simp only [Array.size_append,zeroCells_size,hzsz]
   simp at o4
   omega
end ops
end Go.Ae
