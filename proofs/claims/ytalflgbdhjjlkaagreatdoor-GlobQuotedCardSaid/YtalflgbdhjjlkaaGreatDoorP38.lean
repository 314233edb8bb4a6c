/- Part 38 of the proof of the law: Cw1, Cw2, Cw3, Cw4, Cw5. No condition. -/
import Derived.Test.YtalflgbdhjjlkaaGreatDoorP37
import Derived.ProofKit
import Derived.Test.YtalflgbdhjjlkaaGreatDoorProg
set_option linter.all false
namespace Go.Ae
open Go
set_option maxRecDepth 100000
theorem mapM_some {α β : Type} {f : α → Option β} : ∀ {l : List α} {ys : List β},l.mapM f = some ys → ∀ x ∈ l,∃ y,f x = some y
  | [],_,_,x,hx => by simp at hx
  | a :: l,ys,h,x,hx => by
    rw [List.mapM_cons] at h
    cases hf : f a with
    | none => rw [hf] at h; simp at h
    | some b =>
      rw [hf] at h
      cases hm : l.mapM f with
      | none => rw [hm] at h; simp at h
      | some bs =>
        rcases List.mem_cons.1 hx with rfl | hx
        · exact ⟨b,hf⟩
        · exact mapM_some hm x hx
theorem mapM_list {α β : Type} {f : α → Option β} : ∀ {l : List α} {ys : List β},l.mapM f = some ys → ys.length = l.length ∧ ∀ i (h : i < l.length) (h' : i < ys.length),f l[i] = some ys[i]
  | [],ys,h => by
    simp at h; subst h; exact ⟨rfl,fun i h => by simp at h⟩
  | a :: l,ys,h => by
    rw [List.mapM_cons] at h
    cases hf : f a with
    | none => rw [hf] at h; simp at h
    | some b =>
      rw [hf] at h
      cases hm : l.mapM f with
      | none => rw [hm] at h; simp at h
      | some bs =>
        rw [hm] at h
        simp at h; subst h
        obtain ⟨h1,h2⟩ := mapM_list hm
        refine ⟨by simp [h1],fun i hi hi' => ?_⟩
        cases i with
        | zero => simpa using hf
        | succ i => simpa using h2 i (by simpa using hi) (by simpa using hi')
section
variable {H : Type} {enc : TypeId × Value → H} {P : Program} {w : World} {fuel : Nat} {t e : TypeId} {cs : List Value} {x : DataW H × List MemPlace}
theorem tr_string (ht : P.underlying t = some .string) (h : DataW.trod enc P w 0 (fun _ => true) true fuel t cs = some x) : ∃ s,cs = [.string s] ∧ s.size ≤ maxLen := by
  cases fuel with
  | zero => simp [DataW.trod] at h
  | succ fuel =>
    unfold DataW.trod at h
    rw [ht] at h
    split at h <;> try (rename_i hq; cases hq; done)
    all_goals first
      | (rename_i s hq; split at h <;> first | exact ⟨s,rfl,by assumption⟩ | cases h)
      | cases h
theorem tr_int {k : IntKind} (ht : P.underlying t = some (.int k)) (h : DataW.trod enc P w 0 (fun _ => true) true fuel t cs = some x) : ∃ n,cs = [.int k n] := by
  cases fuel with
  | zero => simp [DataW.trod] at h
  | succ fuel =>
    unfold DataW.trod at h
    rw [ht] at h
    split at h <;> try (rename_i hq; cases hq; done)
    all_goals first
      | (rename_i hq; cases hq; split at h <;> first | (rename_i hc; obtain ⟨rfl,_⟩ := hc; exact ⟨_,rfl⟩) | cases h)
      | cases h
theorem tr_slice (ht : P.underlying t = some (.slice e)) (h : DataW.trod enc P w 0 (fun _ => true) true fuel t cs = some x) :
    cs = [.slice none 0 0] ∨ ∃ a n c fuel',cs = [.slice (some a) n c] ∧ n ≤ c ∧ c ≤ maxLen ∧
      ∀ i,i < c → ∃ l y,w.cells? 0 (a.add (i * P.cellsOf e)) (P.cellsOf e) = some l ∧ DataW.trod enc P w 0 (fun _ => true) true fuel' e l = some y := by
  cases fuel with
  | zero => simp [DataW.trod] at h
  | succ fuel =>
    unfold DataW.trod at h
    rw [ht] at h
    split at h <;> try (rename_i hq; cases hq; done)
    all_goals first
      | exact .inl rfl
      | (rename_i a len cap hq
         cases hq
         simp only at h
         split at h
         · rename_i hc
           refine .inr ⟨a,len,cap,fuel,rfl,hc.2.1,hc.2.2,fun i hi => ?_⟩
           cases hm : (List.range len).mapM fun i => (w.cells? 0 (a.add (i * P.cellsOf e)) (P.cellsOf e)).bind (DataW.trod enc P w 0 (fun _ => true) true fuel e) with
           | none => rw [hm] at h; simp at h
           | some elems =>
             rw [hm] at h
             simp only [Option.bind_some,if_true] at h
             cases hr : (List.range (cap - len)).mapM fun j => (w.cells? 0 (a.add ((len + j) * P.cellsOf e)) (P.cellsOf e)).bind (DataW.trod enc P w 0 (fun _ => true) true fuel e) with
             | none => rw [hr] at h; simp at h
             | some rest =>
               have key : ∃ y,(w.cells? 0 (a.add (i * P.cellsOf e)) (P.cellsOf e)).bind (DataW.trod enc P w 0 (fun _ => true) true fuel e) = some y := by
                 by_cases hil : i < len
                 · exact mapM_some hm i (List.mem_range.2 hil)
                 · have := mapM_some hr (i - len) (List.mem_range.2 (by omega))
                   rw [show len + (i - len) = i by omega] at this
                   exact this
               obtain ⟨y,hy⟩ := key
               cases hc2 : w.cells? 0 (a.add (i * P.cellsOf e)) (P.cellsOf e) with
               | none => rw [hc2] at hy; simp at hy
               | some l => rw [hc2] at hy; exact ⟨l,y,rfl,hy⟩
         · cases h)
      | cases h
theorem tr_struct {fs : Array Field} (ht : P.underlying t = some (.struct fs)) (h : DataW.trod enc P w 0 (fun _ => true) true fuel t cs = some x) :
    cs.length = P.cellsOf t ∧ ∃ fuel',∀ f ∈ fs.toList,∃ y,DataW.trod enc P w 0 (fun _ => true) true fuel' f.type ((cs.drop f.offset).take (P.cellsOf f.type)) = some y := by
  cases fuel with
  | zero => simp [DataW.trod] at h
  | succ fuel =>
    simp only [DataW.trod,ht] at h
    split at h
    · rename_i hc
      refine ⟨hc,fuel,fun f hf => ?_⟩
      cases hm : fs.toList.mapM fun f => DataW.trod enc P w 0 (fun _ => true) true fuel f.type ((cs.drop f.offset).take (P.cellsOf f.type)) with
      | none => rw [hm] at h; simp at h
      | some xs => exact mapM_some hm f hf
    · cases h
theorem cells_row {a : Addr} {n : Nat} {l : List Value} (hn : 0 < n) (h : w.cells? 0 a n = some l) : ∃ C ty fz,a.spot = none ∧ w.heap[a.block]? = some (.cells C ty fz) ∧ l.length = n ∧ ∀ j (hj : j < l.length),C[a.off + j]? = some l[j] := by
  unfold World.cells? at h
  rw [if_pos (Nat.zero_le _)] at h
  obtain ⟨h1,h2⟩ := mapM_list h
  rw [List.length_range] at h1
  have g : ∀ j (hj : j < l.length),w.cell? (a.add j) = some l[j] := fun j hj => by
    have := h2 j (by rw [List.length_range]; omega) hj
    rw [List.getElem_range] at this
    exact this
  have g0 := g 0 (by omega)
  have ea : a.add 0 = a := by simp [Addr.add]
  rw [ea] at g0
  unfold World.cell? at g0
  split at g0
  · rename_i C ty fz hC
    split at g0
    · cases g0
    · rename_i hsp
      have hs : a.spot = none := by simpa using hsp
      refine ⟨C,ty,fz,hs,hC,h1,fun j hj => ?_⟩
      have := g j hj
      have e1 : a.add j = ⟨a.block,a.off + j,none⟩ := by
        unfold Addr.add
        split
        · rename_i h0; subst h0; obtain ⟨b,o,s⟩ := a; simp at hs; subst hs; rfl
        · rfl
      rw [e1] at this
      unfold World.cell? at this
      simp only [hC] at this
      simpa using this
  · cases g0
end
end Go.Ae
namespace Go.Ae
open Go
set_option maxRecDepth 100000
section
variable {H : Type} {enc : TypeId × Value → H} {P : Program} {w : World} {fuel : Nat} {t e : TypeId}
theorem add_block (a : Addr) (k : Nat) : (a.add k).block = a.block := by unfold Addr.add; split <;> rfl
theorem add_off (a : Addr) (k : Nat) : (a.add k).off = a.off + k := by unfold Addr.add; split <;> simp_all
theorem sl_cells {a : Addr} {c sz : Nat} {R : List Value → Prop} (hc : 0 < c) (hz : 0 < sz) (h : ∀ i,i < c → ∃ l,w.cells? 0 (a.add (i * sz)) sz = some l ∧ R l) :
    ∃ C ty fz,a.spot = none ∧ w.heap[a.block]? = some (.cells C ty fz) ∧ a.off + c * sz ≤ C.size ∧ ∀ i,i < c → ∃ l,l.length = sz ∧ (∀ j (hj : j < l.length),C[a.off + i * sz + j]? = some l[j]) ∧ R l := by
  obtain ⟨l0,h0,_⟩ := h 0 hc
  obtain ⟨C,ty,fz,s1,s2,s3,s4⟩ := cells_row hz h0
  have hsp : a.spot = none := by
    simp only [Nat.zero_mul] at s1
    have : a.add 0 = a := by simp [Addr.add]
    rw [this] at s1; exact s1
  rw [add_block] at s2
  have key : ∀ i,i < c → ∃ l,l.length = sz ∧ (∀ j (hj : j < l.length),C[a.off + i * sz + j]? = some l[j]) ∧ R l := fun i hi => by
    obtain ⟨l,hl,hR⟩ := h i hi
    obtain ⟨C',ty',fz',q1,q2,q3,q4⟩ := cells_row hz hl
    rw [add_block,s2] at q2
    cases q2
    refine ⟨l,q3,fun j hj => ?_,hR⟩
    have := q4 j hj
    rw [add_off] at this
    exact this
  refine ⟨C,ty,fz,hsp,s2,?_,key⟩
  obtain ⟨l,h1,h2,_⟩ := key (c - 1) (by omega)
  have := h2 (sz - 1) (by omega)
  have hlt : a.off + (c - 1) * sz + (sz - 1) < C.size := by
    rcases Nat.lt_or_ge (a.off + (c - 1) * sz + (sz - 1)) C.size with h | h
    · exact h
    · rw [Array.getElem?_eq_none h] at this; cases this
  have e : c * sz = (c - 1) * sz + sz := by
    obtain ⟨k,rfl⟩ : ∃ k,c = k + 1 := ⟨c - 1,by omega⟩
    rw [Nat.add_sub_cancel,Nat.add_mul,Nat.one_mul]
  omega
end
structure Ex where
  c : Nat
  base : Nat
  size : Nat
  cs : List Value
def exH (L : List (Option Ex)) : Heap := { next := 6 + L.length,rev := (L.reverse.map fun x => x.map fun x => AObj.ro x.cs) ++ List.replicate 6 none }
def exNm (L : List (Option Ex)) : Nm := fun b => if b < 6 then .dead else match L[b - 6]? with
  | some (some x) => .live x.c x.base x.size
  | some none => .dead
  | none => .fresh
theorem exH_get {L : List (Option Ex)} {b : Nat} {o : AObj} (h : (exH L).get b = some o) : 6 ≤ b ∧ ∃ x,L[b - 6]? = some (some x) ∧ o = .ro x.cs := by
  unfold Heap.get exH at h
  simp only at h
  split at h
  · rename_i hlt
    rcases Nat.lt_or_ge b 6 with h6 | h6
    · rw [List.getElem?_append_right (by simp; omega),List.getElem?_replicate] at h
      split at h <;> cases h
    · refine ⟨h6,?_⟩
      rw [List.getElem?_append_left (by simp; omega),List.getElem?_map,List.getElem?_reverse (by omega)] at h
      rw [show L.length - 1 - (6 + L.length - 1 - b) = b - 6 by omega] at h
      cases hx : L[b - 6]? with
      | none => rw [hx] at h; cases h
      | some y =>
        cases y with
        | none => rw [hx] at h; cases h
        | some x => rw [hx] at h; simp at h; exact ⟨x,rfl,h.symm⟩
  · cases h
theorem exH_at {L : List (Option Ex)} {b : Nat} {x : Ex} (h6 : 6 ≤ b) (h : L[b - 6]? = some (some x)) : (exH L).get b = some (.ro x.cs) := by
  have hlt : b - 6 < L.length := by
    rcases Nat.lt_or_ge (b - 6) L.length with h' | h'
    · exact h'
    · rw [List.getElem?_eq_none h'] at h; cases h
  unfold Heap.get exH
  simp only
  rw [if_pos (by omega),List.getElem?_append_left (by simp; omega),List.getElem?_map,List.getElem?_reverse (by omega)]
  rw [show L.length - 1 - (6 + L.length - 1 - b) = b - 6 by omega,h]
  rfl
theorem exNm_live {L : List (Option Ex)} {b : Nat} {x : Ex} (h6 : 6 ≤ b) (h : L[b - 6]? = some (some x)) : exNm L b = .live x.c x.base x.size := by
  unfold exNm; rw [if_neg (by omega),h]
theorem exNm_named {L : List (Option Ex)} {b : Nat} (h : b < 6 + L.length) : exNm L b ≠ .fresh := by
  unfold exNm
  split
  · simp
  · split
    · simp
    · simp
    · rename_i hn
      have : b - 6 < L.length := by omega
      rw [List.getElem?_eq_getElem this] at hn; cases hn
theorem exRel {K : Cx} {L : List (Option Ex)} {w : World} (hG : K.G0 = 6) (hN : K.N0 = w.heap.size)
    (hok : ∀ x,some x ∈ L → ∃ C e fz,w.heap[x.c]? = some (.cells C e fz) ∧ C.size = x.size ∧ x.base + x.cs.length ≤ x.size ∧ cellsR (exNm L) x.cs C x.base) : Rel K (exNm L) (exH L) w := by
  refine ⟨fun b o hb => ?_,fun b hb => ?_,fun b b' o o' c base base' size size' hb hb' ho ho' hl hl' => ?_,by omega,?_,fun g hg => ?_⟩
  · obtain ⟨h6,x,hx,rfl⟩ := exH_get hb
    obtain ⟨C,e,fz,h1,h2,h3,h4⟩ := hok x (List.mem_of_getElem? hx)
    have hlt : x.c < w.heap.size := by
      rcases Nat.lt_or_ge x.c w.heap.size with h | h
      · exact h
      · rw [Array.getElem?_eq_none h] at h1; cases h1
    exact ⟨x.c,x.base,x.size,exNm_live h6 hx,by rw [h1]; exact .ro (by omega) h4 h2 h3⟩
  · unfold exH at hb
    simp only at hb
    unfold exNm
    rw [if_neg (by omega),List.getElem?_eq_none (by omega)]
  · obtain ⟨_,x,_,rfl⟩ := exH_get hb
    cases ho
  · unfold exH; simp; omega
  · refine ⟨exNm_named (by omega),fun c base size hl => ?_⟩
    unfold exNm at hl
    rw [if_pos (by omega)] at hl
    cases hl
def avSl (N sz : Nat) : Value → Value
  | .slice (some _) n _ => .slice (some ⟨N,0,some sz⟩) n n
  | _ => .slice none 0 0
def blkSize (w : World) (b : Nat) : Nat := match w.heap[b]? with
  | some (.cells C _ _) => C.size
  | _ => 0
def cellV (w : World) (a : Addr) (j : Nat) : Value := (w.cell? ⟨a.block,a.off + j,none⟩).getD undef
def exSl (w : World) (sz : Nat) (g : Addr → Nat → Value) : Value → Option Ex
  | .slice (some a) n _ => if n = 0 then none else some ⟨a.block,a.off,blkSize w a.block,(List.range (n * sz)).map (g a)⟩
  | _ => none
theorem Sl_zero {H : Heap} {a : Option Addr} {sz : Nat} {g : Nat → Value} : Sl H (.slice a 0 0) sz 0 g := ⟨a,0,rfl,Nat.le_refl _,.inl rfl⟩
theorem exSl_ok {L : List (Option Ex)} {w : World} {N sz n c : Nat} {a : Addr} {g : Addr → Nat → Value} (h6 : 6 ≤ N) (hL : L[N - 6]? = some (exSl w sz g (.slice (some a) n c))) (hn : n ≤ c) (hc : c ≤ maxLen) (hz : 0 < sz)
    (hsp : 0 < n → a.spot = none ∧ ∃ C ty fz,w.heap[a.block]? = some (.cells C ty fz) ∧ a.off + c * sz ≤ C.size) :
    VR (exNm L) (avSl N sz (.slice (some a) n c)) (.slice (some a) n c) ∧ Sl (exH L) (avSl N sz (.slice (some a) n c)) sz n (g a) := by
  have hlt : N < 6 + L.length := by
    rcases Nat.lt_or_ge (N - 6) L.length with h' | h'
    · omega
    · rw [List.getElem?_eq_none h'] at hL; cases hL
  have hm : c ≤ maxRow := by unfold maxLen at hc; unfold maxRow; omega
  show VR (exNm L) (.slice (some ⟨N,0,some sz⟩) n n) _ ∧ Sl (exH L) (.slice (some ⟨N,0,some sz⟩) n n) sz n (g a)
  by_cases h0 : n = 0
  · subst h0
    simp only [exSl,if_true] at hL
    refine ⟨.slice ⟨exNm_named hlt,fun c base size hl => ?_⟩ (Nat.le_refl _) (Nat.zero_le _) hm,Sl_zero⟩
    unfold exNm at hl
    rw [if_neg (by omega),hL] at hl
    cases hl
  · simp only [exSl,h0,if_false] at hL
    obtain ⟨hs,C,ty,fz,h1,h2⟩ := hsp (by omega)
    refine ⟨.slice ⟨exNm_named hlt,fun c' base size hl => ?_⟩ (Nat.le_refl _) hn hm,⟨_,n,rfl,Nat.le_refl _,.inr ⟨N,0,rfl,fun j hj => ?_⟩⟩⟩
    · rw [exNm_live h6 hL] at hl
      cases hl
      simp only [blkSize,h1]
      refine ⟨by omega,.inl ?_⟩
      obtain ⟨b,o,s⟩ := a; simp at hs; subst hs; rfl
    · rw [cellAt_row]
      unfold rowOf
      rw [exH_at h6 hL]
      simp only [Option.bind_some,Nat.zero_add]
      rw [List.getElem?_map,List.getElem?_range hj]; rfl
end Go.Ae
namespace Go.Ae
open Go Go.Proofs
set_option maxRecDepth 100000
def OpenS (w : World) (x : Value) (sz : Nat) (R : List Value → Prop) : Prop := x = .slice none 0 0 ∨ ∃ a n c,x = .slice (some a) n c ∧ n ≤ c ∧ c ≤ maxLen ∧
  (0 < c → a.spot = none ∧ ∃ C ty fz,w.heap[a.block]? = some (.cells C ty fz) ∧ a.off + c * sz ≤ C.size ∧ ∀ i,i < c → ∃ l,l.length = sz ∧ (∀ j (hj : j < l.length),C[a.off + i * sz + j]? = some l[j]) ∧ R l)
section
variable {H : Type} {enc : TypeId × Value → H} {w : World}
theorem open_sl {P : Program} {fuel : Nat} {t e : TypeId} {x : Value} {y : DataW H × List MemPlace} (ht : P.underlying t = some (.slice e)) (hz : 0 < P.cellsOf e) (h : DataW.trod enc P w 0 (fun _ => true) true fuel t [x] = some y)
    {R : List Value → Prop} (hR : ∀ fuel l y,DataW.trod enc P w 0 (fun _ => true) true fuel e l = some y → R l) : OpenS w x (P.cellsOf e) R := by
  rcases tr_slice ht h with h1 | ⟨a,n,c,fuel',h1,h2,h3,h4⟩
  · exact .inl (by simpa using h1)
  · refine .inr ⟨a,n,c,by simpa using h1,h2,h3,fun hc => ?_⟩
    obtain ⟨C,ty,fz,g1,g2⟩ := sl_cells (R := R) hc hz fun i hi => by
      obtain ⟨l,y,q1,q2⟩ := h4 i hi
      exact ⟨l,q1,hR _ _ _ q2⟩
    exact ⟨g1,C,ty,fz,g2⟩
theorem q46 : Tryz.prog.cellsOf 46 = 2 := by kernel_rfl
theorem c90 : Tryz.prog.cellsOf 90 = 2 := by kernel_rfl
theorem c55 : Tryz.prog.cellsOf 55 = 7 := by kernel_rfl
theorem c53 : Tryz.prog.cellsOf 53 = 6 := by kernel_rfl
theorem c26 : Tryz.prog.cellsOf 26 = 7 := by kernel_rfl
theorem q9 : Tryz.prog.cellsOf 9 = 1 := by kernel_rfl
theorem c3 : Tryz.prog.cellsOf 3 = 1 := by kernel_rfl
theorem q22 : Tryz.prog.cellsOf 22 = 1 := by kernel_rfl
theorem q23 : Tryz.prog.cellsOf 23 = 1 := by kernel_rfl
theorem c24 : Tryz.prog.cellsOf 24 = 1 := by kernel_rfl
theorem c27 : Tryz.prog.cellsOf 27 = 1 := by kernel_rfl
theorem c51 : Tryz.prog.cellsOf 51 = 1 := by kernel_rfl
def IsFile (l : List Value) : Prop := ∃ s k,l = [.string s,.int .i64 k]
def IsEntry (l : List Value) : Prop := ∃ s k,l = [.string s,.string k]
def IsStr (l : List Value) : Prop := ∃ s,l = [.string s]
def IsInt (l : List Value) : Prop := ∃ s,l = [.int .i64 s]
def IsNamed (w : World) (l : List Value) : Prop := ∃ s va vw s1 s2 s3 s4,l = [.string s,va,vw,.string s1,.string s2,.string s3,.string s4] ∧ OpenS w va 1 IsInt ∧ OpenS w vw 1 IsStr
theorem is_str {fuel : Nat} {l : List Value} {y : DataW H × List MemPlace} (h : DataW.trod enc Tryz.prog w 0 (fun _ => true) true fuel 9 l = some y) : IsStr l := by
  obtain ⟨s,rfl,_⟩ := tr_string Tryz.underlying9 h
  exact ⟨s,rfl⟩
theorem is_int {fuel : Nat} {l : List Value} {y : DataW H × List MemPlace} (h : DataW.trod enc Tryz.prog w 0 (fun _ => true) true fuel 3 l = some y) : IsInt l := by
  obtain ⟨s,rfl⟩ := tr_int Tryz.underlying3 h
  exact ⟨s,rfl⟩
theorem is_file {fuel : Nat} {l : List Value} {y : DataW H × List MemPlace} (h : DataW.trod enc Tryz.prog w 0 (fun _ => true) true fuel 46 l = some y) : IsFile l := by
  obtain ⟨h1,f',h2⟩ := tr_struct Tryz.underlying46 h
  rw [q46] at h1
  match l,h1 with
  | [a,b],_ =>
    simp only [List.mem_cons,List.not_mem_nil,or_false,forall_eq_or_imp,forall_eq,q9,c3] at h2
    obtain ⟨⟨y1,g1⟩,⟨y2,g2⟩⟩ := h2
    obtain ⟨s,e1⟩ := is_str g1
    obtain ⟨k,e2⟩ := is_int g2
    simp at e1 e2
    exact ⟨s,k,by rw [e1,e2]⟩
theorem is_entry {fuel : Nat} {l : List Value} {y : DataW H × List MemPlace} (h : DataW.trod enc Tryz.prog w 0 (fun _ => true) true fuel 90 l = some y) : IsEntry l := by
  obtain ⟨h1,f',h2⟩ := tr_struct Tryz.underlying90 h
  rw [c90] at h1
  match l,h1 with
  | [a,b],_ =>
    simp only [List.mem_cons,List.not_mem_nil,or_false,forall_eq_or_imp,forall_eq,q9,c3] at h2
    obtain ⟨⟨y1,g1⟩,⟨y2,g2⟩⟩ := h2
    obtain ⟨s,e1⟩ := is_str g1
    obtain ⟨k,e2⟩ := is_str g2
    simp at e1 e2
    exact ⟨s,k,by rw [e1,e2]⟩
theorem is_named {fuel : Nat} {l : List Value} {y : DataW H × List MemPlace} (h : DataW.trod enc Tryz.prog w 0 (fun _ => true) true fuel 55 l = some y) : IsNamed w l := by
  obtain ⟨h1,f',h2⟩ := tr_struct Tryz.underlying55 h
  rw [c55] at h1
  match l,h1 with
  | [a,b,c,d,e,f,g],_ =>
    simp only [List.mem_cons,List.not_mem_nil,or_false,forall_eq_or_imp,forall_eq,q9,c53] at h2
    obtain ⟨⟨y1,g1⟩,⟨y2,g2⟩⟩ := h2
    obtain ⟨s,e1⟩ := is_str g1
    obtain ⟨h3,f2,h4⟩ := tr_struct Tryz.underlying53 g2
    simp only [List.mem_cons,List.not_mem_nil,or_false,forall_eq_or_imp,forall_eq,q9,c51,c27] at h4
    obtain ⟨⟨z1,k1⟩,⟨z2,k2⟩,⟨z3,k3⟩,⟨z4,k4⟩,⟨z5,k5⟩,⟨z6,k6⟩⟩ := h4
    obtain ⟨s1,e3⟩ := is_str k3
    obtain ⟨s2,e4⟩ := is_str k4
    obtain ⟨s3,e5⟩ := is_str k5
    obtain ⟨s4,e6⟩ := is_str k6
    simp at e1 e3 e4 e5 e6
    simp only [List.drop_succ_cons,List.drop_zero,List.take_succ_cons,List.take_zero] at k1 k2
    have o1 := open_sl Tryz.underlying51 (by rw [c3]; decide) k1 (fun _ _ _ h => is_int h)
    have o2 := open_sl Tryz.underlying27 (by rw [q9]; decide) k2 (fun _ _ _ h => is_str h)
    rw [c3] at o1
    rw [q9] at o2
    exact ⟨s,b,c,s1,s2,s3,s4,by rw [e1,e3,e4,e5,e6],o1,o2⟩
theorem open_world {v : Value} {d : DataW H} {ps : List MemPlace} (h : DataW.Trod enc Tryz.prog w 0 (fun _ => true) true 26 v d ps) :
    ∃ x0 dir x2 x3 x4 x5 x6,v = .agg #[x0,.string dir,x2,x3,x4,x5,x6] ∧ OpenS w x0 2 IsFile ∧ OpenS w x2 2 IsEntry ∧ OpenS w x3 2 IsEntry ∧ OpenS w x4 2 IsEntry ∧ OpenS w x5 2 IsEntry ∧ OpenS w x6 7 (IsNamed w) := by
  obtain ⟨fuel,h⟩ := h
  obtain ⟨h1,f',h2⟩ := tr_struct Tryz.underlying26 h
  rw [c26] at h1
  have hv : ∃ arr : Array Value,v = .agg arr ∧ v.cells = arr := by
    cases v <;> first | exact ⟨_,rfl,rfl⟩ | (simp [Value.cells] at h1)
  obtain ⟨⟨l⟩,rfl,hc⟩ := hv
  rw [hc] at h1 h2
  simp only at h1 h2
  match l,h1 with
  | [a,b,c,d,e,f,g],_ =>
    simp only [List.mem_cons,List.not_mem_nil,or_false,forall_eq_or_imp,forall_eq,q9,q22,q23,c24] at h2
    obtain ⟨⟨z1,k1⟩,⟨z2,k2⟩,⟨z3,k3⟩,⟨z4,k4⟩,⟨z5,k5⟩,⟨z6,k6⟩,⟨z7,k7⟩⟩ := h2
    obtain ⟨s,e2⟩ := is_str k2
    simp at e2
    simp only [List.drop_succ_cons,List.drop_zero,List.take_succ_cons,List.take_zero] at k1 k3 k4 k5 k6 k7
    have o1 := open_sl Tryz.underlying22 (by rw [q46]; decide) k1 (fun _ _ _ h => is_file h)
    have o3 := open_sl Tryz.underlying23 (by rw [c90]; decide) k3 (fun _ _ _ h => is_entry h)
    have o4 := open_sl Tryz.underlying23 (by rw [c90]; decide) k4 (fun _ _ _ h => is_entry h)
    have o5 := open_sl Tryz.underlying23 (by rw [c90]; decide) k5 (fun _ _ _ h => is_entry h)
    have o6 := open_sl Tryz.underlying23 (by rw [c90]; decide) k6 (fun _ _ _ h => is_entry h)
    have o7 := open_sl Tryz.underlying24 (by rw [c55]; decide) k7 (fun _ _ _ h => is_named h)
    rw [q46] at o1
    rw [c90] at o3 o4 o5 o6
    rw [c55] at o7
    exact ⟨a,s,c,d,e,f,g,by rw [e2],o1,o3,o4,o5,o6,o7⟩
end
end Go.Ae
namespace Go.Ae
open Go Go.Proofs
set_option maxRecDepth 100000
def lenOf : Value → Nat
  | .slice _ n _ => n
  | _ => 0
def addrOf : Value → Addr
  | .slice (some a) _ _ => a
  | _ => ⟨0,0,none⟩
def exOk (L : List (Option Ex)) (w : World) (x : Ex) : Prop := ∃ C e fz,w.heap[x.c]? = some (.cells C e fz) ∧ C.size = x.size ∧ x.base + x.cs.length ≤ x.size ∧ cellsR (exNm L) x.cs C x.base
theorem openS_ok {L : List (Option Ex)} {w : World} {x : Value} {sz N : Nat} {R : List Value → Prop} {g : Addr → Nat → Value} (hO : OpenS w x sz R) (hz : 0 < sz) (h6 : 6 ≤ N) (hL : L[N - 6]? = some (exSl w sz g x))
    (hg : ∀ a n c,x = .slice (some a) n c → ∀ i,i < n → ∀ l,l.length = sz → R l → (∀ j (hj : j < l.length),cellV w a (i * sz + j) = l[j]) → ∀ j (hj : j < l.length),VR (exNm L) (g a (i * sz + j)) l[j] ∧ (g a (i * sz + j)).oneCell' = true) :
    VR (exNm L) (avSl N sz x) x ∧ Sl (exH L) (avSl N sz x) sz (lenOf x) (g (addrOf x)) ∧ (∀ i,i < lenOf x → ∃ l,l.length = sz ∧ R l ∧ ∀ j (hj : j < l.length),cellV w (addrOf x) (i * sz + j) = l[j]) ∧
      (∀ e,exSl w sz g x = some e → exOk L w e) := by
  rcases hO with rfl | ⟨a,n,c,rfl,hn,hc,hO⟩
  · exact ⟨.sliceNil,Sl_zero,fun i hi => absurd hi (Nat.not_lt_zero _),fun e he => (by cases he)⟩
  · have hcells : 0 < n → a.spot = none ∧ ∃ C ty fz,w.heap[a.block]? = some (.cells C ty fz) ∧ a.off + c * sz ≤ C.size := fun h => by
      obtain ⟨h1,C,ty,fz,h2,h3,_⟩ := hO (by omega)
      exact ⟨h1,C,ty,fz,h2,h3⟩
    obtain ⟨k1,k2⟩ := exSl_ok (g := g) h6 hL hn hc hz hcells
    have hlist : ∀ i,i < n → ∃ l,l.length = sz ∧ R l ∧ ∀ j (hj : j < l.length),cellV w a (i * sz + j) = l[j] := fun i hi => by
      obtain ⟨h1,C,ty,fz,h2,h3,h4⟩ := hO (by omega)
      obtain ⟨l,q1,q2,q3⟩ := h4 i (by omega)
      refine ⟨l,q1,q3,fun j hj => ?_⟩
      unfold cellV World.cell?
      simp only [h2]
      have := q2 j hj
      rw [Nat.add_assoc] at this
      simp [this]
    refine ⟨k1,k2,hlist,fun e he => ?_⟩
    by_cases h0 : n = 0
    · simp [exSl,h0] at he
    · simp only [exSl,h0,if_false,Option.some.injEq] at he
      subst he
      obtain ⟨h1,C,ty,fz,h2,h3,h4⟩ := hO (by omega)
      have hnc : n * sz ≤ c * sz := Nat.mul_le_mul_right _ hn
      refine ⟨C,ty,fz,h2,by simp [blkSize,h2],by simp [blkSize,h2]; omega,fun k v hv => ?_⟩
      simp only at hv ⊢
      rw [List.getElem?_map] at hv
      have hk : k < n * sz := by
        rcases Nat.lt_or_ge k (n * sz) with h | h
        · exact h
        · rw [List.getElem?_eq_none (by simpa using h)] at hv; cases hv
      rw [List.getElem?_range hk] at hv
      simp at hv
      subst hv
      have hki : k / sz < n := by
        rw [Nat.div_lt_iff_lt_mul hz]; exact hk
      have hkd : k / sz * sz + k % sz = k := by rw [Nat.mul_comm]; exact Nat.div_add_mod k sz
      have hkm : k % sz < sz := Nat.mod_lt _ hz
      obtain ⟨l,q1,q2,q3⟩ := h4 (k / sz) (by omega)
      have hcv : ∀ j (hj : j < l.length),cellV w a (k / sz * sz + j) = l[j] := fun j hj => by
        unfold cellV World.cell?
        simp only [h2]
        have := q2 j hj
        rw [Nat.add_assoc] at this
        simp [this]
      have := hg a n c rfl (k / sz) hki l q1 q3 hcv (k % sz) (by omega)
      rw [hkd] at this
      refine ⟨this.2,l[k % sz],?_,this.1⟩
      have h5 := q2 (k % sz) (by omega)
      rw [Nat.add_assoc,hkd] at h5
      exact h5
theorem simple_ok {L : List (Option Ex)} {w : World} {sz : Nat} {R : List Value → Prop} {x : Value} (hR : ∀ l,R l → ∀ v ∈ l,(∃ s,v = .string s) ∨ ∃ k,v = .int .i64 k) :
    ∀ a n c,x = .slice (some a) n c → ∀ i,i < n → ∀ l,l.length = sz → R l → (∀ j (hj : j < l.length),cellV w a (i * sz + j) = l[j]) → ∀ j (hj : j < l.length),VR (exNm L) (cellV w a (i * sz + j)) l[j] ∧ (cellV w a (i * sz + j)).oneCell' = true := by
  intro a n c _ i _ l _ hl hc j hj
  rw [hc j hj]
  rcases hR l hl l[j] (List.getElem_mem hj) with ⟨s,h⟩ | ⟨k,h⟩
  · rw [h]; exact ⟨.string s,rfl⟩
  · rw [h]; exact ⟨.int _ k,rfl⟩
theorem file_simple (l : List Value) (h : IsFile l) : ∀ v ∈ l,(∃ s,v = .string s) ∨ ∃ k,v = .int .i64 k := by
  obtain ⟨s,k,rfl⟩ := h
  intro v hv
  simp at hv
  rcases hv with rfl | rfl
  · exact .inl ⟨s,rfl⟩
  · exact .inr ⟨k,rfl⟩
theorem entry_simple (l : List Value) (h : IsEntry l) : ∀ v ∈ l,(∃ s,v = .string s) ∨ ∃ k,v = .int .i64 k := by
  obtain ⟨s,k,rfl⟩ := h
  intro v hv
  simp at hv
  rcases hv with rfl | rfl
  · exact .inl ⟨s,rfl⟩
  · exact .inl ⟨k,rfl⟩
theorem str_simple (l : List Value) (h : IsStr l) : ∀ v ∈ l,(∃ s,v = .string s) ∨ ∃ k,v = .int .i64 k := by
  obtain ⟨s,rfl⟩ := h
  intro v hv
  simp at hv; subst hv
  exact .inl ⟨s,rfl⟩
theorem int_simple (l : List Value) (h : IsInt l) : ∀ v ∈ l,(∃ s,v = .string s) ∨ ∃ k,v = .int .i64 k := by
  obtain ⟨s,rfl⟩ := h
  intro v hv
  simp at hv; subst hv
  exact .inr ⟨s,rfl⟩
def gSpec (w : World) (a : Addr) (j : Nat) : Value := if j % 7 = 1 ∨ j % 7 = 2 then avSl (12 + (2 * (j / 7) + (j % 7 - 1))) 1 (cellV w a j) else cellV w a j
def startL (w : World) (x0 x2 x3 x4 x5 x6 : Value) : List (Option Ex) :=
  [exSl w 2 (cellV w) x0,exSl w 2 (cellV w) x2,exSl w 2 (cellV w) x3,exSl w 2 (cellV w) x4,exSl w 2 (cellV w) x5,exSl w 7 (gSpec w) x6] ++
    (List.range (2 * lenOf x6)).map fun m => exSl w 1 (cellV w) (cellV w (addrOf x6) (m / 2 * 7 + 1 + m % 2))
def strOf : Value → ByteArray
  | .string s => s
  | _ => ⟨#[]⟩
def intOf' : Value → Int
  | .int _ k => k
  | _ => 0
def mkTb (w : World) (N : Nat) (x : Value) : Tb := ⟨avSl N 2 x,lenOf x,cellV w (addrOf x),fun j => strOf (cellV w (addrOf x) j)⟩
def mkFl (w : World) (N : Nat) (x : Value) : Fl := ⟨avSl N 2 x,lenOf x,cellV w (addrOf x),fun j => strOf (cellV w (addrOf x) (j * 2)),fun j => intOf' (cellV w (addrOf x) (j * 2 + 1))⟩
def mkSp (w : World) (x6 : Value) (j : Nat) : Sp :=
  let va := cellV w (addrOf x6) (j * 7 + 1)
  let vw := cellV w (addrOf x6) (j * 7 + 2)
  ⟨avSl (12 + 2 * j) 1 va,lenOf va,cellV w (addrOf va),fun i => intOf' (cellV w (addrOf va) i),avSl (12 + (2 * j + 1)) 1 vw,lenOf vw,cellV w (addrOf vw),fun i => strOf (cellV w (addrOf vw) i),
    strOf (cellV w (addrOf x6) (j * 7 + 3)),strOf (cellV w (addrOf x6) (j * 7 + 4)),strOf (cellV w (addrOf x6) (j * 7 + 5)),strOf (cellV w (addrOf x6) (j * 7 + 6))⟩
def mkSps (w : World) (x6 : Value) : Sps := ⟨avSl 11 7 x6,lenOf x6,gSpec w (addrOf x6),fun j => strOf (cellV w (addrOf x6) (j * 7)),mkSp w x6⟩
def mkWd (w : World) (dir : ByteArray) (x0 x2 x3 x4 x5 x6 : Value) : Wd := ⟨mkFl w 6 x0,dir,mkTb w 7 x2,mkTb w 8 x3,mkTb w 9 x4,mkTb w 10 x5,mkSps w x6⟩
theorem mkTb_ok {L : List (Option Ex)} {w : World} {x : Value} {N : Nat} (hs : Sl (exH L) (avSl N 2 x) 2 (lenOf x) (cellV w (addrOf x))) (hl : ∀ i,i < lenOf x → ∃ l,l.length = 2 ∧ IsEntry l ∧ ∀ j (hj : j < l.length),cellV w (addrOf x) (i * 2 + j) = l[j]) : (mkTb w N x).ok (exH L) := by
  refine ⟨hs,fun j hj => ?_⟩
  show cellV w (addrOf x) j = .string (strOf (cellV w (addrOf x) j))
  change j < lenOf x * 2 at hj
  obtain ⟨l,h1,⟨s,k,rfl⟩,h3⟩ := hl (j / 2) (by omega)
  have h0 := h3 0 (by simp)
  have h4 := h3 1 (by simp)
  simp only [Nat.add_zero,List.getElem_cons_zero,List.getElem_cons_succ] at h0 h4
  rcases (show j = j / 2 * 2 ∨ j = j / 2 * 2 + 1 by omega) with e | e
  · rw [e,h0]; rfl
  · rw [e,h4]; rfl
theorem mkFl_ok {L : List (Option Ex)} {w : World} {x : Value} {N : Nat} (hs : Sl (exH L) (avSl N 2 x) 2 (lenOf x) (cellV w (addrOf x))) (hl : ∀ i,i < lenOf x → ∃ l,l.length = 2 ∧ IsFile l ∧ ∀ j (hj : j < l.length),cellV w (addrOf x) (i * 2 + j) = l[j]) : (mkFl w N x).ok (exH L) := by
  refine ⟨hs,fun j hj => ?_⟩
  show cellV w (addrOf x) (j * 2) = .string (strOf (cellV w (addrOf x) (j * 2))) ∧ cellV w (addrOf x) (j * 2 + 1) = .int .i64 (intOf' (cellV w (addrOf x) (j * 2 + 1)))
  obtain ⟨l,h1,⟨s,k,rfl⟩,h3⟩ := hl j hj
  have h0 := h3 0 (by simp)
  have h4 := h3 1 (by simp)
  simp only [Nat.add_zero,List.getElem_cons_zero,List.getElem_cons_succ] at h0 h4
  rw [h0,h4]; exact ⟨rfl,rfl⟩
end Go.Ae
namespace Go.Ae
open Go Go.Proofs
set_option maxRecDepth 100000
theorem startL_at {w : World} {x0 x2 x3 x4 x5 x6 : Value} {i r : Nat} (hi : i < lenOf x6) (hr : r < 2) :
    (startL w x0 x2 x3 x4 x5 x6)[12 + (2 * i + r) - 6]? = some (exSl w 1 (cellV w) (cellV w (addrOf x6) (i * 7 + 1 + r))) := by
  unfold startL
  rw [List.getElem?_append_right (by simp; omega),List.getElem?_map]
  rw [show 12 + (2 * i + r) - 6 - [exSl w 2 (cellV w) x0,exSl w 2 (cellV w) x2,exSl w 2 (cellV w) x3,exSl w 2 (cellV w) x4,exSl w 2 (cellV w) x5,exSl w 7 (gSpec w) x6].length = 2 * i + r by simp; omega]
  rw [List.getElem?_range (by omega)]
  simp only [Option.map_some]
  rw [show (2 * i + r) / 2 = i by omega,show (2 * i + r) % 2 = r by omega]
theorem start_world {K : Cx} {w : World} {x0 x2 x3 x4 x5 x6 : Value} {dir : ByteArray} (hG : K.G0 = 6) (hN : K.N0 = w.heap.size)
    (o0 : OpenS w x0 2 IsFile) (o2 : OpenS w x2 2 IsEntry) (o3 : OpenS w x3 2 IsEntry) (o4 : OpenS w x4 2 IsEntry) (o5 : OpenS w x5 2 IsEntry) (o6 : OpenS w x6 7 (IsNamed w)) :
    Rel K (exNm (startL w x0 x2 x3 x4 x5 x6)) (exH (startL w x0 x2 x3 x4 x5 x6)) w ∧
    VR (exNm (startL w x0 x2 x3 x4 x5 x6)) (mkWd w dir x0 x2 x3 x4 x5 x6).v (.agg #[x0,.string dir,x2,x3,x4,x5,x6]) ∧
    (mkWd w dir x0 x2 x3 x4 x5 x6).ok (exH (startL w x0 x2 x3 x4 x5 x6)) := by
  generalize hL : startL w x0 x2 x3 x4 x5 x6 = L
  have inner : ∀ i r,i < lenOf x6 → r < 2 → L[12 + (2 * i + r) - 6]? = some (exSl w 1 (cellV w) (cellV w (addrOf x6) (i * 7 + 1 + r))) := fun i r hi hr => by rw [← hL]; exact startL_at hi hr
  obtain ⟨a1,a2,a3,a4⟩ := openS_ok (L := L) (N := 6) o0 (by decide) (by omega) (by rw [← hL]; rfl) (simple_ok file_simple)
  obtain ⟨b1,b2,b3,b4⟩ := openS_ok (L := L) (N := 7) o2 (by decide) (by omega) (by rw [← hL]; rfl) (simple_ok entry_simple)
  obtain ⟨c1,c2,c3,c4⟩ := openS_ok (L := L) (N := 8) o3 (by decide) (by omega) (by rw [← hL]; rfl) (simple_ok entry_simple)
  obtain ⟨d1,d2,d3,d4⟩ := openS_ok (L := L) (N := 9) o4 (by decide) (by omega) (by rw [← hL]; rfl) (simple_ok entry_simple)
  obtain ⟨e1,e2,e3,e4⟩ := openS_ok (L := L) (N := 10) o5 (by decide) (by omega) (by rw [← hL]; rfl) (simple_ok entry_simple)
  have spec : ∀ i,i < lenOf x6 → ∀ l,IsNamed w l → (∀ j (hj : j < l.length),cellV w (addrOf x6) (i * 7 + j) = l[j]) →
      (∀ j (hj : j < l.length),VR (exNm L) (gSpec w (addrOf x6) (i * 7 + j)) l[j] ∧ (gSpec w (addrOf x6) (i * 7 + j)).oneCell' = true) ∧
      (mkSp w x6 i).ok (exH L) ∧ (∀ r e,r < 2 → exSl w 1 (cellV w) (cellV w (addrOf x6) (i * 7 + 1 + r)) = some e → exOk L w e) ∧
      ∃ s va vw s1 s2 s3 s4,l = [.string s,va,vw,.string s1,.string s2,.string s3,.string s4] := by
    rintro i hi l ⟨s,va,vw,s1,s2,s3,s4,rfl,ova,ovw⟩ hc
    have h0 := hc 0 (by simp)
    have h1 := hc 1 (by simp)
    have h2 := hc 2 (by simp)
    have h3 := hc 3 (by simp)
    have h4 := hc 4 (by simp)
    have h5 := hc 5 (by simp)
    have h6 := hc 6 (by simp)
    simp only [List.getElem_cons_zero,List.getElem_cons_succ,Nat.add_zero] at h0 h1 h2 h3 h4 h5 h6
    have i0 := inner i 0 hi (by decide)
    have i1 := inner i 1 hi (by decide)
    rw [Nat.add_zero,h1] at i0
    rw [Nat.add_assoc,h2] at i1
    obtain ⟨p1,p2,p3,p4⟩ := openS_ok (L := L) (N := 12 + (2 * i + 0)) ova (by decide) (by omega) i0 (simple_ok int_simple)
    obtain ⟨q1,q2,q3,q4⟩ := openS_ok (L := L) (N := 12 + (2 * i + 1)) ovw (by decide) (by omega) i1 (simple_ok str_simple)
    have g1 : gSpec w (addrOf x6) (i * 7 + 1) = avSl (12 + (2 * i + 0)) 1 va := by
      unfold gSpec
      rw [if_pos (by omega),h1,show (i * 7 + 1) / 7 = i by omega,show (i * 7 + 1) % 7 = 1 by omega]
    have g2 : gSpec w (addrOf x6) (i * 7 + 2) = avSl (12 + (2 * i + 1)) 1 vw := by
      unfold gSpec
      rw [if_pos (by omega),h2,show (i * 7 + 2) / 7 = i by omega,show (i * 7 + 2) % 7 = 2 by omega]
    have one : ∀ N x,(avSl N 1 x).oneCell' = true := fun N x => by unfold avSl; split <;> rfl
    refine ⟨fun j hj => ?_,?_,fun r e hr he => ?_,s,va,vw,s1,s2,s3,s4,rfl⟩
    · have hj7 : j < 7 := by simpa using hj
      rcases (show j = 1 ∨ j = 2 ∨ (j ≠ 1 ∧ j ≠ 2) by omega) with rfl | rfl | ⟨hj1,hj2⟩
      · rw [g1]; exact ⟨p1,one _ _⟩
      · rw [g2]; exact ⟨q1,one _ _⟩
      · have : gSpec w (addrOf x6) (i * 7 + j) = cellV w (addrOf x6) (i * 7 + j) := by
          unfold gSpec; rw [if_neg (by omega)]
        rw [this,hc j hj]
        rcases (show j = 0 ∨ j = 3 ∨ j = 4 ∨ j = 5 ∨ j = 6 by omega) with rfl | rfl | rfl | rfl | rfl <;> exact ⟨.string _,rfl⟩
    · unfold mkSp Sp.ok
      simp only [h1,h2]
      refine ⟨p2,fun j hj => ?_,q2,fun j hj => ?_⟩
      · obtain ⟨l,k1,⟨s,rfl⟩,k3⟩ := p3 j hj
        have := k3 0 (by simp)
        simp only [Nat.mul_one,Nat.add_zero,List.getElem_cons_zero] at this
        rw [this]; rfl
      · obtain ⟨l,k1,⟨s,rfl⟩,k3⟩ := q3 j hj
        have := k3 0 (by simp)
        simp only [Nat.mul_one,Nat.add_zero,List.getElem_cons_zero] at this
        rw [this]; rfl
    · rcases (show r = 0 ∨ r = 1 by omega) with rfl | rfl
      · rw [Nat.add_zero,h1] at he; exact p4 e he
      · rw [Nat.add_assoc,h2] at he; exact q4 e he
  have hgs : ∀ a n c,x6 = .slice (some a) n c → ∀ i,i < n → ∀ l,l.length = 7 → IsNamed w l → (∀ j (hj : j < l.length),cellV w a (i * 7 + j) = l[j]) → ∀ j (hj : j < l.length),VR (exNm L) (gSpec w a (i * 7 + j)) l[j] ∧ (gSpec w a (i * 7 + j)).oneCell' = true := by
    rintro a n c rfl i hi l _ hl hc j hj
    exact (spec i hi l hl hc).1 j hj
  obtain ⟨f1,f2,f3,f4⟩ := openS_ok (L := L) (N := 11) (g := gSpec w) o6 (by decide) (by omega) (by rw [← hL]; rfl) hgs
  refine ⟨exRel hG hN fun x hx => ?_,?_,mkFl_ok a2 a3,mkTb_ok b2 b3,mkTb_ok c2 c3,mkTb_ok d2 d3,mkTb_ok e2 e3,f2,fun j hj => ?_⟩
  · rw [← hL] at hx
    unfold startL at hx
    simp only [List.mem_append,List.mem_cons,List.not_mem_nil,or_false,List.mem_map,List.mem_range] at hx
    rcases hx with (h | h | h | h | h | h) | ⟨m,hm,h⟩
    · exact a4 x h.symm
    · exact b4 x h.symm
    · exact c4 x h.symm
    · exact d4 x h.symm
    · exact e4 x h.symm
    · exact f4 x h.symm
    · obtain ⟨l,k1,k2,k3⟩ := f3 (m / 2) (by omega)
      exact (spec (m / 2) (by omega) l k2 k3).2.2.1 (m % 2) x (by omega) h
  · unfold mkWd Wd.v
    refine VRs.agg (.cons a1 (.cons (.string _) (.cons b1 (.cons c1 (.cons d1 (.cons e1 (.cons f1 .nil))))))) ?_
    have one : ∀ N s x,(avSl N s x).oneCell' = true := fun N s x => by unfold avSl; split <;> rfl
    intro v hv
    simp only [List.mem_cons,List.not_mem_nil,or_false] at hv
    rcases hv with rfl | rfl | rfl | rfl | rfl | rfl | rfl
    all_goals first | rfl | exact one _ _ _
  · change j < lenOf x6 at hj
    obtain ⟨l,k1,k2,k3⟩ := f3 j hj
    obtain ⟨m1,m2,m3,s,va,vw,s1,s2,s3,s4,rfl⟩ := spec j hj l k2 k3
    have h0 := k3 0 (by simp)
    have h3 := k3 3 (by simp)
    have h4 := k3 4 (by simp)
    have h5 := k3 5 (by simp)
    have h6 := k3 6 (by simp)
    simp only [List.getElem_cons_zero,List.getElem_cons_succ,Nat.add_zero] at h0 h3 h4 h5 h6
    have gs : ∀ k,k < 7 → k ≠ 1 → k ≠ 2 → gSpec w (addrOf x6) (j * 7 + k) = cellV w (addrOf x6) (j * 7 + k) := fun k hk h1 h2 => by
      unfold gSpec; rw [if_neg (by omega)]
    have gs1 : gSpec w (addrOf x6) (j * 7 + 1) = (mkSp w x6 j).va := by
      unfold gSpec mkSp
      rw [if_pos (by omega),show (j * 7 + 1) / 7 = j by omega,show (j * 7 + 1) % 7 = 1 by omega]; rfl
    have gs2 : gSpec w (addrOf x6) (j * 7 + 2) = (mkSp w x6 j).vw := by
      unfold gSpec mkSp
      rw [if_pos (by omega),show (j * 7 + 2) / 7 = j by omega,show (j * 7 + 2) % 7 = 2 by omega]
    have gs0 := gs 0 (by decide) (by decide) (by decide)
    rw [Nat.add_zero] at gs0
    refine ⟨m2,?_,gs1,gs2,?_,?_,?_,?_⟩
    · show gSpec w (addrOf x6) (j * 7) = .string (strOf (cellV w (addrOf x6) (j * 7)))
      rw [gs0,h0]; rfl
    · show gSpec w (addrOf x6) (j * 7 + 3) = .string (strOf (cellV w (addrOf x6) (j * 7 + 3)))
      rw [gs 3 (by decide) (by decide) (by decide),h3]; rfl
    · show gSpec w (addrOf x6) (j * 7 + 4) = .string (strOf (cellV w (addrOf x6) (j * 7 + 4)))
      rw [gs 4 (by decide) (by decide) (by decide),h4]; rfl
    · show gSpec w (addrOf x6) (j * 7 + 5) = .string (strOf (cellV w (addrOf x6) (j * 7 + 5)))
      rw [gs 5 (by decide) (by decide) (by decide),h5]; rfl
    · show gSpec w (addrOf x6) (j * 7 + 6) = .string (strOf (cellV w (addrOf x6) (j * 7 + 6)))
      rw [gs 6 (by decide) (by decide) (by decide),h6]; rfl
end Go.Ae
