/- Part 9 of the proof of the law: Ae19, Ae20, Ae21. No condition. -/
import Derived.Test.YtalflgbdhjjlkaaGreatDoorP08
import Derived.Orders
set_option linter.all false
namespace Go.Ae
open Go
theorem nodeOf_ok {its : List AItem} {u : Nat} {n : Node} (h : nodeOf its u = some n) : NodeOk n := by
 unfold nodeOf at h
 split at h
 ·split at h
  ·cases h; exact .inr rfl
  ·split at h
   ·rename_i hh; cases h; exact .inl ⟨rfl,hh⟩
   ·cases h
 ·cases h
theorem nodeOf_it {its : List AItem} {u : Nat} {n : Node} (h : nodeOf its u = some n) : its[u / 2]? = some n.it ∧ n.off = offOf its (u / 2) := by
 unfold nodeOf at h
 split at h
 ·rename_i it hit
  split at h
  ·cases h; exact ⟨hit,rfl⟩
  ·split at h
   ·cases h; exact ⟨hit,rfl⟩
   ·cases h
 ·cases h
theorem kindA_ne_lay (op : AOp) : kindA op ≠ .lay := by cases op <;> simp [kindA] <;> split <;> simp
theorem nodeOf_lay {its : List AItem} {u : Nat} {n : Node} (h : nodeOf its u = some n) (hk : n.kind = .lay) : u % 2 = 1 ∧ isAlloc n.it.op = true := by
 unfold nodeOf at h
 split at h
 ·split at h
  ·cases h; exact absurd hk (kindA_ne_lay _)
  ·rename_i hu
   split at h
   ·rename_i hh; cases h; exact ⟨by omega,hh⟩
   ·cases h
 ·cases h
theorem offOf_lt {its : List AItem} : ∀ {i j : Nat} {it : AItem},its[i]? = some it → isAlloc it.op = true → i < j → offOf its i < offOf its j := by
 intro i j it hi ha hij
 unfold offOf
 have hlt : i < its.length := by
  rcases Nat.lt_or_ge i its.length with h | h
  ·exact h
  ·rw [List.getElem?_eq_none h] at hi; cases hi
 have e : its[i] = it := by rw [List.getElem?_eq_getElem hlt] at hi; exact Option.some.inj hi
 have h1 : its.take (i + 1) = its.take i ++ [it] := by rw [List.take_succ_eq_append_getElem hlt,e]
 have h2 : its.take j = its.take (i + 1) ++ (its.take j).drop (i + 1) := by
  have := (List.take_append_drop (i + 1) (its.take j)).symm
  rw [List.take_take,Nat.min_eq_left (by omega)] at this
  exact this
 rw [h2,h1]
 simp only [List.filter_append,List.length_append,List.filter_cons,ha,if_true,List.filter_nil,List.length_cons,List.length_nil]
 omega
theorem off_ne {its : List AItem} {u v : Nat} {n m : Node} (hu : nodeOf its u = some n) (hv : nodeOf its v = some m) (hne : u ≠ v) (hn : n.kind = .lay) (hm : m.kind = .lay) : n.off ≠ m.off := by
 obtain ⟨h1,h2⟩ := nodeOf_it hu
 obtain ⟨h3,h4⟩ := nodeOf_it hv
 obtain ⟨h5,h6⟩ := nodeOf_lay hu hn
 obtain ⟨h7,h8⟩ := nodeOf_lay hv hm
 rw [h2,h4]
 rcases Nat.lt_or_ge (u / 2) (v / 2) with h | h
 ·have := offOf_lt h1 h6 h; omega
 ·have : v / 2 < u / 2 := by omega
  have := offOf_lt h3 h8 this; omega
theorem chkAt_kinds {g : Graph} {l a : Nat} (h : g.chkAt l a = true) : ∃ n m,nodeOf g.its l = some n ∧ nodeOf g.its a = some m ∧ n.kind = .load ∧ m.kind = .effect ∧ g.before l a = false ∧ g.before a l = false := by
 unfold Graph.chkAt at h
 split at h
 ·rename_i n m h1 h2
  simp only [Bool.and_eq_true,beq_iff_eq,Bool.not_eq_true'] at h
  exact ⟨n,m,h1,h2,h.1.1.1,h.1.1.2,h.1.2,h.2⟩
 ·cases h
theorem mem_nodes {g : Graph} {u : Nat} : u ∈ g.nodes ↔ ∃ n,nodeOf g.its u = some n := by
 unfold Graph.nodes
 simp only [List.mem_flatMap,List.mem_range]
 constructor
 ·rintro ⟨i,hi,h⟩
  cases hit : g.its[i]? with
  | none => rw [hit] at h; cases h
  | some it =>
   rw [hit] at h
   simp only at h
   unfold nodeOf
   split at h
   ·rename_i ha
    simp only [List.mem_cons,List.not_mem_nil,or_false] at h
    rcases h with rfl | rfl
    ·rw [show 2 * i / 2 = i from by omega,hit]; simp [show 2 * i % 2 = 0 from by omega]
    ·rw [show (2 * i + 1) / 2 = i from by omega,hit]; simp [show (2 * i + 1) % 2 = 1 from by omega,ha]
   ·simp only [List.mem_cons,List.not_mem_nil,or_false] at h
    subst h
    rw [show 2 * i / 2 = i from by omega,hit]; simp [show 2 * i % 2 = 0 from by omega]
 ·rintro ⟨n,h⟩
  obtain ⟨h1,_⟩ := nodeOf_it h
  refine ⟨u / 2,?_,?_⟩
  ·rcases Nat.lt_or_ge (u / 2) g.its.length with hh | hh
   ·exact hh
   ·rw [List.getElem?_eq_none hh] at h1; cases h1
  ·rw [h1]
   simp only
   unfold nodeOf at h
   rw [h1] at h
   simp only at h
   split at h
   ·split
    ·simp; omega
    ·simp; omega
   ·split at h
    ·rename_i ha
     rw [if_pos ha]; simp; omega
    ·cases h
def Inv (g : Graph) (base : Nat) (X : Nat → Bool) (H : Heap) : Prop := H.wf ∧ ∀ u n,nodeOf g.its u = some n → n.kind = .lay → X u = false → Free H (base + n.off)
theorem upd_false {X : Nat → Bool} {i u : Nat} (h : upd X i u = false) : u ≠ i ∧ X u = false := by
 simp only [upd,Bool.or_eq_false_iff,beq_eq_false_iff_ne] at h; exact h
theorem runN_inv {K : Cx} {g : Graph} {base : Nat} {i : Nat} {n : Node} (hi : nodeOf g.its i = some n) {X : Nat → Bool} {H : Heap} (hinv : Inv g base X H) {R : List Value → Heap → Prop} {E : List Value} (h : runN K base n R E H) :
  runN K base n (fun E' H' => Inv g base (upd X i) H' ∧ R E' H') E H := by
 have same : Inv g base (upd X i) H := ⟨hinv.1,fun u m h1 h2 h3 => hinv.2 u m h1 h2 (upd_false h3).2⟩
 unfold runN at *
 cases hk : n.kind <;> rw [hk] at h
 case effect =>
  refine wpItem_mono (fun E' H' hq => ?_) (wpItem_grows hinv.1 h)
  exact ⟨⟨hq.2.2.1,fun u m h1 h2 h3 => hq.2.1.free _ (hinv.2 u m h1 h2 (upd_false h3).2)⟩,hq.2.2.2⟩
 case lay =>
  simp only at h ⊢
  refine ⟨?_,h⟩
  rcases layH_cases n.it (base + n.off) E H with hc | ⟨o,ho,hc⟩
  ·rw [hc E rfl rfl]; exact same
  ·rw [hc E rfl rfl]
   refine ⟨Heap.wf_set _ _ hinv.1,fun u m h1 h2 h3 => ?_⟩
   obtain ⟨hne,hX⟩ := upd_false h3
   refine set_free (hinv.2 u m h1 h2 hX) _ ?_
   have := off_ne hi h1 (Ne.symm hne) hk h2
   omega
 all_goals
  obtain ⟨v,h1,h2⟩ := h
  exact ⟨v,h1,same,h2⟩
theorem front {K : Cx} {g : Graph} {base : Nat} {Q : List Value → Heap → Prop} (hlo : g.loadsOk = true) {i : Nat} {n : Node} (hi : nodeOf g.its i = some n) {υ : List Nat} : ∀ (τ : List Nat) (X : Nat → Bool) (E : List Value) (H : Heap),
  X i = false → (∀ l,X l = true → g.before i l = false) → Inv g base X H →
  (∀ a ∈ τ,a ≠ i ∧ X a = false ∧ g.before i a = false ∧ g.before a i = false ∧ ∃ m,nodeOf g.its a = some m ∧ swapOk n m = true) → τ.Nodup →
  wpO K g base Q X (i :: (τ ++ υ)) E H → wpO K g base Q X (τ ++ i :: υ) E H
 | [],X,E,H,_,_,_,_,_,h => h
 | a :: τ,X,E,H,hXi,hbi,hinv,hτ,hnd,h => by
  obtain ⟨hne,hXa,hia,hai,m,hm,hok⟩ := hτ a (by simp)
  have hnd' := List.nodup_cons.1 hnd
  simp only [List.cons_append,wpO,hi,hm] at h ⊢
  have hs := swap hi hm (Ne.symm hne) (nodeOf_ok hi) (nodeOf_ok hm) hok hXi
   (fun h1 h2 => by simp [Graph.chkAt,hi,hm,h1,h2,hia,hai])
   (fun l n' h1 h2 h3 => by
    have hb := hbi l h1
    have hli : l ≠ i := fun e => by subst e; rw [hXi] at h1; cases h1
    unfold Graph.loadsOk at hlo
    rw [List.all_eq_true] at hlo
    have q1 := hlo l (mem_nodes.2 ⟨_,h3⟩)
    rw [List.all_eq_true] at q1
    have q2 := q1 a (mem_nodes.2 ⟨_,hm⟩)
    rw [h2] at q2
    simp only [Bool.not_true,Bool.false_or] at q2
    rw [List.all_eq_true] at q2
    have q3 := q2 i (mem_nodes.2 ⟨_,hi⟩)
    simp only [h3,hi,hb,Bool.or_false,Bool.or_eq_true,beq_iff_eq,Bool.and_eq_true] at q3
    rcases q3 with q3 | q3
    ·exact absurd q3.symm hli
    ·refine ⟨q3.1,?_⟩
     have e : n'.dst = n'.it.dst := by
      obtain ⟨x,y,g1,g2,g3,_⟩ := chkAt_kinds h2
      rw [h3] at g1; cases g1
      simp [Node.dst,g3]
     rw [← e]; exact q3.2)
   (fun l h => by obtain ⟨x,y,g1,g2,g3,g4,_⟩ := chkAt_kinds h; rw [hm] at g1; cases g1; exact g3)
   (fun l h => by obtain ⟨x,y,g1,g2,g3,g4,_⟩ := chkAt_kinds h; rw [hi] at g2; cases g2; exact g4)
   (fun l h => by obtain ⟨x,y,g1,g2,g3,g4,_⟩ := chkAt_kinds h; rw [hm] at g2; cases g2; exact g4)
   (fun l h => by obtain ⟨x,y,g1,g2,g3,g4,_⟩ := chkAt_kinds h; rw [hi] at g1; cases g1; exact g3)
   (fun l j n' h h3 => by obtain ⟨x,y,g1,g2,g3,g4,_⟩ := chkAt_kinds h; rw [h3] at g1; cases g1; exact ⟨nodeOf_ok h3,by rw [g3]; rfl⟩)
   (fun h1 => hinv.2 a m hm h1 hXa) (fun h1 h2 => off_ne hi hm (Ne.symm hne) h1 h2) h
  refine runN_mono (fun E' H' hq => ?_) (runN_inv hm hinv hs)
  obtain ⟨hinv',hc,hq⟩ := hq
  refine ⟨hc,front hlo hi τ (upd X a) E' H' (by simp [upd,hXi,Ne.symm hne]) (fun l hl => ?_) hinv' (fun b hb => ?_) hnd'.2 ?_⟩
  ·simp only [upd,Bool.or_eq_true,beq_iff_eq] at hl
   rcases hl with rfl | hl
   ·exact hia
   ·exact hbi l hl
  ·obtain ⟨g1,g2,g3⟩ := hτ b (by simp [hb])
   refine ⟨g1,?_,g3⟩
   have : b ≠ a := fun e => hnd'.1 (e ▸ hb)
   simp [upd,g2,this]
  ·simp only [wpO,hi]
   rw [upd_comm X i a] at hq
   exact hq
theorem pick_spec {g : Graph} {rest : List Nat} {i : Nat} (h : g.pick rest = some i) : i ∈ rest ∧ g.mayPick rest i = true := by
 unfold Graph.pick at h
 obtain ⟨r,_,hr⟩ := List.exists_of_findSome?_eq_some h
 have := List.mem_of_find?_eq_some hr
 simpa [List.mem_filter] using this
theorem canon_ok {K : Cx} {g : Graph} {base : Nat} {Q : List Value → Heap → Prop} (hlo : g.loadsOk = true) : ∀ (f : Nat) (rest c : List Nat),g.canon f rest = some c → ∀ (X : Nat → Bool),(∀ x,x ∈ rest ↔ x ∈ g.nodes ∧ X x = false) →
  (∀ l u,X l = true → u ∈ g.nodes → X u = false → g.before u l = false) → ∀ (σ : List Nat),σ.Nodup → (∀ x,x ∈ σ ↔ x ∈ g.nodes ∧ X x = false) → σ.Pairwise (fun x y => g.before y x = false) →
  ∀ (E : List Value) (H : Heap),Inv g base X H → wpO K g base Q X c E H → wpO K g base Q X σ E H
 | f,[],c,hc,X,hrest,_,σ,_,hσ,_,E,H,_,h => by
  have : σ = [] := by
   cases σ with
   | nil => rfl
   | cons x σ => exact absurd ((hrest x).2 ((hσ x).1 (by simp))) (by simp)
  subst this
  cases f <;> simp [Graph.canon] at hc <;> subst hc <;> exact h
 | 0,x :: rest,c,hc,_,_,_,_,_,_,_,_,_,_,_ => by simp [Graph.canon] at hc
 | f + 1,x :: rest,c,hc,X,hrest,hclosed,σ,hnd,hσ,hpw,E,H,hinv,h => by
  simp only [Graph.canon] at hc
  cases hp : g.pick (x :: rest) with
  | none => rw [hp] at hc; cases hc
  | some i =>
   rw [hp] at hc
   simp only [Option.map_eq_some_iff] at hc
   obtain ⟨c',hc',rfl⟩ := hc
   obtain ⟨himem,hmay⟩ := pick_spec hp
   obtain ⟨hin,hXi⟩ := (hrest i).1 himem
   obtain ⟨n,hi⟩ := mem_nodes.1 hin
   unfold Graph.mayPick at hmay
   simp only [Bool.and_eq_true,List.all_eq_true,Bool.or_eq_true,beq_iff_eq,Bool.not_eq_true'] at hmay
   obtain ⟨hm1,hm2⟩ := hmay
   obtain ⟨τ,υ,rfl⟩ := List.append_of_mem ((hσ i).2 ⟨hin,hXi⟩)
   have hnd2 : (τ ++ υ).Nodup ∧ i ∉ τ ∧ i ∉ υ := by
    obtain ⟨p1,p2,p3⟩ := List.nodup_append.1 hnd
    obtain ⟨p4,p5⟩ := List.nodup_cons.1 p2
    exact ⟨List.nodup_append.2 ⟨p1,p5,fun a ha b hb => p3 a ha b (by simp [hb])⟩,fun hh => p3 i hh i (by simp) rfl,p4⟩
   have hpw' := List.pairwise_append.1 hpw
   have hleft : ∀ a,a ≠ i → (a ∈ g.nodes ∧ X a = false) → g.before a i = false := fun a hne ha => by
    rcases hm1 a ((hrest a).2 ha) with e | e
    ·exact absurd e hne
    ·exact e
   have hrest' : ∀ x',x' ∈ (x :: rest).filter (· != i) ↔ x' ∈ g.nodes ∧ upd X i x' = false := by
    intro x'
    rw [List.mem_filter,hrest]
    simp only [upd,bne_iff_ne,ne_eq,Bool.or_eq_false_iff,beq_eq_false_iff_ne]
    exact ⟨fun ⟨⟨a,b⟩,c⟩ => ⟨a,c,b⟩,fun ⟨a,c,b⟩ => ⟨⟨a,b⟩,c⟩⟩
   have hclosed' : ∀ l u,upd X i l = true → u ∈ g.nodes → upd X i u = false → g.before u l = false := by
    intro l u hl hu hXu
    obtain ⟨hne,hXu⟩ := upd_false hXu
    simp only [upd,Bool.or_eq_true,beq_iff_eq] at hl
    rcases hl with e | hl
    ·rw [e]; exact hleft u hne ⟨hu,hXu⟩
    ·exact hclosed l u hl hu hXu
   have hσ' : ∀ x',x' ∈ τ ++ υ ↔ x' ∈ g.nodes ∧ upd X i x' = false := by
    intro x'
    have := hσ x'
    simp only [List.mem_append,List.mem_cons] at this ⊢
    constructor
    ·intro hx
     have hne : x' ≠ i := fun e => by subst e; rcases hx with hx | hx; exact hnd2.2.1 hx; exact hnd2.2.2 hx
     have := this.1 (by rcases hx with hx | hx; exact .inl hx; exact .inr (.inr hx))
     exact ⟨this.1,by simp [upd,hne,this.2]⟩
    ·rintro ⟨h1,h2⟩
     obtain ⟨hne,h2⟩ := upd_false h2
     rcases this.2 ⟨h1,h2⟩ with hx | hx | hx
     ·exact .inl hx
     ·exact absurd hx hne
     ·exact .inr hx
   have hpw2 : (τ ++ υ).Pairwise (fun x y => g.before y x = false) := by
    refine List.pairwise_append.2 ⟨hpw'.1,(List.pairwise_cons.1 hpw'.2.1).2,fun a ha b hb => hpw'.2.2 a ha b (by simp [hb])⟩
   refine front hlo hi τ X E H hXi (fun l hl => hclosed l i hl hin hXi) hinv (fun a ha => ?_) ((List.nodup_append.1 hnd2.1).1) ?_
   ·have hne : a ≠ i := fun e => hnd2.2.1 (e ▸ ha)
    have haX := (hσ a).1 (by simp [ha])
    have hb : g.before i a = false := hpw'.2.2 a ha i (by simp)
    refine ⟨hne,haX.2,hb,hleft a hne haX,?_⟩
    rcases hm2 a ((hrest a).2 haX) with (e | e) | e
    ·exact absurd e hne
    ·rw [hb] at e; cases e
    ·rw [hi] at e
     obtain ⟨m,hm⟩ := mem_nodes.1 haX.1
     rw [hm] at e
     exact ⟨m,hm,e⟩
   ·simp only [wpO,hi] at h ⊢
    refine runN_mono (fun E' H' hq => ?_) (runN_inv hi hinv h)
    obtain ⟨hinv',hcs,hq⟩ := hq
    exact ⟨hcs,canon_ok hlo f _ c' hc' (upd X i) hrest' hclosed' (τ ++ υ) hnd2.1 hσ' hpw2 E' H' hinv' hq⟩
end Go.Ae
namespace Go.Ae
open Go
theorem predsL_spec : ∀ (ops : List Oper) (acc : List (List Nat)),(∃ ext,predsL ops acc = acc ++ ext) ∧ ∀ (k : Nat) (o : Oper),ops[k]? = some o → (∀ j ∈ direct o,j < acc.length + k) →
  (predsL ops acc)[acc.length + k]? = some (direct o ++ (direct o).flatMap fun j => (predsL ops acc).getD j [])
 | [],acc => ⟨⟨[],by simp [predsL]⟩,fun k o h => by simp at h⟩
 | o :: r,acc => by
  obtain ⟨⟨ext,h1⟩,h2⟩ := predsL_spec r (acc ++ [direct o ++ (direct o).flatMap fun j => acc.getD j []])
  have he : predsL (o :: r) acc = predsL r (acc ++ [direct o ++ (direct o).flatMap fun j => acc.getD j []]) := rfl
  rw [he]
  refine ⟨⟨[direct o ++ (direct o).flatMap fun j => acc.getD j []] ++ ext,by rw [h1]; simp⟩,fun k o' hk hj => ?_⟩
  cases k with
  | zero =>
   simp at hk; subst hk
   have hg : ∀ j ∈ direct o,(predsL r (acc ++ [direct o ++ (direct o).flatMap fun j => acc.getD j []])).getD j [] = acc.getD j [] := by
    intro j hjm
    have := hj j hjm
    rw [h1,List.getD_eq_getElem?_getD,List.getD_eq_getElem?_getD,List.append_assoc,List.getElem?_append_left (by omega)]
   have : ((direct o).flatMap fun j => (predsL r (acc ++ [direct o ++ (direct o).flatMap fun j => acc.getD j []])).getD j []) = (direct o).flatMap fun j => acc.getD j [] := by
    simp only [List.flatMap]
    exact congrArg List.flatten (List.map_congr_left hg)
   rw [this,h1]
   simp
  | succ k =>
   have := h2 k o' (by simpa using hk) (fun j hjm => by have := hj j hjm; simp; omega)
   simp only [List.length_append,List.length_cons,List.length_nil] at this
   rw [show acc.length + (k + 1) = acc.length + (0 + 1) + k from by omega]
   exact this
theorem preds_of {ops : List Oper} (he : edgesOk ops = true) {i : Nat} {o : Oper} (hi : ops[i]? = some o) : (predsL ops []).getD i [] = direct o ++ (direct o).flatMap fun j => (predsL ops []).getD j [] := by
 have hlt : i < ops.length := by
  rcases Nat.lt_or_ge i ops.length with h | h
  ·exact h
  ·rw [List.getElem?_eq_none h] at hi; cases hi
 unfold edgesOk at he
 rw [List.all_eq_true] at he
 have := he i (by simpa using hlt)
 rw [hi] at this
 simp only [List.all_eq_true,decide_eq_true_eq] at this
 have h := (predsL_spec ops []).2 i o hi (by simpa using this)
 simp only [List.length_nil,Nat.zero_add] at h
 rw [List.getD_eq_getElem?_getD,h]
 rfl
theorem countP_less {p p' : Nat → Bool} {i : Nat} : ∀ (L : List Nat),L.Nodup → i ∈ L → p i = true → p' i = false → (∀ j,j ≠ i → p' j = p j) → L.countP p = L.countP p' + 1
 | [],_,h,_,_,_ => by cases h
 | x :: L,hnd,h,hp,hp',hc => by
  obtain ⟨h1,h2⟩ := List.nodup_cons.1 hnd
  rcases List.mem_cons.1 h with rfl | h
  ·rw [List.countP_cons,List.countP_cons,hp,hp']
   have : L.countP p' = L.countP p := List.countP_congr fun j hj => by rw [hc j (fun e => h1 (e ▸ hj))]
   simp [this]
  ·have hne : x ≠ i := fun e => h1 (e ▸ h)
   rw [List.countP_cons,List.countP_cons,countP_less L h2 h hp hp' hc,hc x hne]
   omega
def isL (listed : Array Bool) (i : Nat) : Bool := listed.getD i false
theorem getD_set {listed : Array Bool} {i : Nat} (hi : i < listed.size) (j : Nat) : isL (listed.setIfInBounds i true) j = (j == i || isL listed j) := by
 unfold isL
 by_cases h : j = i
 ·subst h; simp [Array.getD,hi]
 ·simp only [beq_false_of_ne h,Bool.false_or]
  simp only [Array.getD_eq_getD_getElem?]
  rw [Array.getElem?_setIfInBounds_ne (Ne.symm h)]
theorem ready_mem {ops : Array Oper} {listed : Array Bool} (hs : listed.size = ops.size) {i : Nat} : i ∈ Region.ready .any ops listed ↔ i < ops.size ∧ isL listed i = false ∧ ∃ o,ops[i]? = some o ∧ ∀ j ∈ direct o,isL listed j = true := by
 unfold Region.ready isL
 simp only [List.mem_filter,List.mem_range,Bool.and_eq_true,Bool.not_eq_true']
 have hgd : i < ops.size → listed.getD i true = listed.getD i false := fun h => by simp [Array.getD,hs,h]
 constructor
 ·rintro ⟨h1,h2,h3⟩
  refine ⟨h1,by rw [← hgd h1]; exact h2,?_⟩
  cases ho : ops[i]? with
  | none => rw [ho] at h3; cases h3
  | some o =>
   rw [ho] at h3
   simp only [Option.map_some,Option.getD_some,Array.all_eq_true',Bool.or_eq_true,Bool.not_eq_true'] at h3
   refine ⟨o,rfl,fun j hj => ?_⟩
   unfold direct at hj
   simp only [List.mem_map,List.mem_filter] at hj
   obtain ⟨e,⟨he1,he2⟩,rfl⟩ := hj
   rcases h3 e (by simpa using he1) with h | h
   ·rw [he2] at h; cases h
   ·exact h
 ·rintro ⟨h1,h2,o,ho,h3⟩
  refine ⟨h1,by rw [hgd h1]; exact h2,?_⟩
  rw [ho]
  simp only [Option.map_some,Option.getD_some,Array.all_eq_true',Bool.or_eq_true,Bool.not_eq_true']
  intro e he
  by_cases hb : Region.binds .any e = true
  ·exact .inr (h3 e.on (by unfold direct; simp only [List.mem_map,List.mem_filter]; exact ⟨e,⟨by simpa using he,hb⟩,rfl⟩))
  ·exact .inl (by simpa using hb)
theorem linearise_spec {ops : Array Oper} (he : edgesOk ops.toList = true) : ∀ (fuel t : Nat) (listed : Array Bool),listed.size = ops.size → (∀ i,isL listed i = true → ∀ j ∈ (predsL ops.toList []).getD i [],isL listed j = true) →
  (List.range ops.size).countP (fun i => !isL listed i) ≤ fuel →
  (Region.linearise.go .any ops fuel t listed []).Nodup ∧ (∀ x,x ∈ Region.linearise.go .any ops fuel t listed [] ↔ x < ops.size ∧ isL listed x = false) ∧
   (Region.linearise.go .any ops fuel t listed []).Pairwise (fun x y => y ∉ (predsL ops.toList []).getD x [])
 | 0,t,listed,hs,hcl,hf => by
  simp only [Region.linearise.go,List.reverse_nil]
  refine ⟨List.nodup_nil,fun x => ⟨fun h => (by cases h),fun ⟨h1,h2⟩ => ?_⟩,List.Pairwise.nil⟩
  have := List.countP_eq_zero.1 (Nat.le_zero.1 hf) x (by simpa using h1)
  simp [h2] at this
 | fuel + 1,t,listed,hs,hcl,hf => by
  have hgo : Region.linearise.go .any ops (fuel + 1) t listed [] = match (Region.ready .any ops listed)[t % (Region.ready .any ops listed).length]? with
   | some i => Region.linearise.go .any ops fuel (t / (Region.ready .any ops listed).length) (listed.setIfInBounds i true) [i]
   | none => [] := rfl
  rw [hgo]
  cases hi : (Region.ready .any ops listed)[t % (Region.ready .any ops listed).length]? with
  | none =>
   have hnil : Region.ready .any ops listed = [] := by
    cases hr : Region.ready .any ops listed with
    | nil => rfl
    | cons x xs =>
     rw [hr] at hi
     have hlt : t % (x :: xs).length < (x :: xs).length := Nat.mod_lt _ (by simp)
     rw [List.getElem?_eq_getElem hlt] at hi
     cases hi
   refine ⟨List.nodup_nil,fun x => ⟨fun h => (by cases h),fun ⟨h1,h2⟩ => ?_⟩,List.Pairwise.nil⟩
   exfalso
   have least : ∀ k x,x < k → x < ops.size → isL listed x = false → False := by
    intro k
    induction k with
    | zero => intro x h; omega
    | succ k ih =>
     intro x hxk hx hl
     by_cases hall : ∀ j,j < x → isL listed j = true
     ·have ho : ∃ o,ops[x]? = some o := ⟨ops[x],by simp [hx]⟩
      obtain ⟨o,ho⟩ := ho
      have : x ∈ Region.ready .any ops listed := by
       refine (ready_mem hs).2 ⟨hx,hl,o,ho,fun j hj => hall j ?_⟩
       unfold edgesOk at he
       rw [List.all_eq_true] at he
       have := he x (by simpa using hx)
       rw [Array.getElem?_toList,ho] at this
       simp only [List.all_eq_true,decide_eq_true_eq] at this
       exact this j hj
      rw [hnil] at this; cases this
     ·simp only [Classical.not_forall] at hall
      obtain ⟨j,hj,hjl⟩ := hall
      exact ih j (by omega) (by omega) (by simpa using hjl)
   exact least (x + 1) x (by omega) h1 h2
  | some i =>
   simp only
   rw [linearise_go_acc,List.reverse_singleton,List.singleton_append]
   obtain ⟨hi1,hi2,o,ho,hdir⟩ := (ready_mem hs).1 (List.mem_of_getElem? hi)
   have hset : ∀ j,isL (listed.setIfInBounds i true) j = (j == i || isL listed j) := getD_set (by omega)
   have hpi : ∀ j ∈ (predsL ops.toList []).getD i [],isL listed j = true := by
    intro j hj
    rw [preds_of he (by rw [Array.getElem?_toList]; exact ho)] at hj
    rcases List.mem_append.1 hj with h | h
    ·exact hdir j h
    ·obtain ⟨k,hk,hjk⟩ := List.mem_flatMap.1 h
     exact hcl k (hdir k hk) j hjk
   have hcount : (List.range ops.size).countP (fun j => !isL (listed.setIfInBounds i true) j) ≤ fuel := by
    have := countP_less (p := fun j => !isL listed j) (p' := fun j => !isL (listed.setIfInBounds i true) j) (i := i) (List.range ops.size) List.nodup_range (by simpa using hi1) (by simp [hi2]) (by simp [hset])
     (fun j hj => by simp [hset,hj])
    omega
   obtain ⟨r1,r2,r3⟩ := linearise_spec he fuel (t / (Region.ready .any ops listed).length) (listed.setIfInBounds i true) (by simpa using hs)
    (fun k hk j hj => by
     rw [hset] at hk ⊢
     simp only [Bool.or_eq_true,beq_iff_eq] at hk ⊢
     rcases hk with rfl | hk
     ·exact .inr (hpi j hj)
     ·exact .inr (hcl k hk j hj)) hcount
   refine ⟨List.nodup_cons.2 ⟨fun h => ?_,r1⟩,fun x => ?_,List.pairwise_cons.2 ⟨fun y hy hyp => ?_,r3⟩⟩
   ·have := (r2 i).1 h
    simp [hset] at this
   ·rw [List.mem_cons,r2,hset]
    constructor
    ·rintro (rfl | ⟨h1,h2⟩)
     ·exact ⟨hi1,hi2⟩
     ·exact ⟨h1,by simp at h2; exact h2.2⟩
    ·rintro ⟨h1,h2⟩
     by_cases e : x = i
     ·exact .inl e
     ·exact .inr ⟨h1,by simp [e,h2]⟩
   ·have h1 := (r2 y).1 hy
    have h2 := hpi y hyp
    rw [hset,h2] at h1
    simp at h1
end Go.Ae
namespace Go.Ae
open Go
def wpD (K : Cx) (base : Nat) : List DItem → (List Value → Heap → Prop) → List Value → Heap → Prop
 | [],Q => Q
 | .run it :: r,Q => wpItem K it (wpD K base r Q)
 | .nam it off :: r,Q => fun E H => ∃ v,namV it (base + off) E = some v ∧ wpD K base r Q (put E it.dst v) H
 | .lay it off :: r,Q => fun E H => wpD K base r Q E (layH it (base + off) E H)
 | .chk it :: r,Q => fun E H => valI it E H = some (dstV it.dst E) ∧ wpD K base r Q E H
def DrawD : DrawP := fun K _ n l Q E H => wpD K H.next l Q E (H.reserve n)
theorem wpD_append {K : Cx} {base : Nat} : ∀ (a b : List DItem) (Q : List Value → Heap → Prop),wpD K base (a ++ b) Q = wpD K base a (wpD K base b Q)
 | [],_,_ => rfl
 | .run it :: a,b,Q => by simp only [List.cons_append,wpD,wpD_append a b Q]
 | .nam it off :: a,b,Q => by simp only [List.cons_append,wpD,wpD_append a b Q]
 | .lay it off :: a,b,Q => by simp only [List.cons_append,wpD,wpD_append a b Q]
 | .chk it :: a,b,Q => by simp only [List.cons_append,wpD,wpD_append a b Q]
theorem wpItem_op {K : Cx} {it : AItem} (h : ∀ f l,it.op ≠ .call f l) (h2 : ∀ x,it.op ≠ .capq x) (h3 : ∀ s x z l,it.op ≠ .appz s x z l) (Q : List Value → Heap → Prop) (E : List Value) (H : Heap) :
  wpItem K it Q E H = if wantedA it.guard E then (aop it.op E H).sat fun r => Q (put E it.dst r.1) r.2 else Q (put E it.dst undef) H := by
 unfold wpItem
 cases hop : it.op <;> first | rfl | exact absurd hop (h _ _) | exact absurd hop (h2 _) | exact absurd hop (h3 _ _ _ _)
theorem wpItem_val {K : Cx} {it : AItem} (hk : kindA it.op = .pure ∨ kindA it.op = .load) {R : List Value → Heap → Prop} {E : List Value} {H : Heap} : wpItem K it R E H ↔ ∃ v,valI it E H = some v ∧ R (put E it.dst v) H := by
 have hnc : ∀ f l,it.op ≠ .call f l := fun f l e => by rw [e] at hk; rcases hk with h | h <;> cases h
 have hnq : ∀ x,it.op ≠ .capq x := fun x e => by rw [e] at hk; rcases hk with h | h <;> cases h
 have hnz : ∀ s x z l,it.op ≠ .appz s x z l := fun s x z l e => by rw [e] at hk; rcases hk with h | h <;> cases h
 rw [wpItem_op hnc hnq hnz]
 unfold valI
 split
 ·obtain ⟨h1,h2⟩ := aop_looks hk E H
  cases hr : aop it.op E H with
  | ok r =>
   have := h1 r.1 r.2 (by rw [hr])
   simp only [Out.sat,outVal]
   rw [this]
   exact ⟨fun h => ⟨_,rfl,h⟩,fun ⟨v,e,h⟩ => by cases e; exact h⟩
  | big => exact absurd hr h2
  | bad k => exact ⟨fun h => h.elim,fun ⟨v,e,h⟩ => by cases e⟩
 ·exact ⟨fun h => ⟨_,rfl,h⟩,fun ⟨v,e,h⟩ => by cases e; exact h⟩
theorem wpD_chks {K : Cx} {g : Graph} {base i : Nat} {R : List Value → Heap → Prop} {E : List Value} {H : Heap} : ∀ (L : List Nat),wpD K base (L.filterMap fun l => if g.chkAt l i then (g.its[l / 2]?).map DItem.chk else none) R E H →
  (∀ l ∈ L,g.chkAt l i = true → ∀ it,g.its[l / 2]? = some it → valI it E H = some (dstV it.dst E)) ∧ R E H
 | [],h => ⟨fun l hl => (by cases hl),h⟩
 | l :: L,h => by
  rw [List.filterMap_cons] at h
  by_cases hc : g.chkAt l i = true
  ·rw [if_pos hc] at h
   cases hit : g.its[l / 2]? with
   | none =>
    rw [hit] at h
    obtain ⟨h1,h2⟩ := wpD_chks L h
    refine ⟨fun l' hl' hc' it hit' => ?_,h2⟩
    rcases List.mem_cons.1 hl' with rfl | hl'
    ·rw [hit] at hit'; cases hit'
    ·exact h1 l' hl' hc' it hit'
   | some it0 =>
    rw [hit] at h
    simp only [Option.map_some,wpD] at h
    obtain ⟨h1,h2⟩ := wpD_chks L h.2
    refine ⟨fun l' hl' hc' it hit' => ?_,h2⟩
    rcases List.mem_cons.1 hl' with rfl | hl'
    ·rw [hit] at hit'; cases hit'; exact h.1
    ·exact h1 l' hl' hc' it hit'
  ·rw [if_neg hc] at h
   obtain ⟨h1,h2⟩ := wpD_chks L h
   refine ⟨fun l' hl' hc' it hit' => ?_,h2⟩
   rcases List.mem_cons.1 hl' with rfl | hl'
   ·exact absurd hc' hc
   ·exact h1 l' hl' hc' it hit'
theorem wpD_wpO {K : Cx} {g : Graph} {base : Nat} {Q : List Value → Heap → Prop} : ∀ (c done : List Nat),(∀ i ∈ c,∃ n,nodeOf g.its i = some n) → ∀ (E : List Value) (H : Heap),wpD K base (g.ditems done c) Q E H → wpO K g base Q (fun u => done.contains u) c E H
 | [],_,_,_,_,h => h
 | i :: c,done,hc,E,H,h => by
  obtain ⟨n,hi⟩ := hc i (by simp)
  have ih := wpD_wpO (K := K) (base := base) (Q := Q) c (i :: done) (fun j hj => hc j (by simp [hj]))
  have hX : (fun u => (i :: done).contains u) = upd (fun u => done.contains u) i := by
   funext u; rw [List.contains_cons]; rfl
  rw [hX] at ih
  simp only [Graph.ditems,hi,List.append_assoc] at h
  simp only [wpO,hi]
  have after : ∀ E H,wpD K base ((done.reverse.filterMap fun l => if g.chkAt l i then (g.its[l / 2]?).map DItem.chk else none) ++ g.ditems (i :: done) c) Q E H →
    chks g base (fun u => done.contains u) i E H ∧ wpO K g base Q (upd (fun u => done.contains u) i) c E H := by
   intro E H h
   rw [wpD_append] at h
   obtain ⟨h1,h2⟩ := wpD_chks _ h
   refine ⟨fun l m g1 g2 g3 => ?_,ih E H h2⟩
   obtain ⟨q1,q2⟩ := nodeOf_it g3
   have hk : m.kind = .load := by obtain ⟨x,y,e1,e2,e3,_⟩ := chkAt_kinds g2; rw [g3] at e1; cases e1; exact e3
   have := h1 l (by simpa using g1) g2 m.it q1
   simp only [valN,hk]
   exact this
  have hok := nodeOf_ok hi
  cases hk : n.kind with
  | nam =>
   rw [hk] at h
   obtain ⟨v,h1,h2⟩ := h
   simp only [runN,hk,valN]
   exact ⟨v,h1,after _ _ h2⟩
  | lay =>
   rw [hk] at h
   simp only [runN,hk]
   exact after _ _ h
  | effect =>
   rw [hk] at h
   simp only [runN,hk]
   exact wpItem_mono after h
  | _ =>
   rw [hk] at h
   have hkA : kindA n.it.op = n.kind := by
    rcases hok with ⟨e,_⟩ | e
    ·rw [hk] at e; cases e
    ·exact e.symm
   rw [hk] at hkA
   obtain ⟨v,h1,h2⟩ := (wpItem_val (by simp [hkA])).1 h
   simp only [runN,hk,valN]
   exact ⟨v,h1,after _ _ h2⟩
theorem canon_mem {g : Graph} : ∀ (f : Nat) (rest c : List Nat),g.canon f rest = some c → ∀ i ∈ c,i ∈ rest
 | f,[],c,h,i,hi => by cases f <;> simp [Graph.canon] at h <;> subst h <;> cases hi
 | 0,x :: rest,c,h,i,hi => by simp [Graph.canon] at h
 | f + 1,x :: rest,c,h,i,hi => by
  simp only [Graph.canon] at h
  cases hp : g.pick (x :: rest) with
  | none => rw [hp] at h; cases h
  | some j =>
   rw [hp] at h
   simp only [Option.map_eq_some_iff] at h
   obtain ⟨c',hc',rfl⟩ := h
   rcases List.mem_cons.1 hi with rfl | hi
   ·exact (pick_spec hp).1
   ·exact (List.mem_filter.1 (canon_mem f _ c' hc' i hi)).1
def Graph.exp (g : Graph) (i : Nat) : List Nat := match g.its[i]? with
 | some it => if isAlloc it.op then [2 * i,2 * i + 1] else [2 * i]
 | none => []
theorem exp_half {g : Graph} {i u : Nat} (h : u ∈ g.exp i) : u / 2 = i := by
 unfold Graph.exp at h
 split at h
 ·split at h <;> simp at h <;> omega
 ·cases h
theorem exp_self {g : Graph} (i : Nat) : (g.exp i).Nodup ∧ (g.exp i).Pairwise (fun x y => g.before y x = false) := by
 unfold Graph.exp
 split
 ·split
  ·refine ⟨by simp,?_⟩
   simp only [List.pairwise_cons,List.mem_cons,List.not_mem_nil,or_false,forall_eq]
   refine ⟨?_,fun _ h => h.elim,List.Pairwise.nil⟩
   unfold Graph.before
   rw [if_pos (by omega)]
   simp [show (2 * i + 1) % 2 = 1 from by omega]
  ·exact ⟨by simp,by simp⟩
 ·exact ⟨List.nodup_nil,List.Pairwise.nil⟩
theorem exp_ok {g : Graph} {σ : List Nat} (h1 : σ.Nodup) (h2 : ∀ x,x ∈ σ ↔ x < g.its.length) (h3 : σ.Pairwise (fun x y => y ∉ g.preds.getD x [])) :
  (σ.flatMap g.exp).Nodup ∧ (∀ x,x ∈ σ.flatMap g.exp ↔ x ∈ g.nodes) ∧ (σ.flatMap g.exp).Pairwise (fun x y => g.before y x = false) := by
 refine ⟨?_,fun x => ?_,?_⟩
 ·unfold List.Nodup at h1 ⊢
  rw [List.pairwise_flatMap]
  refine ⟨fun i _ => (exp_self i).1,h1.imp fun {a b} hab x hx y hy e => hab ?_⟩
  rw [← exp_half hx,← exp_half hy,e]
 ·have : g.nodes = (List.range g.its.length).flatMap g.exp := rfl
  rw [this]
  simp only [List.mem_flatMap,h2,List.mem_range]
 ·rw [List.pairwise_flatMap]
  refine ⟨fun i _ => (exp_self i).2,(h1.and h3).imp fun {a b} hab x hx y hy => ?_⟩
  have hx := exp_half hx
  have hy := exp_half hy
  unfold Graph.before
  rw [if_neg (by rw [hx,hy]; exact fun e => hab.1 e.symm),hx,hy]
  have : g.comesBefore b a = false := by unfold Graph.comesBefore; simpa using hab.2
  rw [this]; rfl
theorem reserve_get (H : Heap) (n b : Nat) (hb : b < H.next) : (H.reserve n).get b = H.get b := by
 unfold Heap.get Heap.reserve
 rw [if_pos hb,if_pos (by show b < H.next + n; omega)]
 show (List.replicate n none ++ H.rev)[H.next + n - 1 - b]?.join = _
 rw [List.getElem?_append_right (by simp; omega),List.length_replicate,show H.next + n - 1 - b - n = H.next - 1 - b from by omega]
theorem reserve_none (H : Heap) (n b : Nat) (hb : H.next ≤ b) : (H.reserve n).get b = none := by
 unfold Heap.get Heap.reserve
 split
 ·rename_i h
  have h : b < H.next + n := h
  show (List.replicate n none ++ H.rev)[H.next + n - 1 - b]?.join = _
  rw [List.getElem?_append_left (by simp; omega),List.getElem?_replicate]
  rw [if_pos (by omega)]; rfl
 ·rfl
theorem reserve_get_some {H : Heap} {n b : Nat} {o : AObj} (h : (H.reserve n).get b = some o) : H.get b = some o := by
 rcases Nat.lt_or_ge b H.next with hb | hb
 ·rw [reserve_get H n b hb] at h; exact h
 ·rw [reserve_none H n b hb] at h; cases h
theorem reserve_rel {K : Cx} {ρ : Nm} {H : Heap} {w : World} (h : Rel K ρ H w) (n : Nat) : Rel K ρ (H.reserve n) w ∧ Step ρ H w ρ (H.reserve n) w := by
 have back : ∀ b o,H.get b = some o → (H.reserve n).get b = some o := fun b o hb => by rw [reserve_get _ _ _ (Heap.lt_of_get hb)]; exact hb
 refine ⟨⟨fun b o hb => h.objs b o (reserve_get_some hb),fun b hb => h.fresh b (by show H.next ≤ b; have : H.next + n ≤ b := hb; omega),?_,h.base,?_,h.glob⟩,
  ⟨.refl _,by show H.next ≤ H.next + n; omega,fun b hb hn => ⟨rfl,by rw [reserve_get _ _ _ hb]; exact hn⟩,Nat.le_refl _,fun c hc hi => ⟨rfl,?_⟩,rfl,rfl,rfl⟩⟩
 ·intro b b' o o' c base base' size size' h1 h2
  exact h.inj b b' o o' c base base' size size' (reserve_get_some h1) (reserve_get_some h2)
 ·show (List.replicate n none ++ H.rev).length = H.next + n
  have := h.wf; simp; omega
 ·rintro ⟨b,o,base,size,h1,h2,h3⟩
  exact hi ⟨b,o,base,size,reserve_get_some h1,h2,h3⟩
theorem reserve_free {H : Heap} (hw : H.wf) {n k : Nat} (hk : k < n) : Free (H.reserve n) (H.next + k) :=
 ⟨by show H.next + k < H.next + n; omega,reserve_none _ _ _ (by omega),by show (List.replicate n none ++ H.rev).length = H.next + n; have : H.rev.length = H.next := hw; simp; omega⟩
structure Fits (K : Cx) (ops : Array Oper) (its : List AItem) : Prop where
 size : its.length = ops.size
 item : ∀ (i : Nat) (it : AItem),its[i]? = some it → ∃ o,ops[i]? = some o ∧ (compOp K.P K.G0 o.op = some it.op ∨ it.op = .stop) ∧ guardTmp ops o = some it.guard ∧ o.dst = it.dst
theorem kindA_nam {op : AOp} (h : kindA op = .nam) : isAlloc op = true := by
 cases op <;> first | rfl | (simp [kindA] at h; done) | (rename_i n k x y; cases k <;> simp [kindA] at h)
def DA (K : Cx) (rn : Option Nat) (n0 : Nat) (l' : Option Nat) (ops : Array Oper) (Q : List Value → Heap → Prop) (ρ0 : Nm) (H0 : Heap) (w0 : World) (b : Frame) (k : List Item) (cs : List Frame) (σ : List Nat) (a : Act) (w : World) : Prop :=
 False ∨
  ∃ a' w' ρ' H' E',St' K l' (lone (b.atR a (.inRegion ops σ :: k)) cs w) (lone (b.atR a' k) cs w') ∧ Q E' H' ∧ At K rn n0 ρ' E' H' w' a' l' ∧ Step ρ0 H0 w0 ρ' H' w'
theorem draw_arrive {K : Cx} {rn : Option Nat} {n0 : Nat} {l' : Option Nat} {ops : Array Oper} {g : Graph} (hfit : Fits K ops g.its) (hnam : g.namsOk = true) {base : Nat} {Q : List Value → Heap → Prop}
  {ρ0 : Nm} {E0 : List Value} {H0 : Heap} {w0 : World} {a0 : Act} (hat0 : At K rn n0 ρ0 E0 H0 w0 a0 l') (hbase : H0.next ≤ base) (b : Frame) (k : List Item) (cs : List Frame) (hb : b.roundOf = l') :
  ∀ (σ : List Nat) (X : Nat → Bool) (ρ : Nm) (E : List Value) (H : Heap) (w : World) (a : Act),Rel K ρ H w → EnvR ρ E a.tmps → a.defers = a0.defers → Step ρ0 H0 w0 ρ H w → σ.Nodup → (∀ i ∈ σ,i < g.its.length) →
  (∀ i ∈ σ,∀ it,g.its[i]? = some it → isAlloc it.op = true → Free H (base + offOf g.its i) ∧ ρ (base + offOf g.its i) = .fresh) →
  wpO K g base Q X (σ.flatMap g.exp) E H → DA K rn n0 l' ops Q ρ0 H0 w0 b k cs σ a w
 | [],X,ρ,E,H,w,a,hr,he,hd,hs,_,_,_,h => by
  refine .inr ⟨a,w,ρ,H,E,.one (FX_fenced _ _ _) stepR_region_end,h,hat0.step hs hr he hd,hs⟩
 | i :: σ,X,ρ,E,H,w,a,hr,he,hd,hs,hnd,hin,hfree,h => by
  have hi := hin i (by simp)
  have hit : g.its[i]? = some g.its[i] := List.getElem?_eq_getElem hi
  generalize g.its[i] = it at hit
  obtain ⟨o,ho,hop,hg,hdst⟩ := hfit.item i it hit
  have hat := hat0.step hs hr he hd
  obtain ⟨hni,hnd'⟩ := List.nodup_cons.1 hnd
  have go : ∀ (Y : Nat → Bool) (ρ1 : Nm) (E1 : List Value) (H1 : Heap) (w1 : World) (a1 : Act),St' K l' (lone (b.atR a (.inRegion ops (i :: σ) :: k)) cs w) (lone (b.atR a1 (.inRegion ops σ :: k)) cs w1) →
    Rel K ρ1 H1 w1 → EnvR ρ1 E1 a1.tmps → a1.defers = a.defers → Step ρ0 H0 w0 ρ1 H1 w1 → (∀ j ∈ σ,∀ jt,g.its[j]? = some jt → isAlloc jt.op = true → Free H1 (base + offOf g.its j) ∧ ρ1 (base + offOf g.its j) = .fresh) →
    wpO K g base Q Y (σ.flatMap g.exp) E1 H1 → DA K rn n0 l' ops Q ρ0 H0 w0 b k cs (i :: σ) a w := fun Y ρ1 E1 H1 w1 a1 st r1 e1 d1 s1 f1 q => by
   rcases draw_arrive hfit hnam hat0 hbase b k cs hb σ Y ρ1 E1 H1 w1 a1 r1 e1 (d1.trans hd) s1 hnd' (fun j hj => hin j (by simp [hj])) f1 q with h2 | ⟨a2,w2,ρ2,H2,E2,st2,q2,at2,s2⟩
   ·exact h2.elim
   ·exact .inr ⟨a2,w2,ρ2,H2,E2,st.trans st2,q2,at2,s2⟩
  have hn0 : nodeOf g.its (2 * i) = some ⟨it,kindA it.op,offOf g.its i⟩ := by
   unfold nodeOf; rw [show 2 * i / 2 = i from by omega,hit]; simp [show 2 * i % 2 = 0 from by omega]
  have plain : ∀ (Y : Nat → Bool),wpItem K it (wpO K g base Q Y (σ.flatMap g.exp)) E H → DA K rn n0 l' ops Q ρ0 H0 w0 b k cs (i :: σ) a w := by
   intro Y hw
   rcases item_arrive (rest := σ) hat ho hop hg hdst hw b k cs hb with h1 | ⟨a1,w1,ρ1,H1,E1,s1,q1,at1,st1,d1⟩
   ·exact .inl h1
   ·refine go Y ρ1 E1 H1 w1 a1 s1 at1.rel at1.env d1 (hs.trans st1) (fun j hj jt hjt hja => ?_) q1
    obtain ⟨f1,f2⟩ := hfree j (by simp [hj]) jt hjt hja
    exact ⟨free_step f1 st1 at1.rel,(st1.hid _ f1.lt f1.none).1.trans f2⟩
  rw [List.flatMap_cons] at h
  have hexp : g.exp i = if isAlloc it.op then [2 * i,2 * i + 1] else [2 * i] := by unfold Graph.exp; rw [hit]
  rw [hexp] at h
  by_cases hal : isAlloc it.op = true
  ·rw [if_pos hal] at h
   have hkn : kindA it.op = .nam := by
    revert hal; cases it.op <;> simp [isAlloc,kindA]
   have hn1 : nodeOf g.its (2 * i + 1) = some ⟨it,.lay,offOf g.its i⟩ := by
    unfold nodeOf; rw [show (2 * i + 1) / 2 = i from by omega,hit]; simp [show (2 * i + 1) % 2 = 1 from by omega,hal]
   simp only [List.cons_append,List.nil_append,wpO,hn0,hn1,runN,hkn,valN] at h
   obtain ⟨v,hv,_,_,h⟩ := h
   have haway : away it.dst it.reads = true := by
    unfold Graph.namsOk at hnam
    rw [List.all_eq_true] at hnam
    have := hnam it (List.mem_of_getElem? hit)
    rw [hal] at this
    simpa using this
   rw [layH_put haway] at h
   by_cases hw : wantedA it.guard E = true
   ·unfold namV at hv
    rw [if_pos hw] at hv
    unfold layH at h
    rw [if_pos hw] at h
    cases hA : allocA it.op E with
    | none => rw [hA] at hv; cases hv
    | some p =>
     rw [hA] at hv h
     simp only [Option.map_some,Option.some.injEq] at hv
     simp only at h
     subst hv
     have hc : compOp K.P K.G0 o.op = some it.op := by
      rcases hop with e | e
      ·exact e
      ·rw [e] at hal; cases hal
     obtain ⟨f1,f2⟩ := hfree i (by simp) it hit hal
     obtain ⟨v',w1,ρ1,q⟩ := alloc_sound (a := a) (w := w) hr he hc (ob := p.1) (f := p.2) (by rw [hA]) (Adds.set p.1 f1.wf f1.lt f1.none) f2 (by
      have := hat0.rel.g0; omega)
     have hnd := not_defer hc
     have hwant : Region.wanted o (yielded ops a.tmps) = true := by rw [wanted_rel he hg]; exact hw
     have hstep := stepGR_op (P := K.P) (b := b) (a := a) (k := k) (cs := cs) (w := w) (rest := σ) ho hwant
     rw [Oper.semAt_eq _ _ _ hnd] at hstep
     have hfin : (b.atR a (.inRegion ops (i :: σ) :: k)).finish v' = b.atR (a.put o.dst v') (.inRegion ops σ :: k) := by
      rw [Frame.finish_atR,ho]; rfl
     refine go _ ρ1 _ _ w1 (a.put o.dst v') (.one (FX_fenced _ _ _) (step_lone_go (by rw [hstep,← hfin]; simp [stepG.apply,q.run]))) q.rel ?_ (put_defers _ _ _) (q.step _ _ _ hs (by omega)) (fun j hj jt hjt hja => ?_) h
     ·rw [hdst]
      exact put_rel (VRs.mono q.ext he) q.val it.dst a.defers
     ·obtain ⟨f3,f4⟩ := hfree j (by simp [hj]) jt hjt hja
      have hne : j ≠ i := fun e => hni (e ▸ hj)
      have hoff : offOf g.its j ≠ offOf g.its i := by
       rcases Nat.lt_or_ge i j with hh | hh
       ·have := offOf_lt hit hal hh; omega
       ·have := offOf_lt hjt hja (show j < i by omega); omega
      exact ⟨set_free f3 _ (by omega),by rw [q.only _ (by omega)]; exact f4⟩
   ·refine plain (upd (upd X (2 * i)) (2 * i + 1)) ?_
    unfold wpItem
    rw [if_neg hw]
    unfold namV at hv
    rw [if_neg hw] at hv
    cases hv
    unfold layH at h
    rw [if_neg hw] at h
    exact h
  ·rw [if_neg hal] at h
   simp only [List.cons_append,List.nil_append,wpO,hn0] at h
   refine plain (upd X (2 * i)) ?_
   cases hk : kindA it.op with
   | nam => exact absurd (kindA_nam hk) hal
   | lay => exact absurd hk (kindA_ne_lay _)
   | effect =>
    simp only [runN,hk] at h
    exact wpItem_mono (fun _ _ hq => hq.2) h
   | pure =>
    simp only [runN,hk,valN] at h
    obtain ⟨v,h1,_,h2⟩ := h
    exact (wpItem_val (.inl hk)).2 ⟨v,h1,h2⟩
   | load =>
    simp only [runN,hk,valN] at h
    obtain ⟨v,h1,_,h2⟩ := h
    exact (wpItem_val (.inr hk)).2 ⟨v,h1,h2⟩
theorem fits_of {K : Cx} {ops : Array Oper} : ∀ (l : List Oper) (its : List AItem),compItems K.P K.G0 ops l = some its → its.length = l.length ∧ ∀ (i : Nat) (it : AItem),its[i]? = some it →
  ∃ o,l[i]? = some o ∧ (compOp K.P K.G0 o.op = some it.op ∨ it.op = .stop) ∧ guardTmp ops o = some it.guard ∧ o.dst = it.dst
 | [],its,h => by simp [compItems] at h; subst h; exact ⟨rfl,fun i it h => by simp at h⟩
 | o :: l,its,h => by
  unfold compItems at h
  split at h
  ·rename_i it its' h1 h2
   cases h
   obtain ⟨q1,q2⟩ := fits_of l its' h2
   refine ⟨by simp [q1],fun i x hx => ?_⟩
   cases i with
   | zero =>
    simp at hx; subst hx
    unfold compItem at h1
    split at h1
    ·rename_i gd hg
     cases h1
     refine ⟨o,rfl,?_,hg,rfl⟩
     cases compOp K.P K.G0 o.op with
     | none => exact .inr rfl
     | some op => exact .inl rfl
    ·cases h1
   | succ i => simpa using q2 i x (by simpa using hx)
  ·cases h
theorem draw_ok {K : Cx} (hK : K.draw = drawOf K.P K.G0) (hm : K.P.follows .mixedOrders = true) (rn : Option Nat) : DrawOk DrawD K rn := by
 intro id ops n l hdr Q E H h n0 ρ w a l' hat b k cs hro
 rw [hK] at hdr
 unfold drawOf at hdr
 split at hdr
 ·rename_i its hits
  simp only at hdr
  split at hdr
  ·rename_i hchk
   simp only [Bool.and_eq_true] at hchk
   obtain ⟨⟨hedges,hloads⟩,hnams⟩ := hchk
   simp only [Option.map_eq_some_iff,Prod.mk.injEq] at hdr
   obtain ⟨c,hc,hn,hl⟩ := hdr
   generalize hgdef : ({ its,preds := predsL ops.toList [] } : Graph) = g at *
   have hgits : g.its = its := by rw [← hgdef]
   have hgpreds : g.preds = predsL ops.toList [] := by rw [← hgdef]
   obtain ⟨hlen,hitem⟩ := fits_of (K := K) (ops := ops) ops.toList its hits
   have hfit : Fits K ops g.its := ⟨by rw [hgits]; simpa using hlen,fun i it hi => by
    rw [hgits] at hi
    obtain ⟨o,h1,h2⟩ := hitem i it hi
    exact ⟨o,by simpa using h1,h2⟩⟩
   obtain ⟨R0,S0⟩ := reserve_rel hat.rel n
   have hinv : ∀ X,Inv g H.next X (H.reserve n) := fun X => ⟨R0.wf,fun u m hu hk _ => by
    refine reserve_free hat.rel.wf ?_
    obtain ⟨p1,p2⟩ := nodeOf_it hu
    obtain ⟨_,p3⟩ := nodeOf_lay hu hk
    rw [p2,← hn,hgits]
    rw [hgits] at p1
    refine offOf_lt p1 p3 ?_
    rcases Nat.lt_or_ge (u / 2) its.length with hh | hh
    ·exact hh
    ·rw [List.getElem?_eq_none hh] at p1; cases p1⟩
   generalize hσ : Region.schedule (K.P.follows .mixedOrders) ops (w.tape w.drawn (.order b.fn id)) = σ
   have hsp := linearise_spec (ops := ops) hedges ops.size (w.tape w.drawn (.order b.fn id)) (Array.replicate ops.size false) (by simp)
    (fun i hi => by simp [isL,Array.getD_eq_getD_getElem?,Array.getElem?_replicate] at hi; split at hi <;> simp at hi)
    (Nat.le_trans List.countP_le_length (by simp))
   have hσ' : σ = Region.linearise.go .any ops ops.size (w.tape w.drawn (.order b.fn id)) (Array.replicate ops.size false) [] := by
    rw [← hσ]; simp only [Region.schedule,hm,Bool.true_or,if_true]; rfl
   rw [← hσ'] at hsp
   obtain ⟨s1,s2,s3⟩ := hsp
   have s2' : ∀ x,x ∈ σ ↔ x < g.its.length := fun x => by
    rw [s2,hfit.size]
    refine ⟨fun h => h.1,fun h => ⟨h,?_⟩⟩
    simp [isL,Array.getD_eq_getD_getElem?,Array.getElem?_replicate]; split <;> rfl
   obtain ⟨e1,e2,e3⟩ := exp_ok s1 s2' (by rw [hgpreds]; exact s3)
   have hstart : wpO K g H.next Q (fun u => ([] : List Nat).contains u) c E (H.reserve n) := by
    refine wpD_wpO c [] (fun i hi => mem_nodes.1 (canon_mem _ _ _ hc i hi)) _ _ ?_
    rw [hl]; exact h
   have hall := canon_ok hloads _ _ _ hc (fun u => ([] : List Nat).contains u) (fun x => by simp) (fun l u hl => by simp at hl) _ e1 (fun x => by rw [e2]; simp) e3 E _ (hinv _) hstart
   have hdrew : Rel K ρ (H.reserve n) { w with drawn := w.drawn + 1 } := R0.same rfl
   have Sd : Step ρ H w ρ (H.reserve n) { w with drawn := w.drawn + 1 } := S0.trans (Step.same rfl rfl rfl rfl)
   have s0 : St' K l' (lone (b.atR a (.code (.region id ops true) :: k)) cs w) (lone (b.atR a (.inRegion ops σ :: k)) cs { w with drawn := w.drawn + 1 }) := by
    refine .one (FX_fenced _ _ _) ?_
    rw [← hσ]; exact stepR_region_draw
   rcases draw_arrive hfit hnams hat (Nat.le_refl _) b k cs hro σ _ ρ E (H.reserve n) { w with drawn := w.drawn + 1 } a hdrew hat.env rfl Sd s1 (fun i hi => (s2' i).1 hi)
    (fun i hi it hit hal => by
     have hlt := (s2' i).1 hi
     rw [hgits] at hit hlt ⊢
     refine ⟨reserve_free hat.rel.wf ?_,hat.rel.fresh _ (by omega)⟩
     rw [← hn]; exact offOf_lt hit hal hlt) hall with h1 | ⟨a',w',ρ',H',E',st1,q1,at1,sp1⟩
   ·exact h1.elim
   ·exact ⟨.normal,a',w',⟨ρ',H',E',q1,sp1,at1.rel,at1.env,at1.marks⟩,s0.trans st1⟩
  ·cases hdr
 ·cases hdr
end Go.Ae
