/- Part 32 of the proof of the law: Gi. No condition. -/
import Derived.Test.YtalflgbdhjjlkaaGreatDoorP31
import Derived.KernelRfl
import Derived.Test.YtalflgbdhjjlkaaGreatDoorProg
set_option linter.all false
namespace Go.Ae
open Go
set_option maxRecDepth 100000
theorem x_x202 {K : Cx} (hP : K.P = Proofs.Tryz.prog) {args : List Value} {H : Heap} {Q : Value → Heap → Prop} (h : (spIndexByte args H).sat fun p => Q p.1 p.2) : FC K 202 args H Q :=
  spIndexByte_ok (by rw [hP]; exact Proofs.Tryz.func202) (by kernel_rfl) (by kernel_rfl) (by kernel_rfl) (by kernel_rfl) h
theorem x_x208 {K : Cx} (hP : K.P = Proofs.Tryz.prog) {args : List Value} {H : Heap} {Q : Value → Heap → Prop} (h : (spCount args H).sat fun p => Q p.1 p.2) : FC K 208 args H Q :=
  spCount_ok (by rw [hP]; exact Proofs.Tryz.func208) (by kernel_rfl) (by kernel_rfl) (by kernel_rfl) (by kernel_rfl) h
theorem x_x218 {K : Cx} (hP : K.P = Proofs.Tryz.prog) {args : List Value} {H : Heap} {Q : Value → Heap → Prop} (h : (spCmp args H).sat fun p => Q p.1 p.2) : FC K 218 args H Q :=
  spCmp_ok (by rw [hP]; exact Proofs.Tryz.func218) (by kernel_rfl) (by kernel_rfl) (by kernel_rfl) (by kernel_rfl) h
theorem x_x176 {K : Cx} (hP : K.P = Proofs.Tryz.prog) {x : Value} {H : Heap} {Q : Value → Heap → Prop} (h : Q x H) : FC K 176 [x] H Q :=
  noEscape_ok (by rw [hP]; exact Proofs.Tryz.func176) (by kernel_rfl) (by kernel_rfl) (by kernel_rfl) (by kernel_rfl) h
theorem x_x192 {K : Cx} (hP : K.P = Proofs.Tryz.prog) {n : Nat} {H : Heap} {Q : Value → Heap → Prop} (hn : n ≤ 268435456) (h : ∀ l : List UInt8,l.length = n → Q (sliceOf H.next 0 1 n n) (H.push (.row (byteVs l) 0 (some 5)))) : FC K 192 [.int .i64 n] H Q :=
  makeNoZero_ok (t := Proofs.Tryz.f192.resultTypes.getD 0 0) (ps := Proofs.Tryz.f192.params) (by rw [hP]; exact Proofs.Tryz.func192) (by kernel_rfl) (by kernel_rfl) (by kernel_rfl) (by kernel_rfl) (by rw [hP]; kernel_rfl) hn h
theorem x_x163 {K : Cx} (hP : K.P = Proofs.Tryz.prog) (ba bb oa ob la ca lb cb fzb : Nat) (csA csB : List Value) (tyA tyB : Option TypeId) (H : Heap) (Q : Value → Heap → Prop) (h1 : H.get ba = some (.row csA 0 tyA)) (h2 : H.get bb = some (.row csB fzb tyB)) (h3 : ba ≠ bb) (h4 : 0 < ca) (h5 : 0 < cb) (h6 : csB ≠ [])
    (h : Q (.bool false) H) : FC K 163 [.slice (some ⟨ba,oa,some 2⟩) la ca,.slice (some ⟨bb,ob,some 2⟩) lb cb] H Q := by
  have hs : (Proofs.Tryz.prog.info? 90).isSome = true := by kernel_rfl
  obtain ⟨inf,hinf⟩ := Option.isSome_iff_exists.1 hs
  exact overlaps_ok (tS := 23) (tR := 4) (el := 90) (inf := inf) (by rw [hP]; exact Proofs.Tryz.func163) (by kernel_rfl) (by kernel_rfl) (by kernel_rfl) (by kernel_rfl) (by rw [hP]; kernel_rfl) (by rw [hP]; exact hinf) h1 h2 h3 h4 h5 h6 h
theorem x_x115 {K : Cx} (hP : K.P = Proofs.Tryz.prog) (hG : K.G0 = 6) (hK : Cfg K) (lo k i : Nat) (v : Value) (s t : ByteArray) (H : Heap) (Q : Value → Heap → Prop) (hw : H.wf) (hlo : lo ≤ H.next) (hE : Ent lo H v k) (hik : i ≤ k) (hk : k ≤ 1000)
    (hQ : ∀ v' H',H'.wf → Ent lo H' v' (k + 1) → (∀ b,b < lo → H'.get b = H.get b) → H.next ≤ H'.next → Q v' H') :
    FC K 115 [v,.int .i64 (i : Nat),sliceOf H.next 0 2 1 1] (H.push (.row [.string s,.string t] 0 none)) Q :=
  c115 hK (by rw [hP,hG]; exact is115) (x_x163 hP) lo k i v s t H Q hw hlo hE hik hk hQ
theorem getLightIs {K : Cx} (hP : K.P = Proofs.Tryz.prog) (hG : K.G0 = 6) (hK : Cfg K) : LightIs K :=
  { i6 := by rw [hP,hG]; exact is6
    i15 := by rw [hP,hG]; exact is15
    i16 := by rw [hP,hG]; exact is16
    i17 := by rw [hP,hG]; exact is17
    i18 := by rw [hP,hG]; exact is18
    i36 := by rw [hP,hG]; exact is36
    i37 := by rw [hP,hG]; exact is37 }
theorem getExtIs {K : Cx} (hP : K.P = Proofs.Tryz.prog) (hG : K.G0 = 6) (hK : Cfg K) : ExtIs K :=
  { x202 := fun args H Q h => x_x202 hP h }
theorem getStrIs {K : Cx} (hP : K.P = Proofs.Tryz.prog) (hG : K.G0 = 6) (hK : Cfg K) : StrIs K :=
  { getExtIs hP hG hK with
    i169 := by rw [hP,hG]; exact is169
    i118 := by rw [hP,hG]; exact is118
    i191 := by rw [hP,hG]; exact is191
    i156 := by rw [hP,hG]; exact is156
    i111 := by rw [hP,hG]; exact is111
    i109 := by rw [hP,hG]; exact is109
    i70 := by rw [hP,hG]; exact is70
    i141 := by rw [hP,hG]; exact is141
    i102 := by rw [hP,hG]; exact is102
    i101 := by rw [hP,hG]; exact is101
    i71 := by rw [hP,hG]; exact is71
    i110 := by rw [hP,hG]; exact is110 }
theorem getBdIs {K : Cx} (hP : K.P = Proofs.Tryz.prog) (hG : K.G0 = 6) (hK : Cfg K) : BdIs K :=
  { x176 := fun x H Q h => x_x176 hP h
    x192 := fun n H Q hn h => x_x192 hP hn h
    i136 := by rw [hP,hG]; exact is136
    i95 := by rw [hP,hG]; exact is95
    i98 := by rw [hP,hG]; exact is98
    i99 := by rw [hP,hG]; exact is99
    i157 := by rw [hP,hG]; exact is157
    i112 := by rw [hP,hG]; exact is112 }
theorem getJoinIs {K : Cx} (hP : K.P = Proofs.Tryz.prog) (hG : K.G0 = 6) (hK : Cfg K) : JoinIs K :=
  { getBdIs hP hG hK with
    i72 := by rw [hP,hG]; exact is72 }
theorem getPathIs {K : Cx} (hP : K.P = Proofs.Tryz.prog) (hG : K.G0 = 6) (hK : Cfg K) : PathIs K :=
  { getStrIs hP hG hK with
    i61 := by rw [hP,hG]; exact is61 }
theorem getTreeIs {K : Cx} (hP : K.P = Proofs.Tryz.prog) (hG : K.G0 = 6) (hK : Cfg K) : TreeIs K :=
  { getPathIs hP hG hK with
    i62 := by rw [hP,hG]; exact is62
    i63 := by rw [hP,hG]; exact is63
    i31 := by rw [hP,hG]; exact is31
    i32 := by rw [hP,hG]; exact is32
    i13 := by rw [hP,hG]; exact is13 }
theorem getCleanIs {K : Cx} (hP : K.P = Proofs.Tryz.prog) (hG : K.G0 = 6) (hK : Cfg K) : CleanIs K :=
  { path := getPathIs hP hG hK
    join := getJoinIs hP hG hK
    i45 := by rw [hP,hG]; exact is45 }
theorem getClassIs {K : Cx} (hP : K.P = Proofs.Tryz.prog) (hG : K.G0 = 6) (hK : Cfg K) : ClassIs K :=
  { i137 := by rw [hP,hG]; exact is137
    i178 := by rw [hP,hG]; exact is178
    i216 := by rw [hP,hG]; exact is216
    i217 := by rw [hP,hG]; exact is217
    i177 := by rw [hP,hG]; exact is177
    i193 := by rw [hP,hG]; exact is193
    i158 := by rw [hP,hG]; exact is158 }
theorem getTabIs {K : Cx} (hP : K.P = Proofs.Tryz.prog) (hG : K.G0 = 6) (hK : Cfg K) : TabIs K :=
  { getClassIs hP hG hK with
    x218 := fun args H Q h => x_x218 hP h
    i194 := by rw [hP,hG]; exact is194
    i162 := by rw [hP,hG]; exact is162
    i161 := by rw [hP,hG]; exact is161
    i160 := by rw [hP,hG]; exact is160
    i114 := by rw [hP,hG]; exact is114
    i113 := by rw [hP,hG]; exact is113
    i73 := by rw [hP,hG]; exact is73
    i74 := by rw [hP,hG]; exact is74
    i46 := by rw [hP,hG]; exact is46
    x115 := x_x115 hP hG hK }
theorem getModeIs {K : Cx} (hP : K.P = Proofs.Tryz.prog) (hG : K.G0 = 6) (hK : Cfg K) : ModeIs K :=
  { getClassIs hP hG hK with
    i243 := by rw [hP,hG]; exact is243
    i244 := by rw [hP,hG]; exact is244
    i246 := by rw [hP,hG]; exact is246
    i261 := by rw [hP,hG]; exact is261
    i262 := by rw [hP,hG]; exact is262
    i264 := by rw [hP,hG]; exact is264
    i273 := by rw [hP,hG]; exact is273
    i274 := by rw [hP,hG]; exact is274
    i276 := by rw [hP,hG]; exact is276
    i281 := by rw [hP,hG]; exact is281
    i282 := by rw [hP,hG]; exact is282 }
theorem getPartIs {K : Cx} (hP : K.P = Proofs.Tryz.prog) (hG : K.G0 = 6) (hK : Cfg K) : PartIs K :=
  { getModeIs hP hG hK with
    i263 := by rw [hP,hG]; exact is263
    i245 := by rw [hP,hG]; exact is245
    i221 := by rw [hP,hG]; exact is221
    i247 := by rw [hP,hG]; exact is247 }
theorem getQuoIs {K : Cx} (hP : K.P = Proofs.Tryz.prog) (hG : K.G0 = 6) (hK : Cfg K) : QuoIs K :=
  { getClassIs hP hG hK,getStrIs hP hG hK,getBdIs hP hG hK with
    x208 := fun args H Q h => x_x208 hP h
    i96 := by rw [hP,hG]; exact is96
    i97 := by rw [hP,hG]; exact is97
    i138 := by rw [hP,hG]; exact is138
    i139 := by rw [hP,hG]; exact is139
    i180 := by rw [hP,hG]; exact is180
    i179 := by rw [hP,hG]; exact is179
    i140 := by rw [hP,hG]; exact is140
    i100 := by rw [hP,hG]; exact is100
    i58 := by rw [hP,hG]; exact is58
    i59 := by rw [hP,hG]; exact is59
    i60 := by rw [hP,hG]; exact is60
    i30 := by rw [hP,hG]; exact is30
    i12 := by rw [hP,hG]; exact is12 }
theorem getLitIs {K : Cx} (hP : K.P = Proofs.Tryz.prog) (hG : K.G0 = 6) (hK : Cfg K) : LitIs K :=
  { getPartIs hP hG hK,getQuoIs hP hG hK with
    i197 := by rw [hP,hG]; exact is197
    i198 := by rw [hP,hG]; exact is198
    i222 := by rw [hP,hG]; exact is222
    i223 := by rw [hP,hG]; exact is223
    i224 := by rw [hP,hG]; exact is224
    i225 := by rw [hP,hG]; exact is225
    i226 := by rw [hP,hG]; exact is226
    i227 := by rw [hP,hG]; exact is227
    i248 := by rw [hP,hG]; exact is248
    i166 := by rw [hP,hG]; exact is166
    i196 := by rw [hP,hG]; exact is196
    i220 := by rw [hP,hG]; exact is220 }
theorem getExpIs {K : Cx} (hP : K.P = Proofs.Tryz.prog) (hG : K.G0 = 6) (hK : Cfg K) : ExpIs K :=
  { getLitIs hP hG hK with
    i75 := by rw [hP,hG]; exact is75
    i116 := by rw [hP,hG]; exact is116
    i165 := by rw [hP,hG]; exact is165 }
theorem getFldIs {K : Cx} (hP : K.P = Proofs.Tryz.prog) (hG : K.G0 = 6) (hK : Cfg K) : FldIs K :=
  { getExpIs hP hG hK with
    i119 := by rw [hP,hG]; exact is119
    i121 := by rw [hP,hG]; exact is121
    i117 := by rw [hP,hG]; exact is117
    i168 := by rw [hP,hG]; exact is168
    i76 := by rw [hP,hG]; exact is76 }
theorem getFofIs {K : Cx} (hP : K.P = Proofs.Tryz.prog) (hG : K.G0 = 6) (hK : Cfg K) : FofIs K :=
  { getFldIs hP hG hK with
    tab := getTabIs hP hG hK
    i122 := by rw [hP,hG]; exact is122
    i77 := by rw [hP,hG]; exact is77
    i47 := by rw [hP,hG]; exact is47 }
theorem getPatIs {K : Cx} (hP : K.P = Proofs.Tryz.prog) (hG : K.G0 = 6) (hK : Cfg K) : PatIs K :=
  { getFofIs hP hG hK with
    i124 := by rw [hP,hG]; exact is124
    i123 := by rw [hP,hG]; exact is123
    i78 := by rw [hP,hG]; exact is78
    i48 := by rw [hP,hG]; exact is48 }
theorem getGlobIs {K : Cx} (hP : K.P = Proofs.Tryz.prog) (hG : K.G0 = 6) (hK : Cfg K) : GlobIs K :=
  { getPatIs hP hG hK with
    tree := getTreeIs hP hG hK
    clean := getCleanIs hP hG hK
    light := getLightIs hP hG hK
    i22 := by rw [hP,hG]; exact is22
    i23 := by rw [hP,hG]; exact is23
    i9 := by rw [hP,hG]; exact is9
    i4 := by rw [hP,hG]; exact is4 }
end Go.Ae
