import Derived.Test.YticdfkoncnnmmaaGreatDoorGP
import Derived.Test.YticdfkoncnnmmaaGreatDoorProg
import Derived.KernelRfl
import Derived.ChangeSlices
import Derived.ChangeArms
import Derived.Lib.LaidTab
set_option linter.unusedSimpArgs false
set_option linter.unusedVariables false
set_option maxRecDepth 100000
namespace Go.Proofs.YticdfkoncnnmmaaGreatDoor
open Go.X
noncomputable abbrev prg:Program:=Tryz.prog
abbrev zGa:Nat:=6
abbrev zFu:Nat:=9
abbrev zDN:Nat:=11
abbrev zLD:Nat:=13
abbrev zDm:Nat:=15
abbrev zCG:Nat:=16
abbrev zKM:Nat:=17
abbrev zBt:Nat:=18
abbrev zEb:Nat:=19
abbrev zHh:Nat:=20
abbrev zJO:Nat:=21
abbrev zIW:Nat:=24
abbrev zKv:Nat:=25
abbrev zJt:Nat:=29
abbrev zME:Nat:=33
abbrev zNd:Nat:=34
abbrev zCP:Nat:=35
abbrev zC6:Nat:=39
abbrev zIX:Nat:=40
abbrev zKw:Nat:=41
abbrev zLE:Nat:=42
abbrev zJu:Nat:=43
abbrev zA5:Nat:=44
abbrev zAT:Nat:=45
abbrev zLF:Nat:=46
abbrev zBI:Nat:=47
abbrev zBB:Nat:=48
abbrev zDO:Nat:=49
abbrev zKN:Nat:=50
abbrev zA6:Nat:=51
abbrev zBk:Nat:=52
abbrev zEc:Nat:=53
abbrev zCQ:Nat:=54
abbrev zDZ:Nat:=55
abbrev zPa:Nat:=56
abbrev zIw:Nat:=57
abbrev zDP:Nat:=58
abbrev zNY:Nat:=61
abbrev zA0:Nat:=62
abbrev zDb:Nat:=63
abbrev zFv:Nat:=65
abbrev zAW:Nat:=66
abbrev zHi:Nat:=67
abbrev zE0:Nat:=68
abbrev zE1:Nat:=69
abbrev zFw:Nat:=70
abbrev zCR:Nat:=71
abbrev zBo:Nat:=72
abbrev zOv:Nat:=75
abbrev zEd:Nat:=76
abbrev zBT:Nat:=77
abbrev zBP:Nat:=80
abbrev zAQ:Nat:=81
abbrev zKx:Nat:=82
abbrev zJP:Nat:=84
abbrev zIx:Nat:=85
abbrev zAD:Nat:=86
abbrev zHj:Nat:=87
abbrev zAX:Nat:=88
abbrev zFL:Nat:=89
abbrev zA3:Nat:=90
abbrev zLG:Nat:=91
abbrev zDn:Nat:=92
abbrev zJv:Nat:=93
abbrev zCd:Nat:=94
abbrev zEY:Nat:=95
abbrev zDH:Nat:=96
abbrev zEe:Nat:=97
abbrev zEf:Nat:=98
abbrev zGF:Nat:=99
abbrev zCH:Nat:=100
abbrev zCB:Nat:=101
abbrev zCC:Nat:=102
abbrev zCn:Nat:=103
abbrev zMF:Nat:=104
abbrev zGy:Nat:=105
abbrev zGz:Nat:=106
abbrev zHk:Nat:=107
abbrev zHl:Nat:=108
abbrev zCe:Nat:=109
abbrev zB3:Nat:=110
abbrev zC7:Nat:=111
abbrev zBi:Nat:=112
abbrev zBY:Nat:=113
abbrev zBZ:Nat:=114
abbrev zF0:Nat:=115
abbrev zCD:Nat:=116
abbrev zCf:Nat:=117
abbrev zHm:Nat:=118
abbrev zBu:Nat:=119
abbrev zQx:Nat:=120
abbrev zDQ:Nat:=121
abbrev zIY:Nat:=122
abbrev zAK:Nat:=123
abbrev zCI:Nat:=124
abbrev zDo:Nat:=125
abbrev zDi:Nat:=126
abbrev zHn:Nat:=127
abbrev zCS:Nat:=128
abbrev zIy:Nat:=129
abbrev zLH:Nat:=130
abbrev zFa:Nat:=131
abbrev zKO:Nat:=132
abbrev zBU:Nat:=133
abbrev zCu:Nat:=134
abbrev zCJ:Nat:=135
abbrev zJw:Nat:=136
abbrev zBl:Nat:=137
abbrev zEv:Nat:=138
abbrev zMf:Nat:=139
abbrev zLI:Nat:=140
abbrev zE2:Nat:=141
abbrev zED:Nat:=142
abbrev zEg:Nat:=143
abbrev zKP:Nat:=144
abbrev zKj:Nat:=145
abbrev zH8:Nat:=146
abbrev zD5:Nat:=147
abbrev zBe:Nat:=148
abbrev zDp:Nat:=149
abbrev zHo:Nat:=150
abbrev zHR:Nat:=151
abbrev zBj:Nat:=152
abbrev zCT:Nat:=153
abbrev zEh:Nat:=154
abbrev zCU:Nat:=155
abbrev zH9:Nat:=156
abbrev zBz:Nat:=157
abbrev zHp:Nat:=158
abbrev zE3:Nat:=159
abbrev zDI:Nat:=160
abbrev zKy:Nat:=161
abbrev zEE:Nat:=162
abbrev zIa:Nat:=163
abbrev zD0:Nat:=164
abbrev zEP:Nat:=165
abbrev zD1:Nat:=166
abbrev zEi:Nat:=167
abbrev zD9:Nat:=168
abbrev zC8:Nat:=169
abbrev zDR:Nat:=170
abbrev zEF:Nat:=171
abbrev zPb:Nat:=172
abbrev zEj:Nat:=173
abbrev zCg:Nat:=174
abbrev zHq:Nat:=175
abbrev zHr:Nat:=178
abbrev zCh:Nat:=179
abbrev zDC:Nat:=180
abbrev zCr:Nat:=181
abbrev zBy:Nat:=182
abbrev zE4:Nat:=183
abbrev zBp:Nat:=184
abbrev zMG:Nat:=185
abbrev zBv:Nat:=186
abbrev zFb:Nat:=187
abbrev zDS:Nat:=188
abbrev zEk:Nat:=189
abbrev zD6:Nat:=190
abbrev zCF:Nat:=191
abbrev zDD:Nat:=192
abbrev zEQ:Nat:=193
abbrev zPc:Nat:=194
abbrev zCY:Nat:=195
abbrev zHs:Nat:=196
abbrev zFc:Nat:=197
abbrev zHS:Nat:=198
abbrev zB4:Nat:=199
abbrev zBJ:Nat:=200
abbrev zJQ:Nat:=201
abbrev zCi:Nat:=202
abbrev zFx:Nat:=203
abbrev zF1:Nat:=204
abbrev zNZ:Nat:=205
abbrev zMg:Nat:=206
abbrev zER:Nat:=207
abbrev zEG:Nat:=208
abbrev zE5:Nat:=209
abbrev zDT:Nat:=210
abbrev zFn:Nat:=211
abbrev zHt:Nat:=215
abbrev zCZ:Nat:=216
abbrev zAE:Nat:=217
abbrev zJx:Nat:=218
abbrev zG7:Nat:=219
abbrev zKk:Nat:=220
abbrev zEl:Nat:=221
abbrev zEm:Nat:=222
abbrev zB5:Nat:=223
abbrev zBC:Nat:=224
abbrev zIZ:Nat:=225
abbrev zES:Nat:=226
abbrev zEw:Nat:=227
abbrev zKl:Nat:=228
abbrev zFo:Nat:=229
abbrev zDc:Nat:=230
abbrev zB6:Nat:=231
abbrev zFp:Nat:=233
abbrev zB8:Nat:=235
abbrev zEx:Nat:=236
abbrev zKm:Nat:=237
abbrev zFd:Nat:=238
abbrev zFe:Nat:=239
abbrev zA8:Nat:=243
abbrev zIb:Nat:=244
abbrev zGb:Nat:=245
abbrev zIc:Nat:=246
abbrev zGc:Nat:=247
abbrev zG8:Nat:=248
abbrev zGG:Nat:=249
abbrev zEH:Nat:=250
abbrev zId:Nat:=251
abbrev zF2:Nat:=252
abbrev zHM:Nat:=253
abbrev zIe:Nat:=256
abbrev zF3:Nat:=257
abbrev zI0:Nat:=258
abbrev zI1:Nat:=259
abbrev zCj:Nat:=0
abbrev zJR:Nat:=1
abbrev zD2:Nat:=2
abbrev zGH:Nat:=3
abbrev zBq:Nat:=4
abbrev zBw:Nat:=5
abbrev zNw:Nat:=6
abbrev zJS:Nat:=7
abbrev zBL:Nat:=8
abbrev zKQ:Nat:=9
abbrev zKR:Nat:=10
abbrev NG:Nat:=11
abbrev zGd:Nat:=3
abbrev zTK:Nat:=4
abbrev zAS:Nat:=5
abbrev zAz:Nat:=9
abbrev zBm:Nat:=22
abbrev zAaT:Nat:=24
abbrev zAn:Nat:=26
abbrev zAJ:Nat:=28
abbrev zGS:Nat:=30
abbrev zAU:Nat:=40
abbrev zFy:Nat:=41
abbrev zBh:Nat:=45
abbrev zEn:Nat:=46
abbrev zAb:Nat:=48
abbrev zAv:Nat:=55
abbrev zDq:Nat:=62
abbrev zAL:Nat:=68
abbrev zAO:Nat:=80
abbrev zA2:Nat:=82
abbrev zRO:Nat:=85
abbrev zAu:Nat:=91
abbrev zAj:Nat:=101
abbrev zN0:Nat:=107
abbrev zGA:Nat:=114
abbrev zDd:Nat:=126
abbrev zDj:Nat:=138
abbrev zUV:Nat:=154
abbrev zBd:Nat:=166
abbrev zGe:Nat:=168
abbrev zGI:Nat:=182
abbrev zAI:Nat:=184
abbrev zBa:Nat:=204
abbrev zVT:Nat:=213
abbrev zC0:Nat:=214
abbrev zBb:Nat:=216
abbrev zVU:Nat:=217
abbrev zJy:Nat:=239
abbrev zFz:Nat:=245
abbrev zI2:Nat:=249
abbrev zAA:Nat:=252
abbrev zBK:Nat:=255
abbrev zFM:Nat:=258
abbrev zGJ:Nat:=268
abbrev zCk:Nat:=278
abbrev zPL:Nat:=292
abbrev zHT:Nat:=297
abbrev zJh:Nat:=299
end Go.Proofs.YticdfkoncnnmmaaGreatDoor
namespace Go.X
section
variable {H:zAd}
@[simp] theorem zAa {v:Value}{k:Value->Prop}:Mpu (some v) k↔k v:=by simp[Mpu]
@[simp] theorem zAm {h:zAd}{k:zAd->Prop}:Mwr (some h) k↔k h:=by simp[Mwr]
@[simp] theorem zAs {T:TypeId}{c:Array Value}{k:Value->zAd->Prop}:zBH H T (some c) k↔k (.pointer (some ⟨H.size,0,none⟩)) (H.push (.cells c T (0,0))):=by simp[zBH]
@[simp] theorem zAV {T:TypeId}{n:Nat}{c:Array Value}{k:Value->zAd->Prop}:zC5 H T n (some c) k↔k (.slice (some ⟨H.size,0,none⟩) n n) (H.push (.cells c T (0,0))):=by simp[zC5]
@[simp] theorem zAc {b:Bool}{x y:Prop}:Mcd (.bool b) x y↔if b=true then x else y:=by cases b <;> simp[Mcd]
@[simp] theorem zAl {b w:Bool}{x y:Prop}:Mif (.bool b) w x y↔if b=w then x else y:=by cases b <;> cases w <;> simp[Mif]
@[simp] theorem zAo {w:Bool}{x y:Prop}:Mif undef w x y↔y:=by simp[Mif,undef]
@[simp] theorem zAr {p:Prop}:Mre [] p↔p:=Iff.rfl
@[simp] theorem zVV {a:Option Value}{b:Value}{l:List (Option Value×Value)}{p:Prop}:Mre ((a,b) :: l) p↔a=some b/\Mre l p:=Iff.rfl
@[simp] theorem zFA {a:Addr}:nck (.pointer (some a))=some (.pointer (some a)):=rfl
@[simp] theorem zAx {off b o:Nat}:fld off (.pointer (some ⟨b,o,none⟩))=some (.pointer (some ⟨b,o+off,none⟩)):=rfl
@[simp] theorem zAe {c:Bool}{a b:Value}:zAC (.bool c) a b=some (if c=true then a else b):=rfl
@[simp] theorem zIf {a:Option Addr}{n c:Nat}:zBO (.slice a n c)=some (.int .i64 n):=rfl
@[simp] theorem zUW {s:ByteArray}:zKL (.string s)=some (.int .i64 s.size):=rfl
@[simp] theorem zAq {b:Bool}:unV .not (.bool b)=some (.bool (!b)):=rfl
@[simp] theorem zDr {k k':IntKind}{n:Int}:cvI k (.int k' n)=some (.int k (k.wrap n)):=rfl
@[simp] theorem zPd {i:Nat}{l:Array Value}:zDy i (.tuple l)=l[i]?:=rfl
@[simp] theorem zAi {q:EqK}{op:BinOp}{k:IntKind}{a b:Int}:zAh q op (.int k a) (.int k b)=zA9 op k a b:=by simp[zAh]
@[simp] theorem zEI {q:EqK}{op:BinOp}{a b:ByteArray}:zAh q op (.string a) (.string b)=zP4 op a b:=by simp[zAh]
@[simp] theorem zP8 {q:EqK}{k k':IntKind}{a b:Int}:zAh q .shl (.int k a) (.int k' b)=zA9 .shl k a b:=by unfold zAh;split <;> simp_all
@[simp] theorem zVW {q:EqK}{k k':IntKind}{a b:Int}:zAh q .shr (.int k a) (.int k' b)=zA9 .shr k a b:=by unfold zAh;split <;> simp_all
@[simp] theorem zAdz {a b:Option Addr}:zAh .ptr .eql (.pointer a) (.pointer b)=(eqV .ptr (.pointer a) (.pointer b)).map .bool:=rfl
@[simp] theorem zAdA {a b:Option Addr}:zAh .ptr .neq (.pointer a) (.pointer b)=(eqV .ptr (.pointer a) (.pointer b)).map fun b => .bool (!b):=rfl
@[simp] theorem zAcg {a:Addr}:eqV .ptr (.pointer (some a)) (.pointer none)=some false:=rfl
@[simp] theorem zAch {b:Option Addr}:eqV .ptr (.pointer none) (.pointer b)=some b.isNone:=rfl
@[simp] theorem zQy {a b:Option Addr}{n c m d:Nat}:zAh .slc .eql (.slice a n c) (.slice b m d)=(eqV .slc (.slice a n c) (.slice b m d)).map .bool:=rfl
@[simp] theorem zTL {a:Addr}{n c m d:Nat}:eqV .slc (.slice (some a) n c) (.slice none m d)=some false:=rfl
@[simp] theorem zTM {b:Option Addr}{n c m d:Nat}:eqV .slc (.slice none n c) (.slice b m d)=some b.isNone:=rfl
@[simp] theorem zAfe {agg:Bool}{n off:Nat}{cs:Array Value}:zSh agg n off (.agg cs)=if agg=true then some (.agg (cs.extract off (off+n))) else cs[off]?:=rfl
@[simp] theorem zAN {cs:Array Value}:Value.cells (.agg cs)=cs:=rfl
end
theorem zAk {P:Program}{f:FuncId}{args:List Value}{H:zAd}{R k:Value->zAd->Prop}(h:zAg P f args H R)(hk:∀ v h,R v h->k v h):zAp P f args H k:=zAg.mono h hk
theorem zAM {n:Int}(h1 : -9223372036854775808<=n)(h2:n<=9223372036854775807):IntKind.i64.wrap n=n:=by
 simp only[IntKind.wrap,IntKind.bits,IntKind.signed]
 simp only[Bool.true_and]
 split
 ·rename_i h;simp at h;omega
 ·rename_i h;simp at h;omega
theorem zYx {n:Int}(h1:0<=n)(h2:n<=255):IntKind.u8.wrap n=n:=by
 simp only[IntKind.wrap,IntKind.bits,IntKind.signed]
 simp;omega
def Keep (S:Nat->Prop)(H H':zAd):Prop:=H.size<=H'.size/\∀ k,k<H.size->¬ S k->H'[k]? = H[k]?
theorem Keep.refl {S:Nat->Prop}{H:zAd}:Keep S H H:=⟨Nat.le_refl _,fun _ _ _=>rfl⟩
theorem Keep.trans {S:Nat->Prop}{a b c:zAd}(h:Keep S a b)(k:Keep S b c):Keep S a c :=
 ⟨Nat.le_trans h.1 k.1,fun i hi hs=>(k.2 i (Nat.lt_of_lt_of_le hi h.1) hs).trans (h.2 i hi hs)⟩
theorem Keep.mono {S S':Nat->Prop}{a b:zAd}(h:Keep S a b)(hs:∀ k,k<a.size->S k->S' k):Keep S' a b:=⟨h.1,fun i hi hn=>h.2 i hi fun hk=>hn (hs i hi hk)⟩
theorem Keep.push {S:Nat->Prop}{H:zAd}{o:Obj}:Keep S H (H.push o):=⟨by simp,fun i hi _=>by rw[Array.getElem?_push,if_neg (by omega)]⟩
theorem Keep.set {S:Nat->Prop}{H:zAd}{b:Nat}{o:Obj}(h:S b):Keep S H (H.setIfInBounds b o):=⟨by simp,fun i hi hn=>by
 rw[Array.getElem?_setIfInBounds,if_neg (by rintro rfl;exact hn h)]⟩
theorem lt_of {H:zAd}{b:Nat}{x:Obj}(h:H[b]? = some x):b<H.size:=(Array.getElem?_eq_some_iff.1 h).1
theorem Keep.at {S:Nat->Prop}{H H':zAd}(h:Keep S H H'){b:Nat}{x:Obj}(hb:H[b]? = some x)(hs:¬ S b):H'[b]? = some x:=by rw[h.2 b (lt_of hb) hs];exact hb
theorem zAt {H:zAd}{b:Nat}{x y:Obj}(h:H[b]? = some x):(H.setIfInBounds b y)[b]? = some y:=by simp[lt_of h]
theorem zYy {H:zAd}{b c:Nat}{x y:Obj}(h:H[c]? = some x)(hn:b≠c):(H.setIfInBounds b y)[c]? = some x:=by rw[Array.getElem?_setIfInBounds,if_neg hn];exact h
theorem zP9 {H:zAd}{b:Nat}{x y:Obj}(h:H[b]? = some x):(H.push y)[b]? = some x:=by rw[Array.getElem?_push,if_neg (Nat.ne_of_lt (lt_of h))];exact h
@[simp] theorem zAR {H:zAd}{y:Obj}:(H.push y)[H.size]? = some y:=by simp
def blk:Value->Option Nat
 | .slice (some a) (_+1) _=>some a.block
 | .pointer (some a)=>some a.block
 | _=>none
theorem zHu {a:Addr}{n c b:Nat}(h:blk (.slice (some a) n c)=some b):a.block=b/\n≠0:=by
 cases n with
 | zero=>cases h
 | succ n=>cases h;exact⟨rfl,by omega⟩
theorem zAci {a:Addr}{n c:Nat}(h:n≠0):blk (.slice (some a) n c)=some a.block:=by
 cases n with
 | zero=>exact absurd rfl h
 | succ n=>rfl
theorem zW3 {S:Nat->Prop}{H H':zAd}(h:Keep S H H'){n:Nat}{x:Value}{r:Nat×Array Value}(hl:zCq n H x=some r)(hs:∀ b,blk x=some b->¬ S b):zCq n H' x=some r:=by
 unfold zCq at hl ⊢
 split at hl
 ·split at hl
  ·rename_i h0;rw[if_pos h0];exact hl
  ·rename_i h0;rw[if_neg h0]
   split at hl
   ·split at hl
    ·rename_i hb;simp only[h.at hb (hs _ (zAci h0))];exact hl
    ·cases hl
   ·cases hl
 ·exact hl
 ·cases hl
def zAy (l:List UInt8):List Value:=l.map fun b => .int .u8 b.toNat
@[simp] theorem zOw {l:List UInt8}:(zAy l).length=l.length:=by simp[zAy]
@[simp] theorem zHv {l m:List UInt8}:zAy (l++m)=zAy l++zAy m:=by simp[zAy]
@[simp] theorem zAeW:zAy []=[]:=rfl
@[simp] theorem zLJ {b:UInt8}{l:List UInt8}:zAy (b :: l) = .int .u8 b.toNat :: zAy l:=rfl
theorem zQz {l:List UInt8}{n:Nat}:zAy (l.take n)=(zAy l).take n:=by simp[zAy,List.map_take]
theorem zQA {l:List UInt8}{n:Nat}:zAy (l.drop n)=(zAy l).drop n:=by simp[zAy,List.map_drop]
theorem bcells_one {l:List UInt8}:∀ v ∈ zAy l,v.oneCell'=true:=by
 intro v hv
 obtain⟨b,_,rfl⟩:=List.mem_map.1 hv
 rfl
theorem zGT {l:List UInt8}:(zAy l).toArray.all (·.oneCell')=true:=by
 rw[Array.all_eq_true_iff_forall_mem];intro v hv;exact bcells_one v (by simpa using hv)
theorem zIz {l:List UInt8}:bytesOf (zAy l)=some l:=by
 induction l with
 | nil=>rfl
 | cons b l ih =>
  show(bytesOf (zAy l)).map (UInt8.ofNat ((b.toNat:Int)).toNat :: ·)=some (b :: l)
  rw[ih];simp
theorem zW4 {l m:List UInt8}(h:zAy l=zAy m):l=m:=by
 have:=congrArg bytesOf h
 rw[zIz,zIz]at this
 exact Option.some.inj this
def Bs (H:zAd)(v:Value)(l:List UInt8):Prop:=zCq 1 H v=some (l.length,(zAy l).toArray)
theorem Bs.keep {S:Nat->Prop}{H H':zAd}{v:Value}{l:List UInt8}(h:Bs H v l)(k:Keep S H H')(hs:∀ b,blk v=some b->¬ S b):Bs H' v l:=zW3 k h hs
theorem zQB {H:zAd}{a:Option Addr}{c:Nat}:Bs H (.slice a 0 c) []:=by unfold Bs zCq;simp
theorem Bs.shape {H:zAd}{v:Value}{l:List UInt8}(h:Bs H v l):(∃ a c,v = .slice a 0 c/\l=[])\/(∃ b o c cs T f,v = .slice (some ⟨b,o,none⟩) l.length c/\H[b]? = some (.cells cs T f)/\o+l.length<=cs.size/\(cs.toList.drop o).take l.length=zAy l)\/∃ s,v = .string s/\l=s.data.toList:=by
 unfold Bs zCq at h
 split at h
 ·rename_i a n c
  split at h
  ·rename_i hn
   simp only[Option.some.injEq,Prod.mk.injEq]at h
   have:l=[]:=List.length_eq_zero_iff.1 h.1.symm
   subst this hn
   exact .inl ⟨a,c,rfl,rfl⟩
  ·split at h
   ·rename_i b o
    split at h
    ·rename_i cs T f hb
     split at h
     ·rename_i hle
      simp only[Option.some.injEq,Prod.mk.injEq]at h
      obtain⟨rfl,h⟩:=h
      refine .inr (.inl ⟨b,o,c,cs,T,f,rfl,hb,by simpa using hle,?_⟩)
      have:=congrArg Array.toList h
      simpa using this
     ·cases h
    ·cases h
   ·cases h
 ·rename_i s
  simp only[if_true,Option.some.injEq,Prod.mk.injEq]at h
  refine .inr (.inr ⟨s,rfl,?_⟩)
  apply zW4
  have:=congrArg Array.toList h.2
  simp at this
  rw[<- this]
  simp[zAy]
 ·cases h
theorem Bs.mk {H:zAd}{b o n c:Nat}{cs:Array Value}{T:TypeId}{f:Nat×Nat}{l:List UInt8}(hb:H[b]? = some (.cells cs T f))(hn:n=l.length)(hle:o+n<=cs.size)(hl:(cs.toList.drop o).take n=zAy l):Bs H (.slice (some ⟨b,o,none⟩) n c) l:=by
 subst hn
 unfold Bs zCq
 simp only[hb,Nat.mul_one]
 split
 ·rename_i h0
  have:l=[]:=List.length_eq_zero_iff.1 h0
  subst this;rfl
 ·congr 2
  apply Array.ext'
  simpa using hl
theorem Bs.b2s {H:zAd}{v:Value}{l:List UInt8}(h:Bs H v l)(hv:∀ s,v ≠ .string s):b2s H v=some (.string ⟨l.toArray⟩):=by
 unfold Go.X.b2s
 have h':zCq 1 H v=_:=h
 rcases h.shape with ⟨a,c,rfl,rfl⟩ | ⟨b,o,c,cs,T,f,rfl,_⟩ | ⟨s,rfl,_⟩
 ·simp only[h',Option.bind_some,zIz,Option.map_some]
 ·simp only[h',Option.bind_some,zIz,Option.map_some]
 ·exact absurd rfl (hv s)
abbrev Ptr (b o:Nat):Value := .pointer (some ⟨b,o,none⟩)
section at_
variable {H:zAd} {b:Nat} {cs:Array Value} {T:TypeId} {f:Nat×Nat}
theorem zPM (h:H[b]? = some (.cells cs T f))(o:Nat):ld1 H (Ptr b o)=cs[o]?:=by simp only[ld1,h]
theorem zAcj (h:H[b]? = some (.cells cs T f))(n o:Nat)(ho:o+n<=cs.size):ldN n H (Ptr b o)=some (.agg (cs.extract o (o+n))):=by simp only[ldN,h];rw[if_pos ho]
theorem zI3 {o n:Nat}:zRB (0,0) o n=true:=by simp[zRB]
theorem zVX (h:H[b]? = some (.cells cs T (0,0)))(o:Nat)(v:Value)(ho:o<cs.size)(hv:v.oneCell'=true):st1 H (Ptr b o) v=some (H.setIfInBounds b (.cells (cs.setIfInBounds o v) T (0,0))):=by
 simp only[st1,h];rw[if_pos ⟨ho,zI3,hv⟩]
theorem zNI (h:H[b]? = some (.cells cs T f))(o:Nat)(vs:Array Value)(ht:zRB f o vs.size=true)(ho:o+vs.size<=cs.size)(hv:vs.all (·.oneCell')=true):stA H b o vs=some (H.setIfInBounds b (.cells (spl cs o vs) T f)):=by
 simp only[stA,h];rw[if_pos ⟨ho,ht,hv⟩]
theorem zAff (h:H[b]? = some (.cells cs T (0,0)))(n o:Nat)(vs:Array Value)(hn:vs.size=n)(ho:o+n<=cs.size)(hv:vs.all (·.oneCell')=true):stN n H (Ptr b o) (.agg vs)=some (H.setIfInBounds b (.cells (spl cs o vs) T (0,0))):=by
 simp only[stN];rw[if_pos hn];exact zNI h o vs zI3 (by omega) hv
end at_
theorem zHU {body:(Value->zAd->Prop)->Value->zAd->Prop}{v:Value}{H:zAd}(I:Value->zAd->Prop)(μ:Value->zAd->Nat)(h0:I v H)
  (hs:∀ v h,I v h->∀ k:Value->zAd->Prop,(∀ v' h',I v' h'->μ v' h'<μ v h->k v' h')->body k v h):L1 body v H:=by
 refine⟨fun vs h=>∃ v,vs=[v]/\I v h,fun vs h=>match vs with | [v]=>μ v h | _=>0,⟨v,rfl,h0⟩,?_⟩
 rintro vs h _ ⟨v,rfl,hI⟩
 exact hs v h hI _ fun v' h' hI' hm=>⟨⟨v',rfl,hI'⟩,hm⟩
theorem zTf {body:(Value->Value->zAd->Prop)->Value->Value->zAd->Prop}{v u:Value}{H:zAd}(I:Value->Value->zAd->Prop)(μ:Value->Value->zAd->Nat)(h0:I v u H)
  (hs:∀ v u h,I v u h->∀ k:Value->Value->zAd->Prop,(∀ v' u' h',I v' u' h'->μ v' u' h'<μ v u h->k v' u' h')->body k v u h):L2 body v u H:=by
 refine⟨fun vs h=>∃ v u,vs=[v,u]/\I v u h,fun vs h=>match vs with | [v,u]=>μ v u h | _=>0,⟨v,u,rfl,h0⟩,?_⟩
 rintro vs h _ ⟨v,u,rfl,hI⟩
 exact hs v u h hI _ fun v' u' h' hI' hm=>⟨⟨v',u',rfl,hI'⟩,hm⟩
theorem zAhU {body:(Value->Value->Value->zAd->Prop)->Value->Value->Value->zAd->Prop}{v u x:Value}{H:zAd}(I:Value->Value->Value->zAd->Prop)(μ:Value->Value->Value->zAd->Nat)(h0:I v u x H)
  (hs:∀ v u x h,I v u x h->∀ k:Value->Value->Value->zAd->Prop,(∀ v' u' x' h',I v' u' x' h'->μ v' u' x' h'<μ v u x h->k v' u' x' h')->body k v u x h):L3 body v u x H:=by
 refine⟨fun vs h=>∃ v u x,vs=[v,u,x]/\I v u x h,fun vs h=>match vs with | [v,u,x]=>μ v u x h | _=>0,⟨v,u,x,rfl,h0⟩,?_⟩
 rintro vs h _ ⟨v,u,x,rfl,hI⟩
 exact hs v u x h hI _ fun v' u' x' h' hI' hm=>⟨⟨v',u',x',rfl,hI'⟩,hm⟩
abbrev zAhV (x:Addr):Prop:=x.block=x.block
structure Sl (P:Nat->Prop)(H:zAd)(v:Value)(l:List UInt8):Prop where
 bs:Bs H v l
 sl:∃ a c,v = .slice a l.length c/\l.length<=c/\∀ x,a=some x->zAhV x
 own:∀ b,blk v=some b->P b
theorem Sl.keep {P S:Nat->Prop}{H H':zAd}{v:Value}{l:List UInt8}(h:Sl P H v l)(k:Keep S H H')(hs:∀ b,P b->¬ S b):Sl P H' v l:=⟨h.bs.keep k fun b hb=>hs b (h.own b hb),h.sl,h.own⟩
theorem Sl.mono {P Q:Nat->Prop}{H:zAd}{v:Value}{l:List UInt8}(h:Sl P H v l)(k:∀ b,P b->Q b):Sl Q H v l:=⟨h.bs,h.sl,fun b hb=>k b (h.own b hb)⟩
theorem Sl.nil {P:Nat->Prop}{H:zAd}{c:Nat}:Sl P H (.slice none 0 c) []:=⟨zQB,⟨none,c,rfl,Nat.zero_le _,fun x h=>by cases h⟩,fun b hb=>by cases hb⟩
theorem Sl.len {P:Nat->Prop}{H:zAd}{v:Value}{l:List UInt8}(h:Sl P H v l):zBO v=some (.int .i64 l.length):=by
 obtain⟨a,c,rfl,_⟩:=h.sl;rfl
theorem Sl.one {P:Nat->Prop}{H:zAd}{v:Value}{l:List UInt8}(h:Sl P H v l):v.oneCell'=true:=by
 obtain⟨a,c,rfl,_⟩:=h.sl;rfl
theorem Sl.cases {P:Nat->Prop}{H:zAd}{v:Value}{l:List UInt8}(h:Sl P H v l):(∃ a c,v = .slice a 0 c/\l=[]/\∀ x,a=some x->zAhV x)\/∃ b o c cs T f,v = .slice (some ⟨b,o,none⟩) l.length c/\P b/\l.length<=c/\H[b]? = some (.cells cs T f)/\o+l.length<=cs.size/\(cs.toList.drop o).take l.length=zAy l:=by
 obtain⟨a,c,hv,hc,hs⟩:=h.sl
 rcases h.bs.shape with ⟨a',c',rfl,rfl⟩ | ⟨b,o,c',cs,T,f,rfl,hb,hle,hl⟩ | ⟨s,rfl,_⟩
 ·cases hv
  exact .inl ⟨a,c,rfl,rfl,hs⟩
 ·cases hv
  by_cases h0:l=[]
  ·subst h0;exact .inl ⟨_,c,rfl,rfl,hs⟩
  ·exact .inr ⟨b,o,c,cs,T,f,rfl,h.own b (zAci fun e=>h0 (List.length_eq_zero_iff.1 e)),hc,hb,hle,hl⟩
 ·cases hv
theorem Sl.b2s {P:Nat->Prop}{H:zAd}{v:Value}{l:List UInt8}(h:Sl P H v l):b2s H v=some (.string ⟨l.toArray⟩):=h.bs.b2s fun s e=>by
 obtain⟨a,c,rfl,_⟩:=h.sl;cases e
theorem Sl.head {P:Nat->Prop}{H:zAd}{v:Value}{l:List UInt8}(h:Sl P H v l){n:Nat}(hn:n<=l.length):∃ u,slS 1 v none (some (.int .i64 n)) (some (.int .i64 n))=some u/\Sl P H u (l.take n):=by
 rcases h.cases with ⟨a,c,rfl,rfl,ha⟩ | ⟨b,o,c,cs,T,f,rfl,hp,hc,hb,hle,hl⟩
 ·have:n=0:=by simpa using hn
  subst this
  have hb:zKt 0 c none (some (.int .i64 0)) (some (.int .i64 0))=some (0,0,0):=by simp[zKt,bnd]
  rcases a with _ | ⟨b,o,_ | sp⟩
  ·exact⟨.slice none 0 0,by simp[slS,hb],by simpa using Sl.nil⟩
  rotate_left
  ·exact⟨.slice (some ⟨b,o,some sp⟩) 0 0,by simp[slS,hb],by simpa using zQB,⟨some ⟨b,o,some sp⟩,0,rfl,Nat.le_refl _,ha⟩,h.own⟩
  ·exact⟨.slice (some ⟨b,o,none⟩) 0 0,by simp[slS,hb],by simpa using zQB,⟨some ⟨b,o,none⟩,0,rfl,Nat.le_refl _,ha⟩,h.own⟩
 ·have h1:(n:Int)<=c:=by omega
  have hb':zKt l.length c none (some (.int .i64 n)) (some (.int .i64 n))=some (0,n,n):=by simp[zKt,bnd,h1]
  refine⟨.slice (some ⟨b,o,none⟩) n n,?_,⟨Bs.mk hb ?_ ?_ ?_,⟨some ⟨b,o,none⟩,n,?_,?_,fun x hx=>by cases hx;rfl⟩,fun b' hb'=>?_⟩⟩
  ·simp[slS,hb']
  ·simp[hn]
  ·omega
  ·rw[zQz,<- hl,List.take_take,Nat.min_eq_left hn]
  ·simp[hn]
  ·simp[hn]
  ·obtain⟨rfl,_⟩:=zHu hb';exact hp
theorem Sl.tail {P:Nat->Prop}{H:zAd}{v:Value}{l:List UInt8}(h:Sl P H v l){n:Nat}(hn:n<=l.length):∃ u,slS 1 v (some (.int .i64 n)) none none=some u/\Sl P H u (l.drop n):=by
 rcases h.cases with ⟨a,c,rfl,rfl,ha⟩ | ⟨b,o,c,cs,T,f,rfl,hp,hc,hb,hle,hl⟩
 ·have:n=0:=by simpa using hn
  subst this
  have hb:zKt 0 c (some (.int .i64 0)) none none=some (0,0,c):=by simp[zKt,bnd]
  rcases a with _ | ⟨b,o,_ | sp⟩
  ·exact⟨.slice none 0 c,by simp[slS,hb],by simpa using Sl.nil⟩
  rotate_left
  ·exact⟨.slice (some ⟨b,o,some sp⟩) 0 c,by simp[slS,hb],by simpa using zQB,⟨some ⟨b,o,some sp⟩,c,rfl,Nat.zero_le _,ha⟩,h.own⟩
  ·exact⟨.slice (some ⟨b,o,none⟩) 0 c,by simp[slS,hb],by simpa using zQB,⟨some ⟨b,o,none⟩,c,rfl,Nat.zero_le _,ha⟩,h.own⟩
 ·have h1:(n:Int)<=l.length:=by omega
  have hb':zKt l.length c (some (.int .i64 n)) none none=some (n,l.length,c):=by simp[zKt,bnd,hc,hn]
  refine⟨.slice (some ⟨b,if c=n then o else o+n * 1,none⟩) (l.length - n) (c - n),?_,⟨Bs.mk hb (by simp) ?_ ?_,⟨some ⟨b,if c=n then o else o+n * 1,none⟩,c - n,by simp,by simp;omega,fun x hx=>by cases hx;rfl⟩,fun b' hb'=>by obtain⟨rfl,_⟩:=zHu hb';exact hp⟩⟩
  ·simp[slS,hb']
  ·split <;> omega
  ·rw[zQA,<- hl,List.drop_take]
   split
   ·have:l.length - n=0:=by omega
    simp[this]
   ·simp[List.drop_drop]
theorem Sl.at {P:Nat->Prop}{H:zAd}{v:Value}{l:List UInt8}(h:Sl P H v l){i:Nat}{x:UInt8}(hi:l[i]? = some x):∃ u,ixS 1 v (.int .i64 i)=some u/\ld1 H u=some (.int .u8 x.toNat)/\∀ b,blk u=some b->P b:=by
 obtain⟨hlt,rfl⟩:=List.getElem?_eq_some_iff.1 hi
 rcases h.cases with ⟨a,c,rfl,rfl,_⟩ | ⟨b,o,c,cs,T,f,rfl,hp,hc,hb,hle,hl⟩
 ·simp at hlt
 ·refine⟨Ptr b (o+i * 1),?_,?_,fun b' hb'=>by cases hb';exact hp⟩
  ·simp only[ixS];rw[if_pos ⟨by omega,by omega⟩];rfl
  ·rw[zPM hb]
   have:=congrArg (·[i]?) hl
   simp only[List.getElem?_take,List.getElem?_drop]at this
   rw[if_pos hlt]at this
   simp only[Nat.mul_one,zAy,List.getElem?_map,hi,Option.map_some]at this ⊢
   rw[<- this];simp
def Buf (F:Nat->Prop)(H:zAd)(v:Value)(l:List UInt8):Prop :=
 (v = .slice none 0 0/\l=[])\/∃ b o c cs T f,v = .slice (some ⟨b,o,none⟩) l.length c/\F b/\l.length<=c/\H[b]? = some (.cells cs T f)/\o+c<=cs.size/\(∀ i n,o<=i->i+n<=o+c->zRB f i n=true)/\(cs.toList.drop o).take l.length=zAy l
theorem Buf.sl {F:Nat->Prop}{H:zAd}{v:Value}{l:List UInt8}(h:Buf F H v l):Sl F H v l:=by
 rcases h with ⟨rfl,rfl⟩ | ⟨b,o,c,cs,T,f,rfl,hf,hc,hb,hle,ht,hl⟩
 ·exact Sl.nil
 ·exact⟨Bs.mk hb rfl (by omega) hl,⟨_,c,rfl,hc,fun x hx=>by cases hx;rfl⟩,fun b' hb'=>by obtain⟨rfl,_⟩:=zHu hb';exact hf⟩
theorem Buf.keep {F S:Nat->Prop}{H H':zAd}{v:Value}{l:List UInt8}(h:Buf F H v l)(k:Keep S H H')(hs:∀ b,F b->¬ S b):Buf F H' v l:=by
 rcases h with h | ⟨b,o,c,cs,T,f,rfl,hf,hc,hb,hle,ht,hl⟩
 ·exact .inl h
 ·exact .inr ⟨b,o,c,cs,T,f,rfl,hf,hc,k.at hb (hs b hf),hle,ht,hl⟩
theorem zIA {c vs:Array Value}{o:Nat}(h:o+vs.size<=c.size):(spl c o vs).size=c.size:=by simp[spl];omega
theorem Buf.app {F:Nat->Prop}{H:zAd}{s x:Value}{l m:List UInt8}{T:TypeId}{k:Value->zAd->Prop}(h:Buf F H s l)(hx:Bs H x m)(hlen:l.length+m.length<=140737488355328)(hf:F H.size)
  (hk:∀ v H',Buf F H' v (l++m)->Keep F H H'->k v H'):zIV T 1 1 H s x k:=by
 rcases h with ⟨rfl,rfl⟩ | ⟨b,o,c,cs,T',f,rfl,hb',hc,hb,hle,ht,hl⟩
 ·refine⟨none,0,0,m.length,(zAy m).toArray,rfl,hx,zGT,fun h0=>?_,fun h0=>⟨by simpa using hlen,Nat.one_pos,#[],rfl,fun cap rest h1 h2 h3=>?_⟩⟩
  ·have:m=[]:=List.length_eq_zero_iff.1 (by omega)
   subst this
   exact hk _ _ (.inl ⟨rfl,rfl⟩) Keep.refl
  ·refine hk _ _ (.inr ⟨H.size,0,cap,_,T,(0,0),by simp,hf,by simpa using h1,zAR,?_,fun _ _ _ _=>zI3,?_⟩) Keep.push
   ·simp at h3 ⊢;omega
   ·simp
 ·refine⟨some ⟨b,o,none⟩,l.length,c,m.length,(zAy m).toArray,rfl,hx,zGT,fun h0=>?_,fun h0=>⟨by simpa using hlen,Nat.one_pos,(zAy l).toArray,?_,fun cap rest h1 h2 h3=>?_⟩⟩
  ·refine⟨_,zNI hb _ _ (ht _ _ (by omega) (by simp;omega)) (by simp;omega) zGT,hk _ _ (.inr ⟨b,o,c,_,T',f,by simp,hb',by simpa using h0,zAt hb,?_,ht,?_⟩) (Keep.set hb')⟩
   ·rw[zIA (by simp;omega)];exact hle
   ·have ho:o+l.length<=cs.size:=by omega
    show((List.take (o+l.length * 1) cs.toList++zAy m++_).drop o).take (l++m).length=_
    rw[Nat.mul_one,List.append_assoc,List.drop_append_of_le_length (by simp;omega),List.drop_take,Nat.add_sub_cancel_left,hl]
    rw[<- List.append_assoc,List.take_append_of_le_length (by simp),<- zHv,List.take_of_length_le (by simp)]
  ·exact Bs.mk hb rfl (by omega) hl
  ·refine hk _ _ (.inr ⟨H.size,0,cap,_,T,(0,0),by simp,hf,by simpa using h1,zAR,?_,fun _ _ _ _=>zI3,?_⟩) Keep.push
   ·simp at h3 ⊢;omega
   ·show(((zAy l).toArray++(zAy m).toArray++rest).toList.drop 0).take (l++m).length=_
    simp only[Array.toList_append];rw[List.drop_zero,List.take_append_of_le_length (by simp),<- zHv,List.take_of_length_le (by simp)]
theorem ldN_mid {H:zAd}{b n o:Nat}{A B C:List Value}{T:TypeId}{f:Nat×Nat}(h:H[b]? = some (.cells (A++B++C).toArray T f))(ho:o=A.length)(hn:n=B.length):ldN n H (Ptr b o)=some (.agg B.toArray):=by
 subst ho hn
 rw[zAcj h _ _ (by simp)]
 congr 2
 apply Array.ext'
 simp[List.take_append_of_le_length]
theorem zMH {H:zAd}{b n o:Nat}{A B C B':List Value}{T:TypeId}(h:H[b]? = some (.cells (A++B++C).toArray T (0,0)))(ho:o=A.length)(hn:n=B.length)(hn':B'.length=n)(hv:B'.toArray.all (·.oneCell')=true):stN n H (Ptr b o) (.agg B'.toArray)=some (H.setIfInBounds b (.cells (A++B'++C).toArray T (0,0))):=by
 subst ho hn
 rw[zAff h _ _ _ (by simpa using hn') (by simp) hv]
 congr 3
 unfold spl
 congr 1
 simp[hn',List.drop_append]
def bv (l:List UInt8):Value := .agg (zAy l).toArray
@[simp] theorem zAgF {l:List UInt8}:(bv l).cells=(zAy l).toArray:=rfl
theorem zMI {H:zAd}{b n:Nat}{l:List UInt8}{T:TypeId}{f:Nat×Nat}(h:H[b]? = some (.cells (zAy l).toArray T f))(hn:l.length=n):ldN n H (Ptr b 0)=some (bv l) :=
 ldN_mid (A:=[]) (B:=zAy l) (C:=[]) (by simpa using h) rfl (by simp[hn])
theorem zOx {H:zAd}{b n:Nat}{l m:List UInt8}{T:TypeId}(h:H[b]? = some (.cells (zAy l).toArray T (0,0)))(hn:l.length=n)(hm:m.length=n):stN n H (Ptr b 0) (bv m)=some (H.setIfInBounds b (.cells (zAy m).toArray T (0,0))):=by
 have:=zMH (b:=b) (n:=n) (o:=0) (A:=[]) (B:=zAy l) (C:=[]) (B':=zAy m) (T:=T) (by simpa using h) rfl (by simp[hn]) (by simp[hm]) zGT
 simpa [bv] using this
theorem zW5 {H:zAd}{q c:Nat}{z m:List UInt8}{x:Value}{T:TypeId}{k:Value->zAd->Prop}(hq:H[q]? = some (.cells (zAy z).toArray T (0,0)))(hx:Bs H x m)(hm:m.length<=z.length)
  (hk:k (.int .i64 m.length) (H.setIfInBounds q (.cells (zAy (m++z.drop m.length)).toArray T (0,0)))):zNU 1 H (.slice (some ⟨q,0,none⟩) z.length c) x k:=by
 have e1:Nat.min m.length z.length=m.length:=Nat.min_eq_left hm
 have e3:(zAy m).toArray.extract 0 (m.length * 1)=(zAy m).toArray:=by
  have:m.length * 1=(zAy m).toArray.size:=by simp
  rw[this,Array.extract_size]
 have e2:spl (zAy z).toArray 0 (zAy m).toArray=(zAy (m++z.drop m.length)).toArray:=by
  simp[spl,zQA]
 refine⟨m.length,(zAy m).toArray,some ⟨q,0,none⟩,z.length,c,hx,rfl,?_⟩
 simp only[e1,e3]
 rw[zNI hq 0 _ zI3 (by simpa using hm) zGT,e2,zAm]
 exact hk
def zJT (P:Program)(T:TypeId):Option (List (Nat×Nat)×Array Value) :=
 match P.underlying T with
 | some (.struct fs)=>match fs.toList.mapM (fun f=>(P.info? f.type).map fun i=>(f.offset,i.size)) with
  | some places=>(zAB P T).map fun z=>(places,z)
  | none=>none
 | _=>none
theorem zGf {P:Program}{T:TypeId}{pl:List (Nat×Nat)}{z:Array Value}{parts:List (Nat×Value)}(h:zJT P T=some (pl,z)):zA4 P T parts=(zNV (pl.toArray[·]?) z parts).map .agg:=by
 unfold zJT at h
 unfold zA4
 split at h
 ·rename_i fs hfs
  rw[hfs]
  simp only
  split at h
  ·rename_i places hp
   rw[hp]
   cases hz:zAB P T with
   | none=>rw[hz]at h;cases h
   | some z'=>rw[hz]at h;cases h;rfl
  ·cases h
 ·cases h
theorem zQC {place:Nat->Option (Nat×Nat)}{c:Array Value}:zNV place c []=some c:=rfl
theorem zGU {place:Nat->Option (Nat×Nat)}{c:Array Value}{i:Nat}{v:Value}{r:List (Nat×Value)}{off n:Nat}(hp:place i=some (off,n))(hv:v.cells.size=n)(hc:off+n<=c.size):zNV place c ((i,v) :: r)=zNV place (spl c off v.cells) r:=by
 simp only[zNV,hp];rw[if_pos ⟨hv,hc⟩]
theorem zQD {q:EqK}{a b:Array Value}:zAh q .eql (.agg a) (.agg b)=(eqV q (.agg a) (.agg b)).map .bool:=by cases q <;> rfl
theorem zJU {q:EqK}{a b:Array Value}:zAh q .neq (.agg a) (.agg b)=(eqV q (.agg a) (.agg b)).map fun b => .bool (!b):=by cases q <;> rfl
theorem zLK {l m:List UInt8}(h:l.length=m.length):zA1 (List.replicate l.length 0) (zAy l) (zAy m)=some (decide (l=m)):=by
 induction l generalizing m with
 | nil=>cases m with
  | nil=>rfl
  | cons b m=>cases h
 | cons a l ih=>cases m with
  | nil=>cases h
  | cons b m =>
   have e:zK8 0 (.int .u8 a.toNat) (.int .u8 b.toNat)=some (decide (a=b)):=by
    simp only[zK8,if_true]
    congr 1
    rw[Bool.eq_iff_iff,beq_iff_eq,decide_eq_true_eq]
    constructor
    ·intro h;apply UInt8.toNat.inj;omega
    ·rintro rfl;rfl
   simp only[List.length_cons,List.replicate_succ,zLJ,zA1,e,ih (by simpa using h)]
   congr 1
   simp[Bool.eq_iff_iff]
def Pt (H:zAd)(b o:Nat)(cs:List Value):Prop :=
 ∃ c T f,H[b]? = some (.cells c T f)/\o+cs.length<=c.size/\(c.toList.drop o).take cs.length=cs
theorem Pt.lt {H:zAd}{b o:Nat}{cs:List Value}(h:Pt H b o cs):b<H.size:=by obtain⟨c,T,f,hb,_⟩:=h;exact lt_of hb
theorem Pt.keep {S:Nat->Prop}{H H':zAd}{b o:Nat}{cs:List Value}(h:Pt H b o cs)(k:Keep S H H')(hs:¬ S b):Pt H' b o cs:=by
 obtain⟨c,T,f,hb,h1,h2⟩:=h;exact⟨c,T,f,k.at hb hs,h1,h2⟩
theorem Pt.of {H:zAd}{b:Nat}{cs:List Value}{T:TypeId}{f:Nat×Nat}(h:H[b]? = some (.cells cs.toArray T f)):Pt H b 0 cs:=⟨_,T,f,h,by simp,by simp⟩
theorem Pt.cell {H:zAd}{b o i:Nat}{cs:List Value}{v:Value}(h:Pt H b o cs)(hi:cs[i]? = some v):ld1 H (Ptr b (o+i))=some v:=by
 obtain⟨c,T,f,hb,h1,h2⟩:=h
 have hlt:=(List.getElem?_eq_some_iff.1 hi).1
 rw[zPM hb]
 rw[<- h2,List.getElem?_take,if_pos hlt,List.getElem?_drop]at hi
 rw[<- hi];simp
theorem Pt.cell0 {H:zAd}{b o:Nat}{cs:List Value}{v:Value}(h:Pt H b o cs)(hi:cs[0]? = some v):ld1 H (Ptr b o)=some v:=h.cell (i:=0) hi
theorem Pt.sub {H:zAd}{b o i n:Nat}{cs:List Value}(h:Pt H b o cs)(hi:i+n<=cs.length):Pt H b (o+i) ((cs.drop i).take n):=by
 obtain⟨c,T,f,hb,h1,h2⟩:=h
 have hl:((cs.drop i).take n).length=n:=by simp;omega
 refine⟨c,T,f,hb,by rw[hl];omega,?_⟩
 rw[hl,<- List.drop_drop]
 rw[<- h2,List.drop_take,List.take_take,Nat.min_eq_left (by omega)]
theorem Pt.mid {H:zAd}{b o o':Nat}{A B C:List Value}(h:Pt H b o (A++B++C))(ho:o'=o+A.length):Pt H b o' B:=by
 subst ho
 have:=h.sub (i:=A.length) (n:=B.length) (by simp)
 simpa [List.append_assoc,List.drop_append,List.take_append] using this
theorem Pt.agg {H:zAd}{b o n:Nat}{cs:List Value}(h:Pt H b o cs)(hn:cs.length=n):ldN n H (Ptr b o)=some (.agg cs.toArray):=by
 subst hn
 obtain⟨c,T,f,hb,h1,h2⟩:=h
 rw[zAcj hb _ _ h1]
 congr 2
 apply Array.ext'
 simpa using h2
section
variable {n:Nat} {xs:List (List Value)}
theorem zGB (h:∀ x ∈ xs,x.length=n):xs.flatten.length=xs.length * n:=by
 induction xs with
 | nil=>simp
 | cons x xs ih =>
  simp only[List.flatten_cons,List.length_append,List.length_cons,ih fun y hy=>h y (by simp[hy]),h x (by simp),Nat.succ_mul];omega
theorem zQE (h:∀ x ∈ xs,x.length=n)(i:Nat):(xs.drop i).flatten=xs.flatten.drop (i * n):=by
 induction i generalizing xs with
 | zero=>simp
 | succ i ih=>cases xs with
  | nil=>simp
  | cons x xs =>
   have hx:=h x (by simp)
   rw[List.drop_succ_cons,ih fun y hy=>h y (by simp[hy]),List.flatten_cons,Nat.succ_mul]
   have e:(x++xs.flatten).drop (i * n+n)=x.drop (i * n+n)++xs.flatten.drop (i * n+n - x.length):=List.drop_append
   rw[e,List.drop_eq_nil_of_le (show x.length<=i * n+n by rw[hx];omega),List.nil_append]
   congr 1;omega
theorem zQF (h:∀ x ∈ xs,x.length=n)(i:Nat):(xs.take i).flatten=xs.flatten.take (i * n):=by
 induction i generalizing xs with
 | zero=>simp
 | succ i ih=>cases xs with
  | nil=>simp
  | cons x xs =>
   have hx:=h x (by simp)
   rw[List.take_succ_cons,List.flatten_cons,ih fun y hy=>h y (by simp[hy]),List.flatten_cons,Nat.succ_mul]
   have e:(x++xs.flatten).take (i * n+n)=x.take (i * n+n)++xs.flatten.take (i * n+n - x.length):=List.take_append
   rw[e,List.take_of_length_le (show x.length<=i * n+n by rw[hx];omega)]
   congr 2;omega
theorem zAaU (h:∀ x ∈ xs,x.length=n){i:Nat}{x:List Value}(hi:xs[i]? = some x):(xs.flatten.drop (i * n)).take n=x:=by
 rw[<- zQE h]
 obtain⟨hlt,rfl⟩:=List.getElem?_eq_some_iff.1 hi
 rw[List.drop_eq_getElem_cons hlt,List.flatten_cons]
 have hx:=h xs[i] (by simp)
 rw[List.take_append_of_le_length (by omega),List.take_of_length_le (by omega)]
end
structure SlE (n:Nat)(P:Nat->Prop)(H:zAd)(v:Value)(xs:List (List Value)):Prop where
 ex:∃ a c,v = .slice a xs.length c/\xs.length<=c/\(xs=[]\/∃ b o,a=some ⟨b,o,none⟩/\P b/\Pt H b o xs.flatten)
 el:∀ x ∈ xs,x.length=n
 one:∀ x ∈ xs,∀ c ∈ x,c.oneCell'=true
section
variable {n:Nat} {P:Nat->Prop} {H:zAd} {v:Value} {xs:List (List Value)}
theorem SlE.nil {a:Option Addr}{c:Nat}:SlE n P H (.slice a 0 c) []:=⟨⟨a,c,rfl,Nat.zero_le _,.inl rfl⟩,fun x h=>(by cases h),fun x h=>(by cases h)⟩
theorem SlE.keep {S:Nat->Prop}{H':zAd}(h:SlE n P H v xs)(k:Keep S H H')(hs:∀ b,P b->¬ S b):SlE n P H' v xs:=by
 obtain⟨⟨a,c,hv,hc,hx⟩,h2,h3⟩:=h
 refine⟨⟨a,c,hv,hc,hx.imp id ?_⟩,h2,h3⟩
 rintro⟨b,o,rfl,hP,hp⟩
 exact⟨b,o,rfl,hP,hp.keep k (hs _ hP)⟩
theorem SlE.mono {Q:Nat->Prop}(h:SlE n P H v xs)(k:∀ b,P b->Q b):SlE n Q H v xs:=by
 obtain⟨⟨a,c,hv,hc,hx⟩,h2,h3⟩:=h
 refine⟨⟨a,c,hv,hc,hx.imp id ?_⟩,h2,h3⟩
 rintro⟨b,o,rfl,hP,hp⟩
 exact⟨b,o,rfl,k _ hP,hp⟩
theorem SlE.len (h:SlE n P H v xs):zBO v=some (.int .i64 xs.length):=by obtain⟨⟨a,c,rfl,_⟩,_⟩:=h;rfl
theorem SlE.oneC (h:SlE n P H v xs):v.oneCell'=true:=by obtain⟨⟨a,c,rfl,_⟩,_⟩:=h;rfl
theorem SlE.elems (h:SlE n P H v xs):zCq n H v=some (xs.length,xs.flatten.toArray):=by
 obtain⟨⟨a,c,rfl,hc,hx⟩,h2,h3⟩:=h
 unfold zCq
 rcases hx with rfl | ⟨b,o,rfl,_,c',T,f,hb,h4,h5⟩
 ·simp
 ·have hl:=zGB h2
  by_cases h0:xs.length=0
  ·have:xs=[]:=List.length_eq_zero_iff.1 h0
   subst this;simp
  ·simp only[hb,if_neg h0]
   rw[hl]at h4 h5
   rw[if_pos h4]
   congr 2
   apply Array.ext'
   simpa using h5
theorem SlE.all (h:SlE n P H v xs):xs.flatten.toArray.all (·.oneCell')=true:=by
 rw[Array.all_eq_true_iff_forall_mem];intro c hc
 simp only[List.mem_toArray,List.mem_flatten]at hc
 obtain⟨x,hx,hc⟩:=hc
 exact h.one x hx c hc
theorem SlE.at (h:SlE n P H v xs){i:Nat}{x:List Value}(hi:xs[i]? = some x):∃ b o,(∀ k,ixS n v (.int k i)=some (Ptr b o))/\Pt H b o x/\P b:=by
 obtain⟨⟨a,c,rfl,hc,hx⟩,h2,h3⟩:=h
 have hlt:=(List.getElem?_eq_some_iff.1 hi).1
 rcases hx with rfl | ⟨b,o,rfl,hP,hp⟩
 ·simp at hlt
 ·refine⟨b,o+i * n,fun k=>?_,?_,hP⟩
  ·simp only[ixS];rw[if_pos ⟨by omega,by omega⟩];rfl
  ·have:=hp.sub (i:=i * n) (n:=n) (by rw[zGB h2];have:=Nat.mul_le_mul_right n (show i+1<=xs.length by omega);rw[Nat.succ_mul]at this;exact this)
   rwa [zAaU h2 hi]at this
theorem SlE.cut (h:SlE n P H v xs)(hne:xs≠[]){lo hi:Nat}(h1:lo<=hi)(h2:hi<=xs.length){l r:Option Value}(hl:bnd 0 hi l=some lo)(hr:∀ c,xs.length<=c->bnd xs.length c r=some hi):∃ u,slS n v l r none=some u/\SlE n P H u ((xs.take hi).drop lo):=by
 obtain⟨⟨a,c,rfl,hc,hx⟩,he,ho⟩:=h
 have hb:zKt xs.length c l r none=some (lo,hi,c):=by
  unfold zKt
  rw[show bnd c c none=some c from rfl]
  simp only[Option.bind_some,hr c hc,hl,Option.map_some]
 have hlen:((xs.take hi).drop lo).length=hi - lo:=by simp;omega
 have el':∀ x ∈ (xs.take hi).drop lo,x.length=n:=fun x hx=>he x (List.mem_of_mem_take (List.mem_of_mem_drop hx))
 have one':∀ x ∈ (xs.take hi).drop lo,∀ c ∈ x,c.oneCell'=true:=fun x hx=>ho x (List.mem_of_mem_take (List.mem_of_mem_drop hx))
 rcases hx with rfl | ⟨b,o,rfl,hP,hp⟩
 ·exact absurd rfl hne
 ·refine⟨.slice (some ⟨b,if c=lo then o else o+lo * n,none⟩) (hi - lo) (c - lo),by simp[slS,hb],⟨_,c - lo,by rw[hlen],by rw[hlen];omega,?_⟩,el',one'⟩
  by_cases h0:hi=lo
  ·left;apply List.length_eq_zero_iff.1;omega
  ·right
   rw[if_neg (by omega)]
   refine⟨b,_,rfl,hP,?_⟩
   have hle:lo * n+(hi - lo) * n=hi * n:=by rw[<- Nat.add_mul];congr 1;omega
   have hle2:=Nat.mul_le_mul_right n h2
   have:=hp.sub (i:=lo * n) (n:=(hi - lo) * n) (by rw[zGB he];omega)
   have e:((xs.take hi).drop lo).flatten=(xs.flatten.drop (lo * n)).take ((hi - lo) * n):=by
    rw[zQE (fun x hx=>he x (List.mem_of_mem_take hx)),zQF he,List.drop_take]
    congr 1;omega
   rwa [e]
end
def BufE (n:Nat)(F:Nat->Prop)(H:zAd)(v:Value)(xs:List (List Value)):Prop :=
 (∀ x ∈ xs,x.length=n)/\(∀ x ∈ xs,∀ c ∈ x,c.oneCell'=true) /\
 ((v = .slice none 0 0/\xs=[])\/∃ b o c cs T f,v = .slice (some ⟨b,o,none⟩) xs.length c/\F b/\xs.length<=c/\H[b]? = some (.cells cs T f)/\o+c * n<=cs.size/\(∀ i n,zRB f i n=true)/\(cs.toList.drop o).take (xs.length * n)=xs.flatten)
section
variable {n:Nat} {F:Nat->Prop} {H:zAd} {v:Value} {xs:List (List Value)}
theorem BufE.nil:BufE n F H (.slice none 0 0) []:=⟨fun x h=>(by cases h),fun x h=>(by cases h),.inl ⟨rfl,rfl⟩⟩
theorem BufE.sl (h:BufE n F H v xs):SlE n F H v xs:=by
 obtain⟨h1,h2,h | ⟨b,o,c,cs,T,f,rfl,hf,hc,hb,hle,ht,hl⟩⟩:=h
 ·obtain⟨rfl,rfl⟩:=h;exact SlE.nil
 ·refine⟨⟨_,c,rfl,hc,.inr ⟨b,o,rfl,hf,cs,T,f,hb,?_,?_⟩⟩,h1,h2⟩
  ·rw[zGB h1];have:=Nat.mul_le_mul_right n hc;omega
  ·rw[zGB h1];exact hl
theorem BufE.keep {S:Nat->Prop}{H':zAd}(h:BufE n F H v xs)(k:Keep S H H')(hs:∀ b,F b->¬ S b):BufE n F H' v xs:=by
 obtain⟨h1,h2,h | ⟨b,o,c,cs,T,f,rfl,hf,hc,hb,hle,ht,hl⟩⟩:=h
 ·exact⟨h1,h2,.inl h⟩
 ·exact⟨h1,h2,.inr ⟨b,o,c,cs,T,f,rfl,hf,hc,k.at hb (hs b hf),hle,ht,hl⟩⟩
theorem BufE.mono {G:Nat->Prop}(h:BufE n F H v xs)(k:∀ b,F b->G b):BufE n G H v xs:=by
 obtain⟨h1,h2,h | ⟨b,o,c,cs,T,f,rfl,hf,hr⟩⟩:=h
 ·exact⟨h1,h2,.inl h⟩
 ·exact⟨h1,h2,.inr ⟨b,o,c,cs,T,f,rfl,k _ hf,hr⟩⟩
theorem BufE.fresh {T:TypeId}{c:Nat}{cs:List Value}{f:Nat×Nat}(hb:∃ b,v = .slice (some ⟨b,0,none⟩) xs.length c/\F b/\H[b]? = some (.cells cs.toArray T f))(hc:xs.length<=c)(hle:c * n<=cs.length)(ht:∀ i n,zRB f i n=true)(hl:cs.take (xs.length * n)=xs.flatten)
  (h1:∀ x ∈ xs,x.length=n) (h2:∀ x ∈ xs,∀ c ∈ x,c.oneCell'=true):BufE n F H v xs:=by
 obtain⟨b,rfl,hf,hb⟩:=hb
 exact⟨h1,h2,.inr ⟨b,0,c,_,T,f,rfl,hf,hc,hb,by simpa using hle,ht,by simpa using hl⟩⟩
theorem BufE.app {P:Nat->Prop}{s x:Value}{ys:List (List Value)}{T:TypeId}{bytes:Nat}{k:Value->zAd->Prop}(h:BufE n F H s xs)(hx:SlE n P H x ys)(hb0:0<bytes)(hlen:(xs.length+ys.length) * bytes<=140737488355328)(hf:F H.size)
  (hk:∀ v H',BufE n F H' v (xs++ys)->Keep F H H'->k v H'):zIV T n bytes H s x k:=by
 obtain⟨h1,h2,h⟩:=h
 have el:∀ x ∈ xs++ys,x.length=n:=fun x h=>(List.mem_append.1 h).elim (h1 x) (hx.el x)
 have one:∀ x ∈ xs++ys,∀ c ∈ x,c.oneCell'=true:=fun x h=>(List.mem_append.1 h).elim (h2 x) (hx.one x)
 have fl:=zGB h1
 have fy:=zGB hx.el
 rcases h with ⟨rfl,rfl⟩ | ⟨b,o,c,cs,T',f,rfl,hb',hc,hb,hle,ht,hl⟩
 ·refine⟨none,0,0,ys.length,ys.flatten.toArray,rfl,hx.elems,hx.all,fun h0=>?_,fun h0=>⟨by simpa using hlen,hb0,#[],rfl,fun cap rest c1 c2 c3=>?_⟩⟩
  ·have:ys=[]:=List.length_eq_zero_iff.1 (by omega)
   subst this
   exact hk _ _ ⟨el,one,.inl ⟨rfl,rfl⟩⟩ Keep.refl
  ·have hm:ys.length * n+(cap - ys.length) * n=cap * n:=by rw[<- Nat.add_mul];congr 1;omega
   refine hk _ _ ⟨el,one,.inr ⟨H.size,0,cap,_,T,(0,0),by simp,hf,by simpa using c1,zAR,?_,fun _ _=>by simp[zRB],?_⟩⟩ Keep.push
   ·simp at c3 ⊢;rw[c3];simp at fy;rw[fy];omega
   ·simp
    rw[List.take_append_of_le_length (by omega),List.take_of_length_le (by omega)]
 ·have hm:xs.length * n+ys.length * n=(xs.length+ys.length) * n:=by rw[Nat.add_mul]
  refine⟨some ⟨b,o,none⟩,xs.length,c,ys.length,ys.flatten.toArray,rfl,hx.elems,hx.all,fun h0=>?_,fun h0=>⟨hlen,hb0,xs.flatten.toArray,?_,fun cap rest c1 c2 c3=>?_⟩⟩
  ·have hcn:=Nat.mul_le_mul_right n h0
   have hsz:o+xs.length * n+ys.flatten.toArray.size<=cs.size:=by simp only[List.size_toArray,fy];omega
   refine⟨_,zNI hb _ _ (ht _ _) hsz hx.all,hk _ _ ⟨el,one,.inr ⟨b,o,c,_,T',f,by simp,hb',by simpa using h0,zAt hb,?_,ht,?_⟩⟩ (Keep.set hb')⟩
   ·rw[zIA hsz];exact hle
   ·show((List.take (o+xs.length * n) cs.toList++ys.flatten++_).drop o).take ((xs++ys).length * n)=_
    have hq:o+xs.length * n<=cs.toList.length:=by simp;omega
    rw[List.append_assoc,List.drop_append_of_le_length (by simp;omega),List.drop_take,Nat.add_sub_cancel_left,hl,<- List.append_assoc,List.flatten_append,List.length_append,<- hm,<- fl,<- fy,<- List.length_append,List.take_append_of_le_length (by simp),List.take_of_length_le (Nat.le_refl _)]
  ·exact(SlE.elems (P:=F) ⟨⟨_,c,rfl,hc,.inr ⟨b,o,rfl,hb',cs,T',f,hb,by rw[fl];have:=Nat.mul_le_mul_right n hc;omega,by rw[fl];exact hl⟩⟩,h1,h2⟩)
  ·have hm2:(xs.length+ys.length) * n+(cap - (xs.length+ys.length)) * n=cap * n:=by rw[<- Nat.add_mul];congr 1;omega
   refine hk _ _ ⟨el,one,.inr ⟨H.size,0,cap,_,T,(0,0),by simp,hf,by simpa using c1,zAR,?_,fun _ _=>by simp[zRB],?_⟩⟩ Keep.push
   ·simp only[Array.size_append,List.size_toArray,fl,fy,c3];omega
   ·show((xs.flatten.toArray++ys.flatten.toArray++rest).toList.drop 0).take ((xs++ys).length * n)=_
    simp only[Array.toList_append,List.drop_zero,List.flatten_append,List.length_append,<- hm,<- fl,<- fy]
    rw[List.take_append_of_le_length (by simp),List.take_of_length_le (by simp)]
end
def zFB (l:List Value):List (List Value):=l.map fun v=>[v]
@[simp] theorem zTN {l:List Value}:(zFB l).length=l.length:=by simp[zFB]
@[simp] theorem zJH {l:List Value}:(zFB l).flatten=l:=by induction l <;> simp_all [zFB]
theorem zNe {l:List Value}:∀ x ∈ zFB l,x.length=1:=by
 intro x hx;obtain⟨v,_,rfl⟩:=List.mem_map.1 hx;rfl
theorem zMJ {l:List Value}(h:∀ v ∈ l,v.oneCell'=true):∀ x ∈ zFB l,∀ c ∈ x,c.oneCell'=true:=by
 intro x hx c hc;obtain⟨v,hv,rfl⟩:=List.mem_map.1 hx;obtain rfl:c=v:=by simpa using hc
 exact h _ hv
theorem zLe {l:List Value}{i:Nat}{v:Value}(h:l[i]? = some v):(zFB l)[i]? = some [v]:=by simp[zFB,h]
theorem Buf.mono {F G:Nat->Prop}{H:zAd}{v:Value}{l:List UInt8}(h:Buf F H v l)(k:∀ b,F b->G b):Buf G H v l:=by
 rcases h with h | ⟨b,o,c,cs,T,f,rfl,hf,hr⟩
 ·exact .inl h
 ·exact .inr ⟨b,o,c,cs,T,f,rfl,k _ hf,hr⟩
theorem Sl.pre {P:Nat->Prop}{H:zAd}{v:Value}{l:List UInt8}(h:Sl P H v l){n:Nat}(hn:n<=l.length):∃ u,slS 1 v none (some (.int .i64 n)) none=some u/\Sl P H u (l.take n):=by
 rcases h.cases with ⟨a,c,rfl,rfl,ha⟩ | ⟨b,o,c,cs,T,f,rfl,hp,hc,hb,hle,hl⟩
 ·have:n=0:=by simpa using hn
  subst this
  have hb:zKt 0 c none (some (.int .i64 0)) none=some (0,0,c):=by simp[zKt,bnd]
  rcases a with _ | ⟨b,o,_ | sp⟩
  ·exact⟨.slice none 0 c,by simp[slS,hb],by simpa using Sl.nil⟩
  rotate_left
  ·exact⟨.slice (some ⟨b,o,some sp⟩) 0 c,by simp[slS,hb],by simpa using zQB,⟨some ⟨b,o,some sp⟩,c,rfl,Nat.zero_le _,ha⟩,h.own⟩
  ·refine⟨.slice (some ⟨b,if c=0 then o else o+0 * 1,none⟩) 0 c,by simp[slS,hb],?_⟩
   exact⟨by simpa using zQB,⟨_,c,rfl,Nat.zero_le _,fun x hx=>by cases hx;rfl⟩,fun b' hb'=>h.own b' (by obtain⟨rfl,h0⟩:=zHu hb';exact absurd rfl h0)⟩
 ·have h1:(n:Int)<=c:=by omega
  have hb':zKt l.length c none (some (.int .i64 n)) none=some (0,n,c):=by simp[zKt,bnd,show n<=c by omega]
  refine⟨.slice (some ⟨b,if c=0 then o else o+0 * 1,none⟩) n c,by simp[slS,hb'],⟨Bs.mk hb (by simp[hn]) ?_ ?_,⟨some ⟨b,if c=0 then o else o+0 * 1,none⟩,c,by simp[hn],by simp;omega,fun x hx=>by cases hx;rfl⟩,fun b' hb'=>by obtain⟨rfl,_⟩:=zHu hb';exact hp⟩⟩
  ·split <;> omega
  ·have:(if c=0 then o else o+0 * 1)=o:=by split <;> simp
   rw[this,zQz,<- hl,List.take_take,Nat.min_eq_left hn]
theorem Buf.cut0 {F:Nat->Prop}{H:zAd}{v:Value}{l:List UInt8}(h:Buf F H v l):∃ u,slS 1 v none (some (.int .i64 0)) none=some u/\Buf F H u []:=by
 rcases h with ⟨rfl,rfl⟩ | ⟨b,o,c,cs,T,f,rfl,hf,hc,hb,hle,ht,hl⟩
 ·exact⟨.slice none 0 0,by simp[slS,zKt,bnd],.inl ⟨rfl,rfl⟩⟩
 ·have hb':zKt l.length c none (some (.int .i64 0)) none=some (0,0,c):=by simp[zKt,bnd]
  have e:(if c=0 then o else o+0 * 1)=o:=by split <;> simp
  exact⟨.slice (some ⟨b,if c=0 then o else o+0 * 1,none⟩) 0 c,by simp[slS,hb'],.inr ⟨b,_,c,cs,T,f,rfl,hf,Nat.zero_le _,hb,by rw[e];exact hle,by rw[e];exact ht,by simp⟩⟩
theorem zO0 {H:zAd}{b:Nat}{cs:List Value}{T:TypeId}{f:Nat×Nat}(h:H[b]? = some (.cells cs.toArray T f)){i:Nat}{v:Value}(hi:cs[i]? = some v):ld1 H (Ptr b i)=some v:=by
 rw[zPM h];simpa using hi
theorem zUE {H:zAd}{b:Nat}{cs:List Value}{T:TypeId}(h:H[b]? = some (.cells cs.toArray T (0,0))){i:Nat}{v:Value}(hi:i<cs.length)(hv:v.oneCell'=true):st1 H (Ptr b i) v=some (H.setIfInBounds b (.cells (cs.set i v).toArray T (0,0))):=by
 rw[zVX h _ _ (by simpa using hi) hv];simp
theorem zQG {n s b o:Nat}{k:IntKind}{i:Nat}(h:i<n):ixA n s (.pointer (some ⟨b,o,none⟩)) (.int k i)=some (Ptr b (o+i * s)):=by
 simp only[ixA];rw[if_pos ⟨by omega,by omega⟩];simp
theorem zPe {n b i:Nat}{k:IntKind}(h:i<n):ixA n 1 (.pointer (some ⟨b,0,none⟩)) (.int k i)=some (Ptr b i):=by rw[zQG h];simp
theorem zAgY {H:zAd}{q o n c:Nat}{x:Value}{T:TypeId}{cs:Array Value}{k:Value->zAd->Prop}(hq:H[q]? = some (.cells cs T (0,0)))(ho:o<=cs.size)(hx:zCq 1 H x=some (0,#[]))(hk:k (.int .i64 (0:Nat)) H):zNU 1 H (.slice (some ⟨q,o,none⟩) n c) x k:=by
 refine⟨0,#[],some ⟨q,o,none⟩,n,c,hx,rfl,?_⟩
 have e:Nat.min 0 n=0:=Nat.zero_min n
 show Mwr (stA H q o (#[].extract 0 (Nat.min 0 n * 1))) fun h=>k (.int .i64 (Nat.min 0 n:Nat)) h
 rw[e]
 have hst:=zNI hq o (#[].extract 0 (0 * 1)) zI3 (by simpa using ho) (by simp)
 have hset:H.setIfInBounds q (.cells (spl cs o (#[].extract 0 (0 * 1))) T (0,0))=H:=by
  have e2:spl cs o (#[].extract 0 (0 * 1))=cs:=by simp[spl]
  rw[e2]
  apply Array.ext_getElem?
  intro i
  rw[Array.getElem?_setIfInBounds]
  split
  ·rename_i hi;subst hi;rw[hq];rw[if_pos (lt_of hq)]
  ·rfl
 rw[hst,hset,zAm]
 exact hk
theorem zAeX {body:(zAd->Prop)->Prop}{rest:zAd->Prop}(I:zAd->Prop)(h1:∀ k:zAd->Prop,(∀ h,I h->k h)->body k)(h2:∀ h,I h->rest h):J0 body rest := .mk (h1 rest h2)
theorem zL2 {body:(Value->zAd->Prop)->Prop}{rest:Value->zAd->Prop}(I:Value->zAd->Prop)(h1:∀ k:Value->zAd->Prop,(∀ x h,I x h->k x h)->body k)(h2:∀ x h,I x h->rest x h):J1 body rest := .mk (h1 rest h2)
theorem zLf {body:(Value->Value->zAd->Prop)->Prop}{rest:Value->Value->zAd->Prop}(I:Value->Value->zAd->Prop)(h1:∀ k:Value->Value->zAd->Prop,(∀ x y h,I x y h->k x y h)->body k)(h2:∀ x y h,I x y h->rest x y h):J2 body rest := .mk (h1 rest h2)
abbrev str (l:List UInt8):Value := .string ⟨l.toArray⟩
theorem str_of (s:ByteArray):Value.string s=str s.data.toList:=by
 obtain⟨a⟩:=s;simp
theorem zGK {l:List UInt8}:(ByteArray.mk l.toArray).size=l.length:=by simp[ByteArray.size]
theorem zJV {l:List UInt8}:(ByteArray.mk l.toArray).toList=l:=by simp
@[simp] theorem zDU {l:List UInt8}:zKL (str l)=some (.int .i64 l.length):=by rw[zUW,zGK]
theorem zI4 {l:List UInt8}{i:Nat}{x:UInt8}{k:IntKind}(h:l[i]? = some x):ixT (str l) (.int k i)=some (.int .u8 x.toNat):=by
 obtain⟨hlt,rfl⟩:=List.getElem?_eq_some_iff.1 h
 have e:(ByteArray.mk l.toArray)[i]? = some l[i]:=by
  rw[getElem?_pos (ByteArray.mk l.toArray) i (by rw[zGK];exact hlt)]
  rfl
 simp only[ixT];rw[if_pos (by omega)]
 simp only[Int.toNat_natCast,e,Option.map_some]
theorem zPf {l:List UInt8}{lo hi:Nat}{a b:Option Value}(h1:lo<=hi)(h2:hi<=l.length)(ha:bnd 0 hi a=some lo)(hb:bnd l.length l.length b=some hi):slT (str l) a b=some (str ((l.take hi).drop lo)):=by
 have hbn:zKt l.length l.length a b none=some (lo,hi,l.length):=by
  unfold zKt
  rw[show bnd l.length l.length none=some l.length from rfl]
  simp only[Option.bind_some,hb,ha,Option.map_some]
 have e:(ByteArray.mk l.toArray).extract lo hi=⟨((l.take hi).drop lo).toArray⟩:=by
  apply ByteArray.ext
  rw[ByteArray.data_extract]
  apply Array.ext'
  simp[List.extract_eq_take_drop,List.drop_take]
 simp only[slT,zGK,hbn,Option.map_some,e]
theorem zN1 {a b:List UInt8}:zP4 .eql ⟨a.toArray⟩ ⟨b.toArray⟩=some (.bool (decide (a=b))):=by
 simp only[zP4,zJV];congr 2;rw[Bool.eq_iff_iff];simp
theorem zUX {a b:List UInt8}:zP4 .neq ⟨a.toArray⟩ ⟨b.toArray⟩=some (.bool (!decide (a=b))):=by
 simp only[zP4,zJV];congr 2;rw[Bool.eq_iff_iff];simp
theorem zSx {a b:List UInt8}(h:a.length+b.length<=9223372036854775807):zP4 .add ⟨a.toArray⟩ ⟨b.toArray⟩=some (str (a++b)):=by
 simp only[zP4,zGK]
 rw[if_neg (by show ¬ ((a.length+b.length:Nat):Int) > 9223372036854775807;omega)]
 congr 2
@[simp] theorem zAgZ {l:List UInt8}:(str l).oneCell'=true:=rfl
theorem zAck {H:zAd}{l:List UInt8}:Bs H (str l) l:=by
 unfold Bs zCq
 simp only[if_true,zGK]
 congr 2
 apply Array.ext'
 simp[zAy]
theorem Sl.str {P:Nat->Prop}{H:zAd}{v:Value}{l:List UInt8}(h:Sl P H v l):Go.X.b2s H v=some (str l):=h.b2s
def zAhW (P:Program)(fv:Value)(xs:List (List Value))(S:Nat->Prop)(St:zAd->Prop):Prop :=
 ∀ (yv:Value) (h0:zAd) (J:Nat->zAd->Prop) (E:zAd->Prop),St h0->J 0 h0 ->
  (∀ (i:Nat) (x:List Value) (h:zAd),xs[i]? = some x->J i h->zBF P yv x h fun v h'=>h.size<=h'.size/\(∀ b,S b->b<h.size->h'[b]? = h[b]?)/\((v = .bool true/\J (i+1) h')\/(v = .bool false/\E h'))) ->
  (∀ i h h',J i h->Keep S h h'->J i h')->(∀ h h',E h->Keep S h h'->E h') ->
  zYl P fv [yv] h0 fun _ h=>J xs.length h\/E h
theorem range_i {P:Program}{n0:Nat}{fv:Value}{H:zAd}{B:List Value->zAd->(Option Code->zAd->Prop)->Prop}{rest:Option Code->zAd->Prop}
  {xs:List (List Value)} {S W:Nat->Prop} {St:zAd->Prop} (hit:zAhW P fv xs S St) (hst:∀ o o',St ((H.push o).push o')) (hn:n0<=H.size)
  (Inv:Nat->zAd->Prop) (Ex:Code->zAd->Prop) (h0:Inv 0 H)
  (sI:∀ i h h',Inv i h->Keep (fun b=>S b\/b=H.size\/b=H.size+1) h h'->Inv i h')
  (sE:∀ c h h',Ex c h->Keep (fun b=>S b\/b=H.size\/b=H.size+1) h h'->Ex c h')
  (hS:∀ b,S b->b<H.size) (hW:∀ b,W b->b≠H.size/\b≠H.size+1/\¬ S b)
  (hB:∀ (i:Nat) (x:List Value) (h:zAd) (r:Loop),xs[i]? = some x->Inv i h->h[H.size+1]? = some (.loop r)->r.state = .ready ->
   ∀ K:Option Code->zAd->Prop,(∀ h',Keep W (h.setIfInBounds (H.size+1) (.loop { r with state := .busy })) h'->Inv (i+1) h'->K none h') ->
    (∀ c h',Keep W (h.setIfInBounds (H.size+1) (.loop { r with state := .busy })) h'->Ex c h'->K (some c) h')->B x h K)
  (hrest:∀ h,H.size<=h.size->Inv xs.length h->rest none h) (hexit:∀ c h,H.size<=h.size->Ex c h->rest (some c) h):zPJ P n0 fv H B rest:=by
 refine⟨hn,fun rec hr hp hyield=>?_⟩
 have hsz:((H.push (.deferred (some []))).push (.loop rec)).size=H.size+2:=by simp
 have hL:((H.push (.deferred (some []))).push (.loop rec))[H.size+1]? = some (.loop rec):=by
  have:=zAR (H:=H.push (.deferred (some []))) (y := .loop rec)
  rwa [show(H.push (.deferred (some []))).size=H.size+1 by simp]at this
 have hSL:¬ S (H.size+1):=fun h=>by have:=hS _ h;omega
 have main:=hit (.func (.yield (H.size+1)) #[] #[]) ((H.push (.deferred (some []))).push (.loop rec)) (fun i h=>Inv i h/\h[H.size+1]? = some (.loop rec))
  (fun h=>∃ c,Ex c h/\∃ r,h[H.size+1]? = some (.loop r)/\r.state = .done/\r.pending=some c) (hst _ _)
  ⟨sI _ _ _ h0 ((Keep.push (S:=fun b=>S b\/b=H.size\/b=H.size+1)).trans Keep.push),hL⟩ ?_
  (fun i h h' ⟨h1,h2⟩ k=>⟨sI _ _ _ h1 (k.mono fun _ _ h => .inl h),k.at h2 hSL⟩)
  (fun h h' ⟨c,h1,r,h2,h3⟩ k=>⟨c,sE _ _ _ h1 (k.mono fun _ _ h => .inl h),r,k.at h2 hSL,h3⟩)
 ·obtain⟨f,fi,ca,e1,e2,hc⟩:=main
  refine⟨f,fi,ca,e1,e2,fun w hw=>(hc w hw).mono fun e w'=>?_⟩
  rintro⟨v,he,hs,hJ⟩
  refine⟨v,he,hs,?_⟩
  rcases hJ with ⟨hI,hl⟩ | ⟨c,hE,r,hl,hd,hpend⟩
  ·refine⟨rec,hl,by rw[hr];decide,?_⟩
   rw[hp]
   refine hrest _ ?_ (sI _ _ _ hI (Keep.set (.inr (.inr rfl))))
   simp;have:=lt_of hl;omega
  ·refine⟨r,hl,by rw[hd];decide,?_⟩
   rw[hpend]
   refine hexit _ _ ?_ (sE _ _ _ hE (Keep.set (.inr (.inr rfl))))
   simp;have:=lt_of hl;omega
 ·rintro i x h hx ⟨hI,hl⟩
  refine .inr ⟨H.size+1,#[],#[],rfl,hyield _ _ _ hl (hB i x h rec hx hI hl hr _ ?_ ?_)⟩
  ·intro h' k hI'
   have hl':=k.at (zAt (y := .loop { rec with state := .busy }) hl) (fun h=>(hW _ h).2.1 rfl)
   have hsize:h.size<=h'.size:=by have:=k.1;simpa using this
   refine⟨_,hl',by simpa using hsize,fun b hb hlt=>?_,.inl ⟨rfl,?_,?_⟩⟩
   ·have hne:H.size+1≠b:=fun e=>hSL (e ▸ hb)
    rw[Array.getElem?_setIfInBounds,if_neg hne,k.2 b (by simpa using hlt) (fun hw=>(hW _ hw).2.2 hb),Array.getElem?_setIfInBounds,if_neg hne]
   ·exact sI _ _ _ hI' (Keep.set (.inr (.inr rfl)))
   ·rw[zAt hl']
    congr 2
    cases rec;simp only at hr hp;subst hr hp;rfl
  ·intro c h' k hE
   have hl':=k.at (zAt (y := .loop { rec with state := .busy }) hl) (fun h=>(hW _ h).2.1 rfl)
   have hsize:h.size<=h'.size:=by have:=k.1;simpa using this
   refine⟨_,hl',by simpa using hsize,fun b hb hlt=>?_,.inr ⟨rfl,c,sE _ _ _ hE (Keep.set (.inr (.inr rfl))),_,zAt hl',rfl,rfl⟩⟩
   have hne:H.size+1≠b:=fun e=>hSL (e ▸ hb)
   rw[Array.getElem?_setIfInBounds,if_neg hne,k.2 b (by simpa using hlt) (fun hw=>(hW _ hw).2.2 hb),Array.getElem?_setIfInBounds,if_neg hne]
theorem Keep.busy {W:Nat->Prop}{h g:zAd}{L:Nat}{o o':Obj}(k:Keep W h g)(hl:h[L]? = some o'):Keep W (h.setIfInBounds L o) (g.setIfInBounds L o):=by
 have:=lt_of hl
 refine⟨by simpa using k.1,fun i hi hn=>?_⟩
 have hi':i<h.size:=by simpa using hi
 have hig:i<g.size:=Nat.lt_of_lt_of_le hi' k.1
 rw[Array.getElem?_setIfInBounds,Array.getElem?_setIfInBounds]
 by_cases e:L=i
 ·subst e;rw[if_pos rfl,if_pos rfl,if_pos hig,if_pos hi']
 ·rw[if_neg e,if_neg e,k.2 i hi' hn]
def Shp (P:Program)(w:World):Nat->TypeId->List Value->Prop
 | 0,_,_=>False
 | d+1,t,cs=>match P.underlying t with
  | some .bool=>∃ b,cs=[.bool b]
  | some (.int k)=>∃ n,cs=[.int k n]/\(Lit.int k n).wf=true
  | some .string=>∃ s:ByteArray,cs=[.string s]/\s.size<=maxLen
  | some (.struct fs)=>cs.length=P.cellsOf t/\∀ (i:Nat) (f:Field),fs[i]? = some f->Shp P w d f.type ((cs.drop f.offset).take (P.cellsOf f.type))
  | some (.array n e)=>cs.length=P.cellsOf t/\∀ i,i<n->Shp P w d e ((cs.drop (i * P.cellsOf e)).take (P.cellsOf e))
  | some (.slice e)=>cs=[.slice none 0 0]\/∃ (a:Addr) (len cap:Nat),cs=[.slice (some a) len cap]/\len<=cap/\cap<=maxLen/\∀ i,i<len->∃ cs',w.cells? 0 (a.add (i * P.cellsOf e)) (P.cellsOf e)=some cs'/\Shp P w d e cs'
  | _=>True
theorem shp_of_trod {H:Type}{enc:TypeId×Value->H}{P:Program}{w:World}{base:Nat}{spare:Nat->Bool}{held:Bool}:∀ {fuel:Nat} {t:TypeId} {cs:List Value} {x:DataW H×List MemPlace},
  DataW.trod enc P w base spare held fuel t cs=some x->Shp P w fuel t cs
 | 0,t,cs,x,h=>by simp[DataW.trod]at h
 | n+1,t,cs,x,h=>by
  simp only[Shp]
  split
  ·rename_i ht;obtain⟨b,hb,_⟩:=DataW.trod_bool ht h;exact⟨b,hb⟩
  ·rename_i k ht;obtain⟨m,hm,_,hw⟩:=DataW.trod_int ht h;exact⟨m,hm,hw⟩
  ·rename_i ht;obtain⟨s,hs,_,hw⟩:=DataW.trod_string ht h;exact⟨s,hs,hw⟩
  ·rename_i fs ht
   obtain⟨xs,m,hm,_,hl,hxl,hf⟩:=DataW.trod_struct ht h
   obtain rfl:n=m:=by omega
   refine⟨hl,fun i f hi=>?_⟩
   have h1:=hf i f hi
   have hlt:i<xs.length:=by rw[hxl];exact(Array.getElem?_eq_some_iff.1 hi).1
   rw[List.getElem?_eq_getElem hlt]at h1
   exact shp_of_trod h1
  ·rename_i k e ht
   unfold DataW.trod at h
   rw[ht]at h
   simp only at h
   split at h
   ·rename_i hl
    obtain⟨xs,hm,_⟩:=Option.map_eq_some_iff.1 h
    refine⟨hl,fun i hi=>?_⟩
    have h1:=mapM_some_get hm i i (by simp[hi])
    have hlen:xs.length=k:=by simpa using mapM_some_length hm
    rw[List.getElem?_eq_getElem (by omega)]at h1
    exact shp_of_trod h1
   ·cases h
  ·rename_i e ht
   rcases DataW.trod_slice ht h with ⟨h0,_⟩ | ⟨a,len,cap,elems,rest,m,hm,hc,_,hb,hl,hcap,hel,hg,_⟩
   ·exact .inl h0
   ·obtain rfl:n=m:=by omega
    refine .inr ⟨a,len,cap,hc,hl,hcap,fun i hi=>?_⟩
    have h1:=hg i hi
    rw[List.getElem?_eq_getElem (by omega)]at h1
    obtain⟨cs',h2,h3⟩:=Option.bind_eq_some_iff.1 h1
    refine⟨cs',?_,shp_of_trod h3⟩
    unfold World.cells? at h2 ⊢
    rw[if_pos (Nat.zero_le _)]
    split at h2
    ·exact h2
    ·cases h2
  ·trivial
theorem zQH {w:World}{a:Addr}{n:Nat}{cs:List Value}(hn:0<n)(h:w.cells? 0 a n=some cs):a.spot=none/\cs.length=n/\Pt w.heap a.block a.off cs:=by
 obtain⟨_,hl,hc⟩:=World.cells?_some h
 obtain⟨b,o,sp⟩:=a
 have h1:=hc 0 hn
 have h1':w.cell? ⟨b,o,sp⟩=cs[0]?:=h1
 rw[List.getElem?_eq_getElem (by omega)]at h1'
 obtain⟨c,T,f,hb,rfl⟩:∃ c T f,w.heap[b]? = some (.cells c T f)/\sp=none:=by
  unfold World.cell? at h1'
  split at h1'
  ·rename_i c T f hb
   cases sp with
   | none=>exact⟨c,T,f,hb,rfl⟩
   | some s=>cases h1'
  ·cases h1'
 have hcs:∀ i,i<n->c[o+i]? = cs[i]?:=fun i hi=>by
  have h2:=hc i hi
  have e:(⟨b,o,none⟩:Addr).add i=⟨b,o+i,none⟩:=by
   unfold Addr.add;split
   ·rename_i h;subst h;rfl
   ·rfl
  rw[e]at h2
  unfold World.cell? at h2
  simp only[hb]at h2
  exact h2
 have hlast:o+(n - 1)<c.size:=by
  have:=hcs (n - 1) (by omega)
  rw[List.getElem?_eq_getElem (by omega)]at this
  exact(Array.getElem?_eq_some_iff.1 this).1
 refine⟨rfl,hl,c,T,f,hb,(show o+cs.length<=c.size by omega),?_⟩
 apply List.ext_getElem?
 intro i
 simp only[List.getElem?_take,List.getElem?_drop]
 split
 ·rename_i hi
  rw[<- hcs i (by omega)];simp
 ·rw[List.getElem?_eq_none (by omega)]
theorem zMK {w:World}{n:Nat}(hn:0<n){a:Addr}{len cap:Nat}{q:List Value->Prop}(hle:len<=cap)(hq:∀ cs,q cs->∀ c ∈ cs,c.oneCell'=true)
  (h:∀ i,i<len->∃ cs,w.cells? 0 (a.add (i * n)) n=some cs/\q cs):∃ xs:List (List Value),xs.length=len/\SlE n (· < w.heap.size) w.heap (.slice (some a) len cap) xs/\∀ x ∈ xs,q x:=by
 by_cases h0:len=0
 ·subst h0;exact⟨[],rfl,SlE.nil,fun x hx=>by cases hx⟩
 obtain⟨c0,hc0,_⟩:=h 0 (by omega)
 have ha0:a.add (0 * n)=a:=by simp[Addr.add]
 rw[ha0]at hc0
 obtain⟨hsp,_,hpt0⟩:=zQH hn hc0
 obtain⟨b,o,sp⟩:=a
 simp only at hsp hpt0
 subst hsp
 have hadd:∀ i,(⟨b,o,none⟩:Addr).add i=⟨b,o+i,none⟩:=fun i=>by
  unfold Addr.add;split
  ·rename_i h;subst h;rfl
  ·rfl
 have key:∀ k,k<=len->∃ xs:List (List Value),xs.length=k/\(∀ x ∈ xs,x.length=n)/\(∀ x ∈ xs,q x)/\Pt w.heap b o xs.flatten:=by
  intro k
  induction k with
  | zero =>
   intro _
   obtain⟨c,T,f,hb,h1,h2⟩:=hpt0
   exact⟨[],rfl,fun x h=>(by cases h),fun x h=>(by cases h),c,T,f,hb,by simp;omega,by simp⟩
  | succ k ih =>
   intro hk
   obtain⟨xs,hx1,hx2,hx3,c,T,f,hb,h1,h2⟩:=ih (by omega)
   obtain⟨cs,hcs,hqc⟩:=h k (by omega)
   rw[hadd]at hcs
   obtain⟨_,hcl,c',T',f',hb',h1',h2'⟩:=zQH hn hcs
   simp only at hb' h1' h2'
   rw[hb]at hb'
   cases hb'
   have hfl:=zGB hx2
   refine⟨xs++[cs],by simp[hx1],?_,?_,c,T,f,hb,?_,?_⟩
   ·intro x hx
    rcases List.mem_append.1 hx with hx | hx
    ·exact hx2 x hx
    ·simp at hx;subst hx;exact hcl
   ·intro x hx
    rcases List.mem_append.1 hx with hx | hx
    ·exact hx3 x hx
    ·simp at hx;subst hx;exact hqc
   ·simp only[List.flatten_append,List.flatten_cons,List.flatten_nil,List.append_nil,List.length_append,hfl,hx1];omega
   ·simp only[List.flatten_append,List.flatten_cons,List.flatten_nil,List.append_nil,List.length_append]
    rw[List.take_add,h2,List.drop_drop,hfl,hx1,h2']
 obtain⟨xs,hx1,hx2,hx3,hp⟩:=key len (Nat.le_refl _)
 exact⟨xs,hx1,⟨⟨_,cap,by rw[hx1],by omega,.inr ⟨b,o,rfl,hp.lt,hp⟩⟩,hx2,fun x hx=>hq x (hx3 x hx)⟩,hx3⟩
theorem zYz {P:Program}{w:World}{d:Nat}{t:TypeId}{k:IntKind}{cs:List Value}(ht:P.underlying t=some (.int k))(h:Shp P w d t cs):∃ n,cs=[.int k n]/\(Lit.int k n).wf=true:=by
 cases d with
 | zero=>exact h.elim
 | succ d=>simp only[Shp,ht]at h;exact h
theorem zQI {P:Program}{w:World}{d:Nat}{t:TypeId}{cs:List Value}(ht:P.underlying t=some .string)(h:Shp P w d t cs):∃ s:ByteArray,cs=[.string s]/\s.size<=maxLen:=by
 cases d with
 | zero=>exact h.elim
 | succ d=>simp only[Shp,ht]at h;exact h
theorem zW6 {P:Program}{w:World}{d:Nat}{t:TypeId}{fs:Array Field}{cs:List Value}(ht:P.underlying t=some (.struct fs))(h:Shp P w d t cs):∃ d',cs.length=P.cellsOf t/\∀ (i:Nat) (f:Field),fs[i]? = some f->Shp P w d' f.type ((cs.drop f.offset).take (P.cellsOf f.type)):=by
 cases d with
 | zero=>exact h.elim
 | succ d=>simp only[Shp,ht]at h;exact⟨d,h⟩
theorem zVY {P:Program}{w:World}{d n:Nat}{t e:TypeId}{k:IntKind}{cs:List Value}(ht:P.underlying t=some (.array n e))(he:P.underlying e=some (.int k))(hc:P.cellsOf e=1)(hn:P.cellsOf t=n)(h:Shp P w d t cs) :
  ∃ l:List Int,l.length=n/\cs=l.map (Value.int k)/\∀ x ∈ l,(Lit.int k x).wf=true:=by
 cases d with
 | zero=>exact h.elim
 | succ d =>
  simp only[Shp,ht]at h
  obtain⟨hl,hf⟩:=h
  rw[hn]at hl
  have each:∀ i (hi:i<n),∃ m,cs[i]? = some (.int k m)/\(Lit.int k m).wf=true:=fun i hi=>by
   obtain⟨m,hm,hw⟩:=zYz he (hf i hi)
   rw[hc,Nat.mul_one]at hm
   refine⟨m,?_,hw⟩
   have:=congrArg (·[0]?) hm
   simpa [List.getElem?_take,List.getElem?_drop] using this
  refine⟨cs.map fun v=>match v with | .int _ m=>m | _=>0,by simpa using hl,?_,?_⟩
  ·apply List.ext_getElem?
   intro i
   by_cases hi:i<n
   ·obtain⟨m,hm,_⟩:=each i hi
    simp[hm]
   ·simp[List.getElem?_eq_none (show cs.length<=i by omega)]
  ·intro x hx
   obtain⟨v,hv,rfl⟩:=List.mem_map.1 hx
   obtain⟨i,hi,rfl⟩:=List.getElem_of_mem hv
   obtain⟨m,hm,hw⟩:=each i (by omega)
   rw[List.getElem?_eq_getElem hi]at hm
   rw[Option.some.inj hm]
   exact hw
theorem zW7 {l:List Int}(h:∀ x ∈ l,(Lit.int .u8 x).wf=true):∃ r:List UInt8,r.length=l.length/\l.map (Value.int .u8)=zAy r:=by
 refine⟨l.map fun n=>UInt8.ofNat n.toNat,by simp,?_⟩
 simp only[zAy,List.map_map]
 refine List.map_congr_left fun x hx=>?_
 have hz:=h x hx
 simp only[Lit.wf,IntKind.min,IntKind.max,IntKind.signed,IntKind.bits]at hz
 simp only[Function.comp]
 congr 1
 simp at hz ⊢
 omega
theorem zTO {P:Program}{w:World}{name:String}{k:IntKind}{zs:List Int}{g n:Nat}{t e:TypeId}(hg:P.globalNamed name=some g)(hty:(P.globals[g]?).map (·.type)=some t)(ht:P.underlying t=some (.array n e))(he:P.underlying e=some (.int k))(hce:P.cellsOf e=1)(hct:P.cellsOf t=n) :
  ∀ {l:List (String×DataW Unit)} {ps:List MemPlace},DataW.LaidVars P w l ps->(name,Lib.tabData k zs) ∈ l->∃ T f,w.heap[g]? = some (.cells (zs.map (Value.int k)).toArray T f)
 | [],_,_,hm=>by cases hm
 | (nm,d) :: r,ps,h,hm=>by
  obtain⟨g',t',cs,fuel,p,q,hg',ht',hvar,hd,hrest,_⟩:=h
  rcases List.mem_cons.1 hm with he' | hm
  ·cases he'
   obtain rfl:=Option.some.inj (hg.symm.trans hg')
   obtain rfl:=Option.some.inj (hty.symm.trans ht')
   have hcs:=Lib.cells_of_tab ht he hce hct hd
   unfold World.var? at hvar
   rw[hg,Option.bind_some]at hvar
   split at hvar
   ·rename_i cs' T f hb
    cases Option.some.inj hvar
    rw[<- hcs]
    exact⟨T,f,by simpa using hb⟩
   ·cases hvar
  ·exact zTO hg hty ht he hce hct hrest hm
end Go.X
