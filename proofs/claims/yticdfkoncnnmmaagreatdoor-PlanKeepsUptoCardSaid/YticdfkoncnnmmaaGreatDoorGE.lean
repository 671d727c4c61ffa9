import Derived.Test.YticdfkoncnnmmaaGreatDoorGP
import Derived.Test.YticdfkoncnnmmaaGreatDoorProg
import Derived.KernelRfl
import Derived.ChangeSlices
import Derived.ChangeArms
import Derived.Lib.LaidTab
set_option linter.unusedSimpArgs false
set_option linter.unusedVariables false
set_option maxRecDepth 100000
namespace Go.Proofs.YticdfkoncnnmmaaGreatDoor
open Go.X
noncomputable abbrev prg:Program:=Tryz.prog
abbrev zHX:Nat:=3
abbrev zDO:Nat:=9
abbrev zEu:Nat:=10
abbrev zDe:Nat:=11
abbrev zFV:Nat:=12
abbrev zJR:Nat:=13
abbrev zFg:Nat:=14
abbrev zDr:Nat:=15
abbrev zDG:Nat:=16
abbrev zKh:Nat:=17
abbrev zDH:Nat:=18
abbrev zFX:Nat:=19
abbrev zHf:Nat:=20
abbrev zHg:Nat:=21
abbrev zKJ:Nat:=24
abbrev zMl:Nat:=25
abbrev zLi:Nat:=29
abbrev zER:Nat:=39
abbrev zKK:Nat:=40
abbrev zMm:Nat:=41
abbrev zNC:Nat:=42
abbrev zLj:Nat:=43
abbrev zCK:Nat:=44
abbrev zCj:Nat:=45
abbrev zND:Nat:=46
abbrev zEe:Nat:=47
abbrev zDw:Nat:=48
abbrev zFx:Nat:=49
abbrev zMH:Nat:=50
abbrev zCM:Nat:=51
abbrev zDc:Nat:=52
abbrev zFY:Nat:=53
abbrev zEH:Nat:=54
abbrev zFH:Nat:=55
abbrev zQ5:Nat:=56
abbrev zKi:Nat:=57
abbrev zFy:Nat:=58
abbrev zPJ:Nat:=61
abbrev zCy:Nat:=62
abbrev zEV:Nat:=63
abbrev zHh:Nat:=65
abbrev zCr:Nat:=66
abbrev zIY:Nat:=67
abbrev zGM:Nat:=68
abbrev zGN:Nat:=69
abbrev zHi:Nat:=70
abbrev zEI:Nat:=71
abbrev zDg:Nat:=72
abbrev zSy:Nat:=75
abbrev zDK:Nat:=77
abbrev zFh:Nat:=80
abbrev zCa:Nat:=81
abbrev zMn:Nat:=82
abbrev zLF:Nat:=84
abbrev zKj:Nat:=85
abbrev zBJ:Nat:=86
abbrev zIZ:Nat:=87
abbrev zCv:Nat:=88
abbrev zHt:Nat:=89
abbrev zCE:Nat:=90
abbrev zNE:Nat:=91
abbrev zE8:Nat:=92
abbrev zLk:Nat:=93
abbrev zD0:Nat:=94
abbrev zGL:Nat:=95
abbrev zFq:Nat:=96
abbrev zFZ:Nat:=97
abbrev zF0:Nat:=98
abbrev zIp:Nat:=99
abbrev zEA:Nat:=100
abbrev zEn:Nat:=101
abbrev zEo:Nat:=102
abbrev zEf:Nat:=103
abbrev zOy:Nat:=104
abbrev zIj:Nat:=105
abbrev zIk:Nat:=106
abbrev zI0:Nat:=107
abbrev zI1:Nat:=108
abbrev zD1:Nat:=109
abbrev zDT:Nat:=110
abbrev zES:Nat:=111
abbrev zDa:Nat:=112
abbrev zDP:Nat:=113
abbrev zDQ:Nat:=114
abbrev zHL:Nat:=115
abbrev zEp:Nat:=116
abbrev zD2:Nat:=117
abbrev zI2:Nat:=118
abbrev zDl:Nat:=119
abbrev zSz:Nat:=120
abbrev zFz:Nat:=121
abbrev zKL:Nat:=122
abbrev zDk:Nat:=123
abbrev zHY:Nat:=126
abbrev zF1:Nat:=128
abbrev zMI:Nat:=129
abbrev zNF:Nat:=130
abbrev zGW:Nat:=131
abbrev zMJ:Nat:=132
abbrev zDL:Nat:=133
abbrev zEk:Nat:=134
abbrev zEB:Nat:=135
abbrev zLl:Nat:=136
abbrev zDd:Nat:=137
abbrev zGh:Nat:=138
abbrev zOb:Nat:=139
abbrev zNG:Nat:=140
abbrev zGO:Nat:=141
abbrev zGr:Nat:=142
abbrev zF2:Nat:=143
abbrev zMK:Nat:=144
abbrev zL9:Nat:=145
abbrev zJS:Nat:=146
abbrev zFO:Nat:=147
abbrev zC5:Nat:=148
abbrev zE9:Nat:=149
abbrev zI3:Nat:=150
abbrev zJx:Nat:=151
abbrev zDb:Nat:=152
abbrev zEJ:Nat:=153
abbrev zF3:Nat:=154
abbrev zEK:Nat:=155
abbrev zJT:Nat:=156
abbrev zDs:Nat:=157
abbrev zI4:Nat:=158
abbrev zGP:Nat:=159
abbrev zFr:Nat:=160
abbrev zMo:Nat:=161
abbrev zGs:Nat:=162
abbrev zJU:Nat:=163
abbrev zFI:Nat:=164
abbrev zGz:Nat:=165
abbrev zFJ:Nat:=166
abbrev zF4:Nat:=167
abbrev zFT:Nat:=168
abbrev zET:Nat:=169
abbrev zFA:Nat:=170
abbrev zGt:Nat:=171
abbrev zQ6:Nat:=172
abbrev zHu:Nat:=173
abbrev zD3:Nat:=174
abbrev zI5:Nat:=175
abbrev zI6:Nat:=178
abbrev zD4:Nat:=179
abbrev zFl:Nat:=180
abbrev zEj:Nat:=181
abbrev zDp:Nat:=182
abbrev zGQ:Nat:=183
abbrev zDh:Nat:=184
abbrev zOz:Nat:=185
abbrev zDm:Nat:=186
abbrev zGX:Nat:=187
abbrev zFB:Nat:=188
abbrev zF5:Nat:=189
abbrev zFP:Nat:=190
abbrev zEs:Nat:=191
abbrev zFm:Nat:=192
abbrev zGA:Nat:=193
abbrev zQ7:Nat:=194
abbrev zEM:Nat:=195
abbrev zI7:Nat:=196
abbrev zGY:Nat:=197
abbrev zJy:Nat:=198
abbrev zDU:Nat:=199
abbrev zDB:Nat:=200
abbrev zLG:Nat:=201
abbrev zD5:Nat:=202
abbrev zHj:Nat:=203
abbrev zHM:Nat:=204
abbrev zPK:Nat:=205
abbrev zOc:Nat:=206
abbrev zGB:Nat:=207
abbrev zGu:Nat:=208
abbrev zGR:Nat:=209
abbrev zFC:Nat:=210
abbrev zG8:Nat:=211
abbrev zI8:Nat:=215
abbrev zEN:Nat:=216
abbrev zBK:Nat:=217
abbrev zLm:Nat:=218
abbrev zIO:Nat:=219
abbrev zMa:Nat:=220
abbrev zF6:Nat:=221
abbrev zF7:Nat:=222
abbrev zEW:Nat:=223
abbrev zEq:Nat:=224
abbrev zKM:Nat:=225
abbrev zGC:Nat:=226
abbrev zGi:Nat:=227
abbrev zMb:Nat:=228
abbrev zG9:Nat:=229
abbrev zEX:Nat:=230
abbrev zDV:Nat:=231
abbrev zHa:Nat:=233
abbrev zDW:Nat:=235
abbrev zGj:Nat:=236
abbrev zMc:Nat:=237
abbrev zGZ:Nat:=238
abbrev zG0:Nat:=239
abbrev zCR:Nat:=243
abbrev zJV:Nat:=244
abbrev zHZ:Nat:=245
abbrev zJW:Nat:=246
abbrev zH0:Nat:=247
abbrev zIP:Nat:=248
abbrev zIq:Nat:=249
abbrev zGv:Nat:=250
abbrev zJX:Nat:=251
abbrev zHN:Nat:=252
abbrev zJq:Nat:=253
abbrev zJY:Nat:=256
abbrev zHO:Nat:=257
abbrev zKN:Nat:=258
abbrev zKO:Nat:=259
abbrev zD6:Nat:=0
abbrev zLH:Nat:=1
abbrev zFK:Nat:=2
abbrev zIr:Nat:=3
abbrev zDi:Nat:=4
abbrev zDn:Nat:=5
abbrev zPi:Nat:=6
abbrev zLI:Nat:=7
abbrev zDD:Nat:=8
abbrev zML:Nat:=9
abbrev zMM:Nat:=10
abbrev NG:Nat:=11
abbrev zHb:Nat:=3
abbrev zVB:Nat:=4
abbrev zCi:Nat:=5
abbrev zBW:Nat:=9
abbrev zDt:Nat:=22
abbrev zGD:Nat:=23
abbrev zAcY:Nat:=24
abbrev zAQ:Nat:=26
abbrev zBO:Nat:=28
abbrev zE4:Nat:=30
abbrev zCo:Nat:=32
abbrev zB6:Nat:=40
abbrev zHk:Nat:=41
abbrev zC8:Nat:=45
abbrev zF8:Nat:=46
abbrev zAg:Nat:=48
abbrev zLJ:Nat:=53
abbrev zA4:Nat:=55
abbrev zFa:Nat:=62
abbrev zBQ:Nat:=68
abbrev zCt:Nat:=80
abbrev zTJ:Nat:=85
abbrev zBr:Nat:=91
abbrev zAH:Nat:=101
abbrev zPL:Nat:=107
abbrev zIl:Nat:=114
abbrev zEY:Nat:=126
abbrev zE5:Nat:=138
abbrev zWL:Nat:=154
abbrev zC1:Nat:=166
abbrev zH1:Nat:=168
abbrev zIs:Nat:=182
abbrev zB9:Nat:=184
abbrev zCX:Nat:=204
abbrev zXQ:Nat:=213
abbrev zEO:Nat:=214
abbrev zCY:Nat:=216
abbrev zXR:Nat:=217
abbrev zLn:Nat:=239
abbrev zHl:Nat:=245
abbrev zKP:Nat:=249
abbrev zBE:Nat:=252
abbrev zDC:Nat:=255
abbrev zHv:Nat:=258
abbrev zLK:Nat:=268
abbrev zD7:Nat:=278
abbrev zRD:Nat:=292
abbrev zJz:Nat:=297
abbrev zK4:Nat:=299
end Go.Proofs.YticdfkoncnnmmaaGreatDoor
namespace Go.X
section
variable {H:zAw}
@[simp] theorem zAa {v:Value}{k:Value->Prop}:Mpu (some v) k↔k v:=by simp[Mpu]
@[simp] theorem zA0 {h:zAw}{k:zAw->Prop}:Mwr (some h) k↔k h:=by simp[Mwr]
@[simp] theorem zBd {T:TypeId}{c:Array Value}{k:zAn}:zDy H T (some c) k↔k (.pointer (some ⟨H.size,0,none⟩)) (H.push (.cells c T (0,0))):=by simp[zDy]
@[simp] theorem zCD {T:TypeId}{n:Nat}{c:Array Value}{k:zAn}:zFv H T n (some c) k↔k (.slice (some ⟨H.size,0,none⟩) n n) (H.push (.cells c T (0,0))):=by simp[zFv]
@[simp] theorem zAl {b:Bool}{x y:Prop}:Mcd (.bool b) x y↔if b=true then x else y:=by cases b<;>simp[Mcd]
@[simp] theorem zAL {b w:Bool}{x y:Prop}:Mif (.bool b) w x y↔if b=w then x else y:=by cases b<;>cases w<;>simp[Mif]
@[simp] theorem zAR {w:Bool}{x y:Prop}:Mif undef w x y↔y:=by simp[Mif,undef]
@[simp] theorem zA7 {p:Prop}:Mre [] p↔p:=Iff.rfl
@[simp] theorem zXS {a:Option Value}{b:Value}{l:List (Option Value×Value)}{p:Prop}:Mre ((a,b)::l) p↔a=some b/\Mre l p:=Iff.rfl
@[simp] theorem zHm {a:Addr}:nck (.pointer (some a))=some (.pointer (some a)):=rfl
@[simp] theorem zBk {off b o:Nat}:fld off (.pointer (some ⟨b,o,none⟩))=some (.pointer (some ⟨b,o+off,none⟩)):=rfl
@[simp] theorem zAt {c:Bool}{a b:Value}:zBy (.bool c) a b=some (if c=true then a else b):=rfl
theorem zAk1:type_of% (And.intro @Bool.not_true (And.intro @Bool.not_false (And.intro @zAL (And.intro @zAR (And.intro @zAt (And.intro @zAl (And.intro @zAa (And.intro @if_true (And.intro @if_false (And.intro @Bool.false_eq_true (And.intro @Bool.true_eq_false (And.intro @decide_true @decide_false)))))))))))):=And.intro @Bool.not_true (And.intro @Bool.not_false (And.intro @zAL (And.intro @zAR (And.intro @zAt (And.intro @zAl (And.intro @zAa (And.intro @if_true (And.intro @if_false (And.intro @Bool.false_eq_true (And.intro @Bool.true_eq_false (And.intro @decide_true @decide_false)))))))))))
@[simp] theorem zJZ {a:Option Addr}{n c:Nat}:zDA (.slice a n c)=some (.int .i64 n):=rfl
@[simp] theorem zWM {s:ByteArray}:zLd (.string s)=some (.int .i64 s.size):=rfl
@[simp] theorem zA5 {b:Bool}:unV .not (.bool b)=some (.bool (!b)):=rfl
@[simp] theorem zF9 {k k':IntKind}{n:Int}:cvI k (.int k' n)=some (.int k (k.wrap n)):=rfl
@[simp] theorem zQ8 {i:Nat}{l:Array Value}:zE3 i (.tuple l)=l[i]?:=rfl
@[simp] theorem zAG {q:EqK}{op:BinOp}{k:IntKind}{a b:Int}:zAB q op (.int k a) (.int k b)=zC9 op k a b:=by simp[zAB]
@[simp] theorem zGw {q:EqK}{op:BinOp}{a b:ByteArray}:zAB q op (.string a) (.string b)=zR1 op a b:=by simp[zAB]
@[simp] theorem zR5 {q:EqK}{k k':IntKind}{a b:Int}:zAB q .shl (.int k a) (.int k' b)=zC9 .shl k a b:=by unfold zAB;split<;>simp_all
@[simp] theorem zXT {q:EqK}{k k':IntKind}{a b:Int}:zAB q .shr (.int k a) (.int k' b)=zC9 .shr k a b:=by unfold zAB;split<;>simp_all
@[simp] theorem zAfP {a b:Option Addr}:zAB .ptr .eql (.pointer a) (.pointer b)=(eqV .ptr (.pointer a) (.pointer b)).map .bool:=rfl
@[simp] theorem zAfQ {a b:Option Addr}:zAB .ptr .neq (.pointer a) (.pointer b)=(eqV .ptr (.pointer a) (.pointer b)).map λb => .bool (!b):=rfl
@[simp] theorem zAer {a:Addr}:eqV .ptr (.pointer (some a)) (.pointer none)=some false:=rfl
@[simp] theorem zAes {b:Option Addr}:eqV .ptr (.pointer none) (.pointer b)=some b.isNone:=rfl
@[simp] theorem zSA {a b:Option Addr}{n c m d:Nat}:zAB .slc .eql (.slice a n c) (.slice b m d)=(eqV .slc (.slice a n c) (.slice b m d)).map .bool:=rfl
@[simp] theorem zVC {a:Addr}{n c m d:Nat}:eqV .slc (.slice (some a) n c) (.slice none m d)=some false:=rfl
@[simp] theorem zVD {b:Option Addr}{n c m d:Nat}:eqV .slc (.slice none n c) (.slice b m d)=some b.isNone:=rfl
@[simp] theorem zAhu {agg:Bool}{n off:Nat}{cs:Array Value}:zUe agg n off (.agg cs)=if agg=true then some (.agg (cs.extract off (off+n))) else cs[off]?:=rfl
@[simp] theorem zB7 {cs:Array Value}:Value.cells (.agg cs)=cs:=rfl
end
theorem zAM {P:Program}{f:FuncId}{args:List Value}{H:zAw}{R k:zAn}(h:zAA P f args H R)(hk:∀ v h,R v h->k v h):zA3 P f args H k:=zAA.mono h hk
theorem zB8 {n:Int}(h1 : -9223372036854775808<=n)(h2:n<=9223372036854775807):IntKind.i64.wrap n=n:=by
 simp only[IntKind.wrap,IntKind.bits,IntKind.signed]
 simp only[zA9]
 split
 ·rename_i h;simp at h;omega
 ·rename_i h;simp at h;omega
theorem zAaD {n:Int}(h1:0<=n)(h2:n<=255):IntKind.u8.wrap n=n:=by
 simp only[IntKind.wrap,IntKind.bits,IntKind.signed]
 simp;omega
def Keep (S:zAY)(H H':zAw):Prop:=H.size<=H'.size/\∀ k,k<H.size->¬ S k->H'[k]? = H[k]?
theorem Keep.refl {S:zAY}{H:zAw}:Keep S H H:=⟨zAi _,λ_ _ _=>rfl⟩
theorem Keep.trans {S:zAY}{a b c:zAw}(h:Keep S a b)(k:Keep S b c):Keep S a c :=
 ⟨zBm h.1 k.1,λi hi hs=>(k.2 i (zAW hi h.1) hs).trans (h.2 i hi hs)⟩
theorem Keep.mono {S S':zAY}{a b:zAw}(h:Keep S a b)(hs:∀ k,k<a.size->S k->S' k):Keep S' a b:=⟨h.1,λi hi hn=>h.2 i hi λhk=>hn (hs i hi hk)⟩
theorem Keep.push {S:zAY}{H:zAw}{o:Obj}:Keep S H (H.push o):=⟨by simp,λi hi _=>by rw[zB4,if_neg (by omega)]⟩
theorem Keep.set {S:zAY}{H:zAw}{b:Nat}{o:Obj}(h:S b):Keep S H (H.setIfInBounds b o):=⟨by simp,λi hi hn=>by
 rw[zAD,if_neg (by rintro rfl;exact hn h)]⟩
theorem lt_of {H:zAw}{b:Nat}{x:Obj}(h:H[b]? = some x):b<H.size:=(zA8.1 h).1
theorem Keep.at {S:zAY}{H H':zAw}(h:Keep S H H'){b:Nat}{x:Obj}(hb:H[b]? = some x)(hs:¬ S b):H'[b]? = some x:=by rw[h.2 b (lt_of hb) hs];exact hb
theorem zBh {H:zAw}{b:Nat}{x y:Obj}(h:H[b]? = some x):(H.setIfInBounds b y)[b]? = some y:=by simp[lt_of h]
theorem zAaE {H:zAw}{b c:Nat}{x y:Obj}(h:H[c]? = some x)(hn:b≠c):(H.setIfInBounds b y)[c]? = some x:=by rw[zAD,if_neg hn];exact h
theorem zR6 {H:zAw}{b:Nat}{x y:Obj}(h:H[b]? = some x):(H.push y)[b]? = some x:=by rw[zB4,if_neg (Nat.ne_of_lt (lt_of h))];exact h
@[simp] theorem zCh {H:zAw}{y:Obj}:(H.push y)[H.size]? = some y:=by simp
def blk:Value->Option Nat
 | .slice (some a) (_+1) _=>some a.block
 | .pointer (some a)=>some a.block
 | _=>none
theorem zH2 {a:Addr}{n c b:Nat}(h:blk (.slice (some a) n c)=some b):a.block=b/\n≠0:=by
 cases n with
 | zero=>cases h
 | succ n=>cases h;exact⟨rfl,by omega⟩
theorem zAet {a:Addr}{n c:Nat}(h:n≠0):blk (.slice (some a) n c)=some a.block:=by
 cases n with
 | zero=>exact absurd rfl h
 | succ n=>rfl
theorem zYZ {S:zAY}{H H':zAw}(h:Keep S H H'){n:Nat}{x:Value}{r:Nat×Array Value}(hl:zEi n H x=some r)(hs:∀ b,blk x=some b->¬ S b):zEi n H' x=some r:=by
 unfold zEi at hl ⊢
 split at hl
 ·split at hl
  ·rename_i h0;rw[if_pos h0];exact hl
  ·rename_i h0;rw[if_neg h0]
   split at hl
   ·split at hl
    ·rename_i hb;simp only[h.at hb (hs _ (zAet h0))];exact hl
    ·cases hl
   ·cases hl
 ·exact hl
 ·cases hl
def zBG (l:List UInt8):List Value:=l.map λb => .int .u8 b.toNat
@[simp] theorem zQl {l:List UInt8}:(zBG l).length=l.length:=by simp[zBG]
@[simp] theorem zI9 {l m:List UInt8}:zBG (l++m)=zBG l++zBG m:=by simp[zBG]
@[simp] theorem zAhc:zBG []=[]:=rfl
@[simp] theorem zPM {b:UInt8}{l:List UInt8}:zBG (b::l) = .int .u8 b.toNat::zBG l:=rfl
theorem zSB {l:List UInt8}{n:Nat}:zBG (l.take n)=(zBG l).take n:=by simp[zBG,zCs]
theorem zSC {l:List UInt8}{n:Nat}:zBG (l.drop n)=(zBG l).drop n:=by simp[zBG,List.map_drop]
theorem bcells_one {l:List UInt8}:∀ v∈zBG l,v.oneCell'=true:=by
 intro v hv
 obtain⟨b,_,rfl⟩:=zAo.1 hv
 rfl
theorem zIE {l:List UInt8}:(zBG l).toArray.all (·.oneCell')=true:=by
 rw[zBq];intro v hv;exact bcells_one v (by simpa using hv)
theorem zKk {l:List UInt8}:bytesOf (zBG l)=some l:=by
 induction l with
 | nil=>rfl
 | cons b l ih =>
  show(bytesOf (zBG l)).map (UInt8.ofNat ((b.toNat:Int)).toNat :: ·)=some (b::l)
  rw[ih];simp
theorem zY0 {l m:List UInt8}(h:zBG l=zBG m):l=m:=by
 have:=congrArg bytesOf h
 rw[zKk,zKk]at this
 exact zAF this
def Bs (H:zAw)(v:Value)(l:List UInt8):Prop:=zEi 1 H v=some (l.length,(zBG l).toArray)
theorem Bs.keep {S:zAY}{H H':zAw}{v:Value}{l:List UInt8}(h:Bs H v l)(k:Keep S H H')(hs:∀ b,blk v=some b->¬ S b):Bs H' v l:=zYZ k h hs
theorem zRE {H:zAw}{a:Option Addr}{c:Nat}:Bs H (.slice a 0 c) []:=by unfold Bs zEi;simp
theorem Bs.shape {H:zAw}{v:Value}{l:List UInt8}(h:Bs H v l):(∃ a c,v = .slice a 0 c/\l=[])\/(∃ b o c cs T f,v = .slice (some ⟨b,o,none⟩) l.length c/\H[b]? = some (.cells cs T f)/\o+l.length<=cs.size/\(cs.toList.drop o).take l.length=zBG l)\/∃ s,v = .string s/\l=s.data.toList:=by
 unfold Bs zEi at h
 split at h
 ·rename_i a n c
  split at h
  ·rename_i hn
   simp only[zAk,Prod.mk.injEq]at h
   have:l=[]:=zBg.1 h.1.symm
   subst this hn
   exact .inl ⟨a,c,rfl,rfl⟩
  ·split at h
   ·rename_i b o
    split at h
    ·rename_i cs T f hb
     split at h
     ·rename_i hle
      simp only[zAk,Prod.mk.injEq]at h
      obtain⟨rfl,h⟩:=h
      refine .inr (.inl ⟨b,o,c,cs,T,f,rfl,hb,by simpa using hle,?_⟩)
      have:=congrArg Array.toList h
      simpa using this
     ·cases h
    ·cases h
   ·cases h
 ·rename_i s
  simp only[if_true,zAk,Prod.mk.injEq]at h
  refine .inr (.inr ⟨s,rfl,?_⟩)
  apply zY0
  have:=congrArg Array.toList h.2
  simp at this
  rw[<- this]
  simp[zBG]
 ·cases h
theorem Bs.mk {H:zAw}{b o n c:Nat}{cs:Array Value}{T:TypeId}{f:Nat×Nat}{l:List UInt8}(hb:H[b]? = some (.cells cs T f))(hn:n=l.length)(hle:o+n<=cs.size)(hl:(cs.toList.drop o).take n=zBG l):Bs H (.slice (some ⟨b,o,none⟩) n c) l:=by
 subst hn
 unfold Bs zEi
 simp only[hb,zCA]
 split
 ·rename_i h0
  have:l=[]:=zBg.1 h0
  subst this;rfl
 ·congr 2
  apply Array.ext'
  simpa using hl
theorem Bs.b2s {H:zAw}{v:Value}{l:List UInt8}(h:Bs H v l)(hv:∀ s,v ≠ .string s):b2s H v=some (.string ⟨l.toArray⟩):=by
 unfold Go.X.b2s
 have h':zEi 1 H v=_:=h
 rcases h.shape with ⟨a,c,rfl,rfl⟩|⟨b,o,c,cs,T,f,rfl,_⟩|⟨s,rfl,_⟩
 ·simp only[h',zAT,zKk,zAO]
 ·simp only[h',zAT,zKk,zAO]
 ·exact absurd rfl (hv s)
abbrev Ptr (b o:Nat):Value := .pointer (some ⟨b,o,none⟩)
section at_
variable {H:zAw} {b:Nat} {cs:Array Value} {T:TypeId} {f:Nat×Nat}
theorem zRF (h:H[b]? = some (.cells cs T f))(o:Nat):ld1 H (Ptr b o)=cs[o]?:=by simp only[ld1,h]
theorem zAeu (h:H[b]? = some (.cells cs T f))(n o:Nat)(ho:o+n<=cs.size):ldN n H (Ptr b o)=some (.agg (cs.extract o (o+n))):=by simp only[ldN,h];rw[if_pos ho]
theorem zKQ {o n:Nat}:zTw (0,0) o n=true:=by simp[zTw]
theorem zXU (h:H[b]? = some (.cells cs T (0,0)))(o:Nat)(v:Value)(ho:o<cs.size)(hv:v.oneCell'=true):st1 H (Ptr b o) v=some (H.setIfInBounds b (.cells (cs.setIfInBounds o v) T (0,0))):=by
 simp only[st1,h];rw[if_pos ⟨ho,zKQ,hv⟩]
theorem zPt (h:H[b]? = some (.cells cs T f))(o:Nat)(vs:Array Value)(ht:zTw f o vs.size=true)(ho:o+vs.size<=cs.size)(hv:vs.all (·.oneCell')=true):stA H b o vs=some (H.setIfInBounds b (.cells (spl cs o vs) T f)):=by
 simp only[stA,h];rw[if_pos ⟨ho,ht,hv⟩]
theorem zAhv (h:H[b]? = some (.cells cs T (0,0)))(n o:Nat)(vs:Array Value)(hn:vs.size=n)(ho:o+n<=cs.size)(hv:vs.all (·.oneCell')=true):stN n H (Ptr b o) (.agg vs)=some (H.setIfInBounds b (.cells (spl cs o vs) T (0,0))):=by
 simp only[stN];rw[if_pos hn];exact zPt h o vs zKQ (by omega) hv
end at_
theorem zKl {body:(zAn)->zAn}{v:Value}{H:zAw}(I:zAn)(μ:Value->zAw->Nat)(h0:I v H)
  (hs:∀ v h,I v h->∀ k:zAn,(∀ v' h',I v' h'->μ v' h'<μ v h->k v' h')->body k v h):L1 body v H:=by
 refine⟨λvs h=>∃ v,vs=[v]/\I v h,λvs h=>match vs with|[v]=>μ v h|_=>0,⟨v,rfl,h0⟩,?_⟩
 rintro vs h _ ⟨v,rfl,hI⟩
 exact hs v h hI _ λv' h' hI' hm=>⟨⟨v',rfl,hI'⟩,hm⟩
theorem zVE {body:(Value->zAn)->Value->zAn}{v u:Value}{H:zAw}(I:Value->zAn)(μ:Value->Value->zAw->Nat)(h0:I v u H)
  (hs:∀ v u h,I v u h->∀ k:Value->zAn,(∀ v' u' h',I v' u' h'->μ v' u' h'<μ v u h->k v' u' h')->body k v u h):L2 body v u H:=by
 refine⟨λvs h=>∃ v u,vs=[v,u]/\I v u h,λvs h=>match vs with|[v,u]=>μ v u h|_=>0,⟨v,u,rfl,h0⟩,?_⟩
 rintro vs h _ ⟨v,u,rfl,hI⟩
 exact hs v u h hI _ λv' u' h' hI' hm=>⟨⟨v',u',rfl,hI'⟩,hm⟩
theorem zAks {body:(Value->Value->zAn)->Value->Value->zAn}{v u x:Value}{H:zAw}(I:Value->Value->zAn)(μ:Value->Value->Value->zAw->Nat)(h0:I v u x H)
  (hs:∀ v u x h,I v u x h->∀ k:Value->Value->zAn,(∀ v' u' x' h',I v' u' x' h'->μ v' u' x' h'<μ v u x h->k v' u' x' h')->body k v u x h):L3 body v u x H:=by
 refine⟨λvs h=>∃ v u x,vs=[v,u,x]/\I v u x h,λvs h=>match vs with|[v,u,x]=>μ v u x h|_=>0,⟨v,u,x,rfl,h0⟩,?_⟩
 rintro vs h _ ⟨v,u,x,rfl,hI⟩
 exact hs v u x h hI _ λv' u' x' h' hI' hm=>⟨⟨v',u',x',rfl,hI'⟩,hm⟩
abbrev zAkt (x:Addr):Prop:=x.block=x.block
structure Sl (P:zAY)(H:zAw)(v:Value)(l:List UInt8):Prop where
 bs:Bs H v l
 sl:∃ a c,v = .slice a l.length c/\l.length<=c/\∀ x,a=some x->zAkt x
 own:∀ b,blk v=some b->P b
theorem Sl.keep {P S:zAY}{H H':zAw}{v:Value}{l:List UInt8}(h:Sl P H v l)(k:Keep S H H')(hs:∀ b,P b->¬ S b):Sl P H' v l:=⟨h.bs.keep k λb hb=>hs b (h.own b hb),h.sl,h.own⟩
theorem Sl.mono {P Q:zAY}{H:zAw}{v:Value}{l:List UInt8}(h:Sl P H v l)(k:∀ b,P b->Q b):Sl Q H v l:=⟨h.bs,h.sl,λb hb=>k b (h.own b hb)⟩
theorem Sl.nil {P:zAY}{H:zAw}{c:Nat}:Sl P H (.slice none 0 c) []:=⟨zRE,⟨none,c,rfl,zAz _,λx h=>by cases h⟩,λb hb=>by cases hb⟩
theorem Sl.len {P:zAY}{H:zAw}{v:Value}{l:List UInt8}(h:Sl P H v l):zDA v=some (.int .i64 l.length):=by
 obtain⟨a,c,rfl,_⟩:=h.sl;rfl
theorem Sl.one {P:zAY}{H:zAw}{v:Value}{l:List UInt8}(h:Sl P H v l):v.oneCell'=true:=by
 obtain⟨a,c,rfl,_⟩:=h.sl;rfl
theorem Sl.cases {P:zAY}{H:zAw}{v:Value}{l:List UInt8}(h:Sl P H v l):(∃ a c,v = .slice a 0 c/\l=[]/\∀ x,a=some x->zAkt x)\/∃ b o c cs T f,v = .slice (some ⟨b,o,none⟩) l.length c/\P b/\l.length<=c/\H[b]? = some (.cells cs T f)/\o+l.length<=cs.size/\(cs.toList.drop o).take l.length=zBG l:=by
 obtain⟨a,c,hv,hc,hs⟩:=h.sl
 rcases h.bs.shape with ⟨a',c',rfl,rfl⟩|⟨b,o,c',cs,T,f,rfl,hb,hle,hl⟩|⟨s,rfl,_⟩
 ·cases hv
  exact .inl ⟨a,c,rfl,rfl,hs⟩
 ·cases hv
  by_cases h0:l=[]
  ·subst h0;exact .inl ⟨_,c,rfl,rfl,hs⟩
  ·exact .inr ⟨b,o,c,cs,T,f,rfl,h.own b (zAet λe=>h0 (zBg.1 e)),hc,hb,hle,hl⟩
 ·cases hv
theorem Sl.b2s {P:zAY}{H:zAw}{v:Value}{l:List UInt8}(h:Sl P H v l):b2s H v=some (.string ⟨l.toArray⟩):=h.bs.b2s λs e=>by
 obtain⟨a,c,rfl,_⟩:=h.sl;cases e
theorem Sl.head {P:zAY}{H:zAw}{v:Value}{l:List UInt8}(h:Sl P H v l){n:Nat}(hn:n<=l.length):∃ u,slS 1 v none (some (.int .i64 n)) (some (.int .i64 n))=some u/\Sl P H u (l.take n):=by
 rcases h.cases with ⟨a,c,rfl,rfl,ha⟩|⟨b,o,c,cs,T,f,rfl,hp,hc,hb,hle,hl⟩
 ·have:n=0:=by simpa using hn
  subst this
  have hb:zMj 0 c none (some (.int .i64 0)) (some (.int .i64 0))=some (0,0,0):=by simp[zMj,bnd]
  rcases a with _|⟨b,o,_|sp⟩
  ·exact⟨.slice none 0 0,by simp[slS,hb],by simpa using Sl.nil⟩
  rotate_left
  ·exact⟨.slice (some ⟨b,o,some sp⟩) 0 0,by simp[slS,hb],by simpa using zRE,⟨some ⟨b,o,some sp⟩,0,rfl,zAi _,ha⟩,h.own⟩
  ·exact⟨.slice (some ⟨b,o,none⟩) 0 0,by simp[slS,hb],by simpa using zRE,⟨some ⟨b,o,none⟩,0,rfl,zAi _,ha⟩,h.own⟩
 ·have h1:(n:Int)<=c:=by omega
  have hb':zMj l.length c none (some (.int .i64 n)) (some (.int .i64 n))=some (0,n,n):=by simp[zMj,bnd,h1]
  refine⟨.slice (some ⟨b,o,none⟩) n n,?_,⟨Bs.mk hb ?_ ?_ ?_,⟨some ⟨b,o,none⟩,n,?_,?_,λx hx=>by cases hx;rfl⟩,λb' hb'=>?_⟩⟩
  ·simp[slS,hb']
  ·simp[hn]
  ·omega
  ·rw[zSB,<- hl,zC0,zBD hn]
  ·simp[hn]
  ·simp[hn]
  ·obtain⟨rfl,_⟩:=zH2 hb';exact hp
theorem Sl.tail {P:zAY}{H:zAw}{v:Value}{l:List UInt8}(h:Sl P H v l){n:Nat}(hn:n<=l.length):∃ u,slS 1 v (some (.int .i64 n)) none none=some u/\Sl P H u (l.drop n):=by
 rcases h.cases with ⟨a,c,rfl,rfl,ha⟩|⟨b,o,c,cs,T,f,rfl,hp,hc,hb,hle,hl⟩
 ·have:n=0:=by simpa using hn
  subst this
  have hb:zMj 0 c (some (.int .i64 0)) none none=some (0,0,c):=by simp[zMj,bnd]
  rcases a with _|⟨b,o,_|sp⟩
  ·exact⟨.slice none 0 c,by simp[slS,hb],by simpa using Sl.nil⟩
  rotate_left
  ·exact⟨.slice (some ⟨b,o,some sp⟩) 0 c,by simp[slS,hb],by simpa using zRE,⟨some ⟨b,o,some sp⟩,c,rfl,zAz _,ha⟩,h.own⟩
  ·exact⟨.slice (some ⟨b,o,none⟩) 0 c,by simp[slS,hb],by simpa using zRE,⟨some ⟨b,o,none⟩,c,rfl,zAz _,ha⟩,h.own⟩
 ·have h1:(n:Int)<=l.length:=by omega
  have hb':zMj l.length c (some (.int .i64 n)) none none=some (n,l.length,c):=by simp[zMj,bnd,hc,hn]
  refine⟨.slice (some ⟨b,if c=n then o else o+n*1,none⟩) (l.length-n) (c-n),?_,⟨Bs.mk hb (by simp) ?_ ?_,⟨some ⟨b,if c=n then o else o+n*1,none⟩,c-n,by simp,by simp;omega,λx hx=>by cases hx;rfl⟩,λb' hb'=>by obtain⟨rfl,_⟩:=zH2 hb';exact hp⟩⟩
  ·simp[slS,hb']
  ·split<;>omega
  ·rw[zSC,<- hl,zCl]
   split
   ·have:l.length-n=0:=by omega
    simp[this]
   ·simp[zCz]
theorem Sl.at {P:zAY}{H:zAw}{v:Value}{l:List UInt8}(h:Sl P H v l){i:Nat}{x:UInt8}(hi:l[i]? = some x):∃ u,ixS 1 v (.int .i64 i)=some u/\ld1 H u=some (.int .u8 x.toNat)/\∀ b,blk u=some b->P b:=by
 obtain⟨hlt,rfl⟩:=zAP.1 hi
 rcases h.cases with ⟨a,c,rfl,rfl,_⟩|⟨b,o,c,cs,T,f,rfl,hp,hc,hb,hle,hl⟩
 ·simp at hlt
 ·refine⟨Ptr b (o+i*1),?_,?_,λb' hb'=>by cases hb';exact hp⟩
  ·simp only[ixS];rw[if_pos ⟨by omega,by omega⟩];rfl
  ·rw[zRF hb]
   have:=congrArg (·[i]?) hl
   simp only[zCd,zCW]at this
   rw[if_pos hlt]at this
   simp only[zCA,zBG,zAq,hi,zAO]at this ⊢
   rw[<- this];simp
def Buf (F:zAY)(H:zAw)(v:Value)(l:List UInt8):Prop :=
 (v = .slice none 0 0/\l=[])\/∃ b o c cs T f,v = .slice (some ⟨b,o,none⟩) l.length c/\F b/\l.length<=c/\H[b]? = some (.cells cs T f)/\o+c<=cs.size/\(∀ i n,o<=i->i+n<=o+c->zTw f i n=true)/\(cs.toList.drop o).take l.length=zBG l
theorem Buf.sl {F:zAY}{H:zAw}{v:Value}{l:List UInt8}(h:Buf F H v l):Sl F H v l:=by
 rcases h with ⟨rfl,rfl⟩|⟨b,o,c,cs,T,f,rfl,hf,hc,hb,hle,ht,hl⟩
 ·exact Sl.nil
 ·exact⟨Bs.mk hb rfl (by omega) hl,⟨_,c,rfl,hc,λx hx=>by cases hx;rfl⟩,λb' hb'=>by obtain⟨rfl,_⟩:=zH2 hb';exact hf⟩
theorem Buf.keep {F S:zAY}{H H':zAw}{v:Value}{l:List UInt8}(h:Buf F H v l)(k:Keep S H H')(hs:∀ b,F b->¬ S b):Buf F H' v l:=by
 rcases h with h|⟨b,o,c,cs,T,f,rfl,hf,hc,hb,hle,ht,hl⟩
 ·exact .inl h
 ·exact .inr ⟨b,o,c,cs,T,f,rfl,hf,hc,k.at hb (hs b hf),hle,ht,hl⟩
theorem zMp {c vs:Array Value}{o:Nat}(h:o+vs.size<=c.size):(spl c o vs).size=c.size:=by simp[spl];omega
theorem Buf.app {F:zAY}{H:zAw}{s x:Value}{l m:List UInt8}{T:TypeId}{k:zAn}(h:Buf F H s l)(hx:Bs H x m)(hlen:l.length+m.length<=140737488355328)(hf:F H.size)
  (hk:∀ v H',Buf F H' v (l++m)->Keep F H H'->k v H'):zKf T 1 1 H s x k:=by
 rcases h with ⟨rfl,rfl⟩|⟨b,o,c,cs,T',f,rfl,hb',hc,hb,hle,ht,hl⟩
 ·refine⟨none,0,0,m.length,(zBG m).toArray,rfl,hx,zIE,λh0=>?_,λh0=>⟨by simpa using hlen,Nat.one_pos,#[],rfl,λcap rest h1 h2 h3=>?_⟩⟩
  ·have:m=[]:=zBg.1 (by omega)
   subst this
   exact hk _ _ (.inl ⟨rfl,rfl⟩) Keep.refl
  ·refine hk _ _ (.inr ⟨H.size,0,cap,_,T,(0,0),by simp,hf,by simpa using h1,zCh,?_,λ_ _ _ _=>zKQ,?_⟩) Keep.push
   ·simp at h3 ⊢;omega
   ·simp
 ·refine⟨some ⟨b,o,none⟩,l.length,c,m.length,(zBG m).toArray,rfl,hx,zIE,λh0=>?_,λh0=>⟨by simpa using hlen,Nat.one_pos,(zBG l).toArray,?_,λcap rest h1 h2 h3=>?_⟩⟩
  ·refine⟨_,zPt hb _ _ (ht _ _ (by omega) (by simp;omega)) (by simp;omega) zIE,hk _ _ (.inr ⟨b,o,c,_,T',f,by simp,hb',by simpa using h0,zBh hb,?_,ht,?_⟩) (Keep.set hb')⟩
   ·rw[zMp (by simp;omega)];exact hle
   ·have ho:o+l.length<=cs.size:=by omega
    show((List.take (o+l.length*1) cs.toList++zBG m++_).drop o).take (l++m).length=_
    rw[zCA,zBi,zB2 (by simp;omega),zCl,zCB,hl]
    rw[<- zBi,zBc (by simp),<- zI9,zAs (by simp)]
  ·exact Bs.mk hb rfl (by omega) hl
  ·refine hk _ _ (.inr ⟨H.size,0,cap,_,T,(0,0),by simp,hf,by simpa using h1,zCh,?_,λ_ _ _ _=>zKQ,?_⟩) Keep.push
   ·simp at h3 ⊢;omega
   ·show(((zBG l).toArray++(zBG m).toArray++rest).toList.drop 0).take (l++m).length=_
    simp only[Array.toList_append];rw[zCb,zBc (by simp),<- zI9,zAs (by simp)]
theorem ldN_mid {H:zAw}{b n o:Nat}{A B C:List Value}{T:TypeId}{f:Nat×Nat}(h:H[b]? = some (.cells (A++B++C).toArray T f))(ho:o=A.length)(hn:n=B.length):ldN n H (Ptr b o)=some (.agg B.toArray):=by
 subst ho hn
 rw[zAeu h _ _ (by simp)]
 congr 2
 apply Array.ext'
 simp[zBc]
theorem zOA {H:zAw}{b n o:Nat}{A B C B':List Value}{T:TypeId}(h:H[b]? = some (.cells (A++B++C).toArray T (0,0)))(ho:o=A.length)(hn:n=B.length)(hn':B'.length=n)(hv:B'.toArray.all (·.oneCell')=true):stN n H (Ptr b o) (.agg B'.toArray)=some (H.setIfInBounds b (.cells (A++B'++C).toArray T (0,0))):=by
 subst ho hn
 rw[zAhv h _ _ _ (by simpa using hn') (by simp) hv]
 congr 3
 unfold spl
 congr 1
 simp[hn',List.drop_append]
def bv (l:List UInt8):Value := .agg (zBG l).toArray
@[simp] theorem zAi8 {l:List UInt8}:(bv l).cells=(zBG l).toArray:=rfl
theorem zQm {H:zAw}{b n:Nat}{l:List UInt8}{T:TypeId}{f:Nat×Nat}(h:H[b]? = some (.cells (zBG l).toArray T f))(hn:l.length=n):ldN n H (Ptr b 0)=some (bv l) :=
 ldN_mid (A:=[]) (B:=zBG l) (C:=[]) (by simpa using h) rfl (by simp[hn])
theorem zSD {H:zAw}{b n:Nat}{l m:List UInt8}{T:TypeId}(h:H[b]? = some (.cells (zBG l).toArray T (0,0)))(hn:l.length=n)(hm:m.length=n):stN n H (Ptr b 0) (bv m)=some (H.setIfInBounds b (.cells (zBG m).toArray T (0,0))):=by
 have:=zOA (b:=b) (n:=n) (o:=0) (A:=[]) (B:=zBG l) (C:=[]) (B':=zBG m) (T:=T) (by simpa using h) rfl (by simp[hn]) (by simp[hm]) zIE
 simpa [bv] using this
theorem zY1 {H:zAw}{q c:Nat}{z m:List UInt8}{x:Value}{T:TypeId}{k:zAn}(hq:H[q]? = some (.cells (zBG z).toArray T (0,0)))(hx:Bs H x m)(hm:m.length<=z.length)
  (hk:k (.int .i64 m.length) (H.setIfInBounds q (.cells (zBG (m++z.drop m.length)).toArray T (0,0)))):zPF 1 H (.slice (some ⟨q,0,none⟩) z.length c) x k:=by
 have e1:Nat.min m.length z.length=m.length:=zBD hm
 have e3:(zBG m).toArray.extract 0 (m.length*1)=(zBG m).toArray:=by
  have:m.length*1=(zBG m).toArray.size:=by simp
  rw[this,Array.extract_size]
 have e2:spl (zBG z).toArray 0 (zBG m).toArray=(zBG (m++z.drop m.length)).toArray:=by
  simp[spl,zSC]
 refine⟨m.length,(zBG m).toArray,some ⟨q,0,none⟩,z.length,c,hx,rfl,?_⟩
 simp only[e1,e3]
 rw[zPt hq 0 _ zKQ (by simpa using hm) zIE,e2,zA0]
 exact hk
def zMN (P:Program)(T:TypeId):Option (List (Nat×Nat)×Array Value) :=
 match P.underlying T with
 | some (.struct fs)=>match fs.toList.mapM (λf=>(P.info? f.type).map λi=>(f.offset,i.size)) with
  | some places=>(zBF P T).map λz=>(places,z)
  | none=>none
 | _=>none
theorem zJa {P:Program}{T:TypeId}{pl:List (Nat×Nat)}{z:Array Value}{parts:List (Nat×Value)}(h:zMN P T=some (pl,z)):zCP P T parts=(zPG (pl.toArray[·]?) z parts).map .agg:=by
 unfold zMN at h
 unfold zCP
 split at h
 ·rename_i fs hfs
  rw[hfs]
  simp only
  split at h
  ·rename_i places hp
   rw[hp]
   cases hz:zBF P T with
   | none=>rw[hz]at h;cases h
   | some z'=>rw[hz]at h;cases h;rfl
  ·cases h
 ·cases h
theorem zVF {place:Nat->Option (Nat×Nat)}{c:Array Value}:zPG place c []=some c:=rfl
theorem zNb {place:Nat->Option (Nat×Nat)}{c:Array Value}{i:Nat}{v:Value}{r:List (Nat×Value)}{off n:Nat}(hp:place i=some (off,n))(hv:v.cells.size=n)(hc:off+n<=c.size):zPG place c ((i,v)::r)=zPG place (spl c off v.cells) r:=by
 simp only[zPG,hp];rw[if_pos ⟨hv,hc⟩]
theorem zSE {q:EqK}{a b:Array Value}:zAB q .eql (.agg a) (.agg b)=(eqV q (.agg a) (.agg b)).map .bool:=by cases q<;>rfl
theorem zNH {q:EqK}{a b:Array Value}:zAB q .neq (.agg a) (.agg b)=(eqV q (.agg a) (.agg b)).map λb => .bool (!b):=by cases q<;>rfl
theorem zQn {l m:List UInt8}(h:l.length=m.length):zCG (List.replicate l.length 0) (zBG l) (zBG m)=some (decide (l=m)):=by
 induction l generalizing m with
 | nil=>cases m with
  | nil=>rfl
  | cons b m=>cases h
 | cons a l ih=>cases m with
  | nil=>cases h
  | cons b m =>
   have e:zM5 0 (.int .u8 a.toNat) (.int .u8 b.toNat)=some (decide (a=b)):=by
    simp only[zM5,if_true]
    congr 1
    rw[zA1,beq_iff_eq,decide_eq_true_eq]
    constructor
    ·intro h;apply UInt8.toNat.inj;omega
    ·rintro rfl;rfl
   simp only[zAZ,List.replicate_succ,zPM,zCG,e,ih (by simpa using h)]
   congr 1
   simp[zA1]
def Pt (H:zAw)(b o:Nat)(cs:List Value):Prop :=
 ∃ c T f,H[b]? = some (.cells c T f)/\o+cs.length<=c.size/\(c.toList.drop o).take cs.length=cs
theorem Pt.lt {H:zAw}{b o:Nat}{cs:List Value}(h:Pt H b o cs):b<H.size:=by obtain⟨c,T,f,hb,_⟩:=h;exact lt_of hb
theorem Pt.keep {S:zAY}{H H':zAw}{b o:Nat}{cs:List Value}(h:Pt H b o cs)(k:Keep S H H')(hs:¬ S b):Pt H' b o cs:=by
 obtain⟨c,T,f,hb,h1,h2⟩:=h;exact⟨c,T,f,k.at hb hs,h1,h2⟩
theorem Pt.of {H:zAw}{b:Nat}{cs:List Value}{T:TypeId}{f:Nat×Nat}(h:H[b]? = some (.cells cs.toArray T f)):Pt H b 0 cs:=⟨_,T,f,h,by simp,by simp⟩
theorem Pt.cell {H:zAw}{b o i:Nat}{cs:List Value}{v:Value}(h:Pt H b o cs)(hi:cs[i]? = some v):ld1 H (Ptr b (o+i))=some v:=by
 obtain⟨c,T,f,hb,h1,h2⟩:=h
 have hlt:=(zAP.1 hi).1
 rw[zRF hb]
 rw[<- h2,zCd,if_pos hlt,zCW]at hi
 rw[<- hi];simp
theorem Pt.cell0 {H:zAw}{b o:Nat}{cs:List Value}{v:Value}(h:Pt H b o cs)(hi:cs[0]? = some v):ld1 H (Ptr b o)=some v:=h.cell (i:=0) hi
theorem Pt.sub {H:zAw}{b o i n:Nat}{cs:List Value}(h:Pt H b o cs)(hi:i+n<=cs.length):Pt H b (o+i) ((cs.drop i).take n):=by
 obtain⟨c,T,f,hb,h1,h2⟩:=h
 have hl:((cs.drop i).take n).length=n:=by simp;omega
 refine⟨c,T,f,hb,by rw[hl];omega,?_⟩
 rw[hl,<- zCz]
 rw[<- h2,zCl,zC0,zBD (by omega)]
theorem Pt.mid {H:zAw}{b o o':Nat}{A B C:List Value}(h:Pt H b o (A++B++C))(ho:o'=o+A.length):Pt H b o' B:=by
 subst ho
 have:=h.sub (i:=A.length) (n:=B.length) (by simp)
 simpa [zBi,List.drop_append,List.take_append] using this
theorem Pt.agg {H:zAw}{b o n:Nat}{cs:List Value}(h:Pt H b o cs)(hn:cs.length=n):ldN n H (Ptr b o)=some (.agg cs.toArray):=by
 subst hn
 obtain⟨c,T,f,hb,h1,h2⟩:=h
 rw[zAeu hb _ _ h1]
 congr 2
 apply Array.ext'
 simpa using h2
section
variable {n:Nat} {xs:List (List Value)}
theorem zIm (h:∀ x∈xs,x.length=n):xs.flatten.length=xs.length*n:=by
 induction xs with
 | nil=>simp
 | cons x xs ih =>
  simp only[zBv,zAy,zAZ,ih λy hy=>h y (by simp[hy]),h x (by simp),Nat.succ_mul];omega
theorem zSF (h:∀ x∈xs,x.length=n)(i:Nat):(xs.drop i).flatten=xs.flatten.drop (i*n):=by
 induction i generalizing xs with
 | zero=>simp
 | succ i ih=>cases xs with
  | nil=>simp
  | cons x xs =>
   have hx:=h x (by simp)
   rw[List.drop_succ_cons,ih λy hy=>h y (by simp[hy]),zBv,Nat.succ_mul]
   have e:(x++xs.flatten).drop (i*n+n)=x.drop (i*n+n)++xs.flatten.drop (i*n+n-x.length):=List.drop_append
   rw[e,List.drop_eq_nil_of_le (show x.length<=i*n+n by rw[hx];omega),zAX]
   congr 1;omega
theorem zSG (h:∀ x∈xs,x.length=n)(i:Nat):(xs.take i).flatten=xs.flatten.take (i*n):=by
 induction i generalizing xs with
 | zero=>simp
 | succ i ih=>cases xs with
  | nil=>simp
  | cons x xs =>
   have hx:=h x (by simp)
   rw[zB0,zBv,ih λy hy=>h y (by simp[hy]),zBv,Nat.succ_mul]
   have e:(x++xs.flatten).take (i*n+n)=x.take (i*n+n)++xs.flatten.take (i*n+n-x.length):=List.take_append
   rw[e,zAs (show x.length<=i*n+n by rw[hx];omega)]
   congr 2;omega
theorem zAcZ (h:∀ x∈xs,x.length=n){i:Nat}{x:List Value}(hi:xs[i]? = some x):(xs.flatten.drop (i*n)).take n=x:=by
 rw[<- zSF h]
 obtain⟨hlt,rfl⟩:=zAP.1 hi
 rw[zBL hlt,zBv]
 have hx:=h xs[i] (by simp)
 rw[zBc (by omega),zAs (by omega)]
end
structure SlE (n:Nat)(P:zAY)(H:zAw)(v:Value)(xs:List (List Value)):Prop where
 ex:∃ a c,v = .slice a xs.length c/\xs.length<=c/\(xs=[]\/∃ b o,a=some ⟨b,o,none⟩/\P b/\Pt H b o xs.flatten)
 el:∀ x∈xs,x.length=n
 one:∀ x∈xs,∀ c∈x,c.oneCell'=true
section
variable {n:Nat} {P:zAY} {H:zAw} {v:Value} {xs:List (List Value)}
theorem SlE.nil {a:Option Addr}{c:Nat}:SlE n P H (.slice a 0 c) []:=⟨⟨a,c,rfl,zAz _,.inl rfl⟩,λx h=>(by cases h),λx h=>(by cases h)⟩
theorem SlE.keep {S:zAY}{H':zAw}(h:SlE n P H v xs)(k:Keep S H H')(hs:∀ b,P b->¬ S b):SlE n P H' v xs:=by
 obtain⟨⟨a,c,hv,hc,hx⟩,h2,h3⟩:=h
 refine⟨⟨a,c,hv,hc,hx.imp id ?_⟩,h2,h3⟩
 rintro⟨b,o,rfl,hP,hp⟩
 exact⟨b,o,rfl,hP,hp.keep k (hs _ hP)⟩
theorem SlE.mono {Q:zAY}(h:SlE n P H v xs)(k:∀ b,P b->Q b):SlE n Q H v xs:=by
 obtain⟨⟨a,c,hv,hc,hx⟩,h2,h3⟩:=h
 refine⟨⟨a,c,hv,hc,hx.imp id ?_⟩,h2,h3⟩
 rintro⟨b,o,rfl,hP,hp⟩
 exact⟨b,o,rfl,k _ hP,hp⟩
theorem SlE.len (h:SlE n P H v xs):zDA v=some (.int .i64 xs.length):=by obtain⟨⟨a,c,rfl,_⟩,_⟩:=h;rfl
theorem SlE.oneC (h:SlE n P H v xs):v.oneCell'=true:=by obtain⟨⟨a,c,rfl,_⟩,_⟩:=h;rfl
theorem SlE.elems (h:SlE n P H v xs):zEi n H v=some (xs.length,xs.flatten.toArray):=by
 obtain⟨⟨a,c,rfl,hc,hx⟩,h2,h3⟩:=h
 unfold zEi
 rcases hx with rfl|⟨b,o,rfl,_,c',T,f,hb,h4,h5⟩
 ·simp
 ·have hl:=zIm h2
  by_cases h0:xs.length=0
  ·have:xs=[]:=zBg.1 h0
   subst this;simp
  ·simp only[hb,if_neg h0]
   rw[hl]at h4 h5
   rw[if_pos h4]
   congr 2
   apply Array.ext'
   simpa using h5
theorem SlE.all (h:SlE n P H v xs):xs.flatten.toArray.all (·.oneCell')=true:=by
 rw[zBq];intro c hc
 simp only[List.mem_toArray,List.mem_flatten]at hc
 obtain⟨x,hx,hc⟩:=hc
 exact h.one x hx c hc
theorem SlE.at (h:SlE n P H v xs){i:Nat}{x:List Value}(hi:xs[i]? = some x):∃ b o,(∀ k,ixS n v (.int k i)=some (Ptr b o))/\Pt H b o x/\P b:=by
 obtain⟨⟨a,c,rfl,hc,hx⟩,h2,h3⟩:=h
 have hlt:=(zAP.1 hi).1
 rcases hx with rfl|⟨b,o,rfl,hP,hp⟩
 ·simp at hlt
 ·refine⟨b,o+i*n,λk=>?_,?_,hP⟩
  ·simp only[ixS];rw[if_pos ⟨by omega,by omega⟩];rfl
  ·have:=hp.sub (i:=i*n) (n:=n) (by rw[zIm h2];have:=zBB n (show i+1<=xs.length by omega);rw[Nat.succ_mul]at this;exact this)
   rwa [zAcZ h2 hi]at this
theorem SlE.cut (h:SlE n P H v xs)(hne:xs≠[]){lo hi:Nat}(h1:lo<=hi)(h2:hi<=xs.length){l r:Option Value}(hl:bnd 0 hi l=some lo)(hr:∀ c,xs.length<=c->bnd xs.length c r=some hi):∃ u,slS n v l r none=some u/\SlE n P H u ((xs.take hi).drop lo):=by
 obtain⟨⟨a,c,rfl,hc,hx⟩,he,ho⟩:=h
 have hb:zMj xs.length c l r none=some (lo,hi,c):=by
  unfold zMj
  rw[show bnd c c none=some c from rfl]
  simp only[zAT,hr c hc,hl,zAO]
 have hlen:((xs.take hi).drop lo).length=hi-lo:=by simp;omega
 have el':∀ x∈(xs.take hi).drop lo,x.length=n:=λx hx=>he x (zBR (List.mem_of_mem_drop hx))
 have one':∀ x∈(xs.take hi).drop lo,∀ c∈x,c.oneCell'=true:=λx hx=>ho x (zBR (List.mem_of_mem_drop hx))
 rcases hx with rfl|⟨b,o,rfl,hP,hp⟩
 ·exact absurd rfl hne
 ·refine⟨.slice (some ⟨b,if c=lo then o else o+lo*n,none⟩) (hi-lo) (c-lo),by simp[slS,hb],⟨_,c-lo,by rw[hlen],by rw[hlen];omega,?_⟩,el',one'⟩
  by_cases h0:hi=lo
  ·left;apply zBg.1;omega
  ·right
   rw[if_neg (by omega)]
   refine⟨b,_,rfl,hP,?_⟩
   have hle:lo*n+(hi-lo)*n=hi*n:=by rw[<- Nat.add_mul];congr 1;omega
   have hle2:=zBB n h2
   have:=hp.sub (i:=lo*n) (n:=(hi-lo)*n) (by rw[zIm he];omega)
   have e:((xs.take hi).drop lo).flatten=(xs.flatten.drop (lo*n)).take ((hi-lo)*n):=by
    rw[zSF (λx hx=>he x (zBR hx)),zSG he,zCl]
    congr 1;omega
   rwa [e]
end
def BufE (n:Nat)(F:zAY)(H:zAw)(v:Value)(xs:List (List Value)):Prop :=
 (∀ x∈xs,x.length=n)/\(∀ x∈xs,∀ c∈x,c.oneCell'=true) /\
 ((v = .slice none 0 0/\xs=[])\/∃ b o c cs T f,v = .slice (some ⟨b,o,none⟩) xs.length c/\F b/\xs.length<=c/\H[b]? = some (.cells cs T f)/\o+c*n<=cs.size/\(∀ i n,zTw f i n=true)/\(cs.toList.drop o).take (xs.length*n)=xs.flatten)
section
variable {n:Nat} {F:zAY} {H:zAw} {v:Value} {xs:List (List Value)}
theorem BufE.nil:BufE n F H (.slice none 0 0) []:=⟨λx h=>(by cases h),λx h=>(by cases h),.inl ⟨rfl,rfl⟩⟩
theorem BufE.sl (h:BufE n F H v xs):SlE n F H v xs:=by
 obtain⟨h1,h2,h|⟨b,o,c,cs,T,f,rfl,hf,hc,hb,hle,ht,hl⟩⟩:=h
 ·obtain⟨rfl,rfl⟩:=h;exact SlE.nil
 ·refine⟨⟨_,c,rfl,hc,.inr ⟨b,o,rfl,hf,cs,T,f,hb,?_,?_⟩⟩,h1,h2⟩
  ·rw[zIm h1];have:=zBB n hc;omega
  ·rw[zIm h1];exact hl
theorem BufE.keep {S:zAY}{H':zAw}(h:BufE n F H v xs)(k:Keep S H H')(hs:∀ b,F b->¬ S b):BufE n F H' v xs:=by
 obtain⟨h1,h2,h|⟨b,o,c,cs,T,f,rfl,hf,hc,hb,hle,ht,hl⟩⟩:=h
 ·exact⟨h1,h2,.inl h⟩
 ·exact⟨h1,h2,.inr ⟨b,o,c,cs,T,f,rfl,hf,hc,k.at hb (hs b hf),hle,ht,hl⟩⟩
theorem BufE.mono {G:zAY}(h:BufE n F H v xs)(k:∀ b,F b->G b):BufE n G H v xs:=by
 obtain⟨h1,h2,h|⟨b,o,c,cs,T,f,rfl,hf,hr⟩⟩:=h
 ·exact⟨h1,h2,.inl h⟩
 ·exact⟨h1,h2,.inr ⟨b,o,c,cs,T,f,rfl,k _ hf,hr⟩⟩
theorem BufE.fresh {T:TypeId}{c:Nat}{cs:List Value}{f:Nat×Nat}(hb:∃ b,v = .slice (some ⟨b,0,none⟩) xs.length c/\F b/\H[b]? = some (.cells cs.toArray T f))(hc:xs.length<=c)(hle:c*n<=cs.length)(ht:∀ i n,zTw f i n=true)(hl:cs.take (xs.length*n)=xs.flatten)
  (h1:∀ x∈xs,x.length=n) (h2:∀ x∈xs,∀ c∈x,c.oneCell'=true):BufE n F H v xs:=by
 obtain⟨b,rfl,hf,hb⟩:=hb
 exact⟨h1,h2,.inr ⟨b,0,c,_,T,f,rfl,hf,hc,hb,by simpa using hle,ht,by simpa using hl⟩⟩
theorem BufE.app {P:zAY}{s x:Value}{ys:List (List Value)}{T:TypeId}{bytes:Nat}{k:zAn}(h:BufE n F H s xs)(hx:SlE n P H x ys)(hb0:0<bytes)(hlen:(xs.length+ys.length)*bytes<=140737488355328)(hf:F H.size)
  (hk:∀ v H',BufE n F H' v (xs++ys)->Keep F H H'->k v H'):zKf T n bytes H s x k:=by
 obtain⟨h1,h2,h⟩:=h
 have el:∀ x∈xs++ys,x.length=n:=λx h=>(zAr.1 h).elim (h1 x) (hx.el x)
 have one:∀ x∈xs++ys,∀ c∈x,c.oneCell'=true:=λx h=>(zAr.1 h).elim (h2 x) (hx.one x)
 have fl:=zIm h1
 have fy:=zIm hx.el
 rcases h with ⟨rfl,rfl⟩|⟨b,o,c,cs,T',f,rfl,hb',hc,hb,hle,ht,hl⟩
 ·refine⟨none,0,0,ys.length,ys.flatten.toArray,rfl,hx.elems,hx.all,λh0=>?_,λh0=>⟨by simpa using hlen,hb0,#[],rfl,λcap rest c1 c2 c3=>?_⟩⟩
  ·have:ys=[]:=zBg.1 (by omega)
   subst this
   exact hk _ _ ⟨el,one,.inl ⟨rfl,rfl⟩⟩ Keep.refl
  ·have hm:ys.length*n+(cap-ys.length)*n=cap*n:=by rw[<- Nat.add_mul];congr 1;omega
   refine hk _ _ ⟨el,one,.inr ⟨H.size,0,cap,_,T,(0,0),by simp,hf,by simpa using c1,zCh,?_,λ_ _=>by simp[zTw],?_⟩⟩ Keep.push
   ·simp at c3 ⊢;rw[c3];simp at fy;rw[fy];omega
   ·simp
    rw[zBc (by omega),zAs (by omega)]
 ·have hm:xs.length*n+ys.length*n=(xs.length+ys.length)*n:=by rw[Nat.add_mul]
  refine⟨some ⟨b,o,none⟩,xs.length,c,ys.length,ys.flatten.toArray,rfl,hx.elems,hx.all,λh0=>?_,λh0=>⟨hlen,hb0,xs.flatten.toArray,?_,λcap rest c1 c2 c3=>?_⟩⟩
  ·have hcn:=zBB n h0
   have hsz:o+xs.length*n+ys.flatten.toArray.size<=cs.size:=by simp only[zCg,fy];omega
   refine⟨_,zPt hb _ _ (ht _ _) hsz hx.all,hk _ _ ⟨el,one,.inr ⟨b,o,c,_,T',f,by simp,hb',by simpa using h0,zBh hb,?_,ht,?_⟩⟩ (Keep.set hb')⟩
   ·rw[zMp hsz];exact hle
   ·show((List.take (o+xs.length*n) cs.toList++ys.flatten++_).drop o).take ((xs++ys).length*n)=_
    have hq:o+xs.length*n<=cs.toList.length:=by simp;omega
    rw[zBi,zB2 (by simp;omega),zCl,zCB,hl,<- zBi,zBz,zAy,<- hm,<- fl,<- fy,<- zAy,zBc (by simp),zAs (zAi _)]
  ·exact(SlE.elems (P:=F) ⟨⟨_,c,rfl,hc,.inr ⟨b,o,rfl,hb',cs,T',f,hb,by rw[fl];have:=zBB n hc;omega,by rw[fl];exact hl⟩⟩,h1,h2⟩)
  ·have hm2:(xs.length+ys.length)*n+(cap-(xs.length+ys.length))*n=cap*n:=by rw[<- Nat.add_mul];congr 1;omega
   refine hk _ _ ⟨el,one,.inr ⟨H.size,0,cap,_,T,(0,0),by simp,hf,by simpa using c1,zCh,?_,λ_ _=>by simp[zTw],?_⟩⟩ Keep.push
   ·simp only[Array.size_append,zCg,fl,fy,c3];omega
   ·show((xs.flatten.toArray++ys.flatten.toArray++rest).toList.drop 0).take ((xs++ys).length*n)=_
    simp only[Array.toList_append,zCb,zBz,zAy,<- hm,<- fl,<- fy]
    rw[zBc (by simp),zAs (by simp)]
end
def zHn (l:List Value):List (List Value):=l.map λv=>[v]
@[simp] theorem zSH {l:List Value}:(zHn l).length=l.length:=by simp[zHn]
@[simp] theorem zO5 {l:List Value}:(zHn l).flatten=l:=by induction l<;>simp_all [zHn]
theorem zR7 {l:List Value}:∀ x∈zHn l,x.length=1:=by
 intro x hx;obtain⟨v,_,rfl⟩:=zAo.1 hx;rfl
theorem zQo {l:List Value}(h:∀ v∈l,v.oneCell'=true):∀ x∈zHn l,∀ c∈x,c.oneCell'=true:=by
 intro x hx c hc;obtain⟨v,hv,rfl⟩:=zAo.1 hx;obtain rfl:c=v:=by simpa using hc
 exact h _ hv
theorem zNc {l:List Value}{i:Nat}{v:Value}(h:l[i]? = some v):(zHn l)[i]? = some [v]:=by simp[zHn,h]
theorem Buf.mono {F G:zAY}{H:zAw}{v:Value}{l:List UInt8}(h:Buf F H v l)(k:∀ b,F b->G b):Buf G H v l:=by
 rcases h with h|⟨b,o,c,cs,T,f,rfl,hf,hr⟩
 ·exact .inl h
 ·exact .inr ⟨b,o,c,cs,T,f,rfl,k _ hf,hr⟩
theorem Sl.pre {P:zAY}{H:zAw}{v:Value}{l:List UInt8}(h:Sl P H v l){n:Nat}(hn:n<=l.length):∃ u,slS 1 v none (some (.int .i64 n)) none=some u/\Sl P H u (l.take n):=by
 rcases h.cases with ⟨a,c,rfl,rfl,ha⟩|⟨b,o,c,cs,T,f,rfl,hp,hc,hb,hle,hl⟩
 ·have:n=0:=by simpa using hn
  subst this
  have hb:zMj 0 c none (some (.int .i64 0)) none=some (0,0,c):=by simp[zMj,bnd]
  rcases a with _|⟨b,o,_|sp⟩
  ·exact⟨.slice none 0 c,by simp[slS,hb],by simpa using Sl.nil⟩
  rotate_left
  ·exact⟨.slice (some ⟨b,o,some sp⟩) 0 c,by simp[slS,hb],by simpa using zRE,⟨some ⟨b,o,some sp⟩,c,rfl,zAz _,ha⟩,h.own⟩
  ·refine⟨.slice (some ⟨b,if c=0 then o else o+0*1,none⟩) 0 c,by simp[slS,hb],?_⟩
   exact⟨by simpa using zRE,⟨_,c,rfl,zAz _,λx hx=>by cases hx;rfl⟩,λb' hb'=>h.own b' (by obtain⟨rfl,h0⟩:=zH2 hb';exact absurd rfl h0)⟩
 ·have h1:(n:Int)<=c:=by omega
  have hb':zMj l.length c none (some (.int .i64 n)) none=some (0,n,c):=by simp[zMj,bnd,show n<=c by omega]
  refine⟨.slice (some ⟨b,if c=0 then o else o+0*1,none⟩) n c,by simp[slS,hb'],⟨Bs.mk hb (by simp[hn]) ?_ ?_,⟨some ⟨b,if c=0 then o else o+0*1,none⟩,c,by simp[hn],by simp;omega,λx hx=>by cases hx;rfl⟩,λb' hb'=>by obtain⟨rfl,_⟩:=zH2 hb';exact hp⟩⟩
  ·split<;>omega
  ·have:(if c=0 then o else o+0*1)=o:=by split<;>simp
   rw[this,zSB,<- hl,zC0,zBD hn]
theorem Buf.cut0 {F:zAY}{H:zAw}{v:Value}{l:List UInt8}(h:Buf F H v l):∃ u,slS 1 v none (some (.int .i64 0)) none=some u/\Buf F H u []:=by
 rcases h with ⟨rfl,rfl⟩|⟨b,o,c,cs,T,f,rfl,hf,hc,hb,hle,ht,hl⟩
 ·exact⟨.slice none 0 0,by simp[slS,zMj,bnd],.inl ⟨rfl,rfl⟩⟩
 ·have hb':zMj l.length c none (some (.int .i64 0)) none=some (0,0,c):=by simp[zMj,bnd]
  have e:(if c=0 then o else o+0*1)=o:=by split<;>simp
  exact⟨.slice (some ⟨b,if c=0 then o else o+0*1,none⟩) 0 c,by simp[slS,hb'],.inr ⟨b,_,c,cs,T,f,rfl,hf,zAz _,hb,by rw[e];exact hle,by rw[e];exact ht,by simp⟩⟩
theorem zQV {H:zAw}{b:Nat}{cs:List Value}{T:TypeId}{f:Nat×Nat}(h:H[b]? = some (.cells cs.toArray T f)){i:Nat}{v:Value}(hi:cs[i]? = some v):ld1 H (Ptr b i)=some v:=by
 rw[zRF h];simpa using hi
theorem zWu {H:zAw}{b:Nat}{cs:List Value}{T:TypeId}(h:H[b]? = some (.cells cs.toArray T (0,0))){i:Nat}{v:Value}(hi:i<cs.length)(hv:v.oneCell'=true):st1 H (Ptr b i) v=some (H.setIfInBounds b (.cells (cs.set i v).toArray T (0,0))):=by
 rw[zXU h _ _ (by simpa using hi) hv];simp
theorem zSI {n s b o:Nat}{k:IntKind}{i:Nat}(h:i<n):ixA n s (.pointer (some ⟨b,o,none⟩)) (.int k i)=some (Ptr b (o+i*s)):=by
 simp only[ixA];rw[if_pos ⟨by omega,by omega⟩];simp
theorem zSJ {n b i:Nat}{k:IntKind}(h:i<n):ixA n 1 (.pointer (some ⟨b,0,none⟩)) (.int k i)=some (Ptr b i):=by rw[zSI h];simp
theorem zAjt {H:zAw}{q o n c:Nat}{x:Value}{T:TypeId}{cs:Array Value}{k:zAn}(hq:H[q]? = some (.cells cs T (0,0)))(ho:o<=cs.size)(hx:zEi 1 H x=some (0,#[]))(hk:k (.int .i64 (0:Nat)) H):zPF 1 H (.slice (some ⟨q,o,none⟩) n c) x k:=by
 refine⟨0,#[],some ⟨q,o,none⟩,n,c,hx,rfl,?_⟩
 have e:Nat.min 0 n=0:=Nat.zero_min n
 show Mwr (stA H q o (#[].extract 0 (Nat.min 0 n*1))) λh=>k (.int .i64 (Nat.min 0 n:Nat)) h
 rw[e]
 have hst:=zPt hq o (#[].extract 0 (0*1)) zKQ (by simpa using ho) (by simp)
 have hset:H.setIfInBounds q (.cells (spl cs o (#[].extract 0 (0*1))) T (0,0))=H:=by
  have e2:spl cs o (#[].extract 0 (0*1))=cs:=by simp[spl]
  rw[e2]
  apply Array.ext_getElem?
  intro i
  rw[zAD]
  split
  ·rename_i hi;subst hi;rw[hq];rw[if_pos (lt_of hq)]
  ·rfl
 rw[hst,hset,zA0]
 exact hk
theorem zAhd {body:(zAw->Prop)->Prop}{rest:zAw->Prop}(I:zAw->Prop)(h1:∀ k:zAw->Prop,(∀ h,I h->k h)->body k)(h2:∀ h,I h->rest h):J0 body rest := .mk (h1 rest h2)
theorem zOd {body:(zAn)->Prop}{rest:zAn}(I:zAn)(h1:∀ k:zAn,(∀ x h,I x h->k x h)->body k)(h2:∀ x h,I x h->rest x h):J1 body rest := .mk (h1 rest h2)
theorem zNd {body:(Value->zAn)->Prop}{rest:Value->zAn}(I:Value->zAn)(h1:∀ k:Value->zAn,(∀ x y h,I x y h->k x y h)->body k)(h2:∀ x y h,I x y h->rest x y h):J2 body rest := .mk (h1 rest h2)
abbrev str (l:List UInt8):Value := .string ⟨l.toArray⟩
theorem str_of (s:ByteArray):Value.string s=str s.data.toList:=by
 obtain⟨a⟩:=s;simp
theorem zIt {l:List UInt8}:(ByteArray.mk l.toArray).size=l.length:=by simp[ByteArray.size]
theorem zLL {l:List UInt8}:(ByteArray.mk l.toArray).toList=l:=by simp
@[simp] theorem zEL {l:List UInt8}:zLd (str l)=some (.int .i64 l.length):=by rw[zWM,zIt]
theorem zMO {l:List UInt8}{i:Nat}{x:UInt8}{k:IntKind}(h:l[i]? = some x):ixT (str l) (.int k i)=some (.int .u8 x.toNat):=by
 obtain⟨hlt,rfl⟩:=zAP.1 h
 have e:(ByteArray.mk l.toArray)[i]? = some l[i]:=by
  rw[getElem?_pos (ByteArray.mk l.toArray) i (by rw[zIt];exact hlt)]
  rfl
 simp only[ixT];rw[if_pos (by omega)]
 simp only[zC2,e,zAO]
theorem zQ9 {l:List UInt8}{lo hi:Nat}{a b:Option Value}(h1:lo<=hi)(h2:hi<=l.length)(ha:bnd 0 hi a=some lo)(hb:bnd l.length l.length b=some hi):slT (str l) a b=some (str ((l.take hi).drop lo)):=by
 have hbn:zMj l.length l.length a b none=some (lo,hi,l.length):=by
  unfold zMj
  rw[show bnd l.length l.length none=some l.length from rfl]
  simp only[zAT,hb,ha,zAO]
 have e:(ByteArray.mk l.toArray).extract lo hi=⟨((l.take hi).drop lo).toArray⟩:=by
  apply ByteArray.ext
  rw[ByteArray.data_extract]
  apply Array.ext'
  simp[List.extract_eq_take_drop,zCl]
 simp only[slT,zIt,hbn,zAO,e]
theorem zPN {a b:List UInt8}:zR1 .eql ⟨a.toArray⟩ ⟨b.toArray⟩=some (.bool (decide (a=b))):=by
 simp only[zR1,zLL];congr 2;rw[zA1];simp
theorem zWN {a b:List UInt8}:zR1 .neq ⟨a.toArray⟩ ⟨b.toArray⟩=some (.bool (!decide (a=b))):=by
 simp only[zR1,zLL];congr 2;rw[zA1];simp
theorem zUu {a b:List UInt8}(h:a.length+b.length<=9223372036854775807):zR1 .add ⟨a.toArray⟩ ⟨b.toArray⟩=some (str (a++b)):=by
 simp only[zR1,zIt]
 rw[if_neg (by show ¬ ((a.length+b.length:Nat):Int) > 9223372036854775807;omega)]
 congr 2
@[simp] theorem zAju {l:List UInt8}:(str l).oneCell'=true:=rfl
theorem zAev {H:zAw}{l:List UInt8}:Bs H (str l) l:=by
 unfold Bs zEi
 simp only[if_true,zIt]
 congr 2
 apply Array.ext'
 simp[zBG]
theorem Sl.str {P:zAY}{H:zAw}{v:Value}{l:List UInt8}(h:Sl P H v l):Go.X.b2s H v=some (str l):=h.b2s
def zAku (P:Program)(fv:Value)(xs:List (List Value))(S:zAY)(St:zAw->Prop):Prop :=
 ∀ (yv:Value) (h0:zAw) (J:Nat->zAw->Prop) (E:zAw->Prop),St h0->J 0 h0 ->
  (∀ (i:Nat) (x:List Value) (h:zAw),xs[i]? = some x->J i h->zDz P yv x h λv h'=>h.size<=h'.size/\(∀ b,S b->b<h.size->h'[b]? = h[b]?)/\((v = .bool true/\J (i+1) h')\/(v = .bool false/\E h'))) ->
  (∀ i h h',J i h->Keep S h h'->J i h')->(∀ h h',E h->Keep S h h'->E h') ->
  zAar P fv [yv] h0 λ_ h=>J xs.length h\/E h
theorem range_i {P:Program}{n0:Nat}{fv:Value}{H:zAw}{B:List Value->zAw->(Option Code->zAw->Prop)->Prop}{rest:Option Code->zAw->Prop}
  {xs:List (List Value)} {S W:zAY} {St:zAw->Prop} (hit:zAku P fv xs S St) (hst:∀ o o',St ((H.push o).push o')) (hn:n0<=H.size)
  (Inv:Nat->zAw->Prop) (Ex:Code->zAw->Prop) (h0:Inv 0 H)
  (sI:∀ i h h',Inv i h->Keep (λb=>S b\/b=H.size\/b=H.size+1) h h'->Inv i h')
  (sE:∀ c h h',Ex c h->Keep (λb=>S b\/b=H.size\/b=H.size+1) h h'->Ex c h')
  (hS:∀ b,S b->b<H.size) (hW:∀ b,W b->b≠H.size/\b≠H.size+1/\¬ S b)
  (hB:∀ (i:Nat) (x:List Value) (h:zAw) (r:Loop),xs[i]? = some x->Inv i h->h[H.size+1]? = some (.loop r)->r.state = .ready ->
   ∀ K:Option Code->zAw->Prop,(∀ h',Keep W (h.setIfInBounds (H.size+1) (.loop { r with state := .busy })) h'->Inv (i+1) h'->K none h') ->
    (∀ c h',Keep W (h.setIfInBounds (H.size+1) (.loop { r with state := .busy })) h'->Ex c h'->K (some c) h')->B x h K)
  (hrest:∀ h,H.size<=h.size->Inv xs.length h->rest none h) (hexit:∀ c h,H.size<=h.size->Ex c h->rest (some c) h):zRB P n0 fv H B rest:=by
 refine⟨hn,λrec hr hp hyield=>?_⟩
 have hsz:((H.push (.deferred (some []))).push (.loop rec)).size=H.size+2:=by simp
 have hL:((H.push (.deferred (some []))).push (.loop rec))[H.size+1]? = some (.loop rec):=by
  have:=zCh (H:=H.push (.deferred (some []))) (y := .loop rec)
  rwa [show(H.push (.deferred (some []))).size=H.size+1 by simp]at this
 have hSL:¬ S (H.size+1):=λh=>by have:=hS _ h;omega
 have main:=hit (.func (.yield (H.size+1)) #[] #[]) ((H.push (.deferred (some []))).push (.loop rec)) (λi h=>Inv i h/\h[H.size+1]? = some (.loop rec))
  (λh=>∃ c,Ex c h/\∃ r,h[H.size+1]? = some (.loop r)/\r.state = .done/\r.pending=some c) (hst _ _)
  ⟨sI _ _ _ h0 ((Keep.push (S:=λb=>S b\/b=H.size\/b=H.size+1)).trans Keep.push),hL⟩ ?_
  (λi h h' ⟨h1,h2⟩ k=>⟨sI _ _ _ h1 (k.mono λ_ _ h => .inl h),k.at h2 hSL⟩)
  (λh h' ⟨c,h1,r,h2,h3⟩ k=>⟨c,sE _ _ _ h1 (k.mono λ_ _ h => .inl h),r,k.at h2 hSL,h3⟩)
 ·obtain⟨f,fi,ca,e1,e2,hc⟩:=main
  refine⟨f,fi,ca,e1,e2,λw hw=>(hc w hw).mono λe w'=>?_⟩
  rintro⟨v,he,hs,hJ⟩
  refine⟨v,he,hs,?_⟩
  rcases hJ with ⟨hI,hl⟩|⟨c,hE,r,hl,hd,hpend⟩
  ·refine⟨rec,hl,by rw[hr];decide,?_⟩
   rw[hp]
   refine hrest _ ?_ (sI _ _ _ hI (Keep.set (.inr (.inr rfl))))
   simp;have:=lt_of hl;omega
  ·refine⟨r,hl,by rw[hd];decide,?_⟩
   rw[hpend]
   refine hexit _ _ ?_ (sE _ _ _ hE (Keep.set (.inr (.inr rfl))))
   simp;have:=lt_of hl;omega
 ·rintro i x h hx ⟨hI,hl⟩
  refine .inr ⟨H.size+1,#[],#[],rfl,hyield _ _ _ hl (hB i x h rec hx hI hl hr _ ?_ ?_)⟩
  ·intro h' k hI'
   have hl':=k.at (zBh (y := .loop { rec with state := .busy }) hl) (λh=>(hW _ h).2.1 rfl)
   have hsize:h.size<=h'.size:=by have:=k.1;simpa using this
   refine⟨_,hl',by simpa using hsize,λb hb hlt=>?_,.inl ⟨rfl,?_,?_⟩⟩
   ·have hne:H.size+1≠b:=λe=>hSL (e ▸ hb)
    rw[zAD,if_neg hne,k.2 b (by simpa using hlt) (λhw=>(hW _ hw).2.2 hb),zAD,if_neg hne]
   ·exact sI _ _ _ hI' (Keep.set (.inr (.inr rfl)))
   ·rw[zBh hl']
    congr 2
    cases rec;simp only at hr hp;subst hr hp;rfl
  ·intro c h' k hE
   have hl':=k.at (zBh (y := .loop { rec with state := .busy }) hl) (λh=>(hW _ h).2.1 rfl)
   have hsize:h.size<=h'.size:=by have:=k.1;simpa using this
   refine⟨_,hl',by simpa using hsize,λb hb hlt=>?_,.inr ⟨rfl,c,sE _ _ _ hE (Keep.set (.inr (.inr rfl))),_,zBh hl',rfl,rfl⟩⟩
   have hne:H.size+1≠b:=λe=>hSL (e ▸ hb)
   rw[zAD,if_neg hne,k.2 b (by simpa using hlt) (λhw=>(hW _ hw).2.2 hb),zAD,if_neg hne]
theorem Keep.busy {W:zAY}{h g:zAw}{L:Nat}{o o':Obj}(k:Keep W h g)(hl:h[L]? = some o'):Keep W (h.setIfInBounds L o) (g.setIfInBounds L o):=by
 have:=lt_of hl
 refine⟨by simpa using k.1,λi hi hn=>?_⟩
 have hi':i<h.size:=by simpa using hi
 have hig:i<g.size:=zAW hi' k.1
 rw[zAD,zAD]
 by_cases e:L=i
 ·subst e;rw[if_pos rfl,if_pos rfl,if_pos hig,if_pos hi']
 ·rw[if_neg e,if_neg e,k.2 i hi' hn]
def Shp (P:Program)(w:World):Nat->TypeId->List Value->Prop
 | 0,_,_=>False
 | d+1,t,cs=>match P.underlying t with
  | some .bool=>∃ b,cs=[.bool b]
  | some (.int k)=>∃ n,cs=[.int k n]/\(Lit.int k n).wf=true
  | some .string=>∃ s:ByteArray,cs=[.string s]/\s.size<=maxLen
  | some (.struct fs)=>cs.length=P.cellsOf t/\∀ (i:Nat) (f:Field),fs[i]? = some f->Shp P w d f.type ((cs.drop f.offset).take (P.cellsOf f.type))
  | some (.array n e)=>cs.length=P.cellsOf t/\∀ i,i<n->Shp P w d e ((cs.drop (i*P.cellsOf e)).take (P.cellsOf e))
  | some (.slice e)=>cs=[.slice none 0 0]\/∃ (a:Addr) (len cap:Nat),cs=[.slice (some a) len cap]/\len<=cap/\cap<=maxLen/\∀ i,i<len->∃ cs',w.cells? 0 (a.add (i*P.cellsOf e)) (P.cellsOf e)=some cs'/\Shp P w d e cs'
  | _=>True
theorem shp_of_trod {H:Type}{enc:TypeId×Value->H}{P:Program}{w:World}{base:Nat}{spare:Nat->Bool}{held:Bool}:∀ {fuel:Nat} {t:TypeId} {cs:List Value} {x:DataW H×List MemPlace},
  DataW.trod enc P w base spare held fuel t cs=some x->Shp P w fuel t cs
 | 0,t,cs,x,h=>by simp[DataW.trod]at h
 | n+1,t,cs,x,h=>by
  simp only[Shp]
  split
  ·rename_i ht;obtain⟨b,hb,_⟩:=DataW.trod_bool ht h;exact⟨b,hb⟩
  ·rename_i k ht;obtain⟨m,hm,_,hw⟩:=DataW.trod_int ht h;exact⟨m,hm,hw⟩
  ·rename_i ht;obtain⟨s,hs,_,hw⟩:=DataW.trod_string ht h;exact⟨s,hs,hw⟩
  ·rename_i fs ht
   obtain⟨xs,m,hm,_,hl,hxl,hf⟩:=DataW.trod_struct ht h
   obtain rfl:n=m:=by omega
   refine⟨hl,λi f hi=>?_⟩
   have h1:=hf i f hi
   have hlt:i<xs.length:=by rw[hxl];exact(zA8.1 hi).1
   rw[zAj hlt]at h1
   exact shp_of_trod h1
  ·rename_i k e ht
   unfold DataW.trod at h
   rw[ht]at h
   simp only at h
   split at h
   ·rename_i hl
    obtain⟨xs,hm,_⟩:=zBu.1 h
    refine⟨hl,λi hi=>?_⟩
    have h1:=mapM_some_get hm i i (by simp[hi])
    have hlen:xs.length=k:=by simpa using mapM_some_length hm
    rw[zAj (by omega)]at h1
    exact shp_of_trod h1
   ·cases h
  ·rename_i e ht
   rcases DataW.trod_slice ht h with ⟨h0,_⟩|⟨a,len,cap,elems,rest,m,hm,hc,_,hb,hl,hcap,hel,hg,_⟩
   ·exact .inl h0
   ·obtain rfl:n=m:=by omega
    refine .inr ⟨a,len,cap,hc,hl,hcap,λi hi=>?_⟩
    have h1:=hg i hi
    rw[zAj (by omega)]at h1
    obtain⟨cs',h2,h3⟩:=Option.bind_eq_some_iff.1 h1
    refine⟨cs',?_,shp_of_trod h3⟩
    unfold World.cells? at h2 ⊢
    rw[if_pos (zAz _)]
    split at h2
    ·exact h2
    ·cases h2
  ·trivial
theorem zSK {w:World}{a:Addr}{n:Nat}{cs:List Value}(hn:0<n)(h:w.cells? 0 a n=some cs):a.spot=none/\cs.length=n/\Pt w.heap a.block a.off cs:=by
 obtain⟨_,hl,hc⟩:=World.cells?_some h
 obtain⟨b,o,sp⟩:=a
 have h1:=hc 0 hn
 have h1':w.cell? ⟨b,o,sp⟩=cs[0]?:=h1
 rw[zAj (by omega)]at h1'
 obtain⟨c,T,f,hb,rfl⟩:∃ c T f,w.heap[b]? = some (.cells c T f)/\sp=none:=by
  unfold World.cell? at h1'
  split at h1'
  ·rename_i c T f hb
   cases sp with
   | none=>exact⟨c,T,f,hb,rfl⟩
   | some s=>cases h1'
  ·cases h1'
 have hcs:∀ i,i<n->c[o+i]? = cs[i]?:=λi hi=>by
  have h2:=hc i hi
  have e:(⟨b,o,none⟩:Addr).add i=⟨b,o+i,none⟩:=by
   unfold Addr.add;split
   ·rename_i h;subst h;rfl
   ·rfl
  rw[e]at h2
  unfold World.cell? at h2
  simp only[hb]at h2
  exact h2
 have hlast:o+(n-1)<c.size:=by
  have:=hcs (n-1) (by omega)
  rw[zAj (by omega)]at this
  exact(zA8.1 this).1
 refine⟨rfl,hl,c,T,f,hb,(show o+cs.length<=c.size by omega),?_⟩
 apply zCI
 intro i
 simp only[zCd,zCW]
 split
 ·rename_i hi
  rw[<- hcs i (by omega)];simp
 ·rw[zC3 (by omega)]
theorem zKo {w:World}{n:Nat}(hn:0<n){a:Addr}{len cap:Nat}{q:List Value->Prop}(hle:len<=cap)(hq:∀ cs,q cs->∀ c∈cs,c.oneCell'=true)
  (h:∀ i,i<len->∃ cs,w.cells? 0 (a.add (i*n)) n=some cs/\q cs):∃ xs:List (List Value),xs.length=len/\SlE n (· < w.heap.size) w.heap (.slice (some a) len cap) xs/\∀ x∈xs,q x:=by
 by_cases h0:len=0
 ·subst h0;exact⟨[],rfl,SlE.nil,λx hx=>by cases hx⟩
 obtain⟨c0,hc0,_⟩:=h 0 (by omega)
 have ha0:a.add (0*n)=a:=by simp[Addr.add]
 rw[ha0]at hc0
 obtain⟨hsp,_,hpt0⟩:=zSK hn hc0
 obtain⟨b,o,sp⟩:=a
 simp only at hsp hpt0
 subst hsp
 have hadd:∀ i,(⟨b,o,none⟩:Addr).add i=⟨b,o+i,none⟩:=λi=>by
  unfold Addr.add;split
  ·rename_i h;subst h;rfl
  ·rfl
 have key:∀ k,k<=len->∃ xs:List (List Value),xs.length=k/\(∀ x∈xs,x.length=n)/\(∀ x∈xs,q x)/\Pt w.heap b o xs.flatten:=by
  intro k
  induction k with
  | zero =>
   intro _
   obtain⟨c,T,f,hb,h1,h2⟩:=hpt0
   exact⟨[],rfl,λx h=>(by cases h),λx h=>(by cases h),c,T,f,hb,by simp;omega,by simp⟩
  | succ k ih =>
   intro hk
   obtain⟨xs,hx1,hx2,hx3,c,T,f,hb,h1,h2⟩:=ih (by omega)
   obtain⟨cs,hcs,hqc⟩:=h k (by omega)
   rw[hadd]at hcs
   obtain⟨_,hcl,c',T',f',hb',h1',h2'⟩:=zSK hn hcs
   simp only at hb' h1' h2'
   rw[hb]at hb'
   cases hb'
   have hfl:=zIm hx2
   refine⟨xs++[cs],by simp[hx1],?_,?_,c,T,f,hb,?_,?_⟩
   ·intro x hx
    rcases zAr.1 hx with hx|hx
    ·exact hx2 x hx
    ·simp at hx;subst hx;exact hcl
   ·intro x hx
    rcases zAr.1 hx with hx|hx
    ·exact hx3 x hx
    ·simp at hx;subst hx;exact hqc
   ·simp only[zBz,zBv,List.flatten_nil,zAS,zAy,hfl,hx1];omega
   ·simp only[zBz,zBv,List.flatten_nil,zAS,zAy]
    rw[List.take_add,h2,zCz,hfl,hx1,h2']
 obtain⟨xs,hx1,hx2,hx3,hp⟩:=key len (zAi _)
 exact⟨xs,hx1,⟨⟨_,cap,by rw[hx1],by omega,.inr ⟨b,o,rfl,hp.lt,hp⟩⟩,hx2,λx hx=>hq x (hx3 x hx)⟩,hx3⟩
theorem shp_int {P:Program}{w:World}{d:Nat}{t:TypeId}{k:IntKind}{cs:List Value}(ht:P.underlying t=some (.int k))(h:Shp P w d t cs):∃ n,cs=[.int k n]/\(Lit.int k n).wf=true:=by
 cases d with
 | zero=>exact h.elim
 | succ d=>simp only[Shp,ht]at h;exact h
theorem zRa {P:Program}{w:World}{d:Nat}{t:TypeId}{cs:List Value}(ht:P.underlying t=some .string)(h:Shp P w d t cs):∃ s:ByteArray,cs=[.string s]/\s.size<=maxLen:=by
 cases d with
 | zero=>exact h.elim
 | succ d=>simp only[Shp,ht]at h;exact h
theorem zY2 {P:Program}{w:World}{d:Nat}{t:TypeId}{fs:Array Field}{cs:List Value}(ht:P.underlying t=some (.struct fs))(h:Shp P w d t cs):∃ d',cs.length=P.cellsOf t/\∀ (i:Nat) (f:Field),fs[i]? = some f->Shp P w d' f.type ((cs.drop f.offset).take (P.cellsOf f.type)):=by
 cases d with
 | zero=>exact h.elim
 | succ d=>simp only[Shp,ht]at h;exact⟨d,h⟩
theorem zXV {P:Program}{w:World}{d n:Nat}{t e:TypeId}{k:IntKind}{cs:List Value}(ht:P.underlying t=some (.array n e))(he:P.underlying e=some (.int k))(hc:P.cellsOf e=1)(hn:P.cellsOf t=n)(h:Shp P w d t cs) :
  ∃ l:List Int,l.length=n/\cs=l.map (Value.int k)/\∀ x∈l,(Lit.int k x).wf=true:=by
 cases d with
 | zero=>exact h.elim
 | succ d =>
  simp only[Shp,ht]at h
  obtain⟨hl,hf⟩:=h
  rw[hn]at hl
  have each:∀ i (hi:i<n),∃ m,cs[i]? = some (.int k m)/\(Lit.int k m).wf=true:=λi hi=>by
   obtain⟨m,hm,hw⟩:=shp_int he (hf i hi)
   rw[hc,zCA]at hm
   refine⟨m,?_,hw⟩
   have:=congrArg (·[0]?) hm
   simpa [zCd,zCW] using this
  refine⟨cs.map λv=>match v with | .int _ m=>m|_=>0,by simpa using hl,?_,?_⟩
  ·apply zCI
   intro i
   by_cases hi:i<n
   ·obtain⟨m,hm,_⟩:=each i hi
    simp[hm]
   ·simp[zC3 (show cs.length<=i by omega)]
  ·intro x hx
   obtain⟨v,hv,rfl⟩:=zAo.1 hx
   obtain⟨i,hi,rfl⟩:=zBA hv
   obtain⟨m,hm,hw⟩:=each i (by omega)
   rw[zAj hi]at hm
   rw[zAF hm]
   exact hw
theorem zY3 {l:List Int}(h:∀ x∈l,(Lit.int .u8 x).wf=true):∃ r:List UInt8,r.length=l.length/\l.map (Value.int .u8)=zBG r:=by
 refine⟨l.map λn=>UInt8.ofNat n.toNat,by simp,?_⟩
 simp only[zBG,List.map_map]
 refine zBZ λx hx=>?_
 have hz:=h x hx
 simp only[Lit.wf,IntKind.min,IntKind.max,IntKind.signed,IntKind.bits]at hz
 simp only[Function.comp]
 congr 1
 simp at hz ⊢
 omega
theorem zVG {P:Program}{w:World}{name:String}{k:IntKind}{zs:List Int}{g n:Nat}{t e:TypeId}(hg:P.globalNamed name=some g)(hty:(P.globals[g]?).map (·.type)=some t)(ht:P.underlying t=some (.array n e))(he:P.underlying e=some (.int k))(hce:P.cellsOf e=1)(hct:P.cellsOf t=n) :
  ∀ {l:List (String×DataW Unit)} {ps:List MemPlace},DataW.LaidVars P w l ps->(name,Lib.tabData k zs)∈l->∃ T f,w.heap[g]? = some (.cells (zs.map (Value.int k)).toArray T f)
 | [],_,_,hm=>by cases hm
 | (nm,d)::r,ps,h,hm=>by
  obtain⟨g',t',cs,fuel,p,q,hg',ht',hvar,hd,hrest,_⟩:=h
  rcases zAp.1 hm with he'|hm
  ·cases he'
   obtain rfl:=zAF (hg.symm.trans hg')
   obtain rfl:=zAF (hty.symm.trans ht')
   have hcs:=Lib.cells_of_tab ht he hce hct hd
   unfold World.var? at hvar
   rw[hg,zAT]at hvar
   split at hvar
   ·rename_i cs' T f hb
    cases zAF hvar
    rw[<- hcs]
    exact⟨T,f,by simpa using hb⟩
   ·cases hvar
  ·exact zVG hg hty ht he hce hct hrest hm
end Go.X
