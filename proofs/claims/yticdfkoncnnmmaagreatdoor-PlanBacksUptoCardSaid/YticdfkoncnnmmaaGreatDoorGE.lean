import Derived.Test.YticdfkoncnnmmaaGreatDoorGP
import Derived.Test.YticdfkoncnnmmaaGreatDoorProg
import Derived.KernelRfl
import Derived.ChangeSlices
import Derived.ChangeArms
import Derived.Lib.LaidTab
set_option linter.unusedSimpArgs false
set_option linter.unusedVariables false
set_option maxRecDepth 100000
namespace Go.Proofs.YticdfkoncnnmmaaGreatDoor
open Go.X
noncomputable abbrev prg:Program:=Tryz.prog
abbrev zIz:Nat:=8
abbrev zF8:Nat:=9
abbrev zDY:Nat:=10
abbrev zCX:Nat:=11
abbrev zIn:Nat:=12
abbrev zOw:Nat:=13
abbrev zFD:Nat:=15
abbrev zDg:Nat:=16
abbrev zK5:Nat:=17
abbrev zDh:Nat:=18
abbrev zE1:Nat:=19
abbrev zHQ:Nat:=20
abbrev zHR:Nat:=21
abbrev zLE:Nat:=24
abbrev zLf:Nat:=25
abbrev zES:Nat:=26
abbrev zMe:Nat:=29
abbrev zFk:Nat:=30
abbrev zDb:Nat:=31
abbrev zGY:Nat:=32
abbrev zPC:Nat:=33
abbrev zMv:Nat:=34
abbrev zDJ:Nat:=35
abbrev zQ4:Nat:=38
abbrev zFl:Nat:=39
abbrev zLF:Nat:=40
abbrev zNr:Nat:=41
abbrev zOx:Nat:=42
abbrev zJM:Nat:=43
abbrev zCW:Nat:=44
abbrev zCv:Nat:=45
abbrev zOy:Nat:=46
abbrev zDS:Nat:=47
abbrev zDO:Nat:=48
abbrev zF9:Nat:=49
abbrev zNF:Nat:=50
abbrev zCZ:Nat:=51
abbrev zDs:Nat:=52
abbrev zGv:Nat:=53
abbrev zE2:Nat:=54
abbrev zGk:Nat:=55
abbrev zSz:Nat:=56
abbrev zK6:Nat:=57
abbrev zGa:Nat:=58
abbrev zOz:Nat:=61
abbrev zCJ:Nat:=62
abbrev zFq:Nat:=63
abbrev zHk:Nat:=64
abbrev zHS:Nat:=65
abbrev zCC:Nat:=66
abbrev zJN:Nat:=67
abbrev zHl:Nat:=68
abbrev zHm:Nat:=69
abbrev zHT:Nat:=70
abbrev zE3:Nat:=71
abbrev zDw:Nat:=72
abbrev zIo:Nat:=73
abbrev zFr:Nat:=74
abbrev zRH:Nat:=75
abbrev zGw:Nat:=76
abbrev zD4:Nat:=77
abbrev zDD:Nat:=80
abbrev zB0:Nat:=81
abbrev zJi:Nat:=82
abbrev zMf:Nat:=83
abbrev zMD:Nat:=84
abbrev zK7:Nat:=85
abbrev zBR:Nat:=86
abbrev zJO:Nat:=87
abbrev zCG:Nat:=88
abbrev zH7:Nat:=89
abbrev zCN:Nat:=90
abbrev zOA:Nat:=91
abbrev zFE:Nat:=92
abbrev zMg:Nat:=93
abbrev zEo:Nat:=94
abbrev zHi:Nat:=95
abbrev zFZ:Nat:=96
abbrev zGx:Nat:=97
abbrev zGy:Nat:=98
abbrev zI5:Nat:=99
abbrev zET:Nat:=100
abbrev zEN:Nat:=101
abbrev zEO:Nat:=102
abbrev zEz:Nat:=103
abbrev zPD:Nat:=104
abbrev zIX:Nat:=105
abbrev zIY:Nat:=106
abbrev zJP:Nat:=107
abbrev zJQ:Nat:=108
abbrev zEp:Nat:=109
abbrev zEd:Nat:=110
abbrev zFm:Nat:=111
abbrev zDq:Nat:=112
abbrev zD8:Nat:=113
abbrev zD9:Nat:=114
abbrev zIp:Nat:=115
abbrev zEP:Nat:=116
abbrev zEq:Nat:=117
abbrev zJR:Nat:=118
abbrev zDE:Nat:=119
abbrev zT5:Nat:=120
abbrev zGb:Nat:=121
abbrev zLG:Nat:=122
abbrev zB2:Nat:=123
abbrev zEU:Nat:=124
abbrev zFF:Nat:=125
abbrev zFz:Nat:=126
abbrev zJS:Nat:=127
abbrev zE4:Nat:=128
abbrev zK8:Nat:=129
abbrev zOB:Nat:=130
abbrev zHw:Nat:=131
abbrev zNG:Nat:=132
abbrev zD5:Nat:=133
abbrev zEG:Nat:=134
abbrev zEV:Nat:=135
abbrev zMh:Nat:=136
abbrev zDt:Nat:=137
abbrev zGP:Nat:=138
abbrev zPc:Nat:=139
abbrev zOC:Nat:=140
abbrev zHn:Nat:=141
abbrev zGZ:Nat:=142
abbrev zGz:Nat:=143
abbrev zNH:Nat:=144
abbrev zNe:Nat:=145
abbrev zKH:Nat:=146
abbrev zGp:Nat:=147
abbrev zDl:Nat:=148
abbrev zFG:Nat:=149
abbrev zJT:Nat:=150
abbrev zKp:Nat:=151
abbrev zDr:Nat:=152
abbrev zE5:Nat:=153
abbrev zGA:Nat:=154
abbrev zE6:Nat:=155
abbrev zKI:Nat:=156
abbrev zDL:Nat:=157
abbrev zJU:Nat:=158
abbrev zHo:Nat:=159
abbrev zF0:Nat:=160
abbrev zNs:Nat:=161
abbrev zG0:Nat:=162
abbrev zKJ:Nat:=163
abbrev zGl:Nat:=164
abbrev zHa:Nat:=165
abbrev zGm:Nat:=166
abbrev zGB:Nat:=167
abbrev zGt:Nat:=168
abbrev zFn:Nat:=169
abbrev zGc:Nat:=170
abbrev zG1:Nat:=171
abbrev zSA:Nat:=172
abbrev zGC:Nat:=173
abbrev zEr:Nat:=174
abbrev zJV:Nat:=175
abbrev zJW:Nat:=178
abbrev zEs:Nat:=179
abbrev zFU:Nat:=180
abbrev zEE:Nat:=181
abbrev zDK:Nat:=182
abbrev zHp:Nat:=183
abbrev zDx:Nat:=184
abbrev zPE:Nat:=185
abbrev zDF:Nat:=186
abbrev zHx:Nat:=187
abbrev zGd:Nat:=188
abbrev zGD:Nat:=189
abbrev zGq:Nat:=190
abbrev zER:Nat:=191
abbrev zFV:Nat:=192
abbrev zHb:Nat:=193
abbrev zSB:Nat:=194
abbrev zFc:Nat:=195
abbrev zJX:Nat:=196
abbrev zHy:Nat:=197
abbrev zKq:Nat:=198
abbrev zEe:Nat:=199
abbrev zDT:Nat:=200
abbrev zME:Nat:=201
abbrev zEt:Nat:=202
abbrev zHU:Nat:=203
abbrev zIq:Nat:=204
abbrev zQ5:Nat:=205
abbrev zPd:Nat:=206
abbrev zHc:Nat:=207
abbrev zG2:Nat:=208
abbrev zHq:Nat:=209
abbrev zGe:Nat:=210
abbrev zHI:Nat:=211
abbrev zJY:Nat:=215
abbrev zFd:Nat:=216
abbrev zBS:Nat:=217
abbrev zMi:Nat:=218
abbrev zJB:Nat:=219
abbrev zNf:Nat:=220
abbrev zGE:Nat:=221
abbrev zGF:Nat:=222
abbrev zEf:Nat:=223
abbrev zDP:Nat:=224
abbrev zLH:Nat:=225
abbrev zHd:Nat:=226
abbrev zGQ:Nat:=227
abbrev zNg:Nat:=228
abbrev zHJ:Nat:=229
abbrev zFs:Nat:=230
abbrev zEg:Nat:=231
abbrev zHK:Nat:=233
abbrev zEi:Nat:=235
abbrev zGR:Nat:=236
abbrev zNh:Nat:=237
abbrev zHz:Nat:=238
abbrev zHA:Nat:=239
abbrev zC3:Nat:=243
abbrev zKK:Nat:=244
abbrev zIA:Nat:=245
abbrev zKL:Nat:=246
abbrev zIB:Nat:=247
abbrev zJC:Nat:=248
abbrev zI6:Nat:=249
abbrev zG3:Nat:=250
abbrev zKM:Nat:=251
abbrev zIr:Nat:=252
abbrev zKi:Nat:=253
abbrev zKN:Nat:=256
abbrev zIs:Nat:=257
abbrev zLI:Nat:=258
abbrev zLJ:Nat:=259
abbrev zEu:Nat:=0
abbrev zMF:Nat:=1
abbrev zGn:Nat:=2
abbrev zI7:Nat:=3
abbrev zDy:Nat:=4
abbrev zDG:Nat:=5
abbrev zQA:Nat:=6
abbrev zMG:Nat:=7
abbrev zDW:Nat:=8
abbrev zNI:Nat:=9
abbrev zNJ:Nat:=10
abbrev NG:Nat:=11
abbrev zIC:Nat:=3
abbrev zXt:Nat:=4
abbrev zCl:Nat:=5
abbrev zBJ:Nat:=9
abbrev zDu:Nat:=22
abbrev zF3:Nat:=23
abbrev zAeZ:Nat:=24
abbrev zAO:Nat:=26
abbrev zBZ:Nat:=28
abbrev zJj:Nat:=30
abbrev zBQ:Nat:=40
abbrev zHV:Nat:=41
abbrev zDp:Nat:=45
abbrev zGG:Nat:=46
abbrev zAe:Nat:=48
abbrev zMH:Nat:=53
abbrev zA6:Nat:=55
abbrev zEv:Nat:=62
abbrev zB3:Nat:=68
abbrev zF4:Nat:=77
abbrev zB5:Nat:=80
abbrev zCh:Nat:=82
abbrev zVl:Nat:=85
abbrev zBn:Nat:=91
abbrev zAL:Nat:=101
abbrev zQ6:Nat:=107
abbrev zIZ:Nat:=114
abbrev zFt:Nat:=126
abbrev zBM:Nat:=132
abbrev zFA:Nat:=138
abbrev zYK:Nat:=154
abbrev zDi:Nat:=166
abbrev zID:Nat:=168
abbrev zI8:Nat:=182
abbrev zBY:Nat:=184
abbrev zDc:Nat:=204
abbrev zZT:Nat:=213
abbrev zFe:Nat:=214
abbrev zDd:Nat:=216
abbrev zZU:Nat:=217
abbrev zMj:Nat:=239
abbrev zHW:Nat:=245
abbrev zLK:Nat:=249
abbrev zBO:Nat:=252
abbrev zDU:Nat:=255
abbrev zH8:Nat:=258
abbrev zI9:Nat:=268
abbrev zEw:Nat:=278
abbrev zTe:Nat:=292
abbrev zKr:Nat:=297
abbrev zL1:Nat:=299
end Go.Proofs.YticdfkoncnnmmaaGreatDoor
namespace Go.X
section
variable {H:zAx}
@[simp] theorem zAa {v:Value}{k:Value->Prop}:Mpu (some v) k↔k v:=by simp[Mpu]
@[simp] theorem zAW {h:zAx}{k:zAx->Prop}:Mwr (some h) k↔k h:=by simp[Mwr]
@[simp] theorem zBb {T:TypeId}{c:Array Value}{k:zAm}:zDC H T (some c) k↔k (.pointer (some ⟨H.size,0,none⟩)) (H.push (.cells c T (0,0))):=by simp[zDC]
@[simp] theorem zCo {T:TypeId}{n:Nat}{c:Array Value}{k:zAm}:zD2 H T n (some c) k↔k (.slice (some ⟨H.size,0,none⟩) n n) (H.push (.cells c T (0,0))):=by simp[zD2]
@[simp] theorem zAl {b:Bool}{x y:Prop}:Mcd (.bool b) x y↔if b=true then x else y:=by cases b<;>simp[Mcd]
@[simp] theorem zAQ {b w:Bool}{x y:Prop}:Mif (.bool b) w x y↔if b=w then x else y:=by cases b<;>cases w<;>simp[Mif]
@[simp] theorem zAU {w:Bool}{x y:Prop}:Mif undef w x y↔y:=by simp[Mif,undef]
@[simp] theorem zA8 {p:Prop}:Mre [] p↔p:=Iff.rfl
@[simp] theorem zZV {a:Option Value}{b:Value}{l:List (Option Value×Value)}{p:Prop}:Mre ((a,b)::l) p↔a=some b/\Mre l p:=Iff.rfl
@[simp] theorem zHX {a:Addr}:nck (.pointer (some a))=some (.pointer (some a)):=rfl
@[simp] theorem zBf {off b o:Nat}:fld off (.pointer (some ⟨b,o,none⟩))=some (.pointer (some ⟨b,o+off,none⟩)):=rfl
@[simp] theorem zAv {c:Bool}{a b:Value}:zBD (.bool c) a b=some (if c=true then a else b):=rfl
theorem zAnl:type_of% (And.intro @Bool.not_true (And.intro @Bool.not_false (And.intro @zAQ (And.intro @zAU (And.intro @zAv (And.intro @zAl (And.intro @zAa (And.intro @if_true (And.intro @if_false (And.intro @Bool.false_eq_true (And.intro @Bool.true_eq_false (And.intro @decide_true @decide_false)))))))))))):=And.intro @Bool.not_true (And.intro @Bool.not_false (And.intro @zAQ (And.intro @zAU (And.intro @zAv (And.intro @zAl (And.intro @zAa (And.intro @if_true (And.intro @if_false (And.intro @Bool.false_eq_true (And.intro @Bool.true_eq_false (And.intro @decide_true @decide_false)))))))))))
@[simp] theorem zKO {a:Option Addr}{n c:Nat}:lenV (.slice a n c)=some (.int .i64 n):=rfl
@[simp] theorem zYL {s:ByteArray}:zNb (.string s)=some (.int .i64 s.size):=rfl
@[simp] theorem zA7 {b:Bool}:unV .not (.bool b)=some (.bool (!b)):=rfl
@[simp] theorem zFH {k k':IntKind}{n:Int}:cvI k (.int k' n)=some (.int k (k.wrap n)):=rfl
@[simp] theorem zSC {i:Nat}{l:Array Value}:zE0 i (.tuple l)=l[i]?:=rfl
@[simp] theorem zAJ {q:EqK}{op:BinOp}{k:IntKind}{a b:Int}:zAB q op (.int k a) (.int k b)=zC8 op k a b:=by simp[zAB]
@[simp] theorem zGf {q:EqK}{op:BinOp}{a b:ByteArray}:zAB q op (.string a) (.string b)=zTt op a b:=by simp[zAB]
@[simp] theorem zTC {q:EqK}{k k':IntKind}{a b:Int}:zAB q .shl (.int k a) (.int k' b)=zC8 .shl k a b:=by unfold zAB;split<;>simp_all
@[simp] theorem zZW {q:EqK}{k k':IntKind}{a b:Int}:zAB q .shr (.int k a) (.int k' b)=zC8 .shr k a b:=by unfold zAB;split<;>simp_all
@[simp] theorem zAh1 {a b:Option Addr}:zAB .ptr .eql (.pointer a) (.pointer b)=(eqV .ptr (.pointer a) (.pointer b)).map .bool:=rfl
@[simp] theorem zAh2 {a b:Option Addr}:zAB .ptr .neq (.pointer a) (.pointer b)=(eqV .ptr (.pointer a) (.pointer b)).map λb => .bool (!b):=rfl
@[simp] theorem zAgC {a:Addr}:eqV .ptr (.pointer (some a)) (.pointer none)=some false:=rfl
@[simp] theorem zAgD {b:Option Addr}:eqV .ptr (.pointer none) (.pointer b)=some b.isNone:=rfl
@[simp] theorem zT6 {a b:Option Addr}{n c m d:Nat}:zAB .slc .eql (.slice a n c) (.slice b m d)=(eqV .slc (.slice a n c) (.slice b m d)).map .bool:=rfl
@[simp] theorem zXu {a:Addr}{n c m d:Nat}:eqV .slc (.slice (some a) n c) (.slice none m d)=some false:=rfl
@[simp] theorem zXv {b:Option Addr}{n c m d:Nat}:eqV .slc (.slice none n c) (.slice b m d)=some b.isNone:=rfl
@[simp] theorem zAjM {agg:Bool}{n off:Nat}{cs:Array Value}:zVV agg n off (.agg cs)=if agg=true then some (.agg (cs.extract off (off+n))) else cs[off]?:=rfl
@[simp] theorem zB8 {cs:Array Value}:Value.cells (.agg cs)=cs:=rfl
end
theorem zAI {P:Program}{f:FuncId}{args:List Value}{H:zAx}{R k:zAm}(h:zAA P f args H R)(hk:∀ v h,R v h->k v h):zAX P f args H k:=zAA.mono h hk
theorem zCe {n:Int}(h1 : -9223372036854775808<=n)(h2:n<=9223372036854775807):IntKind.i64.wrap n=n:=by
 simp only[IntKind.wrap,IntKind.bits,IntKind.signed]
 simp only[zBa]
 split
 ·rename_i h;simp at h;omega
 ·rename_i h;simp at h;omega
theorem zAcE {n:Int}(h1:0<=n)(h2:n<=255):IntKind.u8.wrap n=n:=by
 simp only[IntKind.wrap,IntKind.bits,IntKind.signed]
 simp;omega
def Keep (S:zA1)(H H':zAx):Prop:=H.size<=H'.size/\∀ k,k<H.size->¬ S k->H'[k]? = H[k]?
theorem Keep.refl {S:zA1}{H:zAx}:Keep S H H:=⟨zAh _,λ_ _ _=>rfl⟩
theorem Keep.trans {S:zA1}{a b c:zAx}(h:Keep S a b)(k:Keep S b c):Keep S a c :=
 ⟨zBh h.1 k.1,λi hi hs=>(k.2 i (zAM hi h.1) hs).trans (h.2 i hi hs)⟩
theorem Keep.mono {S S':zA1}{a b:zAx}(h:Keep S a b)(hs:∀ k,k<a.size->S k->S' k):Keep S' a b:=⟨h.1,λi hi hn=>h.2 i hi λhk=>hn (hs i hi hk)⟩
theorem Keep.push {S:zA1}{H:zAx}{o:Obj}:Keep S H (H.push o):=⟨by simp,λi hi _=>by rw[zCf,if_neg (by omega)]⟩
theorem Keep.set {S:zA1}{H:zAx}{b:Nat}{o:Obj}(h:S b):Keep S H (H.setIfInBounds b o):=⟨by simp,λi hi hn=>by
 rw[zAE,if_neg (by rintro rfl;exact hn h)]⟩
theorem lt_of {H:zAx}{b:Nat}{x:Obj}(h:H[b]? = some x):b<H.size:=(zBk.1 h).1
theorem Keep.at {S:zA1}{H H':zAx}(h:Keep S H H'){b:Nat}{x:Obj}(hb:H[b]? = some x)(hs:¬ S b):H'[b]? = some x:=by rw[h.2 b (lt_of hb) hs];exact hb
theorem zBm {H:zAx}{b:Nat}{x y:Obj}(h:H[b]? = some x):(H.setIfInBounds b y)[b]? = some y:=by simp[lt_of h]
theorem zAcF {H:zAx}{b c:Nat}{x y:Obj}(h:H[c]? = some x)(hn:b≠c):(H.setIfInBounds b y)[c]? = some x:=by rw[zAE,if_neg hn];exact h
theorem zTD {H:zAx}{b:Nat}{x y:Obj}(h:H[b]? = some x):(H.push y)[b]? = some x:=by rw[zCf,if_neg (Nat.ne_of_lt (lt_of h))];exact h
@[simp] theorem zCj {H:zAx}{y:Obj}:(H.push y)[H.size]? = some y:=by simp
def blk:Value->Option Nat
 | .slice (some a) (_+1) _=>some a.block
 | .pointer (some a)=>some a.block
 | _=>none
theorem zHY {a:Addr}{n c b:Nat}(h:blk (.slice (some a) n c)=some b):a.block=b/\n≠0:=by
 cases n with
 | zero=>cases h
 | succ n=>cases h;exact⟨rfl,by omega⟩
theorem zAgE {a:Addr}{n c:Nat}(h:n≠0):blk (.slice (some a) n c)=some a.block:=by
 cases n with
 | zero=>exact absurd rfl h
 | succ n=>rfl
theorem zAa7 {S:zA1}{H H':zAx}(h:Keep S H H'){n:Nat}{x:Value}{r:Nat×Array Value}(hl:zED n H x=some r)(hs:∀ b,blk x=some b->¬ S b):zED n H' x=some r:=by
 unfold zED at hl ⊢
 split at hl
 ·split at hl
  ·rename_i h0;rw[if_pos h0];exact hl
  ·rename_i h0;rw[if_neg h0]
   split at hl
   ·split at hl
    ·rename_i hb;simp only[h.at hb (hs _ (zAgE h0))];exact hl
    ·cases hl
   ·cases hl
 ·exact hl
 ·cases hl
def zBs (l:List UInt8):List Value:=l.map λb => .int .u8 b.toNat
@[simp] theorem zRI {l:List UInt8}:(zBs l).length=l.length:=by simp[zBs]
@[simp] theorem zJZ {l m:List UInt8}:zBs (l++m)=zBs l++zBs m:=by simp[zBs]
@[simp] theorem zAju:zBs []=[]:=rfl
@[simp] theorem zOD {b:UInt8}{l:List UInt8}:zBs (b::l) = .int .u8 b.toNat::zBs l:=rfl
theorem zT7 {l:List UInt8}{n:Nat}:zBs (l.take n)=(zBs l).take n:=by simp[zBs,zCD]
theorem zT8 {l:List UInt8}{n:Nat}:zBs (l.drop n)=(zBs l).drop n:=by simp[zBs,List.map_drop]
theorem bcells_one {l:List UInt8}:∀ v∈zBs l,v.oneCell'=true:=by
 intro v hv
 obtain⟨b,_,rfl⟩:=zAo.1 hv
 rfl
theorem zJk {l:List UInt8}:(zBs l).toArray.all (·.oneCell')=true:=by
 rw[zBA];intro v hv;exact bcells_one v (by simpa using hv)
theorem zK9 {l:List UInt8}:bytesOf (zBs l)=some l:=by
 induction l with
 | nil=>rfl
 | cons b l ih =>
  show(bytesOf (zBs l)).map (UInt8.ofNat ((b.toNat:Int)).toNat :: ·)=some (b::l)
  rw[ih];simp
theorem zAa8 {l m:List UInt8}(h:zBs l=zBs m):l=m:=by
 have:=congrArg bytesOf h
 rw[zK9,zK9]at this
 exact zAN this
def Bs (H:zAx)(v:Value)(l:List UInt8):Prop:=zED 1 H v=some (l.length,(zBs l).toArray)
theorem Bs.keep {S:zA1}{H H':zAx}{v:Value}{l:List UInt8}(h:Bs H v l)(k:Keep S H H')(hs:∀ b,blk v=some b->¬ S b):Bs H' v l:=zAa7 k h hs
theorem zTf {H:zAx}{a:Option Addr}{c:Nat}:Bs H (.slice a 0 c) []:=by unfold Bs zED;simp
theorem Bs.shape {H:zAx}{v:Value}{l:List UInt8}(h:Bs H v l):(∃ a c,v = .slice a 0 c/\l=[])\/(∃ b o c cs T f,v = .slice (some ⟨b,o,none⟩) l.length c/\H[b]? = some (.cells cs T f)/\o+l.length<=cs.size/\(cs.toList.drop o).take l.length=zBs l)\/∃ s,v = .string s/\l=s.data.toList:=by
 unfold Bs zED at h
 split at h
 ·rename_i a n c
  split at h
  ·rename_i hn
   simp only[zAn,Prod.mk.injEq]at h
   have:l=[]:=zBo.1 h.1.symm
   subst this hn
   exact .inl ⟨a,c,rfl,rfl⟩
  ·split at h
   ·rename_i b o
    split at h
    ·rename_i cs T f hb
     split at h
     ·rename_i hle
      simp only[zAn,Prod.mk.injEq]at h
      obtain⟨rfl,h⟩:=h
      refine .inr (.inl ⟨b,o,c,cs,T,f,rfl,hb,by simpa using hle,?_⟩)
      have:=congrArg Array.toList h
      simpa using this
     ·cases h
    ·cases h
   ·cases h
 ·rename_i s
  simp only[if_true,zAn,Prod.mk.injEq]at h
  refine .inr (.inr ⟨s,rfl,?_⟩)
  apply zAa8
  have:=congrArg Array.toList h.2
  simp at this
  rw[<- this]
  simp[zBs]
 ·cases h
theorem Bs.mk {H:zAx}{b o n c:Nat}{cs:Array Value}{T:TypeId}{f:Nat×Nat}{l:List UInt8}(hb:H[b]? = some (.cells cs T f))(hn:n=l.length)(hle:o+n<=cs.size)(hl:(cs.toList.drop o).take n=zBs l):Bs H (.slice (some ⟨b,o,none⟩) n c) l:=by
 subst hn
 unfold Bs zED
 simp only[hb,zCB]
 split
 ·rename_i h0
  have:l=[]:=zBo.1 h0
  subst this;rfl
 ·congr 2
  apply Array.ext'
  simpa using hl
theorem Bs.b2s {H:zAx}{v:Value}{l:List UInt8}(h:Bs H v l)(hv:∀ s,v ≠ .string s):b2s H v=some (.string ⟨l.toArray⟩):=by
 unfold Go.X.b2s
 have h':zED 1 H v=_:=h
 rcases h.shape with ⟨a,c,rfl,rfl⟩|⟨b,o,c,cs,T,f,rfl,_⟩|⟨s,rfl,_⟩
 ·simp only[h',zAZ,zK9,zAT]
 ·simp only[h',zAZ,zK9,zAT]
 ·exact absurd rfl (hv s)
abbrev Ptr (b o:Nat):Value := .pointer (some ⟨b,o,none⟩)
section at_
variable {H:zAx} {b:Nat} {cs:Array Value} {T:TypeId} {f:Nat×Nat}
theorem zTg (h:H[b]? = some (.cells cs T f))(o:Nat):ld1 H (Ptr b o)=cs[o]?:=by simp only[ld1,h]
theorem zAgF (h:H[b]? = some (.cells cs T f))(n o:Nat)(ho:o+n<=cs.size):ldN n H (Ptr b o)=some (.agg (cs.extract o (o+n))):=by simp only[ldN,h];rw[if_pos ho]
theorem zLL {o n:Nat}:zUV (0,0) o n=true:=by simp[zUV]
theorem zZX (h:H[b]? = some (.cells cs T (0,0)))(o:Nat)(v:Value)(ho:o<cs.size)(hv:v.oneCell'=true):st1 H (Ptr b o) v=some (H.setIfInBounds b (.cells (cs.setIfInBounds o v) T (0,0))):=by
 simp only[st1,h];rw[if_pos ⟨ho,zLL,hv⟩]
theorem zQM (h:H[b]? = some (.cells cs T f))(o:Nat)(vs:Array Value)(ht:zUV f o vs.size=true)(ho:o+vs.size<=cs.size)(hv:vs.all (·.oneCell')=true):stA H b o vs=some (H.setIfInBounds b (.cells (spl cs o vs) T f)):=by
 simp only[stA,h];rw[if_pos ⟨ho,ht,hv⟩]
theorem zAjN (h:H[b]? = some (.cells cs T (0,0)))(n o:Nat)(vs:Array Value)(hn:vs.size=n)(ho:o+n<=cs.size)(hv:vs.all (·.oneCell')=true):stN n H (Ptr b o) (.agg vs)=some (H.setIfInBounds b (.cells (spl cs o vs) T (0,0))):=by
 simp only[stN];rw[if_pos hn];exact zQM h o vs zLL (by omega) hv
end at_
theorem zKj {body:(zAm)->zAm}{v:Value}{H:zAx}(I:zAm)(μ:Value->zAx->Nat)(h0:I v H)
  (hs:∀ v h,I v h->∀ k:zAm,(∀ v' h',I v' h'->μ v' h'<μ v h->k v' h')->body k v h):L1 body v H:=by
 refine⟨λvs h=>∃ v,vs=[v]/\I v h,λvs h=>match vs with|[v]=>μ v h|_=>0,⟨v,rfl,h0⟩,?_⟩
 rintro vs h _ ⟨v,rfl,hI⟩
 exact hs v h hI _ λv' h' hI' hm=>⟨⟨v',rfl,hI'⟩,hm⟩
theorem zUY {body:(Value->zAm)->Value->zAm}{v u:Value}{H:zAx}(I:Value->zAm)(μ:Value->Value->zAx->Nat)(h0:I v u H)
  (hs:∀ v u h,I v u h->∀ k:Value->zAm,(∀ v' u' h',I v' u' h'->μ v' u' h'<μ v u h->k v' u' h')->body k v u h):L2 body v u H:=by
 refine⟨λvs h=>∃ v u,vs=[v,u]/\I v u h,λvs h=>match vs with|[v,u]=>μ v u h|_=>0,⟨v,u,rfl,h0⟩,?_⟩
 rintro vs h _ ⟨v,u,rfl,hI⟩
 exact hs v u h hI _ λv' u' h' hI' hm=>⟨⟨v',u',rfl,hI'⟩,hm⟩
theorem zAlK {body:(Value->Value->zAm)->Value->Value->zAm}{v u x:Value}{H:zAx}(I:Value->Value->zAm)(μ:Value->Value->Value->zAx->Nat)(h0:I v u x H)
  (hs:∀ v u x h,I v u x h->∀ k:Value->Value->zAm,(∀ v' u' x' h',I v' u' x' h'->μ v' u' x' h'<μ v u x h->k v' u' x' h')->body k v u x h):L3 body v u x H:=by
 refine⟨λvs h=>∃ v u x,vs=[v,u,x]/\I v u x h,λvs h=>match vs with|[v,u,x]=>μ v u x h|_=>0,⟨v,u,x,rfl,h0⟩,?_⟩
 rintro vs h _ ⟨v,u,x,rfl,hI⟩
 exact hs v u x h hI _ λv' u' x' h' hI' hm=>⟨⟨v',u',x',rfl,hI'⟩,hm⟩
abbrev zAmL (x:Addr):Prop:=x.block=x.block
structure Sl (P:zA1)(H:zAx)(v:Value)(l:List UInt8):Prop where
 bs:Bs H v l
 sl:∃ a c,v = .slice a l.length c/\l.length<=c/\∀ x,a=some x->zAmL x
 own:∀ b,blk v=some b->P b
theorem Sl.keep {P S:zA1}{H H':zAx}{v:Value}{l:List UInt8}(h:Sl P H v l)(k:Keep S H H')(hs:∀ b,P b->¬ S b):Sl P H' v l:=⟨h.bs.keep k λb hb=>hs b (h.own b hb),h.sl,h.own⟩
theorem Sl.mono {P Q:zA1}{H:zAx}{v:Value}{l:List UInt8}(h:Sl P H v l)(k:∀ b,P b->Q b):Sl Q H v l:=⟨h.bs,h.sl,λb hb=>k b (h.own b hb)⟩
theorem Sl.nil {P:zA1}{H:zAx}{c:Nat}:Sl P H (.slice none 0 c) []:=⟨zTf,⟨none,c,rfl,zAz _,λx h=>by cases h⟩,λb hb=>by cases hb⟩
theorem Sl.len {P:zA1}{H:zAx}{v:Value}{l:List UInt8}(h:Sl P H v l):lenV v=some (.int .i64 l.length):=by
 obtain⟨a,c,rfl,_⟩:=h.sl;rfl
theorem Sl.one {P:zA1}{H:zAx}{v:Value}{l:List UInt8}(h:Sl P H v l):v.oneCell'=true:=by
 obtain⟨a,c,rfl,_⟩:=h.sl;rfl
theorem Sl.cases {P:zA1}{H:zAx}{v:Value}{l:List UInt8}(h:Sl P H v l):(∃ a c,v = .slice a 0 c/\l=[]/\∀ x,a=some x->zAmL x)\/∃ b o c cs T f,v = .slice (some ⟨b,o,none⟩) l.length c/\P b/\l.length<=c/\H[b]? = some (.cells cs T f)/\o+l.length<=cs.size/\(cs.toList.drop o).take l.length=zBs l:=by
 obtain⟨a,c,hv,hc,hs⟩:=h.sl
 rcases h.bs.shape with ⟨a',c',rfl,rfl⟩|⟨b,o,c',cs,T,f,rfl,hb,hle,hl⟩|⟨s,rfl,_⟩
 ·cases hv
  exact .inl ⟨a,c,rfl,rfl,hs⟩
 ·cases hv
  by_cases h0:l=[]
  ·subst h0;exact .inl ⟨_,c,rfl,rfl,hs⟩
  ·exact .inr ⟨b,o,c,cs,T,f,rfl,h.own b (zAgE λe=>h0 (zBo.1 e)),hc,hb,hle,hl⟩
 ·cases hv
theorem Sl.b2s {P:zA1}{H:zAx}{v:Value}{l:List UInt8}(h:Sl P H v l):b2s H v=some (.string ⟨l.toArray⟩):=h.bs.b2s λs e=>by
 obtain⟨a,c,rfl,_⟩:=h.sl;cases e
theorem Sl.head {P:zA1}{H:zAx}{v:Value}{l:List UInt8}(h:Sl P H v l){n:Nat}(hn:n<=l.length):∃ u,slS 1 v none (some (.int .i64 n)) (some (.int .i64 n))=some u/\Sl P H u (l.take n):=by
 rcases h.cases with ⟨a,c,rfl,rfl,ha⟩|⟨b,o,c,cs,T,f,rfl,hp,hc,hb,hle,hl⟩
 ·have:n=0:=by simpa using hn
  subst this
  have hb:zNp 0 c none (some (.int .i64 0)) (some (.int .i64 0))=some (0,0,0):=by simp[zNp,bnd]
  rcases a with _|⟨b,o,_|sp⟩
  ·exact⟨.slice none 0 0,by simp[slS,hb],by simpa using Sl.nil⟩
  rotate_left
  ·exact⟨.slice (some ⟨b,o,some sp⟩) 0 0,by simp[slS,hb],by simpa using zTf,⟨some ⟨b,o,some sp⟩,0,rfl,zAh _,ha⟩,h.own⟩
  ·exact⟨.slice (some ⟨b,o,none⟩) 0 0,by simp[slS,hb],by simpa using zTf,⟨some ⟨b,o,none⟩,0,rfl,zAh _,ha⟩,h.own⟩
 ·have h1:(n:Int)<=c:=by omega
  have hb':zNp l.length c none (some (.int .i64 n)) (some (.int .i64 n))=some (0,n,n):=by simp[zNp,bnd,h1]
  refine⟨.slice (some ⟨b,o,none⟩) n n,?_,⟨Bs.mk hb ?_ ?_ ?_,⟨some ⟨b,o,none⟩,n,?_,?_,λx hx=>by cases hx;rfl⟩,λb' hb'=>?_⟩⟩
  ·simp[slS,hb']
  ·simp[hn]
  ·omega
  ·rw[zT7,<- hl,zDf,zBN hn]
  ·simp[hn]
  ·simp[hn]
  ·obtain⟨rfl,_⟩:=zHY hb';exact hp
theorem Sl.tail {P:zA1}{H:zAx}{v:Value}{l:List UInt8}(h:Sl P H v l){n:Nat}(hn:n<=l.length):∃ u,slS 1 v (some (.int .i64 n)) none none=some u/\Sl P H u (l.drop n):=by
 rcases h.cases with ⟨a,c,rfl,rfl,ha⟩|⟨b,o,c,cs,T,f,rfl,hp,hc,hb,hle,hl⟩
 ·have:n=0:=by simpa using hn
  subst this
  have hb:zNp 0 c (some (.int .i64 0)) none none=some (0,0,c):=by simp[zNp,bnd]
  rcases a with _|⟨b,o,_|sp⟩
  ·exact⟨.slice none 0 c,by simp[slS,hb],by simpa using Sl.nil⟩
  rotate_left
  ·exact⟨.slice (some ⟨b,o,some sp⟩) 0 c,by simp[slS,hb],by simpa using zTf,⟨some ⟨b,o,some sp⟩,c,rfl,zAz _,ha⟩,h.own⟩
  ·exact⟨.slice (some ⟨b,o,none⟩) 0 c,by simp[slS,hb],by simpa using zTf,⟨some ⟨b,o,none⟩,c,rfl,zAz _,ha⟩,h.own⟩
 ·have h1:(n:Int)<=l.length:=by omega
  have hb':zNp l.length c (some (.int .i64 n)) none none=some (n,l.length,c):=by simp[zNp,bnd,hc,hn]
  refine⟨.slice (some ⟨b,if c=n then o else o+n*1,none⟩) (l.length-n) (c-n),?_,⟨Bs.mk hb (by simp) ?_ ?_,⟨some ⟨b,if c=n then o else o+n*1,none⟩,c-n,by simp,by simp;omega,λx hx=>by cases hx;rfl⟩,λb' hb'=>by obtain⟨rfl,_⟩:=zHY hb';exact hp⟩⟩
  ·simp[slS,hb']
  ·split<;>omega
  ·rw[zT8,<- hl,zCz]
   split
   ·have:l.length-n=0:=by omega
    simp[this]
   ·simp[zCy]
theorem Sl.at {P:zA1}{H:zAx}{v:Value}{l:List UInt8}(h:Sl P H v l){i:Nat}{x:UInt8}(hi:l[i]? = some x):∃ u,ixS 1 v (.int .i64 i)=some u/\ld1 H u=some (.int .u8 x.toNat)/\∀ b,blk u=some b->P b:=by
 obtain⟨hlt,rfl⟩:=zAV.1 hi
 rcases h.cases with ⟨a,c,rfl,rfl,_⟩|⟨b,o,c,cs,T,f,rfl,hp,hc,hb,hle,hl⟩
 ·simp at hlt
 ·refine⟨Ptr b (o+i*1),?_,?_,λb' hb'=>by cases hb';exact hp⟩
  ·simp only[ixS];rw[if_pos ⟨by omega,by omega⟩];rfl
  ·rw[zTg hb]
   have:=congrArg (·[i]?) hl
   simp only[zCr,zC7]at this
   rw[if_pos hlt]at this
   simp only[zCB,zBs,zAq,hi,zAT]at this ⊢
   rw[<- this];simp
def Buf (F:zA1)(H:zAx)(v:Value)(l:List UInt8):Prop :=
 (v = .slice none 0 0/\l=[])\/∃ b o c cs T f,v = .slice (some ⟨b,o,none⟩) l.length c/\F b/\l.length<=c/\H[b]? = some (.cells cs T f)/\o+c<=cs.size/\(∀ i n,o<=i->i+n<=o+c->zUV f i n=true)/\(cs.toList.drop o).take l.length=zBs l
theorem Buf.sl {F:zA1}{H:zAx}{v:Value}{l:List UInt8}(h:Buf F H v l):Sl F H v l:=by
 rcases h with ⟨rfl,rfl⟩|⟨b,o,c,cs,T,f,rfl,hf,hc,hb,hle,ht,hl⟩
 ·exact Sl.nil
 ·exact⟨Bs.mk hb rfl (by omega) hl,⟨_,c,rfl,hc,λx hx=>by cases hx;rfl⟩,λb' hb'=>by obtain⟨rfl,_⟩:=zHY hb';exact hf⟩
theorem Buf.keep {F S:zA1}{H H':zAx}{v:Value}{l:List UInt8}(h:Buf F H v l)(k:Keep S H H')(hs:∀ b,F b->¬ S b):Buf F H' v l:=by
 rcases h with h|⟨b,o,c,cs,T,f,rfl,hf,hc,hb,hle,ht,hl⟩
 ·exact .inl h
 ·exact .inr ⟨b,o,c,cs,T,f,rfl,hf,hc,k.at hb (hs b hf),hle,ht,hl⟩
theorem zI0 {c vs:Array Value}{o:Nat}(h:o+vs.size<=c.size):(spl c o vs).size=c.size:=by simp[spl];omega
theorem Buf.app {F:zA1}{H:zAx}{s x:Value}{l m:List UInt8}{T:TypeId}{k:zAm}(h:Buf F H s l)(hx:Bs H x m)(hlen:l.length+m.length<=140737488355328)(hf:F H.size)
  (hk:∀ v H',Buf F H' v (l++m)->Keep F H H'->k v H'):zIw T 1 1 H s x k:=by
 rcases h with ⟨rfl,rfl⟩|⟨b,o,c,cs,T',f,rfl,hb',hc,hb,hle,ht,hl⟩
 ·refine⟨none,0,0,m.length,(zBs m).toArray,rfl,hx,zJk,λh0=>?_,λh0=>⟨by simpa using hlen,Nat.one_pos,#[],rfl,λcap rest h1 h2 h3=>?_⟩⟩
  ·have:m=[]:=zBo.1 (by omega)
   subst this
   exact hk _ _ (.inl ⟨rfl,rfl⟩) Keep.refl
  ·refine hk _ _ (.inr ⟨H.size,0,cap,_,T,(0,0),by simp,hf,by simpa using h1,zCj,?_,λ_ _ _ _=>zLL,?_⟩) Keep.push
   ·simp at h3 ⊢;omega
   ·simp
 ·refine⟨some ⟨b,o,none⟩,l.length,c,m.length,(zBs m).toArray,rfl,hx,zJk,λh0=>?_,λh0=>⟨by simpa using hlen,Nat.one_pos,(zBs l).toArray,?_,λcap rest h1 h2 h3=>?_⟩⟩
  ·refine⟨_,zQM hb _ _ (ht _ _ (by omega) (by simp;omega)) (by simp;omega) zJk,hk _ _ (.inr ⟨b,o,c,_,T',f,by simp,hb',by simpa using h0,zBm hb,?_,ht,?_⟩) (Keep.set hb')⟩
   ·rw[zI0 (by simp;omega)];exact hle
   ·have ho:o+l.length<=cs.size:=by omega
    show((List.take (o+l.length*1) cs.toList++zBs m++_).drop o).take (l++m).length=_
    rw[zCB,zBg,zCc (by simp;omega),zCz,zCK,hl]
    rw[<- zBg,zBj (by simp),<- zJZ,zAr (by simp)]
  ·exact Bs.mk hb rfl (by omega) hl
  ·refine hk _ _ (.inr ⟨H.size,0,cap,_,T,(0,0),by simp,hf,by simpa using h1,zCj,?_,λ_ _ _ _=>zLL,?_⟩) Keep.push
   ·simp at h3 ⊢;omega
   ·show(((zBs l).toArray++(zBs m).toArray++rest).toList.drop 0).take (l++m).length=_
    simp only[Array.toList_append];rw[zB4,zBj (by simp),<- zJZ,zAr (by simp)]
theorem ldN_mid {H:zAx}{b n o:Nat}{A B C:List Value}{T:TypeId}{f:Nat×Nat}(h:H[b]? = some (.cells (A++B++C).toArray T f))(ho:o=A.length)(hn:n=B.length):ldN n H (Ptr b o)=some (.agg B.toArray):=by
 subst ho hn
 rw[zAgF h _ _ (by simp)]
 congr 2
 apply Array.ext'
 simp[zBj]
theorem zPF {H:zAx}{b n o:Nat}{A B C B':List Value}{T:TypeId}(h:H[b]? = some (.cells (A++B++C).toArray T (0,0)))(ho:o=A.length)(hn:n=B.length)(hn':B'.length=n)(hv:B'.toArray.all (·.oneCell')=true):stN n H (Ptr b o) (.agg B'.toArray)=some (H.setIfInBounds b (.cells (A++B'++C).toArray T (0,0))):=by
 subst ho hn
 rw[zAjN h _ _ _ (by simpa using hn') (by simp) hv]
 congr 3
 unfold spl
 congr 1
 simp[hn',List.drop_append]
def bv (l:List UInt8):Value := .agg (zBs l).toArray
@[simp] theorem zAlo {l:List UInt8}:(bv l).cells=(zBs l).toArray:=rfl
theorem zPG {H:zAx}{b n:Nat}{l:List UInt8}{T:TypeId}{f:Nat×Nat}(h:H[b]? = some (.cells (zBs l).toArray T f))(hn:l.length=n):ldN n H (Ptr b 0)=some (bv l) :=
 ldN_mid (A:=[]) (B:=zBs l) (C:=[]) (by simpa using h) rfl (by simp[hn])
theorem zRJ {H:zAx}{b n:Nat}{l m:List UInt8}{T:TypeId}(h:H[b]? = some (.cells (zBs l).toArray T (0,0)))(hn:l.length=n)(hm:m.length=n):stN n H (Ptr b 0) (bv m)=some (H.setIfInBounds b (.cells (zBs m).toArray T (0,0))):=by
 have:=zPF (b:=b) (n:=n) (o:=0) (A:=[]) (B:=zBs l) (C:=[]) (B':=zBs m) (T:=T) (by simpa using h) rfl (by simp[hn]) (by simp[hm]) zJk
 simpa [bv] using this
theorem zAa9 {H:zAx}{q c:Nat}{z m:List UInt8}{x:Value}{T:TypeId}{k:zAm}(hq:H[q]? = some (.cells (zBs z).toArray T (0,0)))(hx:Bs H x m)(hm:m.length<=z.length)
  (hk:k (.int .i64 m.length) (H.setIfInBounds q (.cells (zBs (m++z.drop m.length)).toArray T (0,0)))):zQ0 1 H (.slice (some ⟨q,0,none⟩) z.length c) x k:=by
 have e1:Nat.min m.length z.length=m.length:=zBN hm
 have e3:(zBs m).toArray.extract 0 (m.length*1)=(zBs m).toArray:=by
  have:m.length*1=(zBs m).toArray.size:=by simp
  rw[this,Array.extract_size]
 have e2:spl (zBs z).toArray 0 (zBs m).toArray=(zBs (m++z.drop m.length)).toArray:=by
  simp[spl,zT8]
 refine⟨m.length,(zBs m).toArray,some ⟨q,0,none⟩,z.length,c,hx,rfl,?_⟩
 simp only[e1,e3]
 rw[zQM hq 0 _ zLL (by simpa using hm) zJk,e2,zAW]
 exact hk
def zLM (P:Program)(T:TypeId):Option (List (Nat×Nat)×Array Value) :=
 match P.underlying T with
 | some (.struct fs)=>match fs.toList.mapM (λf=>(P.info? f.type).map λi=>(f.offset,i.size)) with
  | some places=>(zBI P T).map λz=>(places,z)
  | none=>none
 | _=>none
theorem zHZ {P:Program}{T:TypeId}{pl:List (Nat×Nat)}{z:Array Value}{parts:List (Nat×Value)}(h:zLM P T=some (pl,z)):zCM P T parts=(zQ1 (pl.toArray[·]?) z parts).map .agg:=by
 unfold zLM at h
 unfold zCM
 split at h
 ·rename_i fs hfs
  rw[hfs]
  simp only
  split at h
  ·rename_i places hp
   rw[hp]
   cases hz:zBI P T with
   | none=>rw[hz]at h;cases h
   | some z'=>rw[hz]at h;cases h;rfl
  ·cases h
 ·cases h
theorem zRK {place:Nat->Option (Nat×Nat)}{c:Array Value}:zQ1 place c []=some c:=rfl
theorem zGH {place:Nat->Option (Nat×Nat)}{c:Array Value}{i:Nat}{v:Value}{r:List (Nat×Value)}{off n:Nat}(hp:place i=some (off,n))(hv:v.cells.size=n)(hc:off+n<=c.size):zQ1 place c ((i,v)::r)=zQ1 place (spl c off v.cells) r:=by
 simp only[zQ1,hp];rw[if_pos ⟨hv,hc⟩]
theorem zMI {q:EqK}{a b:Array Value}:zAB q .eql (.agg a) (.agg b)=(eqV q (.agg a) (.agg b)).map .bool:=by cases q<;>rfl
theorem zMJ {q:EqK}{a b:Array Value}:zAB q .neq (.agg a) (.agg b)=(eqV q (.agg a) (.agg b)).map λb => .bool (!b):=by cases q<;>rfl
theorem zJ0 {l m:List UInt8}(h:l.length=m.length):zCw (List.replicate l.length 0) (zBs l) (zBs m)=some (decide (l=m)):=by
 induction l generalizing m with
 | nil=>cases m with
  | nil=>rfl
  | cons b m=>cases h
 | cons a l ih=>cases m with
  | nil=>cases h
  | cons b m =>
   have e:zN1 0 (.int .u8 a.toNat) (.int .u8 b.toNat)=some (decide (a=b)):=by
    simp only[zN1,if_true]
    congr 1
    rw[zAR,beq_iff_eq,decide_eq_true_eq]
    constructor
    ·intro h;apply UInt8.toNat.inj;omega
    ·rintro rfl;rfl
   simp only[zAS,List.replicate_succ,zOD,zCw,e,ih (by simpa using h)]
   congr 1
   simp[zAR]
def Pt (H:zAx)(b o:Nat)(cs:List Value):Prop :=
 ∃ c T f,H[b]? = some (.cells c T f)/\o+cs.length<=c.size/\(c.toList.drop o).take cs.length=cs
theorem Pt.lt {H:zAx}{b o:Nat}{cs:List Value}(h:Pt H b o cs):b<H.size:=by obtain⟨c,T,f,hb,_⟩:=h;exact lt_of hb
theorem Pt.keep {S:zA1}{H H':zAx}{b o:Nat}{cs:List Value}(h:Pt H b o cs)(k:Keep S H H')(hs:¬ S b):Pt H' b o cs:=by
 obtain⟨c,T,f,hb,h1,h2⟩:=h;exact⟨c,T,f,k.at hb hs,h1,h2⟩
theorem Pt.of {H:zAx}{b:Nat}{cs:List Value}{T:TypeId}{f:Nat×Nat}(h:H[b]? = some (.cells cs.toArray T f)):Pt H b 0 cs:=⟨_,T,f,h,by simp,by simp⟩
theorem Pt.cell {H:zAx}{b o i:Nat}{cs:List Value}{v:Value}(h:Pt H b o cs)(hi:cs[i]? = some v):ld1 H (Ptr b (o+i))=some v:=by
 obtain⟨c,T,f,hb,h1,h2⟩:=h
 have hlt:=(zAV.1 hi).1
 rw[zTg hb]
 rw[<- h2,zCr,if_pos hlt,zC7]at hi
 rw[<- hi];simp
theorem Pt.cell0 {H:zAx}{b o:Nat}{cs:List Value}{v:Value}(h:Pt H b o cs)(hi:cs[0]? = some v):ld1 H (Ptr b o)=some v:=h.cell (i:=0) hi
theorem Pt.sub {H:zAx}{b o i n:Nat}{cs:List Value}(h:Pt H b o cs)(hi:i+n<=cs.length):Pt H b (o+i) ((cs.drop i).take n):=by
 obtain⟨c,T,f,hb,h1,h2⟩:=h
 have hl:((cs.drop i).take n).length=n:=by simp;omega
 refine⟨c,T,f,hb,by rw[hl];omega,?_⟩
 rw[hl,<- zCy]
 rw[<- h2,zCz,zDf,zBN (by omega)]
theorem Pt.mid {H:zAx}{b o o':Nat}{A B C:List Value}(h:Pt H b o (A++B++C))(ho:o'=o+A.length):Pt H b o' B:=by
 subst ho
 have:=h.sub (i:=A.length) (n:=B.length) (by simp)
 simpa [zBg,List.drop_append,List.take_append] using this
theorem Pt.agg {H:zAx}{b o n:Nat}{cs:List Value}(h:Pt H b o cs)(hn:cs.length=n):ldN n H (Ptr b o)=some (.agg cs.toArray):=by
 subst hn
 obtain⟨c,T,f,hb,h1,h2⟩:=h
 rw[zAgF hb _ _ h1]
 congr 2
 apply Array.ext'
 simpa using h2
section
variable {n:Nat} {xs:List (List Value)}
theorem zI1 (h:∀ x∈xs,x.length=n):xs.flatten.length=xs.length*n:=by
 induction xs with
 | nil=>simp
 | cons x xs ih =>
  simp only[zA5,zAt,zAS,ih λy hy=>h y (by simp[hy]),h x (by simp),zCF];omega
theorem zT9 (h:∀ x∈xs,x.length=n)(i:Nat):(xs.drop i).flatten=xs.flatten.drop (i*n):=by
 induction i generalizing xs with
 | zero=>simp
 | succ i ih=>cases xs with
  | nil=>simp
  | cons x xs =>
   have hx:=h x (by simp)
   rw[List.drop_succ_cons,ih λy hy=>h y (by simp[hy]),zA5,zCF]
   have e:(x++xs.flatten).drop (i*n+n)=x.drop (i*n+n)++xs.flatten.drop (i*n+n-x.length):=List.drop_append
   rw[e,zC9 (show x.length<=i*n+n by rw[hx];omega),zAY]
   congr 1;omega
theorem zUa (h:∀ x∈xs,x.length=n)(i:Nat):(xs.take i).flatten=xs.flatten.take (i*n):=by
 induction i generalizing xs with
 | zero=>simp
 | succ i ih=>cases xs with
  | nil=>simp
  | cons x xs =>
   have hx:=h x (by simp)
   rw[zBX,zA5,ih λy hy=>h y (by simp[hy]),zA5,zCF]
   have e:(x++xs.flatten).take (i*n+n)=x.take (i*n+n)++xs.flatten.take (i*n+n-x.length):=List.take_append
   rw[e,zAr (show x.length<=i*n+n by rw[hx];omega)]
   congr 2;omega
theorem zAe0 (h:∀ x∈xs,x.length=n){i:Nat}{x:List Value}(hi:xs[i]? = some x):(xs.flatten.drop (i*n)).take n=x:=by
 rw[<- zT9 h]
 obtain⟨hlt,rfl⟩:=zAV.1 hi
 rw[zBU hlt,zA5]
 have hx:=h xs[i] (by simp)
 rw[zBj (by omega),zAr (by omega)]
end
structure SlE (n:Nat)(P:zA1)(H:zAx)(v:Value)(xs:List (List Value)):Prop where
 ex:∃ a c,v = .slice a xs.length c/\xs.length<=c/\(xs=[]\/∃ b o,a=some ⟨b,o,none⟩/\P b/\Pt H b o xs.flatten)
 el:∀ x∈xs,x.length=n
 one:∀ x∈xs,∀ c∈x,c.oneCell'=true
section
variable {n:Nat} {P:zA1} {H:zAx} {v:Value} {xs:List (List Value)}
theorem SlE.nil {a:Option Addr}{c:Nat}:SlE n P H (.slice a 0 c) []:=⟨⟨a,c,rfl,zAz _,.inl rfl⟩,λx h=>(by cases h),λx h=>(by cases h)⟩
theorem SlE.keep {S:zA1}{H':zAx}(h:SlE n P H v xs)(k:Keep S H H')(hs:∀ b,P b->¬ S b):SlE n P H' v xs:=by
 obtain⟨⟨a,c,hv,hc,hx⟩,h2,h3⟩:=h
 refine⟨⟨a,c,hv,hc,hx.imp id ?_⟩,h2,h3⟩
 rintro⟨b,o,rfl,hP,hp⟩
 exact⟨b,o,rfl,hP,hp.keep k (hs _ hP)⟩
theorem SlE.mono {Q:zA1}(h:SlE n P H v xs)(k:∀ b,P b->Q b):SlE n Q H v xs:=by
 obtain⟨⟨a,c,hv,hc,hx⟩,h2,h3⟩:=h
 refine⟨⟨a,c,hv,hc,hx.imp id ?_⟩,h2,h3⟩
 rintro⟨b,o,rfl,hP,hp⟩
 exact⟨b,o,rfl,k _ hP,hp⟩
theorem SlE.len (h:SlE n P H v xs):lenV v=some (.int .i64 xs.length):=by obtain⟨⟨a,c,rfl,_⟩,_⟩:=h;rfl
theorem SlE.oneC (h:SlE n P H v xs):v.oneCell'=true:=by obtain⟨⟨a,c,rfl,_⟩,_⟩:=h;rfl
theorem SlE.elems (h:SlE n P H v xs):zED n H v=some (xs.length,xs.flatten.toArray):=by
 obtain⟨⟨a,c,rfl,hc,hx⟩,h2,h3⟩:=h
 unfold zED
 rcases hx with rfl|⟨b,o,rfl,_,c',T,f,hb,h4,h5⟩
 ·simp
 ·have hl:=zI1 h2
  by_cases h0:xs.length=0
  ·have:xs=[]:=zBo.1 h0
   subst this;simp
  ·simp only[hb,if_neg h0]
   rw[hl]at h4 h5
   rw[if_pos h4]
   congr 2
   apply Array.ext'
   simpa using h5
theorem SlE.all (h:SlE n P H v xs):xs.flatten.toArray.all (·.oneCell')=true:=by
 rw[zBA];intro c hc
 simp only[List.mem_toArray,List.mem_flatten]at hc
 obtain⟨x,hx,hc⟩:=hc
 exact h.one x hx c hc
theorem SlE.at (h:SlE n P H v xs){i:Nat}{x:List Value}(hi:xs[i]? = some x):∃ b o,(∀ k,ixS n v (.int k i)=some (Ptr b o))/\Pt H b o x/\P b:=by
 obtain⟨⟨a,c,rfl,hc,hx⟩,h2,h3⟩:=h
 have hlt:=(zAV.1 hi).1
 rcases hx with rfl|⟨b,o,rfl,hP,hp⟩
 ·simp at hlt
 ·refine⟨b,o+i*n,λk=>?_,?_,hP⟩
  ·simp only[ixS];rw[if_pos ⟨by omega,by omega⟩];rfl
  ·have:=hp.sub (i:=i*n) (n:=n) (by rw[zI1 h2];have:=zBq n (show i+1<=xs.length by omega);rw[zCF]at this;exact this)
   rwa [zAe0 h2 hi]at this
theorem SlE.cut (h:SlE n P H v xs)(hne:xs≠[]){lo hi:Nat}(h1:lo<=hi)(h2:hi<=xs.length){l r:Option Value}(hl:bnd 0 hi l=some lo)(hr:∀ c,xs.length<=c->bnd xs.length c r=some hi):∃ u,slS n v l r none=some u/\SlE n P H u ((xs.take hi).drop lo):=by
 obtain⟨⟨a,c,rfl,hc,hx⟩,he,ho⟩:=h
 have hb:zNp xs.length c l r none=some (lo,hi,c):=by
  unfold zNp
  rw[show bnd c c none=some c from rfl]
  simp only[zAZ,hr c hc,hl,zAT]
 have hlen:((xs.take hi).drop lo).length=hi-lo:=by simp;omega
 have el':∀ x∈(xs.take hi).drop lo,x.length=n:=λx hx=>he x (zBw (List.mem_of_mem_drop hx))
 have one':∀ x∈(xs.take hi).drop lo,∀ c∈x,c.oneCell'=true:=λx hx=>ho x (zBw (List.mem_of_mem_drop hx))
 rcases hx with rfl|⟨b,o,rfl,hP,hp⟩
 ·exact absurd rfl hne
 ·refine⟨.slice (some ⟨b,if c=lo then o else o+lo*n,none⟩) (hi-lo) (c-lo),by simp[slS,hb],⟨_,c-lo,by rw[hlen],by rw[hlen];omega,?_⟩,el',one'⟩
  by_cases h0:hi=lo
  ·left;apply zBo.1;omega
  ·right
   rw[if_neg (by omega)]
   refine⟨b,_,rfl,hP,?_⟩
   have hle:lo*n+(hi-lo)*n=hi*n:=by rw[<- Nat.add_mul];congr 1;omega
   have hle2:=zBq n h2
   have:=hp.sub (i:=lo*n) (n:=(hi-lo)*n) (by rw[zI1 he];omega)
   have e:((xs.take hi).drop lo).flatten=(xs.flatten.drop (lo*n)).take ((hi-lo)*n):=by
    rw[zT9 (λx hx=>he x (zBw hx)),zUa he,zCz]
    congr 1;omega
   rwa [e]
end
def BufE (n:Nat)(F:zA1)(H:zAx)(v:Value)(xs:List (List Value)):Prop :=
 (∀ x∈xs,x.length=n)/\(∀ x∈xs,∀ c∈x,c.oneCell'=true) /\
 ((v = .slice none 0 0/\xs=[])\/∃ b o c cs T f,v = .slice (some ⟨b,o,none⟩) xs.length c/\F b/\xs.length<=c/\H[b]? = some (.cells cs T f)/\o+c*n<=cs.size/\(∀ i n,zUV f i n=true)/\(cs.toList.drop o).take (xs.length*n)=xs.flatten)
section
variable {n:Nat} {F:zA1} {H:zAx} {v:Value} {xs:List (List Value)}
theorem BufE.nil:BufE n F H (.slice none 0 0) []:=⟨λx h=>(by cases h),λx h=>(by cases h),.inl ⟨rfl,rfl⟩⟩
theorem BufE.sl (h:BufE n F H v xs):SlE n F H v xs:=by
 obtain⟨h1,h2,h|⟨b,o,c,cs,T,f,rfl,hf,hc,hb,hle,ht,hl⟩⟩:=h
 ·obtain⟨rfl,rfl⟩:=h;exact SlE.nil
 ·refine⟨⟨_,c,rfl,hc,.inr ⟨b,o,rfl,hf,cs,T,f,hb,?_,?_⟩⟩,h1,h2⟩
  ·rw[zI1 h1];have:=zBq n hc;omega
  ·rw[zI1 h1];exact hl
theorem BufE.keep {S:zA1}{H':zAx}(h:BufE n F H v xs)(k:Keep S H H')(hs:∀ b,F b->¬ S b):BufE n F H' v xs:=by
 obtain⟨h1,h2,h|⟨b,o,c,cs,T,f,rfl,hf,hc,hb,hle,ht,hl⟩⟩:=h
 ·exact⟨h1,h2,.inl h⟩
 ·exact⟨h1,h2,.inr ⟨b,o,c,cs,T,f,rfl,hf,hc,k.at hb (hs b hf),hle,ht,hl⟩⟩
theorem BufE.mono {G:zA1}(h:BufE n F H v xs)(k:∀ b,F b->G b):BufE n G H v xs:=by
 obtain⟨h1,h2,h|⟨b,o,c,cs,T,f,rfl,hf,hr⟩⟩:=h
 ·exact⟨h1,h2,.inl h⟩
 ·exact⟨h1,h2,.inr ⟨b,o,c,cs,T,f,rfl,k _ hf,hr⟩⟩
theorem BufE.fresh {T:TypeId}{c:Nat}{cs:List Value}{f:Nat×Nat}(hb:∃ b,v = .slice (some ⟨b,0,none⟩) xs.length c/\F b/\H[b]? = some (.cells cs.toArray T f))(hc:xs.length<=c)(hle:c*n<=cs.length)(ht:∀ i n,zUV f i n=true)(hl:cs.take (xs.length*n)=xs.flatten)
  (h1:∀ x∈xs,x.length=n) (h2:∀ x∈xs,∀ c∈x,c.oneCell'=true):BufE n F H v xs:=by
 obtain⟨b,rfl,hf,hb⟩:=hb
 exact⟨h1,h2,.inr ⟨b,0,c,_,T,f,rfl,hf,hc,hb,by simpa using hle,ht,by simpa using hl⟩⟩
theorem BufE.app {P:zA1}{s x:Value}{ys:List (List Value)}{T:TypeId}{bytes:Nat}{k:zAm}(h:BufE n F H s xs)(hx:SlE n P H x ys)(hb0:0<bytes)(hlen:(xs.length+ys.length)*bytes<=140737488355328)(hf:F H.size)
  (hk:∀ v H',BufE n F H' v (xs++ys)->Keep F H H'->k v H'):zIw T n bytes H s x k:=by
 obtain⟨h1,h2,h⟩:=h
 have el:∀ x∈xs++ys,x.length=n:=λx h=>(zAp.1 h).elim (h1 x) (hx.el x)
 have one:∀ x∈xs++ys,∀ c∈x,c.oneCell'=true:=λx h=>(zAp.1 h).elim (h2 x) (hx.one x)
 have fl:=zI1 h1
 have fy:=zI1 hx.el
 rcases h with ⟨rfl,rfl⟩|⟨b,o,c,cs,T',f,rfl,hb',hc,hb,hle,ht,hl⟩
 ·refine⟨none,0,0,ys.length,ys.flatten.toArray,rfl,hx.elems,hx.all,λh0=>?_,λh0=>⟨by simpa using hlen,hb0,#[],rfl,λcap rest c1 c2 c3=>?_⟩⟩
  ·have:ys=[]:=zBo.1 (by omega)
   subst this
   exact hk _ _ ⟨el,one,.inl ⟨rfl,rfl⟩⟩ Keep.refl
  ·have hm:ys.length*n+(cap-ys.length)*n=cap*n:=by rw[<- Nat.add_mul];congr 1;omega
   refine hk _ _ ⟨el,one,.inr ⟨H.size,0,cap,_,T,(0,0),by simp,hf,by simpa using c1,zCj,?_,λ_ _=>by simp[zUV],?_⟩⟩ Keep.push
   ·simp at c3 ⊢;rw[c3];simp at fy;rw[fy];omega
   ·simp
    rw[zBj (by omega),zAr (by omega)]
 ·have hm:xs.length*n+ys.length*n=(xs.length+ys.length)*n:=by rw[Nat.add_mul]
  refine⟨some ⟨b,o,none⟩,xs.length,c,ys.length,ys.flatten.toArray,rfl,hx.elems,hx.all,λh0=>?_,λh0=>⟨hlen,hb0,xs.flatten.toArray,?_,λcap rest c1 c2 c3=>?_⟩⟩
  ·have hcn:=zBq n h0
   have hsz:o+xs.length*n+ys.flatten.toArray.size<=cs.size:=by simp only[zB7,fy];omega
   refine⟨_,zQM hb _ _ (ht _ _) hsz hx.all,hk _ _ ⟨el,one,.inr ⟨b,o,c,_,T',f,by simp,hb',by simpa using h0,zBm hb,?_,ht,?_⟩⟩ (Keep.set hb')⟩
   ·rw[zI0 hsz];exact hle
   ·show((List.take (o+xs.length*n) cs.toList++ys.flatten++_).drop o).take ((xs++ys).length*n)=_
    have hq:o+xs.length*n<=cs.toList.length:=by simp;omega
    rw[zBg,zCc (by simp;omega),zCz,zCK,hl,<- zBg,zBr,zAt,<- hm,<- fl,<- fy,<- zAt,zBj (by simp),zAr (zAh _)]
  ·exact(SlE.elems (P:=F) ⟨⟨_,c,rfl,hc,.inr ⟨b,o,rfl,hb',cs,T',f,hb,by rw[fl];have:=zBq n hc;omega,by rw[fl];exact hl⟩⟩,h1,h2⟩)
  ·have hm2:(xs.length+ys.length)*n+(cap-(xs.length+ys.length))*n=cap*n:=by rw[<- Nat.add_mul];congr 1;omega
   refine hk _ _ ⟨el,one,.inr ⟨H.size,0,cap,_,T,(0,0),by simp,hf,by simpa using c1,zCj,?_,λ_ _=>by simp[zUV],?_⟩⟩ Keep.push
   ·simp only[Array.size_append,zB7,fl,fy,c3];omega
   ·show((xs.flatten.toArray++ys.flatten.toArray++rest).toList.drop 0).take ((xs++ys).length*n)=_
    simp only[Array.toList_append,zB4,zBr,zAt,<- hm,<- fl,<- fy]
    rw[zBj (by simp),zAr (by simp)]
end
def zHL (l:List Value):List (List Value):=l.map λv=>[v]
@[simp] theorem zUb {l:List Value}:(zHL l).length=l.length:=by simp[zHL]
@[simp] theorem zMw {l:List Value}:(zHL l).flatten=l:=by induction l<;>simp_all [zHL]
theorem zQi {l:List Value}:∀ x∈zHL l,x.length=1:=by
 intro x hx;obtain⟨v,_,rfl⟩:=zAo.1 hx;rfl
theorem zPH {l:List Value}(h:∀ v∈l,v.oneCell'=true):∀ x∈zHL l,∀ c∈x,c.oneCell'=true:=by
 intro x hx c hc;obtain⟨v,hv,rfl⟩:=zAo.1 hx;obtain rfl:c=v:=by simpa using hc
 exact h _ hv
theorem zN7 {l:List Value}{i:Nat}{v:Value}(h:l[i]? = some v):(zHL l)[i]? = some [v]:=by simp[zHL,h]
theorem Buf.mono {F G:zA1}{H:zAx}{v:Value}{l:List UInt8}(h:Buf F H v l)(k:∀ b,F b->G b):Buf G H v l:=by
 rcases h with h|⟨b,o,c,cs,T,f,rfl,hf,hr⟩
 ·exact .inl h
 ·exact .inr ⟨b,o,c,cs,T,f,rfl,k _ hf,hr⟩
theorem Sl.pre {P:zA1}{H:zAx}{v:Value}{l:List UInt8}(h:Sl P H v l){n:Nat}(hn:n<=l.length):∃ u,slS 1 v none (some (.int .i64 n)) none=some u/\Sl P H u (l.take n):=by
 rcases h.cases with ⟨a,c,rfl,rfl,ha⟩|⟨b,o,c,cs,T,f,rfl,hp,hc,hb,hle,hl⟩
 ·have:n=0:=by simpa using hn
  subst this
  have hb:zNp 0 c none (some (.int .i64 0)) none=some (0,0,c):=by simp[zNp,bnd]
  rcases a with _|⟨b,o,_|sp⟩
  ·exact⟨.slice none 0 c,by simp[slS,hb],by simpa using Sl.nil⟩
  rotate_left
  ·exact⟨.slice (some ⟨b,o,some sp⟩) 0 c,by simp[slS,hb],by simpa using zTf,⟨some ⟨b,o,some sp⟩,c,rfl,zAz _,ha⟩,h.own⟩
  ·refine⟨.slice (some ⟨b,if c=0 then o else o+0*1,none⟩) 0 c,by simp[slS,hb],?_⟩
   exact⟨by simpa using zTf,⟨_,c,rfl,zAz _,λx hx=>by cases hx;rfl⟩,λb' hb'=>h.own b' (by obtain⟨rfl,h0⟩:=zHY hb';exact absurd rfl h0)⟩
 ·have h1:(n:Int)<=c:=by omega
  have hb':zNp l.length c none (some (.int .i64 n)) none=some (0,n,c):=by simp[zNp,bnd,show n<=c by omega]
  refine⟨.slice (some ⟨b,if c=0 then o else o+0*1,none⟩) n c,by simp[slS,hb'],⟨Bs.mk hb (by simp[hn]) ?_ ?_,⟨some ⟨b,if c=0 then o else o+0*1,none⟩,c,by simp[hn],by simp;omega,λx hx=>by cases hx;rfl⟩,λb' hb'=>by obtain⟨rfl,_⟩:=zHY hb';exact hp⟩⟩
  ·split<;>omega
  ·have:(if c=0 then o else o+0*1)=o:=by split<;>simp
   rw[this,zT7,<- hl,zDf,zBN hn]
theorem Buf.cut0 {F:zA1}{H:zAx}{v:Value}{l:List UInt8}(h:Buf F H v l):∃ u,slS 1 v none (some (.int .i64 0)) none=some u/\Buf F H u []:=by
 rcases h with ⟨rfl,rfl⟩|⟨b,o,c,cs,T,f,rfl,hf,hc,hb,hle,ht,hl⟩
 ·exact⟨.slice none 0 0,by simp[slS,zNp,bnd],.inl ⟨rfl,rfl⟩⟩
 ·have hb':zNp l.length c none (some (.int .i64 0)) none=some (0,0,c):=by simp[zNp,bnd]
  have e:(if c=0 then o else o+0*1)=o:=by split<;>simp
  exact⟨.slice (some ⟨b,if c=0 then o else o+0*1,none⟩) 0 c,by simp[slS,hb'],.inr ⟨b,_,c,cs,T,f,rfl,hf,zAz _,hb,by rw[e];exact hle,by rw[e];exact ht,by simp⟩⟩
theorem zSp {H:zAx}{b:Nat}{cs:List Value}{T:TypeId}{f:Nat×Nat}(h:H[b]? = some (.cells cs.toArray T f)){i:Nat}{v:Value}(hi:cs[i]? = some v):ld1 H (Ptr b i)=some v:=by
 rw[zTg h];simpa using hi
theorem zYt {H:zAx}{b:Nat}{cs:List Value}{T:TypeId}(h:H[b]? = some (.cells cs.toArray T (0,0))){i:Nat}{v:Value}(hi:i<cs.length)(hv:v.oneCell'=true):st1 H (Ptr b i) v=some (H.setIfInBounds b (.cells (cs.set i v).toArray T (0,0))):=by
 rw[zZX h _ _ (by simpa using hi) hv];simp
theorem zUc {n s b o:Nat}{k:IntKind}{i:Nat}(h:i<n):ixA n s (.pointer (some ⟨b,o,none⟩)) (.int k i)=some (Ptr b (o+i*s)):=by
 simp only[ixA];rw[if_pos ⟨by omega,by omega⟩];simp
theorem zSD {n b i:Nat}{k:IntKind}(h:i<n):ixA n 1 (.pointer (some ⟨b,0,none⟩)) (.int k i)=some (Ptr b i):=by rw[zUc h];simp
theorem zAlL {H:zAx}{q o n c:Nat}{x:Value}{T:TypeId}{cs:Array Value}{k:zAm}(hq:H[q]? = some (.cells cs T (0,0)))(ho:o<=cs.size)(hx:zED 1 H x=some (0,#[]))(hk:k (.int .i64 (0:Nat)) H):zQ0 1 H (.slice (some ⟨q,o,none⟩) n c) x k:=by
 refine⟨0,#[],some ⟨q,o,none⟩,n,c,hx,rfl,?_⟩
 have e:Nat.min 0 n=0:=Nat.zero_min n
 show Mwr (stA H q o (#[].extract 0 (Nat.min 0 n*1))) λh=>k (.int .i64 (Nat.min 0 n:Nat)) h
 rw[e]
 have hst:=zQM hq o (#[].extract 0 (0*1)) zLL (by simpa using ho) (by simp)
 have hset:H.setIfInBounds q (.cells (spl cs o (#[].extract 0 (0*1))) T (0,0))=H:=by
  have e2:spl cs o (#[].extract 0 (0*1))=cs:=by simp[spl]
  rw[e2]
  apply Array.ext_getElem?
  intro i
  rw[zAE]
  split
  ·rename_i hi;subst hi;rw[hq];rw[if_pos (lt_of hq)]
  ·rfl
 rw[hst,hset,zAW]
 exact hk
theorem zAjv {body:(zAx->Prop)->Prop}{rest:zAx->Prop}(I:zAx->Prop)(h1:∀ k:zAx->Prop,(∀ h,I h->k h)->body k)(h2:∀ h,I h->rest h):J0 body rest := .mk (h1 rest h2)
theorem zOt {body:(zAm)->Prop}{rest:zAm}(I:zAm)(h1:∀ k:zAm,(∀ x h,I x h->k x h)->body k)(h2:∀ x h,I x h->rest x h):J1 body rest := .mk (h1 rest h2)
theorem zMk {body:(Value->zAm)->Prop}{rest:Value->zAm}(I:Value->zAm)(h1:∀ k:Value->zAm,(∀ x y h,I x y h->k x y h)->body k)(h2:∀ x y h,I x y h->rest x y h):J2 body rest := .mk (h1 rest h2)
abbrev str (l:List UInt8):Value := .string ⟨l.toArray⟩
theorem str_of (s:ByteArray):Value.string s=str s.data.toList:=by
 obtain⟨a⟩:=s;simp
theorem zJa {l:List UInt8}:(ByteArray.mk l.toArray).size=l.length:=by simp[ByteArray.size]
theorem zLg {l:List UInt8}:(ByteArray.mk l.toArray).toList=l:=by simp
@[simp] theorem zFu {l:List UInt8}:zNb (str l)=some (.int .i64 l.length):=by rw[zYL,zJa]
theorem zLN {l:List UInt8}{i:Nat}{x:UInt8}{k:IntKind}(h:l[i]? = some x):ixT (str l) (.int k i)=some (.int .u8 x.toNat):=by
 obtain⟨hlt,rfl⟩:=zAV.1 h
 have e:(ByteArray.mk l.toArray)[i]? = some l[i]:=by
  rw[getElem?_pos (ByteArray.mk l.toArray) i (by rw[zJa];exact hlt)]
  rfl
 simp only[ixT];rw[if_pos (by omega)]
 simp only[zCS,e,zAT]
theorem zSE {l:List UInt8}{lo hi:Nat}{a b:Option Value}(h1:lo<=hi)(h2:hi<=l.length)(ha:bnd 0 hi a=some lo)(hb:bnd l.length l.length b=some hi):slT (str l) a b=some (str ((l.take hi).drop lo)):=by
 have hbn:zNp l.length l.length a b none=some (lo,hi,l.length):=by
  unfold zNp
  rw[show bnd l.length l.length none=some l.length from rfl]
  simp only[zAZ,hb,ha,zAT]
 have e:(ByteArray.mk l.toArray).extract lo hi=⟨((l.take hi).drop lo).toArray⟩:=by
  apply ByteArray.ext
  rw[ByteArray.data_extract]
  apply Array.ext'
  simp[List.extract_eq_take_drop,zCz]
 simp only[slT,zJa,hbn,zAT,e]
theorem zQ7 {a b:List UInt8}:zTt .eql ⟨a.toArray⟩ ⟨b.toArray⟩=some (.bool (decide (a=b))):=by
 simp only[zTt,zLg];congr 2;rw[zAR];simp
theorem zYM {a b:List UInt8}:zTt .neq ⟨a.toArray⟩ ⟨b.toArray⟩=some (.bool (!decide (a=b))):=by
 simp only[zTt,zLg];congr 2;rw[zAR];simp
theorem zWb {a b:List UInt8}(h:a.length+b.length<=9223372036854775807):zTt .add ⟨a.toArray⟩ ⟨b.toArray⟩=some (str (a++b)):=by
 simp only[zTt,zJa]
 rw[if_neg (by show ¬ ((a.length+b.length:Nat):Int) > 9223372036854775807;omega)]
 congr 2
@[simp] theorem zAlM {l:List UInt8}:(str l).oneCell'=true:=rfl
theorem zAgG {H:zAx}{l:List UInt8}:Bs H (str l) l:=by
 unfold Bs zED
 simp only[if_true,zJa]
 congr 2
 apply Array.ext'
 simp[zBs]
theorem Sl.str {P:zA1}{H:zAx}{v:Value}{l:List UInt8}(h:Sl P H v l):Go.X.b2s H v=some (str l):=h.b2s
def zAmM (P:Program)(fv:Value)(xs:List (List Value))(S:zA1)(St:zAx->Prop):Prop :=
 ∀ (yv:Value) (h0:zAx) (J:Nat->zAx->Prop) (E:zAx->Prop),St h0->J 0 h0 ->
  (∀ (i:Nat) (x:List Value) (h:zAx),xs[i]? = some x->J i h->zDQ P yv x h λv h'=>h.size<=h'.size/\(∀ b,S b->b<h.size->h'[b]? = h[b]?)/\((v = .bool true/\J (i+1) h')\/(v = .bool false/\E h'))) ->
  (∀ i h h',J i h->Keep S h h'->J i h')->(∀ h h',E h->Keep S h h'->E h') ->
  zAcs P fv [yv] h0 λ_ h=>J xs.length h\/E h
theorem range_i {P:Program}{n0:Nat}{fv:Value}{H:zAx}{B:List Value->zAx->(Option Code->zAx->Prop)->Prop}{rest:Option Code->zAx->Prop}
  {xs:List (List Value)} {S W:zA1} {St:zAx->Prop} (hit:zAmM P fv xs S St) (hst:∀ o o',St ((H.push o).push o')) (hn:n0<=H.size)
  (Inv:Nat->zAx->Prop) (Ex:Code->zAx->Prop) (h0:Inv 0 H)
  (sI:∀ i h h',Inv i h->Keep (λb=>S b\/b=H.size\/b=H.size+1) h h'->Inv i h')
  (sE:∀ c h h',Ex c h->Keep (λb=>S b\/b=H.size\/b=H.size+1) h h'->Ex c h')
  (hS:∀ b,S b->b<H.size) (hW:∀ b,W b->b≠H.size/\b≠H.size+1/\¬ S b)
  (hB:∀ (i:Nat) (x:List Value) (h:zAx) (r:Loop),xs[i]? = some x->Inv i h->h[H.size+1]? = some (.loop r)->r.state = .ready ->
   ∀ K:Option Code->zAx->Prop,(∀ h',Keep W (h.setIfInBounds (H.size+1) (.loop { r with state := .busy })) h'->Inv (i+1) h'->K none h') ->
    (∀ c h',Keep W (h.setIfInBounds (H.size+1) (.loop { r with state := .busy })) h'->Ex c h'->K (some c) h')->B x h K)
  (hrest:∀ h,H.size<=h.size->Inv xs.length h->rest none h) (hexit:∀ c h,H.size<=h.size->Ex c h->rest (some c) h):zTc P n0 fv H B rest:=by
 refine⟨hn,λrec hr hp hyield=>?_⟩
 have hsz:((H.push (.deferred (some []))).push (.loop rec)).size=H.size+2:=by simp
 have hL:((H.push (.deferred (some []))).push (.loop rec))[H.size+1]? = some (.loop rec):=by
  have:=zCj (H:=H.push (.deferred (some []))) (y := .loop rec)
  rwa [show(H.push (.deferred (some []))).size=H.size+1 by simp]at this
 have hSL:¬ S (H.size+1):=λh=>by have:=hS _ h;omega
 have main:=hit (.func (.yield (H.size+1)) #[] #[]) ((H.push (.deferred (some []))).push (.loop rec)) (λi h=>Inv i h/\h[H.size+1]? = some (.loop rec))
  (λh=>∃ c,Ex c h/\∃ r,h[H.size+1]? = some (.loop r)/\r.state = .done/\r.pending=some c) (hst _ _)
  ⟨sI _ _ _ h0 ((Keep.push (S:=λb=>S b\/b=H.size\/b=H.size+1)).trans Keep.push),hL⟩ ?_
  (λi h h' ⟨h1,h2⟩ k=>⟨sI _ _ _ h1 (k.mono λ_ _ h => .inl h),k.at h2 hSL⟩)
  (λh h' ⟨c,h1,r,h2,h3⟩ k=>⟨c,sE _ _ _ h1 (k.mono λ_ _ h => .inl h),r,k.at h2 hSL,h3⟩)
 ·obtain⟨f,fi,ca,e1,e2,hc⟩:=main
  refine⟨f,fi,ca,e1,e2,λw hw=>(hc w hw).mono λe w'=>?_⟩
  rintro⟨v,he,hs,hJ⟩
  refine⟨v,he,hs,?_⟩
  rcases hJ with ⟨hI,hl⟩|⟨c,hE,r,hl,hd,hpend⟩
  ·refine⟨rec,hl,by rw[hr];decide,?_⟩
   rw[hp]
   refine hrest _ ?_ (sI _ _ _ hI (Keep.set (.inr (.inr rfl))))
   simp;have:=lt_of hl;omega
  ·refine⟨r,hl,by rw[hd];decide,?_⟩
   rw[hpend]
   refine hexit _ _ ?_ (sE _ _ _ hE (Keep.set (.inr (.inr rfl))))
   simp;have:=lt_of hl;omega
 ·rintro i x h hx ⟨hI,hl⟩
  refine .inr ⟨H.size+1,#[],#[],rfl,hyield _ _ _ hl (hB i x h rec hx hI hl hr _ ?_ ?_)⟩
  ·intro h' k hI'
   have hl':=k.at (zBm (y := .loop { rec with state := .busy }) hl) (λh=>(hW _ h).2.1 rfl)
   have hsize:h.size<=h'.size:=by have:=k.1;simpa using this
   refine⟨_,hl',by simpa using hsize,λb hb hlt=>?_,.inl ⟨rfl,?_,?_⟩⟩
   ·have hne:H.size+1≠b:=λe=>hSL (e ▸ hb)
    rw[zAE,if_neg hne,k.2 b (by simpa using hlt) (λhw=>(hW _ hw).2.2 hb),zAE,if_neg hne]
   ·exact sI _ _ _ hI' (Keep.set (.inr (.inr rfl)))
   ·rw[zBm hl']
    congr 2
    cases rec;simp only at hr hp;subst hr hp;rfl
  ·intro c h' k hE
   have hl':=k.at (zBm (y := .loop { rec with state := .busy }) hl) (λh=>(hW _ h).2.1 rfl)
   have hsize:h.size<=h'.size:=by have:=k.1;simpa using this
   refine⟨_,hl',by simpa using hsize,λb hb hlt=>?_,.inr ⟨rfl,c,sE _ _ _ hE (Keep.set (.inr (.inr rfl))),_,zBm hl',rfl,rfl⟩⟩
   have hne:H.size+1≠b:=λe=>hSL (e ▸ hb)
   rw[zAE,if_neg hne,k.2 b (by simpa using hlt) (λhw=>(hW _ hw).2.2 hb),zAE,if_neg hne]
theorem Keep.busy {W:zA1}{h g:zAx}{L:Nat}{o o':Obj}(k:Keep W h g)(hl:h[L]? = some o'):Keep W (h.setIfInBounds L o) (g.setIfInBounds L o):=by
 have:=lt_of hl
 refine⟨by simpa using k.1,λi hi hn=>?_⟩
 have hi':i<h.size:=by simpa using hi
 have hig:i<g.size:=zAM hi' k.1
 rw[zAE,zAE]
 by_cases e:L=i
 ·subst e;rw[if_pos rfl,if_pos rfl,if_pos hig,if_pos hi']
 ·rw[if_neg e,if_neg e,k.2 i hi' hn]
def Shp (P:Program)(w:World):Nat->TypeId->List Value->Prop
 | 0,_,_=>False
 | d+1,t,cs=>match P.underlying t with
  | some .bool=>∃ b,cs=[.bool b]
  | some (.int k)=>∃ n,cs=[.int k n]/\(Lit.int k n).wf=true
  | some .string=>∃ s:ByteArray,cs=[.string s]/\s.size<=maxLen
  | some (.struct fs)=>cs.length=P.cellsOf t/\∀ (i:Nat) (f:Field),fs[i]? = some f->Shp P w d f.type ((cs.drop f.offset).take (P.cellsOf f.type))
  | some (.array n e)=>cs.length=P.cellsOf t/\∀ i,i<n->Shp P w d e ((cs.drop (i*P.cellsOf e)).take (P.cellsOf e))
  | some (.slice e)=>cs=[.slice none 0 0]\/∃ (a:Addr) (len cap:Nat),cs=[.slice (some a) len cap]/\len<=cap/\cap<=maxLen/\∀ i,i<len->∃ cs',w.cells? 0 (a.add (i*P.cellsOf e)) (P.cellsOf e)=some cs'/\Shp P w d e cs'
  | _=>True
theorem shp_of_trod {H:Type}{enc:TypeId×Value->H}{P:Program}{w:World}{base:Nat}{spare:Nat->Bool}{held:Bool}:∀ {fuel:Nat} {t:TypeId} {cs:List Value} {x:DataW H×List MemPlace},
  DataW.trod enc P w base spare held fuel t cs=some x->Shp P w fuel t cs
 | 0,t,cs,x,h=>by simp[DataW.trod]at h
 | n+1,t,cs,x,h=>by
  simp only[Shp]
  split
  ·rename_i ht;obtain⟨b,hb,_⟩:=DataW.trod_bool ht h;exact⟨b,hb⟩
  ·rename_i k ht;obtain⟨m,hm,_,hw⟩:=DataW.trod_int ht h;exact⟨m,hm,hw⟩
  ·rename_i ht;obtain⟨s,hs,_,hw⟩:=DataW.trod_string ht h;exact⟨s,hs,hw⟩
  ·rename_i fs ht
   obtain⟨xs,m,hm,_,hl,hxl,hf⟩:=DataW.trod_struct ht h
   obtain rfl:n=m:=by omega
   refine⟨hl,λi f hi=>?_⟩
   have h1:=hf i f hi
   have hlt:i<xs.length:=by rw[hxl];exact(zBk.1 hi).1
   rw[zAj hlt]at h1
   exact shp_of_trod h1
  ·rename_i k e ht
   unfold DataW.trod at h
   rw[ht]at h
   simp only at h
   split at h
   ·rename_i hl
    obtain⟨xs,hm,_⟩:=zBF.1 h
    refine⟨hl,λi hi=>?_⟩
    have h1:=mapM_some_get hm i i (by simp[hi])
    have hlen:xs.length=k:=by simpa using mapM_some_length hm
    rw[zAj (by omega)]at h1
    exact shp_of_trod h1
   ·cases h
  ·rename_i e ht
   rcases DataW.trod_slice ht h with ⟨h0,_⟩|⟨a,len,cap,elems,rest,m,hm,hc,_,hb,hl,hcap,hel,hg,_⟩
   ·exact .inl h0
   ·obtain rfl:n=m:=by omega
    refine .inr ⟨a,len,cap,hc,hl,hcap,λi hi=>?_⟩
    have h1:=hg i hi
    rw[zAj (by omega)]at h1
    obtain⟨cs',h2,h3⟩:=Option.bind_eq_some_iff.1 h1
    refine⟨cs',?_,shp_of_trod h3⟩
    unfold World.cells? at h2 ⊢
    rw[if_pos (zAz _)]
    split at h2
    ·exact h2
    ·cases h2
  ·trivial
theorem zUd {w:World}{a:Addr}{n:Nat}{cs:List Value}(hn:0<n)(h:w.cells? 0 a n=some cs):a.spot=none/\cs.length=n/\Pt w.heap a.block a.off cs:=by
 obtain⟨_,hl,hc⟩:=World.cells?_some h
 obtain⟨b,o,sp⟩:=a
 have h1:=hc 0 hn
 have h1':w.cell? ⟨b,o,sp⟩=cs[0]?:=h1
 rw[zAj (by omega)]at h1'
 obtain⟨c,T,f,hb,rfl⟩:∃ c T f,w.heap[b]? = some (.cells c T f)/\sp=none:=by
  unfold World.cell? at h1'
  split at h1'
  ·rename_i c T f hb
   cases sp with
   | none=>exact⟨c,T,f,hb,rfl⟩
   | some s=>cases h1'
  ·cases h1'
 have hcs:∀ i,i<n->c[o+i]? = cs[i]?:=λi hi=>by
  have h2:=hc i hi
  have e:(⟨b,o,none⟩:Addr).add i=⟨b,o+i,none⟩:=by
   unfold Addr.add;split
   ·rename_i h;subst h;rfl
   ·rfl
  rw[e]at h2
  unfold World.cell? at h2
  simp only[hb]at h2
  exact h2
 have hlast:o+(n-1)<c.size:=by
  have:=hcs (n-1) (by omega)
  rw[zAj (by omega)]at this
  exact(zBk.1 this).1
 refine⟨rfl,hl,c,T,f,hb,(show o+cs.length<=c.size by omega),?_⟩
 apply zCT
 intro i
 simp only[zCr,zC7]
 split
 ·rename_i hi
  rw[<- hcs i (by omega)];simp
 ·rw[zDj (by omega)]
theorem zJl {w:World}{n:Nat}(hn:0<n){a:Addr}{len cap:Nat}{q:List Value->Prop}(hle:len<=cap)(hq:∀ cs,q cs->∀ c∈cs,c.oneCell'=true)
  (h:∀ i,i<len->∃ cs,w.cells? 0 (a.add (i*n)) n=some cs/\q cs):∃ xs:List (List Value),xs.length=len/\SlE n (· < w.heap.size) w.heap (.slice (some a) len cap) xs/\∀ x∈xs,q x:=by
 by_cases h0:len=0
 ·subst h0;exact⟨[],rfl,SlE.nil,λx hx=>by cases hx⟩
 obtain⟨c0,hc0,_⟩:=h 0 (by omega)
 have ha0:a.add (0*n)=a:=by simp[Addr.add]
 rw[ha0]at hc0
 obtain⟨hsp,_,hpt0⟩:=zUd hn hc0
 obtain⟨b,o,sp⟩:=a
 simp only at hsp hpt0
 subst hsp
 have hadd:∀ i,(⟨b,o,none⟩:Addr).add i=⟨b,o+i,none⟩:=λi=>by
  unfold Addr.add;split
  ·rename_i h;subst h;rfl
  ·rfl
 have key:∀ k,k<=len->∃ xs:List (List Value),xs.length=k/\(∀ x∈xs,x.length=n)/\(∀ x∈xs,q x)/\Pt w.heap b o xs.flatten:=by
  intro k
  induction k with
  | zero =>
   intro _
   obtain⟨c,T,f,hb,h1,h2⟩:=hpt0
   exact⟨[],rfl,λx h=>(by cases h),λx h=>(by cases h),c,T,f,hb,by simp;omega,by simp⟩
  | succ k ih =>
   intro hk
   obtain⟨xs,hx1,hx2,hx3,c,T,f,hb,h1,h2⟩:=ih (by omega)
   obtain⟨cs,hcs,hqc⟩:=h k (by omega)
   rw[hadd]at hcs
   obtain⟨_,hcl,c',T',f',hb',h1',h2'⟩:=zUd hn hcs
   simp only at hb' h1' h2'
   rw[hb]at hb'
   cases hb'
   have hfl:=zI1 hx2
   refine⟨xs++[cs],by simp[hx1],?_,?_,c,T,f,hb,?_,?_⟩
   ·intro x hx
    rcases zAp.1 hx with hx|hx
    ·exact hx2 x hx
    ·simp at hx;subst hx;exact hcl
   ·intro x hx
    rcases zAp.1 hx with hx|hx
    ·exact hx3 x hx
    ·simp at hx;subst hx;exact hqc
   ·simp only[zBr,zA5,zCp,zAP,zAt,hfl,hx1];omega
   ·simp only[zBr,zA5,zCp,zAP,zAt]
    rw[List.take_add,h2,zCy,hfl,hx1,h2']
 obtain⟨xs,hx1,hx2,hx3,hp⟩:=key len (zAh _)
 exact⟨xs,hx1,⟨⟨_,cap,by rw[hx1],by omega,.inr ⟨b,o,rfl,hp.lt,hp⟩⟩,hx2,λx hx=>hq x (hx3 x hx)⟩,hx3⟩
theorem shp_int {P:Program}{w:World}{d:Nat}{t:TypeId}{k:IntKind}{cs:List Value}(ht:P.underlying t=some (.int k))(h:Shp P w d t cs):∃ n,cs=[.int k n]/\(Lit.int k n).wf=true:=by
 cases d with
 | zero=>exact h.elim
 | succ d=>simp only[Shp,ht]at h;exact h
theorem zSF {P:Program}{w:World}{d:Nat}{t:TypeId}{cs:List Value}(ht:P.underlying t=some .string)(h:Shp P w d t cs):∃ s:ByteArray,cs=[.string s]/\s.size<=maxLen:=by
 cases d with
 | zero=>exact h.elim
 | succ d=>simp only[Shp,ht]at h;exact h
theorem zAba {P:Program}{w:World}{d:Nat}{t:TypeId}{fs:Array Field}{cs:List Value}(ht:P.underlying t=some (.struct fs))(h:Shp P w d t cs):∃ d',cs.length=P.cellsOf t/\∀ (i:Nat) (f:Field),fs[i]? = some f->Shp P w d' f.type ((cs.drop f.offset).take (P.cellsOf f.type)):=by
 cases d with
 | zero=>exact h.elim
 | succ d=>simp only[Shp,ht]at h;exact⟨d,h⟩
theorem zWc {P:Program}{w:World}{d n:Nat}{t e:TypeId}{k:IntKind}{cs:List Value}(ht:P.underlying t=some (.array n e))(he:P.underlying e=some (.int k))(hc:P.cellsOf e=1)(hn:P.cellsOf t=n)(h:Shp P w d t cs) :
  ∃ l:List Int,l.length=n/\cs=l.map (Value.int k)/\∀ x∈l,(Lit.int k x).wf=true:=by
 cases d with
 | zero=>exact h.elim
 | succ d =>
  simp only[Shp,ht]at h
  obtain⟨hl,hf⟩:=h
  rw[hn]at hl
  have each:∀ i (hi:i<n),∃ m,cs[i]? = some (.int k m)/\(Lit.int k m).wf=true:=λi hi=>by
   obtain⟨m,hm,hw⟩:=shp_int he (hf i hi)
   rw[hc,zCB]at hm
   refine⟨m,?_,hw⟩
   have:=congrArg (·[0]?) hm
   simpa [zCr,zC7] using this
  refine⟨cs.map λv=>match v with | .int _ m=>m|_=>0,by simpa using hl,?_,?_⟩
  ·apply zCT
   intro i
   by_cases hi:i<n
   ·obtain⟨m,hm,_⟩:=each i hi
    simp[hm]
   ·simp[zDj (show cs.length<=i by omega)]
  ·intro x hx
   obtain⟨v,hv,rfl⟩:=zAo.1 hx
   obtain⟨i,hi,rfl⟩:=zBK hv
   obtain⟨m,hm,hw⟩:=each i (by omega)
   rw[zAj hi]at hm
   rw[zAN hm]
   exact hw
theorem zVm {l:List Int}(h:∀ x∈l,(Lit.int .u8 x).wf=true):∃ r:List UInt8,r.length=l.length/\l.map (Value.int .u8)=zBs r:=by
 refine⟨l.map λn=>UInt8.ofNat n.toNat,by simp,?_⟩
 simp only[zBs,List.map_map]
 refine zBW λx hx=>?_
 have hz:=h x hx
 simp only[Lit.wf,IntKind.min,IntKind.max,IntKind.signed,IntKind.bits]at hz
 simp only[Function.comp]
 congr 1
 simp at hz ⊢
 omega
theorem zXw {P:Program}{w:World}{name:String}{k:IntKind}{zs:List Int}{g n:Nat}{t e:TypeId}(hg:P.globalNamed name=some g)(hty:(P.globals[g]?).map (·.type)=some t)(ht:P.underlying t=some (.array n e))(he:P.underlying e=some (.int k))(hce:P.cellsOf e=1)(hct:P.cellsOf t=n) :
  ∀ {l:List (String×DataW Unit)} {ps:List MemPlace},DataW.LaidVars P w l ps->(name,Lib.tabData k zs)∈l->∃ T f,w.heap[g]? = some (.cells (zs.map (Value.int k)).toArray T f)
 | [],_,_,hm=>by cases hm
 | (nm,d)::r,ps,h,hm=>by
  obtain⟨g',t',cs,fuel,p,q,hg',ht',hvar,hd,hrest,_⟩:=h
  rcases zAs.1 hm with he'|hm
  ·cases he'
   obtain rfl:=zAN (hg.symm.trans hg')
   obtain rfl:=zAN (hty.symm.trans ht')
   have hcs:=Lib.cells_of_tab ht he hce hct hd
   unfold World.var? at hvar
   rw[hg,zAZ]at hvar
   split at hvar
   ·rename_i cs' T f hb
    cases zAN hvar
    rw[<- hcs]
    exact⟨T,f,by simpa using hb⟩
   ·cases hvar
  ·exact zXw hg hty ht he hce hct hrest hm
end Go.X
