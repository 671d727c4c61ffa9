import Derived.Test.YticdfkoncnnmmaaGreatDoorGP
import Derived.Test.YticdfkoncnnmmaaGreatDoorProg
import Derived.KernelRfl
import Derived.ChangeSlices
import Derived.ChangeArms
import Derived.Lib.LaidTab
set_option linter.unusedSimpArgs false
set_option linter.unusedVariables false
set_option maxRecDepth 100000
namespace Go.Proofs.YticdfkoncnnmmaaGreatDoor
open Go.X
noncomputable abbrev prg:Program:=Tryz.prog
abbrev zIF:Nat:=5
abbrev zD4:Nat:=9
abbrev zER:Nat:=10
abbrev zCN:Nat:=11
abbrev zIt:Nat:=12
abbrev zMK:Nat:=13
abbrev zFE:Nat:=15
abbrev zES:Nat:=16
abbrev zLd:Nat:=17
abbrev zDd:Nat:=18
abbrev zE5:Nat:=19
abbrev zHR:Nat:=20
abbrev zHS:Nat:=21
abbrev zLL:Nat:=24
abbrev zLl:Nat:=25
abbrev zD5:Nat:=26
abbrev zFZ:Nat:=27
abbrev zFr:Nat:=28
abbrev zJO:Nat:=29
abbrev zFm:Nat:=30
abbrev zC8:Nat:=31
abbrev zGX:Nat:=32
abbrev zSt:Nat:=34
abbrev zGw:Nat:=35
abbrev zFn:Nat:=39
abbrev zLM:Nat:=40
abbrev zNy:Nat:=41
abbrev zOF:Nat:=42
abbrev zMi:Nat:=43
abbrev zCV:Nat:=44
abbrev zCr:Nat:=45
abbrev zOG:Nat:=46
abbrev zDz:Nat:=47
abbrev zDL:Nat:=48
abbrev zF7:Nat:=49
abbrev zNQ:Nat:=50
abbrev zCX:Nat:=51
abbrev zDn:Nat:=52
abbrev zFF:Nat:=53
abbrev zE6:Nat:=54
abbrev zGk:Nat:=55
abbrev zSu:Nat:=56
abbrev zLe:Nat:=57
abbrev zF8:Nat:=58
abbrev zOH:Nat:=61
abbrev zCK:Nat:=62
abbrev zFs:Nat:=63
abbrev zHl:Nat:=64
abbrev zHT:Nat:=65
abbrev zCy:Nat:=66
abbrev zJP:Nat:=67
abbrev zHm:Nat:=68
abbrev zHn:Nat:=69
abbrev zHU:Nat:=70
abbrev zE7:Nat:=71
abbrev zDs:Nat:=72
abbrev zIu:Nat:=73
abbrev zFt:Nat:=74
abbrev zRO:Nat:=75
abbrev zGx:Nat:=76
abbrev zDZ:Nat:=77
abbrev zDA:Nat:=80
abbrev zCl:Nat:=81
abbrev zNz:Nat:=82
abbrev zML:Nat:=84
abbrev zLf:Nat:=85
abbrev zBT:Nat:=86
abbrev zJQ:Nat:=87
abbrev zCD:Nat:=88
abbrev zIb:Nat:=89
abbrev zCO:Nat:=90
abbrev zOI:Nat:=91
abbrev zFG:Nat:=92
abbrev zMj:Nat:=93
abbrev zEj:Nat:=94
abbrev zHj:Nat:=95
abbrev zF0:Nat:=96
abbrev zGy:Nat:=97
abbrev zGz:Nat:=98
abbrev zI9:Nat:=99
abbrev zET:Nat:=100
abbrev zEL:Nat:=101
abbrev zEM:Nat:=102
abbrev zEu:Nat:=103
abbrev zPL:Nat:=104
abbrev zI2:Nat:=105
abbrev zI3:Nat:=106
abbrev zJR:Nat:=107
abbrev zJS:Nat:=108
abbrev zEk:Nat:=109
abbrev zEa:Nat:=110
abbrev zFo:Nat:=111
abbrev zDl:Nat:=112
abbrev zD6:Nat:=113
abbrev zD7:Nat:=114
abbrev zIv:Nat:=115
abbrev zEN:Nat:=116
abbrev zEl:Nat:=117
abbrev zJT:Nat:=118
abbrev zDB:Nat:=119
abbrev zTV:Nat:=120
abbrev zF9:Nat:=121
abbrev zLN:Nat:=122
abbrev zB2:Nat:=123
abbrev zEU:Nat:=124
abbrev zFH:Nat:=125
abbrev zFB:Nat:=126
abbrev zJU:Nat:=127
abbrev zE8:Nat:=128
abbrev zLg:Nat:=129
abbrev zOJ:Nat:=130
abbrev zHv:Nat:=131
abbrev zNR:Nat:=132
abbrev zD0:Nat:=133
abbrev zEE:Nat:=134
abbrev zEV:Nat:=135
abbrev zMk:Nat:=136
abbrev zDo:Nat:=137
abbrev zGO:Nat:=138
abbrev zPn:Nat:=139
abbrev zOK:Nat:=140
abbrev zHo:Nat:=141
abbrev zGY:Nat:=142
abbrev zGA:Nat:=143
abbrev zNS:Nat:=144
abbrev zNm:Nat:=145
abbrev zKO:Nat:=146
abbrev zGp:Nat:=147
abbrev zDh:Nat:=148
abbrev zFI:Nat:=149
abbrev zJV:Nat:=150
abbrev zKv:Nat:=151
abbrev zDm:Nat:=152
abbrev zE9:Nat:=153
abbrev zGB:Nat:=154
abbrev zFa:Nat:=155
abbrev zKP:Nat:=156
abbrev zDH:Nat:=157
abbrev zJW:Nat:=158
abbrev zHp:Nat:=159
abbrev zF1:Nat:=160
abbrev zNA:Nat:=161
abbrev zGZ:Nat:=162
abbrev zKQ:Nat:=163
abbrev zGl:Nat:=164
abbrev zG8:Nat:=165
abbrev zGm:Nat:=166
abbrev zGC:Nat:=167
abbrev zGt:Nat:=168
abbrev zFp:Nat:=169
abbrev zGa:Nat:=170
abbrev zG0:Nat:=171
abbrev zSv:Nat:=172
abbrev zGD:Nat:=173
abbrev zEm:Nat:=174
abbrev zJX:Nat:=175
abbrev zJY:Nat:=178
abbrev zEn:Nat:=179
abbrev zFU:Nat:=180
abbrev zEA:Nat:=181
abbrev zDG:Nat:=182
abbrev zHq:Nat:=183
abbrev zDt:Nat:=184
abbrev zPM:Nat:=185
abbrev zDC:Nat:=186
abbrev zHw:Nat:=187
abbrev zGb:Nat:=188
abbrev zGE:Nat:=189
abbrev zGq:Nat:=190
abbrev zEQ:Nat:=191
abbrev zFV:Nat:=192
abbrev zG9:Nat:=193
abbrev zSw:Nat:=194
abbrev zFf:Nat:=195
abbrev zJZ:Nat:=196
abbrev zHx:Nat:=197
abbrev zKw:Nat:=198
abbrev zEb:Nat:=199
abbrev zDQ:Nat:=200
abbrev zMM:Nat:=201
abbrev zEo:Nat:=202
abbrev zHV:Nat:=203
abbrev zIw:Nat:=204
abbrev zRc:Nat:=205
abbrev zPo:Nat:=206
abbrev zHa:Nat:=207
abbrev zG1:Nat:=208
abbrev zHr:Nat:=209
abbrev zGc:Nat:=210
abbrev zHI:Nat:=211
abbrev zJ0:Nat:=215
abbrev zFg:Nat:=216
abbrev zBU:Nat:=217
abbrev zMl:Nat:=218
abbrev zJD:Nat:=219
abbrev zNn:Nat:=220
abbrev zGF:Nat:=221
abbrev zGG:Nat:=222
abbrev zEc:Nat:=223
abbrev zDM:Nat:=224
abbrev zLO:Nat:=225
abbrev zHb:Nat:=226
abbrev zGP:Nat:=227
abbrev zNo:Nat:=228
abbrev zHJ:Nat:=229
abbrev zFu:Nat:=230
abbrev zEd:Nat:=231
abbrev zHK:Nat:=233
abbrev zEe:Nat:=235
abbrev zGQ:Nat:=236
abbrev zNp:Nat:=237
abbrev zHy:Nat:=238
abbrev zHz:Nat:=239
abbrev zC0:Nat:=243
abbrev zKR:Nat:=244
abbrev zIG:Nat:=245
abbrev zKS:Nat:=246
abbrev zIH:Nat:=247
abbrev zJE:Nat:=248
abbrev zJa:Nat:=249
abbrev zG2:Nat:=250
abbrev zKT:Nat:=251
abbrev zIx:Nat:=252
abbrev zKm:Nat:=253
abbrev zKU:Nat:=256
abbrev zIy:Nat:=257
abbrev zLP:Nat:=258
abbrev zLQ:Nat:=259
abbrev zEp:Nat:=0
abbrev zMN:Nat:=1
abbrev zGn:Nat:=2
abbrev zJb:Nat:=3
abbrev zDu:Nat:=4
abbrev zDD:Nat:=5
abbrev zQL:Nat:=6
abbrev zMO:Nat:=7
abbrev zDT:Nat:=8
abbrev zNT:Nat:=9
abbrev zNU:Nat:=10
abbrev NG:Nat:=11
abbrev zHL:Nat:=3
abbrev zXe:Nat:=4
abbrev zCk:Nat:=5
abbrev zBJ:Nat:=9
abbrev zDI:Nat:=22
abbrev zHc:Nat:=23
abbrev zAeW:Nat:=24
abbrev zAT:Nat:=26
abbrev zBI:Nat:=28
abbrev zEv:Nat:=30
abbrev zB5:Nat:=32
abbrev zCg:Nat:=40
abbrev zHW:Nat:=41
abbrev zDk:Nat:=45
abbrev zGH:Nat:=46
abbrev zAg:Nat:=48
abbrev zMP:Nat:=53
abbrev zA6:Nat:=55
abbrev zEq:Nat:=62
abbrev zBn:Nat:=68
abbrev zCj:Nat:=80
abbrev zVb:Nat:=85
abbrev zBq:Nat:=91
abbrev zAE:Nat:=101
abbrev zRd:Nat:=107
abbrev zI4:Nat:=114
abbrev zFv:Nat:=126
abbrev zBM:Nat:=132
abbrev zFC:Nat:=138
abbrev zYB:Nat:=154
abbrev zDe:Nat:=166
abbrev zII:Nat:=168
abbrev zJc:Nat:=182
abbrev zBZ:Nat:=184
abbrev zC9:Nat:=204
abbrev zZK:Nat:=213
abbrev zFh:Nat:=214
abbrev zDa:Nat:=216
abbrev zZL:Nat:=217
abbrev zMm:Nat:=239
abbrev zHX:Nat:=245
abbrev zLR:Nat:=249
abbrev zBP:Nat:=252
abbrev zDR:Nat:=255
abbrev zIc:Nat:=258
abbrev zJd:Nat:=268
abbrev zEr:Nat:=278
abbrev zS7:Nat:=292
abbrev zKx:Nat:=297
abbrev zL5:Nat:=299
end Go.Proofs.YticdfkoncnnmmaaGreatDoor
namespace Go.X
section
variable {H:zAw}
@[simp] theorem zAa {v:Value}{k:Value->Prop}:Mpu (some v) k↔k v:=by simp[Mpu]
@[simp] theorem zAV {h:zAw}{k:zAw->Prop}:Mwr (some h) k↔k h:=by simp[Mwr]
@[simp] theorem zBb {T:TypeId}{c:Array Value}{k:zAm}:zDq H T (some c) k↔k (.pointer (some ⟨H.size,0,none⟩)) (H.push (.cells c T (0,0))):=by simp[zDq]
@[simp] theorem zCo {T:TypeId}{n:Nat}{c:Array Value}{k:zAm}:zD2 H T n (some c) k↔k (.slice (some ⟨H.size,0,none⟩) n n) (H.push (.cells c T (0,0))):=by simp[zD2]
@[simp] theorem zAl {b:Bool}{x y:Prop}:Mcd (.bool b) x y↔if b=true then x else y:=by cases b<;>simp[Mcd]
@[simp] theorem zAO {b w:Bool}{x y:Prop}:Mif (.bool b) w x y↔if b=w then x else y:=by cases b<;>cases w<;>simp[Mif]
@[simp] theorem zAU {w:Bool}{x y:Prop}:Mif undef w x y↔y:=by simp[Mif,undef]
@[simp] theorem zA8 {p:Prop}:Mre [] p↔p:=Iff.rfl
@[simp] theorem zZM {a:Option Value}{b:Value}{l:List (Option Value×Value)}{p:Prop}:Mre ((a,b)::l) p↔a=some b/\Mre l p:=Iff.rfl
@[simp] theorem zHY {a:Addr}:nck (.pointer (some a))=some (.pointer (some a)):=rfl
@[simp] theorem zBi {off b o:Nat}:fld off (.pointer (some ⟨b,o,none⟩))=some (.pointer (some ⟨b,o+off,none⟩)):=rfl
@[simp] theorem zAv {c:Bool}{a b:Value}:zBw (.bool c) a b=some (if c=true then a else b):=rfl
theorem zAm4:type_of% (And.intro @Bool.not_true (And.intro @Bool.not_false (And.intro @zAO (And.intro @zAU (And.intro @zAv (And.intro @zAl (And.intro @zAa (And.intro @if_true (And.intro @if_false (And.intro @Bool.false_eq_true (And.intro @Bool.true_eq_false (And.intro @decide_true @decide_false)))))))))))):=And.intro @Bool.not_true (And.intro @Bool.not_false (And.intro @zAO (And.intro @zAU (And.intro @zAv (And.intro @zAl (And.intro @zAa (And.intro @if_true (And.intro @if_false (And.intro @Bool.false_eq_true (And.intro @Bool.true_eq_false (And.intro @decide_true @decide_false)))))))))))
@[simp] theorem zKV {a:Option Addr}{n c:Nat}:zDp (.slice a n c)=some (.int .i64 n):=rfl
@[simp] theorem zYC {s:ByteArray}:zMd (.string s)=some (.int .i64 s.size):=rfl
@[simp] theorem zBa {b:Bool}:unV .not (.bool b)=some (.bool (!b)):=rfl
@[simp] theorem zFJ {k k':IntKind}{n:Int}:cvI k (.int k' n)=some (.int k (k.wrap n)):=rfl
@[simp] theorem zSx {i:Nat}{l:Array Value}:zE2 i (.tuple l)=l[i]?:=rfl
@[simp] theorem zAJ {q:EqK}{op:BinOp}{k:IntKind}{a b:Int}:zAB q op (.int k a) (.int k b)=zC5 op k a b:=by simp[zAB]
@[simp] theorem zGu {q:EqK}{op:BinOp}{a b:ByteArray}:zAB q op (.string a) (.string b)=zTt op a b:=by simp[zAB]
@[simp] theorem zTx {q:EqK}{k k':IntKind}{a b:Int}:zAB q .shl (.int k a) (.int k' b)=zC5 .shl k a b:=by unfold zAB;split<;>simp_all
@[simp] theorem zZN {q:EqK}{k k':IntKind}{a b:Int}:zAB q .shr (.int k a) (.int k' b)=zC5 .shr k a b:=by unfold zAB;split<;>simp_all
@[simp] theorem zAhS {a b:Option Addr}:zAB .ptr .eql (.pointer a) (.pointer b)=(eqV .ptr (.pointer a) (.pointer b)).map .bool:=rfl
@[simp] theorem zAhT {a b:Option Addr}:zAB .ptr .neq (.pointer a) (.pointer b)=(eqV .ptr (.pointer a) (.pointer b)).map λb => .bool (!b):=rfl
@[simp] theorem zAgp {a:Addr}:eqV .ptr (.pointer (some a)) (.pointer none)=some false:=rfl
@[simp] theorem zAgq {b:Option Addr}:eqV .ptr (.pointer none) (.pointer b)=some b.isNone:=rfl
@[simp] theorem zTW {a b:Option Addr}{n c m d:Nat}:zAB .slc .eql (.slice a n c) (.slice b m d)=(eqV .slc (.slice a n c) (.slice b m d)).map .bool:=rfl
@[simp] theorem zXf {a:Addr}{n c m d:Nat}:eqV .slc (.slice (some a) n c) (.slice none m d)=some false:=rfl
@[simp] theorem zXg {b:Option Addr}{n c m d:Nat}:eqV .slc (.slice none n c) (.slice b m d)=some b.isNone:=rfl
@[simp] theorem zAjB {agg:Bool}{n off:Nat}{cs:Array Value}:zVL agg n off (.agg cs)=if agg=true then some (.agg (cs.extract off (off+n))) else cs[off]?:=rfl
@[simp] theorem zB3 {cs:Array Value}:Value.cells (.agg cs)=cs:=rfl
end
theorem zAI {P:Program}{f:FuncId}{args:List Value}{H:zAw}{R k:zAm}(h:zAz P f args H R)(hk:∀ v h,R v h->k v h):zAY P f args H k:=zAz.mono h hk
theorem zCc {n:Int}(h1 : -9223372036854775808<=n)(h2:n<=9223372036854775807):IntKind.i64.wrap n=n:=by
 simp only[IntKind.wrap,IntKind.bits,IntKind.signed]
 simp only[zBf]
 split
 ·rename_i h;simp at h;omega
 ·rename_i h;simp at h;omega
theorem zAcx {n:Int}(h1:0<=n)(h2:n<=255):IntKind.u8.wrap n=n:=by
 simp only[IntKind.wrap,IntKind.bits,IntKind.signed]
 simp;omega
def Keep (S:zA3)(H H':zAw):Prop:=H.size<=H'.size/\∀ k,k<H.size->¬ S k->H'[k]? = H[k]?
theorem Keep.refl {S:zA3}{H:zAw}:Keep S H H:=⟨zAi _,λ_ _ _=>rfl⟩
theorem Keep.trans {S:zA3}{a b c:zAw}(h:Keep S a b)(k:Keep S b c):Keep S a c :=
 ⟨zBk h.1 k.1,λi hi hs=>(k.2 i (zAN hi h.1) hs).trans (h.2 i hi hs)⟩
theorem Keep.mono {S S':zA3}{a b:zAw}(h:Keep S a b)(hs:∀ k,k<a.size->S k->S' k):Keep S' a b:=⟨h.1,λi hi hn=>h.2 i hi λhk=>hn (hs i hi hk)⟩
theorem Keep.push {S:zA3}{H:zAw}{o:Obj}:Keep S H (H.push o):=⟨by simp,λi hi _=>by rw[zCd,if_neg (by omega)]⟩
theorem Keep.set {S:zA3}{H:zAw}{b:Nat}{o:Obj}(h:S b):Keep S H (H.setIfInBounds b o):=⟨by simp,λi hi hn=>by
 rw[zAC,if_neg (by rintro rfl;exact hn h)]⟩
theorem lt_of {H:zAw}{b:Nat}{x:Obj}(h:H[b]? = some x):b<H.size:=(zBh.1 h).1
theorem Keep.at {S:zA3}{H H':zAw}(h:Keep S H H'){b:Nat}{x:Obj}(hb:H[b]? = some x)(hs:¬ S b):H'[b]? = some x:=by rw[h.2 b (lt_of hb) hs];exact hb
theorem zBp {H:zAw}{b:Nat}{x y:Obj}(h:H[b]? = some x):(H.setIfInBounds b y)[b]? = some y:=by simp[lt_of h]
theorem zAcy {H:zAw}{b c:Nat}{x y:Obj}(h:H[c]? = some x)(hn:b≠c):(H.setIfInBounds b y)[c]? = some x:=by rw[zAC,if_neg hn];exact h
theorem zTy {H:zAw}{b:Nat}{x y:Obj}(h:H[b]? = some x):(H.push y)[b]? = some x:=by rw[zCd,if_neg (Nat.ne_of_lt (lt_of h))];exact h
@[simp] theorem zCh {H:zAw}{y:Obj}:(H.push y)[H.size]? = some y:=by simp
def blk:Value->Option Nat
 | .slice (some a) (_+1) _=>some a.block
 | .pointer (some a)=>some a.block
 | _=>none
theorem zHZ {a:Addr}{n c b:Nat}(h:blk (.slice (some a) n c)=some b):a.block=b/\n≠0:=by
 cases n with
 | zero=>cases h
 | succ n=>cases h;exact⟨rfl,by omega⟩
theorem zAgr {a:Addr}{n c:Nat}(h:n≠0):blk (.slice (some a) n c)=some a.block:=by
 cases n with
 | zero=>exact absurd rfl h
 | succ n=>rfl
theorem zAaX {S:zA3}{H H':zAw}(h:Keep S H H'){n:Nat}{x:Value}{r:Nat×Array Value}(hl:zEz n H x=some r)(hs:∀ b,blk x=some b->¬ S b):zEz n H' x=some r:=by
 unfold zEz at hl ⊢
 split at hl
 ·split at hl
  ·rename_i h0;rw[if_pos h0];exact hl
  ·rename_i h0;rw[if_neg h0]
   split at hl
   ·split at hl
    ·rename_i hb;simp only[h.at hb (hs _ (zAgr h0))];exact hl
    ·cases hl
   ·cases hl
 ·exact hl
 ·cases hl
def zBD (l:List UInt8):List Value:=l.map λb => .int .u8 b.toNat
@[simp] theorem zRP {l:List UInt8}:(zBD l).length=l.length:=by simp[zBD]
@[simp] theorem zJ1 {l m:List UInt8}:zBD (l++m)=zBD l++zBD m:=by simp[zBD]
@[simp] theorem zAjk:zBD []=[]:=rfl
@[simp] theorem zOL {b:UInt8}{l:List UInt8}:zBD (b::l) = .int .u8 b.toNat::zBD l:=rfl
theorem zTX {l:List UInt8}{n:Nat}:zBD (l.take n)=(zBD l).take n:=by simp[zBD,zCA]
theorem zTY {l:List UInt8}{n:Nat}:zBD (l.drop n)=(zBD l).drop n:=by simp[zBD,List.map_drop]
theorem bcells_one {l:List UInt8}:∀ v∈zBD l,v.oneCell'=true:=by
 intro v hv
 obtain⟨b,_,rfl⟩:=zAo.1 hv
 rfl
theorem zJn {l:List UInt8}:(zBD l).toArray.all (·.oneCell')=true:=by
 rw[zBB];intro v hv;exact bcells_one v (by simpa using hv)
theorem zLh {l:List UInt8}:bytesOf (zBD l)=some l:=by
 induction l with
 | nil=>rfl
 | cons b l ih =>
  show(bytesOf (zBD l)).map (UInt8.ofNat ((b.toNat:Int)).toNat :: ·)=some (b::l)
  rw[ih];simp
theorem zAaY {l m:List UInt8}(h:zBD l=zBD m):l=m:=by
 have:=congrArg bytesOf h
 rw[zLh,zLh]at this
 exact zAL this
def Bs (H:zAw)(v:Value)(l:List UInt8):Prop:=zEz 1 H v=some (l.length,(zBD l).toArray)
theorem Bs.keep {S:zA3}{H H':zAw}{v:Value}{l:List UInt8}(h:Bs H v l)(k:Keep S H H')(hs:∀ b,blk v=some b->¬ S b):Bs H' v l:=zAaX k h hs
theorem zS8 {H:zAw}{a:Option Addr}{c:Nat}:Bs H (.slice a 0 c) []:=by unfold Bs zEz;simp
theorem Bs.shape {H:zAw}{v:Value}{l:List UInt8}(h:Bs H v l):(∃ a c,v = .slice a 0 c/\l=[])\/(∃ b o c cs T f,v = .slice (some ⟨b,o,none⟩) l.length c/\H[b]? = some (.cells cs T f)/\o+l.length<=cs.size/\(cs.toList.drop o).take l.length=zBD l)\/∃ s,v = .string s/\l=s.data.toList:=by
 unfold Bs zEz at h
 split at h
 ·rename_i a n c
  split at h
  ·rename_i hn
   simp only[zAn,Prod.mk.injEq]at h
   have:l=[]:=zBr.1 h.1.symm
   subst this hn
   exact .inl ⟨a,c,rfl,rfl⟩
  ·split at h
   ·rename_i b o
    split at h
    ·rename_i cs T f hb
     split at h
     ·rename_i hle
      simp only[zAn,Prod.mk.injEq]at h
      obtain⟨rfl,h⟩:=h
      refine .inr (.inl ⟨b,o,c,cs,T,f,rfl,hb,by simpa using hle,?_⟩)
      have:=congrArg Array.toList h
      simpa using this
     ·cases h
    ·cases h
   ·cases h
 ·rename_i s
  simp only[if_true,zAn,Prod.mk.injEq]at h
  refine .inr (.inr ⟨s,rfl,?_⟩)
  apply zAaY
  have:=congrArg Array.toList h.2
  simp at this
  rw[<- this]
  simp[zBD]
 ·cases h
theorem Bs.mk {H:zAw}{b o n c:Nat}{cs:Array Value}{T:TypeId}{f:Nat×Nat}{l:List UInt8}(hb:H[b]? = some (.cells cs T f))(hn:n=l.length)(hle:o+n<=cs.size)(hl:(cs.toList.drop o).take n=zBD l):Bs H (.slice (some ⟨b,o,none⟩) n c) l:=by
 subst hn
 unfold Bs zEz
 simp only[hb,zCv]
 split
 ·rename_i h0
  have:l=[]:=zBr.1 h0
  subst this;rfl
 ·congr 2
  apply Array.ext'
  simpa using hl
theorem Bs.b2s {H:zAw}{v:Value}{l:List UInt8}(h:Bs H v l)(hv:∀ s,v ≠ .string s):b2s H v=some (.string ⟨l.toArray⟩):=by
 unfold Go.X.b2s
 have h':zEz 1 H v=_:=h
 rcases h.shape with ⟨a,c,rfl,rfl⟩|⟨b,o,c,cs,T,f,rfl,_⟩|⟨s,rfl,_⟩
 ·simp only[h',zAZ,zLh,zAR]
 ·simp only[h',zAZ,zLh,zAR]
 ·exact absurd rfl (hv s)
abbrev Ptr (b o:Nat):Value := .pointer (some ⟨b,o,none⟩)
section at_
variable {H:zAw} {b:Nat} {cs:Array Value} {T:TypeId} {f:Nat×Nat}
theorem zS9 (h:H[b]? = some (.cells cs T f))(o:Nat):ld1 H (Ptr b o)=cs[o]?:=by simp only[ld1,h]
theorem zAgs (h:H[b]? = some (.cells cs T f))(n o:Nat)(ho:o+n<=cs.size):ldN n H (Ptr b o)=some (.agg (cs.extract o (o+n))):=by simp only[ldN,h];rw[if_pos ho]
theorem zLS {o n:Nat}:zUM (0,0) o n=true:=by simp[zUM]
theorem zZO (h:H[b]? = some (.cells cs T (0,0)))(o:Nat)(v:Value)(ho:o<cs.size)(hv:v.oneCell'=true):st1 H (Ptr b o) v=some (H.setIfInBounds b (.cells (cs.setIfInBounds o v) T (0,0))):=by
 simp only[st1,h];rw[if_pos ⟨ho,zLS,hv⟩]
theorem zQW (h:H[b]? = some (.cells cs T f))(o:Nat)(vs:Array Value)(ht:zUM f o vs.size=true)(ho:o+vs.size<=cs.size)(hv:vs.all (·.oneCell')=true):stA H b o vs=some (H.setIfInBounds b (.cells (spl cs o vs) T f)):=by
 simp only[stA,h];rw[if_pos ⟨ho,ht,hv⟩]
theorem zAjC (h:H[b]? = some (.cells cs T (0,0)))(n o:Nat)(vs:Array Value)(hn:vs.size=n)(ho:o+n<=cs.size)(hv:vs.all (·.oneCell')=true):stN n H (Ptr b o) (.agg vs)=some (H.setIfInBounds b (.cells (spl cs o vs) T (0,0))):=by
 simp only[stN];rw[if_pos hn];exact zQW h o vs zLS (by omega) hv
end at_
theorem zKn {body:(zAm)->zAm}{v:Value}{H:zAw}(I:zAm)(μ:Value->zAw->Nat)(h0:I v H)
  (hs:∀ v h,I v h->∀ k:zAm,(∀ v' h',I v' h'->μ v' h'<μ v h->k v' h')->body k v h):L1 body v H:=by
 refine⟨λvs h=>∃ v,vs=[v]/\I v h,λvs h=>match vs with|[v]=>μ v h|_=>0,⟨v,rfl,h0⟩,?_⟩
 rintro vs h _ ⟨v,rfl,hI⟩
 exact hs v h hI _ λv' h' hI' hm=>⟨⟨v',rfl,hI'⟩,hm⟩
theorem zVc {body:(Value->zAm)->Value->zAm}{v u:Value}{H:zAw}(I:Value->zAm)(μ:Value->Value->zAw->Nat)(h0:I v u H)
  (hs:∀ v u h,I v u h->∀ k:Value->zAm,(∀ v' u' h',I v' u' h'->μ v' u' h'<μ v u h->k v' u' h')->body k v u h):L2 body v u H:=by
 refine⟨λvs h=>∃ v u,vs=[v,u]/\I v u h,λvs h=>match vs with|[v,u]=>μ v u h|_=>0,⟨v,u,rfl,h0⟩,?_⟩
 rintro vs h _ ⟨v,u,rfl,hI⟩
 exact hs v u h hI _ λv' u' h' hI' hm=>⟨⟨v',u',rfl,hI'⟩,hm⟩
theorem zAlt {body:(Value->Value->zAm)->Value->Value->zAm}{v u x:Value}{H:zAw}(I:Value->Value->zAm)(μ:Value->Value->Value->zAw->Nat)(h0:I v u x H)
  (hs:∀ v u x h,I v u x h->∀ k:Value->Value->zAm,(∀ v' u' x' h',I v' u' x' h'->μ v' u' x' h'<μ v u x h->k v' u' x' h')->body k v u x h):L3 body v u x H:=by
 refine⟨λvs h=>∃ v u x,vs=[v,u,x]/\I v u x h,λvs h=>match vs with|[v,u,x]=>μ v u x h|_=>0,⟨v,u,x,rfl,h0⟩,?_⟩
 rintro vs h _ ⟨v,u,x,rfl,hI⟩
 exact hs v u x h hI _ λv' u' x' h' hI' hm=>⟨⟨v',u',x',rfl,hI'⟩,hm⟩
abbrev zAmt (x:Addr):Prop:=x.block=x.block
structure Sl (P:zA3)(H:zAw)(v:Value)(l:List UInt8):Prop where
 bs:Bs H v l
 sl:∃ a c,v = .slice a l.length c/\l.length<=c/\∀ x,a=some x->zAmt x
 own:∀ b,blk v=some b->P b
theorem Sl.keep {P S:zA3}{H H':zAw}{v:Value}{l:List UInt8}(h:Sl P H v l)(k:Keep S H H')(hs:∀ b,P b->¬ S b):Sl P H' v l:=⟨h.bs.keep k λb hb=>hs b (h.own b hb),h.sl,h.own⟩
theorem Sl.mono {P Q:zA3}{H:zAw}{v:Value}{l:List UInt8}(h:Sl P H v l)(k:∀ b,P b->Q b):Sl Q H v l:=⟨h.bs,h.sl,λb hb=>k b (h.own b hb)⟩
theorem Sl.nil {P:zA3}{H:zAw}{c:Nat}:Sl P H (.slice none 0 c) []:=⟨zS8,⟨none,c,rfl,zAA _,λx h=>by cases h⟩,λb hb=>by cases hb⟩
theorem Sl.len {P:zA3}{H:zAw}{v:Value}{l:List UInt8}(h:Sl P H v l):zDp v=some (.int .i64 l.length):=by
 obtain⟨a,c,rfl,_⟩:=h.sl;rfl
theorem Sl.one {P:zA3}{H:zAw}{v:Value}{l:List UInt8}(h:Sl P H v l):v.oneCell'=true:=by
 obtain⟨a,c,rfl,_⟩:=h.sl;rfl
theorem Sl.cases {P:zA3}{H:zAw}{v:Value}{l:List UInt8}(h:Sl P H v l):(∃ a c,v = .slice a 0 c/\l=[]/\∀ x,a=some x->zAmt x)\/∃ b o c cs T f,v = .slice (some ⟨b,o,none⟩) l.length c/\P b/\l.length<=c/\H[b]? = some (.cells cs T f)/\o+l.length<=cs.size/\(cs.toList.drop o).take l.length=zBD l:=by
 obtain⟨a,c,hv,hc,hs⟩:=h.sl
 rcases h.bs.shape with ⟨a',c',rfl,rfl⟩|⟨b,o,c',cs,T,f,rfl,hb,hle,hl⟩|⟨s,rfl,_⟩
 ·cases hv
  exact .inl ⟨a,c,rfl,rfl,hs⟩
 ·cases hv
  by_cases h0:l=[]
  ·subst h0;exact .inl ⟨_,c,rfl,rfl,hs⟩
  ·exact .inr ⟨b,o,c,cs,T,f,rfl,h.own b (zAgr λe=>h0 (zBr.1 e)),hc,hb,hle,hl⟩
 ·cases hv
theorem Sl.b2s {P:zA3}{H:zAw}{v:Value}{l:List UInt8}(h:Sl P H v l):b2s H v=some (.string ⟨l.toArray⟩):=h.bs.b2s λs e=>by
 obtain⟨a,c,rfl,_⟩:=h.sl;cases e
theorem Sl.head {P:zA3}{H:zAw}{v:Value}{l:List UInt8}(h:Sl P H v l){n:Nat}(hn:n<=l.length):∃ u,slS 1 v none (some (.int .i64 n)) (some (.int .i64 n))=some u/\Sl P H u (l.take n):=by
 rcases h.cases with ⟨a,c,rfl,rfl,ha⟩|⟨b,o,c,cs,T,f,rfl,hp,hc,hb,hle,hl⟩
 ·have:n=0:=by simpa using hn
  subst this
  have hb:zNw 0 c none (some (.int .i64 0)) (some (.int .i64 0))=some (0,0,0):=by simp[zNw,bnd]
  rcases a with _|⟨b,o,_|sp⟩
  ·exact⟨.slice none 0 0,by simp[slS,hb],by simpa using Sl.nil⟩
  rotate_left
  ·exact⟨.slice (some ⟨b,o,some sp⟩) 0 0,by simp[slS,hb],by simpa using zS8,⟨some ⟨b,o,some sp⟩,0,rfl,zAi _,ha⟩,h.own⟩
  ·exact⟨.slice (some ⟨b,o,none⟩) 0 0,by simp[slS,hb],by simpa using zS8,⟨some ⟨b,o,none⟩,0,rfl,zAi _,ha⟩,h.own⟩
 ·have h1:(n:Int)<=c:=by omega
  have hb':zNw l.length c none (some (.int .i64 n)) (some (.int .i64 n))=some (0,n,n):=by simp[zNw,bnd,h1]
  refine⟨.slice (some ⟨b,o,none⟩) n n,?_,⟨Bs.mk hb ?_ ?_ ?_,⟨some ⟨b,o,none⟩,n,?_,?_,λx hx=>by cases hx;rfl⟩,λb' hb'=>?_⟩⟩
  ·simp[slS,hb']
  ·simp[hn]
  ·omega
  ·rw[zTX,<- hl,zDc,zBO hn]
  ·simp[hn]
  ·simp[hn]
  ·obtain⟨rfl,_⟩:=zHZ hb';exact hp
theorem Sl.tail {P:zA3}{H:zAw}{v:Value}{l:List UInt8}(h:Sl P H v l){n:Nat}(hn:n<=l.length):∃ u,slS 1 v (some (.int .i64 n)) none none=some u/\Sl P H u (l.drop n):=by
 rcases h.cases with ⟨a,c,rfl,rfl,ha⟩|⟨b,o,c,cs,T,f,rfl,hp,hc,hb,hle,hl⟩
 ·have:n=0:=by simpa using hn
  subst this
  have hb:zNw 0 c (some (.int .i64 0)) none none=some (0,0,c):=by simp[zNw,bnd]
  rcases a with _|⟨b,o,_|sp⟩
  ·exact⟨.slice none 0 c,by simp[slS,hb],by simpa using Sl.nil⟩
  rotate_left
  ·exact⟨.slice (some ⟨b,o,some sp⟩) 0 c,by simp[slS,hb],by simpa using zS8,⟨some ⟨b,o,some sp⟩,c,rfl,zAA _,ha⟩,h.own⟩
  ·exact⟨.slice (some ⟨b,o,none⟩) 0 c,by simp[slS,hb],by simpa using zS8,⟨some ⟨b,o,none⟩,c,rfl,zAA _,ha⟩,h.own⟩
 ·have h1:(n:Int)<=l.length:=by omega
  have hb':zNw l.length c (some (.int .i64 n)) none none=some (n,l.length,c):=by simp[zNw,bnd,hc,hn]
  refine⟨.slice (some ⟨b,if c=n then o else o+n*1,none⟩) (l.length-n) (c-n),?_,⟨Bs.mk hb (by simp) ?_ ?_,⟨some ⟨b,if c=n then o else o+n*1,none⟩,c-n,by simp,by simp;omega,λx hx=>by cases hx;rfl⟩,λb' hb'=>by obtain⟨rfl,_⟩:=zHZ hb';exact hp⟩⟩
  ·simp[slS,hb']
  ·split<;>omega
  ·rw[zTY,<- hl,zCt]
   split
   ·have:l.length-n=0:=by omega
    simp[this]
   ·simp[zCL]
theorem Sl.at {P:zA3}{H:zAw}{v:Value}{l:List UInt8}(h:Sl P H v l){i:Nat}{x:UInt8}(hi:l[i]? = some x):∃ u,ixS 1 v (.int .i64 i)=some u/\ld1 H u=some (.int .u8 x.toNat)/\∀ b,blk u=some b->P b:=by
 obtain⟨hlt,rfl⟩:=zAS.1 hi
 rcases h.cases with ⟨a,c,rfl,rfl,_⟩|⟨b,o,c,cs,T,f,rfl,hp,hc,hb,hle,hl⟩
 ·simp at hlt
 ·refine⟨Ptr b (o+i*1),?_,?_,λb' hb'=>by cases hb';exact hp⟩
  ·simp only[ixS];rw[if_pos ⟨by omega,by omega⟩];rfl
  ·rw[zS9 hb]
   have:=congrArg (·[i]?) hl
   simp only[zCn,zC4]at this
   rw[if_pos hlt]at this
   simp only[zCv,zBD,zAr,hi,zAR]at this ⊢
   rw[<- this];simp
def Buf (F:zA3)(H:zAw)(v:Value)(l:List UInt8):Prop :=
 (v = .slice none 0 0/\l=[])\/∃ b o c cs T f,v = .slice (some ⟨b,o,none⟩) l.length c/\F b/\l.length<=c/\H[b]? = some (.cells cs T f)/\o+c<=cs.size/\(∀ i n,o<=i->i+n<=o+c->zUM f i n=true)/\(cs.toList.drop o).take l.length=zBD l
theorem Buf.sl {F:zA3}{H:zAw}{v:Value}{l:List UInt8}(h:Buf F H v l):Sl F H v l:=by
 rcases h with ⟨rfl,rfl⟩|⟨b,o,c,cs,T,f,rfl,hf,hc,hb,hle,ht,hl⟩
 ·exact Sl.nil
 ·exact⟨Bs.mk hb rfl (by omega) hl,⟨_,c,rfl,hc,λx hx=>by cases hx;rfl⟩,λb' hb'=>by obtain⟨rfl,_⟩:=zHZ hb';exact hf⟩
theorem Buf.keep {F S:zA3}{H H':zAw}{v:Value}{l:List UInt8}(h:Buf F H v l)(k:Keep S H H')(hs:∀ b,F b->¬ S b):Buf F H' v l:=by
 rcases h with h|⟨b,o,c,cs,T,f,rfl,hf,hc,hb,hle,ht,hl⟩
 ·exact .inl h
 ·exact .inr ⟨b,o,c,cs,T,f,rfl,hf,hc,k.at hb (hs b hf),hle,ht,hl⟩
theorem zLi {c vs:Array Value}{o:Nat}(h:o+vs.size<=c.size):(spl c o vs).size=c.size:=by simp[spl];omega
theorem Buf.app {F:zA3}{H:zAw}{s x:Value}{l m:List UInt8}{T:TypeId}{k:zAm}(h:Buf F H s l)(hx:Bs H x m)(hlen:l.length+m.length<=140737488355328)(hf:F H.size)
  (hk:∀ v H',Buf F H' v (l++m)->Keep F H H'->k v H'):zIr T 1 1 H s x k:=by
 rcases h with ⟨rfl,rfl⟩|⟨b,o,c,cs,T',f,rfl,hb',hc,hb,hle,ht,hl⟩
 ·refine⟨none,0,0,m.length,(zBD m).toArray,rfl,hx,zJn,λh0=>?_,λh0=>⟨by simpa using hlen,Nat.one_pos,#[],rfl,λcap rest h1 h2 h3=>?_⟩⟩
  ·have:m=[]:=zBr.1 (by omega)
   subst this
   exact hk _ _ (.inl ⟨rfl,rfl⟩) Keep.refl
  ·refine hk _ _ (.inr ⟨H.size,0,cap,_,T,(0,0),by simp,hf,by simpa using h1,zCh,?_,λ_ _ _ _=>zLS,?_⟩) Keep.push
   ·simp at h3 ⊢;omega
   ·simp
 ·refine⟨some ⟨b,o,none⟩,l.length,c,m.length,(zBD m).toArray,rfl,hx,zJn,λh0=>?_,λh0=>⟨by simpa using hlen,Nat.one_pos,(zBD l).toArray,?_,λcap rest h1 h2 h3=>?_⟩⟩
  ·refine⟨_,zQW hb _ _ (ht _ _ (by omega) (by simp;omega)) (by simp;omega) zJn,hk _ _ (.inr ⟨b,o,c,_,T',f,by simp,hb',by simpa using h0,zBp hb,?_,ht,?_⟩) (Keep.set hb')⟩
   ·rw[zLi (by simp;omega)];exact hle
   ·have ho:o+l.length<=cs.size:=by omega
    show((List.take (o+l.length*1) cs.toList++zBD m++_).drop o).take (l++m).length=_
    rw[zCv,zBe,zCa (by simp;omega),zCt,zCM,hl]
    rw[<- zBe,zBj (by simp),<- zJ1,zAp (by simp)]
  ·exact Bs.mk hb rfl (by omega) hl
  ·refine hk _ _ (.inr ⟨H.size,0,cap,_,T,(0,0),by simp,hf,by simpa using h1,zCh,?_,λ_ _ _ _=>zLS,?_⟩) Keep.push
   ·simp at h3 ⊢;omega
   ·show(((zBD l).toArray++(zBD m).toArray++rest).toList.drop 0).take (l++m).length=_
    simp only[Array.toList_append];rw[zCe,zBj (by simp),<- zJ1,zAp (by simp)]
theorem ldN_mid {H:zAw}{b n o:Nat}{A B C:List Value}{T:TypeId}{f:Nat×Nat}(h:H[b]? = some (.cells (A++B++C).toArray T f))(ho:o=A.length)(hn:n=B.length):ldN n H (Ptr b o)=some (.agg B.toArray):=by
 subst ho hn
 rw[zAgs h _ _ (by simp)]
 congr 2
 apply Array.ext'
 simp[zBj]
theorem zPN {H:zAw}{b n o:Nat}{A B C B':List Value}{T:TypeId}(h:H[b]? = some (.cells (A++B++C).toArray T (0,0)))(ho:o=A.length)(hn:n=B.length)(hn':B'.length=n)(hv:B'.toArray.all (·.oneCell')=true):stN n H (Ptr b o) (.agg B'.toArray)=some (H.setIfInBounds b (.cells (A++B'++C).toArray T (0,0))):=by
 subst ho hn
 rw[zAjC h _ _ _ (by simpa using hn') (by simp) hv]
 congr 3
 unfold spl
 congr 1
 simp[hn',List.drop_append]
def bv (l:List UInt8):Value := .agg (zBD l).toArray
@[simp] theorem zAk8 {l:List UInt8}:(bv l).cells=(zBD l).toArray:=rfl
theorem zPO {H:zAw}{b n:Nat}{l:List UInt8}{T:TypeId}{f:Nat×Nat}(h:H[b]? = some (.cells (zBD l).toArray T f))(hn:l.length=n):ldN n H (Ptr b 0)=some (bv l) :=
 ldN_mid (A:=[]) (B:=zBD l) (C:=[]) (by simpa using h) rfl (by simp[hn])
theorem zRQ {H:zAw}{b n:Nat}{l m:List UInt8}{T:TypeId}(h:H[b]? = some (.cells (zBD l).toArray T (0,0)))(hn:l.length=n)(hm:m.length=n):stN n H (Ptr b 0) (bv m)=some (H.setIfInBounds b (.cells (zBD m).toArray T (0,0))):=by
 have:=zPN (b:=b) (n:=n) (o:=0) (A:=[]) (B:=zBD l) (C:=[]) (B':=zBD m) (T:=T) (by simpa using h) rfl (by simp[hn]) (by simp[hm]) zJn
 simpa [bv] using this
theorem zAaZ {H:zAw}{q c:Nat}{z m:List UInt8}{x:Value}{T:TypeId}{k:zAm}(hq:H[q]? = some (.cells (zBD z).toArray T (0,0)))(hx:Bs H x m)(hm:m.length<=z.length)
  (hk:k (.int .i64 m.length) (H.setIfInBounds q (.cells (zBD (m++z.drop m.length)).toArray T (0,0)))):zQ8 1 H (.slice (some ⟨q,0,none⟩) z.length c) x k:=by
 have e1:Nat.min m.length z.length=m.length:=zBO hm
 have e3:(zBD m).toArray.extract 0 (m.length*1)=(zBD m).toArray:=by
  have:m.length*1=(zBD m).toArray.size:=by simp
  rw[this,Array.extract_size]
 have e2:spl (zBD z).toArray 0 (zBD m).toArray=(zBD (m++z.drop m.length)).toArray:=by
  simp[spl,zTY]
 refine⟨m.length,(zBD m).toArray,some ⟨q,0,none⟩,z.length,c,hx,rfl,?_⟩
 simp only[e1,e3]
 rw[zQW hq 0 _ zLS (by simpa using hm) zJn,e2,zAV]
 exact hk
def zMQ (P:Program)(T:TypeId):Option (List (Nat×Nat)×Array Value) :=
 match P.underlying T with
 | some (.struct fs)=>match fs.toList.mapM (λf=>(P.info? f.type).map λi=>(f.offset,i.size)) with
  | some places=>(zBE P T).map λz=>(places,z)
  | none=>none
 | _=>none
theorem zIJ {P:Program}{T:TypeId}{pl:List (Nat×Nat)}{z:Array Value}{parts:List (Nat×Value)}(h:zMQ P T=some (pl,z)):zCE P T parts=(zQ9 (pl.toArray[·]?) z parts).map .agg:=by
 unfold zMQ at h
 unfold zCE
 split at h
 ·rename_i fs hfs
  rw[hfs]
  simp only
  split at h
  ·rename_i places hp
   rw[hp]
   cases hz:zBE P T with
   | none=>rw[hz]at h;cases h
   | some z'=>rw[hz]at h;cases h;rfl
  ·cases h
 ·cases h
theorem zTZ {place:Nat->Option (Nat×Nat)}{c:Array Value}:zQ9 place c []=some c:=rfl
theorem zJo {place:Nat->Option (Nat×Nat)}{c:Array Value}{i:Nat}{v:Value}{r:List (Nat×Value)}{off n:Nat}(hp:place i=some (off,n))(hv:v.cells.size=n)(hc:off+n<=c.size):zQ9 place c ((i,v)::r)=zQ9 place (spl c off v.cells) r:=by
 simp only[zQ9,hp];rw[if_pos ⟨hv,hc⟩]
theorem zRe {q:EqK}{a b:Array Value}:zAB q .eql (.agg a) (.agg b)=(eqV q (.agg a) (.agg b)).map .bool:=by cases q<;>rfl
theorem zMR {q:EqK}{a b:Array Value}:zAB q .neq (.agg a) (.agg b)=(eqV q (.agg a) (.agg b)).map λb => .bool (!b):=by cases q<;>rfl
theorem zOM {l m:List UInt8}(h:l.length=m.length):zCI (List.replicate l.length 0) (zBD l) (zBD m)=some (decide (l=m)):=by
 induction l generalizing m with
 | nil=>cases m with
  | nil=>rfl
  | cons b m=>cases h
 | cons a l ih=>cases m with
  | nil=>cases h
  | cons b m =>
   have e:zOc 0 (.int .u8 a.toNat) (.int .u8 b.toNat)=some (decide (a=b)):=by
    simp only[zOc,if_true]
    congr 1
    rw[zAW,beq_iff_eq,decide_eq_true_eq]
    constructor
    ·intro h;apply UInt8.toNat.inj;omega
    ·rintro rfl;rfl
   simp only[zAQ,List.replicate_succ,zOL,zCI,e,ih (by simpa using h)]
   congr 1
   simp[zAW]
def Pt (H:zAw)(b o:Nat)(cs:List Value):Prop :=
 ∃ c T f,H[b]? = some (.cells c T f)/\o+cs.length<=c.size/\(c.toList.drop o).take cs.length=cs
theorem Pt.lt {H:zAw}{b o:Nat}{cs:List Value}(h:Pt H b o cs):b<H.size:=by obtain⟨c,T,f,hb,_⟩:=h;exact lt_of hb
theorem Pt.keep {S:zA3}{H H':zAw}{b o:Nat}{cs:List Value}(h:Pt H b o cs)(k:Keep S H H')(hs:¬ S b):Pt H' b o cs:=by
 obtain⟨c,T,f,hb,h1,h2⟩:=h;exact⟨c,T,f,k.at hb hs,h1,h2⟩
theorem Pt.of {H:zAw}{b:Nat}{cs:List Value}{T:TypeId}{f:Nat×Nat}(h:H[b]? = some (.cells cs.toArray T f)):Pt H b 0 cs:=⟨_,T,f,h,by simp,by simp⟩
theorem Pt.cell {H:zAw}{b o i:Nat}{cs:List Value}{v:Value}(h:Pt H b o cs)(hi:cs[i]? = some v):ld1 H (Ptr b (o+i))=some v:=by
 obtain⟨c,T,f,hb,h1,h2⟩:=h
 have hlt:=(zAS.1 hi).1
 rw[zS9 hb]
 rw[<- h2,zCn,if_pos hlt,zC4]at hi
 rw[<- hi];simp
theorem Pt.cell0 {H:zAw}{b o:Nat}{cs:List Value}{v:Value}(h:Pt H b o cs)(hi:cs[0]? = some v):ld1 H (Ptr b o)=some v:=h.cell (i:=0) hi
theorem Pt.sub {H:zAw}{b o i n:Nat}{cs:List Value}(h:Pt H b o cs)(hi:i+n<=cs.length):Pt H b (o+i) ((cs.drop i).take n):=by
 obtain⟨c,T,f,hb,h1,h2⟩:=h
 have hl:((cs.drop i).take n).length=n:=by simp;omega
 refine⟨c,T,f,hb,by rw[hl];omega,?_⟩
 rw[hl,<- zCL]
 rw[<- h2,zCt,zDc,zBO (by omega)]
theorem Pt.mid {H:zAw}{b o o':Nat}{A B C:List Value}(h:Pt H b o (A++B++C))(ho:o'=o+A.length):Pt H b o' B:=by
 subst ho
 have:=h.sub (i:=A.length) (n:=B.length) (by simp)
 simpa [zBe,List.drop_append,List.take_append] using this
theorem Pt.agg {H:zAw}{b o n:Nat}{cs:List Value}(h:Pt H b o cs)(hn:cs.length=n):ldN n H (Ptr b o)=some (.agg cs.toArray):=by
 subst hn
 obtain⟨c,T,f,hb,h1,h2⟩:=h
 rw[zAgs hb _ _ h1]
 congr 2
 apply Array.ext'
 simpa using h2
section
variable {n:Nat} {xs:List (List Value)}
theorem zI5 (h:∀ x∈xs,x.length=n):xs.flatten.length=xs.length*n:=by
 induction xs with
 | nil=>simp
 | cons x xs ih =>
  simp only[zA7,zAt,zAQ,ih λy hy=>h y (by simp[hy]),h x (by simp),zCB];omega
theorem zT0 (h:∀ x∈xs,x.length=n)(i:Nat):(xs.drop i).flatten=xs.flatten.drop (i*n):=by
 induction i generalizing xs with
 | zero=>simp
 | succ i ih=>cases xs with
  | nil=>simp
  | cons x xs =>
   have hx:=h x (by simp)
   rw[List.drop_succ_cons,ih λy hy=>h y (by simp[hy]),zA7,zCB]
   have e:(x++xs.flatten).drop (i*n+n)=x.drop (i*n+n)++xs.flatten.drop (i*n+n-x.length):=List.drop_append
   rw[e,zC6 (show x.length<=i*n+n by rw[hx];omega),zAX]
   congr 1;omega
theorem zT1 (h:∀ x∈xs,x.length=n)(i:Nat):(xs.take i).flatten=xs.flatten.take (i*n):=by
 induction i generalizing xs with
 | zero=>simp
 | succ i ih=>cases xs with
  | nil=>simp
  | cons x xs =>
   have hx:=h x (by simp)
   rw[zBY,zA7,ih λy hy=>h y (by simp[hy]),zA7,zCB]
   have e:(x++xs.flatten).take (i*n+n)=x.take (i*n+n)++xs.flatten.take (i*n+n-x.length):=List.take_append
   rw[e,zAp (show x.length<=i*n+n by rw[hx];omega)]
   congr 2;omega
theorem zAeX (h:∀ x∈xs,x.length=n){i:Nat}{x:List Value}(hi:xs[i]? = some x):(xs.flatten.drop (i*n)).take n=x:=by
 rw[<- zT0 h]
 obtain⟨hlt,rfl⟩:=zAS.1 hi
 rw[zBX hlt,zA7]
 have hx:=h xs[i] (by simp)
 rw[zBj (by omega),zAp (by omega)]
end
structure SlE (n:Nat)(P:zA3)(H:zAw)(v:Value)(xs:List (List Value)):Prop where
 ex:∃ a c,v = .slice a xs.length c/\xs.length<=c/\(xs=[]\/∃ b o,a=some ⟨b,o,none⟩/\P b/\Pt H b o xs.flatten)
 el:∀ x∈xs,x.length=n
 one:∀ x∈xs,∀ c∈x,c.oneCell'=true
section
variable {n:Nat} {P:zA3} {H:zAw} {v:Value} {xs:List (List Value)}
theorem SlE.nil {a:Option Addr}{c:Nat}:SlE n P H (.slice a 0 c) []:=⟨⟨a,c,rfl,zAA _,.inl rfl⟩,λx h=>(by cases h),λx h=>(by cases h)⟩
theorem SlE.keep {S:zA3}{H':zAw}(h:SlE n P H v xs)(k:Keep S H H')(hs:∀ b,P b->¬ S b):SlE n P H' v xs:=by
 obtain⟨⟨a,c,hv,hc,hx⟩,h2,h3⟩:=h
 refine⟨⟨a,c,hv,hc,hx.imp id ?_⟩,h2,h3⟩
 rintro⟨b,o,rfl,hP,hp⟩
 exact⟨b,o,rfl,hP,hp.keep k (hs _ hP)⟩
theorem SlE.mono {Q:zA3}(h:SlE n P H v xs)(k:∀ b,P b->Q b):SlE n Q H v xs:=by
 obtain⟨⟨a,c,hv,hc,hx⟩,h2,h3⟩:=h
 refine⟨⟨a,c,hv,hc,hx.imp id ?_⟩,h2,h3⟩
 rintro⟨b,o,rfl,hP,hp⟩
 exact⟨b,o,rfl,k _ hP,hp⟩
theorem SlE.len (h:SlE n P H v xs):zDp v=some (.int .i64 xs.length):=by obtain⟨⟨a,c,rfl,_⟩,_⟩:=h;rfl
theorem SlE.oneC (h:SlE n P H v xs):v.oneCell'=true:=by obtain⟨⟨a,c,rfl,_⟩,_⟩:=h;rfl
theorem SlE.elems (h:SlE n P H v xs):zEz n H v=some (xs.length,xs.flatten.toArray):=by
 obtain⟨⟨a,c,rfl,hc,hx⟩,h2,h3⟩:=h
 unfold zEz
 rcases hx with rfl|⟨b,o,rfl,_,c',T,f,hb,h4,h5⟩
 ·simp
 ·have hl:=zI5 h2
  by_cases h0:xs.length=0
  ·have:xs=[]:=zBr.1 h0
   subst this;simp
  ·simp only[hb,if_neg h0]
   rw[hl]at h4 h5
   rw[if_pos h4]
   congr 2
   apply Array.ext'
   simpa using h5
theorem SlE.all (h:SlE n P H v xs):xs.flatten.toArray.all (·.oneCell')=true:=by
 rw[zBB];intro c hc
 simp only[List.mem_toArray,List.mem_flatten]at hc
 obtain⟨x,hx,hc⟩:=hc
 exact h.one x hx c hc
theorem SlE.at (h:SlE n P H v xs){i:Nat}{x:List Value}(hi:xs[i]? = some x):∃ b o,(∀ k,ixS n v (.int k i)=some (Ptr b o))/\Pt H b o x/\P b:=by
 obtain⟨⟨a,c,rfl,hc,hx⟩,h2,h3⟩:=h
 have hlt:=(zAS.1 hi).1
 rcases hx with rfl|⟨b,o,rfl,hP,hp⟩
 ·simp at hlt
 ·refine⟨b,o+i*n,λk=>?_,?_,hP⟩
  ·simp only[ixS];rw[if_pos ⟨by omega,by omega⟩];rfl
  ·have:=hp.sub (i:=i*n) (n:=n) (by rw[zI5 h2];have:=zBs n (show i+1<=xs.length by omega);rw[zCB]at this;exact this)
   rwa [zAeX h2 hi]at this
theorem SlE.cut (h:SlE n P H v xs)(hne:xs≠[]){lo hi:Nat}(h1:lo<=hi)(h2:hi<=xs.length){l r:Option Value}(hl:bnd 0 hi l=some lo)(hr:∀ c,xs.length<=c->bnd xs.length c r=some hi):∃ u,slS n v l r none=some u/\SlE n P H u ((xs.take hi).drop lo):=by
 obtain⟨⟨a,c,rfl,hc,hx⟩,he,ho⟩:=h
 have hb:zNw xs.length c l r none=some (lo,hi,c):=by
  unfold zNw
  rw[show bnd c c none=some c from rfl]
  simp only[zAZ,hr c hc,hl,zAR]
 have hlen:((xs.take hi).drop lo).length=hi-lo:=by simp;omega
 have el':∀ x∈(xs.take hi).drop lo,x.length=n:=λx hx=>he x (zBg (List.mem_of_mem_drop hx))
 have one':∀ x∈(xs.take hi).drop lo,∀ c∈x,c.oneCell'=true:=λx hx=>ho x (zBg (List.mem_of_mem_drop hx))
 rcases hx with rfl|⟨b,o,rfl,hP,hp⟩
 ·exact absurd rfl hne
 ·refine⟨.slice (some ⟨b,if c=lo then o else o+lo*n,none⟩) (hi-lo) (c-lo),by simp[slS,hb],⟨_,c-lo,by rw[hlen],by rw[hlen];omega,?_⟩,el',one'⟩
  by_cases h0:hi=lo
  ·left;apply zBr.1;omega
  ·right
   rw[if_neg (by omega)]
   refine⟨b,_,rfl,hP,?_⟩
   have hle:lo*n+(hi-lo)*n=hi*n:=by rw[<- Nat.add_mul];congr 1;omega
   have hle2:=zBs n h2
   have:=hp.sub (i:=lo*n) (n:=(hi-lo)*n) (by rw[zI5 he];omega)
   have e:((xs.take hi).drop lo).flatten=(xs.flatten.drop (lo*n)).take ((hi-lo)*n):=by
    rw[zT0 (λx hx=>he x (zBg hx)),zT1 he,zCt]
    congr 1;omega
   rwa [e]
end
def BufE (n:Nat)(F:zA3)(H:zAw)(v:Value)(xs:List (List Value)):Prop :=
 (∀ x∈xs,x.length=n)/\(∀ x∈xs,∀ c∈x,c.oneCell'=true) /\
 ((v = .slice none 0 0/\xs=[])\/∃ b o c cs T f,v = .slice (some ⟨b,o,none⟩) xs.length c/\F b/\xs.length<=c/\H[b]? = some (.cells cs T f)/\o+c*n<=cs.size/\(∀ i n,zUM f i n=true)/\(cs.toList.drop o).take (xs.length*n)=xs.flatten)
section
variable {n:Nat} {F:zA3} {H:zAw} {v:Value} {xs:List (List Value)}
theorem BufE.nil:BufE n F H (.slice none 0 0) []:=⟨λx h=>(by cases h),λx h=>(by cases h),.inl ⟨rfl,rfl⟩⟩
theorem BufE.sl (h:BufE n F H v xs):SlE n F H v xs:=by
 obtain⟨h1,h2,h|⟨b,o,c,cs,T,f,rfl,hf,hc,hb,hle,ht,hl⟩⟩:=h
 ·obtain⟨rfl,rfl⟩:=h;exact SlE.nil
 ·refine⟨⟨_,c,rfl,hc,.inr ⟨b,o,rfl,hf,cs,T,f,hb,?_,?_⟩⟩,h1,h2⟩
  ·rw[zI5 h1];have:=zBs n hc;omega
  ·rw[zI5 h1];exact hl
theorem BufE.keep {S:zA3}{H':zAw}(h:BufE n F H v xs)(k:Keep S H H')(hs:∀ b,F b->¬ S b):BufE n F H' v xs:=by
 obtain⟨h1,h2,h|⟨b,o,c,cs,T,f,rfl,hf,hc,hb,hle,ht,hl⟩⟩:=h
 ·exact⟨h1,h2,.inl h⟩
 ·exact⟨h1,h2,.inr ⟨b,o,c,cs,T,f,rfl,hf,hc,k.at hb (hs b hf),hle,ht,hl⟩⟩
theorem BufE.mono {G:zA3}(h:BufE n F H v xs)(k:∀ b,F b->G b):BufE n G H v xs:=by
 obtain⟨h1,h2,h|⟨b,o,c,cs,T,f,rfl,hf,hr⟩⟩:=h
 ·exact⟨h1,h2,.inl h⟩
 ·exact⟨h1,h2,.inr ⟨b,o,c,cs,T,f,rfl,k _ hf,hr⟩⟩
theorem BufE.fresh {T:TypeId}{c:Nat}{cs:List Value}{f:Nat×Nat}(hb:∃ b,v = .slice (some ⟨b,0,none⟩) xs.length c/\F b/\H[b]? = some (.cells cs.toArray T f))(hc:xs.length<=c)(hle:c*n<=cs.length)(ht:∀ i n,zUM f i n=true)(hl:cs.take (xs.length*n)=xs.flatten)
  (h1:∀ x∈xs,x.length=n) (h2:∀ x∈xs,∀ c∈x,c.oneCell'=true):BufE n F H v xs:=by
 obtain⟨b,rfl,hf,hb⟩:=hb
 exact⟨h1,h2,.inr ⟨b,0,c,_,T,f,rfl,hf,hc,hb,by simpa using hle,ht,by simpa using hl⟩⟩
theorem BufE.app {P:zA3}{s x:Value}{ys:List (List Value)}{T:TypeId}{bytes:Nat}{k:zAm}(h:BufE n F H s xs)(hx:SlE n P H x ys)(hb0:0<bytes)(hlen:(xs.length+ys.length)*bytes<=140737488355328)(hf:F H.size)
  (hk:∀ v H',BufE n F H' v (xs++ys)->Keep F H H'->k v H'):zIr T n bytes H s x k:=by
 obtain⟨h1,h2,h⟩:=h
 have el:∀ x∈xs++ys,x.length=n:=λx h=>(zAs.1 h).elim (h1 x) (hx.el x)
 have one:∀ x∈xs++ys,∀ c∈x,c.oneCell'=true:=λx h=>(zAs.1 h).elim (h2 x) (hx.one x)
 have fl:=zI5 h1
 have fy:=zI5 hx.el
 rcases h with ⟨rfl,rfl⟩|⟨b,o,c,cs,T',f,rfl,hb',hc,hb,hle,ht,hl⟩
 ·refine⟨none,0,0,ys.length,ys.flatten.toArray,rfl,hx.elems,hx.all,λh0=>?_,λh0=>⟨by simpa using hlen,hb0,#[],rfl,λcap rest c1 c2 c3=>?_⟩⟩
  ·have:ys=[]:=zBr.1 (by omega)
   subst this
   exact hk _ _ ⟨el,one,.inl ⟨rfl,rfl⟩⟩ Keep.refl
  ·have hm:ys.length*n+(cap-ys.length)*n=cap*n:=by rw[<- Nat.add_mul];congr 1;omega
   refine hk _ _ ⟨el,one,.inr ⟨H.size,0,cap,_,T,(0,0),by simp,hf,by simpa using c1,zCh,?_,λ_ _=>by simp[zUM],?_⟩⟩ Keep.push
   ·simp at c3 ⊢;rw[c3];simp at fy;rw[fy];omega
   ·simp
    rw[zBj (by omega),zAp (by omega)]
 ·have hm:xs.length*n+ys.length*n=(xs.length+ys.length)*n:=by rw[Nat.add_mul]
  refine⟨some ⟨b,o,none⟩,xs.length,c,ys.length,ys.flatten.toArray,rfl,hx.elems,hx.all,λh0=>?_,λh0=>⟨hlen,hb0,xs.flatten.toArray,?_,λcap rest c1 c2 c3=>?_⟩⟩
  ·have hcn:=zBs n h0
   have hsz:o+xs.length*n+ys.flatten.toArray.size<=cs.size:=by simp only[zCi,fy];omega
   refine⟨_,zQW hb _ _ (ht _ _) hsz hx.all,hk _ _ ⟨el,one,.inr ⟨b,o,c,_,T',f,by simp,hb',by simpa using h0,zBp hb,?_,ht,?_⟩⟩ (Keep.set hb')⟩
   ·rw[zLi hsz];exact hle
   ·show((List.take (o+xs.length*n) cs.toList++ys.flatten++_).drop o).take ((xs++ys).length*n)=_
    have hq:o+xs.length*n<=cs.toList.length:=by simp;omega
    rw[zBe,zCa (by simp;omega),zCt,zCM,hl,<- zBe,zBt,zAt,<- hm,<- fl,<- fy,<- zAt,zBj (by simp),zAp (zAi _)]
  ·exact(SlE.elems (P:=F) ⟨⟨_,c,rfl,hc,.inr ⟨b,o,rfl,hb',cs,T',f,hb,by rw[fl];have:=zBs n hc;omega,by rw[fl];exact hl⟩⟩,h1,h2⟩)
  ·have hm2:(xs.length+ys.length)*n+(cap-(xs.length+ys.length))*n=cap*n:=by rw[<- Nat.add_mul];congr 1;omega
   refine hk _ _ ⟨el,one,.inr ⟨H.size,0,cap,_,T,(0,0),by simp,hf,by simpa using c1,zCh,?_,λ_ _=>by simp[zUM],?_⟩⟩ Keep.push
   ·simp only[Array.size_append,zCi,fl,fy,c3];omega
   ·show((xs.flatten.toArray++ys.flatten.toArray++rest).toList.drop 0).take ((xs++ys).length*n)=_
    simp only[Array.toList_append,zCe,zBt,zAt,<- hm,<- fl,<- fy]
    rw[zBj (by simp),zAp (by simp)]
end
def zHM (l:List Value):List (List Value):=l.map λv=>[v]
@[simp] theorem zT2 {l:List Value}:(zHM l).length=l.length:=by simp[zHM]
@[simp] theorem zMB {l:List Value}:(zHM l).flatten=l:=by induction l<;>simp_all [zHM]
theorem zQr {l:List Value}:∀ x∈zHM l,x.length=1:=by
 intro x hx;obtain⟨v,_,rfl⟩:=zAo.1 hx;rfl
theorem zPP {l:List Value}(h:∀ v∈l,v.oneCell'=true):∀ x∈zHM l,∀ c∈x,c.oneCell'=true:=by
 intro x hx c hc;obtain⟨v,hv,rfl⟩:=zAo.1 hx;obtain rfl:c=v:=by simpa using hc
 exact h _ hv
theorem zOi {l:List Value}{i:Nat}{v:Value}(h:l[i]? = some v):(zHM l)[i]? = some [v]:=by simp[zHM,h]
theorem Buf.mono {F G:zA3}{H:zAw}{v:Value}{l:List UInt8}(h:Buf F H v l)(k:∀ b,F b->G b):Buf G H v l:=by
 rcases h with h|⟨b,o,c,cs,T,f,rfl,hf,hr⟩
 ·exact .inl h
 ·exact .inr ⟨b,o,c,cs,T,f,rfl,k _ hf,hr⟩
theorem Sl.pre {P:zA3}{H:zAw}{v:Value}{l:List UInt8}(h:Sl P H v l){n:Nat}(hn:n<=l.length):∃ u,slS 1 v none (some (.int .i64 n)) none=some u/\Sl P H u (l.take n):=by
 rcases h.cases with ⟨a,c,rfl,rfl,ha⟩|⟨b,o,c,cs,T,f,rfl,hp,hc,hb,hle,hl⟩
 ·have:n=0:=by simpa using hn
  subst this
  have hb:zNw 0 c none (some (.int .i64 0)) none=some (0,0,c):=by simp[zNw,bnd]
  rcases a with _|⟨b,o,_|sp⟩
  ·exact⟨.slice none 0 c,by simp[slS,hb],by simpa using Sl.nil⟩
  rotate_left
  ·exact⟨.slice (some ⟨b,o,some sp⟩) 0 c,by simp[slS,hb],by simpa using zS8,⟨some ⟨b,o,some sp⟩,c,rfl,zAA _,ha⟩,h.own⟩
  ·refine⟨.slice (some ⟨b,if c=0 then o else o+0*1,none⟩) 0 c,by simp[slS,hb],?_⟩
   exact⟨by simpa using zS8,⟨_,c,rfl,zAA _,λx hx=>by cases hx;rfl⟩,λb' hb'=>h.own b' (by obtain⟨rfl,h0⟩:=zHZ hb';exact absurd rfl h0)⟩
 ·have h1:(n:Int)<=c:=by omega
  have hb':zNw l.length c none (some (.int .i64 n)) none=some (0,n,c):=by simp[zNw,bnd,show n<=c by omega]
  refine⟨.slice (some ⟨b,if c=0 then o else o+0*1,none⟩) n c,by simp[slS,hb'],⟨Bs.mk hb (by simp[hn]) ?_ ?_,⟨some ⟨b,if c=0 then o else o+0*1,none⟩,c,by simp[hn],by simp;omega,λx hx=>by cases hx;rfl⟩,λb' hb'=>by obtain⟨rfl,_⟩:=zHZ hb';exact hp⟩⟩
  ·split<;>omega
  ·have:(if c=0 then o else o+0*1)=o:=by split<;>simp
   rw[this,zTX,<- hl,zDc,zBO hn]
theorem Buf.cut0 {F:zA3}{H:zAw}{v:Value}{l:List UInt8}(h:Buf F H v l):∃ u,slS 1 v none (some (.int .i64 0)) none=some u/\Buf F H u []:=by
 rcases h with ⟨rfl,rfl⟩|⟨b,o,c,cs,T,f,rfl,hf,hc,hb,hle,ht,hl⟩
 ·exact⟨.slice none 0 0,by simp[slS,zNw,bnd],.inl ⟨rfl,rfl⟩⟩
 ·have hb':zNw l.length c none (some (.int .i64 0)) none=some (0,0,c):=by simp[zNw,bnd]
  have e:(if c=0 then o else o+0*1)=o:=by split<;>simp
  exact⟨.slice (some ⟨b,if c=0 then o else o+0*1,none⟩) 0 c,by simp[slS,hb'],.inr ⟨b,_,c,cs,T,f,rfl,hf,zAA _,hb,by rw[e];exact hle,by rw[e];exact ht,by simp⟩⟩
theorem zSk {H:zAw}{b:Nat}{cs:List Value}{T:TypeId}{f:Nat×Nat}(h:H[b]? = some (.cells cs.toArray T f)){i:Nat}{v:Value}(hi:cs[i]? = some v):ld1 H (Ptr b i)=some v:=by
 rw[zS9 h];simpa using hi
theorem zYi {H:zAw}{b:Nat}{cs:List Value}{T:TypeId}(h:H[b]? = some (.cells cs.toArray T (0,0))){i:Nat}{v:Value}(hi:i<cs.length)(hv:v.oneCell'=true):st1 H (Ptr b i) v=some (H.setIfInBounds b (.cells (cs.set i v).toArray T (0,0))):=by
 rw[zZO h _ _ (by simpa using hi) hv];simp
theorem zT3 {n s b o:Nat}{k:IntKind}{i:Nat}(h:i<n):ixA n s (.pointer (some ⟨b,o,none⟩)) (.int k i)=some (Ptr b (o+i*s)):=by
 simp only[ixA];rw[if_pos ⟨by omega,by omega⟩];simp
theorem zSy {n b i:Nat}{k:IntKind}(h:i<n):ixA n 1 (.pointer (some ⟨b,0,none⟩)) (.int k i)=some (Ptr b i):=by rw[zT3 h];simp
theorem zAlu {H:zAw}{q o n c:Nat}{x:Value}{T:TypeId}{cs:Array Value}{k:zAm}(hq:H[q]? = some (.cells cs T (0,0)))(ho:o<=cs.size)(hx:zEz 1 H x=some (0,#[]))(hk:k (.int .i64 (0:Nat)) H):zQ8 1 H (.slice (some ⟨q,o,none⟩) n c) x k:=by
 refine⟨0,#[],some ⟨q,o,none⟩,n,c,hx,rfl,?_⟩
 have e:Nat.min 0 n=0:=Nat.zero_min n
 show Mwr (stA H q o (#[].extract 0 (Nat.min 0 n*1))) λh=>k (.int .i64 (Nat.min 0 n:Nat)) h
 rw[e]
 have hst:=zQW hq o (#[].extract 0 (0*1)) zLS (by simpa using ho) (by simp)
 have hset:H.setIfInBounds q (.cells (spl cs o (#[].extract 0 (0*1))) T (0,0))=H:=by
  have e2:spl cs o (#[].extract 0 (0*1))=cs:=by simp[spl]
  rw[e2]
  apply Array.ext_getElem?
  intro i
  rw[zAC]
  split
  ·rename_i hi;subst hi;rw[hq];rw[if_pos (lt_of hq)]
  ·rfl
 rw[hst,hset,zAV]
 exact hk
theorem zAjl {body:(zAw->Prop)->Prop}{rest:zAw->Prop}(I:zAw->Prop)(h1:∀ k:zAw->Prop,(∀ h,I h->k h)->body k)(h2:∀ h,I h->rest h):J0 body rest := .mk (h1 rest h2)
theorem zNB {body:(zAm)->Prop}{rest:zAm}(I:zAm)(h1:∀ k:zAm,(∀ x h,I x h->k x h)->body k)(h2:∀ x h,I x h->rest x h):J1 body rest := .mk (h1 rest h2)
theorem zMC {body:(Value->zAm)->Prop}{rest:Value->zAm}(I:Value->zAm)(h1:∀ k:Value->zAm,(∀ x y h,I x y h->k x y h)->body k)(h2:∀ x y h,I x y h->rest x y h):J2 body rest := .mk (h1 rest h2)
abbrev str (l:List UInt8):Value := .string ⟨l.toArray⟩
theorem str_of (s:ByteArray):Value.string s=str s.data.toList:=by
 obtain⟨a⟩:=s;simp
theorem zJe {l:List UInt8}:(ByteArray.mk l.toArray).size=l.length:=by simp[ByteArray.size]
theorem zMS {l:List UInt8}:(ByteArray.mk l.toArray).toList=l:=by simp
@[simp] theorem zFb {l:List UInt8}:zMd (str l)=some (.int .i64 l.length):=by rw[zYC,zJe]
theorem zLT {l:List UInt8}{i:Nat}{x:UInt8}{k:IntKind}(h:l[i]? = some x):ixT (str l) (.int k i)=some (.int .u8 x.toNat):=by
 obtain⟨hlt,rfl⟩:=zAS.1 h
 have e:(ByteArray.mk l.toArray)[i]? = some l[i]:=by
  rw[getElem?_pos (ByteArray.mk l.toArray) i (by rw[zJe];exact hlt)]
  rfl
 simp only[ixT];rw[if_pos (by omega)]
 simp only[zCR,e,zAR]
theorem zSz {l:List UInt8}{lo hi:Nat}{a b:Option Value}(h1:lo<=hi)(h2:hi<=l.length)(ha:bnd 0 hi a=some lo)(hb:bnd l.length l.length b=some hi):slT (str l) a b=some (str ((l.take hi).drop lo)):=by
 have hbn:zNw l.length l.length a b none=some (lo,hi,l.length):=by
  unfold zNw
  rw[show bnd l.length l.length none=some l.length from rfl]
  simp only[zAZ,hb,ha,zAR]
 have e:(ByteArray.mk l.toArray).extract lo hi=⟨((l.take hi).drop lo).toArray⟩:=by
  apply ByteArray.ext
  rw[ByteArray.data_extract]
  apply Array.ext'
  simp[List.extract_eq_take_drop,zCt]
 simp only[slT,zJe,hbn,zAR,e]
theorem zRf {a b:List UInt8}:zTt .eql ⟨a.toArray⟩ ⟨b.toArray⟩=some (.bool (decide (a=b))):=by
 simp only[zTt,zMS];congr 2;rw[zAW];simp
theorem zYD {a b:List UInt8}:zTt .neq ⟨a.toArray⟩ ⟨b.toArray⟩=some (.bool (!decide (a=b))):=by
 simp only[zTt,zMS];congr 2;rw[zAW];simp
theorem zV1 {a b:List UInt8}(h:a.length+b.length<=9223372036854775807):zTt .add ⟨a.toArray⟩ ⟨b.toArray⟩=some (str (a++b)):=by
 simp only[zTt,zJe]
 rw[if_neg (by show ¬ ((a.length+b.length:Nat):Int) > 9223372036854775807;omega)]
 congr 2
@[simp] theorem zAlv {l:List UInt8}:(str l).oneCell'=true:=rfl
theorem zAgt {H:zAw}{l:List UInt8}:Bs H (str l) l:=by
 unfold Bs zEz
 simp only[if_true,zJe]
 congr 2
 apply Array.ext'
 simp[zBD]
theorem Sl.str {P:zA3}{H:zAw}{v:Value}{l:List UInt8}(h:Sl P H v l):Go.X.b2s H v=some (str l):=h.b2s
def zAmu (P:Program)(fv:Value)(xs:List (List Value))(S:zA3)(St:zAw->Prop):Prop :=
 ∀ (yv:Value) (h0:zAw) (J:Nat->zAw->Prop) (E:zAw->Prop),St h0->J 0 h0 ->
  (∀ (i:Nat) (x:List Value) (h:zAw),xs[i]? = some x->J i h->zDO P yv x h λv h'=>h.size<=h'.size/\(∀ b,S b->b<h.size->h'[b]? = h[b]?)/\((v = .bool true/\J (i+1) h')\/(v = .bool false/\E h'))) ->
  (∀ i h h',J i h->Keep S h h'->J i h')->(∀ h h',E h->Keep S h h'->E h') ->
  zAcl P fv [yv] h0 λ_ h=>J xs.length h\/E h
theorem range_i {P:Program}{n0:Nat}{fv:Value}{H:zAw}{B:List Value->zAw->(Option Code->zAw->Prop)->Prop}{rest:Option Code->zAw->Prop}
  {xs:List (List Value)} {S W:zA3} {St:zAw->Prop} (hit:zAmu P fv xs S St) (hst:∀ o o',St ((H.push o).push o')) (hn:n0<=H.size)
  (Inv:Nat->zAw->Prop) (Ex:Code->zAw->Prop) (h0:Inv 0 H)
  (sI:∀ i h h',Inv i h->Keep (λb=>S b\/b=H.size\/b=H.size+1) h h'->Inv i h')
  (sE:∀ c h h',Ex c h->Keep (λb=>S b\/b=H.size\/b=H.size+1) h h'->Ex c h')
  (hS:∀ b,S b->b<H.size) (hW:∀ b,W b->b≠H.size/\b≠H.size+1/\¬ S b)
  (hB:∀ (i:Nat) (x:List Value) (h:zAw) (r:Loop),xs[i]? = some x->Inv i h->h[H.size+1]? = some (.loop r)->r.state = .ready ->
   ∀ K:Option Code->zAw->Prop,(∀ h',Keep W (h.setIfInBounds (H.size+1) (.loop { r with state := .busy })) h'->Inv (i+1) h'->K none h') ->
    (∀ c h',Keep W (h.setIfInBounds (H.size+1) (.loop { r with state := .busy })) h'->Ex c h'->K (some c) h')->B x h K)
  (hrest:∀ h,H.size<=h.size->Inv xs.length h->rest none h) (hexit:∀ c h,H.size<=h.size->Ex c h->rest (some c) h):zS5 P n0 fv H B rest:=by
 refine⟨hn,λrec hr hp hyield=>?_⟩
 have hsz:((H.push (.deferred (some []))).push (.loop rec)).size=H.size+2:=by simp
 have hL:((H.push (.deferred (some []))).push (.loop rec))[H.size+1]? = some (.loop rec):=by
  have:=zCh (H:=H.push (.deferred (some []))) (y := .loop rec)
  rwa [show(H.push (.deferred (some []))).size=H.size+1 by simp]at this
 have hSL:¬ S (H.size+1):=λh=>by have:=hS _ h;omega
 have main:=hit (.func (.yield (H.size+1)) #[] #[]) ((H.push (.deferred (some []))).push (.loop rec)) (λi h=>Inv i h/\h[H.size+1]? = some (.loop rec))
  (λh=>∃ c,Ex c h/\∃ r,h[H.size+1]? = some (.loop r)/\r.state = .done/\r.pending=some c) (hst _ _)
  ⟨sI _ _ _ h0 ((Keep.push (S:=λb=>S b\/b=H.size\/b=H.size+1)).trans Keep.push),hL⟩ ?_
  (λi h h' ⟨h1,h2⟩ k=>⟨sI _ _ _ h1 (k.mono λ_ _ h => .inl h),k.at h2 hSL⟩)
  (λh h' ⟨c,h1,r,h2,h3⟩ k=>⟨c,sE _ _ _ h1 (k.mono λ_ _ h => .inl h),r,k.at h2 hSL,h3⟩)
 ·obtain⟨f,fi,ca,e1,e2,hc⟩:=main
  refine⟨f,fi,ca,e1,e2,λw hw=>(hc w hw).mono λe w'=>?_⟩
  rintro⟨v,he,hs,hJ⟩
  refine⟨v,he,hs,?_⟩
  rcases hJ with ⟨hI,hl⟩|⟨c,hE,r,hl,hd,hpend⟩
  ·refine⟨rec,hl,by rw[hr];decide,?_⟩
   rw[hp]
   refine hrest _ ?_ (sI _ _ _ hI (Keep.set (.inr (.inr rfl))))
   simp;have:=lt_of hl;omega
  ·refine⟨r,hl,by rw[hd];decide,?_⟩
   rw[hpend]
   refine hexit _ _ ?_ (sE _ _ _ hE (Keep.set (.inr (.inr rfl))))
   simp;have:=lt_of hl;omega
 ·rintro i x h hx ⟨hI,hl⟩
  refine .inr ⟨H.size+1,#[],#[],rfl,hyield _ _ _ hl (hB i x h rec hx hI hl hr _ ?_ ?_)⟩
  ·intro h' k hI'
   have hl':=k.at (zBp (y := .loop { rec with state := .busy }) hl) (λh=>(hW _ h).2.1 rfl)
   have hsize:h.size<=h'.size:=by have:=k.1;simpa using this
   refine⟨_,hl',by simpa using hsize,λb hb hlt=>?_,.inl ⟨rfl,?_,?_⟩⟩
   ·have hne:H.size+1≠b:=λe=>hSL (e ▸ hb)
    rw[zAC,if_neg hne,k.2 b (by simpa using hlt) (λhw=>(hW _ hw).2.2 hb),zAC,if_neg hne]
   ·exact sI _ _ _ hI' (Keep.set (.inr (.inr rfl)))
   ·rw[zBp hl']
    congr 2
    cases rec;simp only at hr hp;subst hr hp;rfl
  ·intro c h' k hE
   have hl':=k.at (zBp (y := .loop { rec with state := .busy }) hl) (λh=>(hW _ h).2.1 rfl)
   have hsize:h.size<=h'.size:=by have:=k.1;simpa using this
   refine⟨_,hl',by simpa using hsize,λb hb hlt=>?_,.inr ⟨rfl,c,sE _ _ _ hE (Keep.set (.inr (.inr rfl))),_,zBp hl',rfl,rfl⟩⟩
   have hne:H.size+1≠b:=λe=>hSL (e ▸ hb)
   rw[zAC,if_neg hne,k.2 b (by simpa using hlt) (λhw=>(hW _ hw).2.2 hb),zAC,if_neg hne]
theorem Keep.busy {W:zA3}{h g:zAw}{L:Nat}{o o':Obj}(k:Keep W h g)(hl:h[L]? = some o'):Keep W (h.setIfInBounds L o) (g.setIfInBounds L o):=by
 have:=lt_of hl
 refine⟨by simpa using k.1,λi hi hn=>?_⟩
 have hi':i<h.size:=by simpa using hi
 have hig:i<g.size:=zAN hi' k.1
 rw[zAC,zAC]
 by_cases e:L=i
 ·subst e;rw[if_pos rfl,if_pos rfl,if_pos hig,if_pos hi']
 ·rw[if_neg e,if_neg e,k.2 i hi' hn]
def Shp (P:Program)(w:World):Nat->TypeId->List Value->Prop
 | 0,_,_=>False
 | d+1,t,cs=>match P.underlying t with
  | some .bool=>∃ b,cs=[.bool b]
  | some (.int k)=>∃ n,cs=[.int k n]/\(Lit.int k n).wf=true
  | some .string=>∃ s:ByteArray,cs=[.string s]/\s.size<=maxLen
  | some (.struct fs)=>cs.length=P.cellsOf t/\∀ (i:Nat) (f:Field),fs[i]? = some f->Shp P w d f.type ((cs.drop f.offset).take (P.cellsOf f.type))
  | some (.array n e)=>cs.length=P.cellsOf t/\∀ i,i<n->Shp P w d e ((cs.drop (i*P.cellsOf e)).take (P.cellsOf e))
  | some (.slice e)=>cs=[.slice none 0 0]\/∃ (a:Addr) (len cap:Nat),cs=[.slice (some a) len cap]/\len<=cap/\cap<=maxLen/\∀ i,i<len->∃ cs',w.cells? 0 (a.add (i*P.cellsOf e)) (P.cellsOf e)=some cs'/\Shp P w d e cs'
  | _=>True
theorem shp_of_trod {H:Type}{enc:TypeId×Value->H}{P:Program}{w:World}{base:Nat}{spare:Nat->Bool}{held:Bool}:∀ {fuel:Nat} {t:TypeId} {cs:List Value} {x:DataW H×List MemPlace},
  DataW.trod enc P w base spare held fuel t cs=some x->Shp P w fuel t cs
 | 0,t,cs,x,h=>by simp[DataW.trod]at h
 | n+1,t,cs,x,h=>by
  simp only[Shp]
  split
  ·rename_i ht;obtain⟨b,hb,_⟩:=DataW.trod_bool ht h;exact⟨b,hb⟩
  ·rename_i k ht;obtain⟨m,hm,_,hw⟩:=DataW.trod_int ht h;exact⟨m,hm,hw⟩
  ·rename_i ht;obtain⟨s,hs,_,hw⟩:=DataW.trod_string ht h;exact⟨s,hs,hw⟩
  ·rename_i fs ht
   obtain⟨xs,m,hm,_,hl,hxl,hf⟩:=DataW.trod_struct ht h
   obtain rfl:n=m:=by omega
   refine⟨hl,λi f hi=>?_⟩
   have h1:=hf i f hi
   have hlt:i<xs.length:=by rw[hxl];exact(zBh.1 hi).1
   rw[zAj hlt]at h1
   exact shp_of_trod h1
  ·rename_i k e ht
   unfold DataW.trod at h
   rw[ht]at h
   simp only at h
   split at h
   ·rename_i hl
    obtain⟨xs,hm,_⟩:=zBF.1 h
    refine⟨hl,λi hi=>?_⟩
    have h1:=mapM_some_get hm i i (by simp[hi])
    have hlen:xs.length=k:=by simpa using mapM_some_length hm
    rw[zAj (by omega)]at h1
    exact shp_of_trod h1
   ·cases h
  ·rename_i e ht
   rcases DataW.trod_slice ht h with ⟨h0,_⟩|⟨a,len,cap,elems,rest,m,hm,hc,_,hb,hl,hcap,hel,hg,_⟩
   ·exact .inl h0
   ·obtain rfl:n=m:=by omega
    refine .inr ⟨a,len,cap,hc,hl,hcap,λi hi=>?_⟩
    have h1:=hg i hi
    rw[zAj (by omega)]at h1
    obtain⟨cs',h2,h3⟩:=Option.bind_eq_some_iff.1 h1
    refine⟨cs',?_,shp_of_trod h3⟩
    unfold World.cells? at h2 ⊢
    rw[if_pos (zAA _)]
    split at h2
    ·exact h2
    ·cases h2
  ·trivial
theorem zT4 {w:World}{a:Addr}{n:Nat}{cs:List Value}(hn:0<n)(h:w.cells? 0 a n=some cs):a.spot=none/\cs.length=n/\Pt w.heap a.block a.off cs:=by
 obtain⟨_,hl,hc⟩:=World.cells?_some h
 obtain⟨b,o,sp⟩:=a
 have h1:=hc 0 hn
 have h1':w.cell? ⟨b,o,sp⟩=cs[0]?:=h1
 rw[zAj (by omega)]at h1'
 obtain⟨c,T,f,hb,rfl⟩:∃ c T f,w.heap[b]? = some (.cells c T f)/\sp=none:=by
  unfold World.cell? at h1'
  split at h1'
  ·rename_i c T f hb
   cases sp with
   | none=>exact⟨c,T,f,hb,rfl⟩
   | some s=>cases h1'
  ·cases h1'
 have hcs:∀ i,i<n->c[o+i]? = cs[i]?:=λi hi=>by
  have h2:=hc i hi
  have e:(⟨b,o,none⟩:Addr).add i=⟨b,o+i,none⟩:=by
   unfold Addr.add;split
   ·rename_i h;subst h;rfl
   ·rfl
  rw[e]at h2
  unfold World.cell? at h2
  simp only[hb]at h2
  exact h2
 have hlast:o+(n-1)<c.size:=by
  have:=hcs (n-1) (by omega)
  rw[zAj (by omega)]at this
  exact(zBh.1 this).1
 refine⟨rfl,hl,c,T,f,hb,(show o+cs.length<=c.size by omega),?_⟩
 apply zCS
 intro i
 simp only[zCn,zC4]
 split
 ·rename_i hi
  rw[<- hcs i (by omega)];simp
 ·rw[zDf (by omega)]
theorem zLm {w:World}{n:Nat}(hn:0<n){a:Addr}{len cap:Nat}{q:List Value->Prop}(hle:len<=cap)(hq:∀ cs,q cs->∀ c∈cs,c.oneCell'=true)
  (h:∀ i,i<len->∃ cs,w.cells? 0 (a.add (i*n)) n=some cs/\q cs):∃ xs:List (List Value),xs.length=len/\SlE n (· < w.heap.size) w.heap (.slice (some a) len cap) xs/\∀ x∈xs,q x:=by
 by_cases h0:len=0
 ·subst h0;exact⟨[],rfl,SlE.nil,λx hx=>by cases hx⟩
 obtain⟨c0,hc0,_⟩:=h 0 (by omega)
 have ha0:a.add (0*n)=a:=by simp[Addr.add]
 rw[ha0]at hc0
 obtain⟨hsp,_,hpt0⟩:=zT4 hn hc0
 obtain⟨b,o,sp⟩:=a
 simp only at hsp hpt0
 subst hsp
 have hadd:∀ i,(⟨b,o,none⟩:Addr).add i=⟨b,o+i,none⟩:=λi=>by
  unfold Addr.add;split
  ·rename_i h;subst h;rfl
  ·rfl
 have key:∀ k,k<=len->∃ xs:List (List Value),xs.length=k/\(∀ x∈xs,x.length=n)/\(∀ x∈xs,q x)/\Pt w.heap b o xs.flatten:=by
  intro k
  induction k with
  | zero =>
   intro _
   obtain⟨c,T,f,hb,h1,h2⟩:=hpt0
   exact⟨[],rfl,λx h=>(by cases h),λx h=>(by cases h),c,T,f,hb,by simp;omega,by simp⟩
  | succ k ih =>
   intro hk
   obtain⟨xs,hx1,hx2,hx3,c,T,f,hb,h1,h2⟩:=ih (by omega)
   obtain⟨cs,hcs,hqc⟩:=h k (by omega)
   rw[hadd]at hcs
   obtain⟨_,hcl,c',T',f',hb',h1',h2'⟩:=zT4 hn hcs
   simp only at hb' h1' h2'
   rw[hb]at hb'
   cases hb'
   have hfl:=zI5 hx2
   refine⟨xs++[cs],by simp[hx1],?_,?_,c,T,f,hb,?_,?_⟩
   ·intro x hx
    rcases zAs.1 hx with hx|hx
    ·exact hx2 x hx
    ·simp at hx;subst hx;exact hcl
   ·intro x hx
    rcases zAs.1 hx with hx|hx
    ·exact hx3 x hx
    ·simp at hx;subst hx;exact hqc
   ·simp only[zBt,zA7,zCm,zAP,zAt,hfl,hx1];omega
   ·simp only[zBt,zA7,zCm,zAP,zAt]
    rw[List.take_add,h2,zCL,hfl,hx1,h2']
 obtain⟨xs,hx1,hx2,hx3,hp⟩:=key len (zAi _)
 exact⟨xs,hx1,⟨⟨_,cap,by rw[hx1],by omega,.inr ⟨b,o,rfl,hp.lt,hp⟩⟩,hx2,λx hx=>hq x (hx3 x hx)⟩,hx3⟩
theorem shp_int {P:Program}{w:World}{d:Nat}{t:TypeId}{k:IntKind}{cs:List Value}(ht:P.underlying t=some (.int k))(h:Shp P w d t cs):∃ n,cs=[.int k n]/\(Lit.int k n).wf=true:=by
 cases d with
 | zero=>exact h.elim
 | succ d=>simp only[Shp,ht]at h;exact h
theorem zSA {P:Program}{w:World}{d:Nat}{t:TypeId}{cs:List Value}(ht:P.underlying t=some .string)(h:Shp P w d t cs):∃ s:ByteArray,cs=[.string s]/\s.size<=maxLen:=by
 cases d with
 | zero=>exact h.elim
 | succ d=>simp only[Shp,ht]at h;exact h
theorem zAa0 {P:Program}{w:World}{d:Nat}{t:TypeId}{fs:Array Field}{cs:List Value}(ht:P.underlying t=some (.struct fs))(h:Shp P w d t cs):∃ d',cs.length=P.cellsOf t/\∀ (i:Nat) (f:Field),fs[i]? = some f->Shp P w d' f.type ((cs.drop f.offset).take (P.cellsOf f.type)):=by
 cases d with
 | zero=>exact h.elim
 | succ d=>simp only[Shp,ht]at h;exact⟨d,h⟩
theorem zZP {P:Program}{w:World}{d n:Nat}{t e:TypeId}{k:IntKind}{cs:List Value}(ht:P.underlying t=some (.array n e))(he:P.underlying e=some (.int k))(hc:P.cellsOf e=1)(hn:P.cellsOf t=n)(h:Shp P w d t cs) :
  ∃ l:List Int,l.length=n/\cs=l.map (Value.int k)/\∀ x∈l,(Lit.int k x).wf=true:=by
 cases d with
 | zero=>exact h.elim
 | succ d =>
  simp only[Shp,ht]at h
  obtain⟨hl,hf⟩:=h
  rw[hn]at hl
  have each:∀ i (hi:i<n),∃ m,cs[i]? = some (.int k m)/\(Lit.int k m).wf=true:=λi hi=>by
   obtain⟨m,hm,hw⟩:=shp_int he (hf i hi)
   rw[hc,zCv]at hm
   refine⟨m,?_,hw⟩
   have:=congrArg (·[0]?) hm
   simpa [zCn,zC4] using this
  refine⟨cs.map λv=>match v with | .int _ m=>m|_=>0,by simpa using hl,?_,?_⟩
  ·apply zCS
   intro i
   by_cases hi:i<n
   ·obtain⟨m,hm,_⟩:=each i hi
    simp[hm]
   ·simp[zDf (show cs.length<=i by omega)]
  ·intro x hx
   obtain⟨v,hv,rfl⟩:=zAo.1 hx
   obtain⟨i,hi,rfl⟩:=zBz hv
   obtain⟨m,hm,hw⟩:=each i (by omega)
   rw[zAj hi]at hm
   rw[zAL hm]
   exact hw
theorem zAa1 {l:List Int}(h:∀ x∈l,(Lit.int .u8 x).wf=true):∃ r:List UInt8,r.length=l.length/\l.map (Value.int .u8)=zBD r:=by
 refine⟨l.map λn=>UInt8.ofNat n.toNat,by simp,?_⟩
 simp only[zBD,List.map_map]
 refine zBR λx hx=>?_
 have hz:=h x hx
 simp only[Lit.wf,IntKind.min,IntKind.max,IntKind.signed,IntKind.bits]at hz
 simp only[Function.comp]
 congr 1
 simp at hz ⊢
 omega
theorem zXh {P:Program}{w:World}{name:String}{k:IntKind}{zs:List Int}{g n:Nat}{t e:TypeId}(hg:P.globalNamed name=some g)(hty:(P.globals[g]?).map (·.type)=some t)(ht:P.underlying t=some (.array n e))(he:P.underlying e=some (.int k))(hce:P.cellsOf e=1)(hct:P.cellsOf t=n) :
  ∀ {l:List (String×DataW Unit)} {ps:List MemPlace},DataW.LaidVars P w l ps->(name,Lib.tabData k zs)∈l->∃ T f,w.heap[g]? = some (.cells (zs.map (Value.int k)).toArray T f)
 | [],_,_,hm=>by cases hm
 | (nm,d)::r,ps,h,hm=>by
  obtain⟨g',t',cs,fuel,p,q,hg',ht',hvar,hd,hrest,_⟩:=h
  rcases zAq.1 hm with he'|hm
  ·cases he'
   obtain rfl:=zAL (hg.symm.trans hg')
   obtain rfl:=zAL (hty.symm.trans ht')
   have hcs:=Lib.cells_of_tab ht he hce hct hd
   unfold World.var? at hvar
   rw[hg,zAZ]at hvar
   split at hvar
   ·rename_i cs' T f hb
    cases zAL hvar
    rw[<- hcs]
    exact⟨T,f,by simpa using hb⟩
   ·cases hvar
  ·exact zXh hg hty ht he hce hct hrest hm
end Go.X
