import Derived.Test.YticdfkoncnnmmaaGreatDoorGF
import Derived.Test.YticdfkoncnnmmaaGreatDoorGE
import Derived.Test.YticdfkoncnnmmaaGreatDoorGQ
import Derived.Test.YticdfkoncnnmmaaGreatDoorGT
import Derived.KernelRfl
set_option linter.unusedSimpArgs false
set_option linter.unusedVariables false
set_option maxRecDepth 100000
namespace Go.Proofs.YticdfkoncnnmmaaGreatDoor
open Go.X
theorem zAnm:zF6 prg zCl 0 []=some #[]:=by kernel_rfl
theorem zAlN {n:Int}:zF6 prg zCl 1 [(0,.int .u8 n)]=some #[.int .u8 n]:=by kernel_rfl
def zPY:List UInt8:=List.replicate 32 0
theorem zZY:zBI prg zB5=some (zBs zPY).toArray:=by kernel_rfl
theorem zAh3 {F:zA1}{H:zAx}{a:Option Addr}{n c:Nat}{l:List UInt8}(h:Bs H (.slice a n c) l)(hl:l.length<=140737488355328)(hf:∀ b,H.size<=b->F b) :
  zAA prg zJP [.slice a n c] H λu H'=>Buf F H' u l/\Keep F H H':=by
 apply zQB
 unfold zQN
 cases a with
 | none =>
  obtain rfl:l=[]:=by
   rcases h.shape with ⟨a,c,hv,rfl⟩|⟨b,o,c,cs,T,f,hv,_⟩|⟨s,hv,_⟩
   ·rfl
   ·cases hv
   ·cases hv
  simp only[zT6,zXv,zAT,zAa,zAl,Option.isNone_none,if_true]
  exact⟨.inl ⟨rfl,rfl⟩,Keep.refl⟩
 | some a =>
  simp only[zT6,zXu,zAT,zAa,zAl,zAb,if_false,zAnm,zCo]
  have hx:=zAcc (H':=H.push (.cells #[] zCl (0,0))) ⟨by simp,λi hi=>by rw[zCf,if_neg (by omega)]⟩ h
  exact Buf.app (F:=F) (l:=[]) (.inr ⟨H.size,0,0,#[],zCl,(0,0),rfl,hf _ (zAh _),zAh _,zCj,zAh _,λ_ _ _ _=>zLL,rfl⟩) hx (by simpa using hl) (hf _ (by simp)) λv H' ho hk=>⟨ho,Keep.push.trans hk⟩
theorem zZZ {F P:zA1}{H:zAx}{v:Value}{l:List UInt8}(h:Sl P H v l)(hl:l.length<=140737488355328)(hf:∀ b,H.size<=b->F b) :
  zAA prg zJP [v] H λu H'=>Buf F H' u l/\Keep F H H':=by
 obtain⟨a,c,rfl,_⟩:=h.sl
 exact zAh3 h.bs hl hf
def Wr (F:zA1)(p:Nat):zA1:=λb=>F b\/b=p
def zAgH (n:Int)(s:Nat):UInt8:=UInt8.ofNat ((n.fdiv (2 ^ s)) % 256).toNat
def zAmN (n:Int)(size:Nat):List UInt8:=(List.range size).map λi=>zAgH n (8*(size-1-i))
def zAjO (n:Int)(size j:Nat):List UInt8:=(List.range j).map λi=>zAgH n (8*(size-1-i))
@[simp] theorem zAlp {n:Int}{s:Nat}:(zAmN n s).length=s:=by simp[zAmN]
@[simp] theorem zAjP {n:Int}{s j:Nat}:(zAjO n s j).length=j:=by simp[zAjO]
theorem zWd (m:Int):IntKind.u8.wrap m=(UInt8.ofNat (m % 256).toNat).toNat:=by
 simp only[IntKind.wrap,IntKind.bits,IntKind.signed];simp;omega
def zCm (k:IntKind)(l:List Int):List Value:=l.map (Value.int k)
@[simp] theorem zVp {k:IntKind}{l:List Int}:(zCm k l).length=l.length:=by simp[zCm]
theorem zIb {k:IntKind}{l:List Int}{i:Nat}{x:Int}(h:l[i]? = some x):(zCm k l)[i]? = some (.int k x):=by simp[zCm,h]
theorem zSJ {k:IntKind}{l:List Int}:∀ v∈zCm k l,v.oneCell'=true:=by
 intro v hv;obtain⟨b,_,rfl⟩:=zAo.1 hv;rfl
theorem zVq {k:IntKind}{l:List Int}:(zCm k l).toArray.all (·.oneCell')=true:=by
 rw[zBA];intro v hv;exact zSJ v (by simpa using hv)
theorem zSK {k:IntKind}{l:List Int}{i:Nat}{x:Int}:(zCm k l).set i (.int k x)=zCm k (l.set i x):=by simp[zCm]
def zAes (H:zAx)(g:Nat)(k:IntKind)(zs:List Int):Prop:=∃ T f,H[g]? = some (.cells (zCm k zs).toArray T f)
theorem zAes.keep {S:zA1}{H H':zAx}{g:Nat}{k:IntKind}{zs:List Int}(h:zAes H g k zs)(kp:Keep S H H')(hs:¬ S g):zAes H' g k zs:=by
 obtain⟨T,f,h⟩:=h;exact⟨T,f,kp.at h hs⟩
theorem zAes.lt {H:zAx}{g:Nat}{k:IntKind}{zs:List Int}(h:zAes H g k zs):g<H.size:=by obtain⟨T,f,h⟩:=h;exact lt_of h
theorem zAes.ld {H:zAx}{g:Nat}{k:IntKind}{zs:List Int}(h:zAes H g k zs){i:Nat}{x:Int}(hi:zs[i]? = some x):ld1 H (Ptr g i)=some (.int k x):=by
 obtain⟨T,f,h⟩:=h;exact zSp h (zIb hi)
def zIk:List Int:=[0x6a09e667,0xbb67ae85,0x3c6ef372,0xa54ff53a,0x510e527f,0x9b05688c,0x1f83d9ab,0x5be0cd19]
def zZ0:List Int:=[
 0x428a2f98,0x71374491,0xb5c0fbcf,0xe9b5dba5,0x3956c25b,0x59f111f1,0x923f82a4,0xab1c5ed5,
 0xd807aa98,0x12835b01,0x243185be,0x550c7dc3,0x72be5d74,0x80deb1fe,0x9bdc06a7,0xc19bf174,
 0xe49b69c1,0xefbe4786,0x0fc19dc6,0x240ca1cc,0x2de92c6f,0x4a7484aa,0x5cb0a9dc,0x76f988da,
 0x983e5152,0xa831c66d,0xb00327c8,0xbf597fc7,0xc6e00bf3,0xd5a79147,0x06ca6351,0x14292967,
 0x27b70a85,0x2e1b2138,0x4d2c6dfc,0x53380d13,0x650a7354,0x766a0abb,0x81c2c92e,0x92722c85,
 0xa2bfe8a1,0xa81a664b,0xc24b8b70,0xc76c51a3,0xd192e819,0xd6990624,0xf40e3585,0x106aa070,
 0x19a4c116,0x1e376c08,0x2748774c,0x34b0bcb5,0x391c0cb3,0x4ed8aa4a,0x5b9cca4f,0x682e6ff3,
 0x748f82ee,0x78a5636f,0x84c87814,0x8cc70208,0x90befffa,0xa4506ceb,0xbef9a3f7,0xc67178f2]
structure zRs (H:zAx):Prop where
 bgn:zAes H zMF .u32 zIk
 tab:zAes H zI7 .u32 zZ0
 sz:NG<=H.size
theorem zRs.keep {S:zA1}{H H':zAx}(h:zRs H)(k:Keep S H H')(hs:∀ b,S b->NG<=b):zRs H' :=
 ⟨h.bgn.keep k λh=>absurd (hs _ h) (by decide),h.tab.keep k λh=>absurd (hs _ h) (by decide),zBh h.sz k.1⟩
def zAgI (k:IntKind)(a b:Int):Int:=k.wrap (BitVec.ofInt k.bits a &&& BitVec.ofInt k.bits b).toNat
def orI (k:IntKind)(a b:Int):Int:=k.wrap (BitVec.ofInt k.bits a ||| BitVec.ofInt k.bits b).toNat
def zAbU (k:IntKind)(a b:Int):Int:=k.wrap (BitVec.ofInt k.bits a ^^^ BitVec.ofInt k.bits b).toNat
def zAmO (k:IntKind)(a:Int):Int:=k.wrap (BitVec.ofInt k.bits (if k.signed then -1 else k.max) ^^^ BitVec.ofInt k.bits a).toNat
def zYN (k:IntKind)(a b:Int):Int:=k.wrap (a+b)
def zAjQ (k:IntKind)(a b:Int):Int:=k.wrap (a*2 ^ (min b.toNat k.bits))
def zWe (k:IntKind)(a b:Int):Int:=a.fdiv (2 ^ (min b.toNat k.bits))
theorem zAh4 {q:EqK}{k:IntKind}{a b:Int}:zAB q .and (.int k a) (.int k b)=some (.int k (zAgI k a b)):=by rw[zAJ];rfl
theorem zAlO {q:EqK}{k:IntKind}{a b:Int}:zAB q .or (.int k a) (.int k b)=some (.int k (orI k a b)):=by rw[zAJ];rfl
theorem zYO {q:EqK}{k:IntKind}{a b:Int}:zAB q .xor (.int k a) (.int k b)=some (.int k (zAbU k a b)):=by rw[zAJ];rfl
theorem zAlP {k:IntKind}{a:Int}:unV .xor (.int k a)=some (.int k (zAmO k a)):=rfl
theorem zAcG {q:EqK}{k:IntKind}{a b:Int}:zAB q .add (.int k a) (.int k b)=some (.int k (zYN k a b)):=by rw[zAJ];rfl
theorem zAe1 {q:EqK}{k k':IntKind}{a b:Int}(h:0<=b):zAB q .shl (.int k a) (.int k' b)=some (.int k (zAjQ k a b)):=by
 rw[zTC];simp only[zC8];rw[if_neg (by omega)];rfl
theorem zSL {q:EqK}{k k':IntKind}{a b:Int}(h:0<=b):zAB q .shr (.int k a) (.int k' b)=some (.int k (zWe k a b)):=by
 rw[zZW];simp only[zC8];rw[if_neg (by omega)];rfl
theorem zVr {n:Int}:0<=IntKind.u64.wrap n:=by
 simp only[IntKind.wrap,IntKind.bits,IntKind.signed];simp;omega
def zAlq (n:Int):Int:=zAgI .u64 (IntKind.u64.wrap n) 31
def zAmP (x n:Int):Int:=orI .u32 (zAjQ .u32 x (zAlq n)) (zWe .u32 x (IntKind.u64.wrap (32-zAlq n)))
def zAcH (x n:Int):Int:=zAmP x (IntKind.i64.wrap (0-n))
theorem zYP {n:Int}:0<=zAlq n:=zVr
theorem zUZ {H:zAx}{x n:Int}:zAA prg zGE [.int .u32 x,.int .i64 n] H λu H'=>u = .int .u32 (zAmP x n)/\H=H':=by
 apply zKS
 unfold zII
 simp only[zFH,zAa,zAh4]
 rw[show zAgI .u64 (IntKind.u64.wrap n) 31=zAlq n from rfl,zAe1 zYP]
 simp only[zAa,zAJ,zC8]
 rw[zSL zVr]
 simp only[zAa,zAlO]
 exact⟨rfl,trivial⟩
theorem zNT {H:zAx}{x n:Int}:zAA prg zFc [.int .u32 x,.int .i64 n] H λu H'=>u = .int .u32 (zAcH x n)/\H=H':=by
 apply zRL
 unfold zTh
 have e:unV .neg (.int .i64 n)=some (.int .i64 (IntKind.i64.wrap (0-n))):=rfl
 simp only[e,zAa]
 refine zAI zUZ ?_
 rintro _ _ ⟨rfl,rfl⟩
 exact⟨rfl,rfl⟩
def zAh5 (l:List UInt8):Int :=
 orI .u32 (orI .u32 (orI .u32 (zAjQ .u32 (IntKind.u32.wrap (l.getD 0 0).toNat) 24) (zAjQ .u32 (IntKind.u32.wrap (l.getD 1 0).toNat) 16)) (zAjQ .u32 (IntKind.u32.wrap (l.getD 2 0).toNat) 8)) (IntKind.u32.wrap (l.getD 3 0).toNat)
theorem zAjR {P:zA1}{H:zAx}{v:Value}{l:List UInt8}(h:Sl P H v l)(hl:4<=l.length):zAA prg zSB [v] H λu H'=>u = .int .u32 (zAh5 l)/\H=H':=by
 apply zSG
 unfold zUe
 have g:∀ i,i<4->l[i]? = some (l.getD i 0):=λi hi=>by
  have:i<l.length:=by omega
  simp[List.getD,this]
 obtain⟨u0,i0,d0,_⟩:=h.at (g 0 (by omega))
 obtain⟨u1,i1,d1,_⟩:=h.at (g 1 (by omega))
 obtain⟨u2,i2,d2,_⟩:=h.at (g 2 (by omega))
 obtain⟨u3,i3,d3,_⟩:=h.at (g 3 (by omega))
 have i0:ixS 1 v (.int .i64 0)=some u0:=i0
 have i1:ixS 1 v (.int .i64 1)=some u1:=i1
 have i2:ixS 1 v (.int .i64 2)=some u2:=i2
 have i3:ixS 1 v (.int .i64 3)=some u3:=i3
 simp only[i0,i1,i2,i3,zAa,d0,d1,d2,d3,zFH]
 rw[zAe1 (by omega)]
 simp only[zAa]
 rw[zAe1 (by omega)]
 simp only[zAa,zAlO]
 rw[zAe1 (by omega)]
 simp only[zAa,zAlO]
 exact⟨rfl,trivial⟩
def zAbb (b:List UInt8)(l:List Int):Int :=
 let t:=l.length
 if t<16 then zAh5 (b.drop (4*t)) else
 let x:=l.getD (t-15) 0
 let y:=l.getD (t-2) 0
 zYN .u32 (zYN .u32 (zYN .u32 (zAbU .u32 (zAbU .u32 (zAcH y 17) (zAcH y 19)) (zWe .u32 y 10)) (l.getD (t-7) 0)) (zAbU .u32 (zAbU .u32 (zAcH x 7) (zAcH x 18)) (zWe .u32 x 3))) (l.getD (t-16) 0)
def wOf (b:List UInt8):Nat->List Int
 | 0=>[]
 | t+1=>wOf b t++[zAbb b (wOf b t)]
@[simp] theorem zYQ {b:List UInt8}{t:Nat}:(wOf b t).length=t:=by induction t<;>simp_all [wOf]
def rnd (K W:Int):List Int->List Int
 | [a,b,c,d,e,f,g,h] =>
  let t1:=zYN .u32 (zYN .u32 (zYN .u32 (zYN .u32 h (zAbU .u32 (zAbU .u32 (zAcH e 6) (zAcH e 11)) (zAcH e 25))) (zAbU .u32 (zAgI .u32 e f) (zAgI .u32 (zAmO .u32 e) g))) K) W
  let t2:=zYN .u32 (zAbU .u32 (zAbU .u32 (zAcH a 2) (zAcH a 13)) (zAcH a 22)) (zAbU .u32 (zAbU .u32 (zAgI .u32 a b) (zAgI .u32 a c)) (zAgI .u32 b c))
  [zYN .u32 t1 t2,a,b,c,zYN .u32 d t1,e,f,g]
 | s=>s
theorem zAh6 {K W:Int}{s:List Int}(h:s.length=8):(rnd K W s).length=8:=by
 match s,h with
 | [a,b,c,d,e,f,g,h],_=>rfl
def zAgJ (b:List UInt8)(s:List Int):Nat->List Int
 | 0=>s
 | t+1=>rnd (zZ0.getD t 0) ((wOf b 64).getD t 0) (zAgJ b s t)
theorem zWf {b:List UInt8}{s:List Int}(h:s.length=8){t:Nat}:(zAgJ b s t).length=8:=by
 induction t with
 | zero=>exact h
 | succ t ih=>exact zAh6 ih
def zAcI (s:List Int)(b:List UInt8):List Int:=List.zipWith (zYN .u32) s (zAgJ b s 64)
theorem zOJ {s:List Int}{b:List UInt8}(h:s.length=8):(zAcI s b).length=8:=by simp[zAcI,h,zWf h]
theorem zAlQ:zBI prg zHW=some (zCm .u32 (List.replicate 64 0)).toArray:=by kernel_rfl
theorem zAnn:zBI prg zFe=some (zCm .u32 (List.replicate 8 0)).toArray:=by kernel_rfl
theorem zUh {l:List Int}{i:Nat}(h:i<l.length):l[i]? = some (l.getD i 0):=by simp[List.getD,h]
theorem zAno {b:List UInt8}{t:Nat}(ht:t<64):(wOf b t++List.replicate (64-t) 0).set t (zAbb b (wOf b t))=wOf b (t+1)++List.replicate (64-(t+1)) 0:=by
 rw[zCR _ _ (by simp),zYQ,Nat.sub_self,show 64-t=(64-(t+1))+1 by omega,List.replicate_succ]
 simp[wOf]
theorem zAmQ {b:List UInt8}{t i:Nat}(h:i<t):(wOf b t++List.replicate (64-t) 0)[i]? = some ((wOf b t).getD i 0):=by
 rw[List.getElem?_append_left (by simpa using h),zUh (by simpa using h)]
theorem zAlR {H:zAx}{q:Nat}{T:TypeId}{a b c d e f g h:Int}{k:zAm}(hq:H[q]? = some (.cells (zCm .u32 [a,b,c,d,e,f,g,h]).toArray T (0,0)))
  (hk:k (.int .i64 7) (H.setIfInBounds q (.cells (zCm .u32 [a,a,b,c,d,e,f,g]).toArray T (0,0)))):zQ0 1 H (.slice (some ⟨q,1,none⟩) 7 7) (.slice (some ⟨q,0,none⟩) 7 8) k:=by
 refine⟨7,(zCm .u32 [a,b,c,d,e,f,g]).toArray,some ⟨q,1,none⟩,7,7,?_,rfl,?_⟩
 ·simp only[zED,hq];rfl
 ·have e:((zCm .u32 [a,b,c,d,e,f,g]).toArray.extract 0 (Nat.min 7 7*1))=(zCm .u32 [a,b,c,d,e,f,g]).toArray:=rfl
  simp only[e]
  rw[zQM hq 1 _ zLL (by simp[zCm]) zVq,zAW]
  exact hk
theorem zAh7 {s R:List Int}{i:Nat}(hs:s.length=8)(hR:R.length=8)(hi:i<8) :
  ((List.zipWith (zYN .u32) s R).take i++s.drop i).set i (zYN .u32 (s.getD i 0) (R.getD i 0))=(List.zipWith (zYN .u32) s R).take (i+1)++s.drop (i+1):=by
 match s,hs,R,hR with
 | [a,b,c,d,e,f,g,h],_,[a',b',c',d',e',f',g',h'],_ =>
  match i,hi with
  | 0,_=>rfl
  | 1,_=>rfl
  | 2,_=>rfl
  | 3,_=>rfl
  | 4,_=>rfl
  | 5,_=>rfl
  | 6,_=>rfl
  | 7,_=>rfl
theorem zAh8 {P:zA1}{p:Nat}{H:zAx}{v:Value}{l:List UInt8}{s:List Int}{r:List Value}{T:TypeId}(hT:zRs H)(hd:H[p]? = some (.cells (zCm .u32 s++r).toArray T (0,0)))(hs:s.length=8)
  (hb:Sl P H v l) (hl:64<=l.length) (hP:∀ b,P b->b<H.size) :
  zAA prg zE6 [Ptr p 0,v] H λu H'=>u = .tuple #[]/\H'[p]? = some (.cells (zCm .u32 (zAcI s l)++r).toArray T (0,0))/\Keep (· = p) H H':=by
 apply zNL
 unfold zML
 simp only[zAlQ,zBb,zBT,zAnn]
 have hplt:=lt_of hd
 have hNG:NG<=H.size:=hT.sz
 generalize hH1:H.push (.cells (zCm .u32 (List.replicate 64 0)).toArray zHW (0,0))=H1
 have k1:Keep zAK H H1:=by rw[<- hH1];exact Keep.push
 have hq1:H1[H.size]? = some (.cells (zCm .u32 (List.replicate 64 0)).toArray zHW (0,0)):=by rw[<- hH1];exact zCj
 have hs1:H1.size=H.size+1:=by rw[<- hH1];simp
 generalize hqe:H.size=q at *
 refine zKj (λu h=>∃ t,t<=64/\u = .int .i64 (t:Nat)/\h[q]? = some (.cells (zCm .u32 (wOf l t++List.replicate (64-t) 0)).toArray zHW (0,0))/\Keep (· = q) H1 h)
  (λu _=>match u with | .int _ t=>64-t.toNat|_=>0) ⟨0,by omega,rfl,by simpa [wOf] using hq1,Keep.refl⟩ ?_
 rintro _ h ⟨t,ht,rfl,hw,kw⟩ k hk
 simp only[zAJ,zC8,zAa,zAl,decide_eq_true_eq,zAcw]
 have hinc:IntKind.i64.wrap ((t:Int)+1)=(t+1:Nat):=by rw[zCe]<;>omega
 by_cases hlt:(t:Int)<64
 ·rw[if_pos hlt]
  have hlt':t<64:=by omega
  have fin:∀ x,x=zAbb l (wOf l t)->∃ h',st1 h (Ptr q t) (.int .u32 x)=some h'/\k (.int .i64 (t+1:Nat)) h':=by
   rintro _ rfl
   have hst:=zYt hw (i:=t) (v := .int .u32 (zAbb l (wOf l t))) (by simp;omega) rfl
   refine⟨_,hst,hk _ _ ⟨t+1,hlt',rfl,?_,kw.trans (Keep.set rfl)⟩ (by show 64-(t+1)<64-t;omega)⟩
   rw[zBm hw,zSK,zAno hlt']
  have ea:ixA 64 1 (.pointer (some ⟨q,0,none⟩)) (.int .i64 (t:Nat))=some (Ptr q t):=by rw[zUc hlt'];simp
  by_cases h16:(t:Int)<16
  ·rw[if_pos h16]
   have hm:IntKind.i64.wrap (4*(t:Int))=((4*t:Nat):Int):=by rw[zCe]<;>omega
   have hb':=(hb.keep k1 λ_ _=>id).keep kw λb hb e=>by have:=hP b hb;omega
   obtain⟨u,hu,hsu⟩:=hb'.tail (n:=4*t) (by omega)
   simp only[hm,hu,zAa]
   refine zAI (zAjR hsu (by simp;omega)) ?_
   rintro _ _ ⟨rfl,rfl⟩
   obtain⟨h',hst,hkk⟩:=fin (zAh5 (l.drop (4*t))) (by unfold zAbb;simp only[zYQ];rw[if_pos (by omega)])
   simp only[ea,zAa,hst,zAW,hinc]
   exact hkk
  ·rw[if_neg h16]
   have e15:IntKind.i64.wrap ((t:Int)-15)=((t-15:Nat):Int):=by rw[zCe]<;>omega
   have e2:IntKind.i64.wrap ((t:Int)-2)=((t-2:Nat):Int):=by rw[zCe]<;>omega
   have e7:IntKind.i64.wrap ((t:Int)-7)=((t-7:Nat):Int):=by rw[zCe]<;>omega
   have e16:IntKind.i64.wrap ((t:Int)-16)=((t-16:Nat):Int):=by rw[zCe]<;>omega
   have ix:∀ j,j<64->ixA 64 1 (.pointer (some ⟨q,0,none⟩)) (.int .i64 (j:Nat))=some (Ptr q j):=λj hj=>by rw[zUc hj];simp
   have ld:∀ j,j<t->ld1 h (Ptr q j)=some (.int .u32 ((wOf l t).getD j 0)):=λj hj=>zSp hw (zIb (zAmQ hj))
   have s3:∀ x,zAB .no .shr (.int .u32 x) (.int .u64 3)=some (.int .u32 (zWe .u32 x 3)):=λx=>zSL (by omega)
   have s10:∀ x,zAB .no .shr (.int .u32 x) (.int .u64 10)=some (.int .u32 (zWe .u32 x 10)):=λx=>zSL (by omega)
   simp only[e15,e2,e7,e16,ix (t-15) (by omega),ix (t-2) (by omega),zAa,ld (t-15) (by omega),ld (t-2) (by omega)]
   refine zAI zNT ?_;rintro _ _ ⟨rfl,rfl⟩
   refine zAI zNT ?_;rintro _ _ ⟨rfl,rfl⟩
   simp only[zYO,s3,zAa]
   refine zAI zNT ?_;rintro _ _ ⟨rfl,rfl⟩
   refine zAI zNT ?_;rintro _ _ ⟨rfl,rfl⟩
   simp only[zYO,s10,zAa,ix (t-7) (by omega),ld (t-7) (by omega),zAcG,ix (t-16) (by omega),ld (t-16) (by omega),ea]
   obtain⟨h',hst,hkk⟩:=fin _ (by unfold zAbb;simp only[zYQ];rw[if_neg (by omega)])
   simp only[hst,zAW,zAa]
   rw[hinc]
   exact hkk
 ·rw[if_neg hlt]
  obtain rfl:t=64:=by omega
  clear hk hinc hlt ht
  have hd1:=kw.at (k1.at hd id) (show p≠q by omega)
  have hld:ldN 8 h (Ptr p 0)=some (.agg (zCm .u32 s).toArray):=ldN_mid (A:=[]) (B:=zCm .u32 s) (C:=r) (by simpa using hd1) rfl (by simp[hs])
  simp only[zHX,zBf,zAa,zAi,hld]
  have hT1:=(hT.keep k1 λ_ h=>h.elim).keep kw λb hb=>by omega
  have hq2:(h.push (.cells (zCm .u32 (List.replicate 8 0)).toArray zFe (0,0)))[h.size]? = some (.cells (zCm .u32 (List.replicate 8 0)).toArray zFe (0,0)):=zCj
  have hst:=zPF (n:=8) (o:=0) (A:=[]) (B:=zCm .u32 (List.replicate 8 0)) (C:=[]) (B':=zCm .u32 s) (by rw[zAY,zAP];exact hq2) rfl (by simp) (by simp[hs]) zVq
  simp only[zAY,zAP]at hst
  rw[hst,zAW]
  generalize hH2:(h.push (.cells (zCm .u32 (List.replicate 8 0)).toArray zFe (0,0))).setIfInBounds h.size (.cells (zCm .u32 s).toArray zFe (0,0))=H2
  have k2:Keep zAK h H2:=by
   rw[<- hH2]
   refine⟨by simp,λi hi _=>?_⟩
   rw[zAE,if_neg (by omega),zCf,if_neg (by omega)]
  have hs2:H2[h.size]? = some (.cells (zCm .u32 s).toArray zFe (0,0)):=by rw[<- hH2];exact zBm hq2
  have hqlt:q<h.size:=lt_of hw
  generalize hq2e:h.size=q2 at *
  refine zKj (λu g=>∃ t,t<=64/\u = .int .i64 (t:Nat)/\g[q2]? = some (.cells (zCm .u32 (zAgJ l s t)).toArray zFe (0,0))/\Keep (· = q2) H2 g)
   (λu _=>match u with | .int _ t=>64-t.toNat|_=>0) ⟨0,by omega,rfl,hs2,Keep.refl⟩ ?_
  rintro _ g ⟨t,ht,rfl,hg,kg⟩ k hk
  simp only[zAJ,zC8,zAa,zAl,decide_eq_true_eq]
  have hinc:IntKind.i64.wrap ((t:Int)+1)=(t+1:Nat):=by rw[zCe]<;>omega
  by_cases hlt:(t:Int)<64
  ·rw[if_pos hlt]
   have hlt':t<64:=by omega
   obtain⟨a,b,c,d,e,f,g',h',hR⟩:∃ a b c d e f g h,zAgJ l s t=[a,b,c,d,e,f,g,h]:=by
    have:=zWf (b:=l) hs (t:=t)
    match zAgJ l s t,this with
    | [a,b,c,d,e,f,g,h],_=>exact⟨a,b,c,d,e,f,g,h,rfl⟩
   rw[hR]at hg
   have i0:ixA 8 1 (.pointer (some ⟨q2,0,none⟩)) (.int .i64 0)=some (Ptr q2 0):=rfl
   have i1:ixA 8 1 (.pointer (some ⟨q2,0,none⟩)) (.int .i64 1)=some (Ptr q2 1):=rfl
   have i2:ixA 8 1 (.pointer (some ⟨q2,0,none⟩)) (.int .i64 2)=some (Ptr q2 2):=rfl
   have i4:ixA 8 1 (.pointer (some ⟨q2,0,none⟩)) (.int .i64 4)=some (Ptr q2 4):=rfl
   have i5:ixA 8 1 (.pointer (some ⟨q2,0,none⟩)) (.int .i64 5)=some (Ptr q2 5):=rfl
   have i6:ixA 8 1 (.pointer (some ⟨q2,0,none⟩)) (.int .i64 6)=some (Ptr q2 6):=rfl
   have i7:ixA 8 1 (.pointer (some ⟨q2,0,none⟩)) (.int .i64 7)=some (Ptr q2 7):=rfl
   have d0:ld1 g (Ptr q2 0)=some (.int .u32 a):=zSp hg rfl
   have d1:ld1 g (Ptr q2 1)=some (.int .u32 b):=zSp hg rfl
   have d2:ld1 g (Ptr q2 2)=some (.int .u32 c):=zSp hg rfl
   have d4:ld1 g (Ptr q2 4)=some (.int .u32 e):=zSp hg rfl
   have d5:ld1 g (Ptr q2 5)=some (.int .u32 f):=zSp hg rfl
   have d6:ld1 g (Ptr q2 6)=some (.int .u32 g'):=zSp hg rfl
   have d7:ld1 g (Ptr q2 7)=some (.int .u32 h'):=zSp hg rfl
   have ik:ixA 64 1 (.pointer (some ⟨zI7,0,none⟩)) (.int .i64 (t:Nat))=some (Ptr zI7 t):=by rw[zUc hlt'];simp
   have iw:ixA 64 1 (.pointer (some ⟨q,0,none⟩)) (.int .i64 (t:Nat))=some (Ptr q t):=by rw[zUc hlt'];simp
   have hT2:=(hT1.keep k2 λ_ h=>h.elim).keep kg λb hb=>by omega
   have dk:ld1 g (Ptr zI7 t)=some (.int .u32 (zZ0.getD t 0)):=hT2.tab.ld (zUh (by show t<64;exact hlt'))
   have hw2:=kg.at (k2.at hw id) (show q≠q2 by omega)
   have dw:ld1 g (Ptr q t)=some (.int .u32 ((wOf l 64).getD t 0)):=zSp hw2 (zIb (zAmQ hlt'))
   simp only[i0,i1,i2,i4,i5,i6,i7,d0,d1,d2,d4,d5,d6,d7,zAa,zAh4,zAlP,zYO,ik,dk,iw,dw]
   refine zAI zNT ?_;rintro _ _ ⟨rfl,rfl⟩
   simp only[zZV,zA8,dw,dk,d6,d5,d7,true_and]
   refine zAI zNT ?_;rintro _ _ ⟨rfl,rfl⟩
   simp only[dw,dk,d6,d5,d7,true_and,zYO,zAa]
   refine zAI zNT ?_;rintro _ _ ⟨rfl,rfl⟩
   simp only[dw,dk,d6,d5,d7,true_and,zYO,zAa,zAcG,d1,d2,zAh4]
   refine zAI zNT ?_;rintro _ _ ⟨rfl,rfl⟩
   simp only[d1,d2,true_and]
   refine zAI zNT ?_;rintro _ _ ⟨rfl,rfl⟩
   simp only[d1,d2,true_and,zYO,zAa]
   refine zAI zNT ?_;rintro _ _ ⟨rfl,rfl⟩
   have sl1:slA 8 1 (.pointer (some ⟨q2,0,none⟩)) (some (.int .i64 1)) none none=some (.slice (some ⟨q2,1,none⟩) 7 7):=rfl
   have sl2:slA 8 1 (.pointer (some ⟨q2,0,none⟩)) none (some (.int .i64 7)) none=some (.slice (some ⟨q2,0,none⟩) 7 8):=rfl
   simp only[d1,d2,true_and,zYO,zAa,zAcG,sl1,sl2]
   refine zAlR hg ?_
   have g1:=zBm (y := .cells (zCm .u32 [a,a,b,c,d,e,f,g']).toArray zFe (0,0)) hg
   have d4':∀ x,ld1 (g.setIfInBounds q2 (.cells (zCm .u32 [a,a,b,c,d,e,f,g']).toArray zFe (0,0))) (Ptr q2 4)=some x↔x = .int .u32 d:=λx=>by
    rw[zSp g1 (i:=4) (v := .int .u32 d) rfl];simp[eq_comm]
   have d4'':=(d4' _).2 rfl
   simp only[d4'',zAa,zAcG]
   rw[zYt g1 (i:=4) (by simp) rfl,zAW,zYt (zBm g1) (i:=0) (by simp[zCm]) rfl,zAW,hinc]
   refine hk _ _ ⟨t+1,hlt',rfl,?_,((kg.trans (Keep.set rfl)).trans (Keep.set rfl)).trans (Keep.set rfl)⟩ (by show 64-(t+1)<64-t;omega)
   rw[zBm (zBm g1)]
   have:zAgJ l s (t+1)=rnd (zZ0.getD t 0) ((wOf l 64).getD t 0) [a,b,c,d,e,f,g',h']:=by rw[<- hR];rfl
   rw[this];rfl
  ·rw[if_neg hlt]
   obtain rfl:t=64:=by omega
   clear hk hinc hlt ht
   have kall:Keep zAK H g:=by
    refine⟨by have:=k1.1;have:=kw.1;have:=k2.1;have:=kg.1;omega,λi hi _=>?_⟩
    rw[kg.2 i (by have:=k2.1;omega) (by omega),k2.2 i (by omega) id,kw.2 i (by omega) (by omega),k1.2 i (by omega) id]
   have hdg:=kall.at hd id
   have hRl:=zWf (b:=l) hs (t:=64)
   refine zKj (λu x=>∃ i,i<=8/\u = .int .i64 (i:Nat)/\x[p]? = some (.cells (zCm .u32 ((zAcI s l).take i++s.drop i)++r).toArray T (0,0))/\Keep (· = p) g x)
    (λu _=>match u with | .int _ t=>8-t.toNat|_=>0) ⟨0,by omega,rfl,by simpa using hdg,Keep.refl⟩ ?_
   rintro _ x ⟨i,hi,rfl,hx,kx⟩ k hk
   simp only[zAJ,zC8,zAa,zAl,decide_eq_true_eq,zHX,zBf,zAi]
   have hinc:IntKind.i64.wrap ((i:Int)+1)=(i+1:Nat):=by rw[zCe]<;>omega
   by_cases hlt:(i:Int)<8
   ·rw[if_pos hlt]
    have hlt':i<8:=by omega
    have ip:∀ y:Nat,ixA 8 1 (.pointer (some ⟨y,0,none⟩)) (.int .i64 (i:Nat))=some (Ptr y i):=λy=>by rw[zUc hlt'];simp
    have hlen:((zAcI s l).take i++s.drop i).length=8:=by simp[zOJ hs,hs];omega
    have dp:ld1 x (Ptr p i)=some (.int .u32 (s.getD i 0)):=by
     refine zSp hx ?_
     rw[List.getElem?_append_left (by rw[zVp,hlen];exact hlt')]
     refine zIb ?_
     rw[zBe (by simp[zOJ hs];omega)]
     simp only[zA4,zOJ hs,zC7]
     rw[show i+(i-min i 8)=i by omega]
     exact zUh (by omega)
    have hg2:=kx.at hg (show q2≠p by omega)
    have ds:ld1 x (Ptr q2 i)=some (.int .u32 ((zAgJ l s 64).getD i 0)):=zSp hg2 (zIb (zUh (by omega)))
    simp only[ip,dp,ds,zAa,zAcG]
    rw[zYt hx (i:=i) (by simp[zOJ hs,hs];omega) rfl,zAW,hinc]
    refine hk _ _ ⟨i+1,hlt',rfl,?_,kx.trans (Keep.set rfl)⟩ (by show 8-(i+1)<8-i;omega)
    rw[zBm hx,List.set_append_left _ _ (by rw[zVp,hlen];exact hlt'),zSK]
    unfold zAcI
    rw[zAh7 hs hRl hlt']
   ·rw[if_neg hlt]
    obtain rfl:i=8:=by omega
    refine⟨trivial,?_,(kall.mono λ_ _ h=>h.elim).trans kx⟩
    rw[hx,zAr (by rw[zOJ hs];omega),zC9 (by omega),zAP]
def zSq (s:List Int)(l:List UInt8):List Int×List UInt8:=if h:64<=l.length then zSq (zAcI s (l.take 64)) (l.drop 64) else (s,l)
termination_by l.length
decreasing_by simp;omega
theorem zMx {s:List Int}{l:List UInt8}(h:l.length<64):zSq s l=(s,l):=by rw[zSq,dif_neg (by omega)]
theorem zQj {s:List Int}{l:List UInt8}(h:64<=l.length):zSq s l=zSq (zAcI s (l.take 64)) (l.drop 64):=by rw[zSq,dif_pos h]
theorem zYR (n:Nat):∀ (s:List Int) (l m:List UInt8),l.length<=n->zSq s (l++m)=zSq (zSq s l).1 ((zSq s l).2++m):=by
 induction n using Nat.strongRecOn with
 | _ n ih =>
  intro s l m hn
  by_cases h:64<=l.length
  ·rw[zQj (l:=l) h,zQj (l:=l++m) (by simp;omega),zBj h,zCc h]
   exact ih (l.length-64) (by omega) _ _ _ (by simp)
  ·rw[zMx (l:=l) (by omega)]
theorem zAcJ (n:Nat):∀ (s:List Int) (l:List UInt8),l.length<=n->(zSq s l).2.length<64:=by
 induction n using Nat.strongRecOn with
 | _ n ih =>
  intro s l hn
  by_cases h:64<=l.length
  ·rw[zQj h];exact ih (l.length-64) (by omega) _ _ (by simp)
  ·rw[zMx (by omega)];show l.length<64;omega
theorem zAe2 (n:Nat):∀ (s:List Int) (l:List UInt8),s.length=8->l.length<=n->(zSq s l).1.length=8:=by
 induction n using Nat.strongRecOn with
 | _ n ih =>
  intro s l hs hn
  by_cases h:64<=l.length
  ·rw[zQj h];exact ih (l.length-64) (by omega) _ _ (zOJ hs) (by simp)
  ·rw[zMx (by omega)];exact hs
def zAcK (F:zA1)(p:Nat)(H:zAx)(s:List Int)(r:List UInt8)(n:Int):Prop :=
 (¬ F p/\NG<=p/\∀ b,F b->NG<=b)/\s.length=8/\∃ v,H[p]? = some (.cells (zCm .u32 s++[v,.int .i64 n]).toArray zDd (0,0))/\Buf F H v r
def Dig (F:zA1)(p:Nat)(H:zAx)(l:List UInt8):Prop:=zAcK F p H (zSq zIk l).1 (zSq zIk l).2 l.length
theorem zAcK.keep {F S:zA1}{p:Nat}{H H':zAx}{s:List Int}{r:List UInt8}{n:Int}(h:zAcK F p H s r n)(k:Keep S H H')(hs:∀ b,Wr F p b->¬ S b):zAcK F p H' s r n:=by
 obtain⟨h1,h2,v,h3,h4⟩:=h
 exact⟨h1,h2,v,k.at h3 (hs p (.inr rfl)),h4.keep k λb hb=>hs b (.inl hb)⟩
theorem Dig.keep {F S:zA1}{p:Nat}{H H':zAx}{l:List UInt8}(h:Dig F p H l)(k:Keep S H H')(hs:∀ b,Wr F p b->¬ S b):Dig F p H' l:=zAcK.keep h k hs
theorem Dig.lt {F:zA1}{p:Nat}{H:zAx}{l:List UInt8}(h:Dig F p H l):p<H.size:=by obtain⟨_,_,v,h3,_⟩:=h;exact lt_of h3
theorem zXx {s:List Int}{v w:Value}(h:s.length=8):(zCm .u32 s++[v,w])[8]? = some v:=by
 match s,h with|[a,b,c,d,e,f,g,h],_=>rfl
theorem zAgK {s:List Int}{v w:Value}(h:s.length=8):(zCm .u32 s++[v,w])[9]? = some w:=by
 match s,h with|[a,b,c,d,e,f,g,h],_=>rfl
theorem zZ1 {s:List Int}{v w x:Value}(h:s.length=8):(zCm .u32 s++[v,w]).set 8 x=zCm .u32 s++[x,w]:=by
 match s,h with|[a,b,c,d,e,f,g,h],_=>rfl
theorem zAjS {s:List Int}{v w x:Value}(h:s.length=8):(zCm .u32 s++[v,w]).set 9 x=zCm .u32 s++[v,x]:=by
 match s,h with|[a,b,c,d,e,f,g,h],_=>rfl
theorem zAbc:zCM prg zDd [(0,.agg (zCm .u32 zIk).toArray)]=some (.agg (zCm .u32 zIk++[Value.slice none 0 0,Value.int .i64 0]).toArray):=by kernel_rfl
theorem zAe3:zBI prg zDd=some (zCm .u32 (List.replicate 8 0)++[Value.slice none 0 0,Value.int .i64 0]).toArray:=by kernel_rfl
theorem zAe4 {H:zAx}(hT:zRs H):zAA prg zT5 [] H λu H'=>u=Ptr H.size 0/\Dig (H.size < ·) H.size H' []/\Keep zAK H H':=by
 apply zTu
 unfold zVn
 have e:ldN 8 H (.pointer (some ⟨zMF,0,none⟩))=some (.agg (zCm .u32 zIk).toArray):=by
  obtain⟨T,f,h⟩:=hT.bgn
  exact ldN_mid (A:=[]) (B:=zCm .u32 zIk) (C:=[]) (by rw[zAY,zAP];exact h) rfl rfl
 have hsz:=hT.sz
 simp only[e,zAbc,zAa,zBb,zB8]
 refine⟨trivial,?_,Keep.push⟩
 unfold Dig
 rw[zMx (by simp)]
 exact⟨⟨Nat.lt_irrefl _,hsz,λb hb=>zBh hsz (Nat.le_of_lt hb)⟩,rfl,_,zCj,.inl ⟨rfl,rfl⟩⟩
theorem zAcK.block {F P:zA1}{p:Nat}{H:zAx}{s:List Int}{r m:List UInt8}{n:Int}{v:Value}{k:zAm}(h:zAcK F p H s r n)(hT:zRs H)(hb:Sl P H v m)(hm:64<=m.length)(hP:∀ b,P b->b<H.size)
  (hk:∀ H',zAcK F p H' (zAcI s m) r n->Keep (· = p) H H'->k (.tuple #[]) H'):zAX prg zE6 [Ptr p 0,v] H k:=by
 obtain⟨h1,h2,w,h3,h4⟩:=h
 refine zAI (zAh8 hT h3 h2 hb hm hP) ?_
 rintro _ H' ⟨rfl,hd,kp⟩
 exact hk H' ⟨h1,zOJ h2,w,hd,h4.keep kp λb hb e=>h1.1 (e ▸ hb)⟩ kp
theorem zYS {F P:zA1}{p:Nat}{H:zAx}{v:Value}{l m:List UInt8}(h:Dig F p H l)(hT:zRs H)(hb:Sl P H v m)(hP:∀ b,P b->b<H.size/\¬ F b/\b≠p)(hl:l.length+m.length<=70368744177664)(hf:∀ b,H.size<=b->F b) :
  zAA prg zGb [Ptr p 0,v] H λu H'=>u = .tuple #[]/\Dig F p H' (l++m)/\Keep (Wr F p) H H':=by
 apply zNK
 unfold zMK
 obtain⟨hF,hs,w,hd,hr⟩:=h
 have hrl:=zAcJ _ zIk l (zAh _)
 have happ:=zYR _ zIk l m (zAh _)
 generalize hS:(zSq zIk l).1=S at *
 generalize hR:(zSq zIk l).2=R at *
 have hw:IntKind.i64.wrap ((l.length:Int)+m.length)=((l++m).length:Nat):=by rw[zCe (by omega) (by omega)];simp
 have d9:ld1 H (Ptr p 9)=some (.int .i64 l.length):=zSp hd (zAgK hs)
 simp only[zHX,zBf,zAa,zAi,d9,hb.len,zAJ,zC8,hw]
 rw[zYt hd (i:=9) (by simp[hs]) rfl,zAW,zAjS hs]
 generalize hH1:H.setIfInBounds p (.cells (zCm .u32 S++[w,.int .i64 (l++m).length]).toArray zDd (0,0))=H1
 have k1:Keep (· = p) H H1:=by rw[<- hH1];exact Keep.set rfl
 have hd1:H1[p]? = some (.cells (zCm .u32 S++[w,.int .i64 (l++m).length]).toArray zDd (0,0)):=by rw[<- hH1];exact zBm hd
 have hr1:Buf F H1 w R:=hr.keep k1 λb hb e=>hF.1 (e ▸ hb)
 have hb1:Sl P H1 v m:=hb.keep k1 λb hb=>(hP b hb).2.2
 have d8:ld1 H1 (Ptr p 8)=some w:=zSp hd1 (zXx hs)
 have hT1:=hT.keep k1 λb hb=>by subst hb;exact hF.2.1
 have loop:∀ (S':List Int) (u:Value) (m':List UInt8) (H2:zAx),zAcK F p H2 S' [] (l++m).length->Sl P H2 u m'->Keep (Wr F p) H H2->zSq S' m'=zSq zIk (l++m) ->
   L1 (λk10=>λt1_4 h11 =>
    Mpu (lenV t1_4) λt64 =>
    Mpu (zAB .no .geq t64 (.int .i64 64)) λt65 =>
    Mcd t65 (
     Mpu (slS 1 t1_4 none (some (.int .i64 64)) none) λt70 =>
     zAX prg zE6 [Ptr p 0,t70] h11 λt71 h12 =>
     Mpu (slS 1 t1_4 (some (.int .i64 64)) none none) λt67 =>
     k10 t67 h12) (
     Mpu (nck (Ptr p 0)) λt74 =>
     Mpu (fld 8 t74) λt75 =>
     Mpu (ld1 h11 t75) λt76 =>
     zIw zCl 1 1 h11 t76 t1_4 λt78 h13 =>
     Mpu (nck (Ptr p 0)) λt79 =>
     Mpu (fld 8 t79) λt80 =>
     Mwr (st1 h13 t80 t78) λh14 =>
     (Value.tuple #[]) = .tuple #[]/\Dig F p h14 (l++m)/\Keep (Wr F p) H h14)) u H2:=by
  intro S' u m' H2 hD hu hk2 hch
  refine zKj (λu h=>∃ S' m',zAcK F p h S' [] (l++m).length/\Sl P h u m'/\Keep (Wr F p) H h/\zSq S' m'=zSq zIk (l++m)) (λu _=>match u with | .slice _ n _=>n|_=>0) ⟨S',m',hD,hu,hk2,hch⟩ ?_
  rintro u g ⟨S',m',hD,hu,hkg,hch⟩ k hk
  simp only[hu.len,zAa,zAJ,zC8,zAl,decide_eq_true_eq]
  have hTg:=hT.keep hkg λb hb=>hb.elim (hF.2.2 b) λe=>by subst e;exact hF.2.1
  by_cases h64:(m'.length:Int)>=64
  ·rw[if_pos h64]
   have h64':64<=m'.length:=by omega
   obtain⟨x,hx,hsx⟩:=hu.pre h64'
   have hx:slS 1 u none (some (.int .i64 64)) none=some x:=hx
   rw[hx,zAa]
   refine hD.block hTg hsx (by simp;omega) (λb hb=>zAM (hP b hb).1 hkg.1) λg2 hD2 kp=>?_
   obtain⟨y,hy,hsy⟩:=hu.tail h64'
   have hy:slS 1 u (some (.int .i64 64)) none none=some y:=hy
   rw[hy,zAa]
   refine hk _ _ ⟨_,_,hD2,hsy.keep kp λb hb=>(hP b hb).2.2,hkg.trans (kp.mono λb _ h => .inr h),by rw[<- hch,zQj h64']⟩ ?_
   obtain⟨a1,c1,e1,_⟩:=hu.sl
   obtain⟨a2,c2,e2,_⟩:=hsy.sl
   subst e1 e2
   simp;omega
  ·rw[if_neg h64]
   rw[zMx (by omega)]at hch
   obtain⟨_,hs',w',hd',hr'⟩:=hD
   have d8:ld1 g (Ptr p 8)=some w':=zSp hd' (zXx hs')
   simp only[zHX,zBf,zAa,zAi,d8]
   refine hr'.app hu.bs (by simp;omega) (hf _ hkg.1) λx g2 hx kx=>?_
   have hd2:=kx.at hd' hF.1
   rw[zYt hd2 (i:=8) (by simp[hs']) hx.sl.one,zAW,zZ1 hs']
   have kp:Keep (· = p) g2 (g2.setIfInBounds p (.cells (zCm .u32 S'++[x,.int .i64 (l++m).length]).toArray zDd (0,0))):=Keep.set rfl
   refine⟨trivial,?_,(hkg.trans (kx.mono λb _ h => .inl h)).trans (kp.mono λb _ h => .inr h)⟩
   unfold Dig
   rw[<- hch]
   exact⟨hF,hs',x,zBm hd2,hx.keep kp λb hb e=>hF.1 (e ▸ hb)⟩
 simp only[zHX,zBf,zAa,zAi]at loop
 simp only[zBT,zHX,zBf,zAa,zAi,d8,hr1.sl.len,zAJ,zC8,zAl,decide_eq_true_eq]
 by_cases h0:(R.length:Int) > 0
 ·rw[if_pos h0]
  have e1:IntKind.i64.wrap (64-(R.length:Int))=((64-R.length:Nat):Int):=by rw[zCe]<;>omega
  have e2:zAez true [.int .i64 ((64-R.length:Nat):Int),.int .i64 (m.length:Int)]=some (.int .i64 (min (64-R.length) m.length:Nat)):=by
   simp only[zAez,if_true]
   congr 2
   split<;>omega
  generalize hK:min (64-R.length) m.length=K at e2
  have hK1:K<=m.length:=by omega
  have hK2:K<=64-R.length:=by omega
  have hK3:K=m.length\/K=64-R.length:=by omega
  obtain⟨x,hx,hsx⟩:=hb1.pre hK1
  simp only[e1,e2,zAa,hb1.len,hx]
  refine hr1.app hsx.bs (by simp;omega) (hf _ k1.1) λx2 H2 hx2 kx2=>?_
  have hd2:=kx2.at hd1 hF.1
  rw[zYt hd2 (i:=8) (by simp[hs]) hx2.sl.one,zAW,zZ1 hs]
  generalize hH3:H2.setIfInBounds p (.cells (zCm .u32 S++[x2,.int .i64 (l++m).length]).toArray zDd (0,0))=H3
  have k3:Keep (· = p) H2 H3:=by rw[<- hH3];exact Keep.set rfl
  have hd3:H3[p]? = some (.cells (zCm .u32 S++[x2,.int .i64 (l++m).length]).toArray zDd (0,0)):=by rw[<- hH3];exact zBm hd2
  have hx3:Buf F H3 x2 (R++m.take K):=hx2.keep k3 λb hb e=>hF.1 (e ▸ hb)
  have kk:Keep (Wr F p) H H3:=((k1.mono λb _ h => .inr h).trans (kx2.mono λb _ h => .inl h)).trans (k3.mono λb _ h => .inr h)
  have hb3:Sl P H3 v m:=(hb1.keep kx2 λb hb=>(hP b hb).2.1).keep k3 λb hb=>(hP b hb).2.2
  obtain⟨y,hy,hsy⟩:=hb3.tail hK1
  have d83:ld1 H3 (Ptr p 8)=some x2:=zSp hd3 (zXx hs)
  have hD3:zAcK F p H3 S (R++m.take K) (l++m).length:=⟨hF,hs,x2,hd3,hx3⟩
  simp only[hy,zAa,d83,hx3.sl.len,zAJ,zC8,zAl,decide_eq_true_eq]
  by_cases h64:((R++m.take K).length:Int)<64
  ·rw[if_pos h64]
   have hKm:K=m.length:=by simp at h64;omega
   subst hKm
   refine⟨trivial,?_,kk⟩
   unfold Dig
   rw[zBE]at hD3
   rw[happ,zMx (by simp at h64 ⊢;omega)]
   exact hD3
  ·rw[if_neg h64]
   have hKr:K=64-R.length:=by simp at h64;omega
   have hlen:(R++m.take K).length=64:=by simp;omega
   have hT3:=hT.keep kk λb hb=>hb.elim (hF.2.2 b) λe=>by subst e;exact hF.2.1
   have hs3:=hx3.sl
   refine hD3.block (P:=λb=>F b/\b<H3.size) hT3 ⟨hs3.bs,hs3.sl,λb hb=>⟨hs3.own b hb,?_⟩⟩ (by omega) (λb hb=>hb.2) λH4 hD4 k4=>?_
   ·rcases hx3 with ⟨rfl,_⟩|⟨b',o,c,cs,T,f,rfl,hp,hc,hb',_⟩
    ·cases hb
    ·obtain⟨rfl,_⟩:=zHY hb;exact lt_of hb'
   ·obtain⟨_,hs4,w4,hd4,hr4⟩:=hD4
    have d84:ld1 H4 (Ptr p 8)=some w4:=zSp hd4 (zXx hs4)
    obtain⟨z,hz,hbz⟩:=hr4.cut0
    simp only[d84,zAa,hz]
    rw[zYt hd4 (i:=8) (by simp[hs4]) hbz.sl.one,zAW,zZ1 hs4]
    have k5:Keep (· = p) H4 (H4.setIfInBounds p (.cells (zCm .u32 (zAcI S (R++m.take K))++[z,.int .i64 (l++m).length]).toArray zDd (0,0))):=Keep.set rfl
    refine loop (zAcI S (R++m.take K)) y (m.drop K) _ ⟨hF,hs4,z,zBm hd4,hbz.keep k5 λb hb e=>hF.1 (e ▸ hb)⟩ ((hsy.keep k4 λb hb=>(hP b hb).2.2).keep k5 λb hb=>(hP b hb).2.2) ((kk.trans (k4.mono λb _ h => .inr h)).trans (k5.mono λb _ h => .inr h)) ?_
    have hsplit:R++m=(R++m.take K)++m.drop K:=by rw[zBg,zBl]
    generalize hX:R++m.take K=X at hsplit hlen
    generalize m.drop K=Y at hsplit
    have t1:(X++Y).take 64=X:=by rw[zBj (Nat.le_of_eq hlen.symm),zAr (Nat.le_of_eq hlen)]
    have t2:(X++Y).drop 64=Y:=by rw[zCc (Nat.le_of_eq hlen.symm),zC9 (Nat.le_of_eq hlen),zAY]
    rw[happ,hsplit,zQj (l:=X++Y) (by rw[zAt,hlen];omega),t1,t2]
 ·rw[if_neg h0]
  have hR0:R=[]:=zBo.1 (by omega)
  subst hR0
  exact loop S v m H1 ⟨hF,hs,w,hd1,hr1⟩ hb1 (k1.mono λb _ h => .inr h) (by rw[happ];rfl)
theorem Dig.re {F G:zA1}{p:Nat}{H:zAx}{l:List UInt8}(h:Dig F p H l)(k:∀ b,b<H.size->F b->G b)(hp:¬ G p)(hg:∀ b,G b->NG<=b):Dig G p H l:=by
 obtain⟨h1,h2,v,h3,h4⟩:=h
 refine⟨⟨hp,h1.2.1,hg⟩,h2,v,h3,?_⟩
 rcases h4 with h|⟨b,o,c,cs,T,f,rfl,hf,hc,hb,hr⟩
 ·exact .inl h
 ·exact .inr ⟨b,o,c,cs,T,f,rfl,k b (lt_of hb) hf,hc,hb,hr⟩
theorem zAcL {F:zA1}{p:Nat}{H:zAx}{l:List UInt8}(h:Dig F p H l) :
  zAA prg zKI [Ptr p 0] H λu H'=>u=Ptr H.size 0/\Dig (H.size < ·) H.size H' l/\Keep zAK H H':=by
 apply zN9
 unfold zNt
 have hplt:=h.lt
 obtain⟨hF,hs,v,hd,hr⟩:=h
 have hrl:=zAcJ _ zIk l (zAh _)
 have hld:ldN 10 H (Ptr p 0)=some (.agg (zCm .u32 (zSq zIk l).1++[v,Value.int .i64 l.length]).toArray):=ldN_mid (A:=[]) (C:=[]) (by rw[zAY,zAP];exact hd) rfl (by simp[hs])
 simp only[zHX,zAa,hld,zAe3,zBb]
 have hq:(H.push (.cells (zCm .u32 (List.replicate 8 0)++[Value.slice none 0 0,Value.int .i64 0]).toArray zDd (0,0)))[H.size]? = some (.cells (zCm .u32 (List.replicate 8 0)++[Value.slice none 0 0,Value.int .i64 0]).toArray zDd (0,0)):=zCj
 have hst:=zPF (n:=10) (o:=0) (A:=[]) (B:=zCm .u32 (List.replicate 8 0)++[Value.slice none 0 0,Value.int .i64 0]) (C:=[]) (B':=zCm .u32 (zSq zIk l).1++[v,Value.int .i64 l.length]) (by rw[zAY,zAP];exact hq) rfl (by simp) (by simp[hs]) (by
  rw[zBA]
  intro x hx
  simp only[List.mem_toArray,zAp,zAs,zCL,or_false]at hx
  rcases hx with hx|rfl|rfl
  ·exact zSJ x hx
  ·exact hr.sl.one
  ·rfl)
 simp only[zAY,zAP]at hst
 rw[hst,zAW]
 generalize hH2:(H.push (.cells (zCm .u32 (List.replicate 8 0)++[Value.slice none 0 0,Value.int .i64 0]).toArray zDd (0,0))).setIfInBounds H.size (.cells (zCm .u32 (zSq zIk l).1++[v,Value.int .i64 l.length]).toArray zDd (0,0))=H2
 have k2:Keep zAK H H2:=by
  rw[<- hH2]
  refine⟨by simp,λi hi _=>?_⟩
  rw[zAE,if_neg (by omega),zCf,if_neg (by omega)]
 have hs2:H2.size=H.size+1:=by rw[<- hH2];simp
 have hq2:H2[H.size]? = some (.cells (zCm .u32 (zSq zIk l).1++[v,Value.int .i64 l.length]).toArray zDd (0,0)):=by rw[<- hH2];exact zBm hq
 have hd2:=k2.at hd id
 have hr2:=hr.keep k2 λ_ _=>id
 have d8:ld1 H2 (Ptr p 8)=some v:=zSp hd2 (zXx hs)
 simp only[zBf,zAa,zAi,d8]
 refine zAI (zZZ (F:=(H.size < ·)) hr2.sl (by omega) λb hb=>by omega) ?_
 rintro x H3 ⟨hx,k3⟩
 have hq3:=k3.at hq2 (Nat.lt_irrefl _)
 rw[zYt hq3 (i:=8) (by simp[hs]) hx.sl.one,zAW,zZ1 hs]
 have k4:Keep (· = H.size) H3 (H3.setIfInBounds H.size (.cells (zCm .u32 (zSq zIk l).1++[x,Value.int .i64 l.length]).toArray zDd (0,0))):=Keep.set rfl
 have hNG:NG<=H.size:=by have:=hF.2.1;omega
 refine⟨trivial,⟨⟨Nat.lt_irrefl _,hNG,λb hb=>by omega⟩,hs,x,zBm hq3,hx.keep k4 λb hb e=>by omega⟩,?_⟩
 refine⟨by have:=k2.1;have:=k3.1;have:=k4.1;omega,λi hi _=>?_⟩
 rw[k4.2 i (by have:=k3.1;omega) (by omega),k3.2 i (by omega) (by omega),k2.2 i hi id]
def zN (n:Nat):Nat:=(64-(n+9) % 64) % 64
def bO (n:Int):UInt8:=UInt8.ofNat (n % 256).toNat
def zAjT (N:Int)(i:Nat):UInt8:=bO (zWe .u64 N (8*(i:Int)))
def zXy (N:Int)(j:Nat):List UInt8:=(List.range j).map λi=>zAjT N (7-i)
@[simp] theorem zAjU {N:Int}{j:Nat}:(zXy N j).length=j:=by simp[zXy]
theorem zAbd {N:Int}{j:Nat}:zXy N (j+1)=zXy N j++[zAjT N (7-j)]:=by simp[zXy,List.range_succ]
def zAh9 (n:Nat):Int:=IntKind.u64.wrap (IntKind.u64.wrap n*8)
def zAjw (n:Nat):List UInt8:=(128::List.replicate (zN n) 0)++zXy (zAh9 n) 8
def zAlr (x:Int):List UInt8:=[bO (zWe .u32 x 24),bO (zWe .u32 x 16),bO (zWe .u32 x 8),bO x]
def zAcM (s:List Int):List UInt8:=(s.map zAlr).flatten
theorem zWg {s:List Int}:(zAcM s).length=4*s.length:=by
 induction s with
 | nil=>rfl
 | cons x s ih=>simp only[zAcM,zA0,zA5,zAt,zAS]at ih ⊢;rw[ih];simp[zAlr];omega
def zAbe (l:List UInt8):List UInt8:=zAcM (zSq zIk (l++zAjw l.length)).1
theorem zFa {l:List UInt8}:(zAbe l).length=32:=by
 unfold zAbe;rw[zWg,zAe2 _ _ _ rfl (zAh _)]
theorem zAe5 {n:Nat}:(zAjw n).length<=72:=by
 have:zN n<64:=Nat.mod_lt _ (by omega)
 simp[zAjw];omega
theorem zAnp {A B:List Value}{a b c d x y z w:Value}{n:Nat}(hn:n=A.length):((((A++a::b::c::d::B).set n x).set (n+1) y).set (n+2) z).set (n+3) w=(A++[x,y,z,w])++B:=by
 subst hn
 induction A with
 | nil=>rfl
 | cons v A ih=>simp at ih ⊢;try exact ih
theorem zAe6 {s:List Int}{i:Nat}{x:Int}(h:s[i]? = some x)(hs:s.length=8) :
  ((((zBs (zAcM (s.take i)++List.replicate (32-4*i) 0)).set (4*i) (.int .u8 (bO (zWe .u32 x 24)).toNat)).set (4*i+1) (.int .u8 (bO (zWe .u32 x 16)).toNat)).set (4*i+2) (.int .u8 (bO (zWe .u32 x 8)).toNat)).set (4*i+3) (.int .u8 (bO x).toNat)
   = zBs (zAcM (s.take (i+1))++List.replicate (32-4*(i+1)) 0):=by
 obtain⟨hlt,rfl⟩:=zAV.1 h
 have e:32-4*i=(32-4*(i+1))+4:=by omega
 have e2:zAcM (s.take (i+1))=zAcM (s.take i)++zAlr s[i]:=by
  unfold zAcM
  rw[show s.take (i+1)=s.take i++[s[i]] by rw[zAG,zAj hlt];rfl,zAF,zBr];simp
 have e3:List.replicate (32-4*i) (0:UInt8)=0::0::0::0::List.replicate (32-4*(i+1)) 0:=by rw[e];rfl
 rw[e3,e2,zJZ]
 simp only[zOD]
 rw[zAnp (by rw[zRI,zWg];simp;omega)]
 simp[zAlr]
theorem zAe7 {F:zA1}{p:Nat}{H:zAx}{l:List UInt8}(h:Dig F p H l)(hT:zRs H)(hl:l.length<=35184372088832) :
  zAA prg zLG [Ptr p 0] H λu H'=>u=bv (zAbe l)/\Keep zAK H H':=by
 apply zOE
 unfold zN8
 simp only[zZY,zBb]
 have hplt:=h.lt
 generalize hH1:H.push (.cells (zBs zPY).toArray zB5 (0,0))=H1
 have k1:Keep zAK H H1:=by rw[<- hH1];exact Keep.push
 have hs1:H1.size=H.size+1:=by rw[<- hH1];simp
 have hr1:H1[H.size]? = some (.cells (zBs zPY).toArray zB5 (0,0)):=by rw[<- hH1];exact zCj
 refine zAI (zAcL (h.keep k1 λ_ _=>id)) ?_
 rintro _ H2 ⟨rfl,ho,k2⟩
 have h2:=(h.keep k1 λ_ _=>id).keep k2 λ_ _=>id
 have hr2:=k2.at hr1 id
 have hT2:=(hT.keep k1 λ_ h=>h.elim).keep k2 λ_ h=>h.elim
 obtain⟨hF,hs,v,hd,_⟩:=h2
 have hNGp:=hF.2.1
 generalize hqe:H1.size=q at *
 have hqlt:=ho.lt
 have ho2:Dig (λb=>q<b/\b<H2.size) q H2 l:=ho.re (λb hb h=>⟨h,hb⟩) (λh=>Nat.lt_irrefl _ h.1) λb hb=>by omega
 have d9:∀ h,Keep (H2.size <= ·) H2 h->ld1 h (Ptr p 9)=some (.int .i64 l.length):=λh k=>zSp (k.at hd (by omega)) (zAgK hs)
 have d9':=d9 H2 Keep.refl
 simp only[zHX,zBf,zAa,zAi,d9',zFH,zAJ,zC8,zAlN,zCo,zBT]
 have hbit:IntKind.u64.wrap (IntKind.u64.wrap (l.length:Int)*8)=zAh9 l.length:=rfl
 rw[hbit]
 refine zKj (λu h=>∃ j,j<=zN l.length/\Buf (H2.size <= ·) h u (128::List.replicate j 0)/\Keep (H2.size <= ·) H2 h) (λu _=>match u with | .slice _ n _=>100-n|_=>0)
  ⟨0,zAz _,.inr ⟨H2.size,0,1,_,zCl,(0,0),rfl,zAh _,zAh _,zCj,by simp,λ_ _ _ _=>zLL,rfl⟩,Keep.push⟩ ?_
 rintro u h3 ⟨j,hj,hu,k3⟩ k hk
 have hz:zN l.length<64:=Nat.mod_lt _ (by omega)
 have e1:IntKind.i64.wrap ((l.length:Int)+((128::List.replicate j 0:List UInt8).length:Nat))=((l.length+(j+1):Nat):Int):=by rw[zCe]<;>simp<;>omega
 have e2:IntKind.i64.wrap (((l.length+(j+1):Nat):Int)+8)=((l.length+(j+1)+8:Nat):Int):=by rw[zCe]<;>omega
 have e3:Int.tmod ((l.length+(j+1)+8:Nat):Int) 64=(((l.length+(j+1)+8) % 64:Nat):Int):=by
  rw[Int.tmod_eq_emod_of_nonneg (by omega)];omega
 simp only[d9 h3 k3,zAa,hu.sl.len,zAJ,zC8,e1,e2]
 rw[if_neg (by decide)]
 simp only[zAa,e3,zAJ,zC8,zAl]
 by_cases hne:((((l.length+(j+1)+8) % 64:Nat):Int) != 0)=true
 ·rw[if_pos hne]
  have hne':(l.length+(j+1)+8) % 64≠0:=λh0=>by rw[h0]at hne;exact absurd hne (by decide)
  have hjz:j<zN l.length:=by
   unfold zN at hj ⊢
   omega
  have kp:Keep zAK h3 (h3.push (.cells #[.int .u8 0] zCl (0,0))):=Keep.push
  refine(hu.keep kp λ_ _=>id).app (m:=[0]) (Bs.mk zCj rfl (by simp) rfl) (by simp;omega) (by have:=k3.1;simp;omega) λx h4 hx k4=>?_
  refine hk _ _ ⟨j+1,hjz,by rw[show(128::List.replicate (j+1) 0:List UInt8)=(128::List.replicate j 0)++[0] by rw[zCA,<- List.replicate_succ']];exact hx,k3.trans ((kp.mono λ_ _ h=>h.elim).trans k4)⟩ ?_
  obtain⟨a1,c1,e1,_⟩:=hu.sl.sl
  obtain⟨a2,c2,e2,_⟩:=hx.sl.sl
  subst e1 e2
  simp;omega
 ·rw[if_neg hne]
  have hne':(l.length+(j+1)+8) % 64=0:=by
   have:¬ ((((l.length+(j+1)+8) % 64:Nat):Int)≠0):=by simpa only[bne_iff_ne] using hne
   omega
  have hjz:j=zN l.length:=by
   unfold zN at hj ⊢
   omega
  subst hjz
  clear hk hj e1 e2 e3 hne hne'
  simp only[zAcx]
  refine zUY (λu i h=>∃ j,j<=8/\i = .int .i64 (7-(j:Nat):Int)/\Buf (H2.size <= ·) h u ((128::List.replicate (zN l.length) 0)++zXy (zAh9 l.length) j)/\Keep (H2.size <= ·) H2 h) (λ_ i _=>match i with | .int _ i=>(i+1).toNat|_=>0)
   ⟨0,by omega,rfl,by simp[zXy];exact hu,k3⟩ ?_
  rintro u _ h4 ⟨j,hj,rfl,hu,k4⟩ k hk
  simp only[zAJ,zC8,zAa,zAl,decide_eq_true_eq]
  by_cases hlt:(7-(j:Int))>=0
  ·rw[if_pos hlt]
   have e1:IntKind.i64.wrap (8*(7-(j:Int)))=8*((7-j:Nat):Int):=by rw[zCe]<;>omega
   have e2:IntKind.i64.wrap (7-(j:Int)-1)=7-((j+1:Nat):Int):=by rw[zCe]<;>omega
   rw[e1,zSL (by omega)]
   simp only[zAa,zFH,zWd,e2]
   have hlb:(UInt8.ofNat ((zWe .u64 (zAh9 l.length) (8*((7-j:Nat):Int))) % 256).toNat)=zAjT (zAh9 l.length) (7-j):=rfl
   rw[hlb,zAlN,zCo]
   have kp:Keep zAK h4 (h4.push (.cells #[.int .u8 (zAjT (zAh9 l.length) (7-j)).toNat] zCl (0,0))):=Keep.push
   refine(hu.keep kp λ_ _=>id).app (m:=[zAjT (zAh9 l.length) (7-j)]) (Bs.mk zCj rfl (by simp) rfl) (by simp;omega) (by have:=k4.1;simp;omega) λx h5 hx k5=>?_
   refine hk _ _ _ ⟨j+1,by omega,rfl,by rw[zAbd,<- zBg];exact hx,k4.trans ((kp.mono λ_ _ h=>h.elim).trans k5)⟩ ?_
   show((7-((j+1:Nat):Int))+1).toNat<(7-(j:Int)+1).toNat
   omega
  ·rw[if_neg hlt]
   obtain rfl:j=8:=by omega
   clear hk hj hlt
   have hu:Buf (H2.size <= ·) h4 u (zAjw l.length):=hu
   have hul:=zAe5 (n:=l.length)
   have ho4:Dig (λb=>q<b/\b<H2.size\/h4.size<=b) q h4 l:=(ho2.keep k4 λb hb hb'=>by
    rcases hb with hb|rfl
    ·omega
    ·omega).re (λb hb h => .inl h) (λh=>by have:=k4.1;omega) λb hb=>by have:=k4.1;omega
   have hT4:=hT2.keep k4 λb hb=>by omega
   have hus:=hu.sl
   refine zAI (zYS (P:=λb=>H2.size<=b/\b<h4.size) ho4 hT4 ⟨hus.bs,hus.sl,λb hb=>⟨hus.own b hb,?_⟩⟩ (λb hb=>⟨hb.2,by omega,by omega⟩) (by omega) λb hb => .inr hb) ?_
   ·rcases hu with ⟨rfl,_⟩|⟨b',o,c,cs,T,f,rfl,hp,hc,hb',_⟩
    ·cases hb
    ·obtain⟨rfl,_⟩:=zHY hb;exact lt_of hb'
   rintro _ h5 ⟨rfl,ho5,k5⟩
   obtain⟨hF5,hs5,v5,hd5,_⟩:=ho5
   have hr5:h5[H.size]? = some (.cells (zBs zPY).toArray zB5 (0,0)):=k5.at (k4.at hr2 (by omega)) λh=>by
    rcases h with h|h
    ·have:=k4.1;omega
    ·omega
   have hsh:zAbe l=zAcM (zSq zIk (l++zAjw l.length)).1:=rfl
   generalize (zSq zIk (l++zAjw l.length)).1=S at *
   have hq6:(h5.push (.cells (zBs zPY).toArray zB5 (0,0)))[h5.size]? = some (.cells (zBs zPY).toArray zB5 (0,0)):=zCj
   have hd6:=zTD (y := .cells (zBs zPY).toArray zB5 (0,0)) hd5
   have hr6:=zTD (y := .cells (zBs zPY).toArray zB5 (0,0)) hr5
   have hld:ldN 8 (h5.push (.cells (zBs zPY).toArray zB5 (0,0))) (Ptr q 0)=some (.agg (zCm .u32 S).toArray):=ldN_mid (A:=[]) (B:=zCm .u32 S) (by rw[zAY];exact hd6) rfl (by simp[hs5])
   rw[hld,zAa]
   have hq5:q<h5.size:=by have:=lt_of hd5;omega
   have k6:Keep zAK h5 (h5.push (.cells (zBs zPY).toArray zB5 (0,0))):=Keep.push
   generalize hH6:h5.push (.cells (zBs zPY).toArray zB5 (0,0))=h6 at *
   generalize hze:h5.size=z at *
   refine zKj (λu h=>∃ i,i<=8/\u = .int .i64 (i:Nat)/\h[z]? = some (.cells (zBs (zAcM (S.take i)++List.replicate (32-4*i) 0)).toArray zB5 (0,0))/\Keep (· = z) h6 h)
    (λu _=>match u with | .int _ t=>8-t.toNat|_=>0) ⟨0,by omega,rfl,hq6,Keep.refl⟩ ?_
   rintro _ x ⟨i,hi,rfl,hx,kx⟩ k hk
   simp only[zAJ,zC8,zAa,zAl,decide_eq_true_eq]
   have hinc:IntKind.i64.wrap ((i:Int)+1)=(i+1:Nat):=by rw[zCe]<;>omega
   by_cases hlt:(i:Int)<8
   ·rw[if_pos hlt]
    have hlt':i<8:=by omega
    have hi4:IntKind.i64.wrap (4*(i:Int))=((4*i:Nat):Int):=by rw[zCe]<;>omega
    have a1:IntKind.i64.wrap (((4*i:Nat):Int)+1)=((4*i+1:Nat):Int):=by rw[zCe]<;>omega
    have a2:IntKind.i64.wrap (((4*i:Nat):Int)+2)=((4*i+2:Nat):Int):=by rw[zCe]<;>omega
    have a3:IntKind.i64.wrap (((4*i:Nat):Int)+3)=((4*i+3:Nat):Int):=by rw[zCe]<;>omega
    have hg:S[i]? = some (S.getD i 0):=zUh (by omega)
    have hiv:ixV 8 false 1 (.agg (zCm .u32 S).toArray) (.int .i64 (i:Nat))=some (.int .u32 (S.getD i 0)):=by
     simp only[ixV];rw[if_pos ⟨by omega,by omega⟩]
     simpa using zIb (k := .u32) hg
    have s24:∀ x,zAB .no .shr (.int .u32 x) (.int .u64 24)=some (.int .u32 (zWe .u32 x 24)):=λx=>zSL (by omega)
    have s16:∀ x,zAB .no .shr (.int .u32 x) (.int .u64 16)=some (.int .u32 (zWe .u32 x 16)):=λx=>zSL (by omega)
    have s8:∀ x,zAB .no .shr (.int .u32 x) (.int .u64 8)=some (.int .u32 (zWe .u32 x 8)):=λx=>zSL (by omega)
    have ix:∀ j,j<32->ixA 32 1 (.pointer (some ⟨z,0,none⟩)) (.int .i64 (j:Nat))=some (Ptr z j):=λj hj=>by rw[zUc hj];simp
    have bw:∀ n:Int,(UInt8.ofNat (n % 256).toNat)=bO n:=λn=>rfl
    simp only[hiv,zAa,hi4,a1,a2,a3,s24,s16,s8,zFH,zWd,bw,ix (4*i) (by omega),ix (4*i+1) (by omega),ix (4*i+2) (by omega),ix (4*i+3) (by omega),hinc]
    have hlen:(zBs (zAcM (S.take i)++List.replicate (32-4*i) 0)).length=32:=by rw[zRI,zAt,zWg];simp[hs5];omega
    rw[zYt hx (i:=4*i) (by omega) rfl,zAW,zYt (zBm hx) (i:=4*i+1) (by simp only[List.length_set];omega) rfl,zAW,zYt (zBm (zBm hx)) (i:=4*i+2) (by simp only[List.length_set];omega) rfl,zAW,
     zYt (zBm (zBm (zBm hx))) (i:=4*i+3) (by simp only[List.length_set];omega) rfl,zAW]
    refine hk _ _ ⟨i+1,hlt',rfl,?_,(((kx.trans (Keep.set rfl)).trans (Keep.set rfl)).trans (Keep.set rfl)).trans (Keep.set rfl)⟩ (by show 8-(i+1)<8-i;omega)
    rw[zBm (zBm (zBm (zBm hx))),zAe6 hg hs5]
   ·rw[if_neg hlt]
    obtain rfl:i=8:=by omega
    rw[zAr (by omega),<- hsh]at hx
    have hx:x[z]? = some (.cells (zBs (zAbe l)).toArray zB5 (0,0)):=by rw[hx];simp
    have hrx:=kx.at hr6 (show H.size≠z by omega)
    rw[zPG hx zFa,zAa,zRJ hrx (n:=32) rfl zFa,zAW,zPG (zBm hrx) zFa,zAa]
    refine⟨rfl,?_⟩
    have sz6:h6.size=z+1:=by rw[<- hH6];simp[hze]
    refine⟨by simp;have:=kx.1;have:=k1.1;have:=k2.1;have:=k4.1;have:=k5.1;omega,λi hi _=>?_⟩
    have q1:=k1.1;have q2:=k2.1;have q4:=k4.1;have q5:=k5.1
    rw[zAE,if_neg (by omega),kx.2 i (by omega) (by omega),k6.2 i (by omega) id,k5.2 i (by omega) (λh=>by rcases h with h|h<;>omega),k4.2 i (by omega) (by omega),k2.2 i (by omega) id,k1.2 i hi id]
theorem zVs {P:zA1}{H:zAx}{xs:List (Value×List UInt8)}(h:∀ x∈xs,Sl P H x.1 x.2):∀ x∈zHL (xs.map (·.1)),∀ c∈x,c.oneCell'=true :=
 zPH λv hv=>by obtain⟨x,hx,rfl⟩:=zAo.1 hv;exact(h x hx).one
def zKe (xs:List (Value×List UInt8)):List UInt8:=(xs.map (·.2)).flatten
theorem zUi {xs:List (Value×List UInt8)}{i:Nat}{x:Value×List UInt8}(h:xs[i]? = some x):zKe (xs.take (i+1))=zKe (xs.take i)++x.2:=by
 obtain⟨hlt,rfl⟩:=zAV.1 h
 unfold zKe
 rw[show xs.take (i+1)=xs.take i++[xs[i]] by rw[zAG,zAj hlt];rfl,zAF,zBr];simp
theorem zAcN {xs:List (Value×List UInt8)}{i:Nat}:(zKe (xs.take i)).length<=(zKe xs).length:=by
 have:zKe xs=zKe (xs.take i)++zKe (xs.drop i):=by
  unfold zKe;rw[<- zBr,<- zAF,zBl]
 rw[this,zAt];omega
theorem zXz {Pv Pd:zA1}{H:zAx}{v:Value}{xs:List (Value×List UInt8)}{kind:Int}(hv:SlE 1 Pv H v (zHL (xs.map (·.1))))(hx:∀ x∈xs,Sl Pd H x.1 x.2)(hT:zRs H)(hPv:∀ b,Pv b->b<H.size)(hPd:∀ b,Pd b->b<H.size)
  (hl:(zKe xs).length+1<=35184372088832) (hn:xs.length<=1000000) :
  zAA prg zRH [.int .i64 kind,v] H λu H'=>u=bv (zAbe (bO kind::zKe xs))/\Keep zAK H H':=by
 apply zTv
 unfold zVo
 simp only[zZY,zBb]
 generalize hH1:H.push (.cells (zBs zPY).toArray zB5 (0,0))=H1
 have k1:Keep zAK H H1:=by rw[<- hH1];exact Keep.push
 have hs1:H1.size=H.size+1:=by rw[<- hH1];simp
 have hr1:H1[H.size]? = some (.cells (zBs zPY).toArray zB5 (0,0)):=by rw[<- hH1];exact zCj
 refine zAI (zAe4 (hT.keep k1 λ_ h=>h.elim)) ?_
 rintro _ H2 ⟨rfl,hD,k2⟩
 have hT2:=(hT.keep k1 λ_ h=>h.elim).keep k2 λ_ h=>h.elim
 have hr2:=k2.at hr1 id
 have hsz:=hT.sz
 generalize hde:H1.size=d at *
 have hdlt:=hD.lt
 have bw:∀ n:Int,(UInt8.ofNat (n % 256).toNat)=bO n:=λn=>rfl
 simp only[zFH,zAa,zWd,bw,zAlN,zCo]
 have hD2:Dig (λb=>d<b/\b≠H2.size) d H2 []:=hD.re (λb hb h=>⟨h,by omega⟩) (λh=>Nat.lt_irrefl _ h.1) λb hb=>by omega
 generalize hH3:H2.push (.cells #[.int .u8 (bO kind).toNat] zCl (0,0))=H3
 have k3:Keep zAK H2 H3:=by rw[<- hH3];exact Keep.push
 have hs3:H3.size=H2.size+1:=by rw[<- hH3];simp
 have hb3:Sl (· = H2.size) H3 (.slice (some ⟨H2.size,0,none⟩) 1 1) [bO kind]:=by
  rw[<- hH3]
  exact⟨Bs.mk zCj rfl (by simp) rfl,⟨_,1,rfl,zAh _,λx hx=>by cases hx;rfl⟩,λb hb=>by cases hb;rfl⟩
 have hT3:=hT2.keep k3 λ_ h=>h.elim
 refine zAI (zYS (hD2.keep k3 λ_ _=>id) hT3 hb3 (λb hb=>by subst hb;exact⟨by omega,λh=>h.2 rfl,by omega⟩) (by simp) λb hb=>⟨by omega,by omega⟩) ?_
 rintro _ H4 ⟨rfl,hD4,k4⟩
 have hlen:lenV v=some (.int .i64 xs.length):=by have:=hv.len;simpa using this
 have k4':Keep (d <= ·) H2 H4:=(k3.mono λ_ _ h=>h.elim).trans (k4.mono λb _ h=>by rcases h with h|h<;>omega)
 have k04:Keep (d <= ·) H H4:=(k1.mono λ_ _ h=>h.elim).trans ((k2.mono λ_ _ h=>h.elim).trans k4')
 simp only[hlen,zAa,zBT]
 refine zKj (λu h=>∃ i,i<=xs.length/\u = .int .i64 (i:Nat)/\Dig (λb=>d<b/\b≠H2.size) d h (bO kind::zKe (xs.take i))/\Keep (d <= ·) H4 h) (λu _=>match u with | .int _ t=>xs.length-t.toNat|_=>0)
  ⟨0,zAz _,rfl,by simpa [zKe] using hD4,Keep.refl⟩ ?_
 rintro _ h ⟨i,hi,rfl,hDi,kh⟩ k hk
 simp only[zAJ,zC8,zAa,zAl,decide_eq_true_eq]
 have hinc:IntKind.i64.wrap ((i:Int)+1)=(i+1:Nat):=by rw[zCe]<;>omega
 have kall:=k04.trans kh
 have hTh:=hT.keep kall λb hb=>by omega
 by_cases hlt:(i:Int)<xs.length
 ·rw[if_pos hlt]
  have hlt':i<xs.length:=by omega
  have hg:xs[i]? = some xs[i]:=zAj hlt'
  have hvh:=hv.keep kall λb hb hb'=>by have:=hPv b hb;omega
  obtain⟨b,o,hix,hpt,_⟩:=hvh.at (i:=i) (x:=[xs[i].1]) (zN7 (by simp[hg]))
  have hsl:=(hx xs[i] (by simp)).keep kall λb hb hb'=>by have:=hPd b hb;omega
  simp only[hix,zAa,hpt.cell0 rfl,hinc]
  have hle:=zAcN (xs:=xs) (i:=i+1)
  rw[zUi hg,zAt]at hle
  refine zAI (zYS hDi hTh hsl (λb hb=>⟨zAM (hPd b hb) kall.1,by have:=hPd b hb;omega,by have:=hPd b hb;omega⟩) (by simp only[zAS];omega) λb hb=>⟨by have:=kh.1;have:=k4'.1;omega,by have:=kh.1;have:=k4.1;omega⟩) ?_
  rintro _ h2 ⟨rfl,hDj,kj⟩
  refine hk _ _ ⟨i+1,hlt',rfl,by rw[zUi hg];exact hDj,kh.trans (kj.mono λb _ h=>by rcases h with h|h<;>omega)⟩ (by show xs.length-(i+1)<xs.length-i;omega)
 ·rw[if_neg hlt]
  obtain rfl:i=xs.length:=by omega
  rw[zBE]at hDi
  refine zAI (zAe7 hDi hTh (by simp;omega)) ?_
  rintro _ h2 ⟨rfl,k5⟩
  have hr5:=k5.at (kh.at (k4'.at hr2 (by omega)) (by omega)) id
  rw[zRJ hr5 (n:=32) rfl zFa,zAW,zPG (zBm hr5) zFa,zAa]
  refine⟨rfl,?_⟩
  refine⟨by simp;have:=kall.1;have:=k5.1;omega,λi hi _=>?_⟩
  have q1:=kall.1;have q2:=k5.1
  rw[zAE,if_neg (by omega),k5.2 i (by omega) id,kall.2 i hi (by omega)]
end Go.Proofs.YticdfkoncnnmmaaGreatDoor
