import Derived.Test.YticdfkoncnnmmaaGreatDoorGF
import Derived.Test.YticdfkoncnnmmaaGreatDoorGE
import Derived.Test.YticdfkoncnnmmaaGreatDoorGS
import Derived.Test.YticdfkoncnnmmaaGreatDoorGQ
import Derived.Test.YticdfkoncnnmmaaGreatDoorGT
import Derived.Test.YticdfkoncnnmmaaGreatDoorGK
import Derived.KernelRfl
set_option linter.unusedSimpArgs false
set_option linter.unusedVariables false
set_option maxRecDepth 100000
namespace Go.Proofs.YticdfkoncnnmmaaGreatDoor
open Go.X
theorem zAiu:zFt prg zAS 0 []=some #[]:=by kernel_rfl
theorem zAg0 {n:Int}:zFt prg zAS 1 [(0,.int .u8 n)]=some #[.int .u8 n]:=by kernel_rfl
def zMZ:List UInt8:=List.replicate 32 0
theorem zVZ:zAB prg zAO=some (zAy zMZ).toArray:=by kernel_rfl
theorem zAdB {F:Nat->Prop}{H:zAd}{a:Option Addr}{n c:Nat}{l:List UInt8}(h:Bs H (.slice a n c) l)(hl:l.length<=140737488355328)(hf:∀ b,H.size<=b->F b) :
  zAg prg zHk [.slice a n c] H fun u H'=>Buf F H' u l/\Keep F H H':=by
 apply zNx
 unfold zNJ
 cases a with
 | none =>
  obtain rfl:l=[]:=by
   rcases h.shape with ⟨a,c,hv,rfl⟩ | ⟨b,o,c,cs,T,f,hv,_⟩ | ⟨s,hv,_⟩
   ·rfl
   ·cases hv
   ·cases hv
  simp only[zQy,zTM,Option.map_some,zAa,zAc,Option.isNone_none,if_true]
  exact⟨.inl ⟨rfl,rfl⟩,Keep.refl⟩
 | some a =>
  simp only[zQy,zTL,Option.map_some,zAa,zAc,Bool.false_eq_true,if_false,zAiu,zAV]
  have hx:=zX5 (H':=H.push (.cells #[] zAS (0,0))) ⟨by simp,fun i hi=>by rw[Array.getElem?_push,if_neg (by omega)]⟩ h
  exact Buf.app (F:=F) (l:=[]) (.inr ⟨H.size,0,0,#[],zAS,(0,0),rfl,hf _ (Nat.le_refl _),Nat.le_refl _,zAR,Nat.le_refl _,fun _ _ _ _=>zI3,rfl⟩) hx (by simpa using hl) (hf _ (by simp)) fun v H' ho hk=>⟨ho,Keep.push.trans hk⟩
theorem zV0 {F P:Nat->Prop}{H:zAd}{v:Value}{l:List UInt8}(h:Sl P H v l)(hl:l.length<=140737488355328)(hf:∀ b,H.size<=b->F b) :
  zAg prg zHk [v] H fun u H'=>Buf F H' u l/\Keep F H H':=by
 obtain⟨a,c,rfl,_⟩:=h.sl
 exact zAdB h.bs hl hf
def Wr (F:Nat->Prop)(p:Nat):Nat->Prop:=fun b=>F b\/b=p
def zAcl (n:Int)(s:Nat):UInt8:=UInt8.ofNat ((n.fdiv (2 ^ s)) % 256).toNat
def zAhX (n:Int)(size:Nat):List UInt8:=(List.range size).map fun i=>zAcl n (8 * (size - 1 - i))
def zAfg (n:Int)(size j:Nat):List UInt8:=(List.range j).map fun i=>zAcl n (8 * (size - 1 - i))
@[simp] theorem zAgG {n:Int}{s:Nat}:(zAhX n s).length=s:=by simp[zAhX]
@[simp] theorem zAfh {n:Int}{s j:Nat}:(zAfg n s j).length=j:=by simp[zAfg]
theorem zSy (m:Int):IntKind.u8.wrap m=(UInt8.ofNat (m % 256).toNat).toNat:=by
 simp only[IntKind.wrap,IntKind.bits,IntKind.signed];simp;omega
def zAP (k:IntKind)(l:List Int):List Value:=l.map (Value.int k)
@[simp] theorem zRR {k:IntKind}{l:List Int}:(zAP k l).length=l.length:=by simp[zAP]
theorem zFP {k:IntKind}{l:List Int}{i:Nat}{x:Int}(h:l[i]? = some x):(zAP k l)[i]? = some (.int k x):=by simp[zAP,h]
theorem zPj {k:IntKind}{l:List Int}:∀ v ∈ zAP k l,v.oneCell'=true:=by
 intro v hv;obtain⟨b,_,rfl⟩:=List.mem_map.1 hv;rfl
theorem zRS {k:IntKind}{l:List Int}:(zAP k l).toArray.all (·.oneCell')=true:=by
 rw[Array.all_eq_true_iff_forall_mem];intro v hv;exact zPj v (by simpa using hv)
theorem zPl {k:IntKind}{l:List Int}{i:Nat}{x:Int}:(zAP k l).set i (.int k x)=zAP k (l.set i x):=by simp[zAP]
def zAan (H:zAd)(g:Nat)(k:IntKind)(zs:List Int):Prop:=∃ T f,H[g]? = some (.cells (zAP k zs).toArray T f)
theorem zAan.keep {S:Nat->Prop}{H H':zAd}{g:Nat}{k:IntKind}{zs:List Int}(h:zAan H g k zs)(kp:Keep S H H')(hs:¬ S g):zAan H' g k zs:=by
 obtain⟨T,f,h⟩:=h;exact⟨T,f,kp.at h hs⟩
theorem zAan.lt {H:zAd}{g:Nat}{k:IntKind}{zs:List Int}(h:zAan H g k zs):g<H.size:=by obtain⟨T,f,h⟩:=h;exact lt_of h
theorem zAan.ld {H:zAd}{g:Nat}{k:IntKind}{zs:List Int}(h:zAan H g k zs){i:Nat}{x:Int}(hi:zs[i]? = some x):ld1 H (Ptr g i)=some (.int k x):=by
 obtain⟨T,f,h⟩:=h;exact zO0 h (zFP hi)
def zFY:List Int:=[0x6a09e667,0xbb67ae85,0x3c6ef372,0xa54ff53a,0x510e527f,0x9b05688c,0x1f83d9ab,0x5be0cd19]
def zV1:List Int:=[
 0x428a2f98,0x71374491,0xb5c0fbcf,0xe9b5dba5,0x3956c25b,0x59f111f1,0x923f82a4,0xab1c5ed5,
 0xd807aa98,0x12835b01,0x243185be,0x550c7dc3,0x72be5d74,0x80deb1fe,0x9bdc06a7,0xc19bf174,
 0xe49b69c1,0xefbe4786,0x0fc19dc6,0x240ca1cc,0x2de92c6f,0x4a7484aa,0x5cb0a9dc,0x76f988da,
 0x983e5152,0xa831c66d,0xb00327c8,0xbf597fc7,0xc6e00bf3,0xd5a79147,0x06ca6351,0x14292967,
 0x27b70a85,0x2e1b2138,0x4d2c6dfc,0x53380d13,0x650a7354,0x766a0abb,0x81c2c92e,0x92722c85,
 0xa2bfe8a1,0xa81a664b,0xc24b8b70,0xc76c51a3,0xd192e819,0xd6990624,0xf40e3585,0x106aa070,
 0x19a4c116,0x1e376c08,0x2748774c,0x34b0bcb5,0x391c0cb3,0x4ed8aa4a,0x5b9cca4f,0x682e6ff3,
 0x748f82ee,0x78a5636f,0x84c87814,0x8cc70208,0x90befffa,0xa4506ceb,0xbef9a3f7,0xc67178f2]
structure zTg (H:zAd):Prop where
 bgn:zAan H zJR .u32 zFY
 tab:zAan H zGH .u32 zV1
 sz:NG<=H.size
theorem zTg.keep {S:Nat->Prop}{H H':zAd}(h:zTg H)(k:Keep S H H')(hs:∀ b,S b->NG<=b):zTg H' :=
 ⟨h.bgn.keep k fun h=>absurd (hs _ h) (by decide),h.tab.keep k fun h=>absurd (hs _ h) (by decide),Nat.le_trans h.sz k.1⟩
def zAcm (k:IntKind)(a b:Int):Int:=k.wrap (BitVec.ofInt k.bits a &&& BitVec.ofInt k.bits b).toNat
def orI (k:IntKind)(a b:Int):Int:=k.wrap (BitVec.ofInt k.bits a ||| BitVec.ofInt k.bits b).toNat
def zXK (k:IntKind)(a b:Int):Int:=k.wrap (BitVec.ofInt k.bits a ^^^ BitVec.ofInt k.bits b).toNat
def zAhY (k:IntKind)(a:Int):Int:=k.wrap (BitVec.ofInt k.bits (if k.signed then -1 else k.max) ^^^ BitVec.ofInt k.bits a).toNat
def zUY (k:IntKind)(a b:Int):Int:=k.wrap (a+b)
def zAfi (k:IntKind)(a b:Int):Int:=k.wrap (a * 2 ^ (min b.toNat k.bits))
def zSz (k:IntKind)(a b:Int):Int:=a.fdiv (2 ^ (min b.toNat k.bits))
theorem zAdC {q:EqK}{k:IntKind}{a b:Int}:zAh q .and (.int k a) (.int k b)=some (.int k (zAcm k a b)):=by rw[zAi];rfl
theorem zAg1 {q:EqK}{k:IntKind}{a b:Int}:zAh q .or (.int k a) (.int k b)=some (.int k (orI k a b)):=by rw[zAi];rfl
theorem zUZ {q:EqK}{k:IntKind}{a b:Int}:zAh q .xor (.int k a) (.int k b)=some (.int k (zXK k a b)):=by rw[zAi];rfl
theorem zAg2 {k:IntKind}{a:Int}:unV .xor (.int k a)=some (.int k (zAhY k a)):=rfl
theorem zYA {q:EqK}{k:IntKind}{a b:Int}:zAh q .add (.int k a) (.int k b)=some (.int k (zUY k a b)):=by rw[zAi];rfl
theorem zAaV {q:EqK}{k k':IntKind}{a b:Int}(h:0<=b):zAh q .shl (.int k a) (.int k' b)=some (.int k (zAfi k a b)):=by
 rw[zP8];simp only[zA9];rw[if_neg (by omega)];rfl
theorem zPm {q:EqK}{k k':IntKind}{a b:Int}(h:0<=b):zAh q .shr (.int k a) (.int k' b)=some (.int k (zSz k a b)):=by
 rw[zVW];simp only[zA9];rw[if_neg (by omega)];rfl
theorem zRT {n:Int}:0<=IntKind.u64.wrap n:=by
 simp only[IntKind.wrap,IntKind.bits,IntKind.signed];simp;omega
def zAgH (n:Int):Int:=zAcm .u64 (IntKind.u64.wrap n) 31
def zAhZ (x n:Int):Int:=orI .u32 (zAfi .u32 x (zAgH n)) (zSz .u32 x (IntKind.u64.wrap (32 - zAgH n)))
def zYB (x n:Int):Int:=zAhZ x (IntKind.i64.wrap (0 - n))
theorem zU0 {n:Int}:0<=zAgH n:=zRT
theorem zRt {H:zAd}{x n:Int}:zAg prg zEl [.int .u32 x,.int .i64 n] H fun u H'=>u = .int .u32 (zAhZ x n)/\H=H':=by
 apply zIj
 unfold zGk
 simp only[zDr,zAa,zAdC]
 rw[show zAcm .u64 (IntKind.u64.wrap n) 31=zAgH n from rfl,zAaV zU0]
 simp only[zAa,zAi,zA9]
 rw[zPm zRT]
 simp only[zAa,zAg1]
 exact⟨rfl,trivial⟩
theorem zK1 {H:zAd}{x n:Int}:zAg prg zCY [.int .u32 x,.int .i64 n] H fun u H'=>u = .int .u32 (zYB x n)/\H=H':=by
 apply zOy
 unfold zPN
 have e:unV .neg (.int .i64 n)=some (.int .i64 (IntKind.i64.wrap (0 - n))):=rfl
 simp only[e,zAa]
 refine zAk zRt ?_
 rintro _ _ ⟨rfl,rfl⟩
 exact⟨rfl,rfl⟩
def zAdD (l:List UInt8):Int :=
 orI .u32 (orI .u32 (orI .u32 (zAfi .u32 (IntKind.u32.wrap (l.getD 0 0).toNat) 24) (zAfi .u32 (IntKind.u32.wrap (l.getD 1 0).toNat) 16)) (zAfi .u32 (IntKind.u32.wrap (l.getD 2 0).toNat) 8)) (IntKind.u32.wrap (l.getD 3 0).toNat)
theorem zAfj {P:Nat->Prop}{H:zAd}{v:Value}{l:List UInt8}(h:Sl P H v l)(hl:4<=l.length):zAg prg zPc [v] H fun u H'=>u = .int .u32 (zAdD l)/\H=H':=by
 apply zPg
 unfold zQJ
 have g:∀ i,i<4->l[i]? = some (l.getD i 0):=fun i hi=>by
  have:i<l.length:=by omega
  simp[List.getD,this]
 obtain⟨u0,i0,d0,_⟩:=h.at (g 0 (by omega))
 obtain⟨u1,i1,d1,_⟩:=h.at (g 1 (by omega))
 obtain⟨u2,i2,d2,_⟩:=h.at (g 2 (by omega))
 obtain⟨u3,i3,d3,_⟩:=h.at (g 3 (by omega))
 have i0:ixS 1 v (.int .i64 0)=some u0:=i0
 have i1:ixS 1 v (.int .i64 1)=some u1:=i1
 have i2:ixS 1 v (.int .i64 2)=some u2:=i2
 have i3:ixS 1 v (.int .i64 3)=some u3:=i3
 simp only[i0,i1,i2,i3,zAa,d0,d1,d2,d3,zDr]
 rw[zAaV (by omega)]
 simp only[zAa]
 rw[zAaV (by omega)]
 simp only[zAa,zAg1]
 rw[zAaV (by omega)]
 simp only[zAa,zAg1]
 exact⟨rfl,trivial⟩
def zW8 (b:List UInt8)(l:List Int):Int :=
 let t:=l.length
 if t<16 then zAdD (b.drop (4 * t)) else
 let x:=l.getD (t - 15) 0
 let y:=l.getD (t - 2) 0
 zUY .u32 (zUY .u32 (zUY .u32 (zXK .u32 (zXK .u32 (zYB y 17) (zYB y 19)) (zSz .u32 y 10)) (l.getD (t - 7) 0)) (zXK .u32 (zXK .u32 (zYB x 7) (zYB x 18)) (zSz .u32 x 3))) (l.getD (t - 16) 0)
def wOf (b:List UInt8):Nat->List Int
 | 0=>[]
 | t+1=>wOf b t++[zW8 b (wOf b t)]
@[simp] theorem zU1 {b:List UInt8}{t:Nat}:(wOf b t).length=t:=by induction t <;> simp_all [wOf]
def rnd (K W:Int):List Int->List Int
 | [a,b,c,d,e,f,g,h] =>
  let t1:=zUY .u32 (zUY .u32 (zUY .u32 (zUY .u32 h (zXK .u32 (zXK .u32 (zYB e 6) (zYB e 11)) (zYB e 25))) (zXK .u32 (zAcm .u32 e f) (zAcm .u32 (zAhY .u32 e) g))) K) W
  let t2:=zUY .u32 (zXK .u32 (zXK .u32 (zYB a 2) (zYB a 13)) (zYB a 22)) (zXK .u32 (zXK .u32 (zAcm .u32 a b) (zAcm .u32 a c)) (zAcm .u32 b c))
  [zUY .u32 t1 t2,a,b,c,zUY .u32 d t1,e,f,g]
 | s=>s
theorem zAdE {K W:Int}{s:List Int}(h:s.length=8):(rnd K W s).length=8:=by
 match s,h with
 | [a,b,c,d,e,f,g,h],_=>rfl
def zAcn (b:List UInt8)(s:List Int):Nat->List Int
 | 0=>s
 | t+1=>rnd (zV1.getD t 0) ((wOf b 64).getD t 0) (zAcn b s t)
theorem zSA {b:List UInt8}{s:List Int}(h:s.length=8){t:Nat}:(zAcn b s t).length=8:=by
 induction t with
 | zero=>exact h
 | succ t ih=>exact zAdE ih
def zYC (s:List Int)(b:List UInt8):List Int:=List.zipWith (zUY .u32) s (zAcn b s 64)
theorem zLQ {s:List Int}{b:List UInt8}(h:s.length=8):(zYC s b).length=8:=by simp[zYC,h,zSA h]
theorem zAg3:zAB prg zFz=some (zAP .u32 (List.replicate 64 0)).toArray:=by kernel_rfl
theorem zAiv:zAB prg zC0=some (zAP .u32 (List.replicate 8 0)).toArray:=by kernel_rfl
theorem zQM {l:List Int}{i:Nat}(h:i<l.length):l[i]? = some (l.getD i 0):=by simp[List.getD,h]
theorem zAiw {b:List UInt8}{t:Nat}(ht:t<64):(wOf b t++List.replicate (64 - t) 0).set t (zW8 b (wOf b t))=wOf b (t+1)++List.replicate (64 - (t+1)) 0:=by
 rw[List.set_append_right _ _ (by simp),zU1,Nat.sub_self,show 64 - t=(64 - (t+1))+1 by omega,List.replicate_succ]
 simp[wOf]
theorem zAh0 {b:List UInt8}{t i:Nat}(h:i<t):(wOf b t++List.replicate (64 - t) 0)[i]? = some ((wOf b t).getD i 0):=by
 rw[List.getElem?_append_left (by simpa using h),zQM (by simpa using h)]
theorem zAg4 {H:zAd}{q:Nat}{T:TypeId}{a b c d e f g h:Int}{k:Value->zAd->Prop}(hq:H[q]? = some (.cells (zAP .u32 [a,b,c,d,e,f,g,h]).toArray T (0,0)))
  (hk:k (.int .i64 7) (H.setIfInBounds q (.cells (zAP .u32 [a,a,b,c,d,e,f,g]).toArray T (0,0)))):zNU 1 H (.slice (some ⟨q,1,none⟩) 7 7) (.slice (some ⟨q,0,none⟩) 7 8) k:=by
 refine⟨7,(zAP .u32 [a,b,c,d,e,f,g]).toArray,some ⟨q,1,none⟩,7,7,?_,rfl,?_⟩
 ·simp only[zCq,hq];rfl
 ·have e:((zAP .u32 [a,b,c,d,e,f,g]).toArray.extract 0 (Nat.min 7 7 * 1))=(zAP .u32 [a,b,c,d,e,f,g]).toArray:=rfl
  simp only[e]
  rw[zNI hq 1 _ zI3 (by simp[zAP]) zRS,zAm]
  exact hk
theorem zAdF {s R:List Int}{i:Nat}(hs:s.length=8)(hR:R.length=8)(hi:i<8) :
  ((List.zipWith (zUY .u32) s R).take i++s.drop i).set i (zUY .u32 (s.getD i 0) (R.getD i 0))=(List.zipWith (zUY .u32) s R).take (i+1)++s.drop (i+1):=by
 match s,hs,R,hR with
 | [a,b,c,d,e,f,g,h],_,[a',b',c',d',e',f',g',h'],_ =>
  match i,hi with
  | 0,_=>rfl
  | 1,_=>rfl
  | 2,_=>rfl
  | 3,_=>rfl
  | 4,_=>rfl
  | 5,_=>rfl
  | 6,_=>rfl
  | 7,_=>rfl
theorem zAdG {P:Nat->Prop}{p:Nat}{H:zAd}{v:Value}{l:List UInt8}{s:List Int}{r:List Value}{T:TypeId}(hT:zTg H)(hd:H[p]? = some (.cells (zAP .u32 s++r).toArray T (0,0)))(hs:s.length=8)
  (hb:Sl P H v l) (hl:64<=l.length) (hP:∀ b,P b->b<H.size) :
  zAg prg zCU [Ptr p 0,v] H fun u H'=>u = .tuple #[]/\H'[p]? = some (.cells (zAP .u32 (zYC s l)++r).toArray T (0,0))/\Keep (· = p) H H':=by
 apply zKT
 unfold zJX
 simp only[zAg3,zAs,zAF,zAiv]
 have hplt:=lt_of hd
 have hNG:NG<=H.size:=hT.sz
 generalize hH1:H.push (.cells (zAP .u32 (List.replicate 64 0)).toArray zFz (0,0))=H1
 have k1:Keep (fun _=>False) H H1:=by rw[<- hH1];exact Keep.push
 have hq1:H1[H.size]? = some (.cells (zAP .u32 (List.replicate 64 0)).toArray zFz (0,0)):=by rw[<- hH1];exact zAR
 have hs1:H1.size=H.size+1:=by rw[<- hH1];simp
 generalize hqe:H.size=q at *
 refine zHU (fun u h=>∃ t,t<=64/\u = .int .i64 (t:Nat)/\h[q]? = some (.cells (zAP .u32 (wOf l t++List.replicate (64 - t) 0)).toArray zFz (0,0))/\Keep (· = q) H1 h)
  (fun u _=>match u with | .int _ t=>64 - t.toNat | _=>0) ⟨0,by omega,rfl,by simpa [wOf] using hq1,Keep.refl⟩ ?_
 rintro _ h ⟨t,ht,rfl,hw,kw⟩ k hk
 simp only[zAi,zA9,zAa,zAc,decide_eq_true_eq,zYp]
 have hinc:IntKind.i64.wrap ((t:Int)+1)=(t+1:Nat):=by rw[zAM] <;> omega
 by_cases hlt:(t:Int)<64
 ·rw[if_pos hlt]
  have hlt':t<64:=by omega
  have fin:∀ x,x=zW8 l (wOf l t)->∃ h',st1 h (Ptr q t) (.int .u32 x)=some h'/\k (.int .i64 (t+1:Nat)) h':=by
   rintro _ rfl
   have hst:=zUE hw (i:=t) (v := .int .u32 (zW8 l (wOf l t))) (by simp;omega) rfl
   refine⟨_,hst,hk _ _ ⟨t+1,hlt',rfl,?_,kw.trans (Keep.set rfl)⟩ (by show 64 - (t+1)<64 - t;omega)⟩
   rw[zAt hw,zPl,zAiw hlt']
  have ea:ixA 64 1 (.pointer (some ⟨q,0,none⟩)) (.int .i64 (t:Nat))=some (Ptr q t):=by rw[zQG hlt'];simp
  by_cases h16:(t:Int)<16
  ·rw[if_pos h16]
   have hm:IntKind.i64.wrap (4 * (t:Int))=((4 * t:Nat):Int):=by rw[zAM] <;> omega
   have hb':=(hb.keep k1 fun _ _=>id).keep kw fun b hb e=>by have:=hP b hb;omega
   obtain⟨u,hu,hsu⟩:=hb'.tail (n:=4 * t) (by omega)
   simp only[hm,hu,zAa]
   refine zAk (zAfj hsu (by simp;omega)) ?_
   rintro _ _ ⟨rfl,rfl⟩
   obtain⟨h',hst,hkk⟩:=fin (zAdD (l.drop (4 * t))) (by unfold zW8;simp only[zU1];rw[if_pos (by omega)])
   simp only[ea,zAa,hst,zAm,hinc]
   exact hkk
  ·rw[if_neg h16]
   have e15:IntKind.i64.wrap ((t:Int) - 15)=((t - 15:Nat):Int):=by rw[zAM] <;> omega
   have e2:IntKind.i64.wrap ((t:Int) - 2)=((t - 2:Nat):Int):=by rw[zAM] <;> omega
   have e7:IntKind.i64.wrap ((t:Int) - 7)=((t - 7:Nat):Int):=by rw[zAM] <;> omega
   have e16:IntKind.i64.wrap ((t:Int) - 16)=((t - 16:Nat):Int):=by rw[zAM] <;> omega
   have ix:∀ j,j<64->ixA 64 1 (.pointer (some ⟨q,0,none⟩)) (.int .i64 (j:Nat))=some (Ptr q j):=fun j hj=>by rw[zQG hj];simp
   have ld:∀ j,j<t->ld1 h (Ptr q j)=some (.int .u32 ((wOf l t).getD j 0)):=fun j hj=>zO0 hw (zFP (zAh0 hj))
   have s3:∀ x,zAh .no .shr (.int .u32 x) (.int .u64 3)=some (.int .u32 (zSz .u32 x 3)):=fun x=>zPm (by omega)
   have s10:∀ x,zAh .no .shr (.int .u32 x) (.int .u64 10)=some (.int .u32 (zSz .u32 x 10)):=fun x=>zPm (by omega)
   simp only[e15,e2,e7,e16,ix (t - 15) (by omega),ix (t - 2) (by omega),zAa,ld (t - 15) (by omega),ld (t - 2) (by omega)]
   refine zAk zK1 ?_;rintro _ _ ⟨rfl,rfl⟩
   refine zAk zK1 ?_;rintro _ _ ⟨rfl,rfl⟩
   simp only[zUZ,s3,zAa]
   refine zAk zK1 ?_;rintro _ _ ⟨rfl,rfl⟩
   refine zAk zK1 ?_;rintro _ _ ⟨rfl,rfl⟩
   simp only[zUZ,s10,zAa,ix (t - 7) (by omega),ld (t - 7) (by omega),zYA,ix (t - 16) (by omega),ld (t - 16) (by omega),ea]
   obtain⟨h',hst,hkk⟩:=fin _ (by unfold zW8;simp only[zU1];rw[if_neg (by omega)])
   simp only[hst,zAm,zAa]
   rw[hinc]
   exact hkk
 ·rw[if_neg hlt]
  obtain rfl:t=64:=by omega
  clear hk hinc hlt ht
  have hd1:=kw.at (k1.at hd id) (show p≠q by omega)
  have hld:ldN 8 h (Ptr p 0)=some (.agg (zAP .u32 s).toArray):=ldN_mid (A:=[]) (B:=zAP .u32 s) (C:=r) (by simpa using hd1) rfl (by simp[hs])
  simp only[zFA,zAx,zAa,Nat.zero_add,hld]
  have hT1:=(hT.keep k1 fun _ h=>h.elim).keep kw fun b hb=>by omega
  have hq2:(h.push (.cells (zAP .u32 (List.replicate 8 0)).toArray zC0 (0,0)))[h.size]? = some (.cells (zAP .u32 (List.replicate 8 0)).toArray zC0 (0,0)):=zAR
  have hst:=zMH (n:=8) (o:=0) (A:=[]) (B:=zAP .u32 (List.replicate 8 0)) (C:=[]) (B':=zAP .u32 s) (by rw[List.nil_append,List.append_nil];exact hq2) rfl (by simp) (by simp[hs]) zRS
  simp only[List.nil_append,List.append_nil]at hst
  rw[hst,zAm]
  generalize hH2:(h.push (.cells (zAP .u32 (List.replicate 8 0)).toArray zC0 (0,0))).setIfInBounds h.size (.cells (zAP .u32 s).toArray zC0 (0,0))=H2
  have k2:Keep (fun _=>False) h H2:=by
   rw[<- hH2]
   refine⟨by simp,fun i hi _=>?_⟩
   rw[Array.getElem?_setIfInBounds,if_neg (by omega),Array.getElem?_push,if_neg (by omega)]
  have hs2:H2[h.size]? = some (.cells (zAP .u32 s).toArray zC0 (0,0)):=by rw[<- hH2];exact zAt hq2
  have hqlt:q<h.size:=lt_of hw
  generalize hq2e:h.size=q2 at *
  refine zHU (fun u g=>∃ t,t<=64/\u = .int .i64 (t:Nat)/\g[q2]? = some (.cells (zAP .u32 (zAcn l s t)).toArray zC0 (0,0))/\Keep (· = q2) H2 g)
   (fun u _=>match u with | .int _ t=>64 - t.toNat | _=>0) ⟨0,by omega,rfl,hs2,Keep.refl⟩ ?_
  rintro _ g ⟨t,ht,rfl,hg,kg⟩ k hk
  simp only[zAi,zA9,zAa,zAc,decide_eq_true_eq]
  have hinc:IntKind.i64.wrap ((t:Int)+1)=(t+1:Nat):=by rw[zAM] <;> omega
  by_cases hlt:(t:Int)<64
  ·rw[if_pos hlt]
   have hlt':t<64:=by omega
   obtain⟨a,b,c,d,e,f,g',h',hR⟩:∃ a b c d e f g h,zAcn l s t=[a,b,c,d,e,f,g,h]:=by
    have:=zSA (b:=l) hs (t:=t)
    match zAcn l s t,this with
    | [a,b,c,d,e,f,g,h],_=>exact⟨a,b,c,d,e,f,g,h,rfl⟩
   rw[hR]at hg
   have i0:ixA 8 1 (.pointer (some ⟨q2,0,none⟩)) (.int .i64 0)=some (Ptr q2 0):=rfl
   have i1:ixA 8 1 (.pointer (some ⟨q2,0,none⟩)) (.int .i64 1)=some (Ptr q2 1):=rfl
   have i2:ixA 8 1 (.pointer (some ⟨q2,0,none⟩)) (.int .i64 2)=some (Ptr q2 2):=rfl
   have i4:ixA 8 1 (.pointer (some ⟨q2,0,none⟩)) (.int .i64 4)=some (Ptr q2 4):=rfl
   have i5:ixA 8 1 (.pointer (some ⟨q2,0,none⟩)) (.int .i64 5)=some (Ptr q2 5):=rfl
   have i6:ixA 8 1 (.pointer (some ⟨q2,0,none⟩)) (.int .i64 6)=some (Ptr q2 6):=rfl
   have i7:ixA 8 1 (.pointer (some ⟨q2,0,none⟩)) (.int .i64 7)=some (Ptr q2 7):=rfl
   have d0:ld1 g (Ptr q2 0)=some (.int .u32 a):=zO0 hg rfl
   have d1:ld1 g (Ptr q2 1)=some (.int .u32 b):=zO0 hg rfl
   have d2:ld1 g (Ptr q2 2)=some (.int .u32 c):=zO0 hg rfl
   have d4:ld1 g (Ptr q2 4)=some (.int .u32 e):=zO0 hg rfl
   have d5:ld1 g (Ptr q2 5)=some (.int .u32 f):=zO0 hg rfl
   have d6:ld1 g (Ptr q2 6)=some (.int .u32 g'):=zO0 hg rfl
   have d7:ld1 g (Ptr q2 7)=some (.int .u32 h'):=zO0 hg rfl
   have ik:ixA 64 1 (.pointer (some ⟨zGH,0,none⟩)) (.int .i64 (t:Nat))=some (Ptr zGH t):=by rw[zQG hlt'];simp
   have iw:ixA 64 1 (.pointer (some ⟨q,0,none⟩)) (.int .i64 (t:Nat))=some (Ptr q t):=by rw[zQG hlt'];simp
   have hT2:=(hT1.keep k2 fun _ h=>h.elim).keep kg fun b hb=>by omega
   have dk:ld1 g (Ptr zGH t)=some (.int .u32 (zV1.getD t 0)):=hT2.tab.ld (zQM (by show t<64;exact hlt'))
   have hw2:=kg.at (k2.at hw id) (show q≠q2 by omega)
   have dw:ld1 g (Ptr q t)=some (.int .u32 ((wOf l 64).getD t 0)):=zO0 hw2 (zFP (zAh0 hlt'))
   simp only[i0,i1,i2,i4,i5,i6,i7,d0,d1,d2,d4,d5,d6,d7,zAa,zAdC,zAg2,zUZ,ik,dk,iw,dw]
   refine zAk zK1 ?_;rintro _ _ ⟨rfl,rfl⟩
   simp only[zVV,zAr,dw,dk,d6,d5,d7,true_and]
   refine zAk zK1 ?_;rintro _ _ ⟨rfl,rfl⟩
   simp only[dw,dk,d6,d5,d7,true_and,zUZ,zAa]
   refine zAk zK1 ?_;rintro _ _ ⟨rfl,rfl⟩
   simp only[dw,dk,d6,d5,d7,true_and,zUZ,zAa,zYA,d1,d2,zAdC]
   refine zAk zK1 ?_;rintro _ _ ⟨rfl,rfl⟩
   simp only[d1,d2,true_and]
   refine zAk zK1 ?_;rintro _ _ ⟨rfl,rfl⟩
   simp only[d1,d2,true_and,zUZ,zAa]
   refine zAk zK1 ?_;rintro _ _ ⟨rfl,rfl⟩
   have sl1:slA 8 1 (.pointer (some ⟨q2,0,none⟩)) (some (.int .i64 1)) none none=some (.slice (some ⟨q2,1,none⟩) 7 7):=rfl
   have sl2:slA 8 1 (.pointer (some ⟨q2,0,none⟩)) none (some (.int .i64 7)) none=some (.slice (some ⟨q2,0,none⟩) 7 8):=rfl
   simp only[d1,d2,true_and,zUZ,zAa,zYA,sl1,sl2]
   refine zAg4 hg ?_
   have g1:=zAt (y := .cells (zAP .u32 [a,a,b,c,d,e,f,g']).toArray zC0 (0,0)) hg
   have d4':∀ x,ld1 (g.setIfInBounds q2 (.cells (zAP .u32 [a,a,b,c,d,e,f,g']).toArray zC0 (0,0))) (Ptr q2 4)=some x↔x = .int .u32 d:=fun x=>by
    rw[zO0 g1 (i:=4) (v := .int .u32 d) rfl];simp[eq_comm]
   have d4'':=(d4' _).2 rfl
   simp only[d4'',zAa,zYA]
   rw[zUE g1 (i:=4) (by simp) rfl,zAm,zUE (zAt g1) (i:=0) (by simp[zAP]) rfl,zAm,hinc]
   refine hk _ _ ⟨t+1,hlt',rfl,?_,((kg.trans (Keep.set rfl)).trans (Keep.set rfl)).trans (Keep.set rfl)⟩ (by show 64 - (t+1)<64 - t;omega)
   rw[zAt (zAt g1)]
   have:zAcn l s (t+1)=rnd (zV1.getD t 0) ((wOf l 64).getD t 0) [a,b,c,d,e,f,g',h']:=by rw[<- hR];rfl
   rw[this];rfl
  ·rw[if_neg hlt]
   obtain rfl:t=64:=by omega
   clear hk hinc hlt ht
   have kall:Keep (fun _=>False) H g:=by
    refine⟨by have:=k1.1;have:=kw.1;have:=k2.1;have:=kg.1;omega,fun i hi _=>?_⟩
    rw[kg.2 i (by have:=k2.1;omega) (by omega),k2.2 i (by omega) id,kw.2 i (by omega) (by omega),k1.2 i (by omega) id]
   have hdg:=kall.at hd id
   have hRl:=zSA (b:=l) hs (t:=64)
   refine zHU (fun u x=>∃ i,i<=8/\u = .int .i64 (i:Nat)/\x[p]? = some (.cells (zAP .u32 ((zYC s l).take i++s.drop i)++r).toArray T (0,0))/\Keep (· = p) g x)
    (fun u _=>match u with | .int _ t=>8 - t.toNat | _=>0) ⟨0,by omega,rfl,by simpa using hdg,Keep.refl⟩ ?_
   rintro _ x ⟨i,hi,rfl,hx,kx⟩ k hk
   simp only[zAi,zA9,zAa,zAc,decide_eq_true_eq,zFA,zAx,Nat.zero_add]
   have hinc:IntKind.i64.wrap ((i:Int)+1)=(i+1:Nat):=by rw[zAM] <;> omega
   by_cases hlt:(i:Int)<8
   ·rw[if_pos hlt]
    have hlt':i<8:=by omega
    have ip:∀ y:Nat,ixA 8 1 (.pointer (some ⟨y,0,none⟩)) (.int .i64 (i:Nat))=some (Ptr y i):=fun y=>by rw[zQG hlt'];simp
    have hlen:((zYC s l).take i++s.drop i).length=8:=by simp[zLQ hs,hs];omega
    have dp:ld1 x (Ptr p i)=some (.int .u32 (s.getD i 0)):=by
     refine zO0 hx ?_
     rw[List.getElem?_append_left (by rw[zRR,hlen];exact hlt')]
     refine zFP ?_
     rw[List.getElem?_append_right (by simp[zLQ hs];omega)]
     simp only[List.length_take,zLQ hs,List.getElem?_drop]
     rw[show i+(i - min i 8)=i by omega]
     exact zQM (by omega)
    have hg2:=kx.at hg (show q2≠p by omega)
    have ds:ld1 x (Ptr q2 i)=some (.int .u32 ((zAcn l s 64).getD i 0)):=zO0 hg2 (zFP (zQM (by omega)))
    simp only[ip,dp,ds,zAa,zYA]
    rw[zUE hx (i:=i) (by simp[zLQ hs,hs];omega) rfl,zAm,hinc]
    refine hk _ _ ⟨i+1,hlt',rfl,?_,kx.trans (Keep.set rfl)⟩ (by show 8 - (i+1)<8 - i;omega)
    rw[zAt hx,List.set_append_left _ _ (by rw[zRR,hlen];exact hlt'),zPl]
    unfold zYC
    rw[zAdF hs hRl hlt']
   ·rw[if_neg hlt]
    obtain rfl:i=8:=by omega
    refine⟨trivial,?_,(kall.mono fun _ _ h=>h.elim).trans kx⟩
    rw[hx,List.take_of_length_le (by rw[zLQ hs];omega),List.drop_eq_nil_of_le (by omega),List.append_nil]
def zO1 (s:List Int)(l:List UInt8):List Int×List UInt8:=if h:64<=l.length then zO1 (zYC s (l.take 64)) (l.drop 64) else (s,l)
termination_by l.length
decreasing_by simp;omega
theorem zJI {s:List Int}{l:List UInt8}(h:l.length<64):zO1 s l=(s,l):=by rw[zO1,dif_neg (by omega)]
theorem zNf {s:List Int}{l:List UInt8}(h:64<=l.length):zO1 s l=zO1 (zYC s (l.take 64)) (l.drop 64):=by rw[zO1,dif_pos h]
theorem zU2 (n:Nat):∀ (s:List Int) (l m:List UInt8),l.length<=n->zO1 s (l++m)=zO1 (zO1 s l).1 ((zO1 s l).2++m):=by
 induction n using Nat.strongRecOn with
 | _ n ih =>
  intro s l m hn
  by_cases h:64<=l.length
  ·rw[zNf (l:=l) h,zNf (l:=l++m) (by simp;omega),List.take_append_of_le_length h,List.drop_append_of_le_length h]
   exact ih (l.length - 64) (by omega) _ _ _ (by simp)
  ·rw[zJI (l:=l) (by omega)]
theorem zYD (n:Nat):∀ (s:List Int) (l:List UInt8),l.length<=n->(zO1 s l).2.length<64:=by
 induction n using Nat.strongRecOn with
 | _ n ih =>
  intro s l hn
  by_cases h:64<=l.length
  ·rw[zNf h];exact ih (l.length - 64) (by omega) _ _ (by simp)
  ·rw[zJI (by omega)];show l.length<64;omega
theorem zAaW (n:Nat):∀ (s:List Int) (l:List UInt8),s.length=8->l.length<=n->(zO1 s l).1.length=8:=by
 induction n using Nat.strongRecOn with
 | _ n ih =>
  intro s l hs hn
  by_cases h:64<=l.length
  ·rw[zNf h];exact ih (l.length - 64) (by omega) _ _ (zLQ hs) (by simp)
  ·rw[zJI (by omega)];exact hs
def zYE (F:Nat->Prop)(p:Nat)(H:zAd)(s:List Int)(r:List UInt8)(n:Int):Prop :=
 (¬ F p/\NG<=p/\∀ b,F b->NG<=b)/\s.length=8/\∃ v,H[p]? = some (.cells (zAP .u32 s++[v,.int .i64 n]).toArray zBb (0,0))/\Buf F H v r
def Dig (F:Nat->Prop)(p:Nat)(H:zAd)(l:List UInt8):Prop:=zYE F p H (zO1 zFY l).1 (zO1 zFY l).2 l.length
theorem zYE.keep {F S:Nat->Prop}{p:Nat}{H H':zAd}{s:List Int}{r:List UInt8}{n:Int}(h:zYE F p H s r n)(k:Keep S H H')(hs:∀ b,Wr F p b->¬ S b):zYE F p H' s r n:=by
 obtain⟨h1,h2,v,h3,h4⟩:=h
 exact⟨h1,h2,v,k.at h3 (hs p (.inr rfl)),h4.keep k fun b hb=>hs b (.inl hb)⟩
theorem Dig.keep {F S:Nat->Prop}{p:Nat}{H H':zAd}{l:List UInt8}(h:Dig F p H l)(k:Keep S H H')(hs:∀ b,Wr F p b->¬ S b):Dig F p H' l:=zYE.keep h k hs
theorem Dig.lt {F:Nat->Prop}{p:Nat}{H:zAd}{l:List UInt8}(h:Dig F p H l):p<H.size:=by obtain⟨_,_,v,h3,_⟩:=h;exact lt_of h3
theorem zTP {s:List Int}{v w:Value}(h:s.length=8):(zAP .u32 s++[v,w])[8]? = some v:=by
 match s,h with | [a,b,c,d,e,f,g,h],_=>rfl
theorem zAco {s:List Int}{v w:Value}(h:s.length=8):(zAP .u32 s++[v,w])[9]? = some w:=by
 match s,h with | [a,b,c,d,e,f,g,h],_=>rfl
theorem zV2 {s:List Int}{v w x:Value}(h:s.length=8):(zAP .u32 s++[v,w]).set 8 x=zAP .u32 s++[x,w]:=by
 match s,h with | [a,b,c,d,e,f,g,h],_=>rfl
theorem zAfk {s:List Int}{v w x:Value}(h:s.length=8):(zAP .u32 s++[v,w]).set 9 x=zAP .u32 s++[v,x]:=by
 match s,h with | [a,b,c,d,e,f,g,h],_=>rfl
theorem zW9:zA4 prg zBb [(0,.agg (zAP .u32 zFY).toArray)]=some (.agg (zAP .u32 zFY++[Value.slice none 0 0,Value.int .i64 0]).toArray):=by kernel_rfl
theorem zAaX:zAB prg zBb=some (zAP .u32 (List.replicate 8 0)++[Value.slice none 0 0,Value.int .i64 0]).toArray:=by kernel_rfl
theorem zAaY {H:zAd}(hT:zTg H):zAg prg zQx [] H fun u H'=>u=Ptr H.size 0/\Dig (H.size < ·) H.size H' []/\Keep (fun _=>False) H H':=by
 apply zPY
 unfold zRP
 have e:ldN 8 H (.pointer (some ⟨zJR,0,none⟩))=some (.agg (zAP .u32 zFY).toArray):=by
  obtain⟨T,f,h⟩:=hT.bgn
  exact ldN_mid (A:=[]) (B:=zAP .u32 zFY) (C:=[]) (by rw[List.nil_append,List.append_nil];exact h) rfl rfl
 have hsz:=hT.sz
 simp only[e,zW9,zAa,zAs,zAN]
 refine⟨trivial,?_,Keep.push⟩
 unfold Dig
 rw[zJI (by simp)]
 exact⟨⟨Nat.lt_irrefl _,hsz,fun b hb=>Nat.le_trans hsz (Nat.le_of_lt hb)⟩,rfl,_,zAR,.inl ⟨rfl,rfl⟩⟩
theorem zYE.block {F P:Nat->Prop}{p:Nat}{H:zAd}{s:List Int}{r m:List UInt8}{n:Int}{v:Value}{k:Value->zAd->Prop}(h:zYE F p H s r n)(hT:zTg H)(hb:Sl P H v m)(hm:64<=m.length)(hP:∀ b,P b->b<H.size)
  (hk:∀ H',zYE F p H' (zYC s m) r n->Keep (· = p) H H'->k (.tuple #[]) H'):zAp prg zCU [Ptr p 0,v] H k:=by
 obtain⟨h1,h2,w,h3,h4⟩:=h
 refine zAk (zAdG hT h3 h2 hb hm hP) ?_
 rintro _ H' ⟨rfl,hd,kp⟩
 exact hk H' ⟨h1,zLQ h2,w,hd,h4.keep kp fun b hb e=>h1.1 (e ▸ hb)⟩ kp
theorem zU3 {F P:Nat->Prop}{p:Nat}{H:zAd}{v:Value}{l m:List UInt8}(h:Dig F p H l)(hT:zTg H)(hb:Sl P H v m)(hP:∀ b,P b->b<H.size/\¬ F b/\b≠p)(hl:l.length+m.length<=70368744177664)(hf:∀ b,H.size<=b->F b) :
  zAg prg zDQ [Ptr p 0,v] H fun u H'=>u = .tuple #[]/\Dig F p H' (l++m)/\Keep (Wr F p) H H':=by
 apply zKS
 unfold zJW
 obtain⟨hF,hs,w,hd,hr⟩:=h
 have hrl:=zYD _ zFY l (Nat.le_refl _)
 have happ:=zU2 _ zFY l m (Nat.le_refl _)
 generalize hS:(zO1 zFY l).1=S at *
 generalize hR:(zO1 zFY l).2=R at *
 have hw:IntKind.i64.wrap ((l.length:Int)+m.length)=((l++m).length:Nat):=by rw[zAM (by omega) (by omega)];simp
 have d9:ld1 H (Ptr p 9)=some (.int .i64 l.length):=zO0 hd (zAco hs)
 simp only[zFA,zAx,zAa,Nat.zero_add,d9,hb.len,zAi,zA9,hw]
 rw[zUE hd (i:=9) (by simp[hs]) rfl,zAm,zAfk hs]
 generalize hH1:H.setIfInBounds p (.cells (zAP .u32 S++[w,.int .i64 (l++m).length]).toArray zBb (0,0))=H1
 have k1:Keep (· = p) H H1:=by rw[<- hH1];exact Keep.set rfl
 have hd1:H1[p]? = some (.cells (zAP .u32 S++[w,.int .i64 (l++m).length]).toArray zBb (0,0)):=by rw[<- hH1];exact zAt hd
 have hr1:Buf F H1 w R:=hr.keep k1 fun b hb e=>hF.1 (e ▸ hb)
 have hb1:Sl P H1 v m:=hb.keep k1 fun b hb=>(hP b hb).2.2
 have d8:ld1 H1 (Ptr p 8)=some w:=zO0 hd1 (zTP hs)
 have hT1:=hT.keep k1 fun b hb=>by subst hb;exact hF.2.1
 have loop:∀ (S':List Int) (u:Value) (m':List UInt8) (H2:zAd),zYE F p H2 S' [] (l++m).length->Sl P H2 u m'->Keep (Wr F p) H H2->zO1 S' m'=zO1 zFY (l++m) ->
   L1 (fun k10=>fun t1_4 h11 =>
    Mpu (zBO t1_4) fun t64 =>
    Mpu (zAh .no .geq t64 (.int .i64 64)) fun t65 =>
    Mcd t65 (
     Mpu (slS 1 t1_4 none (some (.int .i64 64)) none) fun t70 =>
     zAp prg zCU [Ptr p 0,t70] h11 fun t71 h12 =>
     Mpu (slS 1 t1_4 (some (.int .i64 64)) none none) fun t67 =>
     k10 t67 h12) (
     Mpu (nck (Ptr p 0)) fun t74 =>
     Mpu (fld 8 t74) fun t75 =>
     Mpu (ld1 h11 t75) fun t76 =>
     zIV zAS 1 1 h11 t76 t1_4 fun t78 h13 =>
     Mpu (nck (Ptr p 0)) fun t79 =>
     Mpu (fld 8 t79) fun t80 =>
     Mwr (st1 h13 t80 t78) fun h14 =>
     (Value.tuple #[]) = .tuple #[]/\Dig F p h14 (l++m)/\Keep (Wr F p) H h14)) u H2:=by
  intro S' u m' H2 hD hu hk2 hch
  refine zHU (fun u h=>∃ S' m',zYE F p h S' [] (l++m).length/\Sl P h u m'/\Keep (Wr F p) H h/\zO1 S' m'=zO1 zFY (l++m)) (fun u _=>match u with | .slice _ n _=>n | _=>0) ⟨S',m',hD,hu,hk2,hch⟩ ?_
  rintro u g ⟨S',m',hD,hu,hkg,hch⟩ k hk
  simp only[hu.len,zAa,zAi,zA9,zAc,decide_eq_true_eq]
  have hTg:=hT.keep hkg fun b hb=>hb.elim (hF.2.2 b) fun e=>by subst e;exact hF.2.1
  by_cases h64:(m'.length:Int)>=64
  ·rw[if_pos h64]
   have h64':64<=m'.length:=by omega
   obtain⟨x,hx,hsx⟩:=hu.pre h64'
   have hx:slS 1 u none (some (.int .i64 64)) none=some x:=hx
   rw[hx,zAa]
   refine hD.block hTg hsx (by simp;omega) (fun b hb=>Nat.lt_of_lt_of_le (hP b hb).1 hkg.1) fun g2 hD2 kp=>?_
   obtain⟨y,hy,hsy⟩:=hu.tail h64'
   have hy:slS 1 u (some (.int .i64 64)) none none=some y:=hy
   rw[hy,zAa]
   refine hk _ _ ⟨_,_,hD2,hsy.keep kp fun b hb=>(hP b hb).2.2,hkg.trans (kp.mono fun b _ h => .inr h),by rw[<- hch,zNf h64']⟩ ?_
   obtain⟨a1,c1,e1,_⟩:=hu.sl
   obtain⟨a2,c2,e2,_⟩:=hsy.sl
   subst e1 e2
   simp;omega
  ·rw[if_neg h64]
   rw[zJI (by omega)]at hch
   obtain⟨_,hs',w',hd',hr'⟩:=hD
   have d8:ld1 g (Ptr p 8)=some w':=zO0 hd' (zTP hs')
   simp only[zFA,zAx,zAa,Nat.zero_add,d8]
   refine hr'.app hu.bs (by simp;omega) (hf _ hkg.1) fun x g2 hx kx=>?_
   have hd2:=kx.at hd' hF.1
   rw[zUE hd2 (i:=8) (by simp[hs']) hx.sl.one,zAm,zV2 hs']
   have kp:Keep (· = p) g2 (g2.setIfInBounds p (.cells (zAP .u32 S'++[x,.int .i64 (l++m).length]).toArray zBb (0,0))):=Keep.set rfl
   refine⟨trivial,?_,(hkg.trans (kx.mono fun b _ h => .inl h)).trans (kp.mono fun b _ h => .inr h)⟩
   unfold Dig
   rw[<- hch]
   exact⟨hF,hs',x,zAt hd2,hx.keep kp fun b hb e=>hF.1 (e ▸ hb)⟩
 simp only[zFA,zAx,zAa,Nat.zero_add]at loop
 simp only[zAF,zFA,zAx,zAa,Nat.zero_add,d8,hr1.sl.len,zAi,zA9,zAc,decide_eq_true_eq]
 by_cases h0:(R.length:Int) > 0
 ·rw[if_pos h0]
  have e1:IntKind.i64.wrap (64 - (R.length:Int))=((64 - R.length:Nat):Int):=by rw[zAM] <;> omega
  have e2:zAat true [.int .i64 ((64 - R.length:Nat):Int),.int .i64 (m.length:Int)]=some (.int .i64 (min (64 - R.length) m.length:Nat)):=by
   simp only[zAat,if_true]
   congr 2
   split <;> omega
  generalize hK:min (64 - R.length) m.length=K at e2
  have hK1:K<=m.length:=by omega
  have hK2:K<=64 - R.length:=by omega
  have hK3:K=m.length\/K=64 - R.length:=by omega
  obtain⟨x,hx,hsx⟩:=hb1.pre hK1
  simp only[e1,e2,zAa,hb1.len,hx]
  refine hr1.app hsx.bs (by simp;omega) (hf _ k1.1) fun x2 H2 hx2 kx2=>?_
  have hd2:=kx2.at hd1 hF.1
  rw[zUE hd2 (i:=8) (by simp[hs]) hx2.sl.one,zAm,zV2 hs]
  generalize hH3:H2.setIfInBounds p (.cells (zAP .u32 S++[x2,.int .i64 (l++m).length]).toArray zBb (0,0))=H3
  have k3:Keep (· = p) H2 H3:=by rw[<- hH3];exact Keep.set rfl
  have hd3:H3[p]? = some (.cells (zAP .u32 S++[x2,.int .i64 (l++m).length]).toArray zBb (0,0)):=by rw[<- hH3];exact zAt hd2
  have hx3:Buf F H3 x2 (R++m.take K):=hx2.keep k3 fun b hb e=>hF.1 (e ▸ hb)
  have kk:Keep (Wr F p) H H3:=((k1.mono fun b _ h => .inr h).trans (kx2.mono fun b _ h => .inl h)).trans (k3.mono fun b _ h => .inr h)
  have hb3:Sl P H3 v m:=(hb1.keep kx2 fun b hb=>(hP b hb).2.1).keep k3 fun b hb=>(hP b hb).2.2
  obtain⟨y,hy,hsy⟩:=hb3.tail hK1
  have d83:ld1 H3 (Ptr p 8)=some x2:=zO0 hd3 (zTP hs)
  have hD3:zYE F p H3 S (R++m.take K) (l++m).length:=⟨hF,hs,x2,hd3,hx3⟩
  simp only[hy,zAa,d83,hx3.sl.len,zAi,zA9,zAc,decide_eq_true_eq]
  by_cases h64:((R++m.take K).length:Int)<64
  ·rw[if_pos h64]
   have hKm:K=m.length:=by simp at h64;omega
   subst hKm
   refine⟨trivial,?_,kk⟩
   unfold Dig
   rw[List.take_length]at hD3
   rw[happ,zJI (by simp at h64 ⊢;omega)]
   exact hD3
  ·rw[if_neg h64]
   have hKr:K=64 - R.length:=by simp at h64;omega
   have hlen:(R++m.take K).length=64:=by simp;omega
   have hT3:=hT.keep kk fun b hb=>hb.elim (hF.2.2 b) fun e=>by subst e;exact hF.2.1
   have hs3:=hx3.sl
   refine hD3.block (P:=fun b=>F b/\b<H3.size) hT3 ⟨hs3.bs,hs3.sl,fun b hb=>⟨hs3.own b hb,?_⟩⟩ (by omega) (fun b hb=>hb.2) fun H4 hD4 k4=>?_
   ·rcases hx3 with ⟨rfl,_⟩ | ⟨b',o,c,cs,T,f,rfl,hp,hc,hb',_⟩
    ·cases hb
    ·obtain⟨rfl,_⟩:=zHu hb;exact lt_of hb'
   ·obtain⟨_,hs4,w4,hd4,hr4⟩:=hD4
    have d84:ld1 H4 (Ptr p 8)=some w4:=zO0 hd4 (zTP hs4)
    obtain⟨z,hz,hbz⟩:=hr4.cut0
    simp only[d84,zAa,hz]
    rw[zUE hd4 (i:=8) (by simp[hs4]) hbz.sl.one,zAm,zV2 hs4]
    have k5:Keep (· = p) H4 (H4.setIfInBounds p (.cells (zAP .u32 (zYC S (R++m.take K))++[z,.int .i64 (l++m).length]).toArray zBb (0,0))):=Keep.set rfl
    refine loop (zYC S (R++m.take K)) y (m.drop K) _ ⟨hF,hs4,z,zAt hd4,hbz.keep k5 fun b hb e=>hF.1 (e ▸ hb)⟩ ((hsy.keep k4 fun b hb=>(hP b hb).2.2).keep k5 fun b hb=>(hP b hb).2.2) ((kk.trans (k4.mono fun b _ h => .inr h)).trans (k5.mono fun b _ h => .inr h)) ?_
    have hsplit:R++m=(R++m.take K)++m.drop K:=by rw[List.append_assoc,List.take_append_drop]
    generalize hX:R++m.take K=X at hsplit hlen
    generalize m.drop K=Y at hsplit
    have t1:(X++Y).take 64=X:=by rw[List.take_append_of_le_length (Nat.le_of_eq hlen.symm),List.take_of_length_le (Nat.le_of_eq hlen)]
    have t2:(X++Y).drop 64=Y:=by rw[List.drop_append_of_le_length (Nat.le_of_eq hlen.symm),List.drop_eq_nil_of_le (Nat.le_of_eq hlen),List.nil_append]
    rw[happ,hsplit,zNf (l:=X++Y) (by rw[List.length_append,hlen];omega),t1,t2]
 ·rw[if_neg h0]
  have hR0:R=[]:=List.length_eq_zero_iff.1 (by omega)
  subst hR0
  exact loop S v m H1 ⟨hF,hs,w,hd1,hr1⟩ hb1 (k1.mono fun b _ h => .inr h) (by rw[happ];rfl)
theorem Dig.re {F G:Nat->Prop}{p:Nat}{H:zAd}{l:List UInt8}(h:Dig F p H l)(k:∀ b,b<H.size->F b->G b)(hp:¬ G p)(hg:∀ b,G b->NG<=b):Dig G p H l:=by
 obtain⟨h1,h2,v,h3,h4⟩:=h
 refine⟨⟨hp,h1.2.1,hg⟩,h2,v,h3,?_⟩
 rcases h4 with h | ⟨b,o,c,cs,T,f,rfl,hf,hc,hb,hr⟩
 ·exact .inl h
 ·exact .inr ⟨b,o,c,cs,T,f,rfl,k b (lt_of hb) hf,hc,hb,hr⟩
theorem zYF {F:Nat->Prop}{p:Nat}{H:zAd}{l:List UInt8}(h:Dig F p H l) :
  zAg prg zH9 [Ptr p 0] H fun u H'=>u=Ptr H.size 0/\Dig (H.size < ·) H.size H' l/\Keep (fun _=>False) H H':=by
 apply zLh
 unfold zKz
 have hplt:=h.lt
 obtain⟨hF,hs,v,hd,hr⟩:=h
 have hrl:=zYD _ zFY l (Nat.le_refl _)
 have hld:ldN 10 H (Ptr p 0)=some (.agg (zAP .u32 (zO1 zFY l).1++[v,Value.int .i64 l.length]).toArray):=ldN_mid (A:=[]) (C:=[]) (by rw[List.nil_append,List.append_nil];exact hd) rfl (by simp[hs])
 simp only[zFA,zAa,hld,zAaX,zAs]
 have hq:(H.push (.cells (zAP .u32 (List.replicate 8 0)++[Value.slice none 0 0,Value.int .i64 0]).toArray zBb (0,0)))[H.size]? = some (.cells (zAP .u32 (List.replicate 8 0)++[Value.slice none 0 0,Value.int .i64 0]).toArray zBb (0,0)):=zAR
 have hst:=zMH (n:=10) (o:=0) (A:=[]) (B:=zAP .u32 (List.replicate 8 0)++[Value.slice none 0 0,Value.int .i64 0]) (C:=[]) (B':=zAP .u32 (zO1 zFY l).1++[v,Value.int .i64 l.length]) (by rw[List.nil_append,List.append_nil];exact hq) rfl (by simp) (by simp[hs]) (by
  rw[Array.all_eq_true_iff_forall_mem]
  intro x hx
  simp only[List.mem_toArray,List.mem_append,List.mem_cons,List.not_mem_nil,or_false]at hx
  rcases hx with hx | rfl | rfl
  ·exact zPj x hx
  ·exact hr.sl.one
  ·rfl)
 simp only[List.nil_append,List.append_nil]at hst
 rw[hst,zAm]
 generalize hH2:(H.push (.cells (zAP .u32 (List.replicate 8 0)++[Value.slice none 0 0,Value.int .i64 0]).toArray zBb (0,0))).setIfInBounds H.size (.cells (zAP .u32 (zO1 zFY l).1++[v,Value.int .i64 l.length]).toArray zBb (0,0))=H2
 have k2:Keep (fun _=>False) H H2:=by
  rw[<- hH2]
  refine⟨by simp,fun i hi _=>?_⟩
  rw[Array.getElem?_setIfInBounds,if_neg (by omega),Array.getElem?_push,if_neg (by omega)]
 have hs2:H2.size=H.size+1:=by rw[<- hH2];simp
 have hq2:H2[H.size]? = some (.cells (zAP .u32 (zO1 zFY l).1++[v,Value.int .i64 l.length]).toArray zBb (0,0)):=by rw[<- hH2];exact zAt hq
 have hd2:=k2.at hd id
 have hr2:=hr.keep k2 fun _ _=>id
 have d8:ld1 H2 (Ptr p 8)=some v:=zO0 hd2 (zTP hs)
 simp only[zAx,zAa,Nat.zero_add,d8]
 refine zAk (zV0 (F:=(H.size < ·)) hr2.sl (by omega) fun b hb=>by omega) ?_
 rintro x H3 ⟨hx,k3⟩
 have hq3:=k3.at hq2 (Nat.lt_irrefl _)
 rw[zUE hq3 (i:=8) (by simp[hs]) hx.sl.one,zAm,zV2 hs]
 have k4:Keep (· = H.size) H3 (H3.setIfInBounds H.size (.cells (zAP .u32 (zO1 zFY l).1++[x,Value.int .i64 l.length]).toArray zBb (0,0))):=Keep.set rfl
 have hNG:NG<=H.size:=by have:=hF.2.1;omega
 refine⟨trivial,⟨⟨Nat.lt_irrefl _,hNG,fun b hb=>by omega⟩,hs,x,zAt hq3,hx.keep k4 fun b hb e=>by omega⟩,?_⟩
 refine⟨by have:=k2.1;have:=k3.1;have:=k4.1;omega,fun i hi _=>?_⟩
 rw[k4.2 i (by have:=k3.1;omega) (by omega),k3.2 i (by omega) (by omega),k2.2 i hi id]
def zN (n:Nat):Nat:=(64 - (n+9) % 64) % 64
def bO (n:Int):UInt8:=UInt8.ofNat (n % 256).toNat
def zAfl (N:Int)(i:Nat):UInt8:=bO (zSz .u64 N (8 * (i:Int)))
def zTQ (N:Int)(j:Nat):List UInt8:=(List.range j).map fun i=>zAfl N (7 - i)
@[simp] theorem zAfm {N:Int}{j:Nat}:(zTQ N j).length=j:=by simp[zTQ]
theorem zXa {N:Int}{j:Nat}:zTQ N (j+1)=zTQ N j++[zAfl N (7 - j)]:=by simp[zTQ,List.range_succ]
def zAdH (n:Nat):Int:=IntKind.u64.wrap (IntKind.u64.wrap n * 8)
def zAeY (n:Nat):List UInt8:=(128 :: List.replicate (zN n) 0)++zTQ (zAdH n) 8
def zAgI (x:Int):List UInt8:=[bO (zSz .u32 x 24),bO (zSz .u32 x 16),bO (zSz .u32 x 8),bO x]
def zYG (s:List Int):List UInt8:=(s.map zAgI).flatten
theorem zSB {s:List Int}:(zYG s).length=4 * s.length:=by
 induction s with
 | nil=>rfl
 | cons x s ih=>simp only[zYG,List.map_cons,List.flatten_cons,List.length_append,List.length_cons]at ih ⊢;rw[ih];simp[zAgI];omega
def zXL (l:List UInt8):List UInt8:=zYG (zO1 zFY (l++zAeY l.length)).1
theorem zFQ {l:List UInt8}:(zXL l).length=32:=by
 unfold zXL;rw[zSB,zAaW _ _ _ rfl (Nat.le_refl _)]
theorem zAaZ {n:Nat}:(zAeY n).length<=72:=by
 have:zN n<64:=Nat.mod_lt _ (by omega)
 simp[zAeY];omega
theorem zAix {A B:List Value}{a b c d x y z w:Value}{n:Nat}(hn:n=A.length):((((A++a :: b :: c :: d :: B).set n x).set (n+1) y).set (n+2) z).set (n+3) w=(A++[x,y,z,w])++B:=by
 subst hn
 induction A with
 | nil=>rfl
 | cons v A ih=>simp at ih ⊢;try exact ih
theorem zAa0 {s:List Int}{i:Nat}{x:Int}(h:s[i]? = some x)(hs:s.length=8) :
  ((((zAy (zYG (s.take i)++List.replicate (32 - 4 * i) 0)).set (4 * i) (.int .u8 (bO (zSz .u32 x 24)).toNat)).set (4 * i+1) (.int .u8 (bO (zSz .u32 x 16)).toNat)).set (4 * i+2) (.int .u8 (bO (zSz .u32 x 8)).toNat)).set (4 * i+3) (.int .u8 (bO x).toNat)
   = zAy (zYG (s.take (i+1))++List.replicate (32 - 4 * (i+1)) 0):=by
 obtain⟨hlt,rfl⟩:=List.getElem?_eq_some_iff.1 h
 have e:32 - 4 * i=(32 - 4 * (i+1))+4:=by omega
 have e2:zYG (s.take (i+1))=zYG (s.take i)++zAgI s[i]:=by
  unfold zYG
  rw[show s.take (i+1)=s.take i++[s[i]] by rw[List.take_add_one,List.getElem?_eq_getElem hlt];rfl,List.map_append,List.flatten_append];simp
 have e3:List.replicate (32 - 4 * i) (0:UInt8)=0 :: 0 :: 0 :: 0 :: List.replicate (32 - 4 * (i+1)) 0:=by rw[e];rfl
 rw[e3,e2,zHv]
 simp only[zLJ]
 rw[zAix (by rw[zOw,zSB];simp;omega)]
 simp[zAgI]
theorem zAa1 {F:Nat->Prop}{p:Nat}{H:zAd}{l:List UInt8}(h:Dig F p H l)(hT:zTg H)(hl:l.length<=35184372088832) :
  zAg prg zIY [Ptr p 0] H fun u H'=>u=bv (zXL l)/\Keep (fun _=>False) H H':=by
 apply zLL
 unfold zLg
 simp only[zVZ,zAs]
 have hplt:=h.lt
 generalize hH1:H.push (.cells (zAy zMZ).toArray zAO (0,0))=H1
 have k1:Keep (fun _=>False) H H1:=by rw[<- hH1];exact Keep.push
 have hs1:H1.size=H.size+1:=by rw[<- hH1];simp
 have hr1:H1[H.size]? = some (.cells (zAy zMZ).toArray zAO (0,0)):=by rw[<- hH1];exact zAR
 refine zAk (zYF (h.keep k1 fun _ _=>id)) ?_
 rintro _ H2 ⟨rfl,ho,k2⟩
 have h2:=(h.keep k1 fun _ _=>id).keep k2 fun _ _=>id
 have hr2:=k2.at hr1 id
 have hT2:=(hT.keep k1 fun _ h=>h.elim).keep k2 fun _ h=>h.elim
 obtain⟨hF,hs,v,hd,_⟩:=h2
 have hNGp:=hF.2.1
 generalize hqe:H1.size=q at *
 have hqlt:=ho.lt
 have ho2:Dig (fun b=>q<b/\b<H2.size) q H2 l:=ho.re (fun b hb h=>⟨h,hb⟩) (fun h=>Nat.lt_irrefl _ h.1) fun b hb=>by omega
 have d9:∀ h,Keep (H2.size <= ·) H2 h->ld1 h (Ptr p 9)=some (.int .i64 l.length):=fun h k=>zO0 (k.at hd (by omega)) (zAco hs)
 have d9':=d9 H2 Keep.refl
 simp only[zFA,zAx,zAa,Nat.zero_add,d9',zDr,zAi,zA9,zAg0,zAV,zAF]
 have hbit:IntKind.u64.wrap (IntKind.u64.wrap (l.length:Int) * 8)=zAdH l.length:=rfl
 rw[hbit]
 refine zHU (fun u h=>∃ j,j<=zN l.length/\Buf (H2.size <= ·) h u (128 :: List.replicate j 0)/\Keep (H2.size <= ·) H2 h) (fun u _=>match u with | .slice _ n _=>100 - n | _=>0)
  ⟨0,Nat.zero_le _,.inr ⟨H2.size,0,1,_,zAS,(0,0),rfl,Nat.le_refl _,Nat.le_refl _,zAR,by simp,fun _ _ _ _=>zI3,rfl⟩,Keep.push⟩ ?_
 rintro u h3 ⟨j,hj,hu,k3⟩ k hk
 have hz:zN l.length<64:=Nat.mod_lt _ (by omega)
 have e1:IntKind.i64.wrap ((l.length:Int)+((128 :: List.replicate j 0:List UInt8).length:Nat))=((l.length+(j+1):Nat):Int):=by rw[zAM] <;> simp <;> omega
 have e2:IntKind.i64.wrap (((l.length+(j+1):Nat):Int)+8)=((l.length+(j+1)+8:Nat):Int):=by rw[zAM] <;> omega
 have e3:Int.tmod ((l.length+(j+1)+8:Nat):Int) 64=(((l.length+(j+1)+8) % 64:Nat):Int):=by
  rw[Int.tmod_eq_emod_of_nonneg (by omega)];omega
 simp only[d9 h3 k3,zAa,hu.sl.len,zAi,zA9,e1,e2]
 rw[if_neg (by decide)]
 simp only[zAa,e3,zAi,zA9,zAc]
 by_cases hne:((((l.length+(j+1)+8) % 64:Nat):Int) != 0)=true
 ·rw[if_pos hne]
  have hne':(l.length+(j+1)+8) % 64≠0:=fun h0=>by rw[h0]at hne;exact absurd hne (by decide)
  have hjz:j<zN l.length:=by
   unfold zN at hj ⊢
   omega
  have kp:Keep (fun _=>False) h3 (h3.push (.cells #[.int .u8 0] zAS (0,0))):=Keep.push
  refine(hu.keep kp fun _ _=>id).app (m:=[0]) (Bs.mk zAR rfl (by simp) rfl) (by simp;omega) (by have:=k3.1;simp;omega) fun x h4 hx k4=>?_
  refine hk _ _ ⟨j+1,hjz,by rw[show(128 :: List.replicate (j+1) 0:List UInt8)=(128 :: List.replicate j 0)++[0] by rw[List.cons_append,<- List.replicate_succ']];exact hx,k3.trans ((kp.mono fun _ _ h=>h.elim).trans k4)⟩ ?_
  obtain⟨a1,c1,e1,_⟩:=hu.sl.sl
  obtain⟨a2,c2,e2,_⟩:=hx.sl.sl
  subst e1 e2
  simp;omega
 ·rw[if_neg hne]
  have hne':(l.length+(j+1)+8) % 64=0:=by
   have:¬ ((((l.length+(j+1)+8) % 64:Nat):Int)≠0):=by simpa only[bne_iff_ne] using hne
   omega
  have hjz:j=zN l.length:=by
   unfold zN at hj ⊢
   omega
  subst hjz
  clear hk hj e1 e2 e3 hne hne'
  simp only[zYq]
  refine zTf (fun u i h=>∃ j,j<=8/\i = .int .i64 (7 - (j:Nat):Int)/\Buf (H2.size <= ·) h u ((128 :: List.replicate (zN l.length) 0)++zTQ (zAdH l.length) j)/\Keep (H2.size <= ·) H2 h) (fun _ i _=>match i with | .int _ i=>(i+1).toNat | _=>0)
   ⟨0,by omega,rfl,by simp[zTQ];exact hu,k3⟩ ?_
  rintro u _ h4 ⟨j,hj,rfl,hu,k4⟩ k hk
  simp only[zAi,zA9,zAa,zAc,decide_eq_true_eq]
  by_cases hlt:(7 - (j:Int))>=0
  ·rw[if_pos hlt]
   have e1:IntKind.i64.wrap (8 * (7 - (j:Int)))=8 * ((7 - j:Nat):Int):=by rw[zAM] <;> omega
   have e2:IntKind.i64.wrap (7 - (j:Int) - 1)=7 - ((j+1:Nat):Int):=by rw[zAM] <;> omega
   rw[e1,zPm (by omega)]
   simp only[zAa,zDr,zSy,e2]
   have hlb:(UInt8.ofNat ((zSz .u64 (zAdH l.length) (8 * ((7 - j:Nat):Int))) % 256).toNat)=zAfl (zAdH l.length) (7 - j):=rfl
   rw[hlb,zAg0,zAV]
   have kp:Keep (fun _=>False) h4 (h4.push (.cells #[.int .u8 (zAfl (zAdH l.length) (7 - j)).toNat] zAS (0,0))):=Keep.push
   refine(hu.keep kp fun _ _=>id).app (m:=[zAfl (zAdH l.length) (7 - j)]) (Bs.mk zAR rfl (by simp) rfl) (by simp;omega) (by have:=k4.1;simp;omega) fun x h5 hx k5=>?_
   refine hk _ _ _ ⟨j+1,by omega,rfl,by rw[zXa,<- List.append_assoc];exact hx,k4.trans ((kp.mono fun _ _ h=>h.elim).trans k5)⟩ ?_
   show((7 - ((j+1:Nat):Int))+1).toNat<(7 - (j:Int)+1).toNat
   omega
  ·rw[if_neg hlt]
   obtain rfl:j=8:=by omega
   clear hk hj hlt
   have hu:Buf (H2.size <= ·) h4 u (zAeY l.length):=hu
   have hul:=zAaZ (n:=l.length)
   have ho4:Dig (fun b=>q<b/\b<H2.size\/h4.size<=b) q h4 l:=(ho2.keep k4 fun b hb hb'=>by
    rcases hb with hb | rfl
    ·omega
    ·omega).re (fun b hb h => .inl h) (fun h=>by have:=k4.1;omega) fun b hb=>by have:=k4.1;omega
   have hT4:=hT2.keep k4 fun b hb=>by omega
   have hus:=hu.sl
   refine zAk (zU3 (P:=fun b=>H2.size<=b/\b<h4.size) ho4 hT4 ⟨hus.bs,hus.sl,fun b hb=>⟨hus.own b hb,?_⟩⟩ (fun b hb=>⟨hb.2,by omega,by omega⟩) (by omega) fun b hb => .inr hb) ?_
   ·rcases hu with ⟨rfl,_⟩ | ⟨b',o,c,cs,T,f,rfl,hp,hc,hb',_⟩
    ·cases hb
    ·obtain⟨rfl,_⟩:=zHu hb;exact lt_of hb'
   rintro _ h5 ⟨rfl,ho5,k5⟩
   obtain⟨hF5,hs5,v5,hd5,_⟩:=ho5
   have hr5:h5[H.size]? = some (.cells (zAy zMZ).toArray zAO (0,0)):=k5.at (k4.at hr2 (by omega)) fun h=>by
    rcases h with h | h
    ·have:=k4.1;omega
    ·omega
   have hsh:zXL l=zYG (zO1 zFY (l++zAeY l.length)).1:=rfl
   generalize (zO1 zFY (l++zAeY l.length)).1=S at *
   have hq6:(h5.push (.cells (zAy zMZ).toArray zAO (0,0)))[h5.size]? = some (.cells (zAy zMZ).toArray zAO (0,0)):=zAR
   have hd6:=zP9 (y := .cells (zAy zMZ).toArray zAO (0,0)) hd5
   have hr6:=zP9 (y := .cells (zAy zMZ).toArray zAO (0,0)) hr5
   have hld:ldN 8 (h5.push (.cells (zAy zMZ).toArray zAO (0,0))) (Ptr q 0)=some (.agg (zAP .u32 S).toArray):=ldN_mid (A:=[]) (B:=zAP .u32 S) (by rw[List.nil_append];exact hd6) rfl (by simp[hs5])
   rw[hld,zAa]
   have hq5:q<h5.size:=by have:=lt_of hd5;omega
   have k6:Keep (fun _=>False) h5 (h5.push (.cells (zAy zMZ).toArray zAO (0,0))):=Keep.push
   generalize hH6:h5.push (.cells (zAy zMZ).toArray zAO (0,0))=h6 at *
   generalize hze:h5.size=z at *
   refine zHU (fun u h=>∃ i,i<=8/\u = .int .i64 (i:Nat)/\h[z]? = some (.cells (zAy (zYG (S.take i)++List.replicate (32 - 4 * i) 0)).toArray zAO (0,0))/\Keep (· = z) h6 h)
    (fun u _=>match u with | .int _ t=>8 - t.toNat | _=>0) ⟨0,by omega,rfl,hq6,Keep.refl⟩ ?_
   rintro _ x ⟨i,hi,rfl,hx,kx⟩ k hk
   simp only[zAi,zA9,zAa,zAc,decide_eq_true_eq]
   have hinc:IntKind.i64.wrap ((i:Int)+1)=(i+1:Nat):=by rw[zAM] <;> omega
   by_cases hlt:(i:Int)<8
   ·rw[if_pos hlt]
    have hlt':i<8:=by omega
    have hi4:IntKind.i64.wrap (4 * (i:Int))=((4 * i:Nat):Int):=by rw[zAM] <;> omega
    have a1:IntKind.i64.wrap (((4 * i:Nat):Int)+1)=((4 * i+1:Nat):Int):=by rw[zAM] <;> omega
    have a2:IntKind.i64.wrap (((4 * i:Nat):Int)+2)=((4 * i+2:Nat):Int):=by rw[zAM] <;> omega
    have a3:IntKind.i64.wrap (((4 * i:Nat):Int)+3)=((4 * i+3:Nat):Int):=by rw[zAM] <;> omega
    have hg:S[i]? = some (S.getD i 0):=zQM (by omega)
    have hiv:ixV 8 false 1 (.agg (zAP .u32 S).toArray) (.int .i64 (i:Nat))=some (.int .u32 (S.getD i 0)):=by
     simp only[ixV];rw[if_pos ⟨by omega,by omega⟩]
     simpa using zFP (k := .u32) hg
    have s24:∀ x,zAh .no .shr (.int .u32 x) (.int .u64 24)=some (.int .u32 (zSz .u32 x 24)):=fun x=>zPm (by omega)
    have s16:∀ x,zAh .no .shr (.int .u32 x) (.int .u64 16)=some (.int .u32 (zSz .u32 x 16)):=fun x=>zPm (by omega)
    have s8:∀ x,zAh .no .shr (.int .u32 x) (.int .u64 8)=some (.int .u32 (zSz .u32 x 8)):=fun x=>zPm (by omega)
    have ix:∀ j,j<32->ixA 32 1 (.pointer (some ⟨z,0,none⟩)) (.int .i64 (j:Nat))=some (Ptr z j):=fun j hj=>by rw[zQG hj];simp
    have bw:∀ n:Int,(UInt8.ofNat (n % 256).toNat)=bO n:=fun n=>rfl
    simp only[hiv,zAa,hi4,a1,a2,a3,s24,s16,s8,zDr,zSy,bw,ix (4 * i) (by omega),ix (4 * i+1) (by omega),ix (4 * i+2) (by omega),ix (4 * i+3) (by omega),hinc]
    have hlen:(zAy (zYG (S.take i)++List.replicate (32 - 4 * i) 0)).length=32:=by rw[zOw,List.length_append,zSB];simp[hs5];omega
    rw[zUE hx (i:=4 * i) (by omega) rfl,zAm,zUE (zAt hx) (i:=4 * i+1) (by simp only[List.length_set];omega) rfl,zAm,zUE (zAt (zAt hx)) (i:=4 * i+2) (by simp only[List.length_set];omega) rfl,zAm,
     zUE (zAt (zAt (zAt hx))) (i:=4 * i+3) (by simp only[List.length_set];omega) rfl,zAm]
    refine hk _ _ ⟨i+1,hlt',rfl,?_,(((kx.trans (Keep.set rfl)).trans (Keep.set rfl)).trans (Keep.set rfl)).trans (Keep.set rfl)⟩ (by show 8 - (i+1)<8 - i;omega)
    rw[zAt (zAt (zAt (zAt hx))),zAa0 hg hs5]
   ·rw[if_neg hlt]
    obtain rfl:i=8:=by omega
    rw[List.take_of_length_le (by omega),<- hsh]at hx
    have hx:x[z]? = some (.cells (zAy (zXL l)).toArray zAO (0,0)):=by rw[hx];simp
    have hrx:=kx.at hr6 (show H.size≠z by omega)
    rw[zMI hx zFQ,zAa,zOx hrx (n:=32) rfl zFQ,zAm,zMI (zAt hrx) zFQ,zAa]
    refine⟨rfl,?_⟩
    have sz6:h6.size=z+1:=by rw[<- hH6];simp[hze]
    refine⟨by simp;have:=kx.1;have:=k1.1;have:=k2.1;have:=k4.1;have:=k5.1;omega,fun i hi _=>?_⟩
    have q1:=k1.1;have q2:=k2.1;have q4:=k4.1;have q5:=k5.1
    rw[Array.getElem?_setIfInBounds,if_neg (by omega),kx.2 i (by omega) (by omega),k6.2 i (by omega) id,k5.2 i (by omega) (fun h=>by rcases h with h | h <;> omega),k4.2 i (by omega) (by omega),k2.2 i (by omega) id,k1.2 i hi id]
theorem zRU {P:Nat->Prop}{H:zAd}{xs:List (Value×List UInt8)}(h:∀ x ∈ xs,Sl P H x.1 x.2):∀ x ∈ zFB (xs.map (·.1)),∀ c ∈ x,c.oneCell'=true :=
 zMJ fun v hv=>by obtain⟨x,hx,rfl⟩:=List.mem_map.1 hv;exact(h x hx).one
def zHI (xs:List (Value×List UInt8)):List UInt8:=(xs.map (·.2)).flatten
theorem zQN {xs:List (Value×List UInt8)}{i:Nat}{x:Value×List UInt8}(h:xs[i]? = some x):zHI (xs.take (i+1))=zHI (xs.take i)++x.2:=by
 obtain⟨hlt,rfl⟩:=List.getElem?_eq_some_iff.1 h
 unfold zHI
 rw[show xs.take (i+1)=xs.take i++[xs[i]] by rw[List.take_add_one,List.getElem?_eq_getElem hlt];rfl,List.map_append,List.flatten_append];simp
theorem zYH {xs:List (Value×List UInt8)}{i:Nat}:(zHI (xs.take i)).length<=(zHI xs).length:=by
 have:zHI xs=zHI (xs.take i)++zHI (xs.drop i):=by
  unfold zHI;rw[<- List.flatten_append,<- List.map_append,List.take_append_drop]
 rw[this,List.length_append];omega
theorem zTR {Pv Pd:Nat->Prop}{H:zAd}{v:Value}{xs:List (Value×List UInt8)}{kind:Int}(hv:SlE 1 Pv H v (zFB (xs.map (·.1))))(hx:∀ x ∈ xs,Sl Pd H x.1 x.2)(hT:zTg H)(hPv:∀ b,Pv b->b<H.size)(hPd:∀ b,Pd b->b<H.size)
  (hl:(zHI xs).length+1<=35184372088832) (hn:xs.length<=1000000) :
  zAg prg zOv [.int .i64 kind,v] H fun u H'=>u=bv (zXL (bO kind :: zHI xs))/\Keep (fun _=>False) H H':=by
 apply zPZ
 unfold zRQ
 simp only[zVZ,zAs]
 generalize hH1:H.push (.cells (zAy zMZ).toArray zAO (0,0))=H1
 have k1:Keep (fun _=>False) H H1:=by rw[<- hH1];exact Keep.push
 have hs1:H1.size=H.size+1:=by rw[<- hH1];simp
 have hr1:H1[H.size]? = some (.cells (zAy zMZ).toArray zAO (0,0)):=by rw[<- hH1];exact zAR
 refine zAk (zAaY (hT.keep k1 fun _ h=>h.elim)) ?_
 rintro _ H2 ⟨rfl,hD,k2⟩
 have hT2:=(hT.keep k1 fun _ h=>h.elim).keep k2 fun _ h=>h.elim
 have hr2:=k2.at hr1 id
 have hsz:=hT.sz
 generalize hde:H1.size=d at *
 have hdlt:=hD.lt
 have bw:∀ n:Int,(UInt8.ofNat (n % 256).toNat)=bO n:=fun n=>rfl
 simp only[zDr,zAa,zSy,bw,zAg0,zAV]
 have hD2:Dig (fun b=>d<b/\b≠H2.size) d H2 []:=hD.re (fun b hb h=>⟨h,by omega⟩) (fun h=>Nat.lt_irrefl _ h.1) fun b hb=>by omega
 generalize hH3:H2.push (.cells #[.int .u8 (bO kind).toNat] zAS (0,0))=H3
 have k3:Keep (fun _=>False) H2 H3:=by rw[<- hH3];exact Keep.push
 have hs3:H3.size=H2.size+1:=by rw[<- hH3];simp
 have hb3:Sl (· = H2.size) H3 (.slice (some ⟨H2.size,0,none⟩) 1 1) [bO kind]:=by
  rw[<- hH3]
  exact⟨Bs.mk zAR rfl (by simp) rfl,⟨_,1,rfl,Nat.le_refl _,fun x hx=>by cases hx;rfl⟩,fun b hb=>by cases hb;rfl⟩
 have hT3:=hT2.keep k3 fun _ h=>h.elim
 refine zAk (zU3 (hD2.keep k3 fun _ _=>id) hT3 hb3 (fun b hb=>by subst hb;exact⟨by omega,fun h=>h.2 rfl,by omega⟩) (by simp) fun b hb=>⟨by omega,by omega⟩) ?_
 rintro _ H4 ⟨rfl,hD4,k4⟩
 have hlen:zBO v=some (.int .i64 xs.length):=by have:=hv.len;simpa using this
 have k4':Keep (d <= ·) H2 H4:=(k3.mono fun _ _ h=>h.elim).trans (k4.mono fun b _ h=>by rcases h with h | h <;> omega)
 have k04:Keep (d <= ·) H H4:=(k1.mono fun _ _ h=>h.elim).trans ((k2.mono fun _ _ h=>h.elim).trans k4')
 simp only[hlen,zAa,zAF]
 refine zHU (fun u h=>∃ i,i<=xs.length/\u = .int .i64 (i:Nat)/\Dig (fun b=>d<b/\b≠H2.size) d h (bO kind :: zHI (xs.take i))/\Keep (d <= ·) H4 h) (fun u _=>match u with | .int _ t=>xs.length - t.toNat | _=>0)
  ⟨0,Nat.zero_le _,rfl,by simpa [zHI] using hD4,Keep.refl⟩ ?_
 rintro _ h ⟨i,hi,rfl,hDi,kh⟩ k hk
 simp only[zAi,zA9,zAa,zAc,decide_eq_true_eq]
 have hinc:IntKind.i64.wrap ((i:Int)+1)=(i+1:Nat):=by rw[zAM] <;> omega
 have kall:=k04.trans kh
 have hTh:=hT.keep kall fun b hb=>by omega
 by_cases hlt:(i:Int)<xs.length
 ·rw[if_pos hlt]
  have hlt':i<xs.length:=by omega
  have hg:xs[i]? = some xs[i]:=List.getElem?_eq_getElem hlt'
  have hvh:=hv.keep kall fun b hb hb'=>by have:=hPv b hb;omega
  obtain⟨b,o,hix,hpt,_⟩:=hvh.at (i:=i) (x:=[xs[i].1]) (zLe (by simp[hg]))
  have hsl:=(hx xs[i] (by simp)).keep kall fun b hb hb'=>by have:=hPd b hb;omega
  simp only[hix,zAa,hpt.cell0 rfl,hinc]
  have hle:=zYH (xs:=xs) (i:=i+1)
  rw[zQN hg,List.length_append]at hle
  refine zAk (zU3 hDi hTh hsl (fun b hb=>⟨Nat.lt_of_lt_of_le (hPd b hb) kall.1,by have:=hPd b hb;omega,by have:=hPd b hb;omega⟩) (by simp only[List.length_cons];omega) fun b hb=>⟨by have:=kh.1;have:=k4'.1;omega,by have:=kh.1;have:=k4.1;omega⟩) ?_
  rintro _ h2 ⟨rfl,hDj,kj⟩
  refine hk _ _ ⟨i+1,hlt',rfl,by rw[zQN hg];exact hDj,kh.trans (kj.mono fun b _ h=>by rcases h with h | h <;> omega)⟩ (by show xs.length - (i+1)<xs.length - i;omega)
 ·rw[if_neg hlt]
  obtain rfl:i=xs.length:=by omega
  rw[List.take_length]at hDi
  refine zAk (zAa1 hDi hTh (by simp;omega)) ?_
  rintro _ h2 ⟨rfl,k5⟩
  have hr5:=k5.at (kh.at (k4'.at hr2 (by omega)) (by omega)) id
  rw[zOx hr5 (n:=32) rfl zFQ,zAm,zMI (zAt hr5) zFQ,zAa]
  refine⟨rfl,?_⟩
  refine⟨by simp;have:=kall.1;have:=k5.1;omega,fun i hi _=>?_⟩
  have q1:=kall.1;have q2:=k5.1
  rw[Array.getElem?_setIfInBounds,if_neg (by omega),k5.2 i (by omega) id,kall.2 i hi (by omega)]
end Go.Proofs.YticdfkoncnnmmaaGreatDoor
