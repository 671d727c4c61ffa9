import Derived.Test.YticdfkoncnnmmaaGreatDoorGI
import Derived.Test.YticdfkoncnnmmaaGreatDoorGO
import Derived.Test.YticdfkoncnnmmaaGreatDoorG1
set_option linter.unusedSimpArgs false
set_option linter.unusedVariables false
set_option maxRecDepth 100000
namespace Go.Proofs.YticdfkoncnnmmaaGreatDoor
open Go.X
theorem zAfD {H:zAx}{u:Nat}(h0:0<u)(hu:u<18446744073709551616):zAA prg zGC [.int .u64 (u:Nat)] H (zAgO H u):=by
 apply zE9
 unfold zGg
 have sh:∀ (x b:Nat),b<=64->zAB .no .shr (.int .u64 (x:Nat)) (.int .u64 (b:Nat))=some (.int .u64 ((x / 2 ^ b:Nat):Int)):=λx b hb=>by
  rw[zSL (by omega)];exact congrArg (λz=>some (Value.int .u64 z)) (zSN (k := .u64) (u:=x) (b:=b) hb)
 have ge:∀ (x b:Nat),zAB .no .geq (.int .u64 (x:Nat)) (.int .u64 (b:Nat))=some (.bool (decide (b<=x))):=λx b=>by
  rw[zAJ];simp only[zC8];congr 2;rw[decide_eq_decide];omega
 have ad:∀ (x b:Nat),x<=100->b<=100->zAB .no .add (.int .i64 (x:Nat)) (.int .i64 (b:Nat))=some (.int .i64 ((x+b:Nat):Int)):=λx b h1 h2=>by
  rw[zAJ];simp only[zC8];rw[zCe (by omega) (by omega)];rfl
 let I:Nat->Nat->Value->zAm:=λtop m a b h=>H=h/\∃ x off:Nat,a = .int .u64 (x:Nat)/\b = .int .i64 (off:Nat)/\x=u / 2 ^ off/\0<x/\x<top/\off<=m
 have div:∀ (x off b:Nat),x=u / 2 ^ off->x / 2 ^ b=u / 2 ^ (off+b):=λx off b h=>by rw[h,Nat.div_div_eq_div_mul,zCV]
 refine zMk (I 4294967296 32) (λk hk=>?_) ?_
 ·rw[show(Value.int .u64 4294967296) = .int .u64 ((4294967296:Nat):Int) from rfl,ge,zAa,zAl]
  by_cases h:4294967296<=u
  ·rw[if_pos (by simpa using h),show(Value.int .u64 32) = .int .u64 ((32:Nat):Int) from rfl,sh _ _ (by omega),zAa]
   exact hk _ _ _ ⟨rfl,u / 2 ^ 32,32,rfl,rfl,rfl,by omega,by omega,by omega⟩
  ·rw[if_neg (by simpa using h)]
   exact hk _ _ _ ⟨rfl,u,0,rfl,rfl,by simp,h0,by omega,by omega⟩
 rintro _ _ _ ⟨rfl,x,off,rfl,rfl,hx,x0,xt,ho⟩
 refine zMk (I 65536 48) (λk hk=>?_) ?_
 ·rw[show(Value.int .u64 65536) = .int .u64 ((65536:Nat):Int) from rfl,ge,zAa,zAl]
  by_cases h:65536<=x
  ·rw[if_pos (by simpa using h),show(Value.int .u64 16) = .int .u64 ((16:Nat):Int) from rfl,sh _ _ (by omega),zAa,show(Value.int .i64 16) = .int .i64 ((16:Nat):Int) from rfl,ad _ _ (by omega) (by omega),zAa]
   exact hk _ _ _ ⟨rfl,x / 2 ^ 16,off+16,rfl,rfl,div _ _ _ hx,by omega,by omega,by omega⟩
  ·rw[if_neg (by simpa using h)]
   exact hk _ _ _ ⟨rfl,x,off,rfl,rfl,hx,x0,by omega,by omega⟩
 rintro _ _ _ ⟨rfl,x,off,rfl,rfl,hx,x0,xt,ho⟩
 refine zMk (I 256 56) (λk hk=>?_) ?_
 ·rw[show(Value.int .u64 256) = .int .u64 ((256:Nat):Int) from rfl,ge,zAa,zAl]
  by_cases h:256<=x
  ·rw[if_pos (by simpa using h),show(Value.int .u64 8) = .int .u64 ((8:Nat):Int) from rfl,sh _ _ (by omega),zAa,show(Value.int .i64 8) = .int .i64 ((8:Nat):Int) from rfl,ad _ _ (by omega) (by omega),zAa]
   exact hk _ _ _ ⟨rfl,x / 2 ^ 8,off+8,rfl,rfl,div _ _ _ hx,by omega,by omega,by omega⟩
  ·rw[if_neg (by simpa using h)]
   exact hk _ _ _ ⟨rfl,x,off,rfl,rfl,hx,x0,by omega,by omega⟩
 rintro _ _ _ ⟨rfl,x,off,rfl,rfl,hx,x0,xt,ho⟩
 refine zQm (R:=zAgO H u) (H:=H) (off:=off) (x:=x) xt (by omega) ?_
 obtain⟨l1,l2,l3⟩:=zRY x0
 generalize zWZ x=m at *
 have hp:0<2 ^ off:=Nat.pos_of_ne_zero (by simp)
 refine⟨rfl,off+m,rfl,by omega,?_,?_⟩
 ·rw[show off+m-1=(m-1)+off by omega,zCV]
  rw[hx]at l2
  exact(Nat.le_div_iff_mul_le hp).1 l2
 ·rw[show off+m=m+off by omega,zCV]
  rw[hx]at l3
  exact(Nat.div_lt_iff_lt_mul hp).1 l3
theorem zAiC:∀ m,m<65->1<=m->10 ^ (m*78913 / 262144-1)<=2 ^ (m-1)/\2 ^ m<=10 ^ (m*78913 / 262144+1)/\m*78913 / 262144<20:=by decide +kernel
theorem zXT {H:zAx}{u:Nat}(h0:0<u)(hu:u<18446744073709551616)(hT:zXF H):zAA prg zEf [.int .u64 (u:Nat)] H λv H'=>H=H'/\∃ nd:Nat,v = .int .i64 (nd:Nat)/\1<=nd/\nd<=20/\10 ^ (nd-1)<=u/\u<10 ^ nd:=by
 apply zFI
 unfold zFf
 refine zAI (zAfD h0 hu) ?_
 rintro _ _ ⟨rfl,m,rfl,hm0,hm1,hm2⟩
 have m65:m<65:=by
  rcases Nat.lt_or_ge m 65 with h|h
  ·exact h
  ·have:2 ^ 64<=2 ^ (m-1):=zBL (by omega) (by omega)
   omega
 obtain⟨b1,b2,b3⟩:=zAiC m m65 hm0
 generalize hq:m*78913 / 262144=q at *
 refine zAI (R:=λv H'=>H=H'/\v = .int .i64 (q:Nat)) ?_ ?_
 ·apply zFJ
  unfold zFg
  have e:zAB .no .mul (.int .i64 (m:Nat)) (.int .i64 78913)=some (.int .i64 ((m*78913:Nat):Int)):=by
   rw[zAJ];simp only[zC8];rw[zCe]<;>first|rfl|omega
  rw[e,zAa,zSL (by omega),zAa]
  refine⟨rfl,?_⟩
  have:=zSN (k := .i64) (u:=m*78913) (b:=18) (by decide)
  rw[show(2:Nat) ^ 18=262144 by rfl,hq]at this
  exact congrArg (Value.int .i64) this
 rintro _ _ ⟨rfl,rfl⟩
 rw[zSD b3,zAa,hT.tab.ld (zXE q b3),zAa]
 simp only[zAJ (op := .geq),zC8,zAa]
 refine zAI (R:=λv H'=>H=H'/\v = .int .i64 ((if 10 ^ q<=u then 1 else 0:Nat):Int)) ?_ ?_
 ·apply zFK
  unfold zFh
  rw[zAl]
  by_cases h:10 ^ q<=u
  ·rw[if_pos (by simpa using Int.ofNat_le.2 h),if_pos h];exact⟨rfl,rfl⟩
  ·rw[if_neg (by simpa using λh'=>h (Int.ofNat_le.1 h')),if_neg h];exact⟨rfl,rfl⟩
 rintro _ _ ⟨rfl,rfl⟩
 have key:∃ nd:Nat,nd=q+(if 10 ^ q<=u then 1 else 0)/\1<=nd/\nd<=20/\10 ^ (nd-1)<=u/\u<10 ^ nd:=by
  by_cases h:10 ^ q<=u
  ·rw[if_pos h]
   exact⟨q+1,rfl,by omega,by omega,by simpa using h,zAM hm2 b2⟩
  ·rw[if_neg h]
   have hq0:q≠0:=λe=>h (by rw[e];simp;omega)
   exact⟨q,rfl,by omega,by omega,zBh b1 hm1,by omega⟩
 obtain⟨nd,hnd,k3,k6,k1,k2⟩:=key
 have e:zAB .no .add (.int .i64 (q:Nat)) (.int .i64 ((if 10 ^ q<=u then 1 else 0:Nat):Int))=some (.int .i64 (nd:Nat)):=by
  rw[zAJ];simp only[zC8];rw[hnd];push_cast;rw[zCe]<;>first|rfl|(split<;>omega)
 rw[e,zAa]
 exact⟨rfl,nd,rfl,k3,k6,k1,k2⟩
theorem zMy:∀ n u:Nat,(zHF n u).length=n
 | 0,_=>rfl
 | n+1,u=>by rw[zHF,zAt,zMy n];rfl
theorem zVC:∀ (n u i:Nat),i<n->(zHF n u)[i]? = some (zDB (u / 10 ^ (n-1-i) % 10))
 | 0,_,_,h=>by omega
 | n+1,u,i,h=>by
  rw[zHF]
  by_cases hi:i<n
  ·rw[List.getElem?_append_left (by rw[zMy];exact hi),zVC n (u / 10) i hi]
   congr 2
   rw[Nat.div_div_eq_div_mul,show n+1-1-i=(n-1-i)+1 by omega,Nat.pow_succ,Nat.mul_comm]
  ·obtain rfl:i=n:=by omega
   rw[zBe (by rw[zMy];omega),zMy]
   simp
structure F10 (q u nd:Nat)(H0:zAx)(i:Nat)(h:zAx):Prop where
 ex:∃ (cs:List Value) (T:TypeId),h[q]? = some (.cells cs.toArray T (0,0))/\cs.length=24/\(cs.drop (1+i)).take (nd-i)=zBs ((zHF nd u).drop i)
 le:i<=nd
 k:Keep (· = q) H0 h
theorem F10.put {q u nd i:Nat}{H0 h:zAx}(hI:F10 q u nd H0 (i+1) h)(hn:nd<=20){d:UInt8}(hd:d=zDB (u / 10 ^ (nd-1-i) % 10)) :
  ∃ h',st1 h (Ptr q (1+i)) (.int .u8 d.toNat)=some h'/\F10 q u nd H0 i h':=by
 obtain⟨cs,T,hq,hl,hc⟩:=hI.ex
 have hle:=hI.le
 refine⟨_,zJx hq d (by omega),⟨cs.set (1+i) (.int .u8 d.toNat),T,zBm hq,by simpa using hl,?_⟩,by omega,hI.k.trans (Keep.set rfl)⟩
 have hp:=zVC nd u i (by omega)
 rw[<- hd]at hp
 have e1:(zHF nd u).drop i=d::(zHF nd u).drop (i+1):=by
  obtain⟨hlt,he⟩:=zAV.1 hp
  rw[zBU hlt,he]
 have e2:(cs.set (1+i) (.int .u8 d.toNat)).drop (1+i) = .int .u8 d.toNat::cs.drop (1+(i+1)):=by
  have hlt:1+i<(cs.set (1+i) (Value.int .u8 d.toNat)).length:=by rw[List.length_set];omega
  rw[zBU hlt,List.getElem_set_self,List.drop_set_of_lt (by omega)]
  rfl
 rw[e1,e2,show nd-i=(nd-(i+1))+1 by omega,zBX,hc,zOD]
theorem F10.pair {q u nd i:Nat}{H0 h:zAx}(hI:F10 q u nd H0 (i+2) h)(hn:nd<=20){y:Nat}(hy:y=u / 10 ^ (nd-(i+2)) % 100) :
  ∃ h1 h2,st1 h (Ptr q (1+(i+1))) (.int .u8 (zDB (y % 10)).toNat)=some h1/\st1 h1 (Ptr q (1+i)) (.int .u8 (zDB (y / 10)).toNat)=some h2/\F10 q u nd H0 i h2:=by
 have hle:=hI.le
 obtain⟨h1,s1,I1⟩:=hI.put hn (d:=zDB (y % 10)) (by
  rw[show nd-1-(i+1)=nd-(i+2) by omega];congr 1;rw[hy];omega)
 obtain⟨h2,s2,I2⟩:=I1.put hn (d:=zDB (y / 10)) (by
  rw[show nd-1-i=(nd-(i+2))+1 by omega,Nat.pow_succ,<- Nat.div_div_eq_div_mul];congr 1;rw[hy];omega)
 exact⟨h1,h2,s1,s2,I2⟩
theorem zOR {u nd i k:Nat}(h:i+k<=nd):u / 10 ^ (nd-i)=u / 10 ^ (nd-(i+k)) / 10 ^ k:=by
 rw[Nat.div_div_eq_div_mul,<- zCV,show nd-(i+k)+k=nd-i by omega]
theorem r8 {x:Nat}:zAB .no .rem (.int .u64 (x:Nat)) (.int .u64 100000000)=some (.int .u64 ((x % 100000000:Nat):Int)):=by
 rw[zAJ];simp only[zC8];rw[if_neg (by decide),Int.tmod_eq_emod_of_nonneg (by omega)];rfl
theorem q8 {x:Nat}(h:x<18446744073709551616):zAB .no .quo (.int .u64 (x:Nat)) (.int .u64 100000000)=some (.int .u64 ((x / 100000000:Nat):Int)):=by
 rw[zAJ];simp only[zC8];rw[if_neg (by decide),zCQ (by omega),zWk (by omega) (by omega)];rfl
theorem zAmY {k:IntKind}{x:Nat}(h:x<4294967296):cvI .u32 (.int k (x:Nat))=some (.int .u32 (x:Nat)):=by rw[zFH,zON (by omega) (by omega)]
theorem geN {n m:Nat}:zAB .no .geq (.int .i64 (n:Nat)) (.int .i64 (m:Nat))=some (.bool (decide (m<=n))):=by
 rw[zAJ];simp only[zC8];congr 2;rw[decide_eq_decide];omega
theorem zAmd {n m:Nat}(h:m<=n)(h2:n<=1000):zAB .no .sub (.int .i64 (n:Nat)) (.int .i64 (m:Nat))=some (.int .i64 ((n-m:Nat):Int)):=by
 rw[zAJ];simp only[zC8];rw[zCe (by omega) (by omega)];congr 2;omega
set_option maxHeartbeats 2000000 in
theorem zY9 {H:zAx}{q nd u:Nat}{cs:List Value}{T:TypeId}(hq:H[q]? = some (.cells cs.toArray T (0,0)))(hl:cs.length=24)(h20:nd<=20)(hu:u<10 ^ nd)(hu64:u<18446744073709551616) :
  zAA prg zDP [.slice (some ⟨q,1,none⟩) nd 23,.int .u64 (u:Nat)] H λ_ H'=>∃ (cs':List Value) (T':TypeId),H'[q]? = some (.cells cs'.toArray T' (0,0))/\cs'.length=24/\(cs'.drop 1).take nd=zBs (zHF nd u)/\Keep (· = q) H H':=by
 apply zE8
 unfold zEF
 refine zAa.2 ?_
 have I0:F10 q u nd H nd H:=⟨⟨cs,T,hq,hl,by rw[Nat.sub_self,List.take_zero,zC9 (by rw[zMy];omega)];rfl⟩,zAh _,Keep.refl⟩
 have small:∀ i,i<=nd->u / 10 ^ (nd-i)<10 ^ i:=λi hi=>by
  have hp:0<10 ^ (nd-i):=Nat.pow_pos (by omega)
  rw[Nat.div_lt_iff_lt_mul hp,<- zCV,show i+(nd-i)=nd by omega];exact hu
 have ge8:∀ n:Nat,zAB .no .geq (.int .i64 (n:Nat)) (.int .i64 8)=some (.bool (decide (8<=n))):=λn=>geN (m:=8)
 have ge4:∀ n:Nat,zAB .no .geq (.int .i64 (n:Nat)) (.int .i64 4)=some (.bool (decide (4<=n))):=λn=>geN (m:=4)
 have ge2:∀ n:Nat,zAB .no .geq (.int .i64 (n:Nat)) (.int .i64 2)=some (.bool (decide (2<=n))):=λn=>geN (m:=2)
 have ix:∀ i:Nat,i<nd->ixS 1 (.slice (some ⟨q,1,none⟩) nd 23) (.int .i64 (i:Nat))=some (Ptr q (1+i)):=λi hi=>zKf hi
 refine zMk (λx n h=>∃ i:Nat,i<8/\x = .int .u64 ((u / 10 ^ (nd-i):Nat):Int)/\n = .int .i64 (i:Nat)/\F10 q u nd H i h) (λk hk=>?_) ?_
 ·refine zUY (λx n h=>∃ i:Nat,x = .int .u64 ((u / 10 ^ (nd-i):Nat):Int)/\n = .int .i64 (i:Nat)/\F10 q u nd H i h) (λ_ n _=>match n with | .int _ t=>t.toNat|_=>0) ⟨nd,by simp,rfl,I0⟩ ?_
  rintro _ _ h ⟨i,rfl,rfl,hI⟩ k' hk'
  have hle:=hI.le
  rw[ge8,zAa,zAl]
  by_cases h8:8<=i
  ·rw[if_pos (by simpa using h8)]
   obtain⟨j,rfl⟩:∃ j,i=j+8:=⟨i-8,by omega⟩
   have hx64:u / 10 ^ (nd-(j+8))<18446744073709551616:=Nat.lt_of_le_of_lt (Nat.div_le_self _ _) hu64
   have p6:=zOR (u:=u) (nd:=nd) (i:=j+6) (k:=2) (by omega)
   have p4:=zOR (u:=u) (nd:=nd) (i:=j+4) (k:=4) (by omega)
   have p2:=zOR (u:=u) (nd:=nd) (i:=j+2) (k:=6) (by omega)
   have p0:=zOR (u:=u) (nd:=nd) (i:=j) (k:=8) (by omega)
   simp only[Nat.add_assoc,Nat.reduceAdd]at p6 p4 p2
   generalize hX:u / 10 ^ (nd-(j+8))=x at *
   generalize hA:x % 100000000=A
   have hAlt:A<100000000:=by omega
   obtain⟨g1,g2,w1,w2,J1⟩:=hI.pair (i:=j+6) h20 (y:=A % 10000 % 100) (by rw[hX];omega)
   obtain⟨g3,g4,w3,w4,J2⟩:=J1.pair (i:=j+4) h20 (y:=A % 10000 / 100) (by rw[show j+4+2=j+6 from rfl,p6];omega)
   obtain⟨g5,g6,w5,w6,J3⟩:=J2.pair (i:=j+2) h20 (y:=A / 10000 % 100) (by rw[show j+2+2=j+4 from rfl,p4];omega)
   obtain⟨g7,g8,w7,w8,J4⟩:=J3.pair (i:=j) h20 (y:=A / 10000 / 100) (by rw[p2];omega)
   have sb:∀ m:Nat,m<=8->zAB .no .sub (.int .i64 ((j+8:Nat):Int)) (.int .i64 (m:Nat))=some (.int .i64 ((j+8-m:Nat):Int)):=λm hm=>zAmd (by omega) (by omega)
   have b1:zAB .no .sub (.int .i64 ((j+8:Nat):Int)) (.int .i64 1)=some (.int .i64 ((j+6+1:Nat):Int)):=sb 1 (by omega)
   have b2:zAB .no .sub (.int .i64 ((j+8:Nat):Int)) (.int .i64 2)=some (.int .i64 ((j+6:Nat):Int)):=sb 2 (by omega)
   have b3:zAB .no .sub (.int .i64 ((j+8:Nat):Int)) (.int .i64 3)=some (.int .i64 ((j+4+1:Nat):Int)):=sb 3 (by omega)
   have b4:zAB .no .sub (.int .i64 ((j+8:Nat):Int)) (.int .i64 4)=some (.int .i64 ((j+4:Nat):Int)):=sb 4 (by omega)
   have b5:zAB .no .sub (.int .i64 ((j+8:Nat):Int)) (.int .i64 5)=some (.int .i64 ((j+2+1:Nat):Int)):=sb 5 (by omega)
   have b6:zAB .no .sub (.int .i64 ((j+8:Nat):Int)) (.int .i64 6)=some (.int .i64 ((j+2:Nat):Int)):=sb 6 (by omega)
   have b7:zAB .no .sub (.int .i64 ((j+8:Nat):Int)) (.int .i64 7)=some (.int .i64 ((j+1:Nat):Int)):=sb 7 (by omega)
   have b8:zAB .no .sub (.int .i64 ((j+8:Nat):Int)) (.int .i64 8)=some (.int .i64 ((j:Nat):Int)):=sb 8 (by omega)
   rw[r8,hA,zAa,zAmY (by omega),zAa,q8 hx64,zAa,zAj2 (by omega),zAa,zAj1,zAa,zAfc (by omega),zAa,m2 (by omega),zAa,zAfb,zAa,m2 (by omega),zAa,zAfc (by omega),zAa,m2 (by omega),zAa,zAfb,zAa,m2 (by omega),zAa]
   have s1:=sm1 (m:=A % 10000 % 100) (by omega)
   have s2:=sm0 (m:=A % 10000 % 100) (by omega)
   have s3:=sm1 (m:=A % 10000 / 100) (by omega)
   have s4:=sm0 (m:=A % 10000 / 100) (by omega)
   have s5:=sm1 (m:=A / 10000 % 100) (by omega)
   have s6:=sm0 (m:=A / 10000 % 100) (by omega)
   have s7:=sm1 (m:=A / 10000 / 100) (by omega)
   have s8:=sm0 (m:=A / 10000 / 100) (by omega)
   unfold SM at s1 s2 s3 s4 s5 s6 s7 s8
   rw[b1,zAa,b2,zAa,p1 (by omega),zAa,s1,zAa,s2,zAa,ix _ (by omega),zAa,w1,zAW,ix _ (by omega),zAa,w2,zAW]
   rw[b3,zAa,b4,zAa,p1 (by omega),zAa,s3,zAa,s4,zAa,ix _ (by omega),zAa,w3,zAW,ix _ (by omega),zAa,w4,zAW]
   rw[b5,zAa,b6,zAa,p1 (by omega),zAa,s5,zAa,s6,zAa,ix _ (by omega),zAa,w5,zAW,ix _ (by omega),zAa,w6,zAW]
   rw[b7,zAa,b8,zAa,p1 (by omega),zAa,s7,zAa,s8,zAa,ix _ (by omega),zAa,w7,zAW,ix _ (by omega),zAa,w8,zAW,zAa]
   refine hk' _ _ _ ⟨j,by rw[p0],rfl,J4⟩ ?_
   show j<j+8
   omega
  ·rw[if_neg (by simpa using h8)]
   exact hk _ _ _ ⟨i,by omega,rfl,rfl,hI⟩
 rintro _ _ h2 ⟨i,hi8,rfl,rfl,hI⟩
 have hle:=hI.le
 have hsm:=small i hle
 have h7:10 ^ i<=10 ^ 7:=zBL (by omega) (by omega)
 rw[zAmY (by omega),zAa]
 refine zMk (λn x h=>∃ i:Nat,i<4/\n = .int .i64 (i:Nat)/\x = .int .u32 ((u / 10 ^ (nd-i):Nat):Int)/\F10 q u nd H i h) (λk hk=>?_) ?_
 ·rw[ge4,zAa,zAl]
  by_cases h4:4<=i
  ·rw[if_pos (by simpa using h4)]
   obtain⟨j,rfl⟩:∃ j,i=j+4:=⟨i-4,by omega⟩
   have p2:=zOR (u:=u) (nd:=nd) (i:=j+2) (k:=2) (by omega)
   have p0:=zOR (u:=u) (nd:=nd) (i:=j) (k:=4) (by omega)
   simp only[Nat.add_assoc,Nat.reduceAdd]at p2
   generalize hX:u / 10 ^ (nd-(j+4))=x at *
   generalize hA:x % 10000=A
   obtain⟨g1,g2,w1,w2,J1⟩:=hI.pair (i:=j+2) h20 (y:=A % 100) (by rw[hX];omega)
   obtain⟨g3,g4,w3,w4,J2⟩:=J1.pair (i:=j) h20 (y:=A / 100) (by rw[p2];omega)
   have sb:∀ m:Nat,m<=4->zAB .no .sub (.int .i64 ((j+4:Nat):Int)) (.int .i64 (m:Nat))=some (.int .i64 ((j+4-m:Nat):Int)):=λm hm=>zAmd (by omega) (by omega)
   have b1:zAB .no .sub (.int .i64 ((j+4:Nat):Int)) (.int .i64 1)=some (.int .i64 ((j+2+1:Nat):Int)):=sb 1 (by omega)
   have b2:zAB .no .sub (.int .i64 ((j+4:Nat):Int)) (.int .i64 2)=some (.int .i64 ((j+2:Nat):Int)):=sb 2 (by omega)
   have b3:zAB .no .sub (.int .i64 ((j+4:Nat):Int)) (.int .i64 3)=some (.int .i64 ((j+1:Nat):Int)):=sb 3 (by omega)
   have b4:zAB .no .sub (.int .i64 ((j+4:Nat):Int)) (.int .i64 4)=some (.int .i64 ((j:Nat):Int)):=sb 4 (by omega)
   rw[zAj1,hA,zAa,zAj2 (by omega),zAa,zAfc (by omega),zAa,m2 (by omega),zAa,zAfb,zAa,m2 (by omega),zAa]
   have s1:=sm1 (m:=A % 100) (by omega)
   have s2:=sm0 (m:=A % 100) (by omega)
   have s3:=sm1 (m:=A / 100) (by omega)
   have s4:=sm0 (m:=A / 100) (by omega)
   unfold SM at s1 s2 s3 s4
   rw[b1,zAa,b2,zAa,p1 (by omega),zAa,s1,zAa,s2,zAa,ix _ (by omega),zAa,w1,zAW,ix _ (by omega),zAa,w2,zAW]
   rw[b3,zAa,b4,zAa,p1 (by omega),zAa,s3,zAa,s4,zAa,ix _ (by omega),zAa,w3,zAW,ix _ (by omega),zAa,w4,zAW,zAa]
   exact hk _ _ _ ⟨j,by omega,rfl,by rw[p0],J2⟩
  ·rw[if_neg (by simpa using h4)]
   exact hk _ _ _ ⟨i,by omega,rfl,rfl,hI⟩
 clear hI hle hsm h7
 rintro _ _ h3 ⟨i,hi4,rfl,rfl,hI⟩
 have hle:=hI.le
 have hsm:=small i hle
 have h7:10 ^ i<=10 ^ 3:=zBL (by omega) (by omega)
 refine zMk (λn x h=>∃ i:Nat,i<2/\n = .int .i64 (i:Nat)/\x = .int .u32 ((u / 10 ^ (nd-i):Nat):Int)/\F10 q u nd H i h) (λk hk=>?_) ?_
 ·rw[ge2,zAa,zAl]
  by_cases h4:2<=i
  ·rw[if_pos (by simpa using h4)]
   obtain⟨j,rfl⟩:∃ j,i=j+2:=⟨i-2,by omega⟩
   have p0:=zOR (u:=u) (nd:=nd) (i:=j) (k:=2) (by omega)
   generalize hX:u / 10 ^ (nd-(j+2))=x at *
   generalize hA:x % 100=A
   obtain⟨g1,g2,w1,w2,J1⟩:=hI.pair (i:=j) h20 (y:=A) (by rw[hX];omega)
   have sb:∀ m:Nat,m<=2->zAB .no .sub (.int .i64 ((j+2:Nat):Int)) (.int .i64 (m:Nat))=some (.int .i64 ((j+2-m:Nat):Int)):=λm hm=>zAmd (by omega) (by omega)
   have b1:zAB .no .sub (.int .i64 ((j+2:Nat):Int)) (.int .i64 1)=some (.int .i64 ((j+1:Nat):Int)):=sb 1 (by omega)
   have b2:zAB .no .sub (.int .i64 ((j+2:Nat):Int)) (.int .i64 2)=some (.int .i64 ((j:Nat):Int)):=sb 2 (by omega)
   rw[zAfb,hA,zAa,m2 (by omega),zAa,zAfc (by omega),zAa]
   have s1:=sm1 (m:=A) (by omega)
   have s2:=sm0 (m:=A) (by omega)
   unfold SM at s1 s2
   rw[b1,zAa,b2,zAa,p1 (by omega),zAa,s1,zAa,s2,zAa,ix _ (by omega),zAa,w1,zAW,ix _ (by omega),zAa,w2,zAW,zAa]
   exact hk _ _ _ ⟨j,by omega,rfl,by rw[p0],J1⟩
  ·rw[if_neg (by simpa using h4)]
   exact hk _ _ _ ⟨i,by omega,rfl,rfl,hI⟩
 clear hI hle hsm h7
 rintro _ _ h4 ⟨i,hi2,rfl,rfl,hI⟩
 have hle:=hI.le
 have gt0:zAB .no .gtr (.int .i64 (i:Nat)) (.int .i64 0)=some (.bool (decide (0<i))):=by
  rw[zAJ];simp only[zC8];congr 2;rw[decide_eq_decide];omega
 rw[gt0,zAa,zAl]
 by_cases h0:0<i
 ·rw[if_pos (by simpa using h0)]
  obtain rfl:i=1:=by omega
  have hsm:=small 1 hle
  have hlt:u / 10 ^ (nd-1)<10:=hsm
  obtain⟨g1,w1,J1⟩:=hI.put (i:=0) h20 (d:=zDB (u / 10 ^ (nd-1))) (by rw[Nat.sub_zero,Nat.mod_eq_of_lt hlt])
  have i0:ixS 1 (.slice (some ⟨q,1,none⟩) nd 23) (.int .i64 0)=some (Ptr q (1+0)):=ix 0 (by omega)
  simp only[zAJ (op := .add),zC8,zAa,zFH,zSM hlt,i0,w1,zAW]
  obtain⟨cs',T',e1,e2,e3⟩:=J1.ex
  exact⟨cs',T',e1,e2,by simpa using e3,J1.k⟩
 ·rw[if_neg (by simpa using h0)]
  obtain rfl:i=0:=by omega
  obtain⟨cs',T',e1,e2,e3⟩:=hI.ex
  exact⟨cs',T',e1,e2,by simpa using e3,hI.k⟩
def zW0 (n:Int):List UInt8:=if n<0 then 45::zHj (-n).toNat else zHj n.toNat
theorem zAiD {n:Int}(h1 : -9223372036854775808<=n)(h2:n<=9223372036854775807){H:zAx}(hT:zXF H):zAA prg zFz [.int .i64 n] H λu H'=>u=str (zW0 n)/\Keep zAK H H':=by
 by_cases hs:0<=n/\n<100
 ·obtain⟨m,rfl⟩:∃ m:Nat,n=m:=⟨n.toNat,by omega⟩
  have:zW0 (m:Int)=zHj m:=by unfold zW0;rw[if_neg (by omega)];rfl
  rw[this]
  exact zUm (by omega)
 apply zH0
 unfold zJ2
 refine zAI (R:=λu H'=>u=str (zW0 n)/\Keep zAK H H') ?_ λu h hR=>hR
 apply zEW
 unfold zE7
 refine zAI (R:=λu H'=>u=str (zW0 n)/\Keep zAK H H') ?_ λu h hR=>hR
 apply zD7
 unfold zD3
 generalize hm:n.natAbs=m
 have hm64:m<18446744073709551616:=by omega
 have hm0:0<m:=by omega
 have e1:zAB .no .eql (.int .i64 10) (.int .i64 10)=some (.bool true):=rfl
 have e2:zAB .no .leq (.int .i64 0) (.int .i64 n)=some (.bool (decide (0<=n))):=by rw[zAJ];rfl
 have e3:zAB .no .lss (.int .i64 n) (.int .i64 100)=some (.bool (decide (n<100))):=by rw[zAJ];rfl
 have e4:zAB .no .lss (.int .i64 n) (.int .i64 0)=some (.bool (decide (n<0))):=by rw[zAJ];rfl
 have hbig:zBD (.bool (decide (0<=n))) (.bool (decide (n<100))) (.bool false)=some (.bool false):=by
  rw[zAv]
  by_cases h:0<=n
  ·rw[if_pos (by simpa using h),decide_eq_false (by omega)]
  ·rw[if_neg (by simpa using h)]
 rw[e1,zAa,zAl,if_pos rfl,e2,zAa]
 refine zOt (λu h=>(u = .bool (decide (n<100))\/¬ 0<=n)/\H=h) (λk hk=>?_) ?_
 ·by_cases h:0<=n
  ·rw[zAQ,if_pos (by simpa using h),e3,zAa]
   exact hk _ _ ⟨.inl rfl,rfl⟩
  ·rw[zAQ,if_neg (by simpa using h)]
   exact hk _ _ ⟨.inr h,rfl⟩
 rintro u _ ⟨hu,rfl⟩
 have hp:zBD (.bool (decide (0<=n))) u (.bool false)=some (.bool false):=by
  rw[zAv]
  by_cases h:0<=n
  ·rw[if_pos (by simpa using h)]
   rcases hu with rfl|hu
   ·rw[decide_eq_false (by omega)]
   ·exact absurd h hu
  ·rw[if_neg (by simpa using h)]
 rw[hp,zAa,zAl,if_neg (by decide),zAj6,zBb]
 generalize hH1:H.push (.cells (zBs (List.replicate 24 0)).toArray zI9 (0,0))=H1
 have k1:Keep zAK H H1:=by rw[<- hH1];exact Keep.push
 have hq1:H1[H.size]? = some (.cells (zBs (List.replicate 24 0)).toArray zI9 (0,0)):=by rw[<- hH1];exact zCj
 rw[zFH,zAa]
 refine zOt (λu h=>u = .int .u64 (m:Nat)/\H1=h) (λk hk=>?_) ?_
 ·rw[e4,zAa,zAl]
  by_cases hneg:n<0
  ·rw[if_pos (by simpa using hneg)]
   have e5:unV .neg (.int .u64 (IntKind.u64.wrap n))=some (.int .u64 (m:Nat)):=by
    simp only[unV]
    congr 2
    simp only[IntKind.wrap,IntKind.bits,IntKind.signed]
    simp
    omega
   rw[e5,zAa]
   exact hk _ _ ⟨rfl,rfl⟩
  ·rw[if_neg (by simpa using hneg)]
   have e5:IntKind.u64.wrap n=(m:Nat):=by rw[zWk (by omega) (by omega)];omega
   exact hk _ _ ⟨by rw[e5],rfl⟩
 rintro _ _ ⟨rfl,rfl⟩
 refine zAI (zXT hm0 hm64 (hT.keep k1 λ_ h=>h.elim)) ?_
 rintro _ _ ⟨rfl,nd,rfl,d1,d20,p1,p2⟩
 have a1:zAB .no .add (.int .i64 1) (.int .i64 (nd:Nat))=some (.int .i64 ((1+nd:Nat):Int)):=by
  rw[zAJ];simp only[zC8];rw[zCe]<;>first|rfl|omega
 have hcs:nd=1\/nd=2\/nd=3\/nd=4\/nd=5\/nd=6\/nd=7\/nd=8\/nd=9\/nd=10\/nd=11\/nd=12\/nd=13\/nd=14\/nd=15\/nd=16\/nd=17\/nd=18\/nd=19\/nd=20:=by omega
 have sl:slA 24 1 (.pointer (some ⟨H.size,0,none⟩)) (some (.int .i64 1)) (some (.int .i64 ((1+nd:Nat):Int))) none=some (.slice (some ⟨H.size,1,none⟩) nd 23):=by
  rcases hcs with rfl|rfl|rfl|rfl|rfl|rfl|rfl|rfl|rfl|rfl|rfl|rfl|rfl|rfl|rfl|rfl|rfl|rfl|rfl|rfl<;>rfl
 have sl0:slA 24 1 (.pointer (some ⟨H.size,0,none⟩)) none (some (.int .i64 ((1+nd:Nat):Int))) none=some (.slice (some ⟨H.size,0,none⟩) (1+nd) 24):=by
  rcases hcs with rfl|rfl|rfl|rfl|rfl|rfl|rfl|rfl|rfl|rfl|rfl|rfl|rfl|rfl|rfl|rfl|rfl|rfl|rfl|rfl<;>rfl
 rw[a1,zAa,sl,zAa]
 refine zAI (zY9 hq1 (by simp) d20 p2 hm64) ?_
 rintro _ h8 ⟨cs,T',hq8,hl8,hd,k8⟩
 obtain⟨e,rfl⟩:∃ e,nd=e+1:=⟨nd-1,by omega⟩
 have hpl:(zHF (e+1) m).length=e+1:=zMy _ _
 have hdec:zHF (e+1) m=zHj m:=(zWl e m (by simpa using p1) p2).symm
 have kk:Keep zAK H h8:=⟨zBh k1.1 k8.1,λi hi _=>by rw[k8.2 i (zAM hi k1.1) (by omega),k1.2 i hi id]⟩
 rw[e4,zAa,zAl]
 by_cases hneg:n<0
 ·rw[if_pos (by simpa using hneg)]
  have ix:ixA 24 1 (.pointer (some ⟨H.size,0,none⟩)) (.int .i64 0)=some (Ptr H.size 0):=rfl
  have st:=zJx (i:=0) hq8 45 (by omega)
  have st':st1 h8 (Ptr H.size 0) (.int .u8 45)=some (h8.setIfInBounds H.size (.cells (cs.set 0 (.int .u8 ((45:UInt8).toNat:Int))).toArray T' (0,0))):=st
  rw[ix,zAa,st',zAW,zAa,sl0,zAa]
  have hq9:=zBm (y := .cells (cs.set 0 (.int .u8 ((45:UInt8).toNat:Int))).toArray T' (0,0)) hq8
  have hb:Bs (h8.setIfInBounds H.size (.cells (cs.set 0 (.int .u8 ((45:UInt8).toNat:Int))).toArray T' (0,0))) (.slice (some ⟨H.size,0,none⟩) (1+(e+1)) 24) (45::zHF (e+1) m):=by
   refine Bs.mk hq9 (by rw[zAS,hpl];omega) (by simp[hl8];omega) ?_
   cases cs with
   | nil=>simp at hl8
   | cons c cs =>
    have hd':cs.take (e+1)=zBs (zHF (e+1) m):=by simpa using hd
    rw[zA9,List.set_cons_zero,zB4,show 1+(e+1)=(e+1)+1 by omega,zBX,hd',zOD]
  rw[hb.b2s (λs h=>by cases h),zAa]
  have hi:zW0 n=45::zHj m:=by unfold zW0;rw[if_pos hneg,show(-n).toNat=m by omega]
  refine⟨by rw[hi,hdec],?_⟩
  exact⟨by simp only[Array.size_setIfInBounds];exact kk.1,λi hi _=>by rw[zAE,if_neg (by omega),kk.2 i hi id]⟩
 ·rw[if_neg (by simpa using hneg)]
  have hb:Bs h8 (.slice (some ⟨H.size,1,none⟩) (e+1) 23) (zHF (e+1) m):=Bs.mk hq8 hpl.symm (by simp[hl8];omega) (by simpa using hd)
  simp only[sl,hb.b2s (λs h=>by cases h),zAa]
  have hi:zW0 n=zHj m:=by unfold zW0;rw[if_neg hneg,show n.toNat=m by omega]
  exact⟨by rw[hi,hdec],kk⟩
open Go.X.Diff
theorem zAfE {n i:Nat}{xs:List (List Value)}{x:List Value}(h:∀ x∈xs,x.length=n)(hi:i<xs.length):(xs.set i x).flatten=xs.flatten.take (i*n)++x++xs.flatten.drop ((i+1)*n):=by
 rw[List.set_eq_take_append_cons_drop,if_pos hi,zBr,zA5,zUa h,zT9 h,zBg]
theorem _root_.Go.X.BufE.set {n:Nat}{F:zA1}{H:zAx}{v:Value}{xs:List (List Value)}(h:BufE n F H v xs){i:Nat}(hi:i<xs.length){x:List Value}(hx:x.length=n)(h1:∀ c∈x,c.oneCell'=true) :
  ∃ p H',(∀ k,ixS n v (.int k i)=some p)/\stN n H p (.agg x.toArray)=some H'/\BufE n F H' v (xs.set i x)/\Keep F H H':=by
 obtain⟨g1,g2,h|⟨b,o,c,cs,T,f,rfl,hf,hc,hb,hle,ht,hl⟩⟩:=h
 ·obtain⟨rfl,rfl⟩:=h;simp at hi
 ·have hn1:i*n+n=(i+1)*n:=by rw[zCF]
  have hn2:(i+1)*n<=xs.length*n:=zBq n hi
  have hn3:xs.length*n<=c*n:=zBq n hc
  have hsz:o+i*n+x.toArray.size<=cs.size:=by simp only[zB7,hx];omega
  refine⟨Ptr b (o+i*n),_,λk=>?_,by simp only[stN];rw[if_pos (by simpa using hx)];exact zQM hb _ _ (ht _ _) hsz (zVw h1),⟨?_,?_,.inr ⟨b,o,c,_,T,f,by simp,hf,by simpa using hc,zBm hb,?_,ht,?_⟩⟩,Keep.set hf⟩
  ·simp only[ixS];rw[if_pos ⟨by omega,by omega⟩];rfl
  ·intro y hy
   rcases List.mem_or_eq_of_mem_set hy with hy|rfl
   ·exact g1 y hy
   ·exact hx
  ·intro y hy
   rcases List.mem_or_eq_of_mem_set hy with hy|rfl
   ·exact g2 y hy
   ·exact h1
  ·rw[zI0 hsz];exact hle
  ·rw[List.length_set,zAfE g1 hi,<- hl]
   unfold spl
   have hlo:o+i*n<=cs.toList.length:=by simp;omega
   have e1:(List.take (o+i*n) cs.toList).drop o=(cs.toList.drop o).take (i*n):=by rw[zCz,zCK]
   have e2:cs.toList.drop (o+i*n+x.toArray.size)=(cs.toList.drop o).drop ((i+1)*n):=by
    rw[zCy];congr 1;simp only[zB7,hx];omega
   show((List.take (o+i*n) cs.toList++x++cs.toList.drop (o+i*n+x.toArray.size)).drop o).take (xs.length*n)=_
   rw[zBg,zCc (by simp;omega),e1,e2]
   generalize hL:cs.toList.drop o=L
   have hLl:xs.length*n<=L.length:=by rw[<- hL];simp;omega
   have hA:(L.take (i*n)++x).length=(i+1)*n:=by rw[zAt,zA4,hx];omega
   rw[<- zBg,List.take_append,hA,zAr (by omega),zDf,zBN (by omega),zCz]
def zAg0 (P:zA1)(H:zAx)(v:Value)(xs:List Ver):Prop:=SlE 4 P H v (xs.map zEm)/\∀ x∈xs,x.wf
theorem zAg0.keep {P S:zA1}{H H':zAx}{v:Value}{xs:List Ver}(h:zAg0 P H v xs)(k:Keep S H H')(hs:∀ b,P b->¬ S b):zAg0 P H' v xs:=⟨h.1.keep k hs,h.2⟩
theorem zAg0.len {P:zA1}{H:zAx}{v:Value}{xs:List Ver}(h:zAg0 P H v xs):lenV v=some (.int .i64 xs.length):=by have:=h.1.len;simpa using this
theorem zAg0.at {P:zA1}{H:zAx}{v:Value}{xs:List Ver}(h:zAg0 P H v xs){i:Nat}{x:Ver}(hi:xs[i]? = some x):x.wf/\∃ b o,(∀ k,ixS 4 v (.int k i)=some (Ptr b o))/\Pt H b o (zEm x)/\P b :=
 ⟨h.2 x (zAC hi),h.1.at (x:=zEm x) (by rw[zAq,hi];rfl)⟩
def zAg1 (F:zA1)(H:zAx)(v:Value)(xs:List Ver):Prop:=BufE 4 F H v (xs.map zEm)/\∀ x∈xs,x.wf
theorem zAg1.keep {F S:zA1}{H H':zAx}{v:Value}{xs:List Ver}(h:zAg1 F H v xs)(k:Keep S H H')(hs:∀ b,F b->¬ S b):zAg1 F H' v xs:=⟨h.1.keep k hs,h.2⟩
theorem zAg1.set {F:zA1}{H:zAx}{v:Value}{xs:List Ver}(h:zAg1 F H v xs){i:Nat}(hi:i<xs.length){x:Ver}(hx:x.wf) :
  ∃ p H',(∀ k,ixS 4 v (.int k i)=some p)/\stN 4 H p (.agg (zEm x).toArray)=some H'/\zAg1 F H' v (xs.set i x)/\Keep F H H':=by
 obtain⟨p,H',h1,h2,h3,h4⟩:=h.1.set (i:=i) (by simpa using hi) (zDH hx) zLa
 refine⟨p,H',h1,h2,⟨by rw[List.map_set];exact h3,λy hy=>?_⟩,h4⟩
 rcases List.mem_or_eq_of_mem_set hy with hy|rfl
 ·exact h.2 y hy
 ·exact hx
theorem zAg1.cut {F:zA1}{H:zAx}{v:Value}{xs:List Ver}(h:zAg1 F H v xs){i:Nat}(hi:i<=xs.length)(hne:xs≠[]):∃ u,slS 4 v none (some (.int .i64 (i:Nat))) none=some u/\zAg0 F H u (xs.take i):=by
 obtain⟨u,h1,h2⟩:=h.1.sl.cut (lo:=0) (hi:=i) (l:=none) (r:=some (.int .i64 (i:Nat))) (by simpa using hne) (zAz _) (by simpa using hi) rfl (λc hc=>by
  simp at hc
  simp only[bnd];rw[if_pos ⟨by omega,by omega⟩];rfl)
 refine⟨u,h1,by rw[zCD];simpa using h2,λx hx=>h.2 x (zBw hx)⟩
section
variable {α:Type}
def zTG (lt:α->α->Bool)(x:α):List α->List α
 | []=>[x]
 | y::ys=>if lt x y=true then y::zTG lt x ys else x::y::ys
def zVD (lt:α->α->Bool)(l:List α):List α:=l.foldl (λacc x=>zTG lt x acc) []
def zHP (lt:α->α->Bool)(l:List α):List α:=(zVD lt l).reverse
theorem zWE {lt:α->α->Bool}{x y:α}:∀ {l:List α},y∈zTG lt x l↔y=x\/y∈l
 | []=>by simp[zTG]
 | z::l=>by
  rw[zTG]
  split
  ·rw[zAs,zWE,zAs]
   constructor
   ·rintro(h|h|h)<;>simp[h]
   ·rintro(h|h|h)<;>simp[h]
  ·simp
theorem zAat {lt:α->α->Bool}{x:α}:∀ {l:List α},(zTG lt x l).length=l.length+1
 | []=>rfl
 | z::l=>by
  rw[zTG]
  split
  ·rw[zAS,zAat];rfl
  ·rfl
theorem zJf {lt:α->α->Bool}{l:List α}{x:α}:zVD lt (l++[x])=zTG lt x (zVD lt l):=by unfold zVD;rw[List.foldl_append];rfl
theorem zR4 {P:List α->Prop}(h0:P [])(h1:∀ l x,P l->P (l++[x])):∀ l,P l:=λl=>by
 rw[<- List.reverse_reverse l]
 induction l.reverse with
 | nil=>exact h0
 | cons x r ih=>rw[zCU];exact h1 _ _ ih
theorem zAbr {lt:α->α->Bool}{y:α}{l:List α}:y∈zVD lt l↔y∈l:=by
 induction l using zR4 with
 | h0=>simp[zVD]
 | h1 l x ih=>rw[zJf,zWE,ih,zAp,zAD];exact Or.comm
theorem zUw {lt:α->α->Bool}{y:α}{l:List α}:y∈zHP lt l↔y∈l:=by unfold zHP;rw[List.mem_reverse,zAbr]
theorem zXU {lt:α->α->Bool}{l:List α}:(zHP lt l).length=l.length:=by
 unfold zHP
 rw[zC2]
 induction l using zR4 with
 | h0=>rfl
 | h1 l x ih=>rw[zJf,zAat,ih];simp
theorem zXV {lt:α->α->Bool}{x:α}:∀ {l:List α},(zTG lt x l).Perm (x::l)
 | [] => .refl _
 | z::l=>by
  rw[zTG]
  split
  ·exact(zXV.cons z).trans (.swap x z l)
  ·exact .refl _
theorem zSS {lt:α->α->Bool}{l:List α}:(zHP lt l).Perm l:=by
 unfold zHP
 refine(List.reverse_perm _).trans ?_
 induction l using zR4 with
 | h0=>exact .refl _
 | h1 l x ih =>
  rw[zJf]
  refine zXV.trans ((ih.cons x).trans ?_)
  exact(List.perm_append_singleton x l).symm
theorem zUx {β:Type}{c:β->β->Int}(hc:zTx c)(f:α->β){x:α}:∀ {l:List α},l.Pairwise (λa b=>c (f b) (f a)<=0)->(zTG (λa b=>decide (c (f a) (f b)<0)) x l).Pairwise λa b=>c (f b) (f a)<=0
 | [],_=>by simp[zTG]
 | z::l,h=>by
  obtain⟨h1,h2⟩:=zCg.1 h
  rw[zTG]
  split
  ·rename_i hlt
   refine zCg.2 ⟨λy hy=>?_,zUx hc f h2⟩
   rcases zWE.1 hy with rfl|hy
   ·exact Int.le_of_lt (by simpa using hlt)
   ·exact h1 y hy
  ·rename_i hlt
   have hz:c (f z) (f x)<=0:=by
    have:=hc.turn (f x) (f z)
    have h3:¬ c (f x) (f z)<0:=by simpa using hlt
    omega
   refine zCg.2 ⟨λy hy=>?_,h⟩
   rcases zAs.1 hy with rfl|hy
   ·exact hz
   ·exact hc.trans (h1 y hy) hz
theorem zTo {β:Type}{c:β->β->Int}(hc:zTx c)(f:α->β){l:List α}:(zHP (λa b=>decide (c (f a) (f b)<0)) l).Pairwise λa b=>c (f a) (f b)<=0:=by
 unfold zHP
 rw[List.pairwise_reverse]
 induction l using zR4 with
 | h0=>exact List.Pairwise.nil
 | h1 l x ih=>rw[zJf];exact zUx hc f ih
end
def zAnv:Man:=⟨[],zEc,[],[],[]⟩
def gM (hv:List Man)(k:Nat):Man:=hv.getD k zAnv
def zQs (d:Dep)(m:Man):Bool:=decide (m.name=d.name)&&(zH6 d.want&&zG5 m.ver&&zYZ d.want.op d.want.ver m.ver)
def zAbX (a b:Man):Bool:=a.conf.any λd=>zQs d b
def zP2 (hv:List Man)(ch:List Nat)(k:Nat):Bool:=ch.any λi=>zAbX (gM hv i) (gM hv k) || zAbX (gM hv k) (gM hv i)
def ofF (hv:List Man)(ch:List Nat)(nm:List UInt8):Option Nat:=ch.find? λk=>decide ((gM hv k).name=nm)
def zAkx (hv:List Man)(a b:Nat):Bool:=decide (zAet (gM hv b).ver (gM hv a).ver<0)
def zST (hv:List Man)(d:Dep):List Nat:=(List.range hv.length).filter λi=>zQs d (gM hv i)
def zP3 (hv:List Man)(d:Dep):List Nat:=zHP (zAkx hv) (zST hv d)
inductive Res where
 | ok (l:List Nat)|fail|over
inductive St where
 | sol (ch:List Nat) (ws:List Dep)
 | tri (ch:List Nat) (ws:List Dep) (ks:List Nat)
inductive Run (hv:List Man) (bd:Nat):St->Nat->Res->zA1 where
 | done {ch:List Nat} {s:Nat}:Run hv bd (.sol ch []) s (.ok ch) s
 | has {ch:List Nat} {d:Dep} {ws:List Dep} {s s' k:Nat} {r:Res} (h1:ofF hv ch d.name=some k) (h2:zQs d (gM hv k)=true) (h:Run hv bd (.sol ch ws) s r s'):Run hv bd (.sol ch (d::ws)) s r s'
 | no {ch:List Nat} {d:Dep} {ws:List Dep} {s k:Nat} (h1:ofF hv ch d.name=some k) (h2:zQs d (gM hv k)=false):Run hv bd (.sol ch (d::ws)) s .fail s
 | go {ch:List Nat} {d:Dep} {ws:List Dep} {s s':Nat} {r:Res} (h1:ofF hv ch d.name=none) (h:Run hv bd (.tri ch ws (zP3 hv d)) s r s'):Run hv bd (.sol ch (d::ws)) s r s'
 | none {ch:List Nat} {ws:List Dep} {s:Nat}:Run hv bd (.tri ch ws []) s .fail s
 | over {ch:List Nat} {ws:List Dep} {k:Nat} {ks:List Nat}:Run hv bd (.tri ch ws (k::ks)) bd .over bd
 | clash {ch:List Nat} {ws:List Dep} {s s' k:Nat} {ks:List Nat} {r:Res} (h1:s≠bd) (h2:zP2 hv ch k=true) (h:Run hv bd (.tri ch ws ks) (s+1) r s'):Run hv bd (.tri ch ws (k::ks)) s r s'
 | down {ch:List Nat} {ws:List Dep} {s s' k:Nat} {ks:List Nat} {r:Res} (h1:s≠bd) (h2:zP2 hv ch k=false) (h:Run hv bd (.sol (ch++[k]) (ws++(gM hv k).deps)) (s+1) r s') (hr:r ≠ .fail):Run hv bd (.tri ch ws (k::ks)) s r s'
 | back {ch:List Nat} {ws:List Dep} {s s1 s' k:Nat} {ks:List Nat} {r:Res} (h1:s≠bd) (h2:zP2 hv ch k=false) (h:Run hv bd (.sol (ch++[k]) (ws++(gM hv k).deps)) (s+1) .fail s1) (h':Run hv bd (.tri ch ws ks) s1 r s'):Run hv bd (.tri ch ws (k::ks)) s r s'
theorem Run.det {hv:List Man}{bd:Nat}{st:St}{s s1:Nat}{r:Res}(h:Run hv bd st s r s1):∀ {r':Res} {s2:Nat},Run hv bd st s r' s2->r=r'/\s1=s2:=by
 induction h with
 | done=>intro r' s2 k;cases k;exact⟨rfl,rfl⟩
 | has h1 h2 _ ih =>
  intro r' s2 k
  cases k with
  | has k1 k2 k=>exact ih k
  | no k1 k2=>rw[h1]at k1;cases k1;rw[h2]at k2;cases k2
  | go k1 k=>rw[h1]at k1;cases k1
 | no h1 h2 =>
  intro r' s2 k
  cases k with
  | has k1 k2 k=>rw[h1]at k1;cases k1;rw[h2]at k2;cases k2
  | no k1 k2=>exact⟨rfl,rfl⟩
  | go k1 k=>rw[h1]at k1;cases k1
 | go h1 _ ih =>
  intro r' s2 k
  cases k with
  | has k1 k2 k=>rw[h1]at k1;cases k1
  | no k1 k2=>rw[h1]at k1;cases k1
  | go k1 k=>exact ih k
 | none=>intro r' s2 k;cases k;exact⟨rfl,rfl⟩
 | over =>
  intro r' s2 k
  cases k with
  | over=>exact⟨rfl,rfl⟩
  | clash h1=>exact absurd rfl h1
  | down h1=>exact absurd rfl h1
  | back h1=>exact absurd rfl h1
 | clash h1 h2 _ ih =>
  intro r' s2 k
  cases k with
  | over=>exact absurd rfl h1
  | clash k1 k2 k=>exact ih k
  | down k1 k2=>rw[h2]at k2;cases k2
  | back k1 k2=>rw[h2]at k2;cases k2
 | down h1 h2 _ hr ih =>
  intro r' s2 k
  cases k with
  | over=>exact absurd rfl h1
  | clash k1 k2 k=>rw[h2]at k2;cases k2
  | down k1 k2 k=>exact ih k
  | back k1 k2 k k'=>exact absurd (ih k).1 hr
 | back h1 h2 _ _ ih ih' =>
  intro r' s2 k
  cases k with
  | over=>exact absurd rfl h1
  | clash k1 k2 k=>rw[h2]at k2;cases k2
  | down k1 k2 k hr=>exact absurd (ih k).1.symm hr
  | back k1 k2 k k' =>
   obtain⟨_,rfl⟩:=ih k
   exact ih' k'
structure Pnt where
 ch:List Nat
 ws:List Dep
 ks:List Nat
def zAky (hv:List Man)(bd:Nat):List Pnt->Res->Nat->Res->zA1
 | [],r,s,R,S=>R=r/\S=s
 | p::ps,r,s,R,S=>(r = .fail/\∃ r' s',Run hv bd (.tri p.ch p.ws p.ks) s r' s'/\zAky hv bd ps r' s' R S)\/(r ≠ .fail/\R=r/\S=s)
theorem zAky.stop {hv:List Man}{bd:Nat}{ps:List Pnt}{r:Res}{s:Nat}(h:r ≠ .fail):zAky hv bd ps r s r s:=by
 cases ps with
 | nil=>exact⟨rfl,rfl⟩
 | cons p ps=>exact .inr ⟨h,rfl,rfl⟩
def Fwd (hv:List Man)(bd:Nat)(G:Res->zA1)(ch:List Nat)(ws:List Dep)(ps:List Pnt)(s:Nat):Prop:=∀ r s' R S,Run hv bd (.sol ch ws) s r s'->zAky hv bd ps r s' R S->G R S
def Bck (hv:List Man)(bd:Nat)(G:Res->zA1)(ps:List Pnt)(s:Nat):Prop:=∀ R S,zAky hv bd ps .fail s R S->G R S
section
variable {hv:List Man} {bd:Nat} {G:Res->zA1} {ch:List Nat} {ws:List Dep} {ps:List Pnt} {s:Nat} {d:Dep} {k:Nat} {ks:List Nat}
theorem Fwd.start:Fwd hv bd (λR S=>Run hv bd (.sol ch ws) s R S) ch ws [] s:=λr s' R S h ⟨h1,h2⟩=>by subst h1 h2;exact h
theorem Fwd.done (h:Fwd hv bd G ch [] ps s):G (.ok ch) s:=h _ _ _ _ .done (.stop (by simp))
theorem Fwd.has (h:Fwd hv bd G ch (d::ws) ps s)(h1:ofF hv ch d.name=some k)(h2:zQs d (gM hv k)=true):Fwd hv bd G ch ws ps s:=λr s' R S hr hf=>h r s' R S (.has h1 h2 hr) hf
theorem Fwd.no (h:Fwd hv bd G ch (d::ws) ps s)(h1:ofF hv ch d.name=some k)(h2:zQs d (gM hv k)=false):Bck hv bd G ps s:=λR S hf=>h _ _ R S (.no h1 h2) hf
theorem Fwd.push (h:Fwd hv bd G ch (d::ws) ps s)(h1:ofF hv ch d.name=none):Bck hv bd G (⟨ch,ws,zP3 hv d⟩::ps) s:=λR S hf=>by
 rcases hf with ⟨_,r',s',hr,hf⟩|⟨hn,_⟩
 ·exact h r' s' R S (.go h1 hr) hf
 ·exact absurd rfl hn
theorem Bck.fail (h:Bck hv bd G [] s):G .fail s:=h _ _ ⟨rfl,rfl⟩
theorem Bck.pop (h:Bck hv bd G (⟨ch,ws,[]⟩::ps) s):Bck hv bd G ps s:=λR S hf=>h R S (.inl ⟨rfl,.fail,s,.none,hf⟩)
theorem Bck.over (h:Bck hv bd G (⟨ch,ws,k::ks⟩::ps) bd):G .over bd:=h _ _ (.inl ⟨rfl,.over,bd,.over,.stop (by simp)⟩)
theorem Bck.clash (h:Bck hv bd G (⟨ch,ws,k::ks⟩::ps) s)(h1:s≠bd)(h2:zP2 hv ch k=true):Bck hv bd G (⟨ch,ws,ks⟩::ps) (s+1):=λR S hf=>by
 rcases hf with ⟨_,r',s',hr,hf⟩|⟨hn,_⟩
 ·exact h R S (.inl ⟨rfl,r',s',.clash h1 h2 hr,hf⟩)
 ·exact absurd rfl hn
theorem Bck.down (h:Bck hv bd G (⟨ch,ws,k::ks⟩::ps) s)(h1:s≠bd)(h2:zP2 hv ch k=false):Fwd hv bd G (ch++[k]) (ws++(gM hv k).deps) (⟨ch,ws,ks⟩::ps) (s+1):=λr s' R S hr hf=>by
 rcases hf with ⟨rfl,r',s2,hr2,hf⟩|⟨hn,rfl,rfl⟩
 ·exact h R S (.inl ⟨rfl,r',s2,.back h1 h2 hr hr2,hf⟩)
 ·exact h R S (.inl ⟨rfl,R,S,.down h1 h2 hr hn,.stop hn⟩)
end
theorem zOp {d:Dep}{m:Man}(h:zQs d m=true):m.name=d.name:=by
 unfold zQs at h
 simp only[zAk,decide_eq_true_eq]at h
 exact h.1
theorem zWF {hv:List Man}{d:Dep}{k:Nat}:k∈zP3 hv d↔k<hv.length/\zQs d (gM hv k)=true:=by
 unfold zP3 zST
 rw[zUw,zBd,zBC]
theorem zAfF {hv:List Man}{d:Dep}:(zP3 hv d).length<=hv.length:=by
 unfold zP3 zST
 rw[zXU]
 exact zBh (zBi _ _) (by simp)
theorem zAdg {hv:List Man}{ch:List Nat}{nm:List UInt8}{k:Nat}(h:ofF hv ch nm=some k):k∈ch/\(gM hv k).name=nm:=by
 have h1:=zCE h
 have h2:=List.find?_some h
 exact⟨h1,by simpa using h2⟩
theorem zAiE {hv:List Man}{ch:List Nat}{nm:List UInt8}(h:ofF hv ch nm=none):∀ k∈ch,(gM hv k).name≠nm:=by
 intro k hk
 have:=zCq.1 h k hk
 simpa using this
def zKg (hv:List Man)(ch:List Nat):Prop:=(∀ k∈ch,k<hv.length)/\(ch.map λk=>(gM hv k).name).Nodup
theorem zKg.nil {hv:List Man}:zKg hv []:=⟨λk h=>absurd h (by simp),List.nodup_nil⟩
theorem zKg.add {hv:List Man}{ch:List Nat}{d:Dep}{k:Nat}(h:zKg hv ch)(h1:ofF hv ch d.name=none)(hk:k∈zP3 hv d):zKg hv (ch++[k]):=by
 obtain⟨k1,k2⟩:=zWF.1 hk
 refine⟨λj hj=>?_,?_⟩
 ·rcases zAp.1 hj with hj|hj
  ·exact h.1 j hj
  ·simp at hj;subst hj;exact k1
 ·rw[zAF,zCH]
  refine⟨h.2,by simp,λa ha b hb e=>?_⟩
  subst e
  obtain⟨j,hj,rfl⟩:=zAo.1 ha
  simp at hb
  exact zAiE h1 j hj (by rw[hb,zOp k2])
theorem zWG:∀ (n:Nat) {l:List Nat},l.Nodup->(∀ k∈l,k<n)->l.length<=n
 | 0,l,_,h=>by
  cases l with
  | nil=>simp
  | cons a l=>exact absurd (h a (by simp)) (by omega)
 | n+1,l,hn,h=>by
  have h1:=zWG n (l:=l.erase n) (hn.erase n) λk hk=>by
   have:=(hn.mem_erase_iff).1 hk
   have:=h k this.2
   omega
  have:=List.length_erase (a:=n) (l:=l)
  split at this<;>omega
theorem zKg.nodup {hv:List Man}{ch:List Nat}(h:zKg hv ch):ch.Nodup:=(zBu.1 h.2).imp λhne e=>hne (by rw[e])
theorem zKg.len {hv:List Man}{ch:List Nat}(h:zKg hv ch):ch.length<=hv.length:=zWG _ h.nodup h.1
theorem Run.le {hv:List Man}{bd:Nat}{st:St}{s s':Nat}{r:Res}(h:Run hv bd st s r s'):s<=s':=by
 induction h with
 | done=>exact zAh _
 | has _ _ _ ih=>exact ih
 | no=>exact zAh _
 | go _ _ ih=>exact ih
 | none=>exact zAh _
 | over=>exact zAh _
 | clash _ _ _ ih=>omega
 | down _ _ _ _ ih=>omega
 | back _ _ _ _ ih ih'=>omega
theorem Run.top {hv:List Man}{bd:Nat}{st:St}{s s':Nat}{r:Res}(h:Run hv bd st s r s'):s<=bd->s'<=bd:=by
 induction h with
 | done=>exact id
 | has _ _ _ ih=>exact ih
 | no=>exact id
 | go _ _ ih=>exact ih
 | none=>exact id
 | over=>exact id
 | clash h1 _ _ ih=>intro h;exact ih (by omega)
 | down h1 _ _ _ ih=>intro h;exact ih (by omega)
 | back h1 _ _ _ ih ih'=>intro h;exact ih' (ih (by omega))
theorem Run.bound {hv:List Man}{bd:Nat}{st:St}{s s':Nat}{r:Res}(h:Run hv bd st s r s'):(r ≠ .over->∀ b,s'<=b->Run hv b st s r s')/\∀ b,s<=b->b<s'->Run hv b st s .over b:=by
 induction h with
 | done=>exact⟨λ_ b _ => .done,λb h1 h2=>by omega⟩
 | has h1 h2 _ ih=>exact⟨λhr b hb => .has h1 h2 (ih.1 hr b hb),λb k1 k2 => .has h1 h2 (ih.2 b k1 k2)⟩
 | no h1 h2=>exact⟨λ_ b _ => .no h1 h2,λb k1 k2=>by omega⟩
 | go h1 _ ih=>exact⟨λhr b hb => .go h1 (ih.1 hr b hb),λb k1 k2 => .go h1 (ih.2 b k1 k2)⟩
 | none=>exact⟨λ_ b _ => .none,λb k1 k2=>by omega⟩
 | over=>exact⟨λhr=>absurd rfl hr,λb k1 k2=>by omega⟩
 | @clash ch ws s s' k ks r h1 h2 h ih =>
  have hle:=h.le
  refine⟨λhr b hb => .clash (by omega) h2 (ih.1 hr b hb),λb k1 k2=>?_⟩
  by_cases e:s=b
  ·subst e;exact .over
  ·exact .clash e h2 (ih.2 b (by omega) k2)
 | @down ch ws s s' k ks r h1 h2 h hr ih =>
  have hle:=h.le
  refine⟨λhr' b hb => .down (by omega) h2 (ih.1 hr' b hb) hr,λb k1 k2=>?_⟩
  by_cases e:s=b
  ·subst e;exact .over
  ·exact .down e h2 (ih.2 b (by omega) k2) (by simp)
 | @back ch ws s s1 s' k ks r h1 h2 h h' ih ih' =>
  have hle:=h.le
  have hle':=h'.le
  refine⟨λhr' b hb => .back (by omega) h2 (ih.1 (by simp) b (by omega)) (ih'.1 hr' b hb),λb k1 k2=>?_⟩
  by_cases e:s=b
  ·subst e;exact .over
  ·by_cases e2:b<s1
   ·exact .down e h2 (ih.2 b (by omega) e2) (by simp)
   ·exact .back e h2 (ih.1 (by simp) b (by omega)) (ih'.2 b (by omega) k2)
def zAiF (hv:List Man)(ch:List Nat):Prop:=∀ i∈ch,∀ j∈ch,i≠j->zAbX (gM hv i) (gM hv j)=false
inductive Rch (hv:List Man) (wants:List Dep) (ch:List Nat):zA1 where
 | want {d:Dep} {k:Nat} (h:d∈wants) (hk:k∈ch) (hn:(gM hv k).name=d.name):Rch hv wants ch k
 | dep {d:Dep} {j k:Nat} (hj:Rch hv wants ch j) (h:d∈(gM hv j).deps) (hk:k∈ch) (hn:(gM hv k).name=d.name):Rch hv wants ch k
theorem Rch.mem {hv:List Man}{wants:List Dep}{ch:List Nat}{k:Nat}(h:Rch hv wants ch k):k∈ch:=by cases h<;>assumption
theorem Rch.mono {hv:List Man}{wants:List Dep}{ch ch':List Nat}{k:Nat}(h:Rch hv wants ch k)(hs:∀ j∈ch,j∈ch'):Rch hv wants ch' k:=by
 induction h with
 | want h hk hn=>exact .want h (hs _ hk) hn
 | dep _ h hk hn ih=>exact .dep ih h (hs _ hk) hn
def zAdh (hv:List Man)(wants:List Dep)(ch:List Nat)(d:Dep):Prop:=d∈wants\/∃ k,Rch hv wants ch k/\d∈(gM hv k).deps
theorem zAdh.mono {hv:List Man}{wants:List Dep}{ch ch':List Nat}{d:Dep}(h:zAdh hv wants ch d)(hs:∀ j∈ch,j∈ch'):zAdh hv wants ch' d:=h.imp id λ⟨k,h1,h2⟩=>⟨k,h1.mono hs,h2⟩
structure zAdi (hv:List Man)(wants:List Dep)(ch:List Nat)(ws:List Dep):Prop where
 nm:zKg hv ch
 nr:zAiF hv ch
 rc:∀ k∈ch,Rch hv wants ch k
 aw:∀ d∈ws,zAdh hv wants ch d
 sat:∀ d,(d∈wants\/∃ k∈ch,d∈(gM hv k).deps)->(∃ k∈ch,zQs d (gM hv k)=true)\/d∈ws
def zAkz (hv:List Man)(wants:List Dep):St->Prop
 | .sol ch ws=>zAdi hv wants ch ws
 | .tri ch ws ks=>∃ d,zAdi hv wants ch (d::ws)/\ofF hv ch d.name=none/\∀ k∈ks,k∈zP3 hv d
theorem zAdi.start {hv:List Man}{wants:List Dep}:zAdi hv wants [] wants :=
 ⟨zKg.nil,λi h=>absurd h (by simp),λi h=>absurd h (by simp),λd h => .inl h,λd h=>by
  rcases h with h|⟨k,hk,_⟩
  ·exact .inr h
  ·cases hk⟩
theorem zAau {hv:List Man}{ch:List Nat}{k:Nat}(h:zP2 hv ch k=false):∀ i∈ch,zAbX (gM hv i) (gM hv k)=false/\zAbX (gM hv k) (gM hv i)=false:=by
 intro i hi
 unfold zP2 at h
 have:=zCu.1 h i hi
 simpa using this
theorem zAdi.add {hv:List Man}{wants:List Dep}{ch:List Nat}{d:Dep}{ws:List Dep}{k:Nat}(h:zAdi hv wants ch (d::ws))(h1:ofF hv ch d.name=none)(hk:k∈zP3 hv d)(hc:zP2 hv ch k=false):zAdi hv wants (ch++[k]) (ws++(gM hv k).deps):=by
 have hsub:∀ j∈ch,j∈ch++[k]:=λj hj=>zAp.2 (.inl hj)
 have hkm:k∈ch++[k]:=by simp
 have hname:=zOp (zWF.1 hk).2
 have hrk:Rch hv wants (ch++[k]) k:=by
  rcases h.aw d (by simp) with hw|⟨j,hj,hd⟩
  ·exact .want hw hkm hname
  ·exact .dep (hj.mono hsub) hd hkm hname
 refine⟨h.nm.add h1 hk,?_,?_,?_,?_⟩
 ·intro i hi j hj hne
  rcases zAp.1 hi with hi'|hi'
  ·rcases zAp.1 hj with hj'|hj'
   ·exact h.nr i hi' j hj' hne
   ·have e:j=k:=by simpa using hj'
    rw[e];exact(zAau hc i hi').1
  ·have e:i=k:=by simpa using hi'
   rcases zAp.1 hj with hj'|hj'
   ·rw[e];exact(zAau hc j hj').2
   ·have e':j=k:=by simpa using hj'
    exact absurd (e.trans e'.symm) hne
 ·intro j hj
  rcases zAp.1 hj with hj|hj
  ·exact(h.rc j hj).mono hsub
  ·simp at hj;subst hj;exact hrk
 ·intro e he
  rcases zAp.1 he with he|he
  ·exact(h.aw e (by simp[he])).mono hsub
  ·exact .inr ⟨k,hrk,he⟩
 ·intro e he
  have old:(∃ j∈ch,zQs e (gM hv j)=true)\/e∈d::ws->(∃ j∈ch++[k],zQs e (gM hv j)=true)\/e∈ws++(gM hv k).deps:=by
   rintro(⟨j,hj,hf⟩|he)
   ·exact .inl ⟨j,hsub j hj,hf⟩
   ·rcases zAs.1 he with rfl|he
    ·exact .inl ⟨k,hkm,(zWF.1 hk).2⟩
    ·exact .inr (zAp.2 (.inl he))
  rcases he with he|⟨j,hj,he⟩
  ·exact old (h.sat e (.inl he))
  ·rcases zAp.1 hj with hj|hj
   ·exact old (h.sat e (.inr ⟨j,hj,he⟩))
   ·simp at hj;subst hj
    exact .inr (zAp.2 (.inr he))
theorem Run.sound {hv:List Man}{wants:List Dep}{bd:Nat}{st:St}{s s':Nat}{r:Res}(h:Run hv bd st s r s'):zAkz hv wants st->∀ l,r = .ok l->zAdi hv wants l []:=by
 induction h with
 | done=>intro hp l e;cases e;exact hp
 | @has ch d ws s s' k r h1 h2 _ ih =>
  intro hp l e
  have hp:zAdi hv wants ch (d::ws):=hp
  refine ih ⟨hp.nm,hp.nr,hp.rc,λe he=>hp.aw e (by simp[he]),λe he=>?_⟩ l e
  rcases hp.sat e he with h|h
  ·exact .inl h
  ·rcases zAs.1 h with rfl|h
   ·exact .inl ⟨k,(zAdg h1).1,h2⟩
   ·exact .inr h
 | no=>intro _ l e;cases e
 | @go ch d ws s s' r h1 _ ih=>intro hp l e;exact ih ⟨d,hp,h1,λk hk=>hk⟩ l e
 | none=>intro _ l e;cases e
 | over=>intro _ l e;cases e
 | clash _ _ _ ih =>
  intro hp l e
  obtain⟨d,h1,h2,h3⟩:=hp
  exact ih ⟨d,h1,h2,λk hk=>h3 k (by simp[hk])⟩ l e
 | down _ h2 _ _ ih =>
  intro hp l e
  obtain⟨d,p1,p2,p3⟩:=hp
  exact ih (p1.add p2 (p3 _ (by simp)) h2) l e
 | back _ _ _ _ _ ih' =>
  intro hp l e
  obtain⟨d,h1,h2,h3⟩:=hp
  exact ih' ⟨d,h1,h2,λk hk=>h3 k (by simp[hk])⟩ l e
structure zAmZ (hv:List Man)(X:List Nat):Prop where
 nm:zKg hv X
 nr:zAiF hv X
 cl:∀ k∈X,∀ d∈(gM hv k).deps,∃ j∈X,zQs d (gM hv j)=true
theorem zKg.same {hv:List Man}{X:List Nat}(h:zKg hv X){i j:Nat}(hi:i∈X)(hj:j∈X)(e:(gM hv i).name=(gM hv j).name):i=j:=by
 have hp:=zBu.1 h.2
 obtain⟨a,ha,rfl⟩:=zBK hi
 obtain⟨b,hb,rfl⟩:=zBK hj
 have hq:=zBH.1 hp
 by_cases h1:a<b
 ·exact absurd e (hq a b ha hb h1)
 ·by_cases h2:b<a
  ·exact absurd e.symm (hq b a hb ha h2)
  ·have:a=b:=by omega
   subst this;rfl
def zAme (hv:List Man)(X:List Nat):St->Prop
 | .sol ch ws=>(∀ k∈ch,k∈X)/\∀ d∈ws,∃ k∈X,zQs d (gM hv k)=true
 | .tri ch ws ks=>(∀ k∈ch,k∈X)/\(∀ d∈ws,∃ k∈X,zQs d (gM hv k)=true)/\∃ k∈X,k∈ks/\k∉ch
def zAeu (hv:List Man)(l:List Nat):Prop:=l.Pairwise λa b=>zJH (gM hv a).name (gM hv b).name<0
theorem zAeu.ext {hv:List Man}:∀ {l m:List Nat},zAeu hv l->zAeu hv m->(∀ k,k∈l↔k∈m)->l=m
 | [],[],_,_,_=>rfl
 | [],b::m,_,_,h=>absurd ((h b).2 (by simp)) (by simp)
 | a::l,[],_,_,h=>absurd ((h a).1 (by simp)) (by simp)
 | a::l,b::m,hl,hm,h=>by
  obtain⟨l1,l2⟩:=zCg.1 hl
  obtain⟨m1,m2⟩:=zCg.1 hm
  have irr:∀ x:Nat,¬ zJH (gM hv x).name (gM hv x).name<0:=λx hx=>by rw[zFb.self]at hx;omega
  have asym:∀ x y:Nat,zJH (gM hv x).name (gM hv y).name<0->¬ zJH (gM hv y).name (gM hv x).name<0:=λx y h1 h2=>by
   have:=zFb.turn (gM hv x).name (gM hv y).name;omega
  have hab:a=b:=by
   rcases zAs.1 ((h a).1 (by simp)) with e|e
   ·exact e
   ·rcases zAs.1 ((h b).2 (by simp)) with e2|e2
    ·exact e2.symm
    ·exact absurd (m1 a e) (asym _ _ (l1 b e2))
  subst hab
  congr 1
  refine zAeu.ext l2 m2 λk=>⟨λhk=>?_,λhk=>?_⟩
  ·rcases zAs.1 ((h k).1 (by simp[hk])) with e|e
   ·subst e;exact absurd (l1 k hk) (irr k)
   ·exact e
  ·rcases zAs.1 ((h k).2 (by simp[hk])) with e|e
   ·subst e;exact absurd (m1 k hk) (irr k)
   ·exact e
def zAg2 (hv:List Man)(a b:Nat):Bool:=decide (zJH (gM hv a).name (gM hv b).name<0)
def zG8 (hv:List Man)(l:List Nat):List Nat:=zHP (zAg2 hv) l
theorem zMz {hv:List Man}{l:List Nat}{k:Nat}:k∈zG8 hv l↔k∈l:=zUw
theorem zRj {hv:List Man}{l:List Nat}(h:zKg hv l):zAeu hv (zG8 hv l):=by
 have h1:=zTo zFb (λk=>(gM hv k).name) (l:=l)
 have hp:(zG8 hv l).Perm l:=zSS
 have h2:((zG8 hv l).map λk=>(gM hv k).name).Nodup:=((hp.map _).nodup_iff).2 h.2
 have h2:=zBu.1 h2
 unfold zAeu
 have h1':(zG8 hv l).Pairwise λa b=>zJH (gM hv a).name (gM hv b).name<=0:=h1
 refine(h1'.and h2).imp λ{a b} ⟨q1,q2⟩=>?_
 have:zJH (gM hv a).name (gM hv b).name≠0:=λe=>q2 ((zFb.zero _ _).1 e)
 omega
theorem zKg.sorted {hv:List Man}{l:List Nat}(h:zKg hv l):zKg hv (zG8 hv l):=by
 have hp:(zG8 hv l).Perm l:=zSS
 exact⟨λk hk=>h.1 k (zMz.1 hk),((hp.map _).nodup_iff).2 h.2⟩
structure zR5 (hv:List Man)(wants:List Dep)(c:List Nat):Prop where
 nm:zKg hv c
 nr:zAiF hv c
 sat:∀ d,(d∈wants\/∃ k∈c,d∈(gM hv k).deps)->∃ k∈c,zQs d (gM hv k)=true
section
variable {hv:List Man} {wants:List Dep} {c c' n m:List Nat}
theorem zAdi.right (h:zAdi hv wants c []):zR5 hv wants c:=⟨h.nm,h.nr,λd hd=>(h.sat d hd).resolve_right (by simp)⟩
theorem zR5.perm (h:zR5 hv wants c)(hp:c'.Perm c):zR5 hv wants c' :=
 ⟨⟨λk hk=>h.nm.1 k (hp.mem_iff.1 hk),((hp.map _).nodup_iff).2 h.nm.2⟩,λi hi j hj hne=>h.nr i (hp.mem_iff.1 hi) j (hp.mem_iff.1 hj) hne,λd hd=>by
  obtain⟨k,hk,hf⟩:=h.sat d (hd.imp id λ⟨k,hk,hd⟩=>⟨k,hp.mem_iff.1 hk,hd⟩)
  exact⟨k,hp.mem_iff.2 hk,hf⟩⟩
theorem zR5.comp (h:zR5 hv wants c):zAme hv c (.sol [] wants):=⟨λk hk=>absurd hk (by simp),λd hd=>h.sat d (.inl hd)⟩
def zs (l:List Nat):List Int:=l.map λ(k:Nat)=>(k:Int)
def zUy (hv:List Man)(wants:List Dep)(ch n:List Nat):Prop:=zAeu hv n/\∀ k,k∈n↔Rch hv wants ch k
theorem zAeu.nodup (h:zAeu hv n):(n.map λk=>(gM hv k).name).Nodup:=zBu.2 (h.imp λ{a b} hlt e=>by rw[e,zFb.self]at hlt;omega)
theorem zUy.one (h:zUy hv wants c n)(k:zUy hv wants c m):n=m:=h.1.ext k.1 λj=>(h.2 j).trans (k.2 j).symm
theorem zUy.right (h:zUy hv wants c n)(hR:zR5 hv wants c):zR5 hv wants n:=by
 have hsub:∀ k∈n,k∈c:=λk hk=>((h.2 k).1 hk).mem
 refine⟨⟨λk hk=>hR.nm.1 k (hsub k hk),h.1.nodup⟩,λi hi j hj hne=>hR.nr i (hsub i hi) j (hsub j hj) hne,λd hd=>?_⟩
 rcases hd with hd|⟨k,hk,hd⟩
 ·obtain⟨j,hj,hf⟩:=hR.sat d (.inl hd)
  exact⟨j,(h.2 j).2 (.want hd hj (zOp hf)),hf⟩
 ·obtain⟨j,hj,hf⟩:=hR.sat d (.inr ⟨k,hsub k hk,hd⟩)
  exact⟨j,(h.2 j).2 (.dep ((h.2 k).1 hk) hd hj (zOp hf)),hf⟩
theorem zUy.again (h:zUy hv wants c n)(k:zUy hv wants n m):m=n:=by
 refine k.1.ext h.1 λj=>?_
 rw[k.2 j]
 constructor
 ·exact Rch.mem
 ·intro hj
  have hr:=(h.2 j).1 hj
  induction hr with
  | want hd hk hn=>exact .want hd hj hn
  | dep hi hd hk hn ih=>exact .dep (ih ((h.2 _).2 hi)) hd hj hn
theorem zUy.all (h:zR5 hv wants c)(hr:∀ k∈c,Rch hv wants c k):zUy hv wants c (zG8 hv c) :=
 ⟨zRj h.nm,λk=>⟨λhk=>hr k (zMz.1 hk),λhk=>zMz.2 hk.mem⟩⟩
structure zU4 (hv:List Man)(wants:List Dep)(ch out:List Nat)(ws:List Dep):Prop where
 nd:out.Nodup
 rc:∀ k∈out,Rch hv wants ch k
 aw:∀ d∈ws,zAdh hv wants ch d
 cl:∀ d,(d∈wants\/∃ k∈out,d∈(gM hv k).deps)->d∈ws\/∃ k∈out,(gM hv k).name=d.name
theorem zU4.start:zU4 hv wants c [] wants:=⟨List.nodup_nil,λk h=>absurd h (by simp),λd h => .inl h,λd h=>by
 rcases h with h|⟨k,hk,_⟩
 ·exact .inl h
 ·cases hk⟩
theorem zU4.old {d:Dep}{ws:List Dep}{out:List Nat}{k:Nat}(h:zU4 hv wants c out (d::ws))(hk:k∈out)(hn:(gM hv k).name=d.name):zU4 hv wants c out ws :=
 ⟨h.nd,h.rc,λe he=>h.aw e (by simp[he]),λe he=>by
  rcases h.cl e he with h1|h1
  ·rcases zAs.1 h1 with rfl|h1
   ·exact .inr ⟨k,hk,hn⟩
   ·exact .inl h1
  ·exact .inr h1⟩
theorem zU4.new {d:Dep}{ws:List Dep}{out:List Nat}{k:Nat}(h:zU4 hv wants c out (d::ws))(hk:k∈c)(hn:(gM hv k).name=d.name)(ho:k∉out):zU4 hv wants c (out++[k]) (ws++(gM hv k).deps):=by
 have hr:Rch hv wants c k:=by
  rcases h.aw d (by simp) with hw|⟨j,hj,hd⟩
  ·exact .want hw hk hn
  ·exact .dep hj hd hk hn
 refine⟨?_,?_,?_,?_⟩
 ·rw[zCH]
  refine⟨h.nd,by simp,λa ha b hb e=>?_⟩
  simp at hb;subst hb;subst e;exact ho ha
 ·intro j hj
  rcases zAp.1 hj with hj|hj
  ·exact h.rc j hj
  ·simp at hj;subst hj;exact hr
 ·intro e he
  rcases zAp.1 he with he|he
  ·exact h.aw e (by simp[he])
  ·exact .inr ⟨k,hr,he⟩
 ·intro e he
  have old:e∈d::ws\/(∃ j∈out,(gM hv j).name=e.name)->e∈ws++(gM hv k).deps\/∃ j∈out++[k],(gM hv j).name=e.name:=by
   rintro(h1|⟨j,hj,h1⟩)
   ·rcases zAs.1 h1 with rfl|h1
    ·exact .inr ⟨k,by simp,hn⟩
    ·exact .inl (zAp.2 (.inl h1))
   ·exact .inr ⟨j,zAp.2 (.inl hj),h1⟩
  rcases he with he|⟨j,hj,he⟩
  ·exact old (h.cl e (.inl he))
  ·rcases zAp.1 hj with hj|hj
   ·exact old (h.cl e (.inr ⟨j,hj,he⟩))
   ·simp at hj;subst hj
    exact .inl (zAp.2 (.inr he))
theorem zU4.done {out:List Nat}(h:zU4 hv wants c out [])(hN:zKg hv c):zUy hv wants c (zG8 hv out):=by
 have hsub:∀ k∈out,k∈c:=λk hk=>(h.rc k hk).mem
 have hno:zKg hv out:=by
  refine⟨λk hk=>hN.1 k (hsub k hk),zBu.2 ?_⟩
  exact h.nd.imp_of_mem λ{a b} ha hb hne e=>hne (hN.same (hsub a ha) (hsub b hb) e)
 refine⟨zRj hno,λk=>⟨λhk=>h.rc k (zMz.1 hk),λhk=>zMz.2 ?_⟩⟩
 induction hk with
 | want hd hk hn =>
  rcases h.cl _ (.inl hd) with h1|⟨j,hj,h1⟩
  ·cases h1
  ·rw[<- hN.same (hsub j hj) hk (h1.trans hn.symm)];exact hj
 | dep hi hd hk hn ih =>
  rcases h.cl _ (.inr ⟨_,ih,hd⟩) with h1|⟨j,hj,h1⟩
  ·cases h1
  ·rw[<- hN.same (hsub j hj) hk (h1.trans hn.symm)];exact hj
end
abbrev Nm:=List UInt8
def zAiG (hv:List Man)(c:List Nat)(n:Nm):List Nm:=match ofF hv c n with
 | some k=>(gM hv k).deps.map (·.name)
 | none=>[]
def zW1 (hv:List Man)(c:List Nat)(name:Nm):Nat->Nm->Option (List Nm)
 | 0,x=>if x=name then some [x] else none
 | j+1,x=>((zAiG hv c x).findSome? (zW1 hv c name j)).map (x :: ·)
def zAbs (hv:List Man)(c:List Nat)(name:Nm)(j:Nat)(ws:List Nm):Option (List Nm):=ws.findSome? (zW1 hv c name j)
def zPp:List Nm->List (Nm×List Nm)->List (Nm×List Nm)
 | _,[]=>[]
 | seen,e::t=>if e.1∈seen then zPp seen t else e::zPp (seen++[e.1]) t
def zTp (hv:List Man)(c:List Nat)(l:List (Nm×List Nm)):List (Nm×List Nm):=l.flatMap λe=>(zAiG hv c e.1).map λy=>(y,e.2++[e.1])
inductive zVE (hv:List Man) (c:List Nat) (name:Nm):List Nm->List (Nm×List Nm)->Option (List Nm)->Prop where
 | nil {seen:List Nm}:zVE hv c name seen [] none
 | hit {seen:List Nm} {l:List (Nm×List Nm)} {pr:List Nm} (h:(name,pr)∈l):zVE hv c name seen l (some (pr++[name]))
 | next {seen:List Nm} {l:List (Nm×List Nm)} {r:Option (List Nm)} (h0:l≠[]) (h:name∉l.map (·.1)) (hr:zVE hv c name (seen++(zPp seen (zTp hv c l)).map (·.1)) (zPp seen (zTp hv c l)) r):zVE hv c name seen l r
theorem zQt {β:Type}{g:Nm->Option β}{f:List Nm->β->β}:∀ {t:List (Nm×List Nm)} {seen:List Nm},(∀ y∈seen,g y=none)->t.findSome? (λe=>(g e.1).map (f e.2))=(zPp seen t).findSome? λe=>(g e.1).map (f e.2)
 | [],_,_=>rfl
 | e::t,seen,h=>by
  rw[zPp,zCx]
  by_cases he:e.1∈seen
  ·rw[if_pos he,h _ he]
   exact zQt h
  ·rw[if_neg he,zCx]
   cases hg:g e.1 with
   | some v=>rfl
   | none =>
    exact zQt λy hy=>by
     rcases zAp.1 hy with hy|hy
     ·exact h y hy
     ·simp at hy;subst hy;exact hg
theorem zR6 {e:Nm×List Nm}:∀ {t:List (Nm×List Nm)} {seen:List Nm},e∈zPp seen t->e∈t/\e.1∉seen
 | [],_,h=>by cases h
 | a::t,seen,h=>by
  rw[zPp]at h
  split at h
  ·obtain⟨h1,h2⟩:=zR6 h
   exact⟨zCY _ h1,h2⟩
  ·rename_i ha
   rcases zAs.1 h with rfl|h
   ·exact⟨by simp,ha⟩
   ·obtain⟨h1,h2⟩:=zR6 h
    exact⟨zCY _ h1,λhm=>h2 (zAp.2 (.inl hm))⟩
theorem zRk:∀ {t:List (Nm×List Nm)} {seen:List Nm},seen.Nodup->(seen++(zPp seen t).map (·.1)).Nodup
 | [],seen,h=>by simpa [zPp] using h
 | a::t,seen,h=>by
  rw[zPp]
  split
  ·exact zRk h
  ·rename_i ha
   have h2:(seen++[a.1]).Nodup:=by
    rw[zCH]
    exact⟨h,by simp,λx hx y hy e=>by simp at hy;subst hy;subst e;exact ha hx⟩
   have:=zRk (t:=t) h2
   simpa [zBg] using this
section
variable {hv:List Man} {c:List Nat} {name:Nm} {ws:List Nm}
theorem zAdj {j:Nat}:zAbs hv c name j ws=none↔∀ x∈ws,zW1 hv c name j x=none:=List.findSome?_eq_none_iff
structure zAjy (hv:List Man)(c:List Nat)(name:Nm)(ws:List Nm)(m:Nat)(seen:List Nm)(l:List (Nm×List Nm)):Prop where
 fa:∀ j,(∀ i,i<m+j->zAbs hv c name i ws=none)->zAbs hv c name (m+j) ws=l.findSome? λe=>(zW1 hv c name j e.1).map (e.2 ++ ·)
 fb:∀ y∈seen,∃ i,i<=m/\∀ j,zW1 hv c name j y≠none->zAbs hv c name (i+j) ws≠none
 fl:∀ e∈l,∀ j,zW1 hv c name j e.1≠none->zAbs hv c name (m+j) ws≠none
 fc:∀ i,i<m->zAbs hv c name i ws=none
 fd:∀ e∈l,e.2.length=m
theorem zAfG {α β γ:Type}{f:α->Option β}{g:β->γ}{l:List α}:(l.findSome? f).map g=l.findSome? λx=>(f x).map g:=by
 induction l with
 | nil=>rfl
 | cons a l ih =>
  rw[zCx,zCx]
  cases f a with
  | some b=>rfl
  | none=>exact ih
theorem zAdk {α β γ:Type}{g:α->List β}{f:β->Option γ}{l:List α}:(l.flatMap g).findSome? f=l.findSome? λx=>(g x).findSome? f:=by
 induction l with
 | nil=>rfl
 | cons a l ih =>
  rw[List.flatMap_cons,List.findSome?_append,zCx,ih]
  cases (g a).findSome? f<;>rfl
theorem zVF {α β γ:Type}{g:α->β}{f:β->Option γ}{l:List α}:(l.map g).findSome? f=l.findSome? λx=>f (g x):=by
 induction l with
 | nil=>rfl
 | cons a l ih =>
  rw[zA0,zCx,zCx,ih]
theorem zAjy.start:zAjy hv c name ws 0 ((zPp [] (ws.map λy=>(y,[]))).map (·.1)) (zPp [] (ws.map λy=>(y,[]))):=by
 have hm:∀ e∈zPp [] (ws.map λy=>(y,([]:List Nm))),e.1∈ws/\e.2=[]:=λe he=>by
  obtain⟨h1,_⟩:=zR6 he
  obtain⟨y,hy,rfl⟩:=zAo.1 h1
  exact⟨hy,rfl⟩
 have hG:∀ y∈ws,∀ j,zW1 hv c name j y≠none->zAbs hv c name j ws≠none:=λy hy j hj hn=>hj (zAdj.1 hn y hy)
 refine⟨λj _=>?_,λy hy=>?_,λe he j hj=>?_,λi hi=>absurd hi (by omega),λe he=>by rw[(hm e he).2];rfl⟩
 ·rw[<- zQt (f:=λpr p=>pr++p) (λy hy=>absurd hy (by simp)),zVF,zAi]
  unfold zAbs
  congr 1
  funext x
  cases zW1 hv c name j x<;>rfl
 ·obtain⟨e,he,rfl⟩:=zAo.1 hy
  exact⟨0,zAh _,λj hj=>by rw[zAi];exact hG _ (hm e he).1 j hj⟩
 ·rw[zAi];exact hG _ (hm e he).1 j hj
theorem zAjy.next {m:Nat}{seen:List Nm}{l:List (Nm×List Nm)}(h:zAjy hv c name ws m seen l)(hn:name∉l.map (·.1)):zAjy hv c name ws (m+1) (seen++(zPp seen (zTp hv c l)).map (·.1)) (zPp seen (zTp hv c l)):=by
 have hm:∀ e∈zPp seen (zTp hv c l),∃ x∈l,e.1∈zAiG hv c x.1/\e.2=x.2++[x.1]:=λe he=>by
  obtain⟨h1,_⟩:=zR6 he
  obtain⟨x,hx,h2⟩:=List.mem_flatMap.1 h1
  obtain⟨y,hy,rfl⟩:=zAo.1 h2
  exact⟨x,hx,hy,rfl⟩
 have hl:∀ e∈zPp seen (zTp hv c l),∀ j,zW1 hv c name j e.1≠none->zAbs hv c name (m+1+j) ws≠none:=λe he j hj=>by
  obtain⟨x,hx,hy,_⟩:=hm e he
  have:zW1 hv c name (j+1) x.1≠none:=λhno=>by
   rw[zW1,Option.map_eq_none_iff]at hno
   exact hj (List.findSome?_eq_none_iff.1 hno _ hy)
  have:=h.fl x hx (j+1) this
  rwa [show m+(j+1)=m+1+j by omega]at this
 have h0:zAbs hv c name m ws=none:=by
  have:=h.fa 0 h.fc
  rw[zAu]at this
  rw[this,List.findSome?_eq_none_iff]
  intro e he
  rw[zW1,if_neg (λe1=>hn (zAo.2 ⟨e,he,e1⟩))];rfl
 refine⟨λj hj=>?_,λy hy=>?_,hl,λi hi=>?_,λe he=>?_⟩
 ·rw[<- zQt (f:=λpr p=>pr++p) (λy hy=>?_)]
  ·have:=h.fa (j+1) (λi hi=>hj i (by omega))
   rw[show m+1+j=m+(j+1) by omega,this]
   unfold zTp
   rw[zAdk]
   congr 1
   funext e
   rw[zVF,zW1,Option.map_map,zAfG]
   congr 1
   funext y
   cases zW1 hv c name j y with
   | none=>rfl
   | some p=>simp
  ·obtain⟨i,hi,hb⟩:=h.fb y hy
   cases hf:zW1 hv c name j y with
   | none=>rfl
   | some p=>exact absurd (hj (i+j) (by omega)) (hb j (by rw[hf];simp))
 ·rcases zAp.1 hy with hy|hy
  ·obtain⟨i,hi,hb⟩:=h.fb y hy
   exact⟨i,by omega,hb⟩
  ·obtain⟨e,he,rfl⟩:=zAo.1 hy
   exact⟨m+1,zAh _,hl e he⟩
 ·by_cases e:i=m
  ·subst e;exact h0
  ·exact h.fc i (by omega)
 ·obtain⟨x,hx,_,e2⟩:=hm e he
  rw[e2,zAt,h.fd x hx];rfl
theorem zVE.ways {seen:List Nm}{l:List (Nm×List Nm)}{r:Option (List Nm)}(h:zVE hv c name seen l r):∀ {m:Nat},zAjy hv c name ws m seen l->(l.map (·.1)).Nodup->seen.Nodup ->
  (∀ p,r=some p->∃ n,p.length=n+1/\zAbs hv c name n ws=some p/\∀ i,i<n->zAbs hv c name i ws=none)/\(r=none->∀ i,zAbs hv c name i ws=none):=by
 induction h with
 | nil =>
  intro m hI _ _
  refine⟨λp e=>absurd e (by simp),λ_ i=>?_⟩
  by_cases hi:i<m
  ·exact hI.fc i hi
  ·obtain⟨j,rfl⟩:∃ j,i=m+j:=⟨i-m,by omega⟩
   induction j using Nat.strongRecOn with
   | ind j ih =>
    rw[hI.fa j λi hi'=>?_]
    ·rfl
    ·by_cases h1:i<m
     ·exact hI.fc i h1
     ·obtain⟨j',rfl⟩:∃ j',i=m+j':=⟨i-m,by omega⟩
      exact ih j' (by omega) h1
 | @hit seen l pr hm =>
  intro m hI hnd _
  refine⟨λp e=>?_,λe=>absurd e (by simp)⟩
  cases e
  refine⟨m,by rw[zAt,hI.fd _ hm];rfl,?_,hI.fc⟩
  have:=hI.fa 0 hI.fc
  rw[zAu]at this
  rw[this]
  have hone:∀ {l:List (Nm×List Nm)},(name,pr)∈l->(l.map (·.1)).Nodup->(l.findSome? λe=>(zW1 hv c name 0 e.1).map (e.2 ++ ·))=some (pr++[name]):=by
   intro l
   induction l with
   | nil=>intro h;cases h
   | cons a l ih =>
    intro h hn
    rw[zA0]at hn
    obtain⟨n1,n2⟩:=zCP.1 hn
    rw[zCx]
    by_cases ha:a.1=name
    ·rcases zAs.1 h with rfl|h
     ·rw[zW1,if_pos rfl];rfl
     ·exact absurd (zAo.2 ⟨_,h,ha.symm⟩) n1
    ·rcases zAs.1 h with rfl|h
     ·exact absurd rfl ha
     ·rw[zW1,if_neg ha]
      exact ih h n2
  exact hone hm hnd
 | @next seen l r h0 hn _ ih =>
  intro m hI hnd hs
  have:=zRk (t:=zTp hv c l) hs
  exact ih (hI.next hn) (zCH.1 this).2.1 this
end
end Go.Proofs.YticdfkoncnnmmaaGreatDoor
