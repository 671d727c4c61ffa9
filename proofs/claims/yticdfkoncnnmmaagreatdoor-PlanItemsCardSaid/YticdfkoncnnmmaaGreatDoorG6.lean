import Derived.Test.YticdfkoncnnmmaaGreatDoorGI
set_option linter.unusedSimpArgs false
set_option linter.unusedVariables false
set_option maxRecDepth 100000
namespace Go.Proofs.YticdfkoncnnmmaaGreatDoor
open Go.X
theorem zAby {H:zAd}{u:Nat}(h0:0<u)(hu:u<18446744073709551616):zAg prg zEj [.int .u64 (u:Nat)] H (zAcs H u):=by
 apply zCX
 unfold zDV
 have sh:∀ (x b:Nat),b<=64->zAh .no .shr (.int .u64 (x:Nat)) (.int .u64 (b:Nat))=some (.int .u64 ((x / 2 ^ b:Nat):Int)):=fun x b hb=>by
  rw[zPm (by omega)];exact congrArg (fun z=>some (Value.int .u64 z)) (zPo (k := .u64) (u:=x) (b:=b) hb)
 have ge:∀ (x b:Nat),zAh .no .geq (.int .u64 (x:Nat)) (.int .u64 (b:Nat))=some (.bool (decide (b<=x))):=fun x b=>by
  rw[zAi];simp only[zA9];congr 2;rw[decide_eq_decide];omega
 have ad:∀ (x b:Nat),x<=100->b<=100->zAh .no .add (.int .i64 (x:Nat)) (.int .i64 (b:Nat))=some (.int .i64 ((x+b:Nat):Int)):=fun x b h1 h2=>by
  rw[zAi];simp only[zA9];rw[zAM (by omega) (by omega)];rfl
 let I:Nat->Nat->Value->Value->zAd->Prop:=fun top m a b h=>H=h/\∃ x off:Nat,a = .int .u64 (x:Nat)/\b = .int .i64 (off:Nat)/\x=u / 2 ^ off/\0<x/\x<top/\off<=m
 have div:∀ (x off b:Nat),x=u / 2 ^ off->x / 2 ^ b=u / 2 ^ (off+b):=fun x off b h=>by rw[h,Nat.div_div_eq_div_mul,Nat.pow_add]
 refine zLf (I 4294967296 32) (fun k hk=>?_) ?_
 ·rw[show(Value.int .u64 4294967296) = .int .u64 ((4294967296:Nat):Int) from rfl,ge,zAa,zAc]
  by_cases h:4294967296<=u
  ·rw[if_pos (by simpa using h),show(Value.int .u64 32) = .int .u64 ((32:Nat):Int) from rfl,sh _ _ (by omega),zAa]
   exact hk _ _ _ ⟨rfl,u / 2 ^ 32,32,rfl,rfl,rfl,by omega,by omega,by omega⟩
  ·rw[if_neg (by simpa using h)]
   exact hk _ _ _ ⟨rfl,u,0,rfl,rfl,by simp,h0,by omega,by omega⟩
 rintro _ _ _ ⟨rfl,x,off,rfl,rfl,hx,x0,xt,ho⟩
 refine zLf (I 65536 48) (fun k hk=>?_) ?_
 ·rw[show(Value.int .u64 65536) = .int .u64 ((65536:Nat):Int) from rfl,ge,zAa,zAc]
  by_cases h:65536<=x
  ·rw[if_pos (by simpa using h),show(Value.int .u64 16) = .int .u64 ((16:Nat):Int) from rfl,sh _ _ (by omega),zAa,show(Value.int .i64 16) = .int .i64 ((16:Nat):Int) from rfl,ad _ _ (by omega) (by omega),zAa]
   exact hk _ _ _ ⟨rfl,x / 2 ^ 16,off+16,rfl,rfl,div _ _ _ hx,by omega,by omega,by omega⟩
  ·rw[if_neg (by simpa using h)]
   exact hk _ _ _ ⟨rfl,x,off,rfl,rfl,hx,x0,by omega,by omega⟩
 rintro _ _ _ ⟨rfl,x,off,rfl,rfl,hx,x0,xt,ho⟩
 refine zLf (I 256 56) (fun k hk=>?_) ?_
 ·rw[show(Value.int .u64 256) = .int .u64 ((256:Nat):Int) from rfl,ge,zAa,zAc]
  by_cases h:256<=x
  ·rw[if_pos (by simpa using h),show(Value.int .u64 8) = .int .u64 ((8:Nat):Int) from rfl,sh _ _ (by omega),zAa,show(Value.int .i64 8) = .int .i64 ((8:Nat):Int) from rfl,ad _ _ (by omega) (by omega),zAa]
   exact hk _ _ _ ⟨rfl,x / 2 ^ 8,off+8,rfl,rfl,div _ _ _ hx,by omega,by omega,by omega⟩
  ·rw[if_neg (by simpa using h)]
   exact hk _ _ _ ⟨rfl,x,off,rfl,rfl,hx,x0,by omega,by omega⟩
 rintro _ _ _ ⟨rfl,x,off,rfl,rfl,hx,x0,xt,ho⟩
 refine zNi (R:=zAcs H u) (H:=H) (off:=off) (x:=x) xt (by omega) ?_
 obtain⟨l1,l2,l3⟩:=zOK x0
 generalize zTh x=m at *
 have hp:0<2 ^ off:=Nat.pos_of_ne_zero (by simp)
 refine⟨rfl,off+m,rfl,by omega,?_,?_⟩
 ·rw[show off+m - 1=(m - 1)+off by omega,Nat.pow_add]
  rw[hx]at l2
  exact(Nat.le_div_iff_mul_le hp).1 l2
 ·rw[show off+m=m+off by omega,Nat.pow_add]
  rw[hx]at l3
  exact(Nat.div_lt_iff_lt_mul hp).1 l3
theorem zAeb:∀ m,m<65->1<=m->10 ^ (m * 78913 / 262144 - 1)<=2 ^ (m - 1)/\2 ^ m<=10 ^ (m * 78913 / 262144+1)/\m * 78913 / 262144<20:=by decide +kernel
theorem zT9 {H:zAd}{u:Nat}(h0:0<u)(hu:u<18446744073709551616)(hT:zTW H):zAg prg zB5 [.int .u64 (u:Nat)] H fun v H'=>H=H'/\∃ nd:Nat,v = .int .i64 (nd:Nat)/\1<=nd/\nd<=20/\10 ^ (nd - 1)<=u/\u<10 ^ nd:=by
 apply zDs
 unfold zC1
 refine zAk (zAby h0 hu) ?_
 rintro _ _ ⟨rfl,m,rfl,hm0,hm1,hm2⟩
 have m65:m<65:=by
  rcases Nat.lt_or_ge m 65 with h | h
  ·exact h
  ·have:2 ^ 64<=2 ^ (m - 1):=Nat.pow_le_pow_right (by omega) (by omega)
   omega
 obtain⟨b1,b2,b3⟩:=zAeb m m65 hm0
 generalize hq:m * 78913 / 262144=q at *
 refine zAk (R:=fun v H'=>H=H'/\v = .int .i64 (q:Nat)) ?_ ?_
 ·apply zDt
  unfold zC2
  have e:zAh .no .mul (.int .i64 (m:Nat)) (.int .i64 78913)=some (.int .i64 ((m * 78913:Nat):Int)):=by
   rw[zAi];simp only[zA9];rw[zAM] <;> first | rfl | omega
  rw[e,zAa,zPm (by omega),zAa]
  refine⟨rfl,?_⟩
  have:=zPo (k := .i64) (u:=m * 78913) (b:=18) (by decide)
  rw[show(2:Nat) ^ 18=262144 by rfl,hq]at this
  exact congrArg (Value.int .i64) this
 rintro _ _ ⟨rfl,rfl⟩
 rw[zPe b3,zAa,hT.tab.ld (zTV q b3),zAa]
 simp only[zAi (op := .geq),zA9,zAa]
 refine zAk (R:=fun v H'=>H=H'/\v = .int .i64 ((if 10 ^ q<=u then 1 else 0:Nat):Int)) ?_ ?_
 ·apply zDu
  unfold zC3
  rw[zAc]
  by_cases h:10 ^ q<=u
  ·rw[if_pos (by simpa using Int.ofNat_le.2 h),if_pos h];exact⟨rfl,rfl⟩
  ·rw[if_neg (by simpa using fun h'=>h (Int.ofNat_le.1 h')),if_neg h];exact⟨rfl,rfl⟩
 rintro _ _ ⟨rfl,rfl⟩
 have key:∃ nd:Nat,nd=q+(if 10 ^ q<=u then 1 else 0)/\1<=nd/\nd<=20/\10 ^ (nd - 1)<=u/\u<10 ^ nd:=by
  by_cases h:10 ^ q<=u
  ·rw[if_pos h]
   exact⟨q+1,rfl,by omega,by omega,by simpa using h,Nat.lt_of_lt_of_le hm2 b2⟩
  ·rw[if_neg h]
   have hq0:q≠0:=fun e=>h (by rw[e];simp;omega)
   exact⟨q,rfl,by omega,by omega,Nat.le_trans b1 hm1,by omega⟩
 obtain⟨nd,hnd,k3,k6,k1,k2⟩:=key
 have e:zAh .no .add (.int .i64 (q:Nat)) (.int .i64 ((if 10 ^ q<=u then 1 else 0:Nat):Int))=some (.int .i64 (nd:Nat)):=by
  rw[zAi];simp only[zA9];rw[hnd];push_cast;rw[zAM] <;> first | rfl | (split <;> omega)
 rw[e,zAa]
 exact⟨rfl,nd,rfl,k3,k6,k1,k2⟩
theorem zJK:∀ n u:Nat,(zFj n u).length=n
 | 0,_=>rfl
 | n+1,u=>by rw[zFj,List.length_append,zJK n];rfl
theorem zR4:∀ (n u i:Nat),i<n->(zFj n u)[i]? = some (zBs (u / 10 ^ (n - 1 - i) % 10))
 | 0,_,_,h=>by omega
 | n+1,u,i,h=>by
  rw[zFj]
  by_cases hi:i<n
  ·rw[List.getElem?_append_left (by rw[zJK];exact hi),zR4 n (u / 10) i hi]
   congr 2
   rw[Nat.div_div_eq_div_mul,show n+1 - 1 - i=(n - 1 - i)+1 by omega,Nat.pow_succ,Nat.mul_comm]
  ·obtain rfl:i=n:=by omega
   rw[List.getElem?_append_right (by rw[zJK];omega),zJK]
   simp
structure F10 (q u nd:Nat)(H0:zAd)(i:Nat)(h:zAd):Prop where
 ex:∃ (cs:List Value) (T:TypeId),h[q]? = some (.cells cs.toArray T (0,0))/\cs.length=24/\(cs.drop (1+i)).take (nd - i)=zAy ((zFj nd u).drop i)
 le:i<=nd
 k:Keep (· = q) H0 h
theorem F10.put {q u nd i:Nat}{H0 h:zAd}(hI:F10 q u nd H0 (i+1) h)(hn:nd<=20){d:UInt8}(hd:d=zBs (u / 10 ^ (nd - 1 - i) % 10)) :
  ∃ h',st1 h (Ptr q (1+i)) (.int .u8 d.toNat)=some h'/\F10 q u nd H0 i h':=by
 obtain⟨cs,T,hq,hl,hc⟩:=hI.ex
 have hle:=hI.le
 refine⟨_,zG4 hq d (by omega),⟨cs.set (1+i) (.int .u8 d.toNat),T,zAt hq,by simpa using hl,?_⟩,by omega,hI.k.trans (Keep.set rfl)⟩
 have hp:=zR4 nd u i (by omega)
 rw[<- hd]at hp
 have e1:(zFj nd u).drop i=d :: (zFj nd u).drop (i+1):=by
  obtain⟨hlt,he⟩:=List.getElem?_eq_some_iff.1 hp
  rw[List.drop_eq_getElem_cons hlt,he]
 have e2:(cs.set (1+i) (.int .u8 d.toNat)).drop (1+i) = .int .u8 d.toNat :: cs.drop (1+(i+1)):=by
  have hlt:1+i<(cs.set (1+i) (Value.int .u8 d.toNat)).length:=by rw[List.length_set];omega
  rw[List.drop_eq_getElem_cons hlt,List.getElem_set_self,List.drop_set_of_lt (by omega)]
  rfl
 rw[e1,e2,show nd - i=(nd - (i+1))+1 by omega,List.take_succ_cons,hc,zLJ]
theorem F10.pair {q u nd i:Nat}{H0 h:zAd}(hI:F10 q u nd H0 (i+2) h)(hn:nd<=20){y:Nat}(hy:y=u / 10 ^ (nd - (i+2)) % 100) :
  ∃ h1 h2,st1 h (Ptr q (1+(i+1))) (.int .u8 (zBs (y % 10)).toNat)=some h1/\st1 h1 (Ptr q (1+i)) (.int .u8 (zBs (y / 10)).toNat)=some h2/\F10 q u nd H0 i h2:=by
 have hle:=hI.le
 obtain⟨h1,s1,I1⟩:=hI.put hn (d:=zBs (y % 10)) (by
  rw[show nd - 1 - (i+1)=nd - (i+2) by omega];congr 1;rw[hy];omega)
 obtain⟨h2,s2,I2⟩:=I1.put hn (d:=zBs (y / 10)) (by
  rw[show nd - 1 - i=(nd - (i+2))+1 by omega,Nat.pow_succ,<- Nat.div_div_eq_div_mul];congr 1;rw[hy];omega)
 exact⟨h1,h2,s1,s2,I2⟩
theorem zLW {u nd i k:Nat}(h:i+k<=nd):u / 10 ^ (nd - i)=u / 10 ^ (nd - (i+k)) / 10 ^ k:=by
 rw[Nat.div_div_eq_div_mul,<- Nat.pow_add,show nd - (i+k)+k=nd - i by omega]
theorem r8 {x:Nat}:zAh .no .rem (.int .u64 (x:Nat)) (.int .u64 100000000)=some (.int .u64 ((x % 100000000:Nat):Int)):=by
 rw[zAi];simp only[zA9];rw[if_neg (by decide),Int.tmod_eq_emod_of_nonneg (by omega)];rfl
theorem q8 {x:Nat}(h:x<18446744073709551616):zAh .no .quo (.int .u64 (x:Nat)) (.int .u64 100000000)=some (.int .u64 ((x / 100000000:Nat):Int)):=by
 rw[zAi];simp only[zA9];rw[if_neg (by decide),Int.tdiv_eq_ediv_of_nonneg (by omega),zSE (by omega) (by omega)];rfl
theorem zAh8 {k:IntKind}{x:Nat}(h:x<4294967296):cvI .u32 (.int k (x:Nat))=some (.int .u32 (x:Nat)):=by rw[zDr,zLU (by omega) (by omega)]
theorem geN {n m:Nat}:zAh .no .geq (.int .i64 (n:Nat)) (.int .i64 (m:Nat))=some (.bool (decide (m<=n))):=by
 rw[zAi];simp only[zA9];congr 2;rw[decide_eq_decide];omega
theorem zAhp {n m:Nat}(h:m<=n)(h2:n<=1000):zAh .no .sub (.int .i64 (n:Nat)) (.int .i64 (m:Nat))=some (.int .i64 ((n - m:Nat):Int)):=by
 rw[zAi];simp only[zA9];rw[zAM (by omega) (by omega)];congr 2;omega
set_option maxHeartbeats 2000000 in
theorem zVi {H:zAd}{q nd u:Nat}{cs:List Value}{T:TypeId}(hq:H[q]? = some (.cells cs.toArray T (0,0)))(hl:cs.length=24)(h20:nd<=20)(hu:u<10 ^ nd)(hu64:u<18446744073709551616) :
  zAg prg zBC [.slice (some ⟨q,1,none⟩) nd 23,.int .u64 (u:Nat)] H fun _ H'=>∃ (cs':List Value) (T':TypeId),H'[q]? = some (.cells cs'.toArray T' (0,0))/\cs'.length=24/\(cs'.drop 1).take nd=zAy (zFj nd u)/\Keep (· = q) H H':=by
 apply zCW
 unfold zCs
 refine zAa.2 ?_
 have I0:F10 q u nd H nd H:=⟨⟨cs,T,hq,hl,by rw[Nat.sub_self,List.take_zero,List.drop_eq_nil_of_le (by rw[zJK];omega)];rfl⟩,Nat.le_refl _,Keep.refl⟩
 have small:∀ i,i<=nd->u / 10 ^ (nd - i)<10 ^ i:=fun i hi=>by
  have hp:0<10 ^ (nd - i):=Nat.pow_pos (by omega)
  rw[Nat.div_lt_iff_lt_mul hp,<- Nat.pow_add,show i+(nd - i)=nd by omega];exact hu
 have ge8:∀ n:Nat,zAh .no .geq (.int .i64 (n:Nat)) (.int .i64 8)=some (.bool (decide (8<=n))):=fun n=>geN (m:=8)
 have ge4:∀ n:Nat,zAh .no .geq (.int .i64 (n:Nat)) (.int .i64 4)=some (.bool (decide (4<=n))):=fun n=>geN (m:=4)
 have ge2:∀ n:Nat,zAh .no .geq (.int .i64 (n:Nat)) (.int .i64 2)=some (.bool (decide (2<=n))):=fun n=>geN (m:=2)
 have ix:∀ i:Nat,i<nd->ixS 1 (.slice (some ⟨q,1,none⟩) nd 23) (.int .i64 (i:Nat))=some (Ptr q (1+i)):=fun i hi=>zHJ hi
 refine zLf (fun x n h=>∃ i:Nat,i<8/\x = .int .u64 ((u / 10 ^ (nd - i):Nat):Int)/\n = .int .i64 (i:Nat)/\F10 q u nd H i h) (fun k hk=>?_) ?_
 ·refine zTf (fun x n h=>∃ i:Nat,x = .int .u64 ((u / 10 ^ (nd - i):Nat):Int)/\n = .int .i64 (i:Nat)/\F10 q u nd H i h) (fun _ n _=>match n with | .int _ t=>t.toNat | _=>0) ⟨nd,by simp,rfl,I0⟩ ?_
  rintro _ _ h ⟨i,rfl,rfl,hI⟩ k' hk'
  have hle:=hI.le
  rw[ge8,zAa,zAc]
  by_cases h8:8<=i
  ·rw[if_pos (by simpa using h8)]
   obtain⟨j,rfl⟩:∃ j,i=j+8:=⟨i - 8,by omega⟩
   have hx64:u / 10 ^ (nd - (j+8))<18446744073709551616:=Nat.lt_of_le_of_lt (Nat.div_le_self _ _) hu64
   have p6:=zLW (u:=u) (nd:=nd) (i:=j+6) (k:=2) (by omega)
   have p4:=zLW (u:=u) (nd:=nd) (i:=j+4) (k:=4) (by omega)
   have p2:=zLW (u:=u) (nd:=nd) (i:=j+2) (k:=6) (by omega)
   have p0:=zLW (u:=u) (nd:=nd) (i:=j) (k:=8) (by omega)
   simp only[Nat.add_assoc,Nat.reduceAdd]at p6 p4 p2
   generalize hX:u / 10 ^ (nd - (j+8))=x at *
   generalize hA:x % 100000000=A
   have hAlt:A<100000000:=by omega
   obtain⟨g1,g2,w1,w2,J1⟩:=hI.pair (i:=j+6) h20 (y:=A % 10000 % 100) (by rw[hX];omega)
   obtain⟨g3,g4,w3,w4,J2⟩:=J1.pair (i:=j+4) h20 (y:=A % 10000 / 100) (by rw[show j+4+2=j+6 from rfl,p6];omega)
   obtain⟨g5,g6,w5,w6,J3⟩:=J2.pair (i:=j+2) h20 (y:=A / 10000 % 100) (by rw[show j+2+2=j+4 from rfl,p4];omega)
   obtain⟨g7,g8,w7,w8,J4⟩:=J3.pair (i:=j) h20 (y:=A / 10000 / 100) (by rw[p2];omega)
   have sb:∀ m:Nat,m<=8->zAh .no .sub (.int .i64 ((j+8:Nat):Int)) (.int .i64 (m:Nat))=some (.int .i64 ((j+8 - m:Nat):Int)):=fun m hm=>zAhp (by omega) (by omega)
   have b1:zAh .no .sub (.int .i64 ((j+8:Nat):Int)) (.int .i64 1)=some (.int .i64 ((j+6+1:Nat):Int)):=sb 1 (by omega)
   have b2:zAh .no .sub (.int .i64 ((j+8:Nat):Int)) (.int .i64 2)=some (.int .i64 ((j+6:Nat):Int)):=sb 2 (by omega)
   have b3:zAh .no .sub (.int .i64 ((j+8:Nat):Int)) (.int .i64 3)=some (.int .i64 ((j+4+1:Nat):Int)):=sb 3 (by omega)
   have b4:zAh .no .sub (.int .i64 ((j+8:Nat):Int)) (.int .i64 4)=some (.int .i64 ((j+4:Nat):Int)):=sb 4 (by omega)
   have b5:zAh .no .sub (.int .i64 ((j+8:Nat):Int)) (.int .i64 5)=some (.int .i64 ((j+2+1:Nat):Int)):=sb 5 (by omega)
   have b6:zAh .no .sub (.int .i64 ((j+8:Nat):Int)) (.int .i64 6)=some (.int .i64 ((j+2:Nat):Int)):=sb 6 (by omega)
   have b7:zAh .no .sub (.int .i64 ((j+8:Nat):Int)) (.int .i64 7)=some (.int .i64 ((j+1:Nat):Int)):=sb 7 (by omega)
   have b8:zAh .no .sub (.int .i64 ((j+8:Nat):Int)) (.int .i64 8)=some (.int .i64 ((j:Nat):Int)):=sb 8 (by omega)
   rw[r8,hA,zAa,zAh8 (by omega),zAa,q8 hx64,zAa,zAfv (by omega),zAa,zAfu,zAa,zAa6 (by omega),zAa,m2 (by omega),zAa,zAa5,zAa,m2 (by omega),zAa,zAa6 (by omega),zAa,m2 (by omega),zAa,zAa5,zAa,m2 (by omega),zAa]
   have s1:=sm1 (m:=A % 10000 % 100) (by omega)
   have s2:=sm0 (m:=A % 10000 % 100) (by omega)
   have s3:=sm1 (m:=A % 10000 / 100) (by omega)
   have s4:=sm0 (m:=A % 10000 / 100) (by omega)
   have s5:=sm1 (m:=A / 10000 % 100) (by omega)
   have s6:=sm0 (m:=A / 10000 % 100) (by omega)
   have s7:=sm1 (m:=A / 10000 / 100) (by omega)
   have s8:=sm0 (m:=A / 10000 / 100) (by omega)
   unfold SM at s1 s2 s3 s4 s5 s6 s7 s8
   rw[b1,zAa,b2,zAa,p1 (by omega),zAa,s1,zAa,s2,zAa,ix _ (by omega),zAa,w1,zAm,ix _ (by omega),zAa,w2,zAm]
   rw[b3,zAa,b4,zAa,p1 (by omega),zAa,s3,zAa,s4,zAa,ix _ (by omega),zAa,w3,zAm,ix _ (by omega),zAa,w4,zAm]
   rw[b5,zAa,b6,zAa,p1 (by omega),zAa,s5,zAa,s6,zAa,ix _ (by omega),zAa,w5,zAm,ix _ (by omega),zAa,w6,zAm]
   rw[b7,zAa,b8,zAa,p1 (by omega),zAa,s7,zAa,s8,zAa,ix _ (by omega),zAa,w7,zAm,ix _ (by omega),zAa,w8,zAm,zAa]
   refine hk' _ _ _ ⟨j,by rw[p0],rfl,J4⟩ ?_
   show j<j+8
   omega
  ·rw[if_neg (by simpa using h8)]
   exact hk _ _ _ ⟨i,by omega,rfl,rfl,hI⟩
 rintro _ _ h2 ⟨i,hi8,rfl,rfl,hI⟩
 have hle:=hI.le
 have hsm:=small i hle
 have h7:10 ^ i<=10 ^ 7:=Nat.pow_le_pow_right (by omega) (by omega)
 rw[zAh8 (by omega),zAa]
 refine zLf (fun n x h=>∃ i:Nat,i<4/\n = .int .i64 (i:Nat)/\x = .int .u32 ((u / 10 ^ (nd - i):Nat):Int)/\F10 q u nd H i h) (fun k hk=>?_) ?_
 ·rw[ge4,zAa,zAc]
  by_cases h4:4<=i
  ·rw[if_pos (by simpa using h4)]
   obtain⟨j,rfl⟩:∃ j,i=j+4:=⟨i - 4,by omega⟩
   have p2:=zLW (u:=u) (nd:=nd) (i:=j+2) (k:=2) (by omega)
   have p0:=zLW (u:=u) (nd:=nd) (i:=j) (k:=4) (by omega)
   simp only[Nat.add_assoc,Nat.reduceAdd]at p2
   generalize hX:u / 10 ^ (nd - (j+4))=x at *
   generalize hA:x % 10000=A
   obtain⟨g1,g2,w1,w2,J1⟩:=hI.pair (i:=j+2) h20 (y:=A % 100) (by rw[hX];omega)
   obtain⟨g3,g4,w3,w4,J2⟩:=J1.pair (i:=j) h20 (y:=A / 100) (by rw[p2];omega)
   have sb:∀ m:Nat,m<=4->zAh .no .sub (.int .i64 ((j+4:Nat):Int)) (.int .i64 (m:Nat))=some (.int .i64 ((j+4 - m:Nat):Int)):=fun m hm=>zAhp (by omega) (by omega)
   have b1:zAh .no .sub (.int .i64 ((j+4:Nat):Int)) (.int .i64 1)=some (.int .i64 ((j+2+1:Nat):Int)):=sb 1 (by omega)
   have b2:zAh .no .sub (.int .i64 ((j+4:Nat):Int)) (.int .i64 2)=some (.int .i64 ((j+2:Nat):Int)):=sb 2 (by omega)
   have b3:zAh .no .sub (.int .i64 ((j+4:Nat):Int)) (.int .i64 3)=some (.int .i64 ((j+1:Nat):Int)):=sb 3 (by omega)
   have b4:zAh .no .sub (.int .i64 ((j+4:Nat):Int)) (.int .i64 4)=some (.int .i64 ((j:Nat):Int)):=sb 4 (by omega)
   rw[zAfu,hA,zAa,zAfv (by omega),zAa,zAa6 (by omega),zAa,m2 (by omega),zAa,zAa5,zAa,m2 (by omega),zAa]
   have s1:=sm1 (m:=A % 100) (by omega)
   have s2:=sm0 (m:=A % 100) (by omega)
   have s3:=sm1 (m:=A / 100) (by omega)
   have s4:=sm0 (m:=A / 100) (by omega)
   unfold SM at s1 s2 s3 s4
   rw[b1,zAa,b2,zAa,p1 (by omega),zAa,s1,zAa,s2,zAa,ix _ (by omega),zAa,w1,zAm,ix _ (by omega),zAa,w2,zAm]
   rw[b3,zAa,b4,zAa,p1 (by omega),zAa,s3,zAa,s4,zAa,ix _ (by omega),zAa,w3,zAm,ix _ (by omega),zAa,w4,zAm,zAa]
   exact hk _ _ _ ⟨j,by omega,rfl,by rw[p0],J2⟩
  ·rw[if_neg (by simpa using h4)]
   exact hk _ _ _ ⟨i,by omega,rfl,rfl,hI⟩
 clear hI hle hsm h7
 rintro _ _ h3 ⟨i,hi4,rfl,rfl,hI⟩
 have hle:=hI.le
 have hsm:=small i hle
 have h7:10 ^ i<=10 ^ 3:=Nat.pow_le_pow_right (by omega) (by omega)
 refine zLf (fun n x h=>∃ i:Nat,i<2/\n = .int .i64 (i:Nat)/\x = .int .u32 ((u / 10 ^ (nd - i):Nat):Int)/\F10 q u nd H i h) (fun k hk=>?_) ?_
 ·rw[ge2,zAa,zAc]
  by_cases h4:2<=i
  ·rw[if_pos (by simpa using h4)]
   obtain⟨j,rfl⟩:∃ j,i=j+2:=⟨i - 2,by omega⟩
   have p0:=zLW (u:=u) (nd:=nd) (i:=j) (k:=2) (by omega)
   generalize hX:u / 10 ^ (nd - (j+2))=x at *
   generalize hA:x % 100=A
   obtain⟨g1,g2,w1,w2,J1⟩:=hI.pair (i:=j) h20 (y:=A) (by rw[hX];omega)
   have sb:∀ m:Nat,m<=2->zAh .no .sub (.int .i64 ((j+2:Nat):Int)) (.int .i64 (m:Nat))=some (.int .i64 ((j+2 - m:Nat):Int)):=fun m hm=>zAhp (by omega) (by omega)
   have b1:zAh .no .sub (.int .i64 ((j+2:Nat):Int)) (.int .i64 1)=some (.int .i64 ((j+1:Nat):Int)):=sb 1 (by omega)
   have b2:zAh .no .sub (.int .i64 ((j+2:Nat):Int)) (.int .i64 2)=some (.int .i64 ((j:Nat):Int)):=sb 2 (by omega)
   rw[zAa5,hA,zAa,m2 (by omega),zAa,zAa6 (by omega),zAa]
   have s1:=sm1 (m:=A) (by omega)
   have s2:=sm0 (m:=A) (by omega)
   unfold SM at s1 s2
   rw[b1,zAa,b2,zAa,p1 (by omega),zAa,s1,zAa,s2,zAa,ix _ (by omega),zAa,w1,zAm,ix _ (by omega),zAa,w2,zAm,zAa]
   exact hk _ _ _ ⟨j,by omega,rfl,by rw[p0],J1⟩
  ·rw[if_neg (by simpa using h4)]
   exact hk _ _ _ ⟨i,by omega,rfl,rfl,hI⟩
 clear hI hle hsm h7
 rintro _ _ h4 ⟨i,hi2,rfl,rfl,hI⟩
 have hle:=hI.le
 have gt0:zAh .no .gtr (.int .i64 (i:Nat)) (.int .i64 0)=some (.bool (decide (0<i))):=by
  rw[zAi];simp only[zA9];congr 2;rw[decide_eq_decide];omega
 rw[gt0,zAa,zAc]
 by_cases h0:0<i
 ·rw[if_pos (by simpa using h0)]
  obtain rfl:i=1:=by omega
  have hsm:=small 1 hle
  have hlt:u / 10 ^ (nd - 1)<10:=hsm
  obtain⟨g1,w1,J1⟩:=hI.put (i:=0) h20 (d:=zBs (u / 10 ^ (nd - 1))) (by rw[Nat.sub_zero,Nat.mod_eq_of_lt hlt])
  have i0:ixS 1 (.slice (some ⟨q,1,none⟩) nd 23) (.int .i64 0)=some (Ptr q (1+0)):=ix 0 (by omega)
  simp only[zAi (op := .add),zA9,zAa,zDr,zPn hlt,i0,w1,zAm]
  obtain⟨cs',T',e1,e2,e3⟩:=J1.ex
  exact⟨cs',T',e1,e2,by simpa using e3,J1.k⟩
 ·rw[if_neg (by simpa using h0)]
  obtain rfl:i=0:=by omega
  obtain⟨cs',T',e1,e2,e3⟩:=hI.ex
  exact⟨cs',T',e1,e2,by simpa using e3,hI.k⟩
def zTi (n:Int):List UInt8:=if n<0 then 45 :: zEZ (-n).toNat else zEZ n.toNat
theorem zAec {n:Int}(h1 : -9223372036854775808<=n)(h2:n<=9223372036854775807){H:zAd}(hT:zTW H):zAg prg zDi [.int .i64 n] H fun u H'=>u=str (zTi n)/\Keep (fun _=>False) H H':=by
 by_cases hs:0<=n/\n<100
 ·obtain⟨m,rfl⟩:∃ m:Nat,n=m:=⟨n.toNat,by omega⟩
  have:zTi (m:Int)=zEZ m:=by unfold zTi;rw[if_neg (by omega)];rfl
  rw[this]
  exact zQS (by omega)
 apply zFC
 unfold zHx
 refine zAk (R:=fun u H'=>u=str (zTi n)/\Keep (fun _=>False) H H') ?_ fun u h hR=>hR
 apply zCK
 unfold zCV
 refine zAk (R:=fun u H'=>u=str (zTi n)/\Keep (fun _=>False) H H') ?_ fun u h hR=>hR
 apply zBW
 unfold zBS
 generalize hm:n.natAbs=m
 have hm64:m<18446744073709551616:=by omega
 have hm0:0<m:=by omega
 have e1:zAh .no .eql (.int .i64 10) (.int .i64 10)=some (.bool true):=rfl
 have e2:zAh .no .leq (.int .i64 0) (.int .i64 n)=some (.bool (decide (0<=n))):=by rw[zAi];rfl
 have e3:zAh .no .lss (.int .i64 n) (.int .i64 100)=some (.bool (decide (n<100))):=by rw[zAi];rfl
 have e4:zAh .no .lss (.int .i64 n) (.int .i64 0)=some (.bool (decide (n<0))):=by rw[zAi];rfl
 have hbig:zAC (.bool (decide (0<=n))) (.bool (decide (n<100))) (.bool false)=some (.bool false):=by
  rw[zAe]
  by_cases h:0<=n
  ·rw[if_pos (by simpa using h),decide_eq_false (by omega)]
  ·rw[if_neg (by simpa using h)]
 rw[e1,zAa,zAc,if_pos rfl,e2,zAa]
 refine zL2 (fun u h=>(u = .bool (decide (n<100))\/¬ 0<=n)/\H=h) (fun k hk=>?_) ?_
 ·by_cases h:0<=n
  ·rw[zAl,if_pos (by simpa using h),e3,zAa]
   exact hk _ _ ⟨.inl rfl,rfl⟩
  ·rw[zAl,if_neg (by simpa using h)]
   exact hk _ _ ⟨.inr h,rfl⟩
 rintro u _ ⟨hu,rfl⟩
 have hp:zAC (.bool (decide (0<=n))) u (.bool false)=some (.bool false):=by
  rw[zAe]
  by_cases h:0<=n
  ·rw[if_pos (by simpa using h)]
   rcases hu with rfl | hu
   ·rw[decide_eq_false (by omega)]
   ·exact absurd h hu
  ·rw[if_neg (by simpa using h)]
 rw[hp,zAa,zAc,if_neg (by decide),zAfz,zAs]
 generalize hH1:H.push (.cells (zAy (List.replicate 24 0)).toArray zGJ (0,0))=H1
 have k1:Keep (fun _=>False) H H1:=by rw[<- hH1];exact Keep.push
 have hq1:H1[H.size]? = some (.cells (zAy (List.replicate 24 0)).toArray zGJ (0,0)):=by rw[<- hH1];exact zAR
 rw[zDr,zAa]
 refine zL2 (fun u h=>u = .int .u64 (m:Nat)/\H1=h) (fun k hk=>?_) ?_
 ·rw[e4,zAa,zAc]
  by_cases hneg:n<0
  ·rw[if_pos (by simpa using hneg)]
   have e5:unV .neg (.int .u64 (IntKind.u64.wrap n))=some (.int .u64 (m:Nat)):=by
    simp only[unV]
    congr 2
    simp only[IntKind.wrap,IntKind.bits,IntKind.signed]
    simp
    omega
   rw[e5,zAa]
   exact hk _ _ ⟨rfl,rfl⟩
  ·rw[if_neg (by simpa using hneg)]
   have e5:IntKind.u64.wrap n=(m:Nat):=by rw[zSE (by omega) (by omega)];omega
   exact hk _ _ ⟨by rw[e5],rfl⟩
 rintro _ _ ⟨rfl,rfl⟩
 refine zAk (zT9 hm0 hm64 (hT.keep k1 fun _ h=>h.elim)) ?_
 rintro _ _ ⟨rfl,nd,rfl,d1,d20,p1,p2⟩
 have a1:zAh .no .add (.int .i64 1) (.int .i64 (nd:Nat))=some (.int .i64 ((1+nd:Nat):Int)):=by
  rw[zAi];simp only[zA9];rw[zAM] <;> first | rfl | omega
 have hcs:nd=1\/nd=2\/nd=3\/nd=4\/nd=5\/nd=6\/nd=7\/nd=8\/nd=9\/nd=10\/nd=11\/nd=12\/nd=13\/nd=14\/nd=15\/nd=16\/nd=17\/nd=18\/nd=19\/nd=20:=by omega
 have sl:slA 24 1 (.pointer (some ⟨H.size,0,none⟩)) (some (.int .i64 1)) (some (.int .i64 ((1+nd:Nat):Int))) none=some (.slice (some ⟨H.size,1,none⟩) nd 23):=by
  rcases hcs with rfl | rfl | rfl | rfl | rfl | rfl | rfl | rfl | rfl | rfl | rfl | rfl | rfl | rfl | rfl | rfl | rfl | rfl | rfl | rfl <;> rfl
 have sl0:slA 24 1 (.pointer (some ⟨H.size,0,none⟩)) none (some (.int .i64 ((1+nd:Nat):Int))) none=some (.slice (some ⟨H.size,0,none⟩) (1+nd) 24):=by
  rcases hcs with rfl | rfl | rfl | rfl | rfl | rfl | rfl | rfl | rfl | rfl | rfl | rfl | rfl | rfl | rfl | rfl | rfl | rfl | rfl | rfl <;> rfl
 rw[a1,zAa,sl,zAa]
 refine zAk (zVi hq1 (by simp) d20 p2 hm64) ?_
 rintro _ h8 ⟨cs,T',hq8,hl8,hd,k8⟩
 obtain⟨e,rfl⟩:∃ e,nd=e+1:=⟨nd - 1,by omega⟩
 have hpl:(zFj (e+1) m).length=e+1:=zJK _ _
 have hdec:zFj (e+1) m=zEZ m:=(zSF e m (by simpa using p1) p2).symm
 have kk:Keep (fun _=>False) H h8:=⟨Nat.le_trans k1.1 k8.1,fun i hi _=>by rw[k8.2 i (Nat.lt_of_lt_of_le hi k1.1) (by omega),k1.2 i hi id]⟩
 rw[e4,zAa,zAc]
 by_cases hneg:n<0
 ·rw[if_pos (by simpa using hneg)]
  have ix:ixA 24 1 (.pointer (some ⟨H.size,0,none⟩)) (.int .i64 0)=some (Ptr H.size 0):=rfl
  have st:=zG4 (i:=0) hq8 45 (by omega)
  have st':st1 h8 (Ptr H.size 0) (.int .u8 45)=some (h8.setIfInBounds H.size (.cells (cs.set 0 (.int .u8 ((45:UInt8).toNat:Int))).toArray T' (0,0))):=st
  rw[ix,zAa,st',zAm,zAa,sl0,zAa]
  have hq9:=zAt (y := .cells (cs.set 0 (.int .u8 ((45:UInt8).toNat:Int))).toArray T' (0,0)) hq8
  have hb:Bs (h8.setIfInBounds H.size (.cells (cs.set 0 (.int .u8 ((45:UInt8).toNat:Int))).toArray T' (0,0))) (.slice (some ⟨H.size,0,none⟩) (1+(e+1)) 24) (45 :: zFj (e+1) m):=by
   refine Bs.mk hq9 (by rw[List.length_cons,hpl];omega) (by simp[hl8];omega) ?_
   cases cs with
   | nil=>simp at hl8
   | cons c cs =>
    have hd':cs.take (e+1)=zAy (zFj (e+1) m):=by simpa using hd
    rw[List.toList_toArray,List.set_cons_zero,List.drop_zero,show 1+(e+1)=(e+1)+1 by omega,List.take_succ_cons,hd',zLJ]
  rw[hb.b2s (fun s h=>by cases h),zAa]
  have hi:zTi n=45 :: zEZ m:=by unfold zTi;rw[if_pos hneg,show(-n).toNat=m by omega]
  refine⟨by rw[hi,hdec],?_⟩
  exact⟨by simp only[Array.size_setIfInBounds];exact kk.1,fun i hi _=>by rw[Array.getElem?_setIfInBounds,if_neg (by omega),kk.2 i hi id]⟩
 ·rw[if_neg (by simpa using hneg)]
  have hb:Bs h8 (.slice (some ⟨H.size,1,none⟩) (e+1) 23) (zFj (e+1) m):=Bs.mk hq8 hpl.symm (by simp[hl8];omega) (by simpa using hd)
  simp only[sl,hb.b2s (fun s h=>by cases h),zAa]
  have hi:zTi n=zEZ m:=by unfold zTi;rw[if_neg hneg,show n.toNat=m by omega]
  exact⟨by rw[hi,hdec],kk⟩
end Go.Proofs.YticdfkoncnnmmaaGreatDoor
