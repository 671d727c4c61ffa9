import Derived.Test.YticdfkoncnnmmaaGreatDoorH2
import Derived.Test.YticdfkoncnnmmaaGreatDoorGI
set_option linter.unusedSimpArgs false
set_option linter.unusedVariables false
set_option maxRecDepth 100000
set_option linter.unusedSectionVars false
namespace Go.Proofs.YticdfkoncnnmmaaGreatDoor
open Go.X Go.X.Diff
open Go.Sort (swp PermIn SortedIn Below SWO)
theorem _root_.Go.X.Keep.fr {F S:zA1}{a b c:zAx}(h:Keep F a b)(k:Keep S b c)(hs:∀ x,S x->F x\/a.size<=x):Keep F a c :=
 ⟨zBh h.1 k.1,λi hi hn=>by
  rw[k.2 i (zAM hi h.1) (λhS=>(hs i hS).elim hn λh=>by omega),h.2 i hi hn]⟩
def Cnt (h:zAx)(q:Nat):Prop:=∃ n:Int,At h q [.int .i64 n]
theorem Cnt.keep {h h':zAx}{q:Nat}{K:zA1}(c:Cnt h q)(k:Keep K h h')(hk:¬ K q):Cnt h' q:=by obtain⟨n,a⟩:=c;exact⟨n,a.keep k hk⟩
section
variable {S:zLz} {α:Type} [Inhabited α] {lt:α->α->Bool} {enc:α->List Value} {evv:α->Value} {G:zAx->Prop} {F:zA1} {v:Value}
structure Pst (S:zLz)(F:zA1)(v:Value)(enc:α->List Value)(G:zAx->Prop)(H0:zAx)(q:Nat)(d:Array α)(h:zAx):Prop where
 r:zFT S.n F h v enc d
 c:Cnt h q
 k:Keep F H0 h
 g:∀ h,Keep F H0 h->G h
 q0:H0.size<=q
 nq:¬ F q
theorem Pst.go {H0 h h':zAx}{q:Nat}{d:Array α}(p:Pst S F v enc G H0 q d h)(k:Keep zAK h h'):Pst S F v enc G H0 q d h' :=
 ⟨p.r.keep k λ_ _=>id,p.c.keep k id,p.k.fr k λ_ h=>h.elim,p.g,p.q0,p.nq⟩
theorem zAdG (C:zNW S)(ok:zIW S enc evv lt G F v){H0 H:zAx}{q a b:Nat}{d:Array α}(p:Pst S F v enc G H0 q d H)(ha:a<d.size)(hb:b<d.size) :
  zAA prg S.fOrd ([v,.int .i64 (a:Nat),.int .i64 (b:Nat),Ptr q 0]++S.ex) H λu H'=>(∃ x y:Nat,u = .tuple #[.int .i64 (x:Nat),.int .i64 (y:Nat)]/\((x=a/\y=b)\/(x=b/\y=a)))/\Pst S F v enc G H0 q d H':=by
 refine C.ord ?_
 unfold zAm6
 obtain⟨pa,hpa,la⟩:=ok.get p.r ha
 obtain⟨pb,hpb,lb⟩:=ok.get p.r hb
 rw[hpb .i64,zAa,lb,zAa,hpa .i64,zAa,la,zAa]
 refine ok.cmp (p.g _ p.k) λh1 k1=>?_
 have p1:=p.go k1
 rw[zAl]
 split
 ·obtain⟨n,an⟩:=p1.c
  have hx:∃ m,zAB .no .add (.int .i64 n) (.int .i64 1)=some (.int .i64 m):=⟨_,by rw[zAJ];rfl⟩
  obtain⟨m,hm⟩:=hx
  have hst:=an.st1 (i:=0) (v := .int .i64 m) (by simp) rfl
  obtain⟨h2,e2,a2,k2⟩:=hst
  rw[zHX,zAa,an.ld (i:=0) rfl,zAa,hm,zAa,zAa,e2,zAW]
  refine⟨⟨b,a,rfl,.inr ⟨rfl,rfl⟩⟩,p1.r.keep k2 λb hb e=>p1.nq (e ▸ hb),⟨m,a2⟩,p1.k.fr k2 λx hx => .inr (by rw[hx];exact p1.q0),p1.g,p1.q0,p1.nq⟩
 ·exact⟨⟨a,b,rfl,.inl ⟨rfl,rfl⟩⟩,p1⟩
theorem zAg8 (C:zNW S)(ok:zIW S enc evv lt G F v){H0 H:zAx}{q a b c:Nat}{d:Array α}(p:Pst S F v enc G H0 q d H)(ha:a<d.size)(hb:b<d.size)(hc:c<d.size) :
  zAA prg S.fMed ([v,.int .i64 (a:Nat),.int .i64 (b:Nat),.int .i64 (c:Nat),Ptr q 0]++S.ex) H λu H'=>(∃ x:Nat,u = .int .i64 (x:Nat)/\(x=a\/x=b\/x=c))/\Pst S F v enc G H0 q d H':=by
 refine C.med ?_
 unfold zAm7
 have e0:∀ x y:Value,zE0 0 (.tuple #[x,y])=some x:=λ_ _=>rfl
 have e1:∀ x y:Value,zE0 1 (.tuple #[x,y])=some y:=λ_ _=>rfl
 refine zAI (zAdG C ok p ha hb) ?_
 rintro _ h1 ⟨⟨x1,y1,rfl,hxy1⟩,p1⟩
 rw[e0,zAa,e1,zAa]
 refine zAI (zAdG C ok p1 (a:=y1) (b:=c) (by omega) hc) ?_
 rintro _ h2 ⟨⟨x2,y2,rfl,hxy2⟩,p2⟩
 rw[e0,zAa,e1,zAa]
 refine zAI (zAdG C ok p2 (a:=x1) (b:=x2) (by omega) (by omega)) ?_
 rintro _ h3 ⟨⟨x3,y3,rfl,hxy3⟩,p3⟩
 rw[e0,zAa,e1,zAa]
 exact⟨⟨y3,rfl,by omega⟩,p3⟩
theorem zZj (C:zNW S)(ok:zIW S enc evv lt G F v){H0 H:zAx}{q a:Nat}{d:Array α}(p:Pst S F v enc G H0 q d H)(ha:1<=a)(hb:a+1<d.size)(hs:d.size<=900000) :
  zAA prg S.fMedA ([v,.int .i64 (a:Nat),Ptr q 0]++S.ex) H λu H'=>(∃ x:Nat,u = .int .i64 (x:Nat)/\a-1<=x/\x<=a+1)/\Pst S F v enc G H0 q d H':=by
 refine C.medA ?_
 unfold zAkD
 rw[zL9 ha (by omega),zAa,zBV (by omega),zAa]
 refine zAI (zAg8 C ok p (a:=a-1) (b:=a) (c:=a+1) (by omega) (by omega) hb) ?_
 rintro _ h1 ⟨⟨x,rfl,hx⟩,p1⟩
 exact⟨⟨x,rfl,by omega,by omega⟩,p1⟩
theorem zAkJ:zBI prg zIC=some #[Value.int .i64 0]:=by kernel_rfl
set_option maxHeartbeats 2000000 in
theorem zAkK (C:zNW S)(ok:zIW S enc evv lt G F v){H:zAx}{d:Array α}(hv:zFT S.n F H v enc d)(hG:∀ h,Keep F H h->G h)(hF:¬ F H.size){a b:Nat}(hb:b<=d.size)(hs:d.size<=900000)(hab:a+12<b) :
  zAA prg S.fPiv ([v,.int .i64 (a:Nat),.int .i64 (b:Nat)]++S.ex) H λu H'=>(∃ (p:Nat) (n:Int),u = .tuple #[.int .i64 (p:Nat),.int .i64 n]/\a<=p/\p<b)/\zFT S.n F H' v enc d/\Keep F H H':=by
 refine C.piv ?_
 unfold zAm8
 have q4:zAB .no .quo (.int .i64 ((b-a:Nat):Int)) (.int .i64 4)=some (.int .i64 (((b-a) / 4:Nat):Int)):=zAlx (m:=4) (by omega) (by omega)
 have m1:zAB .no .mul (.int .i64 (((b-a) / 4:Nat):Int)) (.int .i64 1)=some (.int .i64 (((b-a) / 4*1:Nat):Int)):=zAfO (m:=1) (by omega)
 have m2:zAB .no .mul (.int .i64 (((b-a) / 4:Nat):Int)) (.int .i64 2)=some (.int .i64 (((b-a) / 4*2:Nat):Int)):=zAfO (m:=2) (by omega)
 have m3:zAB .no .mul (.int .i64 (((b-a) / 4:Nat):Int)) (.int .i64 3)=some (.int .i64 (((b-a) / 4*3:Nat):Int)):=zAfO (m:=3) (by omega)
 have a1:zAB .no .add (.int .i64 (a:Nat)) (.int .i64 (((b-a) / 4*1:Nat):Int))=some (.int .i64 ((a+(b-a) / 4*1:Nat):Int)):=zWL (by omega)
 have a2:zAB .no .add (.int .i64 (a:Nat)) (.int .i64 (((b-a) / 4*2:Nat):Int))=some (.int .i64 ((a+(b-a) / 4*2:Nat):Int)):=zWL (by omega)
 have a3:zAB .no .add (.int .i64 (a:Nat)) (.int .i64 (((b-a) / 4*3:Nat):Int))=some (.int .i64 ((a+(b-a) / 4*3:Nat):Int)):=zWL (by omega)
 rw[zSW (by omega) (by omega),zAa,zAkJ,zBb]
 generalize hH1:H.push (.cells #[.int .i64 0] zIC (0,0))=H1
 have k1:Keep zAK H H1:=by rw[<- hH1];exact Keep.push
 have c1:Cnt H1 H.size:=by rw[<- hH1];exact⟨0,At.push (cs:=[.int .i64 0])⟩
 have p1:Pst S F v enc G H H.size d H1:=⟨hv.keep k1 λ_ _=>id,c1,k1.mono λ_ _ h=>h.elim,hG,zAh _,hF⟩
 simp only[q4,m1,m2,m3,a1,a2,a3,zAa]
 generalize hi:a+(b-a) / 4*1=i
 generalize hj:a+(b-a) / 4*2=j
 generalize hk:a+(b-a) / 4*3=k
 have bi:a+1<=i/\i+1<b/\a+1<=j/\j+1<b/\a+1<=k/\k+1<b:=by omega
 refine J3_i (λ_ y _ h=>(∃ p:Nat,y = .int .i64 (p:Nat)/\a<=p/\p<b)/\Pst S F v enc G H H.size d h) (λk2 hk2=>?_) ?_
 ·rw[show zAB .no .geq (.int .i64 ((b-a:Nat):Int)) (.int .i64 8)=some (.bool (decide (b-a>=8))) from zU5 (m:=8),zAa,zAl,if_pos (by simp;omega)]
  refine J3_i (λx y z h=>(∃ p q r:Nat,x = .int .i64 (p:Nat)/\y = .int .i64 (q:Nat)/\z = .int .i64 (r:Nat)/\a<=p/\p<b/\a<=q/\q<b/\a<=r/\r<b)/\Pst S F v enc G H H.size d h) (λk4 hk4=>?_) ?_
  ·rw[show zAB .no .geq (.int .i64 ((b-a:Nat):Int)) (.int .i64 50)=some (.bool (decide (b-a>=50))) from zU5 (m:=50),zAa,zAl]
   split
   ·refine zAI (zZj C ok p1 (a:=i) (by omega) (by omega) hs) ?_
    rintro _ h6 ⟨⟨x1,rfl,hx1⟩,p6⟩
    refine zAI (zZj C ok p6 (a:=j) (by omega) (by omega) hs) ?_
    rintro _ h7 ⟨⟨x2,rfl,hx2⟩,p7⟩
    refine zAI (zZj C ok p7 (a:=k) (by omega) (by omega) hs) ?_
    rintro _ h8 ⟨⟨x3,rfl,hx3⟩,p8⟩
    exact hk4 _ _ _ _ ⟨⟨x1,x2,x3,rfl,rfl,rfl,by omega,by omega,by omega,by omega,by omega,by omega⟩,p8⟩
   ·exact hk4 _ _ _ _ ⟨⟨i,j,k,rfl,rfl,rfl,by omega,by omega,by omega,by omega,by omega,by omega⟩,p1⟩
  rintro _ _ _ h5 ⟨⟨x1,x2,x3,rfl,rfl,rfl,hx⟩,p5⟩
  refine zAI (zAg8 C ok p5 (a:=x1) (b:=x2) (c:=x3) (by omega) (by omega) (by omega)) ?_
  rintro _ h9 ⟨⟨x,rfl,hx'⟩,p9⟩
  exact hk2 _ _ _ _ ⟨⟨x,rfl,by omega,by omega⟩,p9⟩
 rintro _ _ _ h3 ⟨⟨p,rfl,hp1,hp2⟩,p3⟩
 obtain⟨n,an⟩:=p3.c
 rw[an.ld (i:=0) rfl,zAa,eqI,zAa,zAl]
 split
 ·exact⟨⟨p,1,rfl,hp1,hp2⟩,p3.r,p3.k⟩
 rw[eqI,zAa,zAl]
 split
 ·exact⟨⟨p,2,rfl,hp1,hp2⟩,p3.r,p3.k⟩
 ·exact⟨⟨p,0,rfl,hp1,hp2⟩,p3.r,p3.k⟩
end
open Go.Sort (swp PermIn SortedIn Below SWO)
theorem zTq {n:Int}:0<=IntKind.u64.wrap n/\IntKind.u64.wrap n<18446744073709551616:=by
 have:IntKind.u64.wrap n=n % 18446744073709551616:=by simp[IntKind.wrap,IntKind.bits,IntKind.signed]
 rw[this];omega
theorem zK3 {n:Nat}(h:n<18446744073709551616):IntKind.u64.wrap (n:Int)=n:=by
 have:IntKind.u64.wrap (n:Int)=(n:Int) % 18446744073709551616:=by simp[IntKind.wrap,IntKind.bits,IntKind.signed]
 rw[this];omega
theorem zAiT (a b:Int):∃ m,zAB .no .xor (.int .u64 a) (.int .u64 b)=some (.int .u64 m)/\0<=m/\m<18446744073709551616:=⟨_,by rw[zAJ];rfl,zTq.1,zTq.2⟩
theorem zAdH {H:zAx}{q:Nat}{n:Int}(a:At H q [.int .u64 n]):zAA prg zHq [Ptr q 0] H λu H'=>(∃ m:Int,u = .int .u64 m/\At H' q [.int .u64 m])/\Keep (· = q) H H':=by
 apply zLX
 unfold zKd
 obtain⟨s1,e1⟩:∃ m,zAB .no .shl (.int .u64 n) (.int .u64 13)=some (.int .u64 m):=⟨_,by rw[zTC];rfl⟩
 obtain⟨x1,f1,_⟩:=zAiT n s1
 obtain⟨h1,w1,a1,k1⟩:=a.st1 (i:=0) (v := .int .u64 x1) (by simp) rfl
 obtain⟨s2,e2⟩:∃ m,zAB .no .shr (.int .u64 x1) (.int .u64 7)=some (.int .u64 m):=⟨_,by rw[zZW];rfl⟩
 obtain⟨x2,f2,_⟩:=zAiT x1 s2
 obtain⟨h2,w2,a2,k2⟩:=a1.st1 (i:=0) (v := .int .u64 x2) (by simp) rfl
 obtain⟨s3,e3⟩:∃ m,zAB .no .shl (.int .u64 x2) (.int .u64 17)=some (.int .u64 m):=⟨_,by rw[zTC];rfl⟩
 obtain⟨x3,f3,_⟩:=zAiT x2 s3
 obtain⟨h3,w3,a3,k3⟩:=a2.st1 (i:=0) (v := .int .u64 x3) (by simp) rfl
 have d0:ld1 H (Ptr q 0)=some (.int .u64 n):=a.ld (i:=0) rfl
 have d1:ld1 h1 (Ptr q 0)=some (.int .u64 x1):=a1.ld (i:=0) rfl
 have d2:ld1 h2 (Ptr q 0)=some (.int .u64 x2):=a2.ld (i:=0) rfl
 have d3:ld1 h3 (Ptr q 0)=some (.int .u64 x3):=a3.ld (i:=0) rfl
 simp only[zHX,zAa,d0,e1,f1,w1,zAW,d1,e2,f2,w2,d2,e3,f3,w3,d3]
 exact⟨⟨x3,rfl,a3⟩,(k1.trans k2).trans k3⟩
theorem zAdI {H:zAx}{u:Nat}(h0:0<u)(hu:u<1000000):zAA prg zEV [.int .u64 (u:Nat)] H (zAgO H u):=by
 apply zHr
 unfold zI2
 rw[zAl,if_neg (by decide)]
 exact zAI (zAcS h0 hu) λv h hR=>hR
theorem zAdJ {H:zAx}{n:Nat}(h0:0<n)(hn:n<1000000):zAA prg zG2 [.int .i64 (n:Nat)] H λu H'=>(∃ M:Nat,u = .int .u64 (M:Nat)/\n<M/\M<=2*n)/\H=H':=by
 apply zLx
 unfold zJt
 rw[zFH,zK3 (by omega),zAa]
 refine zAI (zAdI h0 hn) ?_
 rintro _ _ ⟨rfl,m,rfl,hm0,hm1,hm2⟩
 have hm:m<=20:=by
  rcases Nat.lt_or_ge 20 m with h|h
  ·have:2 ^ 20<=2 ^ (m-1):=zBL (by omega) (by omega)
   omega
  ·exact h
 have hp:2 ^ m=2*2 ^ (m-1):=by
  conv=>lhs;rw[show m=(m-1)+1 by omega,Nat.pow_succ]
  omega
 have hle:2 ^ m<=2 ^ 20:=zBL (by omega) hm
 have e:zAB .no .shl (.int .u64 1) (.int .i64 (m:Nat))=some (.int .u64 ((2 ^ m:Nat):Int)):=by
  rw[zTC]
  simp only[zC8]
  rw[if_neg (by omega),zCS,zBN (show m<=IntKind.u64.bits by show m<=64;omega)]
  congr 2
  have:(1:Int)*2 ^ m=((2 ^ m:Nat):Int):=by simp
  rw[this,zK3 (by omega)]
 rw[e,zAa]
 exact⟨⟨2 ^ m,rfl,hm2,by omega⟩,rfl⟩
theorem zAml {x:Int}{n:Nat}(hn:n<18446744073709551616):∃ y:Nat,zAB .no .and (.int .u64 x) (.int .u64 (n:Nat))=some (.int .u64 (y:Nat))/\y<=n:=by
 refine⟨(BitVec.ofInt 64 x &&& BitVec.ofInt 64 (n:Int)).toNat,?_,?_⟩
 ·rw[zAJ]
  simp only[zC8]
  congr 2
  exact zK3 (zAM (BitVec.isLt _) (by decide))
 ·rw[BitVec.toNat_and]
  refine zBh Nat.and_le_right ?_
  rw[BitVec.toNat_ofInt]
  have:((n:Int) % ((2 ^ 64:Nat):Int)).toNat=n:=by omega
  rw[this];exact zAh _
theorem zAmm:zBI prg zH8=some #[Value.int .u64 0]:=by kernel_rfl
section
variable {S:zLz} {α:Type} [Inhabited α] {lt:α->α->Bool} {enc:α->List Value} {evv:α->Value} {G:zAx->Prop} {F:zA1} {v:Value}
set_option maxHeartbeats 2000000 in
theorem zAkL (C:zNW S)(ok:zIW S enc evv lt G F v){H:zAx}{d:Array α}(hv:zFT S.n F H v enc d)(hF:¬ F H.size){a b:Nat}(hb:b<=d.size)(hs:d.size<=900000)(hab:a+12<b) :
  zAA prg S.fBrk ([v,.int .i64 (a:Nat),.int .i64 (b:Nat)]++S.ex) H λu H'=>(∃ d',zFT S.n F H' v enc d'/\PermIn a b d d')/\Keep F H H':=by
 refine C.brk ?_
 unfold zAm5
 rw[zSW (by omega) (by omega),zAa,show zAB .no .geq (.int .i64 ((b-a:Nat):Int)) (.int .i64 8)=some (.bool (decide (b-a>=8))) from zU5 (m:=8),zAa,zAl,if_pos (by simp;omega),zFH,zK3 (by omega),zAa,zAmm,zBb]
 generalize hH1:H.push (.cells #[.int .u64 0] zH8 (0,0))=H1
 have k1:Keep zAK H H1:=by rw[<- hH1];exact Keep.push
 have a1:At H1 H.size [.int .u64 0]:=by rw[<- hH1];exact At.push (cs:=[.int .u64 0])
 obtain⟨h2,w2,a2,k2⟩:=a1.st1 (i:=0) (v := .int .u64 ((b-a:Nat):Int)) (by simp) rfl
 rw[w2,zAW]
 have kk2:Keep F H h2:=(k1.mono λ_ _ h=>h.elim).fr k2 λx hx => .inr (by omega)
 have hv2:zFT S.n F h2 v enc d:=(hv.keep k1 λ_ _=>id).keep k2 λb hb e=>hF (e ▸ hb)
 refine zAI (zAdJ (by omega) (by omega)) ?_
 rintro _ _ ⟨⟨M,rfl,hM1,hM2⟩,rfl⟩
 have q4:zAB .no .quo (.int .i64 ((b-a:Nat):Int)) (.int .i64 4)=some (.int .i64 (((b-a) / 4:Nat):Int)):=zAlx (m:=4) (by omega) (by omega)
 have m2:zAB .no .mul (.int .i64 (((b-a) / 4:Nat):Int)) (.int .i64 2)=some (.int .i64 (((b-a) / 4*2:Nat):Int)):=zAfO (m:=2) (by omega)
 have e2:zAB .no .add (.int .i64 (a:Nat)) (.int .i64 (((b-a) / 4*2:Nat):Int))=some (.int .i64 ((a+(b-a) / 4*2:Nat):Int)):=zWL (by omega)
 have e3:zAB .no .sub (.int .i64 ((a+(b-a) / 4*2:Nat):Int)) (.int .i64 1)=some (.int .i64 ((a+(b-a) / 4*2-1:Nat):Int)):=zL9 (by omega) (by omega)
 have e4:zAB .no .add (.int .i64 ((a+(b-a) / 4*2:Nat):Int)) (.int .i64 1)=some (.int .i64 ((a+(b-a) / 4*2+1:Nat):Int)):=zBV (by omega)
 simp only[q4,m2,e2,e3,e4,zAa]
 generalize hB:a+(b-a) / 4*2=B
 have hBb:a+1<=B/\B+1<b:=by omega
 refine zKj (λu h=>∃ (i:Nat) (d':Array α) (n:Int),u = .int .i64 (i:Nat)/\B-1<=i/\i<=B+2/\PermIn a b d d'/\zFT S.n F h v enc d'/\At h H.size [.int .u64 n]/\Keep F H h) (λu _=>match u with | .int _ t=>B+2-t.toNat|_=>0) ⟨B-1,d,_,rfl,zAh _,by omega,Sort.permIn_refl _ _ _,hv2,a2,kk2⟩ ?_
 rintro _ h5 ⟨i,d',n,rfl,hi1,hi2,hP,hr,an,kh⟩ k4 hk4
 have hsz:=hP.1
 rw[zZh,zAa,zAl]
 by_cases hle:i<=B+1
 rotate_left
 ·rw[if_neg (by simpa using hle)]
  exact⟨⟨d',hr,hP⟩,kh⟩
 rw[if_pos (by simpa using hle)]
 refine zAI (zAdH an) ?_
 rintro _ h6 ⟨⟨m,rfl,a6⟩,k6⟩
 have kh6:Keep F H h6:=kh.fr k6 λx hx => .inr (by omega)
 have hr6:zFT S.n F h6 v enc d':=hr.keep k6 λb hb e=>hF (e ▸ hb)
 have eM:zAB .no .sub (.int .u64 (M:Nat)) (.int .u64 1)=some (.int .u64 ((M-1:Nat):Int)):=by
  rw[zAJ];simp only[zC8]
  rw[show(M:Int)-1=((M-1:Nat):Int) by omega,zK3 (by omega)]
 obtain⟨y,ey,hy⟩:=zAml (x:=m) (n:=M-1) (by omega)
 have ec:cvI .i64 (.int .u64 (y:Nat))=some (.int .i64 (y:Nat)):=by rw[zFH,zCe (by omega) (by omega)]
 rw[eM,zAa,ey,zAa,ec,zAa]
 refine zOt (λu h=>(∃ o:Nat,u = .int .i64 (o:Nat)/\o<b-a)/\h=h6) (λk7 hk7=>?_) ?_
 ·rw[zU5,zAa,zAl]
  by_cases hge:y>=b-a
  ·rw[if_pos (by simpa using hge),zSW hge (by omega),zAa]
   exact hk7 _ _ ⟨⟨_,rfl,by omega⟩,rfl⟩
  ·rw[if_neg (by simpa using hge)]
   exact hk7 _ _ ⟨⟨_,rfl,by omega⟩,rfl⟩
 rintro _ _ ⟨⟨o,rfl,ho⟩,rfl⟩
 have eo:zAB .no .add (.int .i64 (a:Nat)) (.int .i64 (o:Nat))=some (.int .i64 ((a+o:Nat):Int)):=zWL (by omega)
 have ei:zAB .no .add (.int .i64 (i:Nat)) (.int .i64 1)=some (.int .i64 ((i+1:Nat):Int)):=zBV (by omega)
 obtain⟨p1,q1,G1,G2,f1,f2,l1,l2,w1,w2,hrs,ks⟩:=ok.swap hr6 (i:=i) (j:=a+o) (by omega) (by omega)
 simp only[eo,ei,f1 .i64,f2 .i64,l1,l2,w1,w2,zAa,zAW]
 exact hk4 _ _ ⟨i+1,_,m,rfl,by omega,by omega,Sort.permIn_trans _ _ _ _ _ hP (Sort.swp_permIn d' a b i (a+o) (by omega) (by omega) (by omega) (by omega) (by omega)),hrs,a6.keep ks hF,kh6.trans ks⟩ (by show B+2-(i+1)<B+2-i;omega)
end
open Go.Sort (swp PermIn SortedIn Below SWO)
theorem zAnx {body:(Value->Value->Value->Value->zAm)->Value->Value->Value->Value->zAm}{a b c d e:Value}{H:zAx}(I:Value->Value->Value->Value->zAm)(μ:Value->Value->Value->Value->Value->zAx->Nat)(h0:I a b c d e H)
  (hs:∀ a b c d e h,I a b c d e h->∀ k:Value->Value->Value->Value->zAm,(∀ a' b' c' d' e' h',I a' b' c' d' e' h'->μ a' b' c' d' e' h'<μ a b c d e h->k a' b' c' d' e' h')->body k a b c d e h):L5 body a b c d e H:=by
 refine⟨λvs h=>∃ a b c d e,vs=[a,b,c,d,e]/\I a b c d e h,λvs h=>match vs with|[a,b,c,d,e]=>μ a b c d e h|_=>0,⟨a,b,c,d,e,rfl,h0⟩,?_⟩
 rintro vs h _ ⟨a,b,c,d,e,rfl,hI⟩
 exact hs a b c d e h hI _ λa' b' c' d' e' h' hI' hm=>⟨⟨a',b',c',d',e',rfl,hI'⟩,hm⟩
section
variable {S:zLz} {α:Type} [Inhabited α] {lt:α->α->Bool} {enc:α->List Value} {evv:α->Value} {G:zAx->Prop} {F:zA1} {v:Value}
set_option maxHeartbeats 8000000 in
theorem zAkM (C:zNW S)(ok:zIW S enc evv lt G F v)(hO:SWO lt):∀ (N:Nat) {H:zAx} {d:Array α} {a b l:Nat},b-a=N->a<=b->b<=d.size->d.size<=900000->Below lt a b d->zFT S.n F H v enc d->(∀ h,Keep F H h->G h)->(∀ b,F b->b<H.size)->l<=1000 ->
  zAA prg S.fPdq ([v,.int .i64 (a:Nat),.int .i64 (b:Nat),.int .i64 (l:Nat)]++S.ex) H λu H'=>(∃ d',zFT S.n F H' v enc d'/\PermIn a b d d'/\SortedIn lt a b d')/\Keep F H H':=by
 intro N
 induction N using Nat.strongRecOn with
 | ind N ih =>
 intro H d a b l hN hab hb hs hB hv hG hF hl
 refine C.pdq ?_
 unfold zAm9
 refine zAnx (λt1 t2 t3 t10 t11 h=>∃ (a' b' l':Nat) (wb wp:Bool) (d':Array α),t1 = .int .i64 (a':Nat)/\t2 = .int .i64 (b':Nat)/\t3 = .int .i64 (l':Nat)/\t10 = .bool wb/\t11 = .bool wp/\a'<=b'/\b'<=d'.size/\d'.size=d.size/\b' - a'<=N/\l'<=1000/\Below lt a' b' d'/\zFT S.n F h v enc d'/\Keep F H h/\∀ R,PermIn a' b' d' R->SortedIn lt a' b' R->PermIn a b d R/\SortedIn lt a b R)
  (λt1 t2 _ _ _ _=>match t1,t2 with | .int _ x,.int _ y=>y.toNat-x.toNat|_,_=>0) ⟨a,b,l,true,true,d,rfl,rfl,rfl,rfl,rfl,hab,hb,rfl,by omega,hl,hB,hv,Keep.refl,λR h1 h2=>⟨h1,h2⟩⟩ ?_
 rintro _ _ _ _ _ h2 ⟨a',b',l',wb,wp,d',rfl,rfl,rfl,rfl,rfl,hab',hb',hz',hn',hl',hB',hr,kh,hfin⟩ k1 hk1
 have hG':∀ {h},Keep F H h->∀ h',Keep F h h'->G h':=λk h' k'=>hG h' (k.trans k')
 have hF':∀ {h},Keep F H h->¬ F h.size:=λk hf=>by have:=hF _ hf;have:=k.1;omega
 have fin:∀ {h} {R:Array α},zFT S.n F h v enc R->Keep F H h->PermIn a' b' d' R->SortedIn lt a' b' R->(∃ d',zFT S.n F h v enc d'/\PermIn a b d d'/\SortedIn lt a b d')/\Keep F H h:=λhr k h1 h2=>⟨⟨_,hr,(hfin _ h1 h2).1,(hfin _ h1 h2).2⟩,k⟩
 rw[zSW hab' (by omega),zAa,show zAB .no .leq (.int .i64 ((b' - a':Nat):Int)) (.int .i64 12)=some (.bool (decide (b' - a'<=12))) from zZh (m:=12),zAa,zAl]
 by_cases h12:b' - a'<=12
 ·rw[if_pos (by simpa using h12)]
  refine zAI (zAkF C ok hr (hG' kh) hb' (by omega) hab') ?_
  rintro _ h3 ⟨hr3,k3⟩
  obtain⟨i1,i2⟩:=Sort.insertionSort_holds (lt:=lt) hO d' a' b' hab' hb'
  exact fin hr3 (kh.trans k3) i1 i2
 rw[if_neg (by simpa using h12),show zAB .no .eql (.int .i64 (l':Nat)) (.int .i64 0)=some (.bool (decide (l'=0))) from zAjz (m:=0),zAa,zAl]
 by_cases h0:l'=0
 ·rw[if_pos (by simpa using h0)]
  refine zAI (zAiR C ok hr (hG' kh) hb' (by omega) (by omega)) ?_
  rintro _ h3 ⟨hr3,k3⟩
  obtain⟨i1,i2⟩:=Sort.heapSort_holds (lt:=lt) hO d' a' b' hab' hb'
  exact fin hr3 (kh.trans k3) i1 i2
 rw[if_neg (by simpa using h0)]
 refine zOt (λu h=>(∃ l2:Nat,u = .int .i64 (l2:Nat)/\l2<=1000)/\∃ d1,PermIn a' b' d' d1/\zFT S.n F h v enc d1/\Keep F H h) (λk5 hk5=>?_) ?_
 ·rw[zA7,zAa,zAl]
  cases wb
  ·rw[if_pos (by rfl)]
   refine zAI (zAkL C ok hr (hF' kh) hb' (by omega) (by omega)) ?_
   rintro _ h7 ⟨⟨d1,hr7,hP⟩,k7⟩
   rw[zL9 (by omega) (by omega),zAa]
   exact hk5 _ _ ⟨⟨_,rfl,by omega⟩,d1,hP,hr7,kh.trans k7⟩
  ·rw[if_neg (by decide)]
   exact hk5 _ _ ⟨⟨_,rfl,hl'⟩,d',Sort.permIn_refl _ _ _,hr,kh⟩
 rintro _ h6 ⟨⟨l2,rfl,hl2⟩,d1,hP1,hr1,kh1⟩
 have hz1:=hP1.1
 have hB1:Below lt a' b' d1:=hB'.perm hb' hP1
 refine zAI (zAkK C ok hr1 (hG' kh1) (hF' kh1) (a:=a') (b:=b') (by omega) (by omega) (by omega)) ?_
 rintro _ h8 ⟨⟨p,n,rfl,hp1,hp2⟩,hr8,k8⟩
 have kh8:=kh1.trans k8
 rw[show zE0 0 (.tuple #[.int .i64 (p:Nat),.int .i64 n])=some (.int .i64 (p:Nat)) from rfl,zAa,show zE0 1 (.tuple #[.int .i64 (p:Nat),.int .i64 n])=some (.int .i64 n) from rfl,zAa]
 refine zMk (λx y h=>(∃ (p:Nat) (n:Int),x = .int .i64 (p:Nat)/\y = .int .i64 n/\a'<=p/\p<b')/\∃ d2,PermIn a' b' d1 d2/\zFT S.n F h v enc d2/\Keep F H h) (λk9 hk9=>?_) ?_
 ·rw[eqI,zAa,zAl]
  split
  ·refine zAI (zAkG C ok hr8 (a:=a') (b:=b') (by omega) (by omega) (by omega)) ?_
   rintro _ h11 ⟨⟨d2,hr11,hP⟩,k11⟩
   rw[zL9 (by omega) (by omega),zAa,zSW hp1 (by omega),zAa,zSW (by omega) (by omega),zAa]
   exact hk9 _ _ _ ⟨⟨_,1,rfl,rfl,by omega,by omega⟩,d2,hP,hr11,kh8.trans k11⟩
  ·exact hk9 _ _ _ ⟨⟨p,n,rfl,rfl,hp1,hp2⟩,d1,Sort.permIn_refl _ _ _,hr8,kh8⟩
 clear hp1 hp2
 rintro _ _ h10 ⟨⟨p,n,rfl,rfl,hp1,hp2⟩,d2,hP2,hr2,kh2⟩
 have hz2:=hP2.1
 have hB2:Below lt a' b' d2:=hB1.perm (by omega) hP2
 have hP12:=Sort.permIn_trans _ _ _ _ _ hP1 hP2
 refine zMk (λ_ _ h=>∃ d3,PermIn a' b' d2 d3/\zFT S.n F h v enc d3/\Keep F H h) (λk12 hk12=>?_) ?_
 ·have tailP:∀ x y:Value,zAX prg S.fPartI ([v,.int .i64 (a':Nat),.int .i64 (b':Nat)]++S.ex) h10 λt80 h18=>Mcd t80 ((∃ d',zFT S.n F h18 v enc d'/\PermIn a b d d'/\SortedIn lt a b d')/\Keep F H h18) (k12 x y h18):=λx y=>by
   refine zAI (zAfQ C ok hr2 (hG' kh2) (a:=a') (b:=b') (by omega) (by omega) (by omega)) ?_
   rintro _ h18 ⟨rfl,hr18,k18⟩
   obtain⟨i1,i2⟩:=Sort.partialInsertionSort_holds (lt:=lt) hO d2 a' b' (by omega) (by omega) hB2
   rw[zAl]
   cases hq:(Sort.partialInsertionSort lt d2 a' b').2
   ·rw[if_neg (by decide)]
    exact hk12 _ _ _ ⟨_,i1,hr18,kh2.trans k18⟩
   ·rw[if_pos rfl]
    exact fin hr18 (kh2.trans k18) (Sort.permIn_trans _ _ _ _ _ hP12 i1) (i2 hq)
  have idle:∀ x y,k12 x y h10:=λx y=>hk12 _ _ _ ⟨d2,Sort.permIn_refl _ _ _,hr2,kh2⟩
  cases wb
  ·refine zId (by decide) ?_
   show Mpu (zBD (.bool false) undef (.bool false)) _
   refine zLY.2 ?_
   refine zId (by decide) ?_
   show Mpu (zBD (.bool false) undef (.bool false)) _
   refine zLY.2 ?_
   rw[zAl,if_neg (by decide)]
   exact idle _ _
  refine zDo rfl ?_
  show Mpu (zBD (.bool true) (.bool wp) (.bool false)) _
  refine zNV.2 ?_
  cases wp
  ·refine zId (by decide) ?_
   show Mpu (zBD (.bool false) undef (.bool false)) _
   refine zLY.2 ?_
   rw[zAl,if_neg (by decide)]
   exact idle _ _
  refine zDo rfl ?_
  rw[eqI,zAa]
  show Mpu (zBD (.bool true) (.bool _) (.bool false)) _
  refine zNV.2 ?_
  rw[zAl]
  split
  ·exact tailP _ _
  ·exact idle _ _
 rintro _ _ h13 ⟨d3,hP3,hr3,kh3⟩
 have hz3:=hP3.1
 have hB3:Below lt a' b' d3:=hB2.perm (by omega) hP3
 have hP123:=Sort.permIn_trans _ _ _ _ _ hP12 hP3
 rw[show zAB .no .gtr (.int .i64 (a':Nat)) (.int .i64 0)=some (.bool (decide (a' > 0))) from zAbu (m:=0),zAa]
 refine zOt (λu h=>(∃ bb:Bool,Mpu (zBD (.bool (decide (a' > 0))) u (.bool false)) (λt=>t = .bool bb)/\(bb=true->0<a'/\lt d3[a' - 1]! d3[p]! = false))/\zFT S.n F h v enc d3/\Keep F H h) (λk19 hk19=>?_) ?_
 ·by_cases ha0:a' > 0
  rotate_left
  ·rw[decide_eq_false ha0]at hk19 ⊢
   refine zAQ.2 ?_
   rw[if_neg (by decide)]
   exact hk19 _ _ ⟨⟨false,zLY.2 rfl,λh=>by cases h⟩,hr3,kh3⟩
  rw[decide_eq_true ha0]at hk19 ⊢
  refine zAQ.2 ?_
  rw[if_pos rfl]
  obtain⟨pa,hpa,la⟩:=ok.get hr3 (i:=a' - 1) (by omega)
  obtain⟨pb,hpb,lb⟩:=ok.get hr3 (i:=p) (by omega)
  rw[zL9 ha0 (by omega),zAa,hpa .i64,zAa,la,zAa,hpb .i64,zAa,lb,zAa]
  refine ok.cmp (hG _ kh3) λh20 k20=>?_
  rw[zA7,zAa]
  exact hk19 _ _ ⟨⟨_,zNV.2 rfl,λh=>⟨ha0,by simpa using h⟩⟩,hr3.keep k20 λ_ _=>id,kh3.fr k20 λ_ h=>h.elim⟩
 rintro u h21 ⟨⟨bb,hbb,hbt⟩,hr21,kh21⟩
 obtain⟨w,hw,rfl⟩:=hbb
 rw[hw,zAa,zAl]
 cases bb
 rotate_left
 ·rw[if_pos rfl]
  obtain⟨ha0,hnl⟩:=hbt rfl
  refine zAI (zAdF C ok hr21 (hG' kh21) (a:=a') (b:=b') (pv:=p) (by omega) (by omega) hp1 hp2) ?_
  rintro _ h22 ⟨rfl,hr22,k22⟩
  obtain⟨g1,g2,g3,g4,g5⟩:=Sort.round_eq hO (Sort.partitionEqual_holds lt) ha0 hp1 hp2 (by omega) hB3 hnl (show Sort.partitionEqual lt d3 a' b' p=((Sort.partitionEqual lt d3 a' b' p).1,(Sort.partitionEqual lt d3 a' b' p).2) from rfl)
  generalize (Sort.partitionEqual lt d3 a' b' p).1=mid at *
  generalize (Sort.partitionEqual lt d3 a' b' p).2=d4 at *
  refine hk1 _ _ _ _ _ _ ⟨mid,b',l2,wb,wp,d4,rfl,rfl,rfl,rfl,rfl,g2,by omega,by omega,by omega,hl2,g4,hr22,kh21.trans k22,λR r1 r2=>?_⟩ (by show b' - mid<b' - a';omega)
  obtain⟨s1,s2⟩:=g5 R r1 r2
  exact hfin R (Sort.permIn_trans _ _ _ _ _ hP123 s1) s2
 rw[if_neg (by decide)]
 refine zAI (zAiS C ok hr21 (hG' kh21) (a:=a') (b:=b') (pv:=p) (by omega) (by omega) hp1 hp2) ?_
 rintro _ h23 ⟨rfl,hr23,k23⟩
 obtain⟨g1,g2,g3,g4,g5,g6,g7⟩:=Sort.round_part hO (Sort.partition_holds lt) hp1 hp2 (by omega) hB3 (show Sort.partition lt d3 a' b' p=((Sort.partition lt d3 a' b' p).1,(Sort.partition lt d3 a' b' p).2.1,(Sort.partition lt d3 a' b' p).2.2) from rfl)
 generalize (Sort.partition lt d3 a' b' p).1=mid at *
 generalize (Sort.partition lt d3 a' b' p).2.1=ap at *
 generalize (Sort.partition lt d3 a' b' p).2.2=d4 at *
 have kh23:=kh21.trans k23
 rw[show zE0 0 (.tuple #[.int .i64 (mid:Nat),.bool ap])=some (.int .i64 (mid:Nat)) from rfl,zAa,show zE0 1 (.tuple #[.int .i64 (mid:Nat),.bool ap])=some (.bool ap) from rfl,zAa,zSW g1 (by omega),zAa,zSW (by omega) (by omega),zAa,show zAB .no .quo (.int .i64 ((b' - a':Nat):Int)) (.int .i64 8)=some (.int .i64 (((b' - a') / 8:Nat):Int)) from zAlx (m:=8) (by omega) (by omega),zAa,zNZ,zAa,zAl]
 have hFh:∀ b,F b->b<h23.size:=λb hb=>zAM (hF b hb) kh23.1
 by_cases hlt:mid-a'<b' - mid
 ·rw[if_pos (by simpa using hlt),zU5,zAa]
  refine zAI (ih (mid-a') (by omega) rfl g1 (by omega) (by omega) g4 hr23 (hG' kh23) hFh hl2) ?_
  rintro _ h24 ⟨⟨L,hr24,hPL,hSL⟩,k24⟩
  obtain⟨f1,f2⟩:=g6 L hPL hSL
  have hzL:=hPL.1
  rw[zBV (by omega),zAa]
  refine hk1 _ _ _ _ _ _ ⟨mid+1,b',l2,_,ap,L,rfl,rfl,rfl,rfl,rfl,by omega,by omega,by omega,by omega,hl2,f1,hr24,kh23.trans k24,λR r1 r2=>?_⟩ (by show b' - (mid+1)<b' - a';omega)
  obtain⟨s1,s2⟩:=f2 R r1 r2
  exact hfin R (Sort.permIn_trans _ _ _ _ _ hP123 s1) s2
 ·rw[if_neg (by simpa using hlt),zU5,zAa,zBV (by omega),zAa]
  refine zAI (ih (b' - (mid+1)) (by omega) rfl (by omega) (by omega) (by omega) g5 hr23 (hG' kh23) hFh hl2) ?_
  rintro _ h24 ⟨⟨L,hr24,hPL,hSL⟩,k24⟩
  obtain⟨f1,f2⟩:=g7 L hPL hSL
  have hzL:=hPL.1
  refine hk1 _ _ _ _ _ _ ⟨a',mid,l2,_,ap,L,rfl,rfl,rfl,rfl,rfl,g1,by omega,by omega,by omega,hl2,f1,hr24,kh23.trans k24,λR r1 r2=>?_⟩ (by show mid-a'<b' - a';omega)
  obtain⟨s1,s2⟩:=f2 R r1 r2
  exact hfin R (Sort.permIn_trans _ _ _ _ _ hP123 s1) s2
end
end Go.Proofs.YticdfkoncnnmmaaGreatDoor
