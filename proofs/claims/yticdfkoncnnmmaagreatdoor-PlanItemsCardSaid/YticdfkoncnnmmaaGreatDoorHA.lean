import Derived.Test.YticdfkoncnnmmaaGreatDoorH9
import Derived.Test.YticdfkoncnnmmaaGreatDoorG4
import Derived.Test.YticdfkoncnnmmaaGreatDoorG9
set_option linter.unusedSimpArgs false
set_option linter.unusedVariables false
set_option maxRecDepth 100000
namespace Go.Proofs.YticdfkoncnnmmaaGreatDoor
open Go.X Go.X.Diff Go.MapKept
theorem zZT {P:Nat->Prop}{H:zAd}{v:Value}{mv:List MV}{nm:List UInt8}(hp:zNs P H v mv)(hl:mv.length<=1099511627776) :
  zAg prg zKw [v,str nm] H fun u H'=>u = .int .i64 (zRo (fun x:MV=>decide (x.1.name=nm)) mv 0)/\Keep (fun _=>False) H H':=by
 apply zN4
 unfold zOC
 have ec:Value.cells (str nm)=[str nm].toArray:=rfl
 rw[ec,zAs]
 generalize hH1:H.push (.cells [str nm].toArray zAz (0,0))=H1
 have k1:Keep (fun _=>False) H H1:=by rw[<- hH1];exact Keep.push
 have a1:At H1 H.size [str nm]:=by rw[<- hH1];exact At.push
 refine zAk (zXA (G:=fun h=>At h H.size [str nm]) (hp.h.keep k1 fun _ _=>id) (fun x h hx hG=>?_) (fun h k=>a1.keep k id) hl) fun u h ⟨e,k⟩=>⟨e,k1.trans k⟩
 refine .inl ⟨zIx,#[],#[Ptr H.size 0],rfl,by kernel_rfl,?_⟩
 show zAg prg zIx [.agg (mvC x).toArray,Ptr H.size 0] h _
 apply zMY
 unfold zMX
 simp only[zAN,zAs,zAx,Nat.zero_add,Nat.add_zero,zAa]
 have kp:Keep (fun _=>False) h (h.push (.cells (mvC x).toArray zAb (0,0))):=Keep.push
 have a2:At (h.push (.cells (mvC x).toArray zAb (0,0))) h.size (mvC x):=At.push
 rw[zBE a2,zAa,(At.keep hG kp id).ld (i:=0) rfl,zAa,zBX,zAa]
 exact⟨rfl,kp⟩
def zS6 (hv:List Man)(nm:List UInt8):Bool:=hv.any fun m=>m.deps.any fun d=>decide (d.name=nm)
theorem zAbU {P:Nat->Prop}{H:zAd}{v:Value}{mv:List MV}{nm:List UInt8}(hp:zNs P H v mv)(hl:mv.length<=1099511627776) :
  zAg prg zLE [v,str nm] H fun u H'=>u = .bool (zS6 (zA7 mv) nm)/\Keep (fun _=>False) H H':=by
 apply zNz
 unfold zNL
 have ec:Value.cells (str nm)=[str nm].toArray:=rfl
 rw[ec,zAs]
 generalize hH1:H.push (.cells [str nm].toArray zAz (0,0))=H1
 have k1:Keep (fun _=>False) H H1:=by rw[<- hH1];exact Keep.push
 have a1:At H1 H.size [str nm]:=by rw[<- hH1];exact At.push
 have hp1:=hp.keep k1 fun _ _=>id
 refine zAk (zLY (G:=fun h=>At h H.size [str nm]/\zNs P h v mv) (del:=fun m=>m.deps.any fun d=>decide (d.name=nm)) hp1.h (fun x hx=>(hp.m x hx).wf) (fun x h hx hG=>?_) (fun h k=>⟨a1.keep k id,hp1.keep k fun _ _=>id⟩) hl) fun u h ⟨e,k⟩=>⟨by rw[e];unfold zS6;rw[List.any_map];rfl,k1.trans k⟩
 refine .inl ⟨zHj,#[],#[Ptr H.size 0],rfl,by kernel_rfl,?_⟩
 show zAg prg zHj [.agg (mvC x).toArray,Ptr H.size 0] h _
 apply zMn
 unfold zL9
 simp only[zAN,zAs,zAx,Nat.zero_add,Nat.add_zero,zAa]
 generalize hh2:h.push (.cells (mvC x).toArray zAb (0,0))=h2
 have kp:Keep (fun _=>False) h h2:=by rw[<- hh2];exact Keep.push
 have a2:At h2 h.size (mvC x):=by rw[<- hh2];exact At.push
 have hmx:=(hG.2.m x hx).keep kp fun _ _=>id
 have g:=(hG.1).keep kp id
 rw[(zE9 a2 hmx.wf).1,zAa]
 have hsx:=hG.2.sm x hx
 refine zAk (zOV (G:=fun h=>At h H.size [str nm]) (del:=fun d=>decide (d.name=nm)) hmx.d hmx.wf.deps (fun d h' hd hG'=>?_) (fun h' k=>g.keep k id) (by omega)) fun u h' ⟨e,k⟩=>⟨e,kp.trans k⟩
 refine .inl ⟨zFL,#[],#[Ptr H.size 0],rfl,by kernel_rfl,?_⟩
 show zAg prg zFL [.agg (zDa d).toArray,Ptr H.size 0] h' _
 apply zLn
 unfold zKD
 simp only[zAN,zAs,zAx,Nat.zero_add,Nat.add_zero,zAa]
 have kp':Keep (fun _=>False) h' (h'.push (.cells (zDa d).toArray zAj (0,0))):=Keep.push
 have a3:At (h'.push (.cells (zDa d).toArray zAj (0,0))) h'.size (zDa d):=At.push
 rw[zZf a3,zAa,(At.keep hG' kp' id).ld (i:=0) rfl,zAa,zBX,zAa]
 exact⟨rfl,kp'⟩
def zOf (hv:List Man)(m:Man):Bool:=hv.any fun o=>zS5 o m
theorem zAcV {P Q:Nat->Prop}{H:zAd}{v:Value}{mv:List MV}{y:MV}(hp:zNs P H v mv)(hy:zJJ Q H y.1 y.2.1 y.2.2.1 y.2.2.2)(hl:mv.length<=1099511627776)(hf:∀ x ∈ mv,x.1.files.length<=1000) :
  zAg prg zLG [v,.agg (mvC y).toArray] H fun u H'=>u = .bool (zOf (zA7 mv) y.1)/\Keep (fun _=>False) H H':=by
 apply zOF
 unfold zPQ
 simp only[zAN,zAs]
 generalize hH1:H.push (.cells (mvC y).toArray zAb (0,0))=H1
 have k1:Keep (fun _=>False) H H1:=by rw[<- hH1];exact Keep.push
 have a1:At H1 H.size (mvC y):=by rw[<- hH1];exact At.push
 have hp1:=hp.keep k1 fun _ _=>id
 have hy1:=hy.keep k1 fun _ _=>id
 refine zAk (zLY (G:=fun h=>At h H.size (mvC y)/\zNs P h v mv/\zJJ Q h y.1 y.2.1 y.2.2.1 y.2.2.2) (del:=fun m=>zS5 m y.1) hp1.h (fun x hx=>(hp.m x hx).wf) (fun x h hx hG=>?_) (fun h k=>⟨a1.keep k id,hp1.keep k fun _ _=>id,hy1.keep k fun _ _=>id⟩) hl) fun u h ⟨e,k⟩=>⟨by rw[e];unfold zOf;rw[List.any_map];rfl,k1.trans k⟩
 refine .inl ⟨zJw,#[],#[Ptr H.size 0],rfl,by kernel_rfl,?_⟩
 show zAg prg zJw [.agg (mvC x).toArray,Ptr H.size 0] h _
 apply zNE
 unfold zNQ
 simp only[zAN,zAs]
 obtain⟨q1,q2,q3⟩:=hG
 generalize hh2:h.push (.cells (mvC x).toArray zAb (0,0))=h2
 have kp:Keep (fun _=>False) h h2:=by rw[<- hh2];exact Keep.push
 have a2:At h2 h.size (mvC x):=by rw[<- hh2];exact At.push
 have hmx:=(q2.m x hx).keep kp fun _ _=>id
 have hsx:=q2.sm x hx
 have hfx:=hf x hx
 rw[a2.ldN (zAH hmx.wf),zAa,(q1.keep kp id).ldN (zAH q3.wf),zAa]
 exact zAk (zSd hmx (q3.keep kp fun _ _=>id) (by omega) (by omega) (by omega)) fun u h' ⟨e,k⟩=>⟨e,kp.trans k⟩
theorem zRa {P:Nat->Prop}{H:zAd}{x:MV}(hx:zJJ P H x.1 x.2.1 x.2.2.1 x.2.2.2)(hd:x.1.deps.length<=1000)(hc:x.1.conf.length<=1000)(hf:x.1.files.length<=1000) :
  zAg prg zDn [.agg (mvC x).toArray] H fun u H'=>(∃ vd vc vf,u = .agg (mvC (x.1,vd,vc,vf)).toArray/\zJJ (fun b=>H.size<=b/\b<H'.size) H' x.1 vd vc vf)/\Keep (fun _=>False) H H':=by
 apply zKq
 unfold zJm
 simp only[zAN,zKJ,zAs,zAx,Nat.zero_add,Nat.add_zero,zAa]
 generalize hH1:H.push (.cells (mvC x).toArray zAb (0,0))=H1
 have k1:Keep (fun _=>False) H H1:=by rw[<- hH1];exact Keep.push
 have a1:At H1 H.size (mvC x):=by rw[<- hH1];exact At.push
 have s1:H1.size=H.size+1:=by rw[<- hH1];simp
 generalize hH2:H1.push (.cells (zEN ⟨[],zB2,[],[],[]⟩ zAY zAY zAY).toArray zAb (0,0))=H2
 have k2:Keep (fun _=>False) H1 H2:=by rw[<- hH2];exact Keep.push
 have a2:At H2 H1.size (zEN ⟨[],zB2,[],[],[]⟩ zAY zAY zAY):=by rw[<- hH2];exact At.push
 have s2:H2.size=H1.size+1:=by rw[<- hH2];simp
 have w:=hx.wf
 have hv4:=zBD w.ver
 have a12:=a1.keep k2 id
 have k02:=k1.trans k2
 obtain⟨g5,g6,g7⟩:=zE9 a12 w
 rw[g5,zAa,g6,zAa,g7,zAa]
 have hx2:=hx.keep k02 fun _ _=>id
 refine zAk (zPw hx2.d (by omega)) ?_
 rintro t5 h3 ⟨b5,k3⟩
 obtain⟨_,g6,g7⟩:=zE9 (a12.keep k3 id) w
 rw[g7,zAw,g6,zAw,zAr]
 refine zAk (zPw (hx2.keep k3 fun _ _=>id).c (by omega)) ?_
 rintro t8 h4 ⟨b8,k4⟩
 have a14:=(a12.keep k3 id).keep k4 id
 obtain⟨_,_,g7⟩:=zE9 a14 w
 rw[g7,zAw,zAr]
 refine zAk (zVv ((hx2.keep k3 fun _ _=>id).keep k4 fun _ _=>id).f (by rw[List.length_map];omega)) ?_
 rintro t11 h5 ⟨b11,k5⟩
 have a15:=a14.keep k5 id
 have g3:=k3.1
 have g4:=k4.1
 have g5':=k5.1
 have o5:t5.oneCell'=true:=b5.sl.oneC
 have o8:t8.oneCell'=true:=b8.sl.oneC
 have o11:t11.oneCell'=true:=b11.sl.oneC
 have e5:(mvC x).set 5 t5=mvC (x.1,t5,x.2.2.1,x.2.2.2):=by simp[mvC,zEN,List.set_append,hv4]
 have e6:(mvC (x.1,t5,x.2.2.1,x.2.2.2)).set 6 t8=mvC (x.1,t5,t8,x.2.2.2):=by simp[mvC,zEN,List.set_append,hv4]
 have e7:(mvC (x.1,t5,t8,x.2.2.2)).set 7 t11=mvC (x.1,t5,t8,t11):=by simp[mvC,zEN,List.set_append,hv4]
 have hml:∀ a b c,(mvC (x.1,a,b,c)).length=8:=fun _ _ _=>zAH w
 obtain⟨h6,st6,a6,k6⟩:=a15.st1 (i:=5) (v:=t5) (by have:=zAH (vd:=x.2.1) (vc:=x.2.2.1) (vf:=x.2.2.2) w;show 5<(mvC x).length;unfold mvC;omega) o5
 rw[e5]at a6
 obtain⟨h7,st7,a7,k7⟩:=a6.st1 (i:=6) (v:=t8) (by have:=hml t5 x.2.2.1 x.2.2.2;omega) o8
 rw[e6]at a7
 obtain⟨h8,st8,a8,k8⟩:=a7.st1 (i:=7) (v:=t11) (by have:=hml t5 t8 x.2.2.2;omega) o11
 rw[e7]at a8
 rw[st6,zAm,st7,zAm,st8,zAm,a8.ldN (hml _ _ _),zAa]
 have k58:Keep (· = H.size) h5 h8:=(k6.trans k7).trans k8
 have g58:=k58.1
 have a28:At h8 H1.size (zEN ⟨[],zB2,[],[],[]⟩ zAY zAY zAY):=(((a2.keep k3 id).keep k4 id).keep k5 id).keep k58 (by omega)
 have one:∀ c ∈ mvC (x.1,t5,t8,t11),c.oneCell'=true:=fun c hc=>by
  rcases List.mem_cons.1 hc with rfl | hc
  ·rfl
  rcases List.mem_append.1 hc with hc | hc
  ·exact zIB c hc
  ·simp at hc
   rcases hc with rfl | rfl | rfl
   ·exact o5
   ·exact o8
   ·exact o11
 obtain⟨h9,st9,a9,k9⟩:=a28.st (n:=8) (ds:=mvC (x.1,t5,t8,t11)) (zAH zMt) (hml _ _ _) one
 rw[st9,zAm,a9.ldN (hml _ _ _),zAa]
 have k59:Keep (fun b=>b=H.size\/b=H1.size) h5 h9:=(k58.mono fun _ _ h => .inl h).trans (k9.mono fun _ _ h => .inr h)
 have g9:=k59.1
 refine⟨⟨t5,t8,t11,rfl,⟨?_,?_,?_,w⟩⟩,(((k02.trans k3).trans k4).trans k5).fresh k59 fun b hb=>by omega⟩
 ·exact(((b5.sl.keep k4 fun _ _=>id).keep k5 fun _ _=>id).keep k59 fun b hb=>by omega).mono fun b hb=>by omega
 ·exact((b8.sl.keep k5 fun _ _=>id).keep k59 fun b hb=>by omega).mono fun b hb=>by omega
 ·exact(b11.sl.keep k59 fun b hb=>by omega).mono fun b hb=>by omega
end Go.Proofs.YticdfkoncnnmmaaGreatDoor
namespace Go.X
theorem Keep.fresh' {S T:Nat->Prop}{H h h':zAd}(k:Keep S H h)(k2:Keep T h h')(hs:∀ b,T b->S b\/H.size<=b):Keep S H h' :=
 ⟨Nat.le_trans k.1 k2.1,fun i hi hn=>by rw[k2.2 i (Nat.lt_of_lt_of_le hi k.1) fun ht=>(hs i ht).elim hn fun h=>by omega,k.2 i hi hn]⟩
theorem Buf.re {F G:Nat->Prop}{H:zAd}{v:Value}{l:List UInt8}(h:Buf F H v l)(k:∀ b,b<H.size->F b->G b):Buf G H v l:=by
 rcases h with h | ⟨b,o,c,cs,T,f,rfl,hf,hc,hb,hr⟩
 ·exact .inl h
 ·exact .inr ⟨b,o,c,cs,T,f,rfl,k b (lt_of hb) hf,hc,hb,hr⟩
end Go.X
namespace Go.Proofs.YticdfkoncnnmmaaGreatDoor
open Go.X Go.X.Diff Go.MapKept
theorem At.stPre {h:zAd}{q:Nat}{A C B:List Value}(a:At h q (A++C)){n:Nat}(hn:A.length=n)(hd:B.length=n)(h1:∀ c ∈ B,c.oneCell'=true) :
  ∃ h',stN n h (Ptr q 0) (.agg B.toArray)=some h'/\At h' q (B++C)/\Keep (· = q) h h':=by
 obtain⟨T,a⟩:=a
 have:=zMH (n:=n) (o:=0) (A:=[]) (B:=A) (C:=C) (B':=B) (by rw[List.nil_append];exact a) rfl hn.symm hd (zRY h1)
 rw[List.nil_append]at this
 exact⟨_,this,⟨T,zAt a⟩,Keep.set rfl⟩
theorem At.ldPre {h:zAd}{q:Nat}{A C:List Value}(a:At h q (A++C)){n:Nat}(hn:A.length=n):Go.X.ldN n h (Ptr q 0)=some (Value.agg A.toArray):=by
 obtain⟨T,a⟩:=a
 exact Go.X.ldN_mid (A:=[]) (B:=A) (C:=C) (by rw[List.nil_append];exact a) rfl hn.symm
abbrev PW:=MV×Value×List (Value×List UInt8)
def pvC (x:PW):List Value:=mvC x.1++[x.2.1]
abbrev Pk:=Man×List (List UInt8)
def zO2 (x:PW):Pk:=(x.1.1,x.2.2.map (·.2))
structure PkV (P:Nat->Prop)(H:zAd)(x:PW):Prop where
 m:zJJ P H x.1.1 x.1.2.1 x.1.2.2.1 x.1.2.2.2
 f:BSS P P H x.2.1 x.2.2
 sd:x.1.1.deps.length<=1000
 sc:x.1.1.conf.length<=1000
 sf:x.1.1.files.length<=1000
 sn:x.2.2.length<=1000
 sb:∀ y ∈ x.2.2,y.2.length<=1048576
theorem BSS.mono {P Q P' Q':Nat->Prop}{H:zAd}{v:Value}{xs:List (Value×List UInt8)}(h:BSS P Q H v xs)(k:∀ b,P b->P' b)(k':∀ b,Q b->Q' b):BSS P' Q' H v xs:=⟨h.sl.mono k,fun x hx=>(h.el x hx).mono k'⟩
theorem zJJ.mono {P Q:Nat->Prop}{H:zAd}{m:Man}{vd vc vf:Value}(h:zJJ P H m vd vc vf)(k:∀ b,P b->Q b):zJJ Q H m vd vc vf:=⟨h.d.mono k,h.c.mono k,h.f.mono k,h.wf⟩
theorem PkV.keep {P S:Nat->Prop}{H H':zAd}{x:PW}(h:PkV P H x)(k:Keep S H H')(hs:∀ b,P b->¬ S b):PkV P H' x:=⟨h.m.keep k hs,h.f.keep k hs hs,h.sd,h.sc,h.sf,h.sn,h.sb⟩
theorem PkV.mono {P Q:Nat->Prop}{H:zAd}{x:PW}(h:PkV P H x)(k:∀ b,P b->Q b):PkV Q H x:=⟨h.m.mono k,h.f.mono k k,h.sd,h.sc,h.sf,h.sn,h.sb⟩
theorem zC4 {x:PW}(h:x.1.1.wf):(pvC x).length=9:=by simp[pvC,mvC,zAH h]
theorem PkV.one {P:Nat->Prop}{H:zAd}{x:PW}(h:PkV P H x):∀ c ∈ pvC x,c.oneCell'=true:=fun c hc=>by
 rcases List.mem_append.1 hc with hc | hc
 ·exact zF7 (x:=x.1) h.m c hc
 ·rw[List.mem_singleton.1 hc];exact h.f.sl.oneC
theorem zRb {x:PW}(h:x.1.1.wf):(pvC x)[8]? = some x.2.1:=by
 have:(mvC x.1).length=8:=zAH h
 unfold pvC
 rw[List.getElem?_append_right (by omega),this];rfl
def zPW:PW:=((⟨[],zB2,[],[],[]⟩,zAY,zAY,zAY),zAY,[])
theorem zZU:zAB prg zAv=some (pvC zPW).toArray:=by kernel_rfl
theorem zZV {y:MV}{t u:Value}{xs zs:List (Value×List UInt8)}(h:y.1.wf):(pvC (y,t,xs)).set 8 u=pvC (y,u,zs):=by
 have:(mvC y).length=8:=zAH h
 unfold pvC
 rw[List.set_append_right _ _ (by show(mvC y).length<=8;omega)]
 show mvC y++List.set _ (8 - (mvC y).length) u=_
 rw[this];rfl
set_option maxHeartbeats 1000000 in
theorem zWG {P:Nat->Prop}{H:zAd}{x:PW}(hx:PkV P H x) :
  zAg prg zDP [.agg (pvC x).toArray] H fun u H'=>(∃ x',u = .agg (pvC x').toArray/\zO2 x'=zO2 x/\PkV (fun b=>H.size<=b/\b<H'.size) H' x')/\Keep (fun _=>False) H H':=by
 apply zJD
 unfold zHZ
 simp only[zAN,zZU,zAs,zAx,Nat.zero_add,Nat.add_zero,zAa]
 generalize hH1:H.push (.cells (pvC x).toArray zAv (0,0))=H1
 have k1:Keep (fun _=>False) H H1:=by rw[<- hH1];exact Keep.push
 have a1:At H1 H.size (pvC x):=by rw[<- hH1];exact At.push
 have s1:H1.size=H.size+1:=by rw[<- hH1];simp
 generalize hH2:H1.push (.cells (pvC zPW).toArray zAv (0,0))=H2
 have k2:Keep (fun _=>False) H1 H2:=by rw[<- hH2];exact Keep.push
 have a2:At H2 H1.size (pvC zPW):=by rw[<- hH2];exact At.push
 have s2:H2.size=H1.size+1:=by rw[<- hH2];simp
 have w:=hx.m.wf
 have k02:=k1.trans k2
 have a12:=a1.keep k2 id
 rw[a12.ldPre (A:=mvC x.1) (zAH w),zAa]
 refine zAk (zRa (x:=x.1) (hx.m.keep k02 fun _ _=>id) hx.sd hx.sc hx.sf) ?_
 rintro _ h3 ⟨⟨vd,vc,vf,rfl,hm3⟩,k3⟩
 have g3:=k3.1
 generalize hy:(x.1.1,vd,vc,vf)=y at *
 have hy1:y.1=x.1.1:=by rw[<- hy]
 have wy:y.1.wf:=by rw[hy1];exact w
 have hmy:zJJ (fun b=>H2.size<=b/\b<h3.size) h3 y.1 y.2.1 y.2.2.1 y.2.2.2:=by rw[<- hy];exact hm3
 obtain⟨h4,st4,a4,k4⟩:=(a12.keep k3 id).stPre (A:=mvC x.1) (B:=mvC y) (zAH w) (zAH wy) (zF7 hmy)
 rw[st4,zAm]
 have a4':At h4 H.size (pvC (y,x.2.1,x.2.2)):=a4
 rw[a4'.ld (i:=8) (zRb (x:=(y,x.2.1,x.2.2)) wy),zAa]
 obtain⟨h5,st5,a5,k5⟩:=a4'.st1 (i:=8) (v := .slice none 0 0) (by rw[zC4 wy];omega) rfl
 rw[zZV (zs:=[]) wy]at a5
 rw[st5,zAm]
 have k35:Keep (· = H.size) h3 h5:=k4.trans k5
 have g35:=k35.1
 have k05:Keep (fun _=>False) H h5:=(k02.trans k3).fresh k35 fun b hb=>by omega
 have hm5:=hmy.keep k35 fun b hb=>by omega
 have a25:At h5 H1.size (pvC zPW):=(a2.keep k3 id).keep k35 (by omega)
 let I:Nat->zAd->Prop:=fun i h=>∃ t Fb Q zs,At h H.size (pvC (y,t,zs))/\BufE 1 Fb h t (zFB (zs.map (·.1)))/\(∀ z ∈ zs,Sl Q h z.1 z.2)/\zs.map (·.2)=(x.2.2.take i).map (·.2)/\(∀ b,Fb b->h5.size<=b/\b<h.size/\¬ Q b)/\(∀ b,Q b->h5.size<=b/\b<h.size)/\Keep (· = H.size) h5 h
 refine zL2 (fun _ h=>I x.2.2.length h) (fun k6 hk6=>?_) ?_
 ·rw[hx.f.len,zAa]
  refine zHU (fun u h=>∃ i:Nat,i<=x.2.2.length/\u = .int .i64 (i:Nat)/\I i h) (fun u _=>match u with | .int _ t=>x.2.2.length - t.toNat | _=>0) ⟨0,Nat.zero_le _,rfl,.slice none 0 0,fun _=>False,fun _=>False,[],a5,BufE.nil,fun z hz=>(by cases hz),rfl,fun b h=>h.elim,fun b h=>h.elim,Keep.refl⟩ ?_
  rintro _ h9 ⟨i,hi,rfl,t,Fb,Q,zs,a9,b9,e9,hz,hF,hQ,k9⟩ k8 hk8
  rw[zMs,zAa,zAc]
  by_cases hlt:i<x.2.2.length
  rotate_left
  ·rw[if_neg (by simpa using hlt)]
   obtain rfl:i=x.2.2.length:=by omega
   exact hk6 _ _ ⟨t,Fb,Q,zs,a9,b9,e9,hz,hF,hQ,k9⟩
  rw[if_pos (by simpa using hlt)]
  have hg:x.2.2[i]? = some x.2.2[i]:=List.getElem?_eq_getElem hlt
  have hmem:=List.getElem_mem hlt
  generalize x.2.2[i]=z at *
  have k09:Keep (fun _=>False) H h9:=k05.fresh k9 fun b hb=>by omega
  have g9:=k9.1
  obtain⟨slz,p,hix,hld⟩:=(hx.f.keep k09 (fun _ _=>id) (fun _ _=>id)).at hg
  have hzl:zs.length=i:=by
   have:=congrArg List.length hz
   rw[List.length_map,List.length_map,List.length_take]at this;omega
  have d8:ld1 h9 (Ptr H.size 8)=some t:=a9.ld (zRb (x:=(y,t,zs)) wy)
  have hsn:=hx.sn
  rw[hix .i64,zAa,hld,zAa,d8,zAa]
  refine zAk (zV0 (F:=fun b=>h9.size<=b) slz (by have:=hx.sb z hmem;omega) fun b hb=>hb) ?_
  rintro u h10 ⟨bu,k10⟩
  have g10:=k10.1
  have k10':Keep (fun _=>False) h9 h10:=⟨k10.1,fun b hb _=>k10.2 b hb (by omega)⟩
  have bu':Buf (fun b=>h9.size<=b/\b<h10.size) h10 u z.2:=bu.re fun b h1 h2=>⟨h2,h1⟩
  have a10:=a9.keep k10' id
  rw[a10.ld (zRb (x:=(y,t,zs)) wy),zAw,zAr]
  obtain⟨ua,uc,hu,_⟩:=bu'.sl.sl
  have hbs:zFt prg zDq 1 [(0,u)]=some #[u]:=by rw[hu];exact zAd4
  rw[hbs,zAV]
  generalize hH11:h10.push (.cells #[u] zDq (0,0))=h11
  have k11:Keep (fun _=>False) h10 h11:=by rw[<- hH11];exact Keep.push
  have g11:h11.size=h10.size+1:=by rw[<- hH11];simp
  have a11:=a10.keep k11 id
  rw[a11.ld (zRb (x:=(y,t,zs)) wy),zAw,zAr]
  have hx11:SlE 1 (· = h10.size) h11 (.slice (some ⟨h10.size,0,none⟩) 1 1) [[u]]:=⟨⟨_,1,rfl,Nat.le_refl _,.inr ⟨h10.size,0,rfl,rfl,by show Pt h11 h10.size 0 [u];rw[<- hH11];exact Pt.of zAR⟩⟩,fun x hx=>by simp at hx;subst hx;rfl,fun x hx c hc=>by simp at hx;subst hx;simp at hc;subst hc;exact bu'.sl.one⟩
  have k911:=k10'.trans k11
  refine((b9.keep k911 fun _ _=>id).mono (G:=fun b=>Fb b\/h11.size<=b) fun b hb => .inl hb).app hx11 (by omega) (by rw[zTN,List.length_map,List.length_singleton];omega) (.inr (Nat.le_refl _)) fun t24 h12 b12 k12=>?_
  have g12:=k12.1
  have lH:H.size<h9.size:=a9.lt
  have a12':=a11.keep k12 fun hh=>hh.elim (fun hh=>by have:=(hF _ hh).1;omega) fun hh=>by omega
  obtain⟨h13,st13,a13,k13⟩:=a12'.st1 (i:=8) (v:=t24) (by rw[zC4 wy];omega) b12.sl.oneC
  rw[zZV (zs:=zs++[(u,z.2)]) wy]at a13
  rw[st13,zAm,zAG (by omega),zAa]
  have g13:=k13.1
  refine hk8 _ _ ⟨i+1,by omega,rfl,t24,fun b=>(Fb b\/h11.size<=b)/\b<h12.size,fun b=>Q b\/(h9.size<=b/\b<h10.size),zs++[(u,z.2)],a13,?_,?_,?_,?_,?_,?_⟩ (by show x.2.2.length - (i+1)<x.2.2.length - i;omega)
  ·have e:zFB ((zs++[(u,z.2)]).map (·.1))=zFB (zs.map (·.1))++[[u]]:=by simp[zFB]
   rw[e]
   exact(BufE.re b12 fun b hb hF=>⟨hF,hb⟩).keep k13 fun b hb e=>by
    subst e
    rcases hb.1 with h | h
    ·have:=(hF _ h).1;omega
    ·omega
  ·intro z' hz'
   have kA:∀ {b},(Q b\/(h9.size<=b/\b<h10.size))->¬ (Fb b\/h11.size<=b):=fun {b} hb hh=>by
    rcases hb with hb | hb <;> rcases hh with hh | hh
    ·exact(hF b hh).2.2 hb
    ·have:=hQ b hb;omega
    ·have:=hF b hh;omega
    ·omega
   have kB:∀ {b},(Q b\/(h9.size<=b/\b<h10.size))->b≠H.size:=fun {b} hb e=>by
    rcases hb with hb | hb
    ·have:=hQ b hb;omega
    ·omega
   rcases List.mem_append.1 hz' with hz' | hz'
   ·exact(((((e9 z' hz').keep k911 fun _ _=>id).mono (Q:=fun b=>Q b\/(h9.size<=b/\b<h10.size)) fun b hb => .inl hb).keep k12 fun b hb=>kA hb)).keep k13 fun b hb=>kB hb
   ·rw[List.mem_singleton.1 hz']
    exact(((bu'.sl.keep k11 fun _ _=>id).mono (Q:=fun b=>Q b\/(h9.size<=b/\b<h10.size)) fun b hb => .inr hb).keep k12 fun b hb=>kA hb).keep k13 fun b hb=>kB hb
  ·rw[List.map_append,hz,List.take_add_one,hg,List.map_append];rfl
  ·intro b hb
   refine⟨?_,by have:=hb.2;omega,fun hq=>?_⟩
   ·rcases hb.1 with h | h
    ·exact(hF b h).1
    ·omega
   ·rcases hb.1 with h | h <;> rcases hq with hq | hq
    ·exact(hF b h).2.2 hq
    ·have:=hF b h;omega
    ·have:=hQ b hq;omega
    ·omega
  ·intro b hb
   rcases hb with hb | hb
   ·have:=hQ b hb;omega
   ·omega
  ·refine((k9.trans (k911.mono fun _ _ h=>h.elim)).fresh' k12 fun b hb => .inr ?_).trans k13
   rcases hb with h | h
   ·exact(hF b h).1
   ·omega
 ·rintro _ h7 ⟨t,Fb,Q,zs,a7,b7,e7,hz,hF,hQ,k7⟩
  have g7:=k7.1
  rw[List.take_of_length_le (Nat.le_refl _)]at hz
  have hsz:∀ b,(H2.size<=b/\b<h3.size)->¬ b=H.size:=fun b hb=>by omega
  have hpk:PkV (fun b=>H2.size<=b/\b<h7.size) h7 (y,t,zs):=by
   refine⟨(hm5.keep k7 hsz).mono fun b hb=>by omega,⟨b7.sl.mono fun b hb=>?_,fun z hz=>(e7 z hz).mono fun b hb=>?_⟩,by rw[hy1];exact hx.sd,by rw[hy1];exact hx.sc,by rw[hy1];exact hx.sf,?_,fun z hz'=>?_⟩
   ·have:=hF b hb;omega
   ·have:=hQ b hb;omega
   ·have:=congrArg List.length hz
    rw[List.length_map,List.length_map]at this
    have:=hx.sn
    show zs.length<=1000
    omega
   ·have:z.2 ∈ x.2.2.map (·.2):=by rw[<- hz];exact List.mem_map.2 ⟨z,hz',rfl⟩
    obtain⟨z2,h1,h2⟩:=List.mem_map.1 this
    rw[<- h2];exact hx.sb z2 h1
  have a27:At h7 H1.size (pvC zPW):=a25.keep k7 (by omega)
  obtain⟨h14,st14,a14,k14⟩:=a27.st (n:=9) (ds:=pvC (y,t,zs)) (zC4 zMt) (zC4 wy) hpk.one
  rw[a7.ldN (zC4 wy),zAa,st14,zAm,a14.ldN (zC4 wy),zAa]
  have g14:=k14.1
  have k514:Keep (fun b=>b=H.size\/b=H1.size) h5 h14:=(k7.mono fun _ _ h => .inl h).trans (k14.mono fun _ _ h => .inr h)
  refine⟨⟨(y,t,zs),rfl,?_,(hpk.keep k14 fun b hb=>by omega).mono fun b hb=>by omega⟩,k05.fresh k514 fun b hb=>by omega⟩
  show(y.1,zs.map (·.2))=(x.1.1,x.2.2.map (·.2))
  rw[hy1,hz]
abbrev No:Nat->Prop:=fun _=>False
theorem zXT {a:Bool}{H:zAd}{yes:(Value->zAd->Prop)->Prop}{K:Value->Value->zAd->Prop}(ht:a=true->K undef (.bool true) H)(hf:a=false->yes fun t h=>K t t h) :
  J1 (fun k=>Mif (.bool a) false (yes k) (k undef H)) fun t h=>Mpu (zAC (.bool a) (.bool true) t) fun u=>K t u h:=by
 cases a
 ·have e:(fun t h=>Mpu (zAC (.bool false) (.bool true) t) fun u=>K t u h)=fun t h=>K t t h:=by
   funext t h;exact propext zAa
  rw[e];exact zBM rfl (hf rfl)
 ·exact zJe (by decide) (zAa.2 (ht rfl))
theorem zZW {a:Bool}{H:zAd}{yes:(Value->zAd->Prop)->Prop}{K:Value->Value->zAd->Prop}(ht:a=true->yes fun t h=>K t t h)(hf:a=false->K undef (.bool false) H) :
  J1 (fun k=>Mif (.bool a) true (yes k) (k undef H)) fun t h=>Mpu (zAC (.bool a) t (.bool false)) fun u=>K t u h:=by
 cases a
 ·exact zJe (by decide) (zAa.2 (hf rfl))
 ·have e:(fun t h=>Mpu (zAC (.bool true) t (.bool false)) fun u=>K t u h)=fun t h=>K t t h:=by
   funext t h;exact propext zAa
  rw[e];exact zBM rfl (ht rfl)
theorem zOX {a:Bool}{yes no:Prop}(h:a=true)(k:yes):Mcd (.bool a) yes no:=by subst h;exact zAc.2 (by rw[if_pos rfl];exact k)
theorem zPC {a:Bool}{yes no:Prop}(h:a=false)(k:no):Mcd (.bool a) yes no:=by subst h;exact zAc.2 (by rw[if_neg (by decide)];exact k)
theorem zZX {a:Bool}{yes no:Prop}(h:a=true->yes)(k:a=false->no):Mcd (.bool a) yes no:=by
 cases a
 ·exact zPC rfl (k rfl)
 ·exact zOX rfl (h rfl)
theorem zCO {o:Option Value}{v:Value}{K:Value->Prop}(h:o=some v)(k:K v):Mpu o K:=⟨v,h,k⟩
theorem range_i {v:Value}{n:Nat}{H:zAd}{B:(Value->zAd->Prop)->(Value->zAd->Prop)->Value->zAd->Prop}{R:Value->zAd->Prop}(hl:zBO v=some (.int .i64 (n:Nat)))(I:Nat->zAd->Prop)(E:zAd->Prop)(h0:I 0 H)(hE:∀ h,I n h->E h)
  (hs:∀ i h,i<n->I i h->∀ k1 k3:Value->zAd->Prop,(∀ t h',E h'->k1 t h')->(∀ h',I (i+1) h'->k3 (.int .i64 ((i+1:Nat):Int)) h')->B k1 k3 (.int .i64 (i:Nat)) h) (hr:∀ t h,E h->R t h) :
  J1 (fun k1=>Mpu (zBO v) fun m=>L1 (fun k3 t h=>Mpu (zAh .no .lss t m) fun c=>Mcd c (B k1 k3 t h) (k1 t h)) (.int .i64 0) H) R:=by
 refine zL2 (fun _ h=>E h) (fun k1 hk1=>?_) hr
 rw[hl,zAa]
 refine zHU (fun u h=>∃ i:Nat,i<=n/\u = .int .i64 (i:Nat)/\I i h) (fun u _=>match u with | .int _ t=>n - t.toNat | _=>0) ⟨0,Nat.zero_le _,rfl,h0⟩ ?_
 rintro _ h ⟨i,hi,rfl,hI⟩ k3 hk3
 rw[zMs,zAa,zAc]
 by_cases hlt:i<n
 ·rw[if_pos (by simpa using hlt)]
  exact hs i h hlt hI k1 k3 hk1 fun h' hI'=>hk3 _ _ ⟨i+1,by omega,rfl,hI'⟩ (by show n - (i+1)<n - i;omega)
 ·rw[if_neg (by simpa using hlt)]
  obtain rfl:i=n:=by omega
  exact hk1 _ _ (hE _ hI)
theorem zAgh {n:Nat}{H:zAd}{B:(Value->zAd->Prop)->Value->zAd->Prop}{X:Value->zAd->Prop}(I:Nat->zAd->Prop)(h0:I 0 H)(hr:∀ h,I n h->X (.int .i64 (n:Nat)) h)
  (hs:∀ i h,i<n->I i h->∀ k3:Value->zAd->Prop,(∀ h',I (i+1) h'->k3 (.int .i64 ((i+1:Nat):Int)) h')->B k3 (.int .i64 (i:Nat)) h) :
  L1 (fun k3 t h=>Mpu (zAh .no .lss t (.int .i64 (n:Nat))) fun c=>Mcd c (B k3 t h) (X t h)) (.int .i64 0) H:=by
 refine zHU (fun u h=>∃ i:Nat,i<=n/\u = .int .i64 (i:Nat)/\I i h) (fun u _=>match u with | .int _ t=>n - t.toNat | _=>0) ⟨0,Nat.zero_le _,rfl,h0⟩ ?_
 rintro _ h ⟨i,hi,rfl,hI⟩ k3 hk3
 rw[zMs,zAa,zAc]
 by_cases hlt:i<n
 ·rw[if_pos (by simpa using hlt)]
  exact hs i h hlt hI k3 fun h' hI'=>hk3 _ _ ⟨i+1,by omega,rfl,hI'⟩ (by show n - (i+1)<n - i;omega)
 ·rw[if_neg (by simpa using hlt)]
  obtain rfl:i=n:=by omega
  exact hr _ hI
theorem zZY {i n:Nat}{K:Value->Prop}(hi:i<n)(hn:n<=9223372036854775807)(h:K (.int .i64 ((i+1:Nat):Int))):Mpu (zAh .no .add (.int .i64 (i:Nat)) (.int .i64 1)) K:=by
 have e:zAh .no .add (.int .i64 (i:Nat)) (.int .i64 1)=some (.int .i64 ((i+1:Nat):Int)):=by
  rw[zAi];simp only[zA9];rw[zAM (by omega) (by omega)];rfl
 rw[e,zAa];exact h
theorem zAhD {n:Nat}{T:TypeId}{P:Nat->Prop}{h:zAd}{v:Value}{xs:List (List Value)}{c:List Value}{i:Nat}{zc:Option (Array Value)}{z:List Value}{K:Value->zAd->Prop}(hv:SlE n P h v xs)(hi:xs[i]? = some c)(hz:zc=some z.toArray)(hzl:z.length=n)
  (hk:∀ h',At h' h.size c->Keep No h h'->K (Ptr h.size 0) h'):Mpu (ixS n v (.int .i64 (i:Nat))) fun p=>Mpu (ldN n h p) fun a=>zBH h T zc fun t h7=>Mwr (stN n h7 t a) fun h8=>K t h8:=by
 have hm:=List.mem_of_getElem? hi
 obtain⟨b,o,hix,hpt,_⟩:=hv.at hi
 rw[hix .i64,zAa,hpt.agg (hv.el c hm),zAa,hz,zAs]
 have k7:Keep No h (h.push (.cells z.toArray T (0,0))):=Keep.push
 obtain⟨h8,st8,a8,k8⟩:=(At.push (cs:=z) (T:=T) (h:=h)).st (n:=n) (ds:=c) hzl (hv.el c hm) (hv.one c hm)
 show Mwr (stN n _ (Ptr h.size 0) _) _
 rw[st8,zAm]
 exact hk h8 a8 (k7.fresh k8 fun b e=>by omega)
theorem zAhE {n:Nat}{T:TypeId}{h:zAd}{c z:List Value}{zc:Option (Array Value)}{K:Value->zAd->Prop}(hz:zc=some z.toArray)(hzl:z.length=n)(hc:c.length=n)(h1:∀ x ∈ c,x.oneCell'=true)
  (hk:∀ h',At h' h.size c->Keep No h h'->K (Ptr h.size 0) h'):zBH h T zc fun t h7=>Mwr (stN n h7 t (.agg c.toArray)) fun h8=>K t h8:=by
 rw[hz,zAs]
 have k7:Keep No h (h.push (.cells z.toArray T (0,0))):=Keep.push
 obtain⟨h8,st8,a8,k8⟩:=(At.push (cs:=z) (T:=T) (h:=h)).st (n:=n) (ds:=c) hzl hc h1
 show Mwr (stN n _ (Ptr h.size 0) _) _
 rw[st8,zAm]
 exact hk h8 a8 (k7.fresh k8 fun b e=>by omega)
theorem zAiI {body:(Value->Value->Value->Value->Value->zAd->Prop)->Prop}{rest:Value->Value->Value->Value->Value->zAd->Prop}(I:zAd->Prop)(h1:∀ k:Value->Value->Value->Value->Value->zAd->Prop,(∀ a b c d e h,I h->k a b c d e h)->body k)(h2:∀ a b c d e h,I h->rest a b c d e h):J5 body rest :=
 zAgW.2 (h1 rest h2)
end Go.Proofs.YticdfkoncnnmmaaGreatDoor
