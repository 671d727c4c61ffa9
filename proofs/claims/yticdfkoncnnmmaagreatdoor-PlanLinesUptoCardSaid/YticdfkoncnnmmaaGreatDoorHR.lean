import Derived.Test.YticdfkoncnnmmaaGreatDoorHP
import Derived.Test.YticdfkoncnnmmaaGreatDoorHN
set_option linter.unusedSimpArgs false
set_option linter.unusedVariables false
set_option maxRecDepth 100000
namespace Go.Proofs.YticdfkoncnnmmaaGreatDoor
open Go.X Go.X.Diff
structure zAi7 (P:zA2)(H h:zAw)(vi vp:Value)(z:zSu)(l:List Pk)(kd:Int)(d s t:Value)(e:Int)(Hm hm:zAw)(q:Nat):Prop where
 k:Keep No H h
 mh:Keep No hm h
 i:zNM P h vi z.mv
 c:At h H.size (zMU vi vp z.ask)
 ch:At h q (chC kd d s t)
 m:zXH (zBR z.mv) l z.ask Hm hm kd d s t e
 lok:∀ y∈l,zYL y=true
 lz:∀ y∈l,∃ x∈z.pv,zLR x=y
 ll:l.length<=12
theorem zAi7.keep {P:zA2}{H h h':zAw}{vi vp:Value}{z:zSu}{l:List Pk}{kd:Int}{d s t:Value}{e:Int}{Hm hm:zAw}{q:Nat}(m:zAi7 P H h vi vp z l kd d s t e Hm hm q)(k:Keep No h h'):zAi7 P H h' vi vp z l kd d s t e Hm hm q :=
 ⟨m.k.trans k,m.mh.trans k,m.i.keep k λ_ _=>id,m.c.keep k id,m.ch.keep k id,m.m,m.lok,m.lz,m.ll⟩
theorem zAkK {P:zA2}{H h14:zAw}{vi vp:Value}{z:zSu}{BAD:zAw->Prop}{REST:Value->zAn}(hz:zAa6 P H vi vp z)(hP:∀ b,P b->b<H.size)(hT:zZF H)(hS:zTa H)(hNG:NG<=H.size)(a14:At h14 H.size (zMU vi vp z.ask))(k14:Keep No H h14)(sz:zAae z)
  (hrest:∀ h q l kd d s t e Hm hm,zAi7 P H h vi vp z l kd d s t e Hm hm q->REST (Ptr q 0) (.int .i64 e) h) :
  Mpu (fld 1 (Ptr H.size 0)) λt59'=>Mpu (ld1 h14 t59') λt59=>zA3 prg zGm [t59] h14 λt60 h16=>Mpu (zFg 0 t60) λt61=>Mpu (zFg 1 t60) λt62=>Mpu (zAC .ptr .eql t61 (.pointer none)) λt64 =>
  Mcd t64 (BAD h16) (Mpu (fld 0 (Ptr H.size 0)) λt66=>Mpu (ld1 h16 t66) λt67=>Mpu (fld 2 (Ptr H.size 0)) λt69=>Mpu (ldN 8 h16 t69) λt70=>zA3 prg zKt [t67,t61,t70] h16 λt71 h17=>Mpu (zFg 0 t71) λt72=>Mpu (zFg 1 t71) λt73 =>
  zDA h17 zB3 (zBE prg zB3) λt5 h18=>Mwr (stN 4 h18 t5 t72) λh19=>REST t5 t73 h19):=by
 have ha:=hz.a
 have TT:∀ h',Keep No H h'->zZF h'/\zTa h':=λh' k=>⟨hT.keep k λ_ h=>h.elim,hS.keep k λ_ h=>h.elim⟩
 have hpi:∀ h,Keep No H h->zNM P h vi z.mv:=λh k=>(hz.i.to sz.i).keep k λ_ _=>id
 have hPh:∀ h,Keep No H h->∀ b,P b->b<h.size:=λh k b hb=>zAS (hP b hb) k.1
 have il:=sz.il
 have pl:=sz.pl
 simp only[zBf,zAg,zAa]
 refine zCk (zAmE a14) ?_
 refine zAJ (zAfO (hz.p.keep k14 λ_ _=>id) sz.p (hPh _ k14) (by omega) (TT _ k14).1 (TT _ k14).2 (by have:=k14.1;omega)) ?_
 rintro _ h16 ⟨⟨R',F,p,w,out,rfl,hu,ho⟩,k16⟩
 have k016:=k14.trans k16
 have a16:=a14.keep k16 id
 have pn:zAC .ptr .eql (Ptr p 0) (.pointer none)=some (.bool false):=rfl
 refine zCk rfl (zCk rfl (zCk pn (zOF rfl ?_)))
 refine zCk (zAmD a16) (zCk (zAkE a16 ha) ?_)
 have hll:(zSv (z.pv.map zLR)).length<=12:=by have:=zAad (l:=z.pv.map zLR);rw[zAf]at this;omega
 refine zAJ (zAgT (hpi _ k016) hu.q (hPh _ k016) ha (by omega) (TT _ k016).1.ops (by have:=k016.1;omega)) ?_
 rintro u h17 ⟨hm,k17⟩
 obtain⟨kd,d,s,t,e,rfl,⟨o1,o2,o3⟩,hc⟩:=zAkG hm
 have k017:=k016.trans k17
 refine zCk rfl (zCk rfl ?_)
 refine zAiv (z:=chC 0 zCq zCq zCq) (c:=chC kd d s t) zTj rfl rfl (zQW o1 o2 o3) λh19 a19 k19=>?_
 refine hrest h19 h17.size _ kd d s t e h16 h17 ⟨k017.trans k19,k19,hpi _ (k017.trans k19),(a16.keep k17 id).keep k19 id,a19,hc,zAfN,λy hy=>?_,hll⟩
 rw[<- hu.e]at hy
 obtain⟨x,hx,e⟩:=zAo.1 hy
 exact⟨x,ho x hx,e⟩
structure zAfS (P:zA2)(h:zAw)(inst:List MV)(l:List Pk)(G:List Man)(d s t:Value)(dr:List MV)(ad:List PW)(af:List MV):Prop where
 A:zNM (λb=>b<h.size) h t af
 D:zNM (λb=>b<h.size) h d dr
 S:SlE 9 (λb=>b<h.size) h s (ad.map pvC)
 Sm:∀ x∈ad,PkV (λb=>b<h.size) h x
 al:af.length<=40
 dl:dr.length<=8
 sl:ad.length<=40
 hdr:zBR dr=(zBR inst).filter λm=>!zJZ G m
 had:ad.map zLR=(G.filter λm=>!zJZ (zBR inst) m).map (zNt l)
 haf:zBR af=G
theorem zAfS.keep {P:zA2}{h h':zAw}{inst:List MV}{l:List Pk}{G:List Man}{d s t:Value}{dr:List MV}{ad:List PW}{af:List MV}(p:zAfS P h inst l G d s t dr ad af)(k:Keep No h h'):zAfS P h' inst l G d s t dr ad af:=by
 have g:=k.1
 exact⟨⟨(p.A.h.keep k λ_ _=>id).mono λb hb=>by omega,λx hx=>((p.A.m x hx).keep k λ_ _=>id).mono λb hb=>by omega,p.A.sm⟩,⟨(p.D.h.keep k λ_ _=>id).mono λb hb=>by omega,λx hx=>((p.D.m x hx).keep k λ_ _=>id).mono λb hb=>by omega,p.D.sm⟩,(p.S.keep k λ_ _=>id).mono λb hb=>by omega,λx hx=>((p.Sm x hx).keep k λ_ _=>id).mono λb hb=>by omega,p.al,p.dl,p.sl,p.hdr,p.had,p.haf⟩
theorem zAaf {P:zA2}{h:zAw}{vi:Value}{z:zSu}{l:List Pk}(hi:zNM P h vi z.mv)(sz:zAae z)(hP0:∀ x∈z.pv,x.1.1.wf)(lz:∀ y∈l,∃ x∈z.pv,zLR x=y):∀ m∈zEO (zBR z.mv) l,m.wf/\m.deps.length<=1000/\m.conf.length<=1000:=λm hm=>by
 unfold zEO at hm
 rcases zAt.1 hm with hm|hm
 ·obtain⟨x,hx,rfl⟩:=zAo.1 hm
  exact⟨(hi.m x hx).wf,hi.sm x hx⟩
 ·obtain⟨y,hy,rfl⟩:=zAo.1 (zAX.1 hm).1
  obtain⟨x,hx,rfl⟩:=lz y hy
  have:=sz.p x.1 (zAo.2 ⟨x,hx,rfl⟩)
  unfold zRJ at this
  exact⟨hP0 x hx,by show x.1.1.deps.length<=1000;omega,by show x.1.1.conf.length<=1000;omega⟩
theorem zAd2 {inst:List Man}{l:List Pk}:(zEO inst l).length<=inst.length+l.length:=by
 unfold zEO
 have:=zBl (zYN inst) (l.map (·.1))
 rw[zAf]at this
 rw[zAq];omega
theorem zAfT {inst:List Man}{l:List Pk}{a:zQz}{G:List Man}(hG:zQm inst l a G):G.length<=inst.length+l.length:=by
 obtain⟨_,h⟩:=hG
 rcases h with ⟨_,_,_,rfl⟩|⟨_,_,ks,_,hN,rfl⟩
 ·have:=zBl (λm:Man=>!decide (m.name=a.name)) inst
  omega
 ·rw[zAf]
  have h1:=hN.sorted.len
  have h2:=zAd2 (inst:=inst) (l:=l)
  omega
theorem zAi7.parts {P:zA2}{H h:zAw}{vi vp:Value}{z:zSu}{l:List Pk}{kd:Int}{d s t:Value}{Hm hm:zAw}{q:Nat}{e:Int}(m:zAi7 P H h vi vp z l kd d s t e Hm hm q)(he:e=0)(sz:zAae z)(hw:∀ x∈z.pv,x.1.1.wf) :
  kd=z.ask.kind/\∃ G dr ad af,zQm (zBR z.mv) l z.ask G/\zEW G=true/\zAfS P h z.mv l G d s t dr ad af:=by
 obtain⟨k,mk,hi,_,_,mm,lok,lz,ll⟩:=m
 rcases mm with ⟨_,_,_,_,h5,_⟩|⟨h1,h2,G,n0,zz,col,dr,ad,af,hG,hr,hzz,hci,hdr,had,haf⟩
 ·exact absurd he h5
 refine⟨h1,G,dr,ad,af,hG,hr,?_⟩
 have g:=mk.1
 have ts:=zAaf hi sz hw lz
 have hGl:=zAfT hG
 have il:=sz.il
 rw[zAf]at hGl
 have hgs:=zTl hG
 refine⟨⟨(hci.bt.sl.keep mk λ_ _=>id).mono λb hb=>by have:=hb.2.2;omega,λx hx=>((hci.mt x hx).keep mk λ_ _=>id).mono λb hb=>by have:=hb.2.2;omega,λx hx=>?_⟩,⟨(hci.bd.sl.keep mk λ_ _=>id).mono λb hb=>by have:=hb.2.2;omega,λx hx=>((hci.md x hx).keep mk λ_ _=>id).mono λb hb=>by have:=hb.2.2;omega,λx hx=>?_⟩,(hci.bs.sl.keep mk λ_ _=>id).mono λb hb=>by have:=hb.2.2;omega,λx hx=>((hci.ms x hx).keep mk λ_ _=>id).mono λb hb=>by have:=hb.2.2;omega,?_,?_,?_,hdr,had,haf⟩
 ·have:x.1∈G:=by rw[<- haf];exact zAo.2 ⟨x,hx,rfl⟩
  exact(ts _ (hgs _ this)).2
 ·have:x.1∈zBR dr:=zAo.2 ⟨x,hx,rfl⟩
  rw[hdr]at this
  exact(ts _ (zP8 (zAX.1 this).1)).2
 ·have:=congrArg List.length haf;rw[zAf]at this;omega
 ·have:=congrArg List.length hdr
  have h2:=zBl (λm=>!zJZ G m) (zBR z.mv)
  rw[zAf]at this h2
  omega
 ·have:=congrArg List.length had
  have h2:=zBl (λm=>!zJZ (zBR z.mv) m) G
  rw[zAf,zAf]at this
  omega
end Go.Proofs.YticdfkoncnnmmaaGreatDoor
