import Derived.Test.YticdfkoncnnmmaaGreatDoorHP
import Derived.Test.YticdfkoncnnmmaaGreatDoorHN
set_option linter.unusedSimpArgs false
set_option linter.unusedVariables false
set_option maxRecDepth 100000
namespace Go.Proofs.YticdfkoncnnmmaaGreatDoor
open Go.X Go.X.Diff
structure zAk9 (P:zA1)(H h:zAx)(vi vp:Value)(z:zZv)(l:List Pk)(kd:Int)(d s t:Value)(e:Int)(Hm hm:zAx)(q:Nat):Prop where
 k:Keep No H h
 mh:Keep No hm h
 i:zLB P h vi z.mv
 c:At h H.size (zAmA vi vp z.ask)
 ch:At h q (chC kd d s t)
 m:zZy (zCi z.mv) l z.ask Hm hm kd d s t e
 lok:∀ y∈l,zTL y=true
 lz:∀ y∈l,∃ x∈z.pv,zJg x=y
 ll:l.length<=12
theorem zAk9.keep {P:zA1}{H h h':zAx}{vi vp:Value}{z:zZv}{l:List Pk}{kd:Int}{d s t:Value}{e:Int}{Hm hm:zAx}{q:Nat}(m:zAk9 P H h vi vp z l kd d s t e Hm hm q)(k:Keep No h h'):zAk9 P H h' vi vp z l kd d s t e Hm hm q :=
 ⟨m.k.trans k,m.mh.trans k,m.i.keep k λ_ _=>id,m.c.keep k id,m.ch.keep k id,m.m,m.lok,m.lz,m.ll⟩
structure zAgi (P:zA1)(h:zAx)(inst:List MV)(l:List Pk)(G:List Man)(d s t:Value)(dr:List MV)(ad:List PW)(af:List MV):Prop where
 A:zLB (λb=>b<h.size) h t af
 D:zLB (λb=>b<h.size) h d dr
 S:SlE 9 (λb=>b<h.size) h s (ad.map pvC)
 Sm:∀ x∈ad,PkV (λb=>b<h.size) h x
 al:af.length<=40
 dl:dr.length<=8
 sl:ad.length<=40
 hdr:zCi dr=(zCi inst).filter λm=>!zG9 G m
 had:ad.map zJg=(G.filter λm=>!zG9 (zCi inst) m).map (zJA l)
 haf:zCi af=G
theorem zAgi.keep {P:zA1}{h h':zAx}{inst:List MV}{l:List Pk}{G:List Man}{d s t:Value}{dr:List MV}{ad:List PW}{af:List MV}(p:zAgi P h inst l G d s t dr ad af)(k:Keep No h h'):zAgi P h' inst l G d s t dr ad af:=by
 have g:=k.1
 exact⟨⟨(p.A.h.keep k λ_ _=>id).mono λb hb=>by omega,λx hx=>((p.A.m x hx).keep k λ_ _=>id).mono λb hb=>by omega,p.A.sm⟩,⟨(p.D.h.keep k λ_ _=>id).mono λb hb=>by omega,λx hx=>((p.D.m x hx).keep k λ_ _=>id).mono λb hb=>by omega,p.D.sm⟩,(p.S.keep k λ_ _=>id).mono λb hb=>by omega,λx hx=>((p.Sm x hx).keep k λ_ _=>id).mono λb hb=>by omega,p.al,p.dl,p.sl,p.hdr,p.had,p.haf⟩
theorem zAgj {P:zA1}{h:zAx}{vi:Value}{z:zZv}{l:List Pk}(hi:zLB P h vi z.mv)(sz:zAht z)(hP0:∀ x∈z.pv,x.1.1.wf)(lz:∀ y∈l,∃ x∈z.pv,zJg x=y):∀ m∈zDN (zCi z.mv) l,m.wf/\m.deps.length<=1000/\m.conf.length<=1000:=λm hm=>by
 unfold zDN at hm
 rcases zAp.1 hm with hm|hm
 ·obtain⟨x,hx,rfl⟩:=zAo.1 hm
  exact⟨(hi.m x hx).wf,hi.sm x hx⟩
 ·obtain⟨y,hy,rfl⟩:=zAo.1 (zBd.1 hm).1
  obtain⟨x,hx,rfl⟩:=lz y hy
  have:=sz.p x.1 (zAo.2 ⟨x,hx,rfl⟩)
  unfold zPb at this
  exact⟨hP0 x hx,by show x.1.1.deps.length<=1000;omega,by show x.1.1.conf.length<=1000;omega⟩
theorem zYq {inst:List Man}{l:List Pk}:(zDN inst l).length<=inst.length+l.length:=by
 unfold zDN
 have:=zBi (zYf inst) (l.map (·.1))
 rw[zAd]at this
 rw[zAt];omega
theorem zAgk {inst:List Man}{l:List Pk}{a:zSe}{G:List Man}(hG:zS4 inst l a G):G.length<=inst.length+l.length:=by
 obtain⟨_,h⟩:=hG
 rcases h with ⟨_,_,_,rfl⟩|⟨_,_,ks,_,hN,rfl⟩
 ·have:=zBi (λm:Man=>!decide (m.name=a.name)) inst
  omega
 ·rw[zAd]
  have h1:=hN.sorted.len
  have h2:=zYq (inst:=inst) (l:=l)
  omega
theorem zAk9.parts {P:zA1}{H h:zAx}{vi vp:Value}{z:zZv}{l:List Pk}{kd:Int}{d s t:Value}{Hm hm:zAx}{q:Nat}{e:Int}(m:zAk9 P H h vi vp z l kd d s t e Hm hm q)(he:e=0)(sz:zAht z)(hw:∀ x∈z.pv,x.1.1.wf) :
  kd=z.ask.kind/\∃ G dr ad af,zS4 (zCi z.mv) l z.ask G/\zC0 G=true/\zAgi P h z.mv l G d s t dr ad af:=by
 obtain⟨k,mk,hi,_,_,mm,lok,lz,ll⟩:=m
 rcases mm with ⟨_,_,_,_,h5,_⟩|⟨h1,h2,G,n0,zz,col,dr,ad,af,hG,hr,hzz,hci,hdr,had,haf⟩
 ·exact absurd he h5
 refine⟨h1,G,dr,ad,af,hG,hr,?_⟩
 have g:=mk.1
 have ts:=zAgj hi sz hw lz
 have hGl:=zAgk hG
 have il:=sz.il
 rw[zAd]at hGl
 have hgs:=zAgg hG
 refine⟨⟨(hci.bt.sl.keep mk λ_ _=>id).mono λb hb=>by have:=hb.2.2;omega,λx hx=>((hci.mt x hx).keep mk λ_ _=>id).mono λb hb=>by have:=hb.2.2;omega,λx hx=>?_⟩,⟨(hci.bd.sl.keep mk λ_ _=>id).mono λb hb=>by have:=hb.2.2;omega,λx hx=>((hci.md x hx).keep mk λ_ _=>id).mono λb hb=>by have:=hb.2.2;omega,λx hx=>?_⟩,(hci.bs.sl.keep mk λ_ _=>id).mono λb hb=>by have:=hb.2.2;omega,λx hx=>((hci.ms x hx).keep mk λ_ _=>id).mono λb hb=>by have:=hb.2.2;omega,?_,?_,?_,hdr,had,haf⟩
 ·have:x.1∈G:=by rw[<- haf];exact zAo.2 ⟨x,hx,rfl⟩
  exact(ts _ (hgs _ this)).2
 ·have:x.1∈zCi dr:=zAo.2 ⟨x,hx,rfl⟩
  rw[hdr]at this
  exact(ts _ (zVT (zBd.1 this).1)).2
 ·have:=congrArg List.length haf;rw[zAd]at this;omega
 ·have:=congrArg List.length hdr
  have h2:=zBi (λm=>!zG9 G m) (zCi z.mv)
  rw[zAd]at this h2
  omega
 ·have:=congrArg List.length had
  have h2:=zBi (λm=>!zG9 (zCi z.mv) m) G
  rw[zAd,zAd]at this
  omega
end Go.Proofs.YticdfkoncnnmmaaGreatDoor
