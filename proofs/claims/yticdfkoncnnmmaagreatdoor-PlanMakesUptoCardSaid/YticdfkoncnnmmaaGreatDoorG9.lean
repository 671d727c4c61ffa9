import Derived.Test.YticdfkoncnnmmaaGreatDoorG8
import Derived.Test.YticdfkoncnnmmaaGreatDoorG6
set_option linter.unusedSimpArgs false
set_option linter.unusedVariables false
set_option maxRecDepth 100000
namespace Go.Proofs.YticdfkoncnnmmaaGreatDoor
open Go.X Go.X.Diff
theorem zDJ {b w:Bool}{yes:(zAm)->Prop}{no:(zAm)->Prop}{rest:zAm}(h:b=w)(hy:yes rest):J1 (λk=>Mif (.bool b) w (yes k) (no k)) rest:=zBW.2 (zAO.2 (by rw[if_pos h];exact hy))
theorem zKt {b w:Bool}{yes:(zAm)->Prop}{H:zAw}{rest:zAm}(h:b≠w)(hy:rest undef H):J1 (λk=>Mif (.bool b) w (yes k) (k undef H)) rest:=zBW.2 (zAO.2 (by rw[if_neg h];exact hy))
abbrev zKI (l:List Int):List (List Value):=zHM (l.map (Value.int .i64))
abbrev MV:=Man×Value×Value×Value
def mvC (x:MV):List Value:=zGM x.1 x.2.1 x.2.2.1 x.2.2.2
abbrev zBV (mv:List MV):List Man:=mv.map (·.1)
def zKl (vh vw:Value)(b:Int):List Value:=[vh,vw,.int .i64 b]
structure Prb (P:zA3)(H:zAw)(mv:List MV)(wants:List Dep)(vh vw:Value):Prop where
 h:SlE 8 P H vh (mv.map mvC)
 m:∀ x∈mv,zMx P H x.1 x.2.1 x.2.2.1 x.2.2.2
 w:SlE 6 P H vw (wants.map zED)
 ww:∀ d∈wants,d.wf
 sm:∀ x∈mv,x.1.deps.length<=1000/\x.1.conf.length<=1000
theorem Prb.keep {P S:zA3}{H H':zAw}{mv:List MV}{wants:List Dep}{vh vw:Value}(h:Prb P H mv wants vh vw)(k:Keep S H H')(hs:∀ b,P b->¬ S b):Prb P H' mv wants vh vw :=
 ⟨h.h.keep k hs,λx hx=>(h.m x hx).keep k hs,h.w.keep k hs,h.ww,h.sm⟩
theorem zXI {mv:List MV}{k:Nat}{x:MV}(h:mv[k]? = some x):gM (zBV mv) k=x.1:=by
 unfold gM
 exact zUp (by rw[zAr,h];rfl)
theorem Prb.at {P:zA3}{H:zAw}{mv:List MV}{wants:List Dep}{vh vw:Value}(h:Prb P H mv wants vh vw){k:Nat}(hk:k<(zBV mv).length):∃ x,mv[k]? = some x/\gM (zBV mv) k=x.1/\x∈mv/\zMx P H x.1 x.2.1 x.2.2.1 x.2.2.2/\∃ b o,(∀ q,ixS 8 vh (.int q k)=some (Ptr b o))/\Pt H b o (mvC x)/\P b:=by
 rw[zAd]at hk
 have hg:mv[k]? = some mv[k]:=zAj hk
 have hm:mv[k]∈mv:=zAH hk
 exact⟨mv[k],hg,zXI hg,hm,h.m _ hm,h.h.at (x:=mvC mv[k]) (by rw[zAr,hg];rfl)⟩
theorem zY2 {h:zAw}{b o:Nat}{x:MV}(p:Pt h b o (mvC x)):ld1 h (Ptr b o)=some (str x.1.name):=p.cell0 rfl
theorem zXJ {h:zAw}{b o:Nat}{x:MV}(p:Pt h b o (mvC x))(hw:x.1.wf):ldN 4 h (Ptr b (o+1))=some (.agg (zEP x.1.ver).toArray):=by
 have e:mvC x=[str x.1.name]++zEP x.1.ver++[x.2.1,x.2.2.1,x.2.2.2]:=by simp[mvC,zGM]
 rw[e]at p
 exact(p.mid (A:=[str x.1.name]) (B:=zEP x.1.ver) (o':=o+1) rfl).agg (zDU hw.ver)
theorem zNN {h:zAw}{b o:Nat}{x:MV}(p:Pt h b o (mvC x))(hw:x.1.wf):ldN 8 h (Ptr b o)=some (.agg (mvC x).toArray):=p.agg (zBH hw)
def zAlg (fv:Value)(xs:List Int)(del:Int->Bool)(G:zAw->Prop):Prop:=∀ (n:Int) (h:zAw),n∈xs->G h->zDO prg fv [.int .i64 n] h λu h'=>u = .bool (del n)/\Keep zAK h h'
theorem zVx {G:zAw->Prop}{P:zA3}{H:zAw}{v fv:Value}{xs:List Int}{del:Int->Bool}(hv:SlE 1 P H v (zKI xs))(hd:zAlg fv xs del G)(hG:∀ h,Keep zAK H h->G h)(hl:xs.length<=1099511627776) :
  zAz prg zEa [v,fv] H λu H'=>Keep zAK H H'/\((u = .int .i64 (-1)/\∀ x∈xs,del x=false)\/∃ i:Nat,u = .int .i64 (i:Nat)/\(∀ x∈xs.take i,del x=false)/\∃ x,xs[i]? = some x/\del x=true):=by
 apply zJj
 unfold zHh
 have hlen:=hv.len
 rw[zT2,zAd]at hlen
 refine zNB (λ_ h=>(∀ x∈xs,del x=false)/\Keep zAK H h) (λk1 hk1=>?_) ?_
 ·rw[hlen,zAa]
  refine zKn (λu h=>∃ i:Nat,i<=xs.length/\u = .int .i64 (i:Nat)/\(∀ x∈xs.take i,del x=false)/\Keep zAK H h) (λu _=>match u with | .int _ t=>xs.length-t.toNat|_=>0) ⟨0,zAA _,rfl,by simp,Keep.refl⟩ ?_
  rintro _ h ⟨i,hi,rfl,hno,kh⟩ k hk
  rw[zOC,zAa,zAl]
  by_cases hlt:i<xs.length
  ·rw[if_pos (by simpa using hlt)]
   have hg:xs[i]? = some xs[i]:=zAj hlt
   have hm:xs[i]∈xs:=zAH hlt
   generalize xs[i]=x at *
   obtain⟨b,o,hix,hpt,_⟩:=(hv.keep kh λ_ _=>id).at (i:=i) (x:=[.int .i64 x]) (zOi (by rw[zAr,hg];rfl))
   rw[hix .i64,zAa,hpt.cell0 rfl,zAa]
   refine(hd x h hm (hG h kh)).mono ?_
   rintro _ h5 ⟨rfl,k5⟩
   rw[zAl]
   cases hdx:del x
   ·rw[if_neg (by decide),zB0 (by omega),zAa]
    refine hk _ _ ⟨i+1,by omega,rfl,λt ht=>?_,kh.trans k5⟩ (by show xs.length-(i+1)<xs.length-i;omega)
    rw[zAF,hg]at ht
    rcases zAs.1 ht with ht|ht
    ·exact hno t ht
    ·obtain rfl:t=x:=by simpa using ht
     exact hdx
   ·rw[if_pos rfl]
    exact⟨kh.trans k5,.inr ⟨i,rfl,hno,x,hg,hdx⟩⟩
  ·rw[if_neg (by simpa using hlt)]
   rw[zAp (by omega)]at hno
   exact hk1 _ _ ⟨hno,kh⟩
 rintro _ h ⟨hno,kh⟩
 exact⟨kh,.inl ⟨rfl,hno⟩⟩
theorem zAlX {n:Nat}:zAB .no .geq (.int .i64 (n:Nat)) (.int .i64 0)=some (.bool true):=by
 rw[zAJ];simp only[zC5];rw[decide_eq_true (by omega)]
theorem zAfF {n:Nat}:zAB .no .lss (.int .i64 (n:Nat)) (.int .i64 0)=some (.bool false):=by
 rw[zAJ];simp only[zC5];rw[decide_eq_false (by omega)]
theorem zWt {G:zAw->Prop}{P:zA3}{H:zAw}{v fv:Value}{xs:List Int}{del:Int->Bool}(hv:SlE 1 P H v (zKI xs))(hd:zAlg fv xs del G)(hG:∀ h,Keep zAK H h->G h)(hl:xs.length<=1099511627776) :
  zAz prg zEN [v,fv] H λu H'=>u = .bool (xs.any del)/\Keep zAK H H':=by
 apply zIe
 unfold zGs
 refine zAI (zVx hv hd hG hl) ?_
 rintro _ h1 ⟨k1,⟨rfl,hno⟩|⟨i,rfl,hno,x,hg,hx⟩⟩
 ·have e:zAB .no .geq (.int .i64 (-1)) (.int .i64 0)=some (.bool false):=rfl
  rw[e,zAa]
  refine⟨?_,k1⟩
  rw[zCG.2 λx hx=>by simp[hno x hx]]
 ·rw[zAlX,zAa]
  refine⟨?_,k1⟩
  rw[zBK.2 ⟨x,zAD hg,hx⟩]
theorem zAlY {P:zA3}{H:zAw}{mv:List MV}{wants:List Dep}{vh vw:Value}{b:Int}{q r:Nat}{nm:List UInt8}{k:Nat}(hp:Prb P H mv wants vh vw)(aq:At H q (zKl vh vw b))(ar:At H r [str nm])(hk:k<(zBV mv).length) :
  zAz prg zFo [.int .i64 (k:Nat),Ptr q 0,Ptr r 0] H λu H'=>u = .bool (decide ((gM (zBV mv) k).name=nm))/\Keep zAK H H':=by
 apply zM7
 unfold zLA
 obtain⟨x,hx,hgx,hxm,hmv,bb,o,hix,hpt,_⟩:=hp.at hk
 have d0:ld1 H (Ptr q 0)=some vh:=aq.ld rfl
 have dr:ld1 H (Ptr r 0)=some (str nm):=ar.ld rfl
 rw[zBi,zAa,zAu,d0,zAa,hix .i64,zAa,zBi,zAa,zAu,zY2 hpt,zAa,dr,zAa,zDN,zAa,hgx]
 exact⟨rfl,Keep.refl⟩
theorem zQ6 {ch:List Nat}{n:Int}(h:n∈zs ch):∃ k∈ch,n=(k:Int):=by
 unfold zs at h
 obtain⟨k,hk,rfl⟩:=zAo.1 h
 exact⟨k,hk,rfl⟩
theorem zAgT {ch:List Nat}{i k:Nat}(h:ch[i]? = some k):(zs ch)[i]? = some (k:Int):=by unfold zs;rw[zAr,h];rfl
theorem zQe {ch:List Nat}:(zs ch).length=ch.length:=by simp[zs]
theorem zAiB {ch:List Nat}{i:Nat}{n:Int}(h:(zs ch)[i]? = some n):∃ k,ch[i]? = some k/\n=(k:Int):=by
 unfold zs at h
 rw[zAr]at h
 obtain⟨k,h1,h2⟩:=zBF.1 h
 exact⟨k,h1,h2.symm⟩
theorem zAiC {ch:List Nat}{i:Nat}:(zs ch).take i=zs (ch.take i):=by simp[zs,zCA]
theorem zAdf {ch:List Nat}{k:Nat}(h:k∈ch):(k:Int)∈zs ch:=zAo.2 ⟨k,h,rfl⟩
theorem zAne {P Q:zA3}{H:zAw}{mv:List MV}{wants:List Dep}{vh vw vc:Value}{b:Int}{nm:List UInt8}{ch:List Nat}(hp:Prb P H mv wants vh vw)(hc:SlE 1 Q H vc (zKI (zs ch)))(hk:∀ k∈ch,k<(zBV mv).length)(hl:ch.length<=1099511627776) :
  zAz prg zJP [.agg (zKl vh vw b).toArray,vc,str nm] H λu H'=>u=(match ofF (zBV mv) ch nm with|some k => .tuple #[.int .i64 (k:Nat),.bool true]|none => .tuple #[.int .i64 0,.bool false])/\Keep zAK H H':=by
 apply zN0
 unfold zM3
 simp only[zB3,zBb]
 generalize hH1:H.push (.cells (zKl vh vw b).toArray zBn (0,0))=H1
 have k1:Keep zAK H H1:=by rw[<- hH1];exact Keep.push
 have a1:At H1 H.size (zKl vh vw b):=by rw[<- hH1];exact At.push
 generalize hH2:H1.push (.cells (Value.cells (str nm)) zBJ (0,0))=H2
 have k2:Keep zAK H1 H2:=by rw[<- hH2];exact Keep.push
 have a2:At H2 H1.size [str nm]:=by rw[<- hH2];exact At.push
 have k02:=k1.trans k2
 let del:Int->Bool:=λn=>decide ((gM (zBV mv) n.toNat).name=nm)
 have hd:zAlg (.func (.func zFo) #[] #[Ptr H.size 0,Ptr H1.size 0]) (zs ch) del (λh=>Keep zAK H2 h):=λn h hn kh=>by
  obtain⟨k,hkm,rfl⟩:=zQ6 hn
  refine .inl ⟨zFo,#[],#[Ptr H.size 0,Ptr H1.size 0],rfl,by kernel_rfl,?_⟩
  exact zAlY (hp.keep (k02.trans kh) λ_ _=>id) ((a1.keep k2 id).keep kh id) (a2.keep kh id) (hk k hkm)
 refine zAI (zVx (hc.keep k02 λ_ _=>id) hd (λh kh=>kh) (by rw[zQe];exact hl)) ?_
 rintro _ h3 ⟨k3,⟨rfl,hno⟩|⟨i,rfl,hno,x,hg,hx⟩⟩
 ·have e:zAB .no .lss (.int .i64 (-1)) (.int .i64 0)=some (.bool true):=rfl
  have:ofF (zBV mv) ch nm=none:=zCx.2 λk hk=>by
   have:=hno _ (zAdf hk)
   simpa [del] using this
  rw[e,zAa,zAl,if_pos rfl,this]
  exact⟨rfl,k02.trans k3⟩
 ·obtain⟨k,hgk,rfl⟩:=zAiB hg
  have:ofF (zBV mv) ch nm=some k:=zAcS (i:=i) (λp hp=>by
   have:=hno (p:Int) (by rw[zAiC];exact zAdf hp)
   simpa [del] using this) hgk (by simpa [del] using hx)
  obtain⟨bb,o,hix,hpt,_⟩:=((hc.keep k02 λ_ _=>id).keep k3 λ_ _=>id).at (i:=i) (x:=[.int .i64 (k:Int)]) (zOi (by rw[zAr,hg];rfl))
  rw[zAfF,zAa,zAl,if_neg (by decide),hix .i64,zAa,hpt.cell0 rfl,zAa,this]
  exact⟨rfl,k02.trans k3⟩
def zAmK (fv:Value)(xs:List Dep)(del:Dep->Bool)(G:zAw->Prop):Prop:=∀ (n:Dep) (h:zAw),n∈xs->G h->zDO prg fv [.agg (zED n).toArray] h λu h'=>u = .bool (del n)/\Keep zAK h h'
theorem zSd {G:zAw->Prop}{P:zA3}{H:zAw}{v fv:Value}{xs:List Dep}{del:Dep->Bool}(hv:SlE 6 P H v (xs.map zED))(hw:∀ d∈xs,d.wf)(hd:zAmK fv xs del G)(hG:∀ h,Keep zAK H h->G h)(hl:xs.length<=1099511627776) :
  zAz prg zCD [v,fv] H λu H'=>u = .bool (xs.any del)/\Keep zAK H H':=by
 apply zE4
 unfold zDK
 refine zAI (R:=λu H'=>Keep zAK H H'/\((u = .int .i64 (-1)/\∀ x∈xs,del x=false)\/∃ (i:Nat) (x:Dep),u = .int .i64 (i:Nat)/\x∈xs/\del x=true)) ?_ ?_
 ·apply zFz
  unfold zDW
  have hlen:=hv.len
  rw[zAd]at hlen
  refine zNB (λ_ h=>(∀ x∈xs,del x=false)/\Keep zAK H h) (λk1 hk1=>?_) ?_
  ·rw[hlen,zAa]
   refine zKn (λu h=>∃ i:Nat,i<=xs.length/\u = .int .i64 (i:Nat)/\(∀ x∈xs.take i,del x=false)/\Keep zAK H h) (λu _=>match u with | .int _ t=>xs.length-t.toNat|_=>0) ⟨0,zAA _,rfl,by simp,Keep.refl⟩ ?_
   rintro _ h ⟨i,hi,rfl,hno,kh⟩ k hk
   rw[zOC,zAa,zAl]
   by_cases hlt:i<xs.length
   ·rw[if_pos (by simpa using hlt)]
    have hg:xs[i]? = some xs[i]:=zAj hlt
    have hm:xs[i]∈xs:=zAH hlt
    generalize xs[i]=x at *
    obtain⟨b,o,hix,hpt,_⟩:=(hv.keep kh λ_ _=>id).at (i:=i) (x:=zED x) (by rw[zAr,hg];rfl)
    rw[hix .i64,zAa,hpt.agg (zDx (hw x hm)),zAa]
    refine(hd x h hm (hG h kh)).mono ?_
    rintro _ h5 ⟨rfl,k5⟩
    rw[zAl]
    cases hdx:del x
    ·rw[if_neg (by decide),zB0 (by omega),zAa]
     refine hk _ _ ⟨i+1,by omega,rfl,λt ht=>?_,kh.trans k5⟩ (by show xs.length-(i+1)<xs.length-i;omega)
     rw[zAF,hg]at ht
     rcases zAs.1 ht with ht|ht
     ·exact hno t ht
     ·obtain rfl:t=x:=by simpa using ht
      exact hdx
    ·rw[if_pos rfl]
     exact⟨kh.trans k5,.inr ⟨i,x,rfl,hm,hdx⟩⟩
   ·rw[if_neg (by simpa using hlt)]
    rw[zAp (by omega)]at hno
    exact hk1 _ _ ⟨hno,kh⟩
  rintro _ h ⟨hno,kh⟩
  exact⟨kh,.inl ⟨rfl,hno⟩⟩
 ·rintro _ h1 ⟨k1,⟨rfl,hno⟩|⟨i,x,rfl,hm,hx⟩⟩
  ·have e:zAB .no .geq (.int .i64 (-1)) (.int .i64 0)=some (.bool false):=rfl
   rw[e,zAa]
   refine⟨?_,k1⟩
   rw[zCG.2 λx hx=>by simp[hno x hx]]
  ·rw[zAlX,zAa]
   refine⟨?_,k1⟩
   rw[zBK.2 ⟨x,hm,hx⟩]
theorem zAdg {h:zAw}{q:Nat}{d:Dep}(a:At h q (zED d)):ld1 h (Ptr q 0)=some (str d.name):=a.ld rfl
theorem zWu {h:zAw}{q:Nat}{d:Dep}(a:At h q (zED d))(hd:d.wf):ldN 5 h (Ptr q 1)=some (.agg (zEC d.want).toArray):=by
 obtain⟨T,a⟩:=a
 exact ldN_mid (A:=[str d.name]) (B:=zEC d.want) (C:=[]) (by rw[zAP];exact a) rfl (zEZ hd.want).symm
theorem zXK {P Q:zA3}{H:zAw}{x y:MV}(hx:zMx P H x.1 x.2.1 x.2.2.1 x.2.2.2)(hy:y.1.wf)(hl:x.1.conf.length<=1000)(hO:zRp H) :
  zAz prg zJT [.agg (mvC x).toArray,.agg (mvC y).toArray] H λu H'=>u = .bool (zAbO x.1 y.1)/\Keep zAK H H':=by
 apply zPw
 unfold zPg
 simp only[zB3,zBb]
 generalize hH1:H.push (.cells (mvC x).toArray zAg (0,0))=H1
 have k1:Keep zAK H H1:=by rw[<- hH1];exact Keep.push
 have a1:At H1 H.size (zGM x.1 x.2.1 x.2.2.1 x.2.2.2):=by rw[<- hH1];exact At.push
 generalize hH2:H1.push (.cells (mvC y).toArray zAg (0,0))=H2
 have k2:Keep zAK H1 H2:=by rw[<- hH2];exact Keep.push
 have a2:At H2 H1.size (zGM y.1 y.2.1 y.2.2.1 y.2.2.2):=by rw[<- hH2];exact At.push
 have k02:=k1.trans k2
 have d6:=(zG6 (a1.keep k2 id) hx.wf).2.1
 rw[zBi,zAa,zAh,d6,zAa]
 have hd:zAmK (.func (.func zGB) #[] #[Ptr H1.size 0]) x.1.conf (λd=>zQB d y.1) (λh=>Keep zAK H2 h):=λd h hm kh=>by
  refine .inl ⟨zGB,#[],#[Ptr H1.size 0],rfl,by kernel_rfl,?_⟩
  have hdw:=hx.wf.conf d hm
  show zAz prg zGB [.agg (zED d).toArray,Ptr H1.size 0] h _
  apply zOt
  unfold zNH
  simp only[zB3,zBb]
  generalize hH3:h.push (.cells (zED d).toArray zAE (0,0))=h3
  have k3:Keep zAK h h3:=by rw[<- hH3];exact Keep.push
  have a3:At h3 h.size (zED d):=by rw[<- hH3];exact At.push
  have b3:=(a2.keep kh id).keep k3 id
  have e:=λq=>zDN (q:=q) (a:=d.name) (b:=y.1.name)
  rw[zBi,zAa,zAu,zAdg a3,zAa,zBi,zAa,zAu,zDy b3,zAa,e,zAa]
  unfold zQB
  have ec:decide (y.1.name=d.name)=decide (d.name=y.1.name):=by rw[decide_eq_decide];exact eq_comm
  rw[ec]
  cases hn:decide (d.name=y.1.name)
  ·simp only[zBW,zAO,zAb,if_false,zAv,zAa,zA1]
   exact⟨by trivial,k3⟩
  ·refine zDJ rfl ?_
   rw[zBi,zAa,zAh,zWu a3 hdw,zAa,zBi,zAa,zAh,zJl b3 hy,zAa]
   refine zAI (zSM hdw.want hy.ver (hO.keep (k02.trans (kh.trans k3)) λ_ h=>h.elim)) ?_
   rintro _ h4 ⟨rfl,k4⟩
   rw[zAv,if_pos rfl,zAa,zBf]
   exact⟨rfl,k3.trans k4⟩
 refine zAI (zSd (hx.c.keep k02 λ_ _=>id) hx.wf.conf hd (λh kh=>kh) (by omega)) ?_
 rintro _ h3 ⟨rfl,k3⟩
 exact⟨rfl,k02.trans k3⟩
theorem zAiD {P Q:zA3}{H:zAw}{mv:List MV}{wants:List Dep}{vh vw vc:Value}{b:Int}{ch:List Nat}{k:Nat}(hp:Prb P H mv wants vh vw)(hc:SlE 1 Q H vc (zKI (zs ch)))(hk:∀ k∈ch,k<(zBV mv).length)(hkk:k<(zBV mv).length)(hl:ch.length<=1099511627776)(hO:zRp H) :
  zAz prg zHU [.agg (zKl vh vw b).toArray,vc,.int .i64 (k:Nat)] H λu H'=>u = .bool (zQb (zBV mv) ch k)/\Keep zAK H H':=by
 apply zMv
 unfold zKG
 simp only[zB3,zBb]
 generalize hH1:H.push (.cells (zKl vh vw b).toArray zBn (0,0))=H1
 have k1:Keep zAK H H1:=by rw[<- hH1];exact Keep.push
 have a1:At H1 H.size (zKl vh vw b):=by rw[<- hH1];exact At.push
 generalize hH2:H1.push (.cells (Value.cells (.int .i64 (k:Nat))) zHL (0,0))=H2
 have k2:Keep zAK H1 H2:=by rw[<- hH2];exact Keep.push
 have a2:At H2 H1.size [.int .i64 (k:Nat)]:=by rw[<- hH2];exact At.push
 have k02:=k1.trans k2
 let del:Int->Bool:=λn=>zAbO (gM (zBV mv) n.toNat) (gM (zBV mv) k) || zAbO (gM (zBV mv) k) (gM (zBV mv) n.toNat)
 have hd:zAlg (.func (.func zEl) #[] #[Ptr H.size 0,Ptr H1.size 0]) (zs ch) del (λh=>Keep zAK H2 h):=λn h hn kh=>by
  obtain⟨i,him,rfl⟩:=zQ6 hn
  refine .inl ⟨zEl,#[],#[Ptr H.size 0,Ptr H1.size 0],rfl,by kernel_rfl,?_⟩
  show zAz prg zEl [.int .i64 (i:Nat),Ptr H.size 0,Ptr H1.size 0] h _
  have hph:=hp.keep (k02.trans kh) λ_ _=>id
  have aq:=(a1.keep k2 id).keep kh id
  have ar:=a2.keep kh id
  have hOh:=hO.keep (k02.trans kh) λ_ h=>h.elim
  apply zLC
  unfold zJv
  obtain⟨x,hx,hgx,hxm,hmx,bx,ox,hix,hpx,_⟩:=hph.at (hk i him)
  obtain⟨y,hy,hgy,hym,hmy,by',oy,hiy,hpy,_⟩:=hph.at hkk
  have d0:∀ g,Keep zAK h g->ld1 g (Ptr H.size 0)=some vh:=λg kg=>(aq.keep kg id).ld rfl
  have dr:∀ g,Keep zAK h g->ld1 g (Ptr H1.size 0)=some (.int .i64 (k:Nat)):=λg kg=>(ar.keep kg id).ld rfl
  rw[zBi,zAa,zAu,d0 _ Keep.refl,zAa,hix .i64,zAa,zNN hpx hmx.wf,zAa]
  simp only[zBi,zAu,zAa]
  rw[d0 _ Keep.refl,zAa,dr _ Keep.refl,zAa,hiy .i64,zAa,zNN hpy hmy.wf,zAa]
  refine zAI (zXK (Q:=P) hmx hmy.wf (hp.sm x hxm).2 hOh) ?_
  rintro _ h1 ⟨rfl,k1'⟩
  have ei:del (i:Int)=(zAbO x.1 y.1 || zAbO y.1 x.1):=by
   show(zAbO (gM (zBV mv) (i:Int).toNat) (gM (zBV mv) k) || _)=_
   rw[show((i:Int)).toNat=i from rfl,hgx,hgy]
  rw[ei]
  cases hr:zAbO x.1 y.1
  ·refine zDJ rfl ?_
   rw[d0 _ k1',zAa,dr _ k1',zAa,hiy .i64,zAa,zNN (hpy.keep k1' id) hmy.wf,zAa,zAa,hix .i64,zAa,zNN (hpx.keep k1' id) hmx.wf,zAa]
   refine zAI (zXK (Q:=P) (hmy.keep k1' λ_ _=>id) hmx.wf (hp.sm y hym).2 (hOh.keep k1' λ_ h=>h.elim)) ?_
   rintro _ h3 ⟨rfl,k3⟩
   rw[zAv,if_neg (by decide),zAa,zCz]
   exact⟨rfl,k1'.trans k3⟩
  ·refine zKt (by decide) ?_
   rw[zAv,if_pos rfl,zAa,Bool.true_or]
   exact⟨rfl,k1'⟩
 refine zAI (zWt (hc.keep k02 λ_ _=>id) hd (λh kh=>kh) (by rw[zQe];exact hl)) ?_
 rintro _ h3 ⟨rfl,k3⟩
 refine⟨?_,k02.trans k3⟩
 unfold zQb zs
 rw[List.any_map];rfl
theorem zAbl {H:zAw}{u:Nat}(hu:u<256):zAz prg zEV [.int .u64 (u:Nat)] H λv H'=>(∃ m:Nat,v = .int .i64 (m:Nat))/\H=H':=by
 apply zHs
 unfold zI6
 rw[zAl,if_neg (by decide)]
 refine zAI (R:=λv H'=>(∃ m:Nat,v = .int .i64 (m:Nat))/\H=H') ?_ λv h hR=>hR
 apply zFe
 unfold zGd
 have ge:∀ (b:Nat),u<b->zAB .no .geq (.int .u64 (u:Nat)) (.int .u64 (b:Nat))=some (.bool false):=λb hb=>by
  rw[zAJ];simp only[zC5];rw[decide_eq_false (by omega)]
 have g1:zAB .no .geq (.int .u64 (u:Nat)) (.int .u64 4294967296)=some (.bool false):=ge 4294967296 (by omega)
 have g2:zAB .no .geq (.int .u64 (u:Nat)) (.int .u64 65536)=some (.bool false):=ge 65536 (by omega)
 have g3:zAB .no .geq (.int .u64 (u:Nat)) (.int .u64 256)=some (.bool false):=ge 256 (by omega)
 simp only[zAcq,g1,g2,g3,zAa,zAl,zAb,if_false]
 exact zQv (R:=λv _=>(∃ m:Nat,v = .int .i64 (m:Nat))/\True) (H:=H) (off:=0) (x:=u) hu (by omega) ⟨⟨_,rfl⟩,trivial⟩
def zAjq (fv:Value)(xs:List Int)(lt:Int->Int->Bool)(G:zAw->Prop):Prop:=∀ (a b:Int) (h:zAw),a∈xs->b∈xs->G h->zDO prg fv [.int .i64 a,.int .i64 b] h λu h'=>(∃ n:Int,u = .int .i64 n/\decide (n<0)=lt a b)/\Keep zAK h h'
theorem zAam {l:List Int}{i:Nat}{n:Int}:(zKI l).set i [.int .i64 n]=zKI (l.set i n):=by simp[zHM,List.map_set]
theorem zQE {l:List Int}{i:Nat}{n:Int}(h:l[i]? = some n):(zKI l)[i]? = some [.int .i64 n]:=zOi (by rw[zAr,h];rfl)
theorem zMy {l:List Int}:(zKI l).length=l.length:=by simp
theorem zAfG {A R:List Int}{x y:Int}:((A++y::x::R).set (A.length+1) y).set A.length x=A++x::y::R:=by
 rw[zCQ _ _ (by omega)]
 rw[show A.length+1-A.length=1 by omega]
 rw[zCQ _ _ (by omega),Nat.sub_self]
 rfl
theorem zY3 {i:Nat}(h:i+1<=9223372036854775807):zAB .no .sub (.int .i64 ((i+1:Nat):Int)) (.int .i64 1)=some (.int .i64 (i:Nat)):=by
 rw[zAJ];simp only[zC5];rw[zCc (by omega) (by omega)];congr 2;omega
theorem zAdh {α:Type}{lt:α->α->Bool}{x:α}:zHQ lt [x]=[x]:=rfl
theorem zAdi {α:Type}{lt:α->α->Bool}{x y:α}{ys:List α}:zTA lt x (y::ys)=if lt x y=true then y::zTA lt x ys else x::y::ys:=by rw[zTA]
set_option maxHeartbeats 2000000 in
theorem zY4 {F G:zAw->Prop}{Fb:zA3}{H:zAw}{v fv:Value}{xs:List Int}{lt:Int->Int->Bool}(hv:BufE 1 Fb H v (zKI xs))(hc:zAjq fv xs lt G)(hG:∀ h,Keep Fb H h->G h)(hl:xs.length<=1000) :
  zAz prg zDC [v,.int .i64 0,.int .i64 (xs.length:Nat),fv] H λ_ H'=>BufE 1 Fb H' v (zKI (zHQ lt xs))/\Keep Fb H H':=by
 apply zHO
 unfold zFY
 have e01:zAB .no .add (.int .i64 0) (.int .i64 1)=some (.int .i64 ((1:Nat):Int)):=rfl
 rw[e01,zAa]
 have hx0:xs=zHQ lt (xs.take 1)++xs.drop 1:=by
  cases xs with
  | nil=>rfl
  | cons a l=>simp[zAdh]
 refine zKn (λu h=>∃ i:Nat,1<=i/\i<=xs.length+1/\u = .int .i64 (i:Nat)/\BufE 1 Fb h v (zKI (zHQ lt (xs.take i)++xs.drop i))/\Keep Fb H h) (λu _=>match u with | .int _ t=>xs.length+1-t.toNat|_=>0) ⟨1,zAi _,by omega,rfl,by rw[<- hx0];exact hv,Keep.refl⟩ ?_
 rintro _ h ⟨i,hi1,hi,rfl,hb,kh⟩ kk hkk
 rw[zOC,zAa,zAl]
 by_cases hlt:i<xs.length
 rotate_left
 ·rw[if_neg (by simpa using hlt)]
  rw[zAp (by omega),zC6 (by omega),zAP]at hb
  exact⟨hb,kh⟩
 rw[if_pos (by simpa using hlt)]
 have hg:xs[i]? = some xs[i]:=zAj hlt
 have hmx:xs[i]∈xs:=zAH hlt
 have hdr:xs.drop i=xs[i]::xs.drop (i+1):=zBX hlt
 have htk:xs.take (i+1)=xs.take i++[xs[i]]:=by rw[zAF,hg];rfl
 have hlen:(zHQ lt (xs.take i)).length=i:=by rw[zXE,zA5];omega
 have hmem:∀ y∈zHQ lt (xs.take i),y∈xs:=λy hy=>zBg (zUl.1 hy)
 have hins:zHQ lt (xs.take (i+1))=(zTA lt xs[i] (zHQ lt (xs.take i)).reverse).reverse:=by
  rw[htk];unfold zHQ
  rw[zJm,List.reverse_reverse]
 rw[hdr]at hb
 generalize xs[i]=x at *
 generalize hS:zHQ lt (xs.take i)=S at *
 generalize hR:xs.drop (i+1)=R at *
 refine zMC (λ_ _ h'=>BufE 1 Fb h' v (zKI (zHQ lt (xs.take (i+1))++R))/\Keep Fb H h') (λk3 hk3=>?_) ?_
 rotate_left
 ·rintro _ _ h' ⟨hb',kh'⟩
  rw[zB0 (by omega),zAa]
  exact hkk _ _ ⟨i+1,by omega,by omega,rfl,by rw[hR];exact hb',kh'⟩ (by show xs.length+1-(i+1)<xs.length+1-i;omega)
 refine zKn (λu h'=>∃ (A B:List Int),u = .int .i64 (A.length:Nat)/\S=A++B/\zTA lt x S.reverse=B.reverse++zTA lt x A.reverse/\BufE 1 Fb h' v (zKI (A++x::(B++R)))/\Keep Fb H h') (λu _=>match u with | .int _ t=>t.toNat|_=>0) ⟨S,[],by rw[hlen],by simp,by simp,by simpa using hb,kh⟩ ?_
 rintro _ h' ⟨A,B,rfl,hAB,hin,hb',kh'⟩ k5 hk5
 have hAl:A.length<=1000:=by
  have:S.length=A.length+B.length:=by rw[hAB,zAt]
  omega
 have g0:zAB .no .gtr (.int .i64 (A.length:Nat)) (.int .i64 0)=some (.bool (decide (A.length > 0))):=zAbQ (m:=0)
 rw[g0,zAa]
 rcases List.eq_nil_or_concat A with rfl|⟨A',y,hA⟩
 ·refine zKt (by decide) ?_
  rw[zAv]
  show Mpu (some (.bool false)) _
  rw[zAa,zAl,if_neg (by decide)]
  refine hk3 _ _ _ ⟨?_,kh'⟩
  have:zHQ lt (xs.take (i+1))=x::B:=by
   rw[hins,hin];simp[zTA]
  rw[this];simpa using hb'
 ·rw[List.concat_eq_append]at hA
  subst hA
  have hAl':(A'++[y]).length=A'.length+1:=by simp
  rw[hAl',decide_eq_true (by omega)]
  have eL:A'++[y]++x::(B++R)=A'++y::x::(B++R):=by simp
  rw[eL]at hb'
  have gx:(A'++y::x::(B++R))[A'.length+1]? = some x:=by
   rw[zBc (by omega)];simp
  have gy:(A'++y::x::(B++R))[A'.length]? = some y:=by
   rw[zBc (by omega)];simp
  have hym:y∈xs:=hmem y (by rw[hAB];simp)
  obtain⟨bx,ox,hix,hpx,_⟩:=hb'.sl.at (zQE gx)
  obtain⟨by',oy,hiy,hpy,_⟩:=hb'.sl.at (zQE gy)
  refine zDJ rfl ?_
  rw[hix .i64,zAa,hpx.cell0 rfl,zAa,zY3 (by omega),zAa,hiy .i64,zAa,hpy.cell0 rfl,zAa]
  refine(hc x y h' hmx hym (hG h' kh')).mono ?_
  rintro _ h8 ⟨⟨n,rfl,hn⟩,k8⟩
  have en:zAB .no .lss (.int .i64 n) (.int .i64 0)=some (.bool (decide (n<0))):=ltI
  have hb8:=hb'.keep k8 λ_ _=>id
  have kh8:Keep Fb H h8:=kh'.trans (k8.mono λ_ _ h=>h.elim)
  rw[en,zAa,hn]
  show Mpu (zBw (.bool true) (.bool (lt x y)) (.bool false)) _
  rw[zAv,if_pos rfl,zAa,zAl]
  have hrev:(A'++[y]).reverse=y::A'.reverse:=by simp
  rw[hrev,zAdi]at hin
  cases hxy:lt x y
  ·rw[if_neg (by decide)]
   rw[hxy,if_neg (by decide)]at hin
   refine hk3 _ _ _ ⟨?_,kh8⟩
   have:zHQ lt (xs.take (i+1))=A'++y::x::B:=by
    rw[hins,hin];simp
   rw[this];simpa using hb8
  ·rw[if_pos rfl]
   rw[hxy,if_pos rfl]at hin
   obtain⟨b1,o1,h10,i1,p1,st1',hb10,k10⟩:=hb8.st (zQE gx) (j:=0) (by omega) (w := .int .i64 y) rfl
   have e1:([Value.int .i64 x]).set 0 (.int .i64 y)=[.int .i64 y]:=rfl
   rw[e1,zAam]at hb10
   have gy2:((A'++y::x::(B++R)).set (A'.length+1) y)[A'.length]? = some y:=by
    rw[List.getElem?_set_ne (by omega)];exact gy
   obtain⟨b2,o2,h11,i2,p2,st2',hb11,k11⟩:=hb10.st (zQE gy2) (j:=0) (by omega) (w := .int .i64 x) rfl
   have e2:([Value.int .i64 y]).set 0 (.int .i64 x)=[.int .i64 x]:=rfl
   rw[e2,zAam,zAfG]at hb11
   have hpx8:=hpx.keep k8 id
   have hpy8:=hpy.keep k8 id
   have ly:ld1 h8 (Ptr by' oy)=some (.int .i64 y):=hpy8.cell0 rfl
   have lx:ld1 h8 (Ptr bx ox)=some (.int .i64 x):=hpx8.cell0 rfl
   simp only[zAa,hiy .i64,hix .i64,ly,lx]
   have j1:Ptr bx ox=Ptr b1 o1:=zAL ((hix .i64).symm.trans (i1 .i64))
   have j2:Ptr by' oy=Ptr b2 o2:=zAL ((hiy .i64).symm.trans (i2 .i64))
   rw[zAu]at st1' st2'
   rw[j1,st1',zAV,j2,st2',zAV]
   refine hk5 _ _ ⟨A',y::B,rfl,by rw[hAB];simp,?_,by simpa using hb11,(kh8.trans k10).trans k11⟩ ?_
   ·rw[hin];simp
   ·show A'.length<(A'++[y]).length;omega
theorem zAiE {body:(Value->Value->Value->Value->zAm)->Value->Value->Value->Value->zAm}{a b c d e:Value}{H:zAw}(hs:∀ k:Value->Value->Value->Value->zAm,body k a b c d e H):L5 body a b c d e H:=by
 refine⟨λvs h=>vs=[a,b,c,d,e]/\h=H,λ_ _=>0,⟨rfl,rfl⟩,?_⟩
 rintro vs h _ ⟨rfl,rfl⟩
 exact hs _
theorem zAdj {G:zAw->Prop}{Fb:zA3}{H:zAw}{v fv:Value}{xs:List Int}{lt:Int->Int->Bool}(hv:BufE 1 Fb H v (zKI xs))(hc:zAjq fv xs lt G)(hG:∀ h,Keep Fb H h->G h)(hl:xs.length<=12) :
  zAz prg zDl [v,fv] H λ_ H'=>BufE 1 Fb H' v (zKI (zHQ lt xs))/\Keep Fb H H':=by
 apply zFX
 unfold zFy
 have hlen:=hv.sl.len
 rw[zMy]at hlen
 have cv:cvI .u64 (.int .i64 (xs.length:Nat))=some (.int .u64 (xs.length:Nat)):=by
  rw[zFJ]
  congr 2
  simp only[IntKind.wrap,IntKind.bits,IntKind.signed]
  simp;omega
 rw[hlen,zAa,cv,zAa]
 refine zAI (zAbl (by omega)) ?_
 rintro _ _ ⟨⟨m,rfl⟩,rfl⟩
 refine zAI (R:=λ_ H'=>BufE 1 Fb H' v (zKI (zHQ lt xs))/\Keep Fb H H') ?_ λ_ h hR=>hR
 apply zJI
 unfold zHD
 refine zAiE λk=>?_
 have es:zAB .no .sub (.int .i64 (xs.length:Nat)) (.int .i64 0)=some (.int .i64 (xs.length:Nat)):=by
  rw[zAJ];simp only[zC5];rw[Int.sub_zero,zCc (by omega) (by omega)]
 have el:zAB .no .leq (.int .i64 (xs.length:Nat)) (.int .i64 12)=some (.bool true):=by
  rw[zAJ];simp only[zC5];rw[decide_eq_true (by omega)]
 rw[es,zAa,el,zAa,zAl,if_pos rfl]
 exact zAI (zY4 (F:=G) hv hc hG (by omega)) λ_ h hR=>hR
def zXL (hv:List Man)(i:Nat):Bool:=(hv.take i).any λo=>decide (o.name=(gM hv i).name)&&decide (o.ver=(gM hv i).ver)
def zPl (hv:List Man)(i:Nat):Bool:=zEy (gM hv i) && !zXL hv i
def zUq (ws:List Dep):Bool:=ws.all λd=>zIp d.name&&zH8 d.want
def zHF (hv:List Man)(ws:List Dep)(b:Int):Bool:=decide (0<=b)&&decide (b<=65536)&&(List.range hv.length).all (zPl hv)&&zUq ws
theorem zLF:zBE prg zAg=some (zGM ⟨[],zEY,[],[],[]⟩ zCq zCq zCq).toArray:=by kernel_rfl
theorem zN6:(⟨[],zEY,[],[],[]⟩:Man).wf:=⟨by simp,zG5,(λd h=>absurd h (by simp)),(λd h=>absurd h (by simp)),(λd h=>absurd h (by simp))⟩
theorem zVy:zBE prg zAE=some (zED zP9).toArray:=by kernel_rfl
theorem zF4 {P:zA3}{H:zAw}{x:MV}(h:zMx P H x.1 x.2.1 x.2.2.1 x.2.2.2):∀ c∈mvC x,c.oneCell'=true:=h.one
def zAmL (fv:Value)(xs:List MV)(del:Man->Bool)(G:zAw->Prop):Prop:=∀ (x:MV) (h:zAw),x∈xs->G h->zDO prg fv [.agg (mvC x).toArray] h λu h'=>u = .bool (del x.1)/\Keep zAK h h'
theorem zO1 {G:zAw->Prop}{P:zA3}{H:zAw}{v fv:Value}{xs:List MV}{del:Man->Bool}(hv:SlE 8 P H v (xs.map mvC))(hw:∀ x∈xs,x.1.wf)(hd:zAmL fv xs del G)(hG:∀ h,Keep zAK H h->G h)(hl:xs.length<=1099511627776) :
  zAz prg zBT [v,fv] H λu H'=>u = .bool (xs.any λx=>del x.1)/\Keep zAK H H':=by
 apply zD9
 unfold zDj
 refine zAI (R:=λu H'=>Keep zAK H H'/\((u = .int .i64 (-1)/\∀ x∈xs,del x.1=false)\/∃ (i:Nat) (x:MV),u = .int .i64 (i:Nat)/\x∈xs/\del x.1=true)) ?_ ?_
 ·apply zDb
  unfold zDr
  have hlen:=hv.len
  rw[zAd]at hlen
  refine zNB (λ_ h=>(∀ x∈xs,del x.1=false)/\Keep zAK H h) (λk1 hk1=>?_) ?_
  ·rw[hlen,zAa]
   refine zKn (λu h=>∃ i:Nat,i<=xs.length/\u = .int .i64 (i:Nat)/\(∀ x∈xs.take i,del x.1=false)/\Keep zAK H h) (λu _=>match u with | .int _ t=>xs.length-t.toNat|_=>0) ⟨0,zAA _,rfl,by simp,Keep.refl⟩ ?_
   rintro _ h ⟨i,hi,rfl,hno,kh⟩ k hk
   rw[zOC,zAa,zAl]
   by_cases hlt:i<xs.length
   ·rw[if_pos (by simpa using hlt)]
    have hg:xs[i]? = some xs[i]:=zAj hlt
    have hm:xs[i]∈xs:=zAH hlt
    generalize xs[i]=x at *
    obtain⟨b,o,hix,hpt,_⟩:=(hv.keep kh λ_ _=>id).at (i:=i) (x:=mvC x) (by rw[zAr,hg];rfl)
    rw[hix .i64,zAa,zNN hpt (hw x hm),zAa]
    refine(hd x h hm (hG h kh)).mono ?_
    rintro _ h5 ⟨rfl,k5⟩
    rw[zAl]
    cases hdx:del x.1
    ·rw[if_neg (by decide),zB0 (by omega),zAa]
     refine hk _ _ ⟨i+1,by omega,rfl,λt ht=>?_,kh.trans k5⟩ (by show xs.length-(i+1)<xs.length-i;omega)
     rw[zAF,hg]at ht
     rcases zAs.1 ht with ht|ht
     ·exact hno t ht
     ·obtain rfl:t=x:=by simpa using ht
      exact hdx
    ·rw[if_pos rfl]
     exact⟨kh.trans k5,.inr ⟨i,x,rfl,hm,hdx⟩⟩
   ·rw[if_neg (by simpa using hlt)]
    rw[zAp (by omega)]at hno
    exact hk1 _ _ ⟨hno,kh⟩
  rintro _ h ⟨hno,kh⟩
  exact⟨kh,.inl ⟨rfl,hno⟩⟩
 ·rintro _ h1 ⟨k1,⟨rfl,hno⟩|⟨i,x,rfl,hm,hx⟩⟩
  ·have e:zAB .no .geq (.int .i64 (-1)) (.int .i64 0)=some (.bool false):=rfl
   rw[e,zAa]
   refine⟨?_,k1⟩
   rw[zCG.2 λx hx=>by simp[hno x hx]]
  ·rw[zAlX,zAa]
   refine⟨?_,k1⟩
   rw[zBK.2 ⟨x,hm,hx⟩]
theorem zAiF {mv:List MV}{i:Nat}:(zBV mv).take i=(mv.take i).map (·.1):=by simp[zBV,zCA]
theorem _root_.Go.X.SlE.pre {n:Nat}{P:zA3}{H:zAw}{v:Value}{xs:List (List Value)}(h:SlE n P H v xs){m:Nat}(hm:m<=xs.length):∃ u,slS n v none (some (.int .i64 (m:Nat))) none=some u/\SlE n P H u (xs.take m):=by
 by_cases hne:xs=[]
 ·subst hne
  have:m=0:=by simpa using hm
  subst this
  obtain⟨⟨a,c,rfl,hc,_⟩,_,_⟩:=h
  have hb:zNw 0 c none (some (.int .i64 0)) none=some (0,0,c):=by simp[zNw,bnd]
  have e0:((0:Nat):Int)=0:=rfl
  rw[e0]
  rcases a with _|⟨b,o,_|sp⟩
  ·exact⟨.slice none 0 c,by simp[slS,hb],SlE.nil⟩
  ·exact⟨.slice (some ⟨b,if c=0 then o else o+0*n,none⟩) 0 c,by simp[slS,hb],by simpa using SlE.nil⟩
  ·exact⟨.slice (some ⟨b,o,some sp⟩) 0 c,by simp[slS,hb],by simpa using SlE.nil⟩
 ·obtain⟨u,h1,h2⟩:=h.cut hne (lo:=0) (hi:=m) (zAA _) hm (l:=none) (r:=some (.int .i64 (m:Nat))) rfl (λc hc=>by simp[bnd];omega)
  rw[zCe]at h2
  exact⟨u,h1,h2⟩
set_option maxHeartbeats 4000000 in
theorem zAdk {P:zA3}{H:zAw}{mv:List MV}{wants:List Dep}{vh vw:Value}{b:Int}(hp:Prb P H mv wants vh vw)(hl:mv.length<=256)(hwl:wants.length<=64)(hO:zRp H) :
  zAz prg zHT [.agg (zKl vh vw b).toArray] H λu H'=>u = .int .i64 (if zHF (zBV mv) wants b then 0 else 10)/\Keep zAK H H':=by
 apply zMu
 unfold zKF
 simp only[zB3,zBb,zBi,zAh,zAu,zAa]
 generalize hH1:H.push (.cells (zKl vh vw b).toArray zBn (0,0))=H1
 have k1:Keep zAK H H1:=by rw[<- hH1];exact Keep.push
 have a1:At H1 H.size (zKl vh vw b):=by rw[<- hH1];exact At.push
 have d0:∀ h,Keep zAK H1 h->ld1 h (Ptr H.size 0)=some vh:=λh k=>(a1.keep k id).ld rfl
 have d1:∀ h,Keep zAK H1 h->ld1 h (Ptr H.size 1)=some vw:=λh k=>(a1.keep k id).ld rfl
 have d2:∀ h,Keep zAK H1 h->ld1 h (Ptr H.size 2)=some (.int .i64 b):=λh k=>(a1.keep k id).ld rfl
 have lh:=hp.h.len
 have lw:=hp.w.len
 rw[zAd]at lh lw
 have hvl:(zBV mv).length=mv.length:=by simp
 have no:∀ h,Keep zAK H h->zHF (zBV mv) wants b=false->(Value.int .i64 10 = .int .i64 (if zHF (zBV mv) wants b then 0 else 10)/\Keep zAK H h):=λh kh hf=>⟨by rw[hf];rfl,kh⟩
 have e1:zAB .no .gtr (.int .i64 (mv.length:Nat)) (.int .i64 256)=some (.bool false):=by
  rw[zAJ];simp only[zC5];rw[decide_eq_false (by omega)]
 have e2:zAB .no .gtr (.int .i64 (wants.length:Nat)) (.int .i64 64)=some (.bool false):=by
  rw[zAJ];simp only[zC5];rw[decide_eq_false (by omega)]
 rw[d0 _ Keep.refl,zAa,lh,zAa,e1,zAa]
 refine zDJ rfl ?_
 rw[d1 _ Keep.refl,zAa,lw,zAa,e2,zAa]
 show Mpu (zBw (.bool false) (.bool true) (.bool false)) _
 rw[zAv,if_neg (by decide),zAa]
 refine zDJ rfl ?_
 rw[d2 _ Keep.refl,zAa,ltI,zAa]
 show Mpu (zBw (.bool false) (.bool true) _) _
 rw[zAv,if_neg (by decide),zAa]
 cases q1:decide (b<0)
 rotate_left
 ·simp only[zBW,zAO,zAc,if_false,zAv,if_true,zAa,zAl]
  refine no _ k1 ?_
  unfold zHF
  rw[decide_eq_false (show ¬ 0<=b by have:=of_decide_eq_true q1;omega)];rfl
 refine zDJ rfl ?_
 rw[d2 _ Keep.refl,zAa,gtI,zAa]
 show Mpu (zBw (.bool false) (.bool true) _) _
 rw[zAv,if_neg (by decide),zAa,zAl]
 have hb0:0<=b:=by have:=of_decide_eq_false q1;omega
 cases q2:decide (b > 65536)
 rotate_left
 ·rw[if_pos rfl]
  refine no _ k1 ?_
  unfold zHF
  rw[decide_eq_true hb0,decide_eq_false (show ¬ b<=65536 by have:=of_decide_eq_true q2;omega)];rfl
 have hb1:b<=65536:=by have:=of_decide_eq_false q2;omega
 have hpo:zHF (zBV mv) wants b=((List.range mv.length).all (zPl (zBV mv))&&zUq wants):=by
  unfold zHF
  rw[decide_eq_true hb0,decide_eq_true hb1,hvl];rfl
 rw[if_neg (by decide)]
 refine zNB (λ_ h=>(List.range mv.length).all (zPl (zBV mv))=true/\Keep zAK H1 h) (λk hk=>?_) ?_
 ·rw[d0 _ Keep.refl,zAa,lh,zAa]
  refine zKn (λu h=>∃ i:Nat,i<=mv.length/\u = .int .i64 (i:Nat)/\(List.range i).all (zPl (zBV mv))=true/\Keep zAK H1 h) (λu _=>match u with | .int _ t=>mv.length-t.toNat|_=>0) ⟨0,zAA _,rfl,rfl,Keep.refl⟩ ?_
  rintro _ h ⟨i,hi,rfl,hall,kh⟩ kk hkk
  rw[zOC,zAa,zAl]
  by_cases hlt:i<mv.length
  rotate_left
  ·rw[if_neg (by simpa using hlt)]
   obtain rfl:i=mv.length:=by omega
   exact hk _ _ ⟨hall,kh⟩
  rw[if_pos (by simpa using hlt)]
  have k0h:=k1.trans kh
  obtain⟨x,hx,hgx,hxm,hmx,bx,ox,hix,hpx,_⟩:=(hp.keep k0h λ_ _=>id).at (k:=i) (by rw[hvl];exact hlt)
  rw[hix .i64,zAa,zNN hpx hmx.wf,zAa]
  simp only[zLF,zBb]
  generalize hH12:h.push (.cells (zGM ⟨[],zEY,[],[],[]⟩ zCq zCq zCq).toArray zAg (0,0))=h12
  have k12:Keep zAK h h12:=by rw[<- hH12];exact Keep.push
  have a12:At h12 h.size (zGM ⟨[],zEY,[],[],[]⟩ zCq zCq zCq):=by rw[<- hH12];exact At.push
  obtain⟨h13,st13,a13,k13⟩:=a12.st (n:=8) (ds:=mvC x) (zBH zN6) (zBH hmx.wf) (zF4 hmx)
  have gh:=kh.1
  have k113:Keep zAK H1 h13:=(kh.trans k12).fresh k13 λb hb=>by omega
  have k013:=k1.trans k113
  rw[st13,zAV,d0 _ k113,zAa]
  obtain⟨u,hu,hsu⟩:=(hp.keep k013 λ_ _=>id).h.pre (m:=i) (by rw[zAd];omega)
  have hmt:(mv.map mvC).take i=(mv.take i).map mvC:=by rw[zCA]
  rw[hmt]at hsu
  rw[hu,zAa]
  have hd:zAmL (.func (.func zEk) #[] #[Ptr h.size 0]) (mv.take i) (λo=>decide (o.name=x.1.name)&&decide (o.ver=x.1.ver)) (λg=>Keep zAK h13 g):=λy g hy kg=>by
   refine .inl ⟨zEk,#[],#[Ptr h.size 0],rfl,by kernel_rfl,?_⟩
   show zAz prg zEk [.agg (mvC y).toArray,Ptr h.size 0] g _
   have hyw:=(hp.m y (zBg hy)).wf
   apply zLz
   unfold zJu
   simp only[zB3,zBb]
   generalize hG1:g.push (.cells (mvC y).toArray zAg (0,0))=g1
   have kg1:Keep zAK g g1:=by rw[<- hG1];exact Keep.push
   have ag:At g1 g.size (zGM y.1 y.2.1 y.2.2.1 y.2.2.2):=by rw[<- hG1];exact At.push
   have bg:At g1 h.size (zGM x.1 x.2.1 x.2.2.1 x.2.2.2):=(a13.keep kg id).keep kg1 id
   have e:=λq=>zDN (q:=q) (a:=y.1.name) (b:=x.1.name)
   rw[zBi,zAa,zAu,zDy ag,zAa,zBi,zAa,zAu,zDy bg,zAa,e,zAa]
   cases hn:decide (y.1.name=x.1.name)
   ·refine zKt (by decide) ?_
    rw[zAv,if_neg (by decide),zAa,zA1]
    exact⟨rfl,kg1⟩
   ·refine zDJ rfl ?_
    rw[zBi,zAa,zAh,zJl ag hyw,zAa,zBi,zAa,zAh,zJl bg hmx.wf,zAa,zAcR hyw.ver hmx.wf.ver,zAa]
    show Mpu (zBw (.bool true) _ (.bool false)) _
    rw[zAv,if_pos rfl,zAa,zBf]
    exact⟨rfl,kg1⟩
  refine zAI (zO1 hsu (λy hy=>(hp.m y (zBg hy)).wf) hd (λg kg=>kg) (by rw[zA5];omega)) ?_
  rintro _ h14 ⟨rfl,k14⟩
  have htw:(mv.take i).any (λy=>decide (y.1.name=x.1.name)&&decide (y.1.ver=x.1.ver))=zXL (zBV mv) i:=by
   unfold zXL
   rw[zAiF,List.any_map,hgx];rfl
  rw[htw]
  have a14:=a13.keep k14 id
  rw[a14.ldN (zBH hmx.wf),zAa]
  have k014:=k013.trans k14
  have hsm:=hp.sm x hxm
  have khh:Keep zAK h h14:=(k12.fresh k13 λb hb=>by omega).trans k14
  refine zAI (zSc (hmx.keep khh λ_ _=>id) (by omega) (by omega) (hO.keep k014 λ_ h=>h.elim)) ?_
  rintro _ h15 ⟨rfl,k15⟩
  have k115:=k113.trans (k14.trans k15)
  have hha:zPl (zBV mv) i=(zEy x.1 && !zXL (zBV mv) i):=by unfold zPl;rw[hgx]
  have bad:zPl (zBV mv) i=false->zHF (zBV mv) wants b=false:=λhf=>by rw[hpo,zSb hlt hf];rfl
  rw[zBa,zAa]
  cases r1:zEy x.1
  ·refine zKt (by decide) ?_
   rw[zAe,zAv,if_pos rfl,zAa,zAl,if_pos rfl]
   exact no _ (k1.trans k115) (bad (by rw[hha,r1];rfl))
  ·refine zDJ rfl ?_
   show Mpu (zBw (.bool false) (.bool true) (.bool (zXL (zBV mv) i))) _
   rw[zAv,if_neg (by decide),zAa,zAl]
   cases r2:zXL (zBV mv) i
   ·rw[if_neg (by decide),zB0 (by omega),zAa]
    exact hkk _ _ ⟨i+1,by omega,rfl,zQD hall (by rw[hha,r1,r2];rfl),k115⟩ (by show mv.length-(i+1)<mv.length-i;omega)
   ·rw[if_pos rfl]
    exact no _ (k1.trans k115) (bad (by rw[hha,r1,r2];rfl))
 rintro _ h9 ⟨hall,k9⟩
 rw[hall,zBf]at hpo
 refine zNB (λ_ h=>zUq wants=true/\Keep zAK H1 h) (λk hk=>?_) ?_
 ·rw[d1 _ k9,zAa,lw,zAa]
  refine zKn (λu h=>∃ i:Nat,i<=wants.length/\u = .int .i64 (i:Nat)/\zUq (wants.take i)=true/\Keep zAK H1 h) (λu _=>match u with | .int _ t=>wants.length-t.toNat|_=>0) ⟨0,zAA _,rfl,rfl,k9⟩ ?_
  rintro _ h ⟨i,hi,rfl,hok,kh⟩ kk hkk
  rw[zOC,zAa,zAl]
  by_cases hlt:i<wants.length
  rotate_left
  ·rw[if_neg (by simpa using hlt)]
   rw[zAp (by omega)]at hok
   exact hk _ _ ⟨hok,kh⟩
  rw[if_pos (by simpa using hlt)]
  have hg:wants[i]? = some wants[i]:=zAj hlt
  have hdm:wants[i]∈wants:=zAH hlt
  have htk:wants.take (i+1)=wants.take i++[wants[i]]:=by rw[zAF,hg];rfl
  generalize wants[i]=d at *
  have hdw:=hp.ww d hdm
  have k0h:=k1.trans kh
  obtain⟨bd,od,hid,hpd,_⟩:=(hp.keep k0h λ_ _=>id).w.at (i:=i) (x:=zED d) (by rw[zAr,hg];rfl)
  rw[hid .i64,zAa,hpd.agg (zDx hdw),zAa]
  simp only[zVy,zBb]
  generalize hH22:h.push (.cells (zED zP9).toArray zAE (0,0))=h22
  have k22:Keep zAK h h22:=by rw[<- hH22];exact Keep.push
  have a22:At h22 h.size (zED zP9):=by rw[<- hH22];exact At.push
  obtain⟨h23,st23,a23,k23⟩:=a22.st (n:=6) (ds:=zED d) (zDx zNM) (zDx hdw) zIh
  have khh:Keep zAK h h23:=k22.fresh k23 λb hb=>by omega
  rw[st23,zAV]
  simp only[zBi,zAh,zAu,zAa]
  rw[zAdg a23,zAa]
  refine zAI (zXl hdw.name) ?_
  rintro _ h24 ⟨rfl,k24⟩
  have bad:(zIp d.name&&zH8 d.want)=false->zHF (zBV mv) wants b=false:=λhf=>by
   rw[hpo]
   exact zCF.2 ⟨d,hdm,by simpa using hf⟩
  rw[zBa,zAa]
  cases r1:zIp d.name
  ·refine zKt (by decide) ?_
   rw[zAe,zAv,if_pos rfl,zAa,zAl,if_pos rfl]
   exact no _ (k0h.trans (khh.trans k24)) (bad (by rw[r1];rfl))
  ·refine zDJ rfl ?_
   rw[zWu (a23.keep k24 id) hdw,zAa]
   have kall:=k0h.trans (khh.trans k24)
   refine zAI (zLa hdw.want (hO.keep kall λ_ h=>h.elim)) ?_
   rintro _ h26 ⟨rfl,k26⟩
   rw[zBa,zAa]
   show Mpu (zBw (.bool false) (.bool true) (.bool (!zH8 d.want))) _
   rw[zAv,if_neg (by decide),zAa,zAl]
   cases r2:zH8 d.want
   ·rw[if_pos (show(!false)=true from rfl)]
    exact no _ (kall.trans k26) (bad (by rw[r1,r2];rfl))
   ·rw[if_neg (by decide),zB0 (by omega),zAa]
    refine hkk _ _ ⟨i+1,by omega,rfl,?_,kh.trans (khh.trans (k24.trans k26))⟩ (by show wants.length-(i+1)<wants.length-i;omega)
    rw[htk]
    unfold zUq at hok ⊢
    rw[zC3,hok];simp[r1,r2]
 rintro _ h19 ⟨hw,k19⟩
 exact⟨by rw[hpo,hw];rfl,k1.trans k19⟩
theorem zAan {α β:Type}{lt:α->α->Bool}{lt':β->β->Bool}{g:α->β}(h:∀ a b,lt' (g a) (g b)=lt a b){x:α}:∀ {l:List α},zTA lt' (g x) (l.map g)=(zTA lt x l).map g
 | []=>rfl
 | y::l=>by
  rw[zA2,zTA,zTA,h]
  split
  ·rw[zAan h,zA2]
  ·rw[zA2,zA2]
theorem zAdl {α β:Type}{lt:α->α->Bool}{lt':β->β->Bool}{g:α->β}(h:∀ a b,lt' (g a) (g b)=lt a b){l:List α}:zHQ lt' (l.map g)=(zHQ lt l).map g:=by
 unfold zHQ
 rw[List.map_reverse]
 congr 1
 induction l using zR8 with
 | h0=>rfl
 | h1 l x ih=>rw[zAG,zA2,List.map_nil,zJm,zJm,ih,zAan h]
theorem zAao {lt:Nat->Nat->Bool}{l:List Nat}:zHQ (λa b=>lt a.toNat b.toNat) (zs l)=zs (zHQ lt l):=zAdl (g:=λ(k:Nat)=>(k:Int)) λa b=>rfl
theorem zVz {P:zA3}{H:zAw}{v:Value}{xs:List Int}(hv:SlE 1 P H v (zKI xs))(hl:xs.length<=1099511627776):zAz prg zE7 [v] H λu H'=>BufE 1 (λb=>H.size<=b/\b<H'.size) H' u (zKI xs)/\Keep zAK H H':=by
 apply zK5
 unfold zIV
 obtain⟨⟨a,c,rfl,hc,hx⟩,h2,h3⟩:=hv
 cases a with
 | none =>
  have hnil:zKI xs=[]:=by
   rcases hx with h|⟨b,o,h,_⟩
   ·exact h
   ·cases h
  have e:zAB .slc .eql (.slice none (zKI xs).length c) (.slice none 0 0)=some (.bool true):=rfl
  rw[e,zAa,zAl,if_pos rfl,hnil]
  exact⟨BufE.nil,Keep.refl⟩
 | some a =>
  have e:zAB .slc .eql (.slice (some a) (zKI xs).length c) (.slice none 0 0)=some (.bool false):=rfl
  have b0:zGj prg zHL 0 []=some #[]:=by kernel_rfl
  rw[e,zAa,zAl,if_neg (by decide),b0,zCo]
  generalize hH1:H.push (.cells #[] zHL (0,0))=H1
  have k1:Keep zAK H H1:=by rw[<- hH1];exact Keep.push
  have n1:H1[H.size]? = some (.cells #[] zHL (0,0)):=by rw[<- hH1];exact zCh
  have s1:H1.size=H.size+1:=by rw[<- hH1];simp
  have hb:BufE 1 (H.size <= ·) H1 (.slice (some ⟨H.size,0,none⟩) 0 0) []:=BufE.fresh (cs:=[]) ⟨H.size,rfl,zAi _,n1⟩ (zAi _) (by simp) (λ_ _=>by simp[zUM]) (by simp) (λx h=>by cases h) (λx h=>by cases h)
  have hv1:SlE 1 P H1 (.slice (some a) (zKI xs).length c) (zKI xs):=SlE.keep ⟨⟨_,c,rfl,hc,hx⟩,h2,h3⟩ k1 λ_ _=>id
  refine hb.app hv1 (by omega) (by simp;omega) (by show H.size<=H1.size;omega) λu h2' hu k2=>?_
  rw[zAX]at hu
  have k02:=k1.fresh k2 λb hb=>hb
  exact⟨BufE.re hu λb hb hF=>⟨hF,hb⟩,k02⟩
theorem zSR {P:zA3}{H:zAw}{v:Value}{xs:List Dep}(hv:SlE 6 P H v (xs.map zED))(hl:xs.length<=1000000):zAz prg zCy [v] H λu H'=>BufE 6 (λb=>H.size<=b/\b<H'.size) H' u (xs.map zED)/\Keep zAK H H':=by
 apply zF3
 unfold zEt
 obtain⟨⟨a,c,rfl,hc,hx⟩,h2,h3⟩:=hv
 cases a with
 | none =>
  have hnil:xs.map zED=[]:=by
   rcases hx with h|⟨b,o,h,_⟩
   ·exact h
   ·cases h
  have e:zAB .slc .eql (.slice none (xs.map zED).length c) (.slice none 0 0)=some (.bool true):=rfl
  rw[e,zAa,zAl,if_pos rfl,hnil]
  exact⟨BufE.nil,Keep.refl⟩
 | some a =>
  have e:zAB .slc .eql (.slice (some a) (xs.map zED).length c) (.slice none 0 0)=some (.bool false):=rfl
  have b0:zGj prg zAE 0 []=some #[]:=by kernel_rfl
  rw[e,zAa,zAl,if_neg (by decide),b0,zCo]
  generalize hH1:H.push (.cells #[] zAE (0,0))=H1
  have k1:Keep zAK H H1:=by rw[<- hH1];exact Keep.push
  have n1:H1[H.size]? = some (.cells #[] zAE (0,0)):=by rw[<- hH1];exact zCh
  have s1:H1.size=H.size+1:=by rw[<- hH1];simp
  have hb:BufE 6 (H.size <= ·) H1 (.slice (some ⟨H.size,0,none⟩) 0 0) []:=BufE.fresh (cs:=[]) ⟨H.size,rfl,zAi _,n1⟩ (zAi _) (by simp) (λ_ _=>by simp[zUM]) (by simp) (λx h=>by cases h) (λx h=>by cases h)
  have hv1:SlE 6 P H1 (.slice (some a) (xs.map zED).length c) (xs.map zED):=SlE.keep ⟨⟨_,c,rfl,hc,hx⟩,h2,h3⟩ k1 λ_ _=>id
  refine hb.app hv1 (by omega) (by simp;omega) (by show H.size<=H1.size;omega) λu h2' hu k2=>?_
  rw[zAX]at hu
  have k02:=k1.fresh k2 λb hb=>hb
  exact⟨BufE.re hu λb hb hF=>⟨hF,hb⟩,k02⟩
theorem zAdm {z:Array Value}{n:Nat}(h0:0<z.size)(h:z.all (·.oneCell')=true):(zSj z n).all (·.oneCell')=true:=by
 rw[zBB]at h ⊢
 intro c hc
 unfold zSj at hc
 obtain⟨i,_,rfl⟩:=Array.mem_map.1 hc
 have hlt:i % z.size<z.size:=Nat.mod_lt _ h0
 rw[getElem!_pos z (i % z.size) hlt]
 exact h _ (Array.getElem_mem hlt)
theorem zAdn {z:Array Value}{n:Nat}:(zSj z n).size=n:=by simp[zSj]
theorem _root_.Go.X.BufE.cut0 {n:Nat}{F:zA3}{H:zAw}{b c:Nat}{cs:Array Value}{T:TypeId}{f:Nat×Nat}{m:Nat}(hb:H[b]? = some (.cells cs T f))(hF:F b)(hc:c*n<=cs.size)(ht:∀ i k,zUM f i k=true) :
  ∃ u,slS n (.slice (some ⟨b,0,none⟩) m c) none (some (.int .i64 0)) none=some u/\BufE n F H u []:=by
 have hbn:zNw m c none (some (.int .i64 0)) none=some (0,0,c):=by simp[zNw,bnd]
 refine⟨.slice (some ⟨b,if c=0 then 0 else 0+0*n,none⟩) 0 c,by simp[slS,hbn],(λx h=>absurd h (by simp)),(λx h=>absurd h (by simp)),.inr ⟨b,_,c,cs,T,f,rfl,hF,zAA _,hb,?_,ht,by simp⟩⟩
 split<;>omega
theorem zAdo {H:zAw}{n:Nat}(hn:n<=1000000):zAz prg zDB [.slice none 0 0,.int .i64 (n:Nat)] H λu H'=>BufE 6 (λb=>H.size<=b/\b<H'.size) H' u []/\Keep zAK H H':=by
 apply zGg
 unfold zEx
 have e1:zAB .no .lss (.int .i64 (n:Nat)) (.int .i64 0)=some (.bool false):=zAfF
 have e2:zAB .no .sub (.int .i64 0) (.int .i64 0)=some (.int .i64 0):=by rw[zAJ];rfl
 have e3:zAB .no .sub (.int .i64 (n:Nat)) (.int .i64 0)=some (.int .i64 (n:Nat)):=by
  rw[zAJ];simp only[zC5,Int.sub_zero];rw[zCc]<;>omega
 have e4:zAB .no .gtr (.int .i64 (n:Nat)) (.int .i64 0)=some (.bool (decide (n > 0))):=zAbQ (m:=0)
 have c0:zAgf (.slice none 0 0)=some (.int .i64 0):=rfl
 have l0:zDp (.slice none 0 0)=some (.int .i64 0):=rfl
 have s0:slS 6 (.slice none 0 0) none (some (.int .i64 0)) none=some (.slice none 0 0):=rfl
 refine zAcp.2 ?_
 rw[e1,zAa,zAl,if_neg (by decide)]
 refine zNB (λu h=>BufE 6 (λb=>H.size<=b/\b<h.size) h u []/\Keep zAK H h) (λk hk=>?_) λu h hh=>hh
 simp only[c0,l0,e2,e3,e4,zAa,zAl]
 by_cases h0:n > 0
 ·rw[if_pos (by simpa using h0),s0,zAa]
  refine⟨none,0,0,.i64,n,_,rfl,rfl,by omega,by omega,zVy,zAdm (by simp[zDx zNM]) (by rw[zBB];intro c hc;exact zIh c (by simpa using hc)),λh=>by omega,λ_=>⟨by omega,by omega,#[],rfl,λcap rest h1 h2 h3=>?_⟩⟩
  rw[zAh]at h1 h3 ⊢
  have hsz:(#[]++zSj (zED zP9).toArray (n*6)++rest).size=cap*6:=by
   simp only[Array.size_append,zAdn,h3,zCi,List.length_nil]
   omega
  obtain⟨u,hu,hbu⟩:=BufE.cut0 (n:=6) (F:=λb=>H.size<=b/\b<(H.push (.cells (#[]++zSj (zED zP9).toArray (n*6)++rest) zAE (0,0))).size) (m:=n) (c:=cap) (zCh (H:=H) (y := .cells (#[]++zSj (zED zP9).toArray (n*6)++rest) zAE (0,0))) ⟨zAi _,by simp⟩ (by rw[hsz];exact zAi _) (λ_ _=>zLS)
  rw[hu,zAa]
  exact hk _ _ ⟨hbu,Keep.push⟩
 ·rw[if_neg (by simpa using h0)]
  exact hk _ _ ⟨BufE.nil,Keep.refl⟩
theorem zY5 {P Q:zA3}{H:zAw}{q:Nat}{v w:Value}{xs ys:List Dep}(a:At H q [v,w])(hv:SlE 6 P H v (xs.map zED))(hw:SlE 6 Q H w (ys.map zED))(hl:xs.length+ys.length<=1000000) :
  zAz prg zDs [.slice (some ⟨q,0,none⟩) 2 2] H λu H'=>BufE 6 (λb=>H.size<=b/\b<H'.size) H' u ((xs++ys).map zED)/\Keep zAK H H':=by
 apply zFR
 unfold zEg
 have hlv:zDp (.slice (some ⟨q,0,none⟩) 2 2)=some (.int .i64 ((2:Nat):Int)):=rfl
 have lv:=hv.len
 have lw:=hw.len
 rw[zAd]at lv lw
 have i0:ixS 1 (.slice (some ⟨q,0,none⟩) 2 2) (.int .i64 ((0:Nat):Int))=some (Ptr q 0):=by rw[zKh (by omega)]
 have i1:ixS 1 (.slice (some ⟨q,0,none⟩) 2 2) (.int .i64 ((1:Nat):Int))=some (Ptr q 1):=by rw[zKh (by omega)]
 have d0:∀ h,Keep zAK H h->ld1 h (Ptr q 0)=some v:=λh k=>(a.keep k id).ld rfl
 have d1:∀ h,Keep zAK H h->ld1 h (Ptr q 1)=some w:=λh k=>(a.keep k id).ld rfl
 have adN:∀ x y:Nat,x+y<=1000000->zAB .no .add (.int .i64 (x:Nat)) (.int .i64 (y:Nat))=some (.int .i64 ((x+y:Nat):Int)):=λx y h=>by
  rw[zAJ];simp only[zC5];rw[zCc (by omega) (by omega)];rfl
 refine zMC (λt _ h=>t = .int .i64 ((xs.length+ys.length:Nat):Int)/\H=h) (λk hk=>?_) ?_
 ·rw[hlv,zAa]
  refine zVc (λt u h=>(∃ i:Nat,i<=2/\u = .int .i64 (i:Nat)/\t = .int .i64 (((if 0<i then xs.length else 0)+(if 1<i then ys.length else 0):Nat):Int))/\H=h) (λ_ u _=>match u with | .int _ t=>2-t.toNat|_=>0) ⟨⟨0,by omega,rfl,rfl⟩,rfl⟩ ?_
  rintro _ _ h ⟨⟨i,hi,rfl,rfl⟩,rfl⟩ kk hkk
  rw[zOC,zAa,zAl]
  have hc:i=0\/i=1\/i=2:=by omega
  rcases hc with rfl|rfl|rfl
  ·rw[if_pos (by decide)]
   refine zBW.2 ?_
   rw[i0,zAa,d0 _ Keep.refl,zAa,lv,zAa]
   rw[show((if 0<0 then xs.length else 0)+(if 1<0 then ys.length else 0):Nat)=0 from rfl,adN _ _ (by omega),zAa,zAfF,zAa]
   rw[zAl,if_neg (by decide)]
   show Mpu (zAB .no .add (.int .i64 ((0:Nat):Int)) (.int .i64 1)) _
   rw[zB0 (by omega),zAa]
   exact hkk _ _ _ ⟨⟨1,by omega,rfl,by simp⟩,rfl⟩ (by show 2-1<2-0;omega)
  ·rw[if_pos (by decide)]
   refine zBW.2 ?_
   rw[i1,zAa,d1 _ Keep.refl,zAa,lw,zAa]
   rw[show((if 0<1 then xs.length else 0)+(if 1<1 then ys.length else 0):Nat)=xs.length by simp,adN _ _ (by omega),zAa,zAfF,zAa]
   rw[zAl,if_neg (by decide)]
   show Mpu (zAB .no .add (.int .i64 ((1:Nat):Int)) (.int .i64 1)) _
   rw[zB0 (by omega),zAa]
   exact hkk _ _ _ ⟨⟨2,by omega,rfl,by simp⟩,rfl⟩ (by show 2-2<2-1;omega)
  ·rw[if_neg (by decide)]
   exact hk _ _ _ ⟨by simp,rfl⟩
 rintro _ _ _ ⟨rfl,rfl⟩
 refine zAI (zAdo (by omega)) ?_
 rintro u7 h7 ⟨hb7,k7⟩
 refine zMC (λt _ h=>BufE 6 (λb=>H.size<=b/\b<h.size) h t ((xs++ys).map zED)/\Keep zAK H h) (λk hk=>?_) λt _ h hh=>hh
 rw[hlv,zAa]
 refine zVc (λt u h=>(∃ i:Nat,i<=2/\u = .int .i64 (i:Nat)/\BufE 6 (λb=>H.size<=b/\b<h.size) h t (((if 0<i then xs else [])++(if 1<i then ys else [])).map zED))/\Keep zAK H h) (λ_ u _=>match u with | .int _ t=>2-t.toNat|_=>0) ⟨⟨0,by omega,rfl,by simpa using hb7⟩,k7⟩ ?_
 rintro t _ h ⟨⟨i,hi,rfl,hb⟩,kh⟩ kk hkk
 rw[zOC,zAa,zAl]
 have hc:i=0\/i=1\/i=2:=by omega
 have gh:=kh.1
 rcases hc with rfl|rfl|rfl
 ·rw[if_pos (by decide),i0,zAa,d0 _ kh,zAa]
  refine(hb.mono λb hb=>hb.1).app (hv.keep kh λ_ _=>id) (by omega) (by simp;omega) (by show H.size<=h.size;omega) λt2 h2 ht k2=>?_
  rw[zB0 (by omega),zAa]
  refine hkk _ _ _ ⟨⟨1,by omega,rfl,?_⟩,kh.fresh k2 λb hb=>hb⟩ (by show 2-1<2-0;omega)
  have:=BufE.re ht (G:=λb=>H.size<=b/\b<h2.size) λb hb hF=>⟨hF,hb⟩
  simpa using this
 ·rw[if_pos (by decide),i1,zAa,d1 _ kh,zAa]
  refine(hb.mono λb hb=>hb.1).app (hw.keep kh λ_ _=>id) (by omega) (by simp;omega) (by show H.size<=h.size;omega) λt2 h2 ht k2=>?_
  rw[zB0 (by omega),zAa]
  refine hkk _ _ _ ⟨⟨2,by omega,rfl,?_⟩,kh.fresh k2 λb hb=>hb⟩ (by show 2-2<2-1;omega)
  have:=BufE.re ht (G:=λb=>H.size<=b/\b<h2.size) λb hb hF=>⟨hF,hb⟩
  simpa using this
 ·rw[if_neg (by decide)]
  exact hk _ _ _ ⟨by simpa using hb,kh⟩
theorem zAdp {P:zA3}{H:zAw}{mv:List MV}{wants:List Dep}{vh vw:Value}{b:Int}{q i j:Nat}(hp:Prb P H mv wants vh vw)(aq:At H q (zKl vh vw b))(hi:i<(zBV mv).length)(hj:j<(zBV mv).length) :
  zAz prg zD6 [.int .i64 (i:Nat),.int .i64 (j:Nat),Ptr q 0] H λu H'=>u = .int .i64 (zAeq (gM (zBV mv) j).ver (gM (zBV mv) i).ver)/\Keep zAK H H':=by
 apply zK7
 unfold zIX
 obtain⟨x,hx,hgx,hxm,hmx,bx,ox,hix,hpx,_⟩:=hp.at hi
 obtain⟨y,hy,hgy,hym,hmy,by',oy,hiy,hpy,_⟩:=hp.at hj
 have d0:ld1 H (Ptr q 0)=some vh:=aq.ld rfl
 simp only[zBi,zAu,zAa,d0,hix .i64,hiy .i64,zXJ hpx hmx.wf,zXJ hpy hmy.wf]
 rw[hgx,hgy]
 exact zAI (zAjZ hmy.wf.ver hmx.wf.ver) λ_ h hR=>hR
theorem zY6 {H:zAw}{a:List UInt8}:zAz prg zE9 [str a] H λu H'=>u = .bool false/\H=H':=by
 apply zN3
 unfold zNa
 rw[zSK,zAa]
 exact⟨by simp,rfl⟩
theorem zXM {H:zAw}{a b:List UInt8}:zAz prg zIv [str a,str b] H λu H'=>u = .int .i64 (zME a b)/\H=H':=by
 apply zM8
 unfold zLB
 refine zAI zY6 ?_
 rintro _ _ ⟨rfl,rfl⟩
 refine zAI zY6 ?_
 rintro _ _ ⟨rfl,rfl⟩
 have e1:zAB .no .lss (str a) (str b)=some (.bool (less a b)):=by
  rw[zGu];simp only[zTt,zMS]
 have e2:zAB .no .gtr (str a) (str b)=some (.bool !(less a b || (a == b))):=by
  rw[zGu];simp only[zTt,zMS]
 rw[zAl,if_neg (by decide),zAl,if_neg (by decide),e1,zAa,zAl]
 cases h1:less a b
 ·rw[if_neg (by decide),e2,zAa,zAl,h1,zCz]
  have hz:=zGi.zero a b
  have ht:=zGi.three a b
  by_cases hab:a=b
  ·have:(a == b)=true:=by simpa using hab
   rw[this,if_neg (by decide)]
   exact⟨by rw[hz.2 hab],rfl⟩
  ·have:(a == b)=false:=by simpa using hab
   rw[this,if_pos (by rfl)]
   have hne:zME a b≠0:=λe=>hab (hz.1 e)
   have hn1:zME a b ≠ -1:=λe=>by
    unfold zME at e
    rw[if_neg (by rw[h1];decide)]at e
    split at e<;>omega
   refine⟨?_,rfl⟩
   rcases ht with h|h|h
   ·exact absurd h hn1
   ·exact absurd h hne
   ·rw[h]
 ·rw[if_pos rfl]
  exact⟨by unfold zME;rw[if_pos h1],rfl⟩
theorem zAdq {P:zA3}{H:zAw}{mv:List MV}{wants:List Dep}{vh vw:Value}{b:Int}{q i j:Nat}(hp:Prb P H mv wants vh vw)(aq:At H q (zKl vh vw b))(hi:i<(zBV mv).length)(hj:j<(zBV mv).length) :
  zAz prg zD7 [.int .i64 (i:Nat),.int .i64 (j:Nat),Ptr q 0] H λu H'=>u = .int .i64 (zME (gM (zBV mv) i).name (gM (zBV mv) j).name)/\H=H':=by
 apply zK8
 unfold zIY
 obtain⟨x,hx,hgx,hxm,hmx,bx,ox,hix,hpx,_⟩:=hp.at hi
 obtain⟨y,hy,hgy,hym,hmy,by',oy,hiy,hpy,_⟩:=hp.at hj
 have d0:ld1 H (Ptr q 0)=some vh:=aq.ld rfl
 simp only[zBi,zAu,zAa,d0,hix .i64,hiy .i64,zY2 hpx,zY2 hpy]
 rw[hgx,hgy]
 exact zAI zXM λ_ h hR=>hR
def zXN (xs:List Int)(lt:Int->Int->Bool):Prop:=∀ (G:zAw->Prop) (F:zA3) (H:zAw) (v fv:Value),BufE 1 F H v (zKI xs)->zAjq fv xs lt G->(∀ h,Keep F H h->G h)->(∀ b,F b->b<H.size)->zAz prg zDl [v,fv] H λ_ H'=>BufE 1 F H' v (zKI (zHQ lt xs))/\Keep F H H'
def zAdr (hv:List Man)(x y:Int):Bool:=zAgR hv x.toNat y.toNat
def zWv (hv:List Man)(x y:Int):Bool:=zAkk hv x.toNat y.toNat
theorem zAds {P Q:zA3}{H:zAw}{mv:List MV}{wants:List Dep}{vh vw vc:Value}{b:Int}{ch:List Nat}(hp:Prb P H mv wants vh vw)(hP:∀ b,P b->b<H.size)(hc:SlE 1 Q H vc (zKI (zs ch)))(hk:∀ k∈ch,k<(zBV mv).length)(hl:ch.length<=1000)(hS:zXN (zs ch) (zAdr (zBV mv))) :
  zAz prg zHn [.agg (zKl vh vw b).toArray,vc] H λu H'=>BufE 1 (λb=>H.size<=b/\b<H'.size) H' u (zKI (zs (zE0 (zBV mv) ch)))/\Keep zAK H H':=by
 apply zL0
 unfold zKc
 simp only[zB3,zBb]
 generalize hH1:H.push (.cells (zKl vh vw b).toArray zBn (0,0))=H1
 have k1:Keep zAK H H1:=by rw[<- hH1];exact Keep.push
 have a1:At H1 H.size (zKl vh vw b):=by rw[<- hH1];exact At.push
 have s1:H1.size=H.size+1:=by rw[<- hH1];simp
 refine zAI (zVz (hc.keep k1 λ_ _=>id) (by rw[zQe];omega)) ?_
 rintro v h2 ⟨hv,k2⟩
 have k02:=k1.trans k2
 have a2:=a1.keep k2 id
 have hv':BufE 1 (λb=>H1.size<=b/\b<h2.size) h2 v (zKI (zs ch)):=hv
 have hcmp:zAjq (.func (.func zD7) #[] #[Ptr H.size 0]) (zs ch) (zAdr (zBV mv)) (λh=>Keep (λb=>H1.size<=b/\b<h2.size) h2 h):=λx y h hx hy kh=>by
  obtain⟨i,hi,rfl⟩:=zQ6 hx
  obtain⟨j,hj,rfl⟩:=zQ6 hy
  refine .inl ⟨zD7,#[],#[Ptr H.size 0],rfl,by kernel_rfl,?_⟩
  have k0h:Keep (λb=>H1.size<=b) H h:=(k02.mono λ_ _ h=>h.elim).trans (kh.mono λ_ _ h=>h.1)
  refine zAz.mono (zAdq (b:=b) (hp.keep k0h λb hb hS=>by have:=hP b hb;omega) (a2.keep kh (show ¬ (H1.size<=H.size/\H.size<h2.size) by omega)) (hk i hi) (hk j hj)) ?_
  rintro _ h' ⟨rfl,rfl⟩
  exact⟨⟨_,rfl,rfl⟩,Keep.refl⟩
 refine zAI (hS _ _ _ _ _ hv' hcmp (λh k=>k) λb hb=>hb.2) ?_
 rintro _ h3 ⟨hs,k3⟩
 have hs:BufE 1 (λb=>H1.size<=b/\b<h2.size) h3 v (zKI (zs (zE0 (zBV mv) ch))):=by
  unfold zE0;rw[<- zAao];exact hs
 exact⟨BufE.re hs λb hb hF=>⟨by have:=hF.1;omega,hb⟩,k02.fresh k3 λb hb=>by have:=hb.1;omega⟩
theorem zAgU {n:Int}:zGj prg zHL 1 [(0,.int .i64 n)]=some #[.int .i64 n]:=by kernel_rfl
theorem zAdt {hv:List Man}{d:Dep}{i:Nat}(h:i<hv.length):((List.range (i+1)).filter λk=>zQB d (gM hv k))=((List.range i).filter λk=>zQB d (gM hv k))++(if zQB d (gM hv i) then [i] else []):=by
 rw[List.range_succ,List.filter_append,zBS];rfl
set_option maxHeartbeats 2000000 in
theorem zAdu {P:zA3}{H:zAw}{mv:List MV}{wants:List Dep}{vh vw:Value}{b:Int}{d:Dep}(hp:Prb P H mv wants vh vw)(hP:∀ b,P b->b<H.size)(hd:d.wf)(hl:mv.length<=1000)(hO:zRp H)(hS:zXN (zs (zSP (zBV mv) d)) (zWv (zBV mv))) :
  zAz prg zHm [.agg (zKl vh vw b).toArray,.agg (zED d).toArray] H λu H'=>BufE 1 (λb=>H.size<=b/\b<H'.size) H' u (zKI (zs (zQc (zBV mv) d)))/\Keep zAK H H':=by
 apply zLZ
 unfold zKb
 simp only[zB3,zBb]
 generalize hH1:H.push (.cells (zKl vh vw b).toArray zBn (0,0))=H1
 have k1:Keep zAK H H1:=by rw[<- hH1];exact Keep.push
 have a1:At H1 H.size (zKl vh vw b):=by rw[<- hH1];exact At.push
 have s1:H1.size=H.size+1:=by rw[<- hH1];simp
 generalize hH2:H1.push (.cells (zED d).toArray zAE (0,0))=H2
 have k2:Keep zAK H1 H2:=by rw[<- hH2];exact Keep.push
 have a2:At H2 H1.size (zED d):=by rw[<- hH2];exact At.push
 have s2:H2.size=H1.size+1:=by rw[<- hH2];simp
 have k02:=k1.trans k2
 have b2:=a1.keep k2 id
 have lh:=hp.h.len
 rw[zAd]at lh
 have hvl:(zBV mv).length=mv.length:=by simp
 refine zMC (λt _ h=>BufE 1 (λb=>H2.size<=b) h t (zKI (zs (zSP (zBV mv) d)))/\Keep zAK H2 h) (λk hk=>?_) ?_
 ·have d0:ld1 H2 (Ptr H.size 0)=some vh:=b2.ld rfl
  rw[zBi,zAa,zAu,d0,zAa,lh,zAa]
  refine zVc (λt u h=>(∃ i:Nat,i<=mv.length/\u = .int .i64 (i:Nat)/\BufE 1 (λb=>H2.size<=b) h t (zKI (zs ((List.range i).filter λk=>zQB d (gM (zBV mv) k)))))/\Keep zAK H2 h) (λ_ u _=>match u with | .int _ t=>mv.length-t.toNat|_=>0) ⟨⟨0,zAA _,rfl,BufE.nil⟩,Keep.refl⟩ ?_
  rintro t _ h ⟨⟨i,hi,rfl,hb⟩,kh⟩ kk hkk
  rw[zOC,zAa,zAl]
  by_cases hlt:i<mv.length
  rotate_left
  ·rw[if_neg (by simpa using hlt)]
   obtain rfl:i=mv.length:=by omega
   refine hk _ _ _ ⟨?_,kh⟩
   unfold zSP
   rw[hvl];exact hb
  rw[if_pos (by simpa using hlt)]
  have gh:=kh.1
  have k0h:=k02.trans kh
  obtain⟨x,hx,hgx,hxm,hmx,bx,ox,hix,hpx,_⟩:=(hp.keep k0h λ_ _=>id).at (k:=i) (by rw[hvl];exact hlt)
  have htk:=zAdt (hv:=zBV mv) (d:=d) (i:=i) (by rw[hvl];exact hlt)
  refine zMC (λt2 _ h'=>BufE 1 (λb=>H2.size<=b) h' t2 (zKI (zs ((List.range (i+1)).filter λk=>zQB d (gM (zBV mv) k))))/\Keep zAK H2 h') (λk7 hk7=>?_) ?_
  rotate_left
  ·rintro t2 _ h' ⟨hb',kh'⟩
   rw[zB0 (by omega),zAa]
   exact hkk _ _ _ ⟨⟨i+1,by omega,rfl,hb'⟩,kh'⟩ (by show mv.length-(i+1)<mv.length-i;omega)
  rw[hix .i64,zAa,zNN hpx hmx.wf,zAa]
  simp only[zLF,zBb]
  generalize hH9:h.push (.cells (zGM ⟨[],zEY,[],[],[]⟩ zCq zCq zCq).toArray zAg (0,0))=h9
  have k9:Keep zAK h h9:=by rw[<- hH9];exact Keep.push
  have a9:At h9 h.size (zGM ⟨[],zEY,[],[],[]⟩ zCq zCq zCq):=by rw[<- hH9];exact At.push
  obtain⟨h10,st10,a10,k10⟩:=a9.st (n:=8) (ds:=mvC x) (zBH zN6) (zBH hmx.wf) (zF4 hmx)
  have khh:Keep zAK h h10:=k9.fresh k10 λb hb=>by omega
  have a10':At h10 h.size (zGM x.1 x.2.1 x.2.2.1 x.2.2.2):=a10
  have hb10:=hb.keep khh λ_ _=>id
  have c10:=(a2.keep kh id).keep khh id
  have e:=λq=>zDN (q:=q) (a:=x.1.name) (b:=d.name)
  rw[st10,zAV]
  simp only[zBi,zAh,zAu,zAa]
  rw[zDy a10',zAa,zAdg c10,zAa,e,zAa]
  have no:∀ h',Keep zAK h10 h'->zQB d x.1=false->BufE 1 (λb=>H2.size<=b) h' t (zKI (zs ((List.range (i+1)).filter λk=>zQB d (gM (zBV mv) k))))/\Keep zAK H2 h':=λh' k' hf=>by
   refine⟨?_,(kh.trans khh).trans k'⟩
   rw[htk,hgx,hf]
   simpa using hb10.keep k' λ_ _=>id
  cases hn:decide (x.1.name=d.name)
  ·refine zKt (by decide) ?_
   rw[zAv,if_neg (by decide),zAa,zAl,if_neg (by decide)]
   exact hk7 _ _ _ (no _ Keep.refl (by unfold zQB;rw[hn];rfl))
  ·refine zDJ rfl ?_
   rw[zWu c10 hd,zAa,zJl a10' hmx.wf,zAa]
   refine zAI (zSM hd.want hmx.wf.ver (hO.keep (k0h.trans khh) λ_ h=>h.elim)) ?_
   rintro _ h12 ⟨rfl,k12⟩
   have hfm:zQB d x.1=(zH8 d.want&&zG4 x.1.ver&&zYQ d.want.op d.want.ver x.1.ver):=by unfold zQB;rw[hn];rfl
   rw[zAv,if_pos rfl,zAa,zAl]
   cases hf:(zH8 d.want&&zG4 x.1.ver&&zYQ d.want.op d.want.ver x.1.ver)
   ·rw[if_neg (by decide)]
    exact hk7 _ _ _ (no _ k12 (by rw[hfm,hf]))
   ·rw[if_pos rfl,zAgU,zCo]
    generalize hH14:h12.push (.cells #[.int .i64 (i:Nat)] zHL (0,0))=h14
    have k14:Keep zAK h12 h14:=by rw[<- hH14];exact Keep.push
    have hx14:SlE 1 (· = h12.size) h14 (.slice (some ⟨h12.size,0,none⟩) 1 1) (zKI [(i:Int)]) :=
     ⟨⟨_,1,rfl,zAi _,.inr ⟨h12.size,0,rfl,rfl,by rw[zMB,<- hH14];exact Pt.of zCh⟩⟩,zQr,zPP λv hv=>by simp at hv;subst hv;rfl⟩
    have g12:=k12.1
    have g14:=k14.1
    have ghh:=khh.1
    have hfl:=zA9 (λk=>zQB d (gM (zBV mv) k)) (List.range i)
    rw[List.length_range]at hfl
    refine((hb10.keep k12 λ_ _=>id).keep k14 λ_ _=>id).app hx14 (by omega) (by rw[zMy,zMy,zQe];simp;omega) (by show H2.size<=h14.size;omega) λt3 h15 ht k15=>?_
    refine hk7 _ _ _ ⟨?_,(((kh.trans khh).trans k12).trans k14).fresh k15 λb hb=>hb⟩
    have:zKI (zs ((List.range (i+1)).filter λk=>zQB d (gM (zBV mv) k)))=zKI (zs ((List.range i).filter λk=>zQB d (gM (zBV mv) k)))++zKI [(i:Int)]:=by
     rw[htk,hgx,hfm,hf];simp[zs,zHM]
    rw[this];exact ht
 rintro t _ h ⟨hb,kh⟩
 have hmem:∀ k∈zSP (zBV mv) d,k<(zBV mv).length:=λk hk=>by
  unfold zSP at hk
  exact zBQ.1 (zA0.1 hk).1
 have g02:=k02.1
 have hb:BufE 1 (λb=>H2.size<=b/\b<h.size) h t (zKI (zs (zSP (zBV mv) d))):=BufE.re hb λb hb hF=>⟨hF,hb⟩
 have hcmp:zAjq (.func (.func zD6) #[] #[Ptr H.size 0]) (zs (zSP (zBV mv) d)) (zWv (zBV mv)) (λg=>Keep (λb=>H2.size<=b/\b<h.size) h g):=λx y g hx hy kg=>by
  obtain⟨i,hi,rfl⟩:=zQ6 hx
  obtain⟨j,hj,rfl⟩:=zQ6 hy
  refine .inl ⟨zD6,#[],#[Ptr H.size 0],rfl,by kernel_rfl,?_⟩
  have k0g:Keep (λb=>H2.size<=b) H g:=((k02.trans kh).mono λ_ _ h=>h.elim).trans (kg.mono λ_ _ h=>h.1)
  refine zAz.mono (zAdp (b:=b) (hp.keep k0g λb hb hS=>by have:=hP b hb;omega) ((b2.keep kh id).keep kg (show ¬ (H2.size<=H.size/\H.size<h.size) by omega)) (hmem i hi) (hmem j hj)) ?_
  rintro _ h' ⟨rfl,k'⟩
  exact⟨⟨_,rfl,rfl⟩,k'⟩
 refine zAI (hS _ _ _ _ _ hb hcmp (λh k=>k) λb hb=>hb.2) ?_
 rintro _ h3 ⟨hs,k3⟩
 have hs:BufE 1 (λb=>H2.size<=b/\b<h.size) h3 t (zKI (zs (zQc (zBV mv) d))):=by
  unfold zQc;rw[<- zAao];exact hs
 have g2:=kh.1
 exact⟨BufE.re hs λb hb hF=>⟨by have:=hF.1;omega,hb⟩,(k02.trans kh).fresh k3 λb hb=>by have:=hb.1;omega⟩
end Go.Proofs.YticdfkoncnnmmaaGreatDoor
