import Derived.Test.YticdfkoncnnmmaaGreatDoorG8
import Derived.Test.YticdfkoncnnmmaaGreatDoorG6
set_option linter.unusedSimpArgs false
set_option linter.unusedVariables false
set_option maxRecDepth 100000
namespace Go.Proofs.YticdfkoncnnmmaaGreatDoor
open Go.X Go.X.Diff
theorem zDo {b w:Bool}{yes:(zAm)->Prop}{no:(zAm)->Prop}{rest:zAm}(h:b=w)(hy:yes rest):J1 (λk=>Mif (.bool b) w (yes k) (no k)) rest:=zBT.2 (zAQ.2 (by rw[if_pos h];exact hy))
theorem zId {b w:Bool}{yes:(zAm)->Prop}{H:zAx}{rest:zAm}(h:b≠w)(hy:rest undef H):J1 (λk=>Mif (.bool b) w (yes k) (k undef H)) rest:=zBT.2 (zAQ.2 (by rw[if_neg h];exact hy))
abbrev zKC (l:List Int):List (List Value):=zHL (l.map (Value.int .i64))
abbrev MV:=Man×Value×Value×Value
def mvC (x:MV):List Value:=zGN x.1 x.2.1 x.2.2.1 x.2.2.2
abbrev zCi (mv:List MV):List Man:=mv.map (·.1)
def zN0 (vh vw:Value)(b:Int):List Value:=[vh,vw,.int .i64 b]
structure Prb (P:zA1)(H:zAx)(mv:List MV)(wants:List Dep)(vh vw:Value):Prop where
 h:SlE 8 P H vh (mv.map mvC)
 m:∀ x∈mv,zLd P H x.1 x.2.1 x.2.2.1 x.2.2.2
 w:SlE 6 P H vw (wants.map zFp)
 ww:∀ d∈wants,d.wf
 sm:∀ x∈mv,x.1.deps.length<=1000/\x.1.conf.length<=1000
theorem Prb.keep {P S:zA1}{H H':zAx}{mv:List MV}{wants:List Dep}{vh vw:Value}(h:Prb P H mv wants vh vw)(k:Keep S H H')(hs:∀ b,P b->¬ S b):Prb P H' mv wants vh vw :=
 ⟨h.h.keep k hs,λx hx=>(h.m x hx).keep k hs,h.w.keep k hs,h.ww,h.sm⟩
theorem zZc {mv:List MV}{k:Nat}{x:MV}(h:mv[k]? = some x):gM (zCi mv) k=x.1:=by
 unfold gM
 exact zUA (by rw[zAq,h];rfl)
theorem Prb.at {P:zA1}{H:zAx}{mv:List MV}{wants:List Dep}{vh vw:Value}(h:Prb P H mv wants vh vw){k:Nat}(hk:k<(zCi mv).length):∃ x,mv[k]? = some x/\gM (zCi mv) k=x.1/\x∈mv/\zLd P H x.1 x.2.1 x.2.2.1 x.2.2.2/\∃ b o,(∀ q,ixS 8 vh (.int q k)=some (Ptr b o))/\Pt H b o (mvC x)/\P b:=by
 rw[zAd]at hk
 have hg:mv[k]? = some mv[k]:=zAj hk
 have hm:mv[k]∈mv:=zAH hk
 exact⟨mv[k],hg,zZc hg,hm,h.m _ hm,h.h.at (x:=mvC mv[k]) (by rw[zAq,hg];rfl)⟩
theorem zZd {h:zAx}{b o:Nat}{x:MV}(p:Pt h b o (mvC x)):ld1 h (Ptr b o)=some (str x.1.name):=p.cell0 rfl
theorem zXY {h:zAx}{b o:Nat}{x:MV}(p:Pt h b o (mvC x))(hw:x.1.wf):ldN 4 h (Ptr b (o+1))=some (.agg (zEm x.1.ver).toArray):=by
 have e:mvC x=[str x.1.name]++zEm x.1.ver++[x.2.1,x.2.2.1,x.2.2.2]:=by simp[mvC,zGN]
 rw[e]at p
 exact(p.mid (A:=[str x.1.name]) (B:=zEm x.1.ver) (o':=o+1) rfl).agg (zDH hw.ver)
theorem zM7 {h:zAx}{b o:Nat}{x:MV}(p:Pt h b o (mvC x))(hw:x.1.wf):ldN 8 h (Ptr b o)=some (.agg (mvC x).toArray):=p.agg (zBB hw)
def zAlw (fv:Value)(xs:List Int)(del:Int->Bool)(G:zAx->Prop):Prop:=∀ (n:Int) (h:zAx),n∈xs->G h->zDQ prg fv [.int .i64 n] h λu h'=>u = .bool (del n)/\Keep zAK h h'
theorem zVH {G:zAx->Prop}{P:zA1}{H:zAx}{v fv:Value}{xs:List Int}{del:Int->Bool}(hv:SlE 1 P H v (zKC xs))(hd:zAlw fv xs del G)(hG:∀ h,Keep zAK H h->G h)(hl:xs.length<=1099511627776) :
  zAA prg zEd [v,fv] H λu H'=>Keep zAK H H'/\((u = .int .i64 (-1)/\∀ x∈xs,del x=false)\/∃ i:Nat,u = .int .i64 (i:Nat)/\(∀ x∈xs.take i,del x=false)/\∃ x,xs[i]? = some x/\del x=true):=by
 apply zJe
 unfold zHh
 have hlen:=hv.len
 rw[zUb,zAd]at hlen
 refine zOt (λ_ h=>(∀ x∈xs,del x=false)/\Keep zAK H h) (λk1 hk1=>?_) ?_
 ·rw[hlen,zAa]
  refine zKj (λu h=>∃ i:Nat,i<=xs.length/\u = .int .i64 (i:Nat)/\(∀ x∈xs.take i,del x=false)/\Keep zAK H h) (λu _=>match u with | .int _ t=>xs.length-t.toNat|_=>0) ⟨0,zAz _,rfl,by simp,Keep.refl⟩ ?_
  rintro _ h ⟨i,hi,rfl,hno,kh⟩ k hk
  rw[zNZ,zAa,zAl]
  by_cases hlt:i<xs.length
  ·rw[if_pos (by simpa using hlt)]
   have hg:xs[i]? = some xs[i]:=zAj hlt
   have hm:xs[i]∈xs:=zAH hlt
   generalize xs[i]=x at *
   obtain⟨b,o,hix,hpt,_⟩:=(hv.keep kh λ_ _=>id).at (i:=i) (x:=[.int .i64 x]) (zN7 (by rw[zAq,hg];rfl))
   rw[hix .i64,zAa,hpt.cell0 rfl,zAa]
   refine(hd x h hm (hG h kh)).mono ?_
   rintro _ h5 ⟨rfl,k5⟩
   rw[zAl]
   cases hdx:del x
   ·rw[if_neg (by decide),zBV (by omega),zAa]
    refine hk _ _ ⟨i+1,by omega,rfl,λt ht=>?_,kh.trans k5⟩ (by show xs.length-(i+1)<xs.length-i;omega)
    rw[zAG,hg]at ht
    rcases zAp.1 ht with ht|ht
    ·exact hno t ht
    ·obtain rfl:t=x:=by simpa using ht
     exact hdx
   ·rw[if_pos rfl]
    exact⟨kh.trans k5,.inr ⟨i,rfl,hno,x,hg,hdx⟩⟩
  ·rw[if_neg (by simpa using hlt)]
   rw[zAr (by omega)]at hno
   exact hk1 _ _ ⟨hno,kh⟩
 rintro _ h ⟨hno,kh⟩
 exact⟨kh,.inl ⟨rfl,hno⟩⟩
theorem zAmf {n:Nat}:zAB .no .geq (.int .i64 (n:Nat)) (.int .i64 0)=some (.bool true):=by
 rw[zAJ];simp only[zC8];rw[decide_eq_true (by omega)]
theorem zAfL {n:Nat}:zAB .no .lss (.int .i64 (n:Nat)) (.int .i64 0)=some (.bool false):=by
 rw[zAJ];simp only[zC8];rw[decide_eq_false (by omega)]
theorem zWH {G:zAx->Prop}{P:zA1}{H:zAx}{v fv:Value}{xs:List Int}{del:Int->Bool}(hv:SlE 1 P H v (zKC xs))(hd:zAlw fv xs del G)(hG:∀ h,Keep zAK H h->G h)(hl:xs.length<=1099511627776) :
  zAA prg zEP [v,fv] H λu H'=>u = .bool (xs.any del)/\Keep zAK H H':=by
 apply zIa
 unfold zGs
 refine zAI (zVH hv hd hG hl) ?_
 rintro _ h1 ⟨k1,⟨rfl,hno⟩|⟨i,rfl,hno,x,hg,hx⟩⟩
 ·have e:zAB .no .geq (.int .i64 (-1)) (.int .i64 0)=some (.bool false):=rfl
  rw[e,zAa]
  refine⟨?_,k1⟩
  rw[zCu.2 λx hx=>by simp[hno x hx]]
 ·rw[zAmf,zAa]
  refine⟨?_,k1⟩
  rw[zBz.2 ⟨x,zAC hg,hx⟩]
theorem zAmg {P:zA1}{H:zAx}{mv:List MV}{wants:List Dep}{vh vw:Value}{b:Int}{q r:Nat}{nm:List UInt8}{k:Nat}(hp:Prb P H mv wants vh vw)(aq:At H q (zN0 vh vw b))(ar:At H r [str nm])(hk:k<(zCi mv).length) :
  zAA prg zFm [.int .i64 (k:Nat),Ptr q 0,Ptr r 0] H λu H'=>u = .bool (decide ((gM (zCi mv) k).name=nm))/\Keep zAK H H':=by
 apply zMY
 unfold zLu
 obtain⟨x,hx,hgx,hxm,hmv,bb,o,hix,hpt,_⟩:=hp.at hk
 have d0:ld1 H (Ptr q 0)=some vh:=aq.ld rfl
 have dr:ld1 H (Ptr r 0)=some (str nm):=ar.ld rfl
 rw[zBf,zAa,zAu,d0,zAa,hix .i64,zAa,zBf,zAa,zAu,zZd hpt,zAa,dr,zAa,zDV,zAa,hgx]
 exact⟨rfl,Keep.refl⟩
theorem zQX {ch:List Nat}{n:Int}(h:n∈zs ch):∃ k∈ch,n=(k:Int):=by
 unfold zs at h
 obtain⟨k,hk,rfl⟩:=zAo.1 h
 exact⟨k,hk,rfl⟩
theorem zAkA {ch:List Nat}{i k:Nat}(h:ch[i]? = some k):(zs ch)[i]? = some (k:Int):=by unfold zs;rw[zAq,h];rfl
theorem zQY {ch:List Nat}:(zs ch).length=ch.length:=by simp[zs]
theorem zAiL {ch:List Nat}{i:Nat}{n:Int}(h:(zs ch)[i]? = some n):∃ k,ch[i]? = some k/\n=(k:Int):=by
 unfold zs at h
 rw[zAq]at h
 obtain⟨k,h1,h2⟩:=zBF.1 h
 exact⟨k,h1,h2.symm⟩
theorem zAiM {ch:List Nat}{i:Nat}:(zs ch).take i=zs (ch.take i):=by simp[zs,zCD]
theorem zAdm {ch:List Nat}{k:Nat}(h:k∈ch):(k:Int)∈zs ch:=zAo.2 ⟨k,h,rfl⟩
theorem zAnw {P Q:zA1}{H:zAx}{mv:List MV}{wants:List Dep}{vh vw vc:Value}{b:Int}{nm:List UInt8}{ch:List Nat}(hp:Prb P H mv wants vh vw)(hc:SlE 1 Q H vc (zKC (zs ch)))(hk:∀ k∈ch,k<(zCi mv).length)(hl:ch.length<=1099511627776) :
  zAA prg zJN [.agg (zN0 vh vw b).toArray,vc,str nm] H λu H'=>u=(match ofF (zCi mv) ch nm with|some k => .tuple #[.int .i64 (k:Nat),.bool true]|none => .tuple #[.int .i64 0,.bool false])/\Keep zAK H H':=by
 apply zNP
 unfold zMU
 simp only[zB8,zBb]
 generalize hH1:H.push (.cells (zN0 vh vw b).toArray zB3 (0,0))=H1
 have k1:Keep zAK H H1:=by rw[<- hH1];exact Keep.push
 have a1:At H1 H.size (zN0 vh vw b):=by rw[<- hH1];exact At.push
 generalize hH2:H1.push (.cells (Value.cells (str nm)) zBJ (0,0))=H2
 have k2:Keep zAK H1 H2:=by rw[<- hH2];exact Keep.push
 have a2:At H2 H1.size [str nm]:=by rw[<- hH2];exact At.push
 have k02:=k1.trans k2
 let del:Int->Bool:=λn=>decide ((gM (zCi mv) n.toNat).name=nm)
 have hd:zAlw (.func (.func zFm) #[] #[Ptr H.size 0,Ptr H1.size 0]) (zs ch) del (λh=>Keep zAK H2 h):=λn h hn kh=>by
  obtain⟨k,hkm,rfl⟩:=zQX hn
  refine .inl ⟨zFm,#[],#[Ptr H.size 0,Ptr H1.size 0],rfl,by kernel_rfl,?_⟩
  exact zAmg (hp.keep (k02.trans kh) λ_ _=>id) ((a1.keep k2 id).keep kh id) (a2.keep kh id) (hk k hkm)
 refine zAI (zVH (hc.keep k02 λ_ _=>id) hd (λh kh=>kh) (by rw[zQY];exact hl)) ?_
 rintro _ h3 ⟨k3,⟨rfl,hno⟩|⟨i,rfl,hno,x,hg,hx⟩⟩
 ·have e:zAB .no .lss (.int .i64 (-1)) (.int .i64 0)=some (.bool true):=rfl
  have:ofF (zCi mv) ch nm=none:=zCq.2 λk hk=>by
   have:=hno _ (zAdm hk)
   simpa [del] using this
  rw[e,zAa,zAl,if_pos rfl,this]
  exact⟨rfl,k02.trans k3⟩
 ·obtain⟨k,hgk,rfl⟩:=zAiL hg
  have:ofF (zCi mv) ch nm=some k:=zAcZ (i:=i) (λp hp=>by
   have:=hno (p:Int) (by rw[zAiM];exact zAdm hp)
   simpa [del] using this) hgk (by simpa [del] using hx)
  obtain⟨bb,o,hix,hpt,_⟩:=((hc.keep k02 λ_ _=>id).keep k3 λ_ _=>id).at (i:=i) (x:=[.int .i64 (k:Int)]) (zN7 (by rw[zAq,hg];rfl))
  rw[zAfL,zAa,zAl,if_neg (by decide),hix .i64,zAa,hpt.cell0 rfl,zAa,this]
  exact⟨rfl,k02.trans k3⟩
def zAm1 (fv:Value)(xs:List Dep)(del:Dep->Bool)(G:zAx->Prop):Prop:=∀ (n:Dep) (h:zAx),n∈xs->G h->zDQ prg fv [.agg (zFp n).toArray] h λu h'=>u = .bool (del n)/\Keep zAK h h'
theorem zR9 {G:zAx->Prop}{P:zA1}{H:zAx}{v fv:Value}{xs:List Dep}{del:Dep->Bool}(hv:SlE 6 P H v (xs.map zFp))(hw:∀ d∈xs,d.wf)(hd:zAm1 fv xs del G)(hG:∀ h,Keep zAK H h->G h)(hl:xs.length<=1099511627776) :
  zAA prg zCG [v,fv] H λu H'=>u = .bool (xs.any del)/\Keep zAK H H':=by
 apply zEZ
 unfold zDM
 refine zAI (R:=λu H'=>Keep zAK H H'/\((u = .int .i64 (-1)/\∀ x∈xs,del x=false)\/∃ (i:Nat) (x:Dep),u = .int .i64 (i:Nat)/\x∈xs/\del x=true)) ?_ ?_
 ·apply zFy
  unfold zDZ
  have hlen:=hv.len
  rw[zAd]at hlen
  refine zOt (λ_ h=>(∀ x∈xs,del x=false)/\Keep zAK H h) (λk1 hk1=>?_) ?_
  ·rw[hlen,zAa]
   refine zKj (λu h=>∃ i:Nat,i<=xs.length/\u = .int .i64 (i:Nat)/\(∀ x∈xs.take i,del x=false)/\Keep zAK H h) (λu _=>match u with | .int _ t=>xs.length-t.toNat|_=>0) ⟨0,zAz _,rfl,by simp,Keep.refl⟩ ?_
   rintro _ h ⟨i,hi,rfl,hno,kh⟩ k hk
   rw[zNZ,zAa,zAl]
   by_cases hlt:i<xs.length
   ·rw[if_pos (by simpa using hlt)]
    have hg:xs[i]? = some xs[i]:=zAj hlt
    have hm:xs[i]∈xs:=zAH hlt
    generalize xs[i]=x at *
    obtain⟨b,o,hix,hpt,_⟩:=(hv.keep kh λ_ _=>id).at (i:=i) (x:=zFp x) (by rw[zAq,hg];rfl)
    rw[hix .i64,zAa,hpt.agg (zEh (hw x hm)),zAa]
    refine(hd x h hm (hG h kh)).mono ?_
    rintro _ h5 ⟨rfl,k5⟩
    rw[zAl]
    cases hdx:del x
    ·rw[if_neg (by decide),zBV (by omega),zAa]
     refine hk _ _ ⟨i+1,by omega,rfl,λt ht=>?_,kh.trans k5⟩ (by show xs.length-(i+1)<xs.length-i;omega)
     rw[zAG,hg]at ht
     rcases zAp.1 ht with ht|ht
     ·exact hno t ht
     ·obtain rfl:t=x:=by simpa using ht
      exact hdx
    ·rw[if_pos rfl]
     exact⟨kh.trans k5,.inr ⟨i,x,rfl,hm,hdx⟩⟩
   ·rw[if_neg (by simpa using hlt)]
    rw[zAr (by omega)]at hno
    exact hk1 _ _ ⟨hno,kh⟩
  rintro _ h ⟨hno,kh⟩
  exact⟨kh,.inl ⟨rfl,hno⟩⟩
 ·rintro _ h1 ⟨k1,⟨rfl,hno⟩|⟨i,x,rfl,hm,hx⟩⟩
  ·have e:zAB .no .geq (.int .i64 (-1)) (.int .i64 0)=some (.bool false):=rfl
   rw[e,zAa]
   refine⟨?_,k1⟩
   rw[zCu.2 λx hx=>by simp[hno x hx]]
  ·rw[zAmf,zAa]
   refine⟨?_,k1⟩
   rw[zBz.2 ⟨x,hm,hx⟩]
theorem zAdn {h:zAx}{q:Nat}{d:Dep}(a:At h q (zFp d)):ld1 h (Ptr q 0)=some (str d.name):=a.ld rfl
theorem zWI {h:zAx}{q:Nat}{d:Dep}(a:At h q (zFp d))(hd:d.wf):ldN 5 h (Ptr q 1)=some (.agg (zFC d.want).toArray):=by
 obtain⟨T,a⟩:=a
 exact ldN_mid (A:=[str d.name]) (B:=zFC d.want) (C:=[]) (by rw[zAP];exact a) rfl (zGM hd.want).symm
theorem zXZ {P Q:zA1}{H:zAx}{x y:MV}(hx:zLd P H x.1 x.2.1 x.2.2.1 x.2.2.2)(hy:y.1.wf)(hl:x.1.conf.length<=1000)(hO:zQW H) :
  zAA prg zJR [.agg (mvC x).toArray,.agg (mvC y).toArray] H λu H'=>u = .bool (zAbX x.1 y.1)/\Keep zAK H H':=by
 apply zPm
 unfold zO6
 simp only[zB8,zBb]
 generalize hH1:H.push (.cells (mvC x).toArray zAe (0,0))=H1
 have k1:Keep zAK H H1:=by rw[<- hH1];exact Keep.push
 have a1:At H1 H.size (zGN x.1 x.2.1 x.2.2.1 x.2.2.2):=by rw[<- hH1];exact At.push
 generalize hH2:H1.push (.cells (mvC y).toArray zAe (0,0))=H2
 have k2:Keep zAK H1 H2:=by rw[<- hH2];exact Keep.push
 have a2:At H2 H1.size (zGN y.1 y.2.1 y.2.2.1 y.2.2.2):=by rw[<- hH2];exact At.push
 have k02:=k1.trans k2
 have d6:=(zHv (a1.keep k2 id) hx.wf).2.1
 rw[zBf,zAa,zAi,d6,zAa]
 have hd:zAm1 (.func (.func zGA) #[] #[Ptr H1.size 0]) x.1.conf (λd=>zQs d y.1) (λh=>Keep zAK H2 h):=λd h hm kh=>by
  refine .inl ⟨zGA,#[],#[Ptr H1.size 0],rfl,by kernel_rfl,?_⟩
  have hdw:=hx.wf.conf d hm
  show zAA prg zGA [.agg (zFp d).toArray,Ptr H1.size 0] h _
  apply zOi
  unfold zNy
  simp only[zB8,zBb]
  generalize hH3:h.push (.cells (zFp d).toArray zAL (0,0))=h3
  have k3:Keep zAK h h3:=by rw[<- hH3];exact Keep.push
  have a3:At h3 h.size (zFp d):=by rw[<- hH3];exact At.push
  have b3:=(a2.keep kh id).keep k3 id
  have e:=λq=>zDV (q:=q) (a:=d.name) (b:=y.1.name)
  rw[zBf,zAa,zAu,zAdn a3,zAa,zBf,zAa,zAu,zDz b3,zAa,e,zAa]
  unfold zQs
  have ec:decide (y.1.name=d.name)=decide (d.name=y.1.name):=by rw[decide_eq_decide];exact eq_comm
  rw[ec]
  cases hn:decide (d.name=y.1.name)
  ·simp only[zBT,zAQ,zAb,if_false,zAv,zAa,zA2]
   exact⟨by trivial,k3⟩
  ·refine zDo rfl ?_
   rw[zBf,zAa,zAi,zWI a3 hdw,zAa,zBf,zAa,zAi,zHu b3 hy,zAa]
   refine zAI (zSQ hdw.want hy.ver (hO.keep (k02.trans (kh.trans k3)) λ_ h=>h.elim)) ?_
   rintro _ h4 ⟨rfl,k4⟩
   rw[zAv,if_pos rfl,zAa,zBa]
   exact⟨rfl,k3.trans k4⟩
 refine zAI (zR9 (hx.c.keep k02 λ_ _=>id) hx.wf.conf hd (λh kh=>kh) (by omega)) ?_
 rintro _ h3 ⟨rfl,k3⟩
 exact⟨rfl,k02.trans k3⟩
theorem zAiN {P Q:zA1}{H:zAx}{mv:List MV}{wants:List Dep}{vh vw vc:Value}{b:Int}{ch:List Nat}{k:Nat}(hp:Prb P H mv wants vh vw)(hc:SlE 1 Q H vc (zKC (zs ch)))(hk:∀ k∈ch,k<(zCi mv).length)(hkk:k<(zCi mv).length)(hl:ch.length<=1099511627776)(hO:zQW H) :
  zAA prg zHT [.agg (zN0 vh vw b).toArray,vc,.int .i64 (k:Nat)] H λu H'=>u = .bool (zP2 (zCi mv) ch k)/\Keep zAK H H':=by
 apply zMt
 unfold zKA
 simp only[zB8,zBb]
 generalize hH1:H.push (.cells (zN0 vh vw b).toArray zB3 (0,0))=H1
 have k1:Keep zAK H H1:=by rw[<- hH1];exact Keep.push
 have a1:At H1 H.size (zN0 vh vw b):=by rw[<- hH1];exact At.push
 generalize hH2:H1.push (.cells (Value.cells (.int .i64 (k:Nat))) zIC (0,0))=H2
 have k2:Keep zAK H1 H2:=by rw[<- hH2];exact Keep.push
 have a2:At H2 H1.size [.int .i64 (k:Nat)]:=by rw[<- hH2];exact At.push
 have k02:=k1.trans k2
 let del:Int->Bool:=λn=>zAbX (gM (zCi mv) n.toNat) (gM (zCi mv) k) || zAbX (gM (zCi mv) k) (gM (zCi mv) n.toNat)
 have hd:zAlw (.func (.func zEq) #[] #[Ptr H.size 0,Ptr H1.size 0]) (zs ch) del (λh=>Keep zAK H2 h):=λn h hn kh=>by
  obtain⟨i,him,rfl⟩:=zQX hn
  refine .inl ⟨zEq,#[],#[Ptr H.size 0,Ptr H1.size 0],rfl,by kernel_rfl,?_⟩
  show zAA prg zEq [.int .i64 (i:Nat),Ptr H.size 0,Ptr H1.size 0] h _
  have hph:=hp.keep (k02.trans kh) λ_ _=>id
  have aq:=(a1.keep k2 id).keep kh id
  have ar:=a2.keep kh id
  have hOh:=hO.keep (k02.trans kh) λ_ h=>h.elim
  apply zLw
  unfold zJs
  obtain⟨x,hx,hgx,hxm,hmx,bx,ox,hix,hpx,_⟩:=hph.at (hk i him)
  obtain⟨y,hy,hgy,hym,hmy,by',oy,hiy,hpy,_⟩:=hph.at hkk
  have d0:∀ g,Keep zAK h g->ld1 g (Ptr H.size 0)=some vh:=λg kg=>(aq.keep kg id).ld rfl
  have dr:∀ g,Keep zAK h g->ld1 g (Ptr H1.size 0)=some (.int .i64 (k:Nat)):=λg kg=>(ar.keep kg id).ld rfl
  rw[zBf,zAa,zAu,d0 _ Keep.refl,zAa,hix .i64,zAa,zM7 hpx hmx.wf,zAa]
  simp only[zBf,zAu,zAa]
  rw[d0 _ Keep.refl,zAa,dr _ Keep.refl,zAa,hiy .i64,zAa,zM7 hpy hmy.wf,zAa]
  refine zAI (zXZ (Q:=P) hmx hmy.wf (hp.sm x hxm).2 hOh) ?_
  rintro _ h1 ⟨rfl,k1'⟩
  have ei:del (i:Int)=(zAbX x.1 y.1 || zAbX y.1 x.1):=by
   show(zAbX (gM (zCi mv) (i:Int).toNat) (gM (zCi mv) k) || _)=_
   rw[show((i:Int)).toNat=i from rfl,hgx,hgy]
  rw[ei]
  cases hr:zAbX x.1 y.1
  ·refine zDo rfl ?_
   rw[d0 _ k1',zAa,dr _ k1',zAa,hiy .i64,zAa,zM7 (hpy.keep k1' id) hmy.wf,zAa,zAa,hix .i64,zAa,zM7 (hpx.keep k1' id) hmx.wf,zAa]
   refine zAI (zXZ (Q:=P) (hmy.keep k1' λ_ _=>id) hmx.wf (hp.sm y hym).2 (hOh.keep k1' λ_ h=>h.elim)) ?_
   rintro _ h3 ⟨rfl,k3⟩
   rw[zAv,if_neg (by decide),zAa,zCs]
   exact⟨rfl,k1'.trans k3⟩
  ·refine zId (by decide) ?_
   rw[zAv,if_pos rfl,zAa,Bool.true_or]
   exact⟨rfl,k1'⟩
 refine zAI (zWH (hc.keep k02 λ_ _=>id) hd (λh kh=>kh) (by rw[zQY];exact hl)) ?_
 rintro _ h3 ⟨rfl,k3⟩
 refine⟨?_,k02.trans k3⟩
 unfold zP2 zs
 rw[List.any_map];rfl
theorem zAbx {H:zAx}{u:Nat}(hu:u<256):zAA prg zEV [.int .u64 (u:Nat)] H λv H'=>(∃ m:Nat,v = .int .i64 (m:Nat))/\H=H':=by
 apply zHr
 unfold zI2
 rw[zAl,if_neg (by decide)]
 refine zAI (R:=λv H'=>(∃ m:Nat,v = .int .i64 (m:Nat))/\H=H') ?_ λv h hR=>hR
 apply zE9
 unfold zGg
 have ge:∀ (b:Nat),u<b->zAB .no .geq (.int .u64 (u:Nat)) (.int .u64 (b:Nat))=some (.bool false):=λb hb=>by
  rw[zAJ];simp only[zC8];rw[decide_eq_false (by omega)]
 have g1:zAB .no .geq (.int .u64 (u:Nat)) (.int .u64 4294967296)=some (.bool false):=ge 4294967296 (by omega)
 have g2:zAB .no .geq (.int .u64 (u:Nat)) (.int .u64 65536)=some (.bool false):=ge 65536 (by omega)
 have g3:zAB .no .geq (.int .u64 (u:Nat)) (.int .u64 256)=some (.bool false):=ge 256 (by omega)
 simp only[zAcx,g1,g2,g3,zAa,zAl,zAb,if_false]
 exact zQm (R:=λv _=>(∃ m:Nat,v = .int .i64 (m:Nat))/\True) (H:=H) (off:=0) (x:=u) hu (by omega) ⟨⟨_,rfl⟩,trivial⟩
def zAjA (fv:Value)(xs:List Int)(lt:Int->Int->Bool)(G:zAx->Prop):Prop:=∀ (a b:Int) (h:zAx),a∈xs->b∈xs->G h->zDQ prg fv [.int .i64 a,.int .i64 b] h λu h'=>(∃ n:Int,u = .int .i64 n/\decide (n<0)=lt a b)/\Keep zAK h h'
theorem zAax {l:List Int}{i:Nat}{n:Int}:(zKC l).set i [.int .i64 n]=zKC (l.set i n):=by simp[zHL,List.map_set]
theorem zSa {l:List Int}{i:Nat}{n:Int}(h:l[i]? = some n):(zKC l)[i]? = some [.int .i64 n]:=zN7 (by rw[zAq,h];rfl)
theorem zNC {l:List Int}:(zKC l).length=l.length:=by simp
theorem zAfM {A R:List Int}{x y:Int}:((A++y::x::R).set (A.length+1) y).set A.length x=A++x::y::R:=by
 rw[zCR _ _ (by omega)]
 rw[show A.length+1-A.length=1 by omega]
 rw[zCR _ _ (by omega),Nat.sub_self]
 rfl
theorem zX0 {i:Nat}(h:i+1<=9223372036854775807):zAB .no .sub (.int .i64 ((i+1:Nat):Int)) (.int .i64 1)=some (.int .i64 (i:Nat)):=by
 rw[zAJ];simp only[zC8];rw[zCe (by omega) (by omega)];congr 2;omega
theorem zAdo {α:Type}{lt:α->α->Bool}{x:α}:zHP lt [x]=[x]:=rfl
theorem zAdp {α:Type}{lt:α->α->Bool}{x y:α}{ys:List α}:zTG lt x (y::ys)=if lt x y=true then y::zTG lt x ys else x::y::ys:=by rw[zTG]
set_option maxHeartbeats 2000000 in
theorem zZe {F G:zAx->Prop}{Fb:zA1}{H:zAx}{v fv:Value}{xs:List Int}{lt:Int->Int->Bool}(hv:BufE 1 Fb H v (zKC xs))(hc:zAjA fv xs lt G)(hG:∀ h,Keep Fb H h->G h)(hl:xs.length<=1000) :
  zAA prg zDF [v,.int .i64 0,.int .i64 (xs.length:Nat),fv] H λ_ H'=>BufE 1 Fb H' v (zKC (zHP lt xs))/\Keep Fb H H':=by
 apply zHN
 unfold zFY
 have e01:zAB .no .add (.int .i64 0) (.int .i64 1)=some (.int .i64 ((1:Nat):Int)):=rfl
 rw[e01,zAa]
 have hx0:xs=zHP lt (xs.take 1)++xs.drop 1:=by
  cases xs with
  | nil=>rfl
  | cons a l=>simp[zAdo]
 refine zKj (λu h=>∃ i:Nat,1<=i/\i<=xs.length+1/\u = .int .i64 (i:Nat)/\BufE 1 Fb h v (zKC (zHP lt (xs.take i)++xs.drop i))/\Keep Fb H h) (λu _=>match u with | .int _ t=>xs.length+1-t.toNat|_=>0) ⟨1,zAh _,by omega,rfl,by rw[<- hx0];exact hv,Keep.refl⟩ ?_
 rintro _ h ⟨i,hi1,hi,rfl,hb,kh⟩ kk hkk
 rw[zNZ,zAa,zAl]
 by_cases hlt:i<xs.length
 rotate_left
 ·rw[if_neg (by simpa using hlt)]
  rw[zAr (by omega),zC9 (by omega),zAP]at hb
  exact⟨hb,kh⟩
 rw[if_pos (by simpa using hlt)]
 have hg:xs[i]? = some xs[i]:=zAj hlt
 have hmx:xs[i]∈xs:=zAH hlt
 have hdr:xs.drop i=xs[i]::xs.drop (i+1):=zBU hlt
 have htk:xs.take (i+1)=xs.take i++[xs[i]]:=by rw[zAG,hg];rfl
 have hlen:(zHP lt (xs.take i)).length=i:=by rw[zXU,zA4];omega
 have hmem:∀ y∈zHP lt (xs.take i),y∈xs:=λy hy=>zBw (zUw.1 hy)
 have hins:zHP lt (xs.take (i+1))=(zTG lt xs[i] (zHP lt (xs.take i)).reverse).reverse:=by
  rw[htk];unfold zHP
  rw[zJf,List.reverse_reverse]
 rw[hdr]at hb
 generalize xs[i]=x at *
 generalize hS:zHP lt (xs.take i)=S at *
 generalize hR:xs.drop (i+1)=R at *
 refine zMk (λ_ _ h'=>BufE 1 Fb h' v (zKC (zHP lt (xs.take (i+1))++R))/\Keep Fb H h') (λk3 hk3=>?_) ?_
 rotate_left
 ·rintro _ _ h' ⟨hb',kh'⟩
  rw[zBV (by omega),zAa]
  exact hkk _ _ ⟨i+1,by omega,by omega,rfl,by rw[hR];exact hb',kh'⟩ (by show xs.length+1-(i+1)<xs.length+1-i;omega)
 refine zKj (λu h'=>∃ (A B:List Int),u = .int .i64 (A.length:Nat)/\S=A++B/\zTG lt x S.reverse=B.reverse++zTG lt x A.reverse/\BufE 1 Fb h' v (zKC (A++x::(B++R)))/\Keep Fb H h') (λu _=>match u with | .int _ t=>t.toNat|_=>0) ⟨S,[],by rw[hlen],by simp,by simp,by simpa using hb,kh⟩ ?_
 rintro _ h' ⟨A,B,rfl,hAB,hin,hb',kh'⟩ k5 hk5
 have hAl:A.length<=1000:=by
  have:S.length=A.length+B.length:=by rw[hAB,zAt]
  omega
 have g0:zAB .no .gtr (.int .i64 (A.length:Nat)) (.int .i64 0)=some (.bool (decide (A.length > 0))):=zAbu (m:=0)
 rw[g0,zAa]
 rcases List.eq_nil_or_concat A with rfl|⟨A',y,hA⟩
 ·refine zId (by decide) ?_
  rw[zAv]
  show Mpu (some (.bool false)) _
  rw[zAa,zAl,if_neg (by decide)]
  refine hk3 _ _ _ ⟨?_,kh'⟩
  have:zHP lt (xs.take (i+1))=x::B:=by
   rw[hins,hin];simp[zTG]
  rw[this];simpa using hb'
 ·rw[List.concat_eq_append]at hA
  subst hA
  have hAl':(A'++[y]).length=A'.length+1:=by simp
  rw[hAl',decide_eq_true (by omega)]
  have eL:A'++[y]++x::(B++R)=A'++y::x::(B++R):=by simp
  rw[eL]at hb'
  have gx:(A'++y::x::(B++R))[A'.length+1]? = some x:=by
   rw[zBe (by omega)];simp
  have gy:(A'++y::x::(B++R))[A'.length]? = some y:=by
   rw[zBe (by omega)];simp
  have hym:y∈xs:=hmem y (by rw[hAB];simp)
  obtain⟨bx,ox,hix,hpx,_⟩:=hb'.sl.at (zSa gx)
  obtain⟨by',oy,hiy,hpy,_⟩:=hb'.sl.at (zSa gy)
  refine zDo rfl ?_
  rw[hix .i64,zAa,hpx.cell0 rfl,zAa,zX0 (by omega),zAa,hiy .i64,zAa,hpy.cell0 rfl,zAa]
  refine(hc x y h' hmx hym (hG h' kh')).mono ?_
  rintro _ h8 ⟨⟨n,rfl,hn⟩,k8⟩
  have en:zAB .no .lss (.int .i64 n) (.int .i64 0)=some (.bool (decide (n<0))):=ltI
  have hb8:=hb'.keep k8 λ_ _=>id
  have kh8:Keep Fb H h8:=kh'.trans (k8.mono λ_ _ h=>h.elim)
  rw[en,zAa,hn]
  show Mpu (zBD (.bool true) (.bool (lt x y)) (.bool false)) _
  rw[zAv,if_pos rfl,zAa,zAl]
  have hrev:(A'++[y]).reverse=y::A'.reverse:=by simp
  rw[hrev,zAdp]at hin
  cases hxy:lt x y
  ·rw[if_neg (by decide)]
   rw[hxy,if_neg (by decide)]at hin
   refine hk3 _ _ _ ⟨?_,kh8⟩
   have:zHP lt (xs.take (i+1))=A'++y::x::B:=by
    rw[hins,hin];simp
   rw[this];simpa using hb8
  ·rw[if_pos rfl]
   rw[hxy,if_pos rfl]at hin
   obtain⟨b1,o1,h10,i1,p1,st1',hb10,k10⟩:=hb8.st (zSa gx) (j:=0) (by omega) (w := .int .i64 y) rfl
   have e1:([Value.int .i64 x]).set 0 (.int .i64 y)=[.int .i64 y]:=rfl
   rw[e1,zAax]at hb10
   have gy2:((A'++y::x::(B++R)).set (A'.length+1) y)[A'.length]? = some y:=by
    rw[List.getElem?_set_ne (by omega)];exact gy
   obtain⟨b2,o2,h11,i2,p2,st2',hb11,k11⟩:=hb10.st (zSa gy2) (j:=0) (by omega) (w := .int .i64 x) rfl
   have e2:([Value.int .i64 y]).set 0 (.int .i64 x)=[.int .i64 x]:=rfl
   rw[e2,zAax,zAfM]at hb11
   have hpx8:=hpx.keep k8 id
   have hpy8:=hpy.keep k8 id
   have ly:ld1 h8 (Ptr by' oy)=some (.int .i64 y):=hpy8.cell0 rfl
   have lx:ld1 h8 (Ptr bx ox)=some (.int .i64 x):=hpx8.cell0 rfl
   simp only[zAa,hiy .i64,hix .i64,ly,lx]
   have j1:Ptr bx ox=Ptr b1 o1:=zAN ((hix .i64).symm.trans (i1 .i64))
   have j2:Ptr by' oy=Ptr b2 o2:=zAN ((hiy .i64).symm.trans (i2 .i64))
   rw[zAu]at st1' st2'
   rw[j1,st1',zAW,j2,st2',zAW]
   refine hk5 _ _ ⟨A',y::B,rfl,by rw[hAB];simp,?_,by simpa using hb11,(kh8.trans k10).trans k11⟩ ?_
   ·rw[hin];simp
   ·show A'.length<(A'++[y]).length;omega
theorem zAiO {body:(Value->Value->Value->Value->zAm)->Value->Value->Value->Value->zAm}{a b c d e:Value}{H:zAx}(hs:∀ k:Value->Value->Value->Value->zAm,body k a b c d e H):L5 body a b c d e H:=by
 refine⟨λvs h=>vs=[a,b,c,d,e]/\h=H,λ_ _=>0,⟨rfl,rfl⟩,?_⟩
 rintro vs h _ ⟨rfl,rfl⟩
 exact hs _
theorem zAdq {G:zAx->Prop}{Fb:zA1}{H:zAx}{v fv:Value}{xs:List Int}{lt:Int->Int->Bool}(hv:BufE 1 Fb H v (zKC xs))(hc:zAjA fv xs lt G)(hG:∀ h,Keep Fb H h->G h)(hl:xs.length<=12) :
  zAA prg zDq [v,fv] H λ_ H'=>BufE 1 Fb H' v (zKC (zHP lt xs))/\Keep Fb H H':=by
 apply zFX
 unfold zFx
 have hlen:=hv.sl.len
 rw[zNC]at hlen
 have cv:cvI .u64 (.int .i64 (xs.length:Nat))=some (.int .u64 (xs.length:Nat)):=by
  rw[zFH]
  congr 2
  simp only[IntKind.wrap,IntKind.bits,IntKind.signed]
  simp;omega
 rw[hlen,zAa,cv,zAa]
 refine zAI (zAbx (by omega)) ?_
 rintro _ _ ⟨⟨m,rfl⟩,rfl⟩
 refine zAI (R:=λ_ H'=>BufE 1 Fb H' v (zKC (zHP lt xs))/\Keep Fb H H') ?_ λ_ h hR=>hR
 apply zJG
 unfold zHE
 refine zAiO λk=>?_
 have es:zAB .no .sub (.int .i64 (xs.length:Nat)) (.int .i64 0)=some (.int .i64 (xs.length:Nat)):=by
  rw[zAJ];simp only[zC8];rw[Int.sub_zero,zCe (by omega) (by omega)]
 have el:zAB .no .leq (.int .i64 (xs.length:Nat)) (.int .i64 12)=some (.bool true):=by
  rw[zAJ];simp only[zC8];rw[decide_eq_true (by omega)]
 rw[es,zAa,el,zAa,zAl,if_pos rfl]
 exact zAI (zZe (F:=G) hv hc hG (by omega)) λ_ h hR=>hR
def zX1 (hv:List Man)(i:Nat):Bool:=(hv.take i).any λo=>decide (o.name=(gM hv i).name)&&decide (o.ver=(gM hv i).ver)
def zP5 (hv:List Man)(i:Nat):Bool:=zEC (gM hv i) && !zX1 hv i
def zUB (ws:List Dep):Bool:=ws.all λd=>zJv d.name&&zH6 d.want
def zIV (hv:List Man)(ws:List Dep)(b:Int):Bool:=decide (0<=b)&&decide (b<=65536)&&(List.range hv.length).all (zP5 hv)&&zUB ws
theorem zL8:zBI prg zAe=some (zGN ⟨[],zEc,[],[],[]⟩ zCn zCn zCn).toArray:=by kernel_rfl
theorem zOr:(⟨[],zEc,[],[],[]⟩:Man).wf:=⟨by simp,zG7,(λd h=>absurd h (by simp)),(λd h=>absurd h (by simp)),(λd h=>absurd h (by simp))⟩
theorem zAay:zBI prg zAL=some (zFp zQL).toArray:=by kernel_rfl
theorem zFP {P:zA1}{H:zAx}{x:MV}(h:zLd P H x.1 x.2.1 x.2.2.1 x.2.2.2):∀ c∈mvC x,c.oneCell'=true:=h.one
def zAm2 (fv:Value)(xs:List MV)(del:Man->Bool)(G:zAx->Prop):Prop:=∀ (x:MV) (h:zAx),x∈xs->G h->zDQ prg fv [.agg (mvC x).toArray] h λu h'=>u = .bool (del x.1)/\Keep zAK h h'
theorem zOT {G:zAx->Prop}{P:zA1}{H:zAx}{v fv:Value}{xs:List MV}{del:Man->Bool}(hv:SlE 8 P H v (xs.map mvC))(hw:∀ x∈xs,x.1.wf)(hd:zAm2 fv xs del G)(hG:∀ h,Keep zAK H h->G h)(hl:xs.length<=1099511627776) :
  zAA prg zBR [v,fv] H λu H'=>u = .bool (xs.any λx=>del x.1)/\Keep zAK H H':=by
 apply zEb
 unfold zDn
 refine zAI (R:=λu H'=>Keep zAK H H'/\((u = .int .i64 (-1)/\∀ x∈xs,del x.1=false)\/∃ (i:Nat) (x:MV),u = .int .i64 (i:Nat)/\x∈xs/\del x.1=true)) ?_ ?_
 ·apply zDe
  unfold zDv
  have hlen:=hv.len
  rw[zAd]at hlen
  refine zOt (λ_ h=>(∀ x∈xs,del x.1=false)/\Keep zAK H h) (λk1 hk1=>?_) ?_
  ·rw[hlen,zAa]
   refine zKj (λu h=>∃ i:Nat,i<=xs.length/\u = .int .i64 (i:Nat)/\(∀ x∈xs.take i,del x.1=false)/\Keep zAK H h) (λu _=>match u with | .int _ t=>xs.length-t.toNat|_=>0) ⟨0,zAz _,rfl,by simp,Keep.refl⟩ ?_
   rintro _ h ⟨i,hi,rfl,hno,kh⟩ k hk
   rw[zNZ,zAa,zAl]
   by_cases hlt:i<xs.length
   ·rw[if_pos (by simpa using hlt)]
    have hg:xs[i]? = some xs[i]:=zAj hlt
    have hm:xs[i]∈xs:=zAH hlt
    generalize xs[i]=x at *
    obtain⟨b,o,hix,hpt,_⟩:=(hv.keep kh λ_ _=>id).at (i:=i) (x:=mvC x) (by rw[zAq,hg];rfl)
    rw[hix .i64,zAa,zM7 hpt (hw x hm),zAa]
    refine(hd x h hm (hG h kh)).mono ?_
    rintro _ h5 ⟨rfl,k5⟩
    rw[zAl]
    cases hdx:del x.1
    ·rw[if_neg (by decide),zBV (by omega),zAa]
     refine hk _ _ ⟨i+1,by omega,rfl,λt ht=>?_,kh.trans k5⟩ (by show xs.length-(i+1)<xs.length-i;omega)
     rw[zAG,hg]at ht
     rcases zAp.1 ht with ht|ht
     ·exact hno t ht
     ·obtain rfl:t=x:=by simpa using ht
      exact hdx
    ·rw[if_pos rfl]
     exact⟨kh.trans k5,.inr ⟨i,x,rfl,hm,hdx⟩⟩
   ·rw[if_neg (by simpa using hlt)]
    rw[zAr (by omega)]at hno
    exact hk1 _ _ ⟨hno,kh⟩
  rintro _ h ⟨hno,kh⟩
  exact⟨kh,.inl ⟨rfl,hno⟩⟩
 ·rintro _ h1 ⟨k1,⟨rfl,hno⟩|⟨i,x,rfl,hm,hx⟩⟩
  ·have e:zAB .no .geq (.int .i64 (-1)) (.int .i64 0)=some (.bool false):=rfl
   rw[e,zAa]
   refine⟨?_,k1⟩
   rw[zCu.2 λx hx=>by simp[hno x hx]]
  ·rw[zAmf,zAa]
   refine⟨?_,k1⟩
   rw[zBz.2 ⟨x,hm,hx⟩]
theorem zAiP {mv:List MV}{i:Nat}:(zCi mv).take i=(mv.take i).map (·.1):=by simp[zCi,zCD]
theorem _root_.Go.X.SlE.pre {n:Nat}{P:zA1}{H:zAx}{v:Value}{xs:List (List Value)}(h:SlE n P H v xs){m:Nat}(hm:m<=xs.length):∃ u,slS n v none (some (.int .i64 (m:Nat))) none=some u/\SlE n P H u (xs.take m):=by
 by_cases hne:xs=[]
 ·subst hne
  have:m=0:=by simpa using hm
  subst this
  obtain⟨⟨a,c,rfl,hc,_⟩,_,_⟩:=h
  have hb:zNp 0 c none (some (.int .i64 0)) none=some (0,0,c):=by simp[zNp,bnd]
  have e0:((0:Nat):Int)=0:=rfl
  rw[e0]
  rcases a with _|⟨b,o,_|sp⟩
  ·exact⟨.slice none 0 c,by simp[slS,hb],SlE.nil⟩
  ·exact⟨.slice (some ⟨b,if c=0 then o else o+0*n,none⟩) 0 c,by simp[slS,hb],by simpa using SlE.nil⟩
  ·exact⟨.slice (some ⟨b,o,some sp⟩) 0 c,by simp[slS,hb],by simpa using SlE.nil⟩
 ·obtain⟨u,h1,h2⟩:=h.cut hne (lo:=0) (hi:=m) (zAz _) hm (l:=none) (r:=some (.int .i64 (m:Nat))) rfl (λc hc=>by simp[bnd];omega)
  rw[zB4]at h2
  exact⟨u,h1,h2⟩
set_option maxHeartbeats 4000000 in
theorem zAdr {P:zA1}{H:zAx}{mv:List MV}{wants:List Dep}{vh vw:Value}{b:Int}(hp:Prb P H mv wants vh vw)(hl:mv.length<=256)(hwl:wants.length<=64)(hO:zQW H) :
  zAA prg zHS [.agg (zN0 vh vw b).toArray] H λu H'=>u = .int .i64 (if zIV (zCi mv) wants b then 0 else 10)/\Keep zAK H H':=by
 apply zMs
 unfold zKz
 simp only[zB8,zBb,zBf,zAi,zAu,zAa]
 generalize hH1:H.push (.cells (zN0 vh vw b).toArray zB3 (0,0))=H1
 have k1:Keep zAK H H1:=by rw[<- hH1];exact Keep.push
 have a1:At H1 H.size (zN0 vh vw b):=by rw[<- hH1];exact At.push
 have d0:∀ h,Keep zAK H1 h->ld1 h (Ptr H.size 0)=some vh:=λh k=>(a1.keep k id).ld rfl
 have d1:∀ h,Keep zAK H1 h->ld1 h (Ptr H.size 1)=some vw:=λh k=>(a1.keep k id).ld rfl
 have d2:∀ h,Keep zAK H1 h->ld1 h (Ptr H.size 2)=some (.int .i64 b):=λh k=>(a1.keep k id).ld rfl
 have lh:=hp.h.len
 have lw:=hp.w.len
 rw[zAd]at lh lw
 have hvl:(zCi mv).length=mv.length:=by simp
 have no:∀ h,Keep zAK H h->zIV (zCi mv) wants b=false->(Value.int .i64 10 = .int .i64 (if zIV (zCi mv) wants b then 0 else 10)/\Keep zAK H h):=λh kh hf=>⟨by rw[hf];rfl,kh⟩
 have e1:zAB .no .gtr (.int .i64 (mv.length:Nat)) (.int .i64 256)=some (.bool false):=by
  rw[zAJ];simp only[zC8];rw[decide_eq_false (by omega)]
 have e2:zAB .no .gtr (.int .i64 (wants.length:Nat)) (.int .i64 64)=some (.bool false):=by
  rw[zAJ];simp only[zC8];rw[decide_eq_false (by omega)]
 rw[d0 _ Keep.refl,zAa,lh,zAa,e1,zAa]
 refine zDo rfl ?_
 rw[d1 _ Keep.refl,zAa,lw,zAa,e2,zAa]
 show Mpu (zBD (.bool false) (.bool true) (.bool false)) _
 rw[zAv,if_neg (by decide),zAa]
 refine zDo rfl ?_
 rw[d2 _ Keep.refl,zAa,ltI,zAa]
 show Mpu (zBD (.bool false) (.bool true) _) _
 rw[zAv,if_neg (by decide),zAa]
 cases q1:decide (b<0)
 rotate_left
 ·simp only[zBT,zAQ,zAc,if_false,zAv,if_true,zAa,zAl]
  refine no _ k1 ?_
  unfold zIV
  rw[decide_eq_false (show ¬ 0<=b by have:=of_decide_eq_true q1;omega)];rfl
 refine zDo rfl ?_
 rw[d2 _ Keep.refl,zAa,gtI,zAa]
 show Mpu (zBD (.bool false) (.bool true) _) _
 rw[zAv,if_neg (by decide),zAa,zAl]
 have hb0:0<=b:=by have:=of_decide_eq_false q1;omega
 cases q2:decide (b > 65536)
 rotate_left
 ·rw[if_pos rfl]
  refine no _ k1 ?_
  unfold zIV
  rw[decide_eq_true hb0,decide_eq_false (show ¬ b<=65536 by have:=of_decide_eq_true q2;omega)];rfl
 have hb1:b<=65536:=by have:=of_decide_eq_false q2;omega
 have hpo:zIV (zCi mv) wants b=((List.range mv.length).all (zP5 (zCi mv))&&zUB wants):=by
  unfold zIV
  rw[decide_eq_true hb0,decide_eq_true hb1,hvl];rfl
 rw[if_neg (by decide)]
 refine zOt (λ_ h=>(List.range mv.length).all (zP5 (zCi mv))=true/\Keep zAK H1 h) (λk hk=>?_) ?_
 ·rw[d0 _ Keep.refl,zAa,lh,zAa]
  refine zKj (λu h=>∃ i:Nat,i<=mv.length/\u = .int .i64 (i:Nat)/\(List.range i).all (zP5 (zCi mv))=true/\Keep zAK H1 h) (λu _=>match u with | .int _ t=>mv.length-t.toNat|_=>0) ⟨0,zAz _,rfl,rfl,Keep.refl⟩ ?_
  rintro _ h ⟨i,hi,rfl,hall,kh⟩ kk hkk
  rw[zNZ,zAa,zAl]
  by_cases hlt:i<mv.length
  rotate_left
  ·rw[if_neg (by simpa using hlt)]
   obtain rfl:i=mv.length:=by omega
   exact hk _ _ ⟨hall,kh⟩
  rw[if_pos (by simpa using hlt)]
  have k0h:=k1.trans kh
  obtain⟨x,hx,hgx,hxm,hmx,bx,ox,hix,hpx,_⟩:=(hp.keep k0h λ_ _=>id).at (k:=i) (by rw[hvl];exact hlt)
  rw[hix .i64,zAa,zM7 hpx hmx.wf,zAa]
  simp only[zL8,zBb]
  generalize hH12:h.push (.cells (zGN ⟨[],zEc,[],[],[]⟩ zCn zCn zCn).toArray zAe (0,0))=h12
  have k12:Keep zAK h h12:=by rw[<- hH12];exact Keep.push
  have a12:At h12 h.size (zGN ⟨[],zEc,[],[],[]⟩ zCn zCn zCn):=by rw[<- hH12];exact At.push
  obtain⟨h13,st13,a13,k13⟩:=a12.st (n:=8) (ds:=mvC x) (zBB zOr) (zBB hmx.wf) (zFP hmx)
  have gh:=kh.1
  have k113:Keep zAK H1 h13:=(kh.trans k12).fresh k13 λb hb=>by omega
  have k013:=k1.trans k113
  rw[st13,zAW,d0 _ k113,zAa]
  obtain⟨u,hu,hsu⟩:=(hp.keep k013 λ_ _=>id).h.pre (m:=i) (by rw[zAd];omega)
  have hmt:(mv.map mvC).take i=(mv.take i).map mvC:=by rw[zCD]
  rw[hmt]at hsu
  rw[hu,zAa]
  have hd:zAm2 (.func (.func zEp) #[] #[Ptr h.size 0]) (mv.take i) (λo=>decide (o.name=x.1.name)&&decide (o.ver=x.1.ver)) (λg=>Keep zAK h13 g):=λy g hy kg=>by
   refine .inl ⟨zEp,#[],#[Ptr h.size 0],rfl,by kernel_rfl,?_⟩
   show zAA prg zEp [.agg (mvC y).toArray,Ptr h.size 0] g _
   have hyw:=(hp.m y (zBw hy)).wf
   apply zLt
   unfold zJr
   simp only[zB8,zBb]
   generalize hG1:g.push (.cells (mvC y).toArray zAe (0,0))=g1
   have kg1:Keep zAK g g1:=by rw[<- hG1];exact Keep.push
   have ag:At g1 g.size (zGN y.1 y.2.1 y.2.2.1 y.2.2.2):=by rw[<- hG1];exact At.push
   have bg:At g1 h.size (zGN x.1 x.2.1 x.2.2.1 x.2.2.2):=(a13.keep kg id).keep kg1 id
   have e:=λq=>zDV (q:=q) (a:=y.1.name) (b:=x.1.name)
   rw[zBf,zAa,zAu,zDz ag,zAa,zBf,zAa,zAu,zDz bg,zAa,e,zAa]
   cases hn:decide (y.1.name=x.1.name)
   ·refine zId (by decide) ?_
    rw[zAv,if_neg (by decide),zAa,zA2]
    exact⟨rfl,kg1⟩
   ·refine zDo rfl ?_
    rw[zBf,zAa,zAi,zHu ag hyw,zAa,zBf,zAa,zAi,zHu bg hmx.wf,zAa,zAbk hyw.ver hmx.wf.ver,zAa]
    show Mpu (zBD (.bool true) _ (.bool false)) _
    rw[zAv,if_pos rfl,zAa,zBa]
    exact⟨rfl,kg1⟩
  refine zAI (zOT hsu (λy hy=>(hp.m y (zBw hy)).wf) hd (λg kg=>kg) (by rw[zA4];omega)) ?_
  rintro _ h14 ⟨rfl,k14⟩
  have htw:(mv.take i).any (λy=>decide (y.1.name=x.1.name)&&decide (y.1.ver=x.1.ver))=zX1 (zCi mv) i:=by
   unfold zX1
   rw[zAiP,List.any_map,hgx];rfl
  rw[htw]
  have a14:=a13.keep k14 id
  rw[a14.ldN (zBB hmx.wf),zAa]
  have k014:=k013.trans k14
  have hsm:=hp.sm x hxm
  have khh:Keep zAK h h14:=(k12.fresh k13 λb hb=>by omega).trans k14
  refine zAI (zR8 (hmx.keep khh λ_ _=>id) (by omega) (by omega) (hO.keep k014 λ_ h=>h.elim)) ?_
  rintro _ h15 ⟨rfl,k15⟩
  have k115:=k113.trans (k14.trans k15)
  have hha:zP5 (zCi mv) i=(zEC x.1 && !zX1 (zCi mv) i):=by unfold zP5;rw[hgx]
  have bad:zP5 (zCi mv) i=false->zIV (zCi mv) wants b=false:=λhf=>by rw[hpo,zR7 hlt hf];rfl
  rw[zA7,zAa]
  cases r1:zEC x.1
  ·refine zId (by decide) ?_
   rw[zAf,zAv,if_pos rfl,zAa,zAl,if_pos rfl]
   exact no _ (k1.trans k115) (bad (by rw[hha,r1];rfl))
  ·refine zDo rfl ?_
   show Mpu (zBD (.bool false) (.bool true) (.bool (zX1 (zCi mv) i))) _
   rw[zAv,if_neg (by decide),zAa,zAl]
   cases r2:zX1 (zCi mv) i
   ·rw[if_neg (by decide),zBV (by omega),zAa]
    exact hkk _ _ ⟨i+1,by omega,rfl,zQu hall (by rw[hha,r1,r2];rfl),k115⟩ (by show mv.length-(i+1)<mv.length-i;omega)
   ·rw[if_pos rfl]
    exact no _ (k1.trans k115) (bad (by rw[hha,r1,r2];rfl))
 rintro _ h9 ⟨hall,k9⟩
 rw[hall,zBa]at hpo
 refine zOt (λ_ h=>zUB wants=true/\Keep zAK H1 h) (λk hk=>?_) ?_
 ·rw[d1 _ k9,zAa,lw,zAa]
  refine zKj (λu h=>∃ i:Nat,i<=wants.length/\u = .int .i64 (i:Nat)/\zUB (wants.take i)=true/\Keep zAK H1 h) (λu _=>match u with | .int _ t=>wants.length-t.toNat|_=>0) ⟨0,zAz _,rfl,rfl,k9⟩ ?_
  rintro _ h ⟨i,hi,rfl,hok,kh⟩ kk hkk
  rw[zNZ,zAa,zAl]
  by_cases hlt:i<wants.length
  rotate_left
  ·rw[if_neg (by simpa using hlt)]
   rw[zAr (by omega)]at hok
   exact hk _ _ ⟨hok,kh⟩
  rw[if_pos (by simpa using hlt)]
  have hg:wants[i]? = some wants[i]:=zAj hlt
  have hdm:wants[i]∈wants:=zAH hlt
  have htk:wants.take (i+1)=wants.take i++[wants[i]]:=by rw[zAG,hg];rfl
  generalize wants[i]=d at *
  have hdw:=hp.ww d hdm
  have k0h:=k1.trans kh
  obtain⟨bd,od,hid,hpd,_⟩:=(hp.keep k0h λ_ _=>id).w.at (i:=i) (x:=zFp d) (by rw[zAq,hg];rfl)
  rw[hid .i64,zAa,hpd.agg (zEh hdw),zAa]
  simp only[zAay,zBb]
  generalize hH22:h.push (.cells (zFp zQL).toArray zAL (0,0))=h22
  have k22:Keep zAK h h22:=by rw[<- hH22];exact Keep.push
  have a22:At h22 h.size (zFp zQL):=by rw[<- hH22];exact At.push
  obtain⟨h23,st23,a23,k23⟩:=a22.st (n:=6) (ds:=zFp d) (zEh zQp) (zEh hdw) zLc
  have khh:Keep zAK h h23:=k22.fresh k23 λb hb=>by omega
  rw[st23,zAW]
  simp only[zBf,zAi,zAu,zAa]
  rw[zAdn a23,zAa]
  refine zAI (zZ3 hdw.name) ?_
  rintro _ h24 ⟨rfl,k24⟩
  have bad:(zJv d.name&&zH6 d.want)=false->zIV (zCi mv) wants b=false:=λhf=>by
   rw[hpo]
   exact zCt.2 ⟨d,hdm,by simpa using hf⟩
  rw[zA7,zAa]
  cases r1:zJv d.name
  ·refine zId (by decide) ?_
   rw[zAf,zAv,if_pos rfl,zAa,zAl,if_pos rfl]
   exact no _ (k0h.trans (khh.trans k24)) (bad (by rw[r1];rfl))
  ·refine zDo rfl ?_
   rw[zWI (a23.keep k24 id) hdw,zAa]
   have kall:=k0h.trans (khh.trans k24)
   refine zAI (zM3 hdw.want (hO.keep kall λ_ h=>h.elim)) ?_
   rintro _ h26 ⟨rfl,k26⟩
   rw[zA7,zAa]
   show Mpu (zBD (.bool false) (.bool true) (.bool (!zH6 d.want))) _
   rw[zAv,if_neg (by decide),zAa,zAl]
   cases r2:zH6 d.want
   ·rw[if_pos (show(!false)=true from rfl)]
    exact no _ (kall.trans k26) (bad (by rw[r1,r2];rfl))
   ·rw[if_neg (by decide),zBV (by omega),zAa]
    refine hkk _ _ ⟨i+1,by omega,rfl,?_,kh.trans (khh.trans (k24.trans k26))⟩ (by show wants.length-(i+1)<wants.length-i;omega)
    rw[htk]
    unfold zUB at hok ⊢
    rw[zCO,hok];simp[r1,r2]
 rintro _ h19 ⟨hw,k19⟩
 exact⟨by rw[hpo,hw];rfl,k1.trans k19⟩
theorem zAaz {α β:Type}{lt:α->α->Bool}{lt':β->β->Bool}{g:α->β}(h:∀ a b,lt' (g a) (g b)=lt a b){x:α}:∀ {l:List α},zTG lt' (g x) (l.map g)=(zTG lt x l).map g
 | []=>rfl
 | y::l=>by
  rw[zA0,zTG,zTG,h]
  split
  ·rw[zAaz h,zA0]
  ·rw[zA0,zA0]
theorem zAds {α β:Type}{lt:α->α->Bool}{lt':β->β->Bool}{g:α->β}(h:∀ a b,lt' (g a) (g b)=lt a b){l:List α}:zHP lt' (l.map g)=(zHP lt l).map g:=by
 unfold zHP
 rw[List.map_reverse]
 congr 1
 induction l using zR4 with
 | h0=>rfl
 | h1 l x ih=>rw[zAF,zA0,List.map_nil,zJf,zJf,ih,zAaz h]
theorem zAaA {lt:Nat->Nat->Bool}{l:List Nat}:zHP (λa b=>lt a.toNat b.toNat) (zs l)=zs (zHP lt l):=zAds (g:=λ(k:Nat)=>(k:Int)) λa b=>rfl
theorem zVI {P:zA1}{H:zAx}{v:Value}{xs:List Int}(hv:SlE 1 P H v (zKC xs))(hl:xs.length<=1099511627776):zAA prg zE3 [v] H λu H'=>BufE 1 (λb=>H.size<=b/\b<H'.size) H' u (zKC xs)/\Keep zAK H H':=by
 apply zKY
 unfold zIO
 obtain⟨⟨a,c,rfl,hc,hx⟩,h2,h3⟩:=hv
 cases a with
 | none =>
  have hnil:zKC xs=[]:=by
   rcases hx with h|⟨b,o,h,_⟩
   ·exact h
   ·cases h
  have e:zAB .slc .eql (.slice none (zKC xs).length c) (.slice none 0 0)=some (.bool true):=rfl
  rw[e,zAa,zAl,if_pos rfl,hnil]
  exact⟨BufE.nil,Keep.refl⟩
 | some a =>
  have e:zAB .slc .eql (.slice (some a) (zKC xs).length c) (.slice none 0 0)=some (.bool false):=rfl
  have b0:zF6 prg zIC 0 []=some #[]:=by kernel_rfl
  rw[e,zAa,zAl,if_neg (by decide),b0,zCo]
  generalize hH1:H.push (.cells #[] zIC (0,0))=H1
  have k1:Keep zAK H H1:=by rw[<- hH1];exact Keep.push
  have n1:H1[H.size]? = some (.cells #[] zIC (0,0)):=by rw[<- hH1];exact zCj
  have s1:H1.size=H.size+1:=by rw[<- hH1];simp
  have hb:BufE 1 (H.size <= ·) H1 (.slice (some ⟨H.size,0,none⟩) 0 0) []:=BufE.fresh (cs:=[]) ⟨H.size,rfl,zAh _,n1⟩ (zAh _) (by simp) (λ_ _=>by simp[zUV]) (by simp) (λx h=>by cases h) (λx h=>by cases h)
  have hv1:SlE 1 P H1 (.slice (some a) (zKC xs).length c) (zKC xs):=SlE.keep ⟨⟨_,c,rfl,hc,hx⟩,h2,h3⟩ k1 λ_ _=>id
  refine hb.app hv1 (by omega) (by simp;omega) (by show H.size<=H1.size;omega) λu h2' hu k2=>?_
  rw[zAY]at hu
  have k02:=k1.fresh k2 λb hb=>hb
  exact⟨BufE.re hu λb hb hF=>⟨hF,hb⟩,k02⟩
theorem zSV {P:zA1}{H:zAx}{v:Value}{xs:List Dep}(hv:SlE 6 P H v (xs.map zFp))(hl:xs.length<=1000000):zAA prg zCC [v] H λu H'=>BufE 6 (λb=>H.size<=b/\b<H'.size) H' u (xs.map zFp)/\Keep zAK H H':=by
 apply zF2
 unfold zEy
 obtain⟨⟨a,c,rfl,hc,hx⟩,h2,h3⟩:=hv
 cases a with
 | none =>
  have hnil:xs.map zFp=[]:=by
   rcases hx with h|⟨b,o,h,_⟩
   ·exact h
   ·cases h
  have e:zAB .slc .eql (.slice none (xs.map zFp).length c) (.slice none 0 0)=some (.bool true):=rfl
  rw[e,zAa,zAl,if_pos rfl,hnil]
  exact⟨BufE.nil,Keep.refl⟩
 | some a =>
  have e:zAB .slc .eql (.slice (some a) (xs.map zFp).length c) (.slice none 0 0)=some (.bool false):=rfl
  have b0:zF6 prg zAL 0 []=some #[]:=by kernel_rfl
  rw[e,zAa,zAl,if_neg (by decide),b0,zCo]
  generalize hH1:H.push (.cells #[] zAL (0,0))=H1
  have k1:Keep zAK H H1:=by rw[<- hH1];exact Keep.push
  have n1:H1[H.size]? = some (.cells #[] zAL (0,0)):=by rw[<- hH1];exact zCj
  have s1:H1.size=H.size+1:=by rw[<- hH1];simp
  have hb:BufE 6 (H.size <= ·) H1 (.slice (some ⟨H.size,0,none⟩) 0 0) []:=BufE.fresh (cs:=[]) ⟨H.size,rfl,zAh _,n1⟩ (zAh _) (by simp) (λ_ _=>by simp[zUV]) (by simp) (λx h=>by cases h) (λx h=>by cases h)
  have hv1:SlE 6 P H1 (.slice (some a) (xs.map zFp).length c) (xs.map zFp):=SlE.keep ⟨⟨_,c,rfl,hc,hx⟩,h2,h3⟩ k1 λ_ _=>id
  refine hb.app hv1 (by omega) (by simp;omega) (by show H.size<=H1.size;omega) λu h2' hu k2=>?_
  rw[zAY]at hu
  have k02:=k1.fresh k2 λb hb=>hb
  exact⟨BufE.re hu λb hb hF=>⟨hF,hb⟩,k02⟩
theorem zAdt {z:Array Value}{n:Nat}(h0:0<z.size)(h:z.all (·.oneCell')=true):(zSo z n).all (·.oneCell')=true:=by
 rw[zBA]at h ⊢
 intro c hc
 unfold zSo at hc
 obtain⟨i,_,rfl⟩:=Array.mem_map.1 hc
 have hlt:i % z.size<z.size:=Nat.mod_lt _ h0
 rw[getElem!_pos z (i % z.size) hlt]
 exact h _ (Array.getElem_mem hlt)
theorem zAdu {z:Array Value}{n:Nat}:(zSo z n).size=n:=by simp[zSo]
theorem _root_.Go.X.BufE.cut0 {n:Nat}{F:zA1}{H:zAx}{b c:Nat}{cs:Array Value}{T:TypeId}{f:Nat×Nat}{m:Nat}(hb:H[b]? = some (.cells cs T f))(hF:F b)(hc:c*n<=cs.size)(ht:∀ i k,zUV f i k=true) :
  ∃ u,slS n (.slice (some ⟨b,0,none⟩) m c) none (some (.int .i64 0)) none=some u/\BufE n F H u []:=by
 have hbn:zNp m c none (some (.int .i64 0)) none=some (0,0,c):=by simp[zNp,bnd]
 refine⟨.slice (some ⟨b,if c=0 then 0 else 0+0*n,none⟩) 0 c,by simp[slS,hbn],(λx h=>absurd h (by simp)),(λx h=>absurd h (by simp)),.inr ⟨b,_,c,cs,T,f,rfl,hF,zAz _,hb,?_,ht,by simp⟩⟩
 split<;>omega
theorem zAdv {H:zAx}{n:Nat}(hn:n<=1000000):zAA prg zDE [.slice none 0 0,.int .i64 (n:Nat)] H λu H'=>BufE 6 (λb=>H.size<=b/\b<H'.size) H' u []/\Keep zAK H H':=by
 apply zGj
 unfold zEB
 have e1:zAB .no .lss (.int .i64 (n:Nat)) (.int .i64 0)=some (.bool false):=zAfL
 have e2:zAB .no .sub (.int .i64 0) (.int .i64 0)=some (.int .i64 0):=by rw[zAJ];rfl
 have e3:zAB .no .sub (.int .i64 (n:Nat)) (.int .i64 0)=some (.int .i64 (n:Nat)):=by
  rw[zAJ];simp only[zC8,Int.sub_zero];rw[zCe]<;>omega
 have e4:zAB .no .gtr (.int .i64 (n:Nat)) (.int .i64 0)=some (.bool (decide (n > 0))):=zAbu (m:=0)
 have c0:zAgs (.slice none 0 0)=some (.int .i64 0):=rfl
 have l0:lenV (.slice none 0 0)=some (.int .i64 0):=rfl
 have s0:slS 6 (.slice none 0 0) none (some (.int .i64 0)) none=some (.slice none 0 0):=rfl
 refine zAcw.2 ?_
 rw[e1,zAa,zAl,if_neg (by decide)]
 refine zOt (λu h=>BufE 6 (λb=>H.size<=b/\b<h.size) h u []/\Keep zAK H h) (λk hk=>?_) λu h hh=>hh
 simp only[c0,l0,e2,e3,e4,zAa,zAl]
 by_cases h0:n > 0
 ·rw[if_pos (by simpa using h0),s0,zAa]
  refine⟨none,0,0,.i64,n,_,rfl,rfl,by omega,by omega,zAay,zAdt (by simp[zEh zQp]) (by rw[zBA];intro c hc;exact zLc c (by simpa using hc)),λh=>by omega,λ_=>⟨by omega,by omega,#[],rfl,λcap rest h1 h2 h3=>?_⟩⟩
  rw[zAi]at h1 h3 ⊢
  have hsz:(#[]++zSo (zFp zQL).toArray (n*6)++rest).size=cap*6:=by
   simp only[Array.size_append,zAdu,h3,zB7,List.length_nil]
   omega
  obtain⟨u,hu,hbu⟩:=BufE.cut0 (n:=6) (F:=λb=>H.size<=b/\b<(H.push (.cells (#[]++zSo (zFp zQL).toArray (n*6)++rest) zAL (0,0))).size) (m:=n) (c:=cap) (zCj (H:=H) (y := .cells (#[]++zSo (zFp zQL).toArray (n*6)++rest) zAL (0,0))) ⟨zAh _,by simp⟩ (by rw[hsz];exact zAh _) (λ_ _=>zLL)
  rw[hu,zAa]
  exact hk _ _ ⟨hbu,Keep.push⟩
 ·rw[if_neg (by simpa using h0)]
  exact hk _ _ ⟨BufE.nil,Keep.refl⟩
theorem zZf {P Q:zA1}{H:zAx}{q:Nat}{v w:Value}{xs ys:List Dep}(a:At H q [v,w])(hv:SlE 6 P H v (xs.map zFp))(hw:SlE 6 Q H w (ys.map zFp))(hl:xs.length+ys.length<=1000000) :
  zAA prg zDw [.slice (some ⟨q,0,none⟩) 2 2] H λu H'=>BufE 6 (λb=>H.size<=b/\b<H'.size) H' u ((xs++ys).map zFp)/\Keep zAK H H':=by
 apply zFR
 unfold zEk
 have hlv:lenV (.slice (some ⟨q,0,none⟩) 2 2)=some (.int .i64 ((2:Nat):Int)):=rfl
 have lv:=hv.len
 have lw:=hw.len
 rw[zAd]at lv lw
 have i0:ixS 1 (.slice (some ⟨q,0,none⟩) 2 2) (.int .i64 ((0:Nat):Int))=some (Ptr q 0):=by rw[zKf (by omega)]
 have i1:ixS 1 (.slice (some ⟨q,0,none⟩) 2 2) (.int .i64 ((1:Nat):Int))=some (Ptr q 1):=by rw[zKf (by omega)]
 have d0:∀ h,Keep zAK H h->ld1 h (Ptr q 0)=some v:=λh k=>(a.keep k id).ld rfl
 have d1:∀ h,Keep zAK H h->ld1 h (Ptr q 1)=some w:=λh k=>(a.keep k id).ld rfl
 have adN:∀ x y:Nat,x+y<=1000000->zAB .no .add (.int .i64 (x:Nat)) (.int .i64 (y:Nat))=some (.int .i64 ((x+y:Nat):Int)):=λx y h=>by
  rw[zAJ];simp only[zC8];rw[zCe (by omega) (by omega)];rfl
 refine zMk (λt _ h=>t = .int .i64 ((xs.length+ys.length:Nat):Int)/\H=h) (λk hk=>?_) ?_
 ·rw[hlv,zAa]
  refine zUY (λt u h=>(∃ i:Nat,i<=2/\u = .int .i64 (i:Nat)/\t = .int .i64 (((if 0<i then xs.length else 0)+(if 1<i then ys.length else 0):Nat):Int))/\H=h) (λ_ u _=>match u with | .int _ t=>2-t.toNat|_=>0) ⟨⟨0,by omega,rfl,rfl⟩,rfl⟩ ?_
  rintro _ _ h ⟨⟨i,hi,rfl,rfl⟩,rfl⟩ kk hkk
  rw[zNZ,zAa,zAl]
  have hc:i=0\/i=1\/i=2:=by omega
  rcases hc with rfl|rfl|rfl
  ·rw[if_pos (by decide)]
   refine zBT.2 ?_
   rw[i0,zAa,d0 _ Keep.refl,zAa,lv,zAa]
   rw[show((if 0<0 then xs.length else 0)+(if 1<0 then ys.length else 0):Nat)=0 from rfl,adN _ _ (by omega),zAa,zAfL,zAa]
   rw[zAl,if_neg (by decide)]
   show Mpu (zAB .no .add (.int .i64 ((0:Nat):Int)) (.int .i64 1)) _
   rw[zBV (by omega),zAa]
   exact hkk _ _ _ ⟨⟨1,by omega,rfl,by simp⟩,rfl⟩ (by show 2-1<2-0;omega)
  ·rw[if_pos (by decide)]
   refine zBT.2 ?_
   rw[i1,zAa,d1 _ Keep.refl,zAa,lw,zAa]
   rw[show((if 0<1 then xs.length else 0)+(if 1<1 then ys.length else 0):Nat)=xs.length by simp,adN _ _ (by omega),zAa,zAfL,zAa]
   rw[zAl,if_neg (by decide)]
   show Mpu (zAB .no .add (.int .i64 ((1:Nat):Int)) (.int .i64 1)) _
   rw[zBV (by omega),zAa]
   exact hkk _ _ _ ⟨⟨2,by omega,rfl,by simp⟩,rfl⟩ (by show 2-2<2-1;omega)
  ·rw[if_neg (by decide)]
   exact hk _ _ _ ⟨by simp,rfl⟩
 rintro _ _ _ ⟨rfl,rfl⟩
 refine zAI (zAdv (by omega)) ?_
 rintro u7 h7 ⟨hb7,k7⟩
 refine zMk (λt _ h=>BufE 6 (λb=>H.size<=b/\b<h.size) h t ((xs++ys).map zFp)/\Keep zAK H h) (λk hk=>?_) λt _ h hh=>hh
 rw[hlv,zAa]
 refine zUY (λt u h=>(∃ i:Nat,i<=2/\u = .int .i64 (i:Nat)/\BufE 6 (λb=>H.size<=b/\b<h.size) h t (((if 0<i then xs else [])++(if 1<i then ys else [])).map zFp))/\Keep zAK H h) (λ_ u _=>match u with | .int _ t=>2-t.toNat|_=>0) ⟨⟨0,by omega,rfl,by simpa using hb7⟩,k7⟩ ?_
 rintro t _ h ⟨⟨i,hi,rfl,hb⟩,kh⟩ kk hkk
 rw[zNZ,zAa,zAl]
 have hc:i=0\/i=1\/i=2:=by omega
 have gh:=kh.1
 rcases hc with rfl|rfl|rfl
 ·rw[if_pos (by decide),i0,zAa,d0 _ kh,zAa]
  refine(hb.mono λb hb=>hb.1).app (hv.keep kh λ_ _=>id) (by omega) (by simp;omega) (by show H.size<=h.size;omega) λt2 h2 ht k2=>?_
  rw[zBV (by omega),zAa]
  refine hkk _ _ _ ⟨⟨1,by omega,rfl,?_⟩,kh.fresh k2 λb hb=>hb⟩ (by show 2-1<2-0;omega)
  have:=BufE.re ht (G:=λb=>H.size<=b/\b<h2.size) λb hb hF=>⟨hF,hb⟩
  simpa using this
 ·rw[if_pos (by decide),i1,zAa,d1 _ kh,zAa]
  refine(hb.mono λb hb=>hb.1).app (hw.keep kh λ_ _=>id) (by omega) (by simp;omega) (by show H.size<=h.size;omega) λt2 h2 ht k2=>?_
  rw[zBV (by omega),zAa]
  refine hkk _ _ _ ⟨⟨2,by omega,rfl,?_⟩,kh.fresh k2 λb hb=>hb⟩ (by show 2-2<2-1;omega)
  have:=BufE.re ht (G:=λb=>H.size<=b/\b<h2.size) λb hb hF=>⟨hF,hb⟩
  simpa using this
 ·rw[if_neg (by decide)]
  exact hk _ _ _ ⟨by simpa using hb,kh⟩
theorem zAdw {P:zA1}{H:zAx}{mv:List MV}{wants:List Dep}{vh vw:Value}{b:Int}{q i j:Nat}(hp:Prb P H mv wants vh vw)(aq:At H q (zN0 vh vw b))(hi:i<(zCi mv).length)(hj:j<(zCi mv).length) :
  zAA prg zD8 [.int .i64 (i:Nat),.int .i64 (j:Nat),Ptr q 0] H λu H'=>u = .int .i64 (zAet (gM (zCi mv) j).ver (gM (zCi mv) i).ver)/\Keep zAK H H':=by
 apply zK0
 unfold zIQ
 obtain⟨x,hx,hgx,hxm,hmx,bx,ox,hix,hpx,_⟩:=hp.at hi
 obtain⟨y,hy,hgy,hym,hmy,by',oy,hiy,hpy,_⟩:=hp.at hj
 have d0:ld1 H (Ptr q 0)=some vh:=aq.ld rfl
 simp only[zBf,zAu,zAa,d0,hix .i64,hiy .i64,zXY hpx hmx.wf,zXY hpy hmy.wf]
 rw[hgx,hgy]
 exact zAI (zAka hmy.wf.ver hmx.wf.ver) λ_ h hR=>hR
theorem zZg {H:zAx}{a:List UInt8}:zAA prg zE5 [str a] H λu H'=>u = .bool false/\H=H':=by
 apply zNS
 unfold zM1
 rw[zWr,zAa]
 exact⟨by simp,rfl⟩
theorem zX2 {H:zAx}{a b:List UInt8}:zAA prg zIp [str a,str b] H λu H'=>u = .int .i64 (zJH a b)/\H=H':=by
 apply zMZ
 unfold zLv
 refine zAI zZg ?_
 rintro _ _ ⟨rfl,rfl⟩
 refine zAI zZg ?_
 rintro _ _ ⟨rfl,rfl⟩
 have e1:zAB .no .lss (str a) (str b)=some (.bool (less a b)):=by
  rw[zGf];simp only[zTt,zLg]
 have e2:zAB .no .gtr (str a) (str b)=some (.bool !(less a b || (a == b))):=by
  rw[zGf];simp only[zTt,zLg]
 rw[zAl,if_neg (by decide),zAl,if_neg (by decide),e1,zAa,zAl]
 cases h1:less a b
 ·rw[if_neg (by decide),e2,zAa,zAl,h1,zCs]
  have hz:=zFb.zero a b
  have ht:=zFb.three a b
  by_cases hab:a=b
  ·have:(a == b)=true:=by simpa using hab
   rw[this,if_neg (by decide)]
   exact⟨by rw[hz.2 hab],rfl⟩
  ·have:(a == b)=false:=by simpa using hab
   rw[this,if_pos (by rfl)]
   have hne:zJH a b≠0:=λe=>hab (hz.1 e)
   have hn1:zJH a b ≠ -1:=λe=>by
    unfold zJH at e
    rw[if_neg (by rw[h1];decide)]at e
    split at e<;>omega
   refine⟨?_,rfl⟩
   rcases ht with h|h|h
   ·exact absurd h hn1
   ·exact absurd h hne
   ·rw[h]
 ·rw[if_pos rfl]
  exact⟨by unfold zJH;rw[if_pos h1],rfl⟩
theorem zAdx {P:zA1}{H:zAx}{mv:List MV}{wants:List Dep}{vh vw:Value}{b:Int}{q i j:Nat}(hp:Prb P H mv wants vh vw)(aq:At H q (zN0 vh vw b))(hi:i<(zCi mv).length)(hj:j<(zCi mv).length) :
  zAA prg zD9 [.int .i64 (i:Nat),.int .i64 (j:Nat),Ptr q 0] H λu H'=>u = .int .i64 (zJH (gM (zCi mv) i).name (gM (zCi mv) j).name)/\H=H':=by
 apply zK1
 unfold zIR
 obtain⟨x,hx,hgx,hxm,hmx,bx,ox,hix,hpx,_⟩:=hp.at hi
 obtain⟨y,hy,hgy,hym,hmy,by',oy,hiy,hpy,_⟩:=hp.at hj
 have d0:ld1 H (Ptr q 0)=some vh:=aq.ld rfl
 simp only[zBf,zAu,zAa,d0,hix .i64,hiy .i64,zZd hpx,zZd hpy]
 rw[hgx,hgy]
 exact zAI zX2 λ_ h hR=>hR
def zX3 (xs:List Int)(lt:Int->Int->Bool):Prop:=∀ (G:zAx->Prop) (F:zA1) (H:zAx) (v fv:Value),BufE 1 F H v (zKC xs)->zAjA fv xs lt G->(∀ h,Keep F H h->G h)->(∀ b,F b->b<H.size)->zAA prg zDq [v,fv] H λ_ H'=>BufE 1 F H' v (zKC (zHP lt xs))/\Keep F H H'
def zAdy (hv:List Man)(x y:Int):Bool:=zAg2 hv x.toNat y.toNat
def zWJ (hv:List Man)(x y:Int):Bool:=zAkx hv x.toNat y.toNat
theorem zAdz {P Q:zA1}{H:zAx}{mv:List MV}{wants:List Dep}{vh vw vc:Value}{b:Int}{ch:List Nat}(hp:Prb P H mv wants vh vw)(hP:∀ b,P b->b<H.size)(hc:SlE 1 Q H vc (zKC (zs ch)))(hk:∀ k∈ch,k<(zCi mv).length)(hl:ch.length<=1000)(hS:zX3 (zs ch) (zAdy (zCi mv))) :
  zAA prg zHm [.agg (zN0 vh vw b).toArray,vc] H λu H'=>BufE 1 (λb=>H.size<=b/\b<H'.size) H' u (zKC (zs (zG8 (zCi mv) ch)))/\Keep zAK H H':=by
 apply zLU
 unfold zKa
 simp only[zB8,zBb]
 generalize hH1:H.push (.cells (zN0 vh vw b).toArray zB3 (0,0))=H1
 have k1:Keep zAK H H1:=by rw[<- hH1];exact Keep.push
 have a1:At H1 H.size (zN0 vh vw b):=by rw[<- hH1];exact At.push
 have s1:H1.size=H.size+1:=by rw[<- hH1];simp
 refine zAI (zVI (hc.keep k1 λ_ _=>id) (by rw[zQY];omega)) ?_
 rintro v h2 ⟨hv,k2⟩
 have k02:=k1.trans k2
 have a2:=a1.keep k2 id
 have hv':BufE 1 (λb=>H1.size<=b/\b<h2.size) h2 v (zKC (zs ch)):=hv
 have hcmp:zAjA (.func (.func zD9) #[] #[Ptr H.size 0]) (zs ch) (zAdy (zCi mv)) (λh=>Keep (λb=>H1.size<=b/\b<h2.size) h2 h):=λx y h hx hy kh=>by
  obtain⟨i,hi,rfl⟩:=zQX hx
  obtain⟨j,hj,rfl⟩:=zQX hy
  refine .inl ⟨zD9,#[],#[Ptr H.size 0],rfl,by kernel_rfl,?_⟩
  have k0h:Keep (λb=>H1.size<=b) H h:=(k02.mono λ_ _ h=>h.elim).trans (kh.mono λ_ _ h=>h.1)
  refine zAA.mono (zAdx (b:=b) (hp.keep k0h λb hb hS=>by have:=hP b hb;omega) (a2.keep kh (show ¬ (H1.size<=H.size/\H.size<h2.size) by omega)) (hk i hi) (hk j hj)) ?_
  rintro _ h' ⟨rfl,rfl⟩
  exact⟨⟨_,rfl,rfl⟩,Keep.refl⟩
 refine zAI (hS _ _ _ _ _ hv' hcmp (λh k=>k) λb hb=>hb.2) ?_
 rintro _ h3 ⟨hs,k3⟩
 have hs:BufE 1 (λb=>H1.size<=b/\b<h2.size) h3 v (zKC (zs (zG8 (zCi mv) ch))):=by
  unfold zG8;rw[<- zAaA];exact hs
 exact⟨BufE.re hs λb hb hF=>⟨by have:=hF.1;omega,hb⟩,k02.fresh k3 λb hb=>by have:=hb.1;omega⟩
theorem zAg4 {n:Int}:zF6 prg zIC 1 [(0,.int .i64 n)]=some #[.int .i64 n]:=by kernel_rfl
theorem zAdA {hv:List Man}{d:Dep}{i:Nat}(h:i<hv.length):((List.range (i+1)).filter λk=>zQs d (gM hv k))=((List.range i).filter λk=>zQs d (gM hv k))++(if zQs d (gM hv i) then [i] else []):=by
 rw[List.range_succ,List.filter_append,zCd];rfl
set_option maxHeartbeats 2000000 in
theorem zAdB {P:zA1}{H:zAx}{mv:List MV}{wants:List Dep}{vh vw:Value}{b:Int}{d:Dep}(hp:Prb P H mv wants vh vw)(hP:∀ b,P b->b<H.size)(hd:d.wf)(hl:mv.length<=1000)(hO:zQW H)(hS:zX3 (zs (zST (zCi mv) d)) (zWJ (zCi mv))) :
  zAA prg zHl [.agg (zN0 vh vw b).toArray,.agg (zFp d).toArray] H λu H'=>BufE 1 (λb=>H.size<=b/\b<H'.size) H' u (zKC (zs (zP3 (zCi mv) d)))/\Keep zAK H H':=by
 apply zLT
 unfold zJ9
 simp only[zB8,zBb]
 generalize hH1:H.push (.cells (zN0 vh vw b).toArray zB3 (0,0))=H1
 have k1:Keep zAK H H1:=by rw[<- hH1];exact Keep.push
 have a1:At H1 H.size (zN0 vh vw b):=by rw[<- hH1];exact At.push
 have s1:H1.size=H.size+1:=by rw[<- hH1];simp
 generalize hH2:H1.push (.cells (zFp d).toArray zAL (0,0))=H2
 have k2:Keep zAK H1 H2:=by rw[<- hH2];exact Keep.push
 have a2:At H2 H1.size (zFp d):=by rw[<- hH2];exact At.push
 have s2:H2.size=H1.size+1:=by rw[<- hH2];simp
 have k02:=k1.trans k2
 have b2:=a1.keep k2 id
 have lh:=hp.h.len
 rw[zAd]at lh
 have hvl:(zCi mv).length=mv.length:=by simp
 refine zMk (λt _ h=>BufE 1 (λb=>H2.size<=b) h t (zKC (zs (zST (zCi mv) d)))/\Keep zAK H2 h) (λk hk=>?_) ?_
 ·have d0:ld1 H2 (Ptr H.size 0)=some vh:=b2.ld rfl
  rw[zBf,zAa,zAu,d0,zAa,lh,zAa]
  refine zUY (λt u h=>(∃ i:Nat,i<=mv.length/\u = .int .i64 (i:Nat)/\BufE 1 (λb=>H2.size<=b) h t (zKC (zs ((List.range i).filter λk=>zQs d (gM (zCi mv) k)))))/\Keep zAK H2 h) (λ_ u _=>match u with | .int _ t=>mv.length-t.toNat|_=>0) ⟨⟨0,zAz _,rfl,BufE.nil⟩,Keep.refl⟩ ?_
  rintro t _ h ⟨⟨i,hi,rfl,hb⟩,kh⟩ kk hkk
  rw[zNZ,zAa,zAl]
  by_cases hlt:i<mv.length
  rotate_left
  ·rw[if_neg (by simpa using hlt)]
   obtain rfl:i=mv.length:=by omega
   refine hk _ _ _ ⟨?_,kh⟩
   unfold zST
   rw[hvl];exact hb
  rw[if_pos (by simpa using hlt)]
  have gh:=kh.1
  have k0h:=k02.trans kh
  obtain⟨x,hx,hgx,hxm,hmx,bx,ox,hix,hpx,_⟩:=(hp.keep k0h λ_ _=>id).at (k:=i) (by rw[hvl];exact hlt)
  have htk:=zAdA (hv:=zCi mv) (d:=d) (i:=i) (by rw[hvl];exact hlt)
  refine zMk (λt2 _ h'=>BufE 1 (λb=>H2.size<=b) h' t2 (zKC (zs ((List.range (i+1)).filter λk=>zQs d (gM (zCi mv) k))))/\Keep zAK H2 h') (λk7 hk7=>?_) ?_
  rotate_left
  ·rintro t2 _ h' ⟨hb',kh'⟩
   rw[zBV (by omega),zAa]
   exact hkk _ _ _ ⟨⟨i+1,by omega,rfl,hb'⟩,kh'⟩ (by show mv.length-(i+1)<mv.length-i;omega)
  rw[hix .i64,zAa,zM7 hpx hmx.wf,zAa]
  simp only[zL8,zBb]
  generalize hH9:h.push (.cells (zGN ⟨[],zEc,[],[],[]⟩ zCn zCn zCn).toArray zAe (0,0))=h9
  have k9:Keep zAK h h9:=by rw[<- hH9];exact Keep.push
  have a9:At h9 h.size (zGN ⟨[],zEc,[],[],[]⟩ zCn zCn zCn):=by rw[<- hH9];exact At.push
  obtain⟨h10,st10,a10,k10⟩:=a9.st (n:=8) (ds:=mvC x) (zBB zOr) (zBB hmx.wf) (zFP hmx)
  have khh:Keep zAK h h10:=k9.fresh k10 λb hb=>by omega
  have a10':At h10 h.size (zGN x.1 x.2.1 x.2.2.1 x.2.2.2):=a10
  have hb10:=hb.keep khh λ_ _=>id
  have c10:=(a2.keep kh id).keep khh id
  have e:=λq=>zDV (q:=q) (a:=x.1.name) (b:=d.name)
  rw[st10,zAW]
  simp only[zBf,zAi,zAu,zAa]
  rw[zDz a10',zAa,zAdn c10,zAa,e,zAa]
  have no:∀ h',Keep zAK h10 h'->zQs d x.1=false->BufE 1 (λb=>H2.size<=b) h' t (zKC (zs ((List.range (i+1)).filter λk=>zQs d (gM (zCi mv) k))))/\Keep zAK H2 h':=λh' k' hf=>by
   refine⟨?_,(kh.trans khh).trans k'⟩
   rw[htk,hgx,hf]
   simpa using hb10.keep k' λ_ _=>id
  cases hn:decide (x.1.name=d.name)
  ·refine zId (by decide) ?_
   rw[zAv,if_neg (by decide),zAa,zAl,if_neg (by decide)]
   exact hk7 _ _ _ (no _ Keep.refl (by unfold zQs;rw[hn];rfl))
  ·refine zDo rfl ?_
   rw[zWI c10 hd,zAa,zHu a10' hmx.wf,zAa]
   refine zAI (zSQ hd.want hmx.wf.ver (hO.keep (k0h.trans khh) λ_ h=>h.elim)) ?_
   rintro _ h12 ⟨rfl,k12⟩
   have hfm:zQs d x.1=(zH6 d.want&&zG5 x.1.ver&&zYZ d.want.op d.want.ver x.1.ver):=by unfold zQs;rw[hn];rfl
   rw[zAv,if_pos rfl,zAa,zAl]
   cases hf:(zH6 d.want&&zG5 x.1.ver&&zYZ d.want.op d.want.ver x.1.ver)
   ·rw[if_neg (by decide)]
    exact hk7 _ _ _ (no _ k12 (by rw[hfm,hf]))
   ·rw[if_pos rfl,zAg4,zCo]
    generalize hH14:h12.push (.cells #[.int .i64 (i:Nat)] zIC (0,0))=h14
    have k14:Keep zAK h12 h14:=by rw[<- hH14];exact Keep.push
    have hx14:SlE 1 (· = h12.size) h14 (.slice (some ⟨h12.size,0,none⟩) 1 1) (zKC [(i:Int)]) :=
     ⟨⟨_,1,rfl,zAh _,.inr ⟨h12.size,0,rfl,rfl,by rw[zMw,<- hH14];exact Pt.of zCj⟩⟩,zQi,zPH λv hv=>by simp at hv;subst hv;rfl⟩
    have g12:=k12.1
    have g14:=k14.1
    have ghh:=khh.1
    have hfl:=zBi (λk=>zQs d (gM (zCi mv) k)) (List.range i)
    rw[List.length_range]at hfl
    refine((hb10.keep k12 λ_ _=>id).keep k14 λ_ _=>id).app hx14 (by omega) (by rw[zNC,zNC,zQY];simp;omega) (by show H2.size<=h14.size;omega) λt3 h15 ht k15=>?_
    refine hk7 _ _ _ ⟨?_,(((kh.trans khh).trans k12).trans k14).fresh k15 λb hb=>hb⟩
    have:zKC (zs ((List.range (i+1)).filter λk=>zQs d (gM (zCi mv) k)))=zKC (zs ((List.range i).filter λk=>zQs d (gM (zCi mv) k)))++zKC [(i:Int)]:=by
     rw[htk,hgx,hfm,hf];simp[zs,zHL]
    rw[this];exact ht
 rintro t _ h ⟨hb,kh⟩
 have hmem:∀ k∈zST (zCi mv) d,k<(zCi mv).length:=λk hk=>by
  unfold zST at hk
  exact zBC.1 (zBd.1 hk).1
 have g02:=k02.1
 have hb:BufE 1 (λb=>H2.size<=b/\b<h.size) h t (zKC (zs (zST (zCi mv) d))):=BufE.re hb λb hb hF=>⟨hF,hb⟩
 have hcmp:zAjA (.func (.func zD8) #[] #[Ptr H.size 0]) (zs (zST (zCi mv) d)) (zWJ (zCi mv)) (λg=>Keep (λb=>H2.size<=b/\b<h.size) h g):=λx y g hx hy kg=>by
  obtain⟨i,hi,rfl⟩:=zQX hx
  obtain⟨j,hj,rfl⟩:=zQX hy
  refine .inl ⟨zD8,#[],#[Ptr H.size 0],rfl,by kernel_rfl,?_⟩
  have k0g:Keep (λb=>H2.size<=b) H g:=((k02.trans kh).mono λ_ _ h=>h.elim).trans (kg.mono λ_ _ h=>h.1)
  refine zAA.mono (zAdw (b:=b) (hp.keep k0g λb hb hS=>by have:=hP b hb;omega) ((b2.keep kh id).keep kg (show ¬ (H2.size<=H.size/\H.size<h.size) by omega)) (hmem i hi) (hmem j hj)) ?_
  rintro _ h' ⟨rfl,k'⟩
  exact⟨⟨_,rfl,rfl⟩,k'⟩
 refine zAI (hS _ _ _ _ _ hb hcmp (λh k=>k) λb hb=>hb.2) ?_
 rintro _ h3 ⟨hs,k3⟩
 have hs:BufE 1 (λb=>H2.size<=b/\b<h.size) h3 t (zKC (zs (zP3 (zCi mv) d))):=by
  unfold zP3;rw[<- zAaA];exact hs
 have g2:=kh.1
 exact⟨BufE.re hs λb hb hF=>⟨by have:=hF.1;omega,hb⟩,(k02.trans kh).fresh k3 λb hb=>by have:=hb.1;omega⟩
end Go.Proofs.YticdfkoncnnmmaaGreatDoor
