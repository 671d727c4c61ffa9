import Derived.Test.YticdfkoncnnmmaaGreatDoorG8
import Derived.Test.YticdfkoncnnmmaaGreatDoorG6
set_option linter.unusedSimpArgs false
set_option linter.unusedVariables false
set_option maxRecDepth 100000
namespace Go.Proofs.YticdfkoncnnmmaaGreatDoor
open Go.X Go.X.Diff
theorem zDu {b w:Bool}{yes:(zAn)->Prop}{no:(zAn)->Prop}{rest:zAn}(h:b=w)(hy:yes rest):J1 (λk=>Mif (.bool b) w (yes k) (no k)) rest:=zBN.2 (zAL.2 (by rw[if_pos h];exact hy))
theorem zJw {b w:Bool}{yes:(zAn)->Prop}{H:zAw}{rest:zAn}(h:b≠w)(hy:rest undef H):J1 (λk=>Mif (.bool b) w (yes k) (k undef H)) rest:=zBN.2 (zAL.2 (by rw[if_neg h];exact hy))
abbrev zJK (l:List Int):List (List Value):=zHn (l.map (Value.int .i64))
abbrev MV:=Man×Value×Value×Value
def mvC (x:MV):List Value:=zGU x.1 x.2.1 x.2.2.1 x.2.2.2
abbrev zCq (mv:List MV):List Man:=mv.map (·.1)
def zM4 (vh vw:Value)(b:Int):List Value:=[vh,vw,.int .i64 b]
structure Prb (P:zAY)(H:zAw)(mv:List MV)(wants:List Dep)(vh vw:Value):Prop where
 h:SlE 8 P H vh (mv.map mvC)
 m:∀ x∈mv,zL6 P H x.1 x.2.1 x.2.2.1 x.2.2.2
 w:SlE 6 P H vw (wants.map zE7)
 ww:∀ d∈wants,d.wf
 sm:∀ x∈mv,x.1.deps.length<=1000/\x.1.conf.length<=1000
theorem Prb.keep {P S:zAY}{H H':zAw}{mv:List MV}{wants:List Dep}{vh vw:Value}(h:Prb P H mv wants vh vw)(k:Keep S H H')(hs:∀ b,P b->¬ S b):Prb P H' mv wants vh vw :=
 ⟨h.h.keep k hs,λx hx=>(h.m x hx).keep k hs,h.w.keep k hs,h.ww,h.sm⟩
theorem zAbk {mv:List MV}{k:Nat}{x:MV}(h:mv[k]? = some x):gM (zCq mv) k=x.1:=by
 unfold gM
 exact zS2 (by rw[zAq,h];rfl)
theorem Prb.at {P:zAY}{H:zAw}{mv:List MV}{wants:List Dep}{vh vw:Value}(h:Prb P H mv wants vh vw){k:Nat}(hk:k<(zCq mv).length):∃ x,mv[k]? = some x/\gM (zCq mv) k=x.1/\x∈mv/\zL6 P H x.1 x.2.1 x.2.2.1 x.2.2.2/\∃ b o,(∀ q,ixS 8 vh (.int q k)=some (Ptr b o))/\Pt H b o (mvC x)/\P b:=by
 rw[zAf]at hk
 have hg:mv[k]? = some mv[k]:=zAj hk
 have hm:mv[k]∈mv:=zAE hk
 exact⟨mv[k],hg,zAbk hg,hm,h.m _ hm,h.h.at (x:=mvC mv[k]) (by rw[zAq,hg];rfl)⟩
theorem zXc {h:zAw}{b o:Nat}{x:MV}(p:Pt h b o (mvC x)):ld1 h (Ptr b o)=some (str x.1.name):=p.cell0 rfl
theorem zVZ {h:zAw}{b o:Nat}{x:MV}(p:Pt h b o (mvC x))(hw:x.1.wf):ldN 4 h (Ptr b (o+1))=some (.agg (zEt x.1.ver).toArray):=by
 have e:mvC x=[str x.1.name]++zEt x.1.ver++[x.2.1,x.2.2.1,x.2.2.2]:=by simp[mvC,zGU]
 rw[e]at p
 exact(p.mid (A:=[str x.1.name]) (B:=zEt x.1.ver) (o':=o+1) rfl).agg (zDE hw.ver)
theorem zMD {h:zAw}{b o:Nat}{x:MV}(p:Pt h b o (mvC x))(hw:x.1.wf):ldN 8 h (Ptr b o)=some (.agg (mvC x).toArray):=p.agg (zBI hw)
def zAjg (fv:Value)(xs:List Int)(del:Int->Bool)(G:zAw->Prop):Prop:=∀ (n:Int) (h:zAw),n∈xs->G h->zDz prg fv [.int .i64 n] h λu h'=>u = .bool (del n)/\Keep zAK h h'
theorem zT4 {G:zAw->Prop}{P:zAY}{H:zAw}{v fv:Value}{xs:List Int}{del:Int->Bool}(hv:SlE 1 P H v (zJK xs))(hd:zAjg fv xs del G)(hG:∀ h,Keep zAK H h->G h)(hl:xs.length<=1099511627776) :
  zAA prg zDT [v,fv] H λu H'=>Keep zAK H H'/\((u = .int .i64 (-1)/\∀ x∈xs,del x=false)\/∃ i:Nat,u = .int .i64 (i:Nat)/\(∀ x∈xs.take i,del x=false)/\∃ x,xs[i]? = some x/\del x=true):=by
 apply zIA
 unfold zGK
 have hlen:=hv.len
 rw[zSH,zAf]at hlen
 refine zOd (λ_ h=>(∀ x∈xs,del x=false)/\Keep zAK H h) (λk1 hk1=>?_) ?_
 ·rw[hlen,zAa]
  refine zKl (λu h=>∃ i:Nat,i<=xs.length/\u = .int .i64 (i:Nat)/\(∀ x∈xs.take i,del x=false)/\Keep zAK H h) (λu _=>match u with | .int _ t=>xs.length-t.toNat|_=>0) ⟨0,zAz _,rfl,by simp,Keep.refl⟩ ?_
  rintro _ h ⟨i,hi,rfl,hno,kh⟩ k hk
  rw[zOn,zAa,zAl]
  by_cases hlt:i<xs.length
  ·rw[if_pos (by simpa using hlt)]
   have hg:xs[i]? = some xs[i]:=zAj hlt
   have hm:xs[i]∈xs:=zAE hlt
   generalize xs[i]=x at *
   obtain⟨b,o,hix,hpt,_⟩:=(hv.keep kh λ_ _=>id).at (i:=i) (x:=[.int .i64 x]) (zNc (by rw[zAq,hg];rfl))
   rw[hix .i64,zAa,hpt.cell0 rfl,zAa]
   refine(hd x h hm (hG h kh)).mono ?_
   rintro _ h5 ⟨rfl,k5⟩
   rw[zAl]
   cases hdx:del x
   ·rw[if_neg (by decide),zBU (by omega),zAa]
    refine hk _ _ ⟨i+1,by omega,rfl,λt ht=>?_,kh.trans k5⟩ (by show xs.length-(i+1)<xs.length-i;omega)
    rw[zAJ,hg]at ht
    rcases zAr.1 ht with ht|ht
    ·exact hno t ht
    ·obtain rfl:t=x:=by simpa using ht
     exact hdx
   ·rw[if_pos rfl]
    exact⟨kh.trans k5,.inr ⟨i,rfl,hno,x,hg,hdx⟩⟩
  ·rw[if_neg (by simpa using hlt)]
   rw[zAs (by omega)]at hno
   exact hk1 _ _ ⟨hno,kh⟩
 rintro _ h ⟨hno,kh⟩
 exact⟨kh,.inl ⟨rfl,hno⟩⟩
theorem zAjZ {n:Nat}:zAB .no .geq (.int .i64 (n:Nat)) (.int .i64 0)=some (.bool true):=by
 rw[zAG];simp only[zC9];rw[decide_eq_true (by omega)]
theorem zAdH {n:Nat}:zAB .no .lss (.int .i64 (n:Nat)) (.int .i64 0)=some (.bool false):=by
 rw[zAG];simp only[zC9];rw[decide_eq_false (by omega)]
theorem zUT {G:zAw->Prop}{P:zAY}{H:zAw}{v fv:Value}{xs:List Int}{del:Int->Bool}(hv:SlE 1 P H v (zJK xs))(hd:zAjg fv xs del G)(hG:∀ h,Keep zAK H h->G h)(hl:xs.length<=1099511627776) :
  zAA prg zEp [v,fv] H λu H'=>u = .bool (xs.any del)/\Keep zAK H H':=by
 apply zHy
 unfold zFS
 refine zAM (zT4 hv hd hG hl) ?_
 rintro _ h1 ⟨k1,⟨rfl,hno⟩|⟨i,rfl,hno,x,hg,hx⟩⟩
 ·have e:zAB .no .geq (.int .i64 (-1)) (.int .i64 0)=some (.bool false):=rfl
  rw[e,zAa]
  refine⟨?_,k1⟩
  rw[zBM.2 λx hx=>by simp[hno x hx]]
 ·rw[zAjZ,zAa]
  refine⟨?_,k1⟩
  rw[zBp.2 ⟨x,zAC hg,hx⟩]
theorem zAj0 {P:zAY}{H:zAw}{mv:List MV}{wants:List Dep}{vh vw:Value}{b:Int}{q r:Nat}{nm:List UInt8}{k:Nat}(hp:Prb P H mv wants vh vw)(aq:At H q (zM4 vh vw b))(ar:At H r [str nm])(hk:k<(zCq mv).length) :
  zAA prg zES [.int .i64 (k:Nat),Ptr q 0,Ptr r 0] H λu H'=>u = .bool (decide ((gM (zCq mv) k).name=nm))/\Keep zAK H H':=by
 apply zLZ
 unfold zKA
 obtain⟨x,hx,hgx,hxm,hmv,bb,o,hix,hpt,_⟩:=hp.at hk
 have d0:ld1 H (Ptr q 0)=some vh:=aq.ld rfl
 have dr:ld1 H (Ptr r 0)=some (str nm):=ar.ld rfl
 rw[zBk,zAa,zAu,d0,zAa,hix .i64,zAa,zBk,zAa,zAu,zXc hpt,zAa,dr,zAa,zDx,zAa,hgx]
 exact⟨rfl,Keep.refl⟩
theorem zPD {ch:List Nat}{n:Int}(h:n∈zs ch):∃ k∈ch,n=(k:Int):=by
 unfold zs at h
 obtain⟨k,hk,rfl⟩:=zAo.1 h
 exact⟨k,hk,rfl⟩
theorem zAij {ch:List Nat}{i k:Nat}(h:ch[i]? = some k):(zs ch)[i]? = some (k:Int):=by unfold zs;rw[zAq,h];rfl
theorem zPE {ch:List Nat}:(zs ch).length=ch.length:=by simp[zs]
theorem zAgw {ch:List Nat}{i:Nat}{n:Int}(h:(zs ch)[i]? = some n):∃ k,ch[i]? = some k/\n=(k:Int):=by
 unfold zs at h
 rw[zAq]at h
 obtain⟨k,h1,h2⟩:=zBu.1 h
 exact⟨k,h1,h2.symm⟩
theorem zAgx {ch:List Nat}{i:Nat}:(zs ch).take i=zs (ch.take i):=by simp[zs,zCs]
theorem zAbl {ch:List Nat}{k:Nat}(h:k∈ch):(k:Int)∈zs ch:=zAo.2 ⟨k,h,rfl⟩
theorem zAlb {P Q:zAY}{H:zAw}{mv:List MV}{wants:List Dep}{vh vw vc:Value}{b:Int}{nm:List UInt8}{ch:List Nat}(hp:Prb P H mv wants vh vw)(hc:SlE 1 Q H vc (zJK (zs ch)))(hk:∀ k∈ch,k<(zCq mv).length)(hl:ch.length<=1099511627776) :
  zAA prg zIY [.agg (zM4 vh vw b).toArray,vc,str nm] H λu H'=>u=(match ofF (zCq mv) ch nm with|some k => .tuple #[.int .i64 (k:Nat),.bool true]|none => .tuple #[.int .i64 0,.bool false])/\Keep zAK H H':=by
 apply zMU
 unfold zLW
 simp only[zB7,zBd]
 generalize hH1:H.push (.cells (zM4 vh vw b).toArray zBQ (0,0))=H1
 have k1:Keep zAK H H1:=by rw[<- hH1];exact Keep.push
 have a1:At H1 H.size (zM4 vh vw b):=by rw[<- hH1];exact At.push
 generalize hH2:H1.push (.cells (Value.cells (str nm)) zBW (0,0))=H2
 have k2:Keep zAK H1 H2:=by rw[<- hH2];exact Keep.push
 have a2:At H2 H1.size [str nm]:=by rw[<- hH2];exact At.push
 have k02:=k1.trans k2
 let del:Int->Bool:=λn=>decide ((gM (zCq mv) n.toNat).name=nm)
 have hd:zAjg (.func (.func zES) #[] #[Ptr H.size 0,Ptr H1.size 0]) (zs ch) del (λh=>Keep zAK H2 h):=λn h hn kh=>by
  obtain⟨k,hkm,rfl⟩:=zPD hn
  refine .inl ⟨zES,#[],#[Ptr H.size 0,Ptr H1.size 0],rfl,by kernel_rfl,?_⟩
  exact zAj0 (hp.keep (k02.trans kh) λ_ _=>id) ((a1.keep k2 id).keep kh id) (a2.keep kh id) (hk k hkm)
 refine zAM (zT4 (hc.keep k02 λ_ _=>id) hd (λh kh=>kh) (by rw[zPE];exact hl)) ?_
 rintro _ h3 ⟨k3,⟨rfl,hno⟩|⟨i,rfl,hno,x,hg,hx⟩⟩
 ·have e:zAB .no .lss (.int .i64 (-1)) (.int .i64 0)=some (.bool true):=rfl
  have:ofF (zCq mv) ch nm=none:=zCV.2 λk hk=>by
   have:=hno _ (zAbl hk)
   simpa [del] using this
  rw[e,zAa,zAl,if_pos rfl,this]
  exact⟨rfl,k02.trans k3⟩
 ·obtain⟨k,hgk,rfl⟩:=zAgw hg
  have:ofF (zCq mv) ch nm=some k:=zAa1 (i:=i) (λp hp=>by
   have:=hno (p:Int) (by rw[zAgx];exact zAbl hp)
   simpa [del] using this) hgk (by simpa [del] using hx)
  obtain⟨bb,o,hix,hpt,_⟩:=((hc.keep k02 λ_ _=>id).keep k3 λ_ _=>id).at (i:=i) (x:=[.int .i64 (k:Int)]) (zNc (by rw[zAq,hg];rfl))
  rw[zAdH,zAa,zAl,if_neg (by decide),hix .i64,zAa,hpt.cell0 rfl,zAa,this]
  exact⟨rfl,k02.trans k3⟩
def zAkI (fv:Value)(xs:List Dep)(del:Dep->Bool)(G:zAw->Prop):Prop:=∀ (n:Dep) (h:zAw),n∈xs->G h->zDz prg fv [.agg (zE7 n).toArray] h λu h'=>u = .bool (del n)/\Keep zAK h h'
theorem zQL {G:zAw->Prop}{P:zAY}{H:zAw}{v fv:Value}{xs:List Dep}{del:Dep->Bool}(hv:SlE 6 P H v (xs.map zE7))(hw:∀ d∈xs,d.wf)(hd:zAkI fv xs del G)(hG:∀ h,Keep zAK H h->G h)(hl:xs.length<=1099511627776) :
  zAA prg zCv [v,fv] H λu H'=>u = .bool (xs.any del)/\Keep zAK H H':=by
 apply zEG
 unfold zDv
 refine zAM (R:=λu H'=>Keep zAK H H'/\((u = .int .i64 (-1)/\∀ x∈xs,del x=false)\/∃ (i:Nat) (x:Dep),u = .int .i64 (i:Nat)/\x∈xs/\del x=true)) ?_ ?_
 ·apply zE2
  unfold zDI
  have hlen:=hv.len
  rw[zAf]at hlen
  refine zOd (λ_ h=>(∀ x∈xs,del x=false)/\Keep zAK H h) (λk1 hk1=>?_) ?_
  ·rw[hlen,zAa]
   refine zKl (λu h=>∃ i:Nat,i<=xs.length/\u = .int .i64 (i:Nat)/\(∀ x∈xs.take i,del x=false)/\Keep zAK H h) (λu _=>match u with | .int _ t=>xs.length-t.toNat|_=>0) ⟨0,zAz _,rfl,by simp,Keep.refl⟩ ?_
   rintro _ h ⟨i,hi,rfl,hno,kh⟩ k hk
   rw[zOn,zAa,zAl]
   by_cases hlt:i<xs.length
   ·rw[if_pos (by simpa using hlt)]
    have hg:xs[i]? = some xs[i]:=zAj hlt
    have hm:xs[i]∈xs:=zAE hlt
    generalize xs[i]=x at *
    obtain⟨b,o,hix,hpt,_⟩:=(hv.keep kh λ_ _=>id).at (i:=i) (x:=zE7 x) (by rw[zAq,hg];rfl)
    rw[hix .i64,zAa,hpt.agg (zEa (hw x hm)),zAa]
    refine(hd x h hm (hG h kh)).mono ?_
    rintro _ h5 ⟨rfl,k5⟩
    rw[zAl]
    cases hdx:del x
    ·rw[if_neg (by decide),zBU (by omega),zAa]
     refine hk _ _ ⟨i+1,by omega,rfl,λt ht=>?_,kh.trans k5⟩ (by show xs.length-(i+1)<xs.length-i;omega)
     rw[zAJ,hg]at ht
     rcases zAr.1 ht with ht|ht
     ·exact hno t ht
     ·obtain rfl:t=x:=by simpa using ht
      exact hdx
    ·rw[if_pos rfl]
     exact⟨kh.trans k5,.inr ⟨i,x,rfl,hm,hdx⟩⟩
   ·rw[if_neg (by simpa using hlt)]
    rw[zAs (by omega)]at hno
    exact hk1 _ _ ⟨hno,kh⟩
  rintro _ h ⟨hno,kh⟩
  exact⟨kh,.inl ⟨rfl,hno⟩⟩
 ·rintro _ h1 ⟨k1,⟨rfl,hno⟩|⟨i,x,rfl,hm,hx⟩⟩
  ·have e:zAB .no .geq (.int .i64 (-1)) (.int .i64 0)=some (.bool false):=rfl
   rw[e,zAa]
   refine⟨?_,k1⟩
   rw[zBM.2 λx hx=>by simp[hno x hx]]
  ·rw[zAjZ,zAa]
   refine⟨?_,k1⟩
   rw[zBp.2 ⟨x,hm,hx⟩]
theorem zAbm {h:zAw}{q:Nat}{d:Dep}(a:At h q (zE7 d)):ld1 h (Ptr q 0)=some (str d.name):=a.ld rfl
theorem zUU {h:zAw}{q:Nat}{d:Dep}(a:At h q (zE7 d))(hd:d.wf):ldN 5 h (Ptr q 1)=some (.agg (zEQ d.want).toArray):=by
 obtain⟨T,a⟩:=a
 exact ldN_mid (A:=[str d.name]) (B:=zEQ d.want) (C:=[]) (by rw[zAS];exact a) rfl (zFf hd.want).symm
theorem zV0 {P Q:zAY}{H:zAw}{x y:MV}(hx:zL6 P H x.1 x.2.1 x.2.2.1 x.2.2.2)(hy:y.1.wf)(hl:x.1.conf.length<=1000)(hO:zQE H) :
  zAA prg zI2 [.agg (mvC x).toArray,.agg (mvC y).toArray] H λu H'=>u = .bool (zZj x.1 y.1)/\Keep zAK H H':=by
 apply zOl
 unfold zN7
 simp only[zB7,zBd]
 generalize hH1:H.push (.cells (mvC x).toArray zAg (0,0))=H1
 have k1:Keep zAK H H1:=by rw[<- hH1];exact Keep.push
 have a1:At H1 H.size (zGU x.1 x.2.1 x.2.2.1 x.2.2.2):=by rw[<- hH1];exact At.push
 generalize hH2:H1.push (.cells (mvC y).toArray zAg (0,0))=H2
 have k2:Keep zAK H1 H2:=by rw[<- hH2];exact Keep.push
 have a2:At H2 H1.size (zGU y.1 y.2.1 y.2.2.1 y.2.2.2):=by rw[<- hH2];exact At.push
 have k02:=k1.trans k2
 have d6:=(zHT (a1.keep k2 id) hx.wf).2.1
 rw[zBk,zAa,zAh,d6,zAa]
 have hd:zAkI (.func (.func zF3) #[] #[Ptr H1.size 0]) x.1.conf (λd=>zK1 d y.1) (λh=>Keep zAK H2 h):=λd h hm kh=>by
  refine .inl ⟨zF3,#[],#[Ptr H1.size 0],rfl,by kernel_rfl,?_⟩
  have hdw:=hx.wf.conf d hm
  show zAA prg zF3 [.agg (zE7 d).toArray,Ptr H1.size 0] h _
  apply zNo
  unfold zMv
  simp only[zB7,zBd]
  generalize hH3:h.push (.cells (zE7 d).toArray zAH (0,0))=h3
  have k3:Keep zAK h h3:=by rw[<- hH3];exact Keep.push
  have a3:At h3 h.size (zE7 d):=by rw[<- hH3];exact At.push
  have b3:=(a2.keep kh id).keep k3 id
  have e:=λq=>zDx (q:=q) (a:=d.name) (b:=y.1.name)
  rw[zBk,zAa,zAu,zAbm a3,zAa,zBk,zAa,zAu,zEc b3,zAa,e,zAa]
  unfold zK1
  have ec:decide (y.1.name=d.name)=decide (d.name=y.1.name):=by rw[decide_eq_decide];exact eq_comm
  rw[ec]
  cases hn:decide (d.name=y.1.name)
  ·simp only[zBN,zAL,zAb,if_false,zAt,zAa,zAV]
   exact⟨by trivial,k3⟩
  ·refine zDu rfl ?_
   rw[zBk,zAa,zAh,zUU a3 hdw,zAa,zBk,zAa,zAh,zKd b3 hy,zAa]
   refine zAM (zLB hdw.want hy.ver (hO.keep (k02.trans (kh.trans k3)) λ_ h=>h.elim)) ?_
   rintro _ h4 ⟨rfl,k4⟩
   rw[zAt,if_pos rfl,zAa,zA9]
   exact⟨rfl,k3.trans k4⟩
 refine zAM (zQL (hx.c.keep k02 λ_ _=>id) hx.wf.conf hd (λh kh=>kh) (by omega)) ?_
 rintro _ h3 ⟨rfl,k3⟩
 exact⟨rfl,k02.trans k3⟩
theorem zAgy {P Q:zAY}{H:zAw}{mv:List MV}{wants:List Dep}{vh vw vc:Value}{b:Int}{ch:List Nat}{k:Nat}(hp:Prb P H mv wants vh vw)(hc:SlE 1 Q H vc (zJK (zs ch)))(hk:∀ k∈ch,k<(zCq mv).length)(hkk:k<(zCq mv).length)(hl:ch.length<=1099511627776)(hO:zQE H) :
  zAA prg zHi [.agg (zM4 vh vw b).toArray,vc,.int .i64 (k:Nat)] H λu H'=>u = .bool (zOQ (zCq mv) ch k)/\Keep zAK H H':=by
 apply zLu
 unfold zJG
 simp only[zB7,zBd]
 generalize hH1:H.push (.cells (zM4 vh vw b).toArray zBQ (0,0))=H1
 have k1:Keep zAK H H1:=by rw[<- hH1];exact Keep.push
 have a1:At H1 H.size (zM4 vh vw b):=by rw[<- hH1];exact At.push
 generalize hH2:H1.push (.cells (Value.cells (.int .i64 (k:Nat))) zHb (0,0))=H2
 have k2:Keep zAK H1 H2:=by rw[<- hH2];exact Keep.push
 have a2:At H2 H1.size [.int .i64 (k:Nat)]:=by rw[<- hH2];exact At.push
 have k02:=k1.trans k2
 let del:Int->Bool:=λn=>zZj (gM (zCq mv) n.toNat) (gM (zCq mv) k) || zZj (gM (zCq mv) k) (gM (zCq mv) n.toNat)
 have hd:zAjg (.func (.func zD2) #[] #[Ptr H.size 0,Ptr H1.size 0]) (zs ch) del (λh=>Keep zAK H2 h):=λn h hn kh=>by
  obtain⟨i,him,rfl⟩:=zPD hn
  refine .inl ⟨zD2,#[],#[Ptr H.size 0,Ptr H1.size 0],rfl,by kernel_rfl,?_⟩
  show zAA prg zD2 [.int .i64 (i:Nat),Ptr H.size 0,Ptr H1.size 0] h _
  have hph:=hp.keep (k02.trans kh) λ_ _=>id
  have aq:=(a1.keep k2 id).keep kh id
  have ar:=a2.keep kh id
  have hOh:=hO.keep (k02.trans kh) λ_ h=>h.elim
  apply zKC
  unfold zIJ
  obtain⟨x,hx,hgx,hxm,hmx,bx,ox,hix,hpx,_⟩:=hph.at (hk i him)
  obtain⟨y,hy,hgy,hym,hmy,by',oy,hiy,hpy,_⟩:=hph.at hkk
  have d0:∀ g,Keep zAK h g->ld1 g (Ptr H.size 0)=some vh:=λg kg=>(aq.keep kg id).ld rfl
  have dr:∀ g,Keep zAK h g->ld1 g (Ptr H1.size 0)=some (.int .i64 (k:Nat)):=λg kg=>(ar.keep kg id).ld rfl
  rw[zBk,zAa,zAu,d0 _ Keep.refl,zAa,hix .i64,zAa,zMD hpx hmx.wf,zAa]
  simp only[zBk,zAu,zAa]
  rw[d0 _ Keep.refl,zAa,dr _ Keep.refl,zAa,hiy .i64,zAa,zMD hpy hmy.wf,zAa]
  refine zAM (zV0 (Q:=P) hmx hmy.wf (hp.sm x hxm).2 hOh) ?_
  rintro _ h1 ⟨rfl,k1'⟩
  have ei:del (i:Int)=(zZj x.1 y.1 || zZj y.1 x.1):=by
   show(zZj (gM (zCq mv) (i:Int).toNat) (gM (zCq mv) k) || _)=_
   rw[show((i:Int)).toNat=i from rfl,hgx,hgy]
  rw[ei]
  cases hr:zZj x.1 y.1
  ·refine zDu rfl ?_
   rw[d0 _ k1',zAa,dr _ k1',zAa,hiy .i64,zAa,zMD (hpy.keep k1' id) hmy.wf,zAa,zAa,hix .i64,zAa,zMD (hpx.keep k1' id) hmx.wf,zAa]
   refine zAM (zV0 (Q:=P) (hmy.keep k1' λ_ _=>id) hmx.wf (hp.sm y hym).2 (hOh.keep k1' λ_ h=>h.elim)) ?_
   rintro _ h3 ⟨rfl,k3⟩
   rw[zAt,if_neg (by decide),zAa,zCC]
   exact⟨rfl,k1'.trans k3⟩
  ·refine zJw (by decide) ?_
   rw[zAt,if_pos rfl,zAa,Bool.true_or]
   exact⟨rfl,k1'⟩
 refine zAM (zUT (hc.keep k02 λ_ _=>id) hd (λh kh=>kh) (by rw[zPE];exact hl)) ?_
 rintro _ h3 ⟨rfl,k3⟩
 refine⟨?_,k02.trans k3⟩
 unfold zOQ zs
 rw[List.any_map];rfl
theorem zZp {H:zAw}{u:Nat}(hu:u<256):zAA prg zEB [.int .u64 (u:Nat)] H λv H'=>(∃ m:Nat,v = .int .i64 (m:Nat))/\H=H':=by
 apply zGS
 unfold zIn
 rw[zAl,if_neg (by decide)]
 refine zAM (R:=λv H'=>(∃ m:Nat,v = .int .i64 (m:Nat))/\H=H') ?_ λv h hR=>hR
 apply zGb
 unfold zG3
 have ge:∀ (b:Nat),u<b->zAB .no .geq (.int .u64 (u:Nat)) (.int .u64 (b:Nat))=some (.bool false):=λb hb=>by
  rw[zAG];simp only[zC9];rw[decide_eq_false (by omega)]
 have g1:zAB .no .geq (.int .u64 (u:Nat)) (.int .u64 4294967296)=some (.bool false):=ge 4294967296 (by omega)
 have g2:zAB .no .geq (.int .u64 (u:Nat)) (.int .u64 65536)=some (.bool false):=ge 65536 (by omega)
 have g3:zAB .no .geq (.int .u64 (u:Nat)) (.int .u64 256)=some (.bool false):=ge 256 (by omega)
 simp only[zAaw,g1,g2,g3,zAa,zAl,zAb,if_false]
 exact zQC (R:=λv _=>(∃ m:Nat,v = .int .i64 (m:Nat))/\True) (H:=H) (off:=0) (x:=u) hu (by omega) ⟨⟨_,rfl⟩,trivial⟩
def zAhj (fv:Value)(xs:List Int)(lt:Int->Int->Bool)(G:zAw->Prop):Prop:=∀ (a b:Int) (h:zAw),a∈xs->b∈xs->G h->zDz prg fv [.int .i64 a,.int .i64 b] h λu h'=>(∃ n:Int,u = .int .i64 n/\decide (n<0)=lt a b)/\Keep zAK h h'
theorem zYs {l:List Int}{i:Nat}{n:Int}:(zJK l).set i [.int .i64 n]=zJK (l.set i n):=by simp[zHn,List.map_set]
theorem zQM {l:List Int}{i:Nat}{n:Int}(h:l[i]? = some n):(zJK l)[i]? = some [.int .i64 n]:=zNc (by rw[zAq,h];rfl)
theorem zME {l:List Int}:(zJK l).length=l.length:=by simp
theorem zAdI {A R:List Int}{x y:Int}:((A++y::x::R).set (A.length+1) y).set A.length x=A++x::y::R:=by
 rw[zCH _ _ (by omega)]
 rw[show A.length+1-A.length=1 by omega]
 rw[zCH _ _ (by omega),Nat.sub_self]
 rfl
theorem zZq {i:Nat}(h:i+1<=9223372036854775807):zAB .no .sub (.int .i64 ((i+1:Nat):Int)) (.int .i64 1)=some (.int .i64 (i:Nat)):=by
 rw[zAG];simp only[zC9];rw[zB8 (by omega) (by omega)];congr 2;omega
theorem zAbn {α:Type}{lt:α->α->Bool}{x:α}:zHe lt [x]=[x]:=rfl
theorem zAbo {α:Type}{lt:α->α->Bool}{x y:α}{ys:List α}:zSb lt x (y::ys)=if lt x y=true then y::zSb lt x ys else x::y::ys:=by rw[zSb]
set_option maxHeartbeats 2000000 in
theorem zXd {F G:zAw->Prop}{Fb:zAY}{H:zAw}{v fv:Value}{xs:List Int}{lt:Int->Int->Bool}(hv:BufE 1 Fb H v (zJK xs))(hc:zAhj fv xs lt G)(hG:∀ h,Keep Fb H h->G h)(hl:xs.length<=1000) :
  zAA prg zDm [v,.int .i64 0,.int .i64 (xs.length:Nat),fv] H λ_ H'=>BufE 1 Fb H' v (zJK (zHe lt xs))/\Keep Fb H H':=by
 apply zHd
 unfold zFp
 have e01:zAB .no .add (.int .i64 0) (.int .i64 1)=some (.int .i64 ((1:Nat):Int)):=rfl
 rw[e01,zAa]
 have hx0:xs=zHe lt (xs.take 1)++xs.drop 1:=by
  cases xs with
  | nil=>rfl
  | cons a l=>simp[zAbn]
 refine zKl (λu h=>∃ i:Nat,1<=i/\i<=xs.length+1/\u = .int .i64 (i:Nat)/\BufE 1 Fb h v (zJK (zHe lt (xs.take i)++xs.drop i))/\Keep Fb H h) (λu _=>match u with | .int _ t=>xs.length+1-t.toNat|_=>0) ⟨1,zAi _,by omega,rfl,by rw[<- hx0];exact hv,Keep.refl⟩ ?_
 rintro _ h ⟨i,hi1,hi,rfl,hb,kh⟩ kk hkk
 rw[zOn,zAa,zAl]
 by_cases hlt:i<xs.length
 rotate_left
 ·rw[if_neg (by simpa using hlt)]
  rw[zAs (by omega),List.drop_eq_nil_of_le (by omega),zAS]at hb
  exact⟨hb,kh⟩
 rw[if_pos (by simpa using hlt)]
 have hg:xs[i]? = some xs[i]:=zAj hlt
 have hmx:xs[i]∈xs:=zAE hlt
 have hdr:xs.drop i=xs[i]::xs.drop (i+1):=zBL hlt
 have htk:xs.take (i+1)=xs.take i++[xs[i]]:=by rw[zAJ,hg];rfl
 have hlen:(zHe lt (xs.take i)).length=i:=by rw[zVV,zBe];omega
 have hmem:∀ y∈zHe lt (xs.take i),y∈xs:=λy hy=>zBR (zSY.1 hy)
 have hins:zHe lt (xs.take (i+1))=(zSb lt xs[i] (zHe lt (xs.take i)).reverse).reverse:=by
  rw[htk];unfold zHe
  rw[zIB,List.reverse_reverse]
 rw[hdr]at hb
 generalize xs[i]=x at *
 generalize hS:zHe lt (xs.take i)=S at *
 generalize hR:xs.drop (i+1)=R at *
 refine zNd (λ_ _ h'=>BufE 1 Fb h' v (zJK (zHe lt (xs.take (i+1))++R))/\Keep Fb H h') (λk3 hk3=>?_) ?_
 rotate_left
 ·rintro _ _ h' ⟨hb',kh'⟩
  rw[zBU (by omega),zAa]
  exact hkk _ _ ⟨i+1,by omega,by omega,rfl,by rw[hR];exact hb',kh'⟩ (by show xs.length+1-(i+1)<xs.length+1-i;omega)
 refine zKl (λu h'=>∃ (A B:List Int),u = .int .i64 (A.length:Nat)/\S=A++B/\zSb lt x S.reverse=B.reverse++zSb lt x A.reverse/\BufE 1 Fb h' v (zJK (A++x::(B++R)))/\Keep Fb H h') (λu _=>match u with | .int _ t=>t.toNat|_=>0) ⟨S,[],by rw[hlen],by simp,by simp,by simpa using hb,kh⟩ ?_
 rintro _ h' ⟨A,B,rfl,hAB,hin,hb',kh'⟩ k5 hk5
 have hAl:A.length<=1000:=by
  have:S.length=A.length+B.length:=by rw[hAB,zAy]
  omega
 have g0:zAB .no .gtr (.int .i64 (A.length:Nat)) (.int .i64 0)=some (.bool (decide (A.length > 0))):=zZW (m:=0)
 rw[g0,zAa]
 rcases List.eq_nil_or_concat A with rfl|⟨A',y,hA⟩
 ·refine zJw (by decide) ?_
  rw[zAt]
  show Mpu (some (.bool false)) _
  rw[zAa,zAl,if_neg (by decide)]
  refine hk3 _ _ _ ⟨?_,kh'⟩
  have:zHe lt (xs.take (i+1))=x::B:=by
   rw[hins,hin];simp[zSb]
  rw[this];simpa using hb'
 ·rw[List.concat_eq_append]at hA
  subst hA
  have hAl':(A'++[y]).length=A'.length+1:=by simp
  rw[hAl',decide_eq_true (by omega)]
  have eL:A'++[y]++x::(B++R)=A'++y::x::(B++R):=by simp
  rw[eL]at hb'
  have gx:(A'++y::x::(B++R))[A'.length+1]? = some x:=by
   rw[zA6 (by omega)];simp
  have gy:(A'++y::x::(B++R))[A'.length]? = some y:=by
   rw[zA6 (by omega)];simp
  have hym:y∈xs:=hmem y (by rw[hAB];simp)
  obtain⟨bx,ox,hix,hpx,_⟩:=hb'.sl.at (zQM gx)
  obtain⟨by',oy,hiy,hpy,_⟩:=hb'.sl.at (zQM gy)
  refine zDu rfl ?_
  rw[hix .i64,zAa,hpx.cell0 rfl,zAa,zZq (by omega),zAa,hiy .i64,zAa,hpy.cell0 rfl,zAa]
  refine(hc x y h' hmx hym (hG h' kh')).mono ?_
  rintro _ h8 ⟨⟨n,rfl,hn⟩,k8⟩
  have en:zAB .no .lss (.int .i64 n) (.int .i64 0)=some (.bool (decide (n<0))):=ltI
  have hb8:=hb'.keep k8 λ_ _=>id
  have kh8:Keep Fb H h8:=kh'.trans (k8.mono λ_ _ h=>h.elim)
  rw[en,zAa,hn]
  show Mpu (zBy (.bool true) (.bool (lt x y)) (.bool false)) _
  rw[zAt,if_pos rfl,zAa,zAl]
  have hrev:(A'++[y]).reverse=y::A'.reverse:=by simp
  rw[hrev,zAbo]at hin
  cases hxy:lt x y
  ·rw[if_neg (by decide)]
   rw[hxy,if_neg (by decide)]at hin
   refine hk3 _ _ _ ⟨?_,kh8⟩
   have:zHe lt (xs.take (i+1))=A'++y::x::B:=by
    rw[hins,hin];simp
   rw[this];simpa using hb8
  ·rw[if_pos rfl]
   rw[hxy,if_pos rfl]at hin
   obtain⟨b1,o1,h10,i1,p1,st1',hb10,k10⟩:=hb8.st (zQM gx) (j:=0) (by omega) (w := .int .i64 y) rfl
   have e1:([Value.int .i64 x]).set 0 (.int .i64 y)=[.int .i64 y]:=rfl
   rw[e1,zYs]at hb10
   have gy2:((A'++y::x::(B++R)).set (A'.length+1) y)[A'.length]? = some y:=by
    rw[List.getElem?_set_ne (by omega)];exact gy
   obtain⟨b2,o2,h11,i2,p2,st2',hb11,k11⟩:=hb10.st (zQM gy2) (j:=0) (by omega) (w := .int .i64 x) rfl
   have e2:([Value.int .i64 y]).set 0 (.int .i64 x)=[.int .i64 x]:=rfl
   rw[e2,zYs,zAdI]at hb11
   have hpx8:=hpx.keep k8 id
   have hpy8:=hpy.keep k8 id
   have ly:ld1 h8 (Ptr by' oy)=some (.int .i64 y):=hpy8.cell0 rfl
   have lx:ld1 h8 (Ptr bx ox)=some (.int .i64 x):=hpx8.cell0 rfl
   simp only[zAa,hiy .i64,hix .i64,ly,lx]
   have j1:Ptr bx ox=Ptr b1 o1:=zAF ((hix .i64).symm.trans (i1 .i64))
   have j2:Ptr by' oy=Ptr b2 o2:=zAF ((hiy .i64).symm.trans (i2 .i64))
   rw[zAu]at st1' st2'
   rw[j1,st1',zA0,j2,st2',zA0]
   refine hk5 _ _ ⟨A',y::B,rfl,by rw[hAB];simp,?_,by simpa using hb11,(kh8.trans k10).trans k11⟩ ?_
   ·rw[hin];simp
   ·show A'.length<(A'++[y]).length;omega
theorem zAgz {body:(Value->Value->Value->Value->zAn)->Value->Value->Value->Value->zAn}{a b c d e:Value}{H:zAw}(hs:∀ k:Value->Value->Value->Value->zAn,body k a b c d e H):L5 body a b c d e H:=by
 refine⟨λvs h=>vs=[a,b,c,d,e]/\h=H,λ_ _=>0,⟨rfl,rfl⟩,?_⟩
 rintro vs h _ ⟨rfl,rfl⟩
 exact hs _
theorem zAbp {G:zAw->Prop}{Fb:zAY}{H:zAw}{v fv:Value}{xs:List Int}{lt:Int->Int->Bool}(hv:BufE 1 Fb H v (zJK xs))(hc:zAhj fv xs lt G)(hG:∀ h,Keep Fb H h->G h)(hl:xs.length<=12) :
  zAA prg zDa [v,fv] H λ_ H'=>BufE 1 Fb H' v (zJK (zHe lt xs))/\Keep Fb H H':=by
 apply zFo
 unfold zE1
 have hlen:=hv.sl.len
 rw[zME]at hlen
 have cv:cvI .u64 (.int .i64 (xs.length:Nat))=some (.int .u64 (xs.length:Nat)):=by
  rw[zF9]
  congr 2
  simp only[IntKind.wrap,IntKind.bits,IntKind.signed]
  simp;omega
 rw[hlen,zAa,cv,zAa]
 refine zAM (zZp (by omega)) ?_
 rintro _ _ ⟨⟨m,rfl⟩,rfl⟩
 refine zAM (R:=λ_ H'=>BufE 1 Fb H' v (zJK (zHe lt xs))/\Keep Fb H H') ?_ λ_ h hR=>hR
 apply zIT
 unfold zG5
 refine zAgz λk=>?_
 have es:zAB .no .sub (.int .i64 (xs.length:Nat)) (.int .i64 0)=some (.int .i64 (xs.length:Nat)):=by
  rw[zAG];simp only[zC9];rw[Int.sub_zero,zB8 (by omega) (by omega)]
 have el:zAB .no .leq (.int .i64 (xs.length:Nat)) (.int .i64 12)=some (.bool true):=by
  rw[zAG];simp only[zC9];rw[decide_eq_true (by omega)]
 rw[es,zAa,el,zAa,zAl,if_pos rfl]
 exact zAM (zXd (F:=G) hv hc hG (by omega)) λ_ h hR=>hR
def zV1 (hv:List Man)(i:Nat):Bool:=(hv.take i).any λo=>decide (o.name=(gM hv i).name)&&decide (o.ver=(gM hv i).ver)
def zN9 (hv:List Man)(i:Nat):Bool:=zIM (gM hv i) && !zV1 hv i
def zS3 (ws:List Dep):Bool:=ws.all λd=>zMz d.name&&zGn d.want
def zHJ (hv:List Man)(ws:List Dep)(b:Int):Bool:=decide (0<=b)&&decide (b<=65536)&&(List.range hv.length).all (zN9 hv)&&zS3 ws
theorem zJL:zBF prg zAg=some (zGU ⟨[],zED,[],[],[]⟩ zCp zCp zCp).toArray:=by kernel_rfl
theorem zMh:(⟨[],zED,[],[],[]⟩:Man).wf:=⟨by simp,zGy,(λd h=>absurd h (by simp)),(λd h=>absurd h (by simp)),(λd h=>absurd h (by simp))⟩
theorem zT5:zBF prg zAH=some (zE7 zQF).toArray:=by kernel_rfl
theorem zGV {P:zAY}{H:zAw}{x:MV}(h:zL6 P H x.1 x.2.1 x.2.2.1 x.2.2.2):∀ c∈mvC x,c.oneCell'=true:=h.one
def zAkJ (fv:Value)(xs:List MV)(del:Man->Bool)(G:zAw->Prop):Prop:=∀ (x:MV) (h:zAw),x∈xs->G h->zDz prg fv [.agg (mvC x).toArray] h λu h'=>u = .bool (del x.1)/\Keep zAK h h'
theorem zNV {G:zAw->Prop}{P:zAY}{H:zAw}{v fv:Value}{xs:List MV}{del:Man->Bool}(hv:SlE 8 P H v (xs.map mvC))(hw:∀ x∈xs,x.1.wf)(hd:zAkJ fv xs del G)(hG:∀ h,Keep zAK H h->G h)(hl:xs.length<=1099511627776) :
  zAA prg zBJ [v,fv] H λu H'=>u = .bool (xs.any λx=>del x.1)/\Keep zAK H H':=by
 apply zDS
 unfold zC7
 refine zAM (R:=λu H'=>Keep zAK H H'/\((u = .int .i64 (-1)/\∀ x∈xs,del x.1=false)\/∃ (i:Nat) (x:MV),u = .int .i64 (i:Nat)/\x∈xs/\del x.1=true)) ?_ ?_
 ·apply zCZ
  unfold zDf
  have hlen:=hv.len
  rw[zAf]at hlen
  refine zOd (λ_ h=>(∀ x∈xs,del x.1=false)/\Keep zAK H h) (λk1 hk1=>?_) ?_
  ·rw[hlen,zAa]
   refine zKl (λu h=>∃ i:Nat,i<=xs.length/\u = .int .i64 (i:Nat)/\(∀ x∈xs.take i,del x.1=false)/\Keep zAK H h) (λu _=>match u with | .int _ t=>xs.length-t.toNat|_=>0) ⟨0,zAz _,rfl,by simp,Keep.refl⟩ ?_
   rintro _ h ⟨i,hi,rfl,hno,kh⟩ k hk
   rw[zOn,zAa,zAl]
   by_cases hlt:i<xs.length
   ·rw[if_pos (by simpa using hlt)]
    have hg:xs[i]? = some xs[i]:=zAj hlt
    have hm:xs[i]∈xs:=zAE hlt
    generalize xs[i]=x at *
    obtain⟨b,o,hix,hpt,_⟩:=(hv.keep kh λ_ _=>id).at (i:=i) (x:=mvC x) (by rw[zAq,hg];rfl)
    rw[hix .i64,zAa,zMD hpt (hw x hm),zAa]
    refine(hd x h hm (hG h kh)).mono ?_
    rintro _ h5 ⟨rfl,k5⟩
    rw[zAl]
    cases hdx:del x.1
    ·rw[if_neg (by decide),zBU (by omega),zAa]
     refine hk _ _ ⟨i+1,by omega,rfl,λt ht=>?_,kh.trans k5⟩ (by show xs.length-(i+1)<xs.length-i;omega)
     rw[zAJ,hg]at ht
     rcases zAr.1 ht with ht|ht
     ·exact hno t ht
     ·obtain rfl:t=x:=by simpa using ht
      exact hdx
    ·rw[if_pos rfl]
     exact⟨kh.trans k5,.inr ⟨i,x,rfl,hm,hdx⟩⟩
   ·rw[if_neg (by simpa using hlt)]
    rw[zAs (by omega)]at hno
    exact hk1 _ _ ⟨hno,kh⟩
  rintro _ h ⟨hno,kh⟩
  exact⟨kh,.inl ⟨rfl,hno⟩⟩
 ·rintro _ h1 ⟨k1,⟨rfl,hno⟩|⟨i,x,rfl,hm,hx⟩⟩
  ·have e:zAB .no .geq (.int .i64 (-1)) (.int .i64 0)=some (.bool false):=rfl
   rw[e,zAa]
   refine⟨?_,k1⟩
   rw[zBM.2 λx hx=>by simp[hno x hx]]
  ·rw[zAjZ,zAa]
   refine⟨?_,k1⟩
   rw[zBp.2 ⟨x,hm,hx⟩]
theorem zAgA {mv:List MV}{i:Nat}:(zCq mv).take i=(mv.take i).map (·.1):=by simp[zCq,zCs]
theorem _root_.Go.X.SlE.pre {n:Nat}{P:zAY}{H:zAw}{v:Value}{xs:List (List Value)}(h:SlE n P H v xs){m:Nat}(hm:m<=xs.length):∃ u,slS n v none (some (.int .i64 (m:Nat))) none=some u/\SlE n P H u (xs.take m):=by
 by_cases hne:xs=[]
 ·subst hne
  have:m=0:=by simpa using hm
  subst this
  obtain⟨⟨a,c,rfl,hc,_⟩,_,_⟩:=h
  have hb:zMj 0 c none (some (.int .i64 0)) none=some (0,0,c):=by simp[zMj,bnd]
  have e0:((0:Nat):Int)=0:=rfl
  rw[e0]
  rcases a with _|⟨b,o,_|sp⟩
  ·exact⟨.slice none 0 c,by simp[slS,hb],SlE.nil⟩
  ·exact⟨.slice (some ⟨b,if c=0 then o else o+0*n,none⟩) 0 c,by simp[slS,hb],by simpa using SlE.nil⟩
  ·exact⟨.slice (some ⟨b,o,some sp⟩) 0 c,by simp[slS,hb],by simpa using SlE.nil⟩
 ·obtain⟨u,h1,h2⟩:=h.cut hne (lo:=0) (hi:=m) (zAz _) hm (l:=none) (r:=some (.int .i64 (m:Nat))) rfl (λc hc=>by simp[bnd];omega)
  rw[zCb]at h2
  exact⟨u,h1,h2⟩
set_option maxHeartbeats 4000000 in
theorem zAbq {P:zAY}{H:zAw}{mv:List MV}{wants:List Dep}{vh vw:Value}{b:Int}(hp:Prb P H mv wants vh vw)(hl:mv.length<=256)(hwl:wants.length<=64)(hO:zQE H) :
  zAA prg zHh [.agg (zM4 vh vw b).toArray] H λu H'=>u = .int .i64 (if zHJ (zCq mv) wants b then 0 else 10)/\Keep zAK H H':=by
 apply zLt
 unfold zJF
 simp only[zB7,zBd,zBk,zAh,zAu,zAa]
 generalize hH1:H.push (.cells (zM4 vh vw b).toArray zBQ (0,0))=H1
 have k1:Keep zAK H H1:=by rw[<- hH1];exact Keep.push
 have a1:At H1 H.size (zM4 vh vw b):=by rw[<- hH1];exact At.push
 have d0:∀ h,Keep zAK H1 h->ld1 h (Ptr H.size 0)=some vh:=λh k=>(a1.keep k id).ld rfl
 have d1:∀ h,Keep zAK H1 h->ld1 h (Ptr H.size 1)=some vw:=λh k=>(a1.keep k id).ld rfl
 have d2:∀ h,Keep zAK H1 h->ld1 h (Ptr H.size 2)=some (.int .i64 b):=λh k=>(a1.keep k id).ld rfl
 have lh:=hp.h.len
 have lw:=hp.w.len
 rw[zAf]at lh lw
 have hvl:(zCq mv).length=mv.length:=by simp
 have no:∀ h,Keep zAK H h->zHJ (zCq mv) wants b=false->(Value.int .i64 10 = .int .i64 (if zHJ (zCq mv) wants b then 0 else 10)/\Keep zAK H h):=λh kh hf=>⟨by rw[hf];rfl,kh⟩
 have e1:zAB .no .gtr (.int .i64 (mv.length:Nat)) (.int .i64 256)=some (.bool false):=by
  rw[zAG];simp only[zC9];rw[decide_eq_false (by omega)]
 have e2:zAB .no .gtr (.int .i64 (wants.length:Nat)) (.int .i64 64)=some (.bool false):=by
  rw[zAG];simp only[zC9];rw[decide_eq_false (by omega)]
 rw[d0 _ Keep.refl,zAa,lh,zAa,e1,zAa]
 refine zDu rfl ?_
 rw[d1 _ Keep.refl,zAa,lw,zAa,e2,zAa]
 show Mpu (zBy (.bool false) (.bool true) (.bool false)) _
 rw[zAt,if_neg (by decide),zAa]
 refine zDu rfl ?_
 rw[d2 _ Keep.refl,zAa,ltI,zAa]
 show Mpu (zBy (.bool false) (.bool true) _) _
 rw[zAt,if_neg (by decide),zAa]
 cases q1:decide (b<0)
 rotate_left
 ·simp only[zBN,zAL,zAc,if_false,zAt,if_true,zAa,zAl]
  refine no _ k1 ?_
  unfold zHJ
  rw[decide_eq_false (show ¬ 0<=b by have:=of_decide_eq_true q1;omega)];rfl
 refine zDu rfl ?_
 rw[d2 _ Keep.refl,zAa,gtI,zAa]
 show Mpu (zBy (.bool false) (.bool true) _) _
 rw[zAt,if_neg (by decide),zAa,zAl]
 have hb0:0<=b:=by have:=of_decide_eq_false q1;omega
 cases q2:decide (b > 65536)
 rotate_left
 ·rw[if_pos rfl]
  refine no _ k1 ?_
  unfold zHJ
  rw[decide_eq_true hb0,decide_eq_false (show ¬ b<=65536 by have:=of_decide_eq_true q2;omega)];rfl
 have hb1:b<=65536:=by have:=of_decide_eq_false q2;omega
 have hpo:zHJ (zCq mv) wants b=((List.range mv.length).all (zN9 (zCq mv))&&zS3 wants):=by
  unfold zHJ
  rw[decide_eq_true hb0,decide_eq_true hb1,hvl];rfl
 rw[if_neg (by decide)]
 refine zOd (λ_ h=>(List.range mv.length).all (zN9 (zCq mv))=true/\Keep zAK H1 h) (λk hk=>?_) ?_
 ·rw[d0 _ Keep.refl,zAa,lh,zAa]
  refine zKl (λu h=>∃ i:Nat,i<=mv.length/\u = .int .i64 (i:Nat)/\(List.range i).all (zN9 (zCq mv))=true/\Keep zAK H1 h) (λu _=>match u with | .int _ t=>mv.length-t.toNat|_=>0) ⟨0,zAz _,rfl,rfl,Keep.refl⟩ ?_
  rintro _ h ⟨i,hi,rfl,hall,kh⟩ kk hkk
  rw[zOn,zAa,zAl]
  by_cases hlt:i<mv.length
  rotate_left
  ·rw[if_neg (by simpa using hlt)]
   obtain rfl:i=mv.length:=by omega
   exact hk _ _ ⟨hall,kh⟩
  rw[if_pos (by simpa using hlt)]
  have k0h:=k1.trans kh
  obtain⟨x,hx,hgx,hxm,hmx,bx,ox,hix,hpx,_⟩:=(hp.keep k0h λ_ _=>id).at (k:=i) (by rw[hvl];exact hlt)
  rw[hix .i64,zAa,zMD hpx hmx.wf,zAa]
  simp only[zJL,zBd]
  generalize hH12:h.push (.cells (zGU ⟨[],zED,[],[],[]⟩ zCp zCp zCp).toArray zAg (0,0))=h12
  have k12:Keep zAK h h12:=by rw[<- hH12];exact Keep.push
  have a12:At h12 h.size (zGU ⟨[],zED,[],[],[]⟩ zCp zCp zCp):=by rw[<- hH12];exact At.push
  obtain⟨h13,st13,a13,k13⟩:=a12.st (n:=8) (ds:=mvC x) (zBI zMh) (zBI hmx.wf) (zGV hmx)
  have gh:=kh.1
  have k113:Keep zAK H1 h13:=(kh.trans k12).fresh k13 λb hb=>by omega
  have k013:=k1.trans k113
  rw[st13,zA0,d0 _ k113,zAa]
  obtain⟨u,hu,hsu⟩:=(hp.keep k013 λ_ _=>id).h.pre (m:=i) (by rw[zAf];omega)
  have hmt:(mv.map mvC).take i=(mv.take i).map mvC:=by rw[zCs]
  rw[hmt]at hsu
  rw[hu,zAa]
  have hd:zAkJ (.func (.func zD1) #[] #[Ptr h.size 0]) (mv.take i) (λo=>decide (o.name=x.1.name)&&decide (o.ver=x.1.ver)) (λg=>Keep zAK h13 g):=λy g hy kg=>by
   refine .inl ⟨zD1,#[],#[Ptr h.size 0],rfl,by kernel_rfl,?_⟩
   show zAA prg zD1 [.agg (mvC y).toArray,Ptr h.size 0] g _
   have hyw:=(hp.m y (zBR hy)).wf
   apply zKz
   unfold zII
   simp only[zB7,zBd]
   generalize hG1:g.push (.cells (mvC y).toArray zAg (0,0))=g1
   have kg1:Keep zAK g g1:=by rw[<- hG1];exact Keep.push
   have ag:At g1 g.size (zGU y.1 y.2.1 y.2.2.1 y.2.2.2):=by rw[<- hG1];exact At.push
   have bg:At g1 h.size (zGU x.1 x.2.1 x.2.2.1 x.2.2.2):=(a13.keep kg id).keep kg1 id
   have e:=λq=>zDx (q:=q) (a:=y.1.name) (b:=x.1.name)
   rw[zBk,zAa,zAu,zEc ag,zAa,zBk,zAa,zAu,zEc bg,zAa,e,zAa]
   cases hn:decide (y.1.name=x.1.name)
   ·refine zJw (by decide) ?_
    rw[zAt,if_neg (by decide),zAa,zAV]
    exact⟨rfl,kg1⟩
   ·refine zDu rfl ?_
    rw[zBk,zAa,zAh,zKd ag hyw,zAa,zBk,zAa,zAh,zKd bg hmx.wf,zAa,zAdp hyw.ver hmx.wf.ver,zAa]
    show Mpu (zBy (.bool true) _ (.bool false)) _
    rw[zAt,if_pos rfl,zAa,zA9]
    exact⟨rfl,kg1⟩
  refine zAM (zNV hsu (λy hy=>(hp.m y (zBR hy)).wf) hd (λg kg=>kg) (by rw[zBe];omega)) ?_
  rintro _ h14 ⟨rfl,k14⟩
  have htw:(mv.take i).any (λy=>decide (y.1.name=x.1.name)&&decide (y.1.ver=x.1.ver))=zV1 (zCq mv) i:=by
   unfold zV1
   rw[zAgA,List.any_map,hgx];rfl
  rw[htw]
  have a14:=a13.keep k14 id
  rw[a14.ldN (zBI hmx.wf),zAa]
  have k014:=k013.trans k14
  have hsm:=hp.sm x hxm
  have khh:Keep zAK h h14:=(k12.fresh k13 λb hb=>by omega).trans k14
  refine zAM (zUS (hmx.keep khh λ_ _=>id) (by omega) (by omega) (hO.keep k014 λ_ h=>h.elim)) ?_
  rintro _ h15 ⟨rfl,k15⟩
  have k115:=k113.trans (k14.trans k15)
  have hha:zN9 (zCq mv) i=(zIM x.1 && !zV1 (zCq mv) i):=by unfold zN9;rw[hgx]
  have bad:zN9 (zCq mv) i=false->zHJ (zCq mv) wants b=false:=λhf=>by rw[hpo,zQK hlt hf];rfl
  rw[zA5,zAa]
  cases r1:zIM x.1
  ·refine zJw (by decide) ?_
   rw[zAd,zAt,if_pos rfl,zAa,zAl,if_pos rfl]
   exact no _ (k1.trans k115) (bad (by rw[hha,r1];rfl))
  ·refine zDu rfl ?_
   show Mpu (zBy (.bool false) (.bool true) (.bool (zV1 (zCq mv) i))) _
   rw[zAt,if_neg (by decide),zAa,zAl]
   cases r2:zV1 (zCq mv) i
   ·rw[if_neg (by decide),zBU (by omega),zAa]
    exact hkk _ _ ⟨i+1,by omega,rfl,zPd hall (by rw[hha,r1,r2];rfl),k115⟩ (by show mv.length-(i+1)<mv.length-i;omega)
   ·rw[if_pos rfl]
    exact no _ (k1.trans k115) (bad (by rw[hha,r1,r2];rfl))
 rintro _ h9 ⟨hall,k9⟩
 rw[hall,zA9]at hpo
 refine zOd (λ_ h=>zS3 wants=true/\Keep zAK H1 h) (λk hk=>?_) ?_
 ·rw[d1 _ k9,zAa,lw,zAa]
  refine zKl (λu h=>∃ i:Nat,i<=wants.length/\u = .int .i64 (i:Nat)/\zS3 (wants.take i)=true/\Keep zAK H1 h) (λu _=>match u with | .int _ t=>wants.length-t.toNat|_=>0) ⟨0,zAz _,rfl,rfl,k9⟩ ?_
  rintro _ h ⟨i,hi,rfl,hok,kh⟩ kk hkk
  rw[zOn,zAa,zAl]
  by_cases hlt:i<wants.length
  rotate_left
  ·rw[if_neg (by simpa using hlt)]
   rw[zAs (by omega)]at hok
   exact hk _ _ ⟨hok,kh⟩
  rw[if_pos (by simpa using hlt)]
  have hg:wants[i]? = some wants[i]:=zAj hlt
  have hdm:wants[i]∈wants:=zAE hlt
  have htk:wants.take (i+1)=wants.take i++[wants[i]]:=by rw[zAJ,hg];rfl
  generalize wants[i]=d at *
  have hdw:=hp.ww d hdm
  have k0h:=k1.trans kh
  obtain⟨bd,od,hid,hpd,_⟩:=(hp.keep k0h λ_ _=>id).w.at (i:=i) (x:=zE7 d) (by rw[zAq,hg];rfl)
  rw[hid .i64,zAa,hpd.agg (zEa hdw),zAa]
  simp only[zT5,zBd]
  generalize hH22:h.push (.cells (zE7 zQF).toArray zAH (0,0))=h22
  have k22:Keep zAK h h22:=by rw[<- hH22];exact Keep.push
  have a22:At h22 h.size (zE7 zQF):=by rw[<- hH22];exact At.push
  obtain⟨h23,st23,a23,k23⟩:=a22.st (n:=6) (ds:=zE7 d) (zEa zNT) (zEa hdw) zLx
  have khh:Keep zAK h h23:=k22.fresh k23 λb hb=>by omega
  rw[st23,zA0]
  simp only[zBk,zAh,zAu,zAa]
  rw[zAbm a23,zAa]
  refine zAM (zX0 hdw.name) ?_
  rintro _ h24 ⟨rfl,k24⟩
  have bad:(zMz d.name&&zGn d.want)=false->zHJ (zCq mv) wants b=false:=λhf=>by
   rw[hpo]
   exact zCf.2 ⟨d,hdm,by simpa using hf⟩
  rw[zA5,zAa]
  cases r1:zMz d.name
  ·refine zJw (by decide) ?_
   rw[zAd,zAt,if_pos rfl,zAa,zAl,if_pos rfl]
   exact no _ (k0h.trans (khh.trans k24)) (bad (by rw[r1];rfl))
  ·refine zDu rfl ?_
   rw[zUU (a23.keep k24 id) hdw,zAa]
   have kall:=k0h.trans (khh.trans k24)
   refine zAM (zNR hdw.want (hO.keep kall λ_ h=>h.elim)) ?_
   rintro _ h26 ⟨rfl,k26⟩
   rw[zA5,zAa]
   show Mpu (zBy (.bool false) (.bool true) (.bool (!zGn d.want))) _
   rw[zAt,if_neg (by decide),zAa,zAl]
   cases r2:zGn d.want
   ·rw[if_pos (show(!false)=true from rfl)]
    exact no _ (kall.trans k26) (bad (by rw[r1,r2];rfl))
   ·rw[if_neg (by decide),zBU (by omega),zAa]
    refine hkk _ _ ⟨i+1,by omega,rfl,?_,kh.trans (khh.trans (k24.trans k26))⟩ (by show wants.length-(i+1)<wants.length-i;omega)
    rw[htk]
    unfold zS3 at hok ⊢
    rw[zCU,hok];simp[r1,r2]
 rintro _ h19 ⟨hw,k19⟩
 exact⟨by rw[hpo,hw];rfl,k1.trans k19⟩
theorem zYt {α β:Type}{lt:α->α->Bool}{lt':β->β->Bool}{g:α->β}(h:∀ a b,lt' (g a) (g b)=lt a b){x:α}:∀ {l:List α},zSb lt' (g x) (l.map g)=(zSb lt x l).map g
 | []=>rfl
 | y::l=>by
  rw[zBa,zSb,zSb,h]
  split
  ·rw[zYt h,zBa]
  ·rw[zBa,zBa]
theorem zAbr {α β:Type}{lt:α->α->Bool}{lt':β->β->Bool}{g:α->β}(h:∀ a b,lt' (g a) (g b)=lt a b){l:List α}:zHe lt' (l.map g)=(zHe lt l).map g:=by
 unfold zHe
 rw[List.map_reverse]
 congr 1
 induction l using zQH with
 | h0=>rfl
 | h1 l x ih=>rw[zAN,zBa,List.map_nil,zIB,zIB,ih,zYt h]
theorem zYu {lt:Nat->Nat->Bool}{l:List Nat}:zHe (λa b=>lt a.toNat b.toNat) (zs l)=zs (zHe lt l):=zAbr (g:=λ(k:Nat)=>(k:Int)) λa b=>rfl
theorem zT6 {P:zAY}{H:zAw}{v:Value}{xs:List Int}(hv:SlE 1 P H v (zJK xs))(hl:xs.length<=1099511627776):zAA prg zEI [v] H λu H'=>BufE 1 (λb=>H.size<=b/\b<H'.size) H' u (zJK xs)/\Keep zAK H H':=by
 apply zJ8
 unfold zIc
 obtain⟨⟨a,c,rfl,hc,hx⟩,h2,h3⟩:=hv
 cases a with
 | none =>
  have hnil:zJK xs=[]:=by
   rcases hx with h|⟨b,o,h,_⟩
   ·exact h
   ·cases h
  have e:zAB .slc .eql (.slice none (zJK xs).length c) (.slice none 0 0)=some (.bool true):=rfl
  rw[e,zAa,zAl,if_pos rfl,hnil]
  exact⟨BufE.nil,Keep.refl⟩
 | some a =>
  have e:zAB .slc .eql (.slice (some a) (zJK xs).length c) (.slice none 0 0)=some (.bool false):=rfl
  have b0:zID prg zHb 0 []=some #[]:=by kernel_rfl
  rw[e,zAa,zAl,if_neg (by decide),b0,zCD]
  generalize hH1:H.push (.cells #[] zHb (0,0))=H1
  have k1:Keep zAK H H1:=by rw[<- hH1];exact Keep.push
  have n1:H1[H.size]? = some (.cells #[] zHb (0,0)):=by rw[<- hH1];exact zCh
  have s1:H1.size=H.size+1:=by rw[<- hH1];simp
  have hb:BufE 1 (H.size <= ·) H1 (.slice (some ⟨H.size,0,none⟩) 0 0) []:=BufE.fresh (cs:=[]) ⟨H.size,rfl,zAi _,n1⟩ (zAi _) (by simp) (λ_ _=>by simp[zTw]) (by simp) (λx h=>by cases h) (λx h=>by cases h)
  have hv1:SlE 1 P H1 (.slice (some a) (zJK xs).length c) (zJK xs):=SlE.keep ⟨⟨_,c,rfl,hc,hx⟩,h2,h3⟩ k1 λ_ _=>id
  refine hb.app hv1 (by omega) (by simp;omega) (by show H.size<=H1.size;omega) λu h2' hu k2=>?_
  rw[zAX]at hu
  have k02:=k1.fresh k2 λb hb=>hb
  exact⟨BufE.re hu λb hb hF=>⟨hF,hb⟩,k02⟩
theorem zRk {P:zAY}{H:zAw}{v:Value}{xs:List Dep}(hv:SlE 6 P H v (xs.map zE7))(hl:xs.length<=1000000):zAA prg zCr [v] H λu H'=>BufE 6 (λb=>H.size<=b/\b<H'.size) H' u (xs.map zE7)/\Keep zAK H H':=by
 apply zFt
 unfold zD9
 obtain⟨⟨a,c,rfl,hc,hx⟩,h2,h3⟩:=hv
 cases a with
 | none =>
  have hnil:xs.map zE7=[]:=by
   rcases hx with h|⟨b,o,h,_⟩
   ·exact h
   ·cases h
  have e:zAB .slc .eql (.slice none (xs.map zE7).length c) (.slice none 0 0)=some (.bool true):=rfl
  rw[e,zAa,zAl,if_pos rfl,hnil]
  exact⟨BufE.nil,Keep.refl⟩
 | some a =>
  have e:zAB .slc .eql (.slice (some a) (xs.map zE7).length c) (.slice none 0 0)=some (.bool false):=rfl
  have b0:zID prg zAH 0 []=some #[]:=by kernel_rfl
  rw[e,zAa,zAl,if_neg (by decide),b0,zCD]
  generalize hH1:H.push (.cells #[] zAH (0,0))=H1
  have k1:Keep zAK H H1:=by rw[<- hH1];exact Keep.push
  have n1:H1[H.size]? = some (.cells #[] zAH (0,0)):=by rw[<- hH1];exact zCh
  have s1:H1.size=H.size+1:=by rw[<- hH1];simp
  have hb:BufE 6 (H.size <= ·) H1 (.slice (some ⟨H.size,0,none⟩) 0 0) []:=BufE.fresh (cs:=[]) ⟨H.size,rfl,zAi _,n1⟩ (zAi _) (by simp) (λ_ _=>by simp[zTw]) (by simp) (λx h=>by cases h) (λx h=>by cases h)
  have hv1:SlE 6 P H1 (.slice (some a) (xs.map zE7).length c) (xs.map zE7):=SlE.keep ⟨⟨_,c,rfl,hc,hx⟩,h2,h3⟩ k1 λ_ _=>id
  refine hb.app hv1 (by omega) (by simp;omega) (by show H.size<=H1.size;omega) λu h2' hu k2=>?_
  rw[zAX]at hu
  have k02:=k1.fresh k2 λb hb=>hb
  exact⟨BufE.re hu λb hb hF=>⟨hF,hb⟩,k02⟩
theorem zAbs {z:Array Value}{n:Nat}(h0:0<z.size)(h:z.all (·.oneCell')=true):(zQU z n).all (·.oneCell')=true:=by
 rw[zBq]at h ⊢
 intro c hc
 unfold zQU at hc
 obtain⟨i,_,rfl⟩:=Array.mem_map.1 hc
 have hlt:i % z.size<z.size:=Nat.mod_lt _ h0
 rw[getElem!_pos z (i % z.size) hlt]
 exact h _ (Array.getElem_mem hlt)
theorem zAbt {z:Array Value}{n:Nat}:(zQU z n).size=n:=by simp[zQU]
theorem _root_.Go.X.BufE.cut0 {n:Nat}{F:zAY}{H:zAw}{b c:Nat}{cs:Array Value}{T:TypeId}{f:Nat×Nat}{m:Nat}(hb:H[b]? = some (.cells cs T f))(hF:F b)(hc:c*n<=cs.size)(ht:∀ i k,zTw f i k=true) :
  ∃ u,slS n (.slice (some ⟨b,0,none⟩) m c) none (some (.int .i64 0)) none=some u/\BufE n F H u []:=by
 have hbn:zMj m c none (some (.int .i64 0)) none=some (0,0,c):=by simp[zMj,bnd]
 refine⟨.slice (some ⟨b,if c=0 then 0 else 0+0*n,none⟩) 0 c,by simp[slS,hbn],(λx h=>absurd h (by simp)),(λx h=>absurd h (by simp)),.inr ⟨b,_,c,cs,T,f,rfl,hF,zAz _,hb,?_,ht,by simp⟩⟩
 split<;>omega
theorem zAbu {H:zAw}{n:Nat}(hn:n<=1000000):zAA prg zDl [.slice none 0 0,.int .i64 (n:Nat)] H λu H'=>BufE 6 (λb=>H.size<=b/\b<H'.size) H' u []/\Keep zAK H H':=by
 apply zFF
 unfold zEh
 have e1:zAB .no .lss (.int .i64 (n:Nat)) (.int .i64 0)=some (.bool false):=zAdH
 have e2:zAB .no .sub (.int .i64 0) (.int .i64 0)=some (.int .i64 0):=by rw[zAG];rfl
 have e3:zAB .no .sub (.int .i64 (n:Nat)) (.int .i64 0)=some (.int .i64 (n:Nat)):=by
  rw[zAG];simp only[zC9,Int.sub_zero];rw[zB8]<;>omega
 have e4:zAB .no .gtr (.int .i64 (n:Nat)) (.int .i64 0)=some (.bool (decide (n > 0))):=zZW (m:=0)
 have c0:zAeh (.slice none 0 0)=some (.int .i64 0):=rfl
 have l0:zDA (.slice none 0 0)=some (.int .i64 0):=rfl
 have s0:slS 6 (.slice none 0 0) none (some (.int .i64 0)) none=some (.slice none 0 0):=rfl
 refine zAav.2 ?_
 rw[e1,zAa,zAl,if_neg (by decide)]
 refine zOd (λu h=>BufE 6 (λb=>H.size<=b/\b<h.size) h u []/\Keep zAK H h) (λk hk=>?_) λu h hh=>hh
 simp only[c0,l0,e2,e3,e4,zAa,zAl]
 by_cases h0:n > 0
 ·rw[if_pos (by simpa using h0),s0,zAa]
  refine⟨none,0,0,.i64,n,_,rfl,rfl,by omega,by omega,zT5,zAbs (by simp[zEa zNT]) (by rw[zBq];intro c hc;exact zLx c (by simpa using hc)),λh=>by omega,λ_=>⟨by omega,by omega,#[],rfl,λcap rest h1 h2 h3=>?_⟩⟩
  rw[zAh]at h1 h3 ⊢
  have hsz:(#[]++zQU (zE7 zQF).toArray (n*6)++rest).size=cap*6:=by
   simp only[Array.size_append,zAbt,h3,zCg,List.length_nil]
   omega
  obtain⟨u,hu,hbu⟩:=BufE.cut0 (n:=6) (F:=λb=>H.size<=b/\b<(H.push (.cells (#[]++zQU (zE7 zQF).toArray (n*6)++rest) zAH (0,0))).size) (m:=n) (c:=cap) (zCh (H:=H) (y := .cells (#[]++zQU (zE7 zQF).toArray (n*6)++rest) zAH (0,0))) ⟨zAi _,by simp⟩ (by rw[hsz];exact zAi _) (λ_ _=>zKQ)
  rw[hu,zAa]
  exact hk _ _ ⟨hbu,Keep.push⟩
 ·rw[if_neg (by simpa using h0)]
  exact hk _ _ ⟨BufE.nil,Keep.refl⟩
theorem zXe {P Q:zAY}{H:zAw}{q:Nat}{v w:Value}{xs ys:List Dep}(a:At H q [v,w])(hv:SlE 6 P H v (xs.map zE7))(hw:SlE 6 Q H w (ys.map zE7))(hl:xs.length+ys.length<=1000000) :
  zAA prg zDg [.slice (some ⟨q,0,none⟩) 2 2] H λu H'=>BufE 6 (λb=>H.size<=b/\b<H'.size) H' u ((xs++ys).map zE7)/\Keep zAK H H':=by
 apply zFi
 unfold zDX
 have hlv:zDA (.slice (some ⟨q,0,none⟩) 2 2)=some (.int .i64 ((2:Nat):Int)):=rfl
 have lv:=hv.len
 have lw:=hw.len
 rw[zAf]at lv lw
 have i0:ixS 1 (.slice (some ⟨q,0,none⟩) 2 2) (.int .i64 ((0:Nat):Int))=some (Ptr q 0):=by rw[zJI (by omega)]
 have i1:ixS 1 (.slice (some ⟨q,0,none⟩) 2 2) (.int .i64 ((1:Nat):Int))=some (Ptr q 1):=by rw[zJI (by omega)]
 have d0:∀ h,Keep zAK H h->ld1 h (Ptr q 0)=some v:=λh k=>(a.keep k id).ld rfl
 have d1:∀ h,Keep zAK H h->ld1 h (Ptr q 1)=some w:=λh k=>(a.keep k id).ld rfl
 have adN:∀ x y:Nat,x+y<=1000000->zAB .no .add (.int .i64 (x:Nat)) (.int .i64 (y:Nat))=some (.int .i64 ((x+y:Nat):Int)):=λx y h=>by
  rw[zAG];simp only[zC9];rw[zB8 (by omega) (by omega)];rfl
 refine zNd (λt _ h=>t = .int .i64 ((xs.length+ys.length:Nat):Int)/\H=h) (λk hk=>?_) ?_
 ·rw[hlv,zAa]
  refine zVE (λt u h=>(∃ i:Nat,i<=2/\u = .int .i64 (i:Nat)/\t = .int .i64 (((if 0<i then xs.length else 0)+(if 1<i then ys.length else 0):Nat):Int))/\H=h) (λ_ u _=>match u with | .int _ t=>2-t.toNat|_=>0) ⟨⟨0,by omega,rfl,rfl⟩,rfl⟩ ?_
  rintro _ _ h ⟨⟨i,hi,rfl,rfl⟩,rfl⟩ kk hkk
  rw[zOn,zAa,zAl]
  have hc:i=0\/i=1\/i=2:=by omega
  rcases hc with rfl|rfl|rfl
  ·rw[if_pos (by decide)]
   refine zBN.2 ?_
   rw[i0,zAa,d0 _ Keep.refl,zAa,lv,zAa]
   rw[show((if 0<0 then xs.length else 0)+(if 1<0 then ys.length else 0):Nat)=0 from rfl,adN _ _ (by omega),zAa,zAdH,zAa]
   rw[zAl,if_neg (by decide)]
   show Mpu (zAB .no .add (.int .i64 ((0:Nat):Int)) (.int .i64 1)) _
   rw[zBU (by omega),zAa]
   exact hkk _ _ _ ⟨⟨1,by omega,rfl,by simp⟩,rfl⟩ (by show 2-1<2-0;omega)
  ·rw[if_pos (by decide)]
   refine zBN.2 ?_
   rw[i1,zAa,d1 _ Keep.refl,zAa,lw,zAa]
   rw[show((if 0<1 then xs.length else 0)+(if 1<1 then ys.length else 0):Nat)=xs.length by simp,adN _ _ (by omega),zAa,zAdH,zAa]
   rw[zAl,if_neg (by decide)]
   show Mpu (zAB .no .add (.int .i64 ((1:Nat):Int)) (.int .i64 1)) _
   rw[zBU (by omega),zAa]
   exact hkk _ _ _ ⟨⟨2,by omega,rfl,by simp⟩,rfl⟩ (by show 2-2<2-1;omega)
  ·rw[if_neg (by decide)]
   exact hk _ _ _ ⟨by simp,rfl⟩
 rintro _ _ _ ⟨rfl,rfl⟩
 refine zAM (zAbu (by omega)) ?_
 rintro u7 h7 ⟨hb7,k7⟩
 refine zNd (λt _ h=>BufE 6 (λb=>H.size<=b/\b<h.size) h t ((xs++ys).map zE7)/\Keep zAK H h) (λk hk=>?_) λt _ h hh=>hh
 rw[hlv,zAa]
 refine zVE (λt u h=>(∃ i:Nat,i<=2/\u = .int .i64 (i:Nat)/\BufE 6 (λb=>H.size<=b/\b<h.size) h t (((if 0<i then xs else [])++(if 1<i then ys else [])).map zE7))/\Keep zAK H h) (λ_ u _=>match u with | .int _ t=>2-t.toNat|_=>0) ⟨⟨0,by omega,rfl,by simpa using hb7⟩,k7⟩ ?_
 rintro t _ h ⟨⟨i,hi,rfl,hb⟩,kh⟩ kk hkk
 rw[zOn,zAa,zAl]
 have hc:i=0\/i=1\/i=2:=by omega
 have gh:=kh.1
 rcases hc with rfl|rfl|rfl
 ·rw[if_pos (by decide),i0,zAa,d0 _ kh,zAa]
  refine(hb.mono λb hb=>hb.1).app (hv.keep kh λ_ _=>id) (by omega) (by simp;omega) (by show H.size<=h.size;omega) λt2 h2 ht k2=>?_
  rw[zBU (by omega),zAa]
  refine hkk _ _ _ ⟨⟨1,by omega,rfl,?_⟩,kh.fresh k2 λb hb=>hb⟩ (by show 2-1<2-0;omega)
  have:=BufE.re ht (G:=λb=>H.size<=b/\b<h2.size) λb hb hF=>⟨hF,hb⟩
  simpa using this
 ·rw[if_pos (by decide),i1,zAa,d1 _ kh,zAa]
  refine(hb.mono λb hb=>hb.1).app (hw.keep kh λ_ _=>id) (by omega) (by simp;omega) (by show H.size<=h.size;omega) λt2 h2 ht k2=>?_
  rw[zBU (by omega),zAa]
  refine hkk _ _ _ ⟨⟨2,by omega,rfl,?_⟩,kh.fresh k2 λb hb=>hb⟩ (by show 2-2<2-1;omega)
  have:=BufE.re ht (G:=λb=>H.size<=b/\b<h2.size) λb hb hF=>⟨hF,hb⟩
  simpa using this
 ·rw[if_neg (by decide)]
  exact hk _ _ _ ⟨by simpa using hb,kh⟩
theorem zAbv {P:zAY}{H:zAw}{mv:List MV}{wants:List Dep}{vh vw:Value}{b:Int}{q i j:Nat}(hp:Prb P H mv wants vh vw)(aq:At H q (zM4 vh vw b))(hi:i<(zCq mv).length)(hj:j<(zCq mv).length) :
  zAA prg zDP [.int .i64 (i:Nat),.int .i64 (j:Nat),Ptr q 0] H λu H'=>u = .int .i64 (zAcr (gM (zCq mv) j).ver (gM (zCq mv) i).ver)/\Keep zAK H H':=by
 apply zJ9
 unfold zId
 obtain⟨x,hx,hgx,hxm,hmx,bx,ox,hix,hpx,_⟩:=hp.at hi
 obtain⟨y,hy,hgy,hym,hmy,by',oy,hiy,hpy,_⟩:=hp.at hj
 have d0:ld1 H (Ptr q 0)=some vh:=aq.ld rfl
 simp only[zBk,zAu,zAa,d0,hix .i64,hiy .i64,zVZ hpx hmx.wf,zVZ hpy hmy.wf]
 rw[hgx,hgy]
 exact zAM (zAhS hmy.wf.ver hmx.wf.ver) λ_ h hR=>hR
theorem zXf {H:zAw}{a:List UInt8}:zAA prg zEJ [str a] H λu H'=>u = .bool false/\H=H':=by
 apply zMX
 unfold zL2
 rw[zUG,zAa]
 exact⟨by simp,rfl⟩
theorem zV2 {H:zAw}{a b:List UInt8}:zAA prg zHL [str a,str b] H λu H'=>u = .int .i64 (zMA a b)/\H=H':=by
 apply zL0
 unfold zKB
 refine zAM zXf ?_
 rintro _ _ ⟨rfl,rfl⟩
 refine zAM zXf ?_
 rintro _ _ ⟨rfl,rfl⟩
 have e1:zAB .no .lss (str a) (str b)=some (.bool (less a b)):=by
  rw[zGw];simp only[zR1,zLL]
 have e2:zAB .no .gtr (str a) (str b)=some (.bool !(less a b || (a == b))):=by
  rw[zGw];simp only[zR1,zLL]
 rw[zAl,if_neg (by decide),zAl,if_neg (by decide),e1,zAa,zAl]
 cases h1:less a b
 ·rw[if_neg (by decide),e2,zAa,zAl,h1,zCC]
  have hz:=zFG.zero a b
  have ht:=zFG.three a b
  by_cases hab:a=b
  ·have:(a == b)=true:=by simpa using hab
   rw[this,if_neg (by decide)]
   exact⟨by rw[hz.2 hab],rfl⟩
  ·have:(a == b)=false:=by simpa using hab
   rw[this,if_pos (by rfl)]
   have hne:zMA a b≠0:=λe=>hab (hz.1 e)
   have hn1:zMA a b ≠ -1:=λe=>by
    unfold zMA at e
    rw[if_neg (by rw[h1];decide)]at e
    split at e<;>omega
   refine⟨?_,rfl⟩
   rcases ht with h|h|h
   ·exact absurd h hn1
   ·exact absurd h hne
   ·rw[h]
 ·rw[if_pos rfl]
  exact⟨by unfold zMA;rw[if_pos h1],rfl⟩
theorem zAbw {P:zAY}{H:zAw}{mv:List MV}{wants:List Dep}{vh vw:Value}{b:Int}{q i j:Nat}(hp:Prb P H mv wants vh vw)(aq:At H q (zM4 vh vw b))(hi:i<(zCq mv).length)(hj:j<(zCq mv).length) :
  zAA prg zDQ [.int .i64 (i:Nat),.int .i64 (j:Nat),Ptr q 0] H λu H'=>u = .int .i64 (zMA (gM (zCq mv) i).name (gM (zCq mv) j).name)/\H=H':=by
 apply zKa
 unfold zIe
 obtain⟨x,hx,hgx,hxm,hmx,bx,ox,hix,hpx,_⟩:=hp.at hi
 obtain⟨y,hy,hgy,hym,hmy,by',oy,hiy,hpy,_⟩:=hp.at hj
 have d0:ld1 H (Ptr q 0)=some vh:=aq.ld rfl
 simp only[zBk,zAu,zAa,d0,hix .i64,hiy .i64,zXc hpx,zXc hpy]
 rw[hgx,hgy]
 exact zAM zV2 λ_ h hR=>hR
def zV3 (xs:List Int)(lt:Int->Int->Bool):Prop:=∀ (G:zAw->Prop) (F:zAY) (H:zAw) (v fv:Value),BufE 1 F H v (zJK xs)->zAhj fv xs lt G->(∀ h,Keep F H h->G h)->(∀ b,F b->b<H.size)->zAA prg zDa [v,fv] H λ_ H'=>BufE 1 F H' v (zJK (zHe lt xs))/\Keep F H H'
def zAbx (hv:List Man)(x y:Int):Bool:=zAeS hv x.toNat y.toNat
def zUV (hv:List Man)(x y:Int):Bool:=zAig hv x.toNat y.toNat
theorem zAby {P Q:zAY}{H:zAw}{mv:List MV}{wants:List Dep}{vh vw vc:Value}{b:Int}{ch:List Nat}(hp:Prb P H mv wants vh vw)(hP:∀ b,P b->b<H.size)(hc:SlE 1 Q H vc (zJK (zs ch)))(hk:∀ k∈ch,k<(zCq mv).length)(hl:ch.length<=1000)(hS:zV3 (zs ch) (zAbx (zCq mv))) :
  zAA prg zGN [.agg (zM4 vh vw b).toArray,vc] H λu H'=>BufE 1 (λb=>H.size<=b/\b<H'.size) H' u (zJK (zs (zFN (zCq mv) ch)))/\Keep zAK H H':=by
 apply zKX
 unfold zJj
 simp only[zB7,zBd]
 generalize hH1:H.push (.cells (zM4 vh vw b).toArray zBQ (0,0))=H1
 have k1:Keep zAK H H1:=by rw[<- hH1];exact Keep.push
 have a1:At H1 H.size (zM4 vh vw b):=by rw[<- hH1];exact At.push
 have s1:H1.size=H.size+1:=by rw[<- hH1];simp
 refine zAM (zT6 (hc.keep k1 λ_ _=>id) (by rw[zPE];omega)) ?_
 rintro v h2 ⟨hv,k2⟩
 have k02:=k1.trans k2
 have a2:=a1.keep k2 id
 have hv':BufE 1 (λb=>H1.size<=b/\b<h2.size) h2 v (zJK (zs ch)):=hv
 have hcmp:zAhj (.func (.func zDQ) #[] #[Ptr H.size 0]) (zs ch) (zAbx (zCq mv)) (λh=>Keep (λb=>H1.size<=b/\b<h2.size) h2 h):=λx y h hx hy kh=>by
  obtain⟨i,hi,rfl⟩:=zPD hx
  obtain⟨j,hj,rfl⟩:=zPD hy
  refine .inl ⟨zDQ,#[],#[Ptr H.size 0],rfl,by kernel_rfl,?_⟩
  have k0h:Keep (λb=>H1.size<=b) H h:=(k02.mono λ_ _ h=>h.elim).trans (kh.mono λ_ _ h=>h.1)
  refine zAA.mono (zAbw (b:=b) (hp.keep k0h λb hb hS=>by have:=hP b hb;omega) (a2.keep kh (show ¬ (H1.size<=H.size/\H.size<h2.size) by omega)) (hk i hi) (hk j hj)) ?_
  rintro _ h' ⟨rfl,rfl⟩
  exact⟨⟨_,rfl,rfl⟩,Keep.refl⟩
 refine zAM (hS _ _ _ _ _ hv' hcmp (λh k=>k) λb hb=>hb.2) ?_
 rintro _ h3 ⟨hs,k3⟩
 have hs:BufE 1 (λb=>H1.size<=b/\b<h2.size) h3 v (zJK (zs (zFN (zCq mv) ch))):=by
  unfold zFN;rw[<- zYu];exact hs
 exact⟨BufE.re hs λb hb hF=>⟨by have:=hF.1;omega,hb⟩,k02.fresh k3 λb hb=>by have:=hb.1;omega⟩
theorem zAeU {n:Int}:zID prg zHb 1 [(0,.int .i64 n)]=some #[.int .i64 n]:=by kernel_rfl
theorem zAbz {hv:List Man}{d:Dep}{i:Nat}(h:i<hv.length):((List.range (i+1)).filter λk=>zK1 d (gM hv k))=((List.range i).filter λk=>zK1 d (gM hv k))++(if zK1 d (gM hv i) then [i] else []):=by
 rw[List.range_succ,List.filter_append,zCc];rfl
set_option maxHeartbeats 2000000 in
theorem zAbA {P:zAY}{H:zAw}{mv:List MV}{wants:List Dep}{vh vw:Value}{b:Int}{d:Dep}(hp:Prb P H mv wants vh vw)(hP:∀ b,P b->b<H.size)(hd:d.wf)(hl:mv.length<=1000)(hO:zQE H)(hS:zV3 (zs (zRi (zCq mv) d)) (zUV (zCq mv))) :
  zAA prg zGM [.agg (zM4 vh vw b).toArray,.agg (zE7 d).toArray] H λu H'=>BufE 1 (λb=>H.size<=b/\b<H'.size) H' u (zJK (zs (zOR (zCq mv) d)))/\Keep zAK H H':=by
 apply zKW
 unfold zJi
 simp only[zB7,zBd]
 generalize hH1:H.push (.cells (zM4 vh vw b).toArray zBQ (0,0))=H1
 have k1:Keep zAK H H1:=by rw[<- hH1];exact Keep.push
 have a1:At H1 H.size (zM4 vh vw b):=by rw[<- hH1];exact At.push
 have s1:H1.size=H.size+1:=by rw[<- hH1];simp
 generalize hH2:H1.push (.cells (zE7 d).toArray zAH (0,0))=H2
 have k2:Keep zAK H1 H2:=by rw[<- hH2];exact Keep.push
 have a2:At H2 H1.size (zE7 d):=by rw[<- hH2];exact At.push
 have s2:H2.size=H1.size+1:=by rw[<- hH2];simp
 have k02:=k1.trans k2
 have b2:=a1.keep k2 id
 have lh:=hp.h.len
 rw[zAf]at lh
 have hvl:(zCq mv).length=mv.length:=by simp
 refine zNd (λt _ h=>BufE 1 (λb=>H2.size<=b) h t (zJK (zs (zRi (zCq mv) d)))/\Keep zAK H2 h) (λk hk=>?_) ?_
 ·have d0:ld1 H2 (Ptr H.size 0)=some vh:=b2.ld rfl
  rw[zBk,zAa,zAu,d0,zAa,lh,zAa]
  refine zVE (λt u h=>(∃ i:Nat,i<=mv.length/\u = .int .i64 (i:Nat)/\BufE 1 (λb=>H2.size<=b) h t (zJK (zs ((List.range i).filter λk=>zK1 d (gM (zCq mv) k)))))/\Keep zAK H2 h) (λ_ u _=>match u with | .int _ t=>mv.length-t.toNat|_=>0) ⟨⟨0,zAz _,rfl,BufE.nil⟩,Keep.refl⟩ ?_
  rintro t _ h ⟨⟨i,hi,rfl,hb⟩,kh⟩ kk hkk
  rw[zOn,zAa,zAl]
  by_cases hlt:i<mv.length
  rotate_left
  ·rw[if_neg (by simpa using hlt)]
   obtain rfl:i=mv.length:=by omega
   refine hk _ _ _ ⟨?_,kh⟩
   unfold zRi
   rw[hvl];exact hb
  rw[if_pos (by simpa using hlt)]
  have gh:=kh.1
  have k0h:=k02.trans kh
  obtain⟨x,hx,hgx,hxm,hmx,bx,ox,hix,hpx,_⟩:=(hp.keep k0h λ_ _=>id).at (k:=i) (by rw[hvl];exact hlt)
  have htk:=zAbz (hv:=zCq mv) (d:=d) (i:=i) (by rw[hvl];exact hlt)
  refine zNd (λt2 _ h'=>BufE 1 (λb=>H2.size<=b) h' t2 (zJK (zs ((List.range (i+1)).filter λk=>zK1 d (gM (zCq mv) k))))/\Keep zAK H2 h') (λk7 hk7=>?_) ?_
  rotate_left
  ·rintro t2 _ h' ⟨hb',kh'⟩
   rw[zBU (by omega),zAa]
   exact hkk _ _ _ ⟨⟨i+1,by omega,rfl,hb'⟩,kh'⟩ (by show mv.length-(i+1)<mv.length-i;omega)
  rw[hix .i64,zAa,zMD hpx hmx.wf,zAa]
  simp only[zJL,zBd]
  generalize hH9:h.push (.cells (zGU ⟨[],zED,[],[],[]⟩ zCp zCp zCp).toArray zAg (0,0))=h9
  have k9:Keep zAK h h9:=by rw[<- hH9];exact Keep.push
  have a9:At h9 h.size (zGU ⟨[],zED,[],[],[]⟩ zCp zCp zCp):=by rw[<- hH9];exact At.push
  obtain⟨h10,st10,a10,k10⟩:=a9.st (n:=8) (ds:=mvC x) (zBI zMh) (zBI hmx.wf) (zGV hmx)
  have khh:Keep zAK h h10:=k9.fresh k10 λb hb=>by omega
  have a10':At h10 h.size (zGU x.1 x.2.1 x.2.2.1 x.2.2.2):=a10
  have hb10:=hb.keep khh λ_ _=>id
  have c10:=(a2.keep kh id).keep khh id
  have e:=λq=>zDx (q:=q) (a:=x.1.name) (b:=d.name)
  rw[st10,zA0]
  simp only[zBk,zAh,zAu,zAa]
  rw[zEc a10',zAa,zAbm c10,zAa,e,zAa]
  have no:∀ h',Keep zAK h10 h'->zK1 d x.1=false->BufE 1 (λb=>H2.size<=b) h' t (zJK (zs ((List.range (i+1)).filter λk=>zK1 d (gM (zCq mv) k))))/\Keep zAK H2 h':=λh' k' hf=>by
   refine⟨?_,(kh.trans khh).trans k'⟩
   rw[htk,hgx,hf]
   simpa using hb10.keep k' λ_ _=>id
  cases hn:decide (x.1.name=d.name)
  ·refine zJw (by decide) ?_
   rw[zAt,if_neg (by decide),zAa,zAl,if_neg (by decide)]
   exact hk7 _ _ _ (no _ Keep.refl (by unfold zK1;rw[hn];rfl))
  ·refine zDu rfl ?_
   rw[zUU c10 hd,zAa,zKd a10' hmx.wf,zAa]
   refine zAM (zLB hd.want hmx.wf.ver (hO.keep (k0h.trans khh) λ_ h=>h.elim)) ?_
   rintro _ h12 ⟨rfl,k12⟩
   have hfm:zK1 d x.1=(zGn d.want&&zFU x.1.ver&&zPY d.want.op d.want.ver x.1.ver):=by unfold zK1;rw[hn];rfl
   rw[zAt,if_pos rfl,zAa,zAl]
   cases hf:(zGn d.want&&zFU x.1.ver&&zPY d.want.op d.want.ver x.1.ver)
   ·rw[if_neg (by decide)]
    exact hk7 _ _ _ (no _ k12 (by rw[hfm,hf]))
   ·rw[if_pos rfl,zAeU,zCD]
    generalize hH14:h12.push (.cells #[.int .i64 (i:Nat)] zHb (0,0))=h14
    have k14:Keep zAK h12 h14:=by rw[<- hH14];exact Keep.push
    have hx14:SlE 1 (· = h12.size) h14 (.slice (some ⟨h12.size,0,none⟩) 1 1) (zJK [(i:Int)]) :=
     ⟨⟨_,1,rfl,zAi _,.inr ⟨h12.size,0,rfl,rfl,by rw[zO5,<- hH14];exact Pt.of zCh⟩⟩,zR7,zQo λv hv=>by simp at hv;subst hv;rfl⟩
    have g12:=k12.1
    have g14:=k14.1
    have ghh:=khh.1
    have hfl:=zBs (λk=>zK1 d (gM (zCq mv) k)) (List.range i)
    rw[List.length_range]at hfl
    refine((hb10.keep k12 λ_ _=>id).keep k14 λ_ _=>id).app hx14 (by omega) (by rw[zME,zME,zPE];simp;omega) (by show H2.size<=h14.size;omega) λt3 h15 ht k15=>?_
    refine hk7 _ _ _ ⟨?_,(((kh.trans khh).trans k12).trans k14).fresh k15 λb hb=>hb⟩
    have:zJK (zs ((List.range (i+1)).filter λk=>zK1 d (gM (zCq mv) k)))=zJK (zs ((List.range i).filter λk=>zK1 d (gM (zCq mv) k)))++zJK [(i:Int)]:=by
     rw[htk,hgx,hfm,hf];simp[zs,zHn]
    rw[this];exact ht
 rintro t _ h ⟨hb,kh⟩
 have hmem:∀ k∈zRi (zCq mv) d,k<(zCq mv).length:=λk hk=>by
  unfold zRi at hk
  exact zBS.1 (zAU.1 hk).1
 have g02:=k02.1
 have hb:BufE 1 (λb=>H2.size<=b/\b<h.size) h t (zJK (zs (zRi (zCq mv) d))):=BufE.re hb λb hb hF=>⟨hF,hb⟩
 have hcmp:zAhj (.func (.func zDP) #[] #[Ptr H.size 0]) (zs (zRi (zCq mv) d)) (zUV (zCq mv)) (λg=>Keep (λb=>H2.size<=b/\b<h.size) h g):=λx y g hx hy kg=>by
  obtain⟨i,hi,rfl⟩:=zPD hx
  obtain⟨j,hj,rfl⟩:=zPD hy
  refine .inl ⟨zDP,#[],#[Ptr H.size 0],rfl,by kernel_rfl,?_⟩
  have k0g:Keep (λb=>H2.size<=b) H g:=((k02.trans kh).mono λ_ _ h=>h.elim).trans (kg.mono λ_ _ h=>h.1)
  refine zAA.mono (zAbv (b:=b) (hp.keep k0g λb hb hS=>by have:=hP b hb;omega) ((b2.keep kh id).keep kg (show ¬ (H2.size<=H.size/\H.size<h.size) by omega)) (hmem i hi) (hmem j hj)) ?_
  rintro _ h' ⟨rfl,k'⟩
  exact⟨⟨_,rfl,rfl⟩,k'⟩
 refine zAM (hS _ _ _ _ _ hb hcmp (λh k=>k) λb hb=>hb.2) ?_
 rintro _ h3 ⟨hs,k3⟩
 have hs:BufE 1 (λb=>H2.size<=b/\b<h.size) h3 t (zJK (zs (zOR (zCq mv) d))):=by
  unfold zOR;rw[<- zYu];exact hs
 have g2:=kh.1
 exact⟨BufE.re hs λb hb hF=>⟨by have:=hF.1;omega,hb⟩,(k02.trans kh).fresh k3 λb hb=>by have:=hb.1;omega⟩
end Go.Proofs.YticdfkoncnnmmaaGreatDoor
