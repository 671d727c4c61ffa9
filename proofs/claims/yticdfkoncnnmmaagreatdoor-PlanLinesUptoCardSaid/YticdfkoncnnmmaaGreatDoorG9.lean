import Derived.Test.YticdfkoncnnmmaaGreatDoorG8
import Derived.Test.YticdfkoncnnmmaaGreatDoorG6
set_option linter.unusedSimpArgs false
set_option linter.unusedVariables false
set_option maxRecDepth 100000
namespace Go.Proofs.YticdfkoncnnmmaaGreatDoor
open Go.X Go.X.Diff
theorem zDS {b w:Bool}{yes:(zAn)->Prop}{no:(zAn)->Prop}{rest:zAn}(h:b=w)(hy:yes rest):J1 (λk=>Mif (.bool b) w (yes k) (no k)) rest:=zBQ.2 (zAO.2 (by rw[if_pos h];exact hy))
theorem zLF {b w:Bool}{yes:(zAn)->Prop}{H:zAw}{rest:zAn}(h:b≠w)(hy:rest undef H):J1 (λk=>Mif (.bool b) w (yes k) (k undef H)) rest:=zBQ.2 (zAO.2 (by rw[if_neg h];exact hy))
abbrev zKn (l:List Int):List (List Value):=zGD (l.map (Value.int .i64))
abbrev MV:=Man×Value×Value×Value
def mvC (x:MV):List Value:=zGI x.1 x.2.1 x.2.2.1 x.2.2.2
abbrev zBR (mv:List MV):List Man:=mv.map (·.1)
def zNO (vh vw:Value)(b:Int):List Value:=[vh,vw,.int .i64 b]
structure Prb (P:zA2)(H:zAw)(mv:List MV)(wants:List Dep)(vh vw:Value):Prop where
 h:SlE 8 P H vh (mv.map mvC)
 m:∀ x∈mv,zMf P H x.1 x.2.1 x.2.2.1 x.2.2.2
 w:SlE 6 P H vw (wants.map zFl)
 ww:∀ d∈wants,d.wf
 sm:∀ x∈mv,x.1.deps.length<=1000/\x.1.conf.length<=1000
theorem Prb.keep {P S:zA2}{H H':zAw}{mv:List MV}{wants:List Dep}{vh vw:Value}(h:Prb P H mv wants vh vw)(k:Keep S H H')(hs:∀ b,P b->¬ S b):Prb P H' mv wants vh vw :=
 ⟨h.h.keep k hs,λx hx=>(h.m x hx).keep k hs,h.w.keep k hs,h.ww,h.sm⟩
theorem zAcP {mv:List MV}{k:Nat}{x:MV}(h:mv[k]? = some x):gM (zBR mv) k=x.1:=by
 unfold gM
 exact zUa (by rw[zAp,h];rfl)
theorem Prb.at {P:zA2}{H:zAw}{mv:List MV}{wants:List Dep}{vh vw:Value}(h:Prb P H mv wants vh vw){k:Nat}(hk:k<(zBR mv).length):∃ x,mv[k]? = some x/\gM (zBR mv) k=x.1/\x∈mv/\zMf P H x.1 x.2.1 x.2.2.1 x.2.2.2/\∃ b o,(∀ q,ixS 8 vh (.int q k)=some (Ptr b o))/\Pt H b o (mvC x)/\P b:=by
 rw[zAf]at hk
 have hg:mv[k]? = some mv[k]:=zAj hk
 have hm:mv[k]∈mv:=zAG hk
 exact⟨mv[k],hg,zAcP hg,hm,h.m _ hm,h.h.at (x:=mvC mv[k]) (by rw[zAp,hg];rfl)⟩
theorem zYy {h:zAw}{b o:Nat}{x:MV}(p:Pt h b o (mvC x)):ld1 h (Ptr b o)=some (str x.1.name):=p.cell0 rfl
theorem zXf {h:zAw}{b o:Nat}{x:MV}(p:Pt h b o (mvC x))(hw:x.1.wf):ldN 4 h (Ptr b (o+1))=some (.agg (zED x.1.ver).toArray):=by
 have e:mvC x=[str x.1.name]++zED x.1.ver++[x.2.1,x.2.2.1,x.2.2.2]:=by simp[mvC,zGI]
 rw[e]at p
 exact(p.mid (A:=[str x.1.name]) (B:=zED x.1.ver) (o':=o+1) rfl).agg (zDL hw.ver)
theorem zNq {h:zAw}{b o:Nat}{x:MV}(p:Pt h b o (mvC x))(hw:x.1.wf):ldN 8 h (Ptr b o)=some (.agg (mvC x).toArray):=p.agg (zBK hw)
def zAk0 (fv:Value)(xs:List Int)(del:Int->Bool)(G:zAw->Prop):Prop:=∀ (n:Int) (h:zAw),n∈xs->G h->zDM prg fv [.int .i64 n] h λu h'=>u = .bool (del n)/\Keep zAM h h'
theorem zVh {G:zAw->Prop}{P:zA2}{H:zAw}{v fv:Value}{xs:List Int}{del:Int->Bool}(hv:SlE 1 P H v (zKn xs))(hd:zAk0 fv xs del G)(hG:∀ h,Keep zAM H h->G h)(hl:xs.length<=1099511627776) :
  zAz prg zD9 [v,fv] H λu H'=>Keep zAM H H'/\((u = .int .i64 (-1)/\∀ x∈xs,del x=false)\/∃ i:Nat,u = .int .i64 (i:Nat)/\(∀ x∈xs.take i,del x=false)/\∃ x,xs[i]? = some x/\del x=true):=by
 apply zI6
 unfold zHa
 have hlen:=hv.len
 rw[zTK,zAf]at hlen
 refine zNW (λ_ h=>(∀ x∈xs,del x=false)/\Keep zAM H h) (λk1 hk1=>?_) ?_
 ·rw[hlen,zAa]
  refine zKa (λu h=>∃ i:Nat,i<=xs.length/\u = .int .i64 (i:Nat)/\(∀ x∈xs.take i,del x=false)/\Keep zAM H h) (λu _=>match u with | .int _ t=>xs.length-t.toNat|_=>0) ⟨0,zAA _,rfl,by simp,Keep.refl⟩ ?_
  rintro _ h ⟨i,hi,rfl,hno,kh⟩ k hk
  rw[zOC,zAa,zAl]
  by_cases hlt:i<xs.length
  ·rw[if_pos (by simpa using hlt)]
   have hg:xs[i]? = some xs[i]:=zAj hlt
   have hm:xs[i]∈xs:=zAG hlt
   generalize xs[i]=x at *
   obtain⟨b,o,hix,hpt,_⟩:=(hv.keep kh λ_ _=>id).at (i:=i) (x:=[.int .i64 x]) (zNV (by rw[zAp,hg];rfl))
   rw[hix .i64,zAa,hpt.cell0 rfl,zAa]
   refine(hd x h hm (hG h kh)).mono ?_
   rintro _ h5 ⟨rfl,k5⟩
   rw[zAl]
   cases hdx:del x
   ·rw[if_neg (by decide),zBV (by omega),zAa]
    refine hk _ _ ⟨i+1,by omega,rfl,λt ht=>?_,kh.trans k5⟩ (by show xs.length-(i+1)<xs.length-i;omega)
    rw[zAI,hg]at ht
    rcases zAt.1 ht with ht|ht
    ·exact hno t ht
    ·obtain rfl:t=x:=by simpa using ht
     exact hdx
   ·rw[if_pos rfl]
    exact⟨kh.trans k5,.inr ⟨i,rfl,hno,x,hg,hdx⟩⟩
  ·rw[if_neg (by simpa using hlt)]
   rw[zAs (by omega)]at hno
   exact hk1 _ _ ⟨hno,kh⟩
 rintro _ h ⟨hno,kh⟩
 exact⟨kh,.inl ⟨rfl,hno⟩⟩
theorem zAlF {n:Nat}:zAC .no .geq (.int .i64 (n:Nat)) (.int .i64 0)=some (.bool true):=by
 rw[zAH];simp only[zC3];rw[decide_eq_true (by omega)]
theorem zAfm {n:Nat}:zAC .no .lss (.int .i64 (n:Nat)) (.int .i64 0)=some (.bool false):=by
 rw[zAH];simp only[zC3];rw[decide_eq_false (by omega)]
theorem zV4 {G:zAw->Prop}{P:zA2}{H:zAw}{v fv:Value}{xs:List Int}{del:Int->Bool}(hv:SlE 1 P H v (zKn xs))(hd:zAk0 fv xs del G)(hG:∀ h,Keep zAM H h->G h)(hl:xs.length<=1099511627776) :
  zAz prg zEL [v,fv] H λu H'=>u = .bool (xs.any del)/\Keep zAM H H':=by
 apply zH3
 unfold zGj
 refine zAJ (zVh hv hd hG hl) ?_
 rintro _ h1 ⟨k1,⟨rfl,hno⟩|⟨i,rfl,hno,x,hg,hx⟩⟩
 ·have e:zAC .no .geq (.int .i64 (-1)) (.int .i64 0)=some (.bool false):=rfl
  rw[e,zAa]
  refine⟨?_,k1⟩
  rw[zCO.2 λx hx=>by simp[hno x hx]]
 ·rw[zAlF,zAa]
  refine⟨?_,k1⟩
  rw[zBM.2 ⟨x,zAB hg,hx⟩]
theorem zAlG {P:zA2}{H:zAw}{mv:List MV}{wants:List Dep}{vh vw:Value}{b:Int}{q r:Nat}{nm:List UInt8}{k:Nat}(hp:Prb P H mv wants vh vw)(aq:At H q (zNO vh vw b))(ar:At H r [str nm])(hk:k<(zBR mv).length) :
  zAz prg zFi [.int .i64 (k:Nat),Ptr q 0,Ptr r 0] H λu H'=>u = .bool (decide ((gM (zBR mv) k).name=nm))/\Keep zAM H H':=by
 apply zMJ
 unfold zLe
 obtain⟨x,hx,hgx,hxm,hmv,bb,o,hix,hpt,_⟩:=hp.at hk
 have d0:ld1 H (Ptr q 0)=some vh:=aq.ld rfl
 have dr:ld1 H (Ptr r 0)=some (str nm):=ar.ld rfl
 rw[zBf,zAa,zAu,d0,zAa,hix .i64,zAa,zBf,zAa,zAu,zYy hpt,zAa,dr,zAa,zDG,zAa,hgx]
 exact⟨rfl,Keep.refl⟩
theorem zQw {ch:List Nat}{n:Int}(h:n∈zs ch):∃ k∈ch,n=(k:Int):=by
 unfold zs at h
 obtain⟨k,hk,rfl⟩:=zAo.1 h
 exact⟨k,hk,rfl⟩
theorem zAj3 {ch:List Nat}{i k:Nat}(h:ch[i]? = some k):(zs ch)[i]? = some (k:Int):=by unfold zs;rw[zAp,h];rfl
theorem zQx {ch:List Nat}:(zs ch).length=ch.length:=by simp[zs]
theorem zAig {ch:List Nat}{i:Nat}{n:Int}(h:(zs ch)[i]? = some n):∃ k,ch[i]? = some k/\n=(k:Int):=by
 unfold zs at h
 rw[zAp]at h
 obtain⟨k,h1,h2⟩:=zBy.1 h
 exact⟨k,h1,h2.symm⟩
theorem zAih {ch:List Nat}{i:Nat}:(zs ch).take i=zs (ch.take i):=by simp[zs,zCw]
theorem zAcQ {ch:List Nat}{k:Nat}(h:k∈ch):(k:Int)∈zs ch:=zAo.2 ⟨k,h,rfl⟩
theorem zAmW {P Q:zA2}{H:zAw}{mv:List MV}{wants:List Dep}{vh vw vc:Value}{b:Int}{nm:List UInt8}{ch:List Nat}(hp:Prb P H mv wants vh vw)(hc:SlE 1 Q H vc (zKn (zs ch)))(hk:∀ k∈ch,k<(zBR mv).length)(hl:ch.length<=1099511627776) :
  zAz prg zJw [.agg (zNO vh vw b).toArray,vc,str nm] H λu H'=>u=(match ofF (zBR mv) ch nm with|some k => .tuple #[.int .i64 (k:Nat),.bool true]|none => .tuple #[.int .i64 0,.bool false])/\Keep zAM H H':=by
 apply zNE
 unfold zMF
 simp only[zB1,zBa]
 generalize hH1:H.push (.cells (zNO vh vw b).toArray zBX (0,0))=H1
 have k1:Keep zAM H H1:=by rw[<- hH1];exact Keep.push
 have a1:At H1 H.size (zNO vh vw b):=by rw[<- hH1];exact At.push
 generalize hH2:H1.push (.cells (Value.cells (str nm)) zBd (0,0))=H2
 have k2:Keep zAM H1 H2:=by rw[<- hH2];exact Keep.push
 have a2:At H2 H1.size [str nm]:=by rw[<- hH2];exact At.push
 have k02:=k1.trans k2
 let del:Int->Bool:=λn=>decide ((gM (zBR mv) n.toNat).name=nm)
 have hd:zAk0 (.func (.func zFi) #[] #[Ptr H.size 0,Ptr H1.size 0]) (zs ch) del (λh=>Keep zAM H2 h):=λn h hn kh=>by
  obtain⟨k,hkm,rfl⟩:=zQw hn
  refine .inl ⟨zFi,#[],#[Ptr H.size 0,Ptr H1.size 0],rfl,by kernel_rfl,?_⟩
  exact zAlG (hp.keep (k02.trans kh) λ_ _=>id) ((a1.keep k2 id).keep kh id) (a2.keep kh id) (hk k hkm)
 refine zAJ (zVh (hc.keep k02 λ_ _=>id) hd (λh kh=>kh) (by rw[zQx];exact hl)) ?_
 rintro _ h3 ⟨k3,⟨rfl,hno⟩|⟨i,rfl,hno,x,hg,hx⟩⟩
 ·have e:zAC .no .lss (.int .i64 (-1)) (.int .i64 0)=some (.bool true):=rfl
  have:ofF (zBR mv) ch nm=none:=zC4.2 λk hk=>by
   have:=hno _ (zAcQ hk)
   simpa [del] using this
  rw[e,zAa,zAl,if_pos rfl,this]
  exact⟨rfl,k02.trans k3⟩
 ·obtain⟨k,hgk,rfl⟩:=zAig hg
  have:ofF (zBR mv) ch nm=some k:=zAct (i:=i) (λp hp=>by
   have:=hno (p:Int) (by rw[zAih];exact zAcQ hp)
   simpa [del] using this) hgk (by simpa [del] using hx)
  obtain⟨bb,o,hix,hpt,_⟩:=((hc.keep k02 λ_ _=>id).keep k3 λ_ _=>id).at (i:=i) (x:=[.int .i64 (k:Int)]) (zNV (by rw[zAp,hg];rfl))
  rw[zAfm,zAa,zAl,if_neg (by decide),hix .i64,zAa,hpt.cell0 rfl,zAa,this]
  exact⟨rfl,k02.trans k3⟩
def zAmq (fv:Value)(xs:List Dep)(del:Dep->Bool)(G:zAw->Prop):Prop:=∀ (n:Dep) (h:zAw),n∈xs->G h->zDM prg fv [.agg (zFl n).toArray] h λu h'=>u = .bool (del n)/\Keep zAM h h'
theorem zRC {G:zAw->Prop}{P:zA2}{H:zAw}{v fv:Value}{xs:List Dep}{del:Dep->Bool}(hv:SlE 6 P H v (xs.map zFl))(hw:∀ d∈xs,d.wf)(hd:zAmq fv xs del G)(hG:∀ h,Keep zAM H h->G h)(hl:xs.length<=1099511627776) :
  zAz prg zCy [v,fv] H λu H'=>u = .bool (xs.any del)/\Keep zAM H H':=by
 apply zEZ
 unfold zDH
 refine zAJ (R:=λu H'=>Keep zAM H H'/\((u = .int .i64 (-1)/\∀ x∈xs,del x=false)\/∃ (i:Nat) (x:Dep),u = .int .i64 (i:Nat)/\x∈xs/\del x=true)) ?_ ?_
 ·apply zFr
  unfold zDV
  have hlen:=hv.len
  rw[zAf]at hlen
  refine zNW (λ_ h=>(∀ x∈xs,del x=false)/\Keep zAM H h) (λk1 hk1=>?_) ?_
  ·rw[hlen,zAa]
   refine zKa (λu h=>∃ i:Nat,i<=xs.length/\u = .int .i64 (i:Nat)/\(∀ x∈xs.take i,del x=false)/\Keep zAM H h) (λu _=>match u with | .int _ t=>xs.length-t.toNat|_=>0) ⟨0,zAA _,rfl,by simp,Keep.refl⟩ ?_
   rintro _ h ⟨i,hi,rfl,hno,kh⟩ k hk
   rw[zOC,zAa,zAl]
   by_cases hlt:i<xs.length
   ·rw[if_pos (by simpa using hlt)]
    have hg:xs[i]? = some xs[i]:=zAj hlt
    have hm:xs[i]∈xs:=zAG hlt
    generalize xs[i]=x at *
    obtain⟨b,o,hix,hpt,_⟩:=(hv.keep kh λ_ _=>id).at (i:=i) (x:=zFl x) (by rw[zAp,hg];rfl)
    rw[hix .i64,zAa,hpt.agg (zEd (hw x hm)),zAa]
    refine(hd x h hm (hG h kh)).mono ?_
    rintro _ h5 ⟨rfl,k5⟩
    rw[zAl]
    cases hdx:del x
    ·rw[if_neg (by decide),zBV (by omega),zAa]
     refine hk _ _ ⟨i+1,by omega,rfl,λt ht=>?_,kh.trans k5⟩ (by show xs.length-(i+1)<xs.length-i;omega)
     rw[zAI,hg]at ht
     rcases zAt.1 ht with ht|ht
     ·exact hno t ht
     ·obtain rfl:t=x:=by simpa using ht
      exact hdx
    ·rw[if_pos rfl]
     exact⟨kh.trans k5,.inr ⟨i,x,rfl,hm,hdx⟩⟩
   ·rw[if_neg (by simpa using hlt)]
    rw[zAs (by omega)]at hno
    exact hk1 _ _ ⟨hno,kh⟩
  rintro _ h ⟨hno,kh⟩
  exact⟨kh,.inl ⟨rfl,hno⟩⟩
 ·rintro _ h1 ⟨k1,⟨rfl,hno⟩|⟨i,x,rfl,hm,hx⟩⟩
  ·have e:zAC .no .geq (.int .i64 (-1)) (.int .i64 0)=some (.bool false):=rfl
   rw[e,zAa]
   refine⟨?_,k1⟩
   rw[zCO.2 λx hx=>by simp[hno x hx]]
  ·rw[zAlF,zAa]
   refine⟨?_,k1⟩
   rw[zBM.2 ⟨x,hm,hx⟩]
theorem zAcR {h:zAw}{q:Nat}{d:Dep}(a:At h q (zFl d)):ld1 h (Ptr q 0)=some (str d.name):=a.ld rfl
theorem zV5 {h:zAw}{q:Nat}{d:Dep}(a:At h q (zFl d))(hd:d.wf):ldN 5 h (Ptr q 1)=some (.agg (zFf d.want).toArray):=by
 obtain⟨T,a⟩:=a
 exact ldN_mid (A:=[str d.name]) (B:=zFf d.want) (C:=[]) (by rw[zAN];exact a) rfl (zF8 hd.want).symm
theorem zXg {P Q:zA2}{H:zAw}{x y:MV}(hx:zMf P H x.1 x.2.1 x.2.2.1 x.2.2.2)(hy:y.1.wf)(hl:x.1.conf.length<=1000)(hO:zQR H) :
  zAz prg zJA [.agg (mvC x).toArray,.agg (mvC y).toArray] H λu H'=>u = .bool (zAbp x.1 y.1)/\Keep zAM H H':=by
 apply zO7
 unfold zOR
 simp only[zB1,zBa]
 generalize hH1:H.push (.cells (mvC x).toArray zAi (0,0))=H1
 have k1:Keep zAM H H1:=by rw[<- hH1];exact Keep.push
 have a1:At H1 H.size (zGI x.1 x.2.1 x.2.2.1 x.2.2.2):=by rw[<- hH1];exact At.push
 generalize hH2:H1.push (.cells (mvC y).toArray zAi (0,0))=H2
 have k2:Keep zAM H1 H2:=by rw[<- hH2];exact Keep.push
 have a2:At H2 H1.size (zGI y.1 y.2.1 y.2.2.1 y.2.2.2):=by rw[<- hH2];exact At.push
 have k02:=k1.trans k2
 have d6:=(zHm (a1.keep k2 id) hx.wf).2.1
 rw[zBf,zAa,zAg,d6,zAa]
 have hd:zAmq (.func (.func zGw) #[] #[Ptr H1.size 0]) x.1.conf (λd=>zP5 d y.1) (λh=>Keep zAM H2 h):=λd h hm kh=>by
  refine .inl ⟨zGw,#[],#[Ptr H1.size 0],rfl,by kernel_rfl,?_⟩
  have hdw:=hx.wf.conf d hm
  show zAz prg zGw [.agg (zFl d).toArray,Ptr H1.size 0] h _
  apply zN7
  unfold zNk
  simp only[zB1,zBa]
  generalize hH3:h.push (.cells (zFl d).toArray zAL (0,0))=h3
  have k3:Keep zAM h h3:=by rw[<- hH3];exact Keep.push
  have a3:At h3 h.size (zFl d):=by rw[<- hH3];exact At.push
  have b3:=(a2.keep kh id).keep k3 id
  have e:=λq=>zDG (q:=q) (a:=d.name) (b:=y.1.name)
  rw[zBf,zAa,zAu,zAcR a3,zAa,zBf,zAa,zAu,zDd b3,zAa,e,zAa]
  unfold zP5
  have ec:decide (y.1.name=d.name)=decide (d.name=y.1.name):=by rw[decide_eq_decide];exact eq_comm
  rw[ec]
  cases hn:decide (d.name=y.1.name)
  ·simp only[zBQ,zAO,zAb,if_false,zAv,zAa,zA1]
   exact⟨by trivial,k3⟩
  ·refine zDS rfl ?_
   rw[zBf,zAa,zAg,zV5 a3 hdw,zAa,zBf,zAa,zAg,zI7 b3 hy,zAa]
   refine zAJ (zSg hdw.want hy.ver (hO.keep (k02.trans (kh.trans k3)) λ_ h=>h.elim)) ?_
   rintro _ h4 ⟨rfl,k4⟩
   rw[zAv,if_pos rfl,zAa,zBh]
   exact⟨rfl,k3.trans k4⟩
 refine zAJ (zRC (hx.c.keep k02 λ_ _=>id) hx.wf.conf hd (λh kh=>kh) (by omega)) ?_
 rintro _ h3 ⟨rfl,k3⟩
 exact⟨rfl,k02.trans k3⟩
theorem zAii {P Q:zA2}{H:zAw}{mv:List MV}{wants:List Dep}{vh vw vc:Value}{b:Int}{ch:List Nat}{k:Nat}(hp:Prb P H mv wants vh vw)(hc:SlE 1 Q H vc (zKn (zs ch)))(hk:∀ k∈ch,k<(zBR mv).length)(hkk:k<(zBR mv).length)(hl:ch.length<=1099511627776)(hO:zQR H) :
  zAz prg zHK [.agg (zNO vh vw b).toArray,vc,.int .i64 (k:Nat)] H λu H'=>u = .bool (zPJ (zBR mv) ch k)/\Keep zAM H H':=by
 apply zMc
 unfold zKj
 simp only[zB1,zBa]
 generalize hH1:H.push (.cells (zNO vh vw b).toArray zBX (0,0))=H1
 have k1:Keep zAM H H1:=by rw[<- hH1];exact Keep.push
 have a1:At H1 H.size (zNO vh vw b):=by rw[<- hH1];exact At.push
 generalize hH2:H1.push (.cells (Value.cells (.int .i64 (k:Nat))) zHC (0,0))=H2
 have k2:Keep zAM H1 H2:=by rw[<- hH2];exact Keep.push
 have a2:At H2 H1.size [.int .i64 (k:Nat)]:=by rw[<- hH2];exact At.push
 have k02:=k1.trans k2
 let del:Int->Bool:=λn=>zAbp (gM (zBR mv) n.toNat) (gM (zBR mv) k) || zAbp (gM (zBR mv) k) (gM (zBR mv) n.toNat)
 have hd:zAk0 (.func (.func zEm) #[] #[Ptr H.size 0,Ptr H1.size 0]) (zs ch) del (λh=>Keep zAM H2 h):=λn h hn kh=>by
  obtain⟨i,him,rfl⟩:=zQw hn
  refine .inl ⟨zEm,#[],#[Ptr H.size 0,Ptr H1.size 0],rfl,by kernel_rfl,?_⟩
  show zAz prg zEm [.int .i64 (i:Nat),Ptr H.size 0,Ptr H1.size 0] h _
  have hph:=hp.keep (k02.trans kh) λ_ _=>id
  have aq:=(a1.keep k2 id).keep kh id
  have ar:=a2.keep kh id
  have hOh:=hO.keep (k02.trans kh) λ_ h=>h.elim
  apply zLg
  unfold zJf
  obtain⟨x,hx,hgx,hxm,hmx,bx,ox,hix,hpx,_⟩:=hph.at (hk i him)
  obtain⟨y,hy,hgy,hym,hmy,by',oy,hiy,hpy,_⟩:=hph.at hkk
  have d0:∀ g,Keep zAM h g->ld1 g (Ptr H.size 0)=some vh:=λg kg=>(aq.keep kg id).ld rfl
  have dr:∀ g,Keep zAM h g->ld1 g (Ptr H1.size 0)=some (.int .i64 (k:Nat)):=λg kg=>(ar.keep kg id).ld rfl
  rw[zBf,zAa,zAu,d0 _ Keep.refl,zAa,hix .i64,zAa,zNq hpx hmx.wf,zAa]
  simp only[zBf,zAu,zAa]
  rw[d0 _ Keep.refl,zAa,dr _ Keep.refl,zAa,hiy .i64,zAa,zNq hpy hmy.wf,zAa]
  refine zAJ (zXg (Q:=P) hmx hmy.wf (hp.sm x hxm).2 hOh) ?_
  rintro _ h1 ⟨rfl,k1'⟩
  have ei:del (i:Int)=(zAbp x.1 y.1 || zAbp y.1 x.1):=by
   show(zAbp (gM (zBR mv) (i:Int).toNat) (gM (zBR mv) k) || _)=_
   rw[show((i:Int)).toNat=i from rfl,hgx,hgy]
  rw[ei]
  cases hr:zAbp x.1 y.1
  ·refine zDS rfl ?_
   rw[d0 _ k1',zAa,dr _ k1',zAa,hiy .i64,zAa,zNq (hpy.keep k1' id) hmy.wf,zAa,zAa,hix .i64,zAa,zNq (hpx.keep k1' id) hmx.wf,zAa]
   refine zAJ (zXg (Q:=P) (hmy.keep k1' λ_ _=>id) hmx.wf (hp.sm y hym).2 (hOh.keep k1' λ_ h=>h.elim)) ?_
   rintro _ h3 ⟨rfl,k3⟩
   rw[zAv,if_neg (by decide),zAa,Bool.false_or]
   exact⟨rfl,k1'.trans k3⟩
  ·refine zLF (by decide) ?_
   rw[zAv,if_pos rfl,zAa,Bool.true_or]
   exact⟨rfl,k1'⟩
 refine zAJ (zV4 (hc.keep k02 λ_ _=>id) hd (λh kh=>kh) (by rw[zQx];exact hl)) ?_
 rintro _ h3 ⟨rfl,k3⟩
 refine⟨?_,k02.trans k3⟩
 unfold zPJ zs
 rw[List.any_map];rfl
theorem zAaQ {H:zAw}{u:Nat}(hu:u<256):zAz prg zET [.int .u64 (u:Nat)] H λv H'=>(∃ m:Nat,v = .int .i64 (m:Nat))/\H=H':=by
 apply zHj
 unfold zIR
 rw[zAl,if_neg (by decide)]
 refine zAJ (R:=λv H'=>(∃ m:Nat,v = .int .i64 (m:Nat))/\H=H') ?_ λv h hR=>hR
 apply zE8
 unfold zF3
 have ge:∀ (b:Nat),u<b->zAC .no .geq (.int .u64 (u:Nat)) (.int .u64 (b:Nat))=some (.bool false):=λb hb=>by
  rw[zAH];simp only[zC3];rw[decide_eq_false (by omega)]
 have g1:zAC .no .geq (.int .u64 (u:Nat)) (.int .u64 4294967296)=some (.bool false):=ge 4294967296 (by omega)
 have g2:zAC .no .geq (.int .u64 (u:Nat)) (.int .u64 65536)=some (.bool false):=ge 65536 (by omega)
 have g3:zAC .no .geq (.int .u64 (u:Nat)) (.int .u64 256)=some (.bool false):=ge 256 (by omega)
 simp only[zAb1,g1,g2,g3,zAa,zAl,zAb,if_false]
 exact zPZ (R:=λv _=>(∃ m:Nat,v = .int .i64 (m:Nat))/\True) (H:=H) (off:=0) (x:=u) hu (by omega) ⟨⟨_,rfl⟩,trivial⟩
def zAi5 (fv:Value)(xs:List Int)(lt:Int->Int->Bool)(G:zAw->Prop):Prop:=∀ (a b:Int) (h:zAw),a∈xs->b∈xs->G h->zDM prg fv [.int .i64 a,.int .i64 b] h λu h'=>(∃ n:Int,u = .int .i64 n/\decide (n<0)=lt a b)/\Keep zAM h h'
theorem zZR {l:List Int}{i:Nat}{n:Int}:(zKn l).set i [.int .i64 n]=zKn (l.set i n):=by simp[zGD,List.map_set]
theorem zRD {l:List Int}{i:Nat}{n:Int}(h:l[i]? = some n):(zKn l)[i]? = some [.int .i64 n]:=zNV (by rw[zAp,h];rfl)
theorem zNr {l:List Int}:(zKn l).length=l.length:=by simp
theorem zAfn {A R:List Int}{x y:Int}:((A++y::x::R).set (A.length+1) y).set A.length x=A++x::y::R:=by
 rw[zCM _ _ (by omega)]
 rw[show A.length+1-A.length=1 by omega]
 rw[zCM _ _ (by omega),Nat.sub_self]
 rfl
theorem zYz {i:Nat}(h:i+1<=9223372036854775807):zAC .no .sub (.int .i64 ((i+1:Nat):Int)) (.int .i64 1)=some (.int .i64 (i:Nat)):=by
 rw[zAH];simp only[zC3];rw[zB9 (by omega) (by omega)];congr 2;omega
theorem zAcS {α:Type}{lt:α->α->Bool}{x:α}:zHF lt [x]=[x]:=rfl
theorem zAcT {α:Type}{lt:α->α->Bool}{x y:α}{ys:List α}:zTd lt x (y::ys)=if lt x y=true then y::zTd lt x ys else x::y::ys:=by rw[zTd]
set_option maxHeartbeats 2000000 in
theorem zYA {F G:zAw->Prop}{Fb:zA2}{H:zAw}{v fv:Value}{xs:List Int}{lt:Int->Int->Bool}(hv:BufE 1 Fb H v (zKn xs))(hc:zAi5 fv xs lt G)(hG:∀ h,Keep Fb H h->G h)(hl:xs.length<=1000) :
  zAz prg zDx [v,.int .i64 0,.int .i64 (xs.length:Nat),fv] H λ_ H'=>BufE 1 Fb H' v (zKn (zHF lt xs))/\Keep Fb H H':=by
 apply zHE
 unfold zFN
 have e01:zAC .no .add (.int .i64 0) (.int .i64 1)=some (.int .i64 ((1:Nat):Int)):=rfl
 rw[e01,zAa]
 have hx0:xs=zHF lt (xs.take 1)++xs.drop 1:=by
  cases xs with
  | nil=>rfl
  | cons a l=>simp[zAcS]
 refine zKa (λu h=>∃ i:Nat,1<=i/\i<=xs.length+1/\u = .int .i64 (i:Nat)/\BufE 1 Fb h v (zKn (zHF lt (xs.take i)++xs.drop i))/\Keep Fb H h) (λu _=>match u with | .int _ t=>xs.length+1-t.toNat|_=>0) ⟨1,zAh _,by omega,rfl,by rw[<- hx0];exact hv,Keep.refl⟩ ?_
 rintro _ h ⟨i,hi1,hi,rfl,hb,kh⟩ kk hkk
 rw[zOC,zAa,zAl]
 by_cases hlt:i<xs.length
 rotate_left
 ·rw[if_neg (by simpa using hlt)]
  rw[zAs (by omega),zCH (by omega),zAN]at hb
  exact⟨hb,kh⟩
 rw[if_pos (by simpa using hlt)]
 have hg:xs[i]? = some xs[i]:=zAj hlt
 have hmx:xs[i]∈xs:=zAG hlt
 have hdr:xs.drop i=xs[i]::xs.drop (i+1):=zBF hlt
 have htk:xs.take (i+1)=xs.take i++[xs[i]]:=by rw[zAI,hg];rfl
 have hlen:(zHF lt (xs.take i)).length=i:=by rw[zXc,zAZ];omega
 have hmem:∀ y∈zHF lt (xs.take i),y∈xs:=λy hy=>zBs (zT5.1 hy)
 have hins:zHF lt (xs.take (i+1))=(zTd lt xs[i] (zHF lt (xs.take i)).reverse).reverse:=by
  rw[htk];unfold zHF
  rw[zI8,List.reverse_reverse]
 rw[hdr]at hb
 generalize xs[i]=x at *
 generalize hS:zHF lt (xs.take i)=S at *
 generalize hR:xs.drop (i+1)=R at *
 refine zMh (λ_ _ h'=>BufE 1 Fb h' v (zKn (zHF lt (xs.take (i+1))++R))/\Keep Fb H h') (λk3 hk3=>?_) ?_
 rotate_left
 ·rintro _ _ h' ⟨hb',kh'⟩
  rw[zBV (by omega),zAa]
  exact hkk _ _ ⟨i+1,by omega,by omega,rfl,by rw[hR];exact hb',kh'⟩ (by show xs.length+1-(i+1)<xs.length+1-i;omega)
 refine zKa (λu h'=>∃ (A B:List Int),u = .int .i64 (A.length:Nat)/\S=A++B/\zTd lt x S.reverse=B.reverse++zTd lt x A.reverse/\BufE 1 Fb h' v (zKn (A++x::(B++R)))/\Keep Fb H h') (λu _=>match u with | .int _ t=>t.toNat|_=>0) ⟨S,[],by rw[hlen],by simp,by simp,by simpa using hb,kh⟩ ?_
 rintro _ h' ⟨A,B,rfl,hAB,hin,hb',kh'⟩ k5 hk5
 have hAl:A.length<=1000:=by
  have:S.length=A.length+B.length:=by rw[hAB,zAq]
  omega
 have g0:zAC .no .gtr (.int .i64 (A.length:Nat)) (.int .i64 0)=some (.bool (decide (A.length > 0))):=zAbr (m:=0)
 rw[g0,zAa]
 rcases List.eq_nil_or_concat A with rfl|⟨A',y,hA⟩
 ·refine zLF (by decide) ?_
  rw[zAv]
  show Mpu (some (.bool false)) _
  rw[zAa,zAl,if_neg (by decide)]
  refine hk3 _ _ _ ⟨?_,kh'⟩
  have:zHF lt (xs.take (i+1))=x::B:=by
   rw[hins,hin];simp[zTd]
  rw[this];simpa using hb'
 ·rw[List.concat_eq_append]at hA
  subst hA
  have hAl':(A'++[y]).length=A'.length+1:=by simp
  rw[hAl',decide_eq_true (by omega)]
  have eL:A'++[y]++x::(B++R)=A'++y::x::(B++R):=by simp
  rw[eL]at hb'
  have gx:(A'++y::x::(B++R))[A'.length+1]? = some x:=by
   rw[zBb (by omega)];simp
  have gy:(A'++y::x::(B++R))[A'.length]? = some y:=by
   rw[zBb (by omega)];simp
  have hym:y∈xs:=hmem y (by rw[hAB];simp)
  obtain⟨bx,ox,hix,hpx,_⟩:=hb'.sl.at (zRD gx)
  obtain⟨by',oy,hiy,hpy,_⟩:=hb'.sl.at (zRD gy)
  refine zDS rfl ?_
  rw[hix .i64,zAa,hpx.cell0 rfl,zAa,zYz (by omega),zAa,hiy .i64,zAa,hpy.cell0 rfl,zAa]
  refine(hc x y h' hmx hym (hG h' kh')).mono ?_
  rintro _ h8 ⟨⟨n,rfl,hn⟩,k8⟩
  have en:zAC .no .lss (.int .i64 n) (.int .i64 0)=some (.bool (decide (n<0))):=ltI
  have hb8:=hb'.keep k8 λ_ _=>id
  have kh8:Keep Fb H h8:=kh'.trans (k8.mono λ_ _ h=>h.elim)
  rw[en,zAa,hn]
  show Mpu (zBH (.bool true) (.bool (lt x y)) (.bool false)) _
  rw[zAv,if_pos rfl,zAa,zAl]
  have hrev:(A'++[y]).reverse=y::A'.reverse:=by simp
  rw[hrev,zAcT]at hin
  cases hxy:lt x y
  ·rw[if_neg (by decide)]
   rw[hxy,if_neg (by decide)]at hin
   refine hk3 _ _ _ ⟨?_,kh8⟩
   have:zHF lt (xs.take (i+1))=A'++y::x::B:=by
    rw[hins,hin];simp
   rw[this];simpa using hb8
  ·rw[if_pos rfl]
   rw[hxy,if_pos rfl]at hin
   obtain⟨b1,o1,h10,i1,p1,st1',hb10,k10⟩:=hb8.st (zRD gx) (j:=0) (by omega) (w := .int .i64 y) rfl
   have e1:([Value.int .i64 x]).set 0 (.int .i64 y)=[.int .i64 y]:=rfl
   rw[e1,zZR]at hb10
   have gy2:((A'++y::x::(B++R)).set (A'.length+1) y)[A'.length]? = some y:=by
    rw[List.getElem?_set_ne (by omega)];exact gy
   obtain⟨b2,o2,h11,i2,p2,st2',hb11,k11⟩:=hb10.st (zRD gy2) (j:=0) (by omega) (w := .int .i64 x) rfl
   have e2:([Value.int .i64 y]).set 0 (.int .i64 x)=[.int .i64 x]:=rfl
   rw[e2,zZR,zAfn]at hb11
   have hpx8:=hpx.keep k8 id
   have hpy8:=hpy.keep k8 id
   have ly:ld1 h8 (Ptr by' oy)=some (.int .i64 y):=hpy8.cell0 rfl
   have lx:ld1 h8 (Ptr bx ox)=some (.int .i64 x):=hpx8.cell0 rfl
   simp only[zAa,hiy .i64,hix .i64,ly,lx]
   have j1:Ptr bx ox=Ptr b1 o1:=zAK ((hix .i64).symm.trans (i1 .i64))
   have j2:Ptr by' oy=Ptr b2 o2:=zAK ((hiy .i64).symm.trans (i2 .i64))
   rw[zAu]at st1' st2'
   rw[j1,st1',zAV,j2,st2',zAV]
   refine hk5 _ _ ⟨A',y::B,rfl,by rw[hAB];simp,?_,by simpa using hb11,(kh8.trans k10).trans k11⟩ ?_
   ·rw[hin];simp
   ·show A'.length<(A'++[y]).length;omega
theorem zAij {body:(Value->Value->Value->Value->zAn)->Value->Value->Value->Value->zAn}{a b c d e:Value}{H:zAw}(hs:∀ k:Value->Value->Value->Value->zAn,body k a b c d e H):L5 body a b c d e H:=by
 refine⟨λvs h=>vs=[a,b,c,d,e]/\h=H,λ_ _=>0,⟨rfl,rfl⟩,?_⟩
 rintro vs h _ ⟨rfl,rfl⟩
 exact hs _
theorem zAcU {G:zAw->Prop}{Fb:zA2}{H:zAw}{v fv:Value}{xs:List Int}{lt:Int->Int->Bool}(hv:BufE 1 Fb H v (zKn xs))(hc:zAi5 fv xs lt G)(hG:∀ h,Keep Fb H h->G h)(hl:xs.length<=12) :
  zAz prg zDl [v,fv] H λ_ H'=>BufE 1 Fb H' v (zKn (zHF lt xs))/\Keep Fb H H':=by
 apply zFM
 unfold zFq
 have hlen:=hv.sl.len
 rw[zNr]at hlen
 have cv:cvI .u64 (.int .i64 (xs.length:Nat))=some (.int .u64 (xs.length:Nat)):=by
  rw[zFz]
  congr 2
  simp only[IntKind.wrap,IntKind.bits,IntKind.signed]
  simp;omega
 rw[hlen,zAa,cv,zAa]
 refine zAJ (zAaQ (by omega)) ?_
 rintro _ _ ⟨⟨m,rfl⟩,rfl⟩
 refine zAJ (R:=λ_ H'=>BufE 1 Fb H' v (zKn (zHF lt xs))/\Keep Fb H H') ?_ λ_ h hR=>hR
 apply zJr
 unfold zHv
 refine zAij λk=>?_
 have es:zAC .no .sub (.int .i64 (xs.length:Nat)) (.int .i64 0)=some (.int .i64 (xs.length:Nat)):=by
  rw[zAH];simp only[zC3];rw[Int.sub_zero,zB9 (by omega) (by omega)]
 have el:zAC .no .leq (.int .i64 (xs.length:Nat)) (.int .i64 12)=some (.bool true):=by
  rw[zAH];simp only[zC3];rw[decide_eq_true (by omega)]
 rw[es,zAa,el,zAa,zAl,if_pos rfl]
 exact zAJ (zYA (F:=G) hv hc hG (by omega)) λ_ h hR=>hR
def zXh (hv:List Man)(i:Nat):Bool:=(hv.take i).any λo=>decide (o.name=(gM hv i).name)&&decide (o.ver=(gM hv i).ver)
def zOV (hv:List Man)(i:Nat):Bool:=zFO (gM hv i) && !zXh hv i
def zUb (ws:List Dep):Bool:=ws.all λd=>zJi d.name&&zHX d.want
def zIe (hv:List Man)(ws:List Dep)(b:Int):Bool:=decide (0<=b)&&decide (b<=65536)&&(List.range hv.length).all (zOV hv)&&zUb ws
theorem zMS:zBE prg zAi=some (zGI ⟨[],zEQ,[],[],[]⟩ zCq zCq zCq).toArray:=by kernel_rfl
theorem zOD:(⟨[],zEQ,[],[],[]⟩:Man).wf:=⟨by simp,zGZ,(λd h=>absurd h (by simp)),(λd h=>absurd h (by simp)),(λd h=>absurd h (by simp))⟩
theorem zZS:zBE prg zAL=some (zFl zQl).toArray:=by kernel_rfl
theorem zG1 {P:zA2}{H:zAw}{x:MV}(h:zMf P H x.1 x.2.1 x.2.2.1 x.2.2.2):∀ c∈mvC x,c.oneCell'=true:=h.one
def zAmr (fv:Value)(xs:List MV)(del:Man->Bool)(G:zAw->Prop):Prop:=∀ (x:MV) (h:zAw),x∈xs->G h->zDM prg fv [.agg (mvC x).toArray] h λu h'=>u = .bool (del x.1)/\Keep zAM h h'
theorem zOE {G:zAw->Prop}{P:zA2}{H:zAw}{v fv:Value}{xs:List MV}{del:Man->Bool}(hv:SlE 8 P H v (xs.map mvC))(hw:∀ x∈xs,x.1.wf)(hd:zAmr fv xs del G)(hG:∀ h,Keep zAM H h->G h)(hl:xs.length<=1099511627776) :
  zAz prg zBO [v,fv] H λu H'=>u = .bool (xs.any λx=>del x.1)/\Keep zAM H H':=by
 apply zD8
 unfold zDj
 refine zAJ (R:=λu H'=>Keep zAM H H'/\((u = .int .i64 (-1)/\∀ x∈xs,del x.1=false)\/∃ (i:Nat) (x:MV),u = .int .i64 (i:Nat)/\x∈xs/\del x.1=true)) ?_ ?_
 ·apply zC9
  unfold zDp
  have hlen:=hv.len
  rw[zAf]at hlen
  refine zNW (λ_ h=>(∀ x∈xs,del x.1=false)/\Keep zAM H h) (λk1 hk1=>?_) ?_
  ·rw[hlen,zAa]
   refine zKa (λu h=>∃ i:Nat,i<=xs.length/\u = .int .i64 (i:Nat)/\(∀ x∈xs.take i,del x.1=false)/\Keep zAM H h) (λu _=>match u with | .int _ t=>xs.length-t.toNat|_=>0) ⟨0,zAA _,rfl,by simp,Keep.refl⟩ ?_
   rintro _ h ⟨i,hi,rfl,hno,kh⟩ k hk
   rw[zOC,zAa,zAl]
   by_cases hlt:i<xs.length
   ·rw[if_pos (by simpa using hlt)]
    have hg:xs[i]? = some xs[i]:=zAj hlt
    have hm:xs[i]∈xs:=zAG hlt
    generalize xs[i]=x at *
    obtain⟨b,o,hix,hpt,_⟩:=(hv.keep kh λ_ _=>id).at (i:=i) (x:=mvC x) (by rw[zAp,hg];rfl)
    rw[hix .i64,zAa,zNq hpt (hw x hm),zAa]
    refine(hd x h hm (hG h kh)).mono ?_
    rintro _ h5 ⟨rfl,k5⟩
    rw[zAl]
    cases hdx:del x.1
    ·rw[if_neg (by decide),zBV (by omega),zAa]
     refine hk _ _ ⟨i+1,by omega,rfl,λt ht=>?_,kh.trans k5⟩ (by show xs.length-(i+1)<xs.length-i;omega)
     rw[zAI,hg]at ht
     rcases zAt.1 ht with ht|ht
     ·exact hno t ht
     ·obtain rfl:t=x:=by simpa using ht
      exact hdx
    ·rw[if_pos rfl]
     exact⟨kh.trans k5,.inr ⟨i,x,rfl,hm,hdx⟩⟩
   ·rw[if_neg (by simpa using hlt)]
    rw[zAs (by omega)]at hno
    exact hk1 _ _ ⟨hno,kh⟩
  rintro _ h ⟨hno,kh⟩
  exact⟨kh,.inl ⟨rfl,hno⟩⟩
 ·rintro _ h1 ⟨k1,⟨rfl,hno⟩|⟨i,x,rfl,hm,hx⟩⟩
  ·have e:zAC .no .geq (.int .i64 (-1)) (.int .i64 0)=some (.bool false):=rfl
   rw[e,zAa]
   refine⟨?_,k1⟩
   rw[zCO.2 λx hx=>by simp[hno x hx]]
  ·rw[zAlF,zAa]
   refine⟨?_,k1⟩
   rw[zBM.2 ⟨x,hm,hx⟩]
theorem zAik {mv:List MV}{i:Nat}:(zBR mv).take i=(mv.take i).map (·.1):=by simp[zBR,zCw]
theorem _root_.Go.X.SlE.pre {n:Nat}{P:zA2}{H:zAw}{v:Value}{xs:List (List Value)}(h:SlE n P H v xs){m:Nat}(hm:m<=xs.length):∃ u,slS n v none (some (.int .i64 (m:Nat))) none=some u/\SlE n P H u (xs.take m):=by
 by_cases hne:xs=[]
 ·subst hne
  have:m=0:=by simpa using hm
  subst this
  obtain⟨⟨a,c,rfl,hc,_⟩,_,_⟩:=h
  have hb:zM9 0 c none (some (.int .i64 0)) none=some (0,0,c):=by simp[zM9,bnd]
  have e0:((0:Nat):Int)=0:=rfl
  rw[e0]
  rcases a with _|⟨b,o,_|sp⟩
  ·exact⟨.slice none 0 c,by simp[slS,hb],SlE.nil⟩
  ·exact⟨.slice (some ⟨b,if c=0 then o else o+0*n,none⟩) 0 c,by simp[slS,hb],by simpa using SlE.nil⟩
  ·exact⟨.slice (some ⟨b,o,some sp⟩) 0 c,by simp[slS,hb],by simpa using SlE.nil⟩
 ·obtain⟨u,h1,h2⟩:=h.cut hne (lo:=0) (hi:=m) (zAA _) hm (l:=none) (r:=some (.int .i64 (m:Nat))) rfl (λc hc=>by simp[bnd];omega)
  rw[zBY]at h2
  exact⟨u,h1,h2⟩
set_option maxHeartbeats 4000000 in
theorem zAcV {P:zA2}{H:zAw}{mv:List MV}{wants:List Dep}{vh vw:Value}{b:Int}(hp:Prb P H mv wants vh vw)(hl:mv.length<=256)(hwl:wants.length<=64)(hO:zQR H) :
  zAz prg zHJ [.agg (zNO vh vw b).toArray] H λu H'=>u = .int .i64 (if zIe (zBR mv) wants b then 0 else 10)/\Keep zAM H H':=by
 apply zMb
 unfold zKi
 simp only[zB1,zBa,zBf,zAg,zAu,zAa]
 generalize hH1:H.push (.cells (zNO vh vw b).toArray zBX (0,0))=H1
 have k1:Keep zAM H H1:=by rw[<- hH1];exact Keep.push
 have a1:At H1 H.size (zNO vh vw b):=by rw[<- hH1];exact At.push
 have d0:∀ h,Keep zAM H1 h->ld1 h (Ptr H.size 0)=some vh:=λh k=>(a1.keep k id).ld rfl
 have d1:∀ h,Keep zAM H1 h->ld1 h (Ptr H.size 1)=some vw:=λh k=>(a1.keep k id).ld rfl
 have d2:∀ h,Keep zAM H1 h->ld1 h (Ptr H.size 2)=some (.int .i64 b):=λh k=>(a1.keep k id).ld rfl
 have lh:=hp.h.len
 have lw:=hp.w.len
 rw[zAf]at lh lw
 have hvl:(zBR mv).length=mv.length:=by simp
 have no:∀ h,Keep zAM H h->zIe (zBR mv) wants b=false->(Value.int .i64 10 = .int .i64 (if zIe (zBR mv) wants b then 0 else 10)/\Keep zAM H h):=λh kh hf=>⟨by rw[hf];rfl,kh⟩
 have e1:zAC .no .gtr (.int .i64 (mv.length:Nat)) (.int .i64 256)=some (.bool false):=by
  rw[zAH];simp only[zC3];rw[decide_eq_false (by omega)]
 have e2:zAC .no .gtr (.int .i64 (wants.length:Nat)) (.int .i64 64)=some (.bool false):=by
  rw[zAH];simp only[zC3];rw[decide_eq_false (by omega)]
 rw[d0 _ Keep.refl,zAa,lh,zAa,e1,zAa]
 refine zDS rfl ?_
 rw[d1 _ Keep.refl,zAa,lw,zAa,e2,zAa]
 show Mpu (zBH (.bool false) (.bool true) (.bool false)) _
 rw[zAv,if_neg (by decide),zAa]
 refine zDS rfl ?_
 rw[d2 _ Keep.refl,zAa,ltI,zAa]
 show Mpu (zBH (.bool false) (.bool true) _) _
 rw[zAv,if_neg (by decide),zAa]
 cases q1:decide (b<0)
 rotate_left
 ·simp only[zBQ,zAO,zAc,if_false,zAv,if_true,zAa,zAl]
  refine no _ k1 ?_
  unfold zIe
  rw[decide_eq_false (show ¬ 0<=b by have:=of_decide_eq_true q1;omega)];rfl
 refine zDS rfl ?_
 rw[d2 _ Keep.refl,zAa,gtI,zAa]
 show Mpu (zBH (.bool false) (.bool true) _) _
 rw[zAv,if_neg (by decide),zAa,zAl]
 have hb0:0<=b:=by have:=of_decide_eq_false q1;omega
 cases q2:decide (b > 65536)
 rotate_left
 ·rw[if_pos rfl]
  refine no _ k1 ?_
  unfold zIe
  rw[decide_eq_true hb0,decide_eq_false (show ¬ b<=65536 by have:=of_decide_eq_true q2;omega)];rfl
 have hb1:b<=65536:=by have:=of_decide_eq_false q2;omega
 have hpo:zIe (zBR mv) wants b=((List.range mv.length).all (zOV (zBR mv))&&zUb wants):=by
  unfold zIe
  rw[decide_eq_true hb0,decide_eq_true hb1,hvl];rfl
 rw[if_neg (by decide)]
 refine zNW (λ_ h=>(List.range mv.length).all (zOV (zBR mv))=true/\Keep zAM H1 h) (λk hk=>?_) ?_
 ·rw[d0 _ Keep.refl,zAa,lh,zAa]
  refine zKa (λu h=>∃ i:Nat,i<=mv.length/\u = .int .i64 (i:Nat)/\(List.range i).all (zOV (zBR mv))=true/\Keep zAM H1 h) (λu _=>match u with | .int _ t=>mv.length-t.toNat|_=>0) ⟨0,zAA _,rfl,rfl,Keep.refl⟩ ?_
  rintro _ h ⟨i,hi,rfl,hall,kh⟩ kk hkk
  rw[zOC,zAa,zAl]
  by_cases hlt:i<mv.length
  rotate_left
  ·rw[if_neg (by simpa using hlt)]
   obtain rfl:i=mv.length:=by omega
   exact hk _ _ ⟨hall,kh⟩
  rw[if_pos (by simpa using hlt)]
  have k0h:=k1.trans kh
  obtain⟨x,hx,hgx,hxm,hmx,bx,ox,hix,hpx,_⟩:=(hp.keep k0h λ_ _=>id).at (k:=i) (by rw[hvl];exact hlt)
  rw[hix .i64,zAa,zNq hpx hmx.wf,zAa]
  simp only[zMS,zBa]
  generalize hH12:h.push (.cells (zGI ⟨[],zEQ,[],[],[]⟩ zCq zCq zCq).toArray zAi (0,0))=h12
  have k12:Keep zAM h h12:=by rw[<- hH12];exact Keep.push
  have a12:At h12 h.size (zGI ⟨[],zEQ,[],[],[]⟩ zCq zCq zCq):=by rw[<- hH12];exact At.push
  obtain⟨h13,st13,a13,k13⟩:=a12.st (n:=8) (ds:=mvC x) (zBK zOD) (zBK hmx.wf) (zG1 hmx)
  have gh:=kh.1
  have k113:Keep zAM H1 h13:=(kh.trans k12).fresh k13 λb hb=>by omega
  have k013:=k1.trans k113
  rw[st13,zAV,d0 _ k113,zAa]
  obtain⟨u,hu,hsu⟩:=(hp.keep k013 λ_ _=>id).h.pre (m:=i) (by rw[zAf];omega)
  have hmt:(mv.map mvC).take i=(mv.take i).map mvC:=by rw[zCw]
  rw[hmt]at hsu
  rw[hu,zAa]
  have hd:zAmr (.func (.func zEl) #[] #[Ptr h.size 0]) (mv.take i) (λo=>decide (o.name=x.1.name)&&decide (o.ver=x.1.ver)) (λg=>Keep zAM h13 g):=λy g hy kg=>by
   refine .inl ⟨zEl,#[],#[Ptr h.size 0],rfl,by kernel_rfl,?_⟩
   show zAz prg zEl [.agg (mvC y).toArray,Ptr h.size 0] g _
   have hyw:=(hp.m y (zBs hy)).wf
   apply zLd
   unfold zJe
   simp only[zB1,zBa]
   generalize hG1:g.push (.cells (mvC y).toArray zAi (0,0))=g1
   have kg1:Keep zAM g g1:=by rw[<- hG1];exact Keep.push
   have ag:At g1 g.size (zGI y.1 y.2.1 y.2.2.1 y.2.2.2):=by rw[<- hG1];exact At.push
   have bg:At g1 h.size (zGI x.1 x.2.1 x.2.2.1 x.2.2.2):=(a13.keep kg id).keep kg1 id
   have e:=λq=>zDG (q:=q) (a:=y.1.name) (b:=x.1.name)
   rw[zBf,zAa,zAu,zDd ag,zAa,zBf,zAa,zAu,zDd bg,zAa,e,zAa]
   cases hn:decide (y.1.name=x.1.name)
   ·refine zLF (by decide) ?_
    rw[zAv,if_neg (by decide),zAa,zA1]
    exact⟨rfl,kg1⟩
   ·refine zDS rfl ?_
    rw[zBf,zAa,zAg,zI7 ag hyw,zAa,zBf,zAa,zAg,zI7 bg hmx.wf,zAa,zAe1 hyw.ver hmx.wf.ver,zAa]
    show Mpu (zBH (.bool true) _ (.bool false)) _
    rw[zAv,if_pos rfl,zAa,zBh]
    exact⟨rfl,kg1⟩
  refine zAJ (zOE hsu (λy hy=>(hp.m y (zBs hy)).wf) hd (λg kg=>kg) (by rw[zAZ];omega)) ?_
  rintro _ h14 ⟨rfl,k14⟩
  have htw:(mv.take i).any (λy=>decide (y.1.name=x.1.name)&&decide (y.1.ver=x.1.ver))=zXh (zBR mv) i:=by
   unfold zXh
   rw[zAik,List.any_map,hgx];rfl
  rw[htw]
  have a14:=a13.keep k14 id
  rw[a14.ldN (zBK hmx.wf),zAa]
  have k014:=k013.trans k14
  have hsm:=hp.sm x hxm
  have khh:Keep zAM h h14:=(k12.fresh k13 λb hb=>by omega).trans k14
  refine zAJ (zTe (hmx.keep khh λ_ _=>id) (by omega) (by omega) (hO.keep k014 λ_ h=>h.elim)) ?_
  rintro _ h15 ⟨rfl,k15⟩
  have k115:=k113.trans (k14.trans k15)
  have hha:zOV (zBR mv) i=(zFO x.1 && !zXh (zBR mv) i):=by unfold zOV;rw[hgx]
  have bad:zOV (zBR mv) i=false->zIe (zBR mv) wants b=false:=λhf=>by rw[hpo,zRB hlt hf];rfl
  rw[zA8,zAa]
  cases r1:zFO x.1
  ·refine zLF (by decide) ?_
   rw[zAd,zAv,if_pos rfl,zAa,zAl,if_pos rfl]
   exact no _ (k1.trans k115) (bad (by rw[hha,r1];rfl))
  ·refine zDS rfl ?_
   show Mpu (zBH (.bool false) (.bool true) (.bool (zXh (zBR mv) i))) _
   rw[zAv,if_neg (by decide),zAa,zAl]
   cases r2:zXh (zBR mv) i
   ·rw[if_neg (by decide),zBV (by omega),zAa]
    exact hkk _ _ ⟨i+1,by omega,rfl,zP7 hall (by rw[hha,r1,r2];rfl),k115⟩ (by show mv.length-(i+1)<mv.length-i;omega)
   ·rw[if_pos rfl]
    exact no _ (k1.trans k115) (bad (by rw[hha,r1,r2];rfl))
 rintro _ h9 ⟨hall,k9⟩
 rw[hall,zBh]at hpo
 refine zNW (λ_ h=>zUb wants=true/\Keep zAM H1 h) (λk hk=>?_) ?_
 ·rw[d1 _ k9,zAa,lw,zAa]
  refine zKa (λu h=>∃ i:Nat,i<=wants.length/\u = .int .i64 (i:Nat)/\zUb (wants.take i)=true/\Keep zAM H1 h) (λu _=>match u with | .int _ t=>wants.length-t.toNat|_=>0) ⟨0,zAA _,rfl,rfl,k9⟩ ?_
  rintro _ h ⟨i,hi,rfl,hok,kh⟩ kk hkk
  rw[zOC,zAa,zAl]
  by_cases hlt:i<wants.length
  rotate_left
  ·rw[if_neg (by simpa using hlt)]
   rw[zAs (by omega)]at hok
   exact hk _ _ ⟨hok,kh⟩
  rw[if_pos (by simpa using hlt)]
  have hg:wants[i]? = some wants[i]:=zAj hlt
  have hdm:wants[i]∈wants:=zAG hlt
  have htk:wants.take (i+1)=wants.take i++[wants[i]]:=by rw[zAI,hg];rfl
  generalize wants[i]=d at *
  have hdw:=hp.ww d hdm
  have k0h:=k1.trans kh
  obtain⟨bd,od,hid,hpd,_⟩:=(hp.keep k0h λ_ _=>id).w.at (i:=i) (x:=zFl d) (by rw[zAp,hg];rfl)
  rw[hid .i64,zAa,hpd.agg (zEd hdw),zAa]
  simp only[zZS,zBa]
  generalize hH22:h.push (.cells (zFl zQl).toArray zAL (0,0))=h22
  have k22:Keep zAM h h22:=by rw[<- hH22];exact Keep.push
  have a22:At h22 h.size (zFl zQl):=by rw[<- hH22];exact At.push
  obtain⟨h23,st23,a23,k23⟩:=a22.st (n:=6) (ds:=zFl d) (zEd zP2) (zEd hdw) zKZ
  have khh:Keep zAM h h23:=k22.fresh k23 λb hb=>by omega
  rw[st23,zAV]
  simp only[zBf,zAg,zAu,zAa]
  rw[zAcR a23,zAa]
  refine zAJ (zZn hdw.name) ?_
  rintro _ h24 ⟨rfl,k24⟩
  have bad:(zJi d.name&&zHX d.want)=false->zIe (zBR mv) wants b=false:=λhf=>by
   rw[hpo]
   exact zDc.2 ⟨d,hdm,by simpa using hf⟩
  rw[zA8,zAa]
  cases r1:zJi d.name
  ·refine zLF (by decide) ?_
   rw[zAd,zAv,if_pos rfl,zAa,zAl,if_pos rfl]
   exact no _ (k0h.trans (khh.trans k24)) (bad (by rw[r1];rfl))
  ·refine zDS rfl ?_
   rw[zV5 (a23.keep k24 id) hdw,zAa]
   have kall:=k0h.trans (khh.trans k24)
   refine zAJ (zMP hdw.want (hO.keep kall λ_ h=>h.elim)) ?_
   rintro _ h26 ⟨rfl,k26⟩
   rw[zA8,zAa]
   show Mpu (zBH (.bool false) (.bool true) (.bool (!zHX d.want))) _
   rw[zAv,if_neg (by decide),zAa,zAl]
   cases r2:zHX d.want
   ·rw[if_pos (show(!false)=true from rfl)]
    exact no _ (kall.trans k26) (bad (by rw[r1,r2];rfl))
   ·rw[if_neg (by decide),zBV (by omega),zAa]
    refine hkk _ _ ⟨i+1,by omega,rfl,?_,kh.trans (khh.trans (k24.trans k26))⟩ (by show wants.length-(i+1)<wants.length-i;omega)
    rw[htk]
    unfold zUb at hok ⊢
    rw[List.all_append,hok];simp[r1,r2]
 rintro _ h19 ⟨hw,k19⟩
 exact⟨by rw[hpo,hw];rfl,k1.trans k19⟩
theorem zZT {α β:Type}{lt:α->α->Bool}{lt':β->β->Bool}{g:α->β}(h:∀ a b,lt' (g a) (g b)=lt a b){x:α}:∀ {l:List α},zTd lt' (g x) (l.map g)=(zTd lt x l).map g
 | []=>rfl
 | y::l=>by
  rw[zAW,zTd,zTd,h]
  split
  ·rw[zZT h,zAW]
  ·rw[zAW,zAW]
theorem zAcW {α β:Type}{lt:α->α->Bool}{lt':β->β->Bool}{g:α->β}(h:∀ a b,lt' (g a) (g b)=lt a b){l:List α}:zHF lt' (l.map g)=(zHF lt l).map g:=by
 unfold zHF
 rw[List.map_reverse]
 congr 1
 induction l using zRy with
 | h0=>rfl
 | h1 l x ih=>rw[zAE,zAW,zCm,zI8,zI8,ih,zZT h]
theorem zZU {lt:Nat->Nat->Bool}{l:List Nat}:zHF (λa b=>lt a.toNat b.toNat) (zs l)=zs (zHF lt l):=zAcW (g:=λ(k:Nat)=>(k:Int)) λa b=>rfl
theorem zVi {P:zA2}{H:zAw}{v:Value}{xs:List Int}(hv:SlE 1 P H v (zKn xs))(hl:xs.length<=1099511627776):zAz prg zE1 [v] H λu H'=>BufE 1 (λb=>H.size<=b/\b<H'.size) H' u (zKn xs)/\Keep zAM H H':=by
 apply zKL
 unfold zIG
 obtain⟨⟨a,c,rfl,hc,hx⟩,h2,h3⟩:=hv
 cases a with
 | none =>
  have hnil:zKn xs=[]:=by
   rcases hx with h|⟨b,o,h,_⟩
   ·exact h
   ·cases h
  have e:zAC .slc .eql (.slice none (zKn xs).length c) (.slice none 0 0)=some (.bool true):=rfl
  rw[e,zAa,zAl,if_pos rfl,hnil]
  exact⟨BufE.nil,Keep.refl⟩
 | some a =>
  have e:zAC .slc .eql (.slice (some a) (zKn xs).length c) (.slice none 0 0)=some (.bool false):=rfl
  have b0:zGf prg zHC 0 []=some #[]:=by kernel_rfl
  rw[e,zAa,zAl,if_neg (by decide),b0,zCh]
  generalize hH1:H.push (.cells #[] zHC (0,0))=H1
  have k1:Keep zAM H H1:=by rw[<- hH1];exact Keep.push
  have n1:H1[H.size]? = some (.cells #[] zHC (0,0)):=by rw[<- hH1];exact zCa
  have s1:H1.size=H.size+1:=by rw[<- hH1];simp
  have hb:BufE 1 (H.size <= ·) H1 (.slice (some ⟨H.size,0,none⟩) 0 0) []:=BufE.fresh (cs:=[]) ⟨H.size,rfl,zAh _,n1⟩ (zAh _) (by simp) (λ_ _=>by simp[zUJ]) (by simp) (λx h=>by cases h) (λx h=>by cases h)
  have hv1:SlE 1 P H1 (.slice (some a) (zKn xs).length c) (zKn xs):=SlE.keep ⟨⟨_,c,rfl,hc,hx⟩,h2,h3⟩ k1 λ_ _=>id
  refine hb.app hv1 (by omega) (by simp;omega) (by show H.size<=H1.size;omega) λu h2' hu k2=>?_
  rw[zA0]at hu
  have k02:=k1.fresh k2 λb hb=>hb
  exact⟨BufE.re hu λb hb hF=>⟨hF,hb⟩,k02⟩
theorem zSl {P:zA2}{H:zAw}{v:Value}{xs:List Dep}(hv:SlE 6 P H v (xs.map zFl))(hl:xs.length<=1000000):zAz prg zCv [v] H λu H'=>BufE 6 (λb=>H.size<=b/\b<H'.size) H' u (xs.map zFl)/\Keep zAM H H':=by
 apply zFS
 unfold zEu
 obtain⟨⟨a,c,rfl,hc,hx⟩,h2,h3⟩:=hv
 cases a with
 | none =>
  have hnil:xs.map zFl=[]:=by
   rcases hx with h|⟨b,o,h,_⟩
   ·exact h
   ·cases h
  have e:zAC .slc .eql (.slice none (xs.map zFl).length c) (.slice none 0 0)=some (.bool true):=rfl
  rw[e,zAa,zAl,if_pos rfl,hnil]
  exact⟨BufE.nil,Keep.refl⟩
 | some a =>
  have e:zAC .slc .eql (.slice (some a) (xs.map zFl).length c) (.slice none 0 0)=some (.bool false):=rfl
  have b0:zGf prg zAL 0 []=some #[]:=by kernel_rfl
  rw[e,zAa,zAl,if_neg (by decide),b0,zCh]
  generalize hH1:H.push (.cells #[] zAL (0,0))=H1
  have k1:Keep zAM H H1:=by rw[<- hH1];exact Keep.push
  have n1:H1[H.size]? = some (.cells #[] zAL (0,0)):=by rw[<- hH1];exact zCa
  have s1:H1.size=H.size+1:=by rw[<- hH1];simp
  have hb:BufE 6 (H.size <= ·) H1 (.slice (some ⟨H.size,0,none⟩) 0 0) []:=BufE.fresh (cs:=[]) ⟨H.size,rfl,zAh _,n1⟩ (zAh _) (by simp) (λ_ _=>by simp[zUJ]) (by simp) (λx h=>by cases h) (λx h=>by cases h)
  have hv1:SlE 6 P H1 (.slice (some a) (xs.map zFl).length c) (xs.map zFl):=SlE.keep ⟨⟨_,c,rfl,hc,hx⟩,h2,h3⟩ k1 λ_ _=>id
  refine hb.app hv1 (by omega) (by simp;omega) (by show H.size<=H1.size;omega) λu h2' hu k2=>?_
  rw[zA0]at hu
  have k02:=k1.fresh k2 λb hb=>hb
  exact⟨BufE.re hu λb hb hF=>⟨hF,hb⟩,k02⟩
theorem zAcX {z:Array Value}{n:Nat}(h0:0<z.size)(h:z.all (·.oneCell')=true):(zRN z n).all (·.oneCell')=true:=by
 rw[zBw]at h ⊢
 intro c hc
 unfold zRN at hc
 obtain⟨i,_,rfl⟩:=Array.mem_map.1 hc
 have hlt:i % z.size<z.size:=Nat.mod_lt _ h0
 rw[getElem!_pos z (i % z.size) hlt]
 exact h _ (Array.getElem_mem hlt)
theorem zAcY {z:Array Value}{n:Nat}:(zRN z n).size=n:=by simp[zRN]
theorem _root_.Go.X.BufE.cut0 {n:Nat}{F:zA2}{H:zAw}{b c:Nat}{cs:Array Value}{T:TypeId}{f:Nat×Nat}{m:Nat}(hb:H[b]? = some (.cells cs T f))(hF:F b)(hc:c*n<=cs.size)(ht:∀ i k,zUJ f i k=true) :
  ∃ u,slS n (.slice (some ⟨b,0,none⟩) m c) none (some (.int .i64 0)) none=some u/\BufE n F H u []:=by
 have hbn:zM9 m c none (some (.int .i64 0)) none=some (0,0,c):=by simp[zM9,bnd]
 refine⟨.slice (some ⟨b,if c=0 then 0 else 0+0*n,none⟩) 0 c,by simp[slS,hbn],(λx h=>absurd h (by simp)),(λx h=>absurd h (by simp)),.inr ⟨b,_,c,cs,T,f,rfl,hF,zAA _,hb,?_,ht,by simp⟩⟩
 split<;>omega
theorem zAcZ {H:zAw}{n:Nat}(hn:n<=1000000):zAz prg zDw [.slice none 0 0,.int .i64 (n:Nat)] H λu H'=>BufE 6 (λb=>H.size<=b/\b<H'.size) H' u []/\Keep zAM H H':=by
 apply zF6
 unfold zEx
 have e1:zAC .no .lss (.int .i64 (n:Nat)) (.int .i64 0)=some (.bool false):=zAfm
 have e2:zAC .no .sub (.int .i64 0) (.int .i64 0)=some (.int .i64 0):=by rw[zAH];rfl
 have e3:zAC .no .sub (.int .i64 (n:Nat)) (.int .i64 0)=some (.int .i64 (n:Nat)):=by
  rw[zAH];simp only[zC3,Int.sub_zero];rw[zB9]<;>omega
 have e4:zAC .no .gtr (.int .i64 (n:Nat)) (.int .i64 0)=some (.bool (decide (n > 0))):=zAbr (m:=0)
 have c0:zAfZ (.slice none 0 0)=some (.int .i64 0):=rfl
 have l0:zDD (.slice none 0 0)=some (.int .i64 0):=rfl
 have s0:slS 6 (.slice none 0 0) none (some (.int .i64 0)) none=some (.slice none 0 0):=rfl
 refine zAb0.2 ?_
 rw[e1,zAa,zAl,if_neg (by decide)]
 refine zNW (λu h=>BufE 6 (λb=>H.size<=b/\b<h.size) h u []/\Keep zAM H h) (λk hk=>?_) λu h hh=>hh
 simp only[c0,l0,e2,e3,e4,zAa,zAl]
 by_cases h0:n > 0
 ·rw[if_pos (by simpa using h0),s0,zAa]
  refine⟨none,0,0,.i64,n,_,rfl,rfl,by omega,by omega,zZS,zAcX (by simp[zEd zP2]) (by rw[zBw];intro c hc;exact zKZ c (by simpa using hc)),λh=>by omega,λ_=>⟨by omega,by omega,#[],rfl,λcap rest h1 h2 h3=>?_⟩⟩
  rw[zAg]at h1 h3 ⊢
  have hsz:(#[]++zRN (zFl zQl).toArray (n*6)++rest).size=cap*6:=by
   simp only[Array.size_append,zAcY,h3,zCe,List.length_nil]
   omega
  obtain⟨u,hu,hbu⟩:=BufE.cut0 (n:=6) (F:=λb=>H.size<=b/\b<(H.push (.cells (#[]++zRN (zFl zQl).toArray (n*6)++rest) zAL (0,0))).size) (m:=n) (c:=cap) (zCa (H:=H) (y := .cells (#[]++zRN (zFl zQl).toArray (n*6)++rest) zAL (0,0))) ⟨zAh _,by simp⟩ (by rw[hsz];exact zAh _) (λ_ _=>zLt)
  rw[hu,zAa]
  exact hk _ _ ⟨hbu,Keep.push⟩
 ·rw[if_neg (by simpa using h0)]
  exact hk _ _ ⟨BufE.nil,Keep.refl⟩
theorem zYB {P Q:zA2}{H:zAw}{q:Nat}{v w:Value}{xs ys:List Dep}(a:At H q [v,w])(hv:SlE 6 P H v (xs.map zFl))(hw:SlE 6 Q H w (ys.map zFl))(hl:xs.length+ys.length<=1000000) :
  zAz prg zDq [.slice (some ⟨q,0,none⟩) 2 2] H λu H'=>BufE 6 (λb=>H.size<=b/\b<H'.size) H' u ((xs++ys).map zFl)/\Keep zAM H H':=by
 apply zFG
 unfold zEh
 have hlv:zDD (.slice (some ⟨q,0,none⟩) 2 2)=some (.int .i64 ((2:Nat):Int)):=rfl
 have lv:=hv.len
 have lw:=hw.len
 rw[zAf]at lv lw
 have i0:ixS 1 (.slice (some ⟨q,0,none⟩) 2 2) (.int .i64 ((0:Nat):Int))=some (Ptr q 0):=by rw[zJW (by omega)]
 have i1:ixS 1 (.slice (some ⟨q,0,none⟩) 2 2) (.int .i64 ((1:Nat):Int))=some (Ptr q 1):=by rw[zJW (by omega)]
 have d0:∀ h,Keep zAM H h->ld1 h (Ptr q 0)=some v:=λh k=>(a.keep k id).ld rfl
 have d1:∀ h,Keep zAM H h->ld1 h (Ptr q 1)=some w:=λh k=>(a.keep k id).ld rfl
 have adN:∀ x y:Nat,x+y<=1000000->zAC .no .add (.int .i64 (x:Nat)) (.int .i64 (y:Nat))=some (.int .i64 ((x+y:Nat):Int)):=λx y h=>by
  rw[zAH];simp only[zC3];rw[zB9 (by omega) (by omega)];rfl
 refine zMh (λt _ h=>t = .int .i64 ((xs.length+ys.length:Nat):Int)/\H=h) (λk hk=>?_) ?_
 ·rw[hlv,zAa]
  refine zUv (λt u h=>(∃ i:Nat,i<=2/\u = .int .i64 (i:Nat)/\t = .int .i64 (((if 0<i then xs.length else 0)+(if 1<i then ys.length else 0):Nat):Int))/\H=h) (λ_ u _=>match u with | .int _ t=>2-t.toNat|_=>0) ⟨⟨0,by omega,rfl,rfl⟩,rfl⟩ ?_
  rintro _ _ h ⟨⟨i,hi,rfl,rfl⟩,rfl⟩ kk hkk
  rw[zOC,zAa,zAl]
  have hc:i=0\/i=1\/i=2:=by omega
  rcases hc with rfl|rfl|rfl
  ·rw[if_pos (by decide)]
   refine zBQ.2 ?_
   rw[i0,zAa,d0 _ Keep.refl,zAa,lv,zAa]
   rw[show((if 0<0 then xs.length else 0)+(if 1<0 then ys.length else 0):Nat)=0 from rfl,adN _ _ (by omega),zAa,zAfm,zAa]
   rw[zAl,if_neg (by decide)]
   show Mpu (zAC .no .add (.int .i64 ((0:Nat):Int)) (.int .i64 1)) _
   rw[zBV (by omega),zAa]
   exact hkk _ _ _ ⟨⟨1,by omega,rfl,by simp⟩,rfl⟩ (by show 2-1<2-0;omega)
  ·rw[if_pos (by decide)]
   refine zBQ.2 ?_
   rw[i1,zAa,d1 _ Keep.refl,zAa,lw,zAa]
   rw[show((if 0<1 then xs.length else 0)+(if 1<1 then ys.length else 0):Nat)=xs.length by simp,adN _ _ (by omega),zAa,zAfm,zAa]
   rw[zAl,if_neg (by decide)]
   show Mpu (zAC .no .add (.int .i64 ((1:Nat):Int)) (.int .i64 1)) _
   rw[zBV (by omega),zAa]
   exact hkk _ _ _ ⟨⟨2,by omega,rfl,by simp⟩,rfl⟩ (by show 2-2<2-1;omega)
  ·rw[if_neg (by decide)]
   exact hk _ _ _ ⟨by simp,rfl⟩
 rintro _ _ _ ⟨rfl,rfl⟩
 refine zAJ (zAcZ (by omega)) ?_
 rintro u7 h7 ⟨hb7,k7⟩
 refine zMh (λt _ h=>BufE 6 (λb=>H.size<=b/\b<h.size) h t ((xs++ys).map zFl)/\Keep zAM H h) (λk hk=>?_) λt _ h hh=>hh
 rw[hlv,zAa]
 refine zUv (λt u h=>(∃ i:Nat,i<=2/\u = .int .i64 (i:Nat)/\BufE 6 (λb=>H.size<=b/\b<h.size) h t (((if 0<i then xs else [])++(if 1<i then ys else [])).map zFl))/\Keep zAM H h) (λ_ u _=>match u with | .int _ t=>2-t.toNat|_=>0) ⟨⟨0,by omega,rfl,by simpa using hb7⟩,k7⟩ ?_
 rintro t _ h ⟨⟨i,hi,rfl,hb⟩,kh⟩ kk hkk
 rw[zOC,zAa,zAl]
 have hc:i=0\/i=1\/i=2:=by omega
 have gh:=kh.1
 rcases hc with rfl|rfl|rfl
 ·rw[if_pos (by decide),i0,zAa,d0 _ kh,zAa]
  refine(hb.mono λb hb=>hb.1).app (hv.keep kh λ_ _=>id) (by omega) (by simp;omega) (by show H.size<=h.size;omega) λt2 h2 ht k2=>?_
  rw[zBV (by omega),zAa]
  refine hkk _ _ _ ⟨⟨1,by omega,rfl,?_⟩,kh.fresh k2 λb hb=>hb⟩ (by show 2-1<2-0;omega)
  have:=BufE.re ht (G:=λb=>H.size<=b/\b<h2.size) λb hb hF=>⟨hF,hb⟩
  simpa using this
 ·rw[if_pos (by decide),i1,zAa,d1 _ kh,zAa]
  refine(hb.mono λb hb=>hb.1).app (hw.keep kh λ_ _=>id) (by omega) (by simp;omega) (by show H.size<=h.size;omega) λt2 h2 ht k2=>?_
  rw[zBV (by omega),zAa]
  refine hkk _ _ _ ⟨⟨2,by omega,rfl,?_⟩,kh.fresh k2 λb hb=>hb⟩ (by show 2-2<2-1;omega)
  have:=BufE.re ht (G:=λb=>H.size<=b/\b<h2.size) λb hb hF=>⟨hF,hb⟩
  simpa using this
 ·rw[if_neg (by decide)]
  exact hk _ _ _ ⟨by simpa using hb,kh⟩
theorem zAc0 {P:zA2}{H:zAw}{mv:List MV}{wants:List Dep}{vh vw:Value}{b:Int}{q i j:Nat}(hp:Prb P H mv wants vh vw)(aq:At H q (zNO vh vw b))(hi:i<(zBR mv).length)(hj:j<(zBR mv).length) :
  zAz prg zD5 [.int .i64 (i:Nat),.int .i64 (j:Nat),Ptr q 0] H λu H'=>u = .int .i64 (zAd6 (gM (zBR mv) j).ver (gM (zBR mv) i).ver)/\Keep zAM H H':=by
 apply zKN
 unfold zII
 obtain⟨x,hx,hgx,hxm,hmx,bx,ox,hix,hpx,_⟩:=hp.at hi
 obtain⟨y,hy,hgy,hym,hmy,by',oy,hiy,hpy,_⟩:=hp.at hj
 have d0:ld1 H (Ptr q 0)=some vh:=aq.ld rfl
 simp only[zBf,zAu,zAa,d0,hix .i64,hiy .i64,zXf hpx hmx.wf,zXf hpy hmy.wf]
 rw[hgx,hgy]
 exact zAJ (zAjF hmy.wf.ver hmx.wf.ver) λ_ h hR=>hR
theorem zYC {H:zAw}{a:List UInt8}:zAz prg zE3 [str a] H λu H'=>u = .bool false/\H=H':=by
 apply zNH
 unfold zMM
 rw[zTY,zAa]
 exact⟨by simp,rfl⟩
theorem zXi {H:zAw}{a b:List UInt8}:zAz prg zIh [str a,str b] H λu H'=>u = .int .i64 (zNo a b)/\H=H':=by
 apply zMK
 unfold zLf
 refine zAJ zYC ?_
 rintro _ _ ⟨rfl,rfl⟩
 refine zAJ zYC ?_
 rintro _ _ ⟨rfl,rfl⟩
 have e1:zAC .no .lss (str a) (str b)=some (.bool (less a b)):=by
  rw[zGn];simp only[zS3,zMv]
 have e2:zAC .no .gtr (str a) (str b)=some (.bool !(less a b || (a == b))):=by
  rw[zGn];simp only[zS3,zMv]
 rw[zAl,if_neg (by decide),zAl,if_neg (by decide),e1,zAa,zAl]
 cases h1:less a b
 ·rw[if_neg (by decide),e2,zAa,zAl,h1,Bool.false_or]
  have hz:=zF7.zero a b
  have ht:=zF7.three a b
  by_cases hab:a=b
  ·have:(a == b)=true:=by simpa using hab
   rw[this,if_neg (by decide)]
   exact⟨by rw[hz.2 hab],rfl⟩
  ·have:(a == b)=false:=by simpa using hab
   rw[this,if_pos (by rfl)]
   have hne:zNo a b≠0:=λe=>hab (hz.1 e)
   have hn1:zNo a b ≠ -1:=λe=>by
    unfold zNo at e
    rw[if_neg (by rw[h1];decide)]at e
    split at e<;>omega
   refine⟨?_,rfl⟩
   rcases ht with h|h|h
   ·exact absurd h hn1
   ·exact absurd h hne
   ·rw[h]
 ·rw[if_pos rfl]
  exact⟨by unfold zNo;rw[if_pos h1],rfl⟩
theorem zAc1 {P:zA2}{H:zAw}{mv:List MV}{wants:List Dep}{vh vw:Value}{b:Int}{q i j:Nat}(hp:Prb P H mv wants vh vw)(aq:At H q (zNO vh vw b))(hi:i<(zBR mv).length)(hj:j<(zBR mv).length) :
  zAz prg zD6 [.int .i64 (i:Nat),.int .i64 (j:Nat),Ptr q 0] H λu H'=>u = .int .i64 (zNo (gM (zBR mv) i).name (gM (zBR mv) j).name)/\H=H':=by
 apply zKO
 unfold zIJ
 obtain⟨x,hx,hgx,hxm,hmx,bx,ox,hix,hpx,_⟩:=hp.at hi
 obtain⟨y,hy,hgy,hym,hmy,by',oy,hiy,hpy,_⟩:=hp.at hj
 have d0:ld1 H (Ptr q 0)=some vh:=aq.ld rfl
 simp only[zBf,zAu,zAa,d0,hix .i64,hiy .i64,zYy hpx,zYy hpy]
 rw[hgx,hgy]
 exact zAJ zXi λ_ h hR=>hR
def zXj (xs:List Int)(lt:Int->Int->Bool):Prop:=∀ (G:zAw->Prop) (F:zA2) (H:zAw) (v fv:Value),BufE 1 F H v (zKn xs)->zAi5 fv xs lt G->(∀ h,Keep F H h->G h)->(∀ b,F b->b<H.size)->zAz prg zDl [v,fv] H λ_ H'=>BufE 1 F H' v (zKn (zHF lt xs))/\Keep F H H'
def zAc2 (hv:List Man)(x y:Int):Bool:=zAgz hv x.toNat y.toNat
def zV6 (hv:List Man)(x y:Int):Bool:=zAj0 hv x.toNat y.toNat
theorem zAc3 {P Q:zA2}{H:zAw}{mv:List MV}{wants:List Dep}{vh vw vc:Value}{b:Int}{ch:List Nat}(hp:Prb P H mv wants vh vw)(hP:∀ b,P b->b<H.size)(hc:SlE 1 Q H vc (zKn (zs ch)))(hk:∀ k∈ch,k<(zBR mv).length)(hl:ch.length<=1000)(hS:zXj (zs ch) (zAc2 (zBR mv))) :
  zAz prg zHe [.agg (zNO vh vw b).toArray,vc] H λu H'=>BufE 1 (λb=>H.size<=b/\b<H'.size) H' u (zKn (zs (zG0 (zBR mv) ch)))/\Keep zAM H H':=by
 apply zLA
 unfold zJR
 simp only[zB1,zBa]
 generalize hH1:H.push (.cells (zNO vh vw b).toArray zBX (0,0))=H1
 have k1:Keep zAM H H1:=by rw[<- hH1];exact Keep.push
 have a1:At H1 H.size (zNO vh vw b):=by rw[<- hH1];exact At.push
 have s1:H1.size=H.size+1:=by rw[<- hH1];simp
 refine zAJ (zVi (hc.keep k1 λ_ _=>id) (by rw[zQx];omega)) ?_
 rintro v h2 ⟨hv,k2⟩
 have k02:=k1.trans k2
 have a2:=a1.keep k2 id
 have hv':BufE 1 (λb=>H1.size<=b/\b<h2.size) h2 v (zKn (zs ch)):=hv
 have hcmp:zAi5 (.func (.func zD6) #[] #[Ptr H.size 0]) (zs ch) (zAc2 (zBR mv)) (λh=>Keep (λb=>H1.size<=b/\b<h2.size) h2 h):=λx y h hx hy kh=>by
  obtain⟨i,hi,rfl⟩:=zQw hx
  obtain⟨j,hj,rfl⟩:=zQw hy
  refine .inl ⟨zD6,#[],#[Ptr H.size 0],rfl,by kernel_rfl,?_⟩
  have k0h:Keep (λb=>H1.size<=b) H h:=(k02.mono λ_ _ h=>h.elim).trans (kh.mono λ_ _ h=>h.1)
  refine zAz.mono (zAc1 (b:=b) (hp.keep k0h λb hb hS=>by have:=hP b hb;omega) (a2.keep kh (show ¬ (H1.size<=H.size/\H.size<h2.size) by omega)) (hk i hi) (hk j hj)) ?_
  rintro _ h' ⟨rfl,rfl⟩
  exact⟨⟨_,rfl,rfl⟩,Keep.refl⟩
 refine zAJ (hS _ _ _ _ _ hv' hcmp (λh k=>k) λb hb=>hb.2) ?_
 rintro _ h3 ⟨hs,k3⟩
 have hs:BufE 1 (λb=>H1.size<=b/\b<h2.size) h3 v (zKn (zs (zG0 (zBR mv) ch))):=by
  unfold zG0;rw[<- zZU];exact hs
 exact⟨BufE.re hs λb hb hF=>⟨by have:=hF.1;omega,hb⟩,k02.fresh k3 λb hb=>by have:=hb.1;omega⟩
theorem zAgB {n:Int}:zGf prg zHC 1 [(0,.int .i64 n)]=some #[.int .i64 n]:=by kernel_rfl
theorem zAc4 {hv:List Man}{d:Dep}{i:Nat}(h:i<hv.length):((List.range (i+1)).filter λk=>zP5 d (gM hv k))=((List.range i).filter λk=>zP5 d (gM hv k))++(if zP5 d (gM hv i) then [i] else []):=by
 rw[List.range_succ,List.filter_append,zCb];rfl
set_option maxHeartbeats 2000000 in
theorem zAc5 {P:zA2}{H:zAw}{mv:List MV}{wants:List Dep}{vh vw:Value}{b:Int}{d:Dep}(hp:Prb P H mv wants vh vw)(hP:∀ b,P b->b<H.size)(hd:d.wf)(hl:mv.length<=1000)(hO:zQR H)(hS:zXj (zs (zSj (zBR mv) d)) (zV6 (zBR mv))) :
  zAz prg zHd [.agg (zNO vh vw b).toArray,.agg (zFl d).toArray] H λu H'=>BufE 1 (λb=>H.size<=b/\b<H'.size) H' u (zKn (zs (zPK (zBR mv) d)))/\Keep zAM H H':=by
 apply zLz
 unfold zJQ
 simp only[zB1,zBa]
 generalize hH1:H.push (.cells (zNO vh vw b).toArray zBX (0,0))=H1
 have k1:Keep zAM H H1:=by rw[<- hH1];exact Keep.push
 have a1:At H1 H.size (zNO vh vw b):=by rw[<- hH1];exact At.push
 have s1:H1.size=H.size+1:=by rw[<- hH1];simp
 generalize hH2:H1.push (.cells (zFl d).toArray zAL (0,0))=H2
 have k2:Keep zAM H1 H2:=by rw[<- hH2];exact Keep.push
 have a2:At H2 H1.size (zFl d):=by rw[<- hH2];exact At.push
 have s2:H2.size=H1.size+1:=by rw[<- hH2];simp
 have k02:=k1.trans k2
 have b2:=a1.keep k2 id
 have lh:=hp.h.len
 rw[zAf]at lh
 have hvl:(zBR mv).length=mv.length:=by simp
 refine zMh (λt _ h=>BufE 1 (λb=>H2.size<=b) h t (zKn (zs (zSj (zBR mv) d)))/\Keep zAM H2 h) (λk hk=>?_) ?_
 ·have d0:ld1 H2 (Ptr H.size 0)=some vh:=b2.ld rfl
  rw[zBf,zAa,zAu,d0,zAa,lh,zAa]
  refine zUv (λt u h=>(∃ i:Nat,i<=mv.length/\u = .int .i64 (i:Nat)/\BufE 1 (λb=>H2.size<=b) h t (zKn (zs ((List.range i).filter λk=>zP5 d (gM (zBR mv) k)))))/\Keep zAM H2 h) (λ_ u _=>match u with | .int _ t=>mv.length-t.toNat|_=>0) ⟨⟨0,zAA _,rfl,BufE.nil⟩,Keep.refl⟩ ?_
  rintro t _ h ⟨⟨i,hi,rfl,hb⟩,kh⟩ kk hkk
  rw[zOC,zAa,zAl]
  by_cases hlt:i<mv.length
  rotate_left
  ·rw[if_neg (by simpa using hlt)]
   obtain rfl:i=mv.length:=by omega
   refine hk _ _ _ ⟨?_,kh⟩
   unfold zSj
   rw[hvl];exact hb
  rw[if_pos (by simpa using hlt)]
  have gh:=kh.1
  have k0h:=k02.trans kh
  obtain⟨x,hx,hgx,hxm,hmx,bx,ox,hix,hpx,_⟩:=(hp.keep k0h λ_ _=>id).at (k:=i) (by rw[hvl];exact hlt)
  have htk:=zAc4 (hv:=zBR mv) (d:=d) (i:=i) (by rw[hvl];exact hlt)
  refine zMh (λt2 _ h'=>BufE 1 (λb=>H2.size<=b) h' t2 (zKn (zs ((List.range (i+1)).filter λk=>zP5 d (gM (zBR mv) k))))/\Keep zAM H2 h') (λk7 hk7=>?_) ?_
  rotate_left
  ·rintro t2 _ h' ⟨hb',kh'⟩
   rw[zBV (by omega),zAa]
   exact hkk _ _ _ ⟨⟨i+1,by omega,rfl,hb'⟩,kh'⟩ (by show mv.length-(i+1)<mv.length-i;omega)
  rw[hix .i64,zAa,zNq hpx hmx.wf,zAa]
  simp only[zMS,zBa]
  generalize hH9:h.push (.cells (zGI ⟨[],zEQ,[],[],[]⟩ zCq zCq zCq).toArray zAi (0,0))=h9
  have k9:Keep zAM h h9:=by rw[<- hH9];exact Keep.push
  have a9:At h9 h.size (zGI ⟨[],zEQ,[],[],[]⟩ zCq zCq zCq):=by rw[<- hH9];exact At.push
  obtain⟨h10,st10,a10,k10⟩:=a9.st (n:=8) (ds:=mvC x) (zBK zOD) (zBK hmx.wf) (zG1 hmx)
  have khh:Keep zAM h h10:=k9.fresh k10 λb hb=>by omega
  have a10':At h10 h.size (zGI x.1 x.2.1 x.2.2.1 x.2.2.2):=a10
  have hb10:=hb.keep khh λ_ _=>id
  have c10:=(a2.keep kh id).keep khh id
  have e:=λq=>zDG (q:=q) (a:=x.1.name) (b:=d.name)
  rw[st10,zAV]
  simp only[zBf,zAg,zAu,zAa]
  rw[zDd a10',zAa,zAcR c10,zAa,e,zAa]
  have no:∀ h',Keep zAM h10 h'->zP5 d x.1=false->BufE 1 (λb=>H2.size<=b) h' t (zKn (zs ((List.range (i+1)).filter λk=>zP5 d (gM (zBR mv) k))))/\Keep zAM H2 h':=λh' k' hf=>by
   refine⟨?_,(kh.trans khh).trans k'⟩
   rw[htk,hgx,hf]
   simpa using hb10.keep k' λ_ _=>id
  cases hn:decide (x.1.name=d.name)
  ·refine zLF (by decide) ?_
   rw[zAv,if_neg (by decide),zAa,zAl,if_neg (by decide)]
   exact hk7 _ _ _ (no _ Keep.refl (by unfold zP5;rw[hn];rfl))
  ·refine zDS rfl ?_
   rw[zV5 c10 hd,zAa,zI7 a10' hmx.wf,zAa]
   refine zAJ (zSg hd.want hmx.wf.ver (hO.keep (k0h.trans khh) λ_ h=>h.elim)) ?_
   rintro _ h12 ⟨rfl,k12⟩
   have hfm:zP5 d x.1=(zHX d.want&&zGl x.1.ver&&zYm d.want.op d.want.ver x.1.ver):=by unfold zP5;rw[hn];rfl
   rw[zAv,if_pos rfl,zAa,zAl]
   cases hf:(zHX d.want&&zGl x.1.ver&&zYm d.want.op d.want.ver x.1.ver)
   ·rw[if_neg (by decide)]
    exact hk7 _ _ _ (no _ k12 (by rw[hfm,hf]))
   ·rw[if_pos rfl,zAgB,zCh]
    generalize hH14:h12.push (.cells #[.int .i64 (i:Nat)] zHC (0,0))=h14
    have k14:Keep zAM h12 h14:=by rw[<- hH14];exact Keep.push
    have hx14:SlE 1 (· = h12.size) h14 (.slice (some ⟨h12.size,0,none⟩) 1 1) (zKn [(i:Int)]) :=
     ⟨⟨_,1,rfl,zAh _,.inr ⟨h12.size,0,rfl,rfl,by rw[zH1,<- hH14];exact Pt.of zCa⟩⟩,zL3,zK1 λv hv=>by simp at hv;subst hv;rfl⟩
    have g12:=k12.1
    have g14:=k14.1
    have ghh:=khh.1
    have hfl:=zBl (λk=>zP5 d (gM (zBR mv) k)) (List.range i)
    rw[List.length_range]at hfl
    refine((hb10.keep k12 λ_ _=>id).keep k14 λ_ _=>id).app hx14 (by omega) (by rw[zNr,zNr,zQx];simp;omega) (by show H2.size<=h14.size;omega) λt3 h15 ht k15=>?_
    refine hk7 _ _ _ ⟨?_,(((kh.trans khh).trans k12).trans k14).fresh k15 λb hb=>hb⟩
    have:zKn (zs ((List.range (i+1)).filter λk=>zP5 d (gM (zBR mv) k)))=zKn (zs ((List.range i).filter λk=>zP5 d (gM (zBR mv) k)))++zKn [(i:Int)]:=by
     rw[htk,hgx,hfm,hf];simp[zs,zGD]
    rw[this];exact ht
 rintro t _ h ⟨hb,kh⟩
 have hmem:∀ k∈zSj (zBR mv) d,k<(zBR mv).length:=λk hk=>by
  unfold zSj at hk
  exact zBZ.1 (zAX.1 hk).1
 have g02:=k02.1
 have hb:BufE 1 (λb=>H2.size<=b/\b<h.size) h t (zKn (zs (zSj (zBR mv) d))):=BufE.re hb λb hb hF=>⟨hF,hb⟩
 have hcmp:zAi5 (.func (.func zD5) #[] #[Ptr H.size 0]) (zs (zSj (zBR mv) d)) (zV6 (zBR mv)) (λg=>Keep (λb=>H2.size<=b/\b<h.size) h g):=λx y g hx hy kg=>by
  obtain⟨i,hi,rfl⟩:=zQw hx
  obtain⟨j,hj,rfl⟩:=zQw hy
  refine .inl ⟨zD5,#[],#[Ptr H.size 0],rfl,by kernel_rfl,?_⟩
  have k0g:Keep (λb=>H2.size<=b) H g:=((k02.trans kh).mono λ_ _ h=>h.elim).trans (kg.mono λ_ _ h=>h.1)
  refine zAz.mono (zAc0 (b:=b) (hp.keep k0g λb hb hS=>by have:=hP b hb;omega) ((b2.keep kh id).keep kg (show ¬ (H2.size<=H.size/\H.size<h.size) by omega)) (hmem i hi) (hmem j hj)) ?_
  rintro _ h' ⟨rfl,k'⟩
  exact⟨⟨_,rfl,rfl⟩,k'⟩
 refine zAJ (hS _ _ _ _ _ hb hcmp (λh k=>k) λb hb=>hb.2) ?_
 rintro _ h3 ⟨hs,k3⟩
 have hs:BufE 1 (λb=>H2.size<=b/\b<h.size) h3 t (zKn (zs (zPK (zBR mv) d))):=by
  unfold zPK;rw[<- zZU];exact hs
 have g2:=kh.1
 exact⟨BufE.re hs λb hb hF=>⟨by have:=hF.1;omega,hb⟩,(k02.trans kh).fresh k3 λb hb=>by have:=hb.1;omega⟩
end Go.Proofs.YticdfkoncnnmmaaGreatDoor
