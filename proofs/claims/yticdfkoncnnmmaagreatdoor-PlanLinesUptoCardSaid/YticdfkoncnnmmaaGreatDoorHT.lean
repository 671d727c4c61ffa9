import Derived.Test.YticdfkoncnnmmaaGreatDoorHR
import Derived.Test.YticdfkoncnnmmaaGreatDoorHF
import Derived.Test.YticdfkoncnnmmaaGreatDoorH7
set_option linter.unusedSimpArgs false
set_option linter.unusedVariables false
set_option maxRecDepth 100000
namespace Go.Proofs.YticdfkoncnnmmaaGreatDoor
open Go.X Go.X.Diff Go.MapKept
def zXJ:List UInt8:=[100,114,111,112]
def zXK:List UInt8:=[109,111,118,101]
def zAiT:List UInt8:=[97,100,100]
def zM8 (ad:List Man)(m:Man):List UInt8:=match ad.find? (λx=>decide (x.name=m.name)) with
 | none=>zLE [32] [zXJ,m.name,zEf m.ver]
 | some x=>zLE [32] [zXK,m.name,zEf m.ver,zEf x.ver]
def zAd3 (x:Man):List UInt8:=zLE [32] [zAiT,x.name,zEf x.ver]
def zSw (dr ad:List Man):List (List UInt8):=dr.map (zM8 ad)++(ad.filter λx=>!dr.any λm=>decide (m.name=x.name)).map zAd3
theorem zSx {P:zA2}{H:zAw}{v:Value}{l:List (List UInt8)}(hv:SlE 1 P H v (zKl l))(hP:∀ b,P b->b<H.size)(hn:l.length<=1000)(ht:total l<=1099511627776) :
  zAz prg zMo [v] H λu H'=>u=str (zLE [32] l)/\Keep No H H':=by
 apply zRl
 unfold zSK
 refine zAJ (zAck hv hP (by omega) (by decide) ht) ?_
 intro u h hR
 exact hR
theorem zAfU {H:zAw}{x:PW}{q:Nat}{nm:List UInt8}{cs:List Value}(a:At H q (str nm::cs))(w:x.1.1.wf):zAz prg zFY [.agg (pvC x).toArray,Ptr q 0] H λu H'=>u = .bool (decide (x.1.1.name=nm))/\Keep No H H':=by
 apply zMd
 unfold zKk
 simp only[zB1,zBa,zBf,zAg,zAu,zAa]
 have k1:Keep No H (H.push (.cells (pvC x).toArray zA5 (0,0))):=Keep.push
 have a1:At (H.push (.cells (pvC x).toArray zA5 (0,0))) H.size (pvC x):=At.push
 exact zCk (a1.ld (i:=0) rfl) (zCk ((a.keep k1 id).ld (i:=0) rfl) (zCk zDG ⟨rfl,k1⟩))
theorem zXL {pv:List PW}{nm:List UInt8}:(zBR (zEX pv)).find? (λm=>decide (m.name=nm))=(pv.find? λx=>decide (x.1.1.name=nm)).map λx=>x.1.1:=by
 have e:zBR (zEX pv)=pv.map λx=>x.1.1:=by unfold zEX zBR;rw[List.map_map];rfl
 rw[e,zRG]
def zAbv (ad:List Man)(l:List Man):List (List UInt8):=(l.filter λm=>(ad.find? λx=>decide (x.name=m.name)).isSome).map (·.name)
theorem zXM {ad l:List Man}{m:Man}:zAbv ad (l++[m])=zAbv ad l++if (ad.find? λx=>decide (x.name=m.name)).isSome then [m.name] else []:=by
 unfold zAbv
 rw[List.filter_append,zAE]
 congr 1
 show List.map _ (List.filter _ [m])=_
 rw[zCb]
 split<;>rfl
theorem zAfV {ad l:List Man}{x:Man}(hx:x∈ad):decide (x.name∈zAbv ad l)=l.any λm=>decide (m.name=x.name):=by
 rw[zA4,decide_eq_true_eq,zBM]
 unfold zAbv
 rw[zAo]
 constructor
 ·rintro⟨m,hm,e⟩
  exact⟨m,(zAX.1 hm).1,by simp[e]⟩
 ·rintro⟨m,hm,e⟩
  have e:=of_decide_eq_true e
  refine⟨m,zAX.2 ⟨hm,?_⟩,e⟩
  rw[List.find?_isSome]
  exact⟨x,hx,by simp[e]⟩
theorem zAmF {a b c:List UInt8}:total [a,b,c]=a.length+b.length+c.length:=by unfold total;simp;omega
theorem zAm5 {a b c d:List UInt8}:total [a,b,c,d]=a.length+b.length+c.length+d.length:=by unfold total;simp;omega
set_option maxHeartbeats 4000000 in
theorem zAiU {Pd Ps:zA2}{H:zAw}{kd:Int}{d s t:Value}{dr:List MV}{ad:List PW}(hd:zNM Pd H d dr)(hs:SlE 9 Ps H s (ad.map pvC))(hsm:∀ x∈ad,PkV Ps H x)(hB:∀ b,Pd b\/Ps b->b<H.size)(hn:((zBR dr).map (·.name)).Nodup)(l1:dr.length<=1000)(l2:ad.length<=1000)(hm:∀ m∈zBR dr,m.name.length<=1000)(hm':∀ m∈zBR (zEX ad),m.name.length<=1000)(hT:zWi H) :
  zAz prg zIW [.agg (chC kd d s t).toArray] H λu H'=>BufE 1 (λb=>H.size<=b/\b<H'.size) H' u (zKl (zSw (zBR dr) (zBR (zEX ad))))/\Keep No H H':=by
 apply zM4
 unfold zLN
 simp only[zB1,zBa,zBf,zAg,zAu,zAa]
 generalize hH1:H.push (.cells (chC kd d s t).toArray zB3 (0,0))=h1
 have k1:Keep No H h1:=by rw[<- hH1];exact Keep.push
 have a1:At h1 H.size (chC kd d s t):=by rw[<- hH1];exact At.push
 have s1:h1.size=H.size+1:=by rw[<- hH1];simp
 refine zT8 ?_
 generalize hH2:h1.push (.map #[] 0)=h2
 have k2:Keep No h1 h2:=by rw[<- hH2];exact Keep.push
 have m2:zXR h2 h1.size []:=by rw[<- hH2];exact zOf.new
 have s2:h2.size=h1.size+1:=by rw[<- hH2];simp
 have k02:=k1.trans k2
 have a2:=a1.keep k2 id
 let S:zA2:=λb=>b=h1.size\/h2.size<=b
 have kS:∀ h,Keep S h2 h->Keep No H h:=λh k=>k02.fresh k λb hb=>by rcases hb with hb|hb<;>omega
 have aS:∀ h,Keep S h2 h->At h H.size (chC kd d s t):=λh k=>a2.keep k λhb=>by rcases hb with hb|hb<;>omega
 have dk:∀ h,Keep No H h->zNM Pd h d dr:=λh k=>hd.keep k λ_ _=>id
 have TP:∀ h,Keep No H h->zWi h:=λh k=>hT.keep k λ_ h=>h.elim
 have lad:zDD s=some (.int .i64 (ad.length:Nat)):=by have:=hs.len;rwa [zAf]at this
 let adm:=zBR (zEX ad)
 refine zMh (λw _ h=>BufE 1 (λb=>h2.size<=b) h w (zKl ((zBR dr).map (zM8 adm)))/\zXR h h1.size (zAbv adm (zBR dr))/\Keep S h2 h) (λk3 hk3=>?_) ?_
 ·refine zCk (a2.ld (i:=1) rfl) (zCk hd.len (zAdA (λi w h=>BufE 1 (λb=>h2.size<=b) h w (zKl (((zBR dr).take i).map (zM8 adm)))/\zXR h h1.size (zAbv adm ((zBR dr).take i))/\Keep S h2 h) ⟨BufE.nil,m2,Keep.refl⟩ (λw h hI=>hk3 _ _ _ (by rw[zAs (by simp)]at hI;exact hI)) ?_))
  rintro i w h hlt ⟨hb,hs',kh⟩ k5 hk5
  obtain⟨x,hx,hxm⟩:=zS1 hlt
  have k0h:=kS _ kh
  have gh:=kh.1
  have wx:=((dk _ k0h).m x hxm).wf
  have hgx:(zBR dr)[i]? = some x.1:=zLl hx
  have hxd:x.1∈zBR dr:=zAB hgx
  have htk:(zBR dr).take (i+1)=(zBR dr).take i++[x.1]:=by rw[zAI,hgx];rfl
  have hxn:=hm x.1 hxd
  refine zNW (λw' h'=>BufE 1 (λb=>h2.size<=b) h' w' (zKl (((zBR dr).take (i+1)).map (zM8 adm)))/\zXR h' h1.size (zAbv adm ((zBR dr).take (i+1)))/\Keep S h2 h') (λk7 hk7=>?_) λw' h' hI=>zOX hlt (by omega) (hk5 _ _ hI)
  refine zAiu (dk _ k0h).h (zLl hx) zMS (zBK zOD) λh10 a10 k10=>?_
  have a10':At h10 h.size (zGI x.1 x.2.1 x.2.2.1 x.2.2.2):=a10
  have g10:=k10.1
  have kS10:Keep S h2 h10:=kh.trans (k10.mono λ_ _ h=>h.elim)
  have k010:=kS _ kS10
  simp only[zBf,zAg,zAu,zAa]
  refine zCk ((aS _ kS10).ld (i:=2) rfl) ?_
  refine zAJ (zDz (zYI (enc:=pvC) (del:=λy:PW=>decide (y.1.1.name=x.1.name)) (G:=λh=>At h h.size (zGI x.1 x.2.1 x.2.2.1 x.2.2.2)\/Keep No h10 h) (hs.keep k010 λ_ _=>id) (λy g hy hg=>?_) (λg k => .inr k) (by omega))) ?_
  ·have kg:Keep No h10 g:=by
    rcases hg with hg|hg
    ·exact absurd hg.lt (zCU _)
    ·exact hg
   exact .inl ⟨zFY,#[],#[Ptr h.size 0],rfl,by kernel_rfl,zAfU (a10'.keep kg id) (hsm y hy).m.wf⟩
  rintro _ h11 ⟨rfl,k11⟩
  have a11:=a10'.keep k11 id
  have kS11:Keep S h2 h11:=kS10.trans (k11.mono λ_ _ h=>h.elim)
  have k011:=kS _ kS11
  have b11:=(hb.keep k10 λ_ _=>id).keep k11 λ_ _=>id
  have m11:=(hs'.keep k10 id).keep k11 id
  have g11:=k11.1
  have hvl:(zBR dr).length=dr.length:=by simp
  rcases zRE (p:=λy:PW=>decide (y.1.1.name=x.1.name)) (l:=ad) with ⟨i1,i2⟩|⟨j,y,i1,i2,i3⟩
  ·have hf:adm.find? (λz=>decide (z.name=x.1.name))=none:=by show(zBR (zEX ad)).find? _=none;rw[zXL,i2];rfl
   refine zCk ltZ (zNN (by rw[i1];rfl) ?_)
   refine zCk (zDd a11) (zCk (zI7 a11 wx) ?_)
   refine zAJ (zPG wx.ver (TP _ k011)) ?_
   rintro _ h12 ⟨rfl,k12⟩
   have a12:=a11.keep k12 id
   rw[zDd a12,zBq,zA9]
   rw[show(.string ⟨#[100,114,111,112]⟩:Value)=str zXJ from rfl,zAe8,zCh]
   have kp:Keep No h12 (h12.push (.cells ([zXJ,x.1.name,zEf x.1.ver].map str).toArray zBd (0,0))):=Keep.push
   have hsl:SlE 1 (· = h12.size) (h12.push (.cells ([zXJ,x.1.name,zEf x.1.ver].map str).toArray zBd (0,0))) (.slice (some ⟨h12.size,0,none⟩) 3 3) (zKl [zXJ,x.1.name,zEf x.1.ver]) :=
    ⟨⟨_,3,rfl,zAh _,.inr ⟨h12.size,0,rfl,rfl,by rw[zH1];exact Pt.of zCa⟩⟩,zL3,zK1 λv hv=>by obtain⟨z,_,rfl⟩:=zAo.1 hv;rfl⟩
   have hsl40:=zHV wx.ver.p3
   refine zAJ (zSx hsl (λb hb=>by simp[hb]) (by simp) (by rw[zAmF];unfold zXJ;simp;omega)) ?_
   rintro _ h14 ⟨rfl,k14⟩
   have k1114:=(k12.trans kp).trans k14
   have g14:=k1114.1
   have hl:(zKl (((zBR dr).take i).map (zM8 adm))).length<=1000:=by rw[zH6,zAf,zAZ];omega
   refine zUi (b11.keep k1114 λ_ _=>id) zAa3 rfl (λc hc=>by rw[zAF.1 hc];rfl) (by omega) (by omega) (by omega) λu h16 bu k16=>hk7 _ _ ⟨?_,?_,(kS11.trans (k1114.mono λ_ _ h=>h.elim)).trans (k16.mono λb _ h => .inr h)⟩
   ·rw[htk,zAE,zAW,zCm]
    have:zM8 adm x.1=zLE [32] [zXJ,x.1.name,zEf x.1.ver]:=by unfold zM8;rw[hf]
    rw[this]
    simpa [zKl,zGD] using bu
   ·rw[htk,zXM,hf]
    simp only[Option.isSome_none,zAb,if_false,zAN]
    exact(m11.keep k1114 id).keep k16 λhb=>by have hb:h2.size<=h1.size:=hb;omega
  ·have hym:=zAB i2
   have wy:=(hsm y hym).m.wf
   have hf:adm.find? (λz=>decide (z.name=x.1.name))=some y.1.1:=by show(zBR (zEX ad)).find? _=_;rw[zXL,i3];rfl
   refine zCk ltZ (zOF (by rw[i1];simp) ?_)
   refine zCk (zDd a11) ?_
   have hno:x.1.name∉zAbv adm ((zBR dr).take i):=λhmm=>by
    unfold zAbv at hmm
    obtain⟨m,hm1,e⟩:=zAo.1 hmm
    obtain⟨j',hj',e2⟩:=zBx (zAX.1 hm1).1
    rw[zAZ]at hj'
    rw[List.getElem_take]at e2
    have:=zWf hn (i:=j') (j:=i) (by omega) (by omega) (by
     rw[zPO (by omega),zPO (by omega),e2,e]
     have:=zAP.1 hgx
     rw[this.2])
    omega
   refine zAdt m11 hno λh17 m17 k17=>?_
   have kS17:Keep S h2 h17:=kS11.trans (k17.mono λb _ h => .inl h)
   have k017:=kS _ kS17
   have a17:=a11.keep k17 (by omega)
   have g17:=k17.1
   refine zCk (zDd a17) (zCk (zI7 a17 wx) (zCk ((aS _ kS17).ld (i:=2) rfl) ?_))
   obtain⟨b',o',hiy,hpy,hby⟩:=(hs.keep k017 λ_ _=>id).at (zLl i2)
   rw[i1,hiy .i64,zAa,zBf,zAa,zBf,zAa,zAu]
   have hv17:∀ g,Keep No h17 g->ldN 4 g (Ptr b' (o'+1))=some (.agg (zED y.1.1.ver).toArray):=λg k=>by
    have:Pt g b' (o'+1) (zED y.1.1.ver):=Pt.mid (A:=[str y.1.1.name]) (B:=zED y.1.1.ver) (C:=[y.1.2.1,y.1.2.2.1,y.1.2.2.2,y.2.1]) (o:=o') (by simpa [pvC,mvC,zGI] using hpy.keep k id) (by simp)
    exact this.agg (zDL wy.ver)
   refine zCk (hv17 _ Keep.refl) ?_
   refine zAJ (zPG wx.ver (TP _ k017)) ?_
   rintro _ h18 ⟨rfl,k18⟩
   have kS18:Keep S h2 h18:=kS17.trans (k18.mono λ_ _ h=>h.elim)
   have a18:=a17.keep k18 id
   rw[hv17 _ k18,(aS _ kS18).ld (i:=2) rfl,zDd a18]
   rw[zBq,zBq,zBq,zA9]
   refine zAJ (zPG wy.ver (TP _ (kS _ kS18))) ?_
   rintro _ h19 ⟨rfl,k19⟩
   have a19:=a18.keep k19 id
   rw[zDd a19,zBq,zA9]
   rw[show(.string ⟨#[109,111,118,101]⟩:Value)=str zXK from rfl,zAkx,zCh]
   have kp:Keep No h19 (h19.push (.cells ([zXK,x.1.name,zEf x.1.ver,zEf y.1.1.ver].map str).toArray zBd (0,0))):=Keep.push
   have hsl:SlE 1 (· = h19.size) (h19.push (.cells ([zXK,x.1.name,zEf x.1.ver,zEf y.1.1.ver].map str).toArray zBd (0,0))) (.slice (some ⟨h19.size,0,none⟩) 4 4) (zKl [zXK,x.1.name,zEf x.1.ver,zEf y.1.1.ver]) :=
    ⟨⟨_,4,rfl,zAh _,.inr ⟨h19.size,0,rfl,rfl,by rw[zH1];exact Pt.of zCa⟩⟩,zL3,zK1 λv hv=>by obtain⟨z,_,rfl⟩:=zAo.1 hv;rfl⟩
   have hsl40:=zHV wx.ver.p3
   have hsl41:=zHV wy.ver.p3
   refine zAJ (zSx hsl (λb hb=>by simp[hb]) (by simp) (by rw[zAm5];unfold zXK;simp;omega)) ?_
   rintro _ h21 ⟨rfl,k21⟩
   have k1721:=((k18.trans k19).trans kp).trans k21
   have g21:=k1721.1
   have hl:(zKl (((zBR dr).take i).map (zM8 adm))).length<=1000:=by rw[zH6,zAf,zAZ];omega
   refine zUi ((b11.keep k17 λb hb e=>by have hb:h2.size<=b:=hb;omega).keep k1721 λ_ _=>id) zAa3 rfl (λc hc=>by rw[zAF.1 hc];rfl) (by omega) (by omega) (by omega) λu h23 bu k23=>hk7 _ _ ⟨?_,?_,(kS17.trans (k1721.mono λ_ _ h=>h.elim)).trans (k23.mono λb _ h => .inr h)⟩
   ·rw[htk,zAE,zAW,zCm]
    have:zM8 adm x.1=zLE [32] [zXK,x.1.name,zEf x.1.ver,zEf y.1.1.ver]:=by unfold zM8;rw[hf]
    rw[this]
    simpa [zKl,zGD] using bu
   ·rw[htk,zXM,hf]
    simp only[Option.isSome_some,if_true]
    exact(m17.keep k1721 id).keep k23 λhb=>by have hb:h2.size<=h1.size:=hb;omega
 rintro w _ h4 ⟨b4,m4,k4⟩
 refine zMh (λw _ h=>BufE 1 (λb=>h2.size<=b) h w (zKl (zSw (zBR dr) adm))/\Keep S h2 h) (λk24 hk24=>?_) λw _ h hI=>⟨BufE.re hI.1 λb hb hF=>⟨by have hF:h2.size<=b:=hF;omega,hb⟩,kS _ hI.2⟩
 refine zCk ((aS _ k4).ld (i:=2) rfl) (zCk lad (zAdA (λi w h=>BufE 1 (λb=>h2.size<=b) h w (zKl ((zBR dr).map (zM8 adm)++((adm.take i).filter λx=>!(zBR dr).any λm=>decide (m.name=x.name)).map zAd3))/\zXR h h1.size (zAbv adm (zBR dr))/\Keep S h2 h) ⟨by simpa using b4,m4,k4⟩ (λw h hI=>hk24 _ _ _ (by
  have:ad.length=adm.length:=by show _=(zBR (zEX ad)).length;simp[zEX]
  rw[this,zBN]at hI
  exact⟨hI.1,hI.2.2⟩)) ?_))
 rintro i w h hlt ⟨hb,ms,kh⟩ k26 hk26
 obtain⟨x,hx,hxm⟩:=zS1 hlt
 have k0h:=kS _ kh
 have gh:=kh.1
 have wx:=(hsm x hxm).m.wf
 have hgx:adm[i]? = some x.1.1:=zLl (f:=λz:MV=>z.1) (zLl (f:=λz:PW=>z.1) hx)
 have hxa:x.1.1∈adm:=zAB hgx
 have hxn:=hm' x.1.1 hxa
 have est:=zUt (p:=λx:Man=>!(zBR dr).any λm=>decide (m.name=x.name)) hgx
 have hal:adm.length=ad.length:=by show(zBR (zEX ad)).length=_;simp[zEX]
 refine zNW (λw' h'=>BufE 1 (λb=>h2.size<=b) h' w' (zKl ((zBR dr).map (zM8 adm)++((adm.take (i+1)).filter λx=>!(zBR dr).any λm=>decide (m.name=x.name)).map zAd3))/\zXR h' h1.size (zAbv adm (zBR dr))/\Keep S h2 h') (λk28 hk28=>?_) λw' h' hI=>zOX hlt (by omega) (hk26 _ _ hI)
 refine zAiu (hs.keep k0h λ_ _=>id) (zLl hx) zAdX (zDX zQy) λh31 a31 k31=>?_
 simp only[zBf,zAg,zAu,zAa]
 refine zCk (zAdY a31 wx) ?_
 refine zAiv (z:=zGI ⟨[],zEQ,[],[],[]⟩ zCq zCq zCq) zMS (zBK zOD) (zBK wx) (zG1 (x:=x.1) (hsm x hxm).m) λh33 a33 k33=>?_
 have a33':At h33 h31.size (zGI x.1.1 x.1.2.1 x.1.2.2.1 x.1.2.2.2):=a33
 have kh33:=k31.trans k33
 have g33:=kh33.1
 have kS33:Keep S h2 h33:=kh.trans (kh33.mono λ_ _ h=>h.elim)
 simp only[zBf,zAg,zAu,zAa]
 refine zCk (zDd a33') ?_
 refine zAds (ms.keep kh33 id) ?_
 rw[zAfV hxa]
 have b33:=hb.keep kh33 λ_ _=>id
 have m33:=ms.keep kh33 id
 have k033:=kS _ kS33
 refine zCk rfl (zUI (λq=>?_) λq=>hk28 _ _ ⟨?_,m33,kS33⟩)
 ·refine zCk (zDd a33') (zCk (zI7 a33' wx) ?_)
  refine zAJ (zPG wx.ver (TP _ k033)) ?_
  rintro _ h35 ⟨rfl,k35⟩
  have a35:=a33'.keep k35 id
  rw[zDd a35,zBq,zA9]
  rw[show(.string ⟨#[97,100,100]⟩:Value)=str zAiT from rfl,zAe8,zCh]
  have kp:Keep No h35 (h35.push (.cells ([zAiT,x.1.1.name,zEf x.1.1.ver].map str).toArray zBd (0,0))):=Keep.push
  have hsl:SlE 1 (· = h35.size) (h35.push (.cells ([zAiT,x.1.1.name,zEf x.1.1.ver].map str).toArray zBd (0,0))) (.slice (some ⟨h35.size,0,none⟩) 3 3) (zKl [zAiT,x.1.1.name,zEf x.1.1.ver]) :=
   ⟨⟨_,3,rfl,zAh _,.inr ⟨h35.size,0,rfl,rfl,by rw[zH1];exact Pt.of zCa⟩⟩,zL3,zK1 λv hv=>by obtain⟨z,_,rfl⟩:=zAo.1 hv;rfl⟩
  have hsl40:=zHV wx.ver.p3
  refine zAJ (zSx hsl (λb hb=>by simp[hb]) (by simp) (by rw[zAmF];unfold zAiT;simp;omega)) ?_
  rintro _ h37 ⟨rfl,k37⟩
  have k3337:=(k35.trans kp).trans k37
  have g37:=k3337.1
  have hfl:=zBl (λx:Man=>!(zBR dr).any λm=>decide (m.name=x.name)) (adm.take i)
  rw[zAZ]at hfl
  have hvl:(zBR dr).length=dr.length:=by simp
  refine zUi (b33.keep k3337 λ_ _=>id) zAa3 rfl (λc hc=>by rw[zAF.1 hc];rfl) (by omega) (by
   have h1:(((adm.take i).filter λx=>!(zBR dr).any λm=>decide (m.name=x.name)).map zAd3).length<=1000:=by rw[zAf];omega
   rw[zH6,zAq,zAf];omega) (by omega) λu h39 bu k39=>hk28 _ _ ⟨?_,(m33.keep k3337 id).keep k39 (λhb=>by have hb:h2.size<=h1.size:=hb;omega),(kS33.trans (k3337.mono λ_ _ h=>h.elim)).trans (k39.mono λb _ h => .inr h)⟩
  rw[est,show(!(zBR dr).any λm=>decide (m.name=x.1.1.name))=true from q,if_pos rfl,zAE,<- zBc]
  simpa [zKl,zGD,zAd3] using bu
 ·rw[est,show(!(zBR dr).any λm=>decide (m.name=x.1.1.name))=false from q]
  simpa using b33
theorem zJ0 {q:EqK}{a b:List UInt8}(h:a.length+b.length<=9223372036854775807):zAC q .add (str a) (str b)=some (str (a++b)):=by rw[zGn];exact zS9 h
theorem zAl1 {n:Nat}(h:1<=n)(h':n<=1000000):zAC .no .sub (.int .i64 (n:Nat)) (.int .i64 1)=some (.int .i64 ((n-1:Nat):Int)):=by
 have:=zYz (i:=n-1) (by omega)
 rwa [show n-1+1=n by omega]at this
def toF (ad:List Man)(nm:List UInt8):List UInt8:=match ad.find? (λx=>decide (x.name=nm)) with
 | none=>[]
 | some x=>zEf x.ver
theorem zAag {x:Man}{l:List Man}{nm:List UInt8}:toF (x::l) nm=if x.name=nm then zEf x.ver else toF l nm:=by
 unfold toF
 rw[List.find?_cons]
 by_cases h:x.name=nm
 ·rw[decide_eq_true h,if_pos h]
 ·rw[decide_eq_false h,if_neg h]
theorem zAfW {ad:List Man}{m:Man}(hok:∀ x∈ad,x.ver.wf/\zGl x.ver=true):zM8 ad m=if toF ad m.name=[] then [100,114,111,112,32]++m.name++[32]++zEf m.ver else [109,111,118,101,32]++m.name++[32]++zEf m.ver++[32]++toF ad m.name:=by
 unfold zM8 toF
 cases hf:ad.find? (λx=>decide (x.name=m.name)) with
 | none=>simp[zLE,zXJ]
 | some x =>
  obtain⟨w,o⟩:=hok x (zCT hf)
  rw[if_neg (zZt w.p3 o)]
  simp[zLE,zXK]
theorem zAiV {x:Man}:zAd3 x=[97,100,100,32]++x.name++[32]++zEf x.ver:=by simp[zAd3,zLE,zAiT]
theorem zTm {h:zAw}{b o:Nat}{m:Man}(p:Pt h b o (itC (itT m))):ld1 h (Ptr b o)=some (str m.name)/\ld1 h (Ptr b (o+1))=some (str (zEf m.ver)):=⟨p.cell0 rfl,p.cell (i:=1) rfl⟩
set_option maxHeartbeats 2000000 in
theorem zAbg {P Q:zA2}{H:zAw}{v w:Value}{dr am:List MV}(hv:SlE 34 P H v ((zUs dr).map itC))(hw:SlE 34 Q H w ((zUs am).map itC))(hok:∀ x∈zBR am,x.ver.wf/\zGl x.ver=true)(wd:∀ x∈zBR dr,x.ver.wf)(l1:dr.length<=1000)(l2:am.length<=1000)(hm:∀ m∈zBR dr,m.name.length<=1000)(hm':∀ m∈zBR am,m.name.length<=1000) :
  zAz prg zHI [v,w] H λu H'=>BufE 1 (λb=>H.size<=b/\b<H'.size) H' u (zKl (zSw (zBR dr) (zBR am)))/\Keep No H H':=by
 apply zL9
 unfold zKg
 have lv:=hv.len
 have lw:=hw.len
 rw[zAiK]at lv lw
 have hvl:(zBR dr).length=dr.length:=by simp
 have hwl:(zBR am).length=am.length:=by simp
 have hvk:∀ h,Keep No H h->SlE 34 P h v ((zUs dr).map itC):=λh k=>hv.keep k λ_ _=>id
 have hwk:∀ h,Keep No H h->SlE 34 Q h w ((zUs am).map itC):=λh k=>hw.keep k λ_ _=>id
 have tl:∀ nm,(toF (zBR am) nm).length<=40:=λnm=>by
  unfold toF
  cases hf:(zBR am).find? (λx=>decide (x.name=nm)) with
  | none=>simp
  | some x=>exact zHV (hok x (zCT hf)).1.p3
 let B:zA2:=λb=>H.size<=b
 refine zMh (λu _ h=>BufE 1 B h u (zKl ((zBR dr).map (zM8 (zBR am))))/\Keep No H h) (λk1 hk1=>?_) ?_
 ·refine zAdz (s:=0) lv (λi u h=>BufE 1 B h u (zKl (((zBR dr).take i).map (zM8 (zBR am))))/\Keep No H h) ⟨BufE.nil,Keep.refl⟩ (λi u h hi hI=>hk1 _ _ _ (by rw[zAs (by omega)]at hI;exact hI)) ?_
  rintro i u h _ hlt ⟨hb,kh⟩ k3 hk3
  obtain⟨x,hx,hxm⟩:=zS1 hlt
  have hgx:(zBR dr)[i]? = some x.1:=zLl hx
  have hxd:x.1∈zBR dr:=zAB hgx
  have htk:(zBR dr).take (i+1)=(zBR dr).take i++[x.1]:=by rw[zAI,hgx];rfl
  have hxn:=hm x.1 hxd
  have hsl:=zHV (wd x.1 hxd).p3
  have gh:=kh.1
  obtain⟨b,o,hix,hpt,_⟩:=(hvk _ kh).at (zAac hx)
  obtain⟨c1,c2⟩:=zTm hpt
  refine J3_i (λu' _ _ h'=>BufE 1 B h' u' (zKl (((zBR dr).take (i+1)).map (zM8 (zBR am))))/\Keep No H h') (λk5 hk5=>?_) λu' _ _ h' hI=>zOX hlt (by omega) (hk3 _ _ hI)
  refine zMh (λt7 _ h'=>t7=str (toF (zBR am) x.1.name)/\h=h') (λk7 hk7=>?_) ?_
  ·refine zCk lw ?_
   by_cases hz:am.length=0
   ·have e0:zBR am=[]:=zBk.1 (by omega)
    refine zCk (show zAC .no .sub (.int .i64 (am.length:Nat)) (.int .i64 1)=some (.int .i64 (-1)) by rw[hz];rfl) ?_
    refine zUv (λt7 u h'=>t7=str []/\u = .int .i64 (-1)/\h=h') (λ_ _ _=>0) ⟨rfl,rfl,rfl⟩ ?_
    rintro _ _ _ ⟨rfl,rfl,rfl⟩ k9 hk9
    exact zCk geZ (zOF rfl (hk7 _ _ _ ⟨by rw[e0];rfl,rfl⟩))
   refine zCk (zAl1 (by omega) (by omega)) ?_
   refine zUv (λt7 u h'=>∃ j:Nat,j<=am.length/\t7=str (toF ((zBR am).drop j) x.1.name)/\u = .int .i64 ((j:Int)-1)/\h=h') (λ_ u _=>match u with | .int _ t=>(t+1).toNat|_=>0) ⟨am.length,zAh _,by rw[zCH (by omega)];rfl,by congr 1;omega,rfl⟩ ?_
   rintro _ _ _ ⟨j,hj,rfl,rfl,rfl⟩ k9 hk9
   refine zCk geZ (zUI (λq=>?_) λq=>?_)
   rotate_left
   ·have q:=of_decide_eq_false q
    obtain rfl:j=0:=by omega
    exact hk7 _ _ _ ⟨by rw[zBY],rfl⟩
   have q:=of_decide_eq_true q
   have hj1:1<=j:=by omega
   have hjl:j-1<am.length:=by omega
   obtain⟨y,hy,hym⟩:=zS1 hjl
   have hgy:(zBR am)[j-1]? = some y.1:=zLl hy
   have hdr:(zBR am).drop (j-1)=y.1::(zBR am).drop j:=by
    have h1:j-1<(zBR am).length:=by omega
    rw[zBF h1,show j-1+1=j by omega]
    congr 1
    rw[zAj h1]at hgy
    exact zAK hgy
   obtain⟨b',o',hiy,hpy,_⟩:=(hwk _ kh).at (zAac hy)
   obtain⟨d1,d2⟩:=zTm hpy
   have ej:((j:Int)-1)=((j-1:Nat):Int):=by omega
   have es:zAC .no .sub (.int .i64 ((j:Int)-1)) (.int .i64 1)=some (.int .i64 (((j-1:Nat):Int)-1)):=by
    rw[zAH];simp only[zC3];rw[zB9 (by omega) (by omega)];congr 2;omega
   refine zNW (λt7 h'=>t7=str (toF ((zBR am).drop (j-1)) x.1.name)/\h=h') (λk11 hk11=>?_) ?_
   ·rw[ej,hiy .i64,zAa,zBf,zAa,zAu]
    refine zCk d1 ?_
    rw[hix .i64,zAa,zBf,zAa,zAu]
    refine zCk c1 (zCk zDG (zUI (λq2=>?_) λq2=>hk11 _ _ ⟨?_,rfl⟩))
    ·rw[zAa,zBf,zAa]
     refine zCk d2 (hk11 _ _ ⟨?_,rfl⟩)
     rw[hdr,zAag,if_pos (of_decide_eq_true q2)]
    ·rw[hdr,zAag,if_neg (of_decide_eq_false q2)]
   rintro _ _ ⟨rfl,rfl⟩
   exact zCk es (hk9 _ _ _ ⟨j-1,by omega,rfl,rfl,rfl⟩ (by show(((j-1:Nat):Int)-1+1).toNat<((j:Int)-1+1).toNat;omega))
  rintro _ _ _ ⟨rfl,rfl⟩
  have hl:(zKl (((zBR dr).take i).map (zM8 (zBR am)))).length<=1000:=by rw[zH6,zAf,zAZ];omega
  have ht:=tl x.1.name
  have hdl:=zAfW (ad:=zBR am) (m:=x.1) hok
  have fin:∀ s:List UInt8,zM8 (zBR am) x.1=s->∀ t8,zD1 h zBd 1 (zGf prg zBd 1 [(0,str s)]) λt57 h13=>zIU zBd 1 16 h13 u t57 λt58 h14=>k5 t58 (str (toF (zBR am) x.1.name)) t8 h14:=λs e t8=>by
   refine zUi hb zAa3 rfl (λc hc=>by rw[zAF.1 hc];rfl) (by omega) (by omega) gh λu h16 bu k16=>hk5 _ _ _ _ ⟨?_,kh.fresh k16 λb hb=>hb⟩
   rw[htk,zAE,zAW,zCm,e]
   simpa [zKl,zGD] using bu
  rw[show(.string ⟨#[]⟩:Value)=str [] from rfl,zDG,zAa]
  refine zUI (λq=>?_) λq=>?_
  ·have q:=of_decide_eq_true q
   rw[if_pos q]at hdl
   rw[hix .i64,zAa,zBf,zAa,zAu]
   refine zCk c1 ?_
   rw[show(.string ⟨#[100,114,111,112,32]⟩:Value)=str [100,114,111,112,32] from rfl,zJ0 (by simp;omega),zAa,show(.string ⟨#[32]⟩:Value)=str [32] from rfl,zJ0 (by simp;omega),zAa,zAa,zBf,zAa]
   refine zCk c2 ?_
   rw[zJ0 (by simp;omega),zAa]
   exact fin _ hdl _
  ·have q:=of_decide_eq_false q
   rw[if_neg q]at hdl
   rw[hix .i64,zAa,zBf,zAa,zAu]
   refine zCk c1 ?_
   rw[show(.string ⟨#[109,111,118,101,32]⟩:Value)=str [109,111,118,101,32] from rfl,zJ0 (by simp;omega),zAa,show(.string ⟨#[32]⟩:Value)=str [32] from rfl,zJ0 (by simp;omega),zAa,zAa,zBf,zAa]
   refine zCk c2 ?_
   rw[zJ0 (by simp;omega),zAa,zJ0 (by simp;omega),zAa,zJ0 (by simp;omega),zAa]
   exact fin _ hdl _
 rintro u0 _ h2 ⟨hb2,k2⟩
 refine zMh (λu _ h=>BufE 1 B h u (zKl (zSw (zBR dr) (zBR am)))/\Keep No H h) (λk17 hk17=>?_) λu _ h hI=>⟨BufE.re hI.1 λb hb hF=>⟨hF,hb⟩,hI.2⟩
 refine zAdz (s:=0) lw (λi u h=>BufE 1 B h u (zKl ((zBR dr).map (zM8 (zBR am))++(((zBR am).take i).filter λx=>!(zBR dr).any λm=>decide (m.name=x.name)).map zAd3))/\Keep No H h) ⟨by simpa using hb2,k2⟩ (λi u h hi hI=>hk17 _ _ _ (by rw[zAs (by omega)]at hI;exact hI)) ?_
 rintro i u h _ hlt ⟨hb,kh⟩ k19 hk19
 obtain⟨x,hx,hxm⟩:=zS1 hlt
 have hgx:(zBR am)[i]? = some x.1:=zLl hx
 have hxa:x.1∈zBR am:=zAB hgx
 have hxn:=hm' x.1 hxa
 have hsl:=zHV (hok x.1 hxa).1.p3
 have gh:=kh.1
 have est:=zUt (p:=λx:Man=>!(zBR dr).any λm=>decide (m.name=x.name)) hgx
 obtain⟨b,o,hix,hpt,_⟩:=(hwk _ kh).at (zAac hx)
 obtain⟨c1,c2⟩:=zTm hpt
 refine J3_i (λu' _ _ h'=>BufE 1 B h' u' (zKl ((zBR dr).map (zM8 (zBR am))++(((zBR am).take (i+1)).filter λx=>!(zBR dr).any λm=>decide (m.name=x.name)).map zAd3))/\Keep No H h') (λk21 hk21=>?_) λu' _ _ h' hI=>zOX hlt (by omega) (hk19 _ _ hI)
 refine zMh (λt10 _ h'=>t10 = .bool ((zBR dr).any λm=>decide (m.name=x.1.name))/\h=h') (λk23 hk23=>?_) ?_
 ·refine zAdz (s:=0) lv (λj t10 h'=>t10 = .bool (((zBR dr).take j).any λm=>decide (m.name=x.1.name))/\h=h') ⟨rfl,rfl⟩ (λj t10 h' hj hI=>hk23 _ _ _ (by rw[zAs (by omega)]at hI;exact hI)) ?_
  rintro j _ _ _ hj ⟨rfl,rfl⟩ k25 hk25
  obtain⟨y,hy,hym⟩:=zS1 hj
  have ast:=zWa (p:=λm:Man=>decide (m.name=x.1.name)) (zLl (f:=λz:MV=>z.1) hy)
  obtain⟨b',o',hiy,hpy,_⟩:=(hvk _ kh).at (zAac hy)
  obtain⟨d1,d2⟩:=zTm hpy
  refine zRQ (λq=>zOX hj (by omega) (hk25 _ _ ⟨by rw[ast,q];rfl,rfl⟩)) λq=>?_
  rw[hiy .i64,zAa,zBf,zAa,zAu]
  refine zCk d1 ?_
  rw[hix .i64,zAa,zBf,zAa,zAu]
  exact zCk c1 (zCk zDG (zOX hj (by omega) (hk25 _ _ ⟨by rw[ast,q];rfl,rfl⟩)))
 rintro _ _ _ ⟨rfl,rfl⟩
 refine zCk rfl (zUI (λq=>?_) λq=>hk21 _ _ _ _ ⟨?_,kh⟩)
 ·rw[hix .i64,zAa,zBf,zAa,zAu]
  refine zCk c1 ?_
  rw[show(.string ⟨#[97,100,100,32]⟩:Value)=str [97,100,100,32] from rfl,zJ0 (by simp;omega),zAa,show(.string ⟨#[32]⟩:Value)=str [32] from rfl,zJ0 (by simp;omega),zAa,zAa,zBf,zAa]
  refine zCk c2 ?_
  rw[zJ0 (by simp;omega),zAa]
  have h1:((((zBR am).take i).filter λx=>!(zBR dr).any λm=>decide (m.name=x.name)).map zAd3).length<=1000:=by
   have:=zBl (λx:Man=>!(zBR dr).any λm=>decide (m.name=x.name)) ((zBR am).take i)
   rw[zAZ]at this
   rw[zAf];omega
  refine zUi hb zAa3 rfl (λc hc=>by rw[zAF.1 hc];rfl) (by omega) (by rw[zH6,zAq,zAf];omega) gh λu h16 bu k16=>hk21 _ _ _ _ ⟨?_,kh.fresh k16 λb hb=>hb⟩
  rw[est,show(!(zBR dr).any λm=>decide (m.name=x.1.name))=true from q,if_pos rfl,zAE,<- zBc,zAW,zCm,zAiV]
  simpa [zKl,zGD] using bu
 ·rw[est,show(!(zBR dr).any λm=>decide (m.name=x.1.name))=false from q]
  simpa using hb
set_option maxHeartbeats 2000000 in
theorem zYU {P:zA2}{H:zAw}{vi vp:Value}{z:zSu}(hz:zAa6 P H vi vp z)(hP:∀ b,P b->b<H.size)(hl:z.pv.length<=1048576)(hT:zZF H)(hS:zTa H)(hNG:NG<=H.size) :
  zAz prg zIq [.agg (zMU vi vp z.ask).toArray] H λu H'=>u = .bool true/\Keep No H H':=by
 apply zJ2
 unfold zH7
 refine zAiP hz hl hT hS (λh' k=>⟨rfl,k⟩) λh14 a14 k14 sz=>?_
 have TT:∀ h',Keep No H h'->zZF h'/\zTa h':=λh' k=>⟨hT.keep k λ_ h=>h.elim,hS.keep k λ_ h=>h.elim⟩
 have il:=sz.il
 have hwz:∀ x∈z.pv,x.1.1.wf:=λx hx=>(hz.p.m x hx).m.wf
 refine zAkK hz hP hT hS hNG a14 k14 sz λh19 q l kd d s t e Hm hm M=>?_
 simp only[zBf,zAg,zAa]
 obtain⟨dr,ad,hD,hSd,hSm,dl,sl,hnd,hok,hnm,hnm'⟩:∃ dr ad,zNM (λb=>b<h19.size) h19 d dr/\SlE 9 (λb=>b<h19.size) h19 s (ad.map pvC)/\(∀ x∈ad,PkV (λb=>b<h19.size) h19 x)/\dr.length<=8/\ad.length<=40/\((zBR dr).map (·.name)).Nodup/\(∀ x∈zBR (zEX ad),x.ver.wf/\zGl x.ver=true)/\(∀ m∈zBR dr,m.name.length<=1000)/\∀ m∈zBR (zEX ad),m.name.length<=1000:=by
  by_cases he:e=0
  ·obtain⟨_,G,dr,ad,af,hG,hr,pt⟩:=M.parts he sz hwz
   have hri:zEW (zBR z.mv)=true:=by have:=hG.1;rw[zAk]at this;exact this.1
   have hk:=(zAfQ hG).2
   have hadm:zBR (zEX ad)=G.filter λm=>!zJZ (zBR z.mv) m:=by
    have e1:zBR (zEX ad)=(ad.map zLR).map (·.1):=by unfold zBR zEX;rw[List.map_map,List.map_map];rfl
    rw[e1,pt.had,List.map_map]
    refine(zBS λm hm=>?_).trans (List.map_id' _)
    obtain⟨h1,h2⟩:=zAX.1 hm
    exact(hk m h1 (zAfL.1 (by simpa using h2))).2
   have hsub:∀ m∈zBR (zEX ad),m∈G:=λm hm=>by rw[hadm]at hm;exact(zAX.1 hm).1
   have hnl:∀ m∈zEO (zBR z.mv) l,m.name.length<=1000:=λm hm=>by
    unfold zEO at hm
    rcases zAt.1 hm with hm|hm
    ·obtain⟨x,hx,rfl⟩:=zAo.1 hm
     have:=sz.i x hx
     unfold zRJ at this;omega
    ·obtain⟨y,hy,rfl⟩:=zAo.1 (zAX.1 hm).1
     obtain⟨x,hx,rfl⟩:=M.lz y hy
     have:=sz.p x.1 (zAo.2 ⟨x,hx,rfl⟩)
     unfold zRJ at this
     show x.1.1.name.length<=1000
     omega
   refine⟨dr,ad,pt.D,pt.S,pt.Sm,pt.dl,pt.sl,?_,λx hx=>⟨(zAaf M.i sz hwz M.lz x (zTl hG x (hsub x hx))).1.ver,zAa9 (zAa8 hr x (hsub x hx))⟩,λm hm=>?_,λm hm=>hnl m (zTl hG m (hsub m hm))⟩
   ·rw[pt.hdr]
    exact(zSV hri).sublist (List.Sublist.map _ List.filter_sublist)
   ·rw[pt.hdr]at hm
    exact hnl m (zP8 (zAX.1 hm).1)
  ·have hnil:d=zCq/\s=zCq:=by
    rcases M.m with ⟨_,h2,h3,_⟩|⟨_,h2,_⟩
    ·exact⟨h2,h3⟩
    ·exact absurd h2 he
   obtain⟨rfl,rfl⟩:=hnil
   exact⟨[],[],⟨SlE.nil,λx h=>(by cases h),λx h=>by cases h⟩,SlE.nil,λx h=>(by cases h),by simp,by simp,by simp,λx h=>(by cases h),λx h=>(by cases h),λx h=>by cases h⟩
 refine zCk (M.ch.ld (i:=1) rfl) (zCk (M.ch.ld (i:=2) rfl) ?_)
 refine zAJ (zXE hD (λb hb=>hb) (by omega) (TT _ M.k).1 (TT _ M.k).2) ?_
 rintro t71 h20 ⟨b71,k20⟩
 have M:=M.keep k20
 rw[M.ch.ld (i:=2) rfl,zBq,zA9]
 have hpl:zS2 (λb=>b<h19.size) h20 s ad:=⟨hSd.keep k20 λ_ _=>id,λx hx=>⟨((hSm x hx).keep k20 λ_ _=>id).m,((hSm x hx).keep k20 λ_ _=>id).f⟩,by omega⟩
 refine zAJ (zRK hpl (by omega)) ?_
 rintro t74 h21 ⟨b74,k21⟩
 have M:=M.keep k21
 have hA0:=hpl.mans k21 b74
 have hA:zNM (λb=>b<h19.size\/(h20.size<=b/\b<h21.size)) h21 t74 (zEX ad):=⟨hA0.h,hA0.m,λx hx=>by
  obtain⟨y,hy,rfl⟩:=zAo.1 hx
  exact⟨(hSm y hy).sd,(hSm y hy).sc⟩⟩
 have g2:=k20.1
 have g3:=k21.1
 have hml:(zEX ad).length=ad.length:=by simp[zEX]
 refine zAJ (zXE hA (λb hb=>by omega) (by omega) (TT _ M.k).1 (TT _ M.k).2) ?_
 rintro t75 h22 ⟨b75,k22⟩
 have M:=M.keep k22
 have hwd:∀ x∈zBR dr,x.ver.wf:=λm hm=>by
  obtain⟨x,hx,rfl⟩:=zAo.1 hm
  exact(hD.m x hx).wf.ver
 refine zAJ (zAbg ((b71.sl.keep k21 λ_ _=>id).keep k22 λ_ _=>id) b75.sl hok hwd (by omega) (by omega) hnm hnm') ?_
 rintro t76 h23 ⟨b76,k23⟩
 have M:=M.keep k23
 refine zCk (M.ch.ldN (n:=4) rfl) ?_
 have k1923:=((k20.trans k21).trans k22).trans k23
 have g4:=k1923.1
 refine zAJ (zAiU (Ps:=λb=>b<h19.size) (hD.keep k1923 λ_ _=>id) (hSd.keep k1923 λ_ _=>id) (λx hx=>(hSm x hx).keep k1923 λ_ _=>id) (λb hb=>by rcases hb with hb|hb<;>omega) hnd (by omega) (by omega) hnm hnm' (TT _ M.k).1.pow) ?_
 rintro t78 h24 ⟨b78,k24⟩
 have M:=M.keep k24
 have b76':=b76.sl.keep k24 λ_ _=>id
 have ll1:=b78.sl.len
 have ll2:=b76'.len
 rw[zH6]at ll1 ll2
 have en:∀ n:Nat,zAC .no .neq (.int .i64 (n:Nat)) (.int .i64 (n:Nat))=some (.bool false):=λn=>by rw[zAH];simp[zC3]
 refine zCk ll1 (zCk ll2 (zCk (en _) (zOF rfl ?_)))
 have hcl:(zSw (zBR dr) (zBR (zEX ad))).length<=1000:=by
  unfold zSw
  have:=zBl (λx:Man=>!(zBR dr).any λm=>decide (m.name=x.name)) (zBR (zEX ad))
  have e1:(zBR (zEX ad)).length=ad.length:=by simp[zEX]
  have e2:(zBR dr).length=dr.length:=by simp
  have e3:((zBR dr).map (zM8 (zBR (zEX ad)))).length=dr.length:=by simp
  have e4:(((zBR (zEX ad)).filter λx=>!(zBR dr).any λm=>decide (m.name=x.name)).map zAd3).length<=100:=by rw[zAf];omega
  rw[zAq]
  omega
 refine range_i ll1 (λ_ h=>Keep No h24 h) (λh=>Keep No h24 h) Keep.refl (λ_ h=>h) ?_ ?_
 rotate_left
 ·intro _ h k
  have M:=M.keep k
  refine zAJ (zXA (TT _ M.k).1 (TT _ M.k).2) ?_
  rintro _ h' ⟨rfl,k'⟩
  exact⟨rfl,M.k.trans k'⟩
 rintro i h hi kh _ k27 _ hk27
 obtain⟨x,hx,hxm⟩:=zS1 hi
 obtain⟨b,o,hix,hpt,_⟩:=(b78.sl.keep kh λ_ _=>id).at (zRs hx)
 obtain⟨b',o',hix',hpt',_⟩:=(b76'.keep kh λ_ _=>id).at (zRs hx)
 refine zCk (hix .i64) (zCk (hpt.cell0 rfl) (zCk (hix' .i64) (zCk (hpt'.cell0 rfl) (zCk zTY (zOF (by simp) (zOX hi (by omega) (hk27 _ kh)))))))
end Go.Proofs.YticdfkoncnnmmaaGreatDoor
