import Derived.Test.YticdfkoncnnmmaaGreatDoorHJ
set_option linter.unusedSimpArgs false
set_option linter.unusedVariables false
set_option maxRecDepth 100000
namespace Go.Proofs.YticdfkoncnnmmaaGreatDoor
open Go.X Go.X.Diff
theorem zAaK {op:List UInt8}{x:Ver}(hx:x.wf):zCE prg zBI [(0,str op),(1,.agg (zEP x).toArray)]=some (.agg (zEC ⟨op,x⟩).toArray):=zZf hx
theorem zAi9:zGj prg zAg 0 []=some #[]:=by kernel_rfl
set_option maxHeartbeats 4000000 in
theorem zZo {P Q:zA3}{H:zAw}{vi vp w:Value}{a:zPB}{mv:List MV}{out:List PW}(hp:zNj P H vi mv)(hq:SlE 9 Q H w (out.map pvC))(hqm:∀ x∈out,zTs Q H x)(hqs:∀ x∈out,x.1.1.deps.length<=1000/\x.1.1.conf.length<=1000)(hPQ:∀ b,P b\/Q b->b<H.size)(ha:a.wf)
  (hn:((zBV mv).map (·.name)).Nodup) (hch:zMz (zBV mv) a) (hk:a.kind=1\/a.kind=2) (l1:mv.length<=100) (l2:out.length<=100) :
  zAz prg zFr [.agg (zHi vi vp a).toArray,w] H λu H'=>(∃ mv' vh vw,u = .agg (zKl vh vw a.bound).toArray/\zBV mv'=zE1 (zBV mv) (out.map zJA)/\Prb (λb=>P b\/Q b\/(H.size<=b/\b<H'.size)) H' mv' (zNg (zBV mv) a.name (zNh (zBV mv) a)) vh vw)/\Keep No H H':=by
 apply zJi
 unfold zHg
 simp only[zB3,zBb,zBi,zAh,zAa]
 generalize hH1:H.push (.cells (zHi vi vp a).toArray zB5 (0,0))=h1
 have k1:Keep No H h1:=by rw[<- hH1];exact Keep.push
 have a1:At h1 H.size (zHi vi vp a):=by rw[<- hH1];exact At.push
 have s1:h1.size=H.size+1:=by rw[<- hH1];simp
 refine zAfS zVE λh2 a2 k2=>?_
 have k02:=k1.trans k2
 have g2:=k2.1
 have a12:=a1.keep k2 id
 have lt2:=a2.lt
 have hvl:=hp.h
 have hlen:=hp.len
 refine zNB (λt5 h=>∃ q5 t18 F,t5=Ptr q5 0/\At h q5 (zKl t18 zCq a.bound)/\BufE 8 F h t18 (mv.map mvC)/\(∀ b,F b->h2.size<=b/\b<h.size/\b≠q5)/\h2.size<=q5/\Keep No h2 h) (λk3 hk3=>?_) ?_
 ·refine zBo (zAbC a12) (zBo (zWI a12 ha) ?_)
  have ci:∀ h,Keep No h2 h->ld1 h (Ptr H.size 0)=some vi:=λh k=>zAbC (a12.keep k id)
  have cb:∀ h,Keep No h2 h->ld1 h (Ptr H.size 9)=some (.int .i64 a.bound):=λh k=>zWI (a12.keep k id) ha
  have lst:∀ (h:zAw) (K:zAm),(∀ h',BufE 8 (· = h.size) h' (.slice (some ⟨h.size,0,none⟩) 0 0) []->Keep No h h'->h.size<h'.size->K (.slice (some ⟨h.size,0,none⟩) 0 0) h')->zD2 h zAg 0 (zGj prg zAg 0 []) K:=λh K hK=>by
   rw[zAi9,zCo]
   exact hK _ (BufE.fresh (cs:=[]) ⟨h.size,rfl,rfl,zCh⟩ (zAi _) (by simp) (λ_ _=>by simp[zUM]) (by simp) (λx h=>by cases h) (λx h=>by cases h)) Keep.push (by simp)
  have app:∀ (h:zAw) (F:zA3) (v:Value) (K:zAm),Keep No H h->BufE 8 F h v []->(∀ u h',BufE 8 (λb=>F b\/(h.size<=b/\b<h'.size)) h' u (mv.map mvC)->Keep (λb=>F b\/h.size<=b) h h'->K u h')->zIr zAg 8 128 h v vi K:=λh F v K k b hK=>by
   refine(b.mono (G:=λb=>F b\/h.size<=b) λ_ => .inl).app (hp.h.keep k λ_ _=>id) (by omega) (by simp;omega) (.inr (zAi _)) λu h' bu ku=>hK u h' ?_ ku
   rw[zAX]at bu
   exact BufE.re bu λb hb hF=>hF.imp id λhF=>⟨hF,hb⟩
  have fin:∀ (h:zAw) (q5:Nat) (F:zA3) (t18:Value),At h q5 (zKl zCq zCq 0)->BufE 8 F h t18 (mv.map mvC)->(∀ b,F b->h2.size<=b/\b<h.size/\b≠q5)->h2.size<=q5->Keep No h2 h->Mpu (zCE prg zBn [(0,t18),(2,.int .i64 a.bound)]) λt22=>Mwr (stN 3 h (Ptr q5 0) t22) λh7=>k3 (Ptr q5 0) h7:=λh q5 F t18 aq b hF hq5 k=>by
   refine zBo (zX2 b.sl.oneC) ?_
   obtain⟨h7,st7,a7,k7⟩:=aq.st (n:=3) (ds:=zKl t18 zCq a.bound) rfl rfl (λc hc=>by
    simp only[zKl,zAq,zCb,or_false]at hc
    rcases hc with rfl|rfl|rfl
    ·exact b.sl.oneC
    ·rfl
    ·rfl)
   have g7:=k7.1
   exact⟨h7,st7,hk3 _ _ ⟨q5,t18,F,rfl,a7,b.keep k7 λb hb e=>(hF b hb).2.2 e,λb hb=>⟨(hF b hb).1,by have:=(hF b hb).2.1;omega,(hF b hb).2.2⟩,hq5,k.fresh k7 λb e=>by omega⟩⟩
  refine⟨lst _ _ λh4 b4 k4 s4=>?_,zAfS zVE λh11 a11 k11=>?_⟩
  ·rw[cb _ k4,ci _ k4,zBm,zBm,zA8]
   have k04:=k02.trans k4
   refine⟨app h4 _ _ _ k04 b4 λu h5 b5 k5=>?_,zAfS zVE λh8 a8 k8=>?_⟩
   ·have k25:Keep No h2 h5:=k4.fresh k5 λb hb=>by omega
    have g5:=k5.1
    rw[cb _ k25,zBm,zA8]
    refine⟨_,zX2 b5.sl.oneC,zAfS zVE λh6 a6 k6=>?_⟩
    have k26:=k25.trans k6
    have g6:=k6.1
    rw[cb _ k26,ci _ k26,zBm,zBm,zA8]
    have:=fin h6 h5.size _ u a6 (b5.keep k6 λ_ _=>id) (λb hb=>by have:=k25.1;omega) (by have:=k25.1;omega) k26
    obtain⟨t,e,hw⟩:=this
    rw[zX2 b5.sl.oneC]at e
    cases e
    exact hw
   ·have k28:=k4.trans k8
    have g8:=k8.1
    have l8:=a8.lt
    rw[cb _ k28,ci _ k28,zBm,zBm,zA8]
    refine app h8 _ _ _ (k04.trans k8) (b4.keep k8 λ_ _=>id) λu h9 b9 k9=>?_
    have k29:Keep No h2 h9:=k28.fresh k9 λb hb=>by have:=k28.1;omega
    have g9:=k9.1
    rw[cb _ k29,zBm,zA8]
    exact fin h9 h4.size _ u (a8.keep k9 λhb=>by omega) b9 (λb hb=>by have:=k28.1;omega) (by omega) k29
  ·have g11:=k11.1
   have l11:=a11.lt
   rw[cb _ k11,ci _ k11,zBm,zBm,zA8]
   refine lst _ _ λh12 b12 k12 s12=>?_
   have k212:=k11.trans k12
   rw[cb _ k212,ci _ k212,zBm,zBm,zA8]
   refine app h12 _ _ _ (k02.trans k212) b12 λu h13 b13 k13=>?_
   have k213:Keep No h2 h13:=k212.fresh k13 λb hb=>by have:=k212.1;omega
   have g13:=k13.1
   rw[cb _ k213,zBm,zA8]
   exact fin h13 h2.size _ u ((a11.keep k12 id).keep k13 λhb=>by omega) b13 (λb hb=>by omega) (zAi _) k213
 rintro _ h15 ⟨q5,t18,F1,rfl,a5,b1,hF1,hq5,k15⟩
 have k015:=k02.trans k15
 have g15:=k15.1
 have a115:=a12.keep k15 id
 have l5:=a5.lt
 simp only[zBi,zAh,zAa]
 refine zBo (zWH a115) (zBo (zAi8 a115 ha) (zBo (zX0 (d:=⟨a.name,a.want⟩) ⟨ha.want,ha.name⟩) ?_))
 refine zAdX (z:=zED zP9) zVy (zDx zNM) (zDx (d:=⟨a.name,a.want⟩) ⟨ha.want,ha.name⟩) zIh λh17 a17 k17=>?_
 have k217:=k15.trans k17
 have k017:=k015.trans k17
 have g17:=k17.1
 have l17:=a17.lt
 have a117:=a115.keep k17 id
 have wfw:∀ l:List Man,(∀ m∈l,m.ver.wf)->(fwF a.name a.want l).wf:=λl=>by
  have:∀ (l:List Man) (w:zQ5),w.wf->(∀ m∈l,m.ver.wf)->(fwF a.name w l).wf:=λl=>by
   induction l with
   | nil=>exact λw h _=>h
   | cons x l ih =>
    intro w h hm
    show(fwF a.name (if x.name=a.name then ⟨[62],x.ver⟩ else w) l).wf
    refine ih _ ?_ λm h=>hm m (by simp[h])
    split
    ·exact⟨hm x (by simp),by simp⟩
    ·exact h
  exact this l a.want ha.want
 have wmv:∀ m∈zBV mv,m.ver.wf:=λm hm=>by
  obtain⟨x,hx,rfl⟩:=zAo.1 hm
  exact(hp.m x hx).wf.ver
 have wdep:∀ i,(⟨a.name,fwF a.name a.want ((zBV mv).take i)⟩:Dep).wf:=λi=>⟨wfw _ λm hm=>wmv m (zBg hm),ha.name⟩
 let S2:zA3:=λb=>b=h15.size\/h17.size<=b
 refine zMC (λt7 _ h=>At h h15.size (zED ⟨a.name,zNh (zBV mv) a⟩)/\BufE 6 (λb=>h17.size<=b) h t7 ((zFA (zBV mv) a.name).map zED)/\Keep S2 h17 h) (λk18 hk18=>?_) ?_
 ·refine zBo (zAbC a117) (zBo hlen ?_)
  have hvl':(zBV mv).length=mv.length:=by simp
  refine zSZ (λi t7 h=>At h h15.size (zED ⟨a.name,fwF a.name a.want ((zBV mv).take i)⟩)/\BufE 6 (λb=>h17.size<=b) h t7 ((zFA ((zBV mv).take i) a.name).map zED)/\Keep S2 h17 h) ⟨a17,BufE.nil,Keep.refl⟩ (λt7 h hI=>hk18 _ _ _ ?_) ?_
  ·rw[zAp (by omega),zAaJ hn hch hk]at hI
   exact hI
  rintro i t7 h hlt ⟨a6,b7,kh⟩ k20 hk20
  obtain⟨x,hx,hm⟩:=zQj hlt
  have gh:=kh.1
  have k0h:Keep No H h:=k017.fresh kh λb hb=>by rcases hb with hb|hb<;>omega
  have wx:=(hp.m x hm).wf
  have hgx:(zBV mv)[i]? = some x.1:=zIq hx
  have htk:(zBV mv).take (i+1)=(zBV mv).take i++[x.1]:=by rw[zAF,hgx];rfl
  refine zNB (λt7' h'=>At h' h15.size (zED ⟨a.name,fwF a.name a.want ((zBV mv).take (i+1))⟩)/\BufE 6 (λb=>h17.size<=b) h' t7' ((zFA ((zBV mv).take (i+1)) a.name).map zED)/\Keep S2 h17 h') (λk22 hk22=>?_) λt7' h' hI=>zJB hlt (by omega) (hk20 _ _ hI)
  refine zAbU (hp.keep k0h λ_ _=>id).h (zIq hx) zLF (zBH zN6) λh25 a25 k25=>?_
  have a25':At h25 h.size (zGM x.1 x.2.1 x.2.2.1 x.2.2.2):=a25
  have g25:=k25.1
  have kh25:Keep S2 h17 h25:=kh.trans (k25.mono λ_ _ h=>h.elim)
  have k025:=k0h.trans k25
  have a125:At h25 H.size (zHi vi vp a):=(a117.keep kh (λhb=>by rcases hb with hb|hb<;>omega)).keep k25 id
  rw[zBi,zAa,zAu]
  simp only[zBi,zAh,zAa]
  refine zBo (zDy a25') (zBo (zWH a125) (zBo zSK (zO3 (λe=>?_) λe=>?_)))
  ·have hne:x.1.name≠a.name:=by simpa using e
   refine zBo (zDy a25') (zBo (zJl a25' wx) (zBo (zAaK (op:=[61]) wx.ver) (zBo (zX0 (d:=⟨x.1.name,⟨[61],x.1.ver⟩⟩) ⟨⟨wx.ver,by simp⟩,wx.name⟩) ?_)))
   have wd:(⟨x.1.name,⟨[61],x.1.ver⟩⟩:Dep).wf:=⟨⟨wx.ver,by simp⟩,wx.name⟩
   have hol:(zFA ((zBV mv).take i) a.name).length<=100:=by
    unfold zFA
    rw[zAd]
    have:=zA9 (λm:Man=>!decide (m.name=a.name)) ((zBV mv).take i)
    rw[zA5]at this;omega
   refine zUu (b7.keep k25 λ_ _=>id) (zQF wd) (zDx wd) zIh (by omega) (by rw[zAd];omega) (by omega) λu h27 bu k27=>hk22 _ _ ⟨?_,?_,kh25.trans (k27.mono λb _ h => .inr h)⟩
   ·rw[htk,zAaI,if_neg hne]
    exact(a6.keep k25 id).keep k27 λhb=>by have hb:h17.size<=h15.size:=hb;omega
   ·rw[htk,zUG,if_neg hne,zAG]
    exact bu
  ·have heq:x.1.name=a.name:=by simpa using e
   refine zBo (zJl a25' wx) (zBo (zAaK (op:=[62]) wx.ver) ?_)
   have a6':=a6.keep k25 id
   have wd:(⟨a.name,⟨[62],x.1.ver⟩⟩:Dep).wf:=⟨⟨wx.ver,by simp⟩,ha.name⟩
   obtain⟨h28,st28,a28,k28⟩:=At.mid (A:=[str a.name]) (B:=zEC (fwF a.name a.want ((zBV mv).take i))) (C:=[]) (B':=zEC ⟨[62],x.1.ver⟩) (n:=5) (o:=1) (by simpa [zED] using a6') rfl (zEZ (wdep i).want) (zEZ wd.want) zP8
   refine⟨h28,st28,hk22 _ _ ⟨?_,?_,kh25.trans (k28.mono λb _ h => .inl h)⟩⟩
   ·rw[htk,zAaI,if_pos heq]
    simpa [zED] using a28
   ·rw[htk,zUG,if_pos heq,zAP]
    exact(b7.keep k25 λ_ _=>id).keep k28 λb hb e=>by have hb:h17.size<=b:=hb;omega
 rintro t7 _ h19 ⟨a6,b7,k19⟩
 have wd0:(⟨a.name,zNh (zBV mv) a⟩:Dep).wf:=by have:=wdep mv.length;rwa [zAp (by simp),zAaJ hn hch hk]at this
 have g19:=k19.1
 have hq5':¬ S2 q5:=λhb=>by rcases hb with hb|hb<;>omega
 have hF1':∀ b,F1 b->¬ S2 b:=λb hb hs=>by have:=(hF1 b hb).2.1;rcases hs with hs|hs<;>omega
 have k019:Keep No H h19:=k017.fresh k19 λb hb=>by rcases hb with hb|hb<;>omega
 have hol:(zFA (zBV mv) a.name).length<=100:=by
  unfold zFA
  rw[zAd]
  have:=zA9 (λm:Man=>!decide (m.name=a.name)) (zBV mv)
  rw[zAd]at this;omega
 refine zBo (a6.ldN (zDx wd0)) ?_
 rw[zQF wd0,zCo]
 generalize hH29:h19.push (.cells (zED ⟨a.name,zNh (zBV mv) a⟩).toArray zAE (0,0))=h29
 have k29:Keep No h19 h29:=by rw[<- hH29];exact Keep.push
 have b29:BufE 6 (λb=>h19.size<=b) h29 (.slice (some ⟨h19.size,0,none⟩) 1 1) [zED ⟨a.name,zNh (zBV mv) a⟩]:=by rw[<- hH29];exact zZg (zDx wd0) zIh (zAi _)
 have g29:=k29.1
 refine b29.app (b7.sl.keep k29 λ_ _=>id) (by omega) (by simp;omega) (by show h19.size<=_;omega) λt60 h30 b60 k30=>?_
 have b60':BufE 6 (λb=>h19.size<=b) h30 t60 ((zNg (zBV mv) a.name (zNh (zBV mv) a)).map zED):=b60
 have g30:=k30.1
 have a5':At h30 q5 (zKl t18 zCq a.bound):=(((a5.keep k17 id).keep k19 hq5').keep k29 id).keep k30 λhb=>by have hb:h19.size<=q5:=hb;omega
 have b1':BufE 8 F1 h30 t18 (mv.map mvC):=(((b1.keep k17 λ_ _=>id).keep k19 hF1').keep k29 λ_ _=>id).keep k30 λb hb hs=>by have:=(hF1 b hb).2.1;have hs:h19.size<=b:=hs;omega
 refine zAkG (i:=1) a5' (by simp[zKl]) b60.sl.oneC λh31 a31 k31=>?_
 have g31:=k31.1
 have a31':At h31 q5 (zKl t18 t60 a.bound):=a31
 have b31:=b1'.keep k31 λb hb e=>(hF1 b hb).2.2 e
 have b60r:BufE 6 (λb=>h19.size<=b/\b<h30.size) h30 t60 ((zNg (zBV mv) a.name (zNh (zBV mv) a)).map zED):=BufE.re b60' λb hb hF=>⟨hF,hb⟩
 have b60x:=b60r.keep k31 λb hb e=>by omega
 have k031:Keep No H h31:=((k019.trans k29).fresh k30 λb hb=>by have hb:h19.size<=b:=hb;omega).fresh k31 λb e=>by omega
 have lq:zDp w=some (.int .i64 (out.length:Nat)):=by have:=hq.len;rwa [zAd]at this
 let S3:zA3:=λb=>F1 b\/b=q5\/h31.size<=b
 let mT:Nat->List MV:=λi=>mv++(zGT (out.take i)).filter λx=>zUw (zBV mv) x.1
 let I:Nat->zAw->Prop:=λi h=>∃ t F,At h q5 (zKl t t60 a.bound)/\BufE 8 F h t ((mT i).map mvC)/\(∀ b,F b->F1 b\/(h31.size<=b/\b<h.size))/\Keep S3 h31 h
 have s3H:∀ b,S3 b->H.size<=b/\b≠H.size/\b≠h1.size:=λb hb=>by
  rcases hb with hb|hb|hb
  ·have:=hF1 b hb;omega
  ·omega
  ·omega
 have a131:At h31 H.size (zHi vi vp a):=((((a117.keep k19 (λhb=>by rcases hb with hb|hb<;>omega)).keep k29 id).keep k30 (λhb=>by have hb:h19.size<=H.size:=hb;omega)).keep k31 λe=>by omega)
 have a231:At h31 h1.size (zKl zCq zCq 0):=(((((a2.keep k15 id).keep k17 id).keep k19 (λhb=>by rcases hb with hb|hb<;>omega)).keep k29 id).keep k30 (λhb=>by have hb:h19.size<=h1.size:=hb;omega)).keep k31 λe=>by omega
 refine range_i lq I (λh=>I out.length h) ⟨t18,F1,a31',by simpa [mT,zGT] using b31,λb hb => .inl hb,Keep.refl⟩ (λh h'=>h') ?_ ?_
 ·rintro i h hlt ⟨t,F,aq,bt,hF,kh⟩ _ k34 _ hk34
  obtain⟨x,hx,hm⟩:=zQj hlt
  have gh:=kh.1
  have hrx:=hqm x hm
  have wx:=hrx.m.wf
  have k0h:Keep No H h:=k031.fresh kh λb hb=>(s3H b hb).1
  have htk:mT (i+1)=mT i++if zUw (zBV mv) x.1.1 then [x.1] else []:=by
   show mv++(zGT (out.take (i+1))).filter _=mv++(zGT (out.take i)).filter _++_
   rw[zAF,hx]
   unfold zGT
   rw[zAG,List.filter_append,zBe]
   congr 2
   show List.filter _ [x.1]=_
   rw[zBS];rfl
  refine zMC (λ_ _ h'=>I (i+1) h') (λk36 hk36=>?_) λ_ _ h' hI=>zJB hlt (by omega) (hk34 _ hI)
  refine zAbU (hq.keep k0h λb hb=>id) (zIq hx) zAaG (zDS zQh) λh39 a39 k39=>?_
  have g39:=k39.1
  have k039:=k0h.trans k39
  have a139:At h39 H.size (zHi vi vp a):=(a131.keep kh λhb=>(s3H _ hb).2.1 rfl).keep k39 id
  refine zMC (λt12 _ h'=>t12 = .bool (zAej (zBV mv) x.1.1)/\Keep No h39 h') (λk40 hk40=>?_) ?_
  ·refine zBo (zAbC a139) (zBo hlen ?_)
   let here:Man->Bool:=λo=>decide (o.name=x.1.1.name)&&decide (o.ver=x.1.1.ver)
   refine zSZ (λj t12 h'=>t12 = .bool (((zBV mv).take j).any here)/\Keep No h39 h') ⟨rfl,Keep.refl⟩ (λt12 h' hI=>hk40 _ _ _ (by rw[zAp (by simp)]at hI;exact hI)) ?_
   rintro j _ h' hj ⟨rfl,kj⟩ k42 hk42
   obtain⟨y,hy,hym⟩:=zQj hj
   have k0j:=k039.trans kj
   have hmy:=(hp.keep k0j λ_ _=>id).m y hym
   have wy:=hmy.wf
   have hst:=zO2 (p:=here) (zIq (f:=λz:MV=>z.1) hy)
   refine zAbU (hp.keep k0j λ_ _=>id).h (zIq hy) zLF (zBH zN6) λh45 a45 k45=>?_
   have a45':At h45 h'.size (zGM y.1 y.2.1 y.2.2.1 y.2.2.2):=a45
   have ax45:=(a39.keep kj id).keep k45 id
   cases hb:((zBV mv).take j).any here
   ·refine zDJ rfl ?_
    simp only[zBi,zAh,zAu,zAa]
    refine zBo (zDy a45') (zBo (ax45.ld (i:=0) rfl) (zBo zDN ?_))
    refine zAnj (λe=>?_) λe=>?_
    ·refine zBo (zJl a45' wy) (zBo (zAdY ax45 wx) (zBo (zAcR wy.ver wx.ver) (zJB hj (by omega) (hk42 _ _ ⟨?_,kj.trans k45⟩))))
     rw[hst,hb,zCz]
     show _=Value.bool (decide (y.1.name=x.1.1.name)&&decide (y.1.ver=x.1.1.ver))
     rw[e];rfl
    ·refine zJB hj (by omega) (hk42 _ _ ⟨?_,kj.trans k45⟩)
     rw[hst,hb,zCz]
     show _=Value.bool (decide (y.1.name=x.1.1.name)&&decide (y.1.ver=x.1.1.ver))
     rw[e];rfl
   ·exact zAni (zJB hj (by omega) (hk42 _ _ ⟨by rw[hst,hb];rfl,kj.trans k45⟩))
  rintro _ _ h41 ⟨rfl,k41⟩
  have kh41:Keep S3 h31 h41:=(kh.trans (k39.mono λ_ _ h=>h.elim)).trans (k41.mono λ_ _ h=>h.elim)
  have k941:=k39.trans k41
  have g41:=k941.1
  have aq41:=aq.keep k941 id
  have bt41:=bt.keep k941 λ_ _=>id
  have ax41:=a39.keep k41 id
  refine zBo rfl (zO3 (λe=>?_) λe=>hk36 _ _ _ ⟨t,F,aq41,?_,λb hb=>(hF b hb).imp id λhb=>by omega,kh41⟩)
  ·have ho:zUw (zBV mv) x.1.1=true:=by rw[zYe hn];exact e
   refine zBo (aq41.ld (i:=0) rfl) (zBo rfl (zBo (zUF ax41 wx) ?_))
   have hml:(mT i).length<=1000:=by
    show(mv++(zGT (out.take i)).filter _).length<=_
    have:=zA9 (λx:MV=>zUw (zBV mv) x.1) (zGT (out.take i))
    rw[zAt]
    unfold zGT at this ⊢
    rw[zAd,zA5]at this
    omega
   refine zAg9 bt41 (zOa (zBH wx)) (zBH wx) (zF4 (x:=x.1) hrx.m) (by omega) (by rw[zAd];omega) λu h53 bu k53=>?_
   have g53:=k53.1
   have hFq:∀ b,F b\/(h41.size<=b/\b<h53.size)->b≠q5:=λb hb e=>by
    rcases hb with hb|hb
    ·rcases hF b hb with hb|hb
     ·exact(hF1 b hb).2.2 e
     ·omega
    ·omega
   have aq53:=aq41.keep k53 λhb=>by
    rcases hb with hb|hb
    ·exact hFq q5 (.inl hb) rfl
    ·omega
   refine zAkG (i:=0) aq53 (by simp[zKl]) bu.sl.oneC λh54 a54 k54=>hk36 _ _ _ ⟨u,λb=>F b\/(h41.size<=b/\b<h53.size),a54,?_,λb hb=>?_,?_⟩
   ·rw[htk,ho]
    simp only[if_true,zAG]
    exact bu.keep k54 λb hb e=>hFq b hb e
   ·have g54:=k54.1
    rcases hb with hb|hb
    ·exact(hF b hb).imp id λhb=>by omega
    ·exact .inr (by omega)
   ·refine(kh41.trans (k53.mono λb hlt hb=>?_)).trans (k54.mono λb _ hb => .inr (.inl hb))
    rcases hb with hb|hb
    ·exact(hF b hb).elim .inl λhb => .inr (.inr hb.1)
    ·exact .inr (.inr (by omega))
  ·have ho:zUw (zBV mv) x.1.1=false:=by rw[zYe hn];exact e
   rw[htk,ho]
   simpa using bt41
 rintro _ h33 ⟨t,F,aq,bt,hF,kh⟩
 have a233:=a231.keep kh λhb=>(s3H _ hb).2.2 rfl
 have g33:=kh.1
 have ht1:=bt.sl.oneC
 refine zBo (aq.ldN (n:=3) rfl) ?_
 obtain⟨h55,st55,a55,k55⟩:=a233.st (n:=3) (ds:=zKl t t60 a.bound) rfl rfl (λc hc=>by
  simp only[zKl,zAq,zCb,or_false]at hc
  rcases hc with rfl|rfl|rfl
  ·exact ht1
  ·exact b60.sl.oneC
  ·rfl)
 refine⟨h55,st55,zBo (a55.ldN (n:=3) rfl) ?_⟩
 have k033:Keep No H h33:=k031.fresh kh λb hb=>(s3H b hb).1
 have k055:Keep No H h55:=k033.fresh k55 λb e=>by omega
 have g55:=k55.1
 have hFb:∀ b,F b->H.size<=b/\b<h33.size/\b≠h1.size:=λb hb=>by
  rcases hF b hb with hb|hb
  ·have:=hF1 b hb;omega
  ·omega
 refine⟨⟨mT out.length,t,t60,rfl,?_,⟨((bt.keep k55 λb hb e=>(hFb b hb).2.2 e).sl.mono λb hb => .inr (.inr (by have:=hFb b hb;omega))),λx hx=>?_,?_,?_,λx hx=>?_⟩⟩,k055⟩
 ·show zBV (mv++_)=_
  rw[zBA]
  unfold zBV zE1
  rw[zAG]
  congr 1
  rw[List.map_map]
  have e1:(zGT out).map (·.1)=out.map (λx=>(zJA x).1):=by unfold zGT;rw[List.map_map];rfl
  have e2:=List.filter_map (f:=λx:MV=>x.1) (p:=zUw (zBV mv)) (l:=zGT out)
  rw[e1]at e2
  exact e2.symm
 ·rcases zAs.1 hx with hx|hx
  ·exact((hp.m x hx).keep k055 λ_ _=>id).mono λ_ => .inl
  ·obtain⟨y,hy,rfl⟩:=zAo.1 (zA0.1 hx).1
   exact((hqm y (zBg hy)).m.keep k055 λ_ _=>id).mono λ_ h => .inr (.inl h)
 ·refine(((b60x.keep kh λb hb hs=>?_).keep k55 λb hb e=>by omega).sl).mono λb hb => .inr (.inr (by omega))
  rcases hs with hs|hs|hs
  ·have:=hF1 b hs;omega
  ·omega
  ·omega
 ·intro d hd
  rcases zAq.1 hd with rfl|hd
  ·exact wd0
  ·unfold zFA at hd
   obtain⟨m,hm,rfl⟩:=zAo.1 hd
   have hm:=(zA0.1 hm).1
   obtain⟨y,hy,rfl⟩:=zAo.1 hm
   exact⟨⟨(hp.m y hy).wf.ver,by simp⟩,(hp.m y hy).wf.name⟩
 ·rcases zAs.1 hx with hx|hx
  ·exact hp.sm x hx
  ·obtain⟨y,hy,rfl⟩:=zAo.1 (zA0.1 hx).1
   exact hqs y (zBg hy)
def zIa (inst:List Man)(a:zPB):Int :=
 if (zDE inst&&zLI a)=false then 10 else if a.kind=1/\zRw inst a.name=true then 44 else if a.kind≠1/\zRw inst a.name=false then 14 else if a.kind=3/\zNf inst a.name=true then 43 else 0
def zAlk:zPB:=⟨0,[],zUU,0⟩
theorem zAja:zAlk.wf:=⟨by simp[zAlk],zQy⟩
theorem zAmk:zBE prg zEv=some (zQ7 zAlk).toArray:=by kernel_rfl
theorem zAf9 {inst:List Man}{nm:List UInt8}:zRw inst nm=inst.any λm=>decide (m.name=nm):=by
 unfold zRw
 rw[zAW,List.find?_isSome,zBK]
theorem zAjb {x y:Int}:zAB .no .neq (.int .i64 x) (.int .i64 y)=some (.bool (!decide (x=y))):=neI
set_option maxHeartbeats 2000000 in
theorem zAek {P:zA3}{H:zAw}{vi vp:Value}{a:zPB}{mv:List MV}(hp:zNj P H vi mv)(hP:∀ b,P b->b<H.size)(ha:a.wf)(hl:mv.length<=1000)(hT:zYl H)(hS:zTe H) :
  zAz prg zFZ [.agg (zHi vi vp a).toArray] H λu H'=>u = .int .i64 (zIa (zBV mv) a)/\Keep No H H':=by
 apply zJ9
 unfold zH5
 simp only[zB3,zBb,zBi,zAh,zAa]
 generalize hH1:H.push (.cells (zHi vi vp a).toArray zB5 (0,0))=h1
 have k1:Keep No H h1:=by rw[<- hH1];exact Keep.push
 have a1:At h1 H.size (zHi vi vp a):=by rw[<- hH1];exact At.push
 refine zBo (zAhk a1 ha) ?_
 refine zAdX (z:=zQ7 zAlk) zAmk (zO5 zAja) (zO5 ha) zAfU λh3 a3 k3=>?_
 have k03:=k1.trans k3
 simp only[zBi,zAh,zAu,zAa,zAmF]
 have av:∀ h,Keep No h3 h->At h h1.size (zQ7 a):=λh k=>a3.keep k id
 have cv:∀ h,Keep No h3 h->At h H.size (zHi vi vp a):=λh k=>(a1.keep k3 id).keep k id
 refine zBo (zTD a3 ha) (zBo (zAgG ha.want zQy) ?_)
 refine zNB (λu h=>u = .bool (zOb a)/\Keep No h3 h) (λk4 hk4=>?_) ?_
 ·refine zBo (zG7 a3) (zBo eqI (zO3 (λe=>?_) λe=>hk4 _ _ ⟨?_,Keep.refl⟩))
  ·refine zBo (zTD a3 ha) ?_
   refine zAI (zLa ha.want (hT.keep k03 λ_ h=>h.elim).ops) ?_
   rintro _ h ⟨rfl,k⟩
   exact hk4 _ _ ⟨by unfold zOb;rw[if_pos (of_decide_eq_true e)],k⟩
  ·unfold zOb;rw[if_neg (of_decide_eq_false e)]
 rintro _ h5 ⟨rfl,k5⟩
 refine zBo (zAbC (cv _ k5)) ?_
 have k05:=k03.trans k5
 refine zAI (zSg (hp.keep k05 λ_ _=>id) (λb hb=>zAN (hP b hb) k05.1) hl (hT.keep k05 λ_ h=>h.elim) (hS.keep k05 λ_ h=>h.elim)) ?_
 rintro _ h7 ⟨rfl,k7⟩
 have k37:=k5.trans k7
 have bad:∀ h,Keep No h3 h->(zDE (zBV mv)&&zLI a)=false->Value.int .i64 10 = .int .i64 (zIa (zBV mv) a)/\Keep No H h:=λh k e=>⟨by unfold zIa;rw[if_pos e],k03.trans k⟩
 refine zBo rfl (zLK (λq=>zLK (λ_=>zLK (λ_=>zLK (λ_=>zLK (λ_=>zLK (λ_=>zJJ rfl (bad _ k37 ?_)) nofun) nofun) nofun) nofun) nofun) λq1=>?_)
 ·have q:(!zDE (zBV mv))=true:=q
  simp at q;rw[q];rfl
 refine zBo (zG7 (av _ k37)) (zBo ltI (zLK (λq=>zLK (λ_=>zLK (λ_=>zLK (λ_=>zLK (λ_=>zJJ rfl (bad _ k37 ?_)) nofun) nofun) nofun) nofun) λq2=>?_))
 ·have q:=of_decide_eq_true q
  unfold zLI;rw[decide_eq_false (by omega)];simp
 refine zBo (zG7 (av _ k37)) (zBo gtI (zLK (λq=>zLK (λ_=>zLK (λ_=>zLK (λ_=>zJJ rfl (bad _ k37 ?_)) nofun) nofun) nofun) λq3=>?_))
 ·have q:=of_decide_eq_true q
  unfold zLI;rw[decide_eq_false (p:=a.kind<=3) (by omega)];simp
 refine zBo (zO6 (av _ k37)) ?_
 refine zAI (zXl ha.name) ?_
 rintro _ h13 ⟨rfl,k13⟩
 have k313:=k37.trans k13
 refine zBo rfl (zLK (λq=>zLK (λ_=>zLK (λ_=>zJJ rfl (bad _ k313 ?_)) nofun) nofun) λq4=>?_)
 ·have q:(!zIp a.name)=true:=q
  simp at q;unfold zLI;rw[q];simp
 refine zBo rfl (zLK (λq=>zLK (λ_=>zJJ rfl (bad _ k313 ?_)) nofun) λq5=>?_)
 ·have q:(!zOb a)=true:=q
  simp at q;unfold zLI;rw[q];simp
 refine zBo (zQi (av _ k313) ha) (zBo ltI (zLK (λq=>zJJ rfl (bad _ k313 ?_)) λq6=>?_))
 ·have q:=of_decide_eq_true q
  unfold zLI;rw[decide_eq_false (p:=a.bound>=0) (by omega)];simp
 refine zBo (zQi (av _ k313) ha) (zBo gtI (zO3 (λq=>bad _ k313 ?_) λq7=>?_))
 ·have q:=of_decide_eq_true q
  unfold zLI;rw[decide_eq_false (p:=a.bound<=65536) (by omega)];simp
 have good:(zDE (zBV mv)&&zLI a)=true:=by
  have q1:(!zDE (zBV mv))=false:=q1
  have q4:(!zIp a.name)=false:=q4
  have q5:(!zOb a)=false:=q5
  have q2:=of_decide_eq_false q2
  have q3:=of_decide_eq_false q3
  have q6:=of_decide_eq_false q6
  have q7:=of_decide_eq_false q7
  simp at q1 q4 q5
  unfold zLI
  rw[q1,q4,q5,decide_eq_true (p:=a.kind>=1) (by omega),decide_eq_true (p:=a.kind<=3) (by omega),decide_eq_true (p:=a.bound>=0) (by omega),decide_eq_true (p:=a.bound<=65536) (by omega)];rfl
 have hw:∀ n,(zIa (zBV mv) a=n)=((if a.kind=1/\zRw (zBV mv) a.name=true then 44 else if a.kind≠1/\zRw (zBV mv) a.name=false then 14 else if a.kind=3/\zNf (zBV mv) a.name=true then 43 else 0)=n):=λn=>by unfold zIa;rw[if_neg (by rw[good];decide)]
 let depIn:Man->Bool:=λm=>m.deps.any λd=>decide (d.name=a.name)
 refine J3_i (λt5 t6 _ h=>t5 = .bool (zRw (zBV mv) a.name)/\t6 = .bool (zNf (zBV mv) a.name)/\Keep No h3 h) (λk21 hk21=>?_) ?_
 ·refine zBo (zAbC (cv _ k313)) (zBo hp.len ?_)
  refine zAlt (λt5 t6 u h=>∃ i:Nat,i<=mv.length/\u = .int .i64 (i:Nat)/\t5 = .bool (((zBV mv).take i).any λm=>decide (m.name=a.name))/\t6 = .bool (((zBV mv).take i).any depIn)/\Keep No h3 h) (λ_ _ u _=>match u with | .int _ t=>mv.length-t.toNat|_=>0) ⟨0,zAA _,rfl,rfl,rfl,k313⟩ ?_
  rintro _ _ _ h ⟨i,hi,rfl,rfl,rfl,kh⟩ k23 hk23
  rw[zOC,zAa,zAl]
  by_cases hlt:i<mv.length
  rotate_left
  ·rw[if_neg (by simpa using hlt)]
   rw[zAp (by simp;omega)]
   exact hk21 _ _ _ _ ⟨by rw[zAf9],rfl,kh⟩
  rw[if_pos (by simpa using hlt)]
  obtain⟨x,hx,hm⟩:=zQj hlt
  have k0h:=k03.trans kh
  have hmx:=(hp.keep k0h λ_ _=>id).m x hm
  have wx:=hmx.wf
  have e1:=zO2 (p:=λm:Man=>decide (m.name=a.name)) (zIq (f:=λz:MV=>z.1) hx)
  have e2:=zO2 (p:=depIn) (zIq (f:=λz:MV=>z.1) hx)
  refine J4_i (λt5 t6 _ _ h'=>t5 = .bool (((zBV mv).take (i+1)).any λm=>decide (m.name=a.name))/\t6 = .bool (((zBV mv).take (i+1)).any depIn)/\Keep No h3 h') (λk25 hk25=>?_) λt5 t6 _ _ h' hI=>zJB hlt (by omega) (hk23 _ _ _ _ ⟨i+1,by omega,rfl,hI⟩ (by show mv.length-(i+1)<mv.length-i;omega))
  refine zAbU (hp.keep k0h λ_ _=>id).h (zIq hx) zLF (zBH zN6) λh28 a28 k28=>?_
  have a28':At h28 h.size (zGM x.1 x.2.1 x.2.2.1 x.2.2.2):=a28
  have k328:=kh.trans k28
  simp only[zBi,zAh,zAu,zAa]
  obtain⟨g5,_,_⟩:=zG6 a28' wx
  have hd:=(hmx.keep k28 λ_ _=>id).d
  have hdl:=hd.len
  rw[zAd]at hdl
  have inner:∀ t70:Value,Mpu (ld1 h28 (Ptr h.size 5)) λt73=>Mpu (zDp t73) λt74 =>
    L2 (λk31=>λt6_3 t75_2 h32 =>
       Mpu (zAB .no .lss t75_2 t74) λt76 =>
       Mcd t76 (
        Mpu (ixS 6 t73 t75_2) λt77 =>
        Mpu (ldN 6 h32 t77) λt78 =>
        zDq h32 zAE (zBE prg zAE) λt10 h33 =>
        Mwr (stN 6 h33 t10 t78) λh34 =>
        J1 (λk35=>Mif t6_3 false (
          Mpu (fld 0 t10) λt81 =>
          Mpu (ld1 h34 t81) λt82 =>
          Mpu (ld1 h34 (Ptr h1.size 1)) λt84 =>
          Mpu (zAB .no .eql t82 t84) λt85 =>
          k35 t85 h34) (
          k35 undef h34)) λt85_2 h36 =>
        Mpu (zBw t6_3 (.bool true) t85_2) λt86 =>
        Mpu (zAB .no .add t75_2 (.int .i64 1)) λt87 =>
        k31 t86 t87 h36) (
        k25 (.bool (((zBV mv).take (i+1)).any λm=>decide (m.name=a.name))) t6_3 t70 t75_2 h32)) (.bool (((zBV mv).take i).any depIn)) (.int .i64 0) h28:=λt70=>by
   refine zBo g5 (zBo hdl (zSZ (λj t6 h'=>t6 = .bool (((zBV mv).take i).any depIn || (x.1.deps.take j).any λd=>decide (d.name=a.name))/\Keep No h28 h') ⟨by rw[List.take_zero,List.any_nil,Bool.or_false],Keep.refl⟩ (λt6 h' hI=>hk25 _ _ _ _ _ ⟨rfl,?_,k328.trans hI.2⟩) ?_))
   ·rw[hI.1,zBA,e2]
   ·rintro j _ h' hj ⟨rfl,kj⟩ k31 hk31
    obtain⟨d,hdx,hdm⟩:=zQj hj
    have wd:=wx.deps d hdm
    refine zAbU (hd.keep kj λ_ _=>id) (zIq hdx) zVy (zDx zNM) λh34 a34 k34=>?_
    have e3:=zO2 (p:=λd:Dep=>decide (d.name=a.name)) hdx
    have k3j:=k328.trans (kj.trans k34)
    have hdl:x.1.deps.length<=1000:=(hp.sm x hm).1
    refine zLK (λq=>zJB hj (by omega) (hk31 _ _ ⟨?_,kj.trans k34⟩)) λq=>?_
    ·rw[e3,<- Bool.or_assoc,q];rfl
    ·rw[zBi,zAa]
     refine zBo (a34.ld (i:=0) rfl) (zBo (zO6 (av _ k3j)) (zBo zDN (zJB hj (by omega) (hk31 _ _ ⟨?_,kj.trans k34⟩))))
     rw[e3,<- Bool.or_assoc,q];rfl
  refine zLK (λq=>?_) λq=>?_
  ·have:=inner undef
   rw[e1,q]at this
   exact this
  ·refine zBo (zDy a28') (zBo (zO6 (av _ k328)) (zBo zDN ?_))
   have:=inner (.bool (decide (x.1.name=a.name)))
   rw[e1,q]at this
   exact this
 rintro _ _ _ h22 ⟨rfl,rfl,k22⟩
 have kk:=k03.trans k22
 refine zBo (zG7 (av _ k22)) (zBo eqI (zKu (λq=>?_) λq=>?_))
 ·have q:=of_decide_eq_true q
  refine zO3 (λe=>⟨by rw[<- (hw 44).mpr (if_pos ⟨q,e⟩)],kk⟩) λe=>?_
  refine zBo (zG7 (av _ k22)) (zBo zAjb (zKu (λe=>absurd e (by simp[q])) λ_=>zN9 rfl ?_))
  refine zBo (zG7 (av _ k22)) (zBo eqI (zKu (λe=>absurd e (by simp[q])) λ_=>zN9 rfl ⟨?_,kk⟩))
  rw[(hw 0).mpr (by rw[if_neg (by rw[e];simp),if_neg (by simp[q]),if_neg (by omega)])]
 ·have q:=of_decide_eq_false q
  refine zN9 rfl ?_
  refine zBo (zG7 (av _ k22)) (zBo zAjb (zKu (λ_=>?_) λe=>absurd e (by simp[q])))
  refine zBo rfl (zO3 (λe=>⟨?_,kk⟩) λe=>?_)
  ·have e:(!zRw (zBV mv) a.name)=true:=e
   rw[(hw 14).mpr (by rw[if_neg (by simp[q]),if_pos ⟨q,by simpa using e⟩])]
  have e:(!zRw (zBV mv) a.name)=false:=e
  have e':zRw (zBV mv) a.name=true:=by simpa using e
  refine zBo (zG7 (av _ k22)) (zBo eqI (zKu (λq3=>?_) λq3=>zN9 rfl ⟨?_,kk⟩))
  ·have q3:=of_decide_eq_true q3
   refine zO3 (λe2=>⟨?_,kk⟩) λe2=>⟨?_,kk⟩
   ·rw[(hw 43).mpr (by rw[if_neg (by simp[q]),if_neg (by simp[e']),if_pos ⟨q3,e2⟩])]
   ·rw[(hw 0).mpr (by rw[if_neg (by simp[q]),if_neg (by simp[e']),if_neg (by simp[e2])])]
  ·have q3:=of_decide_eq_false q3
   rw[(hw 0).mpr (by rw[if_neg (by simp[q]),if_neg (by simp[e']),if_neg (by simp[q3])])]
section
variable {inst:List Man} {l:List Pk} {a:zPB} {e:Int} {goal goal':List Man}
theorem zSh {r r':Res}(h:zAeu inst l a r)(h':zAeu inst l a r'):r=r':=by
 obtain⟨s,h⟩:=h
 obtain⟨s',h'⟩:=h'
 exact(h.det h').1
theorem zAga (h:zIa inst a=0):(zDE inst&&zLI a)=true/\((a.kind=3/\zRw inst a.name=true/\zNf inst a.name=false)\/(zMz inst a/\(a.kind=1\/a.kind=2))):=by
 unfold zIa at h
 cases hg:(zDE inst&&zLI a)
 ·rw[if_pos hg]at h;omega
 rw[if_neg (by rw[hg];decide)]at h
 refine⟨rfl,?_⟩
 rw[zAk]at hg
 obtain⟨k1,k2⟩:=zVG hg.2
 by_cases c1:a.kind=1/\zRw inst a.name=true
 ·rw[if_pos c1]at h;omega
 rw[if_neg c1]at h
 by_cases c2:a.kind≠1/\zRw inst a.name=false
 ·rw[if_pos c2]at h;omega
 rw[if_neg c2]at h
 by_cases c3:a.kind=3/\zNf inst a.name=true
 ·rw[if_pos c3]at h;omega
 have hh:a.kind≠1->zRw inst a.name=true:=λh1=>by
  cases hx:zRw inst a.name
  ·exact absurd ⟨h1,hx⟩ c2
  ·rfl
 by_cases h3:a.kind=3
 ·left
  refine⟨h3,hh (by omega),?_⟩
  cases hx:zNf inst a.name
  ·rfl
  ·exact absurd ⟨h3,hx⟩ c3
 ·right
  refine⟨⟨h3,λh1=>?_,hh⟩,by omega⟩
  cases hx:zRw inst a.name
  ·rfl
  ·exact absurd ⟨h1,hx⟩ c1
theorem zSi (h:zMz inst a)(hg:(zDE inst&&zLI a)=true):zIa inst a=0:=by
 unfold zIa
 rw[if_neg (by rw[hg];decide),if_neg (λc=>by rw[h.2.1 c.1]at c;exact absurd c.2 (by decide)),if_neg (λc=>by rw[h.2.2 c.1]at c;exact absurd c.2 (by decide)),if_neg (λc=>h.1 c.1)]
theorem zUH (h:zAd2 inst l a e)(hw:zIa inst a≠0):e=zIa inst a:=by
 unfold zIa at hw ⊢
 rcases h with ⟨h1,rfl⟩|⟨h1,h⟩
 ·rw[if_pos h1]
 rw[if_neg (by rw[h1];decide)]at hw ⊢
 rcases h with ⟨h2,h3,rfl⟩|⟨h2,h3,rfl⟩|⟨h2,h3,h4,rfl⟩|⟨h2,_⟩
 ·rw[if_pos ⟨h2,h3⟩]
 ·rw[if_neg (λc=>h2 c.1),if_pos ⟨h2,h3⟩]
 ·rw[if_neg (λc=>by omega),if_neg (λc=>by rw[h3]at c;exact absurd c.2 (by decide)),if_pos ⟨h2,h4⟩]
 ·exfalso;apply hw
  have:=zSi h2 h1
  unfold zIa at this
  rwa [if_neg (by rw[h1];decide)]at this
theorem zS0 (h:zRx inst l a goal):zIa inst a=0:=by
 obtain⟨h1,h⟩:=h
 rcases h with ⟨h2,h3,h4,_⟩|⟨h2,_⟩
 ·unfold zIa
  rw[if_neg (by rw[h1];decide),if_neg (λc=>by omega),if_neg (λc=>by rw[h3]at c;exact absurd c.2 (by decide)),if_neg (λc=>by rw[h4]at c;exact absurd c.2 (by decide))]
 ·exact zSi h2 h1
theorem zRz (h:zAd2 inst l a e)(hw:zIa inst a=0):zMz inst a/\(zWB inst l a=false/\e=10\/zWB inst l a=true/\(zAeu inst l a .fail/\e=40\/zAeu inst l a .over/\e=42)):=by
 unfold zIa at hw
 rcases h with ⟨h1,rfl⟩|⟨h1,h⟩
 ·rw[if_pos h1]at hw;omega
 rw[if_neg (by rw[h1];decide)]at hw
 rcases h with ⟨h2,h3,rfl⟩|⟨h2,h3,rfl⟩|⟨h2,h3,h4,rfl⟩|⟨h2,h3⟩
 ·rw[if_pos ⟨h2,h3⟩]at hw;omega
 ·rw[if_neg (λc=>h2 c.1),if_pos ⟨h2,h3⟩]at hw;omega
 ·rw[if_neg (λc=>by omega),if_neg (λc=>by rw[h3]at c;exact absurd c.2 (by decide)),if_pos ⟨h2,h4⟩]at hw;omega
 ·exact⟨h2,h3⟩
theorem zTF (h:zRx inst l a goal)(he:zAd2 inst l a e):False:=by
 obtain⟨hc,he⟩:=zRz he (zS0 h)
 obtain⟨_,h⟩:=h
 rcases h with ⟨h2,_⟩|⟨_,h2,ks,h3,_⟩
 ·exact hc.1 h2
 ·rcases he with ⟨he,_⟩|⟨_,⟨he,_⟩|⟨he,_⟩⟩
  ·rw[h2]at he;cases he
  ·have:=zSh h3 he;cases this
  ·have:=zSh h3 he;cases this
theorem zAjc {e':Int}(h:zAd2 inst l a e)(h':zAd2 inst l a e'):e=e':=by
 by_cases hw:zIa inst a=0
 ·obtain⟨_,h⟩:=zRz h hw
  obtain⟨_,h'⟩:=zRz h' hw
  rcases h with ⟨h1,rfl⟩|⟨h1,⟨h2,rfl⟩|⟨h2,rfl⟩⟩
  ·rcases h' with ⟨_,rfl⟩|⟨h3,_⟩
   ·rfl
   ·rw[h1]at h3;cases h3
  ·rcases h' with ⟨h3,_⟩|⟨_,⟨_,rfl⟩|⟨h4,_⟩⟩
   ·rw[h1]at h3;cases h3
   ·rfl
   ·have:=zSh h2 h4;cases this
  ·rcases h' with ⟨h3,_⟩|⟨_,⟨h4,_⟩|⟨_,rfl⟩⟩
   ·rw[h1]at h3;cases h3
   ·have:=zSh h2 h4;cases this
   ·rfl
 ·rw[zUH h hw,zUH h' hw]
theorem zWJ (h:zRx inst l a goal)(h':zRx inst l a goal'):goal=goal':=by
 obtain⟨_,h⟩:=h
 obtain⟨_,h'⟩:=h'
 rcases h with ⟨h2,_,_,rfl⟩|⟨hc,_,ks,h3,_,rfl⟩
 ·rcases h' with ⟨_,_,_,rfl⟩|⟨hc,_⟩
  ·rfl
  ·exact absurd h2 hc.1
 ·rcases h' with ⟨h2,_⟩|⟨_,_,ks',h3',_,rfl⟩
  ·exact absurd h2 hc.1
  ·have:=zSh h3 h3'
   cases this;rfl
theorem zAaL (h:zRx inst l a goal):∀ m∈goal,m∈zE1 inst l:=by
 obtain⟨_,h⟩:=h
 rcases h with ⟨_,_,_,rfl⟩|⟨_,_,ks,_,hN,rfl⟩
 ·exact λm hm=>zVK (zA0.1 hm).1
 ·intro m hm
  obtain⟨k,hk,rfl⟩:=zAo.1 hm
  exact zAmi (hN.1 k (zMG.1 hk))
theorem zAgb (h:zRx inst l a goal):(∀ x∈inst,∀ y∈goal,x.name=y.name->x.ver=y.ver->x=y)/\∀ m∈goal,m∉inst->zKk l m∈l/\(zKk l m).1=m:=by
 have hs:=zAaL h
 obtain⟨hg,h⟩:=h
 rcases h with ⟨_,_,_,rfl⟩|⟨_,hp,ks,_,hN,rfl⟩
 ·rw[zAk]at hg
  exact⟨λx hx y hy e1 _=>zAbz hg.1 hx (zA0.1 hy).1 e1,λm hm hn=>absurd (zA0.1 hm).1 hn⟩
 ·have hT:zAee (zE1 inst l):=by
   refine zAef ?_
   unfold zWB zHF at hp
   simp only[zAk]at hp
   exact hp.1.2
  exact⟨λx hx y hy e1 e2=>hT x (zVK hx) y (hs y hy) e1 e2,λm hm hn=>zAbA hT (hs m hm) hn⟩
end
end Go.Proofs.YticdfkoncnnmmaaGreatDoor
