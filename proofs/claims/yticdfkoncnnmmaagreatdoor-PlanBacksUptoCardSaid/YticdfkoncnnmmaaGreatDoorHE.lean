import Derived.Test.YticdfkoncnnmmaaGreatDoorHB
import Derived.Test.YticdfkoncnnmmaaGreatDoorG6
import Derived.Test.YticdfkoncnnmmaaGreatDoorH9
set_option linter.unusedSimpArgs false
set_option linter.unusedVariables false
set_option maxRecDepth 100000
namespace Go.Proofs.YticdfkoncnnmmaaGreatDoor
open Go.X Go.X.Diff Go.MapKept
theorem zAf1:zLM prg zBQ=some ([(0,1),(1,1),(2,1),(3,1)],(chC 0 zCn zCn zCn).toArray):=by kernel_rfl
theorem zAf2 {n:Int}:zCM prg zBQ [(0,.int .i64 n)]=some (.agg (chC n zCn zCn zCn).toArray):=by rw[zHZ zAf1];rfl
theorem zUJ:zCM prg zBQ []=some (.agg (chC 0 zCn zCn zCn).toArray):=by kernel_rfl
theorem zSf:zBI prg zBQ=some (chC 0 zCn zCn zCn).toArray:=by kernel_rfl
theorem zOV {n:Int}{d s t:Value}(h1:d.oneCell'=true)(h2:s.oneCell'=true)(h3:t.oneCell'=true):∀ c∈chC n d s t,c.oneCell'=true:=λc hc=>by
 simp only[chC,zAs,zCL,or_false]at hc
 rcases hc with rfl|rfl|rfl|rfl
 ·rfl
 ·exact h1
 ·exact h2
 ·exact h3
def zPk:Pk:=zJg zPW
def zJA (l:List Pk)(m:Man):Pk:=(l.find? (zJy m.name m.ver)).getD zPk
theorem zZq:∀ {l:List Man} {ps:List (List UInt8)} {of:zTr},zW2 ps of l=0->∀ m∈l,zEC m=true
 | [],_,_,_,m,h=>by cases h
 | x::l,ps,of,h,m,hm=>by
  rw[zW2]at h
  by_cases h0:zHG ps of x=0
  ·rw[if_pos h0]at h
   rcases zAs.1 hm with rfl|hm
   ·exact(zAaD h0).1
   ·exact zZq h m hm
  ·rw[if_neg h0]at h;exact absurd h h0
theorem zSg {l:List Man}(h:zC0 l=true):∀ m∈l,m.files.length<=64:=λm hm=>by
 unfold zC0 at h
 simp only[zAk,decide_eq_true_eq]at h
 exact(zM8 (zZq h.1 m hm)).1
def zP7 (kind:Int)(inst:List Man)(l:List Pk)(goal:List Man)(H H':zAx)(u:Value):Prop :=
 (zC0 goal=false/\u = .tuple #[.agg (chC 0 zCn zCn zCn).toArray,.int .i64 41]) \/
 (zC0 goal=true/\∃ n0 z col d s t dr ad af,u = .tuple #[.agg (chC kind d s t).toArray,.int .i64 0]/\H.size<=z/\ChI n0 z kind col d s t dr ad af H' /\
  zCi dr=inst.filter (λm=>!zG9 goal m)/\ad.map zJg=(goal.filter λm=>!zG9 inst m).map (zJA l)/\zCi af=goal)
theorem zAkX {Q:zA1}{h:zAx}:PkV Q h zPW:=⟨⟨SlE.nil,SlE.nil,SlE.nil,zOr⟩,⟨SlE.nil,λx hx=>(by cases hx)⟩,by decide,by decide,by decide,by decide,λy hy=>(by cases hy)⟩
set_option maxHeartbeats 4000000 in
theorem zWR {P R PG Fg:zA1}{p:Nat}{l:List Pk}{H:zAx}{v g:Value}{mv goal:List MV}{kind:Int}(hp:zLB P H v mv)(q:zPr R p l H)(hb:BufE 8 Fg H g (goal.map mvC))(hg:∀ x∈goal,zLd PG H x.1 x.2.1 x.2.2.1 x.2.2.2)
  (hgs:∀ x∈goal,x.1.deps.length<=1000/\x.1.conf.length<=1000) (hmf:∀ x∈mv,x.1.files.length<=1000) (hr:zUI goal) (hPF:∀ b,P b\/R b\/PG b->b<H.size/\¬ Fg b) (hF:∀ b,Fg b->b<H.size) (hml:mv.length<=1000) (hgl:goal.length<=1000) (hll:l.length<=1000) (hO:zQW H) (hOF:∀ h,Keep Fg H h->zQW h) :
  zAA prg zJM [.int .i64 kind,v,Ptr p 0,g] H λu H'=>zP7 kind (zCi mv) l (zCi goal) H H' u/\Keep Fg H H':=by
 apply zQE
 unfold zQQ
 simp only[zSf,zAf2,zUJ,zBb,zBf,zAi,zAu,zAa]
 generalize hH1:H.push (.cells (chC 0 zCn zCn zCn).toArray zBQ (0,0))=h1
 have k1:Keep zAK H h1:=by rw[<- hH1];exact Keep.push
 have a1:At h1 H.size (chC 0 zCn zCn zCn):=by rw[<- hH1];exact At.push
 have s1:h1.size=H.size+1:=by rw[<- hH1];simp
 refine zAI (zAd7 (hb.keep k1 λ_ _=>id) hr (λb h=>by have:=hF b h;omega) (by omega)) ?_
 rintro _ h2 ⟨hb2,k2⟩
 have g2:=k2.1
 have k02:Keep Fg H h2:=(k1.mono λ_ _ h=>h.elim).trans k2
 have a2:=a1.keep k2 λh=>by have:=hF _ h;omega
 let PGF:zA1:=λb=>PG b\/Fg b
 have hPGF:∀ b,PGF b->b<H.size:=λb h=>h.elim (λh=>(hPF b (.inr (.inr h))).1) (hF b)
 have mg:∀ h,Keep (λb=>H.size<=b) h2 h->zLB PGF h g goal:=λh k=>⟨(hb2.keep k λb h e=>by have:=hF b h;omega).sl.mono λb h => .inr h,λx hx=>(((hg x hx).keep k02 λb h=>(hPF b (.inr (.inr h))).2).keep k λb h e=>by have:=(hPF b (.inr (.inr h))).1;omega).mono λb h => .inl h,hgs⟩
 refine zAI (zRl (mg _ Keep.refl) (λb h=>by have:=hPGF b h;omega) (by omega) (hOF _ k02)) ?_
 rintro _ h3 ⟨rfl,k3⟩
 have g3:=k3.1
 have k03:=k02.trans (k3.mono (S':=Fg) λ_ _ h=>h.elim)
 have a3:=a2.keep k3 id
 rw[zA7,zAa,zAl]
 cases hrt:zC0 (zCi goal)
 ·rw[if_pos (by rfl)]
  obtain⟨h4,st4,a4,k4⟩:=a3.st (n:=4) (ds:=chC 0 zCn zCn zCn) rfl rfl (zOV rfl rfl rfl)
  rw[st4,zAW,a4.ldN (n:=4) rfl,zAa]
  exact⟨.inl ⟨hrt,rfl⟩,k03.fresh' k4 λb e => .inr (by omega)⟩
 rw[if_neg (by decide)]
 have hgf:∀ x∈goal,x.1.files.length<=1000:=λx hx=>by have:=zSg hrt x.1 (zAo.2 ⟨x,hx,rfl⟩);omega
 generalize hH6:h3.push (.cells (chC 0 zCn zCn zCn).toArray zBQ (0,0))=h6
 have k6:Keep zAK h3 h6:=by rw[<- hH6];exact Keep.push
 have a6:At h6 h3.size (chC 0 zCn zCn zCn):=by rw[<- hH6];exact At.push
 have s6:h6.size=h3.size+1:=by rw[<- hH6];simp
 obtain⟨h7,st7,a7,k7⟩:=a6.st (n:=4) (ds:=chC kind zCn zCn zCn) rfl rfl (zOV rfl rfl rfl)
 have g7:=k7.1
 rw[st7,zAW]
 have k37:Keep zAK h3 h7:=k6.fresh k7 λb e=>by omega
 have k27:Keep zAK h2 h7:=k3.trans k37
 have k07:Keep Fg H h7:=k03.trans (k37.mono λ_ _ h=>h.elim)
 have a17:=a3.keep k37 id
 generalize hn0:h7.size=n0 at *
 generalize hz0:h3.size=z at *
 have hc0:ChI n0 z kind (λ_=>0) zCn zCn zCn [] [] [] h7:=⟨a7,BufE.nil,BufE.nil,BufE.nil,λx hx=>(by cases hx),λx hx=>(by cases hx),λx hx=>(by cases hx),by omega,by omega⟩
 have inM:∀ h,Keep (λb=>n0<=b\/b=z) h7 h->zLB P h v mv:=λh k=>(hp.keep k07 λb h=>(hPF b (.inl h)).2).keep k λb h e=>by have:=(hPF b (.inl h)).1;omega
 have inP:∀ h,Keep (λb=>n0<=b\/b=z) h7 h->zPr R p l h:=λh k=>(q.keep k07 λb h=>(hPF b (.inr (.inl h))).2).keep k λb h e=>by have:=(hPF b (.inr (.inl h))).1;omega
 have inG:∀ h,Keep (λb=>n0<=b\/b=z) h7 h->zLB PGF h g goal:=λh k=>mg h ((k27.mono λ_ _ h=>h.elim).trans (k.mono λb _ e=>by show H.size<=b;omega))
 let inst:=zCi mv
 let gh:=zCi goal
 let I1:Nat->zAx->Prop:=λi h=>∃ col d dr,ChI n0 z kind col d zCn zCn dr [] [] h/\zCi dr=(inst.take i).filter (λm=>!zG9 gh m)/\dr.length<=i/\Keep (λb=>n0<=b\/b=z) h7 h
 have hil:inst.length=mv.length:=by simp[inst]
 have hgln:gh.length=goal.length:=by simp[gh]
 refine zOt (λ_ h=>I1 mv.length h) (λk8 hk8=>?_) ?_
 ·rw[hp.len,zAa]
  refine zKj (λw h=>∃ i:Nat,i<=mv.length/\w = .int .i64 (i:Nat)/\I1 i h) (λw _=>match w with | .int _ t=>mv.length-t.toNat|_=>0) ⟨0,zAz _,rfl,_,_,[],hc0,rfl,zAh _,Keep.refl⟩ ?_
  rintro _ h11 ⟨i,hi,rfl,col,d,dr,c11,hdr,hdl,k711⟩ k10 hk10
  rw[zNZ,zAa,zAl]
  by_cases hlt:i<mv.length
  rotate_left
  ·rw[if_neg (by simpa using hlt)]
   obtain rfl:i=mv.length:=by omega
   exact hk8 _ _ ⟨col,d,dr,c11,hdr,hdl,k711⟩
  rw[if_pos (by simpa using hlt)]
  have hgi:mv[i]? = some mv[i]:=zAj hlt
  have hxm:=zAH hlt
  generalize mv[i]=x at *
  have hgh:inst[i]? = some x.1:=by show(zCi mv)[i]? = _;rw[zAq,hgi];rfl
  have hm11:=inM h11 k711
  obtain⟨hmx,b,o,hix,hpt,_⟩:=hm11.at hgi
  have w:=hmx.wf
  have hsx:=hp.sm x hxm
  have hfx:=hmf x hxm
  have n11:=c11.n
  refine zAjv (λh=>I1 (i+1) h) (λk12 hk12=>?_) ?_
  rotate_left
  ·intro h13 hI
   rw[zBV (by omega),zAa]
   exact hk10 _ _ ⟨i+1,by omega,rfl,hI⟩ (by show mv.length-(i+1)<mv.length-i;omega)
  rw[hix .i64,zAa,zM7 hpt w,zAa]
  simp only[zL8,zBb]
  generalize hH14:h11.push (.cells (zGN ⟨[],zEc,[],[],[]⟩ zCn zCn zCn).toArray zAe (0,0))=h14
  have k14:Keep zAK h11 h14:=by rw[<- hH14];exact Keep.push
  have a14:At h14 h11.size (zGN ⟨[],zEc,[],[],[]⟩ zCn zCn zCn):=by rw[<- hH14];exact At.push
  obtain⟨h15,st15,a15,k15⟩:=a14.st (n:=8) (ds:=mvC x) (zBB zOr) (zBB w) (zFP hmx)
  have k1115:Keep zAK h11 h15:=k14.fresh k15 λb e=>by omega
  have k715:Keep (λb=>n0<=b\/b=z) h7 h15:=k711.trans (k1115.mono λ_ _ h=>h.elim)
  rw[st15,zAW,a15.ldN (zBB w),zAa]
  refine zAI (zAhh (inG _ k715) (hmx.keep k1115 λ_ _=>id) (by omega) hgf) ?_
  rintro _ h16 ⟨rfl,k16⟩
  have k1116:=k1115.trans k16
  have a16:=a15.keep k16 id
  have c16:=c11.fresh k1116
  rw[zA7,zAa,zAl]
  cases hj:zG9 gh x.1
  rotate_left
  ·rw[if_neg (by decide)]
   exact hk12 _ ⟨_,d,dr,c16,by rw[zJh hgh,hj,hdr];simp,by omega,k711.trans (k1116.mono λ_ _ h=>h.elim)⟩
  rw[if_pos (by rfl),c16.a.ld (i:=1) rfl,zAa,a16.ldN (zBB w),zAa]
  refine zAI (zUE (hmx.keep k1116 λ_ _=>id) hsx.1 hsx.2 hfx) ?_
  rintro _ h17 ⟨⟨vd,vc,vf,rfl,hm17⟩,k17⟩
  have g16:=k1116.1
  have g17:=k17.1
  have k1117:=k1116.trans k17
  generalize hy:(x.1,vd,vc,vf)=y at *
  have hy1:y.1=x.1:=by rw[<- hy]
  have hmy:zLd (λb=>h16.size<=b/\b<h17.size) h17 y.1 y.2.1 y.2.2.1 y.2.2.2:=by rw[<- hy];exact hm17
  have wy:=hmy.wf
  rw[(c16.a.keep k17 id).ld (i:=1) rfl,zBp,zA8,zNY (zBB wy),zCo]
  have hrow:=zM9 (x:=mvC y) (T:=zAe) (h:=h17) (n:=8) (zBB wy:(mvC y).length=8) (zFP hmy)
  have kp:Keep zAK h17 (h17.push (.cells (mvC y).toArray zAe (0,0))):=Keep.push
  have sp:(h17.push (.cells (mvC y).toArray zAe (0,0))).size=h17.size+1:=by simp
  generalize h17.push (.cells (mvC y).toArray zAe (0,0))=h18 at *
  have k1118:=k1117.trans kp
  have c18:=c11.fresh k1118
  rw[c18.a.ld (i:=1) rfl,zBp,zA8]
  refine c18.addD ((hmy.keep kp λ_ _=>id).mono λb hb=>Own.new c11.n (by omega) (by omega)) hrow (by omega) λh20 col' d' c20 k20=>?_
  refine hk12 _ ⟨col',d',dr++[y],c20,?_,by rw[zAt,zBc];omega,(k711.trans (k1118.mono λ_ _ h=>h.elim)).trans (c18.coarse k20)⟩
  rw[zJh hgh,hj,<- hdr]
  simp[zCi,hy1]
 rintro _ h9 ⟨col9,d,dr,c9,hdr,hdl,k79⟩
 rw[zAr (by omega)]at hdr
 let I2:Nat->zAx->Prop:=λi h=>∃ col s t ad af,ChI n0 z kind col d s t dr ad af h/\zCi af=gh.take i/\ad.map zJg=((gh.take i).filter λm=>!zG9 inst m).map (zJA l)/\Keep (λb=>n0<=b\/b=z) h7 h
 refine zOt (λ_ h=>I2 goal.length h) (λk21 hk21=>?_) ?_
 rotate_left
 ·rintro _ h22 ⟨col,s,t,ad,af,c22,haf,had,k722⟩
  have a22:At h22 H.size (chC 0 zCn zCn zCn):=a17.keep k722 λe=>by omega
  have o1:d.oneCell'=true:=c22.bd.sl.oneC
  have o2:s.oneCell'=true:=c22.bs.sl.oneC
  have o3:t.oneCell'=true:=c22.bt.sl.oneC
  obtain⟨h40,st40,a40,k40⟩:=a22.st (n:=4) (ds:=chC kind d s t) rfl rfl (zOV o1 o2 o3)
  rw[c22.a.ldN (n:=4) rfl,zAa,st40,zAW,a40.ldN (n:=4) rfl,zAa]
  rw[zAr (by omega)]at haf had
  refine⟨.inr ⟨hrt,n0,z,_,d,s,t,dr,ad,af,rfl,by omega,c22.low k40 λb e => .inl ⟨by omega,by omega⟩,hdr,had,haf⟩,(k07.fresh' k722 λb e => .inr (by omega)).fresh' k40 λb e => .inr (by omega)⟩
 rw[(inG _ Keep.refl).len,zAa]
 refine zKj (λw h=>∃ i:Nat,i<=goal.length/\w = .int .i64 (i:Nat)/\I2 i h) (λw _=>match w with | .int _ t=>goal.length-t.toNat|_=>0) ⟨0,zAz _,rfl,col9,zCn,zCn,[],[],c9,rfl,rfl,k79⟩ ?_
 rintro _ h24 ⟨i,hi,rfl,col,s,t,ad,af,c24,haf,had,k724⟩ k23 hk23
 rw[zNZ,zAa,zAl]
 by_cases hlt:i<goal.length
 rotate_left
 ·rw[if_neg (by simpa using hlt)]
  obtain rfl:i=goal.length:=by omega
  exact hk21 _ _ ⟨col,s,t,ad,af,c24,haf,had,k724⟩
 rw[if_pos (by simpa using hlt)]
 have hgi:goal[i]? = some goal[i]:=zAj hlt
 have hxm:=zAH hlt
 generalize goal[i]=x at *
 have hgh:gh[i]? = some x.1:=by show(zCi goal)[i]? = _;rw[zAq,hgi];rfl
 obtain⟨hmx,b,o,hix,hpt,_⟩:=(inG h24 k724).at hgi
 have w:=hmx.wf
 have hsx:=hgs x hxm
 have hfx:=hgf x hxm
 have n24:=c24.n
 have hafl:af.length=i:=by
  have:=congrArg List.length haf
  rw[zAd,zA4]at this;omega
 have hadl:ad.length<=i:=by
  have h1:=congrArg List.length had
  rw[zAd,zAd]at h1
  have h2:=zBi (λm=>!zG9 inst m) (gh.take i)
  rw[zA4]at h2;omega
 refine zAjv (λh=>I2 (i+1) h) (λk25 hk25=>?_) ?_
 rotate_left
 ·intro h26 hI
  rw[zBV (by omega),zAa]
  exact hk23 _ _ ⟨i+1,by omega,rfl,hI⟩ (by show goal.length-(i+1)<goal.length-i;omega)
 rw[hix .i64,zAa,zM7 hpt w,zAa]
 simp only[zL8,zAbE,zBb]
 generalize hH27:h24.push (.cells (zGN ⟨[],zEc,[],[],[]⟩ zCn zCn zCn).toArray zAe (0,0))=h27
 have k27':Keep zAK h24 h27:=by rw[<- hH27];exact Keep.push
 have a27:At h27 h24.size (zGN ⟨[],zEc,[],[],[]⟩ zCn zCn zCn):=by rw[<- hH27];exact At.push
 obtain⟨h28,st28,a28,k28⟩:=a27.st (n:=8) (ds:=mvC x) (zBB zOr) (zBB w) (zFP hmx)
 have k2428:Keep zAK h24 h28:=k27'.fresh k28 λb e=>by omega
 have g28:=k2428.1
 have l28:=a28.lt
 rw[st28,zAW,(c24.fresh k2428).a.ld (i:=3) rfl,zAa,a28.ldN (zBB w),zAa]
 refine zAI (zUE (hmx.keep k2428 λ_ _=>id) hsx.1 hsx.2 hfx) ?_
 rintro _ h29 ⟨⟨vd,vc,vf,rfl,hm29⟩,k29⟩
 have g29:=k29.1
 have k2429:=k2428.trans k29
 generalize hy:(x.1,vd,vc,vf)=y at *
 have hy1:y.1=x.1:=by rw[<- hy]
 have hmy:zLd (λb=>h28.size<=b/\b<h29.size) h29 y.1 y.2.1 y.2.2.1 y.2.2.2:=by rw[<- hy];exact hm29
 have wy:=hmy.wf
 rw[(c24.fresh k2429).a.ld (i:=3) rfl,zBp,zA8,zNY (zBB wy),zCo]
 have hrow:=zM9 (x:=mvC y) (T:=zAe) (h:=h29) (n:=8) (zBB wy:(mvC y).length=8) (zFP hmy)
 have kp:Keep zAK h29 (h29.push (.cells (mvC y).toArray zAe (0,0))):=Keep.push
 have sp:(h29.push (.cells (mvC y).toArray zAe (0,0))).size=h29.size+1:=by simp
 generalize h29.push (.cells (mvC y).toArray zAe (0,0))=h30 at *
 have k2430:=k2429.trans kp
 have c30:=c24.fresh k2430
 have a30:=(a28.keep k29 id).keep kp id
 rw[c30.a.ld (i:=3) rfl,zBp,zA8]
 refine c30.addA ((hmy.keep kp λ_ _=>id).mono λb hb=>Own.new c24.n (by omega) (by omega)) hrow (by omega) λh32 col' t' c32 k32=>?_
 have k732:=(k724.trans (k2430.mono λ_ _ h=>h.elim)).trans (c30.coarse k32)
 have hz:=c24.zl
 have a32:At h32 h24.size (mvC x):=a30.keep k32 λe=>by
  rcases e with (e|e)|e
  ·have:=e.1
   unfold zJz at this
   rw[if_neg (by omega)]at this
   omega
  ·omega
  ·omega
 have hmx32:zLd PGF h32 x.1 x.2.1 x.2.2.1 x.2.2.2:=(inG h32 k732).m x hxm
 have haf':zCi (af++[y])=gh.take (i+1):=by
  rw[zAG,hgh,<- haf];simp[zCi,hy1]
 rw[a32.ldN (zBB w),zAa]
 refine zAI (zAhh (inM h32 k732) hmx32 (by omega) hmf) ?_
 rintro _ h33 ⟨rfl,k33⟩
 have a33:=a32.keep k33 id
 have c33:=c32.fresh k33
 rw[zA7,zAa,zAl]
 cases hj:zG9 inst x.1
 rotate_left
 ·rw[if_neg (by decide)]
  exact hk25 _ ⟨_,s,t',ad,af++[y],c33,haf',by rw[zJh hgh,hj,had];simp,k732.trans (k33.mono λ_ _ h=>h.elim)⟩
 simp only[zBf,zAi,zAu,zAa]
 rw[if_pos (by rfl),zDz a33,zAa,zHu a33 w,zAa]
 have k733:=k732.trans (k33.mono (S':=λb=>n0<=b\/b=z) λ_ _ h=>h.elim)
 refine zAI (zAkV (inP h33 k733) w.ver hll) ?_
 rintro u h34 ⟨hu,k34⟩
 have g34:=k34.1
 have g33:=k33.1
 obtain⟨x',bb,rfl,hpk,hx'⟩:∃ (x':PW) (bb:Bool),u = .tuple #[.agg (pvC x').toArray,.bool bb]/\zJg x'=zJA l x.1/\PkV (λb=>h33.size<=b/\b<h34.size) h34 x':=by
  rcases hu with ⟨e,rfl⟩|⟨x',e,rfl,hx'⟩
  ·exact⟨zPW,false,rfl,by unfold zJA;rw[e];rfl,zAkX⟩
  ·exact⟨x',true,rfl,by unfold zJA;rw[e];rfl,hx'⟩
 have x0:∀ a b:Value,zE0 0 (.tuple #[a,b])=some a:=λ_ _=>rfl
 have x1:∀ a b:Value,zE0 1 (.tuple #[a,b])=some b:=λ_ _=>rfl
 rw[x0,zAa,x1,zAa]
 have wx':=hx'.m.wf
 generalize hH35:h34.push (.cells (pvC zPW).toArray zA6 (0,0))=h35
 have k35:Keep zAK h34 h35:=by rw[<- hH35];exact Keep.push
 have a35:At h35 h34.size (pvC zPW):=by rw[<- hH35];exact At.push
 obtain⟨h36,zAmU,a36,k36⟩:=a35.st (n:=9) (ds:=pvC x') (zD1 zQZ) (zD1 wx') hx'.one
 have k3436:Keep zAK h34 h36:=k35.fresh k36 λb e=>by omega
 have g36:=k3436.1
 have k3236:=(k33.trans k34).trans k3436
 rw[zAmU,zAW,(c32.fresh k3236).a.ld (i:=2) rfl,zAa,a36.ldN (zD1 wx'),zAa,zZo (zD1 wx'),zCo]
 have hrow2:=zM9 (T:=zA6) (h:=h36) (n:=9) (zD1 wx') hx'.one
 have kq:Keep zAK h36 (h36.push (.cells (pvC x').toArray zA6 (0,0))):=Keep.push
 have sq:(h36.push (.cells (pvC x').toArray zA6 (0,0))).size=h36.size+1:=by simp
 generalize h36.push (.cells (pvC x').toArray zA6 (0,0))=h37 at *
 have k3237:=k3236.trans kq
 have c37:=c32.fresh k3237
 refine c37.addS (((hx'.keep k3436 λ_ _=>id).keep kq λ_ _=>id).mono λb hb=>Own.new c32.n (by omega) (by omega)) hrow2 (by omega) λh39 col2 s' c39 k39=>?_
 refine hk25 _ ⟨col2,s',t',ad++[x'],af++[y],c39,haf',?_,(k732.trans (k3237.mono λ_ _ h=>h.elim)).trans (c37.coarse k39)⟩
 rw[zJh hgh,hj,zAF,zAF,had]
 simp[hpk]
end Go.Proofs.YticdfkoncnnmmaaGreatDoor
namespace Go.X
def zAd8 (P:Program)(T ty:TypeId)(n sz:Nat)(t0 t1 t2:Value)(H:zAx)(R:zAm):Prop :=
 Mpu (lenV t0) λt12=>Mpu (slS n t0 (some t1) (some t2) (some t12)) λ_=>Mpu (zAB .no .eql t1 t2) λt16=>Mcd t16 (R t0 H) (
  Mpu (lenV t0) λt19=>Mpu (slS n t0 none (some t1) none) λt22=>Mpu (slS n t0 (some t2) none none) λt25=>zIw T n sz H t22 t25 λt26 h1 =>
  Mpu (lenV t26) λt29=>Mpu (slS n t26 (some t29) (some t19) none) λt31=>zQx P (Builtin.clear_ #[ty] 0 #[t31]) h1 λ_ h2=>R t26 h2)
end Go.X
namespace Go.Proofs.YticdfkoncnnmmaaGreatDoor
open Go.X Go.X.Diff Go.MapKept
theorem zAi6 {H:zAx}{b o cap:Nat}{z:List Value}{cs:Array Value}{T Te ty:TypeId}{f:Nat×Nat}{k:zAm}(hu:prg.underlying ty=some (.slice Te))(hz:zBI prg Te=some z.toArray)(hz1:(Builtin.zeroCells z.toArray 1).toList=z)(hzo:∀ c∈z,c.oneCell'=true)
  (hb:H[b]? = some (.cells cs T f)) (ho:o+z.length<=cs.size) (ht:∀ i n,zUV f i n=true)
  (hk:k (.tuple #[]) (H.setIfInBounds b (.cells (spl cs o z.toArray) T f))):zQx prg (Builtin.clear_ #[ty] 0 #[.slice (some ⟨b,o,none⟩) 1 cap]) H k:=by
 intro w hwH
 obtain⟨y,hy,hyc⟩:=zAeB (P:=prg) (w:=w) hz
 have hst0:=zQM hb o z.toArray (ht _ _) (by simpa using ho) (zVw hzo)
 have hrun:=zV0 (P:=prg) (w:=w) (by rw[hwH];exact hst0)
 have hzl:(Builtin.zeroCells y.cells 1).toList=z.toArray.toList:=by rw[hyc,hz1]
 refine⟨.tuple #[],{ w with heap:=H.setIfInBounds b (.cells (spl cs o z.toArray) T f) },?_,⟨rfl,rfl,rfl,?_⟩,hk⟩
 ·have hrun':=hrun
  rw[<- hzl]at hrun'
  simp[Builtin.clear_,zCI hu,hy,hrun']
 ·rw[hwH];exact zF5.set hb
theorem zAkY {A B:List Value}{n:Nat}(h:A.length=n):(A++B).take n=A:=by rw[<- h,List.take_left]
theorem zAf3 {n sz:Nat}{T Te ty:TypeId}{z:List Value}{F:zA1}{H:zAx}{v:Value}{xs:List (List Value)}{i:Nat}(hn:0<n)(hu:prg.underlying ty=some (.slice Te))(hz:zBI prg Te=some z.toArray)(hzl:z.length=n)(hz1:(Builtin.zeroCells z.toArray 1).toList=z)(hzo:∀ c∈z,c.oneCell'=true)
  (h:BufE n F H v xs) (hi:i<xs.length) (hl:xs.length<=1000000) :
  zAd8 prg T ty n sz v (.int .i64 (i:Nat)) (.int .i64 ((i+1:Nat):Int)) H λu H'=>BufE n F H' u (xs.take i++xs.drop (i+1))/\Keep F H H':=by
 unfold zAd8
 have hsl:=h.sl
 have lv:=hsl.len
 have hne:xs≠[]:=λe=>by rw[e]at hi;cases hi
 obtain⟨t25,e25,hs25⟩:=hsl.cut hne (lo:=i+1) (hi:=xs.length) (by omega) (zAh _) (l:=some (.int .i64 ((i+1:Nat):Int))) (r:=none) (by simp only[bnd];rw[if_pos (by omega)];rfl) (λc hc=>rfl)
 rw[zBE]at hs25
 obtain⟨g1,g2,h0|⟨b,o,c,cs,T',f,rfl,hf,hc,hb,hle,ht,hcells⟩⟩:=h
 ·exact absurd h0.2 hne
 have hcs:cs.toList.length=cs.size:=by simp
 have fl:=zI1 g1
 have m1:xs.length*n<=c*n:=zBq n hc
 have m2:(i+1)*n<=xs.length*n:=zBq n hi
 have m3:(i+1)*n=i*n+n:=zCF i n
 have m4:(xs.length-1)*n+n=xs.length*n:=by rw[<- zCF];congr 1;omega
 have m5:i*n+(xs.length-(i+1))*n=(xs.length-1)*n:=by rw[<- Nat.add_mul];congr 1;omega
 have x13:∃ t13,slS n (.slice (some ⟨b,o,none⟩) xs.length c) (some (.int .i64 (i:Nat))) (some (.int .i64 ((i+1:Nat):Int))) (some (.int .i64 (xs.length:Nat)))=some t13:=by
  have hbn:zNp xs.length c (some (.int .i64 (i:Nat))) (some (.int .i64 ((i+1:Nat):Int))) (some (.int .i64 (xs.length:Nat)))=some (i,i+1,xs.length):=by
   simp only[zNp,bnd]
   rw[if_pos (by omega)]
   simp only[zAZ,zCS]
   rw[if_pos (by omega)]
   simp only[zAZ,zCS]
   rw[if_pos (by omega)];rfl
  exact⟨.slice (some ⟨b,if xs.length=i then o else o+i*n,none⟩) (i+1-i) (xs.length-i),by simp only[slS];rw[hbn];rfl⟩
 obtain⟨t13,e13⟩:=x13
 have e22:slS n (.slice (some ⟨b,o,none⟩) xs.length c) none (some (.int .i64 (i:Nat))) none=some (.slice (some ⟨b,o,none⟩) i c):=by
  have hbn:zNp xs.length c none (some (.int .i64 (i:Nat))) none=some (0,i,c):=by
   simp only[zNp,bnd,zAZ]
   rw[if_pos (by omega)];rfl
  simp only[slS];rw[hbn];simp
 have eil:zAB .no .eql (.int .i64 (i:Nat)) (.int .i64 ((i+1:Nat):Int))=some (.bool false):=by rw[zAjz,decide_eq_false (by omega)]
 rw[lv,zAa,e13,zAa,eil,zAa,zAl,if_neg (by decide),zAa,e22,zAa,e25,zAa]
 have hel:=hs25.elems
 have hal:=hs25.all
 have hdl:(xs.drop (i+1)).length=xs.length-(i+1):=by rw[zC1]
 have hdf:(xs.drop (i+1)).flatten.length=(xs.length-(i+1))*n:=by rw[zI1 (λx hx=>g1 x (List.mem_of_mem_drop hx)),hdl]
 rw[hdl]at hel
 refine⟨some ⟨b,o,none⟩,i,c,xs.length-(i+1),_,rfl,hel,hal,λh0=>?_,λh0=>by omega⟩
 have hsz:o+i*n+(xs.drop (i+1)).flatten.toArray.size<=cs.size:=by simp only[zB7,hdf];omega
 refine⟨_,zQM hb _ _ (ht _ _) hsz hal,?_⟩
 generalize hcs1:spl cs (o+i*n) (xs.drop (i+1)).flatten.toArray=cs1
 have sz1:cs1.size=cs.size:=by rw[<- hcs1];exact zI0 hsz
 generalize hH1:H.setIfInBounds b (.cells cs1 T' f)=H1
 have hb1:H1[b]? = some (.cells cs1 T' f):=by rw[<- hH1];exact zBm hb
 have kk1:Keep F H H1:=by rw[<- hH1];exact Keep.set hf
 have hc1:(cs1.toList.drop o).take ((xs.length-1)*n)=(xs.take i++xs.drop (i+1)).flatten:=by
  rw[<- hcs1]
  unfold spl
  show((List.take (o+i*n) cs.toList++(xs.drop (i+1)).flatten++_).drop o).take _=_
  rw[zBg,zCc (by rw[zA4];omega),zCz,zCK]
  have e1:(cs.toList.drop o).take (i*n)=(xs.take i).flatten:=by
   have:=congrArg (List.take (i*n)) hcells
   rw[zDf,zBN (by omega),<- zUa g1]at this
   exact this
  have e2:(xs.take i).flatten.length=i*n:=by rw[<- e1,zA4,zC1];omega
  rw[e1,<- zBg,zBr]
  exact zAkY (by rw[zAt,e2,hdf];exact m5)
 have l26:lenV (.slice (some ⟨b,o,none⟩) (i+(xs.length-(i+1))) c)=some (.int .i64 ((xs.length-1:Nat):Int)):=by
  rw[show i+(xs.length-(i+1))=xs.length-1 by omega];rfl
 have e31:slS n (.slice (some ⟨b,o,none⟩) (i+(xs.length-(i+1))) c) (some (.int .i64 ((xs.length-1:Nat):Int))) (some (.int .i64 (xs.length:Nat))) none=some (.slice (some ⟨b,o+(xs.length-1)*n,none⟩) 1 (c-(xs.length-1))):=by
  have hbn:zNp (i+(xs.length-(i+1))) c (some (.int .i64 ((xs.length-1:Nat):Int))) (some (.int .i64 (xs.length:Nat))) none=some (xs.length-1,xs.length,c):=by
   simp only[zNp,bnd,zAZ]
   rw[if_pos (by omega)]
   simp only[zAZ,zCS]
   rw[if_pos (by omega)];rfl
  simp only[slS];rw[hbn]
  simp only[Option.isSome_none,zA2,zAb,if_false,zAZ]
  rw[if_neg (by omega),show xs.length-(xs.length-1)=1 by omega]
 show Mpu (lenV (.slice (some ⟨b,o,none⟩) (i+(xs.length-(i+1))) c)) _
 rw[l26,zAa,e31,zAa]
 refine zAi6 hu hz hz1 hzo hb1 (by rw[hzl];omega) ht ?_
 have hsz2:o+(xs.length-1)*n+z.toArray.size<=cs1.size:=by rw[zB7,hzl];omega
 have hln:(xs.take i++xs.drop (i+1)).length=xs.length-1:=by rw[zAt,zA4,zC1];omega
 have hsub:∀ x∈xs.take i++xs.drop (i+1),x∈xs:=λx hx=>(zAp.1 hx).elim zBw List.mem_of_mem_drop
 refine⟨⟨λx hx=>g1 x (hsub x hx),λx hx=>g2 x (hsub x hx),.inr ⟨b,o,c,spl cs1 (o+(xs.length-1)*n) z.toArray,T',f,?_,hf,?_,zBm hb1,?_,ht,?_⟩⟩,kk1.trans (Keep.set hf)⟩
 ·rw[hln];congr 1;omega
 ·rw[hln];omega
 ·rw[zI0 hsz2,sz1];exact hle
 ·rw[hln,<- hc1]
  unfold spl
  have hcs1l:cs1.toList.length=cs1.size:=by simp
  show((List.take (o+(xs.length-1)*n) cs1.toList++_++_).drop o).take _=_
  rw[zBg,zCc (by rw[zA4];omega),zCz,zCK]
  exact zAkY (by rw[zA4,zC1];omega)
theorem zAi7:prg.underlying zDu=some (.slice zAe):=by kernel_rfl
theorem zAkZ:∀ c∈zGN ⟨[],zEc,[],[],[]⟩ zCn zCn zCn,c.oneCell'=true:=λc hc=>by
 simp[zGN,zEm,zEc,zCn,zCm]at hc
 rcases hc with rfl|rfl|rfl|rfl<;>rfl
theorem zZr {F:zA1}{H:zAx}{v:Value}{xs:List (List Value)}{i:Nat}(h:BufE 8 F H v xs)(hi:i<xs.length)(hl:xs.length<=1000000) :
  zAA prg zCW [v,.int .i64 (i:Nat),.int .i64 ((i+1:Nat):Int)] H λu H'=>BufE 8 F H' u (xs.take i++xs.drop (i+1))/\Keep F H H':=by
 apply zEH
 exact zAf3 (T:=zAe) (ty:=zDu) (sz:=128) (by omega) zAi7 zL8 (zBB zOr) (by kernel_rfl) zAkZ h hi hl
def zAms (kind:Int)(inst:List Man)(l:List Pk)(a:zSe)(H H':zAx)(u:Value):Prop :=
 ((zC0 inst&&zRo a)=false/\u = .tuple #[.agg (chC 0 zCn zCn zCn).toArray,.int .i64 10]) \/
 ((zC0 inst&&zRo a)=true/\((inst.find? (λm=>decide (m.name=a.name))).isSome=true/\u = .tuple #[.agg (chC 0 zCn zCn zCn).toArray,.int .i64 44] \/
  (inst.find? (λm=>decide (m.name=a.name)))=none/\let hv:=zDN inst l;let ws:=zTs inst a.name a.want
   ((zIV hv ws a.bound=false/\u = .tuple #[.agg (chC 0 zCn zCn zCn).toArray,.int .i64 10]) \/
   (zIV hv ws a.bound=true/\∃ (r:Res) (s:Nat),Run hv a.bound.toNat (.sol [] ws) 0 r s/\match r with
    | .ok ks=>zP7 kind inst l ((zG8 hv ks).map (gM hv)) H H' u
    | .fail=>u = .tuple #[.agg (chC 0 zCn zCn zCn).toArray,.int .i64 40]
    | .over=>u = .tuple #[.agg (chC 0 zCn zCn zCn).toArray,.int .i64 42]))))
theorem zP7.up {kind:Int}{inst goal:List Man}{l:List Pk}{H0 H H':zAx}{u:Value}(h:zP7 kind inst l goal H H' u)(hs:H0.size<=H.size):zP7 kind inst l goal H0 H' u:=by
 rcases h with h|⟨h1,n0,z,col,d,s,t,dr,ad,af,h2,h3,h4⟩
 ·exact .inl h
 ·exact .inr ⟨h1,n0,z,col,d,s,t,dr,ad,af,h2,by omega,h4⟩
theorem zAd9 {p:Man->Bool}{mv:List MV}:(zUT (λx:MV=>p x.1) mv 0 = -1/\(zCi mv).find? p=none)\/∃ (i:Nat) (y:MV),zUT (λx:MV=>p x.1) mv 0=(i:Int)/\mv[i]? = some y/\(zCi mv).find? p=some y.1:=by
 have e:(zCi mv).find? p=(mv.find? λx:MV=>p x.1).map (·.1):=zSd
 rcases zTK (p:=λx:MV=>p x.1) (l:=mv) with ⟨h1,h2⟩|⟨i,y,h1,h2,h3⟩
 ·exact .inl ⟨h1,by rw[e,h2];rfl⟩
 ·exact .inr ⟨i,y,h1,h2,by rw[e,h3];rfl⟩
theorem zAf4 {goal:List MV}{hv:List Man}{ks:List Nat}(h:zCi goal=ks.map (gM hv))(hr:zAeu hv ks):zUI goal:=by
 have h1:(zCi goal).Pairwise λa b=>zJH a.name b.name<0:=by rw[h];exact zBu.2 hr
 exact zBu.1 h1
def zAaP (inst:List Man)(nm:List UInt8):Bool:=(inst.find? λm=>decide (m.name=nm)).isSome
def zUK (inst:List Man)(a:zSe):zTn:=if a.kind=2 then (match inst.find? (λm=>decide (m.name=a.name)) with|some o=>⟨[62],o.ver⟩|none=>a.want) else a.want
def zSh (inst:List Man)(a:zSe):Prop:=a.kind≠3/\(a.kind=1->zAaP inst a.name=false)/\(a.kind≠1->zAaP inst a.name=true)
def zZs (inst:List Man)(l:List Pk)(a:zSe):Bool:=zIV (zDN inst l) (zTs inst a.name (zUK inst a)) a.bound
def zAf5 (inst:List Man)(l:List Pk)(a:zSe)(r:Res):Prop:=∃ s,Run (zDN inst l) a.bound.toNat (.sol [] (zTs inst a.name (zUK inst a))) 0 r s
def zAf6 (inst:List Man)(l:List Pk)(a:zSe)(e:Int):Prop :=
 ((zC0 inst&&zRo a)=false/\e=10)\/((zC0 inst&&zRo a)=true/\(
  (a.kind=1/\zAaP inst a.name=true/\e=44)\/(a.kind≠1/\zAaP inst a.name=false/\e=14)\/(a.kind=3/\zAaP inst a.name=true/\zUD inst a.name=true/\e=43) \/
  (zSh inst a/\(zZs inst l a=false/\e=10\/zZs inst l a=true/\(zAf5 inst l a .fail/\e=40\/zAf5 inst l a .over/\e=42)))))
def zS4 (inst:List Man)(l:List Pk)(a:zSe)(goal:List Man):Prop :=
 (zC0 inst&&zRo a)=true/\((a.kind=3/\zAaP inst a.name=true/\zUD inst a.name=false/\goal=inst.filter λm=>!decide (m.name=a.name)) \/
  (zSh inst a/\zZs inst l a=true/\∃ ks,zAf5 inst l a (.ok ks)/\zKg (zDN inst l) ks/\goal=(zG8 (zDN inst l) ks).map (gM (zDN inst l))))
def zAlA (e:Int):Value := .tuple #[.agg (chC 0 zCn zCn zCn).toArray,.int .i64 e]
def zAf7 (inst:List Man)(l:List Pk)(a:zSe)(H H':zAx)(u:Value):Prop:=(∃ e,zAf6 inst l a e/\u=zAlA e)\/∃ goal,zS4 inst l a goal/\zP7 a.kind inst l goal H H' u
theorem zVO {nm:List UInt8}:∀ {l:List Man} {i:Nat} {m:Man},(l.map (·.name)).Nodup->l[i]? = some m->m.name=nm->l.take i++l.drop (i+1)=l.filter λm=>!decide (m.name=nm)
 | [],_,_,_,h,_=>by simp at h
 | x::l,0,m,hn,h,e=>by
  simp at h;subst h
  rw[zA0,zCP]at hn
  have:∀ y∈l,(!decide (y.name=nm))=true:=λy hy=>by
   have:y.name≠nm:=λe2=>hn.1 (zAo.2 ⟨y,hy,by rw[e2,e]⟩)
   simp[this]
  rw[zCd,if_neg (by simp[e]),List.filter_eq_self.2 this];rfl
 | x::l,i+1,m,hn,h,e=>by
  rw[zA0,zCP]at hn
  have h':l[i]? = some m:=by simpa using h
  have hx:x.name≠nm:=λe2=>hn.1 (zAo.2 ⟨m,zAC h',by rw[e,e2]⟩)
  rw[zCd,if_pos (by simp[hx]),<- zVO hn.2 h' e];rfl
theorem zAbH {a:zSe}(h:zRo a=true):1<=a.kind/\a.kind<=3:=by
 unfold zRo at h
 simp only[zAk,decide_eq_true_eq]at h
 omega
theorem ltZ {x:Int}:zAB .no .lss (.int .i64 x) (.int .i64 0)=some (.bool (decide (x<0))):=by rw[zAJ];rfl
theorem geZ {x:Int}:zAB .no .geq (.int .i64 x) (.int .i64 0)=some (.bool (decide (x>=0))):=by rw[zAJ];rfl
theorem zAmt:∀ {l:List Man} {ps:List (List UInt8)} {of:zTr},zW2 ps of l=0->(l.map (·.name)).Nodup/\∀ m∈l,m.name∉ps
 | [],_,_,_=>⟨List.nodup_nil,λm h=>by cases h⟩
 | x::l,ps,of,h=>by
  rw[zW2]at h
  by_cases h0:zHG ps of x=0
  ·rw[if_pos h0]at h
   obtain⟨h1,h2⟩:=zAmt h
   refine⟨?_,λm hm=>?_⟩
   ·rw[zA0,zCP]
    refine⟨λhx=>?_,h1⟩
    obtain⟨y,hy,e⟩:=zAo.1 hx
    exact h2 y hy (by rw[e];simp)
   ·rcases zAs.1 hm with rfl|hm
    ·exact(zAaD h0).2.1
    ·exact λhp=>h2 m hm (by simp[hp])
  ·rw[if_neg h0]at h;exact absurd h h0
theorem zYg {l:List Man}(h:zC0 l=true):(l.map (·.name)).Nodup:=by
 unfold zC0 at h
 rw[zAk]at h
 exact(zAmt (of_decide_eq_true h.1)).1
theorem zAea {α β:Type}{f:α->β}{l:List α}{i:Nat}:(l.take i++l.drop (i+1)).map f=(l.map f).take i++(l.map f).drop (i+1):=by rw[zAF,zCD,List.map_drop]
theorem zZt {mv:List MV}(h:zAi1 (zCi mv)=true)(hn:((zCi mv).map (·.name)).Nodup):zUI mv:=by
 have hn':=zBH.1 (zBu.1 hn)
 have hl:(zCi mv).length=mv.length:=by simp
 have hu:=zAw.1 h
 have gm:∀ {i:Nat} (hi:i<mv.length),gM (zCi mv) i=mv[i].1:=λ{i} hi=>zZc (zAj hi)
 have hne:∀ i j (hi:i<mv.length) (hj:j<mv.length),i<j->zJH mv[i].1.name mv[j].1.name≠0:=λi j hi hj hij e=>by
  have:=hn' i j (by omega) (by omega) hij
  simp only[List.getElem_map]at this
  exact this ((zFb.zero _ _).1 e)
 have step:∀ i (hi:i+1<mv.length),zJH mv[i].1.name mv[i+1].1.name<=0:=λi hi=>by
  have:=hu (i+1) (zBC.2 (by omega))
  unfold zS1 at this
  rw[show i+1-1=i from rfl,gm hi,gm (by omega:i<mv.length)]at this
  have ht:=zFb.turn mv[i].1.name mv[i+1].1.name
  simp at this
  omega
 have far:∀ d i (hi:i+d+1<mv.length),zJH (mv[i]'(by omega)).1.name mv[i+d+1].1.name<=0:=λd=>by
  induction d with
  | zero=>exact λi hi=>step i hi
  | succ d ih=>exact λi hi=>zFb.trans (ih i (by omega)) (step (i+d+1) hi)
 unfold zUI
 rw[zBH]
 intro i j hi hj hij
 have h1:=far (j-i-1) i (by omega)
 have e:i+(j-i-1)+1=j:=by omega
 simp only[e]at h1
 have:=hne i j hi hj hij
 omega
set_option maxHeartbeats 4000000 in
theorem zAk0 {P R:zA1}{p:Nat}{l:List Pk}{H:zAx}{v:Value}{mv:List MV}{a:zSe}(hp:zLB P H v mv)(q:zPr R p l H)(hP:∀ b,P b->b<H.size)(ha:a.wf)(hl:mv.length+l.length<=40)(hO:zQW H)(hNG:NG<=H.size) :
  zAA prg zOw [v,Ptr p 0,.agg (zVN a).toArray] H λu H'=>zAf7 (zCi mv) l a H H' u/\Keep No H H':=by
 apply zRM
 unfold zTi
 simp only[zB8,zSf,zUJ,zBb,zBf,zAi,zAu,zAa]
 generalize hH1:H.push (.cells (zVN a).toArray zJj (0,0))=h1
 have k1:Keep No H h1:=by rw[<- hH1];exact Keep.push
 have a1:At h1 H.size (zVN a):=by rw[<- hH1];exact At.push
 have s1:h1.size=H.size+1:=by rw[<- hH1];simp
 generalize hH2:h1.push (.cells (chC 0 zCn zCn zCn).toArray zBQ (0,0))=h2
 have k2:Keep No h1 h2:=by rw[<- hH2];exact Keep.push
 have a2:At h2 h1.size (chC 0 zCn zCn zCn):=by rw[<- hH2];exact At.push
 have s2:h2.size=h1.size+1:=by rw[<- hH2];simp
 have k02:=k1.trans k2
 have a12:=a1.keep k2 id
 have hR:∀ b,R b->b<H.size:=by obtain⟨_,_,_,_,_,_,_,_,_,_,_,h⟩:=q;exact h
 have zone:∀ c∈chC 0 zCn zCn zCn,c.oneCell'=true:=zOV rfl rfl rfl
 have err:∀ (h:zAx) (e:Int),Keep No h2 h->zAf6 (zCi mv) l a e ->
   Mwr (stN 4 h (Ptr h1.size 0) (.agg (chC 0 zCn zCn zCn).toArray)) λh7=>Mpu (ldN 4 h7 (Ptr h1.size 0)) λr8=>zAf7 (zCi mv) l a H h7 (.tuple #[r8,.int .i64 e])/\Keep No H h7:=λh e k he=>by
  obtain⟨h7,st7,a7,k7⟩:=(a2.keep k id).st (n:=4) (ds:=chC 0 zCn zCn zCn) rfl rfl zone
  rw[st7,zAW,a7.ldN (n:=4) rfl,zAa]
  exact⟨.inl ⟨e,he,rfl⟩,(k02.trans k).fresh k7 λb e=>by omega⟩
 have x0:∀ a b:Value,zE0 0 (.tuple #[a,b])=some a:=λ_ _=>rfl
 have x1:∀ a b:Value,zE0 1 (.tuple #[a,b])=some b:=λ_ _=>rfl
 have fin:∀ (hc h:zAx) (u:Value) (goal:List Man),zS4 (zCi mv) l a goal->zP7 a.kind (zCi mv) l goal hc h u->h1.size<hc.size->At h h1.size (chC 0 zCn zCn zCn)->Keep No H h ->
   Mpu (zE0 0 u) λt71=>Mpu (zE0 1 u) λt72=>Mwr (stN 4 h (Ptr h1.size 0) t71) λh30=>Mpu (ldN 4 h30 (Ptr h1.size 0)) λr=>zAf7 (zCi mv) l a H h30 (.tuple #[r,t72])/\Keep No H h30:=λhc h u goal hg hcr hs ac kc=>by
  rcases hcr with ⟨c1,rfl⟩|⟨c1,n0,z,col,d,s',t',dr,ad,af,rfl,c3,c4,c5⟩
  ·rw[x0,zAa,x1,zAa]
   obtain⟨h37,st37,a37,k37⟩:=ac.st (n:=4) (ds:=chC 0 zCn zCn zCn) rfl rfl zone
   rw[st37,zAW,a37.ldN (n:=4) rfl,zAa]
   exact⟨.inr ⟨goal,hg,.inl ⟨c1,rfl⟩⟩,kc.fresh k37 λb e=>by omega⟩
  ·rw[x0,zAa,x1,zAa]
   obtain⟨h37,st37,a37,k37⟩:=ac.st (n:=4) (ds:=chC a.kind d s' t') rfl rfl (zOV c4.bd.sl.oneC c4.bs.sl.oneC c4.bt.sl.oneC)
   rw[st37,zAW,a37.ldN (n:=4) rfl,zAa]
   exact⟨.inr ⟨goal,hg,.inr ⟨c1,n0,z,_,d,s',t',dr,ad,af,rfl,by omega,c4.low k37 λb e => .inl (by have:=c4.zl;omega),c5⟩⟩,kc.fresh k37 λb e=>by omega⟩
 refine zAI (zRl (hp.keep k02 λ_ _=>id) (λb hb=>by have:=hP b hb;omega) (by omega) (hO.keep k02 λ_ h=>h.elim)) ?_
 rintro _ h3 ⟨rfl,k3⟩
 have a13:=a12.keep k3 id
 rw[zA7,zAa]
 refine zWO (λe=>zNn rfl (err _ 10 k3 (.inl ⟨by rw[Bool.and_eq_false_iff];left;simpa using e,rfl⟩))) λhr=>?_
 have hr:zC0 (zCi mv)=true:=by simpa using hr
 rw[a13.ldN (zAaN ha),zAa]
 refine zAI (zAbG ha (hO.keep (k02.trans k3) λ_ h=>h.elim)) ?_
 rintro _ h5 ⟨rfl,k5⟩
 have k25:=k3.trans k5
 have a15:=a13.keep k5 id
 rw[zA7,zAa]
 refine zRn (λe=>err _ 10 k25 (.inl ⟨by rw[Bool.and_eq_false_iff];right;simpa using e,rfl⟩)) λhao=>?_
 have hao:zRo a=true:=by simpa using hao
 have good:(zC0 (zCi mv)&&zRo a)=true:=by rw[hr,hao];rfl
 obtain⟨kd1,kd2⟩:=zAbH hao
 rw[zTN a15,zAa]
 refine zAI (zAd0 (hp.keep (k02.trans k25) λ_ _=>id) (by omega)) ?_
 rintro _ h9 ⟨rfl,k9⟩
 have k29:=k25.trans k9
 have a19:=a15.keep k9 id
 rw[zAaO a19 ha,zAa]
 refine zAkT (z:=zFC zWx) zAkg (zGM zTE) (zGM ha.want) zUs λh11 a11 k11=>?_
 have k211:=k29.trans k11
 have a111:=a19.keep k11 id
 have dk:=zOU a111
 have g29:=k29.1
 have g211:=k211.1
 have hqn:h9.size≠h1.size:=by omega
 refine J3_i (λ_ _ _ h=>zSh (zCi mv) a/\At h h9.size (zFC (zUK (zCi mv) a))/\Keep No h9 h) (λk12 hk12=>?_) ?_
 ·refine zBP dk (zBP eqI (zLZ (λe1=>?_) λe1=>?_))
  ·have e1:=of_decide_eq_true e1
   have hw:zUK (zCi mv) a=a.want:=by unfold zUK;rw[if_neg (by omega)]
   rcases zAd9 (p:=λm=>decide (m.name=a.name)) (mv:=mv) with ⟨i1,i2⟩|⟨i,y,i1,i2,i3⟩
   ·refine zBP geZ (zNX (by rw[i1];rfl) (zBP dk (zBP neI (zLZ (λe=>absurd e (by simp[e1])) λ_=>zNX rfl ?_))))
    refine zBP dk (zBP eqI (zLZ (λe=>absurd e (by simp[e1])) λ_=>zNX rfl ?_))
    refine zBP dk (zBP eqI (zNX (by simp[e1]) (zBP dk (zBP eqI (zNX (by simp[e1]) (hk12 _ _ _ _ ⟨⟨by omega,λ_=>by unfold zAaP;rw[i2];rfl,λh=>absurd e1 h⟩,by rw[hw];exact a11,k11⟩))))))
   ·exact zBP geZ (zNn (by rw[i1];simp) (err _ 44 k211 (.inr ⟨good,.inl ⟨e1,by unfold zAaP;rw[i3];rfl,rfl⟩⟩)))
  ·have e1:a.kind≠1:=of_decide_eq_false e1
   refine zNX rfl (zBP dk (zBP neI (zLZ (λ_=>?_) λe=>absurd e (by simp[e1]))))
   rcases zAd9 (p:=λm=>decide (m.name=a.name)) (mv:=mv) with ⟨i1,i2⟩|⟨i,y,i1,i2,i3⟩
   ·exact zBP ltZ (zNn (by rw[i1];rfl) (err _ 14 k211 (.inr ⟨good,.inr (.inl ⟨e1,by unfold zAaP;rw[i2];rfl,rfl⟩)⟩)))
   have hh:zAaP (zCi mv) a.name=true:=by unfold zAaP;rw[i3];rfl
   have hil:=(zAV.1 i2).1
   have hyn:y.1.name=a.name:=by have:=List.find?_some i3;simpa using this
   refine zBP ltZ (zNX (by rw[i1];simp) (zBP dk (zBP eqI (zLZ (λe3=>?_) λe3=>zNX rfl ?_))))
   ·have e3:=of_decide_eq_true e3
    rw[zTN a111,zAa]
    refine zAI (zAfX (hp.keep (k02.trans k211) λ_ _=>id) (by omega)) ?_
    rintro _ h23 ⟨rfl,k23⟩
    have k223:=k211.trans k23
    refine zRn (λe=>err _ 43 k223 (.inr ⟨good,.inr (.inr (.inl ⟨e3,hh,e,rfl⟩))⟩)) λhnd=>?_
    have a123:=a111.keep k23 id
    have dk23:=zOU a123
    have k023:=k02.trans k223
    have ei:zAB .no .add (.int .i64 (zUT (λx:MV=>decide (x.1.name=a.name)) mv 0)) (.int .i64 1)=some (.int .i64 ((i+1:Nat):Int)):=by rw[i1];exact zBV (by omega)
    refine zBP dk23 (zBP eqI (zNn (by simp[e3]) (zBP dk23 (zBP ei ?_))))
    have hcl:=(hp.keep k023 λ_ _=>id).h
    refine zAI (zVK hcl (by simp;omega)) ?_
    rintro t65 h27 ⟨b27,k27⟩
    have a127:=a123.keep k27 id
    rw[zOU a127,zBp,zA8,i1]
    have k027:=k023.trans k27
    have g27:=k27.1
    refine zAI (zZr b27 (by simpa using hil) (by simp;omega)) ?_
    rintro t69 h28 ⟨b28,k28⟩
    have kw:∀ b,(h23.size<=b/\b<h27.size)->¬ b<H.size:=λb hb=>by have:=k023.1;omega
    have k028:Keep No H h28:=k027.fresh k28 λb hb=>by have:=k023.1;omega
    have a128:At h28 H.size (zVN a):=a127.keep k28 λhb=>by have:=a123.lt;omega
    rw[zOU a128,zBp,zA8]
    have hsub:∀ x∈mv.take i++mv.drop (i+1),x∈mv:=λx hx=>(zAp.1 hx).elim zBw List.mem_of_mem_drop
    rw[<- zAea]at b28
    have g028:=k028.1
    have g023:=k023.1
    have hpo:zUI mv:=zZt (by unfold zC0 at hr;rw[zAk]at hr;exact hr.2) (zYg hr)
    have hrm:zUI (mv.take i++mv.drop (i+1)):=by
     unfold zUI at *
     refine hpo.sublist ?_
     have h1:List.Sublist (mv.drop (i+1)) (mv.drop i):=by rw[<- zCy];exact List.drop_sublist _ _
     have h2:=(List.Sublist.refl (mv.take i)).append h1
     rwa [zBl]at h2
    have hp28:=hp.keep k028 λ_ _=>id
    refine zAI (zWR (kind:=a.kind) (PG:=P) hp28 (q.keep k028 λ_ _=>id) b28 (λx hx=>hp28.m x (hsub x hx)) (λx hx=>hp28.sm x (hsub x hx)) (λx hx=>by have:=zSg hr x.1 (zAo.2 ⟨x,hx,rfl⟩);omega) hrm
     (λb hb=>by
      have hbl:b<H.size:=hb.elim (hP b) λhb=>hb.elim (hR b) (hP b)
      exact⟨by omega,λhf=>by omega⟩)
     (λb hb=>by have:=k28.1;omega) (by omega) (by simp;omega) (by omega) (hO.keep k028 λ_ h=>h.elim) λh k=>(hO.keep k028 λ_ h=>h.elim).keep k λb hb=>by omega) ?_
    rintro u h36 ⟨hcr,k36⟩
    have hgl:zCi (mv.take i++mv.drop (i+1))=(zCi mv).filter λm=>!decide (m.name=a.name):=by
     show List.map _ _=_
     rw[zAea]
     exact zVO (zYg hr) (by rw[zAq,i2];rfl) hyn
    rw[hgl]at hcr
    have a223:=a2.keep k223 id
    have a228:At h28 h1.size (chC 0 zCn zCn zCn):=(a223.keep k27 id).keep k28 λhb=>by have:=a223.lt;omega
    refine fin h28 h36 u _ ⟨good,.inl ⟨e3,hh,hnd,rfl⟩⟩ hcr a228.lt (a228.keep k36 λhb=>by have:=a223.lt;omega) (k028.fresh k36 λb hb=>by omega)
   ·have e3:a.kind≠3:=of_decide_eq_false e3
    have e2:a.kind=2:=by omega
    obtain⟨hmy,b,o,hix,hpt,_⟩:=(hp.keep (k02.trans k211) λ_ _=>id).at i2
    have wy:=hmy.wf
    have hw:zUK (zCi mv) a=⟨[62],y.1.ver⟩:=by unfold zUK;rw[if_pos e2,i3]
    refine zBP dk (zBP eqI (zNX (by simp[e3]) (zBP dk (zBP eqI (zNn (by simp[e2]) ?_)))))
    rw[i1,hix .i64,zAa,zBf,zAa,zXY hpt wy,zAa]
    refine zBP (zAd3 (op:=[62]) wy.ver) ?_
    obtain⟨h32,st32,a32,k32⟩:=a11.st (n:=5) (ds:=zFC ⟨[62],y.1.ver⟩) (zGM ha.want) (zGM ⟨wy.ver,by simp⟩) zUs
    refine⟨h32,st32,hk12 _ _ _ _ ⟨⟨e3,λh=>absurd h e1,λ_=>hh⟩,by rw[hw];exact a32,k11.fresh k32 λb e=>by omega⟩⟩
 rintro _ _ _ h13 ⟨hch,a13',k13⟩
 have hww:(zUK (zCi mv) a).wf:=by
  unfold zUK
  split
  ·cases hf:(zCi mv).find? (λm=>decide (m.name=a.name)) with
   | none=>exact ha.want
   | some o =>
    obtain⟨x,hx,rfl⟩:=zAo.1 (zCE hf)
    exact⟨(hp.m x hx).wf.ver,by simp⟩
  ·exact ha.want
 have k213:=k29.trans k13
 have k013:=k02.trans k213
 have g013:=k013.1
 have a113:=a19.keep k13 id
 rw[a113.ldN (zAaN ha),zAa,a13'.ldN (zGM hww),zAa]
 refine zAI (zAfZ (hp.keep k013 λ_ _=>id) (q.keep k013 λ_ _=>id) (λb hb=>by have:=hP b hb;omega) ha hww hl (hO.keep k013 λ_ h=>h.elim)) ?_
 rintro u h33 ⟨hu,k33⟩
 have g33:=k33.1
 have k233:=k213.trans k33
 rcases hu with ⟨hpo,rfl⟩|⟨hpo,r,s,hrun,hu⟩
 ·rw[x0,zAa,x1,zAa]
  exact zBP neI (zNn (by decide) (err _ 10 k233 (.inr ⟨good,.inr (.inr (.inr ⟨hch,.inl ⟨hpo,rfl⟩⟩))⟩)))
 cases r with
 | fail =>
  obtain rfl:=hu
  rw[x0,zAa,x1,zAa]
  exact zBP neI (zNn (by decide) (err _ 40 k233 (.inr ⟨good,.inr (.inr (.inr ⟨hch,.inr ⟨hpo,.inl ⟨⟨s,hrun⟩,rfl⟩⟩⟩))⟩)))
 | over =>
  obtain rfl:=hu
  rw[x0,zAa,x1,zAa]
  exact zBP neI (zNn (by decide) (err _ 42 k233 (.inr ⟨good,.inr (.inr (.inr ⟨hch,.inr ⟨hpo,.inr ⟨⟨s,hrun⟩,rfl⟩⟩⟩))⟩)))
 | ok ks =>
  obtain⟨hns,t,goal,Fg,rfl,hgv,hbg,hFg,hmg,hsg⟩:=hu
  rw[x0,zAa,x1,zAa]
  refine zBP neI (zNX (by decide) (zBP (zOU (a113.keep k33 id)) ?_))
  have k033:=k013.trans k33
  have hthere:(zDN (zCi mv) l).length<=40:=by
   unfold zDN
   have h1:=zBi (zYf (zCi mv)) (l.map (·.1))
   rw[zAd]at h1
   rw[zAt,zAd];omega
  have hgl:goal.length<=40:=by
   have h1:=congrArg List.length hgv
   rw[zAd,zAd]at h1
   have h2:=hns.sorted.len
   omega
  refine zAI (zWR (kind:=a.kind) (hp.keep k033 λ_ _=>id) (q.keep k033 λ_ _=>id) hbg hmg hsg (λx hx=>by have:=zSg hr x.1 (zAo.2 ⟨x,hx,rfl⟩);omega) (zAf4 hgv (zRj hns)) (λb hb=>?_) (λb hb=>(hFg b hb).2) (by omega) (by omega) (by omega) (hO.keep k033 λ_ h=>h.elim) λh k=>(hO.keep k033 λ_ h=>h.elim).keep k λb hb=>by have:=(hFg b hb).1;omega) ?_
  ·rcases hb with hb|hb|hb
   ·have:=hP b hb
    exact⟨by omega,λhf=>by have:=(hFg b hf).1;omega⟩
   ·have:=hR b hb
    exact⟨by omega,λhf=>by have:=(hFg b hf).1;omega⟩
   ·refine⟨?_,hb.2⟩
    rcases hb.1 with h|h|h
    ·have:=hP b h;omega
    ·have:=hR b h;omega
    ·omega
  rintro u h36 ⟨hcr,k36⟩
  rw[hgv]at hcr
  have g013':=k213.1
  exact fin h33 h36 u _ ⟨good,.inr ⟨hch,hpo,ks,⟨s,hrun⟩,hns,rfl⟩⟩ hcr (by omega) ((a2.keep k233 id).keep k36 λhb=>by have:=(hFg _ hb).1;omega) (k033.fresh k36 λb hb=>by have:=(hFg b hb).1;omega)
theorem zAi8 {P R:zA1}{p:Nat}{l:List Pk}{H:zAx}{v:Value}{mv:List MV}{a:zSe}(hp:zLB P H v mv)(q:zPr R p l H)(hP:∀ b,P b->b<H.size)(ha:a.wf)(hk1:a.kind=1)(hl:mv.length+l.length<=40)(hO:zQW H)(hNG:NG<=H.size) :
  zAA prg zOw [v,Ptr p 0,.agg (zVN a).toArray] H λu H'=>zAms 1 (zCi mv) l a H H' u/\Keep No H H':=by
 refine zAA.mono (zAk0 hp q hP ha hl hO hNG) ?_
 rintro u H' ⟨hm,k⟩
 refine⟨?_,k⟩
 have hw:zUK (zCi mv) a=a.want:=by unfold zUK;rw[if_neg (by omega)]
 have hn:∀ {b},zAaP (zCi mv) a.name=b->((zCi mv).find? (λm=>decide (m.name=a.name))).isSome=b:=λh=>h
 have pg:zZs (zCi mv) l a=zIV (zDN (zCi mv) l) (zTs (zCi mv) a.name a.want) a.bound:=by unfold zZs;rw[hw]
 have rg:∀ {r},zAf5 (zCi mv) l a r->∃ s,Run (zDN (zCi mv) l) a.bound.toNat (.sol [] (zTs (zCi mv) a.name a.want)) 0 r s:=λh=>by unfold zAf5 at h;rwa [hw]at h
 rcases hm with ⟨e,he,rfl⟩|⟨goal,⟨good,hg⟩,hc⟩
 ·rcases he with ⟨h1,rfl⟩|⟨good,h⟩
  ·exact .inl ⟨h1,rfl⟩
  refine .inr ⟨good,?_⟩
  rcases h with ⟨_,h2,rfl⟩|⟨h1,_⟩|⟨h1,_⟩|⟨⟨_,h1,_⟩,h2⟩
  ·exact .inl ⟨h2,rfl⟩
  ·exact absurd hk1 h1
  ·omega
  ·have:=hn (h1 hk1)
   refine .inr ⟨by simpa using this,?_⟩
   rw[pg]at h2
   rcases h2 with ⟨h2,rfl⟩|⟨h2,⟨h3,rfl⟩|⟨h3,rfl⟩⟩
   ·exact .inl ⟨h2,rfl⟩
   ·obtain⟨s,h3⟩:=rg h3
    exact .inr ⟨h2,.fail,s,h3,rfl⟩
   ·obtain⟨s,h3⟩:=rg h3
    exact .inr ⟨h2,.over,s,h3,rfl⟩
 ·refine .inr ⟨good,?_⟩
  rcases hg with ⟨h1,_⟩|⟨⟨_,h1,_⟩,h2,ks,h3,h4,rfl⟩
  ·omega
  ·have:=hn (h1 hk1)
   rw[pg]at h2
   obtain⟨s,h3⟩:=rg h3
   rw[hk1]at hc
   exact .inr ⟨by simpa using this,.inr ⟨h2,.ok ks,s,h3,hc⟩⟩
end Go.Proofs.YticdfkoncnnmmaaGreatDoor
