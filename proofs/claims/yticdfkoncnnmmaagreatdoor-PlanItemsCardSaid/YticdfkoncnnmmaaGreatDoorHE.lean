import Derived.Test.YticdfkoncnnmmaaGreatDoorHD
import Derived.Test.YticdfkoncnnmmaaGreatDoorG7
import Derived.Test.YticdfkoncnnmmaaGreatDoorHA
set_option linter.unusedSimpArgs false
set_option linter.unusedVariables false
set_option maxRecDepth 100000
namespace Go.Proofs.YticdfkoncnnmmaaGreatDoor
open Go.X Go.X.Diff Go.MapKept
theorem zAbX:zJT prg zAU=some ([(0,1),(1,1),(2,1),(3,1)],(chC 0 zAY zAY zAY).toArray):=by kernel_rfl
theorem zAbY {n:Int}:zA4 prg zAU [(0,.int .i64 n)]=some (.agg (chC n zAY zAY zAY).toArray):=by rw[zGf zAbX];rfl
theorem zUt:zA4 prg zAU []=some (.agg (chC 0 zAY zAY zAY).toArray):=by kernel_rfl
theorem zS9:zAB prg zAU=some (chC 0 zAY zAY zAY).toArray:=by kernel_rfl
theorem zPE {n:Int}{d s t:Value}(h1:d.oneCell'=true)(h2:s.oneCell'=true)(h3:t.oneCell'=true):∀ c ∈ chC n d s t,c.oneCell'=true:=fun c hc=>by
 simp only[chC,List.mem_cons,List.not_mem_nil,or_false]at hc
 rcases hc with rfl | rfl | rfl | rfl
 ·rfl
 ·exact h1
 ·exact h2
 ·exact h3
def zPk:Pk:=zO2 zPW
def zUu (l:List Pk)(m:Man):Pk:=(l.find? (zLA m.name m.ver)).getD zPk
theorem zAaa:∀ {l:List Man} {ps:List (List UInt8)} {of:zP2},zVt ps of l=0->∀ m ∈ l,zEt m=true
 | [],_,_,_,m,h=>by cases h
 | x :: l,ps,of,h,m,hm=>by
  rw[zVt]at h
  by_cases h0:zFk ps of x=0
  ·rw[if_pos h0]at h
   rcases List.mem_cons.1 hm with rfl | hm
   ·exact(zWC h0).1
   ·exact zAaa h m hm
  ·rw[if_neg h0]at h;exact absurd h h0
theorem zRi {l:List Man}(h:zG5 l=true):∀ m ∈ l,m.files.length<=64:=fun m hm=>by
 unfold zG5 at h
 simp only[Bool.and_eq_true,decide_eq_true_eq]at h
 exact(zKg (zAaa h.1 m hm)).1
def zOg (kind:Int)(inst:List Man)(l:List Pk)(goal:List Man)(H H':zAd)(u:Value):Prop :=
 (zG5 goal=false/\u = .tuple #[.agg (chC 0 zAY zAY zAY).toArray,.int .i64 41]) \/
 (zG5 goal=true/\∃ n0 z col d s t dr ad af,u = .tuple #[.agg (chC kind d s t).toArray,.int .i64 0]/\H.size<=z/\ChI n0 z kind col d s t dr ad af H' /\
  zA7 dr=inst.filter (fun m=>!zOf goal m)/\ad.map zO2=(goal.filter fun m=>!zOf inst m).map (zUu l)/\zA7 af=goal)
theorem zAgn {Q:Nat->Prop}{h:zAd}:PkV Q h zPW:=⟨⟨SlE.nil,SlE.nil,SlE.nil,zMt⟩,⟨SlE.nil,fun x hx=>(by cases hx)⟩,by decide,by decide,by decide,by decide,fun y hy=>(by cases hy)⟩
set_option maxHeartbeats 4000000 in
theorem zWN {P R PG Fg:Nat->Prop}{p:Nat}{l:List Pk}{H:zAd}{v g:Value}{mv goal:List MV}{kind:Int}(hp:zNs P H v mv)(q:zNH R p l H)(hb:BufE 8 Fg H g (goal.map mvC))(hg:∀ x ∈ goal,zJJ PG H x.1 x.2.1 x.2.2.1 x.2.2.2)
  (hgs:∀ x ∈ goal,x.1.deps.length<=1000/\x.1.conf.length<=1000) (hmf:∀ x ∈ mv,x.1.files.length<=1000) (hr:zS8 goal) (hPF:∀ b,P b\/R b\/PG b->b<H.size/\¬ Fg b) (hF:∀ b,Fg b->b<H.size) (hml:mv.length<=1000) (hgl:goal.length<=1000) (hll:l.length<=1000) (hO:zNR H) (hOF:∀ h,Keep Fg H h->zNR h) :
  zAg prg zJu [.int .i64 kind,v,Ptr p 0,g] H fun u H'=>zOg kind (zA7 mv) l (zA7 goal) H H' u/\Keep Fg H H':=by
 apply zNA
 unfold zNM
 simp only[zS9,zAbY,zUt,zAs,zAx,Nat.zero_add,Nat.add_zero,zAa]
 generalize hH1:H.push (.cells (chC 0 zAY zAY zAY).toArray zAU (0,0))=h1
 have k1:Keep (fun _=>False) H h1:=by rw[<- hH1];exact Keep.push
 have a1:At h1 H.size (chC 0 zAY zAY zAY):=by rw[<- hH1];exact At.push
 have s1:h1.size=H.size+1:=by rw[<- hH1];simp
 refine zAk (zZ9 (hb.keep k1 fun _ _=>id) hr (fun b h=>by have:=hF b h;omega) (by omega)) ?_
 rintro _ h2 ⟨hb2,k2⟩
 have g2:=k2.1
 have k02:Keep Fg H h2:=(k1.mono fun _ _ h=>h.elim).trans k2
 have a2:=a1.keep k2 fun h=>by have:=hF _ h;omega
 let PGF:Nat->Prop:=fun b=>PG b\/Fg b
 have hPGF:∀ b,PGF b->b<H.size:=fun b h=>h.elim (fun h=>(hPF b (.inr (.inr h))).1) (hF b)
 have mg:∀ h,Keep (fun b=>H.size<=b) h2 h->zNs PGF h g goal:=fun h k=>⟨(hb2.keep k fun b h e=>by have:=hF b h;omega).sl.mono fun b h => .inr h,fun x hx=>(((hg x hx).keep k02 fun b h=>(hPF b (.inr (.inr h))).2).keep k fun b h e=>by have:=(hPF b (.inr (.inr h))).1;omega).mono fun b h => .inl h,hgs⟩
 refine zAk (zQ9 (mg _ Keep.refl) (fun b h=>by have:=hPGF b h;omega) (by omega) (hOF _ k02)) ?_
 rintro _ h3 ⟨rfl,k3⟩
 have g3:=k3.1
 have k03:=k02.trans (k3.mono (S':=Fg) fun _ _ h=>h.elim)
 have a3:=a2.keep k3 id
 rw[zAq,zAa,zAc]
 cases hrt:zG5 (zA7 goal)
 ·rw[if_pos (by rfl)]
  obtain⟨h4,st4,a4,k4⟩:=a3.st (n:=4) (ds:=chC 0 zAY zAY zAY) rfl rfl (zPE rfl rfl rfl)
  rw[st4,zAm,a4.ldN (n:=4) rfl,zAa]
  exact⟨.inl ⟨hrt,rfl⟩,k03.fresh' k4 fun b e => .inr (by omega)⟩
 rw[if_neg (by decide)]
 have hgf:∀ x ∈ goal,x.1.files.length<=1000:=fun x hx=>by have:=zRi hrt x.1 (List.mem_map.2 ⟨x,hx,rfl⟩);omega
 generalize hH6:h3.push (.cells (chC 0 zAY zAY zAY).toArray zAU (0,0))=h6
 have k6:Keep (fun _=>False) h3 h6:=by rw[<- hH6];exact Keep.push
 have a6:At h6 h3.size (chC 0 zAY zAY zAY):=by rw[<- hH6];exact At.push
 have s6:h6.size=h3.size+1:=by rw[<- hH6];simp
 obtain⟨h7,st7,a7,k7⟩:=a6.st (n:=4) (ds:=chC kind zAY zAY zAY) rfl rfl (zPE rfl rfl rfl)
 have g7:=k7.1
 rw[st7,zAm]
 have k37:Keep (fun _=>False) h3 h7:=k6.fresh k7 fun b e=>by omega
 have k27:Keep (fun _=>False) h2 h7:=k3.trans k37
 have k07:Keep Fg H h7:=k03.trans (k37.mono fun _ _ h=>h.elim)
 have a17:=a3.keep k37 id
 generalize hn0:h7.size=n0 at *
 generalize hz0:h3.size=z at *
 have hc0:ChI n0 z kind (fun _=>0) zAY zAY zAY [] [] [] h7:=⟨a7,BufE.nil,BufE.nil,BufE.nil,fun x hx=>(by cases hx),fun x hx=>(by cases hx),fun x hx=>(by cases hx),by omega,by omega⟩
 have inM:∀ h,Keep (fun b=>n0<=b\/b=z) h7 h->zNs P h v mv:=fun h k=>(hp.keep k07 fun b h=>(hPF b (.inl h)).2).keep k fun b h e=>by have:=(hPF b (.inl h)).1;omega
 have inP:∀ h,Keep (fun b=>n0<=b\/b=z) h7 h->zNH R p l h:=fun h k=>(q.keep k07 fun b h=>(hPF b (.inr (.inl h))).2).keep k fun b h e=>by have:=(hPF b (.inr (.inl h))).1;omega
 have inG:∀ h,Keep (fun b=>n0<=b\/b=z) h7 h->zNs PGF h g goal:=fun h k=>mg h ((k27.mono fun _ _ h=>h.elim).trans (k.mono fun b _ e=>by show H.size<=b;omega))
 let inst:=zA7 mv
 let gh:=zA7 goal
 let I1:Nat->zAd->Prop:=fun i h=>∃ col d dr,ChI n0 z kind col d zAY zAY dr [] [] h/\zA7 dr=(inst.take i).filter (fun m=>!zOf gh m)/\dr.length<=i/\Keep (fun b=>n0<=b\/b=z) h7 h
 have hil:inst.length=mv.length:=by simp[inst]
 have hgln:gh.length=goal.length:=by simp[gh]
 refine zL2 (fun _ h=>I1 mv.length h) (fun k8 hk8=>?_) ?_
 ·rw[hp.len,zAa]
  refine zHU (fun w h=>∃ i:Nat,i<=mv.length/\w = .int .i64 (i:Nat)/\I1 i h) (fun w _=>match w with | .int _ t=>mv.length - t.toNat | _=>0) ⟨0,Nat.zero_le _,rfl,_,_,[],hc0,rfl,Nat.le_refl _,Keep.refl⟩ ?_
  rintro _ h11 ⟨i,hi,rfl,col,d,dr,c11,hdr,hdl,k711⟩ k10 hk10
  rw[zMs,zAa,zAc]
  by_cases hlt:i<mv.length
  rotate_left
  ·rw[if_neg (by simpa using hlt)]
   obtain rfl:i=mv.length:=by omega
   exact hk8 _ _ ⟨col,d,dr,c11,hdr,hdl,k711⟩
  rw[if_pos (by simpa using hlt)]
  have hgi:mv[i]? = some mv[i]:=List.getElem?_eq_getElem hlt
  have hxm:=List.getElem_mem hlt
  generalize mv[i]=x at *
  have hgh:inst[i]? = some x.1:=by show(zA7 mv)[i]? = _;rw[List.getElem?_map,hgi];rfl
  have hm11:=inM h11 k711
  obtain⟨hmx,b,o,hix,hpt,_⟩:=hm11.at hgi
  have w:=hmx.wf
  have hsx:=hp.sm x hxm
  have hfx:=hmf x hxm
  have n11:=c11.n
  refine zAeX (fun h=>I1 (i+1) h) (fun k12 hk12=>?_) ?_
  rotate_left
  ·intro h13 hI
   rw[zAG (by omega),zAa]
   exact hk10 _ _ ⟨i+1,by omega,rfl,hI⟩ (by show mv.length - (i+1)<mv.length - i;omega)
  rw[hix .i64,zAa,zKf hpt w,zAa]
  simp only[zKJ,zAs]
  generalize hH14:h11.push (.cells (zEN ⟨[],zB2,[],[],[]⟩ zAY zAY zAY).toArray zAb (0,0))=h14
  have k14:Keep (fun _=>False) h11 h14:=by rw[<- hH14];exact Keep.push
  have a14:At h14 h11.size (zEN ⟨[],zB2,[],[],[]⟩ zAY zAY zAY):=by rw[<- hH14];exact At.push
  obtain⟨h15,st15,a15,k15⟩:=a14.st (n:=8) (ds:=mvC x) (zAH zMt) (zAH w) (zF7 hmx)
  have k1115:Keep (fun _=>False) h11 h15:=k14.fresh k15 fun b e=>by omega
  have k715:Keep (fun b=>n0<=b\/b=z) h7 h15:=k711.trans (k1115.mono fun _ _ h=>h.elim)
  rw[st15,zAm,a15.ldN (zAH w),zAa]
  refine zAk (zAcV (inG _ k715) (hmx.keep k1115 fun _ _=>id) (by omega) hgf) ?_
  rintro _ h16 ⟨rfl,k16⟩
  have k1116:=k1115.trans k16
  have a16:=a15.keep k16 id
  have c16:=c11.fresh k1116
  rw[zAq,zAa,zAc]
  cases hj:zOf gh x.1
  rotate_left
  ·rw[if_neg (by decide)]
   exact hk12 _ ⟨_,d,dr,c16,by rw[zGR hgh,hj,hdr];simp,by omega,k711.trans (k1116.mono fun _ _ h=>h.elim)⟩
  rw[if_pos (by rfl),c16.a.ld (i:=1) rfl,zAa,a16.ldN (zAH w),zAa]
  refine zAk (zRa (hmx.keep k1116 fun _ _=>id) hsx.1 hsx.2 hfx) ?_
  rintro _ h17 ⟨⟨vd,vc,vf,rfl,hm17⟩,k17⟩
  have g16:=k1116.1
  have g17:=k17.1
  have k1117:=k1116.trans k17
  generalize hy:(x.1,vd,vc,vf)=y at *
  have hy1:y.1=x.1:=by rw[<- hy]
  have hmy:zJJ (fun b=>h16.size<=b/\b<h17.size) h17 y.1 y.2.1 y.2.2.1 y.2.2.2:=by rw[<- hy];exact hm17
  have wy:=hmy.wf
  rw[(c16.a.keep k17 id).ld (i:=1) rfl,zAw,zAr,zRf (zAH wy),zAV]
  have hrow:=zK5 (x:=mvC y) (T:=zAb) (h:=h17) (n:=8) (zAH wy:(mvC y).length=8) (zF7 hmy)
  have kp:Keep (fun _=>False) h17 (h17.push (.cells (mvC y).toArray zAb (0,0))):=Keep.push
  have sp:(h17.push (.cells (mvC y).toArray zAb (0,0))).size=h17.size+1:=by simp
  generalize h17.push (.cells (mvC y).toArray zAb (0,0))=h18 at *
  have k1118:=k1117.trans kp
  have c18:=c11.fresh k1118
  rw[c18.a.ld (i:=1) rfl,zAw,zAr]
  refine c18.addD ((hmy.keep kp fun _ _=>id).mono fun b hb=>Own.new c11.n (by omega) (by omega)) hrow (by omega) fun h20 col' d' c20 k20=>?_
  refine hk12 _ ⟨col',d',dr++[y],c20,?_,by rw[List.length_append,List.length_singleton];omega,(k711.trans (k1118.mono fun _ _ h=>h.elim)).trans (c18.coarse k20)⟩
  rw[zGR hgh,hj,<- hdr]
  simp[zA7,hy1]
 rintro _ h9 ⟨col9,d,dr,c9,hdr,hdl,k79⟩
 rw[List.take_of_length_le (by omega)]at hdr
 let I2:Nat->zAd->Prop:=fun i h=>∃ col s t ad af,ChI n0 z kind col d s t dr ad af h/\zA7 af=gh.take i/\ad.map zO2=((gh.take i).filter fun m=>!zOf inst m).map (zUu l)/\Keep (fun b=>n0<=b\/b=z) h7 h
 refine zL2 (fun _ h=>I2 goal.length h) (fun k21 hk21=>?_) ?_
 rotate_left
 ·rintro _ h22 ⟨col,s,t,ad,af,c22,haf,had,k722⟩
  have a22:At h22 H.size (chC 0 zAY zAY zAY):=a17.keep k722 fun e=>by omega
  have o1:d.oneCell'=true:=c22.bd.sl.oneC
  have o2:s.oneCell'=true:=c22.bs.sl.oneC
  have o3:t.oneCell'=true:=c22.bt.sl.oneC
  obtain⟨h40,st40,a40,k40⟩:=a22.st (n:=4) (ds:=chC kind d s t) rfl rfl (zPE o1 o2 o3)
  rw[c22.a.ldN (n:=4) rfl,zAa,st40,zAm,a40.ldN (n:=4) rfl,zAa]
  rw[List.take_of_length_le (by omega)]at haf had
  refine⟨.inr ⟨hrt,n0,z,_,d,s,t,dr,ad,af,rfl,by omega,c22.low k40 fun b e => .inl ⟨by omega,by omega⟩,hdr,had,haf⟩,(k07.fresh' k722 fun b e => .inr (by omega)).fresh' k40 fun b e => .inr (by omega)⟩
 rw[(inG _ Keep.refl).len,zAa]
 refine zHU (fun w h=>∃ i:Nat,i<=goal.length/\w = .int .i64 (i:Nat)/\I2 i h) (fun w _=>match w with | .int _ t=>goal.length - t.toNat | _=>0) ⟨0,Nat.zero_le _,rfl,col9,zAY,zAY,[],[],c9,rfl,rfl,k79⟩ ?_
 rintro _ h24 ⟨i,hi,rfl,col,s,t,ad,af,c24,haf,had,k724⟩ k23 hk23
 rw[zMs,zAa,zAc]
 by_cases hlt:i<goal.length
 rotate_left
 ·rw[if_neg (by simpa using hlt)]
  obtain rfl:i=goal.length:=by omega
  exact hk21 _ _ ⟨col,s,t,ad,af,c24,haf,had,k724⟩
 rw[if_pos (by simpa using hlt)]
 have hgi:goal[i]? = some goal[i]:=List.getElem?_eq_getElem hlt
 have hxm:=List.getElem_mem hlt
 generalize goal[i]=x at *
 have hgh:gh[i]? = some x.1:=by show(zA7 goal)[i]? = _;rw[List.getElem?_map,hgi];rfl
 obtain⟨hmx,b,o,hix,hpt,_⟩:=(inG h24 k724).at hgi
 have w:=hmx.wf
 have hsx:=hgs x hxm
 have hfx:=hgf x hxm
 have n24:=c24.n
 have hafl:af.length=i:=by
  have:=congrArg List.length haf
  rw[List.length_map,List.length_take]at this;omega
 have hadl:ad.length<=i:=by
  have h1:=congrArg List.length had
  rw[List.length_map,List.length_map]at h1
  have h2:=List.length_filter_le (fun m=>!zOf inst m) (gh.take i)
  rw[List.length_take]at h2;omega
 refine zAeX (fun h=>I2 (i+1) h) (fun k25 hk25=>?_) ?_
 rotate_left
 ·intro h26 hI
  rw[zAG (by omega),zAa]
  exact hk23 _ _ ⟨i+1,by omega,rfl,hI⟩ (by show goal.length - (i+1)<goal.length - i;omega)
 rw[hix .i64,zAa,zKf hpt w,zAa]
 simp only[zKJ,zZU,zAs]
 generalize hH27:h24.push (.cells (zEN ⟨[],zB2,[],[],[]⟩ zAY zAY zAY).toArray zAb (0,0))=h27
 have k27':Keep (fun _=>False) h24 h27:=by rw[<- hH27];exact Keep.push
 have a27:At h27 h24.size (zEN ⟨[],zB2,[],[],[]⟩ zAY zAY zAY):=by rw[<- hH27];exact At.push
 obtain⟨h28,st28,a28,k28⟩:=a27.st (n:=8) (ds:=mvC x) (zAH zMt) (zAH w) (zF7 hmx)
 have k2428:Keep (fun _=>False) h24 h28:=k27'.fresh k28 fun b e=>by omega
 have g28:=k2428.1
 have l28:=a28.lt
 rw[st28,zAm,(c24.fresh k2428).a.ld (i:=3) rfl,zAa,a28.ldN (zAH w),zAa]
 refine zAk (zRa (hmx.keep k2428 fun _ _=>id) hsx.1 hsx.2 hfx) ?_
 rintro _ h29 ⟨⟨vd,vc,vf,rfl,hm29⟩,k29⟩
 have g29:=k29.1
 have k2429:=k2428.trans k29
 generalize hy:(x.1,vd,vc,vf)=y at *
 have hy1:y.1=x.1:=by rw[<- hy]
 have hmy:zJJ (fun b=>h28.size<=b/\b<h29.size) h29 y.1 y.2.1 y.2.2.1 y.2.2.2:=by rw[<- hy];exact hm29
 have wy:=hmy.wf
 rw[(c24.fresh k2429).a.ld (i:=3) rfl,zAw,zAr,zRf (zAH wy),zAV]
 have hrow:=zK5 (x:=mvC y) (T:=zAb) (h:=h29) (n:=8) (zAH wy:(mvC y).length=8) (zF7 hmy)
 have kp:Keep (fun _=>False) h29 (h29.push (.cells (mvC y).toArray zAb (0,0))):=Keep.push
 have sp:(h29.push (.cells (mvC y).toArray zAb (0,0))).size=h29.size+1:=by simp
 generalize h29.push (.cells (mvC y).toArray zAb (0,0))=h30 at *
 have k2430:=k2429.trans kp
 have c30:=c24.fresh k2430
 have a30:=(a28.keep k29 id).keep kp id
 rw[c30.a.ld (i:=3) rfl,zAw,zAr]
 refine c30.addA ((hmy.keep kp fun _ _=>id).mono fun b hb=>Own.new c24.n (by omega) (by omega)) hrow (by omega) fun h32 col' t' c32 k32=>?_
 have k732:=(k724.trans (k2430.mono fun _ _ h=>h.elim)).trans (c30.coarse k32)
 have hz:=c24.zl
 have a32:At h32 h24.size (mvC x):=a30.keep k32 fun e=>by
  rcases e with (e | e) | e
  ·have:=e.1
   unfold zG6 at this
   rw[if_neg (by omega)]at this
   omega
  ·omega
  ·omega
 have hmx32:zJJ PGF h32 x.1 x.2.1 x.2.2.1 x.2.2.2:=(inG h32 k732).m x hxm
 have haf':zA7 (af++[y])=gh.take (i+1):=by
  rw[List.take_add_one,hgh,<- haf];simp[zA7,hy1]
 rw[a32.ldN (zAH w),zAa]
 refine zAk (zAcV (inM h32 k732) hmx32 (by omega) hmf) ?_
 rintro _ h33 ⟨rfl,k33⟩
 have a33:=a32.keep k33 id
 have c33:=c32.fresh k33
 rw[zAq,zAa,zAc]
 cases hj:zOf inst x.1
 rotate_left
 ·rw[if_neg (by decide)]
  exact hk25 _ ⟨_,s,t',ad,af++[y],c33,haf',by rw[zGR hgh,hj,had];simp,k732.trans (k33.mono fun _ _ h=>h.elim)⟩
 simp only[zAx,Nat.zero_add,Nat.add_zero,zAa]
 rw[if_pos (by rfl),zBE a33,zAa,zFK a33 w,zAa]
 have k733:=k732.trans (k33.mono (S':=fun b=>n0<=b\/b=z) fun _ _ h=>h.elim)
 refine zAk (zAgk (inP h33 k733) w.ver hll) ?_
 rintro u h34 ⟨hu,k34⟩
 have g34:=k34.1
 have g33:=k33.1
 obtain⟨x',bb,rfl,hpk,hx'⟩:∃ (x':PW) (bb:Bool),u = .tuple #[.agg (pvC x').toArray,.bool bb]/\zO2 x'=zUu l x.1/\PkV (fun b=>h33.size<=b/\b<h34.size) h34 x':=by
  rcases hu with ⟨e,rfl⟩ | ⟨x',e,rfl,hx'⟩
  ·exact⟨zPW,false,rfl,by unfold zUu;rw[e];rfl,zAgn⟩
  ·exact⟨x',true,rfl,by unfold zUu;rw[e];rfl,hx'⟩
 have x0:∀ a b:Value,zDy 0 (.tuple #[a,b])=some a:=fun _ _=>rfl
 have x1:∀ a b:Value,zDy 1 (.tuple #[a,b])=some b:=fun _ _=>rfl
 rw[x0,zAa,x1,zAa]
 have wx':=hx'.m.wf
 generalize hH35:h34.push (.cells (pvC zPW).toArray zAv (0,0))=h35
 have k35:Keep (fun _=>False) h34 h35:=by rw[<- hH35];exact Keep.push
 have a35:At h35 h34.size (pvC zPW):=by rw[<- hH35];exact At.push
 obtain⟨h36,zAh4,a36,k36⟩:=a35.st (n:=9) (ds:=pvC x') (zC4 zRc) (zC4 wx') hx'.one
 have k3436:Keep (fun _=>False) h34 h36:=k35.fresh k36 fun b e=>by omega
 have g36:=k3436.1
 have k3236:=(k33.trans k34).trans k3436
 rw[zAh4,zAm,(c32.fresh k3236).a.ld (i:=2) rfl,zAa,a36.ldN (zC4 wx'),zAa,zZ3 (zC4 wx'),zAV]
 have hrow2:=zK5 (T:=zAv) (h:=h36) (n:=9) (zC4 wx') hx'.one
 have kq:Keep (fun _=>False) h36 (h36.push (.cells (pvC x').toArray zAv (0,0))):=Keep.push
 have sq:(h36.push (.cells (pvC x').toArray zAv (0,0))).size=h36.size+1:=by simp
 generalize h36.push (.cells (pvC x').toArray zAv (0,0))=h37 at *
 have k3237:=k3236.trans kq
 have c37:=c32.fresh k3237
 refine c37.addS (((hx'.keep k3436 fun _ _=>id).keep kq fun _ _=>id).mono fun b hb=>Own.new c32.n (by omega) (by omega)) hrow2 (by omega) fun h39 col2 s' c39 k39=>?_
 refine hk25 _ ⟨col2,s',t',ad++[x'],af++[y],c39,haf',?_,(k732.trans (k3237.mono fun _ _ h=>h.elim)).trans (c37.coarse k39)⟩
 rw[zGR hgh,hj,List.map_append,List.map_append,had]
 simp[hpk]
end Go.Proofs.YticdfkoncnnmmaaGreatDoor
namespace Go.X
def zAab (P:Program)(T ty:TypeId)(n sz:Nat)(t0 t1 t2:Value)(H:zAd)(R:Value->zAd->Prop):Prop :=
 Mpu (zBO t0) fun t12=>Mpu (slS n t0 (some t1) (some t2) (some t12)) fun _=>Mpu (zAh .no .eql t1 t2) fun t16=>Mcd t16 (R t0 H) (
  Mpu (zBO t0) fun t19=>Mpu (slS n t0 none (some t1) none) fun t22=>Mpu (slS n t0 (some t2) none none) fun t25=>zIV T n sz H t22 t25 fun t26 h1 =>
  Mpu (zBO t26) fun t29=>Mpu (slS n t26 (some t29) (some t19) none) fun t31=>zNt P (Builtin.clear_ #[ty] 0 #[t31]) h1 fun _ h2=>R t26 h2)
end Go.X
namespace Go.Proofs.YticdfkoncnnmmaaGreatDoor
open Go.X Go.X.Diff Go.MapKept
theorem zAeE {H:zAd}{b o cap:Nat}{z:List Value}{cs:Array Value}{T Te ty:TypeId}{f:Nat×Nat}{k:Value->zAd->Prop}(hu:prg.underlying ty=some (.slice Te))(hz:zAB prg Te=some z.toArray)(hz1:(Builtin.zeroCells z.toArray 1).toList=z)(hzo:∀ c ∈ z,c.oneCell'=true)
  (hb:H[b]? = some (.cells cs T f)) (ho:o+z.length<=cs.size) (ht:∀ i n,zRB f i n=true)
  (hk:k (.tuple #[]) (H.setIfInBounds b (.cells (spl cs o z.toArray) T f))):zNt prg (Builtin.clear_ #[ty] 0 #[.slice (some ⟨b,o,none⟩) 1 cap]) H k:=by
 intro w hwH
 obtain⟨y,hy,hyc⟩:=zAav (P:=prg) (w:=w) hz
 have hst0:=zNI hb o z.toArray (ht _ _) (by simpa using ho) (zRY hzo)
 have hrun:=zSm (P:=prg) (w:=w) (by rw[hwH];exact hst0)
 have hzl:(Builtin.zeroCells y.cells 1).toList=z.toArray.toList:=by rw[hyc,hz1]
 refine⟨.tuple #[],{ w with heap:=H.setIfInBounds b (.cells (spl cs o z.toArray) T f) },?_,⟨rfl,rfl,rfl,?_⟩,hk⟩
 ·have hrun':=hrun
  rw[<- hzl]at hrun'
  simp[Builtin.clear_,zAZ hu,hy,hrun']
 ·rw[hwH];exact zDL.set hb
theorem zAgo {A B:List Value}{n:Nat}(h:A.length=n):(A++B).take n=A:=by rw[<- h,List.take_left]
theorem zAbZ {n sz:Nat}{T Te ty:TypeId}{z:List Value}{F:Nat->Prop}{H:zAd}{v:Value}{xs:List (List Value)}{i:Nat}(hn:0<n)(hu:prg.underlying ty=some (.slice Te))(hz:zAB prg Te=some z.toArray)(hzl:z.length=n)(hz1:(Builtin.zeroCells z.toArray 1).toList=z)(hzo:∀ c ∈ z,c.oneCell'=true)
  (h:BufE n F H v xs) (hi:i<xs.length) (hl:xs.length<=1000000) :
  zAab prg T ty n sz v (.int .i64 (i:Nat)) (.int .i64 ((i+1:Nat):Int)) H fun u H'=>BufE n F H' u (xs.take i++xs.drop (i+1))/\Keep F H H':=by
 unfold zAab
 have hsl:=h.sl
 have lv:=hsl.len
 have hne:xs≠[]:=fun e=>by rw[e]at hi;cases hi
 obtain⟨t25,e25,hs25⟩:=hsl.cut hne (lo:=i+1) (hi:=xs.length) (by omega) (Nat.le_refl _) (l:=some (.int .i64 ((i+1:Nat):Int))) (r:=none) (by simp only[bnd];rw[if_pos (by omega)];rfl) (fun c hc=>rfl)
 rw[List.take_length]at hs25
 obtain⟨g1,g2,h0 | ⟨b,o,c,cs,T',f,rfl,hf,hc,hb,hle,ht,hcells⟩⟩:=h
 ·exact absurd h0.2 hne
 have hcs:cs.toList.length=cs.size:=by simp
 have fl:=zGB g1
 have m1:xs.length * n<=c * n:=Nat.mul_le_mul_right n hc
 have m2:(i+1) * n<=xs.length * n:=Nat.mul_le_mul_right n hi
 have m3:(i+1) * n=i * n+n:=Nat.succ_mul i n
 have m4:(xs.length - 1) * n+n=xs.length * n:=by rw[<- Nat.succ_mul];congr 1;omega
 have m5:i * n+(xs.length - (i+1)) * n=(xs.length - 1) * n:=by rw[<- Nat.add_mul];congr 1;omega
 have x13:∃ t13,slS n (.slice (some ⟨b,o,none⟩) xs.length c) (some (.int .i64 (i:Nat))) (some (.int .i64 ((i+1:Nat):Int))) (some (.int .i64 (xs.length:Nat)))=some t13:=by
  have hbn:zKt xs.length c (some (.int .i64 (i:Nat))) (some (.int .i64 ((i+1:Nat):Int))) (some (.int .i64 (xs.length:Nat)))=some (i,i+1,xs.length):=by
   simp only[zKt,bnd]
   rw[if_pos (by omega)]
   simp only[Option.bind_some,Int.toNat_natCast]
   rw[if_pos (by omega)]
   simp only[Option.bind_some,Int.toNat_natCast]
   rw[if_pos (by omega)];rfl
  exact⟨.slice (some ⟨b,if xs.length=i then o else o+i * n,none⟩) (i+1 - i) (xs.length - i),by simp only[slS];rw[hbn];rfl⟩
 obtain⟨t13,e13⟩:=x13
 have e22:slS n (.slice (some ⟨b,o,none⟩) xs.length c) none (some (.int .i64 (i:Nat))) none=some (.slice (some ⟨b,o,none⟩) i c):=by
  have hbn:zKt xs.length c none (some (.int .i64 (i:Nat))) none=some (0,i,c):=by
   simp only[zKt,bnd,Option.bind_some]
   rw[if_pos (by omega)];rfl
  simp only[slS];rw[hbn];simp
 have eil:zAh .no .eql (.int .i64 (i:Nat)) (.int .i64 ((i+1:Nat):Int))=some (.bool false):=by rw[zAe1,decide_eq_false (by omega)]
 rw[lv,zAa,e13,zAa,eil,zAa,zAc,if_neg (by decide),zAa,e22,zAa,e25,zAa]
 have hel:=hs25.elems
 have hal:=hs25.all
 have hdl:(xs.drop (i+1)).length=xs.length - (i+1):=by rw[List.length_drop]
 have hdf:(xs.drop (i+1)).flatten.length=(xs.length - (i+1)) * n:=by rw[zGB (fun x hx=>g1 x (List.mem_of_mem_drop hx)),hdl]
 rw[hdl]at hel
 refine⟨some ⟨b,o,none⟩,i,c,xs.length - (i+1),_,rfl,hel,hal,fun h0=>?_,fun h0=>by omega⟩
 have hsz:o+i * n+(xs.drop (i+1)).flatten.toArray.size<=cs.size:=by simp only[List.size_toArray,hdf];omega
 refine⟨_,zNI hb _ _ (ht _ _) hsz hal,?_⟩
 generalize hcs1:spl cs (o+i * n) (xs.drop (i+1)).flatten.toArray=cs1
 have sz1:cs1.size=cs.size:=by rw[<- hcs1];exact zIA hsz
 generalize hH1:H.setIfInBounds b (.cells cs1 T' f)=H1
 have hb1:H1[b]? = some (.cells cs1 T' f):=by rw[<- hH1];exact zAt hb
 have kk1:Keep F H H1:=by rw[<- hH1];exact Keep.set hf
 have hc1:(cs1.toList.drop o).take ((xs.length - 1) * n)=(xs.take i++xs.drop (i+1)).flatten:=by
  rw[<- hcs1]
  unfold spl
  show((List.take (o+i * n) cs.toList++(xs.drop (i+1)).flatten++_).drop o).take _=_
  rw[List.append_assoc,List.drop_append_of_le_length (by rw[List.length_take];omega),List.drop_take,Nat.add_sub_cancel_left]
  have e1:(cs.toList.drop o).take (i * n)=(xs.take i).flatten:=by
   have:=congrArg (List.take (i * n)) hcells
   rw[List.take_take,Nat.min_eq_left (by omega),<- zQF g1]at this
   exact this
  have e2:(xs.take i).flatten.length=i * n:=by rw[<- e1,List.length_take,List.length_drop];omega
  rw[e1,<- List.append_assoc,List.flatten_append]
  exact zAgo (by rw[List.length_append,e2,hdf];exact m5)
 have l26:zBO (.slice (some ⟨b,o,none⟩) (i+(xs.length - (i+1))) c)=some (.int .i64 ((xs.length - 1:Nat):Int)):=by
  rw[show i+(xs.length - (i+1))=xs.length - 1 by omega];rfl
 have e31:slS n (.slice (some ⟨b,o,none⟩) (i+(xs.length - (i+1))) c) (some (.int .i64 ((xs.length - 1:Nat):Int))) (some (.int .i64 (xs.length:Nat))) none=some (.slice (some ⟨b,o+(xs.length - 1) * n,none⟩) 1 (c - (xs.length - 1))):=by
  have hbn:zKt (i+(xs.length - (i+1))) c (some (.int .i64 ((xs.length - 1:Nat):Int))) (some (.int .i64 (xs.length:Nat))) none=some (xs.length - 1,xs.length,c):=by
   simp only[zKt,bnd,Option.bind_some]
   rw[if_pos (by omega)]
   simp only[Option.bind_some,Int.toNat_natCast]
   rw[if_pos (by omega)];rfl
  simp only[slS];rw[hbn]
  simp only[Option.isSome_none,Bool.false_and,Bool.false_eq_true,if_false,Option.bind_some]
  rw[if_neg (by omega),show xs.length - (xs.length - 1)=1 by omega]
 show Mpu (zBO (.slice (some ⟨b,o,none⟩) (i+(xs.length - (i+1))) c)) _
 rw[l26,zAa,e31,zAa]
 refine zAeE hu hz hz1 hzo hb1 (by rw[hzl];omega) ht ?_
 have hsz2:o+(xs.length - 1) * n+z.toArray.size<=cs1.size:=by rw[List.size_toArray,hzl];omega
 have hln:(xs.take i++xs.drop (i+1)).length=xs.length - 1:=by rw[List.length_append,List.length_take,List.length_drop];omega
 have hsub:∀ x ∈ xs.take i++xs.drop (i+1),x ∈ xs:=fun x hx=>(List.mem_append.1 hx).elim List.mem_of_mem_take List.mem_of_mem_drop
 refine⟨⟨fun x hx=>g1 x (hsub x hx),fun x hx=>g2 x (hsub x hx),.inr ⟨b,o,c,spl cs1 (o+(xs.length - 1) * n) z.toArray,T',f,?_,hf,?_,zAt hb1,?_,ht,?_⟩⟩,kk1.trans (Keep.set hf)⟩
 ·rw[hln];congr 1;omega
 ·rw[hln];omega
 ·rw[zIA hsz2,sz1];exact hle
 ·rw[hln,<- hc1]
  unfold spl
  have hcs1l:cs1.toList.length=cs1.size:=by simp
  show((List.take (o+(xs.length - 1) * n) cs1.toList++_++_).drop o).take _=_
  rw[List.append_assoc,List.drop_append_of_le_length (by rw[List.length_take];omega),List.drop_take,Nat.add_sub_cancel_left]
  exact zAgo (by rw[List.length_take,List.length_drop];omega)
theorem zAeF:prg.underlying zBm=some (.slice zAb):=by kernel_rfl
theorem zAgp:∀ c ∈ zEN ⟨[],zB2,[],[],[]⟩ zAY zAY zAY,c.oneCell'=true:=fun c hc=>by
 simp[zEN,zCt,zB2,zAY,zAP]at hc
 rcases hc with rfl | rfl | rfl | rfl <;> rfl
theorem zVx {F:Nat->Prop}{H:zAd}{v:Value}{xs:List (List Value)}{i:Nat}(h:BufE 8 F H v xs)(hi:i<xs.length)(hl:xs.length<=1000000) :
  zAg prg zA5 [v,.int .i64 (i:Nat),.int .i64 ((i+1:Nat):Int)] H fun u H'=>BufE 8 F H' u (xs.take i++xs.drop (i+1))/\Keep F H H':=by
 apply zCv
 exact zAbZ (T:=zAb) (ty:=zBm) (sz:=128) (by omega) zAeF zKJ (zAH zMt) (by kernel_rfl) zAgp h hi hl
def zAhF (kind:Int)(inst:List Man)(l:List Pk)(a:zRp)(H H':zAd)(u:Value):Prop :=
 ((zG5 inst && zPD a)=false/\u = .tuple #[.agg (chC 0 zAY zAY zAY).toArray,.int .i64 10]) \/
 ((zG5 inst && zPD a)=true/\((inst.find? (fun m=>decide (m.name=a.name))).isSome=true/\u = .tuple #[.agg (chC 0 zAY zAY zAY).toArray,.int .i64 44] \/
  (inst.find? (fun m=>decide (m.name=a.name)))=none/\let hv:=zFl inst l;let ws:=zPX inst a.name a.want
   ((zGw hv ws a.bound=false/\u = .tuple #[.agg (chC 0 zAY zAY zAY).toArray,.int .i64 10]) \/
   (zGw hv ws a.bound=true/\∃ (r:Res) (s:Nat),Run hv a.bound.toNat (.sol [] ws) 0 r s/\match r with
    | .ok ks=>zOg kind inst l ((zEO hv ks).map (gM hv)) H H' u
    | .fail=>u = .tuple #[.agg (chC 0 zAY zAY zAY).toArray,.int .i64 40]
    | .over=>u = .tuple #[.agg (chC 0 zAY zAY zAY).toArray,.int .i64 42]))))
theorem zOg.up {kind:Int}{inst goal:List Man}{l:List Pk}{H0 H H':zAd}{u:Value}(h:zOg kind inst l goal H H' u)(hs:H0.size<=H.size):zOg kind inst l goal H0 H' u:=by
 rcases h with h | ⟨h1,n0,z,col,d,s,t,dr,ad,af,h2,h3,h4⟩
 ·exact .inl h
 ·exact .inr ⟨h1,n0,z,col,d,s,t,dr,ad,af,h2,by omega,h4⟩
theorem zAcZ {p:Man->Bool}{mv:List MV}:(zRo (fun x:MV=>p x.1) mv 0 = -1/\(zA7 mv).find? p=none)\/∃ (i:Nat) (y:MV),zRo (fun x:MV=>p x.1) mv 0=(i:Int)/\mv[i]? = some y/\(zA7 mv).find? p=some y.1:=by
 have e:(zA7 mv).find? p=(mv.find? fun x:MV=>p x.1).map (·.1):=zRe
 rcases zQf (p:=fun x:MV=>p x.1) (l:=mv) with ⟨h1,h2⟩ | ⟨i,y,h1,h2,h3⟩
 ·exact .inl ⟨h1,by rw[e,h2];rfl⟩
 ·exact .inr ⟨i,y,h1,h2,by rw[e,h3];rfl⟩
theorem zAb0 {goal:List MV}{hv:List Man}{ks:List Nat}(h:zA7 goal=ks.map (gM hv))(hr:zAap hv ks):zS8 goal:=by
 have h1:(zA7 goal).Pairwise fun a b=>zK6 a.name b.name<0:=by rw[h];exact List.pairwise_map.2 hr
 exact List.pairwise_map.1 h1
def zXU (inst:List Man)(nm:List UInt8):Bool:=(inst.find? fun m=>decide (m.name=nm)).isSome
def zRj (inst:List Man)(a:zRp):zPS:=if a.kind=2 then (match inst.find? (fun m=>decide (m.name=a.name)) with | some o=>⟨[62],o.ver⟩ | none=>a.want) else a.want
def zTa (inst:List Man)(a:zRp):Prop:=a.kind≠3/\(a.kind=1->zXU inst a.name=false)/\(a.kind≠1->zXU inst a.name=true)
def zAac (inst:List Man)(l:List Pk)(a:zRp):Bool:=zGw (zFl inst l) (zPX inst a.name (zRj inst a)) a.bound
def zAgq (inst:List Man)(l:List Pk)(a:zRp)(r:Res):Prop:=∃ s,Run (zFl inst l) a.bound.toNat (.sol [] (zPX inst a.name (zRj inst a))) 0 r s
def zAin (inst:List Man)(l:List Pk)(a:zRp)(e:Int):Prop :=
 ((zG5 inst && zPD a)=false/\e=10)\/((zG5 inst && zPD a)=true/\(
  (a.kind=1/\zXU inst a.name=true/\e=44)\/(a.kind≠1/\zXU inst a.name=false/\e=14)\/(a.kind=3/\zXU inst a.name=true/\zS6 inst a.name=true/\e=43) \/
  (zTa inst a/\(zAac inst l a=false/\e=10\/zAac inst l a=true/\(zAgq inst l a .fail/\e=40\/zAgq inst l a .over/\e=42)))))
def zAgr (inst:List Man)(l:List Pk)(a:zRp)(goal:List Man):Prop :=
 (zG5 inst && zPD a)=true/\((a.kind=3/\zXU inst a.name=true/\zS6 inst a.name=false/\goal=inst.filter fun m=>!decide (m.name=a.name)) \/
  (zTa inst a/\zAac inst l a=true/\∃ ks,zAgq inst l a (.ok ks)/\zHK (zFl inst l) ks/\goal=(zEO (zFl inst l) ks).map (gM (zFl inst l))))
def zAiJ (e:Int):Value := .tuple #[.agg (chC 0 zAY zAY zAY).toArray,.int .i64 e]
def zAeG (inst:List Man)(l:List Pk)(a:zRp)(H H':zAd)(u:Value):Prop:=(∃ e,zAin inst l a e/\u=zAiJ e)\/∃ goal,zAgr inst l a goal/\zOg a.kind inst l goal H H' u
theorem zSf {nm:List UInt8}:∀ {l:List Man} {i:Nat} {m:Man},(l.map (·.name)).Nodup->l[i]? = some m->m.name=nm->l.take i++l.drop (i+1)=l.filter fun m=>!decide (m.name=nm)
 | [],_,_,_,h,_=>by simp at h
 | x :: l,0,m,hn,h,e=>by
  simp at h;subst h
  rw[List.map_cons,List.nodup_cons]at hn
  have:∀ y ∈ l,(!decide (y.name=nm))=true:=fun y hy=>by
   have:y.name≠nm:=fun e2=>hn.1 (List.mem_map.2 ⟨y,hy,by rw[e2,e]⟩)
   simp[this]
  rw[List.filter_cons,if_neg (by simp[e]),List.filter_eq_self.2 this];rfl
 | x :: l,i+1,m,hn,h,e=>by
  rw[List.map_cons,List.nodup_cons]at hn
  have h':l[i]? = some m:=by simpa using h
  have hx:x.name≠nm:=fun e2=>hn.1 (List.mem_map.2 ⟨m,List.mem_of_getElem? h',by rw[e,e2]⟩)
  rw[List.filter_cons,if_pos (by simp[hx]),<- zSf hn.2 h' e];rfl
theorem zXD {a:zRp}(h:zPD a=true):1<=a.kind/\a.kind<=3:=by
 unfold zPD at h
 simp only[Bool.and_eq_true,decide_eq_true_eq]at h
 omega
theorem ltZ {x:Int}:zAh .no .lss (.int .i64 x) (.int .i64 0)=some (.bool (decide (x<0))):=by rw[zAi];rfl
theorem geZ {x:Int}:zAh .no .geq (.int .i64 x) (.int .i64 0)=some (.bool (decide (x>=0))):=by rw[zAi];rfl
theorem zAio:∀ {l:List Man} {ps:List (List UInt8)} {of:zP2},zVt ps of l=0->(l.map (·.name)).Nodup/\∀ m ∈ l,m.name ∉ ps
 | [],_,_,_=>⟨List.nodup_nil,fun m h=>by cases h⟩
 | x :: l,ps,of,h=>by
  rw[zVt]at h
  by_cases h0:zFk ps of x=0
  ·rw[if_pos h0]at h
   obtain⟨h1,h2⟩:=zAio h
   refine⟨?_,fun m hm=>?_⟩
   ·rw[List.map_cons,List.nodup_cons]
    refine⟨fun hx=>?_,h1⟩
    obtain⟨y,hy,e⟩:=List.mem_map.1 hx
    exact h2 y hy (by rw[e];simp)
   ·rcases List.mem_cons.1 hm with rfl | hm
    ·exact(zWC h0).2.1
    ·exact fun hp=>h2 m hm (by simp[hp])
  ·rw[if_neg h0]at h;exact absurd h h0
theorem zUv {l:List Man}(h:zG5 l=true):(l.map (·.name)).Nodup:=by
 unfold zG5 at h
 rw[Bool.and_eq_true]at h
 exact(zAio (of_decide_eq_true h.1)).1
theorem zAad {α β:Type}{f:α->β}{l:List α}{i:Nat}:(l.take i++l.drop (i+1)).map f=(l.map f).take i++(l.map f).drop (i+1):=by rw[List.map_append,List.map_take,List.map_drop]
theorem zVy {mv:List MV}(h:zAe3 (zA7 mv)=true)(hn:((zA7 mv).map (·.name)).Nodup):zS8 mv:=by
 have hn':=List.pairwise_iff_getElem.1 (List.pairwise_map.1 hn)
 have hl:(zA7 mv).length=mv.length:=by simp
 have hu:=List.all_eq_true.1 h
 have gm:∀ {i:Nat} (hi:i<mv.length),gM (zA7 mv) i=mv[i].1:=fun {i} hi=>zZd (List.getElem?_eq_getElem hi)
 have hne:∀ i j (hi:i<mv.length) (hj:j<mv.length),i<j->zK6 mv[i].1.name mv[j].1.name≠0:=fun i j hi hj hij e=>by
  have:=hn' i j (by omega) (by omega) hij
  simp only[List.getElem_map]at this
  exact this ((zEL.zero _ _).1 e)
 have step:∀ i (hi:i+1<mv.length),zK6 mv[i].1.name mv[i+1].1.name<=0:=fun i hi=>by
  have:=hu (i+1) (List.mem_range.2 (by omega))
  unfold zQ8 at this
  rw[show i+1 - 1=i from rfl,gm hi,gm (by omega:i<mv.length)]at this
  have ht:=zEL.turn mv[i].1.name mv[i+1].1.name
  simp at this
  omega
 have far:∀ d i (hi:i+d+1<mv.length),zK6 (mv[i]'(by omega)).1.name mv[i+d+1].1.name<=0:=fun d=>by
  induction d with
  | zero=>exact fun i hi=>step i hi
  | succ d ih=>exact fun i hi=>zEL.trans (ih i (by omega)) (step (i+d+1) hi)
 unfold zS8
 rw[List.pairwise_iff_getElem]
 intro i j hi hj hij
 have h1:=far (j - i - 1) i (by omega)
 have e:i+(j - i - 1)+1=j:=by omega
 simp only[e]at h1
 have:=hne i j hi hj hij
 omega
set_option maxHeartbeats 4000000 in
theorem zAgs {P R:Nat->Prop}{p:Nat}{l:List Pk}{H:zAd}{v:Value}{mv:List MV}{a:zRp}(hp:zNs P H v mv)(q:zNH R p l H)(hP:∀ b,P b->b<H.size)(ha:a.wf)(hl:mv.length+l.length<=40)(hO:zNR H)(hNG:NG<=H.size) :
  zAg prg zLD [v,Ptr p 0,.agg (zS7 a).toArray] H fun u H'=>zAeG (zA7 mv) l a H H' u/\Keep No H H':=by
 apply zOz
 unfold zPO
 simp only[zAN,zS9,zUt,zAs,zAx,Nat.zero_add,Nat.add_zero,zAa]
 generalize hH1:H.push (.cells (zS7 a).toArray zGS (0,0))=h1
 have k1:Keep No H h1:=by rw[<- hH1];exact Keep.push
 have a1:At h1 H.size (zS7 a):=by rw[<- hH1];exact At.push
 have s1:h1.size=H.size+1:=by rw[<- hH1];simp
 generalize hH2:h1.push (.cells (chC 0 zAY zAY zAY).toArray zAU (0,0))=h2
 have k2:Keep No h1 h2:=by rw[<- hH2];exact Keep.push
 have a2:At h2 h1.size (chC 0 zAY zAY zAY):=by rw[<- hH2];exact At.push
 have s2:h2.size=h1.size+1:=by rw[<- hH2];simp
 have k02:=k1.trans k2
 have a12:=a1.keep k2 id
 have hR:∀ b,R b->b<H.size:=by obtain⟨_,_,_,_,_,_,_,_,_,_,_,h⟩:=q;exact h
 have zone:∀ c ∈ chC 0 zAY zAY zAY,c.oneCell'=true:=zPE rfl rfl rfl
 have err:∀ (h:zAd) (e:Int),Keep No h2 h->zAin (zA7 mv) l a e ->
   Mwr (stN 4 h (Ptr h1.size 0) (.agg (chC 0 zAY zAY zAY).toArray)) fun h7=>Mpu (ldN 4 h7 (Ptr h1.size 0)) fun r8=>zAeG (zA7 mv) l a H h7 (.tuple #[r8,.int .i64 e])/\Keep No H h7:=fun h e k he=>by
  obtain⟨h7,st7,a7,k7⟩:=(a2.keep k id).st (n:=4) (ds:=chC 0 zAY zAY zAY) rfl rfl zone
  rw[st7,zAm,a7.ldN (n:=4) rfl,zAa]
  exact⟨.inl ⟨e,he,rfl⟩,(k02.trans k).fresh k7 fun b e=>by omega⟩
 have x0:∀ a b:Value,zDy 0 (.tuple #[a,b])=some a:=fun _ _=>rfl
 have x1:∀ a b:Value,zDy 1 (.tuple #[a,b])=some b:=fun _ _=>rfl
 have fin:∀ (hc h:zAd) (u:Value) (goal:List Man),zAgr (zA7 mv) l a goal->zOg a.kind (zA7 mv) l goal hc h u->h1.size<hc.size->At h h1.size (chC 0 zAY zAY zAY)->Keep No H h ->
   Mpu (zDy 0 u) fun t71=>Mpu (zDy 1 u) fun t72=>Mwr (stN 4 h (Ptr h1.size 0) t71) fun h30=>Mpu (ldN 4 h30 (Ptr h1.size 0)) fun r=>zAeG (zA7 mv) l a H h30 (.tuple #[r,t72])/\Keep No H h30:=fun hc h u goal hg hcr hs ac kc=>by
  rcases hcr with ⟨c1,rfl⟩ | ⟨c1,n0,z,col,d,s',t',dr,ad,af,rfl,c3,c4,c5⟩
  ·rw[x0,zAa,x1,zAa]
   obtain⟨h37,st37,a37,k37⟩:=ac.st (n:=4) (ds:=chC 0 zAY zAY zAY) rfl rfl zone
   rw[st37,zAm,a37.ldN (n:=4) rfl,zAa]
   exact⟨.inr ⟨goal,hg,.inl ⟨c1,rfl⟩⟩,kc.fresh k37 fun b e=>by omega⟩
  ·rw[x0,zAa,x1,zAa]
   obtain⟨h37,st37,a37,k37⟩:=ac.st (n:=4) (ds:=chC a.kind d s' t') rfl rfl (zPE c4.bd.sl.oneC c4.bs.sl.oneC c4.bt.sl.oneC)
   rw[st37,zAm,a37.ldN (n:=4) rfl,zAa]
   exact⟨.inr ⟨goal,hg,.inr ⟨c1,n0,z,_,d,s',t',dr,ad,af,rfl,by omega,c4.low k37 fun b e => .inl (by have:=c4.zl;omega),c5⟩⟩,kc.fresh k37 fun b e=>by omega⟩
 refine zAk (zQ9 (hp.keep k02 fun _ _=>id) (fun b hb=>by have:=hP b hb;omega) (by omega) (hO.keep k02 fun _ h=>h.elim)) ?_
 rintro _ h3 ⟨rfl,k3⟩
 have a13:=a12.keep k3 id
 rw[zAq,zAa]
 refine zXT (fun e=>zOX rfl (err _ 10 k3 (.inl ⟨by rw[Bool.and_eq_false_iff];left;simpa using e,rfl⟩))) fun hr=>?_
 have hr:zG5 (zA7 mv)=true:=by simpa using hr
 rw[a13.ldN (zWL ha),zAa]
 refine zAk (zXC ha (hO.keep (k02.trans k3) fun _ h=>h.elim)) ?_
 rintro _ h5 ⟨rfl,k5⟩
 have k25:=k3.trans k5
 have a15:=a13.keep k5 id
 rw[zAq,zAa]
 refine zZX (fun e=>err _ 10 k25 (.inl ⟨by rw[Bool.and_eq_false_iff];right;simpa using e,rfl⟩)) fun hao=>?_
 have hao:zPD a=true:=by simpa using hao
 have good:(zG5 (zA7 mv) && zPD a)=true:=by rw[hr,hao];rfl
 obtain⟨kd1,kd2⟩:=zXD hao
 rw[zQh a15,zAa]
 refine zAk (zZT (hp.keep (k02.trans k25) fun _ _=>id) (by omega)) ?_
 rintro _ h9 ⟨rfl,k9⟩
 have k29:=k25.trans k9
 have a19:=a15.keep k9 id
 rw[zWM a19 ha,zAa]
 refine zAhE (z:=zDl zSR) zAfJ (zEs zQa) (zEs ha.want) zQX fun h11 a11 k11=>?_
 have k211:=k29.trans k11
 have a111:=a19.keep k11 id
 have dk:=zLZ a111
 have g29:=k29.1
 have g211:=k211.1
 have hqn:h9.size≠h1.size:=by omega
 refine J3_i (fun _ _ _ h=>zTa (zA7 mv) a/\At h h9.size (zDl (zRj (zA7 mv) a))/\Keep No h9 h) (fun k12 hk12=>?_) ?_
 ·refine zCO dk (zCO eqI (zZW (fun e1=>?_) fun e1=>?_))
  ·have e1:=of_decide_eq_true e1
   have hw:zRj (zA7 mv) a=a.want:=by unfold zRj;rw[if_neg (by omega)]
   rcases zAcZ (p:=fun m=>decide (m.name=a.name)) (mv:=mv) with ⟨i1,i2⟩ | ⟨i,y,i1,i2,i3⟩
   ·refine zCO geZ (zPC (by rw[i1];rfl) (zCO dk (zCO neI (zZW (fun e=>absurd e (by simp[e1])) fun _=>zPC rfl ?_))))
    refine zCO dk (zCO eqI (zZW (fun e=>absurd e (by simp[e1])) fun _=>zPC rfl ?_))
    refine zCO dk (zCO eqI (zPC (by simp[e1]) (zCO dk (zCO eqI (zPC (by simp[e1]) (hk12 _ _ _ _ ⟨⟨by omega,fun _=>by unfold zXU;rw[i2];rfl,fun h=>absurd e1 h⟩,by rw[hw];exact a11,k11⟩))))))
   ·exact zCO geZ (zOX (by rw[i1];simp) (err _ 44 k211 (.inr ⟨good,.inl ⟨e1,by unfold zXU;rw[i3];rfl,rfl⟩⟩)))
  ·have e1:a.kind≠1:=of_decide_eq_false e1
   refine zPC rfl (zCO dk (zCO neI (zZW (fun _=>?_) fun e=>absurd e (by simp[e1]))))
   rcases zAcZ (p:=fun m=>decide (m.name=a.name)) (mv:=mv) with ⟨i1,i2⟩ | ⟨i,y,i1,i2,i3⟩
   ·exact zCO ltZ (zOX (by rw[i1];rfl) (err _ 14 k211 (.inr ⟨good,.inr (.inl ⟨e1,by unfold zXU;rw[i2];rfl,rfl⟩)⟩)))
   have hh:zXU (zA7 mv) a.name=true:=by unfold zXU;rw[i3];rfl
   have hil:=(List.getElem?_eq_some_iff.1 i2).1
   have hyn:y.1.name=a.name:=by have:=List.find?_some i3;simpa using this
   refine zCO ltZ (zPC (by rw[i1];simp) (zCO dk (zCO eqI (zZW (fun e3=>?_) fun e3=>zPC rfl ?_))))
   ·have e3:=of_decide_eq_true e3
    rw[zQh a111,zAa]
    refine zAk (zAbU (hp.keep (k02.trans k211) fun _ _=>id) (by omega)) ?_
    rintro _ h23 ⟨rfl,k23⟩
    have k223:=k211.trans k23
    refine zZX (fun e=>err _ 43 k223 (.inr ⟨good,.inr (.inr (.inl ⟨e3,hh,e,rfl⟩))⟩)) fun hnd=>?_
    have a123:=a111.keep k23 id
    have dk23:=zLZ a123
    have k023:=k02.trans k223
    have ei:zAh .no .add (.int .i64 (zRo (fun x:MV=>decide (x.1.name=a.name)) mv 0)) (.int .i64 1)=some (.int .i64 ((i+1:Nat):Int)):=by rw[i1];exact zAG (by omega)
    refine zCO dk23 (zCO eqI (zOX (by simp[e3]) (zCO dk23 (zCO ei ?_))))
    have hcl:=(hp.keep k023 fun _ _=>id).h
    refine zAk (zSc hcl (by simp;omega)) ?_
    rintro t65 h27 ⟨b27,k27⟩
    have a127:=a123.keep k27 id
    rw[zLZ a127,zAw,zAr,i1]
    have k027:=k023.trans k27
    have g27:=k27.1
    refine zAk (zVx b27 (by simpa using hil) (by simp;omega)) ?_
    rintro t69 h28 ⟨b28,k28⟩
    have kw:∀ b,(h23.size<=b/\b<h27.size)->¬ b<H.size:=fun b hb=>by have:=k023.1;omega
    have k028:Keep No H h28:=k027.fresh k28 fun b hb=>by have:=k023.1;omega
    have a128:At h28 H.size (zS7 a):=a127.keep k28 fun hb=>by have:=a123.lt;omega
    rw[zLZ a128,zAw,zAr]
    have hsub:∀ x ∈ mv.take i++mv.drop (i+1),x ∈ mv:=fun x hx=>(List.mem_append.1 hx).elim List.mem_of_mem_take List.mem_of_mem_drop
    rw[<- zAad]at b28
    have g028:=k028.1
    have g023:=k023.1
    have hpo:zS8 mv:=zVy (by unfold zG5 at hr;rw[Bool.and_eq_true]at hr;exact hr.2) (zUv hr)
    have hrm:zS8 (mv.take i++mv.drop (i+1)):=by
     unfold zS8 at *
     refine hpo.sublist ?_
     have h1:List.Sublist (mv.drop (i+1)) (mv.drop i):=by rw[<- List.drop_drop];exact List.drop_sublist _ _
     have h2:=(List.Sublist.refl (mv.take i)).append h1
     rwa [List.take_append_drop]at h2
    have hp28:=hp.keep k028 fun _ _=>id
    refine zAk (zWN (kind:=a.kind) (PG:=P) hp28 (q.keep k028 fun _ _=>id) b28 (fun x hx=>hp28.m x (hsub x hx)) (fun x hx=>hp28.sm x (hsub x hx)) (fun x hx=>by have:=zRi hr x.1 (List.mem_map.2 ⟨x,hx,rfl⟩);omega) hrm
     (fun b hb=>by
      have hbl:b<H.size:=hb.elim (hP b) fun hb=>hb.elim (hR b) (hP b)
      exact⟨by omega,fun hf=>by omega⟩)
     (fun b hb=>by have:=k28.1;omega) (by omega) (by simp;omega) (by omega) (hO.keep k028 fun _ h=>h.elim) fun h k=>(hO.keep k028 fun _ h=>h.elim).keep k fun b hb=>by omega) ?_
    rintro u h36 ⟨hcr,k36⟩
    have hgl:zA7 (mv.take i++mv.drop (i+1))=(zA7 mv).filter fun m=>!decide (m.name=a.name):=by
     show List.map _ _=_
     rw[zAad]
     exact zSf (zUv hr) (by rw[List.getElem?_map,i2];rfl) hyn
    rw[hgl]at hcr
    have a223:=a2.keep k223 id
    have a228:At h28 h1.size (chC 0 zAY zAY zAY):=(a223.keep k27 id).keep k28 fun hb=>by have:=a223.lt;omega
    refine fin h28 h36 u _ ⟨good,.inl ⟨e3,hh,hnd,rfl⟩⟩ hcr a228.lt (a228.keep k36 fun hb=>by have:=a223.lt;omega) (k028.fresh k36 fun b hb=>by omega)
   ·have e3:a.kind≠3:=of_decide_eq_false e3
    have e2:a.kind=2:=by omega
    obtain⟨hmy,b,o,hix,hpt,_⟩:=(hp.keep (k02.trans k211) fun _ _=>id).at i2
    have wy:=hmy.wf
    have hw:zRj (zA7 mv) a=⟨[62],y.1.ver⟩:=by unfold zRj;rw[if_pos e2,i3]
    refine zCO dk (zCO eqI (zPC (by simp[e3]) (zCO dk (zCO eqI (zOX (by simp[e2]) ?_)))))
    rw[i1,hix .i64,zAa,zAx,zAa,zUe hpt wy,zAa]
    refine zCO (zZ5 (op:=[62]) wy.ver) ?_
    obtain⟨h32,st32,a32,k32⟩:=a11.st (n:=5) (ds:=zDl ⟨[62],y.1.ver⟩) (zEs ha.want) (zEs ⟨wy.ver,by simp⟩) zQX
    refine⟨h32,st32,hk12 _ _ _ _ ⟨⟨e3,fun h=>absurd h e1,fun _=>hh⟩,by rw[hw];exact a32,k11.fresh k32 fun b e=>by omega⟩⟩
 rintro _ _ _ h13 ⟨hch,a13',k13⟩
 have hww:(zRj (zA7 mv) a).wf:=by
  unfold zRj
  split
  ·cases hf:(zA7 mv).find? (fun m=>decide (m.name=a.name)) with
   | none=>exact ha.want
   | some o =>
    obtain⟨x,hx,rfl⟩:=List.mem_map.1 (List.mem_of_find?_eq_some hf)
    exact⟨(hp.m x hx).wf.ver,by simp⟩
  ·exact ha.want
 have k213:=k29.trans k13
 have k013:=k02.trans k213
 have g013:=k013.1
 have a113:=a19.keep k13 id
 rw[a113.ldN (zWL ha),zAa,a13'.ldN (zEs hww),zAa]
 refine zAk (zAbV (hp.keep k013 fun _ _=>id) (q.keep k013 fun _ _=>id) (fun b hb=>by have:=hP b hb;omega) ha hww hl (hO.keep k013 fun _ h=>h.elim)) ?_
 rintro u h33 ⟨hu,k33⟩
 have g33:=k33.1
 have k233:=k213.trans k33
 rcases hu with ⟨hpo,rfl⟩ | ⟨hpo,r,s,hrun,hu⟩
 ·rw[x0,zAa,x1,zAa]
  exact zCO neI (zOX (by decide) (err _ 10 k233 (.inr ⟨good,.inr (.inr (.inr ⟨hch,.inl ⟨hpo,rfl⟩⟩))⟩)))
 cases r with
 | fail =>
  obtain rfl:=hu
  rw[x0,zAa,x1,zAa]
  exact zCO neI (zOX (by decide) (err _ 40 k233 (.inr ⟨good,.inr (.inr (.inr ⟨hch,.inr ⟨hpo,.inl ⟨⟨s,hrun⟩,rfl⟩⟩⟩))⟩)))
 | over =>
  obtain rfl:=hu
  rw[x0,zAa,x1,zAa]
  exact zCO neI (zOX (by decide) (err _ 42 k233 (.inr ⟨good,.inr (.inr (.inr ⟨hch,.inr ⟨hpo,.inr ⟨⟨s,hrun⟩,rfl⟩⟩⟩))⟩)))
 | ok ks =>
  obtain⟨hns,t,goal,Fg,rfl,hgv,hbg,hFg,hmg,hsg⟩:=hu
  rw[x0,zAa,x1,zAa]
  refine zCO neI (zPC (by decide) (zCO (zLZ (a113.keep k33 id)) ?_))
  have k033:=k013.trans k33
  have hthere:(zFl (zA7 mv) l).length<=40:=by
   unfold zFl
   have h1:=List.length_filter_le (zXB (zA7 mv)) (l.map (·.1))
   rw[List.length_map]at h1
   rw[List.length_append,List.length_map];omega
  have hgl:goal.length<=40:=by
   have h1:=congrArg List.length hgv
   rw[List.length_map,List.length_map]at h1
   have h2:=hns.sorted.len
   omega
  refine zAk (zWN (kind:=a.kind) (hp.keep k033 fun _ _=>id) (q.keep k033 fun _ _=>id) hbg hmg hsg (fun x hx=>by have:=zRi hr x.1 (List.mem_map.2 ⟨x,hx,rfl⟩);omega) (zAb0 hgv (zOd hns)) (fun b hb=>?_) (fun b hb=>(hFg b hb).2) (by omega) (by omega) (by omega) (hO.keep k033 fun _ h=>h.elim) fun h k=>(hO.keep k033 fun _ h=>h.elim).keep k fun b hb=>by have:=(hFg b hb).1;omega) ?_
  ·rcases hb with hb | hb | hb
   ·have:=hP b hb
    exact⟨by omega,fun hf=>by have:=(hFg b hf).1;omega⟩
   ·have:=hR b hb
    exact⟨by omega,fun hf=>by have:=(hFg b hf).1;omega⟩
   ·refine⟨?_,hb.2⟩
    rcases hb.1 with h | h | h
    ·have:=hP b h;omega
    ·have:=hR b h;omega
    ·omega
  rintro u h36 ⟨hcr,k36⟩
  rw[hgv]at hcr
  have g013':=k213.1
  exact fin h33 h36 u _ ⟨good,.inr ⟨hch,hpo,ks,⟨s,hrun⟩,hns,rfl⟩⟩ hcr (by omega) ((a2.keep k233 id).keep k36 fun hb=>by have:=(hFg _ hb).1;omega) (k033.fresh k36 fun b hb=>by have:=(hFg b hb).1;omega)
theorem zAeH {P R:Nat->Prop}{p:Nat}{l:List Pk}{H:zAd}{v:Value}{mv:List MV}{a:zRp}(hp:zNs P H v mv)(q:zNH R p l H)(hP:∀ b,P b->b<H.size)(ha:a.wf)(hk1:a.kind=1)(hl:mv.length+l.length<=40)(hO:zNR H)(hNG:NG<=H.size) :
  zAg prg zLD [v,Ptr p 0,.agg (zS7 a).toArray] H fun u H'=>zAhF 1 (zA7 mv) l a H H' u/\Keep No H H':=by
 refine zAg.mono (zAgs hp q hP ha hl hO hNG) ?_
 rintro u H' ⟨hm,k⟩
 refine⟨?_,k⟩
 have hw:zRj (zA7 mv) a=a.want:=by unfold zRj;rw[if_neg (by omega)]
 have hn:∀ {b},zXU (zA7 mv) a.name=b->((zA7 mv).find? (fun m=>decide (m.name=a.name))).isSome=b:=fun h=>h
 have pg:zAac (zA7 mv) l a=zGw (zFl (zA7 mv) l) (zPX (zA7 mv) a.name a.want) a.bound:=by unfold zAac;rw[hw]
 have rg:∀ {r},zAgq (zA7 mv) l a r->∃ s,Run (zFl (zA7 mv) l) a.bound.toNat (.sol [] (zPX (zA7 mv) a.name a.want)) 0 r s:=fun h=>by unfold zAgq at h;rwa [hw]at h
 rcases hm with ⟨e,he,rfl⟩ | ⟨goal,⟨good,hg⟩,hc⟩
 ·rcases he with ⟨h1,rfl⟩ | ⟨good,h⟩
  ·exact .inl ⟨h1,rfl⟩
  refine .inr ⟨good,?_⟩
  rcases h with ⟨_,h2,rfl⟩ | ⟨h1,_⟩ | ⟨h1,_⟩ | ⟨⟨_,h1,_⟩,h2⟩
  ·exact .inl ⟨h2,rfl⟩
  ·exact absurd hk1 h1
  ·omega
  ·have:=hn (h1 hk1)
   refine .inr ⟨by simpa using this,?_⟩
   rw[pg]at h2
   rcases h2 with ⟨h2,rfl⟩ | ⟨h2,⟨h3,rfl⟩ | ⟨h3,rfl⟩⟩
   ·exact .inl ⟨h2,rfl⟩
   ·obtain⟨s,h3⟩:=rg h3
    exact .inr ⟨h2,.fail,s,h3,rfl⟩
   ·obtain⟨s,h3⟩:=rg h3
    exact .inr ⟨h2,.over,s,h3,rfl⟩
 ·refine .inr ⟨good,?_⟩
  rcases hg with ⟨h1,_⟩ | ⟨⟨_,h1,_⟩,h2,ks,h3,h4,rfl⟩
  ·omega
  ·have:=hn (h1 hk1)
   rw[pg]at h2
   obtain⟨s,h3⟩:=rg h3
   rw[hk1]at hc
   exact .inr ⟨by simpa using this,.inr ⟨h2,.ok ks,s,h3,hc⟩⟩
end Go.Proofs.YticdfkoncnnmmaaGreatDoor
