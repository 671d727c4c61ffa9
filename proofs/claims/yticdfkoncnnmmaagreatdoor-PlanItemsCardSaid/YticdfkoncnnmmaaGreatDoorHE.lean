import Derived.Test.YticdfkoncnnmmaaGreatDoorHD
set_option linter.unusedSimpArgs false
set_option linter.unusedVariables false
namespace Go.Proofs.YticdfkoncnnmmaaGreatDoor
open Go.X Go.X.Diff Go.MapKept
set_option maxRecDepth 100000
set_option linter.unusedSimpArgs false
set_option linter.unusedVariables false
theorem zWe:structK prg zAK=some([(0,1),(1,1),(2,1),(3,1)],(chC 0 nilS nilS nilS).toArray):=by kernel_rfl
theorem zWf{n:Int}:buildV prg zAK [(0,.int .i64 n)]=some(.agg(chC n nilS nilS nilS).toArray):=by rw[zDI zWe];rfl
theorem zQs:buildV prg zAK []=some(.agg(chC 0 nilS nilS nilS).toArray):=by kernel_rfl
theorem zOC:zcells prg zAK=some(chC 0 nilS nilS nilS).toArray:=by kernel_rfl
theorem zKB{n:Int}{d s t:Value}(h1:d.oneCell'=true)(h2:s.oneCell'=true)(h3:t.oneCell'=true):∀ c ∈ chC n d s t,c.oneCell'=true:=fun c hc=>by
  simp only[chC,List.mem_cons,List.not_mem_nil,or_false]at hc
  rcases hc with rfl | rfl | rfl | rfl
  · rfl
  · exact h1
  · exact h2
  · exact h3
def zPk:Pk:=pkOf zPW
def findPk(l:List Pk)(m:Man):Pk:=(l.find?(sameAt m.name m.ver)).getD zPk
theorem zS3:∀ {l:List Man}{ps:List(List UInt8)}{of:OwnL},ownE ps of l=0→∀ m ∈ l,manOkG m=true
  | [],_,_,_,m,h=>by cases h
  | x :: l,ps,of,h,m,hm=>by
    rw[ownE]at h
    by_cases h0:ownAdd ps of x=0
    · rw[if_pos h0]at h
      rcases List.mem_cons.1 hm with rfl | hm
      · exact(zRN h0).1
      · exact zS3 h m hm
    · rw[if_neg h0]at h;exact absurd h h0
theorem zQt{l:List Man}(h:rightP l=true):∀ m ∈ l,m.files.length≤64:=fun m hm=>by
  unfold rightP at h
  simp only[Bool.and_eq_true,decide_eq_true_eq]at h
  exact(zGC(zS3 h.1 m hm)).1
def ChangeR(kind:Int)(inst:List Man)(l:List Pk)(goal:List Man)(H H':Heap)(u:Value):Prop :=
  (rightP goal=false∧u = .tuple #[.agg(chC 0 nilS nilS nilS).toArray,.int .i64 41]) ∨
  (rightP goal=true∧∃ n0 z col d s t dr ad af,u = .tuple #[.agg(chC kind d s t).toArray,.int .i64 0]∧H.size≤z∧ChI n0 z kind col d s t dr ad af H' ∧
    hvOf dr=inst.filter(fun m=>!justP goal m)∧ad.map pkOf=(goal.filter fun m=>!justP inst m).map(findPk l)∧hvOf af=goal)
theorem zYi{Q:Nat→Prop}{h:Heap}:PkV Q h zPW:=⟨⟨SlE.nil,SlE.nil,SlE.nil,zM_wf⟩,⟨SlE.nil,fun x hx=>(by cases hx)⟩,by decide,by decide,by decide,by decide,fun y hy=>(by cases hy)⟩
set_option maxHeartbeats 4000000 in
theorem zWg{P R PG Fg:Nat→Prop}{p:Nat}{l:List Pk}{H:Heap}{v g:Value}{mv goal:List MV}{kind:Int}(hp:MLst P H v mv)(q:PoolR R p l H)(hb:BufE 8 Fg H g(goal.map mvC))(hg:∀ x ∈ goal,ManV PG H x.1 x.2.1 x.2.2.1 x.2.2.2)
    (hgs:∀ x ∈ goal,x.1.deps.length≤1000∧x.1.conf.length≤1000)(hmf:∀ x ∈ mv,x.1.files.length≤1000)(hr:RiseM goal)(hPF:∀ b,P b∨R b∨PG b→b<H.size∧¬ Fg b)(hF:∀ b,Fg b→b<H.size)(hml:mv.length≤1000)(hgl:goal.length≤1000)(hll:l.length≤1000)(hO:OpsT H)(hOF:∀ h,Keep Fg H h→OpsT h) :
    HCalls prg zHz [.int .i64 kind,v,Ptr p 0,g] H fun u H'=>ChangeR kind(hvOf mv)l(hvOf goal)H H' u∧Keep Fg H H':=by
  apply zMu
  unfold zL5
  simp only[zOC,zWf,zQs,zAp,zAq,Nat.zero_add,Nat.add_zero,zAa]
  generalize hH1:H.push(.cells(chC 0 nilS nilS nilS).toArray zAK(0,0))=h1
  have k1:Keep(fun _=>False)H h1:=by rw[← hH1];exact Keep.push
  have a1:At h1 H.size(chC 0 nilS nilS nilS):=by rw[← hH1];exact At.push
  have s1:h1.size=H.size+1:=by rw[← hH1];simp
  refine zAf(zU0(hb.keep k1 fun _ _=>id)hr(fun b h=>by have:=hF b h;omega)(by omega))?_
  rintro _ h2⟨hb2,k2⟩
  have g2:=k2.1
  have k02:Keep Fg H h2:=(k1.mono fun _ _ h=>h.elim).trans k2
  have a2:=a1.keep k2 fun h=>by have:=hF _ h;omega
  let PGF:Nat→Prop:=fun b=>PG b∨Fg b
  have hPGF:∀ b,PGF b→b<H.size:=fun b h=>h.elim(fun h=>(hPF b(.inr(.inr h))).1)(hF b)
  have mg:∀ h,Keep(fun b=>H.size≤b)h2 h→MLst PGF h g goal:=fun h k=>⟨(hb2.keep k fun b h e=>by have:=hF b h;omega).sl.mono fun b h => .inr h,fun x hx=>(((hg x hx).keep k02 fun b h=>(hPF b(.inr(.inr h))).2).keep k fun b h e=>by have:=(hPF b(.inr(.inr h))).1;omega).mono fun b h => .inl h,hgs⟩
  refine zAf(zOf(mg _ Keep.refl)(fun b h=>by have:=hPGF b h;omega)(by omega)(hOF _ k02))?_
  rintro _ h3⟨rfl,k3⟩
  have g3:=k3.1
  have k03:=k02.trans(k3.mono(S':=Fg)fun _ _ h=>h.elim)
  have a3:=a2.keep k3 id
  rw[zAl,zAa,zAb]
  cases hrt:rightP(hvOf goal)
  · rw[if_pos(by rfl)]
    obtain⟨h4,st4,a4,k4⟩:=a3.st(n:=4)(ds:=chC 0 nilS nilS nilS)rfl rfl(zKB rfl rfl rfl)
    rw[st4,zAi,a4.ldN(n:=4)rfl,zAa]
    exact⟨.inl⟨hrt,rfl⟩,k03.fresh' k4 fun b e => .inr(by omega)⟩
  rw[if_neg(by decide)]
  have hgf:∀ x ∈ goal,x.1.files.length≤1000:=fun x hx=>by have:=zQt hrt x.1(List.mem_map.2⟨x,hx,rfl⟩);omega
  generalize hH6:h3.push(.cells(chC 0 nilS nilS nilS).toArray zAK(0,0))=h6
  have k6:Keep(fun _=>False)h3 h6:=by rw[← hH6];exact Keep.push
  have a6:At h6 h3.size(chC 0 nilS nilS nilS):=by rw[← hH6];exact At.push
  have s6:h6.size=h3.size+1:=by rw[← hH6];simp
  obtain⟨h7,st7,a7,k7⟩:=a6.st(n:=4)(ds:=chC kind nilS nilS nilS)rfl rfl(zKB rfl rfl rfl)
  have g7:=k7.1
  rw[st7,zAi]
  have k37:Keep(fun _=>False)h3 h7:=k6.fresh k7 fun b e=>by omega
  have k27:Keep(fun _=>False)h2 h7:=k3.trans k37
  have k07:Keep Fg H h7:=k03.trans(k37.mono fun _ _ h=>h.elim)
  have a17:=a3.keep k37 id
  generalize hn0:h7.size=n0 at *
  generalize hz0:h3.size=z at *
  have hc0:ChI n0 z kind(fun _=>0)nilS nilS nilS [] [] [] h7:=⟨a7,BufE.nil,BufE.nil,BufE.nil,fun x hx=>(by cases hx),fun x hx=>(by cases hx),fun x hx=>(by cases hx),by omega,by omega⟩
  have inM:∀ h,Keep(fun b=>n0≤b∨b=z)h7 h→MLst P h v mv:=fun h k=>(hp.keep k07 fun b h=>(hPF b(.inl h)).2).keep k fun b h e=>by have:=(hPF b(.inl h)).1;omega
  have inP:∀ h,Keep(fun b=>n0≤b∨b=z)h7 h→PoolR R p l h:=fun h k=>(q.keep k07 fun b h=>(hPF b(.inr(.inl h))).2).keep k fun b h e=>by have:=(hPF b(.inr(.inl h))).1;omega
  have inG:∀ h,Keep(fun b=>n0≤b∨b=z)h7 h→MLst PGF h g goal:=fun h k=>mg h((k27.mono fun _ _ h=>h.elim).trans(k.mono fun b _ e=>by show H.size≤b;omega))
  let inst:=hvOf mv
  let gh:=hvOf goal
  let I1:Nat→Heap→Prop:=fun i h=>∃ col d dr,ChI n0 z kind col d nilS nilS dr [] [] h∧hvOf dr=(inst.take i).filter(fun m=>!justP gh m)∧dr.length≤i∧Keep(fun b=>n0≤b∨b=z)h7 h
  have hil:inst.length=mv.length:=by simp[inst]
  have hgln:gh.length=goal.length:=by simp[gh]
  refine J1_i(fun _ h=>I1 mv.length h)(fun k8 hk8=>?_)?_
  · rw[hp.len,zAa]
    refine L1_i(fun w h=>∃ i:Nat,i≤mv.length∧w = .int .i64(i:Nat)∧I1 i h)(fun w _=>match w with | .int _ t=>mv.length - t.toNat | _=>0)⟨0,Nat.zero_le _,rfl,_,_,[],hc0,rfl,Nat.le_refl _,Keep.refl⟩?_
    rintro _ h11⟨i,hi,rfl,col,d,dr,c11,hdr,hdl,k711⟩k10 hk10
    rw[ltNn,zAa,zAb]
    by_cases hlt:i<mv.length
    rotate_left
    · rw[if_neg(by simpa using hlt)]
      obtain rfl:i=mv.length:=by omega
      exact hk8 _ _⟨col,d,dr,c11,hdr,hdl,k711⟩
    rw[if_pos(by simpa using hlt)]
    have hgi:mv[i]? = some mv[i]:=List.getElem?_eq_getElem hlt
    have hxm:=List.getElem_mem hlt
    generalize mv[i]=x at *
    have hgh:inst[i]? = some x.1:=by show(hvOf mv)[i]? = _;rw[List.getElem?_map,hgi];rfl
    have hm11:=inM h11 k711
    obtain⟨hmx,b,o,hix,hpt,_⟩:=hm11.at hgi
    have w:=hmx.wf
    have hsx:=hp.sm x hxm
    have hfx:=hmf x hxm
    have n11:=c11.n
    refine J0_i(fun h=>I1(i+1)h)(fun k12 hk12=>?_)?_
    rotate_left
    · intro h13 hI
      rw[zAv(by omega),zAa]
      exact hk10 _ _⟨i+1,by omega,rfl,hI⟩(by show mv.length - (i+1)<mv.length - i;omega)
    rw[hix .i64,zAa,zD4 hpt w,zAa]
    simp only[zFg,zAp]
    generalize hH14:h11.push(.cells(manC⟨[],zeroV,[],[],[]⟩nilS nilS nilS).toArray zAc(0,0))=h14
    have k14:Keep(fun _=>False)h11 h14:=by rw[← hH14];exact Keep.push
    have a14:At h14 h11.size(manC⟨[],zeroV,[],[],[]⟩nilS nilS nilS):=by rw[← hH14];exact At.push
    obtain⟨h15,st15,a15,k15⟩:=a14.st(n:=8)(ds:=mvC x)(zAw zM_wf)(zAw w)(zCL hmx)
    have k1115:Keep(fun _=>False)h11 h15:=k14.fresh k15 fun b e=>by omega
    have k715:Keep(fun b=>n0≤b∨b=z)h7 h15:=k711.trans(k1115.mono fun _ _ h=>h.elim)
    rw[st15,zAi,a15.ldN(zAw w),zAa]
    refine zAf(zUU(inG _ k715)(hmx.keep k1115 fun _ _=>id)(by omega)hgf)?_
    rintro _ h16⟨rfl,k16⟩
    have k1116:=k1115.trans k16
    have a16:=a15.keep k16 id
    have c16:=c11.fresh k1116
    rw[zAl,zAa,zAb]
    cases hj:justP gh x.1
    rotate_left
    · rw[if_neg(by decide)]
      exact hk12 _⟨_,d,dr,c16,by rw[zEO hgh,hj,hdr];simp,by omega,k711.trans(k1116.mono fun _ _ h=>h.elim)⟩
    rw[if_pos(by rfl),c16.a.ld(i:=1)rfl,zAa,a16.ldN(zAw w),zAa]
    refine zAf(zNy(hmx.keep k1116 fun _ _=>id)hsx.1 hsx.2 hfx)?_
    rintro _ h17⟨⟨vd,vc,vf,rfl,hm17⟩,k17⟩
    have g16:=k1116.1
    have g17:=k17.1
    have k1117:=k1116.trans k17
    generalize hy:(x.1,vd,vc,vf)=y at *
    have hy1:y.1=x.1:=by rw[← hy]
    have hmy:ManV(fun b=>h16.size≤b∧b<h17.size)h17 y.1 y.2.1 y.2.2.1 y.2.2.2:=by rw[← hy];exact hm17
    have wy:=hmy.wf
    rw[(c16.a.keep k17 id).ld(i:=1)rfl,zAo,zAm,zMg(zAw wy),zAJ]
    have hrow:=zFO(x:=mvC y)(T:=zAc)(h:=h17)(n:=8)(zAw wy:(mvC y).length=8)(zCL hmy)
    have kp:Keep(fun _=>False)h17(h17.push(.cells(mvC y).toArray zAc(0,0))):=Keep.push
    have sp:(h17.push(.cells(mvC y).toArray zAc(0,0))).size=h17.size+1:=by simp
    generalize h17.push(.cells(mvC y).toArray zAc(0,0))=h18 at *
    have k1118:=k1117.trans kp
    have c18:=c11.fresh k1118
    rw[c18.a.ld(i:=1)rfl,zAo,zAm]
    refine c18.addD((hmy.keep kp fun _ _=>id).mono fun b hb=>Own.new c11.n(by omega)(by omega))hrow(by omega)fun h20 col' d' c20 k20=>?_
    refine hk12 _⟨col',d',dr++[y],c20,?_,by rw[List.length_append,List.length_singleton];omega,(k711.trans(k1118.mono fun _ _ h=>h.elim)).trans(c18.coarse k20)⟩
    rw[zEO hgh,hj,← hdr]
    simp[hvOf,hy1]
  rintro _ h9⟨col9,d,dr,c9,hdr,hdl,k79⟩
  rw[List.take_of_length_le(by omega)]at hdr
  let I2:Nat→Heap→Prop:=fun i h=>∃ col s t ad af,ChI n0 z kind col d s t dr ad af h∧hvOf af=gh.take i∧ad.map pkOf=((gh.take i).filter fun m=>!justP inst m).map(findPk l)∧Keep(fun b=>n0≤b∨b=z)h7 h
  refine J1_i(fun _ h=>I2 goal.length h)(fun k21 hk21=>?_)?_
  rotate_left
  · rintro _ h22⟨col,s,t,ad,af,c22,haf,had,k722⟩
    have a22:At h22 H.size(chC 0 nilS nilS nilS):=a17.keep k722 fun e=>by omega
    have o1:d.oneCell'=true:=c22.bd.sl.oneC
    have o2:s.oneCell'=true:=c22.bs.sl.oneC
    have o3:t.oneCell'=true:=c22.bt.sl.oneC
    obtain⟨h40,st40,a40,k40⟩:=a22.st(n:=4)(ds:=chC kind d s t)rfl rfl(zKB o1 o2 o3)
    rw[c22.a.ldN(n:=4)rfl,zAa,st40,zAi,a40.ldN(n:=4)rfl,zAa]
    rw[List.take_of_length_le(by omega)]at haf had
    refine⟨.inr⟨hrt,n0,z,_,d,s,t,dr,ad,af,rfl,by omega,c22.low k40 fun b e => .inl⟨by omega,by omega⟩,hdr,had,haf⟩,(k07.fresh' k722 fun b e => .inr(by omega)).fresh' k40 fun b e => .inr(by omega)⟩
  rw[(inG _ Keep.refl).len,zAa]
  refine L1_i(fun w h=>∃ i:Nat,i≤goal.length∧w = .int .i64(i:Nat)∧I2 i h)(fun w _=>match w with | .int _ t=>goal.length - t.toNat | _=>0)⟨0,Nat.zero_le _,rfl,col9,nilS,nilS,[],[],c9,rfl,rfl,k79⟩?_
  rintro _ h24⟨i,hi,rfl,col,s,t,ad,af,c24,haf,had,k724⟩k23 hk23
  rw[ltNn,zAa,zAb]
  by_cases hlt:i<goal.length
  rotate_left
  · rw[if_neg(by simpa using hlt)]
    obtain rfl:i=goal.length:=by omega
    exact hk21 _ _⟨col,s,t,ad,af,c24,haf,had,k724⟩
  rw[if_pos(by simpa using hlt)]
  have hgi:goal[i]? = some goal[i]:=List.getElem?_eq_getElem hlt
  have hxm:=List.getElem_mem hlt
  generalize goal[i]=x at *
  have hgh:gh[i]? = some x.1:=by show(hvOf goal)[i]? = _;rw[List.getElem?_map,hgi];rfl
  obtain⟨hmx,b,o,hix,hpt,_⟩:=(inG h24 k724).at hgi
  have w:=hmx.wf
  have hsx:=hgs x hxm
  have hfx:=hgf x hxm
  have n24:=c24.n
  have hafl:af.length=i:=by
    have:=congrArg List.length haf
    rw[List.length_map,List.length_take]at this;omega
  have hadl:ad.length≤i:=by
    have h1:=congrArg List.length had
    rw[List.length_map,List.length_map]at h1
    have h2:=List.length_filter_le(fun m=>!justP inst m)(gh.take i)
    rw[List.length_take]at h2;omega
  refine J0_i(fun h=>I2(i+1)h)(fun k25 hk25=>?_)?_
  rotate_left
  · intro h26 hI
    rw[zAv(by omega),zAa]
    exact hk23 _ _⟨i+1,by omega,rfl,hI⟩(by show goal.length - (i+1)<goal.length - i;omega)
  rw[hix .i64,zAa,zD4 hpt w,zAa]
  simp only[zFg,z_Pkg,zAp]
  generalize hH27:h24.push(.cells(manC⟨[],zeroV,[],[],[]⟩nilS nilS nilS).toArray zAc(0,0))=h27
  have k27':Keep(fun _=>False)h24 h27:=by rw[← hH27];exact Keep.push
  have a27:At h27 h24.size(manC⟨[],zeroV,[],[],[]⟩nilS nilS nilS):=by rw[← hH27];exact At.push
  obtain⟨h28,st28,a28,k28⟩:=a27.st(n:=8)(ds:=mvC x)(zAw zM_wf)(zAw w)(zCL hmx)
  have k2428:Keep(fun _=>False)h24 h28:=k27'.fresh k28 fun b e=>by omega
  have g28:=k2428.1
  have l28:=a28.lt
  rw[st28,zAi,(c24.fresh k2428).a.ld(i:=3)rfl,zAa,a28.ldN(zAw w),zAa]
  refine zAf(zNy(hmx.keep k2428 fun _ _=>id)hsx.1 hsx.2 hfx)?_
  rintro _ h29⟨⟨vd,vc,vf,rfl,hm29⟩,k29⟩
  have g29:=k29.1
  have k2429:=k2428.trans k29
  generalize hy:(x.1,vd,vc,vf)=y at *
  have hy1:y.1=x.1:=by rw[← hy]
  have hmy:ManV(fun b=>h28.size≤b∧b<h29.size)h29 y.1 y.2.1 y.2.2.1 y.2.2.2:=by rw[← hy];exact hm29
  have wy:=hmy.wf
  rw[(c24.fresh k2429).a.ld(i:=3)rfl,zAo,zAm,zMg(zAw wy),zAJ]
  have hrow:=zFO(x:=mvC y)(T:=zAc)(h:=h29)(n:=8)(zAw wy:(mvC y).length=8)(zCL hmy)
  have kp:Keep(fun _=>False)h29(h29.push(.cells(mvC y).toArray zAc(0,0))):=Keep.push
  have sp:(h29.push(.cells(mvC y).toArray zAc(0,0))).size=h29.size+1:=by simp
  generalize h29.push(.cells(mvC y).toArray zAc(0,0))=h30 at *
  have k2430:=k2429.trans kp
  have c30:=c24.fresh k2430
  have a30:=(a28.keep k29 id).keep kp id
  rw[c30.a.ld(i:=3)rfl,zAo,zAm]
  refine c30.addA((hmy.keep kp fun _ _=>id).mono fun b hb=>Own.new c24.n(by omega)(by omega))hrow(by omega)fun h32 col' t' c32 k32=>?_
  have k732:=(k724.trans(k2430.mono fun _ _ h=>h.elim)).trans(c30.coarse k32)
  have hz:=c24.zl
  have a32:At h32 h24.size(mvC x):=a30.keep k32 fun e=>by
    rcases e with(e | e) | e
    · have:=e.1
      unfold newCol at this
      rw[if_neg(by omega)]at this
      omega
    · omega
    · omega
  have hmx32:ManV PGF h32 x.1 x.2.1 x.2.2.1 x.2.2.2:=(inG h32 k732).m x hxm
  have haf':hvOf(af++[y])=gh.take(i+1):=by
    rw[List.take_add_one,hgh,← haf];simp[hvOf,hy1]
  rw[a32.ldN(zAw w),zAa]
  refine zAf(zUU(inM h32 k732)hmx32(by omega)hmf)?_
  rintro _ h33⟨rfl,k33⟩
  have a33:=a32.keep k33 id
  have c33:=c32.fresh k33
  rw[zAl,zAa,zAb]
  cases hj:justP inst x.1
  rotate_left
  · rw[if_neg(by decide)]
    exact hk25 _⟨_,s,t',ad,af++[y],c33,haf',by rw[zEO hgh,hj,had];simp,k732.trans(k33.mono fun _ _ h=>h.elim)⟩
  simp only[zAq,Nat.zero_add,Nat.add_zero,zAa]
  rw[if_pos(by rfl),zAV a33,zAa,zCq a33 w,zAa]
  have k733:=k732.trans(k33.mono(S':=fun b=>n0≤b∨b=z)fun _ _ h=>h.elim)
  refine zAf(zYg(inP h33 k733)w.ver hll)?_
  rintro u h34⟨hu,k34⟩
  have g34:=k34.1
  have g33:=k33.1
  obtain⟨x',bb,rfl,hpk,hx'⟩:∃ (x':PW)(bb:Bool),u = .tuple #[.agg(pvC x').toArray,.bool bb]∧pkOf x'=findPk l x.1∧PkV(fun b=>h33.size≤b∧b<h34.size)h34 x':=by
    rcases hu with⟨e,rfl⟩ | ⟨x',e,rfl,hx'⟩
    · exact⟨zPW,false,rfl,by unfold findPk;rw[e];rfl,zYi⟩
    · exact⟨x',true,rfl,by unfold findPk;rw[e];rfl,hx'⟩
  have x0:∀ a b:Value,extV 0(.tuple #[a,b])=some a:=fun _ _=>rfl
  have x1:∀ a b:Value,extV 1(.tuple #[a,b])=some b:=fun _ _=>rfl
  rw[x0,zAa,x1,zAa]
  have wx':=hx'.m.wf
  generalize hH35:h34.push(.cells(pvC zPW).toArray zAs(0,0))=h35
  have k35:Keep(fun _=>False)h34 h35:=by rw[← hH35];exact Keep.push
  have a35:At h35 h34.size(pvC zPW):=by rw[← hH35];exact At.push
  obtain⟨h36,st36,a36,k36⟩:=a35.st(n:=9)(ds:=pvC x')(zBc zLb)(zBc wx')hx'.one
  have k3436:Keep(fun _=>False)h34 h36:=k35.fresh k36 fun b e=>by omega
  have g36:=k3436.1
  have k3236:=(k33.trans k34).trans k3436
  rw[st36,zAi,(c32.fresh k3236).a.ld(i:=2)rfl,zAa,a36.ldN(zBc wx'),zAa,zS0(zBc wx'),zAJ]
  have hrow2:=zFO(T:=zAs)(h:=h36)(n:=9)(zBc wx')hx'.one
  have kq:Keep(fun _=>False)h36(h36.push(.cells(pvC x').toArray zAs(0,0))):=Keep.push
  have sq:(h36.push(.cells(pvC x').toArray zAs(0,0))).size=h36.size+1:=by simp
  generalize h36.push(.cells(pvC x').toArray zAs(0,0))=h37 at *
  have k3237:=k3236.trans kq
  have c37:=c32.fresh k3237
  refine c37.addS(((hx'.keep k3436 fun _ _=>id).keep kq fun _ _=>id).mono fun b hb=>Own.new c32.n(by omega)(by omega))hrow2(by omega)fun h39 col2 s' c39 k39=>?_
  refine hk25 _⟨col2,s',t',ad++[x'],af++[y],c39,haf',?_,(k732.trans(k3237.mono fun _ _ h=>h.elim)).trans(c37.coarse k39)⟩
  rw[zEO hgh,hj,List.map_append,List.map_append,had]
  simp[hpk]
end Go.Proofs.YticdfkoncnnmmaaGreatDoor
namespace Go.Proofs.YticdfkoncnnmmaaGreatDoor
open Go.X Go.X.Diff Go.MapKept
set_option maxRecDepth 100000
set_option linter.unusedSimpArgs false
set_option linter.unusedVariables false
def MakeR(kind:Int)(inst:List Man)(l:List Pk)(a:AskA)(H H':Heap)(u:Value):Prop :=
  ((rightP inst && askOk a)=false∧u = .tuple #[.agg(chC 0 nilS nilS nilS).toArray,.int .i64 10]) ∨
  ((rightP inst && askOk a)=true∧((inst.find?(fun m=>decide(m.name=a.name))).isSome=true∧u = .tuple #[.agg(chC 0 nilS nilS nilS).toArray,.int .i64 44] ∨
    (inst.find?(fun m=>decide(m.name=a.name)))=none∧let hv:=thereP inst l;let ws:=wantsP inst a.name a.want
      ((probOk hv ws a.bound=false∧u = .tuple #[.agg(chC 0 nilS nilS nilS).toArray,.int .i64 10]) ∨
      (probOk hv ws a.bound=true∧∃ (r:Res)(s:Nat),Run hv a.bound.toNat(.sol [] ws)0 r s∧match r with
        | .ok ks=>ChangeR kind inst l((sortedF hv ks).map(gM hv))H H' u
        | .fail=>u = .tuple #[.agg(chC 0 nilS nilS nilS).toArray,.int .i64 40]
        | .over=>u = .tuple #[.agg(chC 0 nilS nilS nilS).toArray,.int .i64 42]))))
theorem ChangeR.up{kind:Int}{inst goal:List Man}{l:List Pk}{H0 H H':Heap}{u:Value}(h:ChangeR kind inst l goal H H' u)(hs:H0.size≤H.size):ChangeR kind inst l goal H0 H' u:=by
  rcases h with h | ⟨h1,n0,z,col,d,s,t,dr,ad,af,h2,h3,h4⟩
  · exact .inl h
  · exact .inr⟨h1,n0,z,col,d,s,t,dr,ad,af,h2,by omega,h4⟩
theorem zYj{p:Man→Bool}{mv:List MV}:(idxN(fun x:MV=>p x.1)mv 0 = -1∧(hvOf mv).find? p=none)∨∃ (i:Nat)(y:MV),idxN(fun x:MV=>p x.1)mv 0=(i:Int)∧mv[i]? = some y∧(hvOf mv).find? p=some y.1:=by
  have e:(hvOf mv).find? p=(mv.find? fun x:MV=>p x.1).map(·.1):=zNA
  rcases zMK(p:=fun x:MV=>p x.1)(l:=mv)with⟨h1,h2⟩ | ⟨i,y,h1,h2,h3⟩
  · exact .inl⟨h1,by rw[e,h2];rfl⟩
  · exact .inr⟨i,y,h1,h2,by rw[e,h3];rfl⟩
theorem zWh{goal:List MV}{hv:List Man}{ks:List Nat}(h:hvOf goal=ks.map(gM hv))(hr:Rise hv ks):RiseM goal:=by
  have h1:(hvOf goal).Pairwise fun a b=>cmpB a.name b.name<0:=by rw[h];exact List.pairwise_map.2 hr
  exact List.pairwise_map.1 h1
set_option maxHeartbeats 4000000 in
theorem zXv{P R:Nat→Prop}{p:Nat}{l:List Pk}{H:Heap}{v:Value}{mv:List MV}{a:AskA}(hp:MLst P H v mv)(q:PoolR R p l H)(hP:∀ b,P b→b<H.size)(ha:a.wf)(hk1:a.kind=1)(hl:mv.length+l.length≤40)(hO:OpsT H)(hNG:NG≤H.size) :
    HCalls prg zLA [v,Ptr p 0,.agg(askC a).toArray] H fun u H'=>MakeR 1(hvOf mv)l a H H' u∧Keep(fun _=>False)H H':=by
  apply zNm
  unfold zNl
  simp only[zAC,zOC,zXV,zQs,zAp,zAq,Nat.zero_add,Nat.add_zero,zAa]
  generalize hH1:H.push(.cells(askC a).toArray zEo(0,0))=h1
  have k1:Keep(fun _=>False)H h1:=by rw[← hH1];exact Keep.push
  have a1:At h1 H.size(askC a):=by rw[← hH1];exact At.push
  have s1:h1.size=H.size+1:=by rw[← hH1];simp
  generalize hH2:h1.push(.cells(chC 0 nilS nilS nilS).toArray zAK(0,0))=h2
  have k2:Keep(fun _=>False)h1 h2:=by rw[← hH2];exact Keep.push
  have a2:At h2 h1.size(chC 0 nilS nilS nilS):=by rw[← hH2];exact At.push
  have s2:h2.size=h1.size+1:=by rw[← hH2];simp
  have k02:=k1.trans k2
  have a12:=a1.keep k2 id
  have hR:∀ b,R b→b<H.size:=by obtain⟨_,_,_,_,_,_,_,_,_,_,_,h⟩:=q;exact h
  have zone:∀ c ∈ chC 0 nilS nilS nilS,c.oneCell'=true:=zKB rfl rfl rfl
  have err:∀ (h:Heap)(e:Int),Keep(fun _=>False)h2 h→MakeR 1(hvOf mv)l a H h(.tuple #[.agg(chC 0 nilS nilS nilS).toArray,.int .i64 e])→(∀ h',MakeR 1(hvOf mv)l a H h(.tuple #[.agg(chC 0 nilS nilS nilS).toArray,.int .i64 e])→MakeR 1(hvOf mv)l a H h'(.tuple #[.agg(chC 0 nilS nilS nilS).toArray,.int .i64 e])) →
      Mwr(stN 4 h(Ptr h1.size 0)(.agg(chC 0 nilS nilS nilS).toArray))fun h7=>Mpu(ldN 4 h7(Ptr h1.size 0))fun r8=>MakeR 1(hvOf mv)l a H h7(.tuple #[r8,.int .i64 e])∧Keep(fun _=>False)H h7:=fun h e k hm hup=>by
    obtain⟨h7,st7,a7,k7⟩:=(a2.keep k id).st(n:=4)(ds:=chC 0 nilS nilS nilS)rfl rfl zone
    rw[st7,zAi,a7.ldN(n:=4)rfl,zAa]
    exact⟨hup _ hm,(k02.trans k).fresh k7 fun b e=>by omega⟩
  refine zAf(zOf(hp.keep k02 fun _ _=>id)(fun b hb=>by have:=hP b hb;omega)(by omega)(hO.keep k02 fun _ h=>h.elim))?_
  rintro _ h3⟨rfl,k3⟩
  have a13:=a12.keep k3 id
  rw[zAl,zAa]
  have bad:(rightP(hvOf mv) && askOk a)=false→∀ h,MakeR 1(hvOf mv)l a H h(.tuple #[.agg(chC 0 nilS nilS nilS).toArray,.int .i64 10]):=fun e h => .inl⟨e,rfl⟩
  cases hr:rightP(hvOf mv)
  · refine J1_no(by decide)?_
    show Mpu(pickV(.bool true)(.bool true)undef)_
    rw[zAd,if_pos rfl,zAa,zAb,if_pos rfl]
    have:=bad(by rw[hr];rfl)
    exact err _ 10 k3(this _)fun h' _=>this h'
  refine zAM rfl ?_
  rw[a13.ldN(zRY ha),zAa]
  refine zAf(zTF ha(hO.keep(k02.trans k3)fun _ h=>h.elim))?_
  rintro _ h5⟨rfl,k5⟩
  have k25:=k3.trans k5
  have a15:=a13.keep k5 id
  rw[zAl,zAa]
  show Mpu(pickV(.bool false)(.bool true)(.bool(!askOk a)))_
  rw[zAd,if_neg(by decide),zAa,zAb]
  cases hao:askOk a
  · rw[if_pos(by rfl)]
    have:=bad(by rw[hr,hao];rfl)
    exact err _ 10 k25(this _)fun h' _=>this h'
  have good:(rightP(hvOf mv) && askOk a)=true:=by rw[hr,hao];rfl
  rw[if_neg(by decide),zOB a15,zAa]
  refine zAf(zSY(hp.keep(k02.trans k25)fun _ _=>id)(by omega))?_
  rintro _ h9⟨rfl,k9⟩
  have k29:=k25.trans k9
  have a19:=a15.keep k9 id
  rw[zRZ a19 ha,zAa]
  generalize hH10:h9.push(.cells(wantC zeroW).toArray zAB(0,0))=h10
  have k10:Keep(fun _=>False)h9 h10:=by rw[← hH10];exact Keep.push
  have a10:At h10 h9.size(wantC zeroW):=by rw[← hH10];exact At.push
  obtain⟨h11,st11,a11,k11⟩:=a10.st(n:=5)(ds:=wantC a.want)(zC8 zMD)(zC8 ha.want)zQb
  have k911:Keep(fun _=>False)h9 h11:=k10.fresh k11 fun b e=>by omega
  have k211:=k29.trans k911
  have a111:=a19.keep k911 id
  rw[st11,zAi]
  have e1:∀ n:Int,binV .no .eql(.int .i64 1)(.int .i64 n)=some(.bool(decide((1:Int)=n))):=fun n=>eqI
  have e2:binV .no .neq(.int .i64 1)(.int .i64 1)=some(.bool false):=rfl
  have dk:=zMM a111
  rw[hk1]at dk
  rcases zYj(p:=fun m=>decide(m.name=a.name))(mv:=mv)with⟨i1,i2⟩ | ⟨i,y,i1,i2,i3⟩
  rotate_left
  · refine J3_i(fun _ _ _ _=>False)(fun k12 _=>?_)fun _ _ _ _ h=>h.elim
    rw[dk,zAa,e1,zAa]
    refine zAM rfl ?_
    rw[i1,geN0,zAa]
    show Mpu(pickV(.bool true)(.bool true)(.bool false))_
    rw[zAd,if_pos rfl,zAa,zAb,if_pos rfl]
    have hm:∀ h,MakeR 1(hvOf mv)l a H h(.tuple #[.agg(chC 0 nilS nilS nilS).toArray,.int .i64 44]):=fun h => .inr⟨good,.inl⟨by rw[i3];rfl,rfl⟩⟩
    exact err _ 44 k211(hm _)fun h' _=>hm h'
  refine J3_i(fun _ _ _ h=>h=h11)(fun k12 hk12=>?_)?_
  · rw[dk,zAa,e1,zAa]
    refine zAM rfl ?_
    have eg:binV .no .geq(.int .i64(-1))(.int .i64 0)=some(.bool false):=rfl
    rw[i1,eg,zAa]
    show Mpu(pickV(.bool true)(.bool false)(.bool false))_
    rw[zAd,if_pos rfl,zAa,zAb,if_neg(by decide),dk,zAa,e2,zAa]
    refine J1_no(by decide)?_
    show Mpu(pickV(.bool false)undef(.bool false))_
    rw[zAd,if_neg(by decide),zAa,zAb,if_neg(by decide),dk,zAa,e1,zAa]
    refine J1_no(by decide)?_
    show Mpu(pickV(.bool false)undef(.bool false))_
    rw[zAd,if_neg(by decide),zAa,zAb,if_neg(by decide),dk,zAa,e1,zAa,zAb,if_neg(by decide),zAa,e1,zAa,zAb,if_neg(by decide)]
    exact hk12 _ _ _ _ rfl
  rintro _ _ _ _ rfl
  have k011:=k02.trans k211
  have g011:=k011.1
  have g211:=k211.1
  rw[a111.ldN(zRY ha),zAa,a11.ldN(zC8 ha.want),zAa]
  refine zAf(zWc(hp.keep k011 fun _ _=>id)(q.keep k011 fun _ _=>id)(fun b hb=>by have:=hP b hb;omega)ha ha.want hl(hO.keep k011 fun _ h=>h.elim))?_
  rintro u h33⟨hu,k33⟩
  have g33:=k33.1
  have k233:=k211.trans k33
  have x0:∀ a b:Value,extV 0(.tuple #[a,b])=some a:=fun _ _=>rfl
  have x1:∀ a b:Value,extV 1(.tuple #[a,b])=some b:=fun _ _=>rfl
  rcases hu with⟨hpo,rfl⟩ | ⟨hpo,r,s,hrun,hu⟩
  · rw[x0,zAa,x1,zAa,neI,zAa,zAb,if_pos(by decide)]
    have hm:∀ h,MakeR 1(hvOf mv)l a H h(.tuple #[.agg(chC 0 nilS nilS nilS).toArray,.int .i64 10]):=fun h => .inr⟨good,.inr⟨i2,.inl⟨hpo,rfl⟩⟩⟩
    exact err _ 10 k233(hm _)fun h' _=>hm h'
  cases r with
  | fail =>
    obtain rfl:=hu
    rw[x0,zAa,x1,zAa,neI,zAa,zAb,if_pos(by decide)]
    have hm:∀ h,MakeR 1(hvOf mv)l a H h(.tuple #[.agg(chC 0 nilS nilS nilS).toArray,.int .i64 40]):=fun h => .inr⟨good,.inr⟨i2,.inr⟨hpo,.fail,s,hrun,rfl⟩⟩⟩
    exact err _ 40 k233(hm _)fun h' _=>hm h'
  | over =>
    obtain rfl:=hu
    rw[x0,zAa,x1,zAa,neI,zAa,zAb,if_pos(by decide)]
    have hm:∀ h,MakeR 1(hvOf mv)l a H h(.tuple #[.agg(chC 0 nilS nilS nilS).toArray,.int .i64 42]):=fun h => .inr⟨good,.inr⟨i2,.inr⟨hpo,.over,s,hrun,rfl⟩⟩⟩
    exact err _ 42 k233(hm _)fun h' _=>hm h'
  | ok ks =>
    obtain⟨hns,t,goal,Fg,rfl,hgv,hbg,hFg,hmg,hsg⟩:=hu
    rw[x0,zAa,x1,zAa,neI,zAa,zAb,if_neg(by decide)]
    have a133:=a111.keep k33 id
    have dk33:=zMM a133
    rw[hk1]at dk33
    rw[dk33,zAa]
    have k033:=k011.trans k33
    have hthere:(thereP(hvOf mv)l).length≤40:=by
      unfold thereP
      have h1:=List.length_filter_le(outP(hvOf mv))(l.map(·.1))
      rw[List.length_map]at h1
      rw[List.length_append,List.length_map];omega
    have hgl:goal.length≤40:=by
      have h1:=congrArg List.length hgv
      rw[List.length_map,List.length_map]at h1
      have h2:=hns.sorted.len
      omega
    refine zAf(zWg(kind:=1)(hp.keep k033 fun _ _=>id)(q.keep k033 fun _ _=>id)hbg hmg hsg(fun x hx=>by have:=zQt hr x.1(List.mem_map.2⟨x,hx,rfl⟩);omega)(zWh hgv(zLR hns))(fun b hb=>?_)(fun b hb=>(hFg b hb).2)(by omega)(by omega)(by omega)(hO.keep k033 fun _ h=>h.elim)fun h k=>(hO.keep k033 fun _ h=>h.elim).keep k fun b hb=>by have:=(hFg b hb).1;omega)?_
    · rcases hb with hb | hb | hb
      · have:=hP b hb
        exact⟨by omega,fun hf=>by have:=(hFg b hf).1;omega⟩
      · have:=hR b hb
        exact⟨by omega,fun hf=>by have:=(hFg b hf).1;omega⟩
      · refine⟨?_,hb.2⟩
        rcases hb.1 with h | h | h
        · have:=hP b h;omega
        · have:=hR b h;omega
        · omega
    rintro u h36⟨hcr,k36⟩
    have k036:=k033.fresh k36 fun b hb=>by have:=(hFg b hb).1;omega
    have a236:At h36 h1.size(chC 0 nilS nilS nilS):=((a2.keep k233 id)).keep k36 fun hb=>by have:=(hFg _ hb).1;omega
    rw[hgv]at hcr
    have hcr0:=hcr.up(H0:=H)(by have:=k033.1;omega)
    rcases hcr with⟨c1,rfl⟩ | ⟨c1,n0,z,col,d,s',t',dr,ad,af,rfl,c3,c4,c5⟩
    · rw[x0,zAa,x1,zAa]
      obtain⟨h37,st37,a37,k37⟩:=a236.st(n:=4)(ds:=chC 0 nilS nilS nilS)rfl rfl zone
      rw[st37,zAi,a37.ldN(n:=4)rfl,zAa]
      exact⟨.inr⟨good,.inr⟨i2,.inr⟨hpo,.ok ks,s,hrun,.inl⟨c1,rfl⟩⟩⟩⟩,k036.fresh k37 fun b e=>by omega⟩
    · rw[x0,zAa,x1,zAa]
      obtain⟨h37,st37,a37,k37⟩:=a236.st(n:=4)(ds:=chC 1 d s' t')rfl rfl(zKB c4.bd.sl.oneC c4.bs.sl.oneC c4.bt.sl.oneC)
      rw[st37,zAi,a37.ldN(n:=4)rfl,zAa]
      have g36:=k36.1
      have hsz:=k033.1
      have s33:=k233.1
      exact⟨.inr⟨good,.inr⟨i2,.inr⟨hpo,.ok ks,s,hrun,.inr⟨c1,n0,z,_,d,s',t',dr,ad,af,rfl,by omega,c4.low k37 fun b e => .inl(by have:=c4.zl;omega),c5⟩⟩⟩⟩,k036.fresh k37 fun b e=>by omega⟩
end Go.Proofs.YticdfkoncnnmmaaGreatDoor
