import Derived.Test.YticdfkoncnnmmaaGreatDoorH4
set_option linter.unusedSimpArgs false
set_option linter.unusedVariables false
set_option maxRecDepth 100000
namespace Go.Proofs.YticdfkoncnnmmaaGreatDoor
open Go.X Go.X.Diff
structure Fw (hv:List Man)(bd:Nat)(G:Res->Nat->Prop)(H1:zAd)(ch:List Nat)(ws:List Dep)(ps:List Pnt)(s:Nat)(t2 t3 t6 t7:Value)(h:zAd)(F:Nat->Prop):Prop where
 k:Keep (fun _=>False) H1 h
 st:Stk H1.size h F ps t7
 c:SlE 1 (Qf H1.size F h) h t2 (zH3 (zs ch))
 w:SlE 6 (Qf H1.size F h) h t6 (ws.map zDa)
 t:t3 = .int .i64 (s:Nat)
 n:zHK hv ch
 len:ch.length=ps.length
 ww:∀ d ∈ ws,d.wf
 wl:ws.length<=64+1000 * ch.length
 sp:zAgO hv ps
 sb:s<=bd
 f:Fwd hv bd G ch ws ps s
structure Bk (hv:List Man)(bd:Nat)(G:Res->Nat->Prop)(H1:zAd)(ps:List Pnt)(s:Nat)(t3 t7:Value)(h:zAd)(F:Nat->Prop):Prop where
 k:Keep (fun _=>False) H1 h
 st:Stk H1.size h F ps t7
 t:t3 = .int .i64 (s:Nat)
 sp:zAgO hv ps
 sb:s<=bd
 f:Bck hv bd G ps s
theorem Fw.keep {hv:List Man}{bd:Nat}{G:Res->Nat->Prop}{H1:zAd}{ch:List Nat}{ws:List Dep}{ps:List Pnt}{s:Nat}{t2 t3 t6 t7:Value}{h h':zAd}{F:Nat->Prop}(f:Fw hv bd G H1 ch ws ps s t2 t3 t6 t7 h F)(k:Keep (fun _=>False) h h'):Fw hv bd G H1 ch ws ps s t2 t3 t6 t7 h' F :=
 ⟨f.k.trans k,f.st.keep k,(f.c.keep k fun _ _=>id).mono (Qf.up k.1),(f.w.keep k fun _ _=>id).mono (Qf.up k.1),f.t,f.n,f.len,f.ww,f.wl,f.sp,f.sb,f.f⟩
theorem Bk.keep {hv:List Man}{bd:Nat}{G:Res->Nat->Prop}{H1:zAd}{ps:List Pnt}{s:Nat}{t3 t7:Value}{h h':zAd}{F:Nat->Prop}(f:Bk hv bd G H1 ps s t3 t7 h F)(k:Keep (fun _=>False) h h'):Bk hv bd G H1 ps s t3 t7 h' F :=
 ⟨f.k.trans k,f.st.keep k,f.t,f.sp,f.sb,f.f⟩
theorem zZG {a a' a'':Option Addr}{n c n' c' n'' c'':Nat}:zA4 prg zDd [(0,.slice a n c),(1,.slice a' n' c'),(2,.slice a'' n'' c'')]=some (.agg #[.slice a n c,.slice a' n' c',.slice a'' n'' c'']):=by kernel_rfl
theorem zZH {a a' a'':Option Addr}{n c n' c' n'' c'':Nat}:zFt prg zDd 1 [(0,.agg #[.slice a n c,.slice a' n' c',.slice a'' n'' c''])]=some #[.slice a n c,.slice a' n' c',.slice a'' n'' c'']:=by kernel_rfl
theorem zZI {a a':Option Addr}{n c n' c':Nat}:zFt prg zBh 2 [(0,.slice a n c),(1,.slice a' n' c')]=some #[.slice a n c,.slice a' n' c']:=by kernel_rfl
theorem _root_.Go.X.SlE.shape {n:Nat}{P:Nat->Prop}{H:zAd}{v:Value}{xs:List (List Value)}(h:SlE n P H v xs):∃ a c,v = .slice a xs.length c:=by
 obtain⟨⟨a,c,e,_⟩,_⟩:=h;exact⟨a,c,e⟩
theorem _root_.Go.X.SlE.rest {n:Nat}{P:Nat->Prop}{H:zAd}{v:Value}{x:List Value}{xs:List (List Value)}(h:SlE n P H v (x :: xs)):∃ u,slS n v (some (.int .i64 1)) none none=some u/\SlE n P H u xs:=by
 obtain⟨u,h1,h2⟩:=h.cut (by simp) (lo:=1) (hi:=(x :: xs).length) (by simp) (Nat.le_refl _) (l:=some (.int .i64 1)) (r:=none) (by simp only[bnd];rw[if_pos (by simp;omega)];rfl) (fun c hc=>rfl)
 rw[List.take_length]at h2
 exact⟨u,h1,h2⟩
def zAiH (hv:List Man)(wants:List Dep)(bd:Nat)(H H':zAd)(u:Value):Prop:=∃ (r:Res) (s:Nat),Run hv bd (.sol [] wants) 0 r s/\match r with
 | .ok l=>zHK hv l/\∃ v,u = .tuple #[v,.int .i64 (s:Nat),.int .i64 0]/\BufE 1 (fun b=>H.size<=b/\b<H'.size) H' v (zH3 (zs (zEO hv l)))
 | .fail=>u = .tuple #[.slice none 0 0,.int .i64 (s:Nat),.int .i64 40]
 | .over=>u = .tuple #[.slice none 0 0,.int .i64 (s:Nat),.int .i64 42]
set_option maxHeartbeats 8000000 in
theorem zAet {P:Nat->Prop}{H:zAd}{mv:List MV}{wants:List Dep}{vh vw:Value}{b:Int}(hp:Prb P H mv wants vh vw)(hP:∀ b,P b->b<H.size)(hok:zGw (zA7 mv) wants b=true)(hl:mv.length<=40)(hwl:wants.length<=64)(hO:zNR H) :
  zAg prg zJt [.agg (zK7 vh vw b).toArray] H fun u H'=>zAiH (zA7 mv) wants b.toNat H H' u/\Keep (fun _=>False) H H':=by
 apply zJl
 unfold zKW
 simp only[zAN,zAs]
 generalize hH1:H.push (.cells (zK7 vh vw b).toArray zAL (0,0))=H1
 have k1:Keep (fun _=>False) H H1:=by rw[<- hH1];exact Keep.push
 have a1:At H1 H.size (zK7 vh vw b):=by rw[<- hH1];exact At.push
 have s1:H1.size=H.size+1:=by rw[<- hH1];simp
 have dA:∀ h,Keep (fun _=>False) H1 h->ldN 3 h (Ptr H.size 0)=some (.agg (zK7 vh vw b).toArray):=fun h k=>(a1.keep k id).ldN rfl
 have d0:∀ h,Keep (fun _=>False) H1 h->ld1 h (Ptr H.size 0)=some vh:=fun h k=>(a1.keep k id).ld rfl
 have d1:∀ h,Keep (fun _=>False) H1 h->ld1 h (Ptr H.size 1)=some vw:=fun h k=>(a1.keep k id).ld rfl
 have d2:∀ h,Keep (fun _=>False) H1 h->ld1 h (Ptr H.size 2)=some (.int .i64 b):=fun h k=>(a1.keep k id).ld rfl
 have hpk:∀ h,Keep (fun _=>False) H1 h->Prb P h mv wants vh vw:=fun h k=>hp.keep (k1.trans k) fun _ _=>id
 have hPk:∀ h,Keep (fun _=>False) H1 h->∀ b,P b->b<h.size:=fun h k b hb=>Nat.lt_of_lt_of_le (hP b hb) (k1.trans k).1
 have hOk:∀ h,Keep (fun _=>False) H1 h->zNR h:=fun h k=>hO.keep (k1.trans k) fun _ h=>h.elim
 have hvl:(zA7 mv).length=mv.length:=by simp
 have hb0:0<=b/\b<=65536:=by
  unfold zGw at hok
  simp only[Bool.and_eq_true,decide_eq_true_eq]at hok
  exact hok.1.1
 have hrng:(List.range (zA7 mv).length).all (zM6 (zA7 mv))=true:=by
  unfold zGw at hok
  simp only[Bool.and_eq_true]at hok
  exact hok.1.2
 obtain⟨hb0,hb1⟩:=hb0
 have hbN:b=((b.toNat:Nat):Int):=by omega
 generalize hbd:b.toNat=bd at *
 have hbd1:bd<=65536:=by omega
 rw[dA _ Keep.refl,zAa]
 refine zAk (zZj (hpk _ Keep.refl) (by omega) hwl (hOk _ Keep.refl)) ?_
 rintro _ h2 ⟨rfl,k2⟩
 rw[hok,if_pos rfl]
 have en:zAh .no .neq (.int .i64 0) (.int .i64 0)=some (.bool false):=rfl
 rw[en,zAa,zAc,if_neg (by decide)]
 simp only[zAx,Nat.zero_add,Nat.add_zero,zAa]
 rw[d1 _ k2,zAa]
 refine zAk (zPw (hpk _ k2).w (by omega)) ?_
 rintro t21 h3 ⟨hb21,k3⟩
 have k13:=k2.trans k3
 have g12:=k2.1
 let G:Res->Nat->Prop:=fun R S=>Run (zA7 mv) bd (.sol [] wants) 0 R S
 refine L4_i (fun t2 t3 t6 t7 h=>∃ ch ws ps s F,Fw (zA7 mv) bd G H1 ch ws ps s t2 t3 t6 t7 h F) (fun _ t3 _ _ _=>match t3 with | .int _ t=>bd - t.toNat | _=>0)
  ⟨[],wants,[],0,fun _=>False,k13,Stk.nil,SlE.nil,hb21.sl.mono fun b hb=>⟨by omega,hb.2,id⟩,rfl,zHK.nil,rfl,hp.ww,by simpa using hwl,trivial,Nat.zero_le _,Fwd.start⟩ ?_
 rintro t2 t3 t6 t7 h ⟨ch,ws,ps,s,F,hf⟩ kF hkF
 obtain rfl:=hf.t
 have hchl:ch.length<=40:=by have:=hf.n.len;omega
 refine J3_i (fun u6 u7 u8 g=>(u8 = .bool false/\∃ F,Fw (zA7 mv) bd G H1 ch [] ps s t2 (.int .i64 (s:Nat)) u6 u7 g F)\/(u8 = .bool true/\∃ ps' F,Bk (zA7 mv) bd G H1 ps' s (.int .i64 (s:Nat)) u7 g F)) (fun k6 hk6=>?_) ?_
 ·refine zAhU (fun u6 u7 u8 g=>u8 = .bool false/\∃ ws F,Fw (zA7 mv) bd G H1 ch ws ps s t2 (.int .i64 (s:Nat)) u6 u7 g F) (fun u6 _ _ _=>match u6 with | .slice _ n _=>n | _=>0) ⟨rfl,ws,F,hf⟩ ?_
  clear hf
  rintro u6 u7 _ g ⟨rfl,ws,F,hf⟩ k8 hk8
  have lw:=hf.w.len
  rw[List.length_map]at lw
  rw[lw,zAa,show zAh .no .gtr (.int .i64 (ws.length:Nat)) (.int .i64 0)=some (.bool (decide (ws.length > 0))) from zZc (m:=0),zAa,zAc]
  cases ws with
  | nil =>
   rw[if_neg (by decide)]
   exact hk6 _ _ _ _ (.inl ⟨rfl,F,hf⟩)
  | cons d ws =>
   rw[if_pos (by simp)]
   have hdw:d.wf:=hf.ww d (by simp)
   have gg:=hf.k.1
   obtain⟨bw,ow,hixw,hptw,_⟩:=hf.w.at (i:=0) (x:=zDa d) rfl
   rw[show(Value.int .i64 0) = .int .i64 ((0:Nat):Int) from rfl,hixw .i64,zAa,hptw.agg (zB7 hdw),zAa]
   simp only[zWx,zAs]
   generalize hH9:g.push (.cells (zDa zNG).toArray zAj (0,0))=h9
   have k9:Keep (fun _=>False) g h9:=by rw[<- hH9];exact Keep.push
   have a9:At h9 g.size (zDa zNG):=by rw[<- hH9];exact At.push
   obtain⟨h11,st11,a11,k11⟩:=a9.st (n:=6) (ds:=zDa d) (zB7 zNm) (zB7 hdw) (zID)
   have kg:Keep (fun _=>False) g h11:=k9.fresh k11 fun b hb=>by omega
   rw[st11,zAm]
   have f11:=hf.keep kg
   rw[dA _ f11.k,zAa]
   simp only[zAx,Nat.zero_add,Nat.add_zero,zAa]
   rw[zZf a11,zAa]
   refine zAk (zAiE (hpk _ f11.k) f11.c f11.n.1 (by omega)) ?_
   rintro _ h12 ⟨rfl,k12⟩
   have f12:=f11.keep k12
   have a12:=a11.keep k12 id
   cases hof:ofF (zA7 mv) ch d.name with
   | none =>
    simp only[zPd]
    rw[show(#[Value.int .i64 0,.bool false][0]?)=some (.int .i64 0) from rfl,zAa,show(#[Value.int .i64 0,.bool false][1]?)=some (.bool false) from rfl,zAa,zAq,zAa,zAc,if_pos (by rfl)]
    obtain⟨t42,e42,hw42⟩:=f12.w.rest
    rw[e42,zAa,dA _ f12.k,zAa,a12.ldN (zB7 hdw),zAa]
    refine zAk (zZt (hpk _ f12.k) (hPk _ f12.k) hdw (by omega) (hOk _ f12.k) (zXv hrng (by omega))) ?_
    rintro t45 h13 ⟨hb45,k13'⟩
    have f13:=f12.keep k13'
    have hw42':=(hw42.keep k13' fun _ _=>id).mono (Qf.up k13'.1)
    have hF12:=f12.st.1
    have gk:=f12.k.1
    have hpv:zXR (Qf H1.size F h13) h13 ⟨ch,ws,zM4 (zA7 mv) d⟩ (t2,t42,t45):=⟨f13.c,hw42',hb45.sl.mono fun b hb=>⟨by omega,hb.2,fun hh=>by have:=(hF12 b hh).2;omega⟩⟩
    obtain⟨p1,c1,e1⟩:=f13.c.shape
    obtain⟨p2,c2,e2⟩:=hw42'.shape
    obtain⟨p3,c3,e3⟩:=hb45.sl.shape
    have eb:zA4 prg zDd [(0,t2),(1,t42),(2,t45)]=some (.agg #[t2,t42,t45]):=by rw[e1,e2,e3];exact zZG
    have es:zFt prg zDd 1 [(0,.agg #[t2,t42,t45])]=some #[t2,t42,t45]:=by rw[e1,e2,e3];exact zZH
    rw[eb,zAa,es,zAV]
    generalize hH14:h13.push (.cells #[t2,t42,t45] zDd (0,0))=h14
    have k14:Keep (fun _=>False) h13 h14:=by rw[<- hH14];exact Keep.push
    have hx14:SlE 3 (· = h13.size) h14 (.slice (some ⟨h13.size,0,none⟩) 1 1) [zXQ (t2,t42,t45)] :=
     ⟨⟨_,1,rfl,Nat.le_refl _,.inr ⟨h13.size,0,rfl,rfl,by rw[<- hH14];exact Pt.of zAR⟩⟩,by simp[zXQ],by
      intro x hx c hc
      simp only[List.mem_singleton]at hx
      subst hx
      simp only[zXQ,List.mem_cons,List.not_mem_nil,or_false]at hc
      rcases hc with rfl | rfl | rfl
      ·rw[e1];rfl
      ·rw[e2];rfl
      ·rw[e3];rfl⟩
    have f14:=f13.keep k14
    have hlen:=f14.len
    have g14:=f14.k.1
    refine f14.st.push ((hpv.keep k14 fun _ _=>id).mono (Qf.up k14.1)) g14 (by omega) hx14 fun u h15 F' hs15 k15=>?_
    refine hk6 _ _ _ _ (.inr ⟨rfl,_,F',f14.k.fresh k15 fun b hb=>hb.elim (fun hb=>(f14.st.1 b hb).1) fun hb=>by omega,hs15,rfl,⟨⟨f14.len,by show ps.length<=40;omega,fun x hx=>f14.ww x (by simp[hx]),?_,?_,fun k hk=>f14.n.add hof hk⟩,f14.sp⟩,f14.sb,f14.f.push hof⟩)
    ·have:=f14.wl
     rw[List.length_cons]at this
     show ws.length<=64+1000 * ps.length
     omega
    ·have:=zAbA (hv:=zA7 mv) (d:=d)
     show(zM4 (zA7 mv) d).length<=40
     omega
   | some k =>
    obtain⟨hkm,hkn⟩:=zY6 hof
    have hkl:=f12.n.1 k hkm
    simp only[zPd]
    rw[show(#[Value.int .i64 (k:Nat),.bool true][0]?)=some (.int .i64 (k:Nat)) from rfl,zAa,show(#[Value.int .i64 (k:Nat),.bool true][1]?)=some (.bool true) from rfl,zAa,zAq,zAa,zAc,if_neg (by decide)]
    obtain⟨x,hx,hgx,hxm,hmx,bx,ox,hix,hpx,_⟩:=(hpk _ f12.k).at hkl
    try simp only[zAx,Nat.zero_add,Nat.add_zero,zAa]
    rw[zS0 a12 hdw,zAa,d0 _ f12.k,zAa,hix .i64,zAa,zAx,zAa,zUe hpx hmx.wf,zAa]
    refine zAk (zPr hdw.want hmx.wf.ver (hOk _ f12.k)) ?_
    rintro _ h16 ⟨rfl,k16⟩
    have f16:=f12.keep k16
    have hfm:zNp d (gM (zA7 mv) k)=(zFJ d.want && zEX x.1.ver && zVb d.want.op d.want.ver x.1.ver):=by
     unfold zNp;rw[decide_eq_true hkn,hgx];rfl
    rw[zAq,zAa,zAc]
    cases hfv:(zFJ d.want && zEX x.1.ver && zVb d.want.op d.want.ver x.1.ver)
    ·rw[if_pos (by rfl)]
     exact hk6 _ _ _ _ (.inr ⟨rfl,ps,F,f16.k,f16.st,rfl,f16.sp,f16.sb,f16.f.no hof (by rw[hfm,hfv])⟩)
    ·rw[if_neg (by decide)]
     obtain⟨t61,e61,hw61⟩:=f16.w.rest
     rw[e61,zAa]
     refine hk8 _ _ _ _ ⟨rfl,ws,F,f16.k,f16.st,f16.c,hw61,rfl,f16.n,f16.len,fun y hy=>f16.ww y (by simp[hy]),?_,f16.sp,f16.sb,f16.f.has hof (by rw[hfm,hfv])⟩ ?_
     ·have:=f16.wl
      rw[List.length_cons]at this
      omega
     ·obtain⟨pa,ca,ea⟩:=hw61.shape
      obtain⟨pb,cb,eb⟩:=hf.w.shape
      rw[ea,eb]
      simp
 clear hf
 rintro u6 u7 _ g (⟨rfl,F,hf⟩ | ⟨rfl,ps0,F0,hb⟩)
 ·rw[zAq,zAa,zAc,if_pos (by rfl),dA _ hf.k,zAa]
  refine zAk (zZr (hpk _ hf.k) (hPk _ hf.k) hf.c hf.n.1 (by omega) (zUn hf.n (by omega))) ?_
  rintro v h17 ⟨hv,k17⟩
  have gk:=hf.k.1
  refine⟨⟨.ok ch,s,hf.f.done,hf.n,v,rfl,BufE.re hv fun b hb hF=>⟨by omega,hF.2⟩⟩,(k1.trans hf.k).trans k17⟩
 rw[zAq,zAa,zAc,if_neg (by decide)]
 refine J4_i (fun _ v3 _ _ h'=>∃ s,v3 = .int .i64 (s:Nat)/\G .fail s/\Keep (fun _=>False) H1 h') (fun k18 hk18=>?_) ?_
 rotate_left
 ·rintro v2 _ v6 v7 h' ⟨s',rfl,hG,kh⟩
  exact⟨⟨.fail,s',hG,rfl⟩,k1.trans kh⟩
 refine L4_i (fun v2 v3 v6 v7 h'=>∃ ps s' F,s<=s'/\Bk (zA7 mv) bd G H1 ps s' v3 v7 h' F) (fun _ v3 _ v7 _=>(match v3 with | .int _ t=>bd - t.toNat | _=>0)+(match v7 with | .slice _ n _=>n | _=>0)) ⟨ps0,s,F0,Nat.le_refl _,hb⟩ ?_
 clear hb
 rintro v2 v3 v6 v7 g ⟨ps,s',F,hss,hb⟩ k20 hk20
 obtain rfl:=hb.t
 rw[hb.st.len,zAa,show zAh .no .gtr (.int .i64 (ps.length:Nat)) (.int .i64 0)=some (.bool (decide (ps.length > 0))) from zZc (m:=0),zAa,zAc]
 cases ps with
 | nil =>
  rw[if_neg (by decide)]
  exact hk18 _ _ _ _ _ ⟨s',rfl,hb.f.fail,hb.k⟩
 | cons p ps =>
  rw[if_pos (by simp)]
  obtain⟨q1,q2,q3,q4,q5,q6⟩:=hb.sp.1
  obtain⟨bp,op,v,hixp,hptp,hpv,hset⟩:=hb.st.top
  have hsub:zAh .no .sub (.int .i64 ((p :: ps).length:Nat)) (.int .i64 1)=some (.int .i64 (ps.length:Nat)):=zXt (by omega)
  have ld2:ld1 g (Ptr bp (op+2))=some v.2.2:=hptp.cell (i:=2) rfl
  have ll:=hpv.l.len
  rw[zKI,zNT]at ll
  rw[zAa,hsub,zAa,hixp .i64,zAa]
  simp only[zFA,zAx,Nat.add_zero,zAa]
  rw[ld2,zAa,ll,zAa,show zAh .no .eql (.int .i64 (p.ks.length:Nat)) (.int .i64 0)=some (.bool (decide (p.ks.length=0))) from zAe1 (m:=0),zAa,zAc]
  obtain⟨ch',ws',ks⟩:=p
  have q4':ws'.length<=64+1000 * ps.length:=q4
  have q1':ch'.length=ps.length:=q1
  have hl':ch'.length<=40:=by omega
  obtain⟨pa,ca,ea⟩:=hb.st.shape
  cases ks with
  | nil =>
   rw[if_pos (by simp),show zAh .no .sub (.int .i64 ((⟨ch',ws',[]⟩ :: ps:List Pnt).length:Nat)) (.int .i64 1)=some (.int .i64 (ps.length:Nat)) from hsub,zAa]
   obtain⟨u,hu,hsu⟩:=hb.st.pop
   rw[hu,zAa]
   refine hk20 _ _ _ _ _ ⟨ps,s',F,hss,hb.k,hsu,rfl,hb.sp.2,hb.sb,hb.f.pop⟩ ?_
   obtain⟨pb,cb,eb⟩:=hsu.shape
   rw[ea,eb]
   simp
  | cons k ks =>
   rw[if_neg (by simp),d2 _ hb.k,zAa,hbN,zAe1,zAa,zAc]
   by_cases hsb:s'=bd
   ·rw[if_pos (by simpa using hsb)]
    subst hsb
    exact⟨⟨.over,s',hb.f.over,rfl⟩,k1.trans hb.k⟩
   rw[if_neg (by simpa using hsb)]
   have hlt:s'<bd:=by have:=hb.sb;omega
   obtain⟨bk,ok,hixk,hptk,_⟩:=hpv.l.at (i:=0) (x:=[.int .i64 (k:Int)]) rfl
   obtain⟨w,ew,hw⟩:=SlE.rest (x:=[.int .i64 (k:Int)]) (xs:=zH3 (zs ks)) hpv.l
   obtain⟨pw,cw,ew1⟩:=hw.shape
   obtain⟨h22,st22,k22,hs22,hpt22,hpv22⟩:=hset w ks (by rw[ew1];rfl) hw
   have hN:=q6 k (by simp)
   have hkl:k<(zA7 mv).length:=hN.1 k (by simp)
   have kk22:Keep (fun _=>False) H1 h22:=hb.k.fresh k22 fun b hb'=>(hb.st.1 b hb').1
   rw[zAa,show(Value.int .i64 0) = .int .i64 ((0:Nat):Int) from rfl,hixk .i64,zAa,hptk.cell0 rfl,zAa,zAa,ew,zAa,st22,zAm]
   rw[zAG (by omega),zAa,dA _ kk22,zAa,show ld1 h22 (Ptr bp op)=some v.1 from hpt22.cell0 rfl,zAa]
   have hc22:SlE 1 (Qf H1.size F h22) h22 v.1 (zH3 (zs ch')):=hpv22.c
   refine zAk (zAem (hpk _ kk22) hc22 (fun j hj=>hN.1 j (by simp[hj])) hkl (by omega) (hOk _ kk22)) ?_
   rintro _ h23 ⟨rfl,k23⟩
   have kk23:=kk22.trans k23
   have sp':zAgO (zA7 mv) (⟨ch',ws',ks⟩ :: ps):=⟨⟨q1,q2,q3,q4,by rw[List.length_cons]at q5;show ks.length<=40;omega,fun j hj=>q6 j (by simp[hj])⟩,hb.sp.2⟩
   have hs23:=hs22.keep k23
   rw[zAc]
   cases hcl:zM3 (zA7 mv) ch' k
   rotate_left
   ·rw[if_pos rfl]
    refine hk20 _ _ _ _ _ ⟨_,s'+1,F,by omega,kk23,hs23,rfl,sp',hlt,hb.f.clash hsb hcl⟩ ?_
    show bd - (s'+1)+_<bd - s'+_
    omega
   rw[if_neg (by decide)]
   have hpt23:=hpt22.keep k23 id
   rw[show ld1 h23 (Ptr bp op)=some v.1 from hpt23.cell0 rfl,zAa]
   refine zAk (zSa (hc22.keep k23 fun _ _=>id) (by rw[zNT];omega)) ?_
   rintro t119 h24 ⟨hb24,k24⟩
   have kk24:=kk23.trans k24
   rw[zAcI,zAV]
   generalize hH25:h24.push (.cells #[.int .i64 (k:Nat)] zGd (0,0))=h25
   have k25:Keep (fun _=>False) h24 h25:=by rw[<- hH25];exact Keep.push
   have hx25:SlE 1 (· = h24.size) h25 (.slice (some ⟨h24.size,0,none⟩) 1 1) (zH3 [(k:Int)]) :=
    ⟨⟨_,1,rfl,Nat.le_refl _,.inr ⟨h24.size,0,rfl,rfl,by rw[zJH,<- hH25];exact Pt.of zAR⟩⟩,zNe,zMJ fun v hv=>by simp at hv;subst hv;rfl⟩
   have g23:=k23.1
   have g24:=k24.1
   have g25:=k25.1
   refine((hb24.keep k25 fun _ _=>id).mono (G:=fun b=>h23.size<=b) fun b hb=>hb.1).app hx25 (by omega) (by rw[zKI,zKI,zNT];simp;omega) (by show h23.size<=h25.size;omega) fun t122 h26 ht k26=>?_
   have k236:Keep (fun _=>False) h23 h26:=(k24.trans k25).fresh k26 fun b hb=>hb
   have kk26:=kk23.trans k236
   have hpt26:=hpt23.keep k236 id
   obtain⟨x,hx,hgx,hxm,hmx,bx,ox,hix,hpx,_⟩:=(hpk _ kk26).at hkl
   rw[show ld1 h26 (Ptr bp (op+1))=some v.2.1 from hpt26.cell (i:=1) rfl,zAa,d0 _ kk26,zAa,hix .i64,zAa,zAx,zAa,show ld1 h26 (Ptr bx (ox+5))=some x.2.1 from hpx.cell (i:=5) (by simp[mvC,zEN,zBD hmx.wf.ver,List.getElem?_append_right]),zAa]
   have hw26:SlE 6 (Qf H1.size F h22) h26 v.2.1 (ws'.map zDa):=(hpv22.w.keep k23 fun _ _=>id).keep k236 fun _ _=>id
   obtain⟨p1,c1,e1⟩:=hw26.shape
   obtain⟨p2,c2,e2⟩:=hmx.d.shape
   have eb:zFt prg zBh 2 [(0,v.2.1),(1,x.2.1)]=some #[v.2.1,x.2.1]:=by rw[e1,e2];exact zZI
   rw[eb,zAV]
   generalize hH27:h26.push (.cells #[v.2.1,x.2.1] zBh (0,0))=h27
   have k27:Keep (fun _=>False) h26 h27:=by rw[<- hH27];exact Keep.push
   have a27:At h27 h26.size [v.2.1,x.2.1]:=by rw[<- hH27];exact At.push
   have hdl:=(hp.sm x hxm).1
   refine zAk (zVn a27 (hw26.keep k27 fun _ _=>id) (hmx.d.keep k27 fun _ _=>id) (by show ws'.length+_<=_;omega)) ?_
   rintro t134 h28 ⟨hb28,k28⟩
   have g26:=k26.1
   have g27:=k27.1
   have g28:=k28.1
   have k268:=k27.trans k28
   have kk28:=kk26.trans k268
   have gk:=hb.k.1
   have g22:=k22.1
   have hF22:=hs22.1
   refine hkF _ _ _ _ _ ⟨ch'++[k],ws'++(gM (zA7 mv) k).deps,⟨ch',ws',ks⟩ :: ps,s'+1,F,kk28,(hs23.keep k236).keep k268,?_,?_,rfl,hN,by simp;exact q1,fun d hd=>?_,?_,sp',hlt,hb.f.down hsb hcl⟩ ?_
   ·have e:zH3 (zs (ch'++[k]))=zH3 (zs ch')++zH3 [(k:Int)]:=by simp[zs,zFB]
    rw[e]
    exact((BufE.re (G:=fun b=>h23.size<=b/\b<h26.size) ht fun b hb hF=>⟨hF,hb⟩).sl.keep k268 fun _ _=>id).mono fun b hb=>⟨by omega,by omega,fun hh=>by have:=(hF22 b hh).2;omega⟩
   ·rw[hgx]
    exact hb28.sl.mono fun b hb=>⟨by omega,hb.2,fun hh=>by have:=(hF22 b hh).2;omega⟩
   ·rcases List.mem_append.1 hd with hd | hd
    ·exact q3 d hd
    ·rw[hgx]at hd;exact hmx.wf.deps d hd
   ·rw[hgx]
    simp only[List.length_append,List.length_cons,List.length_nil]
    omega
   ·show bd - (s'+1)<bd - s
    omega
end Go.Proofs.YticdfkoncnnmmaaGreatDoor
