import Derived.Test.YticdfkoncnnmmaaGreatDoorHA
set_option linter.unusedSimpArgs false
set_option linter.unusedVariables false
set_option maxRecDepth 100000
namespace Go.Proofs.YticdfkoncnnmmaaGreatDoor
open Go.X Go.X.Diff Go.MapKept
theorem zWH {α β:Type}{p:β->Bool}{g:α->β}:∀ {l:List α} {k:Nat},zRo p (l.map g) k=zRo (fun x=>p (g x)) l k
 | [],_=>rfl
 | x :: l,k=>by rw[List.map_cons,zRo,zRo,zWH (l:=l)]
theorem zWI {α:Type}{p:α->Bool}{x:α}:∀ {l:List α} {i:Nat},l[i]? = some x->p x=true->(∀ y ∈ l.take i,p y=false)->l.find? p=some x
 | [],_,h,_,_=>by simp at h
 | a :: l,0,h,hp,_=>by simp at h;subst h;simp[hp]
 | a :: l,i+1,h,hp,hn=>by
  rw[List.find?_cons,hn a (by simp)]
  exact zWI (l:=l) (i:=i) (by simpa using h) hp fun y hy=>hn y (by rw[List.take_succ_cons];simp[hy])
theorem zQf {α:Type}{p:α->Bool}{l:List α}:(zRo p l 0 = -1/\l.find? p=none)\/∃ (i:Nat) (x:α),zRo p l 0=(i:Int)/\l[i]? = some x/\l.find? p=some x:=by
 rcases zUs (p:=p) (l:=l) (k:=0) with ⟨h1,h2⟩ | ⟨i,x,h1,h2,h3,h4⟩
 ·exact .inl ⟨h1,List.find?_eq_none.2 fun x hx=>by simp[h2 x hx]⟩
 ·exact .inr ⟨i,x,by rw[h1,Nat.zero_add],h2,zWI h2 h3 h4⟩
def zLA (nm:List UInt8)(v:Ver)(y:Pk):Bool:=decide (y.1.name=nm) && decide (y.1.ver=v)
def zAeA (x:Pk):Bool:=zEt x.1 && zD4 x.1.files x.2
def zZZ (l:List Pk)(x:Pk):Int:=if zAeA x=false then 10 else match l.find? (zLA x.1.name x.1.ver) with
 | some y=>if zS5 y.1 x.1 then 0 else 44
 | none=>if l.length=256 then 12 else 0
def zZ0 (l:List Pk)(x:Pk):List Pk:=if zAeA x=false then l else match l.find? (zLA x.1.name x.1.ver) with
 | some _=>l
 | none=>if l.length=256 then l else l++[x]
def zNH (R:Nat->Prop)(p:Nat)(l:List Pk)(h:zAd):Prop:=∃ (F P:Nat->Prop) (u:Value) (pv:List PW),pv.map zO2=l/\At h p [u]/\BufE 9 F h u (pv.map pvC)/\(∀ x ∈ pv,PkV P h x)/\(∀ b,F b->R b/\b≠p/\¬ P b)/\(∀ b,P b->R b/\b≠p)/\R p/\∀ b,R b->b<h.size
theorem zNH.keep {R S:Nat->Prop}{p:Nat}{l:List Pk}{h h':zAd}(q:zNH R p l h)(k:Keep S h h')(hs:∀ b,R b->¬ S b):zNH R p l h':=by
 obtain⟨F,P,u,pv,q1,q2,q3,q4,q5,q6,q7,q8⟩:=q
 exact⟨F,P,u,pv,q1,q2.keep k (hs _ q7),q3.keep k fun b hb=>hs b (q5 b hb).1,fun x hx=>(q4 x hx).keep k fun b hb=>hs b (q6 b hb).1,q5,q6,q7,fun b hb=>Nat.lt_of_lt_of_le (q8 b hb) k.1⟩
theorem zZ1 {H:zAd}:zAg prg zKM [] H fun u H'=>u=Ptr H.size 0/\zNH (· = H.size) H.size [] H'/\Keep (fun _=>False) H H':=by
 apply zMU
 unfold zMT
 have e:zA4 prg zN0 []=some (.agg #[.slice none 0 0]):=by kernel_rfl
 rw[e,zAa]
 simp only[zAN,zAs]
 exact⟨by trivial,⟨fun _=>False,fun _=>False,.slice none 0 0,[],rfl,At.push,BufE.nil,fun x h=>(by cases h),fun b h=>h.elim,fun b h=>h.elim,rfl,fun b hb=>by subst hb;simp⟩,Keep.push⟩
theorem zZ2 {R:Nat->Prop}{p:Nat}{l:List Pk}{H:zAd}(q:zNH R p l H):zAg prg zJO [Ptr p 0] H fun u H'=>u = .int .i64 (l.length:Nat)/\H=H':=by
 apply zMm
 unfold zL8
 obtain⟨F,P,u,pv,q1,q2,q3,_⟩:=q
 have nck1:∀ b,nck (Ptr b 0)=some (Ptr b 0):=fun _=>rfl
 have hl:=q3.sl.len
 rw[List.length_map]at hl
 simp only[nck1,zAx,Nat.zero_add,zAa]
 rw[q2.ld (i:=0) rfl,zAa,hl,zAa]
 exact⟨by rw[<- q1,List.length_map],by trivial⟩
theorem zAcW {h:zAd}{q:Nat}{x:PW}(a:At h q (pvC x))(w:x.1.1.wf):ldN 4 h (Ptr q 1)=some (.agg (zCt x.1.1.ver).toArray):=by
 have e:pvC x=[str x.1.1.name]++zCt x.1.1.ver++[x.1.2.1,x.1.2.2.1,x.1.2.2.2,x.2.1]:=by simp[pvC,mvC,zEN]
 rw[e]at a
 obtain⟨T,a⟩:=a
 exact ldN_mid a rfl (zBD w.ver).symm
theorem zAgi {h:zAd}{b o:Nat}{x:PW}(a:Pt h b o (pvC x))(w:x.1.1.wf):ldN 8 h (Ptr b o)=some (.agg (mvC x.1).toArray) :=
 (Pt.mid (A:=[]) (B:=mvC x.1) (C:=[x.2.1]) (o:=o) (o':=o) (by simpa [pvC] using a) rfl).agg (zAH w)
theorem zWJ {R:Nat->Prop}{p:Nat}{l:List Pk}{H:zAd}{nm:List UInt8}{v:Ver}(q:zNH R p l H)(hv:v.wf)(hl:l.length<=1000):zAg prg zIw [Ptr p 0,str nm,.agg (zCt v).toArray] H fun u H'=>u = .int .i64 (zRo (zLA nm v) l 0)/\Keep (fun _=>False) H H':=by
 apply zMW
 unfold zMV
 have ec:Value.cells (str nm)=[str nm].toArray:=rfl
 have nck1:∀ b,nck (Ptr b 0)=some (Ptr b 0):=fun _=>rfl
 simp only[ec,zAN,zAs,nck1,zAx,Nat.zero_add,zAa]
 generalize hH1:H.push (.cells [str nm].toArray zAz (0,0))=H1
 have k1:Keep (fun _=>False) H H1:=by rw[<- hH1];exact Keep.push
 have a1:At H1 H.size [str nm]:=by rw[<- hH1];exact At.push
 generalize hH2:H1.push (.cells (zCt v).toArray zAn (0,0))=H2
 have k2:Keep (fun _=>False) H1 H2:=by rw[<- hH2];exact Keep.push
 have a2:At H2 H1.size (zCt v):=by rw[<- hH2];exact At.push
 have k02:=k1.trans k2
 obtain⟨F,P,u,pv,q1,q2,q3,q4,_⟩:=q.keep k02 fun _ _=>id
 have hpl:pv.length<=1000:=by rw[<- q1,List.length_map]at hl;exact hl
 rw[q2.ld (i:=0) rfl,zAa]
 refine zAk (zDf (zZP (enc:=pvC) (del:=fun x:PW=>zLA nm v (zO2 x)) (G:=fun h=>At h H.size [str nm]/\At h H1.size (zCt v)) q3.sl (fun x h hx hG=>?_) (fun h k=>⟨(a1.keep k2 id).keep k id,a2.keep k id⟩) (by omega))) fun u h ⟨e,k⟩=>⟨by rw[e,<- q1,zWH],k02.trans k⟩
 refine .inl ⟨zGz,#[],#[Ptr H.size 0,Ptr H1.size 0],rfl,by kernel_rfl,?_⟩
 show zAg prg zGz [.agg (pvC x).toArray,Ptr H.size 0,Ptr H1.size 0] h _
 apply zLP
 unfold zLp
 simp only[zAN,zAs,zAx,Nat.zero_add,Nat.add_zero,zAa]
 have w:=(q4 x hx).m.wf
 generalize hh2:h.push (.cells (pvC x).toArray zAv (0,0))=h2
 have kp:Keep (fun _=>False) h h2:=by rw[<- hh2];exact Keep.push
 have a3:At h2 h.size (pvC x):=by rw[<- hh2];exact At.push
 have d0:ld1 h2 (Ptr h.size 0)=some (str x.1.1.name):=a3.ld rfl
 rw[d0,zAa,(hG.1.keep kp id).ld (i:=0) rfl,zAa,zBX,zAa]
 have es:zLA nm v (zO2 x)=(decide (x.1.1.name=nm) && decide (x.1.1.ver=v)):=rfl
 cases h1:decide (x.1.1.name=nm)
 ·refine zJe (by decide) ?_
  show Mpu (zAC (.bool false) undef (.bool false)) _
  rw[zAe,if_neg (by decide),zAa]
  exact⟨by rw[es,h1];rfl,kp⟩
 ·refine zBM rfl ?_
  rw[zAcW a3 w,zAa,(hG.2.keep kp id).ldN (zBD hv),zAa,zAbm w.ver hv,zAa]
  show Mpu (zAC (.bool true) (.bool (decide (x.1.1.ver=v))) (.bool false)) _
  rw[zAe,if_pos rfl,zAa]
  exact⟨by rw[es,h1];simp,kp⟩
theorem zRc:zPW.1.1.wf:=zMt
theorem zAeB:∀ c ∈ pvC zPW,c.oneCell'=true:=by decide +kernel
theorem zAgj:zA4 prg zAv []=some (.agg (pvC zPW).toArray):=by kernel_rfl
theorem zAgk {R:Nat->Prop}{p:Nat}{l:List Pk}{H:zAd}{nm:List UInt8}{v:Ver}(q:zNH R p l H)(hv:v.wf)(hl:l.length<=1000):zAg prg zIW [Ptr p 0,str nm,.agg (zCt v).toArray] H fun u H' =>
  ((l.find? (zLA nm v)=none/\u = .tuple #[.agg (pvC zPW).toArray,.bool false])\/∃ x':PW,l.find? (zLA nm v)=some (zO2 x')/\u = .tuple #[.agg (pvC x').toArray,.bool true]/\PkV (fun b=>H.size<=b/\b<H'.size) H' x')/\Keep (fun _=>False) H H':=by
 apply zLM
 unfold zLl
 have nck1:∀ b,nck (Ptr b 0)=some (Ptr b 0):=fun _=>rfl
 simp only[zAN,zZU,zAgj,zAs,nck1,zAx,Nat.zero_add,zAa]
 generalize hH1:H.push (.cells (zCt v).toArray zAn (0,0))=H1
 have k1:Keep (fun _=>False) H H1:=by rw[<- hH1];exact Keep.push
 have a1:At H1 H.size (zCt v):=by rw[<- hH1];exact At.push
 generalize hH2:H1.push (.cells (pvC zPW).toArray zAv (0,0))=H2
 have k2:Keep (fun _=>False) H1 H2:=by rw[<- hH2];exact Keep.push
 have a2:At H2 H1.size (pvC zPW):=by rw[<- hH2];exact At.push
 have g1:=k1.1
 have g2:=k2.1
 have k02:=k1.trans k2
 have q2:=q.keep k02 fun _ _=>id
 rw[(a1.keep k2 id).ldN (zBD hv),zAa]
 refine zAk (zWJ q2 hv hl) ?_
 rintro _ h3 ⟨rfl,k3⟩
 have k03:=k02.trans k3
 have g3:=k3.1
 have a3:=a2.keep k3 id
 rw[ltI,zAa,zAc]
 rcases zQf (p:=zLA nm v) (l:=l) with ⟨e1,e2⟩ | ⟨i,y,e1,e2,e3⟩
 ·rw[e1,if_pos (by decide)]
  obtain⟨h4,st4,a4,k4⟩:=a3.st (n:=9) (ds:=pvC zPW) (zC4 zRc) (zC4 zRc) zAeB
  rw[st4,zAm,a4.ldN (zC4 zRc),zAa]
  exact⟨.inl ⟨e2,rfl⟩,k03.fresh k4 fun b hb=>by omega⟩
 ·rw[e1,if_neg (by simp)]
  obtain⟨F,P,u,pv,q1,q2,q3,q4,_⟩:=q2.keep k3 fun _ _=>id
  rw[<- q1,List.getElem?_map]at e2
  obtain⟨x,hx,rfl⟩:=Option.map_eq_some_iff.1 e2
  have hxm:=q4 x (List.mem_of_getElem? hx)
  obtain⟨b,o,hix,hpt,_⟩:=q3.sl.at (i:=i) (x:=pvC x) (by rw[List.getElem?_map,hx];rfl)
  rw[q2.ld (i:=0) rfl,zAa,hix .i64,zAa,hpt.agg (zC4 hxm.m.wf),zAa]
  refine zAk (zWG hxm) ?_
  rintro _ h6 ⟨⟨x',rfl,hpk,hx'⟩,k6⟩
  have g6:=k6.1
  obtain⟨h7,st7,a7,k7⟩:=(a3.keep k6 id).st (n:=9) (ds:=pvC x') (zC4 zRc) (zC4 hx'.m.wf) hx'.one
  have g7:=k7.1
  have g17:=a2.lt
  rw[st7,zAm,a7.ldN (zC4 hx'.m.wf),zAa]
  exact⟨.inr ⟨x',by rw[e3,hpk],rfl,(hx'.keep k7 fun b hb=>by omega).mono fun b hb=>by omega⟩,(k03.trans k6).fresh k7 fun b hb=>by omega⟩
structure zAcX (P:Nat->Prop)(H:zAd)(x:PW):Prop where
 m:zJJ P H x.1.1 x.1.2.1 x.1.2.2.1 x.1.2.2.2
 f:BSS P P H x.2.1 x.2.2
 sd:x.1.1.deps.length<=1000
 sc:x.1.1.conf.length<=1000
 sf:x.1.1.files.length<=1000
theorem zAcX.keep {P S:Nat->Prop}{H H':zAd}{x:PW}(h:zAcX P H x)(k:Keep S H H')(hs:∀ b,P b->¬ S b):zAcX P H' x:=⟨h.m.keep k hs,h.f.keep k hs hs,h.sd,h.sc,h.sf⟩
theorem zAcX.one {P:Nat->Prop}{H:zAd}{x:PW}(h:zAcX P H x):∀ c ∈ pvC x,c.oneCell'=true:=fun c hc=>by
 rcases List.mem_append.1 hc with hc | hc
 ·exact zF7 (x:=x.1) h.m c hc
 ·rw[List.mem_singleton.1 hc];exact h.f.sl.oneC
theorem zRd {m:Man}(h:zEt m=true):∀ f ∈ m.files,f.size<=1048576:=by
 unfold zEt zM5 at h
 simp only[Bool.and_eq_true,decide_eq_true_eq]at h
 obtain⟨_,_,h3⟩:=h
 intro f hf
 obtain⟨i,hi,rfl⟩:=List.getElem_of_mem hf
 have:=List.all_eq_true.1 h3 i (List.mem_range.2 hi)
 unfold zHL at this
 rw[zQ5 (List.getElem?_eq_getElem hi)]at this
 simp only[Bool.and_eq_true,Bool.not_eq_true',decide_eq_false_iff_not]at this
 have:=this.1.2
 omega
theorem zSe:∀ {fs:List zE8} {bs:List (List UInt8)},zD4 fs bs=true->(∀ f ∈ fs,f.size<=1048576)->bs.length=fs.length/\∀ b ∈ bs,b.length<=1048576
 | [],[],_,_=>⟨rfl,fun b h=>by cases h⟩
 | [],_ :: _,h,_=>by cases h
 | _ :: _,[],h,_=>by cases h
 | f :: fs,b :: bs,h,hs=>by
  rw[zD4,Bool.and_eq_true]at h
  obtain⟨h1,h2⟩:=zSe h.2 fun f hf=>hs f (by simp[hf])
  have h3:=h.1
  unfold zT7 at h3
  simp only[Bool.and_eq_true,decide_eq_true_eq]at h3
  have h4:=hs f (by simp)
  refine⟨by simp[h1],fun c hc=>?_⟩
  rcases List.mem_cons.1 hc with rfl | hc
  ·omega
  ·exact h2 c hc
theorem zZ3 {x:PW}(h:(pvC x).length=9):zFt prg zAv 1 [(0,.agg (pvC x).toArray)]=some (pvC x).toArray :=
 zSH (by kernel_rfl:prg.cellsOf zAv=9) (by omega) (by omega) zZU (zC4 zRc) (by simp[h])
set_option maxHeartbeats 1000000 in
theorem zAgl {R P:Nat->Prop}{p:Nat}{l:List Pk}{H:zAd}{x:PW}(q:zNH R p l H)(hx:zAcX P H x)(hP:∀ b,P b->b<H.size)(hl:l.length<=256)(hO:zNR H)(hS:zTg H) :
  zAg prg zHh [Ptr p 0,.agg (pvC x).toArray] H fun u H'=>u = .int .i64 (zZZ l (zO2 x))/\(∃ R',zNH R' p (zZ0 l (zO2 x)) H'/\∀ b,R' b->R b\/(H.size<=b/\b<H'.size))/\Keep R H H':=by
 apply zMl
 unfold zL7
 have nck1:∀ b,nck (Ptr b 0)=some (Ptr b 0):=fun _=>rfl
 simp only[zAN,zKJ,zAs,nck1,zAx,Nat.zero_add,Nat.add_zero,zAa]
 generalize hH1:H.push (.cells (pvC x).toArray zAv (0,0))=H1
 have k1:Keep (fun _=>False) H H1:=by rw[<- hH1];exact Keep.push
 have a1:At H1 H.size (pvC x):=by rw[<- hH1];exact At.push
 have s1:H1.size=H.size+1:=by rw[<- hH1];simp
 have w:=hx.m.wf
 rw[a1.ldPre (A:=mvC x.1) (zAH w),zAa]
 generalize hH2:H1.push (.cells (zEN ⟨[],zB2,[],[],[]⟩ zAY zAY zAY).toArray zAb (0,0))=H2
 have k2:Keep (fun _=>False) H1 H2:=by rw[<- hH2];exact Keep.push
 have a2:At H2 H1.size (zEN ⟨[],zB2,[],[],[]⟩ zAY zAY zAY):=by rw[<- hH2];exact At.push
 have hone:∀ c ∈ mvC x.1,c.oneCell'=true:=zF7 (x:=x.1) hx.m
 obtain⟨h3,st3,a3,k3⟩:=a2.st (n:=8) (ds:=mvC x.1) (zAH zMt) (zAH w) hone
 have g2:=k2.1
 have k03:Keep (fun _=>False) H h3:=(k1.trans k2).fresh k3 fun b hb=>by omega
 have a13:=(a1.keep k2 id).keep k3 (by omega)
 rw[st3,zAm,a3.ldN (zAH w),zAa]
 have mono:∀ {h:zAd},Keep (fun _=>False) H h->Keep R H h:=fun k=>k.mono fun _ _ h=>h.elim
 have same:∀ {h:zAd} {e:Int},Keep (fun _=>False) H h->zZZ l (zO2 x)=e->zZ0 l (zO2 x)=l->(Value.int .i64 e = .int .i64 (zZZ l (zO2 x))/\(∃ R',zNH R' p (zZ0 l (zO2 x)) h/\∀ b,R' b->R b\/(H.size<=b/\b<h.size))/\Keep R H h):=fun k e1 e2=>⟨by rw[e1],⟨R,by rw[e2];exact q.keep k fun _ _=>id,fun b hb => .inl hb⟩,mono k⟩
 have hsd:=hx.sd
 have hsc:=hx.sc
 refine zAk (zQd (vd:=x.1.2.1) (vc:=x.1.2.2.1) (vf:=x.1.2.2.2) (hx.m.keep k03 fun _ _=>id) (by omega) (by omega) (hO.keep k03 fun _ h=>h.elim)) ?_
 rintro _ h4 ⟨rfl,k4⟩
 have k04:=k03.trans k4
 have a34:=a3.keep k4 id
 have a14:=a13.keep k4 id
 rw[zAq,zAa]
 have hpo:zAeA (zO2 x)=(zEt x.1.1 && zD4 x.1.1.files (x.2.2.map (·.2))):=rfl
 have bad:zAeA (zO2 x)=false->zZZ l (zO2 x)=10/\zZ0 l (zO2 x)=l:=fun e=>⟨by unfold zZZ;rw[if_pos e],by unfold zZ0;rw[if_pos e]⟩
 cases hok:zEt x.1.1
 ·refine zJe (by decide) ?_
  show Mpu (zAC (.bool true) (.bool true) undef) _
  rw[zAe,if_pos rfl,zAa,zAc,if_pos rfl]
  have:=bad (by rw[hpo,hok];rfl)
  exact same k04 this.1 this.2
 refine zBM rfl ?_
 have hsz:=zRd hok
 obtain⟨f1,_,_⟩:=zKg hok
 have hx4:=hx.keep k04 fun _ _=>id
 have g04:=k04.1
 rw[a34.ldN (zAH w),zAa,a14.ld (i:=8) (zRb w),zAa]
 refine zAk (zAd6 (vd:=x.1.2.1) (vc:=x.1.2.2.1) (vf:=x.1.2.2.2) hx4.m hx4.f (fun b hb=>by have:=hP b hb;omega) (fun e=>by omega) (fun i y f h1 h2 h3=>by have:=hsz f (List.mem_of_getElem? h2);omega) (hS.keep k04 fun _ h=>h.elim)) ?_
 rintro _ h6 ⟨rfl,k6⟩
 have k06:=k04.trans k6
 have a36:=a34.keep k6 id
 have a16:=a14.keep k6 id
 rw[zAq,zAa]
 show Mpu (zAC (.bool false) (.bool true) (.bool (!zD4 x.1.1.files (x.2.2.map (·.2))))) _
 rw[zAe,if_neg (by decide),zAa,zAc]
 cases hft:zD4 x.1.1.files (x.2.2.map (·.2))
 ·rw[if_pos (by rfl)]
  have:=bad (by rw[hpo,hok,hft];rfl)
  exact same k06 this.1 this.2
 have hpk:zAeA (zO2 x)=true:=by rw[hpo,hok,hft];rfl
 obtain⟨z1,z2⟩:=zSe hft hsz
 rw[List.length_map]at z1
 have hxk:PkV P h6 x:=⟨(hx.keep k06 fun _ _=>id).m,(hx.keep k06 fun _ _=>id).f,hx.sd,hx.sc,hx.sf,by omega,fun y hy=>z2 y.2 (List.mem_map.2 ⟨y,hy,rfl⟩)⟩
 have q6:=q.keep k06 fun _ _=>id
 rw[if_neg (by decide),zBE a36,zAa,zFK a36 w,zAa]
 refine zAk (zWJ q6 w.ver (by omega)) ?_
 rintro _ h8 ⟨rfl,k8⟩
 have k08:=k06.trans k8
 have a38:=a36.keep k8 id
 have a18:=a16.keep k8 id
 have q8:=q6.keep k8 fun _ _=>id
 have hPE:zZZ l (zO2 x)=match l.find? (zLA x.1.1.name x.1.1.ver) with
   | some y=>if zS5 y.1 x.1.1 then 0 else 44
   | none=>if l.length=256 then 12 else 0:=by unfold zZZ;rw[if_neg (by rw[hpk];decide)];rfl
 have hPL:zZ0 l (zO2 x)=match l.find? (zLA x.1.1.name x.1.1.ver) with
   | some _=>l
   | none=>if l.length=256 then l else l++[zO2 x]:=by unfold zZ0;rw[if_neg (by rw[hpk];decide)];rfl
 have q8':=q8
 obtain⟨F,P',u,pv,q1,q2,q3,q4,q5,q6',q7,q9⟩:=q8
 have hpl:pv.length=l.length:=by rw[<- q1,List.length_map]
 rw[geI,zAa,zAc]
 rcases zQf (p:=zLA x.1.1.name x.1.1.ver) (l:=l) with ⟨e1,e2⟩ | ⟨i,y,e1,e2,e3⟩
 rotate_left
 ·rw[e1,if_pos (by simp)]
  rw[e3]at hPE hPL
  have e2':=e2
  rw[<- q1,List.getElem?_map]at e2
  obtain⟨z,hz,rfl⟩:=Option.map_eq_some_iff.1 e2
  have hzm:=q4 z (List.mem_of_getElem? hz)
  obtain⟨b,o,hix,hpt,_⟩:=q3.sl.at (i:=i) (x:=pvC z) (by rw[List.getElem?_map,hz];rfl)
  rw[q2.ld (i:=0) rfl,zAa,hix .i64,zAa,zAx,zAa,Nat.add_zero,zAgi hpt hzm.m.wf,zAa,a38.ldN (zAH w),zAa]
  have h1:=hzm.sd
  have h2:=hzm.sc
  have h3:=hzm.sf
  refine zAk (zSd (x:=z.1) (y:=x.1) hzm.m (hxk.m.keep k8 fun _ _=>id) (by omega) (by omega) (by omega)) ?_
  rintro _ h9 ⟨rfl,k9⟩
  rw[zAq,zAa,zAc]
  have hme:(zO2 z).1=z.1.1:=rfl
  cases hq:zS5 z.1.1 x.1.1
  ·rw[if_pos (by rfl)]
   exact same (k08.trans k9) (by rw[hPE];show(if zS5 z.1.1 x.1.1=true then 0 else 44)=_;rw[hq];rfl) hPL
  ·rw[if_neg (by decide)]
   exact same (k08.trans k9) (by rw[hPE];show(if zS5 z.1.1 x.1.1=true then 0 else 44)=_;rw[hq];rfl) hPL
 rw[e1,if_neg (by decide)]
 rw[e2]at hPE hPL
 have hlen:=q3.sl.len
 rw[List.length_map,hpl]at hlen
 have e256:zAh .no .eql (.int .i64 (l.length:Nat)) (.int .i64 256)=some (.bool (decide (l.length=256))):=zAe1 (m:=256)
 rw[q2.ld (i:=0) rfl,zAa,hlen,zAa,e256,zAa,zAc]
 by_cases h256:l.length=256
 ·rw[if_pos (by simpa using h256)]
  exact same k08 (by rw[hPE];exact if_pos h256) (by rw[hPL];exact if_pos h256)
 rw[if_neg (by simpa using h256),zAa,a18.ldN (zC4 w),zAa]
 refine zAk (zWG (hxk.keep k8 fun _ _=>id)) ?_
 rintro _ h10 ⟨⟨x',rfl,hpk',hx'⟩,k10⟩
 have g10:=k10.1
 rw[(q2.keep k10 id).ld (i:=0) rfl,zAw,zAr,zZ3 (zC4 hx'.m.wf),zAV]
 generalize hH11:h10.push (.cells (pvC x').toArray zAv (0,0))=h11
 have k11:Keep (fun _=>False) h10 h11:=by rw[<- hH11];exact Keep.push
 have g11:h11.size=h10.size+1:=by rw[<- hH11];simp
 rw[((q2.keep k10 id).keep k11 id).ld (i:=0) rfl,zAw,zAr]
 have hx11:SlE 9 (· = h10.size) h11 (.slice (some ⟨h10.size,0,none⟩) 1 1) [pvC x']:=⟨⟨_,1,rfl,Nat.le_refl _,.inr ⟨h10.size,0,rfl,rfl,by
  show Pt h11 h10.size 0 [pvC x'].flatten
  rw[<- hH11,show [pvC x'].flatten=pvC x' by simp];exact Pt.of zAR⟩⟩,fun y hy=>by rw[List.mem_singleton.1 hy];exact zC4 hx'.m.wf,fun y hy=>by rw[List.mem_singleton.1 hy];exact hx'.one⟩
 have k811:=k10.trans k11
 have k011:=k08.trans k811
 have g811:=k811.1
 have g08:=k08.1
 refine((q3.keep k811 fun _ _=>id).mono (G:=fun b=>F b\/h11.size<=b) fun b hb => .inl hb).app hx11 (by omega) (by rw[List.length_map,List.length_singleton];omega) (.inr (Nat.le_refl _)) fun t h12 b12 k12=>?_
 have g12:=k12.1
 have hpn:¬ (F p\/h11.size<=p):=fun hh=>hh.elim (fun h=>(q5 p h).2.1 rfl) fun h=>by have:=q9 p q7;omega
 obtain⟨h13,st13,a13',k13⟩:=(((q2.keep k10 id).keep k11 id).keep k12 hpn).st1 (i:=0) (v:=t) (by simp) b12.sl.oneC
 rw[st13,zAm]
 have g13:=k13.1
 have hP13:∀ {b},(P' b\/(h8.size<=b/\b<h10.size))->¬ (F b\/h11.size<=b)/\b≠p:=fun {b} hb=>by
  rcases hb with hb | hb
  ·have h1:=q6' b hb
   have h2:=q9 b h1.1
   exact⟨fun hh=>hh.elim (fun h=>(q5 b h).2.2 hb) fun h=>by omega,h1.2⟩
  ·exact⟨fun hh=>hh.elim (fun h=>by have:=q9 b (q5 b h).1;omega) fun h=>by omega,fun e=>by have:=q9 p q7;omega⟩
 refine⟨by rw[hPE];exact congrArg _ (if_neg h256).symm,⟨fun b=>R b\/(h8.size<=b/\b<h13.size),⟨fun b=>(F b\/h11.size<=b)/\b<h12.size,fun b=>P' b\/(h8.size<=b/\b<h10.size),t,pv++[x'],?_,a13',?_,?_,?_,?_,.inl q7,?_⟩,fun b hb=>hb.imp id fun h=>by omega⟩,?_⟩
 ·rw[hPL,List.map_append,q1,if_neg h256]
  simp[hpk']
 ·have e:(pv++[x']).map pvC=pv.map pvC++[pvC x']:=by simp
  rw[e]
  exact(BufE.re b12 fun b hb hF=>⟨hF,hb⟩).keep k13 fun b hb e=>hpn (e ▸ hb.1)
 ·intro z hz
  rcases List.mem_append.1 hz with hz | hz
  ·exact((((q4 z hz).keep k811 fun _ _=>id).mono (Q:=fun b=>P' b\/(h8.size<=b/\b<h10.size)) fun b hb => .inl hb).keep k12 fun b hb=>(hP13 hb).1).keep k13 fun b hb=>(hP13 hb).2
  ·rw[List.mem_singleton.1 hz]
   exact(((hx'.keep k11 fun _ _=>id).mono (Q:=fun b=>P' b\/(h8.size<=b/\b<h10.size)) fun b hb => .inr hb).keep k12 fun b hb=>(hP13 hb).1).keep k13 fun b hb=>(hP13 hb).2
 ·intro b hb
  refine⟨hb.1.elim (fun h => .inl (q5 b h).1) fun h => .inr (by have:=hb.2;omega),fun e=>hpn (e ▸ hb.1),fun hh=>(hP13 hh).1 hb.1⟩
 ·intro b hb
  exact⟨hb.elim (fun h => .inl (q6' b h).1) fun h => .inr (by omega),(hP13 hb).2⟩
 ·intro b hb
  rcases hb with hb | hb
  ·have:=q9 b hb;omega
  ·exact hb.2
 ·refine((mono k011).fresh' k12 fun b hb=>?_).trans (k13.mono fun b _ e=>by rw[e];exact q7)
  rcases hb with h | h
  ·exact .inl (q5 b h).1
  ·exact .inr (by omega)
def zXB (inst:List Man)(m:Man):Bool:=match inst.find? (fun o=>decide (o.name=m.name)) with
 | none=>true
 | some o=>!decide (o.ver=m.ver)
def zFl (inst:List Man)(l:List Pk):List Man:=inst++(l.map (·.1)).filter (zXB inst)
theorem zRe {α β:Type}{p:β->Bool}{g:α->β}:∀ {l:List α},(l.map g).find? p=(l.find? fun x=>p (g x)).map g
 | []=>rfl
 | x :: l=>by
  rw[List.map_cons,List.find?_cons,List.find?_cons,zRe (l:=l)]
  cases p (g x) <;> rfl
theorem zGR {α:Type}{l:List α}{i:Nat}{x:α}{p:α->Bool}(h:l[i]? = some x):(l.take (i+1)).filter p=(l.take i).filter p++(if p x then [x] else []):=by
 rw[List.take_add_one,h,List.filter_append]
 cases hp:p x <;> simp[hp]
theorem zRf {x:MV}(h:(mvC x).length=8):zFt prg zAb 1 [(0,.agg (mvC x).toArray)]=some (mvC x).toArray :=
 zSH (by kernel_rfl:prg.cellsOf zAb=8) (by omega) (by omega) zKJ (zAH zMt) (by simp[h])
theorem zK5 {n:Nat}{T:TypeId}{h:zAd}{x:List Value}(hx:x.length=n)(h1:∀ c ∈ x,c.oneCell'=true):SlE n (· = h.size) (h.push (.cells x.toArray T (0,0))) (.slice (some ⟨h.size,0,none⟩) 1 1) [x] :=
 ⟨⟨_,1,rfl,Nat.le_refl _,.inr ⟨h.size,0,rfl,rfl,by
  rw[show [x].flatten=x by simp];exact Pt.of zAR⟩⟩,fun y hy=>by rw[List.mem_singleton.1 hy];exact hx,fun y hy=>by rw[List.mem_singleton.1 hy];exact h1⟩
set_option maxHeartbeats 1000000 in
theorem zZ4 {P R:Nat->Prop}{p:Nat}{l:List Pk}{H:zAd}{v:Value}{mv:List MV}(hp:zNs P H v mv)(q:zNH R p l H)(hl:mv.length<=1000)(hll:l.length<=1000) :
  zAg prg zKx [v,Ptr p 0] H fun u H'=>(∃ mv',zA7 mv'=zFl (zA7 mv) l/\zNs (fun b=>P b\/R b\/(H.size<=b/\b<H'.size)) H' u mv')/\Keep (fun _=>False) H H':=by
 apply zN5
 unfold zOE
 have nck1:∀ b,nck (Ptr b 0)=some (Ptr b 0):=fun _=>rfl
 refine zAk (zSc hp.h (by rw[List.length_map];omega)) ?_
 rintro t10 h1 ⟨b1,k1⟩
 have g1:=k1.1
 obtain⟨F,P',u,pv,q1,q2,q3,q4,q5,q6,q7,q9⟩:=q
 have hpl:pv.length=l.length:=by rw[<- q1,List.length_map]
 have hR:∀ b,P' b->R b:=fun b hb=>(q6 b hb).1
 have hlen:=q3.sl.len
 rw[List.length_map,hpl]at hlen
 let I:Nat->Value->zAd->Prop:=fun i w h=>∃ ys:List MV,BufE 8 (fun b=>H.size<=b/\b<h.size) h w ((mv++ys).map mvC)/\ys.length<=i/\(∀ y ∈ ys,(∃ x ∈ pv,x.1=y))/\zA7 ys=((l.take i).map (·.1)).filter (zXB (zA7 mv))/\Keep (fun _=>False) H h
 refine zLf (fun w _ h=>I l.length w h) (fun k2 hk2=>?_) ?_
 rotate_left
 ·rintro w _ h ⟨ys,by',hyl,hy,he,kh⟩
  rw[List.take_of_length_le (Nat.le_refl _)]at he
  refine⟨⟨mv++ys,by unfold zFl;rw[<- he];simp[zA7],by'.sl.mono fun b hb => .inr (.inr hb),fun x hx=>?_,fun x hx=>?_⟩,kh⟩
  ·rcases List.mem_append.1 hx with hx | hx
   ·exact((hp.m x hx).keep kh fun _ _=>id).mono fun b hb => .inl hb
   ·obtain⟨z,hz,rfl⟩:=hy x hx
    exact((q4 z hz).m.keep kh fun _ _=>id).mono fun b hb => .inr (.inl (hR b hb))
  ·rcases List.mem_append.1 hx with hx | hx
   ·exact hp.sm x hx
   ·obtain⟨z,hz,rfl⟩:=hy x hx
    exact⟨(q4 z hz).sd,(q4 z hz).sc⟩
 simp only[nck1,zAx,Nat.zero_add,Nat.add_zero,zAa]
 rw[(q2.keep k1 id).ld (i:=0) rfl,zAa,hlen,zAa]
 refine zTf (fun w z h=>∃ i:Nat,i<=l.length/\z = .int .i64 (i:Nat)/\I i w h) (fun _ z _=>match z with | .int _ t=>l.length - t.toNat | _=>0) ⟨0,Nat.zero_le _,rfl,[],by rw[List.append_nil];exact b1,Nat.le_refl _,fun y hy=>(by cases hy),rfl,k1⟩ ?_
 rintro t5 _ h5 ⟨i,hi,rfl,ys,b5,hyl,hy,he,k5⟩ k4 hk4
 have g5:=k5.1
 rw[zMs,zAa,zAc]
 by_cases hlt:i<l.length
 rotate_left
 ·rw[if_neg (by simpa using hlt)]
  obtain rfl:i=l.length:=by omega
  exact hk2 _ _ _ ⟨ys,b5,hyl,hy,he,k5⟩
 rw[if_pos (by simpa using hlt)]
 have hg:pv[i]? = some (pv[i]'(by omega)):=List.getElem?_eq_getElem (by omega)
 have hm:=List.getElem_mem (show i<pv.length by omega)
 generalize pv[i]'(by omega)=x at *
 have hgl:l[i]? = some (zO2 x):=by rw[<- q1,List.getElem?_map,hg];rfl
 have hgm:(l.map (·.1))[i]? = some x.1.1:=by rw[List.getElem?_map,hgl];rfl
 have hx5:=(q4 x hm).keep k5 fun _ _=>id
 have w:=hx5.m.wf
 obtain⟨b,o,hix,hpt,_⟩:=(q3.keep k5 fun _ _=>id).sl.at (i:=i) (x:=pvC x) (by rw[List.getElem?_map,hg];rfl)
 refine zLf (fun w _ h=>I (i+1) w h) (fun k6 hk6=>?_) ?_
 rotate_left
 ·rintro w' _ h7 hI
  rw[zAG (by omega),zAa]
  exact hk4 _ _ _ ⟨i+1,by omega,rfl,hI⟩ (by show l.length - (i+1)<l.length - i;omega)
 rw[hix .i64,zAa,hpt.agg (zC4 w),zAa]
 simp only[zZU,zAs,zAx,Nat.zero_add,Nat.add_zero,zAa]
 generalize hH8:h5.push (.cells (pvC zPW).toArray zAv (0,0))=h8
 have k8:Keep (fun _=>False) h5 h8:=by rw[<- hH8];exact Keep.push
 have a8:At h8 h5.size (pvC zPW):=by rw[<- hH8];exact At.push
 obtain⟨h9,st9,a9,k9⟩:=a8.st (n:=9) (ds:=pvC x) (zC4 zRc) (zC4 w) hx5.one
 have k59:Keep (fun _=>False) h5 h9:=k8.fresh k9 fun b hb=>by omega
 have d0:ld1 h9 (Ptr h5.size 0)=some (str x.1.1.name):=a9.ld rfl
 rw[st9,zAm,d0,zAa]
 refine zAk (zZT (hp.keep (k5.trans k59) fun _ _=>id) (by omega)) ?_
 rintro _ h10 ⟨rfl,k10⟩
 have k510:=k59.trans k10
 have k010:=k5.trans k510
 have a10:=a9.keep k10 id
 have g510:=k510.1
 have hfm:(zA7 mv).find? (fun o=>decide (o.name=x.1.1.name))=(mv.find? fun o:MV=>decide (o.1.name=x.1.1.name)).map (·.1):=zRe
 have no:zXB (zA7 mv) x.1.1=false->∀ h',Keep (fun _=>False) h10 h'->I (i+1) t5 h':=fun hf h' k'=>⟨ys,(b5.keep (k510.trans k') fun _ _=>id).mono fun b hb=>by have:=k'.1;omega,by omega,hy,by rw[List.map_take,zGR hgm,hf,<- List.map_take,<- he];simp,k010.trans k'⟩
 have yes:zXB (zA7 mv) x.1.1=true->∀ h' w2,Keep (fun _=>False) h10 h'->Mpu (ldN 8 h' (Ptr h5.size 0)) fun t40=>zC5 h' zAb 1 (zFt prg zAb 1 [(0,t40)]) fun t41 h13=>zIV zAb 8 128 h13 t5 t41 fun t42 h14=>k6 t42 w2 h14:=fun hf h' w2 k'=>by
  have a':=a10.keep k' id
  rw[a'.ldPre (A:=mvC x.1) (zAH w),zAa,zRf (zAH w),zAV]
  have hr:=zK5 (T:=zAb) (h:=h') (n:=8) (zAH w:(mvC x.1).length=8) (zF7 (x:=x.1) hx5.m)
  have kp:Keep (fun _=>False) h' (h'.push (.cells (mvC x.1).toArray zAb (0,0))):=Keep.push
  have gp:=kp.1
  have g':=k'.1
  have k0p:=(k510.trans k').trans kp
  refine((b5.keep k0p fun _ _=>id).mono (G:=fun b=>H.size<=b) fun b hb=>hb.1).app hr (by omega) (by rw[List.length_map,List.length_append,List.length_singleton];omega) (by show H.size<=_;omega) fun t h14 b14 k14=>?_
  refine hk6 _ _ _ ⟨ys++[x.1],?_,by rw[List.length_append,List.length_singleton];omega,fun y hy'=>?_,?_,((k010.trans k').trans kp).fresh k14 fun b hb=>hb⟩
  ·have e:(mv++(ys++[x.1])).map mvC=(mv++ys).map mvC++[mvC x.1]:=by simp
   rw[e]
   exact BufE.re b14 fun b hb hF=>⟨hF,hb⟩
  ·rcases List.mem_append.1 hy' with hy' | hy'
   ·exact hy y hy'
   ·rw[List.mem_singleton.1 hy'];exact⟨x,hm,rfl⟩
  ·rw[List.map_take,zGR hgm,hf,<- List.map_take,<- he];simp[zA7]
 rw[ltI,zAa]
 rcases zQf (p:=fun o:MV=>decide (o.1.name=x.1.1.name)) (l:=mv) with ⟨e1,e2⟩ | ⟨j,y,e1,e2,e3⟩
 ·have hout:zXB (zA7 mv) x.1.1=true:=by unfold zXB;rw[hfm,e2];rfl
  rw[e1]
  refine zJe (by decide) ?_
  show Mpu (zAC (.bool true) (.bool true) undef) _
  rw[zAe,if_pos rfl,zAa,zAc,if_pos rfl]
  exact yes hout h10 _ Keep.refl
 ·have hout:zXB (zA7 mv) x.1.1 = !decide (y.1.ver=x.1.1.ver):=by unfold zXB;rw[hfm,e3];rfl
  rw[e1,decide_eq_false (by omega)]
  refine zBM rfl ?_
  obtain⟨hmy,b',o',hix',hpt',_⟩:=(hp.keep k010 fun _ _=>id).at e2
  rw[hix' .i64,zAa,zAx,zAa,zUe hpt' hmy.wf,zAa,zAcW a10 w,zAa,zAhb hmy.wf.ver w.ver,zAa]
  show Mpu (zAC (.bool false) (.bool true) (.bool (!decide (y.1.ver=x.1.1.ver)))) _
  rw[zAe,if_neg (by decide),zAa,zAc]
  cases hq:decide (y.1.ver=x.1.1.ver)
  ·rw[if_pos (by rfl)]
   exact yes (by rw[hout,hq];rfl) h10 _ Keep.refl
  ·rw[if_neg (by decide)]
   exact hk6 _ _ _ (no (by rw[hout,hq];rfl) h10 Keep.refl)
def zJg (inst:List Man)(nm:List UInt8):List Dep:=(inst.filter fun m=>!decide (m.name=nm)).map fun m=>⟨m.name,⟨[61],m.ver⟩⟩
theorem zZ5 {op:List UInt8}{x:Ver}(hx:x.wf):zA4 prg zAJ [(0,str op),(1,.agg (zCt x).toArray)]=some (.agg (zDl ⟨op,x⟩).toArray):=by
 obtain⟨a,b,c,e⟩:=Ver.cases3 hx
 obtain⟨p,pre⟩:=x
 simp only at e
 subst e
 rw[zGf zAcx];rfl
theorem zQg {d:Dep}(hd:d.wf):zFt prg zAj 1 [(0,.agg (zDa d).toArray)]=some (zDa d).toArray :=
 zSH (by kernel_rfl:prg.cellsOf zAj=6) (by omega) (by omega) zWx (zB7 zNm) (by simp[zB7 hd])
theorem zZ6 {d:Dep}(hd:d.wf):zA4 prg zAj [(0,str d.name),(1,.agg (zDl d.want).toArray)]=some (.agg (zDa d).toArray):=by
 obtain⟨a,b,c,e⟩:=Ver.cases3 hd.want.ver
 obtain⟨n,⟨op,⟨p,pre⟩⟩⟩:=d
 simp only at e
 subst e
 rw[zGf zAhl];rfl
theorem zWK {P:Nat->Prop}{H:zAd}{v:Value}{mv:List MV}{nm:List UInt8}(hp:zNs P H v mv)(hl:mv.length<=1000) :
  zAg prg zJv [v,str nm] H fun u H'=>BufE 6 (fun b=>H.size<=b/\b<H'.size) H' u ((zJg (zA7 mv) nm).map zDa)/\Keep (fun _=>False) H H':=by
 apply zND
 unfold zNP
 let I:Nat->Value->zAd->Prop:=fun i w h=>BufE 6 (fun b=>H.size<=b/\b<h.size) h w ((zJg ((zA7 mv).take i) nm).map zDa)/\Keep (fun _=>False) H h
 have hln:(zA7 mv).length=mv.length:=by simp
 refine zLf (fun w _ h=>I mv.length w h) (fun k1 hk1=>?_) ?_
 rotate_left
 ·rintro w _ h ⟨b,k⟩
  rw[List.take_of_length_le (by omega)]at b
  exact⟨b,k⟩
 rw[hp.len,zAa]
 refine zTf (fun w z h=>∃ i:Nat,i<=mv.length/\z = .int .i64 (i:Nat)/\I i w h) (fun _ z _=>match z with | .int _ t=>mv.length - t.toNat | _=>0) ⟨0,Nat.zero_le _,rfl,BufE.nil,Keep.refl⟩ ?_
 rintro t5 _ h4 ⟨i,hi,rfl,b4,k4⟩ k3 hk3
 have g4:=k4.1
 rw[zMs,zAa,zAc]
 by_cases hlt:i<mv.length
 rotate_left
 ·rw[if_neg (by simpa using hlt)]
  obtain rfl:i=mv.length:=by omega
  exact hk1 _ _ _ ⟨b4,k4⟩
 rw[if_pos (by simpa using hlt)]
 have hg:mv[i]? = some mv[i]:=List.getElem?_eq_getElem hlt
 generalize mv[i]=x at *
 have hgh:(zA7 mv)[i]? = some x.1:=by rw[List.getElem?_map,hg];rfl
 obtain⟨hmx,b,o,hix,hpt,_⟩:=(hp.keep k4 fun _ _=>id).at hg
 have w:=hmx.wf
 refine zL2 (fun w h=>I (i+1) w h) (fun k5 hk5=>?_) ?_
 rotate_left
 ·rintro w' h6 hI
  rw[zAG (by omega),zAa]
  exact hk3 _ _ _ ⟨i+1,by omega,rfl,hI⟩ (by show mv.length - (i+1)<mv.length - i;omega)
 rw[hix .i64,zAa,zKf hpt w,zAa]
 simp only[zKJ,zAs]
 generalize hH7:h4.push (.cells (zEN ⟨[],zB2,[],[],[]⟩ zAY zAY zAY).toArray zAb (0,0))=h7
 have k7:Keep (fun _=>False) h4 h7:=by rw[<- hH7];exact Keep.push
 have a7:At h7 h4.size (zEN ⟨[],zB2,[],[],[]⟩ zAY zAY zAY):=by rw[<- hH7];exact At.push
 obtain⟨h8,st8,a8,k8⟩:=a7.st (n:=8) (ds:=mvC x) (zAH zMt) (zAH w) (zF7 hmx)
 have k48:Keep (fun _=>False) h4 h8:=k7.fresh k8 fun b hb=>by omega
 have k08:=k4.trans k48
 have g48:=k48.1
 simp only[zAx,Nat.zero_add,Nat.add_zero,zAa]
 rw[st8,zAm,zBE a8,zAa,zSL,zAa,zAc]
 have hot:zJg ((zA7 mv).take (i+1)) nm=zJg ((zA7 mv).take i) nm++(if (!decide (x.1.name=nm))=true then [⟨x.1.name,⟨[61],x.1.ver⟩⟩] else []):=by
  unfold zJg
  rw[zGR hgh,List.map_append]
  congr 1
  split <;> rfl
 have hol:(zJg ((zA7 mv).take i) nm).length<=1000:=by
  unfold zJg
  rw[List.length_map]
  have h1:=List.length_filter_le (fun m:Man=>!decide (m.name=nm)) ((zA7 mv).take i)
  rw[List.length_take]at h1
  omega
 cases hq:decide (x.1.name=nm)
 rotate_left
 ·rw[if_neg (by decide)]
  rw[hq]at hot
  refine hk5 _ _ ⟨?_,k08⟩
  rw[hot]
  simp only[Bool.not_true,Bool.false_eq_true,if_false,List.append_nil]
  exact(b4.keep k48 fun _ _=>id).mono fun b hb=>by omega
 ·rw[if_pos (by rfl),zAa,zFK a8 w,zAa]
  rw[hq]at hot
  have s61:(Value.string ⟨#[61]⟩)=str [61]:=rfl
  let d:Dep:=⟨x.1.name,⟨[61],x.1.ver⟩⟩
  have hd:d.wf:=⟨⟨w.ver,by simp[d]⟩,w.name⟩
  rw[s61,zZ5 w.ver,zAa]
  show Mpu (zA4 prg zAj [(0,str d.name),(1,.agg (zDl d.want).toArray)]) _
  rw[zZ6 hd,zAa,zQg hd,zAV]
  have hr:=zK5 (T:=zAj) (h:=h8) (n:=6) (zB7 hd) (zID (d:=d))
  have kp:Keep (fun _=>False) h8 (h8.push (.cells (zDa d).toArray zAj (0,0))):=Keep.push
  have gp:=kp.1
  refine(((b4.keep k48 fun _ _=>id).keep kp fun _ _=>id).mono (G:=fun b=>H.size<=b) fun b hb=>hb.1).app hr (by omega) (by rw[List.length_map,List.length_singleton];omega) (by show H.size<=_;omega) fun t h10 b10 k10=>?_
  refine hk5 _ _ ⟨?_,(k08.trans kp).fresh k10 fun b hb=>hb⟩
  rw[hot]
  simp only[Bool.not_false,if_true,List.map_append,List.map_cons,List.map_nil]
  exact BufE.re b10 fun b hb hF=>⟨hF,hb⟩
end Go.Proofs.YticdfkoncnnmmaaGreatDoor
